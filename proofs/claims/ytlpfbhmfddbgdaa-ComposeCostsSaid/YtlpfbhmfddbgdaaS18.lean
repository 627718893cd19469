/- Walks of the functions: what each computes. -/
import Derived.Test.YtlpfbhmfddbgdaaS17

set_option linter.unusedSimpArgs false
set_option linter.unusedVariables false

namespace Go.Fw
open Go Go.Proofs

set_option maxHeartbeats 4000000 in
set_option maxRecDepth 20000 in
theorem checkTwo_c (F G : TF) : Ct Try.prog 47 [fV F, gV G] [] (hpG F G) 4 (Is 4 (.i (allE F G))) := by
  refine ctW Try.tyOk 6 [] Try.func47 rfl (by simp [SV.lt, SA.lt, SC.lt, fV, gV]) (by simp) (fr := [(0, fV F), (1, gV G)]) rfl ?_
  repeat' (first | exact rfl | ((conv => whnf); first | ((first | refine qA (fun h => ?_) fun h => ?_ | refine qN (fun h => ?_) fun h => ?_ | refine qB (fun h => ?_) fun h => ?_ | refine qC (fun h => ?_) fun h => ?_) <;> try exact absurd h (by omega)) | refine qM (fun h => ?_) fun h => ?_ | refine oM (by (first | omega | (simp only [lenS, InI, nmin, EK.sz]; omega) | (simp only [lenS, InI, nmin, EK.sz] at *; omega))) ?_ | refine oM ?_ ?_ | refine bM ?_ ?_ | refine draw_of Try.mixed Try.tyOk 60 (by kernel_rfl) ?_))
  (conv => whnf)
  refine callF (checkFst_c F) [0, 1] Try.call19 rfl (by simp [eqLs, eqL, eqO, eqC, eqCs, rn, renOf, look_cons, look, EK.cast, gV]) (by simp [appN, ptrs, eqVL, eqV, eqA, eqC, eqCs, eqAs, eqCaps, EK.sz, rn, renOf, look_cons, look, arcV, fV, gV]) (by simp [appN, ptrs, SV.lt, SA.lt, SC.lt, arcV, fV, lenN]) ?_
  rintro _ _ ⟨rfl, rfl⟩
  unfold allE
  by_cases h : fstE F = 0
  · rw [if_pos h, h]
    repeat' (first | exact rfl | ((conv => whnf); first | ((first | refine qA (fun h => ?_) fun h => ?_ | refine qN (fun h => ?_) fun h => ?_ | refine qB (fun h => ?_) fun h => ?_ | refine qC (fun h => ?_) fun h => ?_) <;> try exact absurd h (by omega)) | refine qM (fun h => ?_) fun h => ?_ | refine oM (by (first | omega | (simp only [lenS, InI, nmin, EK.sz]; omega) | (simp only [lenS, InI, nmin, EK.sz] at *; omega))) ?_ | refine oM ?_ ?_ | refine bM ?_ ?_ | refine draw_of Try.mixed Try.tyOk 60 (by kernel_rfl) ?_))
    (conv => whnf)
    refine callF (checkFst_c G) [2, 3] Try.call19 rfl (by simp [eqLs, eqL, eqO, eqC, eqCs, rn, renOf, look_cons, look, EK.cast, gV]) (by simp [appN, ptrs, eqVL, eqV, eqA, eqC, eqCs, eqAs, eqCaps, EK.sz, rn, renOf, look_cons, look, arcV, fV, gV]) (by simp [appN, ptrs, SV.lt, SA.lt, SC.lt, arcV, fV, lenN]) ?_
    rintro _ _ ⟨rfl, rfl⟩
    repeat' (first | exact rfl | ((conv => whnf); first | ((first | refine qA (fun h => ?_) fun h => ?_ | refine qN (fun h => ?_) fun h => ?_ | refine qB (fun h => ?_) fun h => ?_ | refine qC (fun h => ?_) fun h => ?_) <;> try exact absurd h (by omega)) | refine qM (fun h => ?_) fun h => ?_ | refine oM (by (first | omega | (simp only [lenS, InI, nmin, EK.sz]; omega) | (simp only [lenS, InI, nmin, EK.sz] at *; omega))) ?_ | refine oM ?_ ?_ | refine bM ?_ ?_ | refine draw_of Try.mixed Try.tyOk 60 (by kernel_rfl) ?_))
    (conv => whnf)
    refine Back.is ?_
    simp [eqV, eqA, eqC]
  · rw [if_neg h]
    repeat' (first | exact rfl | ((conv => whnf); first | ((first | refine qA (fun h => ?_) fun h => ?_ | refine qN (fun h => ?_) fun h => ?_ | refine qB (fun h => ?_) fun h => ?_ | refine qC (fun h => ?_) fun h => ?_) <;> try exact absurd h (by omega)) | refine qM (fun h => ?_) fun h => ?_ | refine oM (by (first | omega | (simp only [lenS, InI, nmin, EK.sz]; omega) | (simp only [lenS, InI, nmin, EK.sz] at *; omega))) ?_ | refine oM ?_ ?_ | refine bM ?_ ?_ | refine draw_of Try.mixed Try.tyOk 60 (by kernel_rfl) ?_))
    (conv => whnf)
    refine Back.is ?_
    simp [eqV, eqA, eqC]

set_option maxHeartbeats 4000000 in
set_option maxRecDepth 20000 in
theorem mostWeight_c (F : TF) (hF : FOk F) : Ct Try.prog 49 [fV F] [] (hpF F) 2 (Is 2 (.i (mostW F))) := by
  have hal := hF.arcl
  have hfl := hF.finl
  have hst := hF.st
  refine ctW Try.tyOk 6 [] Try.func49 rfl (by simp [SV.lt, SA.lt, SC.lt, arcV, fV]) (by simp) (fr := [(0, fV F)]) rfl ?_
  repeat' (first | exact rfl | ((conv => whnf); first | ((first | refine qA (fun h => ?_) fun h => ?_ | refine qN (fun h => ?_) fun h => ?_ | refine qB (fun h => ?_) fun h => ?_ | refine qC (fun h => ?_) fun h => ?_) <;> try exact absurd h (by omega)) | refine qM (fun h => ?_) fun h => ?_ | refine oM (by (first | omega | (simp only [lenS, InI, nmin, EK.sz]; omega) | (simp only [lenS, InI, nmin, EK.sz] at *; omega))) ?_ | refine oM ?_ ?_ | refine bM ?_ ?_ | refine draw_of Try.mixed Try.tyOk 60 (by kernel_rfl) ?_))
  (conv => whnf)
  refine loopI (fun k : Nat => ⟨[(1, .c (.ptr 2 0)), (2, .c (.i 0)), (3, .i (mostL ((F.arcs.map (·.w)).take k) 0)), (4, .i k)], hpF F ++ [(2, .box 25 (fCells F))], 3⟩)
    (fun k => k ≤ F.arcs.length) (fun k => F.arcs.length - k) 0 [] ⟨by rfl, ?_, ?_⟩ (Nat.zero_le _) ?_
  · simp [eqFr, eqHp, eqV, eqA, eqC, eqO, eqCs, eqAs, look_cons, look, rn, EK.cast, EK.sz, eqCaps, mostL]
  · simp [eqFr, eqHp, eqV, eqA, eqC, eqO, eqCs, eqAs, look_cons, look, rn, EK.cast, EK.sz, eqCaps, fCells]
  · intro k hk
    have e0 : 0 + (k : Int).toNat = k := by omega
    have hks : k < F.arcs.length → mostL ((F.arcs.map (·.w)).take (k + 1)) 0 = if mostL ((F.arcs.map (·.w)).take k) 0 < (F.arcs.getD (0 + (k : Int).toNat) EK.arc.dflt).w then (F.arcs.getD (0 + (k : Int).toNat) EK.arc.dflt).w else mostL ((F.arcs.map (·.w)).take k) 0 := by
      intro h
      have e1 : (F.arcs.map (·.w)).getD k 0 = (F.arcs.getD (0 + (k : Int).toNat) EK.arc.dflt).w := by
        rw [e0]
        simp [List.getD, h]
      rw [mostL_take _ _ k (by simpa using h), e1]
    have hke : k = F.arcs.length → mostL ((F.arcs.map (·.w)).take k) 0 = mostL (F.arcs.map (·.w)) 0 := by
      rintro rfl
      rw [List.take_of_length_le (by simp)]
    generalize hm : mostL ((F.arcs.map (·.w)).take k) 0 = m at hks hke ⊢
    repeat' (first | exact rfl | ((conv => whnf); first | ((first | refine qA (fun h => ?_) fun h => ?_ | refine qN (fun h => ?_) fun h => ?_ | refine qB (fun h => ?_) fun h => ?_ | refine qC (fun h => ?_) fun h => ?_) <;> try exact absurd h (by omega)) | refine qM (fun h => ?_) fun h => ?_ | refine oM (by (first | omega | (simp only [lenS, InI, nmin, EK.sz]; omega) | (simp only [lenS, InI, nmin, EK.sz] at *; omega))) ?_ | refine oM ?_ ?_ | refine bM ?_ ?_ | refine draw_of Try.mixed Try.tyOk 60 (by kernel_rfl) ?_))
    · rename_i h2
      have e := hks (by omega)
      rw [if_pos (by omega)] at e
      (conv => whnf)
      refine ⟨k + 1, [], ⟨by rfl, ?_, ?_⟩, by omega, by omega⟩
      · simp [eqFr, eqHp, eqV, eqA, eqC, eqO, eqCs, eqAs, look_cons, look, rn, EK.cast, EK.sz, eqCaps, e]
      · simp [eqFr, eqHp, eqV, eqA, eqC, eqO, eqCs, eqAs, look_cons, look, rn, EK.cast, EK.sz, eqCaps, fCells]
    · have e := hks (by omega)
      rw [if_neg (by omega)] at e
      (conv => whnf)
      refine ⟨k + 1, [], ⟨by rfl, ?_, ?_⟩, by omega, by omega⟩
      · simp [eqFr, eqHp, eqV, eqA, eqC, eqO, eqCs, eqAs, look_cons, look, rn, EK.cast, EK.sz, eqCaps, e]
      · simp [eqFr, eqHp, eqV, eqA, eqC, eqO, eqCs, eqAs, look_cons, look, rn, EK.cast, EK.sz, eqCaps, fCells]
    · have e := hke (by omega)
      subst e
      clear hks hm hke
      (conv => whnf)
      refine loopI (fun k : Nat => ⟨[(1, .c (.ptr 2 0)), (2, .c (.i 0)), (3, .i (mostL (F.fin.take k) (mostL (F.arcs.map (·.w)) 0))), (5, .i k)], hpF F ++ [(2, .box 25 (fCells F))], 3⟩)
        (fun k => k ≤ F.fin.length) (fun k => F.fin.length - k) 0 [] ⟨by rfl, ?_, ?_⟩ (Nat.zero_le _) ?_
      · simp [eqFr, eqHp, eqV, eqA, eqC, eqO, eqCs, eqAs, look_cons, look, rn, EK.cast, EK.sz, eqCaps, mostL]
      · simp [eqFr, eqHp, eqV, eqA, eqC, eqO, eqCs, eqAs, look_cons, look, rn, EK.cast, EK.sz, eqCaps, fCells]
      · clear hk
        intro k hk
        have e0 : 0 + (k : Int).toNat = k := by omega
        have hks : k < F.fin.length → mostL (F.fin.take (k + 1)) (mostL (F.arcs.map (·.w)) 0) = if mostL (F.fin.take k) (mostL (F.arcs.map (·.w)) 0) < F.fin.getD (0 + (k : Int).toNat) EK.int.dflt then F.fin.getD (0 + (k : Int).toNat) EK.int.dflt else mostL (F.fin.take k) (mostL (F.arcs.map (·.w)) 0) := by
          intro h
          rw [e0]
          exact mostL_take _ _ k h
        have hke : k = F.fin.length → mostL (F.fin.take k) (mostL (F.arcs.map (·.w)) 0) = mostW F := by
          rintro rfl
          rw [List.take_length]
          rfl
        generalize hm : mostL (F.fin.take k) (mostL (F.arcs.map (·.w)) 0) = m at hks hke ⊢
        repeat' (first | exact rfl | ((conv => whnf); first | ((first | refine qA (fun h => ?_) fun h => ?_ | refine qN (fun h => ?_) fun h => ?_ | refine qB (fun h => ?_) fun h => ?_ | refine qC (fun h => ?_) fun h => ?_) <;> try exact absurd h (by omega)) | refine qM (fun h => ?_) fun h => ?_ | refine oM (by (first | omega | (simp only [lenS, InI, nmin, EK.sz]; omega) | (simp only [lenS, InI, nmin, EK.sz] at *; omega))) ?_ | refine oM ?_ ?_ | refine bM ?_ ?_ | refine draw_of Try.mixed Try.tyOk 60 (by kernel_rfl) ?_))
        · rename_i h2
          have e := hks (by omega)
          rw [if_pos (by omega)] at e
          (conv => whnf)
          refine ⟨k + 1, [], ⟨by rfl, ?_, ?_⟩, by omega, by omega⟩
          · simp [eqFr, eqHp, eqV, eqA, eqC, eqO, eqCs, eqAs, look_cons, look, rn, EK.cast, EK.sz, eqCaps, e]
          · simp [eqFr, eqHp, eqV, eqA, eqC, eqO, eqCs, eqAs, look_cons, look, rn, EK.cast, EK.sz, eqCaps, fCells]
        · have e := hks (by omega)
          rw [if_neg (by omega)] at e
          (conv => whnf)
          refine ⟨k + 1, [], ⟨by rfl, ?_, ?_⟩, by omega, by omega⟩
          · simp [eqFr, eqHp, eqV, eqA, eqC, eqO, eqCs, eqAs, look_cons, look, rn, EK.cast, EK.sz, eqCaps, e]
          · simp [eqFr, eqHp, eqV, eqA, eqC, eqO, eqCs, eqAs, look_cons, look, rn, EK.cast, EK.sz, eqCaps, fCells]
        · have e := hke (by omega)
          rw [e]
          (conv => whnf)
          refine Back.is ?_
          simp [eqV, eqA, eqC]
end Go.Fw

namespace Go.Fw
open Go Go.Proofs

abbrev hpT0 (F G : TF) (u v : List Int) (cv : Nat) : List (Nat × SO) := hpG F G ++ [(4, .arr false 3 .int u 0), (5, .arr false 3 .int v 0), (6, .box 25 (c25F F)), (7, .box 25 (c25G G)), (8, .box 22 [.sl 5 1 0 v.length cv]), (9, .box 3 [.i (F.st * G.st)])]
abbrev hpT (F G : TF) (u v : List Int) (cv n : Nat) (c : List Int) : List (Nat × SO) := hpT0 F G u v cv ++ [(10, .arr true 3 .int c 0), (11, .box 22 [.sl 10 1 0 n n])]
abbrev frT (u : List Int) (cu : Nat) : List (Nat × SV) := [(2, .c (.sl 4 1 0 u.length cu)), (4, .c (.ptr 6 0)), (5, .c (.ptr 7 0)), (7, .c (.ptr 8 0)), (8, .c (.i 0)), (9, .c (.ptr 9 0)), (11, .c (.ptr 11 0)), (13, .c (.fn 92 [(8, 0), (9, 0), (7, 0)]))]

theorem cN_int {F G : TF} {u v : List Int} (hF : 0 ≤ F.st) (hG : 0 ≤ G.st) : ((cN F G u v : Nat) : Int) = F.st * G.st * (((u.length : Int) + 1) * ((v.length : Int) + 1)) := by
  unfold cN pN
  rw [Int.natCast_mul, Int.natCast_mul, Int.natCast_mul, Int.natCast_add, Int.natCast_add, Int.toNat_of_nonneg hF, Int.toNat_of_nonneg hG]
  rfl

/-- The table while it is laid. -/
def initL (n k : Nat) : List Int := List.replicate k (-1) ++ List.replicate (n - k) 0
theorem initL_len {n k : Nat} (h : k ≤ n) : (initL n k).length = n := by simp [initL]; omega
theorem initL_set {n k : Nat} (h : k < n) : (initL n k).set k (-1) = initL n (k + 1) := by
  unfold initL
  rw [List.set_append_right _ _ (by simp), List.length_replicate, Nat.sub_self]
  obtain ⟨m, hm⟩ : ∃ m, n - k = m + 1 := ⟨n - k - 1, by omega⟩
  rw [hm, List.replicate_succ, List.set_cons_zero, show n - (k + 1) = m by omega, List.replicate_succ', List.append_assoc]
  rfl
theorem initL_end (n : Nat) : initL n n = List.replicate n (-1) := by simp [initL]

/-- The table as it begins. -/
def tab0 (n s : Nat) : List Int := (List.replicate n (-1)).set s 0
theorem tab0_get {n s : Nat} (h : s < n) (j : Nat) (hj : j < n) : (tab0 n s).getD j 0 = if j = s then 0 else -1 := by
  unfold tab0
  rw [getD_setI _ _ _ _ (by simpa using h)]
  split
  · rfl
  · simp [List.getD, List.getElem?_replicate, hj]
theorem tb_start {n s : Nat} (h : s < n) : TB n (tab0 n s) := by
  refine ⟨by simp [tab0], fun j hj => ?_, fun j hj => ?_⟩
  · rw [tab0_get h j hj]; split <;> omega
  · rw [tab0_get h j hj]; split <;> omega

structure TInv (F G : TF) (u v : List Int) (z : List Int × Bool) : Prop where
  tb : TB (cN F G u v) z.1
  st : z.1.getD (atI F G v F.start.toNat G.start.toNat 0 0) 0 = 0
  snd : ∀ j, j < cN F G u v → 0 ≤ z.1.getD j 0 → RS (passR F G u v) (atI F G v F.start.toNat G.start.toNat 0 0) j (z.1.getD j 0)
  fix : z.2 = false → ∀ r ∈ passR F G u v, tOf z.1 r = z.1.getD r.t 0

theorem TInv.start {F G : TF} {u v : List Int} (h : atI F G v F.start.toNat G.start.toNat 0 0 < cN F G u v) : TInv F G u v (tab0 (cN F G u v) (atI F G v F.start.toNat G.start.toNat 0 0), true) := by
  refine ⟨tb_start h, ?_, fun j hj h0 => ?_, fun e => by cases e⟩
  · show (tab0 _ _).getD _ 0 = 0
    rw [tab0_get h _ h, if_pos rfl]
  · show RS _ _ _ ((tab0 _ _).getD _ 0)
    simp only at h0
    rw [tab0_get h j hj] at h0 ⊢
    split at h0
    · rename_i e
      subst e
      rw [if_pos rfl]; exact .start
    · omega

theorem TInv.round {F G : TF} {u v : List Int} (hF : FOk F) (hG : FOk G) {c : List Int} (h : TInv F G u v (c, true)) :
    TInv F G u v ((passR F G u v).foldl rel1 (c, false)) ∧ potC (2000000000 * cN F G u v + 1) ((passR F G u v).foldl rel1 (c, false)).1 + (((passR F G u v).foldl rel1 (c, false)).2).toNat < potC (2000000000 * cN F G u v + 1) c + 1 := by
  have R := round_is (cN F G u v) (atI F G v F.start.toNat G.start.toNat 0 0) (RS (passR F G u v) (atI F G v F.start.toNat G.start.toNat 0 0)) (passR F G u v) (c, false) h.tb (fun r hr => pass_ok hF hG hr) (fun r hr z hz => .step hz hr)
  generalize (passR F G u v).foldl rel1 (c, false) = y at R ⊢
  refine ⟨⟨R.tb, R.st h.st, R.snd h.snd, fun hy r hr => ?_⟩, ?_⟩
  · have := R.same hy
    rw [this.1]
    exact this.2 r hr
  · cases hy : y.2 with
    | true =>
      have := R.pot.2 rfl hy
      simp only [Bool.toNat_true] at this ⊢
      omega
    | false =>
      have := R.pot.1
      simp only [Bool.toNat_false] at this ⊢
      omega

set_option maxHeartbeats 16000000 in
set_option maxRecDepth 20000 in
theorem composedA (F G : TF) (u v : List Int) (cu cv : Nat) (hF : FOk F) (hG : FOk G) (hS : Small F G u v) {kn kr : S → Prop} {ke : Nat → S → Prop}
    (h : SemC Try.prog 315 6 (dropC 7 (Try.f50.body.getD .skip)) kn kr ke ⟨frT u cu, hpT F G u v cv (cN F G u v) (tab0 (cN F G u v) (atI F G v F.start.toNat G.start.toNat 0 0)), 12⟩) :
    SemC Try.prog 315 6 (Try.f50.body.getD .skip) kn kr ke ⟨[(0, fV F), (1, gV G), (2, .c (.sl 4 1 0 u.length cu)), (3, .c (.sl 5 1 0 v.length cv))], hpG F G ++ [(4, .arr false 3 .int u 0), (5, .arr false 3 .int v 0)], 6⟩ := by
  have f1 := hF.st
  have g1 := hG.st
  have f3 := hF.start
  have g3 := hG.start
  have s1 := hS.ft
  have s2 := hS.gt
  have s3 := hS.ul
  have s4 := hS.vl
  have hs0 : atI F G v F.start.toNat G.start.toNat 0 0 < cN F G u v := at_lt (by omega) (by omega) (Nat.zero_le _) (Nat.zero_le _)
  have hn := cN_int (F := F) (G := G) (u := u) (v := v) (by omega) (by omega)
  generalize hN : cN F G u v = n at *
  have b1 := mul_b (show 0 ≤ F.st by omega) s1 (show 0 ≤ G.st by omega) s2
  have b2 := mul_b (x := (u.length : Int) + 1) (X := 13) (y := (v.length : Int) + 1) (Y := 13) (by omega) (by omega) (by omega) (by omega)
  have b3 := mul_b b1.1 b1.2 b2.1 b2.2
  refine SemC.cut Try.tyOk 32 [] (fun _ : Unit => ⟨frT u cu, hpT F G u v cv n (tab0 n (atI F G v F.start.toNat G.start.toNat 0 0)), 12⟩) (fun _ => True) 7 _ _ ?_ (fun _ _ => h)
  repeat' (first | exact rfl | ((conv => whnf); first | ((first | refine qA (fun h => ?_) fun h => ?_ | refine qN (fun h => ?_) fun h => ?_ | refine qB (fun h => ?_) fun h => ?_ | refine qC (fun h => ?_) fun h => ?_) <;> try exact absurd h (by omega)) | refine qM (fun h => ?_) fun h => ?_ | refine oM (by (first | omega | (simp only [lenS, InI, nmin, EK.sz]; omega) | (simp only [lenS, InI, nmin, EK.sz] at *; omega))) ?_ | refine oM ?_ ?_ | refine bM ?_ ?_ | refine draw_of Try.mixed Try.tyOk 60 (by kernel_rfl) ?_))
  (conv => whnf)
  rw [← hn]
  simp only [Int.toNat_natCast]
  refine loopI (fun k : Nat => ⟨[(2, .c (.sl 4 1 0 u.length cu)), (4, .c (.ptr 6 0)), (5, .c (.ptr 7 0)), (7, .c (.ptr 8 0)), (8, .c (.i 0)), (9, .c (.ptr 9 0)), (11, .c (.ptr 11 0)), (12, .i k)], hpT F G u v cv n (initL n k), 12⟩)
    (fun k => k ≤ n) (fun k => n - k) 0 [] ⟨by rfl, ?_, ?_⟩ (Nat.zero_le _) ?_
  · simp [eqFr, eqHp, eqV, eqA, eqC, eqO, eqCs, eqAs, look_cons, look, rn, EK.cast, EK.sz, eqCaps]
  · simp [eqFr, eqHp, eqV, eqA, eqC, eqO, eqCs, eqAs, look_cons, look, rn, EK.cast, EK.sz, eqCaps, initL]
    exact .inr rfl
  · intro k hk
    have e0 : 0 + (k : Int).toNat = k := by omega
    have hl := initL_len hk
    repeat' (first | exact rfl | ((conv => whnf); first | ((first | refine qA (fun h => ?_) fun h => ?_ | refine qN (fun h => ?_) fun h => ?_ | refine qB (fun h => ?_) fun h => ?_ | refine qC (fun h => ?_) fun h => ?_) <;> try exact absurd h (by omega)) | refine qM (fun h => ?_) fun h => ?_ | refine oM (by (first | omega | (simp only [lenS, InI, nmin, EK.sz]; omega) | (simp only [lenS, InI, nmin, EK.sz] at *; omega))) ?_ | refine oM ?_ ?_ | refine bM ?_ ?_))
    · (conv => whnf)
      refine ⟨k + 1, [], ⟨by rfl, ?_, ?_⟩, by omega, by omega⟩
      · simp [eqFr, eqHp, eqV, eqA, eqC, eqO, eqCs, eqAs, look_cons, look, rn, EK.cast, EK.sz, eqCaps]
      · simp [eqFr, eqHp, eqV, eqA, eqC, eqO, eqCs, eqAs, look_cons, look, rn, EK.cast, EK.sz, eqCaps, e0]
        exact (initL_set (by omega)).symm
    · have e : k = n := by omega
      subst e
      rw [initL_end]
      have hat := at_c F G u v cv hS F.start G.start 0 0 (by omega) (by omega) f3 g3 ⟨by omega, by omega⟩ ⟨by omega, by omega⟩
      rw [show Int.toNat 0 = 0 from rfl] at hat
      generalize atI F G v F.start.toNat G.start.toNat 0 0 = s0 at *
      repeat' (first | exact rfl | ((conv => whnf); first | ((first | refine qA (fun h => ?_) fun h => ?_ | refine qN (fun h => ?_) fun h => ?_ | refine qB (fun h => ?_) fun h => ?_ | refine qC (fun h => ?_) fun h => ?_) <;> try exact absurd h (by omega)) | refine qM (fun h => ?_) fun h => ?_ | refine oM (by (first | omega | (simp only [lenS, InI, nmin, EK.sz]; omega) | (simp only [lenS, InI, nmin, EK.sz] at *; omega))) ?_ | refine oM ?_ ?_ | refine bM ?_ ?_ | refine draw_of Try.mixed Try.tyOk 60 (by kernel_rfl) ?_))
      (conv => whnf)
      refine callF hat [5, 2, 3, 8, 9, 7] Try.call92 rfl (by simp [eqLs, eqL, eqO, eqC, eqCs, rn, renOf, look_cons, look, EK.cast]) (by simp [appN, ptrs, eqVL, eqV, eqA, eqC, eqCs, eqAs, eqCaps, EK.sz, rn, renOf, look_cons, look, arcV, fV]) (by simp [appN, ptrs, SV.lt, SA.lt, SC.lt, arcV, fV, lenN]) ?_
      rintro _ _ ⟨rfl, rfl⟩
      simp only [Int.toNat_natCast]
      have hlr : s0 < (List.replicate k (-1 : Int)).length := by simpa using hs0
      repeat' (first | exact rfl | ((conv => whnf); first | ((first | refine qA (fun h => ?_) fun h => ?_ | refine qN (fun h => ?_) fun h => ?_ | refine qB (fun h => ?_) fun h => ?_ | refine qC (fun h => ?_) fun h => ?_) <;> try exact absurd h (by omega)) | refine qM (fun h => ?_) fun h => ?_ | refine oM (by (first | omega | (simp only [lenS, InI, nmin, EK.sz]; omega) | (simp only [lenS, InI, nmin, EK.sz] at *; omega))) ?_ | refine oM ?_ ?_ | refine bM ?_ ?_ | refine draw_of Try.mixed Try.tyOk 60 (by kernel_rfl) ?_))
      (conv => whnf)
      refine ⟨(), [], ⟨by rfl, ?_, ?_⟩, trivial⟩
      · simp [eqFr, eqHp, eqV, eqA, eqC, eqO, eqCs, eqAs, look_cons, look, rn, EK.cast, EK.sz, eqCaps]
      · simp [eqFr, eqHp, eqV, eqA, eqC, eqO, eqCs, eqAs, look_cons, look, rn, EK.cast, EK.sz, eqCaps, tab0]
end Go.Fw

namespace Go.Fw
open Go Go.Proofs

abbrev frZ (u : List Int) (cu : Nat) : List (Nat × SV) := frT u cu ++ [(14, .c (.ptr 12 0)), (15, .c (.fn 93 [(11, 0), (12, 0)]))]
abbrev hpZ (F G : TF) (u v : List Int) (cv n : Nat) (x : List Int × Bool) : List (Nat × SO) := hpT F G u v cv n x.1 ++ [(12, .box 4 [.b x.2])]
abbrev arcC (X : Arc) : List SC := [.i X.f, .i X.i, .i X.o, .i X.t, .i X.w]

/-- What two branches share. -/
structure Shd (T : Prop) : Prop where
  get : T
theorem shareP {T G : Prop} (h : Shd T → G) (t : T) : G := h ⟨t⟩

set_option maxHeartbeats 16000000 in
set_option maxRecDepth 20000 in
theorem composedB (F G : TF) (u v : List Int) (cu cv : Nat) (hF : FOk F) (hG : FOk G) (hS : Small F G u v) {kn kr : S → Prop} {ke : Nat → S → Prop}
    (h : ∀ c, TInv F G u v (c, false) → SemC Try.prog 315 6 (dropC 1 (dropC 7 (Try.f50.body.getD .skip))) kn kr ke ⟨frT u cu, hpT F G u v cv (cN F G u v) c, 12⟩) :
    SemC Try.prog 315 6 (dropC 7 (Try.f50.body.getD .skip)) kn kr ke ⟨frT u cu, hpT F G u v cv (cN F G u v) (tab0 (cN F G u v) (atI F G v F.start.toNat G.start.toNat 0 0)), 12⟩ := by
  have f1 := hF.st
  have g1 := hG.st
  have f3 := hF.start
  have g3 := hG.start
  have fl := hF.arcl
  have gl := hG.arcl
  have s1 := hS.ft
  have s2 := hS.gt
  have s3 := hS.ul
  have s4 := hS.vl
  have hs0 : atI F G v F.start.toNat G.start.toNat 0 0 < cN F G u v := at_lt (by omega) (by omega) (Nat.zero_le _) (Nat.zero_le _)
  have hn := cN_int (F := F) (G := G) (u := u) (v := v) (by omega) (by omega)
  have b1 := mul_b (show 0 ≤ F.st by omega) s1 (show 0 ≤ G.st by omega) s2
  have b2 := mul_b (x := (u.length : Int) + 1) (X := 13) (y := (v.length : Int) + 1) (Y := 13) (by omega) (by omega) (by omega) (by omega)
  have b3 := mul_b b1.1 b1.2 b2.1 b2.2
  have hnl : cN F G u v ≤ 1000000 := by omega
  have hst := TInv.start (F := F) (G := G) (u := u) (v := v) hs0
  have hrd := fun c (h : TInv F G u v (c, true)) => h.round hF hG
  have hok : ∀ r ∈ passR F G u v, RlxOk (cN F G u v) r := fun r hr => pass_ok hF hG hr
  have htb := fun z (h : TInv F G u v z) => h.tb
  generalize hN : cN F G u v = n at *
  clear b1 b2 b3 hn
  refine SemC.cut Try.tyOk 32 [276] (fun c : List Int => ⟨frT u cu, hpT F G u v cv n c, 12⟩) (fun c => TInv F G u v (c, false)) 1 _ _ ?_ h
  clear h
  repeat' (first | exact rfl | ((conv => whnf); first | ((first | refine qA (fun h => ?_) fun h => ?_ | refine qN (fun h => ?_) fun h => ?_ | refine qB (fun h => ?_) fun h => ?_ | refine qC (fun h => ?_) fun h => ?_) <;> try exact absurd h (by omega)) | refine qM (fun h => ?_) fun h => ?_ | refine oM (by (first | omega | (simp only [lenS, InI, nmin, EK.sz]; omega) | (simp only [lenS, InI, nmin, EK.sz] at *; omega))) ?_ | refine oM ?_ ?_ | refine bM ?_ ?_ | refine draw_of Try.mixed Try.tyOk 60 (by kernel_rfl) ?_))
  (conv => whnf)
  refine loopI (fun z : List Int × Bool => ⟨frT u cu ++ [(14, .c (.ptr 12 0))], hpZ F G u v cv n z, 13⟩)
    (TInv F G u v) (fun z => potC (2000000000 * n + 1) z.1 + z.2.toNat) (tab0 n (atI F G v F.start.toNat G.start.toNat 0 0), true) [] ⟨by rfl, ?_, ?_⟩ hst ?_
  · simp [eqFr, eqHp, eqV, eqA, eqC, eqO, eqCs, eqAs, look_cons, look, rn, EK.cast, EK.sz, eqCaps]
  · simp [eqFr, eqHp, eqV, eqA, eqC, eqO, eqCs, eqAs, look_cons, look, rn, EK.cast, EK.sz, eqCaps]
  · rintro ⟨c, ch⟩ hz
    cases ch with
    | false =>
      repeat' (first | exact rfl | ((conv => whnf); first | ((first | refine qA (fun h => ?_) fun h => ?_ | refine qN (fun h => ?_) fun h => ?_ | refine qB (fun h => ?_) fun h => ?_ | refine qC (fun h => ?_) fun h => ?_) <;> try exact absurd h (by omega)) | refine qM (fun h => ?_) fun h => ?_ | refine oM (by (first | omega | (simp only [lenS, InI, nmin, EK.sz]; omega) | (simp only [lenS, InI, nmin, EK.sz] at *; omega))) ?_ | refine oM ?_ ?_ | refine bM ?_ ?_ | refine draw_of Try.mixed Try.tyOk 60 (by kernel_rfl) ?_))
      (conv => whnf)
      refine ⟨c, [], ⟨by rfl, ?_, ?_⟩, hz⟩
      · simp [eqFr, eqHp, eqV, eqA, eqC, eqO, eqCs, eqAs, look_cons, look, rn, EK.cast, EK.sz, eqCaps]
      · simp [eqFr, eqHp, eqV, eqA, eqC, eqO, eqCs, eqAs, look_cons, look, rn, EK.cast, EK.sz, eqCaps]
    | true =>
      obtain ⟨hy, hlt⟩ := hrd c hz
      have hr0 : RlInv n ((passR F G u v).foldl rel1 (c, false)) (c, false) (rPass F G u v 0) := ⟨htb (c, true) hz, hok, rfl⟩
      generalize (passR F G u v).foldl rel1 (c, false) = y at hy hlt hr0
      repeat' (first | exact rfl | ((conv => whnf); first | ((first | refine qA (fun h => ?_) fun h => ?_ | refine qN (fun h => ?_) fun h => ?_ | refine qB (fun h => ?_) fun h => ?_ | refine qC (fun h => ?_) fun h => ?_) <;> try exact absurd h (by omega)) | refine qM (fun h => ?_) fun h => ?_ | refine oM (by (first | omega | (simp only [lenS, InI, nmin, EK.sz]; omega) | (simp only [lenS, InI, nmin, EK.sz] at *; omega))) ?_ | refine oM ?_ ?_ | refine bM ?_ ?_ | refine draw_of Try.mixed Try.tyOk 60 (by kernel_rfl) ?_))
      (conv => whnf)
      refine loopI (fun z : Nat × List Int × Bool => ⟨frZ u cu ++ [(16, .i z.1)], hpZ F G u v cv n z.2, 13⟩)
        (fun z => z.1 ≤ u.length + 1 ∧ RlInv n y z.2 (rPass F G u v z.1)) (fun z => u.length + 1 - z.1) (0, c, false) [] ⟨by rfl, ?_, ?_⟩ ⟨Nat.zero_le _, hr0⟩ ?_
      · simp [eqFr, eqHp, eqV, eqA, eqC, eqO, eqCs, eqAs, look_cons, look, rn, EK.cast, EK.sz, eqCaps]
      · simp [eqFr, eqHp, eqV, eqA, eqC, eqO, eqCs, eqAs, look_cons, look, rn, EK.cast, EK.sz, eqCaps]
      · rintro ⟨a, c1, g1⟩ ⟨ha, hr⟩
        simp only at ha hr ⊢
        (conv => whnf)
        refine condP_dec (fun hq => ?_) (fun hq => ?_)
        · rw [rPass_next (by omega)] at hr
          repeat' (first | exact rfl | ((conv => whnf); first | ((first | refine qA (fun h => ?_) fun h => ?_ | refine qN (fun h => ?_) fun h => ?_ | refine qB (fun h => ?_) fun h => ?_ | refine qC (fun h => ?_) fun h => ?_) <;> try exact absurd h (by omega)) | refine qM (fun h => ?_) fun h => ?_ | refine oM (by (first | omega | (simp only [lenS, InI, nmin, EK.sz]; omega) | (simp only [lenS, InI, nmin, EK.sz] at *; omega))) ?_ | refine oM ?_ ?_ | refine bM ?_ ?_ | refine draw_of Try.mixed Try.tyOk 60 (by kernel_rfl) ?_))
          (conv => whnf)
          refine loopI (fun z : Nat × List Int × Bool => ⟨frZ u cu ++ [(16, .i a), (17, .i z.1)], hpZ F G u v cv n z.2, 13⟩)
            (fun z => z.1 ≤ v.length + 1 ∧ RlInv n y z.2 (rRow F G u v a z.1)) (fun z => v.length + 1 - z.1) (0, c1, g1) [] ⟨by rfl, ?_, ?_⟩ ⟨Nat.zero_le _, hr⟩ ?_
          · simp [eqFr, eqHp, eqV, eqA, eqC, eqO, eqCs, eqAs, look_cons, look, rn, EK.cast, EK.sz, eqCaps]
          · simp [eqFr, eqHp, eqV, eqA, eqC, eqO, eqCs, eqAs, look_cons, look, rn, EK.cast, EK.sz, eqCaps]
          · clear hr
            rintro ⟨b, c1, g1⟩ ⟨hb, hr⟩
            simp only at hb hr ⊢
            (conv => whnf)
            refine condP_dec (fun hq2 => ?_) (fun hq2 => ?_)
            · rw [rRow_next (by omega)] at hr
              repeat' (first | exact rfl | ((conv => whnf); first | ((first | refine qA (fun h => ?_) fun h => ?_ | refine qN (fun h => ?_) fun h => ?_ | refine qB (fun h => ?_) fun h => ?_ | refine qC (fun h => ?_) fun h => ?_) <;> try exact absurd h (by omega)) | refine qM (fun h => ?_) fun h => ?_ | refine oM (by (first | omega | (simp only [lenS, InI, nmin, EK.sz]; omega) | (simp only [lenS, InI, nmin, EK.sz] at *; omega))) ?_ | refine oM ?_ ?_ | refine bM ?_ ?_ | refine draw_of Try.mixed Try.tyOk 60 (by kernel_rfl) ?_))
              (conv => whnf)
              refine loopI (fun z : Nat × List Int × Bool => ⟨frZ u cu ++ [(16, .i a), (17, .i b), (18, .i z.1)], hpZ F G u v cv n z.2, 13⟩)
                (fun z => z.1 ≤ F.arcs.length ∧ RlInv n y z.2 (rArc F G u v a b z.1)) (fun z => F.arcs.length - z.1) (0, c1, g1) [] ⟨by rfl, ?_, ?_⟩ ⟨Nat.zero_le _, hr⟩ ?_
              · simp [eqFr, eqHp, eqV, eqA, eqC, eqO, eqCs, eqAs, look_cons, look, rn, EK.cast, EK.sz, eqCaps]
              · simp [eqFr, eqHp, eqV, eqA, eqC, eqO, eqCs, eqAs, look_cons, look, rn, EK.cast, EK.sz, eqCaps]
              · clear hr
                rintro ⟨k, c1, g1⟩ ⟨hk, hr⟩
                simp only at hk hr ⊢
                (conv => whnf)
                refine condP_dec (fun hq3 => ?_) (fun hq3 => ?_)
                · have hk2 : k < F.arcs.length := by omega
                  have e0 : 0 + (k : Int).toNat = k := by omega
                  have hXo := hF.arc _ (getD_mem F.arcs k aD hk2)
                  have hbad := fun h => rArc_bad (F := F) (G := G) (u := u) (v := v) (a := a) (b := b) hk2 h
                  have hsil := fun h1 h2 => rArc_sil (F := F) (G := G) (u := u) (v := v) (a := a) (b := b) hk2 h1 h2
                  have htwo := fun h1 h2 => rArc_two (F := F) (G := G) (u := u) (v := v) (a := a) (b := b) hk2 h1 h2
                  have eX : F.arcs.getD (0 + (k : Int).toNat) EK.arc.dflt = F.arcs.getD k aD := by rw [e0]; rfl
                  rw [← eX] at hXo hbad hsil htwo
                  have ea : u.getD (0 + (a : Int).toNat) EK.int.dflt = u.getD a 0 := by rw [show 0 + (a : Int).toNat = a by omega]; rfl
                  apply shareP
                  · intro main
                    repeat' (first | exact rfl | ((conv => whnf); first | ((first | refine qA (fun h => ?_) fun h => ?_ | refine qN (fun h => ?_) fun h => ?_ | refine qB (fun h => ?_) fun h => ?_ | refine qC (fun h => ?_) fun h => ?_) <;> try exact absurd h (by omega)) | refine qM (fun h => ?_) fun h => ?_ | refine oM (by (first | omega | (simp only [lenS, InI, nmin, EK.sz]; omega) | (simp only [lenS, InI, nmin, EK.sz] at *; omega))) ?_ | refine oM ?_ ?_ | refine bM ?_ ?_ | refine draw_of Try.mixed Try.tyOk 60 (by kernel_rfl) ?_))
                    · rename_i h2
                      (conv => whnf)
                      refine ⟨(k + 1, c1, g1), [], ⟨by rfl, ?_, ?_⟩, ⟨by simp only; omega, ?_⟩, by simp only; omega⟩
                      · simp [eqFr, eqHp, eqV, eqA, eqC, eqO, eqCs, eqAs, look_cons, look, rn, EK.cast, EK.sz, eqCaps]
                      · simp [eqFr, eqHp, eqV, eqA, eqC, eqO, eqCs, eqAs, look_cons, look, rn, EK.cast, EK.sz, eqCaps]
                      · rw [← hbad ⟨h2, .inl (by omega)⟩]; exact hr
                    · rename_i h2 h3
                      rw [ea] at h
                      (conv => whnf)
                      refine ⟨(k + 1, c1, g1), [], ⟨by rfl, ?_, ?_⟩, ⟨by simp only; omega, ?_⟩, by simp only; omega⟩
                      · simp [eqFr, eqHp, eqV, eqA, eqC, eqO, eqCs, eqAs, look_cons, look, rn, EK.cast, EK.sz, eqCaps]
                      · simp [eqFr, eqHp, eqV, eqA, eqC, eqO, eqCs, eqAs, look_cons, look, rn, EK.cast, EK.sz, eqCaps]
                      · rw [← hbad ⟨h2, .inr h⟩]; exact hr
                    all_goals
                      have hgood : ¬ badW u a (F.arcs.getD (0 + (k : Int).toNat) EK.arc.dflt).i := by unfold badW; omega
                      have hnx : ((nxW a (F.arcs.getD (0 + (k : Int).toNat) EK.arc.dflt).i : Nat) : Int) = if 0 < (F.arcs.getD (0 + (k : Int).toNat) EK.arc.dflt).i then (a : Int) + 1 else (a : Int) := by unfold nxW; split <;> omega
                      try rw [if_pos (by assumption)] at hnx
                      try rw [if_neg (by assumption)] at hnx
                      (conv => whnf)
                      refine loopI (fun z : Nat × List Int × Bool => ⟨frZ u cu ++ [(16, .i a), (17, .i b), (18, .i k), (19, .c (.ptr 13 0)), (20, .i (nxW a (F.arcs.getD (0 + (k : Int).toNat) EK.arc.dflt).i : Nat)), (21, .i z.1)], hpZ F G u v cv n z.2 ++ [(13, .box 47 (arcC (F.arcs.getD (0 + (k : Int).toNat) EK.arc.dflt)))], 14⟩)
                        (fun z => ¬ badW u a (F.arcs.getD (0 + (k : Int).toNat) EK.arc.dflt).i ∧ z.1 ≤ G.st.toNat ∧ ((F.arcs.getD (0 + (k : Int).toNat) EK.arc.dflt).o = 0 → RlInv n y z.2 (rSil F G u v a b k (F.arcs.getD (0 + (k : Int).toNat) EK.arc.dflt) z.1)) ∧ ((F.arcs.getD (0 + (k : Int).toNat) EK.arc.dflt).o ≠ 0 → RlInv n y z.2 (rTwo F G u v a b k (F.arcs.getD (0 + (k : Int).toNat) EK.arc.dflt) 0))) (fun z => G.st.toNat - z.1) (0, c1, g1) [] ⟨by rfl, ?_, ?_⟩ ⟨hgood, Nat.zero_le _, fun h0 => by rw [← hsil hgood h0]; exact hr, fun h0 => by rw [← htwo hgood h0]; exact hr⟩ ?_
                      · simp [eqFr, eqHp, eqV, eqA, eqC, eqO, eqCs, eqAs, look_cons, look, rn, EK.cast, EK.sz, eqCaps]
                        simpa using hnx
                      · simp [eqFr, eqHp, eqV, eqA, eqC, eqO, eqCs, eqAs, look_cons, look, rn, EK.cast, EK.sz, eqCaps]
                      · first
                          | (have hm := main.get; exact hm)
                          | exact main.get
                  · clear hr
                    generalize F.arcs.getD (0 + (k : Int).toNat) EK.arc.dflt = X at *
                    have hx1 := hXo.f0
                    have hx2 := hXo.f1
                    have hx3 := hXo.t0
                    have hx4 := hXo.t1
                    have hx5 := hXo.w0
                    have hx6 := hXo.w1
                    have hx7 := hXo.o0.1
                    rintro ⟨j, c1, g1⟩ ⟨hgood, hj, hr1, hr2⟩
                    have hnl2 := nxW_le (by omega) hgood
                    simp only at hj hr1 hr2 ⊢
                    apply shareP
                    · intro main
                      repeat' (first | exact rfl | ((conv => whnf); first | ((first | refine qA (fun h => ?_) fun h => ?_ | refine qN (fun h => ?_) fun h => ?_ | refine qB (fun h => ?_) fun h => ?_ | refine qC (fun h => ?_) fun h => ?_) <;> try exact absurd h (by omega)) | refine qM (fun h => ?_) fun h => ?_ | refine oM (by (first | omega | (simp only [lenS, InI, nmin, EK.sz]; omega) | (simp only [lenS, InI, nmin, EK.sz] at *; omega))) ?_ | refine oM ?_ ?_ | refine bM ?_ ?_ | refine draw_of Try.mixed Try.tyOk 60 (by kernel_rfl) ?_))
                      · rename_i hjq
                        have hr := hr1 h
                        rw [rSil_next (by omega)] at hr
                        unfold rlSil at hr
                        have hro := hr.ok _ (List.mem_cons_self ..)
                        have hnext := hr.next
                        have htb1 := hr.tb
                        have q1 := hro.f
                        have q2 := hro.t
                        have q3 := hro.w0
                        have q4 := hro.w1
                        simp only at q1 q2 q3 q4 htb1
                        have at1 := at_c F G u v cv hS X.f j a b (by omega) (by omega) ⟨by omega, by omega⟩ ⟨by omega, by omega⟩ ⟨by omega, by omega⟩ ⟨by omega, by omega⟩
                        have at2 := at_c F G u v cv hS X.t j (nxW a X.i : Nat) b (by omega) (by omega) ⟨by omega, by omega⟩ ⟨by omega, by omega⟩ ⟨by omega, by omega⟩ ⟨by omega, by omega⟩
                        have rl := relax_c c1 n g1 (atI F G v X.f.toNat j a b : Nat) (atI F G v X.t.toNat j (nxW a X.i) b : Nat) (X.w) htb1 hnl ⟨by omega, by omega⟩ ⟨by omega, by omega⟩ ⟨q3, q4⟩
                        simp only [Int.toNat_natCast] at at1 at2 rl
                        generalize rel1 (c1, g1) ⟨atI F G v X.f.toNat j a b, atI F G v X.t.toNat j (nxW a X.i) b, X.w⟩ = z at hnext rl
                        obtain ⟨c2, g2⟩ := z
                        (conv => whnf)
                        refine callF at1 [5, 2, 3, 8, 9, 7] Try.call92 rfl (by simp [eqLs, eqL, eqO, eqC, eqCs, rn, renOf, look_cons, look, EK.cast]) (by simp [appN, ptrs, eqVL, eqV, eqA, eqC, eqCs, eqAs, eqCaps, EK.sz, rn, renOf, look_cons, look, arcV, fV]) (by simp [appN, ptrs, SV.lt, SA.lt, SC.lt, arcV, fV, lenN]) ?_
                        rintro _ _ ⟨rfl, rfl⟩
                        repeat' (first | exact rfl | ((conv => whnf); first | ((first | refine qA (fun h => ?_) fun h => ?_ | refine qN (fun h => ?_) fun h => ?_ | refine qB (fun h => ?_) fun h => ?_ | refine qC (fun h => ?_) fun h => ?_) <;> try exact absurd h (by omega)) | refine qM (fun h => ?_) fun h => ?_ | refine oM (by (first | omega | (simp only [lenS, InI, nmin, EK.sz]; omega) | (simp only [lenS, InI, nmin, EK.sz] at *; omega))) ?_ | refine oM ?_ ?_ | refine bM ?_ ?_ | refine draw_of Try.mixed Try.tyOk 60 (by kernel_rfl) ?_))
                        (conv => whnf)
                        refine callF at2 [5, 2, 3, 8, 9, 7] Try.call92 rfl (by simp [eqLs, eqL, eqO, eqC, eqCs, rn, renOf, look_cons, look, EK.cast]) (by simp [appN, ptrs, eqVL, eqV, eqA, eqC, eqCs, eqAs, eqCaps, EK.sz, rn, renOf, look_cons, look, arcV, fV]) (by simp [appN, ptrs, SV.lt, SA.lt, SC.lt, arcV, fV, lenN]) ?_
                        rintro _ _ ⟨rfl, rfl⟩
                        repeat' (first | exact rfl | ((conv => whnf); first | ((first | refine qA (fun h => ?_) fun h => ?_ | refine qN (fun h => ?_) fun h => ?_ | refine qB (fun h => ?_) fun h => ?_ | refine qC (fun h => ?_) fun h => ?_) <;> try exact absurd h (by omega)) | refine qM (fun h => ?_) fun h => ?_ | refine oM (by (first | omega | (simp only [lenS, InI, nmin, EK.sz]; omega) | (simp only [lenS, InI, nmin, EK.sz] at *; omega))) ?_ | refine oM ?_ ?_ | refine bM ?_ ?_ | refine draw_of Try.mixed Try.tyOk 60 (by kernel_rfl) ?_))
                        (conv => whnf)
                        refine callF rl [10, 11, 12] Try.call93 rfl (by simp [eqLs, eqL, eqO, eqC, eqCs, rn, renOf, look_cons, look, EK.cast]) (by simp [appN, ptrs, eqVL, eqV, eqA, eqC, eqCs, eqAs, eqCaps, EK.sz, rn, renOf, look_cons, look, arcV, fV]) (by simp [appN, ptrs, SV.lt, SA.lt, SC.lt, arcV, fV, lenN]) ?_
                        rintro _ _ ⟨rfl, rfl⟩
                        repeat' (first | exact rfl | ((conv => whnf); first | ((first | refine qA (fun h => ?_) fun h => ?_ | refine qN (fun h => ?_) fun h => ?_ | refine qB (fun h => ?_) fun h => ?_ | refine qC (fun h => ?_) fun h => ?_) <;> try exact absurd h (by omega)) | refine qM (fun h => ?_) fun h => ?_ | refine oM (by (first | omega | (simp only [lenS, InI, nmin, EK.sz]; omega) | (simp only [lenS, InI, nmin, EK.sz] at *; omega))) ?_ | refine oM ?_ ?_ | refine bM ?_ ?_ | refine draw_of Try.mixed Try.tyOk 60 (by kernel_rfl) ?_))
                        (conv => whnf)
                        refine ⟨(j + 1, c2, g2), [], ⟨by rfl, ?_, ?_⟩, ⟨hgood, by simp only; omega, fun _ => hnext, fun h0 => absurd h h0⟩, by simp only; omega⟩
                        · simp [eqFr, eqHp, eqV, eqA, eqC, eqO, eqCs, eqAs, look_cons, look, rn, EK.cast, EK.sz, eqCaps]
                        · simp [eqFr, eqHp, eqV, eqA, eqC, eqO, eqCs, eqAs, look_cons, look, rn, EK.cast, EK.sz, eqCaps]
                      all_goals
                        have hr3 : X.o = 0 → RlInv n y (c1, g1) (rArc F G u v a b (k + 1)) := fun h0 => by
                          have h5 := hr1 h0
                          rwa [rSil_end (by omega)] at h5
                        (conv => whnf)
                        refine loopI (fun z : Nat × List Int × Bool => ⟨frZ u cu ++ [(16, .i a), (17, .i b), (18, .i k), (19, .c (.ptr 13 0)), (20, .i (nxW a X.i : Nat)), (22, .i z.1)], hpZ F G u v cv n z.2 ++ [(13, .box 47 (arcC X))], 14⟩)
                          (fun z => z.1 ≤ G.arcs.length ∧ (X.o = 0 → RlInv n y z.2 (rArc F G u v a b (k + 1))) ∧ (X.o ≠ 0 → RlInv n y z.2 (rTwo F G u v a b k X z.1))) (fun z => G.arcs.length - z.1) (0, c1, g1) [] ⟨by rfl, ?_, ?_⟩ ⟨Nat.zero_le _, hr3, hr2⟩ ?_
                        · simp [eqFr, eqHp, eqV, eqA, eqC, eqO, eqCs, eqAs, look_cons, look, rn, EK.cast, EK.sz, eqCaps]
                        · simp [eqFr, eqHp, eqV, eqA, eqC, eqO, eqCs, eqAs, look_cons, look, rn, EK.cast, EK.sz, eqCaps]
                        · first
                            | (have hm := main.get; exact hm)
                            | exact main.get
                    · clear hr1 hr2 hj j c1 g1
                      rintro ⟨j, c1, g1⟩ ⟨hj, hr1, hr2⟩
                      simp only at hj hr1 hr2 ⊢
                      have e0 : 0 + (j : Int).toNat = j := by omega
                      have eY : G.arcs.getD (0 + (j : Int).toNat) EK.arc.dflt = G.arcs.getD j aD := by rw [e0]; rfl
                      have ea : v.getD (0 + (b : Int).toNat) EK.int.dflt = v.getD b 0 := by rw [show 0 + (b : Int).toNat = b by omega]; rfl
                      have hYo : j < G.arcs.length → ArcOk G.st (G.arcs.getD (0 + (j : Int).toNat) EK.arc.dflt) := fun h => eY ▸ hG.arc _ (getD_mem G.arcs j aD h)
                      have hYw : 0 ≤ (G.arcs.getD (0 + (j : Int).toNat) EK.arc.dflt).w ∧ (G.arcs.getD (0 + (j : Int).toNat) EK.arc.dflt).w ≤ 1000000000 := by
                        by_cases q : j < G.arcs.length
                        · exact ⟨(hYo q).w0, (hYo q).w1⟩
                        · rw [eY, List.getD, List.getElem?_eq_none (by omega)]
                          exact ⟨Int.le_refl _, by show (0 : Int) ≤ 1000000000; omega⟩
                      have hno := fun h1 h2 => rTwo_no (F := F) (G := G) (u := u) (v := v) (a := a) (b := b) (k := k) (j := j) (x := X) h1 h2
                      have hyes := fun h1 h2 => rTwo_yes (F := F) (G := G) (u := u) (v := v) (a := a) (b := b) (k := k) (j := j) (x := X) h1 h2
                      rw [← eY] at hno hyes
                      · repeat' (first | exact rfl | ((conv => whnf); first | ((first | refine qA (fun h => ?_) fun h => ?_ | refine qN (fun h => ?_) fun h => ?_ | refine qB (fun h => ?_) fun h => ?_ | refine qC (fun h => ?_) fun h => ?_) <;> try exact absurd h (by omega)) | refine qM (fun h => ?_) fun h => ?_ | refine oM (by (first | omega | (simp only [lenS, InI, nmin, EK.sz]; omega) | (simp only [lenS, InI, nmin, EK.sz] at *; omega))) ?_ | refine oM ?_ ?_ | refine bM ?_ ?_ | refine draw_of Try.mixed Try.tyOk 60 (by kernel_rfl) ?_))
                        · rename_i hx8
                          have hr := hr2 (by omega)
                          rw [hno (by omega) (.inl h)] at hr
                          (conv => whnf)
                          refine ⟨(j + 1, c1, g1), [], ⟨by rfl, ?_, ?_⟩, ⟨by simp only; omega, fun h0 => absurd h0 (by omega), fun _ => hr⟩, by simp only; omega⟩
                          · simp [eqFr, eqHp, eqV, eqA, eqC, eqO, eqCs, eqAs, look_cons, look, rn, EK.cast, EK.sz, eqCaps]
                          · simp [eqFr, eqHp, eqV, eqA, eqC, eqO, eqCs, eqAs, look_cons, look, rn, EK.cast, EK.sz, eqCaps]
                        · rename_i hx8 h2 h3
                          have hr := hr2 (by omega)
                          rw [hno (by omega) (.inr ⟨h3, .inl (by omega)⟩)] at hr
                          (conv => whnf)
                          refine ⟨(j + 1, c1, g1), [], ⟨by rfl, ?_, ?_⟩, ⟨by simp only; omega, fun h0 => absurd h0 (by omega), fun _ => hr⟩, by simp only; omega⟩
                          · simp [eqFr, eqHp, eqV, eqA, eqC, eqO, eqCs, eqAs, look_cons, look, rn, EK.cast, EK.sz, eqCaps]
                          · simp [eqFr, eqHp, eqV, eqA, eqC, eqO, eqCs, eqAs, look_cons, look, rn, EK.cast, EK.sz, eqCaps]
                        · rename_i hx8 h2 h3 h4
                          rw [ea] at h
                          have hr := hr2 (by omega)
                          rw [hno (by omega) (.inr ⟨h3, .inr h⟩)] at hr
                          (conv => whnf)
                          refine ⟨(j + 1, c1, g1), [], ⟨by rfl, ?_, ?_⟩, ⟨by simp only; omega, fun h0 => absurd h0 (by omega), fun _ => hr⟩, by simp only; omega⟩
                          · simp [eqFr, eqHp, eqV, eqA, eqC, eqO, eqCs, eqAs, look_cons, look, rn, EK.cast, EK.sz, eqCaps]
                          · simp [eqFr, eqHp, eqV, eqA, eqC, eqO, eqCs, eqAs, look_cons, look, rn, EK.cast, EK.sz, eqCaps]
                        rotate_left 2
                        · have hr3 := hr1 (by omega)
                          (conv => whnf)
                          refine ⟨(k + 1, c1, g1), [], ⟨by rfl, ?_, ?_⟩, ⟨by simp only; omega, hr3⟩, by simp only; omega⟩
                          · simp [eqFr, eqHp, eqV, eqA, eqC, eqO, eqCs, eqAs, look_cons, look, rn, EK.cast, EK.sz, eqCaps]
                          · simp [eqFr, eqHp, eqV, eqA, eqC, eqO, eqCs, eqAs, look_cons, look, rn, EK.cast, EK.sz, eqCaps]
                        · have hr3 : RlInv n y (c1, g1) (rArc F G u v a b (k + 1)) := by
                            by_cases q : X.o = 0
                            · exact hr1 q
                            · have h5 := hr2 q
                              rwa [rTwo_end (by omega)] at h5
                          (conv => whnf)
                          refine ⟨(k + 1, c1, g1), [], ⟨by rfl, ?_, ?_⟩, ⟨by simp only; omega, hr3⟩, by simp only; omega⟩
                          · simp [eqFr, eqHp, eqV, eqA, eqC, eqO, eqCs, eqAs, look_cons, look, rn, EK.cast, EK.sz, eqCaps]
                          · simp [eqFr, eqHp, eqV, eqA, eqC, eqO, eqCs, eqAs, look_cons, look, rn, EK.cast, EK.sz, eqCaps]
                        all_goals
                          have hb2 : ¬ badW v b (G.arcs.getD (0 + (j : Int).toNat) EK.arc.dflt).o := by unfold badW; omega
                          have hnx2 : ((nxW b (G.arcs.getD (0 + (j : Int).toNat) EK.arc.dflt).o : Nat) : Int) = if 0 < (G.arcs.getD (0 + (j : Int).toNat) EK.arc.dflt).o then (b : Int) + 1 else (b : Int) := by unfold nxW; split <;> omega
                          try rw [if_pos (by assumption)] at hnx2
                          try rw [if_neg (by assumption)] at hnx2
                          have hnl3 := nxW_le (show b ≤ v.length by omega) hb2
                          have hr := hr2 (by omega)
                          rw [hyes (by omega) (fun h => h.elim (fun h => h (by assumption)) hb2)] at hr
                          have hYo := hYo (by omega)
                          have hy1 := hYo.f0
                          have hy2 := hYo.f1
                          have hy3 := hYo.t0
                          have hy4 := hYo.t1
                          generalize (G.arcs.getD (0 + (j : Int).toNat) EK.arc.dflt) = Y at *
                          have hro := hr.ok _ (List.mem_cons_self ..)
                          have hnext := hr.next
                          have htb1 := hr.tb
                          have q1 := hro.f
                          have q2 := hro.t
                          have q3 := hro.w0
                          have q4 := hro.w1
                          simp only at q1 q2 q3 q4 htb1
                          have at1 := at_c F G u v cv hS X.f Y.f a b (by omega) (by omega) ⟨by omega, by omega⟩ ⟨by omega, by omega⟩ ⟨by omega, by omega⟩ ⟨by omega, by omega⟩
                          have at2 := at_c F G u v cv hS X.t Y.t (nxW a X.i : Nat) (nxW b Y.o : Nat) (by omega) (by omega) ⟨by omega, by omega⟩ ⟨by omega, by omega⟩ ⟨by omega, by omega⟩ ⟨by omega, by omega⟩
                          have rl := relax_c c1 n g1 (atI F G v X.f.toNat Y.f.toNat a b : Nat) (atI F G v X.t.toNat Y.t.toNat (nxW a X.i) (nxW b Y.o) : Nat) (X.w + Y.w) htb1 hnl ⟨by omega, by omega⟩ ⟨by omega, by omega⟩ ⟨q3, q4⟩
                          simp only [Int.toNat_natCast] at at1 at2 rl
                          generalize rel1 (c1, g1) ⟨atI F G v X.f.toNat Y.f.toNat a b, atI F G v X.t.toNat Y.t.toNat (nxW a X.i) (nxW b Y.o), X.w + Y.w⟩ = z at hnext rl
                          obtain ⟨c2, g2⟩ := z
                          (conv => whnf)
                          refine callF at1 [5, 2, 3, 8, 9, 7] Try.call92 rfl (by simp [eqLs, eqL, eqO, eqC, eqCs, rn, renOf, look_cons, look, EK.cast]) (by simp [appN, ptrs, eqVL, eqV, eqA, eqC, eqCs, eqAs, eqCaps, EK.sz, rn, renOf, look_cons, look, arcV, fV]) (by simp [appN, ptrs, SV.lt, SA.lt, SC.lt, arcV, fV, lenN]) ?_
                          rintro _ _ ⟨rfl, rfl⟩
                          repeat' (first | exact rfl | ((conv => whnf); first | ((first | refine qA (fun h => ?_) fun h => ?_ | refine qN (fun h => ?_) fun h => ?_ | refine qB (fun h => ?_) fun h => ?_ | refine qC (fun h => ?_) fun h => ?_) <;> try exact absurd h (by omega)) | refine qM (fun h => ?_) fun h => ?_ | refine oM (by (first | omega | (simp only [lenS, InI, nmin, EK.sz]; omega) | (simp only [lenS, InI, nmin, EK.sz] at *; omega))) ?_ | refine oM ?_ ?_ | refine bM ?_ ?_ | refine draw_of Try.mixed Try.tyOk 60 (by kernel_rfl) ?_))
                          (conv => whnf)
                          refine callF at2 [5, 2, 3, 8, 9, 7] Try.call92 rfl (by simp [eqLs, eqL, eqO, eqC, eqCs, rn, renOf, look_cons, look, EK.cast]) (by simp [appN, ptrs, eqVL, eqV, eqA, eqC, eqCs, eqAs, eqCaps, EK.sz, rn, renOf, look_cons, look, arcV, fV, hnx2]) (by simp [appN, ptrs, SV.lt, SA.lt, SC.lt, arcV, fV, lenN]) ?_
                          rintro _ _ ⟨rfl, rfl⟩
                          repeat' (first | exact rfl | ((conv => whnf); first | ((first | refine qA (fun h => ?_) fun h => ?_ | refine qN (fun h => ?_) fun h => ?_ | refine qB (fun h => ?_) fun h => ?_ | refine qC (fun h => ?_) fun h => ?_) <;> try exact absurd h (by omega)) | refine qM (fun h => ?_) fun h => ?_ | refine oM (by (first | omega | (simp only [lenS, InI, nmin, EK.sz]; omega) | (simp only [lenS, InI, nmin, EK.sz] at *; omega))) ?_ | refine oM ?_ ?_ | refine bM ?_ ?_ | refine draw_of Try.mixed Try.tyOk 60 (by kernel_rfl) ?_))
                          (conv => whnf)
                          refine callF rl [10, 11, 12] Try.call93 rfl (by simp [eqLs, eqL, eqO, eqC, eqCs, rn, renOf, look_cons, look, EK.cast]) (by simp [appN, ptrs, eqVL, eqV, eqA, eqC, eqCs, eqAs, eqCaps, EK.sz, rn, renOf, look_cons, look, arcV, fV]) (by simp [appN, ptrs, SV.lt, SA.lt, SC.lt, arcV, fV, lenN]) ?_
                          rintro _ _ ⟨rfl, rfl⟩
                          repeat' (first | exact rfl | ((conv => whnf); first | ((first | refine qA (fun h => ?_) fun h => ?_ | refine qN (fun h => ?_) fun h => ?_ | refine qB (fun h => ?_) fun h => ?_ | refine qC (fun h => ?_) fun h => ?_) <;> try exact absurd h (by omega)) | refine qM (fun h => ?_) fun h => ?_ | refine oM (by (first | omega | (simp only [lenS, InI, nmin, EK.sz]; omega) | (simp only [lenS, InI, nmin, EK.sz] at *; omega))) ?_ | refine oM ?_ ?_ | refine bM ?_ ?_ | refine draw_of Try.mixed Try.tyOk 60 (by kernel_rfl) ?_))
                          (conv => whnf)
                          refine ⟨(j + 1, c2, g2), [], ⟨by rfl, ?_, ?_⟩, ⟨by simp only; omega, fun h0 => absurd h0 (by omega), fun _ => hnext⟩, by simp only; omega⟩
                          · simp [eqFr, eqHp, eqV, eqA, eqC, eqO, eqCs, eqAs, look_cons, look, rn, EK.cast, EK.sz, eqCaps]
                          · simp [eqFr, eqHp, eqV, eqA, eqC, eqO, eqCs, eqAs, look_cons, look, rn, EK.cast, EK.sz, eqCaps]
                · rw [rArc_end (by omega)] at hr
                  repeat' (first | exact rfl | ((conv => whnf); first | ((first | refine qA (fun h => ?_) fun h => ?_ | refine qN (fun h => ?_) fun h => ?_ | refine qB (fun h => ?_) fun h => ?_ | refine qC (fun h => ?_) fun h => ?_) <;> try exact absurd h (by omega)) | refine qM (fun h => ?_) fun h => ?_ | refine oM (by (first | omega | (simp only [lenS, InI, nmin, EK.sz]; omega) | (simp only [lenS, InI, nmin, EK.sz] at *; omega))) ?_ | refine oM ?_ ?_ | refine bM ?_ ?_ | refine draw_of Try.mixed Try.tyOk 60 (by kernel_rfl) ?_))
                  (conv => whnf)
                  refine loopI (fun z : Nat × List Int × Bool => ⟨frZ u cu ++ [(16, .i a), (17, .i b), (25, .i z.1)], hpZ F G u v cv n z.2, 13⟩)
                    (fun z => z.1 ≤ G.arcs.length ∧ RlInv n y z.2 (rG F G u v a b z.1)) (fun z => G.arcs.length - z.1) (0, c1, g1) [] ⟨by rfl, ?_, ?_⟩ ⟨Nat.zero_le _, hr⟩ ?_
                  · simp [eqFr, eqHp, eqV, eqA, eqC, eqO, eqCs, eqAs, look_cons, look, rn, EK.cast, EK.sz, eqCaps]
                  · simp [eqFr, eqHp, eqV, eqA, eqC, eqO, eqCs, eqAs, look_cons, look, rn, EK.cast, EK.sz, eqCaps]
                  · clear hr hq3 hk k c1 g1
                    rintro ⟨k, c1, g1⟩ ⟨hk, hr⟩
                    simp only at hk hr ⊢
                    (conv => whnf)
                    refine condP_dec (fun hq3 => ?_) (fun hq3 => ?_)
                    · have hk2 : k < G.arcs.length := by omega
                      have e0 : 0 + (k : Int).toNat = k := by omega
                      have hYo := hG.arc _ (getD_mem G.arcs k aD hk2)
                      have hno := fun h => rG_no (F := F) (G := G) (u := u) (v := v) (a := a) (b := b) hk2 h
                      have hyes := fun h => rG_yes (F := F) (G := G) (u := u) (v := v) (a := a) (b := b) hk2 h
                      have eX : G.arcs.getD (0 + (k : Int).toNat) EK.arc.dflt = G.arcs.getD k aD := by rw [e0]; rfl
                      rw [← eX] at hYo hno hyes
                      have ea : v.getD (0 + (b : Int).toNat) EK.int.dflt = v.getD b 0 := by rw [show 0 + (b : Int).toNat = b by omega]; rfl
                      have hyi := hYo.i0.1
                      apply shareP
                      · intro main
                        repeat' (first | exact rfl | ((conv => whnf); first | ((first | refine qA (fun h => ?_) fun h => ?_ | refine qN (fun h => ?_) fun h => ?_ | refine qB (fun h => ?_) fun h => ?_ | refine qC (fun h => ?_) fun h => ?_) <;> try exact absurd h (by omega)) | refine qM (fun h => ?_) fun h => ?_ | refine oM (by (first | omega | (simp only [lenS, InI, nmin, EK.sz]; omega) | (simp only [lenS, InI, nmin, EK.sz] at *; omega))) ?_ | refine oM ?_ ?_ | refine bM ?_ ?_ | refine draw_of Try.mixed Try.tyOk 60 (by kernel_rfl) ?_))
                        · rw [hno (.inl (by omega))] at hr
                          (conv => whnf)
                          refine ⟨(k + 1, c1, g1), [], ⟨by rfl, ?_, ?_⟩, ⟨by simp only; omega, hr⟩, by simp only; omega⟩
                          · simp [eqFr, eqHp, eqV, eqA, eqC, eqO, eqCs, eqAs, look_cons, look, rn, EK.cast, EK.sz, eqCaps]
                          · simp [eqFr, eqHp, eqV, eqA, eqC, eqO, eqCs, eqAs, look_cons, look, rn, EK.cast, EK.sz, eqCaps]
                        · rename_i h2 h3
                          rw [hno (.inr ⟨h3, .inl (by omega)⟩)] at hr
                          (conv => whnf)
                          refine ⟨(k + 1, c1, g1), [], ⟨by rfl, ?_, ?_⟩, ⟨by simp only; omega, hr⟩, by simp only; omega⟩
                          · simp [eqFr, eqHp, eqV, eqA, eqC, eqO, eqCs, eqAs, look_cons, look, rn, EK.cast, EK.sz, eqCaps]
                          · simp [eqFr, eqHp, eqV, eqA, eqC, eqO, eqCs, eqAs, look_cons, look, rn, EK.cast, EK.sz, eqCaps]
                        · rename_i h2 h3 h4
                          rw [ea] at h
                          rw [hno (.inr ⟨h3, .inr h⟩)] at hr
                          (conv => whnf)
                          refine ⟨(k + 1, c1, g1), [], ⟨by rfl, ?_, ?_⟩, ⟨by simp only; omega, hr⟩, by simp only; omega⟩
                          · simp [eqFr, eqHp, eqV, eqA, eqC, eqO, eqCs, eqAs, look_cons, look, rn, EK.cast, EK.sz, eqCaps]
                          · simp [eqFr, eqHp, eqV, eqA, eqC, eqO, eqCs, eqAs, look_cons, look, rn, EK.cast, EK.sz, eqCaps]
                        all_goals
                          have hb2 : ¬ badW v b (G.arcs.getD (0 + (k : Int).toNat) EK.arc.dflt).o := by unfold badW; omega
                          have hnx2 : ((nxW b (G.arcs.getD (0 + (k : Int).toNat) EK.arc.dflt).o : Nat) : Int) = if 0 < (G.arcs.getD (0 + (k : Int).toNat) EK.arc.dflt).o then (b : Int) + 1 else (b : Int) := by unfold nxW; split <;> omega
                          try rw [if_pos (by assumption)] at hnx2
                          try rw [if_neg (by assumption)] at hnx2
                          rw [hyes (fun h => h.elim (by omega) hb2)] at hr
                          (conv => whnf)
                          refine loopI (fun z : Nat × List Int × Bool => ⟨frZ u cu ++ [(16, .i a), (17, .i b), (25, .i k), (26, .c (.ptr 13 0)), (27, .i (nxW b (G.arcs.getD (0 + (k : Int).toNat) EK.arc.dflt).o : Nat)), (28, .i z.1)], hpZ F G u v cv n z.2 ++ [(13, .box 47 (arcC (G.arcs.getD (0 + (k : Int).toNat) EK.arc.dflt)))], 14⟩)
                            (fun z => ¬ badW v b (G.arcs.getD (0 + (k : Int).toNat) EK.arc.dflt).o ∧ z.1 ≤ F.st.toNat ∧ RlInv n y z.2 (rOne F G u v a b k (G.arcs.getD (0 + (k : Int).toNat) EK.arc.dflt) z.1)) (fun z => F.st.toNat - z.1) (0, c1, g1) [] ⟨by rfl, ?_, ?_⟩ ⟨hb2, Nat.zero_le _, hr⟩ ?_
                          · simp [eqFr, eqHp, eqV, eqA, eqC, eqO, eqCs, eqAs, look_cons, look, rn, EK.cast, EK.sz, eqCaps]
                            simpa using hnx2
                          · simp [eqFr, eqHp, eqV, eqA, eqC, eqO, eqCs, eqAs, look_cons, look, rn, EK.cast, EK.sz, eqCaps]
                          · first
                              | (have hm := main.get; exact hm)
                              | exact main.get
                      · clear hr hno hyes c1 g1
                        generalize G.arcs.getD (0 + (k : Int).toNat) EK.arc.dflt = Y at *
                        have hy1 := hYo.f0
                        have hy2 := hYo.f1
                        have hy3 := hYo.t0
                        have hy4 := hYo.t1
                        rintro ⟨i, c1, g1⟩ ⟨hb2, hi, hr⟩
                        have hnl3 := nxW_le (show b ≤ v.length by omega) hb2
                        simp only at hi hr ⊢
                        repeat' (first | exact rfl | ((conv => whnf); first | ((first | refine qA (fun h => ?_) fun h => ?_ | refine qN (fun h => ?_) fun h => ?_ | refine qB (fun h => ?_) fun h => ?_ | refine qC (fun h => ?_) fun h => ?_) <;> try exact absurd h (by omega)) | refine qM (fun h => ?_) fun h => ?_ | refine oM (by (first | omega | (simp only [lenS, InI, nmin, EK.sz]; omega) | (simp only [lenS, InI, nmin, EK.sz] at *; omega))) ?_ | refine oM ?_ ?_ | refine bM ?_ ?_ | refine draw_of Try.mixed Try.tyOk 60 (by kernel_rfl) ?_))
                        · rw [rOne_next (by omega)] at hr
                          unfold rlOne at hr
                          have hro := hr.ok _ (List.mem_cons_self ..)
                          have hnext := hr.next
                          have htb1 := hr.tb
                          have q1 := hro.f
                          have q2 := hro.t
                          have q3 := hro.w0
                          have q4 := hro.w1
                          simp only at q1 q2 q3 q4 htb1
                          have at1 := at_c F G u v cv hS i Y.f a b (by omega) (by omega) ⟨by omega, by omega⟩ ⟨by omega, by omega⟩ ⟨by omega, by omega⟩ ⟨by omega, by omega⟩
                          have at2 := at_c F G u v cv hS i Y.t a (nxW b Y.o : Nat) (by omega) (by omega) ⟨by omega, by omega⟩ ⟨by omega, by omega⟩ ⟨by omega, by omega⟩ ⟨by omega, by omega⟩
                          have rl := relax_c c1 n g1 (atI F G v i Y.f.toNat a b : Nat) (atI F G v i Y.t.toNat a (nxW b Y.o) : Nat) (Y.w) htb1 hnl ⟨by omega, by omega⟩ ⟨by omega, by omega⟩ ⟨q3, q4⟩
                          simp only [Int.toNat_natCast] at at1 at2 rl
                          generalize rel1 (c1, g1) ⟨atI F G v i Y.f.toNat a b, atI F G v i Y.t.toNat a (nxW b Y.o), Y.w⟩ = z at hnext rl
                          obtain ⟨c2, g2⟩ := z
                          (conv => whnf)
                          refine callF at1 [5, 2, 3, 8, 9, 7] Try.call92 rfl (by simp [eqLs, eqL, eqO, eqC, eqCs, rn, renOf, look_cons, look, EK.cast]) (by simp [appN, ptrs, eqVL, eqV, eqA, eqC, eqCs, eqAs, eqCaps, EK.sz, rn, renOf, look_cons, look, arcV, fV]) (by simp [appN, ptrs, SV.lt, SA.lt, SC.lt, arcV, fV, lenN]) ?_
                          rintro _ _ ⟨rfl, rfl⟩
                          repeat' (first | exact rfl | ((conv => whnf); first | ((first | refine qA (fun h => ?_) fun h => ?_ | refine qN (fun h => ?_) fun h => ?_ | refine qB (fun h => ?_) fun h => ?_ | refine qC (fun h => ?_) fun h => ?_) <;> try exact absurd h (by omega)) | refine qM (fun h => ?_) fun h => ?_ | refine oM (by (first | omega | (simp only [lenS, InI, nmin, EK.sz]; omega) | (simp only [lenS, InI, nmin, EK.sz] at *; omega))) ?_ | refine oM ?_ ?_ | refine bM ?_ ?_ | refine draw_of Try.mixed Try.tyOk 60 (by kernel_rfl) ?_))
                          (conv => whnf)
                          refine callF at2 [5, 2, 3, 8, 9, 7] Try.call92 rfl (by simp [eqLs, eqL, eqO, eqC, eqCs, rn, renOf, look_cons, look, EK.cast]) (by simp [appN, ptrs, eqVL, eqV, eqA, eqC, eqCs, eqAs, eqCaps, EK.sz, rn, renOf, look_cons, look, arcV, fV]) (by simp [appN, ptrs, SV.lt, SA.lt, SC.lt, arcV, fV, lenN]) ?_
                          rintro _ _ ⟨rfl, rfl⟩
                          repeat' (first | exact rfl | ((conv => whnf); first | ((first | refine qA (fun h => ?_) fun h => ?_ | refine qN (fun h => ?_) fun h => ?_ | refine qB (fun h => ?_) fun h => ?_ | refine qC (fun h => ?_) fun h => ?_) <;> try exact absurd h (by omega)) | refine qM (fun h => ?_) fun h => ?_ | refine oM (by (first | omega | (simp only [lenS, InI, nmin, EK.sz]; omega) | (simp only [lenS, InI, nmin, EK.sz] at *; omega))) ?_ | refine oM ?_ ?_ | refine bM ?_ ?_ | refine draw_of Try.mixed Try.tyOk 60 (by kernel_rfl) ?_))
                          (conv => whnf)
                          refine callF rl [10, 11, 12] Try.call93 rfl (by simp [eqLs, eqL, eqO, eqC, eqCs, rn, renOf, look_cons, look, EK.cast]) (by simp [appN, ptrs, eqVL, eqV, eqA, eqC, eqCs, eqAs, eqCaps, EK.sz, rn, renOf, look_cons, look, arcV, fV]) (by simp [appN, ptrs, SV.lt, SA.lt, SC.lt, arcV, fV, lenN]) ?_
                          rintro _ _ ⟨rfl, rfl⟩
                          repeat' (first | exact rfl | ((conv => whnf); first | ((first | refine qA (fun h => ?_) fun h => ?_ | refine qN (fun h => ?_) fun h => ?_ | refine qB (fun h => ?_) fun h => ?_ | refine qC (fun h => ?_) fun h => ?_) <;> try exact absurd h (by omega)) | refine qM (fun h => ?_) fun h => ?_ | refine oM (by (first | omega | (simp only [lenS, InI, nmin, EK.sz]; omega) | (simp only [lenS, InI, nmin, EK.sz] at *; omega))) ?_ | refine oM ?_ ?_ | refine bM ?_ ?_ | refine draw_of Try.mixed Try.tyOk 60 (by kernel_rfl) ?_))
                          (conv => whnf)
                          refine ⟨(i + 1, c2, g2), [], ⟨by rfl, ?_, ?_⟩, ⟨hb2, by simp only; omega, hnext⟩, by simp only; omega⟩
                          · simp [eqFr, eqHp, eqV, eqA, eqC, eqO, eqCs, eqAs, look_cons, look, rn, EK.cast, EK.sz, eqCaps]
                          · simp [eqFr, eqHp, eqV, eqA, eqC, eqO, eqCs, eqAs, look_cons, look, rn, EK.cast, EK.sz, eqCaps]
                        · rw [rOne_end (by omega)] at hr
                          (conv => whnf)
                          refine ⟨(k + 1, c1, g1), [], ⟨by rfl, ?_, ?_⟩, ⟨by simp only; omega, hr⟩, by simp only; omega⟩
                          · simp [eqFr, eqHp, eqV, eqA, eqC, eqO, eqCs, eqAs, look_cons, look, rn, EK.cast, EK.sz, eqCaps]
                          · simp [eqFr, eqHp, eqV, eqA, eqC, eqO, eqCs, eqAs, look_cons, look, rn, EK.cast, EK.sz, eqCaps]
                    · rw [rG_end (by omega)] at hr
                      repeat' (first | exact rfl | ((conv => whnf); first | ((first | refine qA (fun h => ?_) fun h => ?_ | refine qN (fun h => ?_) fun h => ?_ | refine qB (fun h => ?_) fun h => ?_ | refine qC (fun h => ?_) fun h => ?_) <;> try exact absurd h (by omega)) | refine qM (fun h => ?_) fun h => ?_ | refine oM (by (first | omega | (simp only [lenS, InI, nmin, EK.sz]; omega) | (simp only [lenS, InI, nmin, EK.sz] at *; omega))) ?_ | refine oM ?_ ?_ | refine bM ?_ ?_ | refine draw_of Try.mixed Try.tyOk 60 (by kernel_rfl) ?_))
                      (conv => whnf)
                      refine ⟨(b + 1, c1, g1), [], ⟨by rfl, ?_, ?_⟩, ⟨by simp only; omega, hr⟩, by simp only; omega⟩
                      · simp [eqFr, eqHp, eqV, eqA, eqC, eqO, eqCs, eqAs, look_cons, look, rn, EK.cast, EK.sz, eqCaps]
                      · simp [eqFr, eqHp, eqV, eqA, eqC, eqO, eqCs, eqAs, look_cons, look, rn, EK.cast, EK.sz, eqCaps]
            · rw [rRow_end (by omega)] at hr
              repeat' (first | exact rfl | ((conv => whnf); first | ((first | refine qA (fun h => ?_) fun h => ?_ | refine qN (fun h => ?_) fun h => ?_ | refine qB (fun h => ?_) fun h => ?_ | refine qC (fun h => ?_) fun h => ?_) <;> try exact absurd h (by omega)) | refine qM (fun h => ?_) fun h => ?_ | refine oM (by (first | omega | (simp only [lenS, InI, nmin, EK.sz]; omega) | (simp only [lenS, InI, nmin, EK.sz] at *; omega))) ?_ | refine oM ?_ ?_ | refine bM ?_ ?_ | refine draw_of Try.mixed Try.tyOk 60 (by kernel_rfl) ?_))
              (conv => whnf)
              refine ⟨(a + 1, c1, g1), [], ⟨by rfl, ?_, ?_⟩, ⟨by simp only; omega, hr⟩, by simp only; omega⟩
              · simp [eqFr, eqHp, eqV, eqA, eqC, eqO, eqCs, eqAs, look_cons, look, rn, EK.cast, EK.sz, eqCaps]
              · simp [eqFr, eqHp, eqV, eqA, eqC, eqO, eqCs, eqAs, look_cons, look, rn, EK.cast, EK.sz, eqCaps]
        · rw [rPass_end (by omega)] at hr
          have := hr.fin
          simp only [List.foldl_nil] at this
          subst this
          repeat' (first | exact rfl | ((conv => whnf); first | ((first | refine qA (fun h => ?_) fun h => ?_ | refine qN (fun h => ?_) fun h => ?_ | refine qB (fun h => ?_) fun h => ?_ | refine qC (fun h => ?_) fun h => ?_) <;> try exact absurd h (by omega)) | refine qM (fun h => ?_) fun h => ?_ | refine oM (by (first | omega | (simp only [lenS, InI, nmin, EK.sz]; omega) | (simp only [lenS, InI, nmin, EK.sz] at *; omega))) ?_ | refine oM ?_ ?_ | refine bM ?_ ?_ | refine draw_of Try.mixed Try.tyOk 60 (by kernel_rfl) ?_))
          (conv => whnf)
          refine ⟨(c1, g1), [(12, some 13)], ⟨by rfl, ?_, ?_⟩, hy, by simp only [Bool.toNat_true] at hlt ⊢; omega⟩
          · simp [eqFr, eqHp, eqV, eqA, eqC, eqO, eqCs, eqAs, look_cons, look, rn, EK.cast, EK.sz, eqCaps]
          · simp [eqFr, eqHp, eqV, eqA, eqC, eqO, eqCs, eqAs, look_cons, look, rn, EK.cast, EK.sz, eqCaps]
end Go.Fw
