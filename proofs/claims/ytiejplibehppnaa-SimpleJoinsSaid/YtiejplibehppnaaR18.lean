/- Walks of the functions: what each computes. -/
import Derived.Test.YtiejplibehppnaaR17

set_option linter.unusedSimpArgs false
set_option linter.unusedVariables false

namespace Go.Fw
open Go Go.Proofs

/-- A row of pieces: what the beginnings cost. -/
def RowVal (F : TF) (u v : List Int) (i : Nat) (l : List Int) (n : Nat) : Prop := l.length = n ∧ ∀ o, o < n → MinOf (Wt F (u.take i) (v.take o)) (l.getD o 0) ∧ l.getD o 0 ≤ 1000000000000000
def PcAt (F : TF) (u v : List Int) (m : List (Addr × List Int × Nat)) (xs : List Sli) (n : Nat) : Prop := xs.length = n ∧ ∀ i, i < n → Hd m (xs.getD i EK.sli.dflt) ∧ RowVal F u v i (rowA m (xs.getD i EK.sli.dflt).a) (v.length + 1)

section
variable {F : TF} {u v : List Int} {m : List (Addr × List Int × Nat)} {xs : List Sli} {n : Nat}

theorem PcAt.cons (h : PcAt F u v m xs n) {a : Addr} (ha : lkA m a = none) (z : List Int × Nat) : PcAt F u v ((a, z) :: m) xs n :=
  ⟨h.1, fun i hi => by
    obtain ⟨h1, h2⟩ := (h.2 i hi).1.cons ha z
    exact ⟨h1, by rw [h2]; exact (h.2 i hi).2⟩⟩

theorem PcAt.snoc (h : PcAt F u v m xs n) {l : List Int} (hl : RowVal F u v n l (v.length + 1)) {a : Addr} (ha : lkA m a = none) {sp cap : Nat} (hc : cap ≤ l.length + sp) : PcAt F u v ((a, l, sp) :: m) (xs ++ [⟨some a, l.length, cap⟩]) (n + 1) := by
  have h1 := h.1
  have h2 := h.cons ha (l, sp)
  refine ⟨by simp [h1], fun i hi => ?_⟩
  rw [getD_snoc]
  by_cases e : i < xs.length
  · rw [if_pos e]
    exact h2.2 i (by omega)
  · rw [if_neg e, if_pos (by omega)]
    have : i = n := by omega
    subst this
    have hk : lkA ((a, l, sp) :: m) a = some (l, sp) := by simp [lkA]
    exact ⟨Hd.of_some rfl hk rfl hc, by rw [rowA_some hk]; exact hl⟩
end

theorem RowVal.snoc {F : TF} {u v : List Int} {i : Nat} {l : List Int} {n : Nat} (h : RowVal F u v i l n) {p : Int} (hp : MinOf (Wt F (u.take i) (v.take n)) p ∧ p ≤ 1000000000000000) : RowVal F u v i (l ++ [p]) (n + 1) := by
  have h1 := h.1
  refine ⟨by simp [h1], fun o ho => ?_⟩
  rw [getD_snoc]
  by_cases e : o < l.length
  · rw [if_pos e]; exact h.2 o (by omega)
  · rw [if_neg e, if_pos (by omega)]
    have : o = n := by omega
    subst this
    exact hp

set_option maxHeartbeats 8000000 in
set_option maxRecDepth 20000 in
theorem pieces_c (F : TF) (u v : List Int) (cu cv : Nat) (hF : FOk F) (hu : u.length ≤ 40) (hv : v.length ≤ 40) :
    Ct Try.prog 86 [fV F, .c (.sl 2 1 0 u.length cu), .c (.sl 3 1 0 v.length cv)] [] (hpQ F u v) 4 (fun x s => ∃ rows sp m, x = .c (.sl 4 1 0 rows.length (rows.length + sp)) ∧ s = ⟨[], [(4, .arr true 22 .sli rows sp), (5, .pool 3 .int m)], 6⟩ ∧ PcAt F u v m rows (u.length + 1)) := by
  have hst := hF.st
  have hbl := begun_len F
  have hcc := costs_c F (begun F) u v
  refine ctW Try.tyOk 12 [] Try.func86 rfl (by simp [SV.lt, SA.lt, SC.lt, arcV, fV]) (by simp) (fr := [(0, fV F), (1, .c (.sl 2 1 0 u.length cu)), (2, .c (.sl 3 1 0 v.length cv))]) rfl ?_
  repeat' (first | exact rfl | ((conv => whnf); first | ((first | refine qA (fun h => ?_) fun h => ?_ | refine qN (fun h => ?_) fun h => ?_ | refine qB (fun h => ?_) fun h => ?_ | refine qC (fun h => ?_) fun h => ?_) <;> try exact absurd h (by omega)) | refine qM (fun h => ?_) fun h => ?_ | refine oM (by (first | omega | (simp only [lenS, InI, nmin, EK.sz]; omega) | (simp only [lenS, InI, nmin, EK.sz] at *; omega))) ?_ | refine oM ?_ ?_ | refine bM ?_ ?_ | refine draw_of Try.mixed Try.tyOk 60 (by kernel_rfl) ?_))
  (conv => whnf)
  refine callF (begun_c F hst) [0, 1] Try.call53 rfl (by simp [eqLs, eqL, eqO, eqC, eqCs, rn, renOf, look_cons, look, EK.cast]) (by simp [appN, ptrs, eqVL, eqV, eqA, eqC, eqCs, eqAs, eqCaps, EK.sz, rn, renOf, look_cons, look, arcV, fV]) (by simp [appN, ptrs, SV.lt, SA.lt, SC.lt, arcV, fV, lenN]) ?_
  rintro _ _ ⟨sp, rfl, rfl⟩
  repeat' (first | exact rfl | ((conv => whnf); first | ((first | refine qA (fun h => ?_) fun h => ?_ | refine qN (fun h => ?_) fun h => ?_ | refine qB (fun h => ?_) fun h => ?_ | refine qC (fun h => ?_) fun h => ?_) <;> try exact absurd h (by omega)) | refine qM (fun h => ?_) fun h => ?_ | refine oM (by (first | omega | (simp only [lenS, InI, nmin, EK.sz]; omega) | (simp only [lenS, InI, nmin, EK.sz] at *; omega))) ?_ | refine oM ?_ ?_ | refine bM ?_ ?_ | refine draw_of Try.mixed Try.tyOk 60 (by kernel_rfl) ?_))
  (conv => whnf)
  simp only [Nat.reduceAdd, Nat.reduceSub]
  refine callF (hcc ((begun F).length + sp) cu cv hF hu hv hbl begun_bd') [0, 1, 5, 2, 3] Try.call52 rfl (by simp [eqLs, eqL, eqO, eqC, eqCs, rn, renOf, look_cons, look, EK.cast]) (by simp [appN, ptrs, eqVL, eqV, eqA, eqC, eqCs, eqAs, eqCaps, EK.sz, rn, renOf, look_cons, look, arcV, fV]) (by simp [appN, ptrs, SV.lt, SA.lt, SC.lt, arcV, fV, lenN]) ?_
  rintro _ _ ⟨xs, sq, m22, m3, rfl, rfl, htab⟩
  have hxl := htab.1
  repeat' (first | exact rfl | ((conv => whnf); first | ((first | refine qA (fun h => ?_) fun h => ?_ | refine qN (fun h => ?_) fun h => ?_ | refine qB (fun h => ?_) fun h => ?_ | refine qC (fun h => ?_) fun h => ?_) <;> try exact absurd h (by omega)) | refine qM (fun h => ?_) fun h => ?_ | refine oM (by (first | omega | (simp only [lenS, InI, nmin, EK.sz]; omega) | (simp only [lenS, InI, nmin, EK.sz] at *; omega))) ?_ | refine oM ?_ ?_ | refine bM ?_ ?_ | refine draw_of Try.mixed Try.tyOk 60 (by kernel_rfl) ?_))
  (conv => whnf)
  simp only [Nat.reduceAdd, Nat.reduceSub]
  refine loopI (fun z : Nat × List Sli × Nat × List (Addr × List Int × Nat) => ⟨[(3, .c (.ptr 4 0)), (7, .c (.sl 6 1 0 xs.length (xs.length + sq))), (8, .c (.sl 9 1 0 z.2.1.length (z.2.1.length + z.2.2.1))), (9, .i z.1)],
      [(0, .arr false 3 .int F.fin 0), (1, .arr false 47 .arc F.arcs 0), (4, .box 25 (fCells F)), (6, .arr true 75 .sli xs sq), (7, .pool 22 .sli m22), (8, .pool 3 .int z.2.2.2), (9, .arr true 22 .sli z.2.1 z.2.2.1)], 10⟩)
    (fun z => z.1 ≤ u.length + 1 ∧ TabAt F u v (begun F) m22 z.2.2.2 xs (u.length + 1) ∧ PcAt F u v z.2.2.2 z.2.1 z.1) (fun z => u.length + 1 - z.1) (0, [], 0, m3) [(9, none)] ⟨by rfl, ?_, ?_⟩ ⟨Nat.zero_le _, htab, rfl, fun i hi => absurd hi (Nat.not_lt_zero _)⟩ ?_
  · simp [eqFr, eqHp, eqV, eqA, eqC, eqO, eqCs, eqAs, look_cons, look, rn, EK.cast, EK.sz, eqCaps]
  · simp [eqFr, eqHp, eqV, eqA, eqC, eqO, eqCs, eqAs, look_cons, look, rn, EK.cast, EK.sz, eqCaps, fCells, nilO]
  · clear htab m3
    rintro ⟨i, rows, rsp, m3⟩ ⟨hi1, htab, hpc⟩
    simp only at hi1 htab hpc ⊢
    have hrl := hpc.1
    (conv => whnf)
    refine condP_dec (fun hi => ?_) (fun hi => ?_)
    · have e0 : 0 + (i : Int).toNat = i := by omega
      have g := htab.2 i (by omega)
      have g2 := g.1.len
      have g3 := g.2.1
      rw [← e0] at g2 g3
      repeat' (first | exact rfl | ((conv => whnf); first | ((first | refine qA (fun h => ?_) fun h => ?_ | refine qN (fun h => ?_) fun h => ?_ | refine qB (fun h => ?_) fun h => ?_ | refine qC (fun h => ?_) fun h => ?_) <;> try exact absurd h (by omega)) | refine qM (fun h => ?_) fun h => ?_ | refine oM (by (first | omega | (simp only [lenS, InI, nmin, EK.sz]; omega) | (simp only [lenS, InI, nmin, EK.sz] at *; omega))) ?_ | refine oM ?_ ?_ | refine bM ?_ ?_ | refine draw_of Try.mixed Try.tyOk 60 (by kernel_rfl) ?_))
      (conv => whnf)
      refine loopI (fun z : Nat × List Int × Nat => ⟨[(3, .c (.ptr 4 0)), (7, .c (.sl 6 1 0 xs.length (xs.length + sq))), (8, .c (.sl 9 1 0 rows.length (rows.length + rsp))), (9, .i i), (10, .c (.sl 10 1 0 z.2.1.length (z.2.1.length + z.2.2))), (11, .i z.1)],
          [(0, .arr false 3 .int F.fin 0), (1, .arr false 47 .arc F.arcs 0), (4, .box 25 (fCells F)), (6, .arr true 75 .sli xs sq), (7, .pool 22 .sli m22), (8, .pool 3 .int m3), (9, .arr true 22 .sli rows rsp), (10, .arr true 3 .int z.2.1 z.2.2)], 11⟩)
        (fun z => z.1 ≤ v.length + 1 ∧ RowVal F u v i z.2.1 z.1) (fun z => v.length + 1 - z.1) (0, [], 0) [(10, none)] ⟨by rfl, ?_, ?_⟩ ⟨Nat.zero_le _, rfl, fun i hi => absurd hi (Nat.not_lt_zero _)⟩ ?_
      · simp [eqFr, eqHp, eqV, eqA, eqC, eqO, eqCs, eqAs, look_cons, look, rn, EK.cast, EK.sz, eqCaps]
      · simp [eqFr, eqHp, eqV, eqA, eqC, eqO, eqCs, eqAs, look_cons, look, rn, EK.cast, EK.sz, eqCaps, fCells, nilO]
      · rintro ⟨o, row, rs⟩ ⟨ho1, hrow⟩
        simp only at ho1 hrow ⊢
        have hrwl := hrow.1
        have e1 : (o : Int).toNat = o := by omega
        have hcell0 : o < v.length + 1 → CellAt F u v (begun F) m3 ((rowA m22 (xs.getD (0 + (i : Int).toNat) EK.sli.dflt).a).getD (o : Int).toNat EK.sli.dflt) i o := by
          intro ho
          have := g.2.2 o ho
          rw [e0, e1]
          exact this
        clear hcc hbl g
        repeat' (first | exact rfl | ((conv => whnf); first | ((first | refine qA (fun h => ?_) fun h => ?_ | refine qN (fun h => ?_) fun h => ?_ | refine qB (fun h => ?_) fun h => ?_ | refine qC (fun h => ?_) fun h => ?_) <;> try exact absurd h (by omega)) | refine qM (fun h => ?_) fun h => ?_ | refine oM (by (first | omega | (simp only [lenS, InI, nmin, EK.sz]; omega) | (simp only [lenS, InI, nmin, EK.sz] at *; omega))) ?_ | refine oM ?_ ?_ | refine bM ?_ ?_ | refine draw_of Try.mixed Try.tyOk 60 (by kernel_rfl) ?_))
        · (conv => whnf)
          refine callRow 8 [false, true] Try.call54 (by simp [appN, ptrs, SV.lt, SA.lt, SC.lt, fV]) ?_
          (conv => whnf)
          have hcell := hcell0 (by omega)
          clear hcell0
          generalize hY : (rowA m22 (xs.getD (0 + (i : Int).toNat) EK.sli.dflt).a).getD (o : Int).toNat EK.sli.dflt = yy at *
          have hyl := hcell.1.len
          have hcl := hcell.2.len
          have hbd : ∀ x : Int, x ∈ rowA m3 yy.a → -1 ≤ x ∧ x ≤ 1000000000000000 := by
            intro x hx
            have hb := hcell.2.bd x hx
            have hb1 : -1 ≤ x := hb.1
            have hb2 : x ≤ bndC i o := hb.2
            unfold bndC at hb2
            omega
          have hval : MinOf (Wt F (u.take i) (v.take o)) (endG (rowA m3 yy.a) F.fin F.st.toNat) ∧ endG (rowA m3 yy.a) F.fin F.st.toNat ≤ 1000000000000000 := by
            have h1 := hcell.2
            rw [← fromSt_src hF] at h1
            refine ⟨cell_min hF (by omega) (by omega) h1, ?_⟩
            have h2 := endG_bd (B := bndC i o) (by unfold bndC; omega) (fun x hx => (h1.bd x hx).2) (fun x hx => (hF.fin x hx).2) F.st.toNat
            unfold bndC at h2
            omega
          refine callF (ended_c F hF (rowA m3 yy.a) yy.c hcl hbd) [0, 1, 11] Try.call54 rfl (by simp [eqLs, eqL, eqO, eqC, eqCs, rn, renOf, look_cons, look, EK.cast, hyl, rowsO, appN, lenN]) (by simp [appN, ptrs, eqVL, eqV, eqA, eqC, eqCs, eqAs, eqCaps, EK.sz, rn, renOf, look_cons, look, arcV, fV, hyl, rowsO, appN, lenN]) (by simp [appN, ptrs, SV.lt, SA.lt, SC.lt, arcV, fV, lenN]) ?_
          rintro _ _ ⟨rfl, rfl⟩
          generalize hE : endG (rowA m3 yy.a) F.fin F.st.toNat = en at *
          repeat' (first | exact rfl | ((conv => whnf); first | ((first | refine qA (fun h => ?_) fun h => ?_ | refine qN (fun h => ?_) fun h => ?_ | refine qB (fun h => ?_) fun h => ?_ | refine qC (fun h => ?_) fun h => ?_) <;> try exact absurd h (by omega)) | refine qM (fun h => ?_) fun h => ?_ | refine oM (by (first | omega | (simp only [lenS, InI, nmin, EK.sz]; omega) | (simp only [lenS, InI, nmin, EK.sz] at *; omega))) ?_ | refine oM ?_ ?_ | refine bM ?_ ?_ | refine draw_of Try.mixed Try.tyOk 60 (by kernel_rfl) ?_ | intro _))
          (conv => whnf)
          rename_i q
          refine ⟨(o + 1, row ++ [en], q), [(10, some 13)], ⟨by rfl, ?_, ?_⟩, ⟨by simp only; omega, hrow.snoc hval⟩, by simp only; omega⟩
          · simp [eqFr, eqHp, eqV, eqA, eqC, eqO, eqCs, eqAs, look_cons, look, rn, EK.cast, EK.sz, eqCaps, lenN]
          · simp [eqFr, eqHp, eqV, eqA, eqC, eqO, eqCs, eqAs, look_cons, look, rn, EK.cast, EK.sz, eqCaps, fCells, lenN, app_one row _ _ rfl]
        · have ho : o = v.length + 1 := by omega
          subst ho
          clear hcell0
          intro m' y hfrz
          cases hfrz with
          | nil h => rw [h] at hrwl; simp only [List.length_nil] at hrwl; omega
          | @own a ha hb =>
            repeat' (first | exact rfl | ((conv => whnf); first | ((first | refine qA (fun h => ?_) fun h => ?_ | refine qN (fun h => ?_) fun h => ?_ | refine qB (fun h => ?_) fun h => ?_ | refine qC (fun h => ?_) fun h => ?_) <;> try exact absurd h (by omega)) | refine qM (fun h => ?_) fun h => ?_ | refine oM (by (first | omega | (simp only [lenS, InI, nmin, EK.sz]; omega) | (simp only [lenS, InI, nmin, EK.sz] at *; omega))) ?_ | refine oM ?_ ?_ | refine bM ?_ ?_ | refine draw_of Try.mixed Try.tyOk 60 (by kernel_rfl) ?_))
            intro sp2
            repeat' (first | exact rfl | ((conv => whnf); first | ((first | refine qA (fun h => ?_) fun h => ?_ | refine qN (fun h => ?_) fun h => ?_ | refine qB (fun h => ?_) fun h => ?_ | refine qC (fun h => ?_) fun h => ?_) <;> try exact absurd h (by omega)) | refine qM (fun h => ?_) fun h => ?_ | refine oM (by (first | omega | (simp only [lenS, InI, nmin, EK.sz]; omega) | (simp only [lenS, InI, nmin, EK.sz] at *; omega))) ?_ | refine oM ?_ ?_ | refine bM ?_ ?_ | refine draw_of Try.mixed Try.tyOk 60 (by kernel_rfl) ?_))
            (conv => whnf)
            refine ⟨(i + 1, rows ++ [⟨some a, row.length, row.length + rs⟩], sp2, (a, row, rs) :: m3), [(9, some 12)], ⟨by rfl, ?_, ?_⟩, ⟨by simp only; omega, htab.cons ha _, hpc.snoc hrow ha (Nat.le_refl _)⟩, by simp only; omega⟩
            · simp [eqFr, eqHp, eqV, eqA, eqC, eqO, eqCs, eqAs, look_cons, look, rn, EK.cast, EK.sz, eqCaps]
            · simp [eqFr, eqHp, eqV, eqA, eqC, eqO, eqCs, eqAs, look_cons, look, rn, EK.cast, EK.sz, eqCaps, fCells, app_one rows _ _ rfl]
    · have e : i = u.length + 1 := by omega
      subst e
      repeat' (first | exact rfl | ((conv => whnf); first | ((first | refine qA (fun h => ?_) fun h => ?_ | refine qN (fun h => ?_) fun h => ?_ | refine qB (fun h => ?_) fun h => ?_ | refine qC (fun h => ?_) fun h => ?_) <;> try exact absurd h (by omega)) | refine qM (fun h => ?_) fun h => ?_ | refine oM (by (first | omega | (simp only [lenS, InI, nmin, EK.sz]; omega) | (simp only [lenS, InI, nmin, EK.sz] at *; omega))) ?_ | refine oM ?_ ?_ | refine bM ?_ ?_ | refine draw_of Try.mixed Try.tyOk 60 (by kernel_rfl) ?_))
      (conv => whnf)
      exact ⟨[(4, some 9), (5, some 8)], [(4, .arr true 22 .sli rows rsp), (5, .pool 3 .int m3)], 6, .c (.sl 4 1 0 rows.length (rows.length + rsp)), ⟨by rfl, trivial, by simp [eqFr, eqHp, eqV, eqA, eqC, eqO, eqCs, eqAs, look_cons, look, rn, EK.cast, EK.sz, eqCaps]⟩, by simp [eqV, eqA, eqC, rn, look], rows, rsp, m3, rfl, rfl, hpc⟩
end Go.Fw

namespace Go.Fw
open Go Go.Proofs

set_option maxHeartbeats 4000000 in
set_option maxRecDepth 20000 in
theorem checkJoin2_c (F G : TF) : Ct Try.prog 41 [.c (.sl 4 4 0 2 2)] [] ((4, .box 25 (two F G)) :: hp2 F G) 5 (Is 5 (.i (readyE (allE F G) (F.st + G.st) ((F.arcs.length : Int) + (G.arcs.length : Int))))) := by
  refine ctW Try.tyOk 7 [] Try.func41 rfl (by simp [SV.lt, SA.lt, SC.lt, arcV, fV]) (by simp) (fr := [(0, .c (.sl 4 4 0 2 2))]) rfl ?_
  repeat' (first | exact rfl | ((conv => whnf); first | ((first | refine qA (fun h => ?_) fun h => ?_ | refine qN (fun h => ?_) fun h => ?_ | refine qB (fun h => ?_) fun h => ?_ | refine qC (fun h => ?_) fun h => ?_) <;> try exact absurd h (by omega)) | refine qM (fun h => ?_) fun h => ?_ | refine oM (by (first | omega | (simp only [lenS, InI, nmin, EK.sz]; omega) | (simp only [lenS, InI, nmin, EK.sz] at *; omega))) ?_ | refine oM ?_ ?_ | refine bM ?_ ?_ | refine draw_of Try.mixed Try.tyOk 60 (by kernel_rfl) ?_))
  (conv => whnf)
  refine loopI (fun x : Nat × Int × Int => ⟨[(0, .c (.sl 4 4 0 2 2)), (2, .i 0), (3, .i x.2.1), (4, .i x.2.2), (5, .i x.1)], (4, .box 25 (two F G)) :: hp2 F G, 5⟩)
    (fun x => x.1 ≤ 2 ∧ (x.1 = 0 → x.2.1 = 0 ∧ x.2.2 = 0) ∧ (x.1 = 1 → x.2.1 = F.st ∧ x.2.2 = (F.arcs.length : Int)) ∧ (x.1 = 2 → x.2.1 = F.st + G.st ∧ x.2.2 = (F.arcs.length : Int) + (G.arcs.length : Int)) ∧ (1 ≤ x.1 → fstE F = 0) ∧ (2 ≤ x.1 → fstE G = 0)) (fun x => 2 - x.1) (0, 0, 0) [] ⟨by rfl, ?_, ?_⟩ (by simp) ?_
  · simp [eqFr, eqHp, eqV, eqA, eqC, eqO, eqCs, eqAs, look_cons, look, rn, EK.cast, EK.sz, eqCaps]
  · simp [eqFr, eqHp, eqV, eqA, eqC, eqO, eqCs, eqAs, look_cons, look, rn, EK.cast, EK.sz, eqCaps]
  · rintro ⟨k, su, sw⟩ ⟨hk, h0, h1, h2, z0, z1⟩
    simp only at hk h0 h1 h2 z0 z1 ⊢
    rcases (by omega : k = 0 ∨ k = 1 ∨ k = 2) with rfl | rfl | rfl
    · obtain ⟨rfl, rfl⟩ := h0 rfl
      repeat' (first | exact rfl | ((conv => whnf); first | ((first | refine qA (fun h => ?_) fun h => ?_ | refine qN (fun h => ?_) fun h => ?_ | refine qB (fun h => ?_) fun h => ?_ | refine qC (fun h => ?_) fun h => ?_) <;> try exact absurd h (by omega)) | refine qM (fun h => ?_) fun h => ?_ | refine oM (by (first | omega | (simp only [lenS, InI, nmin, EK.sz]; omega) | (simp only [lenS, InI, nmin, EK.sz] at *; omega))) ?_ | refine oM ?_ ?_ | refine bM ?_ ?_ | refine draw_of Try.mixed Try.tyOk 60 (by kernel_rfl) ?_ | intro _))
      (conv => whnf)
      refine callF (checkFst_c F) [0, 1] Try.call19 rfl (by simp [eqLs, eqL, eqO, eqC, eqCs, rn, renOf, look_cons, look, EK.cast]) (by simp [appN, ptrs, eqVL, eqV, eqA, eqC, eqCs, eqAs, eqCaps, EK.sz, rn, renOf, look_cons, look, arcV, fV]) (by simp [appN, ptrs, SV.lt, SA.lt, SC.lt, arcV, fV, lenN]) ?_
      rintro _ _ ⟨rfl, rfl⟩
      by_cases hE : fstE F = 0
      · have Fst := (fstE_ok hE).st
        have Fal := (fstE_ok hE).arcl
        rw [hE]
        repeat' (first | exact rfl | ((conv => whnf); first | ((first | refine qA (fun h => ?_) fun h => ?_ | refine qN (fun h => ?_) fun h => ?_ | refine qB (fun h => ?_) fun h => ?_ | refine qC (fun h => ?_) fun h => ?_) <;> try exact absurd h (by omega)) | refine qM (fun h => ?_) fun h => ?_ | refine oM (by (first | omega | (simp only [lenS, InI, nmin, EK.sz]; omega) | (simp only [lenS, InI, nmin, EK.sz] at *; omega))) ?_ | refine oM ?_ ?_ | refine bM ?_ ?_ | refine draw_of Try.mixed Try.tyOk 60 (by kernel_rfl) ?_ | intro _))
        (conv => whnf)
        refine ⟨(1, F.st, (F.arcs.length : Int)), [], ⟨by rfl, ?_, ?_⟩, ⟨by simp, by simp, by simp, by simp, fun _ => (by first | exact hE | rfl), fun _ => absurd ‹_› (by simp)⟩, by simp⟩
        · simp [eqFr, eqHp, eqV, eqA, eqC, eqO, eqCs, eqAs, look_cons, look, rn, EK.cast, EK.sz, eqCaps]
        · simp [eqFr, eqHp, eqV, eqA, eqC, eqO, eqCs, eqAs, look_cons, look, rn, EK.cast, EK.sz, eqCaps]
      · repeat' (first | exact rfl | ((conv => whnf); first | ((first | refine qA (fun h => ?_) fun h => ?_ | refine qN (fun h => ?_) fun h => ?_ | refine qB (fun h => ?_) fun h => ?_ | refine qC (fun h => ?_) fun h => ?_) <;> try exact absurd h (by omega)) | refine qM (fun h => ?_) fun h => ?_ | refine oM (by (first | omega | (simp only [lenS, InI, nmin, EK.sz]; omega) | (simp only [lenS, InI, nmin, EK.sz] at *; omega))) ?_ | refine oM ?_ ?_ | refine bM ?_ ?_ | refine draw_of Try.mixed Try.tyOk 60 (by kernel_rfl) ?_ | intro _))
        (conv => whnf)
        refine Back.is ?_
        simp [eqV, eqA, eqC, readyE, allE, hE]
    · obtain ⟨rfl, rfl⟩ := h1 rfl
      have y0 := z0 (by omega)
      have Fst := (fstE_ok y0).st
      have Fal := (fstE_ok y0).arcl
      repeat' (first | exact rfl | ((conv => whnf); first | ((first | refine qA (fun h => ?_) fun h => ?_ | refine qN (fun h => ?_) fun h => ?_ | refine qB (fun h => ?_) fun h => ?_ | refine qC (fun h => ?_) fun h => ?_) <;> try exact absurd h (by omega)) | refine qM (fun h => ?_) fun h => ?_ | refine oM (by (first | omega | (simp only [lenS, InI, nmin, EK.sz]; omega) | (simp only [lenS, InI, nmin, EK.sz] at *; omega))) ?_ | refine oM ?_ ?_ | refine bM ?_ ?_ | refine draw_of Try.mixed Try.tyOk 60 (by kernel_rfl) ?_ | intro _))
      (conv => whnf)
      refine callF (checkFst_c G) [2, 3] Try.call19 rfl (by simp [eqLs, eqL, eqO, eqC, eqCs, rn, renOf, look_cons, look, EK.cast]) (by simp [appN, ptrs, eqVL, eqV, eqA, eqC, eqCs, eqAs, eqCaps, EK.sz, rn, renOf, look_cons, look, arcV, fV]) (by simp [appN, ptrs, SV.lt, SA.lt, SC.lt, arcV, fV, lenN]) ?_
      rintro _ _ ⟨rfl, rfl⟩
      by_cases hE : fstE G = 0
      · have Gst := (fstE_ok hE).st
        have Gal := (fstE_ok hE).arcl
        rw [hE]
        repeat' (first | exact rfl | ((conv => whnf); first | ((first | refine qA (fun h => ?_) fun h => ?_ | refine qN (fun h => ?_) fun h => ?_ | refine qB (fun h => ?_) fun h => ?_ | refine qC (fun h => ?_) fun h => ?_) <;> try exact absurd h (by omega)) | refine qM (fun h => ?_) fun h => ?_ | refine oM (by (first | omega | (simp only [lenS, InI, nmin, EK.sz]; omega) | (simp only [lenS, InI, nmin, EK.sz] at *; omega))) ?_ | refine oM ?_ ?_ | refine bM ?_ ?_ | refine draw_of Try.mixed Try.tyOk 60 (by kernel_rfl) ?_ | intro _))
        (conv => whnf)
        refine ⟨(2, F.st + G.st, (F.arcs.length : Int) + (G.arcs.length : Int)), [], ⟨by rfl, ?_, ?_⟩, ⟨by simp, by simp, by simp, by simp, fun _ => y0, fun _ => (by first | exact hE | rfl)⟩, by simp⟩
        · simp [eqFr, eqHp, eqV, eqA, eqC, eqO, eqCs, eqAs, look_cons, look, rn, EK.cast, EK.sz, eqCaps]
        · simp [eqFr, eqHp, eqV, eqA, eqC, eqO, eqCs, eqAs, look_cons, look, rn, EK.cast, EK.sz, eqCaps]
      · repeat' (first | exact rfl | ((conv => whnf); first | ((first | refine qA (fun h => ?_) fun h => ?_ | refine qN (fun h => ?_) fun h => ?_ | refine qB (fun h => ?_) fun h => ?_ | refine qC (fun h => ?_) fun h => ?_) <;> try exact absurd h (by omega)) | refine qM (fun h => ?_) fun h => ?_ | refine oM (by (first | omega | (simp only [lenS, InI, nmin, EK.sz]; omega) | (simp only [lenS, InI, nmin, EK.sz] at *; omega))) ?_ | refine oM ?_ ?_ | refine bM ?_ ?_ | refine draw_of Try.mixed Try.tyOk 60 (by kernel_rfl) ?_ | intro _))
        (conv => whnf)
        refine Back.is ?_
        simp [eqV, eqA, eqC, readyE, allE, hE, y0]
    · obtain ⟨rfl, rfl⟩ := h2 rfl
      have y0 := z0 (by omega)
      have y1 := z1 (by omega)
      repeat' (first | exact rfl | ((conv => whnf); first | ((first | refine qA (fun h => ?_) fun h => ?_ | refine qN (fun h => ?_) fun h => ?_ | refine qB (fun h => ?_) fun h => ?_ | refine qC (fun h => ?_) fun h => ?_) <;> try exact absurd h (by omega)) | refine qM (fun h => ?_) fun h => ?_ | refine oM (by (first | omega | (simp only [lenS, InI, nmin, EK.sz]; omega) | (simp only [lenS, InI, nmin, EK.sz] at *; omega))) ?_ | refine oM ?_ ?_ | refine bM ?_ ?_ | refine draw_of Try.mixed Try.tyOk 60 (by kernel_rfl) ?_ | intro _))
      all_goals
        (conv => whnf)
        refine Back.is ?_
        simp [eqV, eqA, eqC, readyE, allE, y0, y1]
        omega

set_option maxHeartbeats 4000000 in
set_option maxRecDepth 20000 in
theorem checkJoin1_c (F : TF) : Ct Try.prog 41 [.c (.sl 2 4 0 1 1)] [] ((2, .box 25 (onF F)) :: hpF F) 3 (Is 3 (.i (readyE (fstE F) (F.st) ((F.arcs.length : Int))))) := by
  refine ctW Try.tyOk 7 [] Try.func41 rfl (by simp [SV.lt, SA.lt, SC.lt, arcV, fV]) (by simp) (fr := [(0, .c (.sl 2 4 0 1 1))]) rfl ?_
  repeat' (first | exact rfl | ((conv => whnf); first | ((first | refine qA (fun h => ?_) fun h => ?_ | refine qN (fun h => ?_) fun h => ?_ | refine qB (fun h => ?_) fun h => ?_ | refine qC (fun h => ?_) fun h => ?_) <;> try exact absurd h (by omega)) | refine qM (fun h => ?_) fun h => ?_ | refine oM (by (first | omega | (simp only [lenS, InI, nmin, EK.sz]; omega) | (simp only [lenS, InI, nmin, EK.sz] at *; omega))) ?_ | refine oM ?_ ?_ | refine bM ?_ ?_ | refine draw_of Try.mixed Try.tyOk 60 (by kernel_rfl) ?_))
  (conv => whnf)
  refine loopI (fun x : Nat × Int × Int => ⟨[(0, .c (.sl 2 4 0 1 1)), (2, .i 0), (3, .i x.2.1), (4, .i x.2.2), (5, .i x.1)], (2, .box 25 (onF F)) :: hpF F, 3⟩)
    (fun x => x.1 ≤ 1 ∧ (x.1 = 0 → x.2.1 = 0 ∧ x.2.2 = 0) ∧ (x.1 = 1 → x.2.1 = F.st ∧ x.2.2 = (F.arcs.length : Int)) ∧ (1 ≤ x.1 → fstE F = 0)) (fun x => 1 - x.1) (0, 0, 0) [] ⟨by rfl, ?_, ?_⟩ (by simp) ?_
  · simp [eqFr, eqHp, eqV, eqA, eqC, eqO, eqCs, eqAs, look_cons, look, rn, EK.cast, EK.sz, eqCaps]
  · simp [eqFr, eqHp, eqV, eqA, eqC, eqO, eqCs, eqAs, look_cons, look, rn, EK.cast, EK.sz, eqCaps]
  · rintro ⟨k, su, sw⟩ ⟨hk, h0, h1, z0⟩
    simp only at hk h0 h1 z0 ⊢
    rcases (by omega : k = 0 ∨ k = 1) with rfl | rfl
    · obtain ⟨rfl, rfl⟩ := h0 rfl
      repeat' (first | exact rfl | ((conv => whnf); first | ((first | refine qA (fun h => ?_) fun h => ?_ | refine qN (fun h => ?_) fun h => ?_ | refine qB (fun h => ?_) fun h => ?_ | refine qC (fun h => ?_) fun h => ?_) <;> try exact absurd h (by omega)) | refine qM (fun h => ?_) fun h => ?_ | refine oM (by (first | omega | (simp only [lenS, InI, nmin, EK.sz]; omega) | (simp only [lenS, InI, nmin, EK.sz] at *; omega))) ?_ | refine oM ?_ ?_ | refine bM ?_ ?_ | refine draw_of Try.mixed Try.tyOk 60 (by kernel_rfl) ?_ | intro _))
      (conv => whnf)
      refine callF (checkFst_c F) [0, 1] Try.call19 rfl (by simp [eqLs, eqL, eqO, eqC, eqCs, rn, renOf, look_cons, look, EK.cast]) (by simp [appN, ptrs, eqVL, eqV, eqA, eqC, eqCs, eqAs, eqCaps, EK.sz, rn, renOf, look_cons, look, arcV, fV]) (by simp [appN, ptrs, SV.lt, SA.lt, SC.lt, arcV, fV, lenN]) ?_
      rintro _ _ ⟨rfl, rfl⟩
      by_cases hE : fstE F = 0
      · have Fst := (fstE_ok hE).st
        have Fal := (fstE_ok hE).arcl
        rw [hE]
        repeat' (first | exact rfl | ((conv => whnf); first | ((first | refine qA (fun h => ?_) fun h => ?_ | refine qN (fun h => ?_) fun h => ?_ | refine qB (fun h => ?_) fun h => ?_ | refine qC (fun h => ?_) fun h => ?_) <;> try exact absurd h (by omega)) | refine qM (fun h => ?_) fun h => ?_ | refine oM (by (first | omega | (simp only [lenS, InI, nmin, EK.sz]; omega) | (simp only [lenS, InI, nmin, EK.sz] at *; omega))) ?_ | refine oM ?_ ?_ | refine bM ?_ ?_ | refine draw_of Try.mixed Try.tyOk 60 (by kernel_rfl) ?_ | intro _))
        (conv => whnf)
        refine ⟨(1, F.st, (F.arcs.length : Int)), [], ⟨by rfl, ?_, ?_⟩, ⟨by simp, by simp, by simp, fun _ => (by first | exact hE | rfl)⟩, by simp⟩
        · simp [eqFr, eqHp, eqV, eqA, eqC, eqO, eqCs, eqAs, look_cons, look, rn, EK.cast, EK.sz, eqCaps]
        · simp [eqFr, eqHp, eqV, eqA, eqC, eqO, eqCs, eqAs, look_cons, look, rn, EK.cast, EK.sz, eqCaps]
      · repeat' (first | exact rfl | ((conv => whnf); first | ((first | refine qA (fun h => ?_) fun h => ?_ | refine qN (fun h => ?_) fun h => ?_ | refine qB (fun h => ?_) fun h => ?_ | refine qC (fun h => ?_) fun h => ?_) <;> try exact absurd h (by omega)) | refine qM (fun h => ?_) fun h => ?_ | refine oM (by (first | omega | (simp only [lenS, InI, nmin, EK.sz]; omega) | (simp only [lenS, InI, nmin, EK.sz] at *; omega))) ?_ | refine oM ?_ ?_ | refine bM ?_ ?_ | refine draw_of Try.mixed Try.tyOk 60 (by kernel_rfl) ?_ | intro _))
        (conv => whnf)
        refine Back.is ?_
        simp [eqV, eqA, eqC, readyE, allE, hE]
    · obtain ⟨rfl, rfl⟩ := h1 rfl
      have y0 := z0 (by omega)
      repeat' (first | exact rfl | ((conv => whnf); first | ((first | refine qA (fun h => ?_) fun h => ?_ | refine qN (fun h => ?_) fun h => ?_ | refine qB (fun h => ?_) fun h => ?_ | refine qC (fun h => ?_) fun h => ?_) <;> try exact absurd h (by omega)) | refine qM (fun h => ?_) fun h => ?_ | refine oM (by (first | omega | (simp only [lenS, InI, nmin, EK.sz]; omega) | (simp only [lenS, InI, nmin, EK.sz] at *; omega))) ?_ | refine oM ?_ ?_ | refine bM ?_ ?_ | refine draw_of Try.mixed Try.tyOk 60 (by kernel_rfl) ?_ | intro _))
      all_goals
        (conv => whnf)
        refine Back.is ?_
        simp [eqV, eqA, eqC, readyE, allE, y0]
        omega

set_option maxHeartbeats 4000000 in
set_option maxRecDepth 20000 in
theorem joined_no (e most want : Int) (u v : List Int) (cu cv : Nat) (he : e ≠ 0) : Ct Try.prog 45 [fV zeroF, .i e, .i e, .i most, .c (.sl 2 1 0 u.length cu), .c (.sl 3 1 0 v.length cv), .i want] [] (hpQ zeroF u v) 4 (Is 4 (.b true)) := by
  refine ctW Try.tyOk 16 [] Try.func45 rfl (by simp [SV.lt, SA.lt, SC.lt, arcV, fV]) (by simp) (fr := [(0, fV zeroF), (1, .i e), (2, .i e), (3, .i most), (4, .c (.sl 2 1 0 u.length cu)), (5, .c (.sl 3 1 0 v.length cv)), (6, .i want)]) rfl ?_
  repeat' (first | exact rfl | ((conv => whnf); first | ((first | refine qA (fun h => ?_) fun h => ?_ | refine qN (fun h => ?_) fun h => ?_ | refine qB (fun h => ?_) fun h => ?_ | refine qC (fun h => ?_) fun h => ?_) <;> try exact absurd h (by omega)) | refine qM (fun h => ?_) fun h => ?_ | refine oM (by (first | omega | (simp only [lenS, InI, nmin, EK.sz]; omega) | (simp only [lenS, InI, nmin, EK.sz] at *; omega))) ?_ | refine oM ?_ ?_ | refine bM ?_ ?_ | refine draw_of Try.mixed Try.tyOk 60 (by kernel_rfl) ?_))
  all_goals try omega
  all_goals (conv => whnf)
  all_goals refine Back.is ?_
  all_goals simp [eqV, eqA, eqC, zeroF]

set_option maxHeartbeats 4000000 in
set_option maxRecDepth 20000 in
theorem joined_ok (X : TF) (most want : Int) (u v : List Int) (cu cv : Nat) (hl : X.fin.length ≤ 9223372036854775807) (hX : fstE X = 0) (hsc : scoreE X u v = 0) (hm : X.st ≤ most + 2) (hmi : 0 ≤ most ∧ most ≤ 1000) (hw : ∀ n, MinOf (Wt X u v) n → n = want) : Ct Try.prog 45 [fV X, .i 0, .i 0, .i most, .c (.sl 2 1 0 u.length cu), .c (.sl 3 1 0 v.length cv), .i want] [] (hpQ X u v) 4 (Is 4 (.b true)) := by
  refine ctW Try.tyOk 16 [] Try.func45 rfl (by simp [SV.lt, SA.lt, SC.lt, arcV, fV]) (by simp) (fr := [(0, fV X), (1, .i 0), (2, .i 0), (3, .i most), (4, .c (.sl 2 1 0 u.length cu)), (5, .c (.sl 3 1 0 v.length cv)), (6, .i want)]) rfl ?_
  repeat' (first | exact rfl | ((conv => whnf); first | ((first | refine qA (fun h => ?_) fun h => ?_ | refine qN (fun h => ?_) fun h => ?_ | refine qB (fun h => ?_) fun h => ?_ | refine qC (fun h => ?_) fun h => ?_) <;> try exact absurd h (by omega)) | refine qM (fun h => ?_) fun h => ?_ | refine oM (by (first | omega | (simp only [lenS, InI, nmin, EK.sz]; omega) | (simp only [lenS, InI, nmin, EK.sz] at *; omega))) ?_ | refine oM ?_ ?_ | refine bM ?_ ?_ | refine draw_of Try.mixed Try.tyOk 60 (by kernel_rfl) ?_))
  (conv => whnf)
  refine callF (checkFst_c X) [0, 1] Try.call19 rfl (by simp [eqLs, eqL, eqO, eqC, eqCs, rn, renOf, look_cons, look, EK.cast]) (by simp [appN, ptrs, eqVL, eqV, eqA, eqC, eqCs, eqAs, eqCaps, EK.sz, rn, renOf, look_cons, look, arcV, fV]) (by simp [appN, ptrs, SV.lt, SA.lt, SC.lt, arcV, fV, lenN]) ?_
  rintro _ _ ⟨rfl, rfl⟩
  rw [hX]
  repeat' (first | exact rfl | ((conv => whnf); first | ((first | refine qA (fun h => ?_) fun h => ?_ | refine qN (fun h => ?_) fun h => ?_ | refine qB (fun h => ?_) fun h => ?_ | refine qC (fun h => ?_) fun h => ?_) <;> try exact absurd h (by omega)) | refine qM (fun h => ?_) fun h => ?_ | refine oM (by (first | omega | (simp only [lenS, InI, nmin, EK.sz]; omega) | (simp only [lenS, InI, nmin, EK.sz] at *; omega))) ?_ | refine oM ?_ ?_ | refine bM ?_ ?_ | refine draw_of Try.mixed Try.tyOk 60 (by kernel_rfl) ?_))
  all_goals try omega
  (conv => whnf)
  refine callF (score_b X u v cu cv hl hsc) [0, 1, 2, 3] Try.call10 rfl (by simp [eqLs, eqL, eqO, eqC, eqCs, rn, renOf, look_cons, look, EK.cast]) (by simp [appN, ptrs, eqVL, eqV, eqA, eqC, eqCs, eqAs, eqCaps, EK.sz, rn, renOf, look_cons, look, arcV, fV]) (by simp [appN, ptrs, SV.lt, SA.lt, SC.lt, arcV, fV, lenN]) ?_
  rintro _ _ ⟨n, hn, rfl, rfl⟩
  have hnw : n = want := hw n (hn.1 hsc).1
  subst hnw
  repeat' (first | exact rfl | ((conv => whnf); first | ((first | refine qA (fun h => ?_) fun h => ?_ | refine qN (fun h => ?_) fun h => ?_ | refine qB (fun h => ?_) fun h => ?_ | refine qC (fun h => ?_) fun h => ?_) <;> try exact absurd h (by omega)) | refine qM (fun h => ?_) fun h => ?_ | refine oM (by (first | omega | (simp only [lenS, InI, nmin, EK.sz]; omega) | (simp only [lenS, InI, nmin, EK.sz] at *; omega))) ?_ | refine oM ?_ ?_ | refine bM ?_ ?_ | refine draw_of Try.mixed Try.tyOk 60 (by kernel_rfl) ?_))
  all_goals try omega
  (conv => whnf)
  refine Back.is ?_
  simp [eqV, eqA, eqC]
end Go.Fw

namespace Go.Fw
open Go Go.Proofs

abbrev hpY (F G : TF) (u v : List Int) : List (Nat × SO) := [(0, .arr false 3 .int F.fin 0), (1, .arr false 47 .arc F.arcs 0), (2, .arr false 3 .int G.fin 0), (3, .arr false 47 .arc G.arcs 0), (4, .arr false 3 .int u 0), (5, .arr false 3 .int v 0)]

theorem drop_sub {u : List Int} {i lo n : Nat} (h : lo = i ∨ u.length ≤ i) (hn : n = u.length - i) : sub u lo n = u.drop i := by
  subst hn
  unfold sub
  rcases h with rfl | h
  · exact List.take_of_length_le (by simp)
  · rw [List.drop_of_length_le h, show u.length - i = 0 by omega]; rfl

set_option maxHeartbeats 8000000 in
set_option maxRecDepth 20000 in
theorem behindOf_c (F G : TF) (u v : List Int) (cu cv : Nat) (hF : FOk F) (hG : FOk G) (hu : u.length ≤ 40) (hv : v.length ≤ 40) (hcu : u.length ≤ cu) (hcv : v.length ≤ cv) :
    Ct Try.prog 43 [fV F, gV G, .c (.sl 4 1 0 u.length cu), .c (.sl 5 1 0 v.length cv)] [] (hpY F G u v) 6 (fun x s => ∃ n, MinOf (Cut2 (Wt F) (Wt G) u v) n ∧ x = .i n ∧ s = ⟨[], [], 6⟩) := by
  refine ctW Try.tyOk 13 [] Try.func43 rfl (by simp [SV.lt, SA.lt, SC.lt, fV, gV]) (by simp) (fr := [(0, fV F), (1, gV G), (2, .c (.sl 4 1 0 u.length cu)), (3, .c (.sl 5 1 0 v.length cv))]) rfl ?_
  repeat' (first | exact rfl | ((conv => whnf); first | ((first | refine qA (fun h => ?_) fun h => ?_ | refine qN (fun h => ?_) fun h => ?_ | refine qB (fun h => ?_) fun h => ?_ | refine qC (fun h => ?_) fun h => ?_) <;> try exact absurd h (by omega)) | refine qM (fun h => ?_) fun h => ?_ | refine oM (by (first | omega | (simp only [lenS, InI, nmin, EK.sz]; omega) | (simp only [lenS, InI, nmin, EK.sz] at *; omega))) ?_ | refine oM ?_ ?_ | refine bM ?_ ?_ | refine draw_of Try.mixed Try.tyOk 60 (by kernel_rfl) ?_))
  (conv => whnf)
  refine callF (pieces_c F u v cu cv hF hu hv) [0, 1, 4, 5] Try.call86 rfl (by simp [eqLs, eqL, eqO, eqC, eqCs, rn, renOf, look_cons, look, EK.cast]) (by simp [appN, ptrs, eqVL, eqV, eqA, eqC, eqCs, eqAs, eqCaps, EK.sz, rn, renOf, look_cons, look, arcV, fV]) (by simp [appN, ptrs, SV.lt, SA.lt, SC.lt, arcV, fV, lenN]) ?_
  rintro _ _ ⟨rows, sp, m, rfl, rfl, hpc⟩
  have hrl := hpc.1
  repeat' (first | exact rfl | ((conv => whnf); first | ((first | refine qA (fun h => ?_) fun h => ?_ | refine qN (fun h => ?_) fun h => ?_ | refine qB (fun h => ?_) fun h => ?_ | refine qC (fun h => ?_) fun h => ?_) <;> try exact absurd h (by omega)) | refine qM (fun h => ?_) fun h => ?_ | refine oM (by (first | omega | (simp only [lenS, InI, nmin, EK.sz]; omega) | (simp only [lenS, InI, nmin, EK.sz] at *; omega))) ?_ | refine oM ?_ ?_ | refine bM ?_ ?_ | refine draw_of Try.mixed Try.tyOk 60 (by kernel_rfl) ?_))
  (conv => whnf)
  simp only [Nat.reduceAdd, Nat.reduceSub]
  refine loopI (fun x : Nat × Int => ⟨[(2, .c (.sl 4 1 0 u.length cu)), (3, .c (.sl 5 1 0 v.length cv)), (5, .c (.ptr 7 0)), (9, .c (.sl 8 1 0 rows.length (rows.length + sp))), (10, .i x.2), (11, .i x.1)],
      (7, .box 25 [.i G.st, .i G.start, .sl 2 1 0 G.fin.length G.capF, .sl 3 5 0 G.arcs.length G.capA]) :: (8, .arr true 22 .sli rows sp) :: (9, .pool 3 .int m) :: hpY F G u v, 10⟩)
    (fun x => x.1 ≤ u.length + 1 ∧ MinOf (LexP (Wt F) (Wt G) u v x.1 0) x.2 ∧ x.2 ≤ 2000000000000000) (fun x => u.length + 1 - x.1) (0, -1) [] ⟨by rfl, ?_, ?_⟩ ⟨Nat.zero_le _, MinOf.none.cong fun c => ⟨fun h => h.elim, lexP_zero⟩, by decide⟩ ?_
  · simp [eqFr, eqHp, eqV, eqA, eqC, eqO, eqCs, eqAs, look_cons, look, rn, EK.cast, EK.sz, eqCaps]
  · simp [eqFr, eqHp, eqV, eqA, eqC, eqO, eqCs, eqAs, look_cons, look, rn, EK.cast, EK.sz, eqCaps, gV]
  · rintro ⟨i, best⟩ ⟨hi1, hmin, hbd⟩
    simp only at hi1 hmin hbd ⊢
    (conv => whnf)
    refine condP_dec (fun hi => ?_) (fun hi => ?_)
    · have e0 : 0 + (i : Int).toNat = i := by omega
      have g := hpc.2 i (by omega)
      have g2 := g.1.len
      have g3 := g.2.1
      repeat' (first | exact rfl | ((conv => whnf); first | ((first | refine qA (fun h => ?_) fun h => ?_ | refine qN (fun h => ?_) fun h => ?_ | refine qB (fun h => ?_) fun h => ?_ | refine qC (fun h => ?_) fun h => ?_) <;> try exact absurd h (by omega)) | refine qM (fun h => ?_) fun h => ?_ | refine oM (by (first | omega | (simp only [lenS, InI, nmin, EK.sz]; omega) | (simp only [lenS, InI, nmin, EK.sz] at *; omega))) ?_ | refine oM ?_ ?_ | refine bM ?_ ?_ | refine draw_of Try.mixed Try.tyOk 60 (by kernel_rfl) ?_))
      (conv => whnf)
      refine loopI (fun x : Nat × Int => ⟨[(2, .c (.sl 4 1 0 u.length cu)), (3, .c (.sl 5 1 0 v.length cv)), (5, .c (.ptr 7 0)), (9, .c (.sl 8 1 0 rows.length (rows.length + sp))), (10, .i x.2), (11, .i i), (12, .i x.1)],
          (7, .box 25 [.i G.st, .i G.start, .sl 2 1 0 G.fin.length G.capF, .sl 3 5 0 G.arcs.length G.capA]) :: (8, .arr true 22 .sli rows sp) :: (9, .pool 3 .int m) :: hpY F G u v, 10⟩)
        (fun x => x.1 ≤ v.length + 1 ∧ MinOf (LexP (Wt F) (Wt G) u v i x.1) x.2 ∧ x.2 ≤ 2000000000000000) (fun x => v.length + 1 - x.1) (0, best) [] ⟨by rfl, ?_, ?_⟩ ⟨Nat.zero_le _, hmin, hbd⟩ ?_
      · simp [eqFr, eqHp, eqV, eqA, eqC, eqO, eqCs, eqAs, look_cons, look, rn, EK.cast, EK.sz, eqCaps]
      · simp [eqFr, eqHp, eqV, eqA, eqC, eqO, eqCs, eqAs, look_cons, look, rn, EK.cast, EK.sz, eqCaps]
      · clear hmin hbd best
        rintro ⟨o, best⟩ ⟨ho1, hmin, hbd⟩
        simp only at ho1 hmin hbd ⊢
        (conv => whnf)
        refine condP_dec (fun ho => ?_) (fun ho => ?_)
        · have e1 : (o : Int).toNat = o := by omega
          have gp := g.2.2 o (by omega)
          have gp' : MinOf (Wt F (u.take i) (v.take o)) ((rowA m (rows.getD (0 + (i : Int).toNat) EK.sli.dflt).a).getD (o : Int).toNat EK.int.dflt) ∧ (rowA m (rows.getD (0 + (i : Int).toNat) EK.sli.dflt).a).getD (o : Int).toNat EK.int.dflt ≤ 1000000000000000 := by
            rw [e0, e1]; exact gp
          rw [← e0] at g2 g3
          clear gp g
          repeat' (first | exact rfl | ((conv => whnf); first | ((first | refine qA (fun h => ?_) fun h => ?_ | refine qN (fun h => ?_) fun h => ?_ | refine qB (fun h => ?_) fun h => ?_ | refine qC (fun h => ?_) fun h => ?_) <;> try exact absurd h (by omega)) | refine qM (fun h => ?_) fun h => ?_ | refine oM (by (first | omega | (simp only [lenS, InI, nmin, EK.sz]; omega) | (simp only [lenS, InI, nmin, EK.sz] at *; omega))) ?_ | refine oM ?_ ?_ | refine bM ?_ ?_ | refine draw_of Try.mixed Try.tyOk 60 (by kernel_rfl) ?_ | intro _))
          all_goals (conv => whnf)
          all_goals have gp2 := @id (@LE.le Int _ ((rowA m (rows.getD (0 + (i : Int).toNat) EK.sli.dflt).a).getD (o : Int).toNat EK.int.dflt) 1000000000000000) gp'.2
          · have hsu : sub u (0 + (i : Int).toNat) ((u.length : Int) - i).toNat = u.drop i := drop_sub (.inl (by omega)) (by omega)
            have hsv : sub v (0 + (o : Int).toNat) ((v.length : Int) - o).toNat = v.drop o := drop_sub (.inl (by omega)) (by omega)
            have hlu : (u.drop i).length = ((u.length : Int) - i).toNat := by rw [List.length_drop]; omega
            have hlv : (v.drop o).length = ((v.length : Int) - o).toNat := by rw [List.length_drop]; omega
            have hlu2 : (u.drop i).length ≤ 40 := by rw [List.length_drop]; omega
            have hlv2 : (v.drop o).length ≤ 40 := by rw [List.length_drop]; omega
            refine callSub 4 (0 + (i : Int).toNat) ((u.length : Int) - i).toNat rfl (by omega) (args' := [.a (.agg [.i G.st, .i G.start, .sl 2 1 0 G.fin.length G.capF, .sl 3 5 0 G.arcs.length G.capA]), .c (.sl 10 1 0 ((u.length : Int) - i).toNat (cu - (i : Int).toNat)), .c (.sl 5 1 (0 + (o : Int).toNat) ((v.length : Int) - o).toNat (cv - (o : Int).toNat))]) (fun β => by simp [SV.den, SA.den, SC.den, Env.add, appN, ptrs, EK.sz, adr_zero, Option.map_map, Function.comp_def]) ?_
            (conv => whnf)
            refine callSub 5 (0 + (o : Int).toNat) ((v.length : Int) - o).toNat rfl (by omega) (args' := [.a (.agg [.i G.st, .i G.start, .sl 2 1 0 G.fin.length G.capF, .sl 3 5 0 G.arcs.length G.capA]), .c (.sl 10 1 0 ((u.length : Int) - i).toNat (cu - (i : Int).toNat)), .c (.sl 11 1 0 ((v.length : Int) - o).toNat (cv - (o : Int).toNat))]) (fun β => by simp [SV.den, SA.den, SC.den, Env.add, appN, ptrs, EK.sz, adr_zero, Option.map_map, Function.comp_def]) ?_
            (conv => whnf)
            rw [hsu, hsv]
            generalize hue : u.drop i = u' at *
            generalize hve : v.drop o = v' at *
            refine callF (scoreOf_m G u' v' (cu - (i : Int).toNat) (cv - (o : Int).toNat) hG hlu2 hlv2) [2, 3, 10, 11] Try.call12 rfl (by simp [eqLs, eqL, eqO, eqC, eqCs, rn, renOf, look_cons, look, EK.cast, hlu, hlv]) (by simp [appN, ptrs, eqVL, eqV, eqA, eqC, eqCs, eqAs, eqCaps, EK.sz, rn, renOf, look_cons, look, arcV, fV, hlu, hlv]) (by simp [appN, ptrs, SV.lt, SA.lt, SC.lt, arcV, fV, lenN]) ?_
            rintro _ _ ⟨q, hq, hqb, rfl, rfl⟩
            have hql := hq.low
            have hpi : InI (((rowA m (rows.getD (0 + (i : Int).toNat) EK.sli.dflt).a).getD (o : Int).toNat EK.int.dflt) + q) := by unfold InI; omega
            repeat' (first | exact rfl | ((conv => whnf); first | ((first | refine qA (fun h => ?_) fun h => ?_ | refine qN (fun h => ?_) fun h => ?_ | refine qB (fun h => ?_) fun h => ?_ | refine qC (fun h => ?_) fun h => ?_) <;> try exact absurd h (by omega)) | refine qM (fun h => ?_) fun h => ?_ | refine oM (by (first | omega | (simp only [lenS, InI, nmin, EK.sz]; omega) | (simp only [lenS, InI, nmin, EK.sz] at *; omega))) ?_ | refine oM ?_ ?_ | refine bM ?_ ?_ | refine draw_of Try.mixed Try.tyOk 60 (by kernel_rfl) ?_ | intro _))
            (conv => whnf)
            refine callI (plus_c ((rowA m (rows.getD (0 + (i : Int).toNat) EK.sli.dflt).a).getD (o : Int).toNat EK.int.dflt) q hpi) [] Try.call67 rfl trivial (by simp [appN, ptrs, eqVL, eqV, eqA, eqC, eqCs, eqAs, eqCaps, EK.sz, rn, renOf, look_cons, look, arcV, fV]) (by simp [appN, ptrs, SV.lt, SA.lt, SC.lt, arcV, fV]) ?_
            repeat' (first | exact rfl | ((conv => whnf); first | ((first | refine qA (fun h => ?_) fun h => ?_ | refine qN (fun h => ?_) fun h => ?_ | refine qB (fun h => ?_) fun h => ?_ | refine qC (fun h => ?_) fun h => ?_) <;> try exact absurd h (by omega)) | refine qM (fun h => ?_) fun h => ?_ | refine oM (by (first | omega | (simp only [lenS, InI, nmin, EK.sz]; omega) | (simp only [lenS, InI, nmin, EK.sz] at *; omega))) ?_ | refine oM ?_ ?_ | refine bM ?_ ?_ | refine draw_of Try.mixed Try.tyOk 60 (by kernel_rfl) ?_ | intro _))
            (conv => whnf)
            refine callI (less_c best (plus ((rowA m (rows.getD (0 + (i : Int).toNat) EK.sli.dflt).a).getD (o : Int).toNat EK.int.dflt) q)) [] Try.call42 rfl trivial (by simp [appN, ptrs, eqVL, eqV, eqA, eqC, eqCs, eqAs, eqCaps, EK.sz, rn, renOf, look_cons, look, arcV, fV]) (by simp [appN, ptrs, SV.lt, SA.lt, SC.lt, arcV, fV]) ?_
            repeat' (first | exact rfl | ((conv => whnf); first | ((first | refine qA (fun h => ?_) fun h => ?_ | refine qN (fun h => ?_) fun h => ?_ | refine qB (fun h => ?_) fun h => ?_ | refine qC (fun h => ?_) fun h => ?_) <;> try exact absurd h (by omega)) | refine qM (fun h => ?_) fun h => ?_ | refine oM (by (first | omega | (simp only [lenS, InI, nmin, EK.sz]; omega) | (simp only [lenS, InI, nmin, EK.sz] at *; omega))) ?_ | refine oM ?_ ?_ | refine bM ?_ ?_ | refine draw_of Try.mixed Try.tyOk 60 (by kernel_rfl) ?_ | intro _))
            (conv => whnf)
            rw [← hue, ← hve] at hq
            refine ⟨(o + 1, less best (plus ((rowA m (rows.getD (0 + (i : Int).toNat) EK.sli.dflt).a).getD (o : Int).toNat EK.int.dflt) q)), [], ⟨by rfl, ?_, ?_⟩, ⟨by simp only; omega, lexP_step hmin gp'.1 hq, ?_⟩, by simp only; omega⟩
            · simp [eqFr, eqHp, eqV, eqA, eqC, eqO, eqCs, eqAs, look_cons, look, rn, EK.cast, EK.sz, eqCaps]
            · simp [eqFr, eqHp, eqV, eqA, eqC, eqO, eqCs, eqAs, look_cons, look, rn, EK.cast, EK.sz, eqCaps]
            · have h3 : plus ((rowA m (rows.getD (0 + (i : Int).toNat) EK.sli.dflt).a).getD (o : Int).toNat EK.int.dflt) q ≤ 2000000000000000 := by unfold plus; split <;> omega
              rcases (less_spec best (plus ((rowA m (rows.getD (0 + (i : Int).toNat) EK.sli.dflt).a).getD (o : Int).toNat EK.int.dflt) q)).2.2 with e | e <;> simp only [e] <;> omega
          · have hsu : sub u (0 + (i : Int).toNat) ((u.length : Int) - i).toNat = u.drop i := drop_sub (.inl (by omega)) (by omega)
            have hsv : sub v (0) ((v.length : Int) - o).toNat = v.drop o := drop_sub (.inr (by omega)) (by omega)
            have hlu : (u.drop i).length = ((u.length : Int) - i).toNat := by rw [List.length_drop]; omega
            have hlv : (v.drop o).length = ((v.length : Int) - o).toNat := by rw [List.length_drop]; omega
            have hlu2 : (u.drop i).length ≤ 40 := by rw [List.length_drop]; omega
            have hlv2 : (v.drop o).length ≤ 40 := by rw [List.length_drop]; omega
            refine callSub 4 (0 + (i : Int).toNat) ((u.length : Int) - i).toNat rfl (by omega) (args' := [.a (.agg [.i G.st, .i G.start, .sl 2 1 0 G.fin.length G.capF, .sl 3 5 0 G.arcs.length G.capA]), .c (.sl 10 1 0 ((u.length : Int) - i).toNat (cu - (i : Int).toNat)), .c (.sl 5 1 (0) ((v.length : Int) - o).toNat (cv - (o : Int).toNat))]) (fun β => by simp [SV.den, SA.den, SC.den, Env.add, appN, ptrs, EK.sz, adr_zero, Option.map_map, Function.comp_def]) ?_
            (conv => whnf)
            refine callSub 5 (0) ((v.length : Int) - o).toNat rfl (by omega) (args' := [.a (.agg [.i G.st, .i G.start, .sl 2 1 0 G.fin.length G.capF, .sl 3 5 0 G.arcs.length G.capA]), .c (.sl 10 1 0 ((u.length : Int) - i).toNat (cu - (i : Int).toNat)), .c (.sl 11 1 0 ((v.length : Int) - o).toNat (cv - (o : Int).toNat))]) (fun β => by simp [SV.den, SA.den, SC.den, Env.add, appN, ptrs, EK.sz, adr_zero, Option.map_map, Function.comp_def]) ?_
            (conv => whnf)
            rw [hsu, hsv]
            generalize hue : u.drop i = u' at *
            generalize hve : v.drop o = v' at *
            refine callF (scoreOf_m G u' v' (cu - (i : Int).toNat) (cv - (o : Int).toNat) hG hlu2 hlv2) [2, 3, 10, 11] Try.call12 rfl (by simp [eqLs, eqL, eqO, eqC, eqCs, rn, renOf, look_cons, look, EK.cast, hlu, hlv]) (by simp [appN, ptrs, eqVL, eqV, eqA, eqC, eqCs, eqAs, eqCaps, EK.sz, rn, renOf, look_cons, look, arcV, fV, hlu, hlv]) (by simp [appN, ptrs, SV.lt, SA.lt, SC.lt, arcV, fV, lenN]) ?_
            rintro _ _ ⟨q, hq, hqb, rfl, rfl⟩
            have hql := hq.low
            have hpi : InI (((rowA m (rows.getD (0 + (i : Int).toNat) EK.sli.dflt).a).getD (o : Int).toNat EK.int.dflt) + q) := by unfold InI; omega
            repeat' (first | exact rfl | ((conv => whnf); first | ((first | refine qA (fun h => ?_) fun h => ?_ | refine qN (fun h => ?_) fun h => ?_ | refine qB (fun h => ?_) fun h => ?_ | refine qC (fun h => ?_) fun h => ?_) <;> try exact absurd h (by omega)) | refine qM (fun h => ?_) fun h => ?_ | refine oM (by (first | omega | (simp only [lenS, InI, nmin, EK.sz]; omega) | (simp only [lenS, InI, nmin, EK.sz] at *; omega))) ?_ | refine oM ?_ ?_ | refine bM ?_ ?_ | refine draw_of Try.mixed Try.tyOk 60 (by kernel_rfl) ?_ | intro _))
            (conv => whnf)
            refine callI (plus_c ((rowA m (rows.getD (0 + (i : Int).toNat) EK.sli.dflt).a).getD (o : Int).toNat EK.int.dflt) q hpi) [] Try.call67 rfl trivial (by simp [appN, ptrs, eqVL, eqV, eqA, eqC, eqCs, eqAs, eqCaps, EK.sz, rn, renOf, look_cons, look, arcV, fV]) (by simp [appN, ptrs, SV.lt, SA.lt, SC.lt, arcV, fV]) ?_
            repeat' (first | exact rfl | ((conv => whnf); first | ((first | refine qA (fun h => ?_) fun h => ?_ | refine qN (fun h => ?_) fun h => ?_ | refine qB (fun h => ?_) fun h => ?_ | refine qC (fun h => ?_) fun h => ?_) <;> try exact absurd h (by omega)) | refine qM (fun h => ?_) fun h => ?_ | refine oM (by (first | omega | (simp only [lenS, InI, nmin, EK.sz]; omega) | (simp only [lenS, InI, nmin, EK.sz] at *; omega))) ?_ | refine oM ?_ ?_ | refine bM ?_ ?_ | refine draw_of Try.mixed Try.tyOk 60 (by kernel_rfl) ?_ | intro _))
            (conv => whnf)
            refine callI (less_c best (plus ((rowA m (rows.getD (0 + (i : Int).toNat) EK.sli.dflt).a).getD (o : Int).toNat EK.int.dflt) q)) [] Try.call42 rfl trivial (by simp [appN, ptrs, eqVL, eqV, eqA, eqC, eqCs, eqAs, eqCaps, EK.sz, rn, renOf, look_cons, look, arcV, fV]) (by simp [appN, ptrs, SV.lt, SA.lt, SC.lt, arcV, fV]) ?_
            repeat' (first | exact rfl | ((conv => whnf); first | ((first | refine qA (fun h => ?_) fun h => ?_ | refine qN (fun h => ?_) fun h => ?_ | refine qB (fun h => ?_) fun h => ?_ | refine qC (fun h => ?_) fun h => ?_) <;> try exact absurd h (by omega)) | refine qM (fun h => ?_) fun h => ?_ | refine oM (by (first | omega | (simp only [lenS, InI, nmin, EK.sz]; omega) | (simp only [lenS, InI, nmin, EK.sz] at *; omega))) ?_ | refine oM ?_ ?_ | refine bM ?_ ?_ | refine draw_of Try.mixed Try.tyOk 60 (by kernel_rfl) ?_ | intro _))
            (conv => whnf)
            rw [← hue, ← hve] at hq
            refine ⟨(o + 1, less best (plus ((rowA m (rows.getD (0 + (i : Int).toNat) EK.sli.dflt).a).getD (o : Int).toNat EK.int.dflt) q)), [], ⟨by rfl, ?_, ?_⟩, ⟨by simp only; omega, lexP_step hmin gp'.1 hq, ?_⟩, by simp only; omega⟩
            · simp [eqFr, eqHp, eqV, eqA, eqC, eqO, eqCs, eqAs, look_cons, look, rn, EK.cast, EK.sz, eqCaps]
            · simp [eqFr, eqHp, eqV, eqA, eqC, eqO, eqCs, eqAs, look_cons, look, rn, EK.cast, EK.sz, eqCaps]
            · have h3 : plus ((rowA m (rows.getD (0 + (i : Int).toNat) EK.sli.dflt).a).getD (o : Int).toNat EK.int.dflt) q ≤ 2000000000000000 := by unfold plus; split <;> omega
              rcases (less_spec best (plus ((rowA m (rows.getD (0 + (i : Int).toNat) EK.sli.dflt).a).getD (o : Int).toNat EK.int.dflt) q)).2.2 with e | e <;> simp only [e] <;> omega
          · have hsu : sub u (0) ((u.length : Int) - i).toNat = u.drop i := drop_sub (.inr (by omega)) (by omega)
            have hsv : sub v (0 + (o : Int).toNat) ((v.length : Int) - o).toNat = v.drop o := drop_sub (.inl (by omega)) (by omega)
            have hlu : (u.drop i).length = ((u.length : Int) - i).toNat := by rw [List.length_drop]; omega
            have hlv : (v.drop o).length = ((v.length : Int) - o).toNat := by rw [List.length_drop]; omega
            have hlu2 : (u.drop i).length ≤ 40 := by rw [List.length_drop]; omega
            have hlv2 : (v.drop o).length ≤ 40 := by rw [List.length_drop]; omega
            refine callSub 4 (0) ((u.length : Int) - i).toNat rfl (by omega) (args' := [.a (.agg [.i G.st, .i G.start, .sl 2 1 0 G.fin.length G.capF, .sl 3 5 0 G.arcs.length G.capA]), .c (.sl 10 1 0 ((u.length : Int) - i).toNat (cu - (i : Int).toNat)), .c (.sl 5 1 (0 + (o : Int).toNat) ((v.length : Int) - o).toNat (cv - (o : Int).toNat))]) (fun β => by simp [SV.den, SA.den, SC.den, Env.add, appN, ptrs, EK.sz, adr_zero, Option.map_map, Function.comp_def]) ?_
            (conv => whnf)
            refine callSub 5 (0 + (o : Int).toNat) ((v.length : Int) - o).toNat rfl (by omega) (args' := [.a (.agg [.i G.st, .i G.start, .sl 2 1 0 G.fin.length G.capF, .sl 3 5 0 G.arcs.length G.capA]), .c (.sl 10 1 0 ((u.length : Int) - i).toNat (cu - (i : Int).toNat)), .c (.sl 11 1 0 ((v.length : Int) - o).toNat (cv - (o : Int).toNat))]) (fun β => by simp [SV.den, SA.den, SC.den, Env.add, appN, ptrs, EK.sz, adr_zero, Option.map_map, Function.comp_def]) ?_
            (conv => whnf)
            rw [hsu, hsv]
            generalize hue : u.drop i = u' at *
            generalize hve : v.drop o = v' at *
            refine callF (scoreOf_m G u' v' (cu - (i : Int).toNat) (cv - (o : Int).toNat) hG hlu2 hlv2) [2, 3, 10, 11] Try.call12 rfl (by simp [eqLs, eqL, eqO, eqC, eqCs, rn, renOf, look_cons, look, EK.cast, hlu, hlv]) (by simp [appN, ptrs, eqVL, eqV, eqA, eqC, eqCs, eqAs, eqCaps, EK.sz, rn, renOf, look_cons, look, arcV, fV, hlu, hlv]) (by simp [appN, ptrs, SV.lt, SA.lt, SC.lt, arcV, fV, lenN]) ?_
            rintro _ _ ⟨q, hq, hqb, rfl, rfl⟩
            have hql := hq.low
            have hpi : InI (((rowA m (rows.getD (0 + (i : Int).toNat) EK.sli.dflt).a).getD (o : Int).toNat EK.int.dflt) + q) := by unfold InI; omega
            repeat' (first | exact rfl | ((conv => whnf); first | ((first | refine qA (fun h => ?_) fun h => ?_ | refine qN (fun h => ?_) fun h => ?_ | refine qB (fun h => ?_) fun h => ?_ | refine qC (fun h => ?_) fun h => ?_) <;> try exact absurd h (by omega)) | refine qM (fun h => ?_) fun h => ?_ | refine oM (by (first | omega | (simp only [lenS, InI, nmin, EK.sz]; omega) | (simp only [lenS, InI, nmin, EK.sz] at *; omega))) ?_ | refine oM ?_ ?_ | refine bM ?_ ?_ | refine draw_of Try.mixed Try.tyOk 60 (by kernel_rfl) ?_ | intro _))
            (conv => whnf)
            refine callI (plus_c ((rowA m (rows.getD (0 + (i : Int).toNat) EK.sli.dflt).a).getD (o : Int).toNat EK.int.dflt) q hpi) [] Try.call67 rfl trivial (by simp [appN, ptrs, eqVL, eqV, eqA, eqC, eqCs, eqAs, eqCaps, EK.sz, rn, renOf, look_cons, look, arcV, fV]) (by simp [appN, ptrs, SV.lt, SA.lt, SC.lt, arcV, fV]) ?_
            repeat' (first | exact rfl | ((conv => whnf); first | ((first | refine qA (fun h => ?_) fun h => ?_ | refine qN (fun h => ?_) fun h => ?_ | refine qB (fun h => ?_) fun h => ?_ | refine qC (fun h => ?_) fun h => ?_) <;> try exact absurd h (by omega)) | refine qM (fun h => ?_) fun h => ?_ | refine oM (by (first | omega | (simp only [lenS, InI, nmin, EK.sz]; omega) | (simp only [lenS, InI, nmin, EK.sz] at *; omega))) ?_ | refine oM ?_ ?_ | refine bM ?_ ?_ | refine draw_of Try.mixed Try.tyOk 60 (by kernel_rfl) ?_ | intro _))
            (conv => whnf)
            refine callI (less_c best (plus ((rowA m (rows.getD (0 + (i : Int).toNat) EK.sli.dflt).a).getD (o : Int).toNat EK.int.dflt) q)) [] Try.call42 rfl trivial (by simp [appN, ptrs, eqVL, eqV, eqA, eqC, eqCs, eqAs, eqCaps, EK.sz, rn, renOf, look_cons, look, arcV, fV]) (by simp [appN, ptrs, SV.lt, SA.lt, SC.lt, arcV, fV]) ?_
            repeat' (first | exact rfl | ((conv => whnf); first | ((first | refine qA (fun h => ?_) fun h => ?_ | refine qN (fun h => ?_) fun h => ?_ | refine qB (fun h => ?_) fun h => ?_ | refine qC (fun h => ?_) fun h => ?_) <;> try exact absurd h (by omega)) | refine qM (fun h => ?_) fun h => ?_ | refine oM (by (first | omega | (simp only [lenS, InI, nmin, EK.sz]; omega) | (simp only [lenS, InI, nmin, EK.sz] at *; omega))) ?_ | refine oM ?_ ?_ | refine bM ?_ ?_ | refine draw_of Try.mixed Try.tyOk 60 (by kernel_rfl) ?_ | intro _))
            (conv => whnf)
            rw [← hue, ← hve] at hq
            refine ⟨(o + 1, less best (plus ((rowA m (rows.getD (0 + (i : Int).toNat) EK.sli.dflt).a).getD (o : Int).toNat EK.int.dflt) q)), [], ⟨by rfl, ?_, ?_⟩, ⟨by simp only; omega, lexP_step hmin gp'.1 hq, ?_⟩, by simp only; omega⟩
            · simp [eqFr, eqHp, eqV, eqA, eqC, eqO, eqCs, eqAs, look_cons, look, rn, EK.cast, EK.sz, eqCaps]
            · simp [eqFr, eqHp, eqV, eqA, eqC, eqO, eqCs, eqAs, look_cons, look, rn, EK.cast, EK.sz, eqCaps]
            · have h3 : plus ((rowA m (rows.getD (0 + (i : Int).toNat) EK.sli.dflt).a).getD (o : Int).toNat EK.int.dflt) q ≤ 2000000000000000 := by unfold plus; split <;> omega
              rcases (less_spec best (plus ((rowA m (rows.getD (0 + (i : Int).toNat) EK.sli.dflt).a).getD (o : Int).toNat EK.int.dflt) q)).2.2 with e | e <;> simp only [e] <;> omega
          · have hsu : sub u (0) ((u.length : Int) - i).toNat = u.drop i := drop_sub (.inr (by omega)) (by omega)
            have hsv : sub v (0) ((v.length : Int) - o).toNat = v.drop o := drop_sub (.inr (by omega)) (by omega)
            have hlu : (u.drop i).length = ((u.length : Int) - i).toNat := by rw [List.length_drop]; omega
            have hlv : (v.drop o).length = ((v.length : Int) - o).toNat := by rw [List.length_drop]; omega
            have hlu2 : (u.drop i).length ≤ 40 := by rw [List.length_drop]; omega
            have hlv2 : (v.drop o).length ≤ 40 := by rw [List.length_drop]; omega
            refine callSub 4 (0) ((u.length : Int) - i).toNat rfl (by omega) (args' := [.a (.agg [.i G.st, .i G.start, .sl 2 1 0 G.fin.length G.capF, .sl 3 5 0 G.arcs.length G.capA]), .c (.sl 10 1 0 ((u.length : Int) - i).toNat (cu - (i : Int).toNat)), .c (.sl 5 1 (0) ((v.length : Int) - o).toNat (cv - (o : Int).toNat))]) (fun β => by simp [SV.den, SA.den, SC.den, Env.add, appN, ptrs, EK.sz, adr_zero, Option.map_map, Function.comp_def]) ?_
            (conv => whnf)
            refine callSub 5 (0) ((v.length : Int) - o).toNat rfl (by omega) (args' := [.a (.agg [.i G.st, .i G.start, .sl 2 1 0 G.fin.length G.capF, .sl 3 5 0 G.arcs.length G.capA]), .c (.sl 10 1 0 ((u.length : Int) - i).toNat (cu - (i : Int).toNat)), .c (.sl 11 1 0 ((v.length : Int) - o).toNat (cv - (o : Int).toNat))]) (fun β => by simp [SV.den, SA.den, SC.den, Env.add, appN, ptrs, EK.sz, adr_zero, Option.map_map, Function.comp_def]) ?_
            (conv => whnf)
            rw [hsu, hsv]
            generalize hue : u.drop i = u' at *
            generalize hve : v.drop o = v' at *
            refine callF (scoreOf_m G u' v' (cu - (i : Int).toNat) (cv - (o : Int).toNat) hG hlu2 hlv2) [2, 3, 10, 11] Try.call12 rfl (by simp [eqLs, eqL, eqO, eqC, eqCs, rn, renOf, look_cons, look, EK.cast, hlu, hlv]) (by simp [appN, ptrs, eqVL, eqV, eqA, eqC, eqCs, eqAs, eqCaps, EK.sz, rn, renOf, look_cons, look, arcV, fV, hlu, hlv]) (by simp [appN, ptrs, SV.lt, SA.lt, SC.lt, arcV, fV, lenN]) ?_
            rintro _ _ ⟨q, hq, hqb, rfl, rfl⟩
            have hql := hq.low
            have hpi : InI (((rowA m (rows.getD (0 + (i : Int).toNat) EK.sli.dflt).a).getD (o : Int).toNat EK.int.dflt) + q) := by unfold InI; omega
            repeat' (first | exact rfl | ((conv => whnf); first | ((first | refine qA (fun h => ?_) fun h => ?_ | refine qN (fun h => ?_) fun h => ?_ | refine qB (fun h => ?_) fun h => ?_ | refine qC (fun h => ?_) fun h => ?_) <;> try exact absurd h (by omega)) | refine qM (fun h => ?_) fun h => ?_ | refine oM (by (first | omega | (simp only [lenS, InI, nmin, EK.sz]; omega) | (simp only [lenS, InI, nmin, EK.sz] at *; omega))) ?_ | refine oM ?_ ?_ | refine bM ?_ ?_ | refine draw_of Try.mixed Try.tyOk 60 (by kernel_rfl) ?_ | intro _))
            (conv => whnf)
            refine callI (plus_c ((rowA m (rows.getD (0 + (i : Int).toNat) EK.sli.dflt).a).getD (o : Int).toNat EK.int.dflt) q hpi) [] Try.call67 rfl trivial (by simp [appN, ptrs, eqVL, eqV, eqA, eqC, eqCs, eqAs, eqCaps, EK.sz, rn, renOf, look_cons, look, arcV, fV]) (by simp [appN, ptrs, SV.lt, SA.lt, SC.lt, arcV, fV]) ?_
            repeat' (first | exact rfl | ((conv => whnf); first | ((first | refine qA (fun h => ?_) fun h => ?_ | refine qN (fun h => ?_) fun h => ?_ | refine qB (fun h => ?_) fun h => ?_ | refine qC (fun h => ?_) fun h => ?_) <;> try exact absurd h (by omega)) | refine qM (fun h => ?_) fun h => ?_ | refine oM (by (first | omega | (simp only [lenS, InI, nmin, EK.sz]; omega) | (simp only [lenS, InI, nmin, EK.sz] at *; omega))) ?_ | refine oM ?_ ?_ | refine bM ?_ ?_ | refine draw_of Try.mixed Try.tyOk 60 (by kernel_rfl) ?_ | intro _))
            (conv => whnf)
            refine callI (less_c best (plus ((rowA m (rows.getD (0 + (i : Int).toNat) EK.sli.dflt).a).getD (o : Int).toNat EK.int.dflt) q)) [] Try.call42 rfl trivial (by simp [appN, ptrs, eqVL, eqV, eqA, eqC, eqCs, eqAs, eqCaps, EK.sz, rn, renOf, look_cons, look, arcV, fV]) (by simp [appN, ptrs, SV.lt, SA.lt, SC.lt, arcV, fV]) ?_
            repeat' (first | exact rfl | ((conv => whnf); first | ((first | refine qA (fun h => ?_) fun h => ?_ | refine qN (fun h => ?_) fun h => ?_ | refine qB (fun h => ?_) fun h => ?_ | refine qC (fun h => ?_) fun h => ?_) <;> try exact absurd h (by omega)) | refine qM (fun h => ?_) fun h => ?_ | refine oM (by (first | omega | (simp only [lenS, InI, nmin, EK.sz]; omega) | (simp only [lenS, InI, nmin, EK.sz] at *; omega))) ?_ | refine oM ?_ ?_ | refine bM ?_ ?_ | refine draw_of Try.mixed Try.tyOk 60 (by kernel_rfl) ?_ | intro _))
            (conv => whnf)
            rw [← hue, ← hve] at hq
            refine ⟨(o + 1, less best (plus ((rowA m (rows.getD (0 + (i : Int).toNat) EK.sli.dflt).a).getD (o : Int).toNat EK.int.dflt) q)), [], ⟨by rfl, ?_, ?_⟩, ⟨by simp only; omega, lexP_step hmin gp'.1 hq, ?_⟩, by simp only; omega⟩
            · simp [eqFr, eqHp, eqV, eqA, eqC, eqO, eqCs, eqAs, look_cons, look, rn, EK.cast, EK.sz, eqCaps]
            · simp [eqFr, eqHp, eqV, eqA, eqC, eqO, eqCs, eqAs, look_cons, look, rn, EK.cast, EK.sz, eqCaps]
            · have h3 : plus ((rowA m (rows.getD (0 + (i : Int).toNat) EK.sli.dflt).a).getD (o : Int).toNat EK.int.dflt) q ≤ 2000000000000000 := by unfold plus; split <;> omega
              rcases (less_spec best (plus ((rowA m (rows.getD (0 + (i : Int).toNat) EK.sli.dflt).a).getD (o : Int).toNat EK.int.dflt) q)).2.2 with e | e <;> simp only [e] <;> omega
          · refine ⟨(o + 1, best), [], ⟨by rfl, ?_, ?_⟩, ⟨by simp only; omega, lexP_skip hmin gp'.1 (by omega), hbd⟩, by simp only; omega⟩
            · simp [eqFr, eqHp, eqV, eqA, eqC, eqO, eqCs, eqAs, look_cons, look, rn, EK.cast, EK.sz, eqCaps]
            · simp [eqFr, eqHp, eqV, eqA, eqC, eqO, eqCs, eqAs, look_cons, look, rn, EK.cast, EK.sz, eqCaps]
        · have e : o = v.length + 1 := by omega
          subst e
          repeat' (first | exact rfl | ((conv => whnf); first | ((first | refine qA (fun h => ?_) fun h => ?_ | refine qN (fun h => ?_) fun h => ?_ | refine qB (fun h => ?_) fun h => ?_ | refine qC (fun h => ?_) fun h => ?_) <;> try exact absurd h (by omega)) | refine qM (fun h => ?_) fun h => ?_ | refine oM (by (first | omega | (simp only [lenS, InI, nmin, EK.sz]; omega) | (simp only [lenS, InI, nmin, EK.sz] at *; omega))) ?_ | refine oM ?_ ?_ | refine bM ?_ ?_ | refine draw_of Try.mixed Try.tyOk 60 (by kernel_rfl) ?_ | intro _))
          (conv => whnf)
          refine ⟨(i + 1, best), [], ⟨by rfl, ?_, ?_⟩, ⟨by simp only; omega, hmin.cong fun c => lexP_row, hbd⟩, by simp only; omega⟩
          · simp [eqFr, eqHp, eqV, eqA, eqC, eqO, eqCs, eqAs, look_cons, look, rn, EK.cast, EK.sz, eqCaps]
          · simp [eqFr, eqHp, eqV, eqA, eqC, eqO, eqCs, eqAs, look_cons, look, rn, EK.cast, EK.sz, eqCaps]
    · have e : i = u.length + 1 := by omega
      subst e
      repeat' (first | exact rfl | ((conv => whnf); first | ((first | refine qA (fun h => ?_) fun h => ?_ | refine qN (fun h => ?_) fun h => ?_ | refine qB (fun h => ?_) fun h => ?_ | refine qC (fun h => ?_) fun h => ?_) <;> try exact absurd h (by omega)) | refine qM (fun h => ?_) fun h => ?_ | refine oM (by (first | omega | (simp only [lenS, InI, nmin, EK.sz]; omega) | (simp only [lenS, InI, nmin, EK.sz] at *; omega))) ?_ | refine oM ?_ ?_ | refine bM ?_ ?_ | refine draw_of Try.mixed Try.tyOk 60 (by kernel_rfl) ?_ | intro _))
      (conv => whnf)
      exact ⟨[], [], 6, .i best, ⟨by rfl, trivial, trivial⟩, by simp [eqV, eqA, eqC], best, hmin.cong fun c => lexP_all, rfl, rfl⟩
end Go.Fw

namespace Go.Fw
open Go Go.Proofs

/-- Rows in a pool, none on another. -/
structure Tab2 (m : List (Addr × List Int × Nat)) (rows : List Sli) (N : Nat) (L : Nat → List Int) : Prop where
  len : rows.length = N
  hd : ∀ j, j < N → Hd m (rows.getD j EK.sli.dflt)
  row : ∀ j, j < N → rowA m (rows.getD j EK.sli.dflt).a = L j
  dist : ∀ s t b, s < N → t < N → s ≠ t → (rows.getD s EK.sli.dflt).a = some b → (rows.getD t EK.sli.dflt).a ≠ some b

section
variable {m m' : List (Addr × List Int × Nat)} {rows : List Sli} {N : Nat} {L : Nat → List Int}

theorem keepHd {x : Sli} (h : Hd m x) (hk : ∀ b, x.a = some b → lkA m' b = lkA m b) : Hd m' x ∧ rowA m' x.a = rowA m x.a := by
  cases hx : x.a with
  | none =>
    refine ⟨?_, rfl⟩
    unfold Hd at h ⊢
    rw [hx] at h ⊢
    exact h
  | some b =>
    obtain ⟨y, h1, h2, h3⟩ := h.some hx
    have e := hk b hx
    exact ⟨Hd.of_some hx (by rw [e]; exact h1) h2 h3, rowA_congr e⟩

theorem Tab2.keep (h : Tab2 m rows N L) (hk : ∀ j b, j < N → (rows.getD j EK.sli.dflt).a = some b → lkA m' b = lkA m b) : Tab2 m' rows N L :=
  ⟨h.len, fun j hj => (keepHd (h.hd j hj) fun b hb => hk j b hj hb).1, fun j hj => by rw [(keepHd (h.hd j hj) fun b hb => hk j b hj hb).2]; exact h.row j hj, h.dist⟩

theorem Tab2.app (h : Tab2 m rows N L) {j : Nat} {n : Int} {h' : Sli} (hj : j < N) (ha : App m (rows.getD j EK.sli.dflt) [n] m' h') :
    Tab2 m' (rows.set j h') N (fun i => if i = j then L j ++ [n] else L i) := by
  have hl := h.len
  have hjr : j < rows.length := by omega
  generalize hx : rows.getD j EK.sli.dflt = x at ha
  have hdj := h.hd j hj
  have hrj := h.row j hj
  rw [hx] at hdj hrj
  cases ha with
  | stay h => cases h
  | @room a y sp h1 h2 h3 =>
    obtain ⟨y', g1, g2, g3⟩ := hdj.some h1
    rw [h2] at g1
    cases g1
    have hla : lkA (setA m a (y.1 ++ [n], sp)) a = some (y.1 ++ [n], sp) := by rw [lkA_setA, h2]; simp
    have hlb : ∀ b, b ≠ a → lkA (setA m a (y.1 ++ [n], sp)) b = lkA m b := by
      intro b hb
      rw [lkA_setA]
      simp only [hb, if_false]
      cases lkA m b <;> rfl
    have hoth : ∀ s, s < N → s ≠ j → ∀ b, (rows.getD s EK.sli.dflt).a = some b → b ≠ a := by
      intro s hs hsj b hb e
      subst e
      exact h.dist s j b hs hj hsj hb (by rw [hx]; exact h1)
    refine ⟨by rw [List.length_set]; exact hl, ?_, ?_, ?_⟩
    · intro s hs
      rw [getD_setJ _ _ _ _ _ hjr]
      by_cases e : s = j
      · rw [if_pos e]
        refine Hd.of_some rfl hla ?_ ?_
        · simp [g2]
        · simp only [List.length_append, List.length_cons, List.length_nil]
          simp only [List.length_cons, List.length_nil] at h3
          omega
      · rw [if_neg e]
        exact (keepHd (h.hd s hs) fun b hb => hlb b (hoth s hs e b hb)).1
    · intro s hs
      rw [getD_setJ _ _ _ _ _ hjr]
      by_cases e : s = j
      · rw [if_pos e, if_pos e, ← hrj, rowA_some hla, h1, rowA_some h2]
      · rw [if_neg e, if_neg e, ← h.row s hs]
        exact (keepHd (h.hd s hs) fun b hb => hlb b (hoth s hs e b hb)).2
    · intro s t b hs ht hst hb hc
      rw [getD_setJ _ _ _ _ _ hjr] at hb hc
      by_cases es : s = j
      · rw [if_pos es] at hb
        rw [if_neg (fun e => hst (es.trans e.symm))] at hc
        simp only [Option.some.injEq] at hb
        subst hb
        exact hoth t ht (fun e => hst (es.trans e.symm)) _ hc rfl
      · rw [if_neg es] at hb
        by_cases et : t = j
        · rw [if_pos et] at hc
          simp only [Option.some.injEq] at hc
          subst hc
          exact hoth s hs es _ hb rfl
        · rw [if_neg et] at hc
          exact h.dist s t b hs ht hst hb hc
  | @fresh a sp h1 h2 =>
    have hlb : ∀ b, b ≠ a → lkA ((a, rowA m x.a ++ [n], sp) :: m) b = lkA m b := fun b hb => by simp only [lkA, if_neg (Ne.symm hb)]
    have hla : lkA ((a, rowA m x.a ++ [n], sp) :: m) a = some (rowA m x.a ++ [n], sp) := by simp [lkA]
    have hoth : ∀ s, s < N → ∀ b, (rows.getD s EK.sli.dflt).a = some b → b ≠ a := by
      intro s hs b hb e
      subst e
      obtain ⟨z, k1, _⟩ := (h.hd s hs).some hb
      rw [h1] at k1
      cases k1
    refine ⟨by rw [List.length_set]; exact hl, ?_, ?_, ?_⟩
    · intro s hs
      rw [getD_setJ _ _ _ _ _ hjr]
      by_cases e : s = j
      · rw [if_pos e]
        refine Hd.of_some rfl hla ?_ ?_
        · simp [hdj.len]
        · simp [hdj.len]
      · rw [if_neg e]
        exact (keepHd (h.hd s hs) fun b hb => hlb b (hoth s hs b hb)).1
    · intro s hs
      rw [getD_setJ _ _ _ _ _ hjr]
      by_cases e : s = j
      · rw [if_pos e, if_pos e, ← hrj]
        exact rowA_some hla
      · rw [if_neg e, if_neg e, ← h.row s hs]
        exact (keepHd (h.hd s hs) fun b hb => hlb b (hoth s hs b hb)).2
    · intro s t b hs ht hst hb hc
      rw [getD_setJ _ _ _ _ _ hjr] at hb hc
      by_cases es : s = j
      · rw [if_pos es] at hb
        rw [if_neg (fun e => hst (es.trans e.symm))] at hc
        simp only [Option.some.injEq] at hb
        exact hoth t ht b hc hb.symm
      · rw [if_neg es] at hb
        by_cases et : t = j
        · rw [if_pos et] at hc
          simp only [Option.some.injEq] at hc
          exact hoth s hs b hb hc.symm
        · rw [if_neg et] at hc
          exact h.dist s t b hs ht hst hb hc

/-- A cell is set. -/
theorem Tab2.put (h : Tab2 m rows N L) {j k : Nat} {n : Int} (hj : j < N) (hk : k < (L j).length) :
    Tab2 (putA m (rows.getD j EK.sli.dflt).a k n) rows N (fun i => if i = j then (L j).set k n else L i) ∧
    ∀ b, (rows.getD j EK.sli.dflt).a ≠ some b → lkA (putA m (rows.getD j EK.sli.dflt).a k n) b = lkA m b := by
  have hrj := h.row j hj
  have hdj := h.hd j hj
  cases hx : (rows.getD j EK.sli.dflt).a with
  | none =>
    rw [hx] at hrj
    rw [← hrj] at hk
    exact absurd hk (by simp [rowA])
  | some a =>
    obtain ⟨y, g1, g2, g3⟩ := hdj.some hx
    have hy : y.1 = L j := by rw [← hrj, hx, rowA_some g1]
    have e : putA m (some a) k n = setA m a (y.1.set k n, y.2) := by unfold putA; simp [g1]
    rw [e]
    have hla : lkA (setA m a (y.1.set k n, y.2)) a = some (y.1.set k n, y.2) := by rw [lkA_setA, g1]; simp
    have hlb : ∀ b, b ≠ a → lkA (setA m a (y.1.set k n, y.2)) b = lkA m b := by
      intro b hb
      rw [lkA_setA]
      simp only [hb, if_false]
      cases lkA m b <;> rfl
    have hoth : ∀ s, s < N → s ≠ j → ∀ b, (rows.getD s EK.sli.dflt).a = some b → b ≠ a := by
      intro s hs hsj b hb e
      subst e
      exact h.dist s j b hs hj hsj hb hx
    refine ⟨⟨h.len, fun s hs => ?_, fun s hs => ?_, h.dist⟩, fun b hb => hlb b fun e => hb (by rw [e])⟩
    · by_cases e : s = j
      · subst e
        refine Hd.of_some hx hla ?_ ?_
        · show _ = (y.1.set k n).length
          rw [List.length_set]; exact g2
        · show _ ≤ (y.1.set k n).length + y.2
          rw [List.length_set]; exact g3
      · exact (keepHd (h.hd s hs) fun b hb => hlb b (hoth s hs e b hb)).1
    · by_cases e : s = j
      · subst e
        rw [if_pos rfl, hx, rowA_some hla, hy]
      · rw [if_neg e, ← h.row s hs]
        exact (keepHd (h.hd s hs) fun b hb => hlb b (hoth s hs e b hb)).2

/-- The pool is joined with another one. -/
theorem Tab2.join (h : Tab2 m rows N L) : Tab2 (m ++ m') rows N L :=
  h.keep fun j b hj hb => by
    obtain ⟨y, g1, _⟩ := (h.hd j hj).some hb
    rw [lkA_append, g1]

theorem Tab2.cong (h : Tab2 m rows N L) {L' : Nat → List Int} (hL : ∀ j, j < N → L j = L' j) : Tab2 m rows N L' := ⟨h.len, h.hd, fun j hj => (h.row j hj).trans (hL j hj), h.dist⟩
end

section
variable {F : TF} {u v : List Int} {m m' : List (Addr × List Int × Nat)} {xs : List Sli} {n : Nat}

theorem PcAt.keep (h : PcAt F u v m xs n) (hk : ∀ j b, j < n → (xs.getD j EK.sli.dflt).a = some b → lkA m' b = lkA m b) : PcAt F u v m' xs n :=
  ⟨h.1, fun i hi => by
    obtain ⟨h1, h2⟩ := keepHd (h.2 i hi).1 (fun b hb => hk i b hi hb)
    exact ⟨h1, by rw [h2]; exact (h.2 i hi).2⟩⟩
end

/-- A row of a table. -/
def rowT (T : Nat → Nat → Int) (n j : Nat) : List Int := (List.range n).map (T j)
theorem rowT_len (T : Nat → Nat → Int) (n j : Nat) : (rowT T n j).length = n := by simp [rowT]
theorem rowT_at (T : Nat → Nat → Int) {n j o : Nat} (h : o < n) : (rowT T n j).getD o 0 = T j o := by simp [rowT, List.getD, h]
theorem rowT_set (T : Nat → Nat → Int) (n j o : Nat) (x : Int) : (rowT T n j).set o x = rowT (up2 T j o x) n j := by
  apply List.ext_getElem
  · simp [rowT]
  · intro k h1 h2
    simp only [rowT, List.getElem_set, List.getElem_map, List.getElem_range, up2]
    by_cases e : o = k
    · subst e; simp
    · rw [if_neg e, if_neg (fun c => e c.2.symm)]
theorem rowT_other (T : Nat → Nat → Int) (n : Nat) {a j : Nat} (o : Nat) (x : Int) (h : j ≠ a) : rowT (up2 T a o x) n j = rowT T n j := by
  unfold rowT
  apply List.map_congr_left
  intro k _
  unfold up2
  rw [if_neg (fun c => h c.1)]

/-- The table of the best of all, in a pool. -/
theorem Tab2.upd {m : List (Addr × List Int × Nat)} {rows : List Sli} {N n : Nat} {T : Nat → Nat → Int} (h : Tab2 m rows N (rowT T n)) {j k : Nat} {x : Int} (hj : j < N) (hk : k < n) :
    Tab2 (putA m (rows.getD j EK.sli.dflt).a k x) rows N (rowT (up2 T j k x) n) ∧ ∀ b, (rows.getD j EK.sli.dflt).a ≠ some b → lkA (putA m (rows.getD j EK.sli.dflt).a k x) b = lkA m b := by
  obtain ⟨h1, h2⟩ := h.put (n := x) hj (by rw [rowT_len]; exact hk)
  refine ⟨h1.cong fun i hi => ?_, h2⟩
  by_cases e : i = j
  · subst e; rw [if_pos rfl, rowT_set]
  · rw [if_neg e, rowT_other T n k x e]
end Go.Fw
