/- Walks of the functions: what each computes. -/
import Derived.Test.YtiejplibehppnaaVi

set_option linter.unusedSimpArgs false
set_option linter.unusedVariables false

namespace Go.Fw
open Go Go.Proofs

/-- A cell's costs as a map. -/
theorem endG_endF {F : TF} {u v : List Int} {S : Trip → Int → Prop} {A : Trip → Option Int} (hF : FOk F) (hA : IsLeast F u v S A) (hS : ∀ x c, S x c → InBox F u v x ∧ 0 ≤ c) {B : Int} {l : List Int} (hl : CellOk F u v S B u.length v.length l) : ∀ k, k ≤ F.st.toNat → endG l F.fin k = (endF A F.fin u.length v.length k).2 ∧ -1 ≤ endG l F.fin k
  | 0, _ => ⟨rfl, Int.le_refl _⟩
  | k + 1, hk => by
    obtain ⟨ih, ih2⟩ := endG_endF hF hA hS hl k (by omega)
    have hfl := hF.finl
    have hfb := hF.fin _ (getD_mem F.fin k 0 (by omega))
    have hlb := hl.bd _ (getD_mem l k 0 (by rw [hl.len]; omega))
    simp only [endG]
    cases hd : A ⟨k, u.length, v.length⟩ with
    | none =>
      have hneg : l.getD k 0 = -1 := by
        by_cases q : 0 ≤ l.getD k 0
        · obtain ⟨c', h1, _⟩ := hA.least _ _ (hl.snd k (by omega) q)
          rw [hd] at h1
          cases h1
        · omega
      rw [endF_none hd, ← ih, hneg]
      have : plus (-1) (F.fin.getD k 0) = -1 := by unfold plus; exact if_pos (.inl (by omega))
      rw [this]
      unfold less
      by_cases q : endG l F.fin k < 0
      · rw [if_pos q]; omega
      · rw [if_neg q, if_pos (.inl (by omega))]; omega
    | some d =>
      have hr := hA.path _ _ hd
      have h1 := hl.cpl k d hr
      have h2 := hl.snd k (by omega) h1.1
      obtain ⟨c', h3, h4⟩ := hA.least _ _ h2
      rw [hd] at h3
      cases h3
      have hld : l.getD k 0 = d := by omega
      by_cases q : F.fin.getD k 0 = -1
      · rw [endF_no hd (.inl q), ← ih, q]
        have : plus (l.getD k 0) (-1) = -1 := by unfold plus; exact if_pos (.inr (by omega))
        rw [this]
        unfold less
        by_cases q : endG l F.fin k < 0
        · rw [if_pos q]; omega
        · rw [if_neg q, if_pos (.inl (by omega))]; omega
      · have hp : plus (l.getD k 0) (F.fin.getD k 0) = d + F.fin.getD k 0 := by unfold plus; rw [if_neg (by omega)]; omega
        rw [hp]
        by_cases q2 : (endF A F.fin u.length v.length k).2 = -1 ∨ d + F.fin.getD k 0 < (endF A F.fin u.length v.length k).2
        · rw [endF_yes hd q q2]
          rw [← ih] at q2
          unfold less
          by_cases q3 : endG l F.fin k < 0
          · rw [if_pos q3]; exact ⟨rfl, by omega⟩
          · rw [if_neg q3, if_neg (by omega)]; exact ⟨rfl, by omega⟩
        · have q4 : (endF A F.fin u.length v.length k).2 ≠ -1 ∧ ¬ d + F.fin.getD k 0 < (endF A F.fin u.length v.length k).2 := ⟨fun c => q2 (.inl c), fun c => q2 (.inr c)⟩
          rw [endF_no hd (.inr q4), ← ih]
          rw [← ih] at q4
          unfold less
          rw [if_neg (by omega)]
          by_cases q5 : d + F.fin.getD k 0 = endG l F.fin k
          · rw [if_neg (by omega)]; omega
          · rw [if_pos (.inr (by omega))]; omega

theorem fromSt_src {F : TF} (hF : FOk F) : fromSt F = srcS F (begun F) := by
  have hs := hF.start
  funext x c
  apply propext
  have hg : ∀ n : Nat, n < F.st.toNat → (begun F).getD n 0 = begF F.start n := by
    intro n hn
    simp [begun, List.getD, hn]
  constructor
  · rintro ⟨rfl, rfl⟩
    refine ⟨rfl, rfl, hs, ?_, Int.le_refl _⟩
    show (begun F).getD F.start.toNat 0 = 0
    rw [hg _ (by omega)]
    unfold begF
    exact if_pos (by omega)
  · rintro ⟨h1, h2, h3, h4, h5⟩
    rw [hg _ (by omega)] at h4
    unfold begF at h4
    split at h4
    · rename_i e
      refine ⟨?_, h4.symm⟩
      obtain ⟨a, b, c⟩ := x
      simp only at *
      unfold st0
      congr 1
      omega
    · omega
end Go.Fw

namespace Go.Fw
open Go Go.Proofs

theorem begun_bd' {F : TF} : ∀ x ∈ begun F, -1 ≤ x ∧ x ≤ 1000000000000 := by
  intro x hx
  obtain ⟨n, _, rfl⟩ := List.mem_map.1 hx
  unfold begF
  split <;> omega

set_option maxHeartbeats 4000000 in
set_option maxRecDepth 20000 in
theorem scoreOf_c (F : TF) (u v : List Int) (cu cv : Nat) (hF : FOk F) (hu : u.length ≤ 40) (hv : v.length ≤ 40) :
    Ct Try.prog 12 [fV F, .c (.sl 2 1 0 u.length cu), .c (.sl 3 1 0 v.length cv)] [] (hpQ F u v) 4 (fun x s => ∃ l, CellOk F u v (fromSt F) (bndC u.length v.length) u.length v.length l ∧ x = .i (endG l F.fin F.st.toNat) ∧ s = ⟨[], [], 4⟩) := by
  have hst := hF.st
  have hbl := begun_len F
  have hcc := costs_c F (begun F) u v
  refine ctW Try.tyOk 8 [] Try.func12 rfl (by simp [SV.lt, SA.lt, SC.lt, arcV, fV]) (by simp) (fr := [(0, fV F), (1, .c (.sl 2 1 0 u.length cu)), (2, .c (.sl 3 1 0 v.length cv))]) rfl ?_
  repeat' (first | exact rfl | ((conv => whnf); first | refine condP_dec (fun h => absurd h (by omega)) (fun h => ?_) | refine condP_dec (fun h => ?_) (fun h => absurd h (by omega)) | refine condP_dec (fun h => ?_) (fun h => ?_) | refine condP_ndec (fun h => absurd h (by omega)) (fun h => ?_) | refine condP_ndec (fun h => ?_) (fun h => absurd h (by omega)) | refine condP_ndec (fun h => ?_) (fun h => ?_) | refine condP_beq (fun h => absurd h (by omega)) (fun h => ?_) | refine condP_beq (fun h => ?_) (fun h => absurd h (by omega)) | refine condP_beq (fun h => ?_) (fun h => ?_) | refine condP_bne (fun h => absurd h (by omega)) (fun h => ?_) | refine condP_bne (fun h => ?_) (fun h => absurd h (by omega)) | refine condP_bne (fun h => ?_) (fun h => ?_) | refine condP_mk (fun h => ?_) (fun h => ?_) | refine Ob.mk (by (first | omega | (simp only [InI, nmin, List.length_append, List.length_replicate, List.length_cons, List.length_nil, List.length_map, List.length_set, List.length_take, List.length_drop, List.length_reverse, List.length_range, Nat.zero_add, Nat.add_zero, Int.toNat_natCast, EK.sz]; omega) | (simp only [InI, nmin, List.length_append, List.length_replicate, List.length_cons, List.length_nil, List.length_map, List.length_set, List.length_take, List.length_drop, List.length_reverse, List.length_range, Nat.zero_add, Nat.add_zero, Int.toNat_natCast, EK.sz] at *; omega))) ?_ | refine Ob.mk ?_ ?_ | refine Both.mk ?_ ?_ | refine draw_of Try.mixed Try.tyOk 60 (by kernel_rfl) ?_))
  (conv => whnf)
  refine callF (begun_c F hst) [0, 1] Try.call53 rfl (by simp [eqLs, eqL, eqO, eqC, eqCs, rn, renOf, look_cons, look, EK.cast]) (by simp [appN, ptrs, eqVL, eqV, eqA, eqC, eqCs, eqAs, eqCaps, EK.sz, rn, renOf, look_cons, look, arcV, fV]) (by simp [appN, ptrs, SV.lt, SA.lt, SC.lt, arcV, fV, lenN]) ?_
  rintro _ _ ⟨sp, rfl, rfl⟩
  repeat' (first | exact rfl | ((conv => whnf); first | refine condP_dec (fun h => absurd h (by omega)) (fun h => ?_) | refine condP_dec (fun h => ?_) (fun h => absurd h (by omega)) | refine condP_dec (fun h => ?_) (fun h => ?_) | refine condP_ndec (fun h => absurd h (by omega)) (fun h => ?_) | refine condP_ndec (fun h => ?_) (fun h => absurd h (by omega)) | refine condP_ndec (fun h => ?_) (fun h => ?_) | refine condP_beq (fun h => absurd h (by omega)) (fun h => ?_) | refine condP_beq (fun h => ?_) (fun h => absurd h (by omega)) | refine condP_beq (fun h => ?_) (fun h => ?_) | refine condP_bne (fun h => absurd h (by omega)) (fun h => ?_) | refine condP_bne (fun h => ?_) (fun h => absurd h (by omega)) | refine condP_bne (fun h => ?_) (fun h => ?_) | refine condP_mk (fun h => ?_) (fun h => ?_) | refine Ob.mk (by (first | omega | (simp only [InI, nmin, List.length_append, List.length_replicate, List.length_cons, List.length_nil, List.length_map, List.length_set, List.length_take, List.length_drop, List.length_reverse, List.length_range, Nat.zero_add, Nat.add_zero, Int.toNat_natCast, EK.sz]; omega) | (simp only [InI, nmin, List.length_append, List.length_replicate, List.length_cons, List.length_nil, List.length_map, List.length_set, List.length_take, List.length_drop, List.length_reverse, List.length_range, Nat.zero_add, Nat.add_zero, Int.toNat_natCast, EK.sz] at *; omega))) ?_ | refine Ob.mk ?_ ?_ | refine Both.mk ?_ ?_ | refine draw_of Try.mixed Try.tyOk 60 (by kernel_rfl) ?_))
  (conv => whnf)
  refine callF (hcc ((begun F).length + sp) cu cv hF hu hv hbl begun_bd') [0, 1, 5, 2, 3] Try.call52 rfl (by simp [eqLs, eqL, eqO, eqC, eqCs, rn, renOf, look_cons, look, EK.cast]) (by simp [appN, ptrs, eqVL, eqV, eqA, eqC, eqCs, eqAs, eqCaps, EK.sz, rn, renOf, look_cons, look, arcV, fV]) (by simp [appN, ptrs, SV.lt, SA.lt, SC.lt, arcV, fV, lenN]) ?_
  rintro _ _ ⟨xs, sq, m22, m3, rfl, rfl, htab⟩
  have hxl := htab.1
  have g := htab.2 u.length (by omega)
  have g' := g.2.2 v.length (by omega)
  rw [show u.length = 0 + (u.length : Int).toNat by omega] at g
  have g2 := g.1.len
  have g3 := g.2.1
  have hcell : CellAt F u v (begun F) m3 ((rowA m22 (xs.getD (0 + (u.length : Int).toNat) EK.sli.dflt).a).getD (v.length : Int).toNat EK.sli.dflt) u.length v.length := by
    rw [show 0 + (u.length : Int).toNat = u.length by omega, Int.toNat_natCast]
    exact g'
  have hyl := hcell.1.len
  have hcl := hcell.2.len
  clear g g'
  repeat' (first | exact rfl | ((conv => whnf); first | refine condP_dec (fun h => absurd h (by omega)) (fun h => ?_) | refine condP_dec (fun h => ?_) (fun h => absurd h (by omega)) | refine condP_dec (fun h => ?_) (fun h => ?_) | refine condP_ndec (fun h => absurd h (by omega)) (fun h => ?_) | refine condP_ndec (fun h => ?_) (fun h => absurd h (by omega)) | refine condP_ndec (fun h => ?_) (fun h => ?_) | refine condP_beq (fun h => absurd h (by omega)) (fun h => ?_) | refine condP_beq (fun h => ?_) (fun h => absurd h (by omega)) | refine condP_beq (fun h => ?_) (fun h => ?_) | refine condP_bne (fun h => absurd h (by omega)) (fun h => ?_) | refine condP_bne (fun h => ?_) (fun h => absurd h (by omega)) | refine condP_bne (fun h => ?_) (fun h => ?_) | refine condP_mk (fun h => ?_) (fun h => ?_) | refine Ob.mk (by (first | omega | (simp only [InI, nmin, List.length_append, List.length_replicate, List.length_cons, List.length_nil, List.length_map, List.length_set, List.length_take, List.length_drop, List.length_reverse, List.length_range, Nat.zero_add, Nat.add_zero, Int.toNat_natCast, EK.sz]; omega) | (simp only [InI, nmin, List.length_append, List.length_replicate, List.length_cons, List.length_nil, List.length_map, List.length_set, List.length_take, List.length_drop, List.length_reverse, List.length_range, Nat.zero_add, Nat.add_zero, Int.toNat_natCast, EK.sz] at *; omega))) ?_ | refine Ob.mk ?_ ?_ | refine Both.mk ?_ ?_ | refine draw_of Try.mixed Try.tyOk 60 (by kernel_rfl) ?_))
  (conv => whnf)
  refine callRow 8 [false, true] Try.call54 (by simp [appN, ptrs, SV.lt, SA.lt, SC.lt, fV]) ?_
  (conv => whnf)
  generalize hY : (rowA m22 (xs.getD (0 + (u.length : Int).toNat) EK.sli.dflt).a).getD (v.length : Int).toNat EK.sli.dflt = yy at *
  have hbd : ∀ x : Int, x ∈ rowA m3 yy.a → -1 ≤ x ∧ x ≤ 1000000000000000 := by
    intro x hx
    have hb := hcell.2.bd x hx
    have hb1 : -1 ≤ x := hb.1
    have hb2 : x ≤ bndC u.length v.length := hb.2
    unfold bndC at hb2
    omega
  refine callF (ended_c F hF (rowA m3 yy.a) yy.c hcl hbd) [0, 1, 9] Try.call54 rfl (by simp [eqLs, eqL, eqO, eqC, eqCs, rn, renOf, look_cons, look, EK.cast, hyl, rowsO, appN, lenN]) (by simp [appN, ptrs, eqVL, eqV, eqA, eqC, eqCs, eqAs, eqCaps, EK.sz, rn, renOf, look_cons, look, arcV, fV, hyl, rowsO, appN, lenN]) (by simp [appN, ptrs, SV.lt, SA.lt, SC.lt, arcV, fV, lenN]) ?_
  rintro _ _ ⟨rfl, rfl⟩
  repeat' (first | exact rfl | ((conv => whnf); first | refine condP_dec (fun h => absurd h (by omega)) (fun h => ?_) | refine condP_dec (fun h => ?_) (fun h => absurd h (by omega)) | refine condP_dec (fun h => ?_) (fun h => ?_) | refine condP_ndec (fun h => absurd h (by omega)) (fun h => ?_) | refine condP_ndec (fun h => ?_) (fun h => absurd h (by omega)) | refine condP_ndec (fun h => ?_) (fun h => ?_) | refine condP_beq (fun h => absurd h (by omega)) (fun h => ?_) | refine condP_beq (fun h => ?_) (fun h => absurd h (by omega)) | refine condP_beq (fun h => ?_) (fun h => ?_) | refine condP_bne (fun h => absurd h (by omega)) (fun h => ?_) | refine condP_bne (fun h => ?_) (fun h => absurd h (by omega)) | refine condP_bne (fun h => ?_) (fun h => ?_) | refine condP_mk (fun h => ?_) (fun h => ?_) | refine Ob.mk (by (first | omega | (simp only [InI, nmin, List.length_append, List.length_replicate, List.length_cons, List.length_nil, List.length_map, List.length_set, List.length_take, List.length_drop, List.length_reverse, List.length_range, Nat.zero_add, Nat.add_zero, Int.toNat_natCast, EK.sz]; omega) | (simp only [InI, nmin, List.length_append, List.length_replicate, List.length_cons, List.length_nil, List.length_map, List.length_set, List.length_take, List.length_drop, List.length_reverse, List.length_range, Nat.zero_add, Nat.add_zero, Int.toNat_natCast, EK.sz] at *; omega))) ?_ | refine Ob.mk ?_ ?_ | refine Both.mk ?_ ?_ | refine draw_of Try.mixed Try.tyOk 60 (by kernel_rfl) ?_))
  (conv => whnf)
  refine ⟨[], [], 4, .i (endG (rowA m3 yy.a) F.fin F.st.toNat), ⟨by rfl, trivial, trivial⟩, by simp [eqV, eqA, eqAs, eqC, eqCs], rowA m3 yy.a, ?_, rfl, rfl⟩
  rw [fromSt_src hF]
  exact hcell.2
end Go.Fw

namespace Go.Fw
open Go Go.Proofs

theorem one_edge {u v : List Int} {x y : Trip} {n : Nat} {w : Int} (h : Edge oneT u v x n y w) : n = 0 ∧ x.a = 0 ∧ w = 5 ∧ (fitE u x.b 1).2 = true ∧ (fitE v x.c 2).2 = true ∧ y = ⟨1, (fitE u x.b 1).1, (fitE v x.c 2).1⟩ := by
  obtain ⟨a, h1, h2, h3, h4, h5, h6⟩ := h
  have hn : n = 0 := by
    have := (List.getElem?_eq_some_iff.1 h1).1
    simp only [oneT, List.length_cons, List.length_nil] at this
    omega
  subst hn
  simp only [oneT, List.getElem?_cons_zero, Option.some.injEq] at h1
  subst h1
  exact ⟨rfl, h2.symm, h6, h3, h4, h5⟩

theorem one_reach {u v : List Int} {c : Int} {y : Trip} (h : Reach oneT u v (fromSt oneT) c y) : (y = ⟨0, 0, 0⟩ ∧ c = 0) ∨ (y = ⟨1, 1, 1⟩ ∧ c = 5 ∧ 0 < u.length) := by
  induction h with
  | here h => exact .inl ⟨h.1, h.2⟩
  | on hr he ih =>
    obtain ⟨_, h2, h3, h4, h5, h6⟩ := one_edge he
    rcases ih with ⟨rfl, rfl⟩ | ⟨rfl, _⟩
    · right
      refine ⟨?_, by omega, ?_⟩
      · rw [h6]
        rfl
      · unfold fitE at h4
        simp only [show (1 : Int) ≠ 0 by decide, if_false, decide_eq_true_eq] at h4
        omega
    · cases h2

theorem one_end {A : Trip → Option Int} (hA : IsLeast oneT [1] [2] (fromSt oneT) A) : A ⟨1, 1, 1⟩ = some 5 ∧ endF A [-1, 1] 1 1 2 = (⟨1, 1, 1⟩, 6) := by
  have h0 : Reach oneT [1] [2] (fromSt oneT) 0 ⟨0, 0, 0⟩ := .here ⟨rfl, rfl⟩
  have he : Edge oneT [1] [2] ⟨0, 0, 0⟩ 0 ⟨1, 1, 1⟩ 5 := ⟨⟨0, 1, 2, 1, 5⟩, rfl, rfl, rfl, rfl, rfl, rfl⟩
  have h1 : Reach oneT [1] [2] (fromSt oneT) (0 + 5) ⟨1, 1, 1⟩ := .on h0 he
  obtain ⟨c, h2, h3⟩ := hA.least _ _ h1
  have h4 : A ⟨1, 1, 1⟩ = some 5 := by
    rcases one_reach (hA.path _ _ h2) with ⟨q, _⟩ | ⟨_, q, _⟩
    · cases q
    · rw [h2, q]
  refine ⟨h4, ?_⟩
  have e1 : endF A [-1, 1] 1 1 1 = (⟨0, 0, 0⟩, -1) := by
    cases hd : A ⟨((0 : Nat) : Int), 1, 1⟩ with
    | none => exact endF_none hd
    | some d => exact endF_no hd (.inl rfl)
  have := endF_yes (D := A) (fin := [-1, 1]) (p := 1) (q := 1) (k := 1) (d := 5) h4 (by decide) (.inl (by rw [e1]))
  exact this

theorem one_nil {A : Trip → Option Int} (hA : IsLeast oneT [] [] (fromSt oneT) A) : (endF A [-1, 1] 0 0 2).2 = -1 := by
  have h4 : A ⟨((1 : Nat) : Int), 0, 0⟩ = none := by
    cases h : A ⟨((1 : Nat) : Int), 0, 0⟩ with
    | none => rfl
    | some c =>
      rcases one_reach (hA.path _ _ h) with ⟨q, _⟩ | ⟨q, _⟩
      · cases q
      · cases q
  have e1 : endF A [-1, 1] 0 0 1 = (⟨0, 0, 0⟩, -1) := by
    cases hd : A ⟨((0 : Nat) : Int), 0, 0⟩ with
    | none => exact endF_none hd
    | some d => exact endF_no hd (.inl rfl)
  rw [endF_none h4, e1]

theorem one_walk {E : Trip × Int} {l : List Int} (h : WalkIs oneT [1] [2] E l) : E.2 = 6 ∧ l = [0] := by
  obtain ⟨D, ord, rk, B, n, hD, hall, hE, hn, hl⟩ := h
  have h1 := one_end (hD.least hall)
  have hE2 : E = (⟨1, 1, 1⟩, 6) := hE.trans h1.2
  subst hE2
  refine ⟨rfl, ?_⟩
  obtain ⟨d, hd, _⟩ := Option.map_eq_some_iff.1 h1.1
  obtain ⟨m, rfl⟩ : ∃ m, n = m + 1 := ⟨n - 1, by omega⟩
  have key : chain D (m + 1) ⟨1, 1, 1⟩ = [0] := by
    rcases hD.by' _ d hd with ⟨q, _⟩ | ⟨k, x, c, w, g1, g2, g3, g4, g5, g6, g7, _, _⟩
    · cases q
    · obtain ⟨rfl, q2, q3, q4, q5, q6⟩ := one_edge g7
      have hx : x = ⟨0, 0, 0⟩ := by
        rcases one_reach ((hD.least hall).path x c.cost (by simp [g6])) with ⟨q, _⟩ | ⟨q, _⟩
        · exact q
        · rw [q] at q2; cases q2
      subst hx
      have e : (⟨d.s, d.i, d.o⟩ : Trip) = ⟨0, 0, 0⟩ := by rw [g2, g3, g4]
      rw [chain_on hd (by omega), g1, e]
      congr 1
      rcases hD.by' _ c g6 with ⟨_, _, q⟩ | ⟨k, x, c', w, _, _, _, _, _, _, q, _, _⟩
      · exact chain_stop g6 (by omega) m
      · have := (one_edge q).2.2.2.2.2
        cases this
  rw [key] at hl
  have := congrArg List.reverse hl
  rwa [List.reverse_reverse] at this

end Go.Fw

namespace Go.Fw
open Go Go.Proofs

theorem one_sc1 : scoreE oneT [1] [2] = 0 := by decide
theorem one_sc0 : scoreE oneT [] [] = 0 := by decide

set_option maxHeartbeats 8000000 in
set_option maxRecDepth 20000 in
theorem scoreBegun_c : Ct Try.prog 13 [] [] [] 0 (Is 0 (.b true)) := by
  refine ctW Try.tyOk 8 [] Try.func13 rfl (by simp) (by simp) (fr := []) rfl ?_
  repeat' (first | exact rfl | ((conv => whnf); first | refine condP_dec (fun h => absurd h (by omega)) (fun h => ?_) | refine condP_dec (fun h => ?_) (fun h => absurd h (by omega)) | refine condP_dec (fun h => ?_) (fun h => ?_) | refine condP_ndec (fun h => absurd h (by omega)) (fun h => ?_) | refine condP_ndec (fun h => ?_) (fun h => absurd h (by omega)) | refine condP_ndec (fun h => ?_) (fun h => ?_) | refine condP_beq (fun h => absurd h (by omega)) (fun h => ?_) | refine condP_beq (fun h => ?_) (fun h => absurd h (by omega)) | refine condP_beq (fun h => ?_) (fun h => ?_) | refine condP_bne (fun h => absurd h (by omega)) (fun h => ?_) | refine condP_bne (fun h => ?_) (fun h => absurd h (by omega)) | refine condP_bne (fun h => ?_) (fun h => ?_) | refine condP_mk (fun h => ?_) (fun h => ?_) | refine Ob.mk (by (first | omega | (simp only [InI, nmin, List.length_append, List.length_replicate, List.length_cons, List.length_nil, List.length_map, List.length_set, List.length_take, List.length_drop, List.length_reverse, List.length_range, Nat.zero_add, Nat.add_zero, Int.toNat_natCast, EK.sz]; omega) | (simp only [InI, nmin, List.length_append, List.length_replicate, List.length_cons, List.length_nil, List.length_map, List.length_set, List.length_take, List.length_drop, List.length_reverse, List.length_range, Nat.zero_add, Nat.add_zero, Int.toNat_natCast, EK.sz] at *; omega))) ?_ | refine Ob.mk ?_ ?_ | refine Both.mk ?_ ?_ | refine draw_of Try.mixed Try.tyOk 60 (by kernel_rfl) ?_))
  (conv => whnf)
  refine callF (one_c) [] Try.call55 rfl (by simp [eqLs, eqL, eqO, eqC, eqCs, rn, renOf, look_cons, look, EK.cast]) (by simp [appN, ptrs, eqVL, eqV, eqA, eqC, eqCs, eqAs, eqCaps, EK.sz, rn, renOf, look_cons, look, arcV, fV]) (by simp [appN, ptrs, SV.lt, SA.lt, SC.lt, arcV, fV, lenN]) ?_
  rintro _ _ ⟨rfl, rfl⟩
  (conv => whnf)
  refine callF (score_ok oneT [1] [2] 1 1 (by decide) one_sc1) [0, 1, 2, 3] Try.call10 rfl (by simp [eqLs, eqL, eqO, eqC, eqCs, rn, renOf, look_cons, look, EK.cast, oneT, oneV]) (by simp [appN, ptrs, eqVL, eqV, eqA, eqC, eqCs, eqAs, eqCaps, EK.sz, rn, renOf, look_cons, look, arcV, fV, oneT, oneV]) (by simp [appN, ptrs, SV.lt, SA.lt, SC.lt, arcV, fV, lenN]) ?_
  rintro _ _ ⟨A, hA, rfl, rfl⟩
  have hA2 := (one_end hA).2
  rw [show (endF A oneT.fin (([1] : List Int).length : Int) (([2] : List Int).length : Int) oneT.fin.length) = endF A [-1, 1] 1 1 2 from rfl, hA2]
  clear hA hA2
  repeat' (first | exact rfl | ((conv => whnf); first | refine condP_dec (fun h => absurd h (by omega)) (fun h => ?_) | refine condP_dec (fun h => ?_) (fun h => absurd h (by omega)) | refine condP_dec (fun h => ?_) (fun h => ?_) | refine condP_ndec (fun h => absurd h (by omega)) (fun h => ?_) | refine condP_ndec (fun h => ?_) (fun h => absurd h (by omega)) | refine condP_ndec (fun h => ?_) (fun h => ?_) | refine condP_beq (fun h => absurd h (by omega)) (fun h => ?_) | refine condP_beq (fun h => ?_) (fun h => absurd h (by omega)) | refine condP_beq (fun h => ?_) (fun h => ?_) | refine condP_bne (fun h => absurd h (by omega)) (fun h => ?_) | refine condP_bne (fun h => ?_) (fun h => absurd h (by omega)) | refine condP_bne (fun h => ?_) (fun h => ?_) | refine condP_mk (fun h => ?_) (fun h => ?_) | refine Ob.mk (by (first | omega | (simp only [InI, nmin, List.length_append, List.length_replicate, List.length_cons, List.length_nil, List.length_map, List.length_set, List.length_take, List.length_drop, List.length_reverse, List.length_range, Nat.zero_add, Nat.add_zero, Int.toNat_natCast, EK.sz]; omega) | (simp only [InI, nmin, List.length_append, List.length_replicate, List.length_cons, List.length_nil, List.length_map, List.length_set, List.length_take, List.length_drop, List.length_reverse, List.length_range, Nat.zero_add, Nat.add_zero, Int.toNat_natCast, EK.sz] at *; omega))) ?_ | refine Ob.mk ?_ ?_ | refine Both.mk ?_ ?_ | refine draw_of Try.mixed Try.tyOk 60 (by kernel_rfl) ?_))
  (conv => whnf)
  refine callF (one_c) [] Try.call55 rfl (by simp [eqLs, eqL, eqO, eqC, eqCs, rn, renOf, look_cons, look, EK.cast]) (by simp [appN, ptrs, eqVL, eqV, eqA, eqC, eqCs, eqAs, eqCaps, EK.sz, rn, renOf, look_cons, look, arcV, fV]) (by simp [appN, ptrs, SV.lt, SA.lt, SC.lt, arcV, fV, lenN]) ?_
  rintro _ _ ⟨rfl, rfl⟩
  (conv => whnf)
  refine callNil 3 .int (args' := [SV.a (SA.agg [SC.i 2, SC.i 0, SC.sl 4 1 0 2 2, SC.sl 5 5 0 1 1]), .c (.sl 6 1 0 0 0), .c (.v (.slice none 0 0))]) (fun β => by simp [SV.den, SA.den, SC.den, Env.add, appN, ptrs]) ?_
  (conv => whnf)
  refine callNil 3 .int (args' := [SV.a (SA.agg [SC.i 2, SC.i 0, SC.sl 4 1 0 2 2, SC.sl 5 5 0 1 1]), .c (.sl 6 1 0 0 0), .c (.sl 7 1 0 0 0)]) (fun β => by simp [SV.den, SA.den, SC.den, Env.add, appN, ptrs]) ?_
  (conv => whnf)
  refine callF (score_ok oneT [] [] 0 0 (by decide) one_sc0) [4, 5, 6, 7] Try.call10 rfl (by simp [eqLs, eqL, eqO, eqC, eqCs, rn, renOf, look_cons, look, EK.cast, oneT, oneV]) (by simp [appN, ptrs, eqVL, eqV, eqA, eqC, eqCs, eqAs, eqCaps, EK.sz, rn, renOf, look_cons, look, arcV, fV, oneT, oneV]) (by simp [appN, ptrs, SV.lt, SA.lt, SC.lt, arcV, fV, lenN]) ?_
  rintro _ _ ⟨A, hA, rfl, rfl⟩
  have hA2 := one_nil hA
  rw [show (endF A oneT.fin (([] : List Int).length : Int) (([] : List Int).length : Int) oneT.fin.length).2 = (endF A [-1, 1] 0 0 2).2 from rfl, hA2]
  clear hA hA2
  repeat' (first | exact rfl | ((conv => whnf); first | refine condP_dec (fun h => absurd h (by omega)) (fun h => ?_) | refine condP_dec (fun h => ?_) (fun h => absurd h (by omega)) | refine condP_dec (fun h => ?_) (fun h => ?_) | refine condP_ndec (fun h => absurd h (by omega)) (fun h => ?_) | refine condP_ndec (fun h => ?_) (fun h => absurd h (by omega)) | refine condP_ndec (fun h => ?_) (fun h => ?_) | refine condP_beq (fun h => absurd h (by omega)) (fun h => ?_) | refine condP_beq (fun h => ?_) (fun h => absurd h (by omega)) | refine condP_beq (fun h => ?_) (fun h => ?_) | refine condP_bne (fun h => absurd h (by omega)) (fun h => ?_) | refine condP_bne (fun h => ?_) (fun h => absurd h (by omega)) | refine condP_bne (fun h => ?_) (fun h => ?_) | refine condP_mk (fun h => ?_) (fun h => ?_) | refine Ob.mk (by (first | omega | (simp only [InI, nmin, List.length_append, List.length_replicate, List.length_cons, List.length_nil, List.length_map, List.length_set, List.length_take, List.length_drop, List.length_reverse, List.length_range, Nat.zero_add, Nat.add_zero, Int.toNat_natCast, EK.sz]; omega) | (simp only [InI, nmin, List.length_append, List.length_replicate, List.length_cons, List.length_nil, List.length_map, List.length_set, List.length_take, List.length_drop, List.length_reverse, List.length_range, Nat.zero_add, Nat.add_zero, Int.toNat_natCast, EK.sz] at *; omega))) ?_ | refine Ob.mk ?_ ?_ | refine Both.mk ?_ ?_ | refine draw_of Try.mixed Try.tyOk 60 (by kernel_rfl) ?_))
  (conv => whnf)
  refine callF (one_c) [] Try.call55 rfl (by simp [eqLs, eqL, eqO, eqC, eqCs, rn, renOf, look_cons, look, EK.cast]) (by simp [appN, ptrs, eqVL, eqV, eqA, eqC, eqCs, eqAs, eqCaps, EK.sz, rn, renOf, look_cons, look, arcV, fV]) (by simp [appN, ptrs, SV.lt, SA.lt, SC.lt, arcV, fV, lenN]) ?_
  rintro _ _ ⟨rfl, rfl⟩
  (conv => whnf)
  refine callF (walkP_c oneT [1] [2] 1 1 (by decide) one_sc1) [8, 9, 10, 11] Try.call56 rfl (by simp [eqLs, eqL, eqO, eqC, eqCs, rn, renOf, look_cons, look, EK.cast, oneT, oneV]) (by simp [appN, ptrs, eqVL, eqV, eqA, eqC, eqCs, eqAs, eqCaps, EK.sz, rn, renOf, look_cons, look, arcV, fV, oneT, oneV]) (by simp [appN, ptrs, SV.lt, SA.lt, SC.lt, arcV, fV, lenN]) ?_
  rintro x s (⟨A, hA, hA2, _⟩ | ⟨E, l, sp, hW, hE, rfl, rfl⟩)
  · have h1 := (one_end hA).2
    have h2 : (endF A [-1, 1] 1 1 2).2 = -1 := hA2
    rw [h1] at h2
    cases h2
  obtain ⟨h1, rfl⟩ := one_walk hW
  rw [h1]
  clear hW hE h1
  repeat' (first | exact rfl | ((conv => whnf); first | refine condP_dec (fun h => absurd h (by omega)) (fun h => ?_) | refine condP_dec (fun h => ?_) (fun h => absurd h (by omega)) | refine condP_dec (fun h => ?_) (fun h => ?_) | refine condP_ndec (fun h => absurd h (by omega)) (fun h => ?_) | refine condP_ndec (fun h => ?_) (fun h => absurd h (by omega)) | refine condP_ndec (fun h => ?_) (fun h => ?_) | refine condP_beq (fun h => absurd h (by omega)) (fun h => ?_) | refine condP_beq (fun h => ?_) (fun h => absurd h (by omega)) | refine condP_beq (fun h => ?_) (fun h => ?_) | refine condP_bne (fun h => absurd h (by omega)) (fun h => ?_) | refine condP_bne (fun h => ?_) (fun h => absurd h (by omega)) | refine condP_bne (fun h => ?_) (fun h => ?_) | refine condP_mk (fun h => ?_) (fun h => ?_) | refine Ob.mk (by (first | omega | (simp only [InI, nmin, List.length_append, List.length_replicate, List.length_cons, List.length_nil, List.length_map, List.length_set, List.length_take, List.length_drop, List.length_reverse, List.length_range, Nat.zero_add, Nat.add_zero, Int.toNat_natCast, EK.sz]; omega) | (simp only [InI, nmin, List.length_append, List.length_replicate, List.length_cons, List.length_nil, List.length_map, List.length_set, List.length_take, List.length_drop, List.length_reverse, List.length_range, Nat.zero_add, Nat.add_zero, Int.toNat_natCast, EK.sz] at *; omega))) ?_ | refine Ob.mk ?_ ?_ | refine Both.mk ?_ ?_ | refine draw_of Try.mixed Try.tyOk 60 (by kernel_rfl) ?_))
  (conv => whnf)
  refine callF (word_c [1] 1) [13] Try.call14 rfl (by simp [eqLs, eqL, eqO, eqC, eqCs, rn, renOf, look_cons, look, EK.cast]) (by simp [appN, ptrs, eqVL, eqV, eqA, eqC, eqCs, eqAs, eqCaps, EK.sz, rn, renOf, look_cons, look, arcV, fV]) (by simp [appN, ptrs, SV.lt, SA.lt, SC.lt, arcV, fV, lenN]) ?_
  rintro _ _ ⟨rfl, rfl⟩
  rw [show wordE [1] = 0 by decide]
  repeat' (first | exact rfl | ((conv => whnf); first | refine condP_dec (fun h => absurd h (by omega)) (fun h => ?_) | refine condP_dec (fun h => ?_) (fun h => absurd h (by omega)) | refine condP_dec (fun h => ?_) (fun h => ?_) | refine condP_ndec (fun h => absurd h (by omega)) (fun h => ?_) | refine condP_ndec (fun h => ?_) (fun h => absurd h (by omega)) | refine condP_ndec (fun h => ?_) (fun h => ?_) | refine condP_beq (fun h => absurd h (by omega)) (fun h => ?_) | refine condP_beq (fun h => ?_) (fun h => absurd h (by omega)) | refine condP_beq (fun h => ?_) (fun h => ?_) | refine condP_bne (fun h => absurd h (by omega)) (fun h => ?_) | refine condP_bne (fun h => ?_) (fun h => absurd h (by omega)) | refine condP_bne (fun h => ?_) (fun h => ?_) | refine condP_mk (fun h => ?_) (fun h => ?_) | refine Ob.mk (by (first | omega | (simp only [InI, nmin, List.length_append, List.length_replicate, List.length_cons, List.length_nil, List.length_map, List.length_set, List.length_take, List.length_drop, List.length_reverse, List.length_range, Nat.zero_add, Nat.add_zero, Int.toNat_natCast, EK.sz]; omega) | (simp only [InI, nmin, List.length_append, List.length_replicate, List.length_cons, List.length_nil, List.length_map, List.length_set, List.length_take, List.length_drop, List.length_reverse, List.length_range, Nat.zero_add, Nat.add_zero, Int.toNat_natCast, EK.sz] at *; omega))) ?_ | refine Ob.mk ?_ ?_ | refine Both.mk ?_ ?_ | refine draw_of Try.mixed Try.tyOk 60 (by kernel_rfl) ?_))
  refine Back.is ?_
  simp only [eqV, eqA, eqC]
  rfl

end Go.Fw

namespace Go.Fw
open Go Go.Proofs

theorem score_same {F : TF} {u v : List Int} (hF : FOk F) {A : Trip → Option Int} (hA : IsLeast F u v (fromSt F) A) {l : List Int} {B : Int} (hl : CellOk F u v (fromSt F) B u.length v.length l) : (endF A F.fin u.length v.length F.fin.length).2 = endG l F.fin F.st.toNat := by
  have hS : ∀ x c, fromSt F x c → InBox F u v x ∧ 0 ≤ c := by
    rintro x c ⟨rfl, rfl⟩
    have := hF.start
    exact ⟨⟨this, ⟨Int.le_refl _, by show (0 : Int) ≤ _; omega⟩, ⟨Int.le_refl _, by show (0 : Int) ≤ _; omega⟩⟩, Int.le_refl _⟩
  have hfl := hF.finl
  have e : F.fin.length = F.st.toNat := by omega
  rw [e]
  exact (endG_endF hF hA hS hl F.st.toNat (Nat.le_refl _)).1.symm

theorem scoreE_lens {F : TF} {u v : List Int} (h : scoreE F u v = 0) : fstE F = 0 ∧ u.length ≤ 40 ∧ v.length ≤ 40 := by
  unfold scoreE at h
  by_cases h1 : fstE F = 0
  · rw [if_neg (by omega)] at h
    by_cases h2 : wordE u = 0
    · rw [if_neg (by omega)] at h
      refine ⟨h1, ?_, ?_⟩
      · unfold wordE at h2
        split at h2
        · cases h2
        · omega
      · unfold wordE at h
        split at h
        · cases h
        · omega
    · rw [if_pos h2] at h
      omega
  · rw [if_pos h1] at h
    omega

set_option maxHeartbeats 8000000 in
set_option maxRecDepth 20000 in
theorem scoreTells_c (F : TF) (u v : List Int) (cu cv : Nat) (hl : F.fin.length ≤ 9223372036854775807) : Ct Try.prog 3 [fV F, .c (.sl 2 1 0 u.length cu), .c (.sl 3 1 0 v.length cv)] [] (hpQ F u v) 4 (Is 4 (.b true)) := by
  refine ctW Try.tyOk 11 [] Try.func3 rfl (by simp [SV.lt, SA.lt, SC.lt, arcV, fV]) (by simp) (fr := [(0, fV F), (1, .c (.sl 2 1 0 u.length cu)), (2, .c (.sl 3 1 0 v.length cv))]) rfl ?_
  by_cases hsc : scoreE F u v = 0
  · obtain ⟨h1, hu, hv⟩ := scoreE_lens hsc
    have hF := fstE_ok h1
    repeat' (first | exact rfl | ((conv => whnf); first | refine condP_dec (fun h => absurd h (by omega)) (fun h => ?_) | refine condP_dec (fun h => ?_) (fun h => absurd h (by omega)) | refine condP_dec (fun h => ?_) (fun h => ?_) | refine condP_ndec (fun h => absurd h (by omega)) (fun h => ?_) | refine condP_ndec (fun h => ?_) (fun h => absurd h (by omega)) | refine condP_ndec (fun h => ?_) (fun h => ?_) | refine condP_beq (fun h => absurd h (by omega)) (fun h => ?_) | refine condP_beq (fun h => ?_) (fun h => absurd h (by omega)) | refine condP_beq (fun h => ?_) (fun h => ?_) | refine condP_bne (fun h => absurd h (by omega)) (fun h => ?_) | refine condP_bne (fun h => ?_) (fun h => absurd h (by omega)) | refine condP_bne (fun h => ?_) (fun h => ?_) | refine condP_mk (fun h => ?_) (fun h => ?_) | refine Ob.mk (by (first | omega | (simp only [InI, nmin, List.length_append, List.length_replicate, List.length_cons, List.length_nil, List.length_map, List.length_set, List.length_take, List.length_drop, List.length_reverse, List.length_range, Nat.zero_add, Nat.add_zero, Int.toNat_natCast, EK.sz]; omega) | (simp only [InI, nmin, List.length_append, List.length_replicate, List.length_cons, List.length_nil, List.length_map, List.length_set, List.length_take, List.length_drop, List.length_reverse, List.length_range, Nat.zero_add, Nat.add_zero, Int.toNat_natCast, EK.sz] at *; omega))) ?_ | refine Ob.mk ?_ ?_ | refine Both.mk ?_ ?_ | refine draw_of Try.mixed Try.tyOk 60 (by kernel_rfl) ?_))
    (conv => whnf)
    refine callF (score_ok F u v cu cv hl hsc) [0, 1, 2, 3] Try.call10 rfl (by simp [eqLs, eqL, eqO, eqC, eqCs, rn, renOf, look_cons, look, EK.cast]) (by simp [appN, ptrs, eqVL, eqV, eqA, eqC, eqCs, eqAs, eqCaps, EK.sz, rn, renOf, look_cons, look, arcV, fV]) (by simp [appN, ptrs, SV.lt, SA.lt, SC.lt, arcV, fV, lenN]) ?_
    rintro _ _ ⟨A, hA, rfl, rfl⟩
    repeat' (first | exact rfl | ((conv => whnf); first | refine condP_dec (fun h => absurd h (by omega)) (fun h => ?_) | refine condP_dec (fun h => ?_) (fun h => absurd h (by omega)) | refine condP_dec (fun h => ?_) (fun h => ?_) | refine condP_ndec (fun h => absurd h (by omega)) (fun h => ?_) | refine condP_ndec (fun h => ?_) (fun h => absurd h (by omega)) | refine condP_ndec (fun h => ?_) (fun h => ?_) | refine condP_beq (fun h => absurd h (by omega)) (fun h => ?_) | refine condP_beq (fun h => ?_) (fun h => absurd h (by omega)) | refine condP_beq (fun h => ?_) (fun h => ?_) | refine condP_bne (fun h => absurd h (by omega)) (fun h => ?_) | refine condP_bne (fun h => ?_) (fun h => absurd h (by omega)) | refine condP_bne (fun h => ?_) (fun h => ?_) | refine condP_mk (fun h => ?_) (fun h => ?_) | refine Ob.mk (by (first | omega | (simp only [InI, nmin, List.length_append, List.length_replicate, List.length_cons, List.length_nil, List.length_map, List.length_set, List.length_take, List.length_drop, List.length_reverse, List.length_range, Nat.zero_add, Nat.add_zero, Int.toNat_natCast, EK.sz]; omega) | (simp only [InI, nmin, List.length_append, List.length_replicate, List.length_cons, List.length_nil, List.length_map, List.length_set, List.length_take, List.length_drop, List.length_reverse, List.length_range, Nat.zero_add, Nat.add_zero, Int.toNat_natCast, EK.sz] at *; omega))) ?_ | refine Ob.mk ?_ ?_ | refine Both.mk ?_ ?_ | refine draw_of Try.mixed Try.tyOk 60 (by kernel_rfl) ?_))
    (conv => whnf)
    refine callF (checkScore_c F u v cu cv hl) [0, 1, 2, 3] Try.call11 rfl (by simp [eqLs, eqL, eqO, eqC, eqCs, rn, renOf, look_cons, look, EK.cast]) (by simp [appN, ptrs, eqVL, eqV, eqA, eqC, eqCs, eqAs, eqCaps, EK.sz, rn, renOf, look_cons, look, arcV, fV]) (by simp [appN, ptrs, SV.lt, SA.lt, SC.lt, arcV, fV, lenN]) ?_
    rintro _ _ ⟨rfl, rfl⟩
    rw [hsc]
    repeat' (first | exact rfl | ((conv => whnf); first | refine condP_dec (fun h => absurd h (by omega)) (fun h => ?_) | refine condP_dec (fun h => ?_) (fun h => absurd h (by omega)) | refine condP_dec (fun h => ?_) (fun h => ?_) | refine condP_ndec (fun h => absurd h (by omega)) (fun h => ?_) | refine condP_ndec (fun h => ?_) (fun h => absurd h (by omega)) | refine condP_ndec (fun h => ?_) (fun h => ?_) | refine condP_beq (fun h => absurd h (by omega)) (fun h => ?_) | refine condP_beq (fun h => ?_) (fun h => absurd h (by omega)) | refine condP_beq (fun h => ?_) (fun h => ?_) | refine condP_bne (fun h => absurd h (by omega)) (fun h => ?_) | refine condP_bne (fun h => ?_) (fun h => absurd h (by omega)) | refine condP_bne (fun h => ?_) (fun h => ?_) | refine condP_mk (fun h => ?_) (fun h => ?_) | refine Ob.mk (by (first | omega | (simp only [InI, nmin, List.length_append, List.length_replicate, List.length_cons, List.length_nil, List.length_map, List.length_set, List.length_take, List.length_drop, List.length_reverse, List.length_range, Nat.zero_add, Nat.add_zero, Int.toNat_natCast, EK.sz]; omega) | (simp only [InI, nmin, List.length_append, List.length_replicate, List.length_cons, List.length_nil, List.length_map, List.length_set, List.length_take, List.length_drop, List.length_reverse, List.length_range, Nat.zero_add, Nat.add_zero, Int.toNat_natCast, EK.sz] at *; omega))) ?_ | refine Ob.mk ?_ ?_ | refine Both.mk ?_ ?_ | refine draw_of Try.mixed Try.tyOk 60 (by kernel_rfl) ?_))
    (conv => whnf)
    refine callF (scoreOf_c F u v cu cv hF hu hv) [0, 1, 2, 3] Try.call12 rfl (by simp [eqLs, eqL, eqO, eqC, eqCs, rn, renOf, look_cons, look, EK.cast]) (by simp [appN, ptrs, eqVL, eqV, eqA, eqC, eqCs, eqAs, eqCaps, EK.sz, rn, renOf, look_cons, look, arcV, fV]) (by simp [appN, ptrs, SV.lt, SA.lt, SC.lt, arcV, fV, lenN]) ?_
    rintro _ _ ⟨l, hcell, rfl, rfl⟩
    rw [score_same hF hA hcell]
    repeat' (first | exact rfl | ((conv => whnf); first | refine condP_dec (fun h => absurd h (by omega)) (fun h => ?_) | refine condP_dec (fun h => ?_) (fun h => absurd h (by omega)) | refine condP_dec (fun h => ?_) (fun h => ?_) | refine condP_ndec (fun h => absurd h (by omega)) (fun h => ?_) | refine condP_ndec (fun h => ?_) (fun h => absurd h (by omega)) | refine condP_ndec (fun h => ?_) (fun h => ?_) | refine condP_beq (fun h => absurd h (by omega)) (fun h => ?_) | refine condP_beq (fun h => ?_) (fun h => absurd h (by omega)) | refine condP_beq (fun h => ?_) (fun h => ?_) | refine condP_bne (fun h => absurd h (by omega)) (fun h => ?_) | refine condP_bne (fun h => ?_) (fun h => absurd h (by omega)) | refine condP_bne (fun h => ?_) (fun h => ?_) | refine condP_mk (fun h => ?_) (fun h => ?_) | refine Ob.mk (by (first | omega | (simp only [InI, nmin, List.length_append, List.length_replicate, List.length_cons, List.length_nil, List.length_map, List.length_set, List.length_take, List.length_drop, List.length_reverse, List.length_range, Nat.zero_add, Nat.add_zero, Int.toNat_natCast, EK.sz]; omega) | (simp only [InI, nmin, List.length_append, List.length_replicate, List.length_cons, List.length_nil, List.length_map, List.length_set, List.length_take, List.length_drop, List.length_reverse, List.length_range, Nat.zero_add, Nat.add_zero, Int.toNat_natCast, EK.sz] at *; omega))) ?_ | refine Ob.mk ?_ ?_ | refine Both.mk ?_ ?_ | refine draw_of Try.mixed Try.tyOk 60 (by kernel_rfl) ?_))
    (conv => whnf)
    refine callF (scoreBegun_c) [] Try.call13 rfl (by simp [eqLs, eqL, eqO, eqC, eqCs, rn, renOf, look_cons, look, EK.cast]) (by simp [appN, ptrs, eqVL, eqV, eqA, eqC, eqCs, eqAs, eqCaps, EK.sz, rn, renOf, look_cons, look, arcV, fV]) (by simp [appN, ptrs, SV.lt, SA.lt, SC.lt, arcV, fV, lenN]) ?_
    rintro _ _ ⟨rfl, rfl⟩
    repeat' (first | exact rfl | ((conv => whnf); first | refine condP_dec (fun h => absurd h (by omega)) (fun h => ?_) | refine condP_dec (fun h => ?_) (fun h => absurd h (by omega)) | refine condP_dec (fun h => ?_) (fun h => ?_) | refine condP_ndec (fun h => absurd h (by omega)) (fun h => ?_) | refine condP_ndec (fun h => ?_) (fun h => absurd h (by omega)) | refine condP_ndec (fun h => ?_) (fun h => ?_) | refine condP_beq (fun h => absurd h (by omega)) (fun h => ?_) | refine condP_beq (fun h => ?_) (fun h => absurd h (by omega)) | refine condP_beq (fun h => ?_) (fun h => ?_) | refine condP_bne (fun h => absurd h (by omega)) (fun h => ?_) | refine condP_bne (fun h => ?_) (fun h => absurd h (by omega)) | refine condP_bne (fun h => ?_) (fun h => ?_) | refine condP_mk (fun h => ?_) (fun h => ?_) | refine Ob.mk (by (first | omega | (simp only [InI, nmin, List.length_append, List.length_replicate, List.length_cons, List.length_nil, List.length_map, List.length_set, List.length_take, List.length_drop, List.length_reverse, List.length_range, Nat.zero_add, Nat.add_zero, Int.toNat_natCast, EK.sz]; omega) | (simp only [InI, nmin, List.length_append, List.length_replicate, List.length_cons, List.length_nil, List.length_map, List.length_set, List.length_take, List.length_drop, List.length_reverse, List.length_range, Nat.zero_add, Nat.add_zero, Int.toNat_natCast, EK.sz] at *; omega))) ?_ | refine Ob.mk ?_ ?_ | refine Both.mk ?_ ?_ | refine draw_of Try.mixed Try.tyOk 60 (by kernel_rfl) ?_))
    (conv => whnf)
    refine callF (word_c u cu) [2] Try.call14 rfl (by simp [eqLs, eqL, eqO, eqC, eqCs, rn, renOf, look_cons, look, EK.cast]) (by simp [appN, ptrs, eqVL, eqV, eqA, eqC, eqCs, eqAs, eqCaps, EK.sz, rn, renOf, look_cons, look, arcV, fV]) (by simp [appN, ptrs, SV.lt, SA.lt, SC.lt, arcV, fV, lenN]) ?_
    rintro _ _ ⟨rfl, rfl⟩
    repeat' (first | exact rfl | ((conv => whnf); first | refine condP_dec (fun h => absurd h (by omega)) (fun h => ?_) | refine condP_dec (fun h => ?_) (fun h => absurd h (by omega)) | refine condP_dec (fun h => ?_) (fun h => ?_) | refine condP_ndec (fun h => absurd h (by omega)) (fun h => ?_) | refine condP_ndec (fun h => ?_) (fun h => absurd h (by omega)) | refine condP_ndec (fun h => ?_) (fun h => ?_) | refine condP_beq (fun h => absurd h (by omega)) (fun h => ?_) | refine condP_beq (fun h => ?_) (fun h => absurd h (by omega)) | refine condP_beq (fun h => ?_) (fun h => ?_) | refine condP_bne (fun h => absurd h (by omega)) (fun h => ?_) | refine condP_bne (fun h => ?_) (fun h => absurd h (by omega)) | refine condP_bne (fun h => ?_) (fun h => ?_) | refine condP_mk (fun h => ?_) (fun h => ?_) | refine Ob.mk (by (first | omega | (simp only [InI, nmin, List.length_append, List.length_replicate, List.length_cons, List.length_nil, List.length_map, List.length_set, List.length_take, List.length_drop, List.length_reverse, List.length_range, Nat.zero_add, Nat.add_zero, Int.toNat_natCast, EK.sz]; omega) | (simp only [InI, nmin, List.length_append, List.length_replicate, List.length_cons, List.length_nil, List.length_map, List.length_set, List.length_take, List.length_drop, List.length_reverse, List.length_range, Nat.zero_add, Nat.add_zero, Int.toNat_natCast, EK.sz] at *; omega))) ?_ | refine Ob.mk ?_ ?_ | refine Both.mk ?_ ?_ | refine draw_of Try.mixed Try.tyOk 60 (by kernel_rfl) ?_))
    (conv => whnf)
    refine callF (checkWord_c u cu) [2] Try.call15 rfl (by simp [eqLs, eqL, eqO, eqC, eqCs, rn, renOf, look_cons, look, EK.cast]) (by simp [appN, ptrs, eqVL, eqV, eqA, eqC, eqCs, eqAs, eqCaps, EK.sz, rn, renOf, look_cons, look, arcV, fV]) (by simp [appN, ptrs, SV.lt, SA.lt, SC.lt, arcV, fV, lenN]) ?_
    rintro _ _ ⟨rfl, rfl⟩
    repeat' (first | exact rfl | ((conv => whnf); first | refine condP_dec (fun h => absurd h (by omega)) (fun h => ?_) | refine condP_dec (fun h => ?_) (fun h => absurd h (by omega)) | refine condP_dec (fun h => ?_) (fun h => ?_) | refine condP_ndec (fun h => absurd h (by omega)) (fun h => ?_) | refine condP_ndec (fun h => ?_) (fun h => absurd h (by omega)) | refine condP_ndec (fun h => ?_) (fun h => ?_) | refine condP_beq (fun h => absurd h (by omega)) (fun h => ?_) | refine condP_beq (fun h => ?_) (fun h => absurd h (by omega)) | refine condP_beq (fun h => ?_) (fun h => ?_) | refine condP_bne (fun h => absurd h (by omega)) (fun h => ?_) | refine condP_bne (fun h => ?_) (fun h => absurd h (by omega)) | refine condP_bne (fun h => ?_) (fun h => ?_) | refine condP_mk (fun h => ?_) (fun h => ?_) | refine Ob.mk (by (first | omega | (simp only [InI, nmin, List.length_append, List.length_replicate, List.length_cons, List.length_nil, List.length_map, List.length_set, List.length_take, List.length_drop, List.length_reverse, List.length_range, Nat.zero_add, Nat.add_zero, Int.toNat_natCast, EK.sz]; omega) | (simp only [InI, nmin, List.length_append, List.length_replicate, List.length_cons, List.length_nil, List.length_map, List.length_set, List.length_take, List.length_drop, List.length_reverse, List.length_range, Nat.zero_add, Nat.add_zero, Int.toNat_natCast, EK.sz] at *; omega))) ?_ | refine Ob.mk ?_ ?_ | refine Both.mk ?_ ?_ | refine draw_of Try.mixed Try.tyOk 60 (by kernel_rfl) ?_))
    refine Back.is ?_
    simp [eqV, eqA, eqC]
  · repeat' (first | exact rfl | ((conv => whnf); first | refine condP_dec (fun h => absurd h (by omega)) (fun h => ?_) | refine condP_dec (fun h => ?_) (fun h => absurd h (by omega)) | refine condP_dec (fun h => ?_) (fun h => ?_) | refine condP_ndec (fun h => absurd h (by omega)) (fun h => ?_) | refine condP_ndec (fun h => ?_) (fun h => absurd h (by omega)) | refine condP_ndec (fun h => ?_) (fun h => ?_) | refine condP_beq (fun h => absurd h (by omega)) (fun h => ?_) | refine condP_beq (fun h => ?_) (fun h => absurd h (by omega)) | refine condP_beq (fun h => ?_) (fun h => ?_) | refine condP_bne (fun h => absurd h (by omega)) (fun h => ?_) | refine condP_bne (fun h => ?_) (fun h => absurd h (by omega)) | refine condP_bne (fun h => ?_) (fun h => ?_) | refine condP_mk (fun h => ?_) (fun h => ?_) | refine Ob.mk (by (first | omega | (simp only [InI, nmin, List.length_append, List.length_replicate, List.length_cons, List.length_nil, List.length_map, List.length_set, List.length_take, List.length_drop, List.length_reverse, List.length_range, Nat.zero_add, Nat.add_zero, Int.toNat_natCast, EK.sz]; omega) | (simp only [InI, nmin, List.length_append, List.length_replicate, List.length_cons, List.length_nil, List.length_map, List.length_set, List.length_take, List.length_drop, List.length_reverse, List.length_range, Nat.zero_add, Nat.add_zero, Int.toNat_natCast, EK.sz] at *; omega))) ?_ | refine Ob.mk ?_ ?_ | refine Both.mk ?_ ?_ | refine draw_of Try.mixed Try.tyOk 60 (by kernel_rfl) ?_))
    (conv => whnf)
    refine callF (score_no F u v cu cv hl hsc) [0, 1, 2, 3] Try.call10 rfl (by simp [eqLs, eqL, eqO, eqC, eqCs, rn, renOf, look_cons, look, EK.cast]) (by simp [appN, ptrs, eqVL, eqV, eqA, eqC, eqCs, eqAs, eqCaps, EK.sz, rn, renOf, look_cons, look, arcV, fV]) (by simp [appN, ptrs, SV.lt, SA.lt, SC.lt, arcV, fV, lenN]) ?_
    rintro _ _ ⟨rfl, rfl⟩
    repeat' (first | exact rfl | ((conv => whnf); first | refine condP_dec (fun h => absurd h (by omega)) (fun h => ?_) | refine condP_dec (fun h => ?_) (fun h => absurd h (by omega)) | refine condP_dec (fun h => ?_) (fun h => ?_) | refine condP_ndec (fun h => absurd h (by omega)) (fun h => ?_) | refine condP_ndec (fun h => ?_) (fun h => absurd h (by omega)) | refine condP_ndec (fun h => ?_) (fun h => ?_) | refine condP_beq (fun h => absurd h (by omega)) (fun h => ?_) | refine condP_beq (fun h => ?_) (fun h => absurd h (by omega)) | refine condP_beq (fun h => ?_) (fun h => ?_) | refine condP_bne (fun h => absurd h (by omega)) (fun h => ?_) | refine condP_bne (fun h => ?_) (fun h => absurd h (by omega)) | refine condP_bne (fun h => ?_) (fun h => ?_) | refine condP_mk (fun h => ?_) (fun h => ?_) | refine Ob.mk (by (first | omega | (simp only [InI, nmin, List.length_append, List.length_replicate, List.length_cons, List.length_nil, List.length_map, List.length_set, List.length_take, List.length_drop, List.length_reverse, List.length_range, Nat.zero_add, Nat.add_zero, Int.toNat_natCast, EK.sz]; omega) | (simp only [InI, nmin, List.length_append, List.length_replicate, List.length_cons, List.length_nil, List.length_map, List.length_set, List.length_take, List.length_drop, List.length_reverse, List.length_range, Nat.zero_add, Nat.add_zero, Int.toNat_natCast, EK.sz] at *; omega))) ?_ | refine Ob.mk ?_ ?_ | refine Both.mk ?_ ?_ | refine draw_of Try.mixed Try.tyOk 60 (by kernel_rfl) ?_))
    (conv => whnf)
    refine callF (checkScore_c F u v cu cv hl) [0, 1, 2, 3] Try.call11 rfl (by simp [eqLs, eqL, eqO, eqC, eqCs, rn, renOf, look_cons, look, EK.cast]) (by simp [appN, ptrs, eqVL, eqV, eqA, eqC, eqCs, eqAs, eqCaps, EK.sz, rn, renOf, look_cons, look, arcV, fV]) (by simp [appN, ptrs, SV.lt, SA.lt, SC.lt, arcV, fV, lenN]) ?_
    rintro _ _ ⟨rfl, rfl⟩
    repeat' (first | exact rfl | ((conv => whnf); first | refine condP_dec (fun h => absurd h (by omega)) (fun h => ?_) | refine condP_dec (fun h => ?_) (fun h => absurd h (by omega)) | refine condP_dec (fun h => ?_) (fun h => ?_) | refine condP_ndec (fun h => absurd h (by omega)) (fun h => ?_) | refine condP_ndec (fun h => ?_) (fun h => absurd h (by omega)) | refine condP_ndec (fun h => ?_) (fun h => ?_) | refine condP_beq (fun h => absurd h (by omega)) (fun h => ?_) | refine condP_beq (fun h => ?_) (fun h => absurd h (by omega)) | refine condP_beq (fun h => ?_) (fun h => ?_) | refine condP_bne (fun h => absurd h (by omega)) (fun h => ?_) | refine condP_bne (fun h => ?_) (fun h => absurd h (by omega)) | refine condP_bne (fun h => ?_) (fun h => ?_) | refine condP_mk (fun h => ?_) (fun h => ?_) | refine Ob.mk (by (first | omega | (simp only [InI, nmin, List.length_append, List.length_replicate, List.length_cons, List.length_nil, List.length_map, List.length_set, List.length_take, List.length_drop, List.length_reverse, List.length_range, Nat.zero_add, Nat.add_zero, Int.toNat_natCast, EK.sz]; omega) | (simp only [InI, nmin, List.length_append, List.length_replicate, List.length_cons, List.length_nil, List.length_map, List.length_set, List.length_take, List.length_drop, List.length_reverse, List.length_range, Nat.zero_add, Nat.add_zero, Int.toNat_natCast, EK.sz] at *; omega))) ?_ | refine Ob.mk ?_ ?_ | refine Both.mk ?_ ?_ | refine draw_of Try.mixed Try.tyOk 60 (by kernel_rfl) ?_))
    (conv => whnf)
    refine callF (scoreBegun_c) [] Try.call13 rfl (by simp [eqLs, eqL, eqO, eqC, eqCs, rn, renOf, look_cons, look, EK.cast]) (by simp [appN, ptrs, eqVL, eqV, eqA, eqC, eqCs, eqAs, eqCaps, EK.sz, rn, renOf, look_cons, look, arcV, fV]) (by simp [appN, ptrs, SV.lt, SA.lt, SC.lt, arcV, fV, lenN]) ?_
    rintro _ _ ⟨rfl, rfl⟩
    repeat' (first | exact rfl | ((conv => whnf); first | refine condP_dec (fun h => absurd h (by omega)) (fun h => ?_) | refine condP_dec (fun h => ?_) (fun h => absurd h (by omega)) | refine condP_dec (fun h => ?_) (fun h => ?_) | refine condP_ndec (fun h => absurd h (by omega)) (fun h => ?_) | refine condP_ndec (fun h => ?_) (fun h => absurd h (by omega)) | refine condP_ndec (fun h => ?_) (fun h => ?_) | refine condP_beq (fun h => absurd h (by omega)) (fun h => ?_) | refine condP_beq (fun h => ?_) (fun h => absurd h (by omega)) | refine condP_beq (fun h => ?_) (fun h => ?_) | refine condP_bne (fun h => absurd h (by omega)) (fun h => ?_) | refine condP_bne (fun h => ?_) (fun h => absurd h (by omega)) | refine condP_bne (fun h => ?_) (fun h => ?_) | refine condP_mk (fun h => ?_) (fun h => ?_) | refine Ob.mk (by (first | omega | (simp only [InI, nmin, List.length_append, List.length_replicate, List.length_cons, List.length_nil, List.length_map, List.length_set, List.length_take, List.length_drop, List.length_reverse, List.length_range, Nat.zero_add, Nat.add_zero, Int.toNat_natCast, EK.sz]; omega) | (simp only [InI, nmin, List.length_append, List.length_replicate, List.length_cons, List.length_nil, List.length_map, List.length_set, List.length_take, List.length_drop, List.length_reverse, List.length_range, Nat.zero_add, Nat.add_zero, Int.toNat_natCast, EK.sz] at *; omega))) ?_ | refine Ob.mk ?_ ?_ | refine Both.mk ?_ ?_ | refine draw_of Try.mixed Try.tyOk 60 (by kernel_rfl) ?_))
    (conv => whnf)
    refine callF (word_c u cu) [2] Try.call14 rfl (by simp [eqLs, eqL, eqO, eqC, eqCs, rn, renOf, look_cons, look, EK.cast]) (by simp [appN, ptrs, eqVL, eqV, eqA, eqC, eqCs, eqAs, eqCaps, EK.sz, rn, renOf, look_cons, look, arcV, fV]) (by simp [appN, ptrs, SV.lt, SA.lt, SC.lt, arcV, fV, lenN]) ?_
    rintro _ _ ⟨rfl, rfl⟩
    repeat' (first | exact rfl | ((conv => whnf); first | refine condP_dec (fun h => absurd h (by omega)) (fun h => ?_) | refine condP_dec (fun h => ?_) (fun h => absurd h (by omega)) | refine condP_dec (fun h => ?_) (fun h => ?_) | refine condP_ndec (fun h => absurd h (by omega)) (fun h => ?_) | refine condP_ndec (fun h => ?_) (fun h => absurd h (by omega)) | refine condP_ndec (fun h => ?_) (fun h => ?_) | refine condP_beq (fun h => absurd h (by omega)) (fun h => ?_) | refine condP_beq (fun h => ?_) (fun h => absurd h (by omega)) | refine condP_beq (fun h => ?_) (fun h => ?_) | refine condP_bne (fun h => absurd h (by omega)) (fun h => ?_) | refine condP_bne (fun h => ?_) (fun h => absurd h (by omega)) | refine condP_bne (fun h => ?_) (fun h => ?_) | refine condP_mk (fun h => ?_) (fun h => ?_) | refine Ob.mk (by (first | omega | (simp only [InI, nmin, List.length_append, List.length_replicate, List.length_cons, List.length_nil, List.length_map, List.length_set, List.length_take, List.length_drop, List.length_reverse, List.length_range, Nat.zero_add, Nat.add_zero, Int.toNat_natCast, EK.sz]; omega) | (simp only [InI, nmin, List.length_append, List.length_replicate, List.length_cons, List.length_nil, List.length_map, List.length_set, List.length_take, List.length_drop, List.length_reverse, List.length_range, Nat.zero_add, Nat.add_zero, Int.toNat_natCast, EK.sz] at *; omega))) ?_ | refine Ob.mk ?_ ?_ | refine Both.mk ?_ ?_ | refine draw_of Try.mixed Try.tyOk 60 (by kernel_rfl) ?_))
    (conv => whnf)
    refine callF (checkWord_c u cu) [2] Try.call15 rfl (by simp [eqLs, eqL, eqO, eqC, eqCs, rn, renOf, look_cons, look, EK.cast]) (by simp [appN, ptrs, eqVL, eqV, eqA, eqC, eqCs, eqAs, eqCaps, EK.sz, rn, renOf, look_cons, look, arcV, fV]) (by simp [appN, ptrs, SV.lt, SA.lt, SC.lt, arcV, fV, lenN]) ?_
    rintro _ _ ⟨rfl, rfl⟩
    repeat' (first | exact rfl | ((conv => whnf); first | refine condP_dec (fun h => absurd h (by omega)) (fun h => ?_) | refine condP_dec (fun h => ?_) (fun h => absurd h (by omega)) | refine condP_dec (fun h => ?_) (fun h => ?_) | refine condP_ndec (fun h => absurd h (by omega)) (fun h => ?_) | refine condP_ndec (fun h => ?_) (fun h => absurd h (by omega)) | refine condP_ndec (fun h => ?_) (fun h => ?_) | refine condP_beq (fun h => absurd h (by omega)) (fun h => ?_) | refine condP_beq (fun h => ?_) (fun h => absurd h (by omega)) | refine condP_beq (fun h => ?_) (fun h => ?_) | refine condP_bne (fun h => absurd h (by omega)) (fun h => ?_) | refine condP_bne (fun h => ?_) (fun h => absurd h (by omega)) | refine condP_bne (fun h => ?_) (fun h => ?_) | refine condP_mk (fun h => ?_) (fun h => ?_) | refine Ob.mk (by (first | omega | (simp only [InI, nmin, List.length_append, List.length_replicate, List.length_cons, List.length_nil, List.length_map, List.length_set, List.length_take, List.length_drop, List.length_reverse, List.length_range, Nat.zero_add, Nat.add_zero, Int.toNat_natCast, EK.sz]; omega) | (simp only [InI, nmin, List.length_append, List.length_replicate, List.length_cons, List.length_nil, List.length_map, List.length_set, List.length_take, List.length_drop, List.length_reverse, List.length_range, Nat.zero_add, Nat.add_zero, Int.toNat_natCast, EK.sz] at *; omega))) ?_ | refine Ob.mk ?_ ?_ | refine Both.mk ?_ ?_ | refine draw_of Try.mixed Try.tyOk 60 (by kernel_rfl) ?_))
    refine Back.is ?_
    simp [eqV, eqA, eqC]
end Go.Fw
