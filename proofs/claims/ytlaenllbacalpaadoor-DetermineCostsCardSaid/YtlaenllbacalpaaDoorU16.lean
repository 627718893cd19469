/- Walks of the functions: what each computes. -/
import Derived.Test.YtlaenllbacalpaaDoorU15
import Derived.Test.YtlaenllbacalpaaDoorU10
import Derived.Test.YtlaenllbacalpaaDoorU12

set_option linter.unusedSimpArgs false
set_option linter.unusedVariables false

namespace Go.Fw
open Go Go.Proofs

theorem one_edge {u v : List Int} {x y : Trip} {n : Nat} {w : Int} (h : Edge oneT u v x n y w) : n = 0 ∧ x.a = 0 ∧ w = 5 ∧ (fitE u x.b 1).2 = true ∧ (fitE v x.c 2).2 = true ∧ y = ⟨1, (fitE u x.b 1).1, (fitE v x.c 2).1⟩ := by
  obtain ⟨a, h1, h2, h3, h4, h5, h6⟩ := h
  have hn : n = 0 := by
    have := (List.getElem?_eq_some_iff.1 h1).1
    simp only [oneT, List.length_cons, List.length_nil] at this
    omega
  subst hn
  simp only [oneT, List.getElem?_cons_zero, Option.some.injEq] at h1
  subst h1
  exact ⟨rfl, h2.symm, h6, h3, h4, h5⟩

theorem one_reach {u v : List Int} {c : Int} {y : Trip} (h : Reach oneT u v (fromSt oneT) c y) : (y = ⟨0, 0, 0⟩ ∧ c = 0) ∨ (y = ⟨1, 1, 1⟩ ∧ c = 5 ∧ 0 < u.length) := by
  induction h with
  | here h => exact .inl ⟨h.1, h.2⟩
  | on hr he ih =>
    obtain ⟨_, h2, h3, h4, h5, h6⟩ := one_edge he
    rcases ih with ⟨rfl, rfl⟩ | ⟨rfl, _⟩
    · right
      refine ⟨?_, by omega, ?_⟩
      · rw [h6]
        rfl
      · unfold fitE at h4
        simp only [show (1 : Int) ≠ 0 by decide, if_false, decide_eq_true_eq] at h4
        omega
    · cases h2

theorem one_end {A : Trip → Option Int} (hA : IsLeast oneT [1] [2] (fromSt oneT) A) : A ⟨1, 1, 1⟩ = some 5 ∧ endF A [-1, 1] 1 1 2 = (⟨1, 1, 1⟩, 6) := by
  have h0 : Reach oneT [1] [2] (fromSt oneT) 0 ⟨0, 0, 0⟩ := .here ⟨rfl, rfl⟩
  have he : Edge oneT [1] [2] ⟨0, 0, 0⟩ 0 ⟨1, 1, 1⟩ 5 := ⟨⟨0, 1, 2, 1, 5⟩, rfl, rfl, rfl, rfl, rfl, rfl⟩
  have h1 : Reach oneT [1] [2] (fromSt oneT) (0 + 5) ⟨1, 1, 1⟩ := .on h0 he
  obtain ⟨c, h2, h3⟩ := hA.least _ _ h1
  have h4 : A ⟨1, 1, 1⟩ = some 5 := by
    rcases one_reach (hA.path _ _ h2) with ⟨q, _⟩ | ⟨_, q, _⟩
    · cases q
    · rw [h2, q]
  refine ⟨h4, ?_⟩
  have e1 : endF A [-1, 1] 1 1 1 = (⟨0, 0, 0⟩, -1) := by
    cases hd : A ⟨((0 : Nat) : Int), 1, 1⟩ with
    | none => exact endF_none hd
    | some d => exact endF_no hd (.inl rfl)
  have := endF_yes (D := A) (fin := [-1, 1]) (p := 1) (q := 1) (k := 1) (d := 5) h4 (by decide) (.inl (by rw [e1]))
  exact this

theorem one_nil {A : Trip → Option Int} (hA : IsLeast oneT [] [] (fromSt oneT) A) : (endF A [-1, 1] 0 0 2).2 = -1 := by
  have h4 : A ⟨((1 : Nat) : Int), 0, 0⟩ = none := by
    cases h : A ⟨((1 : Nat) : Int), 0, 0⟩ with
    | none => rfl
    | some c =>
      rcases one_reach (hA.path _ _ h) with ⟨q, _⟩ | ⟨q, _⟩
      · cases q
      · cases q
  have e1 : endF A [-1, 1] 0 0 1 = (⟨0, 0, 0⟩, -1) := by
    cases hd : A ⟨((0 : Nat) : Int), 0, 0⟩ with
    | none => exact endF_none hd
    | some d => exact endF_no hd (.inl rfl)
  rw [endF_none h4, e1]

theorem one_walk {E : Trip × Int} {l : List Int} (h : WalkIs oneT [1] [2] E l) : E.2 = 6 ∧ l = [0] := by
  obtain ⟨D, ord, rk, B, n, hD, hall, hE, hn, hl⟩ := h
  have h1 := one_end (hD.least hall)
  have hE2 : E = (⟨1, 1, 1⟩, 6) := hE.trans h1.2
  subst hE2
  refine ⟨rfl, ?_⟩
  obtain ⟨d, hd, _⟩ := Option.map_eq_some_iff.1 h1.1
  obtain ⟨m, rfl⟩ : ∃ m, n = m + 1 := ⟨n - 1, by omega⟩
  have key : chain D (m + 1) ⟨1, 1, 1⟩ = [0] := by
    rcases hD.by' _ d hd with ⟨q, _⟩ | ⟨k, x, c, w, g1, g2, g3, g4, g5, g6, g7, _, _⟩
    · cases q
    · obtain ⟨rfl, q2, q3, q4, q5, q6⟩ := one_edge g7
      have hx : x = ⟨0, 0, 0⟩ := by
        rcases one_reach ((hD.least hall).path x c.cost (by simp [g6])) with ⟨q, _⟩ | ⟨q, _⟩
        · exact q
        · rw [q] at q2; cases q2
      subst hx
      have e : (⟨d.s, d.i, d.o⟩ : Trip) = ⟨0, 0, 0⟩ := by rw [g2, g3, g4]
      rw [chain_on hd (by omega), g1, e]
      congr 1
      rcases hD.by' _ c g6 with ⟨_, _, q⟩ | ⟨k, x, c', w, _, _, _, _, _, _, q, _, _⟩
      · exact chain_stop g6 (by omega) m
      · have := (one_edge q).2.2.2.2.2
        cases this
  rw [key] at hl
  have := congrArg List.reverse hl
  rwa [List.reverse_reverse] at this

end Go.Fw

namespace Go.Fw
open Go Go.Proofs

theorem one_sc1 : scoreE oneT [1] [2] = 0 := by decide
theorem one_sc0 : scoreE oneT [] [] = 0 := by decide

set_option maxHeartbeats 8000000 in
set_option maxRecDepth 20000 in
theorem scoreBegun_c : Ct Tryd.prog 18 [] [] [] 0 (Is 0 (.b true)) := by
  refine ctW Tryd.tyOk 8 [] Tryd.func18 rfl (by simp) (by simp) (fr := []) rfl ?_
  repeat' (first | exact rfl | ((conv => whnf); first | ((first | refine qA (fun h => ?_) fun h => ?_ | refine qN (fun h => ?_) fun h => ?_ | refine qB (fun h => ?_) fun h => ?_ | refine qC (fun h => ?_) fun h => ?_) <;> try exact absurd h (by omega)) | refine qM (fun h => ?_) fun h => ?_ | refine oM (by (first | omega | (simp only [lenS, InI, nmin, EK.sz]; omega) | (simp only [lenS, InI, nmin, EK.sz] at *; omega))) ?_ | refine oM ?_ ?_ | refine bM ?_ ?_ | refine draw_of Tryd.mixed Tryd.tyOk 60 (by kernel_rfl) ?_))
  (conv => whnf)
  refine callF (one_c) [] Tryd.call42 rfl (by simp [eqLs, eqL, eqO, eqC, eqCs, rn, renOf, look_cons, look, EK.cast]) (by simp [appN, ptrs, eqVL, eqV, eqA, eqC, eqCs, eqAs, eqCaps, EK.sz, rn, renOf, look_cons, look, arcV, fV]) (by simp [appN, ptrs, SV.lt, SA.lt, SC.lt, arcV, fV, lenN]) ?_
  rintro _ _ ⟨rfl, rfl⟩
  (conv => whnf)
  refine callF (score_ok oneT [1] [2] 1 1 (by decide) one_sc1) [0, 1, 2, 3] Tryd.call20 rfl (by simp [eqLs, eqL, eqO, eqC, eqCs, rn, renOf, look_cons, look, EK.cast, oneT, oneV]) (by simp [appN, ptrs, eqVL, eqV, eqA, eqC, eqCs, eqAs, eqCaps, EK.sz, rn, renOf, look_cons, look, arcV, fV, oneT, oneV]) (by simp [appN, ptrs, SV.lt, SA.lt, SC.lt, arcV, fV, lenN]) ?_
  rintro _ _ ⟨A, hA, rfl, rfl⟩
  have hA2 := (one_end hA).2
  rw [show (endF A oneT.fin (([1] : List Int).length : Int) (([2] : List Int).length : Int) oneT.fin.length) = endF A [-1, 1] 1 1 2 from rfl, hA2]
  clear hA hA2
  repeat' (first | exact rfl | ((conv => whnf); first | ((first | refine qA (fun h => ?_) fun h => ?_ | refine qN (fun h => ?_) fun h => ?_ | refine qB (fun h => ?_) fun h => ?_ | refine qC (fun h => ?_) fun h => ?_) <;> try exact absurd h (by omega)) | refine qM (fun h => ?_) fun h => ?_ | refine oM (by (first | omega | (simp only [lenS, InI, nmin, EK.sz]; omega) | (simp only [lenS, InI, nmin, EK.sz] at *; omega))) ?_ | refine oM ?_ ?_ | refine bM ?_ ?_ | refine draw_of Tryd.mixed Tryd.tyOk 60 (by kernel_rfl) ?_))
  (conv => whnf)
  refine callF (one_c) [] Tryd.call42 rfl (by simp [eqLs, eqL, eqO, eqC, eqCs, rn, renOf, look_cons, look, EK.cast]) (by simp [appN, ptrs, eqVL, eqV, eqA, eqC, eqCs, eqAs, eqCaps, EK.sz, rn, renOf, look_cons, look, arcV, fV]) (by simp [appN, ptrs, SV.lt, SA.lt, SC.lt, arcV, fV, lenN]) ?_
  rintro _ _ ⟨rfl, rfl⟩
  (conv => whnf)
  refine callNil 3 .int (args' := [SV.a (SA.agg [SC.i 2, SC.i 0, SC.sl 4 1 0 2 2, SC.sl 5 5 0 1 1]), .c (.sl 6 1 0 0 0), .c (.v (.slice none 0 0))]) (fun β => by simp [SV.den, SA.den, SC.den, Env.add, appN, ptrs]) ?_
  (conv => whnf)
  refine callNil 3 .int (args' := [SV.a (SA.agg [SC.i 2, SC.i 0, SC.sl 4 1 0 2 2, SC.sl 5 5 0 1 1]), .c (.sl 6 1 0 0 0), .c (.sl 7 1 0 0 0)]) (fun β => by simp [SV.den, SA.den, SC.den, Env.add, appN, ptrs]) ?_
  (conv => whnf)
  refine callF (score_ok oneT [] [] 0 0 (by decide) one_sc0) [4, 5, 6, 7] Tryd.call20 rfl (by simp [eqLs, eqL, eqO, eqC, eqCs, rn, renOf, look_cons, look, EK.cast, oneT, oneV]) (by simp [appN, ptrs, eqVL, eqV, eqA, eqC, eqCs, eqAs, eqCaps, EK.sz, rn, renOf, look_cons, look, arcV, fV, oneT, oneV]) (by simp [appN, ptrs, SV.lt, SA.lt, SC.lt, arcV, fV, lenN]) ?_
  rintro _ _ ⟨A, hA, rfl, rfl⟩
  have hA2 := one_nil hA
  rw [show (endF A oneT.fin (([] : List Int).length : Int) (([] : List Int).length : Int) oneT.fin.length).2 = (endF A [-1, 1] 0 0 2).2 from rfl, hA2]
  clear hA hA2
  repeat' (first | exact rfl | ((conv => whnf); first | ((first | refine qA (fun h => ?_) fun h => ?_ | refine qN (fun h => ?_) fun h => ?_ | refine qB (fun h => ?_) fun h => ?_ | refine qC (fun h => ?_) fun h => ?_) <;> try exact absurd h (by omega)) | refine qM (fun h => ?_) fun h => ?_ | refine oM (by (first | omega | (simp only [lenS, InI, nmin, EK.sz]; omega) | (simp only [lenS, InI, nmin, EK.sz] at *; omega))) ?_ | refine oM ?_ ?_ | refine bM ?_ ?_ | refine draw_of Tryd.mixed Tryd.tyOk 60 (by kernel_rfl) ?_))
  (conv => whnf)
  refine callF (one_c) [] Tryd.call42 rfl (by simp [eqLs, eqL, eqO, eqC, eqCs, rn, renOf, look_cons, look, EK.cast]) (by simp [appN, ptrs, eqVL, eqV, eqA, eqC, eqCs, eqAs, eqCaps, EK.sz, rn, renOf, look_cons, look, arcV, fV]) (by simp [appN, ptrs, SV.lt, SA.lt, SC.lt, arcV, fV, lenN]) ?_
  rintro _ _ ⟨rfl, rfl⟩
  (conv => whnf)
  refine callF (walkP_c oneT [1] [2] 1 1 (by decide) one_sc1) [8, 9, 10, 11] Tryd.call43 rfl (by simp [eqLs, eqL, eqO, eqC, eqCs, rn, renOf, look_cons, look, EK.cast, oneT, oneV]) (by simp [appN, ptrs, eqVL, eqV, eqA, eqC, eqCs, eqAs, eqCaps, EK.sz, rn, renOf, look_cons, look, arcV, fV, oneT, oneV]) (by simp [appN, ptrs, SV.lt, SA.lt, SC.lt, arcV, fV, lenN]) ?_
  rintro x s (⟨A, hA, hA2, _⟩ | ⟨E, l, sp, hW, hE, rfl, rfl⟩)
  · have h1 := (one_end hA).2
    have h2 : (endF A [-1, 1] 1 1 2).2 = -1 := hA2
    rw [h1] at h2
    cases h2
  obtain ⟨h1, rfl⟩ := one_walk hW
  rw [h1]
  clear hW hE h1
  repeat' (first | exact rfl | ((conv => whnf); first | ((first | refine qA (fun h => ?_) fun h => ?_ | refine qN (fun h => ?_) fun h => ?_ | refine qB (fun h => ?_) fun h => ?_ | refine qC (fun h => ?_) fun h => ?_) <;> try exact absurd h (by omega)) | refine qM (fun h => ?_) fun h => ?_ | refine oM (by (first | omega | (simp only [lenS, InI, nmin, EK.sz]; omega) | (simp only [lenS, InI, nmin, EK.sz] at *; omega))) ?_ | refine oM ?_ ?_ | refine bM ?_ ?_ | refine draw_of Tryd.mixed Tryd.tyOk 60 (by kernel_rfl) ?_))
  (conv => whnf)
  refine callF (word_c [1] 1) [13] Tryd.call44 rfl (by simp [eqLs, eqL, eqO, eqC, eqCs, rn, renOf, look_cons, look, EK.cast]) (by simp [appN, ptrs, eqVL, eqV, eqA, eqC, eqCs, eqAs, eqCaps, EK.sz, rn, renOf, look_cons, look, arcV, fV]) (by simp [appN, ptrs, SV.lt, SA.lt, SC.lt, arcV, fV, lenN]) ?_
  rintro _ _ ⟨rfl, rfl⟩
  rw [show wordE [1] = 0 by decide]
  repeat' (first | exact rfl | ((conv => whnf); first | ((first | refine qA (fun h => ?_) fun h => ?_ | refine qN (fun h => ?_) fun h => ?_ | refine qB (fun h => ?_) fun h => ?_ | refine qC (fun h => ?_) fun h => ?_) <;> try exact absurd h (by omega)) | refine qM (fun h => ?_) fun h => ?_ | refine oM (by (first | omega | (simp only [lenS, InI, nmin, EK.sz]; omega) | (simp only [lenS, InI, nmin, EK.sz] at *; omega))) ?_ | refine oM ?_ ?_ | refine bM ?_ ?_ | refine draw_of Tryd.mixed Tryd.tyOk 60 (by kernel_rfl) ?_))
  refine Back.is ?_
  simp only [eqV, eqA, eqC]
  rfl

end Go.Fw

/-
  The best way of all; what is pushed costs the same but for what is told; in the plain.
-/
namespace Go.Fw
open Go

theorem begun_getD {F : TF} {n : Nat} (h : n < F.st.toNat) : (begun F).getD n 0 = begF F.start n := by
  simp [begun, List.getD, h]
theorem begun_ln (F : TF) : (begun F).length = F.st.toNat := by simp [begun]

theorem RN.way {F : TF} (hF : FOk F) {k v : Nat} {c : Int} (h : RN F.arcs (begun F) k v c) : ∃ u w, Way F.arcs F.start u w (v : Int) c := by
  induction h with
  | base h hc =>
    rename_i v
    rw [begun_ln] at h
    rw [begun_getD h] at hc ⊢
    unfold begF at hc ⊢
    split at hc
    · rename_i e
      rw [if_pos e, e]
      exact ⟨[], [], .nil _⟩
    · exact absurd rfl hc
  | step h ha ih =>
    rename_i k a c
    obtain ⟨u, w, ih⟩ := ih
    have h1 := (hF.arc a ha).f0
    have h2 := (hF.arc a ha).t0
    have e1 : (a.f.toNat : Int) = a.f := by omega
    have e2 : (a.t.toNat : Int) = a.t := by omega
    rw [e1] at ih
    rw [e2]
    exact ⟨_, _, ih.snoc ha⟩

theorem Way.rnOf {L : List Arc} {c0 : List Int} {s t : Int} {u v : List Int} {d : Int} (h : Way L s u v t d) : ∀ {k : Nat} {c : Int}, RN L c0 k s.toNat c → ∃ k', RN L c0 k' t.toNat (c + d) := by
  induction h with
  | nil s => intro k c h; exact ⟨k, by simpa using h⟩
  | cons ha h ih =>
    intro k c hr
    obtain ⟨k', h'⟩ := ih (.step hr ha)
    exact ⟨k', by rw [← Int.add_assoc]; exact h'⟩

theorem Way.rn {F : TF} (hF : FOk F) {t : Int} {u v : List Int} {d : Int} (h : Way F.arcs F.start u v t d) : ∃ k, RN F.arcs (begun F) k t.toNat d := by
  have hs := hF.start
  have h1 : F.start.toNat < F.st.toNat := by omega
  have h2 : (begun F).getD F.start.toNat 0 = 0 := by
    rw [begun_getD h1]
    unfold begF
    exact if_pos (by omega)
  have h3 : RN F.arcs (begun F) 0 F.start.toNat 0 := by
    have := RN.base (l := F.arcs) (c0 := begun F) (v := F.start.toNat) (by rw [begun_ln]; exact h1) (by rw [h2]; decide)
    rwa [h2] at this
  obtain ⟨k, hk⟩ := h.rnOf h3
  exact ⟨k, by simpa using hk⟩

theorem Sol.low {F : TF} (hF : FOk F) {D : List Int} (h : Sol F.arcs (begun F) D) : ∀ v, v < (begun F).length → -1 ≤ D.getD v 0 := by
  intro v hv
  by_cases e : D.getD v 0 = -1
  · omega
  · obtain ⟨k, _, hk⟩ := h.s3 v hv e
    have := hk.pos hF.arc (fun v hv => ((begun_bd hF).bd v hv).1)
    omega

/-! ### Pushed -/
structure Pot (F : TF) (D : List Int) : Prop where
  len : D.length = F.fin.length
  low : ∀ v, v < F.fin.length → -1 ≤ D.getD v 0
  fin : ∀ v, v < F.fin.length → Le (D.getD v 0) (F.fin.getD v 0)
  arc : ∀ a ∈ F.arcs, D.getD a.t.toNat 0 ≠ -1 → Le (D.getD a.f.toNat 0) (D.getD a.t.toNat 0 + a.w)

/-- A transducer that was pushed. -/
structure PushIs (F : TF) (D : List Int) (X : TF) : Prop where
  st : X.st = F.st
  start : X.start = F.start
  fin : X.fin = pushF D F.fin F.fin.length
  arcs : X.arcs = pushL D F.arcs

theorem pushL_mem {D : List Int} {l : List Arc} {b : Arc} : b ∈ pushL D l ↔ ∃ a ∈ l, D.getD a.f.toNat 0 ≠ -1 ∧ D.getD a.t.toNat 0 ≠ -1 ∧ b = ⟨a.f, a.i, a.o, a.t, a.w + (D.getD a.t.toNat 0 - D.getD a.f.toNat 0)⟩ := by
  unfold pushL
  rw [List.mem_filterMap]
  constructor
  · rintro ⟨a, ha, h⟩
    unfold pushA at h
    split at h
    · cases h
    · rename_i hh
      cases h
      exact ⟨a, ha, fun c => hh (.inl c), fun c => hh (.inr c), rfl⟩
  · rintro ⟨a, ha, h1, h2, rfl⟩
    refine ⟨a, ha, ?_⟩
    unfold pushA
    rw [if_neg (fun c => by rcases c with c | c; exact h1 c; exact h2 c)]

theorem push_srt {D : List Int} {l : List Arc} (h : Srt l) : Srt (pushL D l) := by
  unfold Srt pushL at *
  refine List.Pairwise.filterMap _ ?_ h
  intro a a' haa' b hb b' hb'
  unfold pushA at hb hb'
  split at hb
  · cases hb
  · split at hb'
    · cases hb'
    · cases hb; cases hb'; exact haa'

theorem PushIs.fok {F : TF} {D : List Int} {X : TF} (h : PushIs F D X) (hF : fstE F = 0) (hP : Pot F D) (hb : pushBig (pushL D F.arcs) = false) : fstE X = 0 := by
  obtain ⟨hF, hs⟩ := fstE_iff.1 hF
  refine fstE_iff.2 ⟨⟨?_, ?_, ?_, ?_, ?_, ?_⟩, ?_⟩
  · rw [h.st]; exact hF.st
  · rw [h.st, h.start]; exact hF.start
  · rw [h.fin, pushF_len, h.st]; exact hF.finl
  · intro n hn
    rw [h.fin] at hn
    obtain ⟨i, hi, rfl⟩ := List.getElem_of_mem hn
    rw [pushF_len] at hi
    have e : (pushF D F.fin F.fin.length)[i]'(by rw [pushF_len]; exact hi) = (pushF D F.fin F.fin.length).getD i 0 := by simp [List.getD, pushF_len, hi]
    rw [e, pushF_getD _ _ _ _ hi]
    unfold pushV
    have h1 := hF.fin _ (getD_mem F.fin i 0 hi)
    split
    · rename_i hh
      have h2 := hP.fin i hi hh.2
      have h3 := hP.low i hi
      omega
    · exact h1
  · rw [h.arcs]; have := pushL_len D F.arcs; have := hF.arcl; omega
  · intro b hb'
    rw [h.arcs] at hb'
    have hw : b.w ≤ 1000000000 := by
      unfold pushBig at hb
      rw [List.any_eq_false] at hb
      have := hb b hb'
      simp only [decide_eq_true_eq] at this
      omega
    obtain ⟨a, ha, h1, h2, rfl⟩ := pushL_mem.1 hb'
    have hx := hF.arc a ha
    have hn := hF.finl
    have h3 := hP.low a.f.toNat (by have := hx.f0; have := hx.f1; omega)
    have h4 := hP.low a.t.toNat (by have := hx.t0; have := hx.t1; omega)
    have h5 := hP.arc a ha h2 (by have := hx.w0; omega)
    rw [h.st]
    exact ⟨hx.f0, hx.f1, hx.t0, hx.t1, hx.i0, hx.o0, by show 0 ≤ a.w + _; omega, hw⟩
  · rw [h.arcs]; exact push_srt hs

theorem push_way {F : TF} (hF : FOk F) {D : List Int} (hP : Pot F D) {s t : Int} {u v : List Int} {d : Int} (h : Way F.arcs s u v t d) (ht : D.getD t.toNat 0 ≠ -1) : D.getD s.toNat 0 ≠ -1 ∧ Way (pushL D F.arcs) s u v t (d + D.getD t.toNat 0 - D.getD s.toNat 0) := by
  induction h with
  | nil s => exact ⟨ht, by have : (0 + D.getD s.toNat 0 - D.getD s.toNat 0) = 0 := by omega
                           rw [this]; exact .nil s⟩
  | cons ha h ih =>
    rename_i a u v t c
    obtain ⟨h1, h2⟩ := ih ht
    have hx := hF.arc a ha
    have hn := hF.finl
    have h4 := hP.low a.t.toNat (by have := hx.t0; have := hx.t1; omega)
    have h5 := hP.arc a ha h1 (by have := hx.w0; omega)
    refine ⟨h5.1, ?_⟩
    have h6 : (⟨a.f, a.i, a.o, a.t, a.w + (D.getD a.t.toNat 0 - D.getD a.f.toNat 0)⟩ : Arc) ∈ pushL D F.arcs := pushL_mem.2 ⟨a, ha, h5.1, h1, rfl⟩
    have h7 := Way.cons h6 h2
    have e : (a.w + c + D.getD t.toNat 0 - D.getD a.f.toNat 0) = (a.w + (D.getD a.t.toNat 0 - D.getD a.f.toNat 0)) + (c + D.getD t.toNat 0 - D.getD a.t.toNat 0) := by omega
    rw [e]
    exact h7

theorem push_way' {F : TF} {D : List Int} {s t : Int} {u v : List Int} {d : Int} (h : Way (pushL D F.arcs) s u v t d) (ht : D.getD t.toNat 0 ≠ -1) : D.getD s.toNat 0 ≠ -1 ∧ Way F.arcs s u v t (d - D.getD t.toNat 0 + D.getD s.toNat 0) := by
  induction h with
  | nil s => exact ⟨ht, by have : (0 - D.getD s.toNat 0 + D.getD s.toNat 0) = 0 := by omega
                           rw [this]; exact .nil s⟩
  | cons ha h ih =>
    rename_i b u v t c
    obtain ⟨h1, h2⟩ := ih ht
    obtain ⟨a, ha', h3, h4, rfl⟩ := pushL_mem.1 ha
    refine ⟨h3, ?_⟩
    simp only at h2 h1 ⊢
    have h7 := Way.cons ha' h2
    have e : (a.w + (D.getD a.t.toNat 0 - D.getD a.f.toNat 0)) + c - D.getD t.toNat 0 + D.getD a.f.toNat 0 = a.w + (c - D.getD t.toNat 0 + D.getD a.t.toNat 0) := by omega
    rw [e]
    exact h7

/-- What is pushed costs less by what is told. -/
theorem PushIs.wt {F : TF} {D : List Int} {X : TF} (h : PushIs F D X) (hF : FOk F) (hP : Pot F D) {u v : List Int} {c : Int} : Wt X u v c ↔ Wt F u v (c + D.getD F.start.toNat 0) ∧ D.getD F.start.toNat 0 ≠ -1 := by
  have hs := hF.start
  have hn := hF.finl
  unfold Wt
  rw [h.start, h.arcs, h.fin]
  constructor
  · rintro ⟨t, d, h1, h2, rfl⟩
    have hr : 0 ≤ t ∧ t < F.st := by
      have : ∀ {s t : Int} {u v : List Int} {c : Int}, Way (pushL D F.arcs) s u v t c → 0 ≤ s ∧ s < F.st → 0 ≤ t ∧ t < F.st := by
        intro s t u v c hw
        induction hw with
        | nil s => exact id
        | cons ha h ih =>
          obtain ⟨a, ha', _, _, rfl⟩ := pushL_mem.1 ha
          exact fun _ => ih ⟨(hF.arc a ha').t0, (hF.arc a ha').t1⟩
      exact this h1 hs
    have ht : t.toNat < F.fin.length := by omega
    rw [pushF_getD _ _ _ _ ht] at h2 ⊢
    unfold pushV at h2 ⊢
    by_cases e : F.fin.getD t.toNat 0 = -1
    · rw [if_neg (fun hh => hh.2 e)] at h2; exact absurd e h2
    · rw [if_pos ⟨ht, e⟩]
      have h3 := hP.fin _ ht e
      obtain ⟨h4, h5⟩ := push_way' h1 h3.1
      exact ⟨⟨t, _, h5, e, by omega⟩, h4⟩
  · rintro ⟨⟨t, d, h1, h2, h3⟩, _⟩
    have hr := h1.rng hF.arc hs
    have ht : t.toNat < F.fin.length := by omega
    have h4 := hP.fin _ ht h2
    have h5 := hP.low _ ht
    obtain ⟨h6, h7⟩ := push_way hF hP h1 h4.1
    refine ⟨t, _, h7, ?_, ?_⟩
    · rw [pushF_getD _ _ _ _ ht]
      unfold pushV
      rw [if_pos ⟨ht, h2⟩]
      omega
    · rw [pushF_getD _ _ _ _ ht]
      unfold pushV
      rw [if_pos ⟨ht, h2⟩]
      omega

/-! ### The way itself -/
inductive GW (arcs : List Arc) (rk : Nat → Nat) (x : Int) : Int → List Int → Int → Prop
  | nil : GW arcs rk x x [] 0
  | cons {n : Nat} {a : Arc} {l : List Int} {c : Int} (hn : arcs[n]? = some a) (hr : rk a.f.toNat < rk a.t.toNat) (h : GW arcs rk x a.t l c) : GW arcs rk x a.f ((n : Int) :: l) (a.w + c)

theorem GW.snoc {arcs : List Arc} {rk : Nat → Nat} {x s : Int} {l : List Int} {c : Int} (h : GW arcs rk x s l c) : ∀ {n : Nat} {a : Arc}, arcs[n]? = some a → a.f = x → rk a.f.toNat < rk a.t.toNat → GW arcs rk a.t s (l ++ [(n : Int)]) (c + a.w) := by
  induction h with
  | nil =>
    intro n a h1 h2 h3
    subst h2
    have := GW.cons h1 h3 (.nil (arcs := arcs) (rk := rk) (x := a.t))
    simpa using this
  | cons h1 h2 h ih =>
    intro n a g1 g2 g3
    rw [Int.add_assoc]
    exact .cons h1 h2 (ih g1 g2 g3)

end Go.Fw

/-
  What score tells is the least of all ways.
-/
namespace Go.Fw
open Go Go.Proofs

theorem fitE_take {l : List Int} {p x : Int} (hp : 0 ≤ p ∧ p ≤ l.length) (h : (fitE l p x).2 = true) : l.take (fitE l p x).1.toNat = l.take p.toNat ++ lab x := by
  unfold fitE lab at *
  by_cases e : x = 0
  · simp [if_pos e]
  · rw [if_neg e] at h ⊢
    rw [if_neg e]
    simp only [decide_eq_true_eq] at h ⊢
    have h1 : (p + 1).toNat = p.toNat + 1 := by omega
    rw [h1, take_succ_getD l p.toNat 0 (by omega), h.2]

section
variable {F : TF} {u v : List Int}

theorem Reach.way (hF : FOk F) {c : Int} {y : Trip} (h : Reach F u v (fromSt F) c y) : InBox F u v y ∧ Way F.arcs F.start (u.take y.b.toNat) (v.take y.c.toNat) y.a c := by
  induction h with
  | here h =>
    obtain ⟨rfl, rfl⟩ := h
    have := hF.start
    refine ⟨⟨this, ⟨Int.le_refl _, ?_⟩, ⟨Int.le_refl _, ?_⟩⟩, .nil _⟩ <;> (show (0 : Int) ≤ _; omega)
  | on h he ih =>
    obtain ⟨hx, hw⟩ := ih
    have hb := he.box hF hx
    refine ⟨hb, ?_⟩
    obtain ⟨a, h1, h2, h3, h4, rfl, rfl⟩ := he
    have ha := List.mem_of_getElem? h1
    rw [← h2] at hw
    simp only
    rw [fitE_take hx.2.1 h3, fitE_take hx.2.2 h4]
    exact hw.snoc ha

theorem fitE_of {u1 u2 : List Int} {x : Int} : (fitE (u1 ++ (lab x ++ u2)) u1.length x).2 = true ∧ (fitE (u1 ++ (lab x ++ u2)) u1.length x).1 = ((u1 ++ lab x).length : Int) := by
  unfold fitE lab
  by_cases e : x = 0
  · simp [if_pos e]
  · rw [if_neg e, if_neg e]
    refine ⟨?_, by simp⟩
    simp only [decide_eq_true_eq, Int.toNat_natCast]
    refine ⟨by simp; omega, ?_⟩
    simp [List.getD]

theorem Way.reach {S : Trip → Int → Prop} {s t : Int} {p q : List Int} {c : Int} (h : Way F.arcs s p q t c) : ∀ {u1 u2 v1 v2 : List Int} {c0 : Int}, u = u1 ++ (p ++ u2) → v = v1 ++ (q ++ v2) → Reach F u v S c0 ⟨s, u1.length, v1.length⟩ →
    Reach F u v S (c0 + c) ⟨t, (u1 ++ p).length, (v1 ++ q).length⟩ := by
  induction h with
  | nil s => intro u1 u2 v1 v2 c0 _ _ h; simpa using h
  | cons ha h ih =>
    rename_i a p q t c
    intro u1 u2 v1 v2 c0 hu hv hr
    obtain ⟨n, hn, he⟩ := List.getElem_of_mem ha
    have f1 := fitE_of (u1 := u1) (u2 := p ++ u2) (x := a.i)
    have f2 := fitE_of (u1 := v1) (u2 := q ++ v2) (x := a.o)
    rw [List.append_assoc] at hu hv
    rw [← hu] at f1
    rw [← hv] at f2
    have hedge : Edge F u v ⟨a.f, u1.length, v1.length⟩ n ⟨a.t, (u1 ++ lab a.i).length, (v1 ++ lab a.o).length⟩ a.w :=
      ⟨a, by rw [List.getElem?_eq_getElem hn, he], rfl, f1.1, f2.1, by rw [f1.2, f2.2], rfl⟩
    have := ih (u1 := u1 ++ lab a.i) (u2 := u2) (v1 := v1 ++ lab a.o) (v2 := v2) (by simp [hu]) (by simp [hv]) (.on hr hedge)
    rw [← Int.add_assoc, ← List.append_assoc, ← List.append_assoc]
    exact this

theorem reach_way (hF : FOk F) {c t : Int} : Reach F u v (fromSt F) c ⟨t, u.length, v.length⟩ ↔ Way F.arcs F.start u v t c := by
  constructor
  · intro h
    have := (h.way hF).2
    simpa using this
  · intro h
    have := h.reach (u := u) (v := v) (S := fromSt F) (u1 := []) (u2 := []) (v1 := []) (v2 := []) (c0 := 0) (by simp) (by simp) (.here ⟨rfl, rfl⟩)
    simpa using this

theorem endF_min {A : Trip → Option Int} {fin : List Int} {p q : Int} (hf : ∀ x ∈ fin, -1 ≤ x) (hA : ∀ y d, A y = some d → 0 ≤ d) : ∀ k, k ≤ fin.length → MinOf (fun c => ∃ (n : Nat) (d : Int), n < k ∧ A ⟨n, p, q⟩ = some d ∧ fin.getD n 0 ≠ -1 ∧ c = d + fin.getD n 0) (endF A fin p q k).2
  | 0, _ => .inl ⟨rfl, fun c h => by obtain ⟨n, d, h, _⟩ := h; omega⟩
  | k + 1, hk => by
    have ih := endF_min (p := p) (q := q) hf hA k (by omega)
    have hfk := hf _ (getD_mem fin k 0 (by omega))
    cases hd : A ⟨k, p, q⟩ with
    | none =>
      rw [endF_none hd]
      rcases ih with ⟨h1, h2⟩ | ⟨h0, ⟨n, d, h1, h2⟩, h3⟩
      · left
        refine ⟨h1, ?_⟩
        rintro c ⟨n, d, g1, g2, g3⟩
        by_cases e : n = k
        · subst e; rw [hd] at g2; cases g2
        · exact h2 c ⟨n, d, by omega, g2, g3⟩
      · right
        refine ⟨h0, ⟨n, d, by omega, h2⟩, ?_⟩
        rintro c ⟨n, d, g1, g2, g3⟩
        by_cases e : n = k
        · subst e; rw [hd] at g2; cases g2
        · exact h3 c ⟨n, d, by omega, g2, g3⟩
    | some d =>
      have hd0 := hA _ _ hd
      by_cases q1 : fin.getD k 0 = -1
      · rw [endF_no hd (.inl q1)]
        rcases ih with ⟨h1, h2⟩ | ⟨h0, ⟨n, d, h1, h2⟩, h3⟩
        · left
          refine ⟨h1, ?_⟩
          rintro c ⟨n, d, g1, g2, g3, g4⟩
          by_cases e : n = k
          · subst e; exact g3 q1
          · exact h2 c ⟨n, d, by omega, g2, g3, g4⟩
        · right
          refine ⟨h0, ⟨n, d, by omega, h2⟩, ?_⟩
          rintro c ⟨n, d, g1, g2, g3, g4⟩
          by_cases e : n = k
          · subst e; exact absurd q1 g3
          · exact h3 c ⟨n, d, by omega, g2, g3, g4⟩
      · by_cases q2 : (endF A fin p q k).2 = -1 ∨ d + fin.getD k 0 < (endF A fin p q k).2
        · rw [endF_yes hd q1 q2]
          right
          refine ⟨by show 0 ≤ d + fin.getD k 0; omega, ⟨k, d, by omega, hd, q1, rfl⟩, ?_⟩
          rintro c ⟨n, d', g1, g2, g3, g4⟩
          by_cases e : n = k
          · subst e; rw [hd] at g2; cases g2; simp only; omega
          · rcases ih with ⟨h1, h2⟩ | ⟨h0, _, h3⟩
            · exact absurd ⟨n, d', by omega, g2, g3, g4⟩ (h2 c)
            · have := h3 c ⟨n, d', by omega, g2, g3, g4⟩
              simp only
              omega
        · rw [endF_no hd (.inr ⟨fun c => q2 (.inl c), fun c => q2 (.inr c)⟩)]
          rcases ih with ⟨h1, h2⟩ | ⟨h0, ⟨n, d', h1, h2⟩, h3⟩
          · exact absurd (.inl h1) q2
          · right
            refine ⟨h0, ⟨n, d', by omega, h2⟩, ?_⟩
            rintro c ⟨n, d', g1, g2, g3, g4⟩
            by_cases e : n = k
            · subst e; rw [hd] at g2; cases g2; omega
            · exact h3 c ⟨n, d', by omega, g2, g3, g4⟩

/-- What score tells. -/
theorem score_min (hF : FOk F) {A : Trip → Option Int} (hA : IsLeast F u v (fromSt F) A) : MinOf (Wt F u v) (endF A F.fin u.length v.length F.fin.length).2 := by
  have hfl := hF.finl
  have hpos : ∀ y d, A y = some d → 0 ≤ d := fun y d h => ((hA.path y d h).way hF).2.pos hF.arc
  have := endF_min (p := u.length) (q := v.length) (fun x hx => (hF.fin x hx).1) hpos F.fin.length (Nat.le_refl _)
  rcases this with ⟨h1, h2⟩ | ⟨h0, ⟨n, d, h1, h2, h3, h4⟩, h5⟩
  · left
    refine ⟨h1, ?_⟩
    rintro c ⟨t, d, g1, g2, g3⟩
    obtain ⟨c', g4, g5⟩ := hA.least _ _ ((reach_way hF).2 g1)
    have hr := g1.rng hF.arc hF.start
    have e : (t.toNat : Int) = t := by omega
    exact h2 _ ⟨t.toNat, c', by omega, by rw [e]; exact g4, g2, rfl⟩
  · right
    refine ⟨h0, ⟨n, d, (reach_way hF).1 (hA.path _ _ h2), by rw [Int.toNat_natCast]; exact h3, by rw [Int.toNat_natCast]; exact h4⟩, ?_⟩
    rintro c ⟨t, d, g1, g2, g3⟩
    obtain ⟨c', g4, g5⟩ := hA.least _ _ ((reach_way hF).2 g1)
    have hr := g1.rng hF.arc hF.start
    have e : (t.toNat : Int) = t := by omega
    have := h5 _ ⟨t.toNat, c', by omega, by rw [e]; exact g4, g2, rfl⟩
    omega
end

theorem endF_bd {A : Trip → Option Int} {fin : List Int} {p q : Int} (hf : ∀ x ∈ fin, x ≤ 1000000000) (hA : ∀ y d, A y = some d → d ≤ 1000000000000000) : ∀ k, k ≤ fin.length → (endF A fin p q k).2 ≤ 1000001000000000
  | 0, _ => by simp [endF]
  | k + 1, hk => by
    have ih := endF_bd (p := p) (q := q) hf hA k (by omega)
    have hfk := hf _ (getD_mem fin k 0 (by omega))
    cases hd : A ⟨k, p, q⟩ with
    | none => rw [endF_none hd]; exact ih
    | some d =>
      have := hA _ _ hd
      by_cases c : fin.getD k 0 ≠ -1 ∧ ((endF A fin p q k).2 = -1 ∨ d + fin.getD k 0 < (endF A fin p q k).2)
      · rw [endF_yes hd c.1 c.2]; show d + fin.getD k 0 ≤ _; omega
      · rw [endF_no hd]
        · exact ih
        · by_cases c1 : fin.getD k 0 = -1
          · exact .inl c1
          · exact .inr ⟨fun e => c ⟨c1, .inl e⟩, fun e => c ⟨c1, .inr e⟩⟩

end Go.Fw

namespace Go.Fw
open Go Go.Proofs

/-- What score answers, whatever it is handed. -/
def ScoreP (F : TF) (u v : List Int) (n : Int) : Prop := (scoreE F u v = 0 → MinOf (Wt F u v) n ∧ n ≤ 1000001000000000) ∧ (scoreE F u v ≠ 0 → n = 0)

set_option maxHeartbeats 4000000 in
set_option maxRecDepth 20000 in
theorem score_b (F : TF) (u v : List Int) (cu cv : Nat) (hl : F.fin.length ≤ 9223372036854775807) (hsc : scoreE F u v = 0) :
    Ct Tryd.prog 20 [fV F, .c (.sl 2 1 0 u.length cu), .c (.sl 3 1 0 v.length cv)] [] (hpQ F u v) 4 (fun x s => ∃ n, ScoreP F u v n ∧ x = .tup [.c (.i n), .c (.i 0)] ∧ s = ⟨[], [], 4⟩) := by
  have hF : FOk F := by
    refine fstE_ok ?_
    unfold scoreE at hsc
    by_cases h : fstE F = 0
    · exact h
    · rw [if_pos h] at hsc; exact absurd hsc h
  refine ctW Tryd.tyOk 12 [] Tryd.func20 rfl (by simp [SV.lt, SA.lt, SC.lt, arcV, fV]) (by simp) (fr := [(0, fV F), (1, .c (.sl 2 1 0 u.length cu)), (2, .c (.sl 3 1 0 v.length cv))]) rfl ?_
  repeat' (first | exact rfl | ((conv => whnf); first | ((first | refine qA (fun h => ?_) fun h => ?_ | refine qN (fun h => ?_) fun h => ?_ | refine qB (fun h => ?_) fun h => ?_ | refine qC (fun h => ?_) fun h => ?_) <;> try exact absurd h (by omega)) | refine qM (fun h => ?_) fun h => ?_ | refine oM (by (first | omega | (simp only [lenS, InI, nmin, EK.sz]; omega) | (simp only [lenS, InI, nmin, EK.sz] at *; omega))) ?_ | refine oM ?_ ?_ | refine bM ?_ ?_ | refine draw_of Tryd.mixed Tryd.tyOk 60 (by kernel_rfl) ?_))
  (conv => whnf)
  refine callF (walk_ok F u v cu cv hl hsc) [0, 1, 2, 3] Tryd.call45 rfl (by simp [eqLs, eqL, eqO, eqC, eqCs, rn, renOf, look_cons, look, EK.cast]) (by simp [appN, ptrs, eqVL, eqV, eqA, eqC, eqCs, eqAs, eqCaps, EK.sz, rn, renOf, look_cons, look, arcV, fV]) (by simp [appN, ptrs, SV.lt, SA.lt, SC.lt, arcV, fV, lenN]) ?_
  rintro _ _ ⟨rows, pi, es, clk, pf, ⟨hm, ord, rk, B, hol, hD, hB, hall⟩, rfl, rfl⟩
  repeat' (first | exact rfl | ((conv => whnf); first | ((first | refine qA (fun h => ?_) fun h => ?_ | refine qN (fun h => ?_) fun h => ?_ | refine qB (fun h => ?_) fun h => ?_ | refine qC (fun h => ?_) fun h => ?_) <;> try exact absurd h (by omega)) | refine qM (fun h => ?_) fun h => ?_ | refine oM (by (first | omega | (simp only [lenS, InI, nmin, EK.sz]; omega) | (simp only [lenS, InI, nmin, EK.sz] at *; omega))) ?_ | refine oM ?_ ?_ | refine bM ?_ ?_ | refine draw_of Tryd.mixed Tryd.tyOk 60 (by kernel_rfl) ?_))
  (conv => whnf)
  refine ⟨[], [], 4, .tup [.c (.i (endF (costOf es pf) F.fin u.length v.length F.fin.length).2), .c (.i 0)], ⟨by rfl, trivial, trivial⟩, by simp [eqV, eqA, eqAs, eqC, eqCs], _, ⟨fun _ => ⟨score_min hF (hD.least hall), ?_⟩, fun c => absurd hsc c⟩, rfl, rfl⟩
  refine endF_bd (fun x hx => (hF.fin x hx).2) (fun y d h => ?_) _ (Nat.le_refl _)
  obtain ⟨e, h1, rfl⟩ := Option.map_eq_some_iff.1 h
  have := (hD.cost y e h1).2
  omega

/-- Score. -/
theorem score_a (F : TF) (u v : List Int) (cu cv : Nat) (hl : F.fin.length ≤ 9223372036854775807) :
    Ct Tryd.prog 20 [fV F, .c (.sl 2 1 0 u.length cu), .c (.sl 3 1 0 v.length cv)] [] (hpQ F u v) 4 (fun x s => ∃ n, ScoreP F u v n ∧ x = .tup [.c (.i n), .c (.i (scoreE F u v))] ∧ s = ⟨[], [], 4⟩) := by
  by_cases h : scoreE F u v = 0
  · refine (score_b F u v cu cv hl h).to ?_
    rintro x s ⟨n, h1, h2, h3⟩
    exact ⟨n, h1, by rw [h2, h], h3⟩
  · refine (score_no F u v cu cv hl h).to ?_
    rintro x s ⟨h2, h3⟩
    exact ⟨0, ⟨fun c => absurd c h, fun _ => rfl⟩, h2, h3⟩
end Go.Fw

namespace Go.Fw
open Go Go.Proofs

abbrev samT : TF := ⟨2, 0, [-1, 1], [⟨0, 1, 1, 1, 5⟩], 2, 1⟩
abbrev samV (i j : Nat) : SV := .a (.agg [.i 2, .i 0, .sl i 1 0 2 2, .sl j 5 0 1 1])

theorem same_c : Ct Tryd.prog 35 [] [] [] 0 (fun v s => v = samV 0 1 ∧ s = ⟨[], [(0, .arr true 3 .int [-1, 1] 0), (1, .arr true 50 .arc [⟨0, 1, 1, 1, 5⟩] 0)], 2⟩) := by
  refine ctW Tryd.tyOk 2 [] Tryd.func35 rfl (by simp) (by simp) (fr := []) rfl ?_
  repeat' (first | exact rfl | ((conv => whnf); first | ((first | refine qA (fun h => ?_) fun h => ?_ | refine qN (fun h => ?_) fun h => ?_ | refine qB (fun h => ?_) fun h => ?_ | refine qC (fun h => ?_) fun h => ?_) <;> try exact absurd h (by omega)) | refine qM (fun h => ?_) fun h => ?_ | refine oM (by (first | omega | (simp only [lenS, InI, nmin, EK.sz]; omega) | (simp only [lenS, InI, nmin, EK.sz] at *; omega))) ?_ | refine oM ?_ ?_ | refine bM ?_ ?_ | refine draw_of Tryd.mixed Tryd.tyOk 60 (by kernel_rfl) ?_))
  (conv => whnf)
  refine callF (one_c) [] Tryd.call42 rfl (by simp [eqLs, eqL, eqO, eqC, eqCs, rn, renOf, look_cons, look, EK.cast]) (by simp [appN, ptrs, eqVL, eqV, eqA, eqC, eqCs, eqAs, eqCaps, EK.sz, rn, renOf, look_cons, look, arcV, fV]) (by simp [appN, ptrs, SV.lt, SA.lt, SC.lt, arcV, fV, lenN]) ?_
  rintro _ _ ⟨rfl, rfl⟩
  repeat' (first | exact rfl | ((conv => whnf); first | ((first | refine qA (fun h => ?_) fun h => ?_ | refine qN (fun h => ?_) fun h => ?_ | refine qB (fun h => ?_) fun h => ?_ | refine qC (fun h => ?_) fun h => ?_) <;> try exact absurd h (by omega)) | refine qM (fun h => ?_) fun h => ?_ | refine oM (by (first | omega | (simp only [lenS, InI, nmin, EK.sz]; omega) | (simp only [lenS, InI, nmin, EK.sz] at *; omega))) ?_ | refine oM ?_ ?_ | refine bM ?_ ?_ | refine draw_of Tryd.mixed Tryd.tyOk 60 (by kernel_rfl) ?_ | intro _))
  (conv => whnf)
  try simp only [Nat.reduceAdd, Nat.reduceSub]
  exact ⟨[(0, some 1), (1, some 4)], [(0, .arr true 3 .int [-1, 1] 0), (1, .arr true 50 .arc [⟨0, 1, 1, 1, 5⟩] 0)], 2, samV 0 1, ⟨by rfl, trivial, by simp [eqFr, eqHp, eqV, eqA, eqC, eqO, eqCs, eqAs, look_cons, look, rn, EK.cast, EK.sz, eqCaps]⟩, by simp [eqV, eqA, eqAs, eqC, eqCs, rn, look, look_cons, EK.sz], rfl, rfl⟩

/-! ### What Determine makes of it -/
theorem sam_p {p : Nat → Bool} (h : UsOk samT p) : p 0 = true ∧ p 1 = true := by
  have ha : (⟨0, 1, 1, 1, 5⟩ : Arc) ∈ samT.arcs := by simp
  have r0 : Rch samT.arcs false [samT.start] 0 := .here (by simp)
  have r1 : Rch samT.arcs false [samT.start] 1 := Rch.on r0 ha rfl
  have b1 : Rch samT.arcs true [((1 : Nat) : Int)] 1 := .here (by simp)
  have b0 : Rch samT.arcs true [((1 : Nat) : Int)] 0 := Rch.on b1 ha rfl
  exact ⟨(h.iff 0 (by decide)).2 ⟨r0, 1, by decide, by decide, b0⟩, (h.iff 1 (by decide)).2 ⟨r1, 1, by decide, by decide, b1⟩⟩
theorem sam_us {U : TF} (h : IsUs samT U) : U = ⟨2, 0, [-1, 1], [⟨0, 1, 1, 1, 5⟩], U.capF, U.capA⟩ := by
  obtain ⟨p, hp, h1, h2, h3, h4⟩ := h
  obtain ⟨p0, p1⟩ := sam_p hp
  have hk : kT samT p = ⟨2, 0, [-1, 1], [⟨0, 1, 1, 1, 5⟩], 0, 0⟩ := by
    simp [kT, samT, rkB, kfin, karc, kOk, kArc, p0, p1, List.getD, aD]
  rw [hk] at h1 h2 h3 h4
  obtain ⟨a, b, c, d, e, f⟩ := U
  simp only at h1 h2 h3 h4 ⊢
  rw [h1, h2, h3, h4]
theorem sam_bgn (c d : Nat) : bgnF ⟨2, 0, [-1, 1], [⟨0, 1, 1, 1, 5⟩], c, d⟩ 201 200 [⟨0, 0⟩] = 2 := by kernel_rfl
theorem sam_rows (c d : Nat) : rowsD ⟨2, 0, [-1, 1], [⟨0, 1, 1, 1, 5⟩], c, d⟩ 2 = ([[⟨0, 0⟩], [⟨1, 0⟩]], [⟨0, 1, 1, 1, 5⟩]) := by kernel_rfl
theorem sam_fin (c d : Nat) : ([[⟨0, 0⟩], [⟨1, 0⟩]] : List (List Duo)).map (finD ⟨2, 0, [-1, 1], [⟨0, 1, 1, 1, 5⟩], c, d⟩) = [-1, 1] := by kernel_rfl
theorem sam_done {c d : Nat} {st : DS} (h : MDone ⟨2, 0, [-1, 1], [⟨0, 1, 1, 1, 5⟩], c, d⟩ st) : st = ([[⟨0, 0⟩], [⟨1, 0⟩]], [⟨0, 1, 1, 1, 5⟩]) :=
  h.uniq ⟨2, sam_rows c d, rfl⟩
theorem sam_det {x : Obj} {v : SV} {s : S} (h : DetPost samT x v s) : ∃ sp sq, v = .tup [.agg [.i 2, .i 0, .sl 3 1 0 2 (2 + sp), .sl 4 5 0 1 (1 + sq)], .c (.i 0)] ∧
    s = ⟨[], [(2, tabO x), (3, .arr true 3 .int [-1, 1] sp), (4, .arr true 50 .arc [⟨0, 1, 1, 1, 5⟩] sq)], 5⟩ := by
  rcases h with ⟨h, _⟩ | ⟨_, U, hus, ⟨h, _, _⟩ | ⟨_, st, hmd, _, sp, sq, h1, h2⟩⟩
  · exact absurd (by decide : detE samT = 0) h
  · have hU := sam_us hus
    rw [hU] at h
    rcases h with h | ⟨_, st, hmd, hg⟩
    · rw [sam_bgn] at h; omega
    · have := sam_done hmd
      subst this
      rw [sam_fin] at hg
      exact absurd hg (by decide)
  · have hU := sam_us hus
    rw [hU] at hmd h1 h2
    have := sam_done hmd
    subst this
    simp only [sam_fin] at h1 h2
    exact ⟨sp, sq, h1, h2⟩

theorem sam_score {cf ca : Nat} {n : Int} (h : ScoreP ⟨2, 0, [-1, 1], [⟨0, 1, 1, 1, 5⟩], cf, ca⟩ [1] [1] n) : n = 6 := by
  have h1 := (h.1 (by kernel_rfl)).1
  have hw : Wt ⟨2, 0, [-1, 1], [⟨0, 1, 1, 1, 5⟩], cf, ca⟩ [1] [1] 6 := one_wt.2 ⟨by decide, by decide, rfl⟩
  rcases h1 with ⟨_, h2⟩ | ⟨_, h2, _⟩
  · exact absurd hw (h2 6)
  · exact (one_wt.1 h2).2.2

abbrev sam2T : TF := ⟨2, 0, [-1, 1], [⟨0, 1, 1, 0, 2⟩, ⟨0, 1, 1, 1, 5⟩], 2, 2⟩
theorem sam2_round : roundV sam2T = .tup [.c (.b true), .c (.i 0)] := by kernel_rfl
theorem sam2_is : isV sam2T = .tup [.c (.b false), .c (.i 0)] := by kernel_rfl
theorem sam_is (c d : Nat) : isV ⟨2, 0, [-1, 1], [⟨0, 1, 1, 1, 5⟩], c, d⟩ = .tup [.c (.b true), .c (.i 0)] := by kernel_rfl

set_option maxHeartbeats 8000000 in
set_option maxRecDepth 20000 in
theorem determineBegun_c (x : Obj) (hx : TabX x) : Ct Tryd.prog 14 [] [] [(0, tabO x)] 1 (fun v s => v = .b true ∧ s = ⟨[], [(0, tabO x)], 1⟩) := by
  refine ctW Tryd.tyOk 12 [] Tryd.func14 rfl (by simp) (by simp) (fr := []) rfl ?_
  repeat' (first | exact rfl | ((conv => whnf); first | ((first | refine qA (fun h => ?_) fun h => ?_ | refine qN (fun h => ?_) fun h => ?_ | refine qB (fun h => ?_) fun h => ?_ | refine qC (fun h => ?_) fun h => ?_) <;> try exact absurd h (by omega)) | refine qM (fun h => ?_) fun h => ?_ | refine oM (by (first | omega | (simp only [lenS, InI, nmin, EK.sz]; omega) | (simp only [lenS, InI, nmin, EK.sz] at *; omega))) ?_ | refine oM ?_ ?_ | refine bM ?_ ?_ | refine draw_of Tryd.mixed Tryd.tyOk 60 (by kernel_rfl) ?_))
  (conv => whnf)
  refine callF (same_c) [] Tryd.call35 rfl (by simp [eqLs, eqL, eqO, eqC, eqCs, rn, renOf, look_cons, look, EK.cast]) (by simp [appN, ptrs, eqVL, eqV, eqA, eqC, eqCs, eqAs, eqCaps, EK.sz, rn, renOf, look_cons, look, arcV, fV]) (by simp [appN, ptrs, SV.lt, SA.lt, SC.lt, arcV, fV, lenN]) ?_
  rintro _ _ ⟨rfl, rfl⟩
  repeat' (first | exact rfl | ((conv => whnf); first | ((first | refine qA (fun h => ?_) fun h => ?_ | refine qN (fun h => ?_) fun h => ?_ | refine qB (fun h => ?_) fun h => ?_ | refine qC (fun h => ?_) fun h => ?_) <;> try exact absurd h (by omega)) | refine qM (fun h => ?_) fun h => ?_ | refine oM (by (first | omega | (simp only [lenS, InI, nmin, EK.sz]; omega) | (simp only [lenS, InI, nmin, EK.sz] at *; omega))) ?_ | refine oM ?_ ?_ | refine bM ?_ ?_ | refine draw_of Tryd.mixed Tryd.tyOk 60 (by kernel_rfl) ?_ | intro _))
  (conv => whnf)
  try simp only [Nat.reduceAdd, Nat.reduceSub]
  refine callI (round_c sam2T (by decide)) [1, 4] Tryd.call9 rfl (by simp [eqLs, eqL, eqO, eqC, eqCs, rn, renOf, look_cons, look, EK.cast]) (by simp [appN, ptrs, eqVL, eqV, eqA, eqC, eqCs, eqAs, eqCaps, EK.sz, rn, renOf, look_cons, look, arcV, fV]) (by simp [appN, ptrs, SV.lt, SA.lt, SC.lt, arcV, fV]) ?_
  rw [sam2_round]
  repeat' (first | exact rfl | ((conv => whnf); first | ((first | refine qA (fun h => ?_) fun h => ?_ | refine qN (fun h => ?_) fun h => ?_ | refine qB (fun h => ?_) fun h => ?_ | refine qC (fun h => ?_) fun h => ?_) <;> try exact absurd h (by omega)) | refine qM (fun h => ?_) fun h => ?_ | refine oM (by (first | omega | (simp only [lenS, InI, nmin, EK.sz]; omega) | (simp only [lenS, InI, nmin, EK.sz] at *; omega))) ?_ | refine oM ?_ ?_ | refine bM ?_ ?_ | refine draw_of Tryd.mixed Tryd.tyOk 60 (by kernel_rfl) ?_ | intro _))
  (conv => whnf)
  try simp only [Nat.reduceAdd, Nat.reduceSub]
  refine callI (is_c sam2T (by decide)) [1, 4] Tryd.call8 rfl (by simp [eqLs, eqL, eqO, eqC, eqCs, rn, renOf, look_cons, look, EK.cast]) (by simp [appN, ptrs, eqVL, eqV, eqA, eqC, eqCs, eqAs, eqCaps, EK.sz, rn, renOf, look_cons, look, arcV, fV]) (by simp [appN, ptrs, SV.lt, SA.lt, SC.lt, arcV, fV]) ?_
  rw [sam2_is]
  repeat' (first | exact rfl | ((conv => whnf); first | ((first | refine qA (fun h => ?_) fun h => ?_ | refine qN (fun h => ?_) fun h => ?_ | refine qB (fun h => ?_) fun h => ?_ | refine qC (fun h => ?_) fun h => ?_) <;> try exact absurd h (by omega)) | refine qM (fun h => ?_) fun h => ?_ | refine oM (by (first | omega | (simp only [lenS, InI, nmin, EK.sz]; omega) | (simp only [lenS, InI, nmin, EK.sz] at *; omega))) ?_ | refine oM ?_ ?_ | refine bM ?_ ?_ | refine draw_of Tryd.mixed Tryd.tyOk 60 (by kernel_rfl) ?_ | intro _))
  (conv => whnf)
  try simp only [Nat.reduceAdd, Nat.reduceSub]
  refine callF (same_c) [] Tryd.call35 rfl (by simp [eqLs, eqL, eqO, eqC, eqCs, rn, renOf, look_cons, look, EK.cast]) (by simp [appN, ptrs, eqVL, eqV, eqA, eqC, eqCs, eqAs, eqCaps, EK.sz, rn, renOf, look_cons, look, arcV, fV]) (by simp [appN, ptrs, SV.lt, SA.lt, SC.lt, arcV, fV, lenN]) ?_
  rintro _ _ ⟨rfl, rfl⟩
  repeat' (first | exact rfl | ((conv => whnf); first | ((first | refine qA (fun h => ?_) fun h => ?_ | refine qN (fun h => ?_) fun h => ?_ | refine qB (fun h => ?_) fun h => ?_ | refine qC (fun h => ?_) fun h => ?_) <;> try exact absurd h (by omega)) | refine qM (fun h => ?_) fun h => ?_ | refine oM (by (first | omega | (simp only [lenS, InI, nmin, EK.sz]; omega) | (simp only [lenS, InI, nmin, EK.sz] at *; omega))) ?_ | refine oM ?_ ?_ | refine bM ?_ ?_ | refine draw_of Tryd.mixed Tryd.tyOk 60 (by kernel_rfl) ?_ | intro _))
  (conv => whnf)
  try simp only [Nat.reduceAdd, Nat.reduceSub]
  refine callF (determine_c samT (by decide) x hx) [5, 6, 0] Tryd.call15 rfl (by simp [eqLs, eqL, eqO, eqC, eqCs, rn, renOf, look_cons, look, EK.cast]) (by simp [appN, ptrs, eqVL, eqV, eqA, eqC, eqCs, eqAs, eqCaps, EK.sz, rn, renOf, look_cons, look, arcV, fV]) (by simp [appN, ptrs, SV.lt, SA.lt, SC.lt, arcV, fV, lenN]) ?_
  rintro v s hd
  obtain ⟨sp, sq, rfl, rfl⟩ := sam_det hd
  clear hd
  try simp only [Nat.reduceAdd, Nat.reduceSub]
  repeat' (first | exact rfl | ((conv => whnf); first | ((first | refine qA (fun h => ?_) fun h => ?_ | refine qN (fun h => ?_) fun h => ?_ | refine qB (fun h => ?_) fun h => ?_ | refine qC (fun h => ?_) fun h => ?_) <;> try exact absurd h (by omega)) | refine qM (fun h => ?_) fun h => ?_ | refine oM (by (first | omega | (simp only [lenS, InI, nmin, EK.sz]; omega) | (simp only [lenS, InI, nmin, EK.sz] at *; omega))) ?_ | refine oM ?_ ?_ | refine bM ?_ ?_ | refine draw_of Tryd.mixed Tryd.tyOk 60 (by kernel_rfl) ?_ | intro _))
  (conv => whnf)
  try simp only [Nat.reduceAdd, Nat.reduceSub]
  refine callF (score_b ⟨2, 0, [-1, 1], [⟨0, 1, 1, 1, 5⟩], 2 + sp, 1 + sq⟩ [1] [1] 1 1 (show ([-1, 1] : List Int).length ≤ 9223372036854775807 by decide) (by kernel_rfl)) [7, 8, 10, 11] Tryd.call20 rfl (by simp [eqLs, eqL, eqO, eqC, eqCs, rn, renOf, look_cons, look, EK.cast]) (by simp [appN, ptrs, eqVL, eqV, eqA, eqC, eqCs, eqAs, eqCaps, EK.sz, rn, renOf, look_cons, look, arcV, fV]) (by simp [appN, ptrs, SV.lt, SA.lt, SC.lt, arcV, fV, lenN]) ?_
  rintro _ _ ⟨n, hn, rfl, rfl⟩
  have hn6 := sam_score hn
  subst hn6
  clear hn
  try simp only [Nat.reduceAdd, Nat.reduceSub]
  repeat' (first | exact rfl | ((conv => whnf); first | ((first | refine qA (fun h => ?_) fun h => ?_ | refine qN (fun h => ?_) fun h => ?_ | refine qB (fun h => ?_) fun h => ?_ | refine qC (fun h => ?_) fun h => ?_) <;> try exact absurd h (by omega)) | refine qM (fun h => ?_) fun h => ?_ | refine oM (by (first | omega | (simp only [lenS, InI, nmin, EK.sz]; omega) | (simp only [lenS, InI, nmin, EK.sz] at *; omega))) ?_ | refine oM ?_ ?_ | refine bM ?_ ?_ | refine draw_of Tryd.mixed Tryd.tyOk 60 (by kernel_rfl) ?_ | intro _))
  (conv => whnf)
  try simp only [Nat.reduceAdd, Nat.reduceSub]
  refine callI (is_c ⟨2, 0, [-1, 1], [⟨0, 1, 1, 1, 5⟩], 2 + sp, 1 + sq⟩ (show ([-1, 1] : List Int).length ≤ 9223372036854775807 by decide)) [7, 8] Tryd.call8 rfl (by simp [eqLs, eqL, eqO, eqC, eqCs, rn, renOf, look_cons, look, EK.cast]) (by simp [appN, ptrs, eqVL, eqV, eqA, eqC, eqCs, eqAs, eqCaps, EK.sz, rn, renOf, look_cons, look, arcV, fV]) (by simp [appN, ptrs, SV.lt, SA.lt, SC.lt, arcV, fV]) ?_
  rw [sam_is]
  repeat' (first | exact rfl | ((conv => whnf); first | ((first | refine qA (fun h => ?_) fun h => ?_ | refine qN (fun h => ?_) fun h => ?_ | refine qB (fun h => ?_) fun h => ?_ | refine qC (fun h => ?_) fun h => ?_) <;> try exact absurd h (by omega)) | refine qM (fun h => ?_) fun h => ?_ | refine oM (by (first | omega | (simp only [lenS, InI, nmin, EK.sz]; omega) | (simp only [lenS, InI, nmin, EK.sz] at *; omega))) ?_ | refine oM ?_ ?_ | refine bM ?_ ?_ | refine draw_of Tryd.mixed Tryd.tyOk 60 (by kernel_rfl) ?_ | intro _))
  (conv => whnf)
  exact ⟨[], [(0, tabO x)], 1, .b true, ⟨by rfl, trivial, by simp [eqFr, eqHp, eqV, eqA, eqC, eqO, eqCs, eqAs, look_cons, look, rn, EK.cast, EK.sz, eqCaps]⟩, by simp [eqV, eqA, eqC], rfl, rfl⟩
end Go.Fw

/-
  Marks that go along arcs, over and over: as often as there are states is often enough.
-/
namespace Go.Fw

def mkP (l : List Arc) (bk : Bool) (ms : List Bool) : Nat → List Bool
  | 0 => ms
  | k + 1 => (mkP l bk ms k).set (dstA bk (l.getD k aD)).toNat ((mkP l bk ms k).getD (dstA bk (l.getD k aD)).toNat false || (mkP l bk ms k).getD (srcA bk (l.getD k aD)).toNat false)
def itM (l : List Arc) (bk : Bool) (ms : List Bool) : Nat → List Bool
  | 0 => ms
  | n + 1 => mkP l bk (itM l bk ms n) l.length

theorem mkP_len (l : List Arc) (bk : Bool) (ms : List Bool) (k : Nat) : (mkP l bk ms k).length = ms.length := by
  induction k with
  | zero => rfl
  | succ k ih => simp [mkP, ih]
theorem itM_len (l : List Arc) (bk : Bool) (ms : List Bool) (n : Nat) : (itM l bk ms n).length = ms.length := by
  induction n with
  | zero => rfl
  | succ n ih => simp [itM, mkP_len, ih]

section
variable {l : List Arc} {bk : Bool} {n : Nat}

theorem setB_getD (ms : List Bool) (i j : Nat) (b : Bool) (hi : i < ms.length) : (ms.set i b).getD j false = if j = i then b else ms.getD j false := by
  simp only [List.getD, List.getElem?_set]
  by_cases e : i = j
  · subst e; simp [hi]
  · rw [if_neg e, if_neg (fun c => e c.symm)]

theorem mkP_step {ms : List Bool} (hms : ms.length = n) (hl : ∀ a ∈ l, 0 ≤ srcA bk a ∧ srcA bk a < n ∧ 0 ≤ dstA bk a ∧ dstA bk a < n) {k : Nat} (hk : k < l.length) (j : Nat) :
    (mkP l bk ms (k + 1)).getD j false = ((mkP l bk ms k).getD j false || (j == (dstA bk (l.getD k aD)).toNat && (mkP l bk ms k).getD (srcA bk (l.getD k aD)).toNat false)) := by
  have ha := hl _ (getD_mem l k aD hk)
  have hlen := mkP_len l bk ms k
  show ((mkP l bk ms k).set _ _).getD j false = _
  rw [setB_getD _ _ _ _ (by omega)]
  by_cases e : j = (dstA bk (l.getD k aD)).toNat
  · rw [if_pos e, ← e, beq_self_eq_true, Bool.true_and]
  · rw [if_neg e, beq_eq_false_iff_ne.2 e, Bool.false_and, Bool.or_false]

theorem mkP_mono {ms : List Bool} (hms : ms.length = n) (hl : ∀ a ∈ l, 0 ≤ srcA bk a ∧ srcA bk a < n ∧ 0 ≤ dstA bk a ∧ dstA bk a < n) {j : Nat} : ∀ k, k ≤ l.length → ms.getD j false = true → (mkP l bk ms k).getD j false = true
  | 0, _, h => h
  | k + 1, hk, h => by rw [mkP_step hms hl (by omega), mkP_mono hms hl k (by omega) h, Bool.true_or]

/-- No arc leads from a mark to none. -/
def ClosedM (l : List Arc) (bk : Bool) (ms : List Bool) : Prop := ∀ a ∈ l, ms.getD (srcA bk a).toNat false = true → ms.getD (dstA bk a).toNat false = true

theorem mkP_closed {ms : List Bool} (hms : ms.length = n) (hl : ∀ a ∈ l, 0 ≤ srcA bk a ∧ srcA bk a < n ∧ 0 ≤ dstA bk a ∧ dstA bk a < n) (h : ClosedM l bk ms) : ∀ k, k ≤ l.length → ∀ j, (mkP l bk ms k).getD j false = ms.getD j false
  | 0, _, _ => rfl
  | k + 1, hk, j => by
    have ih := mkP_closed hms hl h k (by omega)
    rw [mkP_step hms hl (by omega), ih, ih]
    cases hb : (j == (dstA bk (l.getD k aD)).toNat && ms.getD (srcA bk (l.getD k aD)).toNat false) with
    | false => rw [Bool.or_false]
    | true =>
      rw [Bool.and_eq_true, beq_iff_eq] at hb
      rw [hb.1, h _ (getD_mem l k aD (by omega)) hb.2]
      rfl
/-- A pass marks one more, or nothing is left to be marked. -/
theorem mkP_more {ms : List Bool} (hms : ms.length = n) (hl : ∀ a ∈ l, 0 ≤ srcA bk a ∧ srcA bk a < n ∧ 0 ≤ dstA bk a ∧ dstA bk a < n) : ClosedM l bk ms ∨ ∃ j, j < n ∧ ms.getD j false = false ∧ (mkP l bk ms l.length).getD j false = true := by
  by_cases h : ClosedM l bk ms
  · exact .inl h
  · right
    unfold ClosedM at h
    obtain ⟨a, h⟩ := Classical.not_forall.1 h
    obtain ⟨ha, h⟩ := Classical.not_imp.1 h
    obtain ⟨h1, h2⟩ := Classical.not_imp.1 h
    have hr := hl a ha
    refine ⟨(dstA bk a).toNat, by omega, by simpa using h2, ?_⟩
    obtain ⟨k, hk, rfl⟩ := List.mem_iff_getElem.1 ha
    have e : l[k] = l.getD k aD := by simp [List.getD, hk]
    rw [e] at h1 h2 ⊢
    have hmono : ∀ d, k + 1 + d ≤ l.length → (mkP l bk ms (k + 1 + d)).getD (dstA bk (l.getD k aD)).toNat false = true := by
      intro d
      induction d with
      | zero =>
        intro _
        rw [Nat.add_zero, mkP_step hms hl hk, mkP_mono hms hl k (by omega) h1]
        simp
      | succ d ih =>
        intro hd
        rw [← Nat.add_assoc, mkP_step hms hl (by omega), ih (by omega), Bool.true_or]
    have := hmono (l.length - (k + 1)) (by omega)
    rwa [show k + 1 + (l.length - (k + 1)) = l.length by omega] at this

/-- How many are marked. -/
def mcnt (n : Nat) (ms : List Bool) : Nat := cin n fun j => ms.getD j false
theorem cin_mono {p q : Nat → Bool} : ∀ {n : Nat}, (∀ i, i < n → p i = true → q i = true) → cin n p ≤ cin n q
  | 0, _ => Nat.le_refl _
  | n + 1, h => by
    have := cin_mono (n := n) fun i hi => h i (by omega)
    rw [cin_succ, cin_succ]
    by_cases hp : p n = true
    · rw [if_pos hp, if_pos (h n (by omega) hp)]; omega
    · rw [if_neg hp]; omega
theorem cin_lt {p q : Nat → Bool} : ∀ {n : Nat}, (∀ i, i < n → p i = true → q i = true) → ∀ {j : Nat}, j < n → p j = false → q j = true → cin n p + 1 ≤ cin n q
  | 0, _, _, h, _, _ => by omega
  | n + 1, h, j, hj, h1, h2 => by
    rw [cin_succ, cin_succ]
    by_cases e : j = n
    · subst e
      have := cin_mono (p := p) (q := q) (n := j) fun i hi => h i (by omega)
      rw [if_neg (by rw [h1]; exact Bool.false_ne_true), if_pos h2]
      omega
    · have := cin_lt (n := n) (fun i hi => h i (by omega)) (show j < n by omega) h1 h2
      by_cases hp : p n = true
      · rw [if_pos hp, if_pos (h n (by omega) hp)]; omega
      · rw [if_neg hp]; omega

theorem itM_closed {ms : List Bool} (hms : ms.length = n) (hl : ∀ a ∈ l, 0 ≤ srcA bk a ∧ srcA bk a < n ∧ 0 ≤ dstA bk a ∧ dstA bk a < n) : ClosedM l bk (itM l bk ms n) := by
  have key : ∀ k, ClosedM l bk (itM l bk ms k) ∨ k ≤ mcnt n (itM l bk ms k) := by
    intro k
    induction k with
    | zero => exact .inr (Nat.zero_le _)
    | succ k ih =>
      have hlen : (itM l bk ms k).length = n := by rw [itM_len, hms]
      by_cases hc : ClosedM l bk (itM l bk ms k)
      · left
        intro a ha h
        unfold itM at h ⊢
        rw [mkP_closed hlen hl hc _ (Nat.le_refl _)] at h ⊢
        exact hc a ha h
      · right
        rcases mkP_more hlen hl with h | ⟨j, hj, h1, h2⟩
        · exact absurd h hc
        · rcases ih with ih | ih
          · exact absurd ih hc
          · have := cin_lt (p := fun j => (itM l bk ms k).getD j false) (q := fun j => (itM l bk ms (k + 1)).getD j false) (fun i hi h => mkP_mono hlen hl _ (Nat.le_refl _) h) hj h1 h2
            unfold mcnt at ih ⊢
            omega
  rcases key n with h | h
  · exact h
  · have hle := cin_le n fun j => (itM l bk ms n).getD j false
    have hall := cin_all.1 (show cin n (fun j => (itM l bk ms n).getD j false) = n by unfold mcnt at h; omega)
    intro a ha _
    have := hl a ha
    exact hall _ (by omega)

theorem mkP_sound {ms : List Bool} {first : List Int} (hms : ms.length = n) (hl : ∀ a ∈ l, 0 ≤ srcA bk a ∧ srcA bk a < n ∧ 0 ≤ dstA bk a ∧ dstA bk a < n) (h : ∀ j, j < n → ms.getD j false = true → Rch l bk first j) : ∀ k, k ≤ l.length → ∀ j, j < n → (mkP l bk ms k).getD j false = true → Rch l bk first j
  | 0, _, j, hj, hm => h j hj hm
  | k + 1, hk, j, hj, hm => by
    have ih := mkP_sound hms hl h k (by omega)
    rw [mkP_step hms hl (by omega), Bool.or_eq_true] at hm
    rcases hm with hm | hm
    · exact ih j hj hm
    · rw [Bool.and_eq_true, beq_iff_eq] at hm
      have ha := getD_mem l k aD (by omega)
      have hr := hl _ ha
      have h1 := ih _ (by omega) hm.2
      have e1 : (((srcA bk (l.getD k aD)).toNat : Nat) : Int) = srcA bk (l.getD k aD) := by omega
      have e2 : ((j : Nat) : Int) = dstA bk (l.getD k aD) := by rw [hm.1]; omega
      rw [e2]
      exact .on h1 ha e1.symm

theorem itM_iff {ms : List Bool} {first : List Int} (hms : ms.length = n) (hl : ∀ a ∈ l, 0 ≤ srcA bk a ∧ srcA bk a < n ∧ 0 ≤ dstA bk a ∧ dstA bk a < n) (hf : ∀ x ∈ first, 0 ≤ x ∧ x < n) (h : ∀ j : Nat, j < n → (ms.getD j false = true ↔ (j : Int) ∈ first)) {j : Nat} (hj : j < n) :
    (itM l bk ms n).getD j false = true ↔ Rch l bk first j := by
  constructor
  · have : ∀ k j, j < n → (itM l bk ms k).getD j false = true → Rch l bk first j := by
      intro k
      induction k with
      | zero => intro j hj hm; exact .here ((h j hj).1 hm)
      | succ k ih =>
        intro j hj hm
        exact mkP_sound (by rw [itM_len, hms]) hl ih _ (Nat.le_refl _) j hj hm
    exact this n j hj
  · intro hr
    have hcl := itM_closed (ms := ms) hms hl
    have hmo : ∀ k j, ms.getD j false = true → (itM l bk ms k).getD j false = true := by
      intro k
      induction k with
      | zero => intro j h; exact h
      | succ k ih => intro j h; exact mkP_mono (by rw [itM_len, hms]) hl _ (Nat.le_refl _) (ih j h)
    have : ∀ x, Rch l bk first x → (itM l bk ms n).getD x.toNat false = true := by
      intro x hx
      induction hx with
      | @here x hx =>
        have := hf x hx
        exact hmo n _ ((h x.toNat (by omega)).2 (by rw [show ((x.toNat : Nat) : Int) = x by omega]; exact hx))
      | on _ ha hs ih => exact hcl _ ha (by rw [hs]; exact ih)
    have h2 := this j hr
    simpa using h2
end
end Go.Fw
