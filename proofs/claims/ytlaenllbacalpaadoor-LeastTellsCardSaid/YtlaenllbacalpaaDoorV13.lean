/-
  When all is made, nothing more comes; what is made is one thing alone.
-/
import Derived.Test.YtlaenllbacalpaaDoorV12
import Derived.Test.YtlaenllbacalpaaDoorV10
import Derived.Test.YtlaenllbacalpaaDoorV09
import Derived.Test.YtlaenllbacalpaaDoorV11

set_option linter.unusedSimpArgs false
set_option linter.unusedVariables false

namespace Go.Fw
open Go Go.Proofs

theorem stD_stop {U : TF} {i : Nat} {st : DS} (h : st.1.length ≤ i) (c : Int) : stD U i st c = st := by
  have e : st.1.getD i [] = [] := by simp only [List.getD, List.getElem?_eq_none h]; rfl
  unfold stD
  rw [e, if_pos (show sbB U [] c = -1 from rfl)]
theorem rowP_stop {U : TF} {i : Nat} {st : DS} (h : st.1.length ≤ i) (k : Nat) : rowP U i st k = st := by
  induction k with
  | zero => rfl
  | succ k ih => rw [rowP_succ, ih, stD_stop h]
theorem rows_stop {U : TF} {j : Nat} (h : (rowsD U j).1.length ≤ j) (d : Nat) : rowsD U (j + d) = rowsD U j := by
  induction d with
  | zero => rfl
  | succ d ih =>
    show rowP U (j + d) (rowsD U (j + d)) 9 = _
    rw [ih, rowP_stop (by omega)]
theorem MDone.uniq {U : TF} {st st' : DS} (h : MDone U st) (h' : MDone U st') : st = st' := by
  obtain ⟨k, e, hk⟩ := h
  obtain ⟨k', e', hk'⟩ := h'
  rcases Nat.le_total k k' with hle | hle
  · have := rows_stop (U := U) (j := k) (by rw [e, hk]; exact Nat.le_refl _) (k' - k)
    rw [show k + (k' - k) = k' by omega, e, e'] at this
    exact this.symm
  · have := rows_stop (U := U) (j := k') (by rw [e', hk']; exact Nat.le_refl _) (k - k')
    rw [show k' + (k - k') = k by omega, e, e'] at this
    exact this

section
variable {U : TF} {T : List (List Duo)} (hU : 0 ≤ U.st) (hw : ∀ a ∈ U.arcs, 0 ≤ a.w ∧ a.w ≤ 1000000000) (hr : ∀ a ∈ U.arcs, 0 ≤ a.t ∧ a.t < U.st) (hs : 0 ≤ U.start ∧ U.start < U.st)
    (hT0 : [⟨U.start, 0⟩] ∈ T) (hT : ∀ t ∈ T, ∀ c : Nat, c < 9 → sbB U t ((c : Int) + 1) ≠ -1 → sbS U t ((c : Int) + 1) ∈ T)
include hU hw hr hT

theorem MInv.row {i : Nat} {st : DS} (h : MInv U T i st) (hi : i < st.1.length) (k : Nat) (hk : k ≤ 9) : MInv U T i (rowP U i st k) ∧ st.1.length ≤ (rowP U i st k).1.length ∧ (rowP U i st k).2.length ≤ st.2.length + k := by
  induction k with
  | zero => exact ⟨h, Nat.le_refl _, Nat.le_refl _⟩
  | succ k ih =>
    obtain ⟨h1, h2, h3⟩ := ih (by omega)
    obtain ⟨g1, g2, g3⟩ := h1.step (by omega) hU hw hr hT (c := k) (by omega)
    rw [rowP_succ]
    exact ⟨g1, by omega, by omega⟩
include hs hT0
theorem MDone.inv {st : DS} (h : MDone U st) : MInv U T st.1.length st ∧ st.2.length ≤ 9 * st.1.length := by
  obtain ⟨k, e, hk⟩ := h
  have hlt : ∀ j, j < k → j < (rowsD U j).1.length := by
    intro j hj
    refine Classical.byContradiction fun hc => ?_
    have := rows_stop (U := U) (j := j) (by omega) (k - j)
    rw [show j + (k - j) = k by omega, e] at this
    rw [← this] at hc
    omega
  have : ∀ j, j ≤ k → MInv U T j (rowsD U j) ∧ (rowsD U j).2.length ≤ 9 * j := by
    intro j
    induction j with
    | zero => intro _; exact ⟨MInv.start hs hT0, by simp [rowsD]⟩
    | succ j ih =>
      intro hj
      obtain ⟨h1, h2⟩ := ih (by omega)
      have h3 := hlt j (by omega)
      obtain ⟨g1, g2, g3⟩ := h1.row hU hw hr hT h3 9 (Nat.le_refl _)
      refine ⟨⟨g1.sub, g1.nd, g1.ok, g1.ne, ⟨?_, g1.len.2⟩, g1.raw⟩, ?_⟩
      · show j + 1 ≤ (rowP U j (rowsD U j) 9).1.length
        omega
      · show (rowP U j (rowsD U j) 9).2.length ≤ _
        omega
  have h := this k (Nat.le_refl _)
  rw [e, hk] at h
  exact h
end
theorem MDone.small {U : TF} (hU : 0 ≤ U.st) (hw : ∀ a ∈ U.arcs, 0 ≤ a.w ∧ a.w ≤ 1000000000) (hr : ∀ a ∈ U.arcs, 0 ≤ a.t ∧ a.t < U.st) (hs : 0 ≤ U.start ∧ U.start < U.st) (hb : bgnF U 201 200 [⟨U.start, 0⟩] ≤ 200) {st : DS} (h : MDone U st) :
    MInv U (treeL U 201 [⟨U.start, 0⟩]) st.1.length st ∧ st.1.length ≤ 200 ∧ st.2.length ≤ 1800 := by
  obtain ⟨g1, g2⟩ := tree_ok U 201 200 [⟨U.start, 0⟩] (by omega) hb
  obtain ⟨h1, h2⟩ := h.inv hU hw hr hs (tree_self _ _ _) g2
  have := nd_le h1.nd h1.sub
  exact ⟨h1, by omega, by omega⟩
end Go.Fw

/-
  Words of an acceptor, breadth by breadth: each beginning with what states cost behind it.
-/
namespace Go.Fw

theorem setI_getD (l : List Int) (t : Nat) (m : Int) (n : Nat) (ht : t < l.length) : (l.set t m).getD n 0 = if n = t then m else l.getD n 0 := by
  simp only [List.getD, List.getElem?_set]
  by_cases e : t = n
  · subst e; simp [ht]
  · rw [if_neg e, if_neg (fun c => e c.symm)]

/-- Read on, from a state. -/
inductive RdW (L : List Arc) : Int → List Int → Int → Int → Prop
  | nil (s : Int) : RdW L s [] s 0
  | cons {a : Arc} {u : List Int} {t c : Int} (ha : a ∈ L) (h : RdW L a.t u t c) : RdW L a.f (a.i :: u) t (a.w + c)

theorem RdW.snoc {L : List Arc} {s t c : Int} {u : List Int} (h : RdW L s u t c) {a : Arc} (ha : a ∈ L) (he : a.f = t) : RdW L s (u ++ [a.i]) a.t (c + a.w) := by
  induction h with
  | nil s => subst he; have := RdW.cons ha (.nil a.t); rwa [Int.add_zero, ← Int.zero_add a.w] at this
  | cons hb h ih => rw [Int.add_assoc]; exact .cons hb (ih he)
theorem RdW.app {L : List Arc} {s t r c d : Int} {u v : List Int} (h : RdW L s u t c) (h' : RdW L t v r d) : RdW L s (u ++ v) r (c + d) := by
  induction h with
  | nil s => rwa [Int.zero_add]
  | cons hb h ih => rw [Int.add_assoc]; exact .cons hb (ih h')
theorem RdW.split {L : List Arc} {s t c : Int} {u v : List Int} (h : RdW L s (u ++ v) t c) : ∃ q d e, RdW L s u q d ∧ RdW L q v t e ∧ c = d + e := by
  induction u generalizing s c with
  | nil => exact ⟨s, 0, c, .nil s, h, by omega⟩
  | cons x u ih =>
    generalize hw : (x :: u) ++ v = w at h
    cases h with
    | nil => cases hw
    | cons ha h =>
      rename_i a w' c'
      have e := List.cons.inj hw
      rw [← e.2] at h
      obtain ⟨q, d, f, h1, h2, h3⟩ := ih h
      exact ⟨q, a.w + d, f, e.1 ▸ .cons ha h1, h2, by omega⟩
theorem RdW.none {L : List Arc} {s t c : Int} {u : List Int} (h : RdW L s u t c) (hu : u = []) : t = s ∧ c = 0 := by
  cases h with
  | nil => exact ⟨rfl, rfl⟩
  | cons => cases hu
theorem RdW.one {L : List Arc} {s t c x : Int} (h : RdW L s [x] t c) : ∃ a ∈ L, a.f = s ∧ a.i = x ∧ a.t = t ∧ c = a.w := by
  generalize hw : [x] = w at h
  cases h with
  | nil => cases hw
  | cons ha h =>
    have e := List.cons.inj hw
    obtain ⟨g1, g2⟩ := h.none e.2.symm
    exact ⟨_, ha, rfl, e.1.symm, g1.symm, by omega⟩
theorem RdW.unsnoc {L : List Arc} {s t c x : Int} {u : List Int} (h : RdW L s (u ++ [x]) t c) : ∃ a ∈ L, ∃ d, RdW L s u a.f d ∧ a.i = x ∧ a.t = t ∧ c = d + a.w := by
  obtain ⟨q, d, e, h1, h2, h3⟩ := h.split
  obtain ⟨a, ha, g1, g2, g3, g4⟩ := h2.one
  exact ⟨a, ha, d, g1 ▸ h1, g2, g3, by omega⟩
theorem RdW.pos {L : List Arc} (hL : ∀ a ∈ L, 0 ≤ a.w ∧ a.w ≤ 1000000000) {s t c : Int} {u : List Int} (h : RdW L s u t c) : 0 ≤ c ∧ c ≤ 1000000000 * u.length := by
  induction h with
  | nil s => simp
  | cons ha h ih =>
    have := hL _ ha
    rw [List.length_cons]
    omega
theorem RdW.rng {L : List Arc} {n : Int} (hL : ∀ a ∈ L, 0 ≤ a.t ∧ a.t < n) {s t c : Int} {u : List Int} (h : RdW L s u t c) (hs : 0 ≤ s ∧ s < n) : 0 ≤ t ∧ t < n := by
  induction h with
  | nil s => exact hs
  | cons ha h ih => exact ih (hL _ ha)

/-- A beginning of some word. -/
def Bg (U : TF) (w : List Int) : Prop := ∃ t c, RdW U.arcs U.start w t c
/-- What states cost behind a beginning. -/
structure VecOk (U : TF) (w V : List Int) : Prop where
  len : V.length = U.st.toNat
  min : ∀ q : Nat, q < U.st.toNat → MinOf (fun c => RdW U.arcs U.start w q c) (V.getD q 0)

def nvB (V : List Int) (c : Int) (a : Arc) : Bool := a.i == c && decide (0 ≤ V.getD a.f.toNat 0)
def nvL (l : List Arc) (V : List Int) (c : Int) (n : Nat) : Nat → List Int
  | 0 => List.replicate n (-1)
  | k + 1 => if nvB V c (l.getD k aD) = true then (nvL l V c n k).set (l.getD k aD).t.toNat (less ((nvL l V c n k).getD (l.getD k aD).t.toNat 0) (V.getD (l.getD k aD).f.toNat 0 + (l.getD k aD).w)) else nvL l V c n k
def nvA (l : List Arc) (V : List Int) (c : Int) : Nat → Bool
  | 0 => false
  | k + 1 => if nvB V c (l.getD k aD) = true then true else nvA l V c k

theorem nvL_len (l : List Arc) (V : List Int) (c : Int) (n : Nat) : ∀ k, (nvL l V c n k).length = n
  | 0 => by simp [nvL]
  | k + 1 => by
    have := nvL_len l V c n k
    unfold nvL
    split
    · rw [List.length_set]; exact this
    · exact this
theorem nvA_iff (l : List Arc) (V : List Int) (c : Int) : ∀ k, nvA l V c k = true ↔ ∃ j, j < k ∧ nvB V c (l.getD j aD) = true
  | 0 => by simp [nvA]
  | k + 1 => by
    have ih := nvA_iff l V c k
    unfold nvA
    by_cases h : nvB V c (l.getD k aD) = true
    · rw [if_pos h]
      exact ⟨fun _ => ⟨k, by omega, h⟩, fun _ => rfl⟩
    · rw [if_neg h, ih]
      constructor
      · rintro ⟨j, h1, h2⟩; exact ⟨j, by omega, h2⟩
      · rintro ⟨j, h1, h2⟩
        by_cases e : j = k
        · rw [e] at h2; exact absurd h2 h
        · exact ⟨j, by omega, h2⟩

theorem MinOf.one {v : Int} (h : 0 ≤ v) : MinOf (fun c => c = v) v := .inr ⟨h, rfl, fun c e => by omega⟩

theorem nvL_min {l : List Arc} {V : List Int} {c : Int} {n : Nat} (hl : ∀ a ∈ l, 0 ≤ a.t ∧ a.t < n ∧ 0 ≤ a.w) : ∀ k, k ≤ l.length → ∀ q : Nat, q < n →
    MinOf (fun x => ∃ j, j < k ∧ nvB V c (l.getD j aD) = true ∧ (l.getD j aD).t = q ∧ x = V.getD (l.getD j aD).f.toNat 0 + (l.getD j aD).w) ((nvL l V c n k).getD q 0)
  | 0, _, q, hq => by
    left
    refine ⟨by simp [nvL, List.getD, hq], fun x => ?_⟩
    rintro ⟨j, hj, _⟩
    omega
  | k + 1, hk, q, hq => by
    have ih := nvL_min (V := V) (c := c) hl k (by omega) q hq
    have ha := hl _ (getD_mem l k aD (by omega))
    have hlen := nvL_len l V c n k
    unfold nvL
    by_cases h : nvB V c (l.getD k aD) = true
    · rw [if_pos h, setI_getD _ _ _ _ (by omega)]
      have hb := h
      unfold nvB at hb
      rw [Bool.and_eq_true, decide_eq_true_eq] at hb
      by_cases e : q = (l.getD k aD).t.toNat
      · rw [if_pos e, ← e]
        refine (MinOf.or ih (MinOf.one (show 0 ≤ V.getD (l.getD k aD).f.toNat 0 + (l.getD k aD).w by omega))).cong fun x => ?_
        constructor
        · rintro (⟨j, h1, h2, h3, h4⟩ | rfl)
          · exact ⟨j, by omega, h2, h3, h4⟩
          · exact ⟨k, by omega, h, by omega, rfl⟩
        · rintro ⟨j, h1, h2, h3, h4⟩
          by_cases ej : j = k
          · subst ej; exact .inr h4
          · exact .inl ⟨j, by omega, h2, h3, h4⟩
      · rw [if_neg e]
        refine ih.cong fun x => ?_
        constructor
        · rintro ⟨j, h1, h2, h3, h4⟩
          exact ⟨j, by omega, h2, h3, h4⟩
        · rintro ⟨j, h1, h2, h3, h4⟩
          by_cases ej : j = k
          · subst ej; omega
          · exact ⟨j, by omega, h2, h3, h4⟩
    · rw [if_neg h]
      refine ih.cong fun x => ?_
      constructor
      · rintro ⟨j, h1, h2, h3, h4⟩
        exact ⟨j, by omega, h2, h3, h4⟩
      · rintro ⟨j, h1, h2, h3, h4⟩
        by_cases ej : j = k
        · subst ej; exact absurd h2 h
        · exact ⟨j, by omega, h2, h3, h4⟩

theorem getD_ix {l : List Arc} {a : Arc} (h : a ∈ l) : ∃ j, j < l.length ∧ l.getD j aD = a := by
  obtain ⟨j, hj, rfl⟩ := List.mem_iff_getElem.1 h
  exact ⟨j, hj, by simp [List.getD, hj]⟩

section
variable {U : TF} (hU : ∀ a ∈ U.arcs, (0 ≤ a.f ∧ a.f < U.st) ∧ (0 ≤ a.t ∧ a.t < U.st) ∧ 0 ≤ a.w ∧ a.w ≤ 1000000000)
include hU

/-- On from there, by a letter. -/
theorem VecOk.step {w V : List Int} (h : VecOk U w V) (c : Int) : VecOk U (w ++ [c]) (nvL U.arcs V c U.st.toNat U.arcs.length) := by
  refine ⟨nvL_len _ _ _ _ _, fun q hq => ?_⟩
  refine (nvL_min (fun a ha => by have := hU a ha; omega) U.arcs.length (Nat.le_refl _) q hq).dom ?_ ?_
  · rintro x ⟨j, hj, h1, h2, rfl⟩
    have hm := getD_mem U.arcs j aD hj
    have hr := hU _ hm
    unfold nvB at h1
    rw [Bool.and_eq_true, decide_eq_true_eq, beq_iff_eq] at h1
    have := (h.min _ (show (U.arcs.getD j aD).f.toNat < U.st.toNat by omega)).is (by omega)
    rw [← h1.1, ← h2]
    exact this.snoc hm (by omega)
  · intro x hx
    obtain ⟨a, ha, d, h1, h2, h3, h4⟩ := hx.unsnoc
    obtain ⟨j, hj, rfl⟩ := getD_ix ha
    have hr := hU _ ha
    have hv := (h.min _ (show (U.arcs.getD j aD).f.toNat < U.st.toNat by omega)).le (c := d) (by rw [show (((U.arcs.getD j aD).f.toNat : Nat) : Int) = (U.arcs.getD j aD).f by omega]; exact h1)
    have hl := (h.min _ (show (U.arcs.getD j aD).f.toNat < U.st.toNat by omega)).low
    refine ⟨V.getD (U.arcs.getD j aD).f.toNat 0 + (U.arcs.getD j aD).w, by omega, j, hj, ?_, h3, rfl⟩
    unfold nvB
    rw [Bool.and_eq_true, decide_eq_true_eq, beq_iff_eq]
    exact ⟨h2, by omega⟩
theorem VecOk.any {w V : List Int} (h : VecOk U w V) (c : Int) : nvA U.arcs V c U.arcs.length = true ↔ Bg U (w ++ [c]) := by
  rw [nvA_iff]
  constructor
  · rintro ⟨j, hj, h1⟩
    have hm := getD_mem U.arcs j aD hj
    have hr := hU _ hm
    unfold nvB at h1
    rw [Bool.and_eq_true, decide_eq_true_eq, beq_iff_eq] at h1
    have := (h.min _ (show (U.arcs.getD j aD).f.toNat < U.st.toNat by omega)).is (by omega)
    exact ⟨_, _, h1.1 ▸ this.snoc hm (by omega)⟩
  · rintro ⟨t, x, hx⟩
    obtain ⟨a, ha, d, h1, h2, h3, h4⟩ := hx.unsnoc
    obtain ⟨j, hj, rfl⟩ := getD_ix ha
    have hr := hU _ ha
    have hv := (h.min _ (show (U.arcs.getD j aD).f.toNat < U.st.toNat by omega)).le (c := d) (by rw [show (((U.arcs.getD j aD).f.toNat : Nat) : Int) = (U.arcs.getD j aD).f by omega]; exact h1)
    have hl := (h.min _ (show (U.arcs.getD j aD).f.toNat < U.st.toNat by omega)).low
    refine ⟨j, hj, ?_⟩
    unfold nvB
    rw [Bool.and_eq_true, decide_eq_true_eq, beq_iff_eq]
    exact ⟨h2, by omega⟩
theorem VecOk.bd {w V : List Int} (h : VecOk U w V) (q : Nat) : -1 ≤ V.getD q 0 ∧ V.getD q 0 ≤ 1000000000 * w.length := by
  by_cases hq : q < U.st.toNat
  · have hl := (h.min q hq).low
    by_cases e : V.getD q 0 = -1
    · omega
    · have := ((h.min q hq).is e).pos (fun a ha => by have := hU a ha; omega)
      omega
  · have := h.len
    simp only [List.getD, List.getElem?_eq_none (show V.length ≤ q by omega), Option.getD_none]
    omega
end

/-- All that the words are, so far: from beginning i on, letters from c on are still to come. -/
structure WSt (U : TF) (W vs : List (List Int)) (par sym : List Int) (i : Nat) (c : Int) : Prop where
  lv : vs.length = W.length
  lp : par.length = W.length
  ls : sym.length = W.length
  pos : 1 ≤ W.length
  w0 : W.getD 0 [] = []
  p0 : par.getD 0 0 = -1
  s0 : sym.getD 0 0 = 0
  vec : ∀ j, j < W.length → VecOk U (W.getD j []) (vs.getD j [])
  wl : ∀ j, j < W.length → (W.getD j []).length ≤ j
  bg : ∀ j, j < W.length → Bg U (W.getD j [])
  on : ∀ j, 1 ≤ j → j < W.length → ∃ k : Nat, k < j ∧ par.getD j 0 = k ∧ (1 ≤ sym.getD j 0 ∧ sym.getD j 0 ≤ 9) ∧ W.getD j [] = W.getD k [] ++ [sym.getD j 0] ∧ (k < i ∨ k = i ∧ sym.getD j 0 < c)
  nd : ∀ j k, j < W.length → k < W.length → W.getD j [] = W.getD k [] → j = k
  all : ∀ j x, j < W.length → 1 ≤ x → x ≤ 9 → (j < i ∨ j = i ∧ x < c) → Bg U (W.getD j [] ++ [x]) → ∃ k, k < W.length ∧ W.getD k [] = W.getD j [] ++ [x]

theorem snoc_getD {α : Type} (l : List α) (x d : α) (n : Nat) : (l ++ [x]).getD n d = if n = l.length then x else l.getD n d := by
  simp only [List.getD]
  by_cases h : n < l.length
  · rw [if_neg (by omega), List.getElem?_append_left h]
  · by_cases h2 : n = l.length
    · rw [if_pos h2, h2]; simp
    · rw [if_neg h2, List.getElem?_eq_none (by simp; omega), List.getElem?_eq_none (by omega)]

section
variable {U : TF} {W vs : List (List Int)} {par sym : List Int} {i : Nat} {c : Int}

theorem WSt.start {V : List Int} (hV : VecOk U [] V) : WSt U [[]] [V] [-1] [0] 0 1 := by
  have h1 : ∀ j, j < ([[]] : List (List Int)).length → j = 0 := fun j hj => by simpa using hj
  refine ⟨rfl, rfl, rfl, by simp, rfl, rfl, rfl, fun j hj => ?_, fun j hj => ?_, fun j hj => ?_, fun j h2 hj => ?_, fun j k hj hk _ => ?_, fun j x hj h2 h3 h4 => ?_⟩
  · rw [h1 j hj]; exact hV
  · rw [h1 j hj]; exact Nat.le_refl _
  · rw [h1 j hj]; exact ⟨_, _, .nil _⟩
  · have := h1 j hj; omega
  · rw [h1 j hj, h1 k hk]
  · have := h1 j hj; omega

theorem WSt.skip (h : WSt U W vs par sym i c) (hn : ¬ Bg U (W.getD i [] ++ [c])) : WSt U W vs par sym i (c + 1) :=
  { h with
    on := fun j h1 h2 => by
      obtain ⟨k, g1, g2, g3, g4, g5⟩ := h.on j h1 h2
      exact ⟨k, g1, g2, g3, g4, by omega⟩
    all := fun j x hj h1 h2 h3 hb => by
      by_cases e : j = i ∧ x = c
      · rw [e.1, e.2] at hb; exact absurd hb hn
      · exact h.all j x hj h1 h2 (by omega) hb }

theorem WSt.next (h : WSt U W vs par sym i 10) : WSt U W vs par sym (i + 1) 1 :=
  { h with
    on := fun j h1 h2 => by
      obtain ⟨k, g1, g2, g3, g4, g5⟩ := h.on j h1 h2
      exact ⟨k, g1, g2, g3, g4, by omega⟩
    all := fun j x hj h1 h2 h3 hb => h.all j x hj h1 h2 (by omega) hb }

theorem WSt.push (h : WSt U W vs par sym i c) (hi : i < W.length) (hc : 1 ≤ c ∧ c ≤ 9) {V : List Int} (hV : VecOk U (W.getD i [] ++ [c]) V) (hb : Bg U (W.getD i [] ++ [c])) :
    WSt U (W ++ [W.getD i [] ++ [c]]) (vs ++ [V]) (par ++ [(i : Int)]) (sym ++ [c]) i (c + 1) := by
  have hpos := h.pos
  have hlv := h.lv
  have hlp := h.lp
  have hls := h.ls
  have hnew : ∀ k, k < W.length → W.getD k [] ≠ W.getD i [] ++ [c] := by
    intro k hk e
    by_cases hk0 : k = 0
    · rw [hk0, h.w0] at e; simp at e
    · obtain ⟨j, g1, g2, g3, g4, g5⟩ := h.on k (by omega) hk
      rw [g4] at e
      have e2 := List.append_inj' e rfl
      have := h.nd j i (by omega) hi e2.1
      have := (List.cons.inj e2.2).1
      omega
  refine ⟨by simp [hlv], by simp [hlp], by simp [hls], by simp, ?_, ?_, ?_, fun j hj => ?_, fun j hj => ?_, fun j hj => ?_, fun j h1 hj => ?_, fun j k hj hk => ?_, fun j x hj h1 h2 h3 hbx => ?_⟩
  · rw [snoc_getD, if_neg (by omega)]; exact h.w0
  · rw [snoc_getD, if_neg (by omega)]; exact h.p0
  · rw [snoc_getD, if_neg (by omega)]; exact h.s0
  · rw [snoc_getD, snoc_getD, hlv]
    by_cases e : j = W.length
    · rw [if_pos e, if_pos e]; exact hV
    · rw [if_neg e, if_neg e]; exact h.vec j (by simp at hj; omega)
  · rw [snoc_getD]
    by_cases e : j = W.length
    · rw [if_pos e, List.length_append, List.length_singleton]; have := h.wl i hi; omega
    · rw [if_neg e]; exact h.wl j (by simp at hj; omega)
  · rw [snoc_getD]
    by_cases e : j = W.length
    · rw [if_pos e]; exact hb
    · rw [if_neg e]; exact h.bg j (by simp at hj; omega)
  · rw [snoc_getD, snoc_getD, snoc_getD, hlp, hls]
    by_cases e : j = W.length
    · rw [if_pos e, if_pos e, if_pos e]
      exact ⟨i, by omega, rfl, hc, by rw [snoc_getD, if_neg (by omega)], .inr ⟨rfl, by omega⟩⟩
    · rw [if_neg e, if_neg e, if_neg e]
      have hj2 : j < W.length := by simp at hj; omega
      obtain ⟨k, g1, g2, g3, g4, g5⟩ := h.on j h1 hj2
      exact ⟨k, g1, g2, g3, by rw [snoc_getD, if_neg (by omega)]; exact g4, by omega⟩
  · rw [snoc_getD, snoc_getD]
    simp only [List.length_append, List.length_singleton] at hj hk
    by_cases e : j = W.length <;> by_cases e2 : k = W.length
    · intro _; omega
    · rw [if_pos e, if_neg e2]; intro q; exact absurd q.symm (hnew k (by omega))
    · rw [if_neg e, if_pos e2]; intro q; exact absurd q (hnew j (by omega))
    · rw [if_neg e, if_neg e2]; exact h.nd j k (by omega) (by omega)
  · simp only [List.length_append, List.length_singleton] at hj ⊢
    have hj2 : j < W.length := by omega
    rw [snoc_getD, if_neg (by omega)] at hbx ⊢
    by_cases e : j = i ∧ x = c
    · refine ⟨W.length, by omega, ?_⟩
      rw [snoc_getD, if_pos rfl, e.1, e.2]
    · obtain ⟨k, g1, g2⟩ := h.all j x hj2 h1 h2 (by omega) hbx
      exact ⟨k, by omega, by rw [snoc_getD, if_neg (by omega)]; exact g2⟩
end
end Go.Fw

/-
  One way for each word: what a subset is, told by the ways of words.
-/
namespace Go.Fw

/-- The least of some costs, or none. -/
def OptMin (P : Int → Prop) (o : Option Int) : Prop := (o = none ∧ ∀ x, ¬ P x) ∨ ∃ v, o = some v ∧ P v ∧ ∀ x, P x → v ≤ x

theorem OptMin.cong {P Q : Int → Prop} {o : Option Int} (h : OptMin P o) (hpq : ∀ c, P c ↔ Q c) : OptMin Q o := by
  rcases h with ⟨h1, h2⟩ | ⟨v, h1, h2, h3⟩
  · exact .inl ⟨h1, fun x hx => h2 x ((hpq x).2 hx)⟩
  · exact .inr ⟨v, h1, (hpq v).1 h2, fun x hx => h3 x ((hpq x).2 hx)⟩

structure SbI (P : Int → Int → Prop) (st : CM × Int) : Prop where
  c : ∀ t, OptMin (P t) (st.1 t)
  b : MinOf (fun v => ∃ t, P t v) st.2
  pos : ∀ t v, P t v → 0 ≤ v

theorem SbI.cong {P Q : Int → Int → Prop} {st : CM × Int} (h : SbI P st) (hpq : ∀ t v, P t v ↔ Q t v) : SbI Q st :=
  ⟨fun t => (h.c t).cong (hpq t), h.b.cong fun v => ⟨fun ⟨t, ht⟩ => ⟨t, (hpq t v).1 ht⟩, fun ⟨t, ht⟩ => ⟨t, (hpq t v).2 ht⟩⟩, fun t v hv => h.pos t v ((hpq t v).2 hv)⟩

theorem SbI.step {P : Int → Int → Prop} {st : CM × Int} (h : SbI P st) {c : Int} {x : Duo} {a : Arc} (h0 : 0 ≤ x.b + a.w) :
    SbI (fun t v => P t v ∨ a.f = x.a ∧ a.i = c ∧ a.t = t ∧ v = x.b + a.w) (sbA c x st a) := by
  unfold sbA
  by_cases hc : a.f = x.a ∧ a.i = c
  · rw [if_pos hc]
    generalize x.b + a.w = n at *
    refine ⟨fun t => ?_, ?_, ?_⟩
    · simp only [updC]
      by_cases e : t = a.t
      · rw [if_pos e, ← e]
        rcases h.c t with ⟨h1, h2⟩ | ⟨o, h1, h2, h3⟩
        · rw [h1]
          exact .inr ⟨n, rfl, .inr ⟨hc.1, hc.2, by simp, rfl⟩, fun y hy => by
            rcases hy with hy | hy
            · exact absurd hy (h2 y)
            · omega⟩
        · rw [h1]
          simp only
          split
          · rename_i hlt
            exact .inr ⟨n, rfl, .inr ⟨hc.1, hc.2, by simp, rfl⟩, fun y hy => by
              rcases hy with hy | hy
              · have := h3 y hy; omega
              · omega⟩
          · rename_i hlt
            exact .inr ⟨o, rfl, .inl h2, fun y hy => by
              rcases hy with hy | hy
              · exact h3 y hy
              · omega⟩
      · rw [if_neg e]
        exact (h.c t).cong fun v => ⟨fun g => .inl g, fun g => g.elim id fun g => absurd g.2.2.1.symm e⟩
    · have hb := h.b
      simp only [updB]
      rcases hb with ⟨h1, h2⟩ | ⟨h1, ⟨t, h2⟩, h3⟩
      · rw [if_pos (.inl h1)]
        exact .inr ⟨h0, ⟨a.t, .inr ⟨hc.1, hc.2, by simp, rfl⟩⟩, fun y ⟨t, hy⟩ => by
          rcases hy with hy | hy
          · exact absurd ⟨t, hy⟩ (h2 y)
          · omega⟩
      · by_cases hlt : n < st.2
        · rw [if_pos (.inr hlt)]
          exact .inr ⟨h0, ⟨a.t, .inr ⟨hc.1, hc.2, by simp, rfl⟩⟩, fun y ⟨t, hy⟩ => by
            rcases hy with hy | hy
            · have := h3 y ⟨t, hy⟩; omega
            · omega⟩
        · rw [if_neg (by omega)]
          exact .inr ⟨h1, ⟨t, .inl h2⟩, fun y ⟨t, hy⟩ => by
            rcases hy with hy | hy
            · exact h3 y ⟨t, hy⟩
            · omega⟩
    · rintro t v (hv | hv)
      · exact h.pos t v hv
      · omega
  · rw [if_neg hc]
    exact h.cong fun t v => ⟨fun g => .inl g, fun g => g.elim id fun g => absurd ⟨g.1, g.2.1⟩ hc⟩

theorem SbI.arcs {c : Int} {x : Duo} (hx : 0 ≤ x.b) : ∀ (l : List Arc), (∀ a ∈ l, 0 ≤ a.w) → ∀ {P : Int → Int → Prop} {st : CM × Int}, SbI P st →
    SbI (fun t v => P t v ∨ ∃ a ∈ l, a.f = x.a ∧ a.i = c ∧ a.t = t ∧ v = x.b + a.w) (l.foldl (sbA c x) st)
  | [], _, P, st, h => h.cong fun t v => ⟨fun g => .inl g, fun g => g.elim id fun ⟨a, ha, _⟩ => by cases ha⟩
  | a :: l, hl, P, st, h => by
    have h1 := h.step (c := c) (x := x) (a := a) (by have := hl a (by simp); omega)
    refine (SbI.arcs hx l (fun a ha => hl a (by simp [ha])) h1).cong fun t v => ?_
    constructor
    · rintro ((g | g) | ⟨b, hb, g⟩)
      · exact .inl g
      · exact .inr ⟨a, by simp, g⟩
      · exact .inr ⟨b, by simp [hb], g⟩
    · rintro (g | ⟨b, hb, g⟩)
      · exact .inl (.inl g)
      · rcases List.mem_cons.1 hb with rfl | hb
        · exact .inl (.inr g)
        · exact .inr ⟨b, hb, g⟩

/-- What comes to be asked. -/
def Cand (U : TF) (s : List Duo) (c t v : Int) : Prop := ∃ e ∈ s, ∃ a ∈ U.arcs, a.f = e.a ∧ a.i = c ∧ a.t = t ∧ v = e.b + a.w

theorem sbR_spec {U : TF} {s : List Duo} (hs : ∀ e ∈ s, 0 ≤ e.b) (hw : ∀ a ∈ U.arcs, 0 ≤ a.w) (c : Int) : SbI (Cand U s c) (sbR U s c) := by
  have : ∀ (l : List Duo), (∀ e ∈ l, 0 ≤ e.b) → ∀ {P : Int → Int → Prop} {st : CM × Int}, SbI P st → SbI (fun t v => P t v ∨ Cand U l c t v) (l.foldl (sbX U c) st) := by
    intro l
    induction l with
    | nil => intro _ P st h; exact h.cong fun t v => ⟨fun g => .inl g, fun g => g.elim id fun ⟨e, he, _⟩ => by cases he⟩
    | cons e l ih =>
      intro hl P st h
      refine (ih (fun e he => hl e (by simp [he])) (SbI.arcs (c := c) (x := e) (hl e (by simp)) U.arcs hw h)).cong fun t v => ?_
      constructor
      · rintro ((g | ⟨a, ha, g⟩) | ⟨d, hd, g⟩)
        · exact .inl g
        · exact .inr ⟨e, by simp, a, ha, g⟩
        · exact .inr ⟨d, by simp [hd], g⟩
      · rintro (g | ⟨d, hd, a, ha, g⟩)
        · exact .inl (.inl g)
        · rcases List.mem_cons.1 hd with rfl | hd
          · exact .inl (.inr ⟨a, ha, g⟩)
          · exact .inr ⟨d, hd, a, ha, g⟩
  refine (this s hs (P := fun _ _ => False) (st := (fun _ => none, -1)) ⟨fun t => .inl ⟨rfl, fun x h => h⟩, .inl ⟨rfl, fun x ⟨_, h⟩ => h⟩, fun t v h => h.elim⟩).cong fun t v => ⟨fun g => g.elim (fun h => h.elim) id, fun g => .inr g⟩

/-- A subset, told by a word: what it costs at least, and what each state costs more. -/
structure SubOk (U : TF) (w : List Int) (r : Int) (s : List Duo) : Prop where
  r0 : 0 ≤ r
  b0 : ∀ e ∈ s, 0 ≤ e.b
  min : ∀ e ∈ s, MinOf (fun c => RdW U.arcs U.start w e.a c) (r + e.b)
  all : ∀ q c, RdW U.arcs U.start w q c → ∃ e ∈ s, e.a = q

theorem SubOk.start (U : TF) : SubOk U [] 0 [⟨U.start, 0⟩] := by
  refine ⟨Int.le_refl _, fun e he => ?_, fun e he => ?_, fun q c h => ?_⟩
  · rw [List.mem_singleton] at he; subst he; exact Int.le_refl _
  · rw [List.mem_singleton] at he
    subst he
    exact .inr ⟨by simp, .nil _, fun c hc => by have := (hc.none rfl).2; simp only; omega⟩
  · exact ⟨_, List.mem_singleton.2 rfl, ((h.none rfl).1).symm⟩

section
variable {U : TF} (hU : ∀ a ∈ U.arcs, (0 ≤ a.f ∧ a.f < U.st) ∧ (0 ≤ a.t ∧ a.t < U.st) ∧ 0 ≤ a.w ∧ a.w ≤ 1000000000)
include hU

theorem sbS_mem {s : List Duo} (hs : ∀ e ∈ s, 0 ≤ e.b) {c : Int} {e : Duo} : e ∈ sbS U s c ↔ Cand U s c e.a (e.b + sbB U s c) ∧ ∀ x, Cand U s c e.a x → e.b + sbB U s c ≤ x := by
  have hsp := sbR_spec hs (fun a ha => (hU a ha).2.2.1) c
  unfold sbS sbB
  rw [sbL_mem]
  constructor
  · rintro ⟨t, v, ht, hv, rfl⟩
    rcases hsp.c t with ⟨h1, h2⟩ | ⟨o, h1, h2, h3⟩
    · rw [h1] at hv; cases hv
    · rw [h1] at hv
      cases hv
      simp only
      rw [show v - (sbR U s c).2 + (sbR U s c).2 = v by omega]
      exact ⟨h2, h3⟩
  · rintro ⟨h1, h2⟩
    rcases hsp.c e.a with ⟨g1, g2⟩ | ⟨o, g1, g2, g3⟩
    · exact absurd h1 (g2 _)
    · have : o = e.b + (sbR U s c).2 := by
        have := g3 _ h1
        have := h2 _ g2
        omega
      obtain ⟨d, hd, a, ha, q1, q2, q3, q4⟩ := h1
      have := hU a ha
      refine ⟨e.a.toNat, o, by omega, by rw [show ((e.a.toNat : Nat) : Int) = e.a by omega]; exact g1, ?_⟩
      cases e
      simp only [Duo.mk.injEq] at *
      omega

theorem sbB_iff {s : List Duo} (hs : ∀ e ∈ s, 0 ≤ e.b) {c : Int} : sbB U s c ≠ -1 ↔ ∃ e ∈ s, ∃ a ∈ U.arcs, a.f = e.a ∧ a.i = c := by
  have hsp := sbR_spec hs (fun a ha => (hU a ha).2.2.1) c
  unfold sbB
  constructor
  · intro h
    obtain ⟨t, e, he, a, ha, g1, g2, _⟩ := hsp.b.is h
    exact ⟨e, he, a, ha, g1, g2⟩
  · rintro ⟨e, he, a, ha, g1, g2⟩
    exact (hsp.b.le (c := e.b + a.w) ⟨a.t, e, he, a, ha, g1, g2, rfl, rfl⟩).1

theorem SubOk.no {w : List Int} {r : Int} {s : List Duo} (h : SubOk U w r s) {c : Int} (hb : sbB U s c = -1) : ¬ Bg U (w ++ [c]) := by
  rintro ⟨t, x, hx⟩
  obtain ⟨a, ha, d, h1, h2, _⟩ := hx.unsnoc
  obtain ⟨e, he, h3⟩ := h.all _ _ h1
  exact (sbB_iff hU h.b0).2 ⟨e, he, a, ha, h3.symm, h2⟩ hb

theorem SubOk.yes {w : List Int} {r : Int} {s : List Duo} (h : SubOk U w r s) {c : Int} (hb : sbB U s c ≠ -1) : Bg U (w ++ [c]) := by
  obtain ⟨e, he, a, ha, g1, g2⟩ := (sbB_iff hU h.b0).1 hb
  have hp := (h.min e he).is (by have := h.r0; have := h.b0 e he; omega)
  exact ⟨_, _, g2 ▸ hp.snoc ha g1⟩

theorem SubOk.step {w : List Int} {r : Int} {s : List Duo} (h : SubOk U w r s) {c : Int} (hb : sbB U s c ≠ -1) : SubOk U (w ++ [c]) (r + sbB U s c) (sbS U s c) := by
  have hsp := (sbR_spec h.b0 (fun a ha => (hU a ha).2.2.1) c).b
  have hr := h.r0
  change MinOf _ (sbB U s c) at hsp
  have hb0 : 0 ≤ sbB U s c := by have := hsp.low; omega
  refine ⟨by omega, fun e he => ?_, fun e he => ?_, fun q x hx => ?_⟩
  · have := (sbS_mem hU h.b0).1 he
    have := (hsp.le (c := e.b + sbB U s c) ⟨e.a, this.1⟩).2
    omega
  · obtain ⟨h1, h2⟩ := (sbS_mem hU h.b0).1 he
    right
    refine ⟨?_, ?_, fun x hx => ?_⟩
    · obtain ⟨d, hd, a, ha, q1, q2, q3, q4⟩ := h1
      have := h.b0 d hd
      have := hU a ha
      omega
    · obtain ⟨d, hd, a, ha, q1, q2, q3, q4⟩ := h1
      have hp := (h.min d hd).is (by have := h.b0 d hd; omega)
      have := hp.snoc ha q1
      rw [q2, q3] at this
      rwa [show r + sbB U s c + e.b = r + d.b + a.w by omega]
    · obtain ⟨a, ha, d, g1, g2, g3, g4⟩ := hx.unsnoc
      obtain ⟨f, hf, g5⟩ := h.all _ _ g1
      have := ((h.min f hf).le (c := d) (g5 ▸ g1)).2
      have := h2 (f.b + a.w) ⟨f, hf, a, ha, g5.symm, g2, g3, rfl⟩
      omega
  · obtain ⟨a, ha, d, g1, g2, g3, g4⟩ := hx.unsnoc
    obtain ⟨f, hf, g5⟩ := h.all _ _ g1
    have hc : Cand U s c q (f.b + a.w) := ⟨f, hf, a, ha, g5.symm, g2, g3, rfl⟩
    rcases (sbR_spec h.b0 (fun a ha => (hU a ha).2.2.1) c).c q with ⟨p1, p2⟩ | ⟨o, p1, p2, p3⟩
    · exact absurd hc (p2 _)
    · refine ⟨⟨q, o - sbB U s c⟩, (sbS_mem hU h.b0).2 ?_, rfl⟩
      simp only
      rw [show o - sbB U s c + sbB U s c = o by omega]
      exact ⟨p2, p3⟩
end

/-- What a subset tells. -/
theorem finD_min {U : TF} {s : List Duo} (hs : ∀ e ∈ s, 0 ≤ e.b) (hf : ∀ j : Nat, -1 ≤ U.fin.getD j 0) : MinOf (fun x => ∃ e ∈ s, U.fin.getD e.a.toNat 0 ≠ -1 ∧ x = e.b + U.fin.getD e.a.toNat 0) (finD U s) := by
  have : ∀ (l : List Duo), (∀ e ∈ l, 0 ≤ e.b) → ∀ (P : Int → Prop) (r : Int), MinOf P r → MinOf (fun x => P x ∨ ∃ e ∈ l, U.fin.getD e.a.toNat 0 ≠ -1 ∧ x = e.b + U.fin.getD e.a.toNat 0) (l.foldl (finS U) r) := by
    intro l
    induction l with
    | nil => intro _ P r h; exact h.cong fun x => ⟨fun g => .inl g, fun g => g.elim id fun ⟨e, he, _⟩ => by cases he⟩
    | cons e l ih =>
      intro hl P r h
      have he := hl e (by simp)
      have hfe := hf e.a.toNat
      have h1 : MinOf (fun x => P x ∨ (U.fin.getD e.a.toNat 0 ≠ -1 ∧ x = e.b + U.fin.getD e.a.toNat 0)) (finS U r e) := by
        unfold finS
        by_cases hn : U.fin.getD e.a.toNat 0 ≠ -1
        · by_cases hr : r = -1 ∨ e.b + U.fin.getD e.a.toNat 0 < r
          · rw [if_pos ⟨hn, hr⟩]
            refine .inr ⟨by omega, .inr ⟨hn, rfl⟩, fun c hc => ?_⟩
            rcases hc with hc | hc
            · have := h.le hc; omega
            · omega
          · rw [if_neg (fun g => hr g.2)]
            have hr1 : r ≠ -1 := fun g => hr (.inl g)
            have hr2 := h.low
            refine .inr ⟨by omega, .inl (h.is hr1), fun c hc => ?_⟩
            rcases hc with hc | hc
            · exact (h.le hc).2
            · omega
        · rw [if_neg (fun g => hn g.1)]
          exact h.cong fun x => ⟨fun g => .inl g, fun g => g.elim id fun g => absurd g.1 hn⟩
      refine (ih (fun e he => hl e (by simp [he])) _ _ h1).cong fun x => ?_
      constructor
      · rintro ((g | g) | ⟨d, hd, g⟩)
        · exact .inl g
        · exact .inr ⟨e, by simp, g⟩
        · exact .inr ⟨d, by simp [hd], g⟩
      · rintro (g | ⟨d, hd, g⟩)
        · exact .inl (.inl g)
        · rcases List.mem_cons.1 hd with rfl | hd
          · exact .inl (.inr g)
          · exact .inr ⟨d, hd, g⟩
  exact (this s hs _ _ MinOf.none).cong fun x => ⟨fun g => g.elim (fun h => h.elim) id, fun g => .inr g⟩
end Go.Fw

/-
  Beginnings counted in depth and in breadth are as many.
-/
namespace Go.Fw

theorem Bg.pre {U : TF} {u v : List Int} (h : Bg U (u ++ v)) : Bg U u := by
  obtain ⟨t, c, h⟩ := h
  obtain ⟨q, d, _, h1, _⟩ := h.split
  exact ⟨q, d, h1⟩
theorem RdW.lets {L : List Arc} (hL : ∀ a ∈ L, 1 ≤ a.i ∧ a.i ≤ 9) {s t c : Int} {u : List Int} (h : RdW L s u t c) : ∀ x ∈ u, 1 ≤ x ∧ x ≤ 9 := by
  induction h with
  | nil s => intro x hx; cases hx
  | cons ha h ih =>
    intro x hx
    rcases List.mem_cons.1 hx with rfl | hx
    · exact hL _ ha
    · exact ih x hx

/-- A word that subsets can be led along. -/
def okW (U : TF) : List Duo → List Int → Prop
  | _, [] => True
  | s, x :: w => (1 ≤ x ∧ x ≤ 9) ∧ sbB U s x ≠ -1 ∧ okW U (sbS U s x) w
def treeW (U : TF) : Nat → List Duo → List (List Int)
  | 0, _ => [[]]
  | f + 1, s => [] :: (List.range 9).flatMap fun (c : Nat) => if sbB U s ((c : Int) + 1) ≠ -1 then (treeW U f (sbS U s ((c : Int) + 1))).map (((c : Int) + 1) :: ·) else []

theorem treeW_len (U : TF) : ∀ (f : Nat) (s : List Duo), (treeW U f s).length = (treeL U f s).length
  | 0, s => rfl
  | f + 1, s => by
    unfold treeW treeL
    simp only [List.length_cons, List.length_flatMap]
    congr 3
    funext c
    by_cases h : sbB U s ((c : Int) + 1) ≠ -1
    · rw [if_pos h, if_pos h, List.length_map, treeW_len U f]
    · rw [if_neg h, if_neg h]; rfl

theorem treeW_mem (U : TF) : ∀ (f : Nat) (s : List Duo) (w : List Int), w ∈ treeW U f s ↔ okW U s w ∧ w.length ≤ f
  | 0, s, w => by
    unfold treeW
    rw [List.mem_singleton]
    constructor
    · rintro rfl; exact ⟨trivial, Nat.le_refl _⟩
    · rintro ⟨_, h⟩; exact List.length_eq_zero_iff.1 (by omega)
  | f + 1, s, w => by
    unfold treeW
    rw [List.mem_cons, List.mem_flatMap]
    cases w with
    | nil => exact ⟨fun _ => ⟨trivial, Nat.zero_le _⟩, fun _ => .inl rfl⟩
    | cons x w =>
      unfold okW
      constructor
      · rintro (h | ⟨c, hc, h⟩)
        · cases h
        · have hc := List.mem_range.1 hc
          by_cases hb : sbB U s ((c : Int) + 1) ≠ -1
          · rw [if_pos hb, List.mem_map] at h
            obtain ⟨w', h1, h2⟩ := h
            have e := List.cons.inj h2
            rw [e.2] at h1
            obtain ⟨g1, g2⟩ := (treeW_mem U f _ w).1 h1
            rw [← e.1, List.length_cons]
            exact ⟨⟨by omega, hb, g1⟩, by omega⟩
          · rw [if_neg hb] at h; cases h
      · rintro ⟨⟨h1, h2, h3⟩, h4⟩
        rw [List.length_cons] at h4
        have e : ((((x - 1).toNat : Nat) : Int) + 1) = x := by omega
        refine .inr ⟨(x - 1).toNat, List.mem_range.2 (by omega), ?_⟩
        rw [e, if_pos h2, List.mem_map]
        exact ⟨w, (treeW_mem U f _ w).2 ⟨h3, by omega⟩, rfl⟩

theorem treeW_nd (U : TF) : ∀ (f : Nat) (s : List Duo), (treeW U f s).Nodup
  | 0, s => by simp [treeW]
  | f + 1, s => by
    unfold treeW
    rw [List.nodup_cons]
    refine ⟨fun h => ?_, ?_⟩
    · rw [List.mem_flatMap] at h
      obtain ⟨c, _, h⟩ := h
      split at h
      · rw [List.mem_map] at h
        obtain ⟨_, _, h⟩ := h
        cases h
      · cases h
    · unfold List.Nodup
      rw [List.pairwise_flatMap]
      refine ⟨fun c _ => ?_, ?_⟩
      · split
        · rw [List.pairwise_map]
          exact (treeW_nd U f _).imp fun h e => h (List.cons.inj e).2
        · exact List.Pairwise.nil
      · refine List.Pairwise.imp ?_ (List.nodup_range (n := 9))
        intro c d hcd x hx y hy e
        subst e
        have key : ∀ c : Nat, x ∈ (if sbB U s ((c : Int) + 1) ≠ -1 then (treeW U f (sbS U s ((c : Int) + 1))).map (((c : Int) + 1) :: ·) else []) → ∃ w, x = ((c : Int) + 1) :: w := by
          intro c h
          split at h
          · rw [List.mem_map] at h
            obtain ⟨w, _, h⟩ := h
            exact ⟨w, h.symm⟩
          · cases h
        obtain ⟨w, h1⟩ := key c hx
        obtain ⟨w', h2⟩ := key d hy
        rw [h1] at h2
        have := (List.cons.inj h2).1
        omega

theorem bgn_tree (U : TF) : ∀ (f m : Nat) (s : List Duo), bgnF U f m s ≤ (treeL U f s).length
  | 0, m, s => Nat.le_refl _
  | f + 1, m, s => by
    show bgnP U f m s 9 ≤ (s :: _).length
    have : ∀ k, bgnP U f m s k ≤ ((List.range k).flatMap fun (c : Nat) => if sbB U s ((c : Int) + 1) ≠ -1 then treeL U f (sbS U s ((c : Int) + 1)) else []).length + 1 := by
      intro k
      induction k with
      | zero => simp [bgnP]
      | succ k ih =>
        rw [bgnP_succ, List.range_succ, List.flatMap_append, List.length_append]
        simp only [List.flatMap_cons, List.flatMap_nil, List.append_nil]
        split
        · rename_i h
          rw [if_pos h.2]
          have := bgn_tree U f (m - bgnP U f m s k) (sbS U s ((k : Int) + 1))
          omega
        · omega
    rw [List.length_cons]
    exact this 9

section
variable {U : TF} (hU : ∀ a ∈ U.arcs, (0 ≤ a.f ∧ a.f < U.st) ∧ (0 ≤ a.t ∧ a.t < U.st) ∧ 0 ≤ a.w ∧ a.w ≤ 1000000000)
include hU

theorem okW_iff : ∀ (w w0 : List Int) (r : Int) (s : List Duo), SubOk U w0 r s → Bg U w0 → (okW U s w ↔ (∀ x ∈ w, 1 ≤ x ∧ x ≤ 9) ∧ Bg U (w0 ++ w))
  | [], w0, r, s, hs, hb => by
    rw [List.append_nil]
    exact ⟨fun _ => ⟨fun x hx => (by cases hx), hb⟩, fun _ => trivial⟩
  | x :: w, w0, r, s, hs, hb => by
    unfold okW
    have ea : w0 ++ x :: w = (w0 ++ [x]) ++ w := by simp
    constructor
    · rintro ⟨h1, h2, h3⟩
      obtain ⟨g1, g2⟩ := (okW_iff w (w0 ++ [x]) _ _ (hs.step hU h2) (hs.yes hU h2)).1 h3
      exact ⟨fun y hy => (List.mem_cons.1 hy).elim (fun e => e ▸ h1) (g1 y), ea ▸ g2⟩
    · rintro ⟨h1, h2⟩
      rw [ea] at h2
      have hb2 : sbB U s x ≠ -1 := fun e => hs.no hU e h2.pre
      exact ⟨h1 x (by simp), hb2, (okW_iff w (w0 ++ [x]) _ _ (hs.step hU hb2) (hs.yes hU hb2)).2 ⟨fun y hy => h1 y (by simp [hy]), h2⟩⟩

theorem treeW_bg (hlet : ∀ a ∈ U.arcs, 1 ≤ a.i ∧ a.i ≤ 9) {f : Nat} {w : List Int} : w ∈ treeW U f [⟨U.start, 0⟩] ↔ Bg U w ∧ w.length ≤ f := by
  rw [treeW_mem, okW_iff hU w [] 0 _ (SubOk.start U) ⟨_, _, .nil _⟩]
  constructor
  · rintro ⟨⟨h1, h2⟩, h3⟩; exact ⟨h2, h3⟩
  · rintro ⟨⟨t, c, h⟩, h3⟩; exact ⟨⟨h.lets hlet, t, c, h⟩, h3⟩
omit hU

/-- All words are there. -/
theorem WSt.full {W vs : List (List Int)} {par sym : List Int} (hlet : ∀ a ∈ U.arcs, 1 ≤ a.i ∧ a.i ≤ 9) (h : WSt U W vs par sym W.length 1) : ∀ w, Bg U w → ∃ k, k < W.length ∧ W.getD k [] = w := by
  have : ∀ (n : Nat) (w : List Int), w.length = n → Bg U w → ∃ k, k < W.length ∧ W.getD k [] = w := by
    intro n
    induction n with
    | zero =>
      intro w hw _
      have : w = [] := List.length_eq_zero_iff.1 hw
      subst this
      exact ⟨0, h.pos, h.w0⟩
    | succ n ih =>
      intro w hw hb
      obtain ⟨v, x, rfl⟩ : ∃ v x, w = v ++ [x] := ⟨w.dropLast, w.getLast (by intro e; rw [e] at hw; cases hw), (List.dropLast_concat_getLast _).symm⟩
      rw [List.length_append, List.length_singleton] at hw
      obtain ⟨k, h1, h2⟩ := ih v (by omega) hb.pre
      have hx : 1 ≤ x ∧ x ≤ 9 := by
        obtain ⟨t, c, hb⟩ := hb
        exact hb.lets hlet x (by simp)
      rw [← h2] at hb ⊢
      exact h.all k x h1 hx.1 hx.2 (.inl h1) hb
  exact fun w => this w.length w rfl

theorem getD_mem2 {W : List (List Int)} {w : List Int} : w ∈ W ↔ ∃ k, k < W.length ∧ W.getD k [] = w := by
  rw [List.mem_iff_getElem]
  constructor
  · rintro ⟨k, hk, rfl⟩; exact ⟨k, hk, by simp [List.getD, hk]⟩
  · rintro ⟨k, hk, rfl⟩; exact ⟨k, hk, by simp [List.getD, hk]⟩

theorem WSt.nodup {W vs : List (List Int)} {par sym : List Int} {i : Nat} {c : Int} (h : WSt U W vs par sym i c) : W.Nodup := by
  unfold List.Nodup
  rw [List.pairwise_iff_getElem]
  intro j k hj hk hjk e
  have := h.nd j k hj hk (by simp [List.getD, hj, hk, e])
  omega

include hU
/-- As many in breadth as in depth. -/
theorem words_ok {W vs : List (List Int)} {par sym : List Int} (hlet : ∀ a ∈ U.arcs, 1 ≤ a.i ∧ a.i ≤ 9) (h : WSt U W vs par sym W.length 1) (hl : W.length ≤ 200) : bgnF U 201 200 [⟨U.start, 0⟩] ≤ 200 := by
  refine Classical.byContradiction fun hc => ?_
  have h1 := bgn_tree U 201 200 [⟨U.start, 0⟩]
  rw [← treeW_len] at h1
  have h2 := nd_le (treeW_nd U 201 [⟨U.start, 0⟩]) (m := W) fun w hw => getD_mem2.2 (h.full hlet w ((treeW_bg hU hlet).1 hw).1)
  omega
theorem words_many {W vs : List (List Int)} {par sym : List Int} {i : Nat} {c : Int} (hlet : ∀ a ∈ U.arcs, 1 ≤ a.i ∧ a.i ≤ 9) (h : WSt U W vs par sym i c) (hl : W.length = 201) : 200 < bgnF U 201 200 [⟨U.start, 0⟩] := by
  refine Classical.byContradiction fun hc => ?_
  have h1 := (tree_ok U 201 200 [⟨U.start, 0⟩] (by omega) (by omega)).1
  rw [← treeW_len] at h1
  have h2 := nd_le h.nodup (m := treeW U 201 [⟨U.start, 0⟩]) fun w hw => by
    obtain ⟨k, g1, rfl⟩ := getD_mem2.1 hw
    refine (treeW_bg hU hlet).2 ⟨h.bg k g1, ?_⟩
    have := h.wl k g1
    omega
  omega
end
end Go.Fw

/-
  One way for each word: what is made costs the same for each word.
-/
namespace Go.Fw

def arcD (U : TF) (L : List (List Duo)) (j : Nat) (x : Int) : Arc := ⟨(j : Int), x, x, ((L.idxOf (sbS U (L.getD j []) x) : Nat) : Int), sbB U (L.getD j []) x⟩

/-- What the arcs are that were made, up to row i, letter c. -/
structure RI (U : TF) (i : Nat) (c : Int) (st : DS) : Prop where
  l0 : st.1.getD 0 [] = [⟨U.start, 0⟩]
  len : 1 ≤ st.1.length
  snd : ∀ a ∈ st.2, ∃ (j : Nat) (x : Int), (j < i ∨ j = i ∧ x < c) ∧ (1 ≤ x ∧ x ≤ 9) ∧ j < st.1.length ∧ sbB U (st.1.getD j []) x ≠ -1 ∧ sbS U (st.1.getD j []) x ∈ st.1 ∧ a = arcD U st.1 j x
  cpl : ∀ (j : Nat) (x : Int), (j < i ∨ j = i ∧ x < c) → 1 ≤ x → x ≤ 9 → j < st.1.length → sbB U (st.1.getD j []) x ≠ -1 → arcD U st.1 j x ∈ st.2
  srt : Srt st.2
  rch : ∀ j, j < st.1.length → ∃ w d, RdW st.2 0 w (j : Int) d

theorem RdW.mono {L M : List Arc} (hLM : ∀ a ∈ L, a ∈ M) {s t c : Int} {u : List Int} (h : RdW L s u t c) : RdW M s u t c := by
  induction h with
  | nil s => exact .nil s
  | cons ha h ih => exact .cons (hLM _ ha) ih

theorem getD_idxOf {L : List (List Duo)} {s : List Duo} (h : s ∈ L) : L.getD (L.idxOf s) [] = s := by
  have h1 := List.idxOf_lt_length_of_mem h
  simp only [List.getD, List.getElem?_eq_getElem h1, Option.getD_some]
  exact List.getElem_idxOf h1

theorem numL_app (L : List (List Duo)) (s : List Duo) : ∃ M, numL L s = L ++ M := by
  unfold numL
  split
  · exact ⟨[], by simp⟩
  · exact ⟨[s], rfl⟩

theorem arcD_app {U : TF} {L M : List (List Duo)} {j : Nat} {x : Int} (hj : j < L.length) (hs : sbS U (L.getD j []) x ∈ L) : arcD U (L ++ M) j x = arcD U L j x := by
  have e : (L ++ M).getD j [] = L.getD j [] := by simp only [List.getD]; rw [List.getElem?_append_left hj]
  unfold arcD
  rw [e, idxOf_in hs]

theorem RI.start (U : TF) : RI U 0 1 (rowsD U 0) := by
  refine ⟨rfl, by simp [rowsD], fun a ha => by simp [rowsD] at ha, fun j x h h1 h2 hj hb => by omega, List.Pairwise.nil, fun j hj => ?_⟩
  simp only [rowsD, List.length_cons, List.length_nil] at hj
  have : j = 0 := by omega
  subst this
  exact ⟨[], 0, .nil _⟩

theorem RI.skip {U : TF} {i : Nat} {c : Int} {st : DS} (h : RI U i c st) (hb : sbB U (st.1.getD i []) c = -1) : RI U i (c + 1) st :=
  { h with
    snd := fun a ha => by
      obtain ⟨j, x, h1, h2⟩ := h.snd a ha
      exact ⟨j, x, by omega, h2⟩
    cpl := fun j x h1 h2 h3 h4 h5 => by
      by_cases e : j = i ∧ x = c
      · rw [e.1, e.2] at h5; exact absurd hb h5
      · exact h.cpl j x (by omega) h2 h3 h4 h5 }

theorem RI.next {U : TF} {i : Nat} {st : DS} (h : RI U i 10 st) : RI U (i + 1) 1 st :=
  { h with
    snd := fun a ha => by
      obtain ⟨j, x, h1, h2⟩ := h.snd a ha
      exact ⟨j, x, by omega, h2⟩
    cpl := fun j x h1 h2 h3 h4 h5 => h.cpl j x (by omega) h2 h3 h4 h5 }

theorem RI.push {U : TF} {i : Nat} {c : Int} {st : DS} (h : RI U i c st) (hi : i < st.1.length) (hc : 1 ≤ c ∧ c ≤ 9) (hb : sbB U (st.1.getD i []) c ≠ -1) :
    RI U i (c + 1) (numL st.1 (sbS U (st.1.getD i []) c), st.2 ++ [arcD U (numL st.1 (sbS U (st.1.getD i []) c)) i c]) := by
  obtain ⟨L, raw⟩ := st
  simp only at hi hb ⊢
  have hmem : sbS U (L.getD i []) c ∈ numL L (sbS U (L.getD i []) c) := numL_mem
  have hlen := numL_len L (sbS U (L.getD i []) c)
  have hcase : numL L (sbS U (L.getD i []) c) = L ∨ numL L (sbS U (L.getD i []) c) = L ++ [sbS U (L.getD i []) c] := by unfold numL; split <;> simp
  obtain ⟨M, hM⟩ := numL_app L (sbS U (L.getD i []) c)
  have hget : ∀ j, j < L.length → (numL L (sbS U (L.getD i []) c)).getD j [] = L.getD j [] := fun j hj => numL_get hj
  have hnew : arcD U (numL L (sbS U (L.getD i []) c)) i c = ⟨(i : Int), c, c, (((numL L (sbS U (L.getD i []) c)).idxOf (sbS U (L.getD i []) c) : Nat) : Int), sbB U (L.getD i []) c⟩ := by unfold arcD; rw [hget i hi]
  generalize hN : numL L (sbS U (L.getD i []) c) = N at *
  generalize hs : sbS U (L.getD i []) c = s at *
  have hkeep : ∀ j x, j < L.length → sbS U (L.getD j []) x ∈ L → arcD U N j x = arcD U L j x := fun j x h1 h2 => by rw [hM]; exact arcD_app h1 h2
  refine ⟨?_, ?_, fun a ha => ?_, fun j x h1 h2 h3 h4 h5 => ?_, ?_, fun j hj => ?_⟩
  · rw [hget 0 h.len]; exact h.l0
  · have := h.len; simp only at this ⊢; omega
  · simp only at ha ⊢
    rcases List.mem_append.1 ha with ha | ha
    · obtain ⟨j, x, g1, g2, g3, g4, g5, rfl⟩ := h.snd a ha
      refine ⟨j, x, by omega, g2, by simp only at g3; omega, by rw [hget j g3]; exact g4, ?_, (hkeep j x g3 g5).symm⟩
      rw [hget j g3, hM]
      exact List.mem_append.2 (.inl g5)
    · rw [List.mem_singleton] at ha
      subst ha
      exact ⟨i, c, .inr ⟨rfl, by omega⟩, hc, by omega, by rw [hget i hi]; exact hb, by rw [hget i hi, hs]; exact hmem, rfl⟩
  · simp only at h4 h5 ⊢
    rw [List.mem_append, List.mem_singleton]
    by_cases e : j = i ∧ x = c
    · right; rw [e.1, e.2]
    · left
      have hj : j < L.length := by omega
      rw [hget j hj] at h5
      have g := h.cpl j x (by omega) h2 h3 hj h5
      obtain ⟨j', x', q1, q2, q3, q4, q5, q6⟩ := h.snd _ g
      have e1 : (j : Int) = j' := congrArg Arc.f q6
      have e2 : x = x' := congrArg Arc.i q6
      have e3 : j = j' := by omega
      subst e2 e3
      rw [hkeep j x hj q5]
      exact g
  · refine List.pairwise_append.2 ⟨h.srt, List.pairwise_singleton _ _, fun a ha b hb' => ?_⟩
    rw [List.mem_singleton] at hb'
    subst hb'
    obtain ⟨j, x, q1, q2, q3, q4, q5, rfl⟩ := h.snd a ha
    rw [aheadB_iff]
    show (j : Int) < (i : Int) ∨ (j : Int) = i ∧ (x < c ∨ _)
    omega
  · simp only at hj ⊢
    by_cases hj2 : j < L.length
    · obtain ⟨w, d, hr⟩ := h.rch j hj2
      exact ⟨w, d, hr.mono fun a ha => List.mem_append.2 (.inl ha)⟩
    · obtain ⟨w, d, hr⟩ := h.rch i hi
      have hr2 := (hr.mono (M := raw ++ [arcD U N i c]) fun a ha => List.mem_append.2 (.inl ha)).snoc (List.mem_append.2 (.inr (List.mem_singleton.2 rfl))) rfl
      have e : (arcD U N i c).t = (j : Int) := by
        rw [hnew]
        simp only
        rcases hcase with e | e
        · rw [e] at hj; omega
        · have hsn : s ∉ L := by
            intro hin
            rw [← hN] at e
            unfold numL at e
            rw [if_pos hin] at e
            have := congrArg List.length e
            simp at this
          rw [e] at hj ⊢
          rw [idxOf_out hsn]
          simp at hj ⊢
          omega
      rw [e] at hr2
      exact ⟨_, _, hr2⟩

theorem RI.step {U : TF} {i : Nat} {c : Int} {st : DS} (h : RI U i c st) (hi : i < st.1.length) (hc : 1 ≤ c ∧ c ≤ 9) : RI U i (c + 1) (stD U i st c) := by
  unfold stD
  by_cases hb : sbB U (st.1.getD i []) c = -1
  · rw [if_pos hb]; exact h.skip hb
  · rw [if_neg hb]
    have := h.push hi hc hb
    have e : arcD U (numL st.1 (sbS U (st.1.getD i []) c)) i c = ⟨(i : Int), c, c, (((numL st.1 (sbS U (st.1.getD i []) c)).idxOf (sbS U (st.1.getD i []) c) : Nat) : Int), sbB U (st.1.getD i []) c⟩ := by
      unfold arcD; rw [numL_get hi]
    rw [← e]
    exact this

theorem stD_len {U : TF} {i : Nat} {c : Int} {st : DS} : st.1.length ≤ (stD U i st c).1.length := by
  unfold stD
  split
  · exact Nat.le_refl _
  · exact (numL_len _ _).1

theorem RI.row {U : TF} {i : Nat} {st : DS} (h : RI U i 1 st) (hi : i < st.1.length) : ∀ k : Nat, k ≤ 9 → RI U i ((k : Int) + 1) (rowP U i st k) ∧ st.1.length ≤ (rowP U i st k).1.length
  | 0, _ => ⟨h, Nat.le_refl _⟩
  | k + 1, hk => by
    obtain ⟨h1, h2⟩ := RI.row h hi k (by omega)
    rw [rowP_succ]
    refine ⟨?_, Nat.le_trans h2 stD_len⟩
    have := h1.step (by omega) (by omega)
    rwa [show ((k : Int) + 1 + 1) = ((k + 1 : Nat) : Int) + 1 by omega] at this

theorem MDone.ri {U : TF} {st : DS} (h : MDone U st) : RI U st.1.length 1 st := by
  obtain ⟨k, e, hk⟩ := h
  have hlt : ∀ j, j < k → j < (rowsD U j).1.length := by
    intro j hj
    refine Classical.byContradiction fun hc => ?_
    have := rows_stop (U := U) (j := j) (by omega) (k - j)
    rw [show j + (k - j) = k by omega, e] at this
    rw [← this] at hc
    omega
  have : ∀ j, j ≤ k → RI U j 1 (rowsD U j) := by
    intro j
    induction j with
    | zero => intro _; exact RI.start U
    | succ j ih =>
      intro hj
      exact ((ih (by omega)).row (hlt j (by omega)) 9 (Nat.le_refl _)).1.next
  have := this k (Nat.le_refl _)
  rwa [e, hk] at this

section
variable {U : TF} (hU : ∀ a ∈ U.arcs, (0 ≤ a.f ∧ a.f < U.st) ∧ (0 ≤ a.t ∧ a.t < U.st) ∧ 0 ≤ a.w ∧ a.w ≤ 1000000000) {st : DS} (h : RI U st.1.length 1 st)
include h

theorem RI.arc {a : Arc} (ha : a ∈ st.2) : ∃ (j : Nat) (x : Int), (1 ≤ x ∧ x ≤ 9) ∧ j < st.1.length ∧ sbB U (st.1.getD j []) x ≠ -1 ∧ sbS U (st.1.getD j []) x ∈ st.1 ∧ a.f = j ∧ a.i = x ∧ a.o = x ∧ a.w = sbB U (st.1.getD j []) x ∧ (0 ≤ a.t ∧ a.t.toNat < st.1.length) ∧ st.1.getD a.t.toNat [] = sbS U (st.1.getD j []) x := by
  obtain ⟨j, x, h1, h2, h3, h4, h5, rfl⟩ := h.snd a ha
  exact ⟨j, x, h2, h3, h4, h5, rfl, rfl, rfl, rfl, ⟨Int.natCast_nonneg _, List.idxOf_lt_length_of_mem h5⟩, getD_idxOf h5⟩

include hU
/-- What is read along a way tells the subset it leads to. -/
theorem RI.sub {w : List Int} {j d : Int} (hr : RdW st.2 0 w j d) : SubOk U w d (st.1.getD j.toNat []) := by
  have : ∀ (n : Nat) (w : List Int) (j d : Int), w.length = n → RdW st.2 0 w j d → SubOk U w d (st.1.getD j.toNat []) := by
    intro n
    induction n with
    | zero =>
      intro w j d hw hr
      have : w = [] := List.length_eq_zero_iff.1 hw
      subst this
      obtain ⟨rfl, rfl⟩ := hr.none rfl
      rw [show (0 : Int).toNat = 0 from rfl, h.l0]
      exact SubOk.start U
    | succ n ih =>
      intro w j d hw hr
      obtain ⟨v, x, rfl⟩ : ∃ v x, w = v ++ [x] := ⟨w.dropLast, w.getLast (by intro e; rw [e] at hw; cases hw), (List.dropLast_concat_getLast _).symm⟩
      rw [List.length_append, List.length_singleton] at hw
      obtain ⟨a, ha, e, h1, h2, h3, h4⟩ := hr.unsnoc
      have hv := ih v a.f e (by omega) h1
      obtain ⟨i, y, g1, g2, g3, g4, g5, g6, g7, g8, g9, g10⟩ := h.arc ha
      rw [g5, Int.toNat_natCast] at hv
      rw [← h3, g10, h4, g8, ← h2, g6]
      exact hv.step hU g3
  exact this w.length w j d rfl hr

/-- Each beginning is read. -/
theorem RI.reads (hlet : ∀ a ∈ U.arcs, 1 ≤ a.i ∧ a.i ≤ 9) {w : List Int} (hb : Bg U w) : ∃ (j : Nat) (d : Int), j < st.1.length ∧ RdW st.2 0 w j d := by
  have : ∀ (n : Nat) (w : List Int), w.length = n → Bg U w → ∃ (j : Nat) (d : Int), j < st.1.length ∧ RdW st.2 0 w j d := by
    intro n
    induction n with
    | zero =>
      intro w hw _
      have : w = [] := List.length_eq_zero_iff.1 hw
      subst this
      exact ⟨0, 0, h.len, .nil _⟩
    | succ n ih =>
      intro w hw hb
      obtain ⟨v, x, rfl⟩ : ∃ v x, w = v ++ [x] := ⟨w.dropLast, w.getLast (by intro e; rw [e] at hw; cases hw), (List.dropLast_concat_getLast _).symm⟩
      rw [List.length_append, List.length_singleton] at hw
      obtain ⟨j, d, hj, hr⟩ := ih v (by omega) hb.pre
      have hs := h.sub hU hr
      rw [Int.toNat_natCast] at hs
      have hx : 1 ≤ x ∧ x ≤ 9 := by
        obtain ⟨t, c, hb⟩ := hb
        exact hb.lets hlet x (by simp)
      have hne : sbB U (st.1.getD j []) x ≠ -1 := fun e => hs.no hU e hb
      have ha := h.cpl j x (.inl hj) hx.1 hx.2 hj hne
      obtain ⟨i, y, g1, g2, g3, g4, g5, g6, g7, g8, g9, g10⟩ := h.arc ha
      have hr2 := hr.snoc ha rfl
      rw [show (arcD U st.1 j x).t = ((((arcD U st.1 j x).t.toNat : Nat) : Int)) by omega] at hr2
      exact ⟨_, _, g9.2, hr2⟩
  exact this w.length w rfl hb
end

/-- One and the same letter is read and written. -/
theorem way_rd {L : List Arc} (hL : ∀ a ∈ L, a.i = a.o ∧ a.i ≠ 0) {s t d : Int} {u v : List Int} (h : Way L s u v t d) : u = v ∧ RdW L s u t d := by
  induction h with
  | nil s => exact ⟨rfl, .nil _⟩
  | cons ha h ih =>
    have := hL _ ha
    obtain ⟨rfl, h2⟩ := ih
    rw [← this.1]
    unfold lab
    rw [if_neg this.2]
    exact ⟨rfl, .cons ha h2⟩
theorem rd_way {L : List Arc} (hL : ∀ a ∈ L, a.i = a.o ∧ a.i ≠ 0) {s t d : Int} {u : List Int} (h : RdW L s u t d) : Way L s u u t d := by
  induction h with
  | nil s => exact .nil _
  | cons ha h ih =>
    have h1 := hL _ ha
    have := Way.cons ha ih
    rw [← h1.1] at this
    unfold lab at this
    rwa [if_neg h1.2] at this

/-- What is made. -/
def mkD (U : TF) (st : DS) (cf ca : Nat) : TF := ⟨(st.1.length : Nat), 0, st.1.map (finD U), st.2, cf, ca⟩

section
variable {U : TF} (hU : ∀ a ∈ U.arcs, (0 ≤ a.f ∧ a.f < U.st) ∧ (0 ≤ a.t ∧ a.t < U.st) ∧ 0 ≤ a.w ∧ a.w ≤ 1000000000)
  (hlet : ∀ a ∈ U.arcs, (1 ≤ a.i ∧ a.i ≤ 9) ∧ a.i = a.o) (hfin : ∀ j : Nat, -1 ≤ U.fin.getD j 0) {st : DS} (h : RI U st.1.length 1 st)
theorem mkD_fin {j : Nat} (hj : j < st.1.length) : (st.1.map (finD U)).getD j 0 = finD U (st.1.getD j []) := by
  simp [List.getD, hj]

include hU hlet hfin h
/-- It costs the same for each word. -/
theorem mkD_wt {cf ca : Nat} {l : List Int} {n : Int} (hn : MinOf (Wt (mkD U st cf ca) l l) n) : MinOf (Wt U l l) n := by
  have hL : ∀ a ∈ U.arcs, a.i = a.o ∧ a.i ≠ 0 := fun a ha => by have := hlet a ha; omega
  have hR : ∀ a ∈ st.2, a.i = a.o ∧ a.i ≠ 0 := fun a ha => by
    obtain ⟨i, y, g1, g2, g3, g4, g5, g6, g7, g8, g9, g10⟩ := h.arc ha
    omega
  have hUw : ∀ c, Wt U l l c ↔ ∃ t d, RdW U.arcs U.start l t d ∧ U.fin.getD t.toNat 0 ≠ -1 ∧ c = d + U.fin.getD t.toNat 0 := fun c =>
    ⟨fun ⟨t, d, h1, h2, h3⟩ => ⟨t, d, (way_rd hL h1).2, h2, h3⟩, fun ⟨t, d, h1, h2, h3⟩ => ⟨t, d, rd_way hL h1, h2, h3⟩⟩
  have hsub : ∀ j d : Int, RdW st.2 0 l j d → MinOf (Wt U l l) (if finD U (st.1.getD j.toNat []) = -1 then -1 else d + finD U (st.1.getD j.toNat [])) := by
    intro j d hr
    have hs := h.sub hU hr
    have hm := finD_min hs.b0 hfin
    have hr0 := hs.r0
    by_cases e : finD U (st.1.getD j.toNat []) = -1
    · rw [if_pos e]
      refine .inl ⟨rfl, fun c hc => ?_⟩
      obtain ⟨t, d', h1, h2, rfl⟩ := (hUw c).1 hc
      obtain ⟨f, hf, rfl⟩ := hs.all _ _ h1
      exact (hm.le (c := _) ⟨f, hf, h2, rfl⟩).1 e
    · rw [if_neg e]
      have hlow := hm.low
      obtain ⟨f, hf, h2, h3⟩ := hm.is e
      refine .inr ⟨by omega, (hUw _).2 ⟨f.a, d + f.b, (hs.min f hf).is (by have := hs.b0 f hf; omega), h2, by omega⟩, fun c hc => ?_⟩
      obtain ⟨t, d', h1, h2, rfl⟩ := (hUw c).1 hc
      obtain ⟨g, hg, rfl⟩ := hs.all _ _ h1
      have := (hm.le (c := _) ⟨g, hg, h2, rfl⟩).2
      have := ((hs.min g hg).le h1).2
      omega
  rcases hn with ⟨rfl, h1⟩ | ⟨h0, ⟨j, d, h1, h2, rfl⟩, h3⟩
  · refine .inl ⟨rfl, fun c hc => ?_⟩
    obtain ⟨t, d, g1, g2, g3⟩ := (hUw c).1 hc
    obtain ⟨j, e, hj, hr⟩ := h.reads hU (fun a ha => (hlet a ha).1) ⟨t, d, g1⟩
    have hm := hsub _ _ hr
    rw [Int.toNat_natCast] at hm
    by_cases e2 : finD U (st.1.getD j []) = -1
    · rw [if_pos e2] at hm
      exact (hm.le hc).1 rfl
    · refine h1 (e + finD U (st.1.getD j [])) ⟨j, e, rd_way hR hr, ?_, ?_⟩
      · show (st.1.map (finD U)).getD _ 0 ≠ -1
        rw [Int.toNat_natCast, mkD_fin hj]
        exact e2
      · show _ = e + (st.1.map (finD U)).getD _ 0
        rw [Int.toNat_natCast, mkD_fin hj]
  · have hr := (way_rd hR h1).2
    have hm := hsub _ _ hr
    have h2' : (st.1.map (finD U)).getD j.toNat 0 ≠ -1 := h2
    have hj : j.toNat < st.1.length := by
      have h9 := hr.rng (n := (st.1.length : Nat)) (fun a ha => by
        obtain ⟨i, y, g1, g2, g3, g4, g5, g6, g7, g8, g9, g10⟩ := h.arc ha
        omega) ⟨Int.le_refl _, by show (0 : Int) < _; have := h.len; omega⟩
      omega
    rw [mkD_fin hj] at h2'
    rw [if_neg h2'] at hm
    show MinOf (Wt U l l) (d + (st.1.map (finD U)).getD j.toNat 0)
    rw [mkD_fin hj]
    exact hm
end
end Go.Fw

/-
  Marks that go along arcs, over and over: as often as there are states is often enough.
-/
namespace Go.Fw

def mkP (l : List Arc) (bk : Bool) (ms : List Bool) : Nat → List Bool
  | 0 => ms
  | k + 1 => (mkP l bk ms k).set (dstA bk (l.getD k aD)).toNat ((mkP l bk ms k).getD (dstA bk (l.getD k aD)).toNat false || (mkP l bk ms k).getD (srcA bk (l.getD k aD)).toNat false)
def itM (l : List Arc) (bk : Bool) (ms : List Bool) : Nat → List Bool
  | 0 => ms
  | n + 1 => mkP l bk (itM l bk ms n) l.length

theorem mkP_len (l : List Arc) (bk : Bool) (ms : List Bool) (k : Nat) : (mkP l bk ms k).length = ms.length := by
  induction k with
  | zero => rfl
  | succ k ih => simp [mkP, ih]
theorem itM_len (l : List Arc) (bk : Bool) (ms : List Bool) (n : Nat) : (itM l bk ms n).length = ms.length := by
  induction n with
  | zero => rfl
  | succ n ih => simp [itM, mkP_len, ih]

section
variable {l : List Arc} {bk : Bool} {n : Nat}

theorem setB_getD (ms : List Bool) (i j : Nat) (b : Bool) (hi : i < ms.length) : (ms.set i b).getD j false = if j = i then b else ms.getD j false := by
  simp only [List.getD, List.getElem?_set]
  by_cases e : i = j
  · subst e; simp [hi]
  · rw [if_neg e, if_neg (fun c => e c.symm)]

theorem mkP_step {ms : List Bool} (hms : ms.length = n) (hl : ∀ a ∈ l, 0 ≤ srcA bk a ∧ srcA bk a < n ∧ 0 ≤ dstA bk a ∧ dstA bk a < n) {k : Nat} (hk : k < l.length) (j : Nat) :
    (mkP l bk ms (k + 1)).getD j false = ((mkP l bk ms k).getD j false || (j == (dstA bk (l.getD k aD)).toNat && (mkP l bk ms k).getD (srcA bk (l.getD k aD)).toNat false)) := by
  have ha := hl _ (getD_mem l k aD hk)
  have hlen := mkP_len l bk ms k
  show ((mkP l bk ms k).set _ _).getD j false = _
  rw [setB_getD _ _ _ _ (by omega)]
  by_cases e : j = (dstA bk (l.getD k aD)).toNat
  · rw [if_pos e, ← e, beq_self_eq_true, Bool.true_and]
  · rw [if_neg e, beq_eq_false_iff_ne.2 e, Bool.false_and, Bool.or_false]

theorem mkP_mono {ms : List Bool} (hms : ms.length = n) (hl : ∀ a ∈ l, 0 ≤ srcA bk a ∧ srcA bk a < n ∧ 0 ≤ dstA bk a ∧ dstA bk a < n) {j : Nat} : ∀ k, k ≤ l.length → ms.getD j false = true → (mkP l bk ms k).getD j false = true
  | 0, _, h => h
  | k + 1, hk, h => by rw [mkP_step hms hl (by omega), mkP_mono hms hl k (by omega) h, Bool.true_or]

/-- No arc leads from a mark to none. -/
def ClosedM (l : List Arc) (bk : Bool) (ms : List Bool) : Prop := ∀ a ∈ l, ms.getD (srcA bk a).toNat false = true → ms.getD (dstA bk a).toNat false = true

theorem mkP_closed {ms : List Bool} (hms : ms.length = n) (hl : ∀ a ∈ l, 0 ≤ srcA bk a ∧ srcA bk a < n ∧ 0 ≤ dstA bk a ∧ dstA bk a < n) (h : ClosedM l bk ms) : ∀ k, k ≤ l.length → ∀ j, (mkP l bk ms k).getD j false = ms.getD j false
  | 0, _, _ => rfl
  | k + 1, hk, j => by
    have ih := mkP_closed hms hl h k (by omega)
    rw [mkP_step hms hl (by omega), ih, ih]
    cases hb : (j == (dstA bk (l.getD k aD)).toNat && ms.getD (srcA bk (l.getD k aD)).toNat false) with
    | false => rw [Bool.or_false]
    | true =>
      rw [Bool.and_eq_true, beq_iff_eq] at hb
      rw [hb.1, h _ (getD_mem l k aD (by omega)) hb.2]
      rfl
/-- A pass marks one more, or nothing is left to be marked. -/
theorem mkP_more {ms : List Bool} (hms : ms.length = n) (hl : ∀ a ∈ l, 0 ≤ srcA bk a ∧ srcA bk a < n ∧ 0 ≤ dstA bk a ∧ dstA bk a < n) : ClosedM l bk ms ∨ ∃ j, j < n ∧ ms.getD j false = false ∧ (mkP l bk ms l.length).getD j false = true := by
  by_cases h : ClosedM l bk ms
  · exact .inl h
  · right
    unfold ClosedM at h
    obtain ⟨a, h⟩ := Classical.not_forall.1 h
    obtain ⟨ha, h⟩ := Classical.not_imp.1 h
    obtain ⟨h1, h2⟩ := Classical.not_imp.1 h
    have hr := hl a ha
    refine ⟨(dstA bk a).toNat, by omega, by simpa using h2, ?_⟩
    obtain ⟨k, hk, rfl⟩ := List.mem_iff_getElem.1 ha
    have e : l[k] = l.getD k aD := by simp [List.getD, hk]
    rw [e] at h1 h2 ⊢
    have hmono : ∀ d, k + 1 + d ≤ l.length → (mkP l bk ms (k + 1 + d)).getD (dstA bk (l.getD k aD)).toNat false = true := by
      intro d
      induction d with
      | zero =>
        intro _
        rw [Nat.add_zero, mkP_step hms hl hk, mkP_mono hms hl k (by omega) h1]
        simp
      | succ d ih =>
        intro hd
        rw [← Nat.add_assoc, mkP_step hms hl (by omega), ih (by omega), Bool.true_or]
    have := hmono (l.length - (k + 1)) (by omega)
    rwa [show k + 1 + (l.length - (k + 1)) = l.length by omega] at this

/-- How many are marked. -/
def mcnt (n : Nat) (ms : List Bool) : Nat := cin n fun j => ms.getD j false
theorem cin_mono {p q : Nat → Bool} : ∀ {n : Nat}, (∀ i, i < n → p i = true → q i = true) → cin n p ≤ cin n q
  | 0, _ => Nat.le_refl _
  | n + 1, h => by
    have := cin_mono (n := n) fun i hi => h i (by omega)
    rw [cin_succ, cin_succ]
    by_cases hp : p n = true
    · rw [if_pos hp, if_pos (h n (by omega) hp)]; omega
    · rw [if_neg hp]; omega
theorem cin_lt {p q : Nat → Bool} : ∀ {n : Nat}, (∀ i, i < n → p i = true → q i = true) → ∀ {j : Nat}, j < n → p j = false → q j = true → cin n p + 1 ≤ cin n q
  | 0, _, _, h, _, _ => by omega
  | n + 1, h, j, hj, h1, h2 => by
    rw [cin_succ, cin_succ]
    by_cases e : j = n
    · subst e
      have := cin_mono (p := p) (q := q) (n := j) fun i hi => h i (by omega)
      rw [if_neg (by rw [h1]; exact Bool.false_ne_true), if_pos h2]
      omega
    · have := cin_lt (n := n) (fun i hi => h i (by omega)) (show j < n by omega) h1 h2
      by_cases hp : p n = true
      · rw [if_pos hp, if_pos (h n (by omega) hp)]; omega
      · rw [if_neg hp]; omega

theorem itM_closed {ms : List Bool} (hms : ms.length = n) (hl : ∀ a ∈ l, 0 ≤ srcA bk a ∧ srcA bk a < n ∧ 0 ≤ dstA bk a ∧ dstA bk a < n) : ClosedM l bk (itM l bk ms n) := by
  have key : ∀ k, ClosedM l bk (itM l bk ms k) ∨ k ≤ mcnt n (itM l bk ms k) := by
    intro k
    induction k with
    | zero => exact .inr (Nat.zero_le _)
    | succ k ih =>
      have hlen : (itM l bk ms k).length = n := by rw [itM_len, hms]
      by_cases hc : ClosedM l bk (itM l bk ms k)
      · left
        intro a ha h
        unfold itM at h ⊢
        rw [mkP_closed hlen hl hc _ (Nat.le_refl _)] at h ⊢
        exact hc a ha h
      · right
        rcases mkP_more hlen hl with h | ⟨j, hj, h1, h2⟩
        · exact absurd h hc
        · rcases ih with ih | ih
          · exact absurd ih hc
          · have := cin_lt (p := fun j => (itM l bk ms k).getD j false) (q := fun j => (itM l bk ms (k + 1)).getD j false) (fun i hi h => mkP_mono hlen hl _ (Nat.le_refl _) h) hj h1 h2
            unfold mcnt at ih ⊢
            omega
  rcases key n with h | h
  · exact h
  · have hle := cin_le n fun j => (itM l bk ms n).getD j false
    have hall := cin_all.1 (show cin n (fun j => (itM l bk ms n).getD j false) = n by unfold mcnt at h; omega)
    intro a ha _
    have := hl a ha
    exact hall _ (by omega)

theorem mkP_sound {ms : List Bool} {first : List Int} (hms : ms.length = n) (hl : ∀ a ∈ l, 0 ≤ srcA bk a ∧ srcA bk a < n ∧ 0 ≤ dstA bk a ∧ dstA bk a < n) (h : ∀ j, j < n → ms.getD j false = true → Rch l bk first j) : ∀ k, k ≤ l.length → ∀ j, j < n → (mkP l bk ms k).getD j false = true → Rch l bk first j
  | 0, _, j, hj, hm => h j hj hm
  | k + 1, hk, j, hj, hm => by
    have ih := mkP_sound hms hl h k (by omega)
    rw [mkP_step hms hl (by omega), Bool.or_eq_true] at hm
    rcases hm with hm | hm
    · exact ih j hj hm
    · rw [Bool.and_eq_true, beq_iff_eq] at hm
      have ha := getD_mem l k aD (by omega)
      have hr := hl _ ha
      have h1 := ih _ (by omega) hm.2
      have e1 : (((srcA bk (l.getD k aD)).toNat : Nat) : Int) = srcA bk (l.getD k aD) := by omega
      have e2 : ((j : Nat) : Int) = dstA bk (l.getD k aD) := by rw [hm.1]; omega
      rw [e2]
      exact .on h1 ha e1.symm

theorem itM_iff {ms : List Bool} {first : List Int} (hms : ms.length = n) (hl : ∀ a ∈ l, 0 ≤ srcA bk a ∧ srcA bk a < n ∧ 0 ≤ dstA bk a ∧ dstA bk a < n) (hf : ∀ x ∈ first, 0 ≤ x ∧ x < n) (h : ∀ j : Nat, j < n → (ms.getD j false = true ↔ (j : Int) ∈ first)) {j : Nat} (hj : j < n) :
    (itM l bk ms n).getD j false = true ↔ Rch l bk first j := by
  constructor
  · have : ∀ k j, j < n → (itM l bk ms k).getD j false = true → Rch l bk first j := by
      intro k
      induction k with
      | zero => intro j hj hm; exact .here ((h j hj).1 hm)
      | succ k ih =>
        intro j hj hm
        exact mkP_sound (by rw [itM_len, hms]) hl ih _ (Nat.le_refl _) j hj hm
    exact this n j hj
  · intro hr
    have hcl := itM_closed (ms := ms) hms hl
    have hmo : ∀ k j, ms.getD j false = true → (itM l bk ms k).getD j false = true := by
      intro k
      induction k with
      | zero => intro j h; exact h
      | succ k ih => intro j h; exact mkP_mono (by rw [itM_len, hms]) hl _ (Nat.le_refl _) (ih j h)
    have : ∀ x, Rch l bk first x → (itM l bk ms n).getD x.toNat false = true := by
      intro x hx
      induction hx with
      | @here x hx =>
        have := hf x hx
        exact hmo n _ ((h x.toNat (by omega)).2 (by rw [show ((x.toNat : Nat) : Int) = x by omega]; exact hx))
      | on _ ha hs ih => exact hcl _ ha (by rw [hs]; exact ih)
    have h2 := this j hr
    simpa using h2
end
end Go.Fw
