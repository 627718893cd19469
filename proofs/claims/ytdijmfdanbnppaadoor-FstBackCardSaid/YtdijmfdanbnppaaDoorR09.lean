/- Walks of the functions: what each computes. -/
import Derived.Test.YtdijmfdanbnppaaDoorR08
import Derived.Test.YtdijmfdanbnppaaDoorR05
import Derived.Test.YtdijmfdanbnppaaDoorR06

set_option linter.unusedSimpArgs false
set_option linter.unusedVariables false

namespace Go.Fw
open Go Go.Proofs

/-- The rows as they grow. -/
structure RowsK (F : TF) (rows : List Sli) (pi : List (Addr × List Int × Nat)) (k : Nat) : Prop where
  len : rows.length = F.st.toNat
  hd : ∀ s : Nat, s < F.st.toNat → Hd pi (rows.getD s EK.sli.dflt)
  row : ∀ s : Nat, s < F.st.toNat → rowA pi (rows.getD s EK.sli.dflt).a = numsK F k s
  dist : ∀ (s t : Nat) (a : Addr), s < F.st.toNat → t < F.st.toNat → s ≠ t → (rows.getD s EK.sli.dflt).a = some a → (rows.getD t EK.sli.dflt).a ≠ some a

theorem Hd.len {α : Type} {m : List (Addr × List α × Nat)} {x : Sli} (h : Hd m x) : x.n = (rowA m x.a).length := by
  unfold Hd at h
  unfold rowA
  cases hx : x.a with
  | none => rw [hx] at h; simp [h.1]
  | some a =>
    rw [hx] at h
    simp only at h ⊢
    cases hl : lkA m a with
    | none => rw [hl] at h; exact h.elim
    | some y => rw [hl] at h; simp [h.1]

theorem Hd.some {α : Type} {m : List (Addr × List α × Nat)} {x : Sli} (h : Hd m x) {a : Addr} (ha : x.a = some a) : ∃ y, lkA m a = some y ∧ x.n = y.1.length ∧ x.c ≤ y.1.length + y.2 := by
  unfold Hd at h
  rw [ha] at h
  simp only at h
  cases hl : lkA m a with
  | none => rw [hl] at h; exact h.elim
  | some y => rw [hl] at h; exact ⟨y, rfl, h⟩

theorem Hd.of_some {α : Type} {m : List (Addr × List α × Nat)} {x : Sli} {a : Addr} {y : List α × Nat} (ha : x.a = Option.some a) (hl : lkA m a = Option.some y) (h1 : x.n = y.1.length) (h2 : x.c ≤ y.1.length + y.2) : Hd m x := by
  unfold Hd
  rw [ha]
  simp only
  rw [hl]
  exact ⟨h1, h2⟩

theorem Hd.of_none {α : Type} {m : List (Addr × List α × Nat)} {x : Sli} (ha : x.a = none) (h1 : x.n = 0) (h2 : x.c = 0) : Hd m x := by
  unfold Hd
  rw [ha]
  exact ⟨h1, h2⟩

theorem getD_setJ {α : Type} (l : List α) (j : Nat) (x d : α) (s : Nat) (hj : j < l.length) : (l.set j x).getD s d = if s = j then x else l.getD s d := by
  simp only [List.getD, List.getElem?_set]
  by_cases h : j = s
  · subst h; simp [hj]
  · simp [h, Ne.symm h]

theorem rowA_some {α : Type} {m : List (Addr × List α × Nat)} {a : Addr} {y : List α × Nat} (h : lkA m a = some y) : rowA m (some a) = y.1 := by simp [rowA, h]
theorem rowA_congr {α : Type} {m m' : List (Addr × List α × Nat)} {a : Addr} (h : lkA m a = lkA m' a) : rowA m (some a) = rowA m' (some a) := by simp only [rowA, h]

theorem RowsK.step {F : TF} {rows : List Sli} {pi pi' : List (Addr × List Int × Nat)} {k j : Nat} {h' : Sli} (h : RowsK F rows pi k) (hj : j < F.st.toNat) (hf : (F.arcs.getD k EK.arc.dflt).f = j) (ha : App pi (rows.getD j EK.sli.dflt) [(k : Int)] pi' h') :
    RowsK F (rows.set j h') pi' (k + 1) := by
  have hl := h.len
  have hjr : j < rows.length := by omega
  have hne : ∀ s : Nat, s ≠ j → numsK F (k + 1) s = numsK F k s := by
    intro s hs
    rw [numsK_succ, hf, if_neg (by omega), List.append_nil]
  have hjj : numsK F (k + 1) j = numsK F k j ++ [(k : Int)] := by rw [numsK_succ, hf, if_pos rfl]
  generalize hx : rows.getD j EK.sli.dflt = x at ha
  have hdj := h.hd j hj
  have hrj := h.row j hj
  rw [hx] at hdj hrj
  cases ha with
  | stay h => cases h
  | @room a y sp h1 h2 h3 =>
    obtain ⟨y', g1, g2, g3⟩ := hdj.some h1
    rw [h2] at g1
    cases g1
    have hla : lkA (setA pi a (y.1 ++ [(k : Int)], sp)) a = some (y.1 ++ [(k : Int)], sp) := by rw [lkA_setA, h2]; simp
    have hlb : ∀ b, b ≠ a → lkA (setA pi a (y.1 ++ [(k : Int)], sp)) b = lkA pi b := by
      intro b hb
      rw [lkA_setA]
      simp only [hb, if_false]
      cases lkA pi b <;> rfl
    have hoth : ∀ s, s < F.st.toNat → s ≠ j → ∀ b, (rows.getD s EK.sli.dflt).a = some b → b ≠ a := by
      intro s hs hsj b hb e
      subst e
      exact h.dist s j b hs hj hsj hb (by rw [hx]; exact h1)
    refine ⟨by rw [List.length_set]; exact hl, ?_, ?_, ?_⟩
    · intro s hs
      rw [getD_setJ _ _ _ _ _ hjr]
      by_cases e : s = j
      · rw [if_pos e]
        refine Hd.of_some rfl hla ?_ ?_
        · simp [g2]
        · simp only [List.length_append, List.length_cons, List.length_nil]
          simp only [List.length_cons, List.length_nil] at h3
          omega
      · rw [if_neg e]
        have := h.hd s hs
        cases hsa : (rows.getD s EK.sli.dflt).a with
        | none =>
          unfold Hd at this ⊢
          rw [hsa] at this ⊢
          exact this
        | some b =>
          obtain ⟨z, k1, k2, k3⟩ := this.some hsa
          exact Hd.of_some hsa (by rw [hlb b (hoth s hs e b hsa)]; exact k1) k2 k3
    · intro s hs
      rw [getD_setJ _ _ _ _ _ hjr]
      by_cases e : s = j
      · rw [if_pos e, e, hjj, ← hrj]
        simp [rowA, hla, h1, h2]
      · rw [if_neg e, hne s e, ← h.row s hs]
        cases hsa : (rows.getD s EK.sli.dflt).a with
        | none => rfl
        | some b => exact rowA_congr (hlb b (hoth s hs e b hsa))
    · intro s t b hs ht hst hb hc
      rw [getD_setJ _ _ _ _ _ hjr] at hb hc
      by_cases es : s = j
      · rw [if_pos es] at hb
        rw [if_neg (fun e => hst (es.trans e.symm))] at hc
        simp only [Option.some.injEq] at hb
        subst hb
        exact hoth t ht (fun e => hst (es.trans e.symm)) _ hc rfl
      · rw [if_neg es] at hb
        by_cases et : t = j
        · rw [if_pos et] at hc
          simp only [Option.some.injEq] at hc
          subst hc
          exact hoth s hs es _ hb rfl
        · rw [if_neg et] at hc
          exact h.dist s t b hs ht hst hb hc
  | @fresh a sp h1 h2 =>
    have hlb : ∀ b, b ≠ a → lkA ((a, rowA pi x.a ++ [(k : Int)], sp) :: pi) b = lkA pi b := fun b hb => by simp only [lkA, if_neg (Ne.symm hb)]
    have hla : lkA ((a, rowA pi x.a ++ [(k : Int)], sp) :: pi) a = some (rowA pi x.a ++ [(k : Int)], sp) := by simp [lkA]
    have hoth : ∀ s, s < F.st.toNat → ∀ b, (rows.getD s EK.sli.dflt).a = some b → b ≠ a := by
      intro s hs b hb e
      subst e
      obtain ⟨z, k1, _⟩ := (h.hd s hs).some hb
      rw [h1] at k1
      cases k1
    refine ⟨by rw [List.length_set]; exact hl, ?_, ?_, ?_⟩
    · intro s hs
      rw [getD_setJ _ _ _ _ _ hjr]
      by_cases e : s = j
      · rw [if_pos e]
        refine Hd.of_some rfl hla ?_ ?_
        · simp [hdj.len]
        · simp [hdj.len]
      · rw [if_neg e]
        have := h.hd s hs
        cases hsa : (rows.getD s EK.sli.dflt).a with
        | none =>
          unfold Hd at this ⊢
          rw [hsa] at this ⊢
          exact this
        | some b =>
          obtain ⟨z, k1, k2, k3⟩ := this.some hsa
          exact Hd.of_some hsa (by rw [hlb b (hoth s hs b hsa)]; exact k1) k2 k3
    · intro s hs
      rw [getD_setJ _ _ _ _ _ hjr]
      by_cases e : s = j
      · rw [if_pos e, e, hjj, ← hrj]
        exact rowA_some hla
      · rw [if_neg e, hne s e, ← h.row s hs]
        cases hsa : (rows.getD s EK.sli.dflt).a with
        | none => rfl
        | some b => exact rowA_congr (hlb b (hoth s hs b hsa))
    · intro s t b hs ht hst hb hc
      rw [getD_setJ _ _ _ _ _ hjr] at hb hc
      by_cases es : s = j
      · rw [if_pos es] at hb
        rw [if_neg (fun e => hst (es.trans e.symm))] at hc
        simp only [Option.some.injEq] at hb
        subst hb
        exact hoth t ht _ hc rfl
      · rw [if_neg es] at hb
        by_cases et : t = j
        · rw [if_pos et] at hc
          simp only [Option.some.injEq] at hc
          subst hc
          exact hoth s hs _ hb rfl
        · rw [if_neg et] at hc
          exact h.dist s t b hs ht hst hb hc

theorem RowsK.zero (F : TF) : RowsK F (List.replicate F.st.toNat (⟨none, 0, 0⟩ : Sli)) [] 0 := by
  have hg : ∀ s, (List.replicate F.st.toNat (⟨none, 0, 0⟩ : Sli)).getD s EK.sli.dflt = ⟨none, 0, 0⟩ := by
    intro s
    simp only [List.getD, List.getElem?_replicate]
    split <;> rfl
  refine ⟨List.length_replicate, ?_, ?_, ?_⟩
  · intro s _; rw [hg]; exact Hd.of_none rfl rfl rfl
  · intro s _; rw [hg]; rfl
  · intro s t a _ _ _ h; rw [hg] at h; cases h

theorem RowsK.ok {F : TF} {rows : List Sli} {pi : List (Addr × List Int × Nat)} (h : RowsK F rows pi F.arcs.length) : RowsOk F rows pi :=
  ⟨h.len, fun s hs => ⟨by rw [(h.hd s hs).len, h.row s hs]; rfl, h.row s hs⟩⟩

end Go.Fw

namespace Go.Fw
open Go Go.Proofs

/-- What is wrong with what is handed to Score. -/
def scoreE (F : TF) (u v : List Int) : Int := if fstE F ≠ 0 then fstE F else if wordE u ≠ 0 then wordE u else wordE v

/-- A transducer and two words: 0 final, 1 arcs, 2 in, 3 out. -/
abbrev hpQ (F : TF) (u v : List Int) : List (Nat × SO) := [(0, .arr false 3 .int F.fin 0), (1, .arr false 35 .arc F.arcs 0), (2, .arr false 3 .int u 0), (3, .arr false 3 .int v 0)]

section
variable (F : TF) (u v : List Int) (cu cv : Nat) (rows : List Sli) (pi : List (Addr × List Int × Nat))
end

end Go.Fw

namespace Go.Fw
open Go Go.Proofs

end Go.Fw

/-
  Sorting a range in place, in the plain: swaps, rotation, merging; whatever the elements, by an order.
-/
namespace Go.Fw
open Go

section
variable {α : Type} {d : α}

/-- ys came of xs by moves inside the places from a on, below b. -/
structure Mv (d : α) (a b : Nat) (xs ys : List α) : Prop where
  len : ys.length = xs.length
  perm : ys.Perm xs
  out : ∀ k, k < a ∨ b ≤ k → ys.getD k d = xs.getD k d
  ins : ∀ k, a ≤ k → k < b → ∃ k', a ≤ k' ∧ k' < b ∧ ys.getD k d = xs.getD k' d

theorem Mv.refl (a b : Nat) (xs : List α) : Mv d a b xs xs := ⟨rfl, .refl _, fun _ _ => rfl, fun k h1 h2 => ⟨k, h1, h2, rfl⟩⟩

theorem Mv.trans {a b : Nat} {xs ys zs : List α} (h : Mv d a b xs ys) (h' : Mv d a b ys zs) : Mv d a b xs zs where
  len := h'.len.trans h.len
  perm := h'.perm.trans h.perm
  out := fun k hk => (h'.out k hk).trans (h.out k hk)
  ins := fun k h1 h2 => by
    obtain ⟨k', g1, g2, g3⟩ := h'.ins k h1 h2
    obtain ⟨k'', f1, f2, f3⟩ := h.ins k' g1 g2
    exact ⟨k'', f1, f2, g3.trans f3⟩

theorem Mv.wide {a b a' b' : Nat} {xs ys : List α} (h : Mv d a b xs ys) (ha : a' ≤ a) (hb : b ≤ b') : Mv d a' b' xs ys where
  len := h.len
  perm := h.perm
  out := fun k hk => h.out k (by omega)
  ins := fun k h1 h2 => by
    by_cases hk : a ≤ k ∧ k < b
    · obtain ⟨k', g1, g2, g3⟩ := h.ins k hk.1 hk.2
      exact ⟨k', by omega, by omega, g3⟩
    · exact ⟨k, h1, h2, h.out k (by omega)⟩

/-- Two elements change places. -/
def swapL (d : α) (xs : List α) (i j : Nat) : List α := (xs.set i (xs.getD j d)).set j (xs.getD i d)

theorem getD_set' {β : Type} (c : List β) (i v : Nat) (x d : β) : (c.set i x).getD v d = if i = v ∧ v < c.length then x else c.getD v d := by
  by_cases h : i = v
  · subst h
    by_cases h2 : i < c.length
    · simp [List.getD, h2]
    · simp [List.getD, h2]
  · simp [List.getD, List.getElem?_set_ne h, h]

theorem swapL_getD {xs : List α} {i j : Nat} (hi : i < xs.length) (hj : j < xs.length) (k : Nat) : (swapL d xs i j).getD k d = if k = j then xs.getD i d else if k = i then xs.getD j d else xs.getD k d := by
  unfold swapL
  rw [getD_set', getD_set', List.length_set]
  by_cases h1 : k = j
  · subst h1
    rw [if_pos ⟨rfl, hj⟩, if_pos rfl]
  · rw [if_neg (fun c => h1 c.1.symm), if_neg h1]
    by_cases h2 : k = i
    · subst h2
      rw [if_pos ⟨rfl, hi⟩, if_pos rfl]
    · rw [if_neg (fun c => h2 c.1.symm), if_neg h2]

/-- An order: one stands ahead of another one. -/
structure LtOk (lt : α → α → Bool) : Prop where
  asym : ∀ x y, lt x y = true → lt y x = false
  trans : ∀ x y z, lt y x = false → lt z y = false → lt z x = false

variable {lt : α → α → Bool}

/-- In order, from a on, below b. -/
def SrtOn (d : α) (lt : α → α → Bool) (a b : Nat) (xs : List α) : Prop := ∀ i j, a ≤ i → i < j → j < b → lt (xs.getD j d) (xs.getD i d) = false

theorem SrtOn.cong {a b : Nat} {xs ys : List α} (h : SrtOn d lt a b xs) (he : ∀ k, a ≤ k → k < b → ys.getD k d = xs.getD k d) : SrtOn d lt a b ys := by
  intro i j h1 h2 h3
  rw [he i h1 (by omega), he j (by omega) h3]
  exact h i j h1 h2 h3

theorem SrtOn.one {a b : Nat} {xs : List α} (h : b ≤ a + 1) : SrtOn d lt a b xs := fun i j h1 h2 h3 => by omega

theorem LtOk.irr (h : LtOk lt) (x : α) : lt x x = false := by
  cases e : lt x x with
  | false => rfl
  | true => have := h.asym x x e; rw [e] at this; cases this

theorem SrtOn.le (hlt : LtOk lt) {a b : Nat} {xs : List α} (h : SrtOn d lt a b xs) {i j : Nat} (h1 : a ≤ i) (h2 : i ≤ j) (h3 : j < b) : lt (xs.getD j d) (xs.getD i d) = false := by
  by_cases e : i = j
  · subst e; exact hlt.irr _
  · exact h i j h1 (by omega) h3

/-! ### Insertion -/
/-- In order but for the one at j, which goes back. -/
def InsOn (d : α) (lt : α → α → Bool) (a i j : Nat) (xs : List α) : Prop := ∀ p q, a ≤ p → p < q → q ≤ i → q ≠ j → lt (xs.getD q d) (xs.getD p d) = false

theorem InsOn.start {a i : Nat} {xs : List α} (h : SrtOn d lt a i xs) : InsOn d lt a i i xs := fun p q h1 h2 h3 h4 => h p q h1 h2 (by omega)

theorem InsOn.step (hlt : LtOk lt) {a i j : Nat} {xs : List α} (h : InsOn d lt a i j xs) (hj : a < j) (hji : j ≤ i) (hi : i < xs.length) (hx : lt (xs.getD j d) (xs.getD (j - 1) d) = true) : InsOn d lt a i (j - 1) (swapL d xs j (j - 1)) := by
  intro p q h1 h2 h3 h4
  have hg := swapL_getD (d := d) (xs := xs) (i := j) (j := j - 1) (by omega) (by omega)
  rw [hg, hg, if_neg h4]
  by_cases e : q = j
  · subst e
    rw [if_pos rfl]
    by_cases e2 : p = q - 1
    · rw [if_pos e2]; exact hlt.asym _ _ hx
    · rw [if_neg e2, if_neg (by omega)]; exact h p (q - 1) h1 (by omega) (by omega) (by omega)
  · rw [if_neg e]
    by_cases e2 : p = j - 1
    · rw [if_pos e2]; exact h j q (by omega) (by omega) h3 e
    · rw [if_neg e2]
      by_cases e3 : p = j
      · rw [if_pos e3]; exact h (j - 1) q (by omega) (by omega) h3 e
      · rw [if_neg e3]; exact h p q h1 h2 h3 e

theorem InsOn.done (hlt : LtOk lt) {a i j : Nat} {xs : List α} (h : InsOn d lt a i j xs) (hji : j ≤ i) (hx : j ≤ a ∨ lt (xs.getD j d) (xs.getD (j - 1) d) = false) : SrtOn d lt a (i + 1) xs := by
  intro p q h1 h2 h3
  by_cases e : q = j
  · subst e
    rcases hx with hx | hx
    · omega
    · by_cases e2 : p = q - 1
      · rw [e2]; exact hx
      · exact hlt.trans _ _ _ (h p (q - 1) h1 (by omega) (by omega) (by omega)) hx
  · exact h p q h1 h2 (by omega) e

/-! ### Blocks change places -/
/-- The first k of two blocks of the places from a on and from b on have changed places. -/
def SwOn (d : α) (a b k : Nat) (xs ys : List α) : Prop := ∀ p, ys.getD p d = if a ≤ p ∧ p < a + k then xs.getD (p - a + b) d else if b ≤ p ∧ p < b + k then xs.getD (p - b + a) d else xs.getD p d

theorem SwOn.zero (a b : Nat) (xs : List α) : SwOn d a b 0 xs xs := fun p => by rw [if_neg (by omega), if_neg (by omega)]

theorem SwOn.step {a b k n : Nat} {xs ys : List α} (h : SwOn d a b k xs ys) (hl : ys.length = xs.length) (hk : k < n) (hab : a + n ≤ b) (hb : b + n ≤ xs.length) : SwOn d a b (k + 1) xs (swapL d ys (a + k) (b + k)) := by
  intro p
  rw [swapL_getD (by omega) (by omega)]
  have h1 := h p
  have h2 := h (a + k)
  have h3 := h (b + k)
  rw [if_neg (by omega), if_neg (by omega)] at h2 h3
  by_cases e1 : p = b + k
  · subst e1
    rw [if_pos rfl, if_neg (by omega), if_pos (by omega), h2]
    congr 1; omega
  · rw [if_neg e1]
    by_cases e2 : p = a + k
    · subst e2
      rw [if_pos rfl, if_pos (by omega), h3]
      congr 1; omega
    · rw [if_neg e2, h1]
      by_cases e3 : a ≤ p ∧ p < a + k
      · rw [if_pos e3, if_pos (by omega)]
      · by_cases e4 : b ≤ p ∧ p < b + k
        · rw [if_neg e3, if_pos e4, if_neg (by omega), if_pos (by omega)]
        · rw [if_neg e3, if_neg e4, if_neg (by omega), if_neg (by omega)]

/-! ### Rotation -/
/-- What lay from a on, below m, and what lay from m on, below b, have changed places. -/
def RotOn (d : α) (a m b : Nat) (xs ys : List α) : Prop := ∀ p, ys.getD p d = if a ≤ p ∧ p < a + (b - m) then xs.getD (p - a + m) d else if a + (b - m) ≤ p ∧ p < b then xs.getD (p - (b - m)) d else xs.getD p d

/-- What is left to do. -/
theorem RotOn.left {a m b i j : Nat} {xs ys zs : List α} (h : ∀ us, RotOn d (m - i) m (m + j) ys us → RotOn d a m b xs us) (hij : j < i) (him : i ≤ m) (hs : SwOn d (m - i) m j ys zs) : ∀ us, RotOn d (m - (i - j)) m (m + j) zs us → RotOn d a m b xs us := by
  intro us hu
  refine h us fun p => ?_
  rw [hu p]
  have h1 := hs p
  have h2 := hs (p - (m - (i - j)) + m)
  have h3 := hs (p - (m + j - m))
  by_cases c1 : m - i ≤ p ∧ p < m - i + j
  · rw [if_neg (by omega), if_neg (by omega), h1, if_pos c1, if_pos (by omega)]
  · by_cases c2 : m - (i - j) ≤ p ∧ p < m - (i - j) + j
    · rw [if_pos (by omega), h2, if_neg (by omega), if_pos (by omega), if_neg (by omega), if_pos (by omega)]
      congr 1; omega
    · by_cases c3 : m - (i - j) + j ≤ p ∧ p < m + j
      · rw [if_neg (by omega), if_pos (by omega), h3, if_neg (by omega), if_neg (by omega), if_neg (by omega), if_pos (by omega)]
      · rw [if_neg (by omega), if_neg (by omega), h1, if_neg (by omega), if_neg (by omega), if_neg (by omega), if_neg (by omega)]

theorem RotOn.right {a m b i j : Nat} {xs ys zs : List α} (h : ∀ us, RotOn d (m - i) m (m + j) ys us → RotOn d a m b xs us) (hij : i < j) (him : i ≤ m) (hs : SwOn d (m - i) (m + j - i) i ys zs) : ∀ us, RotOn d (m - i) m (m + (j - i)) zs us → RotOn d a m b xs us := by
  intro us hu
  refine h us fun p => ?_
  rw [hu p]
  have h1 := hs p
  have h2 := hs (p - (m - i) + m)
  have h3 := hs (p - (m + (j - i) - m))
  by_cases c1 : m - i ≤ p ∧ p < m - i + (j - i)
  · rw [if_pos (by omega), h2, if_neg (by omega), if_neg (by omega), if_pos (by omega)]
  · by_cases c2 : m - i + (j - i) ≤ p ∧ p < m + (j - i)
    · rw [if_neg (by omega), if_pos (by omega), h3, if_pos (by omega), if_pos (by omega)]
      congr 1; omega
    · by_cases c3 : m + (j - i) ≤ p ∧ p < m + j
      · rw [if_neg (by omega), if_neg (by omega), h1, if_neg (by omega), if_pos (by omega), if_neg (by omega), if_pos (by omega)]
        congr 1; omega
      · rw [if_neg (by omega), if_neg (by omega), h1, if_neg (by omega), if_neg (by omega), if_neg (by omega), if_neg (by omega)]

theorem RotOn.last {m i : Nat} {ys zs : List α} (him : i ≤ m) (hs : SwOn d (m - i) m i ys zs) : RotOn d (m - i) m (m + i) ys zs := by
  intro p
  rw [hs p]
  by_cases c1 : m - i ≤ p ∧ p < m - i + i
  · rw [if_pos c1, if_pos (by omega)]
  · by_cases c2 : m ≤ p ∧ p < m + i
    · rw [if_neg c1, if_pos c2, if_neg (by omega), if_pos (by omega)]
      congr 1; omega
    · rw [if_neg c1, if_neg c2, if_neg (by omega), if_neg (by omega)]

end
end Go.Fw

/-
  Merging in place, and block by block, in the plain.
-/
namespace Go.Fw
open Go

section
variable {α : Type} {d : α} {lt : α → α → Bool}

/-! ### One element is put in among others -/
theorem RotOn.none {a m b : Nat} {xs : List α} (h : m = a ∨ b = m) : RotOn d a m b xs xs := by
  intro p
  rcases h with rfl | rfl
  · by_cases c : m ≤ p ∧ p < m + (b - m)
    · rw [if_pos c]; congr 1; omega
    · rw [if_neg c, if_neg (by omega)]
  · rw [if_neg (by omega)]
    by_cases c : a + (b - b) ≤ p ∧ p < b
    · rw [if_pos c]; congr 1; omega
    · rw [if_neg c]

/-! ### The search -/
structure SymS (d : α) (lt : α → α → Bool) (lo hi p s r : Nat) (xs : List α) : Prop where
  l : lo ≤ s
  m : s ≤ r
  h : r ≤ hi
  lf : s = lo ∨ lt (xs.getD (p - (s - 1)) d) (xs.getD (s - 1) d) = false
  rt : r = hi ∨ lt (xs.getD (p - r) d) (xs.getD r d) = true

/-- All that goes left is no greater than all that goes right. -/
def Cross (d : α) (lt : α → α → Bool) (a mid b : Nat) (ys : List α) : Prop := ∀ i j, a ≤ i → i < mid → mid ≤ j → j < b → lt (ys.getD j d) (ys.getD i d) = false

/-! ### Block by block -/
/-- Whole blocks below a are in order. -/
def UpTo (d : α) (lt : α → α → Bool) (bs a : Nat) (ys : List α) : Prop := ∃ t, a = t * bs ∧ ∀ s, s < t → SrtOn d lt (s * bs) ((s + 1) * bs) ys
/-- All blocks are in order. -/
def AllBl (d : α) (lt : α → α → Bool) (bs n : Nat) (ys : List α) : Prop := ∀ s, SrtOn d lt (s * bs) (min ((s + 1) * bs) n) ys
/-- Below a in greater blocks, from there on in smaller ones. -/
def Half (d : α) (lt : α → α → Bool) (bs n a : Nat) (ys : List α) : Prop := ∃ t, a = t * (2 * bs) ∧ (∀ s, s < t → SrtOn d lt (s * (2 * bs)) ((s + 1) * (2 * bs)) ys) ∧ ∀ s, 2 * t ≤ s → SrtOn d lt (s * bs) (min ((s + 1) * bs) n) ys

theorem UpTo.zero (bs : Nat) (ys : List α) : UpTo d lt bs 0 ys := ⟨0, by simp, fun s h => by omega⟩

theorem UpTo.next {bs a : Nat} {ys zs : List α} (h : UpTo d lt bs a ys) (hm : Mv d a (a + bs) ys zs) (hs : SrtOn d lt a (a + bs) zs) : UpTo d lt bs (a + bs) zs := by
  obtain ⟨t, rfl, h2⟩ := h
  refine ⟨t + 1, by rw [Nat.succ_mul], fun s hst => ?_⟩
  by_cases e : s = t
  · subst e; rw [Nat.succ_mul]; exact hs
  · have hle : (s + 1) * bs ≤ t * bs := Nat.mul_le_mul_right _ (by omega)
    exact (h2 s (by omega)).cong fun k _ hk => hm.out k (.inl (by omega))

theorem UpTo.done {bs a n : Nat} {ys zs : List α} (h : UpTo d lt bs a ys) (han : a ≤ n) (hn : n < a + bs) (hm : Mv d a n ys zs) (hs : SrtOn d lt a n zs) : AllBl d lt bs n zs := by
  obtain ⟨t, rfl, h2⟩ := h
  intro s
  by_cases c : s < t
  · have hle : (s + 1) * bs ≤ t * bs := Nat.mul_le_mul_right _ (by omega)
    rw [Nat.min_eq_left (by omega)]
    exact (h2 s c).cong fun k _ hk => hm.out k (.inl (by omega))
  · by_cases e : s = t
    · subst e
      rw [Nat.min_eq_right (by rw [Nat.succ_mul]; omega)]
      exact hs
    · have hle : (t + 1) * bs ≤ s * bs := Nat.mul_le_mul_right _ (by omega)
      rw [Nat.succ_mul] at hle
      intro i j h1 h2 h3
      have := Nat.min_le_right ((s + 1) * bs) n
      omega

theorem Half.zero {bs n : Nat} {ys : List α} (h : AllBl d lt bs n ys) : Half d lt bs n 0 ys := ⟨0, by simp, fun s h => by omega, fun s _ => h s⟩

theorem Half.two {bs n a : Nat} {ys : List α} (h : Half d lt bs n a ys) (hab : a + bs ≤ n) : SrtOn d lt a (a + bs) ys ∧ SrtOn d lt (a + bs) (min (a + 2 * bs) n) ys := by
  obtain ⟨t, rfl, h2, h3⟩ := h
  have e1 : 2 * t * bs = t * (2 * bs) := by rw [Nat.mul_comm 2 t, Nat.mul_assoc]
  have e2 : (2 * t + 1) * bs = t * (2 * bs) + bs := by rw [Nat.succ_mul, e1]
  have e3 : (2 * t + 1 + 1) * bs = t * (2 * bs) + 2 * bs := by rw [Nat.succ_mul, e2]; omega
  have k1 := h3 (2 * t) (Nat.le_refl _)
  have k2 := h3 (2 * t + 1) (by omega)
  rw [e2, e1, Nat.min_eq_left hab] at k1
  rw [e3, e2] at k2
  exact ⟨k1, k2⟩

theorem Half.next {bs n a : Nat} {ys zs : List α} (h : Half d lt bs n a ys) (hm : Mv d a (a + 2 * bs) ys zs) (hs : SrtOn d lt a (a + 2 * bs) zs) : Half d lt bs n (a + 2 * bs) zs := by
  obtain ⟨t, rfl, h2, h3⟩ := h
  refine ⟨t + 1, (Nat.succ_mul t (2 * bs)).symm, fun s hst => ?_, fun s hst => ?_⟩
  · by_cases e : s = t
    · subst e; rw [Nat.succ_mul s (2 * bs)]; exact hs
    · have hle : (s + 1) * (2 * bs) ≤ t * (2 * bs) := Nat.mul_le_mul_right _ (by omega)
      exact (h2 s (by omega)).cong fun k _ hk => hm.out k (.inl (by omega))
  · have hle : (2 * t + 2) * bs ≤ s * bs := Nat.mul_le_mul_right _ (by omega)
    have e1 : (2 * t + 2) * bs = t * (2 * bs) + 2 * bs := by rw [Nat.add_mul, Nat.mul_comm 2 t, Nat.mul_assoc]
    exact (h3 s (by omega)).cong fun k hk _ => hm.out k (.inr (by omega))

theorem Half.done {bs n a : Nat} {ys zs : List α} (h : Half d lt bs n a ys) (han : a ≤ n) (hn : n < a + 2 * bs) (hm : Mv d a n ys zs) (hs : SrtOn d lt a n zs) : AllBl d lt (2 * bs) n zs := by
  obtain ⟨t, rfl, h2, _⟩ := h
  exact UpTo.done ⟨t, rfl, h2⟩ han hn hm hs

theorem AllBl.all {bs n : Nat} {ys : List α} (h : AllBl d lt bs n ys) (hn : n ≤ bs) : SrtOn d lt 0 n ys := by
  have := h 0
  rwa [Nat.zero_mul, Nat.zero_add, Nat.one_mul, Nat.min_eq_right hn] at this

end
end Go.Fw

/-
  Ways of a transducer, in the plain; what it is to be the least of some costs.
-/
namespace Go.Fw
open Go

/-! ### Arcs in order -/
theorem aheadB_trans {a b c : Arc} (h1 : aheadB a b = true) (h2 : aheadB b c = true) : aheadB a c = true := by
  unfold aheadB at *
  repeat' split at h1
  all_goals repeat' split at h2
  all_goals repeat' split
  all_goals simp only [decide_eq_true_eq, Bool.false_eq_true] at *
  all_goals omega

theorem aheadB_irr (a : Arc) : aheadB a a = false := by simp [aheadB]

theorem aheadB_asymm {a b : Arc} (h1 : aheadB a b = true) : aheadB b a = false := by
  cases h : aheadB b a with
  | false => rfl
  | true => have := aheadB_trans h1 h; rw [aheadB_irr] at this; cases this

def Srt (l : List Arc) : Prop := l.Pairwise fun a b => aheadB a b = true

/-! ### Ways -/
/-- What a label says. -/
def lab (x : Int) : List Int := if x = 0 then [] else [x]

/-- A way from a state to a state: what it reads, writes, costs. -/
inductive Way (L : List Arc) : Int → List Int → List Int → Int → Int → Prop
  | nil (s : Int) : Way L s [] [] s 0
  | cons {a : Arc} {u v : List Int} {t c : Int} (ha : a ∈ L) (h : Way L a.t u v t c) : Way L a.f (lab a.i ++ u) (lab a.o ++ v) t (a.w + c)

theorem Way.app {L : List Arc} {s t r : Int} {u v u' v' : List Int} {c d : Int} (h : Way L s u v t c) (h' : Way L t u' v' r d) : Way L s (u ++ u') (v ++ v') r (c + d) := by
  induction h with
  | nil s => simpa using h'
  | cons ha h ih =>
    rw [List.append_assoc, List.append_assoc, Int.add_assoc]
    exact .cons ha (ih h')

theorem Way.one {L : List Arc} {a : Arc} (ha : a ∈ L) : Way L a.f (lab a.i) (lab a.o) a.t a.w := by
  have := Way.cons ha (.nil a.t)
  simpa using this

theorem Way.snoc {L : List Arc} {s : Int} {u v : List Int} {c : Int} {a : Arc} (h : Way L s u v a.f c) (ha : a ∈ L) : Way L s (u ++ lab a.i) (v ++ lab a.o) a.t (c + a.w) := h.app (.one ha)

theorem Way.mono {L L' : List Arc} (hL : ∀ a ∈ L, a ∈ L') {s t : Int} {u v : List Int} {c : Int} (h : Way L s u v t c) : Way L' s u v t c := by
  induction h with
  | nil s => exact .nil s
  | cons ha h ih => exact .cons (hL _ ha) ih

theorem Way.pos {L : List Arc} {st : Int} (hL : ∀ a ∈ L, ArcOk st a) {s t : Int} {u v : List Int} {c : Int} (h : Way L s u v t c) : 0 ≤ c := by
  induction h with
  | nil s => exact Int.le_refl _
  | cons ha h ih => have := (hL _ ha).w0; omega

theorem Way.rng {L : List Arc} {st : Int} (hL : ∀ a ∈ L, ArcOk st a) {s t : Int} {u v : List Int} {c : Int} (h : Way L s u v t c) (hs : 0 ≤ s ∧ s < st) : 0 ≤ t ∧ t < st := by
  induction h with
  | nil s => exact hs
  | cons ha h ih => exact ih ⟨(hL _ ha).t0, (hL _ ha).t1⟩

/-- What a pair of words may cost. -/
def Wt (F : TF) (u v : List Int) (c : Int) : Prop := ∃ t d, Way F.arcs F.start u v t d ∧ F.fin.getD t.toNat 0 ≠ -1 ∧ c = d + F.fin.getD t.toNat 0

theorem Wt.pos {F : TF} (hF : FOk F) {u v : List Int} {c : Int} (h : Wt F u v c) : 0 ≤ c := by
  obtain ⟨t, d, h1, h2, rfl⟩ := h
  have h3 := h1.pos hF.arc
  have h4 := h1.rng hF.arc hF.start
  have h5 := hF.fin _ (getD_mem F.fin t.toNat 0 (by have := hF.finl; omega))
  omega

/-- The least of some costs; -1: there is none. -/
def MinOf (P : Int → Prop) (n : Int) : Prop := (n = -1 ∧ ∀ c, ¬ P c) ∨ (0 ≤ n ∧ P n ∧ ∀ c, P c → n ≤ c)

theorem MinOf.eq {P Q : Int → Prop} {m n : Int} (hm : MinOf P m) (hn : MinOf Q n) (h : ∀ c, P c ↔ Q c) : m = n := by
  rcases hm with ⟨rfl, h1⟩ | ⟨h0, h1, h2⟩ <;> rcases hn with ⟨rfl, g1⟩ | ⟨g0, g1, g2⟩
  · rfl
  · exact absurd ((h n).2 g1) (h1 n)
  · exact absurd ((h m).1 h1) (g1 m)
  · have := h2 n ((h n).2 g1); have := g2 m ((h m).1 h1); omega

theorem MinOf.le {P : Int → Prop} {n c : Int} (h : MinOf P n) (hc : P c) : n ≠ -1 ∧ n ≤ c := by
  rcases h with ⟨_, h⟩ | ⟨h0, _, h2⟩
  · exact absurd hc (h c)
  · exact ⟨by omega, h2 c hc⟩

theorem MinOf.is {P : Int → Prop} {n : Int} (h : MinOf P n) (hn : n ≠ -1) : P n := by
  rcases h with ⟨h, _⟩ | ⟨_, h, _⟩
  · exact absurd h hn
  · exact h

theorem MinOf.low {P : Int → Prop} {n : Int} (h : MinOf P n) : -1 ≤ n := by
  rcases h with ⟨h, _⟩ | ⟨h, _⟩ <;> omega

end Go.Fw

/-
  The order by which arcs are sorted, in the plain.
-/
namespace Go.Fw
open Go

def cmpW (a b : Arc) : Int := orI [orderI a b, cmpI a.w b.w]
def ltW (a b : Arc) : Bool := decide (cmpW a b < 0)
def sameK (a b : Arc) : Bool := decide (orderI a b = 0)

theorem SrtOn.less {α : Type} {d : α} {lt : α → α → Bool} {a b c : Nat} {xs : List α} (h : SrtOn d lt a b xs) (hc : c ≤ b) : SrtOn d lt a c xs := fun i j h1 h2 h3 => h i j h1 h2 (by omega)

/-! ### Searches -/
section
variable {α : Type} {d : α} {lt : α → α → Bool}

/-- Where the first one goes, among those behind it. -/
structure SeaA (d : α) (lt : α → α → Bool) (a b i j : Nat) (xs : List α) : Prop where
  l : a + 1 ≤ i
  ij : i ≤ j
  h : j ≤ b
  lo : ∀ k, a + 1 ≤ k → k < i → lt (xs.getD k d) (xs.getD a d) = true
  hi : ∀ k, j ≤ k → k < b → lt (xs.getD k d) (xs.getD a d) = false

theorem SeaA.start {a b : Nat} {xs : List α} (h : a + 1 ≤ b) : SeaA d lt a b (a + 1) b xs := ⟨Nat.le_refl _, h, Nat.le_refl _, fun k h1 h2 => by omega, fun k h1 h2 => by omega⟩

theorem SeaA.up (hlt : LtOk lt) {a b i j : Nat} {xs : List α} (hs : SrtOn d lt (a + 1) b xs) (h : SeaA d lt a b i j xs) (hij : i < j) (hc : lt (xs.getD ((i + j) / 2) d) (xs.getD a d) = true) : SeaA d lt a b ((i + j) / 2 + 1) j xs := by
  have h1 := h.l
  have h2 := h.h
  refine ⟨by omega, by omega, h2, fun k g1 g2 => ?_, h.hi⟩
  cases e : lt (xs.getD k d) (xs.getD a d) with
  | true => rfl
  | false =>
    have := hlt.trans _ _ _ e (hs.le hlt (i := k) (j := (i + j) / 2) g1 (by omega) (by omega))
    rw [hc] at this; cases this

theorem SeaA.down (hlt : LtOk lt) {a b i j : Nat} {xs : List α} (hs : SrtOn d lt (a + 1) b xs) (h : SeaA d lt a b i j xs) (hij : i < j) (hc : lt (xs.getD ((i + j) / 2) d) (xs.getD a d) = false) : SeaA d lt a b i ((i + j) / 2) xs := by
  have h1 := h.l
  have h2 := h.h
  exact ⟨h1, by omega, by omega, h.lo, fun k g1 g2 => hlt.trans _ _ _ hc (hs.le hlt (i := (i + j) / 2) (j := k) (by omega) g1 g2)⟩

/-- Where the last one goes, among those ahead of it. -/
structure SeaB (d : α) (lt : α → α → Bool) (a m i j : Nat) (xs : List α) : Prop where
  l : a ≤ i
  ij : i ≤ j
  h : j ≤ m
  lo : ∀ k, a ≤ k → k < i → lt (xs.getD m d) (xs.getD k d) = false
  hi : ∀ k, j ≤ k → k < m → lt (xs.getD m d) (xs.getD k d) = true

theorem SeaB.start {a m : Nat} {xs : List α} (h : a ≤ m) : SeaB d lt a m a m xs := ⟨Nat.le_refl _, h, Nat.le_refl _, fun k h1 h2 => by omega, fun k h1 h2 => by omega⟩

theorem SeaB.up (hlt : LtOk lt) {a m i j : Nat} {xs : List α} (hs : SrtOn d lt a m xs) (h : SeaB d lt a m i j xs) (hij : i < j) (hc : lt (xs.getD m d) (xs.getD ((i + j) / 2) d) = false) : SeaB d lt a m ((i + j) / 2 + 1) j xs := by
  have h1 := h.l
  have h2 := h.h
  exact ⟨by omega, by omega, h2, fun k g1 g2 => hlt.trans _ _ _ (hs.le hlt (i := k) (j := (i + j) / 2) g1 (by omega) (by omega)) hc, h.hi⟩

theorem SeaB.down (hlt : LtOk lt) {a m i j : Nat} {xs : List α} (hs : SrtOn d lt a m xs) (h : SeaB d lt a m i j xs) (hij : i < j) (hc : lt (xs.getD m d) (xs.getD ((i + j) / 2) d) = true) : SeaB d lt a m i ((i + j) / 2) xs := by
  have h1 := h.l
  have h2 := h.h
  refine ⟨h1, by omega, by omega, h.lo, fun k g1 g2 => ?_⟩
  cases e : lt (xs.getD m d) (xs.getD k d) with
  | true => rfl
  | false =>
    have := hlt.trans _ _ _ (hs.le hlt (i := (i + j) / 2) (j := k) (by omega) g1 g2) e
    rw [hc] at this; cases this

theorem Half.low {bs n a : Nat} {ys : List α} (h : Half d lt bs n a ys) (hab : n ≤ a + bs) : SrtOn d lt a n ys := by
  obtain ⟨t, rfl, h2, h3⟩ := h
  have e1 : 2 * t * bs = t * (2 * bs) := by rw [Nat.mul_comm 2 t, Nat.mul_assoc]
  have e2 : (2 * t + 1) * bs = t * (2 * bs) + bs := by rw [Nat.succ_mul, e1]
  have k1 := h3 (2 * t) (Nat.le_refl _)
  rw [e2, e1, Nat.min_eq_right hab] at k1
  exact k1

theorem SymS.up {lo hi p s r : Nat} {xs : List α} (h : SymS d lt lo hi p s r xs) (hsr : s < r) (hc : lt (xs.getD (p - (s + r) / 2) d) (xs.getD ((s + r) / 2) d) = false) : SymS d lt lo hi p ((s + r) / 2 + 1) r xs := by
  have h1 := h.l
  have h2 := h.h
  exact ⟨by omega, by omega, h2, .inr (by rw [Nat.add_sub_cancel]; exact hc), h.rt⟩

theorem SymS.down {lo hi p s r : Nat} {xs : List α} (h : SymS d lt lo hi p s r xs) (hsr : s < r) (hc : lt (xs.getD (p - (s + r) / 2) d) (xs.getD ((s + r) / 2) d) = true) : SymS d lt lo hi p s ((s + r) / 2) xs := by
  have h1 := h.l
  have h2 := h.h
  exact ⟨h1, by omega, by omega, h.lf, .inr hc⟩

end
end Go.Fw

/-
  Of arcs that are the same the first one, in the plain.
-/
namespace Go.Fw
open Go

abbrev aD : Arc := ⟨0, 0, 0, 0, 0⟩

def compL : Arc → List Arc → List Arc
  | _, [] => []
  | p, x :: l => if sameK x p then compL x l else x :: compL x l
def comp : List Arc → List Arc
  | [] => []
  | x :: l => x :: compL x l

theorem compL_snoc : ∀ (l : List Arc) (p x : Arc), compL p (l ++ [x]) = compL p l ++ (if sameK x ((p :: l).getLast (by simp)) then [] else [x])
  | [], p, x => rfl
  | y :: l, p, x => by
    have ih := compL_snoc l y x
    simp only [List.cons_append, compL]
    have e : (p :: y :: l).getLast (by simp) = (y :: l).getLast (by simp) := by simp
    rw [e]
    split
    · exact ih
    · rw [ih]; rfl

theorem comp_snoc (l : List Arc) (x : Arc) (h : l ≠ []) : comp (l ++ [x]) = comp l ++ (if sameK x (l.getLast h) then [] else [x]) := by
  cases l with
  | nil => exact absurd rfl h
  | cons y l => simp only [List.cons_append, comp]; rw [compL_snoc]

theorem comp_take (l : List Arc) (k : Nat) (h1 : 1 ≤ k) (h2 : k < l.length) : comp (l.take (k + 1)) = comp (l.take k) ++ (if sameK (l.getD k aD) (l.getD (k - 1) aD) then [] else [l.getD k aD]) := by
  have hne : l.take k ≠ [] := by
    intro c
    have := congrArg List.length c
    rw [List.length_take, List.length_nil] at this
    omega
  rw [take_succ_getD l k aD h2, comp_snoc _ _ hne]
  have e : (l.take k).getLast hne = l.getD (k - 1) aD := by
    have hlt : k - 1 < (l.take k).length := by rw [List.length_take]; omega
    rw [List.getLast_eq_getElem]
    have e2 : (l.take k).length - 1 = k - 1 := by rw [List.length_take]; omega
    simp only [e2, List.getElem_take]
    simp [List.getD, show k - 1 < l.length by omega]
  rw [e]

/-- While the first k are put where they go. -/
structure CompIn (xs : List Arc) (k n : Nat) (ys : List Arc) : Prop where
  len : ys.length = xs.length
  kn : k + 1 ≤ n
  nl : n ≤ xs.length
  k1 : 1 ≤ k
  tk : ys.take k = comp (xs.take n)
  un : ∀ i, n - 1 ≤ i → ys.getD i aD = xs.getD i aD

theorem CompIn.start {xs : List Arc} {k : Nat} (h1 : 1 ≤ k) (h2 : k < xs.length) (hc : comp (xs.take k) = xs.take k) (hs : sameK (xs.getD k aD) (xs.getD (k - 1) aD) = true) : CompIn xs k (k + 1) xs :=
  ⟨rfl, Nat.le_refl _, h2, h1, by rw [comp_take xs k h1 h2, hs, if_pos rfl, List.append_nil, hc], fun _ _ => rfl⟩

theorem CompIn.skip {xs ys : List Arc} {k n : Nat} (h : CompIn xs k n ys) (hn : n < xs.length) (hs : sameK (xs.getD n aD) (xs.getD (n - 1) aD) = true) : CompIn xs k (n + 1) ys := by
  have := h.kn
  have := h.k1
  exact ⟨h.len, by omega, hn, h.k1, by rw [comp_take xs n (by omega) hn, hs, if_pos rfl, List.append_nil, h.tk], fun i hi => h.un i (by omega)⟩

theorem CompIn.put {xs ys : List Arc} {k n : Nat} (h : CompIn xs k n ys) (hn : n < xs.length) (hs : sameK (xs.getD n aD) (xs.getD (n - 1) aD) = false) : CompIn xs (k + 1) (n + 1) (ys.set k (xs.getD n aD)) := by
  have h1 := h.kn
  have h2 := h.k1
  have h3 := h.len
  refine ⟨by simp [h3], by omega, hn, by omega, ?_, fun i hi => ?_⟩
  · rw [comp_take xs n (by omega) hn, hs, if_neg (by simp), ← h.tk]
    rw [take_succ_getD _ k aD (by simp; omega), List.take_set_of_le (Nat.le_refl _)]
    congr 1
    simp [List.getD, show k < ys.length by omega]
  · rw [getD_set', if_neg (by omega)]
    exact h.un i (by omega)

theorem CompIn.done {xs ys : List Arc} {k : Nat} (h : CompIn xs k xs.length ys) : (comp xs).length = k ∧ ys = comp xs ++ ys.drop k := by
  have h1 := h.kn
  have h3 := h.len
  have e := h.tk
  rw [List.take_length] at e
  rw [← e, List.length_take]
  exact ⟨by omega, (List.take_append_drop k ys).symm⟩

end Go.Fw

/-
  Arcs in order, of those that are the same the least weight: told by what it is; there is one such list.
-/
namespace Go.Fw
open Go

/-- The same key. -/
def Key (a b : Arc) : Prop := a.f = b.f ∧ a.i = b.i ∧ a.o = b.o ∧ a.t = b.t

theorem aheadB_iff {a b : Arc} : aheadB a b = true ↔ a.f < b.f ∨ a.f = b.f ∧ (a.i < b.i ∨ a.i = b.i ∧ (a.o < b.o ∨ a.o = b.o ∧ a.t < b.t)) := by
  unfold aheadB
  by_cases h1 : a.f = b.f
  · by_cases h2 : a.i = b.i
    · by_cases h3 : a.o = b.o
      · by_cases h4 : a.t = b.t
        · simp [h1, h2, h3, h4]
        · simp [h1, h2, h3, h4]
      · simp [h1, h2, h3]
    · simp [h1, h2]
  · simp [h1]

theorem Key.not_ahead {a b : Arc} (h : Key a b) : aheadB a b = false := by
  rw [← Bool.not_eq_true, aheadB_iff]
  unfold Key at h
  omega

theorem Key.symm {a b : Arc} (h : Key a b) : Key b a := ⟨h.1.symm, h.2.1.symm, h.2.2.1.symm, h.2.2.2.symm⟩
theorem Key.trans {a b c : Arc} (h : Key a b) (h' : Key b c) : Key a c := ⟨h.1.trans h'.1, h.2.1.trans h'.2.1, h.2.2.1.trans h'.2.2.1, h.2.2.2.trans h'.2.2.2⟩
theorem Key.refl (a : Arc) : Key a a := ⟨rfl, rfl, rfl, rfl⟩
theorem Key.eq {a b : Arc} (h : Key a b) (hw : a.w = b.w) : a = b := by
  obtain ⟨a1, a2, a3, a4, a5⟩ := a
  obtain ⟨b1, b2, b3, b4, b5⟩ := b
  obtain ⟨h1, h2, h3, h4⟩ := h
  simp only at *
  subst h1 h2 h3 h4 hw
  rfl
/-- zs: the arcs of xs in order, of those that are the same the one that weighs least. -/
structure IsNorm (xs zs : List Arc) : Prop where
  srt : Srt zs
  sub : ∀ z ∈ zs, z ∈ xs
  cov : ∀ x ∈ xs, ∃ z ∈ zs, Key z x ∧ z.w ≤ x.w

theorem Srt.key {l : List Arc} (h : Srt l) {a b : Arc} (ha : a ∈ l) (hb : b ∈ l) (hk : Key a b) : a = b := by
  induction l with
  | nil => cases ha
  | cons x l ih =>
    unfold Srt at h
    rw [List.pairwise_cons] at h
    rw [List.mem_cons] at ha hb
    rcases ha with ha | ha
    · rcases hb with hb | hb
      · rw [ha, hb]
      · have := h.1 b hb; rw [← ha, hk.not_ahead] at this; cases this
    · rcases hb with hb | hb
      · have := h.1 a ha; rw [← hb, hk.symm.not_ahead] at this; cases this
      · exact ih h.2 ha hb

theorem Srt.ext {l m : List Arc} (hl : Srt l) (hm : Srt m) (h : ∀ a, a ∈ l ↔ a ∈ m) : l = m := by
  induction l generalizing m with
  | nil =>
    cases m with
    | nil => rfl
    | cons y m => have := (h y).2 (by simp); cases this
  | cons x l ih =>
    cases m with
    | nil => have := (h x).1 (by simp); cases this
    | cons y m =>
      unfold Srt at hl hm
      rw [List.pairwise_cons] at hl hm
      have e : x = y := by
        rcases List.mem_cons.1 ((h x).1 (by simp)) with e | hx
        · exact e
        · rcases List.mem_cons.1 ((h y).2 (by simp)) with e | hy
          · exact e.symm
          · have h1 := hl.1 y hy
            have h2 := hm.1 x hx
            rw [aheadB_asymm h1] at h2
            cases h2
      subst e
      rw [ih hl.2 hm.2]
      intro a
      constructor
      · intro ha
        rcases List.mem_cons.1 ((h a).1 (List.mem_cons_of_mem _ ha)) with rfl | h'
        · have := hl.1 a ha; rw [aheadB_irr] at this; cases this
        · exact h'
      · intro ha
        rcases List.mem_cons.1 ((h a).2 (List.mem_cons_of_mem _ ha)) with rfl | h'
        · have := hm.1 a ha; rw [aheadB_irr] at this; cases this
        · exact h'

/-- What sorting comes to. -/
def SortIs (xs zs : List Arc) : Prop := ∃ ys : List Arc, ys.Perm xs ∧ SrtOn aD ltW 0 xs.length ys ∧ zs = comp ys

/-! ### One more, put where it goes -/
theorem IsNorm.nil : IsNorm [] [] := ⟨.nil, fun z h => (by cases h), fun x h => (by cases h)⟩

theorem Srt.at {l : List Arc} (h : Srt l) {i j : Nat} (hij : i < j) (hj : j < l.length) : aheadB (l.getD i aD) (l.getD j aD) = true := by
  have := (List.pairwise_iff_getElem.1 h) i j (by omega) hj hij
  simpa [List.getD, hj, show i < l.length by omega] using this

theorem mem_getD {l : List Arc} {z : Arc} (h : z ∈ l) : ∃ i, i < l.length ∧ l.getD i aD = z := by
  obtain ⟨i, hi, e⟩ := List.getElem_of_mem h
  exact ⟨i, hi, by simp [List.getD, hi, e]⟩

/-- It is new. -/
theorem IsNorm.put {xs out : List Arc} {x : Arc} {at_ : Nat} (h : IsNorm xs out) (h2 : at_ ≤ out.length) (hb : ∀ j, at_ ≤ j → j < out.length → aheadB x (out.getD j aD) = true) (ha : at_ = 0 ∨ aheadB (out.getD (at_ - 1) aD) x = true) :
    IsNorm (xs ++ [x]) (out.take at_ ++ [x] ++ out.drop at_) := by
  have hlow : ∀ z ∈ out.take at_, aheadB z x = true := by
    intro z hz
    obtain ⟨i, hi, e⟩ := mem_getD hz
    rw [List.length_take] at hi
    have e2 : (out.take at_).getD i aD = out.getD i aD := by
      have : i < at_ := by omega
      simp [List.getD, this]
    rw [e2] at e
    rcases ha with ha | ha
    · omega
    · by_cases c : i = at_ - 1
      · rw [← e, c]; exact ha
      · rw [← e]; exact aheadB_trans (h.srt.at (by omega) (by omega)) ha
  have hup : ∀ z ∈ out.drop at_, aheadB x z = true := by
    intro z hz
    obtain ⟨i, hi, e⟩ := mem_getD hz
    rw [List.length_drop] at hi
    have e2 : (out.drop at_).getD i aD = out.getD (at_ + i) aD := by simp [List.getD]
    rw [e2] at e
    rw [← e]
    exact hb _ (by omega) (by omega)
  have hsp : Srt (out.take at_ ++ out.drop at_) := by rw [List.take_append_drop]; exact h.srt
  unfold Srt at hsp
  rw [List.pairwise_append] at hsp
  refine ⟨?_, ?_, ?_⟩
  · unfold Srt
    rw [List.append_assoc, List.pairwise_append]
    refine ⟨hsp.1, ?_, ?_⟩
    · exact List.pairwise_cons.2 ⟨fun z hz => hup z (by simpa using hz), hsp.2.1⟩
    · intro a ha' b hb'
      rcases List.mem_append.1 hb' with hb' | hb'
      · rw [List.mem_singleton] at hb'
        rw [hb']; exact hlow a ha'
      · exact hsp.2.2 a ha' b hb'
  · intro z hz
    rcases List.mem_append.1 hz with hz | hz
    · rcases List.mem_append.1 hz with hz | hz
      · exact List.mem_append_left _ (h.sub z (List.mem_of_mem_take hz))
      · exact List.mem_append_right _ hz
    · exact List.mem_append_left _ (h.sub z (List.mem_of_mem_drop hz))
  · intro u hu
    rcases List.mem_append.1 hu with hu | hu
    · obtain ⟨z, hz, hzk⟩ := h.cov u hu
      refine ⟨z, ?_, hzk⟩
      rw [← List.take_append_drop at_ out] at hz
      rcases List.mem_append.1 hz with hz | hz
      · exact List.mem_append_left _ (List.mem_append_left _ hz)
      · exact List.mem_append_right _ hz
    · rw [List.mem_singleton] at hu
      subst hu
      exact ⟨u, List.mem_append_left _ (List.mem_append_right _ (by simp)), Key.refl u, Int.le_refl _⟩

end Go.Fw

/-
  Turned: labels swapped, or the one for the other; twice swapped it is as it was.
-/
namespace Go.Fw
open Go

def invA (a : Arc) : Arc := ⟨a.f, a.o, a.i, a.t, a.w⟩
def prjA (side : Int) (a : Arc) : Arc := if side = 1 then ⟨a.f, a.i, a.i, a.t, a.w⟩ else ⟨a.f, a.o, a.o, a.t, a.w⟩
/-- Turned as R's TurnedOf does. -/
def turnA (side : Int) (a : Arc) : Arc := if side = 0 then invA a else if side = 1 then ⟨a.f, a.i, a.i, a.t, a.w⟩ else if side = 2 then ⟨a.f, a.o, a.o, a.t, a.w⟩ else a

theorem Srt.nodup {l : List Arc} (h : Srt l) : l.Nodup := by
  unfold Srt at h
  exact h.imp fun {a b} hab e => by rw [e, aheadB_irr] at hab; cases hab

theorem nodup_len {α : Type} [DecidableEq α] : ∀ (l m : List α), l.Nodup → (∀ a ∈ l, a ∈ m) → l.length ≤ m.length
  | [], m, _, _ => Nat.zero_le _
  | a :: l, m, hn, h => by
    rw [List.nodup_cons] at hn
    have ha := h a (by simp)
    have := nodup_len l (m.erase a) hn.2 (fun b hb => (List.mem_erase_of_ne (by rintro rfl; exact hn.1 hb)).2 (h b (List.mem_cons_of_mem _ hb)))
    rw [List.length_erase_of_mem ha] at this
    have : 0 < m.length := List.length_pos_of_mem ha
    simp only [List.length_cons]
    omega

theorem IsNorm.len {xs zs : List Arc} (h : IsNorm xs zs) : zs.length ≤ xs.length := nodup_len zs xs h.srt.nodup h.sub

end Go.Fw

/-
  Joined: either of two, one behind the other, again and again: the ways of what is joined.
-/
namespace Go.Fw
open Go

def shA (k : Int) (a : Arc) : Arc := ⟨a.f + k, a.i, a.o, a.t + k, a.w⟩
def silA (f t w : Int) : Arc := ⟨f, 0, 0, t, w⟩
/-- Silent arcs from the ends to a state. -/
def endsL (far to : Int) (fin : List Int) : Nat → List Arc
  | 0 => []
  | k + 1 => endsL far to fin k ++ (if fin.getD k 0 = -1 then [] else [silA (far + k) to (fin.getD k 0)])

/-- Normal: the ways are the same, but for what weighs more. -/
theorem IsNorm.way {xs zs : List Arc} (h : IsNorm xs zs) {s t : Int} {u v : List Int} {c : Int} (hw : Way xs s u v t c) : ∃ d, d ≤ c ∧ Way zs s u v t d := by
  induction hw with
  | nil s => exact ⟨0, Int.le_refl _, .nil s⟩
  | @cons a u v t c ha h2 ih =>
    obtain ⟨d, hd, hw⟩ := ih
    obtain ⟨z, hz, ⟨k1, k2, k3, k4⟩, hwz⟩ := h.cov a ha
    refine ⟨z.w + d, by omega, ?_⟩
    rw [← k1, ← k2, ← k3]
    rw [← k4] at hw
    exact .cons hz hw

/-- Costs of words over raw arcs. -/
def WtL (L : List Arc) (start : Int) (fin : List Int) (u v : List Int) (c : Int) : Prop := ∃ t d, Way L start u v t d ∧ fin.getD t.toNat 0 ≠ -1 ∧ c = d + fin.getD t.toNat 0

theorem IsNorm.min {xs : List Arc} {X : TF} (h : IsNorm xs X.arcs) {u v : List Int} {n : Int} (hn : MinOf (Wt X u v) n) : MinOf (WtL xs X.start X.fin u v) n := by
  have hup : ∀ c, WtL xs X.start X.fin u v c → ∃ d, d ≤ c ∧ Wt X u v d := by
    rintro c ⟨t, d, h1, h2, rfl⟩
    obtain ⟨e, he, hw⟩ := h.way h1
    exact ⟨e + X.fin.getD t.toNat 0, by omega, t, e, hw, h2, rfl⟩
  have hdn : ∀ c, Wt X u v c → WtL xs X.start X.fin u v c := by
    rintro c ⟨t, d, h1, h2, rfl⟩
    exact ⟨t, d, h1.mono h.sub, h2, rfl⟩
  rcases hn with ⟨rfl, h1⟩ | ⟨h0, h1, h2⟩
  · refine .inl ⟨rfl, fun c hc => ?_⟩
    obtain ⟨d, _, hd⟩ := hup c hc
    exact h1 d hd
  · refine .inr ⟨h0, hdn n h1, fun c hc => ?_⟩
    obtain ⟨d, hd, hw⟩ := hup c hc
    have := h2 d hw
    omega

theorem MinOf.cong {P Q : Int → Prop} {n : Int} (h : MinOf P n) (hpq : ∀ c, P c ↔ Q c) : MinOf Q n := by
  rcases h with ⟨rfl, h1⟩ | ⟨h0, h1, h2⟩
  · exact .inl ⟨rfl, fun c hc => h1 c ((hpq c).2 hc)⟩
  · exact .inr ⟨h0, (hpq n).1 h1, fun c hc => h2 c ((hpq c).2 hc)⟩

/-- One and then the other. -/
theorem MinOf.add {P Q : Int → Prop} {m n : Int} (hm : MinOf P m) (hn : MinOf Q n) : MinOf (fun c => ∃ a b, P a ∧ Q b ∧ c = a + b) (plus m n) := by
  unfold plus
  rcases hm with ⟨rfl, h1⟩ | ⟨h0, h1, h2⟩
  · rw [if_pos (.inl (by omega))]
    exact .inl ⟨rfl, fun c ⟨a, b, ha, _⟩ => h1 a ha⟩
  · rcases hn with ⟨rfl, g1⟩ | ⟨g0, g1, g2⟩
    · rw [if_pos (.inr (by omega))]
      exact .inl ⟨rfl, fun c ⟨a, b, _, hb, _⟩ => g1 b hb⟩
    · rw [if_neg (by omega)]
      refine .inr ⟨by omega, ⟨m, n, h1, g1, rfl⟩, ?_⟩
      rintro c ⟨a, b, ha, hb, rfl⟩
      have := h2 a ha
      have := g2 b hb
      omega

/-! ### Either -/
def eitherL (F G : TF) : List Arc := F.arcs.map (shA 1) ++ [silA 0 (1 + F.start) 0] ++ G.arcs.map (shA (1 + F.st)) ++ [silA 0 (1 + F.st + G.start) 0]

end Go.Fw

/-
  One behind the other, again and again: the ways of what is joined.
-/
namespace Go.Fw
open Go

def behindL (F G : TF) : List Arc := F.arcs.map (shA 1) ++ G.arcs.map (shA (1 + F.st)) ++ [silA 0 (1 + F.start) 0] ++ endsL 1 (1 + F.st + G.start) F.fin F.fin.length
def againL (F : TF) : List Arc := F.arcs.map (shA 1) ++ [silA 0 (1 + F.start) 0] ++ endsL 1 0 F.fin F.fin.length

/-- Two words cut in two: the first part by the one, the rest by the other. -/
def Cut2 (P Q : List Int → List Int → Int → Prop) (u v : List Int) (c : Int) : Prop := ∃ u1 u2 v1 v2 c1 c2, u = u1 ++ u2 ∧ v = v1 ++ v2 ∧ P u1 v1 c1 ∧ Q u2 v2 c2 ∧ c = c1 + c2

/-! ### Again -/
inductive Star (P : List Int → List Int → Int → Prop) : List Int → List Int → Int → Prop
  | nil : Star P [] [] 0
  | cons {u1 v1 u2 v2 : List Int} {c1 c2 : Int} (h1 : P u1 v1 c1) (h2 : Star P u2 v2 c2) : Star P (u1 ++ u2) (v1 ++ v2) (c1 + c2)

end Go.Fw

/-
  What is joined is a transducer again.
-/
namespace Go.Fw
open Go

/-! ### One arc -/
end Go.Fw

/-
  The best of all ways to cut two words; the best of any number of pieces.
-/
namespace Go.Fw
open Go

theorem MinOf.none : MinOf (fun _ => False) (-1) := .inl ⟨rfl, fun _ h => h⟩

/-! ### Cuts, one after the other -/
section
variable (P Q : List Int → List Int → Int → Prop) (u v : List Int)

def LexP (i o : Nat) (c : Int) : Prop := ∃ i' o' a b, (i' < i ∧ o' ≤ v.length ∨ i' = i ∧ o' < o) ∧ P (u.take i') (v.take o') a ∧ Q (u.drop i') (v.drop o') b ∧ c = a + b

variable {P Q u v}

end

/-! ### Any number of pieces -/
inductive StarR (P : List Int → List Int → Int → Prop) : List Int → List Int → Int → Prop
  | nil : StarR P [] [] 0
  | snoc {u1 v1 u2 v2 : List Int} {c1 c2 : Int} (h1 : StarR P u1 v1 c1) (h2 : P u2 v2 c2) : StarR P (u1 ++ u2) (v1 ++ v2) (c1 + c2)

theorem StarR.app {P : List Int → List Int → Int → Prop} {u v u' v' : List Int} {c d : Int} (h : StarR P u v c) (h' : Star P u' v' d) : StarR P (u ++ u') (v ++ v') (c + d) := by
  induction h' generalizing u v c with
  | nil => simpa using h
  | @cons u1 v1 u2 v2 c1 c2 h1 h2 ih =>
    have := ih (h.snoc h1)
    rw [← List.append_assoc, ← List.append_assoc, ← Int.add_assoc]
    exact this

theorem Star.app {P : List Int → List Int → Int → Prop} {u v u' v' : List Int} {c d : Int} (h : Star P u v c) (h' : P u' v' d) : Star P (u ++ u') (v ++ v') (c + d) := by
  induction h with
  | nil => simpa using Star.cons h' .nil
  | @cons u1 v1 u2 v2 c1 c2 h1 h2 ih =>
    rw [List.append_assoc, List.append_assoc, Int.add_assoc]
    exact .cons h1 ih

theorem StarR.pos {P : List Int → List Int → Int → Prop} (hP : ∀ u v c, P u v c → 0 ≤ c) {u v : List Int} {c : Int} (h : StarR P u v c) : 0 ≤ c := by
  induction h with
  | nil => exact Int.le_refl _
  | snoc h1 h2 ih => have := hP _ _ _ h2; omega

/-- The part of a word from a place to a place. -/
def seg (u : List Int) (a b : Nat) : List Int := (u.drop a).take (b - a)

theorem take_seg {u : List Int} {a b : Nat} (h : a ≤ b) : u.take a ++ seg u a b = u.take b := by
  unfold seg
  rw [← List.take_append_drop a (u.take b), List.take_take, Nat.min_eq_left h, List.drop_take]

/-- The table, the cells before a place done. -/
structure AgT (P : List Int → List Int → Int → Prop) (u v : List Int) (B : Int) (i o : Nat) (T : Nat → Nat → Int) : Prop where
  low : ∀ a b, a ≤ u.length → b ≤ v.length → -1 ≤ T a b ∧ T a b ≤ (a + b : Nat) * B
  snd : ∀ a b, a ≤ u.length → b ≤ v.length → 0 ≤ T a b → StarR P (u.take a) (v.take b) (T a b)
  org : T 0 0 = 0
  cpl : ∀ a b a' b' c1 c2, (a' < i ∧ b' ≤ v.length ∨ a' = i ∧ b' < o) → a' ≤ a → b' ≤ b → a ≤ u.length → b ≤ v.length → StarR P (u.take a') (v.take b') c1 → P (seg u a' a) (seg v b' b) c2 → 0 ≤ T a b ∧ T a b ≤ c1 + c2

section
variable {P : List Int → List Int → Int → Prop} {u v : List Int} {B : Int} {i o : Nat} {T : Nat → Nat → Int}

/-- What stands in a cell whose forerunners are done is the best. -/
theorem AgT.fin (h : AgT P u v B i o T) (hP : ∀ u v c, P u v c → 0 ≤ c) (hi : i ≤ u.length) (ho : o ≤ v.length) : MinOf (StarR P (u.take i) (v.take o)) (T i o) := by
  have key : ∀ x y c, StarR P x y c → x = u.take i → y = v.take o → 0 ≤ T i o ∧ T i o ≤ c := by
    intro x y c hs
    induction hs with
    | nil =>
      intro hx hy
      have h1 : i = 0 := by
        have := congrArg List.length hx
        rw [List.length_take] at this
        simp only [List.length_nil] at this
        omega
      have h2 : o = 0 := by
        have := congrArg List.length hy
        rw [List.length_take] at this
        simp only [List.length_nil] at this
        omega
      subst h1 h2
      rw [h.org]
      omega
    | @snoc u1 v1 u2 v2 c1 c2 h1 h2 ih =>
      intro hx hy
      have l1 : u1.length + u2.length = i := by
        have := congrArg List.length hx
        rw [List.length_take, List.length_append] at this
        omega
      have l2 : v1.length + v2.length = o := by
        have := congrArg List.length hy
        rw [List.length_take, List.length_append] at this
        omega
      have e1 : u1 = u.take u1.length := by
        have := congrArg (List.take u1.length) hx
        rw [List.take_left, List.take_take, Nat.min_eq_left (by omega)] at this
        exact this
      have e2 : v1 = v.take v1.length := by
        have := congrArg (List.take v1.length) hy
        rw [List.take_left, List.take_take, Nat.min_eq_left (by omega)] at this
        exact this
      have e3 : u2 = seg u u1.length i := by
        have := congrArg (List.drop u1.length) hx
        rw [List.drop_left, List.drop_take] at this
        exact this
      have e4 : v2 = seg v v1.length o := by
        have := congrArg (List.drop v1.length) hy
        rw [List.drop_left, List.drop_take] at this
        exact this
      have hc2 := hP _ _ _ h2
      by_cases q : u1.length = i ∧ v1.length = o
      · have g := ih (by rw [e1, q.1]) (by rw [e2, q.2])
        omega
      · rw [e1, e2] at h1
        rw [e3, e4] at h2
        exact h.cpl i o u1.length v1.length c1 c2 (by omega) (by omega) (by omega) hi ho h1 h2
  by_cases hn : 0 ≤ T i o
  · exact .inr ⟨hn, h.snd i o hi ho hn, fun c hc => (key _ _ c hc rfl rfl).2⟩
  · have := (h.low i o hi ho).1
    exact .inl ⟨by omega, fun c hc => hn (key _ _ c hc rfl rfl).1⟩

/-- A cell that none comes to is done with. -/
theorem AgT.skip (h : AgT P u v B i o T) (hP : ∀ u v c, P u v c → 0 ≤ c) (hi : i ≤ u.length) (ho : o ≤ v.length) (hn : T i o < 0) : AgT P u v B i (o + 1) T := by
  refine ⟨h.low, h.snd, h.org, fun a b a' b' c1 c2 hl h1 h2 h3 h4 h5 h6 => ?_⟩
  by_cases q : a' = i ∧ b' = o
  · obtain ⟨rfl, rfl⟩ := q
    rcases h.fin hP hi ho with ⟨_, g⟩ | ⟨g, _⟩
    · exact absurd h5 (g c1)
    · omega
  · exact h.cpl a b a' b' c1 c2 (by omega) h1 h2 h3 h4 h5 h6

theorem AgT.row (h : AgT P u v B i (v.length + 1) T) : AgT P u v B (i + 1) 0 T :=
  ⟨h.low, h.snd, h.org, fun a b a' b' c1 c2 hl h1 h2 h3 h4 h5 h6 => h.cpl a b a' b' c1 c2 (by omega) h1 h2 h3 h4 h5 h6⟩

/-- A cell on its way: the cells behind it, up to a place, are told. -/
structure AgW (P : List Int → List Int → Int → Prop) (u v : List Int) (B : Int) (i o x y : Nat) (t : Int) (T : Nat → Nat → Int) : Prop where
  tab : AgT P u v B i o T
  at_ : T i o = t
  don : ∀ x' y' c1 c2, (x' < x ∧ o + y' ≤ v.length ∨ x' = x ∧ y' < y) → i + x' ≤ u.length → o + y' ≤ v.length → StarR P (u.take i) (v.take o) c1 → P (seg u i (i + x')) (seg v o (o + y')) c2 → 0 ≤ T (i + x') (o + y') ∧ T (i + x') (o + y') ≤ c1 + c2

def up2 (T : Nat → Nat → Int) (a b : Nat) (n : Int) : Nat → Nat → Int := fun x y => if x = a ∧ y = b then n else T x y

theorem AgT.start (h : AgT P u v B i o T) : AgW P u v B i o 0 0 (T i o) T := ⟨h, rfl, fun x' y' c1 c2 h => by omega⟩

theorem AgW.done {t : Int} (h : AgW P u v B i o (u.length - i + 1) 0 t T) : AgT P u v B i (o + 1) T := by
  refine ⟨h.tab.low, h.tab.snd, h.tab.org, fun a b a' b' c1 c2 hl h1 h2 h3 h4 h5 h6 => ?_⟩
  by_cases q : a' = i ∧ b' = o
  · obtain ⟨rfl, rfl⟩ := q
    have e1 : a' + (a - a') = a := by omega
    have e2 : b' + (b - b') = b := by omega
    have := h.don (a - a') (b - b') c1 c2 (.inl ⟨by omega, by omega⟩) (by omega) (by omega) h5 (by rw [e1, e2]; exact h6)
    rw [e1, e2] at this
    exact this
  · exact h.tab.cpl a b a' b' c1 c2 (by omega) h1 h2 h3 h4 h5 h6

/-- One more is told. -/
theorem AgW.step {x y : Nat} {t p : Int} (h : AgW P u v B i o x y t T) (hP : ∀ u v c, P u v c → 0 ≤ c) (hB : 0 ≤ B) (ht : 0 ≤ t) (hx : i + x ≤ u.length) (hy : o + y ≤ v.length)
    (hp : MinOf (P (seg u i (i + x)) (seg v o (o + y))) p) (hpB : p ≤ B) (h00 : x = 0 → y = 0 → True) : AgW P u v B i o x (y + 1) t (up2 T (i + x) (o + y) (less (T (i + x) (o + y)) (plus t p))) := by
  have hi : i ≤ u.length := by omega
  have ho : o ≤ v.length := by omega
  have hpl := hp.low
  have hfin := h.tab.fin hP hi ho
  rw [h.at_] at hfin
  obtain ⟨hts, htl⟩ : StarR P (u.take i) (v.take o) t ∧ ∀ c, StarR P (u.take i) (v.take o) c → t ≤ c := by
    rcases hfin with ⟨g, _⟩ | ⟨_, g1, g2⟩
    · omega
    · exact ⟨g1, g2⟩
  have hTl := h.tab.low (i + x) (o + y) hx hy
  have hti := h.tab.low i o hi ho
  rw [h.at_] at hti
  -- the new value
  have hpv : (p < 0 ∧ plus t p = -1) ∨ (0 ≤ p ∧ plus t p = t + p) := by
    unfold plus
    by_cases q : p < 0
    · exact .inl ⟨q, if_pos (.inr q)⟩
    · exact .inr ⟨by omega, if_neg (by omega)⟩
  have hnew : less (T (i + x) (o + y)) (plus t p) = T (i + x) (o + y) ∨ (less (T (i + x) (o + y)) (plus t p) = t + p ∧ 0 ≤ p) := by
    rcases hpv with ⟨q, e⟩ | ⟨q, e⟩ <;> rw [e] <;> unfold less <;> (repeat' split) <;> omega
  have hle : (0 ≤ T (i + x) (o + y) → 0 ≤ less (T (i + x) (o + y)) (plus t p) ∧ less (T (i + x) (o + y)) (plus t p) ≤ T (i + x) (o + y)) ∧ (0 ≤ p → 0 ≤ less (T (i + x) (o + y)) (plus t p) ∧ less (T (i + x) (o + y)) (plus t p) ≤ t + p) := by
    rcases hpv with ⟨q, e⟩ | ⟨q, e⟩ <;> rw [e] <;> unfold less <;> (repeat' split) <;> omega
  have hat : ∀ a b, up2 T (i + x) (o + y) (less (T (i + x) (o + y)) (plus t p)) a b = if a = i + x ∧ b = o + y then less (T (i + x) (o + y)) (plus t p) else T a b := fun a b => rfl
  have hself : x = 0 → y = 0 → less (T (i + x) (o + y)) (plus t p) = t := by
    rintro rfl rfl
    rw [Nat.add_zero, Nat.add_zero, h.at_]
    rcases hpv with ⟨q, e⟩ | ⟨q, e⟩ <;> rw [e] <;> unfold less <;> (repeat' split) <;> omega
  generalize hn : less (T (i + x) (o + y)) (plus t p) = n at *
  refine ⟨⟨fun a b h1 h2 => ?_, fun a b h1 h2 h3 => ?_, ?_, fun a b a' b' c1 c2 hl h1 h2 h3 h4 h5 h6 => ?_⟩, ?_, fun x' y' c1 c2 hl h1 h2 h3 h4 => ?_⟩
  · rw [hat]
    split
    · rename_i e
      rw [e.1, e.2]
      rcases hnew with g | ⟨g, g0⟩
      · rw [g]; exact hTl
      · rw [g]
        refine ⟨by omega, ?_⟩
        by_cases q : x = 0 ∧ y = 0
        · have := hself q.1 q.2
          rw [q.1, q.2]
          simp only [Nat.add_zero]
          omega
        · have e1 : ((i + o : Nat) : Int) * B + B ≤ ((i + x + (o + y) : Nat) : Int) * B := by
            have : ((i + o : Nat) : Int) * B + B = ((i + o : Nat) + 1 : Int) * B := by rw [Int.add_mul, Int.one_mul]
            rw [this]
            exact Int.mul_le_mul_of_nonneg_right (by omega) hB
          omega
    · exact h.tab.low a b h1 h2
  · rw [hat] at h3 ⊢
    split at h3
    · rename_i e
      rw [if_pos e, e.1, e.2]
      rcases hnew with g | ⟨g, g0⟩
      · rw [g] at h3 ⊢; exact h.tab.snd _ _ hx hy h3
      · rw [g]
        have hpp : P (seg u i (i + x)) (seg v o (o + y)) p := hp.is (by omega)
        have := hts.snoc hpp
        rw [take_seg (by omega), take_seg (by omega)] at this
        exact this
    · rename_i e
      rw [if_neg e]
      exact h.tab.snd a b h1 h2 h3
  · rw [hat]
    split
    · rename_i e
      have e1 : x = 0 := by omega
      have e2 : y = 0 := by omega
      have e3 : i = 0 := by omega
      have e4 : o = 0 := by omega
      rw [hself e1 e2, ← h.at_, e3, e4]
      exact h.tab.org
    · exact h.tab.org
  · have g := h.tab.cpl a b a' b' c1 c2 hl h1 h2 h3 h4 h5 h6
    rw [hat]
    split
    · rename_i e
      rw [e.1, e.2] at g
      have := hle.1 g.1
      omega
    · exact g
  · rw [hat]
    split
    · rename_i e
      exact hself (by omega) (by omega)
    · exact h.at_
  · rw [hat]
    split
    · rename_i e
      have e1 : x' = x := by omega
      have e2 : y' = y := by omega
      subst e1 e2
      have g := hp.le h4
      have := hle.2 (by omega)
      have := htl c1 h3
      omega
    · rename_i e
      exact h.don x' y' c1 c2 (by omega) h1 h2 h3 h4
end
end Go.Fw

namespace Go.Fw
open Go Go.Proofs

abbrev onF (F : TF) : List SC := [.i F.st, .i F.start, .sl 0 1 0 F.fin.length F.capF, .sl 1 5 0 F.arcs.length F.capA]

/-- Rows in a pool, none on another. -/
structure Tab2 (m : List (Addr × List Int × Nat)) (rows : List Sli) (N : Nat) (L : Nat → List Int) : Prop where
  len : rows.length = N
  hd : ∀ j, j < N → Hd m (rows.getD j EK.sli.dflt)
  row : ∀ j, j < N → rowA m (rows.getD j EK.sli.dflt).a = L j
  dist : ∀ s t b, s < N → t < N → s ≠ t → (rows.getD s EK.sli.dflt).a = some b → (rows.getD t EK.sli.dflt).a ≠ some b

section
variable {m m' : List (Addr × List Int × Nat)} {rows : List Sli} {N : Nat} {L : Nat → List Int}

theorem keepHd {x : Sli} (h : Hd m x) (hk : ∀ b, x.a = some b → lkA m' b = lkA m b) : Hd m' x ∧ rowA m' x.a = rowA m x.a := by
  cases hx : x.a with
  | none =>
    refine ⟨?_, rfl⟩
    unfold Hd at h ⊢
    rw [hx] at h ⊢
    exact h
  | some b =>
    obtain ⟨y, h1, h2, h3⟩ := h.some hx
    have e := hk b hx
    exact ⟨Hd.of_some hx (by rw [e]; exact h1) h2 h3, rowA_congr e⟩

theorem Tab2.keep (h : Tab2 m rows N L) (hk : ∀ j b, j < N → (rows.getD j EK.sli.dflt).a = some b → lkA m' b = lkA m b) : Tab2 m' rows N L :=
  ⟨h.len, fun j hj => (keepHd (h.hd j hj) fun b hb => hk j b hj hb).1, fun j hj => by rw [(keepHd (h.hd j hj) fun b hb => hk j b hj hb).2]; exact h.row j hj, h.dist⟩

theorem Tab2.app (h : Tab2 m rows N L) {j : Nat} {n : Int} {h' : Sli} (hj : j < N) (ha : App m (rows.getD j EK.sli.dflt) [n] m' h') :
    Tab2 m' (rows.set j h') N (fun i => if i = j then L j ++ [n] else L i) := by
  have hl := h.len
  have hjr : j < rows.length := by omega
  generalize hx : rows.getD j EK.sli.dflt = x at ha
  have hdj := h.hd j hj
  have hrj := h.row j hj
  rw [hx] at hdj hrj
  cases ha with
  | stay h => cases h
  | @room a y sp h1 h2 h3 =>
    obtain ⟨y', g1, g2, g3⟩ := hdj.some h1
    rw [h2] at g1
    cases g1
    have hla : lkA (setA m a (y.1 ++ [n], sp)) a = some (y.1 ++ [n], sp) := by rw [lkA_setA, h2]; simp
    have hlb : ∀ b, b ≠ a → lkA (setA m a (y.1 ++ [n], sp)) b = lkA m b := by
      intro b hb
      rw [lkA_setA]
      simp only [hb, if_false]
      cases lkA m b <;> rfl
    have hoth : ∀ s, s < N → s ≠ j → ∀ b, (rows.getD s EK.sli.dflt).a = some b → b ≠ a := by
      intro s hs hsj b hb e
      subst e
      exact h.dist s j b hs hj hsj hb (by rw [hx]; exact h1)
    refine ⟨by rw [List.length_set]; exact hl, ?_, ?_, ?_⟩
    · intro s hs
      rw [getD_setJ _ _ _ _ _ hjr]
      by_cases e : s = j
      · rw [if_pos e]
        refine Hd.of_some rfl hla ?_ ?_
        · simp [g2]
        · simp only [List.length_append, List.length_cons, List.length_nil]
          simp only [List.length_cons, List.length_nil] at h3
          omega
      · rw [if_neg e]
        exact (keepHd (h.hd s hs) fun b hb => hlb b (hoth s hs e b hb)).1
    · intro s hs
      rw [getD_setJ _ _ _ _ _ hjr]
      by_cases e : s = j
      · rw [if_pos e, if_pos e, ← hrj, rowA_some hla, h1, rowA_some h2]
      · rw [if_neg e, if_neg e, ← h.row s hs]
        exact (keepHd (h.hd s hs) fun b hb => hlb b (hoth s hs e b hb)).2
    · intro s t b hs ht hst hb hc
      rw [getD_setJ _ _ _ _ _ hjr] at hb hc
      by_cases es : s = j
      · rw [if_pos es] at hb
        rw [if_neg (fun e => hst (es.trans e.symm))] at hc
        simp only [Option.some.injEq] at hb
        subst hb
        exact hoth t ht (fun e => hst (es.trans e.symm)) _ hc rfl
      · rw [if_neg es] at hb
        by_cases et : t = j
        · rw [if_pos et] at hc
          simp only [Option.some.injEq] at hc
          subst hc
          exact hoth s hs es _ hb rfl
        · rw [if_neg et] at hc
          exact h.dist s t b hs ht hst hb hc
  | @fresh a sp h1 h2 =>
    have hlb : ∀ b, b ≠ a → lkA ((a, rowA m x.a ++ [n], sp) :: m) b = lkA m b := fun b hb => by simp only [lkA, if_neg (Ne.symm hb)]
    have hla : lkA ((a, rowA m x.a ++ [n], sp) :: m) a = some (rowA m x.a ++ [n], sp) := by simp [lkA]
    have hoth : ∀ s, s < N → ∀ b, (rows.getD s EK.sli.dflt).a = some b → b ≠ a := by
      intro s hs b hb e
      subst e
      obtain ⟨z, k1, _⟩ := (h.hd s hs).some hb
      rw [h1] at k1
      cases k1
    refine ⟨by rw [List.length_set]; exact hl, ?_, ?_, ?_⟩
    · intro s hs
      rw [getD_setJ _ _ _ _ _ hjr]
      by_cases e : s = j
      · rw [if_pos e]
        refine Hd.of_some rfl hla ?_ ?_
        · simp [hdj.len]
        · simp [hdj.len]
      · rw [if_neg e]
        exact (keepHd (h.hd s hs) fun b hb => hlb b (hoth s hs b hb)).1
    · intro s hs
      rw [getD_setJ _ _ _ _ _ hjr]
      by_cases e : s = j
      · rw [if_pos e, if_pos e, ← hrj]
        exact rowA_some hla
      · rw [if_neg e, if_neg e, ← h.row s hs]
        exact (keepHd (h.hd s hs) fun b hb => hlb b (hoth s hs b hb)).2
    · intro s t b hs ht hst hb hc
      rw [getD_setJ _ _ _ _ _ hjr] at hb hc
      by_cases es : s = j
      · rw [if_pos es] at hb
        rw [if_neg (fun e => hst (es.trans e.symm))] at hc
        simp only [Option.some.injEq] at hb
        exact hoth t ht b hc hb.symm
      · rw [if_neg es] at hb
        by_cases et : t = j
        · rw [if_pos et] at hc
          simp only [Option.some.injEq] at hc
          exact hoth s hs b hb hc.symm
        · rw [if_neg et] at hc
          exact h.dist s t b hs ht hst hb hc

/-- A cell is set. -/
theorem Tab2.put (h : Tab2 m rows N L) {j k : Nat} {n : Int} (hj : j < N) (hk : k < (L j).length) :
    Tab2 (putA m (rows.getD j EK.sli.dflt).a k n) rows N (fun i => if i = j then (L j).set k n else L i) ∧
    ∀ b, (rows.getD j EK.sli.dflt).a ≠ some b → lkA (putA m (rows.getD j EK.sli.dflt).a k n) b = lkA m b := by
  have hrj := h.row j hj
  have hdj := h.hd j hj
  cases hx : (rows.getD j EK.sli.dflt).a with
  | none =>
    rw [hx] at hrj
    rw [← hrj] at hk
    exact absurd hk (by simp [rowA])
  | some a =>
    obtain ⟨y, g1, g2, g3⟩ := hdj.some hx
    have hy : y.1 = L j := by rw [← hrj, hx, rowA_some g1]
    have e : putA m (some a) k n = setA m a (y.1.set k n, y.2) := by unfold putA; simp [g1]
    rw [e]
    have hla : lkA (setA m a (y.1.set k n, y.2)) a = some (y.1.set k n, y.2) := by rw [lkA_setA, g1]; simp
    have hlb : ∀ b, b ≠ a → lkA (setA m a (y.1.set k n, y.2)) b = lkA m b := by
      intro b hb
      rw [lkA_setA]
      simp only [hb, if_false]
      cases lkA m b <;> rfl
    have hoth : ∀ s, s < N → s ≠ j → ∀ b, (rows.getD s EK.sli.dflt).a = some b → b ≠ a := by
      intro s hs hsj b hb e
      subst e
      exact h.dist s j b hs hj hsj hb hx
    refine ⟨⟨h.len, fun s hs => ?_, fun s hs => ?_, h.dist⟩, fun b hb => hlb b fun e => hb (by rw [e])⟩
    · by_cases e : s = j
      · subst e
        refine Hd.of_some hx hla ?_ ?_
        · show _ = (y.1.set k n).length
          rw [List.length_set]; exact g2
        · show _ ≤ (y.1.set k n).length + y.2
          rw [List.length_set]; exact g3
      · exact (keepHd (h.hd s hs) fun b hb => hlb b (hoth s hs e b hb)).1
    · by_cases e : s = j
      · subst e
        rw [if_pos rfl, hx, rowA_some hla, hy]
      · rw [if_neg e, ← h.row s hs]
        exact (keepHd (h.hd s hs) fun b hb => hlb b (hoth s hs e b hb)).2

theorem Tab2.cong (h : Tab2 m rows N L) {L' : Nat → List Int} (hL : ∀ j, j < N → L j = L' j) : Tab2 m rows N L' := ⟨h.len, h.hd, fun j hj => (h.row j hj).trans (hL j hj), h.dist⟩
end

/-- A row of a table. -/
def rowT (T : Nat → Nat → Int) (n j : Nat) : List Int := (List.range n).map (T j)
theorem rowT_len (T : Nat → Nat → Int) (n j : Nat) : (rowT T n j).length = n := by simp [rowT]
theorem rowT_set (T : Nat → Nat → Int) (n j o : Nat) (x : Int) : (rowT T n j).set o x = rowT (up2 T j o x) n j := by
  apply List.ext_getElem
  · simp [rowT]
  · intro k h1 h2
    simp only [rowT, List.getElem_set, List.getElem_map, List.getElem_range, up2]
    by_cases e : o = k
    · subst e; simp
    · rw [if_neg e, if_neg (fun c => e c.2.symm)]
theorem rowT_other (T : Nat → Nat → Int) (n : Nat) {a j : Nat} (o : Nat) (x : Int) (h : j ≠ a) : rowT (up2 T a o x) n j = rowT T n j := by
  unfold rowT
  apply List.map_congr_left
  intro k _
  unfold up2
  rw [if_neg (fun c => h c.1)]

/-- The table of the best of all, in a pool. -/
theorem Tab2.upd {m : List (Addr × List Int × Nat)} {rows : List Sli} {N n : Nat} {T : Nat → Nat → Int} (h : Tab2 m rows N (rowT T n)) {j k : Nat} {x : Int} (hj : j < N) (hk : k < n) :
    Tab2 (putA m (rows.getD j EK.sli.dflt).a k x) rows N (rowT (up2 T j k x) n) ∧ ∀ b, (rows.getD j EK.sli.dflt).a ≠ some b → lkA (putA m (rows.getD j EK.sli.dflt).a k x) b = lkA m b := by
  obtain ⟨h1, h2⟩ := h.put (n := x) hj (by rw [rowT_len]; exact hk)
  refine ⟨h1.cong fun i hi => ?_, h2⟩
  by_cases e : i = j
  · subst e; rw [if_pos rfl, rowT_set]
  · rw [if_neg e, rowT_other T n k x e]
end Go.Fw
