/- Walks of the functions: what each computes. -/
import Derived.Test.YtdijmfdanbnppaaDoorP07
import Derived.Test.YtdijmfdanbnppaaDoorP05

set_option linter.unusedSimpArgs false
set_option linter.unusedVariables false

namespace Go.Fw
open Go Go.Proofs

def gV (F : TF) : SV := .a (.agg [.i F.st, .i F.start, .sl 2 1 0 F.fin.length F.capF, .sl 3 5 0 F.arcs.length F.capA])
abbrev hpG (F G : TF) : List (Nat × SO) := [(0, .arr false 3 .int F.fin 0), (1, .arr false 35 .arc F.arcs 0), (2, .arr false 3 .int G.fin 0), (3, .arr false 35 .arc G.arcs 0)]

set_option maxHeartbeats 4000000 in
set_option maxRecDepth 20000 in
theorem sameFst_c (F G : TF) (h1 : F.fin.length ≤ 9223372036854775807) (h2 : G.fin.length ≤ 9223372036854775807) (h3 : F.arcs.length ≤ 9223372036854775807) : Ct Tryd.prog 20 [fV F, gV G] [] (hpG F G) 4 (Is 4 (.b (sameF F G))) := by
  refine ctW Tryd.tyOk 6 [] Tryd.func20 rfl (by simp [gV]) (by simp) (fr := [(0, fV F), (1, gV G)]) rfl ?_
  repeat' (first | exact rfl | ((conv => whnf); first | refine condP_mk (fun h => ?_) (fun h => ?_) | refine Ob.mk ?_ ?_ | refine Both.mk ?_ ?_))
  · simp only [bne_iff_ne] at h
    refine Back.is ?_
    simp [sameF, h]
  · simp only [bne_iff_ne] at h
    refine Back.is ?_
    simp [sameF, h]
  rename_i e1
  simp only [bne_eq_false_iff_eq] at e1 h
  have e2 := h
  clear h
  (conv => whnf)
  refine callI (sameInts_c F.fin G.fin F.capF G.capF h1 h2) [0, 2] Tryd.call45 rfl (by simp) (by simp) (by simp) ?_
  repeat' (first | exact rfl | ((conv => whnf); first | refine condP_mk (fun h => ?_) (fun h => ?_) | refine Ob.mk ?_ ?_ | refine Both.mk ?_ ?_))
  · simp only [Bool.not_eq_true', decide_eq_false_iff_not] at h
    refine Back.is ?_
    simp [sameF, h]
  · simp only [bne_iff_ne] at h
    have : F.arcs ≠ G.arcs := fun e => h (by rw [e])
    refine Back.is ?_
    simp [sameF, this]
  rename_i e3
  simp only [Bool.not_eq_false', decide_eq_true_eq, bne_eq_false_iff_eq] at e3 h
  have e4 : F.arcs.length = G.arcs.length := by omega
  clear h
  (conv => whnf)
  refine loopI (fun k : Nat => ⟨[(2, .c (.ptr 4 0)), (3, .c (.ptr 5 0)), (4, .b false), (5, .i k)], [(1, .arr false 35 .arc F.arcs 0), (3, .arr false 35 .arc G.arcs 0), (4, .box 25 [.i F.st, .i F.start, .sl 0 1 0 F.fin.length F.capF, .sl 1 5 0 F.arcs.length F.capA]), (5, .box 25 [.i G.st, .i G.start, .sl 2 1 0 G.fin.length G.capF, .sl 3 5 0 G.arcs.length G.capA])], 6⟩) (fun k => k ≤ F.arcs.length ∧ ∀ j, j < k → F.arcs.getD j EK.arc.dflt = G.arcs.getD j EK.arc.dflt) (fun k => F.arcs.length - k) 0 [] ⟨by rfl, ?_, ?_⟩ (by simp) ?_
  · simp
  · simp
  · intro k ⟨hk1, hk2⟩
    repeat' (first | exact rfl | ((conv => whnf); first | refine condP_mk (fun h => ?_) (fun h => ?_) | refine Ob.mk ?_ ?_ | refine Both.mk ?_ ?_))
    refine dR ?_
    repeat' (first | exact rfl | ((conv => whnf); first | refine condP_mk (fun h => ?_) (fun h => ?_) | refine Ob.mk ?_ ?_ | refine Both.mk ?_ ?_))
    · simp only [decide_eq_true_eq] at h; omega
    · simp only [decide_eq_true_eq] at h; omega
    · simp only [decide_eq_true_eq] at h; omega
    · simp only [decide_eq_true_eq] at h; omega
    · rw [arcEq] at h
      simp only [Bool.not_eq_true', decide_eq_false_iff_not] at h
      have : F.arcs ≠ G.arcs := fun e => h (by rw [e])
      refine Back.is ?_
      simp [sameF, this]
    · rename_i hk
      simp only [decide_eq_true_eq] at hk
      unfold InI; omega
    · rename_i hk
      rw [arcEq] at h
      simp only [Bool.not_eq_false', decide_eq_true_eq, Nat.zero_add, Int.toNat_natCast] at h hk
      (conv => whnf)
      refine ⟨k + 1, [], ⟨by rfl, ?_, ?_⟩, ⟨by omega, fun j hj => ?_⟩, by omega⟩
      · simp
      · simp
      · exact if e : j = k then e ▸ h else hk2 j (by omega)
    · simp only [decide_eq_false_iff_not] at h
      have : F.arcs = G.arcs := sameTakeA _ _ e4 fun j hj => hk2 j (by omega)
      refine Back.is ?_
      simp [sameF, this, e1, e2, e3]
end Go.Fw

/-
  Sorting a range in place, in the plain: swaps, rotation, merging; whatever the elements, by an order.
-/
namespace Go.Fw
open Go

section
variable {α : Type} {d : α}

/-- ys came of xs by moves inside the places from a on, below b. -/
structure Mv (d : α) (a b : Nat) (xs ys : List α) : Prop where
  len : ys.length = xs.length
  perm : ys.Perm xs
  out : ∀ k, k < a ∨ b ≤ k → ys.getD k d = xs.getD k d
  ins : ∀ k, a ≤ k → k < b → ∃ k', a ≤ k' ∧ k' < b ∧ ys.getD k d = xs.getD k' d

theorem Mv.refl (a b : Nat) (xs : List α) : Mv d a b xs xs := ⟨rfl, .refl _, fun _ _ => rfl, fun k h1 h2 => ⟨k, h1, h2, rfl⟩⟩

theorem Mv.trans {a b : Nat} {xs ys zs : List α} (h : Mv d a b xs ys) (h' : Mv d a b ys zs) : Mv d a b xs zs where
  len := h'.len.trans h.len
  perm := h'.perm.trans h.perm
  out := fun k hk => (h'.out k hk).trans (h.out k hk)
  ins := fun k h1 h2 => by
    obtain ⟨k', g1, g2, g3⟩ := h'.ins k h1 h2
    obtain ⟨k'', f1, f2, f3⟩ := h.ins k' g1 g2
    exact ⟨k'', f1, f2, g3.trans f3⟩

theorem Mv.wide {a b a' b' : Nat} {xs ys : List α} (h : Mv d a b xs ys) (ha : a' ≤ a) (hb : b ≤ b') : Mv d a' b' xs ys where
  len := h.len
  perm := h.perm
  out := fun k hk => h.out k (by omega)
  ins := fun k h1 h2 => by
    by_cases hk : a ≤ k ∧ k < b
    · obtain ⟨k', g1, g2, g3⟩ := h.ins k hk.1 hk.2
      exact ⟨k', by omega, by omega, g3⟩
    · exact ⟨k, h1, h2, h.out k (by omega)⟩

/-- Two elements change places. -/
def swapL (d : α) (xs : List α) (i j : Nat) : List α := (xs.set i (xs.getD j d)).set j (xs.getD i d)

theorem getD_set' {β : Type} (c : List β) (i v : Nat) (x d : β) : (c.set i x).getD v d = if i = v ∧ v < c.length then x else c.getD v d := by
  by_cases h : i = v
  · subst h
    by_cases h2 : i < c.length
    · simp [List.getD, h2]
    · simp [List.getD, h2]
  · simp [List.getD, List.getElem?_set_ne h, h]

theorem swapL_getD {xs : List α} {i j : Nat} (hi : i < xs.length) (hj : j < xs.length) (k : Nat) : (swapL d xs i j).getD k d = if k = j then xs.getD i d else if k = i then xs.getD j d else xs.getD k d := by
  unfold swapL
  rw [getD_set', getD_set', List.length_set]
  by_cases h1 : k = j
  · subst h1
    rw [if_pos ⟨rfl, hj⟩, if_pos rfl]
  · rw [if_neg (fun c => h1 c.1.symm), if_neg h1]
    by_cases h2 : k = i
    · subst h2
      rw [if_pos ⟨rfl, hi⟩, if_pos rfl]
    · rw [if_neg (fun c => h2 c.1.symm), if_neg h2]

/-- An order: one stands ahead of another one. -/
structure LtOk (lt : α → α → Bool) : Prop where
  asym : ∀ x y, lt x y = true → lt y x = false
  trans : ∀ x y z, lt y x = false → lt z y = false → lt z x = false

variable {lt : α → α → Bool}

/-- In order, from a on, below b. -/
def SrtOn (d : α) (lt : α → α → Bool) (a b : Nat) (xs : List α) : Prop := ∀ i j, a ≤ i → i < j → j < b → lt (xs.getD j d) (xs.getD i d) = false

theorem SrtOn.cong {a b : Nat} {xs ys : List α} (h : SrtOn d lt a b xs) (he : ∀ k, a ≤ k → k < b → ys.getD k d = xs.getD k d) : SrtOn d lt a b ys := by
  intro i j h1 h2 h3
  rw [he i h1 (by omega), he j (by omega) h3]
  exact h i j h1 h2 h3

theorem SrtOn.one {a b : Nat} {xs : List α} (h : b ≤ a + 1) : SrtOn d lt a b xs := fun i j h1 h2 h3 => by omega

theorem LtOk.irr (h : LtOk lt) (x : α) : lt x x = false := by
  cases e : lt x x with
  | false => rfl
  | true => have := h.asym x x e; rw [e] at this; cases this

theorem SrtOn.le (hlt : LtOk lt) {a b : Nat} {xs : List α} (h : SrtOn d lt a b xs) {i j : Nat} (h1 : a ≤ i) (h2 : i ≤ j) (h3 : j < b) : lt (xs.getD j d) (xs.getD i d) = false := by
  by_cases e : i = j
  · subst e; exact hlt.irr _
  · exact h i j h1 (by omega) h3

/-! ### Insertion -/
/-- In order but for the one at j, which goes back. -/
def InsOn (d : α) (lt : α → α → Bool) (a i j : Nat) (xs : List α) : Prop := ∀ p q, a ≤ p → p < q → q ≤ i → q ≠ j → lt (xs.getD q d) (xs.getD p d) = false

theorem InsOn.start {a i : Nat} {xs : List α} (h : SrtOn d lt a i xs) : InsOn d lt a i i xs := fun p q h1 h2 h3 h4 => h p q h1 h2 (by omega)

theorem InsOn.step (hlt : LtOk lt) {a i j : Nat} {xs : List α} (h : InsOn d lt a i j xs) (hj : a < j) (hji : j ≤ i) (hi : i < xs.length) (hx : lt (xs.getD j d) (xs.getD (j - 1) d) = true) : InsOn d lt a i (j - 1) (swapL d xs j (j - 1)) := by
  intro p q h1 h2 h3 h4
  have hg := swapL_getD (d := d) (xs := xs) (i := j) (j := j - 1) (by omega) (by omega)
  rw [hg, hg, if_neg h4]
  by_cases e : q = j
  · subst e
    rw [if_pos rfl]
    by_cases e2 : p = q - 1
    · rw [if_pos e2]; exact hlt.asym _ _ hx
    · rw [if_neg e2, if_neg (by omega)]; exact h p (q - 1) h1 (by omega) (by omega) (by omega)
  · rw [if_neg e]
    by_cases e2 : p = j - 1
    · rw [if_pos e2]; exact h j q (by omega) (by omega) h3 e
    · rw [if_neg e2]
      by_cases e3 : p = j
      · rw [if_pos e3]; exact h (j - 1) q (by omega) (by omega) h3 e
      · rw [if_neg e3]; exact h p q h1 h2 h3 e

theorem InsOn.done (hlt : LtOk lt) {a i j : Nat} {xs : List α} (h : InsOn d lt a i j xs) (hji : j ≤ i) (hx : j ≤ a ∨ lt (xs.getD j d) (xs.getD (j - 1) d) = false) : SrtOn d lt a (i + 1) xs := by
  intro p q h1 h2 h3
  by_cases e : q = j
  · subst e
    rcases hx with hx | hx
    · omega
    · by_cases e2 : p = q - 1
      · rw [e2]; exact hx
      · exact hlt.trans _ _ _ (h p (q - 1) h1 (by omega) (by omega) (by omega)) hx
  · exact h p q h1 h2 (by omega) e

/-! ### Blocks change places -/
/-- The first k of two blocks of the places from a on and from b on have changed places. -/
def SwOn (d : α) (a b k : Nat) (xs ys : List α) : Prop := ∀ p, ys.getD p d = if a ≤ p ∧ p < a + k then xs.getD (p - a + b) d else if b ≤ p ∧ p < b + k then xs.getD (p - b + a) d else xs.getD p d

theorem SwOn.zero (a b : Nat) (xs : List α) : SwOn d a b 0 xs xs := fun p => by rw [if_neg (by omega), if_neg (by omega)]

theorem SwOn.step {a b k n : Nat} {xs ys : List α} (h : SwOn d a b k xs ys) (hl : ys.length = xs.length) (hk : k < n) (hab : a + n ≤ b) (hb : b + n ≤ xs.length) : SwOn d a b (k + 1) xs (swapL d ys (a + k) (b + k)) := by
  intro p
  rw [swapL_getD (by omega) (by omega)]
  have h1 := h p
  have h2 := h (a + k)
  have h3 := h (b + k)
  rw [if_neg (by omega), if_neg (by omega)] at h2 h3
  by_cases e1 : p = b + k
  · subst e1
    rw [if_pos rfl, if_neg (by omega), if_pos (by omega), h2]
    congr 1; omega
  · rw [if_neg e1]
    by_cases e2 : p = a + k
    · subst e2
      rw [if_pos rfl, if_pos (by omega), h3]
      congr 1; omega
    · rw [if_neg e2, h1]
      by_cases e3 : a ≤ p ∧ p < a + k
      · rw [if_pos e3, if_pos (by omega)]
      · by_cases e4 : b ≤ p ∧ p < b + k
        · rw [if_neg e3, if_pos e4, if_neg (by omega), if_pos (by omega)]
        · rw [if_neg e3, if_neg e4, if_neg (by omega), if_neg (by omega)]

/-! ### Rotation -/
/-- What lay from a on, below m, and what lay from m on, below b, have changed places. -/
def RotOn (d : α) (a m b : Nat) (xs ys : List α) : Prop := ∀ p, ys.getD p d = if a ≤ p ∧ p < a + (b - m) then xs.getD (p - a + m) d else if a + (b - m) ≤ p ∧ p < b then xs.getD (p - (b - m)) d else xs.getD p d

/-- What is left to do. -/
theorem RotOn.left {a m b i j : Nat} {xs ys zs : List α} (h : ∀ us, RotOn d (m - i) m (m + j) ys us → RotOn d a m b xs us) (hij : j < i) (him : i ≤ m) (hs : SwOn d (m - i) m j ys zs) : ∀ us, RotOn d (m - (i - j)) m (m + j) zs us → RotOn d a m b xs us := by
  intro us hu
  refine h us fun p => ?_
  rw [hu p]
  have h1 := hs p
  have h2 := hs (p - (m - (i - j)) + m)
  have h3 := hs (p - (m + j - m))
  by_cases c1 : m - i ≤ p ∧ p < m - i + j
  · rw [if_neg (by omega), if_neg (by omega), h1, if_pos c1, if_pos (by omega)]
  · by_cases c2 : m - (i - j) ≤ p ∧ p < m - (i - j) + j
    · rw [if_pos (by omega), h2, if_neg (by omega), if_pos (by omega), if_neg (by omega), if_pos (by omega)]
      congr 1; omega
    · by_cases c3 : m - (i - j) + j ≤ p ∧ p < m + j
      · rw [if_neg (by omega), if_pos (by omega), h3, if_neg (by omega), if_neg (by omega), if_neg (by omega), if_pos (by omega)]
      · rw [if_neg (by omega), if_neg (by omega), h1, if_neg (by omega), if_neg (by omega), if_neg (by omega), if_neg (by omega)]

theorem RotOn.right {a m b i j : Nat} {xs ys zs : List α} (h : ∀ us, RotOn d (m - i) m (m + j) ys us → RotOn d a m b xs us) (hij : i < j) (him : i ≤ m) (hs : SwOn d (m - i) (m + j - i) i ys zs) : ∀ us, RotOn d (m - i) m (m + (j - i)) zs us → RotOn d a m b xs us := by
  intro us hu
  refine h us fun p => ?_
  rw [hu p]
  have h1 := hs p
  have h2 := hs (p - (m - i) + m)
  have h3 := hs (p - (m + (j - i) - m))
  by_cases c1 : m - i ≤ p ∧ p < m - i + (j - i)
  · rw [if_pos (by omega), h2, if_neg (by omega), if_neg (by omega), if_pos (by omega)]
  · by_cases c2 : m - i + (j - i) ≤ p ∧ p < m + (j - i)
    · rw [if_neg (by omega), if_pos (by omega), h3, if_pos (by omega), if_pos (by omega)]
      congr 1; omega
    · by_cases c3 : m + (j - i) ≤ p ∧ p < m + j
      · rw [if_neg (by omega), if_neg (by omega), h1, if_neg (by omega), if_pos (by omega), if_neg (by omega), if_pos (by omega)]
        congr 1; omega
      · rw [if_neg (by omega), if_neg (by omega), h1, if_neg (by omega), if_neg (by omega), if_neg (by omega), if_neg (by omega)]

theorem RotOn.last {m i : Nat} {ys zs : List α} (him : i ≤ m) (hs : SwOn d (m - i) m i ys zs) : RotOn d (m - i) m (m + i) ys zs := by
  intro p
  rw [hs p]
  by_cases c1 : m - i ≤ p ∧ p < m - i + i
  · rw [if_pos c1, if_pos (by omega)]
  · by_cases c2 : m ≤ p ∧ p < m + i
    · rw [if_neg c1, if_pos c2, if_neg (by omega), if_pos (by omega)]
      congr 1; omega
    · rw [if_neg c1, if_neg c2, if_neg (by omega), if_neg (by omega)]

end
end Go.Fw

/-
  Merging in place, and block by block, in the plain.
-/
namespace Go.Fw
open Go

section
variable {α : Type} {d : α} {lt : α → α → Bool}

/-! ### One element is put in among others -/
theorem RotOn.none {a m b : Nat} {xs : List α} (h : m = a ∨ b = m) : RotOn d a m b xs xs := by
  intro p
  rcases h with rfl | rfl
  · by_cases c : m ≤ p ∧ p < m + (b - m)
    · rw [if_pos c]; congr 1; omega
    · rw [if_neg c, if_neg (by omega)]
  · rw [if_neg (by omega)]
    by_cases c : a + (b - b) ≤ p ∧ p < b
    · rw [if_pos c]; congr 1; omega
    · rw [if_neg c]

/-! ### The search -/
structure SymS (d : α) (lt : α → α → Bool) (lo hi p s r : Nat) (xs : List α) : Prop where
  l : lo ≤ s
  m : s ≤ r
  h : r ≤ hi
  lf : s = lo ∨ lt (xs.getD (p - (s - 1)) d) (xs.getD (s - 1) d) = false
  rt : r = hi ∨ lt (xs.getD (p - r) d) (xs.getD r d) = true

/-- All that goes left is no greater than all that goes right. -/
def Cross (d : α) (lt : α → α → Bool) (a mid b : Nat) (ys : List α) : Prop := ∀ i j, a ≤ i → i < mid → mid ≤ j → j < b → lt (ys.getD j d) (ys.getD i d) = false

/-! ### Block by block -/
/-- Whole blocks below a are in order. -/
def UpTo (d : α) (lt : α → α → Bool) (bs a : Nat) (ys : List α) : Prop := ∃ t, a = t * bs ∧ ∀ s, s < t → SrtOn d lt (s * bs) ((s + 1) * bs) ys
/-- All blocks are in order. -/
def AllBl (d : α) (lt : α → α → Bool) (bs n : Nat) (ys : List α) : Prop := ∀ s, SrtOn d lt (s * bs) (min ((s + 1) * bs) n) ys
/-- Below a in greater blocks, from there on in smaller ones. -/
def Half (d : α) (lt : α → α → Bool) (bs n a : Nat) (ys : List α) : Prop := ∃ t, a = t * (2 * bs) ∧ (∀ s, s < t → SrtOn d lt (s * (2 * bs)) ((s + 1) * (2 * bs)) ys) ∧ ∀ s, 2 * t ≤ s → SrtOn d lt (s * bs) (min ((s + 1) * bs) n) ys

theorem UpTo.zero (bs : Nat) (ys : List α) : UpTo d lt bs 0 ys := ⟨0, by simp, fun s h => by omega⟩

theorem UpTo.next {bs a : Nat} {ys zs : List α} (h : UpTo d lt bs a ys) (hm : Mv d a (a + bs) ys zs) (hs : SrtOn d lt a (a + bs) zs) : UpTo d lt bs (a + bs) zs := by
  obtain ⟨t, rfl, h2⟩ := h
  refine ⟨t + 1, by rw [Nat.succ_mul], fun s hst => ?_⟩
  by_cases e : s = t
  · subst e; rw [Nat.succ_mul]; exact hs
  · have hle : (s + 1) * bs ≤ t * bs := Nat.mul_le_mul_right _ (by omega)
    exact (h2 s (by omega)).cong fun k _ hk => hm.out k (.inl (by omega))

theorem UpTo.done {bs a n : Nat} {ys zs : List α} (h : UpTo d lt bs a ys) (han : a ≤ n) (hn : n < a + bs) (hm : Mv d a n ys zs) (hs : SrtOn d lt a n zs) : AllBl d lt bs n zs := by
  obtain ⟨t, rfl, h2⟩ := h
  intro s
  by_cases c : s < t
  · have hle : (s + 1) * bs ≤ t * bs := Nat.mul_le_mul_right _ (by omega)
    rw [Nat.min_eq_left (by omega)]
    exact (h2 s c).cong fun k _ hk => hm.out k (.inl (by omega))
  · by_cases e : s = t
    · subst e
      rw [Nat.min_eq_right (by rw [Nat.succ_mul]; omega)]
      exact hs
    · have hle : (t + 1) * bs ≤ s * bs := Nat.mul_le_mul_right _ (by omega)
      rw [Nat.succ_mul] at hle
      intro i j h1 h2 h3
      have := Nat.min_le_right ((s + 1) * bs) n
      omega

theorem Half.zero {bs n : Nat} {ys : List α} (h : AllBl d lt bs n ys) : Half d lt bs n 0 ys := ⟨0, by simp, fun s h => by omega, fun s _ => h s⟩

theorem Half.two {bs n a : Nat} {ys : List α} (h : Half d lt bs n a ys) (hab : a + bs ≤ n) : SrtOn d lt a (a + bs) ys ∧ SrtOn d lt (a + bs) (min (a + 2 * bs) n) ys := by
  obtain ⟨t, rfl, h2, h3⟩ := h
  have e1 : 2 * t * bs = t * (2 * bs) := by rw [Nat.mul_comm 2 t, Nat.mul_assoc]
  have e2 : (2 * t + 1) * bs = t * (2 * bs) + bs := by rw [Nat.succ_mul, e1]
  have e3 : (2 * t + 1 + 1) * bs = t * (2 * bs) + 2 * bs := by rw [Nat.succ_mul, e2]; omega
  have k1 := h3 (2 * t) (Nat.le_refl _)
  have k2 := h3 (2 * t + 1) (by omega)
  rw [e2, e1, Nat.min_eq_left hab] at k1
  rw [e3, e2] at k2
  exact ⟨k1, k2⟩

theorem Half.next {bs n a : Nat} {ys zs : List α} (h : Half d lt bs n a ys) (hm : Mv d a (a + 2 * bs) ys zs) (hs : SrtOn d lt a (a + 2 * bs) zs) : Half d lt bs n (a + 2 * bs) zs := by
  obtain ⟨t, rfl, h2, h3⟩ := h
  refine ⟨t + 1, (Nat.succ_mul t (2 * bs)).symm, fun s hst => ?_, fun s hst => ?_⟩
  · by_cases e : s = t
    · subst e; rw [Nat.succ_mul s (2 * bs)]; exact hs
    · have hle : (s + 1) * (2 * bs) ≤ t * (2 * bs) := Nat.mul_le_mul_right _ (by omega)
      exact (h2 s (by omega)).cong fun k _ hk => hm.out k (.inl (by omega))
  · have hle : (2 * t + 2) * bs ≤ s * bs := Nat.mul_le_mul_right _ (by omega)
    have e1 : (2 * t + 2) * bs = t * (2 * bs) + 2 * bs := by rw [Nat.add_mul, Nat.mul_comm 2 t, Nat.mul_assoc]
    exact (h3 s (by omega)).cong fun k hk _ => hm.out k (.inr (by omega))

theorem Half.done {bs n a : Nat} {ys zs : List α} (h : Half d lt bs n a ys) (han : a ≤ n) (hn : n < a + 2 * bs) (hm : Mv d a n ys zs) (hs : SrtOn d lt a n zs) : AllBl d lt (2 * bs) n zs := by
  obtain ⟨t, rfl, h2, _⟩ := h
  exact UpTo.done ⟨t, rfl, h2⟩ han hn hm hs

theorem AllBl.all {bs n : Nat} {ys : List α} (h : AllBl d lt bs n ys) (hn : n ≤ bs) : SrtOn d lt 0 n ys := by
  have := h 0
  rwa [Nat.zero_mul, Nat.zero_add, Nat.one_mul, Nat.min_eq_right hn] at this

end
end Go.Fw

/-
  Shortest ways, in the plain: going over all arcs again and again, and settling one state after the other, come to the same.
-/
namespace Go.Fw
open Go

/-- a is no worse than b (-1: none). -/
def Le (a b : Int) : Prop := b ≠ -1 → a ≠ -1 ∧ a ≤ b
theorem Le.refl (a : Int) : Le a a := fun h => ⟨h, Int.le_refl _⟩
theorem Le.trans {a b c : Int} (h : Le a b) (h' : Le b c) : Le a c := fun hc => by
  have h1 := h' hc
  have h2 := h h1.1
  exact ⟨h2.1, Int.le_trans h2.2 h1.2⟩

/-- A way of k arcs to a state, and what it costs. -/
inductive RN (l : List Arc) (c0 : List Int) : Nat → Nat → Int → Prop
  | base {v : Nat} (h : v < c0.length) (hc : c0.getD v 0 ≠ -1) : RN l c0 0 v (c0.getD v 0)
  | step {k : Nat} {a : Arc} {c : Int} (h : RN l c0 k a.f.toNat c) (ha : a ∈ l) : RN l c0 (k + 1) a.t.toNat (c + a.w)

theorem getD_set {α : Type} (c : List α) (i v : Nat) (x d : α) : (c.set i x).getD v d = if i = v ∧ v < c.length then x else c.getD v d := by
  by_cases h : i = v
  · subst h
    by_cases h2 : i < c.length
    · simp [List.getD, h2]
    · simp [List.getD, h2]
  · simp [List.getD, List.getElem?_set_ne h, h]

theorem RN.lt {l : List Arc} {st : Int} {c0 : List Int} (hl : ∀ a ∈ l, ArcOk st a) (hn : (c0.length : Int) = st) {k v : Nat} {c : Int} (h : RN l c0 k v c) : v < c0.length := by
  cases h with
  | base h _ => exact h
  | step h ha => have h1 := (hl _ ha).t0; have h2 := (hl _ ha).t1; omega

theorem RN.pos {l : List Arc} {st : Int} {c0 : List Int} (hl : ∀ a ∈ l, ArcOk st a) (h0 : ∀ v ∈ c0, -1 ≤ v) {k v : Nat} {c : Int} (h : RN l c0 k v c) : 0 ≤ c := by
  induction h with
  | base h hc => have := h0 _ (getD_mem c0 _ 0 h); omega
  | step h ha ih => have h1 := (hl _ ha).w0; omega

/-! ### Over and over -/
structure RlxS (c c' : List Int) (a : Arc) : Prop where
  len : c'.length = c.length
  le : ∀ v, Le (c'.getD v 0) (c.getD v 0)
  to : c.getD a.f.toNat 0 ≠ -1 → Le (c'.getD a.t.toNat 0) (c.getD a.f.toNat 0 + a.w)
  eq : ∀ v, c'.getD v 0 = c.getD v 0 ∨ (v = a.t.toNat ∧ c.getD a.f.toNat 0 ≠ -1 ∧ c'.getD v 0 = c.getD a.f.toNat 0 + a.w)

theorem relax_spec {st : Int} {c : List Int} {B : Int} (hb : Bd st B c) {a : Arc} (ha : ArcOk st a) : RlxS c (relax c a) a := by
  have h1 := hb.at ha.t0 ha.t1
  have h2 := hb.at ha.f0 ha.f1
  have h3 := ha.w0
  have hlen := hb.len
  have hlt : a.t.toNat < c.length := by have := ha.t0; have := ha.t1; omega
  have key : (less (c.getD a.t.toNat 0) (plus (c.getD a.f.toNat 0) a.w) = c.getD a.t.toNat 0 ∧ (c.getD a.f.toNat 0 ≠ -1 → Le (c.getD a.t.toNat 0) (c.getD a.f.toNat 0 + a.w))) ∨
      (c.getD a.f.toNat 0 ≠ -1 ∧ less (c.getD a.t.toNat 0) (plus (c.getD a.f.toNat 0) a.w) = c.getD a.f.toNat 0 + a.w ∧ Le (c.getD a.f.toNat 0 + a.w) (c.getD a.t.toNat 0)) := by
    generalize c.getD a.t.toNat 0 = t at *
    generalize c.getD a.f.toNat 0 = f at *
    unfold less plus Le
    by_cases hf : f < 0
    · left
      have : f < 0 ∨ a.w < 0 := .inl hf
      simp only [if_pos this]
      refine ⟨?_, fun h => by omega⟩
      split
      · omega
      · simp
    · have : ¬ (f < 0 ∨ a.w < 0) := by omega
      simp only [if_neg this]
      by_cases ht : t < 0
      · right
        rw [if_pos ht]
        exact ⟨by omega, rfl, fun h => by omega⟩
      · rw [if_neg ht]
        by_cases hlt : f + a.w < 0 ∨ t < f + a.w
        · left
          rw [if_pos hlt]
          exact ⟨rfl, fun _ _ => by omega⟩
        · right
          rw [if_neg hlt]
          exact ⟨by omega, rfl, fun h => by omega⟩
  have hg : ∀ v, (relax c a).getD v 0 = if a.t.toNat = v ∧ v < c.length then less (c.getD a.t.toNat 0) (plus (c.getD a.f.toNat 0) a.w) else c.getD v 0 := fun v => getD_set _ _ _ _ _
  refine ⟨by simp [relax], fun v => ?_, fun hf => ?_, fun v => ?_⟩
  · rw [hg]
    split
    · rename_i h
      obtain ⟨rfl, _⟩ := h
      rcases key with ⟨e, _⟩ | ⟨_, e, h⟩
      · rw [e]; exact Le.refl _
      · rw [e]; exact h
    · exact Le.refl _
  · rw [hg, if_pos ⟨rfl, hlt⟩]
    rcases key with ⟨e, h⟩ | ⟨_, e, h⟩
    · rw [e]; exact h hf
    · rw [e]; exact Le.refl _
  · rw [hg]
    split
    · rename_i h
      obtain ⟨rfl, _⟩ := h
      rcases key with ⟨e, _⟩ | ⟨h1, e, _⟩
      · exact .inl e
      · exact .inr ⟨rfl, h1, e⟩
    · exact .inl rfl

structure FoldS (l : List Arc) (c c' : List Int) : Prop where
  len : c'.length = c.length
  le : ∀ v, Le (c'.getD v 0) (c.getD v 0)
  to : ∀ a ∈ l, c.getD a.f.toNat 0 ≠ -1 → Le (c'.getD a.t.toNat 0) (c.getD a.f.toNat 0 + a.w)

theorem fold_spec {st : Int} : ∀ (l : List Arc) {c : List Int} {B : Int}, Bd st B c → 0 ≤ B → (∀ a ∈ l, ArcOk st a) → FoldS l c (roundF l c)
  | [], c, B, hb, _, _ => ⟨rfl, fun v => Le.refl _, fun a h => by cases h⟩
  | a :: l, c, B, hb, hB, hl => by
    have ha := hl a (by simp)
    have h1 := relax_spec hb ha
    have h2 := fold_spec l (hb.rlx hB ha) (by omega) (fun x hx => hl x (by simp [hx]))
    have e : roundF (a :: l) c = roundF l (relax c a) := rfl
    rw [e]
    refine ⟨h2.len.trans h1.len, fun v => (h2.le v).trans (h1.le v), ?_⟩
    intro b hb' hf
    rcases List.mem_cons.1 hb' with rfl | hb'
    · exact (h2.le _).trans (h1.to hf)
    · have h3 := h1.le b.f.toNat hf
      have h4 := h2.to b hb' h3.1
      intro hne
      have hw := (hl b (by simp [hb'])).w0
      have h5 := hb.at (hl b (by simp [hb'])).f0 (hl b (by simp [hb'])).f1
      have h6 := (hb.rlx hB ha).at (hl b (by simp [hb'])).f0 (hl b (by simp [hb'])).f1
      have h7 := h4 (by omega)
      exact ⟨h7.1, by omega⟩

theorem fold_reach {st : Int} {L : List Arc} {c0 : List Int} : ∀ (l : List Arc) {c : List Int} {B : Int}, Bd st B c → 0 ≤ B → (∀ a ∈ l, ArcOk st a) → (∀ a ∈ l, a ∈ L) →
    (∀ v, v < c.length → c.getD v 0 ≠ -1 → ∃ k, RN L c0 k v (c.getD v 0)) → ∀ v, v < (roundF l c).length → (roundF l c).getD v 0 ≠ -1 → ∃ k, RN L c0 k v ((roundF l c).getD v 0)
  | [], c, B, hb, _, _, _, h => h
  | a :: l, c, B, hb, hB, hl, hL, h => by
    have ha := hl a (by simp)
    have h1 := relax_spec hb ha
    have e : roundF (a :: l) c = roundF l (relax c a) := rfl
    rw [e]
    refine fold_reach l (hb.rlx hB ha) (by omega) (fun x hx => hl x (by simp [hx])) (fun x hx => hL x (by simp [hx])) ?_
    intro v hv hne
    rcases h1.eq v with e1 | ⟨rfl, e1, e2⟩
    · rw [e1] at hne ⊢
      exact h v (by rw [h1.len] at hv; exact hv) hne
    · rw [e2]
      have hf : a.f.toNat < c.length := by have := ha.f0; have := ha.f1; have := hb.len; omega
      obtain ⟨k, hk⟩ := h _ hf e1
      exact ⟨k + 1, .step hk (hL a (by simp))⟩

/-- What is known of going over all arcs r times. -/
theorem bf_spec {st : Int} {l : List Arc} {c0 : List Int} {B : Int} (hb : Bd st B c0) (hB : 0 ≤ B) (hl : ∀ a ∈ l, ArcOk st a) : ∀ r : Nat,
    (∃ B', 0 ≤ B' ∧ Bd st B' (iterN (roundF l) r c0)) ∧ (∀ v, v < c0.length → (iterN (roundF l) r c0).getD v 0 ≠ -1 → ∃ k, RN l c0 k v ((iterN (roundF l) r c0).getD v 0)) ∧
      ∀ k v c, RN l c0 k v c → k ≤ r → Le ((iterN (roundF l) r c0).getD v 0) c
  | 0 => by
    refine ⟨⟨B, hB, hb⟩, fun v hv hc => ⟨0, .base hv hc⟩, ?_⟩
    intro k v c h hk
    cases h with
    | base h hc => exact Le.refl _
    | step h ha => omega
  | r + 1 => by
    obtain ⟨⟨B', hB', hb'⟩, h1, h2⟩ := bf_spec hb hB hl r
    have hlen : (iterN (roundF l) r c0).length = c0.length := by have := hb'.len; have := hb.len; omega
    have hf := fold_spec l hb' hB' hl
    have e : iterN (roundF l) (r + 1) c0 = roundF l (iterN (roundF l) r c0) := rfl
    rw [e]
    refine ⟨⟨_, by omega, Bd.fold l hb' hB' hl⟩, ?_, ?_⟩
    · intro v hv
      exact fold_reach l hb' hB' hl (fun _ h => h) (fun v hv => h1 v (by omega)) v (by rw [hf.len]; omega)
    · intro k v c h hk
      have hpos : ∀ v ∈ c0, -1 ≤ v := fun v hv => (hb.bd v hv).1
      cases h with
      | base h hc => exact (hf.le _).trans (h2 _ _ _ (.base h hc) (by omega))
      | step h ha =>
        rename_i k a c
        have h3 := h2 _ _ _ h (by omega)
        have hc := h.pos hl hpos
        have h4 := h3 (by omega)
        have h5 := hf.to a ha h4.1
        intro _
        have hw := (hl a ha).w0
        have h6 := hb'.at (hl a ha).f0 (hl a ha).f1
        have h7 := h5 (by omega)
        exact ⟨h7.1, by omega⟩

/-- The costs, told by what they are. -/
structure Sol (l : List Arc) (c0 D : List Int) : Prop where
  len : D.length = c0.length
  s1 : ∀ v, v < c0.length → Le (D.getD v 0) (c0.getD v 0)
  s2 : ∀ a ∈ l, D.getD a.f.toNat 0 ≠ -1 → Le (D.getD a.t.toNat 0) (D.getD a.f.toNat 0 + a.w)
  s3 : ∀ v, v < c0.length → D.getD v 0 ≠ -1 → ∃ k, k ≤ c0.length ∧ RN l c0 k v (D.getD v 0)

theorem Sol.le {st : Int} {l : List Arc} {c0 D : List Int} (h : Sol l c0 D) (hl : ∀ a ∈ l, ArcOk st a) (hn : (c0.length : Int) = st) (h0 : ∀ v ∈ c0, -1 ≤ v) (hD : ∀ v, v < c0.length → -1 ≤ D.getD v 0) {k v : Nat} {c : Int} (hr : RN l c0 k v c) : Le (D.getD v 0) c := by
  induction hr with
  | base hv hc => exact h.s1 _ hv
  | step hr ha ih =>
    rename_i k a c
    have hc := hr.pos hl h0
    have h1 := ih (by omega)
    have h2 := h.s2 a ha h1.1
    intro _
    have hw := (hl a ha).w0
    have h3 := hD a.f.toNat (hr.lt hl hn)
    have h4 := h2 (by omega)
    exact ⟨h4.1, by omega⟩

theorem RN.perm {l l' : List Arc} {c0 : List Int} (h : ∀ a ∈ l, a ∈ l') {k v : Nat} {c : Int} (hr : RN l c0 k v c) : RN l' c0 k v c := by
  induction hr with
  | base hv hc => exact .base hv hc
  | step hr ha ih => exact .step ih (h _ ha)

/-- A solution is what going over and over comes to, whatever the arcs' order. -/
theorem Sol.eq {st : Int} {l l' : List Arc} {c0 D : List Int} {B : Int} (h : Sol l c0 D) (hb : Bd st B c0) (hB : 0 ≤ B) (hl : ∀ a ∈ l, ArcOk st a) (hll : ∀ a, a ∈ l ↔ a ∈ l') : D = iterN (roundF l') c0.length c0 := by
  have hl' : ∀ a ∈ l', ArcOk st a := fun a ha => hl a ((hll a).2 ha)
  obtain ⟨⟨B', hB', hb'⟩, h1, h2⟩ := bf_spec hb hB hl' c0.length
  have h0 : ∀ v ∈ c0, -1 ≤ v := fun v hv => (hb.bd v hv).1
  have hlen : (iterN (roundF l') c0.length c0).length = c0.length := by have := hb'.len; have := hb.len; omega
  have hD : ∀ v, v < c0.length → -1 ≤ D.getD v 0 := by
    intro v hv
    by_cases e : D.getD v 0 = -1
    · omega
    · obtain ⟨k, _, hk⟩ := h.s3 v hv e
      have := hk.pos hl h0; omega
  refine List.ext_getElem (h.len.trans hlen.symm) fun v hv hv' => ?_
  have hv0 : v < c0.length := by rw [h.len] at hv; exact hv
  have e1 : D[v] = D.getD v 0 := by simp [List.getD, hv]
  have e2 : (iterN (roundF l') c0.length c0)[v] = (iterN (roundF l') c0.length c0).getD v 0 := by simp [List.getD, hv']
  rw [e1, e2]
  by_cases c1 : D.getD v 0 = -1
  · by_cases c2 : (iterN (roundF l') c0.length c0).getD v 0 = -1
    · rw [c1, c2]
    · obtain ⟨k, hk⟩ := h1 v hv0 c2
      have := h.le hl hb.len h0 hD (hk.perm fun a ha => (hll a).2 ha) c2
      exact absurd c1 this.1
  · obtain ⟨k, hk, hr⟩ := h.s3 v hv0 c1
    have h3 := h2 k v _ (hr.perm fun a ha => (hll a).1 ha) hk c1
    obtain ⟨k', hk'⟩ := h1 v hv0 h3.1
    have h4 := h.le hl hb.len h0 hD (hk'.perm fun a ha => (hll a).2 ha) h3.1
    omega

end Go.Fw

/-
  Settling one state after the other, in the plain.
-/
namespace Go.Fw
open Go

/-- The first of the best that are not done among the first k; -1: none. -/
def pick (c : List Int) (d : List Bool) : Nat → Int
  | 0 => -1
  | k + 1 => if d.getD k false = false ∧ c.getD k 0 ≠ -1 ∧ (pick c d k < 0 ∨ c.getD k 0 < c.getD (pick c d k).toNat 0) then (k : Int) else pick c d k

def setlS (u : Int) (r : List Int × List Int) (p : Arc × Nat) : List Int × List Int :=
  if p.1.f = u ∧ better (r.1.getD u.toNat 0 + p.1.w) (r.1.getD p.1.t.toNat 0) = true then (r.1.set p.1.t.toNat (r.1.getD u.toNat 0 + p.1.w), r.2.set p.1.t.toNat (p.2 : Int)) else r

def setlR (l : List (Arc × Nat)) (u : Int) (r : List Int × List Int) : List Int × List Int := l.foldl (setlS u) r

def setl (l : List (Arc × Nat)) : Nat → List Int → List Int → List Bool → List Int × List Int
  | 0, c, b, _ => (c, b)
  | k + 1, c, b, d => if pick c d c.length < 0 then (c, b) else
    let r := setlR l (pick c d c.length) (c, b)
    setl l k r.1 r.2 (d.set (pick c d c.length).toNat true)

/-- What the program's settle comes to. -/
def settled (l : List Arc) (n : Nat) (c : List Int) : List Int × List Int := setl l.zipIdx (n + 1) c (List.replicate n (-1)) (List.replicate n false)

theorem pick_spec (c : List Int) (d : List Bool) : ∀ k : Nat, k ≤ c.length → (pick c d k < 0 ∧ ∀ v, v < k → d.getD v false = false → c.getD v 0 = -1) ∨
    (0 ≤ pick c d k ∧ (pick c d k).toNat < k ∧ d.getD (pick c d k).toNat false = false ∧ c.getD (pick c d k).toNat 0 ≠ -1 ∧ ∀ v, v < k → d.getD v false = false → c.getD v 0 ≠ -1 → c.getD (pick c d k).toNat 0 ≤ c.getD v 0)
  | 0, _ => .inl ⟨by simp [pick], fun v h => by omega⟩
  | k + 1, hk => by
    have ih := pick_spec c d k (by omega)
    simp only [pick]
    by_cases h : d.getD k false = false ∧ c.getD k 0 ≠ -1 ∧ (pick c d k < 0 ∨ c.getD k 0 < c.getD (pick c d k).toNat 0)
    · rw [if_pos h]
      right
      refine ⟨by omega, by simp, by simpa using h.1, by simpa using h.2.1, ?_⟩
      intro v hv hd hc
      simp only [Int.toNat_natCast]
      by_cases e : v = k
      · subst e; omega
      · rcases ih with ⟨_, h1⟩ | ⟨h0, _, _, _, h1⟩
        · exact absurd (h1 v (by omega) hd) hc
        · have := h1 v (by omega) hd hc
          rcases h.2.2 with h2 | h2
          · omega
          · omega
    · rw [if_neg h]
      rcases ih with ⟨h0, h1⟩ | ⟨h0, h1, h2, h3, h4⟩
      · left
        refine ⟨h0, fun v hv hd => ?_⟩
        by_cases e : v = k
        · subst e
          exact Classical.byContradiction fun hc => h ⟨hd, hc, .inl h0⟩
        · exact h1 v (by omega) hd
      · right
        refine ⟨h0, by omega, h2, h3, fun v hv hd hc => ?_⟩
        by_cases e : v = k
        · subst e
          exact Classical.byContradiction fun hx => h ⟨hd, hc, .inr (by omega)⟩
        · exact h4 v (by omega) hd hc

/-- What holds between two rounds. n: how many are done. -/
structure DI (l : List Arc) (c0 : List Int) (c b : List Int) (d : List Bool) : Prop where
  len : c.length = c0.length
  lenb : b.length = c0.length
  lend : d.length = c0.length
  low : ∀ v, v < c0.length → -1 ≤ c.getD v 0
  s1 : ∀ v, v < c0.length → Le (c.getD v 0) (c0.getD v 0)
  fin : ∀ v, d.getD v false = true → c.getD v 0 ≠ -1
  out : ∀ a ∈ l, d.getD a.f.toNat false = true → Le (c.getD a.t.toNat 0) (c.getD a.f.toNat 0 + a.w)
  rn : ∀ v, v < c0.length → c.getD v 0 ≠ -1 → ∃ k, k ≤ d.count true ∧ RN l c0 k v (c.getD v 0)
  ord : ∀ u v, d.getD u false = true → v < c0.length → d.getD v false = false → c.getD v 0 ≠ -1 → c.getD u 0 ≤ c.getD v 0

/-- Inside a round: u is settled, the arcs of m are gone by. -/
structure DJ (l : List Arc) (c0 c b : List Int) (d : List Bool) (u : Nat) (m : List (Arc × Nat)) (c' b' : List Int) : Prop where
  len : c'.length = c0.length
  lenb : b'.length = c0.length
  at_ : c'.getD u 0 = c.getD u 0
  done : ∀ v, d.getD v false = true → c'.getD v 0 = c.getD v 0
  low : ∀ v, v < c0.length → -1 ≤ c'.getD v 0
  le : ∀ v, Le (c'.getD v 0) (c.getD v 0)
  ge : ∀ v, v < c0.length → d.getD v false = false → c'.getD v 0 ≠ -1 → c.getD u 0 ≤ c'.getD v 0
  out : ∀ p ∈ m, p.1.f.toNat = u → Le (c'.getD p.1.t.toNat 0) (c.getD u 0 + p.1.w)
  rn : ∀ v, v < c0.length → c'.getD v 0 ≠ -1 → ∃ k, k ≤ d.count true + 1 ∧ RN l c0 k v (c'.getD v 0)

theorem DJ.start {l : List Arc} {c0 c b : List Int} {d : List Bool} (h : DI l c0 c b d) {u : Nat} (hu : ∀ v, v < c.length → d.getD v false = false → c.getD v 0 ≠ -1 → c.getD u 0 ≤ c.getD v 0) : DJ l c0 c b d u [] c b where
  len := h.len
  lenb := h.lenb
  at_ := rfl
  done := fun _ _ => rfl
  low := h.low
  le := fun _ => Le.refl _
  ge := fun v hv hd hc => hu v (by rw [h.len]; exact hv) hd hc
  out := fun p hp => by cases hp
  rn := fun v hv hc => by obtain ⟨k, hk, hr⟩ := h.rn v hv hc; exact ⟨k, by omega, hr⟩

theorem better_iff {a b : Int} : better a b = true ↔ a ≠ -1 ∧ (b = -1 ∨ a < b) := by simp [better]

theorem DJ.step {l : List Arc} {st : Int} {c0 c b : List Int} {d : List Bool} {u : Nat} {m : List (Arc × Nat)} {c' b' : List Int} (h : DI l c0 c b d) (hl : ∀ a ∈ l, ArcOk st a) (hn : (c0.length : Int) = st)
    (hul : u < c0.length) (hud : d.getD u false = false) (huc : c.getD u 0 ≠ -1) (hj : DJ l c0 c b d u m c' b') {p : Arc × Nat} (hp : p.1 ∈ l) :
    DJ l c0 c b d u (m ++ [p]) (setlS (u : Int) (c', b') p).1 (setlS (u : Int) (c', b') p).2 := by
  have ha := hl p.1 hp
  have hu0 := h.low u hul
  have w0 := ha.w0
  have htl : p.1.t.toNat < c0.length := by have := ha.t0; have := ha.t1; omega
  have hat := hj.at_
  unfold setlS
  simp only [Int.toNat_natCast]
  by_cases hb : p.1.f = (u : Int) ∧ better (c'.getD u 0 + p.1.w) (c'.getD p.1.t.toNat 0) = true
  · rw [if_pos hb]
    obtain ⟨hf, hb⟩ := hb
    rw [better_iff, hat] at hb
    have htu : p.1.t.toNat ≠ u := by
      intro e
      rw [e, hat] at hb
      omega
    have htd : d.getD p.1.t.toNat false = false := by
      cases hx : d.getD p.1.t.toNat false with
      | false => rfl
      | true =>
        have h1 := h.ord _ u hx hul hud huc
        have h2 := hj.done _ hx
        have h3 := h.fin _ hx
        rw [h2] at hb
        omega
    have hg : ∀ v, (c'.set p.1.t.toNat (c'.getD u 0 + p.1.w)).getD v 0 = if p.1.t.toNat = v ∧ v < c'.length then c.getD u 0 + p.1.w else c'.getD v 0 := fun v => by rw [getD_set, hat]
    refine ⟨by simp [hj.len], by simp [hj.lenb], ?_, ?_, ?_, ?_, ?_, ?_, ?_⟩
    · rw [hg, if_neg (fun hh => htu hh.1)]; exact hat
    · intro v hv
      rw [hg, if_neg (fun hh => by rw [← hh.1, htd] at hv; cases hv)]
      exact hj.done v hv
    · intro v hv
      rw [hg]
      split
      · omega
      · exact hj.low v hv
    · intro v
      rw [hg]
      split
      · rename_i hh
        obtain ⟨rfl, _⟩ := hh
        intro hne
        have := hj.le _ hne
        exact ⟨hb.1, by rcases hb.2 with h1 | h1 <;> omega⟩
      · exact hj.le v
    · intro v hv hd hc
      rw [hg] at hc ⊢
      split
      · omega
      · rename_i hh
        rw [if_neg hh] at hc
        exact hj.ge v hv hd hc
    · intro q hq hqf
      rw [hg]
      rcases List.mem_append.1 hq with hq | hq
      · split
        · rename_i hh
          have h1 := hj.out q hq hqf
          intro hne
          have h2 := h1 hne
          rw [← hh.1] at h2
          exact ⟨hb.1, by rcases hb.2 with h3 | h3 <;> omega⟩
        · exact hj.out q hq hqf
      · rw [List.mem_singleton] at hq
        subst hq
        rw [if_pos ⟨rfl, by rw [hj.len]; exact htl⟩]
        exact Le.refl _
    · intro v hv hc
      rw [hg] at hc ⊢
      split
      · rename_i hh
        obtain ⟨rfl, _⟩ := hh
        obtain ⟨k, hk, hr⟩ := h.rn u hul huc
        have hfu : p.1.f.toNat = u := by omega
        exact ⟨k + 1, by omega, .step (hfu ▸ hr) hp⟩
      · rename_i hh
        rw [if_neg hh] at hc
        exact hj.rn v hv hc
  · rw [if_neg hb]
    refine ⟨hj.len, hj.lenb, hj.at_, hj.done, hj.low, hj.le, hj.ge, ?_, hj.rn⟩
    intro q hq hqf
    rcases List.mem_append.1 hq with hq | hq
    · exact hj.out q hq hqf
    · rw [List.mem_singleton] at hq
      subst hq
      have hf : q.1.f = (u : Int) := by have := ha.f0; omega
      have h1 : ¬ better (c'.getD u 0 + q.1.w) (c'.getD q.1.t.toNat 0) = true := fun hx => hb ⟨hf, hx⟩
      rw [better_iff, hat] at h1
      intro hne
      have h2 := hj.low _ htl
      show c'.getD q.1.t.toNat 0 ≠ -1 ∧ c'.getD q.1.t.toNat 0 ≤ c.getD u 0 + q.1.w
      omega

theorem DJ.fold {l : List Arc} {st : Int} {c0 c b : List Int} {d : List Bool} {u : Nat} (h : DI l c0 c b d) (hl : ∀ a ∈ l, ArcOk st a) (hn : (c0.length : Int) = st) (hul : u < c0.length) (hud : d.getD u false = false) (huc : c.getD u 0 ≠ -1) :
    ∀ (r m : List (Arc × Nat)) (c' b' : List Int), (∀ p ∈ r, p.1 ∈ l) → DJ l c0 c b d u m c' b' → DJ l c0 c b d u (m ++ r) (setlR r (u : Int) (c', b')).1 (setlR r (u : Int) (c', b')).2
  | [], m, c', b', _, hj => by simpa [setlR] using hj
  | p :: r, m, c', b', hr, hj => by
    have h1 := hj.step h hl hn hul hud huc (hr p (by simp))
    have h2 := DJ.fold h hl hn hul hud huc r _ _ _ (fun q hq => hr q (by simp [hq])) h1
    have e : m ++ p :: r = m ++ [p] ++ r := by simp
    rw [e]
    exact h2

theorem count_set : ∀ (d : List Bool) (u : Nat), u < d.length → d.getD u false = false → (d.set u true).count true = d.count true + 1 ∧ d.count true < d.length
  | [], u, h, _ => by simp at h
  | x :: d, 0, _, h => by
    simp only [List.getD_cons_zero] at h
    subst h
    simp only [List.set_cons_zero, List.count_cons, beq_self_eq_true, if_true, List.length_cons]
    have := List.count_le_length (a := true) (l := d)
    simp; omega
  | x :: d, u + 1, hl, h => by
    simp only [List.getD_cons_succ] at h
    have ih := count_set d u (by simpa using hl) h
    simp only [List.set_cons_succ, List.count_cons, List.length_cons]
    refine ⟨by omega, ?_⟩
    cases x <;> simp <;> omega

theorem DI.next {l : List Arc} {st : Int} {c0 c b : List Int} {d : List Bool} {u : Nat} (h : DI l c0 c b d) (hl : ∀ a ∈ l, ArcOk st a) (hn : (c0.length : Int) = st) (hul : u < c0.length) (hud : d.getD u false = false) (huc : c.getD u 0 ≠ -1)
    (hu : ∀ v, v < c.length → d.getD v false = false → c.getD v 0 ≠ -1 → c.getD u 0 ≤ c.getD v 0) {r : List (Arc × Nat)} (hr : ∀ a, a ∈ l ↔ ∃ i, (a, i) ∈ r) :
    DI l c0 (setlR r (u : Int) (c, b)).1 (setlR r (u : Int) (c, b)).2 (d.set u true) := by
  have hj := DJ.fold h hl hn hul hud huc r [] c b (fun p hp => (hr p.1).2 ⟨p.2, hp⟩) (DJ.start h hu)
  rw [List.nil_append] at hj
  have hdl := h.lend
  have hg : ∀ v, (d.set u true).getD v false = if u = v ∧ v < d.length then true else d.getD v false := fun v => getD_set _ _ _ _ _
  have hcnt := (count_set d u (by omega) hud).1
  have hset : ∀ v, (d.set u true).getD v false = true → v = u ∨ d.getD v false = true := by
    intro v hv
    rw [hg] at hv
    split at hv
    · rename_i hh; exact .inl hh.1.symm
    · exact .inr hv
  have hset' : ∀ v, (d.set u true).getD v false = false → v ≠ u ∧ d.getD v false = false := by
    intro v hv
    rw [hg] at hv
    split at hv
    · cases hv
    · rename_i hh; exact ⟨fun e => hh ⟨e.symm, by omega⟩, hv⟩
  refine ⟨hj.len, hj.lenb, by simp [hdl], hj.low, fun v hv => (hj.le v).trans (h.s1 v hv), ?_, ?_, ?_, ?_⟩
  · intro v hv
    rcases hset v hv with rfl | hv
    · rw [hj.at_]; exact huc
    · rw [hj.done v hv]; exact h.fin v hv
  · intro a ha hf
    rcases hset _ hf with hf | hf
    · obtain ⟨i, hi⟩ := (hr a).1 ha
      rw [hf, hj.at_]
      exact hj.out (a, i) hi hf
    · rw [hj.done _ hf]
      exact (hj.le _).trans (h.out a ha hf)
  · intro v hv hc
    obtain ⟨k, hk, hr'⟩ := hj.rn v hv hc
    exact ⟨k, by rw [hcnt]; exact hk, hr'⟩
  · intro x v hx hv hd hc
    obtain ⟨_, hd'⟩ := hset' v hd
    have h1 := hj.ge v hv hd' hc
    rcases hset x hx with rfl | hx
    · rw [hj.at_]; exact h1
    · rw [hj.done x hx]
      have := h.ord x u hx hul hud huc
      omega

end Go.Fw

/-
  Settling: bounds, one step of the walk.
-/
namespace Go.Fw
open Go

structure SB (st B : Int) (u : Int) (cu : Int) (r : List Int × List Int) : Prop where
  bd : Bd st (B + 1000000000) r.1
  at_ : r.1.getD u.toNat 0 = cu
  lenb : (r.2.length : Int) = st

theorem SB.step {st B u cu : Int} {r : List Int × List Int} (h : SB st B u cu r) (hu : 0 ≤ u) (hu1 : u < st) (hc : cu ≠ -1) (hB : cu ≤ B) {p : Arc × Nat} (ha : ArcOk st p.1) : SB st B u cu (setlS u r p) := by
  unfold setlS
  by_cases hb : p.1.f = u ∧ better (r.1.getD u.toNat 0 + p.1.w) (r.1.getD p.1.t.toNat 0) = true
  · rw [if_pos hb]
    obtain ⟨_, hb⟩ := hb
    rw [better_iff, h.at_] at hb
    have w0 := ha.w0
    have w1 := ha.w1
    have hlen := h.bd.len
    have hcu := h.bd.at hu hu1
    rw [h.at_] at hcu
    refine ⟨⟨by simp [hlen], fun v hv => ?_⟩, ?_, by simp [h.lenb]⟩
    · rcases List.mem_or_eq_of_mem_set hv with hv | rfl
      · exact h.bd.bd v hv
      · rw [h.at_]; omega
    · rw [getD_set]
      split
      · rename_i hh
        rw [hh.1, h.at_] at hb
        omega
      · exact h.at_
  · rw [if_neg hb]
    exact h

theorem SB.fold {st B u cu : Int} (hu : 0 ≤ u) (hu1 : u < st) (hc : cu ≠ -1) (hB : cu ≤ B) : ∀ (l : List (Arc × Nat)) {r : List Int × List Int}, SB st B u cu r → (∀ p ∈ l, ArcOk st p.1) → SB st B u cu (setlR l u r)
  | [], r, h, _ => h
  | p :: l, r, h, hl => SB.fold hu hu1 hc hB l (h.step hu hu1 hc hB (hl p (by simp))) (fun q hq => hl q (by simp [hq]))

/-- What is known at a round's head. -/
structure SI (st : Int) (l : List (Arc × Nat)) (R : List Int × List Int) (k : Nat) (c b : List Int) (d : List Bool) : Prop where
  kk : k ≤ st.toNat + 1
  bd : Bd st (1000000000 * (203 - k)) c
  lenb : (b.length : Int) = st
  lend : (d.length : Int) = st
  eq : setl l k c b d = R
  cnt : st.toNat < k + d.count true

theorem SI.k1 {st : Int} {l : List (Arc × Nat)} {R : List Int × List Int} {k : Nat} {c b : List Int} {d : List Bool} (h : SI st l R k c b d) : ∃ k', k = k' + 1 := by
  have := List.count_le_length (a := true) (l := d)
  have := h.cnt
  have := h.lend
  exact ⟨k - 1, by omega⟩

theorem SI.next {st : Int} (hst : 1 ≤ st ∧ st ≤ 200) {l : List (Arc × Nat)} {R : List Int × List Int} {k : Nat} {c b : List Int} {d : List Bool} (h : SI st l R k c b d) (hl : ∀ p ∈ l, ArcOk st p.1) (hp : ¬ pick c d c.length < 0) :
    SI st l R (k - 1) (setlR l (pick c d c.length) (c, b)).1 (setlR l (pick c d c.length) (c, b)).2 (d.set (pick c d c.length).toNat true) ∧ k - 1 < k ∧
      0 ≤ pick c d c.length ∧ pick c d c.length < st ∧ c.getD (pick c d c.length).toNat 0 ≠ -1 ∧ SB st (1000000000 * (203 - k)) (pick c d c.length) (c.getD (pick c d c.length).toNat 0) (c, b) ∧ c.getD (pick c d c.length).toNat 0 ≤ 1000000000 * (203 - k) := by
  obtain ⟨k', rfl⟩ := h.k1
  have hlen := h.bd.len
  have hlend := h.lend
  rcases pick_spec c d c.length (Nat.le_refl _) with ⟨h1, _⟩ | ⟨h1, h2, h3, h4, h5⟩
  · exact absurd h1 hp
  · have hlt : pick c d c.length < st := by omega
    have hb := h.bd.at h1 hlt
    have kk := h.kk
    have sb : SB st (1000000000 * (203 - (k' + 1 : Nat))) (pick c d c.length) (c.getD (pick c d c.length).toNat 0) (c, b) :=
      ⟨⟨hlen, fun v hv => by have := h.bd.bd v hv; omega⟩, rfl, h.lenb⟩
    have sb2 := sb.fold h1 hlt h4 hb.2 l hl
    have heq := h.eq
    simp only [setl, if_neg hp] at heq
    refine ⟨⟨by omega, ⟨sb2.bd.len, fun v hv => ?_⟩, sb2.lenb, by simp [hlend], ?_, ?_⟩, by omega, h1, hlt, h4, sb, hb.2⟩
    · have := sb2.bd.bd v hv
      simp only [Nat.add_sub_cancel]
      omega
    · simpa using heq
    · have := h.cnt
      rw [(count_set d _ (by omega) h3).1]
      omega

theorem SI.start {st : Int} (hst : 1 ≤ st ∧ st ≤ 200) {l : List Arc} {c : List Int} (hc : Bd st 1000000000 c) : SI st l.zipIdx (settled l c.length c) (c.length + 1) c (List.replicate c.length (-1)) (List.replicate c.length false) := by
  have := hc.len
  refine ⟨by omega, ⟨hc.len, fun v hv => ?_⟩, by simp [hc.len], by simp [hc.len], rfl, by omega⟩
  have := hc.bd v hv
  omega

end Go.Fw

/-
  Weights pushed ahead, in the plain.
-/
namespace Go.Fw
open Go

def pushA (D : List Int) (a : Arc) : Option Arc :=
  if D.getD a.f.toNat 0 = -1 ∨ D.getD a.t.toNat 0 = -1 then none else some ⟨a.f, a.i, a.o, a.t, a.w + (D.getD a.t.toNat 0 - D.getD a.f.toNat 0)⟩
def pushL (D : List Int) (l : List Arc) : List Arc := l.filterMap (pushA D)
def pushV (D fin : List Int) (k n : Nat) : Int := if n < k ∧ fin.getD n 0 ≠ -1 then fin.getD n 0 - D.getD n 0 else fin.getD n 0
def pushF (D fin : List Int) (k : Nat) : List Int := (List.range fin.length).map (pushV D fin k)
def pushBig (l : List Arc) : Bool := l.any fun a => decide (a.w > 1000000000)

end Go.Fw

/-
  Settling: by which arc each state was come to.
-/
namespace Go.Fw
open Go

/-- How a state was come to. -/
def Come (l : List Arc) (c0 c b : List Int) (P : Arc → Prop) (v : Nat) : Prop :=
  (b.getD v (-1) = -1 ∧ c.getD v 0 = c0.getD v 0) ∨ ∃ (i : Nat) (a : Arc), b.getD v (-1) = (i : Int) ∧ l[i]? = some a ∧ a.t.toNat = v ∧ c.getD v 0 = c.getD a.f.toNat 0 + a.w ∧ P a

structure DB (l : List Arc) (c0 c b : List Int) (d : List Bool) (rk : Nat → Nat) : Prop where
  r1 : ∀ v, d.getD v false = true → rk v < d.count true
  b1 : ∀ v, v < c0.length → Come l c0 c b (fun a => d.getD a.f.toNat false = true ∧ (d.getD v false = true → rk a.f.toNat < rk v)) v

def DC (l : List Arc) (c0 c' b' : List Int) (d : List Bool) (rk : Nat → Nat) (u : Nat) : Prop :=
  ∀ v, v < c0.length → Come l c0 c' b' (fun a => (d.getD a.f.toNat false = true ∨ a.f.toNat = u) ∧ (d.getD v false = true → d.getD a.f.toNat false = true ∧ rk a.f.toNat < rk v) ∧ (v = u → d.getD a.f.toNat false = true)) v

theorem DC.step {l : List Arc} {st : Int} {c0 c b : List Int} {d : List Bool} {rk : Nat → Nat} {u : Nat} {m : List (Arc × Nat)} {c' b' : List Int} (h : DI l c0 c b d) (hl : ∀ a ∈ l, ArcOk st a) (hn : (c0.length : Int) = st)
    (hul : u < c0.length) (hud : d.getD u false = false) (huc : c.getD u 0 ≠ -1) (hj : DJ l c0 c b d u m c' b') {p : Arc × Nat} (hp : l[p.2]? = some p.1) (hc : DC l c0 c' b' d rk u) :
    DC l c0 (setlS (u : Int) (c', b') p).1 (setlS (u : Int) (c', b') p).2 d rk u := by
  have ha := hl p.1 (List.mem_of_getElem? hp)
  have hu0 := h.low u hul
  have w0 := ha.w0
  have htl : p.1.t.toNat < c0.length := by have := ha.t0; have := ha.t1; omega
  have hat := hj.at_
  unfold setlS
  simp only [Int.toNat_natCast]
  by_cases hb : p.1.f = (u : Int) ∧ better (c'.getD u 0 + p.1.w) (c'.getD p.1.t.toNat 0) = true
  · rw [if_pos hb]
    obtain ⟨hf, hb⟩ := hb
    rw [better_iff, hat] at hb
    have htu : p.1.t.toNat ≠ u := by
      intro e
      rw [e, hat] at hb
      omega
    have htd : d.getD p.1.t.toNat false = false := by
      cases hx : d.getD p.1.t.toNat false with
      | false => rfl
      | true =>
        have h1 := h.ord _ u hx hul hud huc
        have h2 := hj.done _ hx
        have h3 := h.fin _ hx
        rw [h2] at hb
        omega
    have hg : ∀ v, (c'.set p.1.t.toNat (c'.getD u 0 + p.1.w)).getD v 0 = if p.1.t.toNat = v ∧ v < c'.length then c.getD u 0 + p.1.w else c'.getD v 0 := fun v => by rw [getD_set, hat]
    have hgb : ∀ v, (b'.set p.1.t.toNat (p.2 : Int)).getD v (-1) = if p.1.t.toNat = v ∧ v < b'.length then (p.2 : Int) else b'.getD v (-1) := fun v => getD_set _ _ _ _ _
    intro v hv
    unfold Come
    by_cases e : p.1.t.toNat = v
    · subst e
      right
      have hfu : p.1.f.toNat = u := by omega
      refine ⟨p.2, p.1, ?_, hp, rfl, ?_, .inr hfu, ?_, ?_⟩
      · simp only [hgb]; rw [if_pos ⟨trivial, by rw [hj.lenb]; exact hv⟩]
      · simp only [hg]
        rw [if_pos ⟨trivial, by rw [hj.len]; exact hv⟩, hfu, if_neg (fun hh => htu hh.1), hat]
      · intro hx; rw [htd] at hx; cases hx
      · intro hx; exact absurd hx htu
    · rcases hc v hv with ⟨h1, h2⟩ | ⟨i, a, h1, h2, h3, h4, h5, h6, h7⟩
      · left
        simp only [hg, hgb]
        rw [if_neg (fun hh => e hh.1), if_neg (fun hh => e hh.1)]
        exact ⟨h1, h2⟩
      · right
        refine ⟨i, a, ?_, h2, h3, ?_, h5, h6, h7⟩
        · simp only [hgb]; rw [if_neg (fun hh => e hh.1)]; exact h1
        · simp only [hg]
          rw [if_neg (fun hh => e hh.1), h4]
          have : ¬ (p.1.t.toNat = a.f.toNat) := by
            intro hx
            rcases h5 with h5 | h5
            · rw [← hx, htd] at h5; cases h5
            · exact htu (hx.trans h5)
          rw [if_neg (fun hh => this hh.1)]
  · rw [if_neg hb]
    exact hc

theorem DC.fold {l : List Arc} {st : Int} {c0 c b : List Int} {d : List Bool} {rk : Nat → Nat} {u : Nat} (h : DI l c0 c b d) (hl : ∀ a ∈ l, ArcOk st a) (hn : (c0.length : Int) = st) (hul : u < c0.length) (hud : d.getD u false = false) (huc : c.getD u 0 ≠ -1) :
    ∀ (r m : List (Arc × Nat)) (c' b' : List Int), (∀ p ∈ r, l[p.2]? = some p.1) → DJ l c0 c b d u m c' b' → DC l c0 c' b' d rk u → DC l c0 (setlR r (u : Int) (c', b')).1 (setlR r (u : Int) (c', b')).2 d rk u
  | [], m, c', b', _, _, hc => hc
  | p :: r, m, c', b', hr, hj, hc => by
    have hp := hr p (by simp)
    have h1 := hj.step h hl hn hul hud huc (p := p) (List.mem_of_getElem? hp)
    exact DC.fold h hl hn hul hud huc r _ _ _ (fun q hq => hr q (by simp [hq])) h1 (hc.step h hl hn hul hud huc hj hp)

theorem DB.next {l : List Arc} {st : Int} {c0 c b : List Int} {d : List Bool} {rk : Nat → Nat} {u : Nat} (h : DI l c0 c b d) (hb : DB l c0 c b d rk) (hl : ∀ a ∈ l, ArcOk st a) (hn : (c0.length : Int) = st) (hul : u < c0.length) (hud : d.getD u false = false) (huc : c.getD u 0 ≠ -1)
    (hu : ∀ v, v < c.length → d.getD v false = false → c.getD v 0 ≠ -1 → c.getD u 0 ≤ c.getD v 0) {r : List (Arc × Nat)} (hr2 : ∀ p ∈ r, l[p.2]? = some p.1) :
    DB l c0 (setlR r (u : Int) (c, b)).1 (setlR r (u : Int) (c, b)).2 (d.set u true) (fun v => if v = u then d.count true else rk v) := by
  have hj0 := DJ.start h hu
  have hj := DJ.fold h hl hn hul hud huc r [] c b (fun p hp => List.mem_of_getElem? (hr2 p hp)) hj0
  have hc := DC.fold (rk := rk) h hl hn hul hud huc r [] c b hr2 hj0 (by
    intro v hv
    rcases hb.b1 v hv with h1 | ⟨i, a, h1, h2, h3, h4, h5, h6⟩
    · exact .inl h1
    · exact .inr ⟨i, a, h1, h2, h3, h4, .inl h5, fun hx => ⟨h5, h6 hx⟩, fun _ => h5⟩)
  have hdl := h.lend
  have hg : ∀ v, (d.set u true).getD v false = if u = v ∧ v < d.length then true else d.getD v false := fun v => getD_set _ _ _ _ _
  have hcnt := (count_set d u (by omega) hud).1
  have hset : ∀ v, (d.set u true).getD v false = true → v = u ∨ d.getD v false = true := by
    intro v hv
    rw [hg] at hv
    split at hv
    · rename_i hh; exact .inl hh.1.symm
    · exact .inr hv
  have hset2 : ∀ v, (d.getD v false = true ∨ v = u) → (d.set u true).getD v false = true := by
    intro v hv
    rw [hg]
    split
    · rfl
    · rename_i hh
      rcases hv with hv | rfl
      · exact hv
      · exact absurd ⟨rfl, by omega⟩ hh
  constructor
  · intro v hv
    rw [hcnt]
    rcases hset v hv with rfl | hv
    · simp
    · by_cases e : v = u
      · simp [e]
      · simp only [if_neg e]; have := hb.r1 v hv; omega
  · intro v hv
    rcases hc v hv with h1 | ⟨i, a, h1, h2, h3, h4, h5, h6, h7⟩
    · exact .inl h1
    · refine .inr ⟨i, a, h1, h2, h3, h4, hset2 _ h5, fun hx => ?_⟩
      rcases hset v hx with e | hx
      · have h8 := h7 e
        have hne : a.f.toNat ≠ u := fun e2 => by rw [e2, hud] at h8; cases h8
        simp only [if_neg hne, if_pos e]
        exact hb.r1 _ h8
      · obtain ⟨h8, h9⟩ := h6 hx
        have hne : a.f.toNat ≠ u := fun e2 => by rw [e2, hud] at h8; cases h8
        have hne2 : v ≠ u := fun e2 => by rw [e2, hud] at hx; cases hx
        simp only [if_neg hne, if_neg hne2]
        exact h9

/-- At the end: how each was come to, and that no way goes round. -/
def ByOk (l : List Arc) (c0 c b : List Int) : Prop :=
  ∃ rk : Nat → Nat, (∀ v, v < c0.length → c.getD v 0 ≠ -1 → rk v < c0.length) ∧ ∀ v, v < c0.length → Come l c0 c b (fun a => c.getD v 0 ≠ -1 ∧ c.getD a.f.toNat 0 ≠ -1 ∧ rk a.f.toNat < rk v) v

/-- The way back. -/
def wayB (arcs : List Arc) (b : List Int) : Nat → Int → List Int
  | 0, _ => []
  | k + 1, v => if 0 ≤ v ∧ 0 ≤ b.getD v.toNat (-1) then b.getD v.toNat (-1) :: wayB arcs b k ((arcs.getD (b.getD v.toNat (-1)).toNat EK.arc.dflt).f) else []

/-- The best of all ends. -/
def bestF (c fin : List Int) : Nat → Int × Int
  | 0 => (-1, -1)
  | k + 1 => if fin.getD k 0 ≠ -1 ∧ c.getD k 0 ≠ -1 ∧ better (c.getD k 0 + fin.getD k 0) (bestF c fin k).2 = true then ((k : Int), c.getD k 0 + fin.getD k 0) else bestF c fin k

end Go.Fw

/-
  Ways of a transducer, in the plain; what it is to be the least of some costs.
-/
namespace Go.Fw
open Go

/-! ### Arcs in order -/
theorem aheadB_trans {a b c : Arc} (h1 : aheadB a b = true) (h2 : aheadB b c = true) : aheadB a c = true := by
  unfold aheadB at *
  repeat' split at h1
  all_goals repeat' split at h2
  all_goals repeat' split
  all_goals simp only [decide_eq_true_eq, Bool.false_eq_true] at *
  all_goals omega

theorem aheadB_irr (a : Arc) : aheadB a a = false := by simp [aheadB]

theorem aheadB_asymm {a b : Arc} (h1 : aheadB a b = true) : aheadB b a = false := by
  cases h : aheadB b a with
  | false => rfl
  | true => have := aheadB_trans h1 h; rw [aheadB_irr] at this; cases this

def Srt (l : List Arc) : Prop := l.Pairwise fun a b => aheadB a b = true

/-! ### Ways -/
/-- What a label says. -/
def lab (x : Int) : List Int := if x = 0 then [] else [x]

/-- A way from a state to a state: what it reads, writes, costs. -/
inductive Way (L : List Arc) : Int → List Int → List Int → Int → Int → Prop
  | nil (s : Int) : Way L s [] [] s 0
  | cons {a : Arc} {u v : List Int} {t c : Int} (ha : a ∈ L) (h : Way L a.t u v t c) : Way L a.f (lab a.i ++ u) (lab a.o ++ v) t (a.w + c)

theorem Way.app {L : List Arc} {s t r : Int} {u v u' v' : List Int} {c d : Int} (h : Way L s u v t c) (h' : Way L t u' v' r d) : Way L s (u ++ u') (v ++ v') r (c + d) := by
  induction h with
  | nil s => simpa using h'
  | cons ha h ih =>
    rw [List.append_assoc, List.append_assoc, Int.add_assoc]
    exact .cons ha (ih h')

theorem Way.one {L : List Arc} {a : Arc} (ha : a ∈ L) : Way L a.f (lab a.i) (lab a.o) a.t a.w := by
  have := Way.cons ha (.nil a.t)
  simpa using this

theorem Way.snoc {L : List Arc} {s : Int} {u v : List Int} {c : Int} {a : Arc} (h : Way L s u v a.f c) (ha : a ∈ L) : Way L s (u ++ lab a.i) (v ++ lab a.o) a.t (c + a.w) := h.app (.one ha)

theorem Way.mono {L L' : List Arc} (hL : ∀ a ∈ L, a ∈ L') {s t : Int} {u v : List Int} {c : Int} (h : Way L s u v t c) : Way L' s u v t c := by
  induction h with
  | nil s => exact .nil s
  | cons ha h ih => exact .cons (hL _ ha) ih

theorem Way.pos {L : List Arc} {st : Int} (hL : ∀ a ∈ L, ArcOk st a) {s t : Int} {u v : List Int} {c : Int} (h : Way L s u v t c) : 0 ≤ c := by
  induction h with
  | nil s => exact Int.le_refl _
  | cons ha h ih => have := (hL _ ha).w0; omega

theorem Way.rng {L : List Arc} {st : Int} (hL : ∀ a ∈ L, ArcOk st a) {s t : Int} {u v : List Int} {c : Int} (h : Way L s u v t c) (hs : 0 ≤ s ∧ s < st) : 0 ≤ t ∧ t < st := by
  induction h with
  | nil s => exact hs
  | cons ha h ih => exact ih ⟨(hL _ ha).t0, (hL _ ha).t1⟩

/-- What a pair of words may cost. -/
def Wt (F : TF) (u v : List Int) (c : Int) : Prop := ∃ t d, Way F.arcs F.start u v t d ∧ F.fin.getD t.toNat 0 ≠ -1 ∧ c = d + F.fin.getD t.toNat 0

theorem Wt.pos {F : TF} (hF : FOk F) {u v : List Int} {c : Int} (h : Wt F u v c) : 0 ≤ c := by
  obtain ⟨t, d, h1, h2, rfl⟩ := h
  have h3 := h1.pos hF.arc
  have h4 := h1.rng hF.arc hF.start
  have h5 := hF.fin _ (getD_mem F.fin t.toNat 0 (by have := hF.finl; omega))
  omega

/-- The least of some costs; -1: there is none. -/
def MinOf (P : Int → Prop) (n : Int) : Prop := (n = -1 ∧ ∀ c, ¬ P c) ∨ (0 ≤ n ∧ P n ∧ ∀ c, P c → n ≤ c)

theorem MinOf.eq {P Q : Int → Prop} {m n : Int} (hm : MinOf P m) (hn : MinOf Q n) (h : ∀ c, P c ↔ Q c) : m = n := by
  rcases hm with ⟨rfl, h1⟩ | ⟨h0, h1, h2⟩ <;> rcases hn with ⟨rfl, g1⟩ | ⟨g0, g1, g2⟩
  · rfl
  · exact absurd ((h n).2 g1) (h1 n)
  · exact absurd ((h m).1 h1) (g1 m)
  · have := h2 n ((h n).2 g1); have := g2 m ((h m).1 h1); omega

theorem MinOf.le {P : Int → Prop} {n c : Int} (h : MinOf P n) (hc : P c) : n ≠ -1 ∧ n ≤ c := by
  rcases h with ⟨_, h⟩ | ⟨h0, _, h2⟩
  · exact absurd hc (h c)
  · exact ⟨by omega, h2 c hc⟩

theorem MinOf.is {P : Int → Prop} {n : Int} (h : MinOf P n) (hn : n ≠ -1) : P n := by
  rcases h with ⟨h, _⟩ | ⟨_, h, _⟩
  · exact absurd h hn
  · exact h

theorem MinOf.low {P : Int → Prop} {n : Int} (h : MinOf P n) : -1 ≤ n := by
  rcases h with ⟨h, _⟩ | ⟨h, _⟩ <;> omega

end Go.Fw

/-
  The order by which arcs are sorted, in the plain.
-/
namespace Go.Fw
open Go

def cmpW (a b : Arc) : Int := orI [orderI a b, cmpI a.w b.w]
def ltW (a b : Arc) : Bool := decide (cmpW a b < 0)
def sameK (a b : Arc) : Bool := decide (orderI a b = 0)

theorem SrtOn.less {α : Type} {d : α} {lt : α → α → Bool} {a b c : Nat} {xs : List α} (h : SrtOn d lt a b xs) (hc : c ≤ b) : SrtOn d lt a c xs := fun i j h1 h2 h3 => h i j h1 h2 (by omega)

/-! ### Searches -/
section
variable {α : Type} {d : α} {lt : α → α → Bool}

/-- Where the first one goes, among those behind it. -/
structure SeaA (d : α) (lt : α → α → Bool) (a b i j : Nat) (xs : List α) : Prop where
  l : a + 1 ≤ i
  ij : i ≤ j
  h : j ≤ b
  lo : ∀ k, a + 1 ≤ k → k < i → lt (xs.getD k d) (xs.getD a d) = true
  hi : ∀ k, j ≤ k → k < b → lt (xs.getD k d) (xs.getD a d) = false

theorem SeaA.start {a b : Nat} {xs : List α} (h : a + 1 ≤ b) : SeaA d lt a b (a + 1) b xs := ⟨Nat.le_refl _, h, Nat.le_refl _, fun k h1 h2 => by omega, fun k h1 h2 => by omega⟩

theorem SeaA.up (hlt : LtOk lt) {a b i j : Nat} {xs : List α} (hs : SrtOn d lt (a + 1) b xs) (h : SeaA d lt a b i j xs) (hij : i < j) (hc : lt (xs.getD ((i + j) / 2) d) (xs.getD a d) = true) : SeaA d lt a b ((i + j) / 2 + 1) j xs := by
  have h1 := h.l
  have h2 := h.h
  refine ⟨by omega, by omega, h2, fun k g1 g2 => ?_, h.hi⟩
  cases e : lt (xs.getD k d) (xs.getD a d) with
  | true => rfl
  | false =>
    have := hlt.trans _ _ _ e (hs.le hlt (i := k) (j := (i + j) / 2) g1 (by omega) (by omega))
    rw [hc] at this; cases this

theorem SeaA.down (hlt : LtOk lt) {a b i j : Nat} {xs : List α} (hs : SrtOn d lt (a + 1) b xs) (h : SeaA d lt a b i j xs) (hij : i < j) (hc : lt (xs.getD ((i + j) / 2) d) (xs.getD a d) = false) : SeaA d lt a b i ((i + j) / 2) xs := by
  have h1 := h.l
  have h2 := h.h
  exact ⟨h1, by omega, by omega, h.lo, fun k g1 g2 => hlt.trans _ _ _ hc (hs.le hlt (i := (i + j) / 2) (j := k) (by omega) g1 g2)⟩

/-- Where the last one goes, among those ahead of it. -/
structure SeaB (d : α) (lt : α → α → Bool) (a m i j : Nat) (xs : List α) : Prop where
  l : a ≤ i
  ij : i ≤ j
  h : j ≤ m
  lo : ∀ k, a ≤ k → k < i → lt (xs.getD m d) (xs.getD k d) = false
  hi : ∀ k, j ≤ k → k < m → lt (xs.getD m d) (xs.getD k d) = true

theorem SeaB.start {a m : Nat} {xs : List α} (h : a ≤ m) : SeaB d lt a m a m xs := ⟨Nat.le_refl _, h, Nat.le_refl _, fun k h1 h2 => by omega, fun k h1 h2 => by omega⟩

theorem SeaB.up (hlt : LtOk lt) {a m i j : Nat} {xs : List α} (hs : SrtOn d lt a m xs) (h : SeaB d lt a m i j xs) (hij : i < j) (hc : lt (xs.getD m d) (xs.getD ((i + j) / 2) d) = false) : SeaB d lt a m ((i + j) / 2 + 1) j xs := by
  have h1 := h.l
  have h2 := h.h
  exact ⟨by omega, by omega, h2, fun k g1 g2 => hlt.trans _ _ _ (hs.le hlt (i := k) (j := (i + j) / 2) g1 (by omega) (by omega)) hc, h.hi⟩

theorem SeaB.down (hlt : LtOk lt) {a m i j : Nat} {xs : List α} (hs : SrtOn d lt a m xs) (h : SeaB d lt a m i j xs) (hij : i < j) (hc : lt (xs.getD m d) (xs.getD ((i + j) / 2) d) = true) : SeaB d lt a m i ((i + j) / 2) xs := by
  have h1 := h.l
  have h2 := h.h
  refine ⟨h1, by omega, by omega, h.lo, fun k g1 g2 => ?_⟩
  cases e : lt (xs.getD m d) (xs.getD k d) with
  | true => rfl
  | false =>
    have := hlt.trans _ _ _ (hs.le hlt (i := (i + j) / 2) (j := k) (by omega) g1 g2) e
    rw [hc] at this; cases this

theorem Half.low {bs n a : Nat} {ys : List α} (h : Half d lt bs n a ys) (hab : n ≤ a + bs) : SrtOn d lt a n ys := by
  obtain ⟨t, rfl, h2, h3⟩ := h
  have e1 : 2 * t * bs = t * (2 * bs) := by rw [Nat.mul_comm 2 t, Nat.mul_assoc]
  have e2 : (2 * t + 1) * bs = t * (2 * bs) + bs := by rw [Nat.succ_mul, e1]
  have k1 := h3 (2 * t) (Nat.le_refl _)
  rw [e2, e1, Nat.min_eq_right hab] at k1
  exact k1

theorem SymS.up {lo hi p s r : Nat} {xs : List α} (h : SymS d lt lo hi p s r xs) (hsr : s < r) (hc : lt (xs.getD (p - (s + r) / 2) d) (xs.getD ((s + r) / 2) d) = false) : SymS d lt lo hi p ((s + r) / 2 + 1) r xs := by
  have h1 := h.l
  have h2 := h.h
  exact ⟨by omega, by omega, h2, .inr (by rw [Nat.add_sub_cancel]; exact hc), h.rt⟩

theorem SymS.down {lo hi p s r : Nat} {xs : List α} (h : SymS d lt lo hi p s r xs) (hsr : s < r) (hc : lt (xs.getD (p - (s + r) / 2) d) (xs.getD ((s + r) / 2) d) = true) : SymS d lt lo hi p s ((s + r) / 2) xs := by
  have h1 := h.l
  have h2 := h.h
  exact ⟨h1, by omega, by omega, h.lf, .inr hc⟩

end
end Go.Fw

/-
  Of arcs that are the same the first one, in the plain.
-/
namespace Go.Fw
open Go

abbrev aD : Arc := ⟨0, 0, 0, 0, 0⟩

def compL : Arc → List Arc → List Arc
  | _, [] => []
  | p, x :: l => if sameK x p then compL x l else x :: compL x l
def comp : List Arc → List Arc
  | [] => []
  | x :: l => x :: compL x l

theorem compL_snoc : ∀ (l : List Arc) (p x : Arc), compL p (l ++ [x]) = compL p l ++ (if sameK x ((p :: l).getLast (by simp)) then [] else [x])
  | [], p, x => rfl
  | y :: l, p, x => by
    have ih := compL_snoc l y x
    simp only [List.cons_append, compL]
    have e : (p :: y :: l).getLast (by simp) = (y :: l).getLast (by simp) := by simp
    rw [e]
    split
    · exact ih
    · rw [ih]; rfl

theorem comp_snoc (l : List Arc) (x : Arc) (h : l ≠ []) : comp (l ++ [x]) = comp l ++ (if sameK x (l.getLast h) then [] else [x]) := by
  cases l with
  | nil => exact absurd rfl h
  | cons y l => simp only [List.cons_append, comp]; rw [compL_snoc]

theorem comp_take (l : List Arc) (k : Nat) (h1 : 1 ≤ k) (h2 : k < l.length) : comp (l.take (k + 1)) = comp (l.take k) ++ (if sameK (l.getD k aD) (l.getD (k - 1) aD) then [] else [l.getD k aD]) := by
  have hne : l.take k ≠ [] := by
    intro c
    have := congrArg List.length c
    rw [List.length_take, List.length_nil] at this
    omega
  rw [take_succ_getD l k aD h2, comp_snoc _ _ hne]
  have e : (l.take k).getLast hne = l.getD (k - 1) aD := by
    have hlt : k - 1 < (l.take k).length := by rw [List.length_take]; omega
    rw [List.getLast_eq_getElem]
    have e2 : (l.take k).length - 1 = k - 1 := by rw [List.length_take]; omega
    simp only [e2, List.getElem_take]
    simp [List.getD, show k - 1 < l.length by omega]
  rw [e]

/-- While the first k are put where they go. -/
structure CompIn (xs : List Arc) (k n : Nat) (ys : List Arc) : Prop where
  len : ys.length = xs.length
  kn : k + 1 ≤ n
  nl : n ≤ xs.length
  k1 : 1 ≤ k
  tk : ys.take k = comp (xs.take n)
  un : ∀ i, n - 1 ≤ i → ys.getD i aD = xs.getD i aD

theorem CompIn.start {xs : List Arc} {k : Nat} (h1 : 1 ≤ k) (h2 : k < xs.length) (hc : comp (xs.take k) = xs.take k) (hs : sameK (xs.getD k aD) (xs.getD (k - 1) aD) = true) : CompIn xs k (k + 1) xs :=
  ⟨rfl, Nat.le_refl _, h2, h1, by rw [comp_take xs k h1 h2, hs, if_pos rfl, List.append_nil, hc], fun _ _ => rfl⟩

theorem CompIn.skip {xs ys : List Arc} {k n : Nat} (h : CompIn xs k n ys) (hn : n < xs.length) (hs : sameK (xs.getD n aD) (xs.getD (n - 1) aD) = true) : CompIn xs k (n + 1) ys := by
  have := h.kn
  have := h.k1
  exact ⟨h.len, by omega, hn, h.k1, by rw [comp_take xs n (by omega) hn, hs, if_pos rfl, List.append_nil, h.tk], fun i hi => h.un i (by omega)⟩

theorem CompIn.put {xs ys : List Arc} {k n : Nat} (h : CompIn xs k n ys) (hn : n < xs.length) (hs : sameK (xs.getD n aD) (xs.getD (n - 1) aD) = false) : CompIn xs (k + 1) (n + 1) (ys.set k (xs.getD n aD)) := by
  have h1 := h.kn
  have h2 := h.k1
  have h3 := h.len
  refine ⟨by simp [h3], by omega, hn, by omega, ?_, fun i hi => ?_⟩
  · rw [comp_take xs n (by omega) hn, hs, if_neg (by simp), ← h.tk]
    rw [take_succ_getD _ k aD (by simp; omega), List.take_set_of_le (Nat.le_refl _)]
    congr 1
    simp [List.getD, show k < ys.length by omega]
  · rw [getD_set', if_neg (by omega)]
    exact h.un i (by omega)

theorem CompIn.done {xs ys : List Arc} {k : Nat} (h : CompIn xs k xs.length ys) : (comp xs).length = k ∧ ys = comp xs ++ ys.drop k := by
  have h1 := h.kn
  have h3 := h.len
  have e := h.tk
  rw [List.take_length] at e
  rw [← e, List.length_take]
  exact ⟨by omega, (List.take_append_drop k ys).symm⟩

end Go.Fw
