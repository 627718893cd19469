/-
  Merging in place, and block by block, in the plain.
-/
import Derived.Test.YtlpfbhmfddbgdaaS10
import Derived.Test.YtlpfbhmfddbgdaaS08
import Derived.Test.YtlpfbhmfddbgdaaS07
import Derived.Test.YtlpfbhmfddbgdaaS06

set_option linter.unusedSimpArgs false
set_option linter.unusedVariables false

namespace Go.Fw
open Go

section
variable {α : Type} {d : α} {lt : α → α → Bool}

/-! ### One element is put in among others -/
theorem RotOn.none {a m b : Nat} {xs : List α} (h : m = a ∨ b = m) : RotOn d a m b xs xs := by
  intro p
  rcases h with rfl | rfl
  · by_cases c : m ≤ p ∧ p < m + (b - m)
    · rw [if_pos c]; congr 1; omega
    · rw [if_neg c, if_neg (by omega)]
  · rw [if_neg (by omega)]
    by_cases c : a + (b - b) ≤ p ∧ p < b
    · rw [if_pos c]; congr 1; omega
    · rw [if_neg c]

theorem RotOn.fwd {a k : Nat} {xs ys : List α} (h : RotOn d a (a + 1) (k + 1) xs ys) (hl : ys.length = xs.length) (ha : a ≤ k) (hk : k + 1 < xs.length) : RotOn d a (a + 1) (k + 1 + 1) xs (swapL d ys k (k + 1)) := by
  intro p
  rw [swapL_getD (by omega) (by omega)]
  have h1 := h p
  have h2 := h k
  have h3 := h (k + 1)
  rw [if_neg (by omega), if_pos (by omega)] at h2
  rw [if_neg (by omega), if_neg (by omega)] at h3
  by_cases e1 : p = k + 1
  · subst e1
    rw [if_pos rfl, if_neg (by omega), if_pos (by omega), h2]
    congr 1; omega
  · rw [if_neg e1]
    by_cases e2 : p = k
    · subst e2
      rw [if_pos rfl, if_pos (by omega), h3]
      congr 1; omega
    · rw [if_neg e2, h1]
      by_cases e3 : a ≤ p ∧ p < a + (k + 1 - (a + 1))
      · rw [if_pos e3, if_pos (by omega)]
      · rw [if_neg e3, if_neg (by omega), if_neg (by omega), if_neg (by omega)]

theorem RotOn.bwd {m k : Nat} {xs ys : List α} (h : RotOn d k m (m + 1) xs ys) (hl : ys.length = xs.length) (hk : 0 < k) (hkm : k ≤ m) (hm : m < xs.length) : RotOn d (k - 1) m (m + 1) xs (swapL d ys k (k - 1)) := by
  intro p
  rw [swapL_getD (by omega) (by omega)]
  have h1 := h p
  have h2 := h k
  have h3 := h (k - 1)
  rw [if_pos (by omega)] at h2
  rw [if_neg (by omega), if_neg (by omega)] at h3
  by_cases e1 : p = k - 1
  · subst e1
    rw [if_pos rfl, if_pos (by omega), h2]
    congr 1; omega
  · rw [if_neg e1]
    by_cases e2 : p = k
    · subst e2
      rw [if_pos rfl, if_neg (by omega), if_pos (by omega), h3]
      congr 1; omega
    · rw [if_neg e2, h1]
      by_cases e3 : k + (m + 1 - m) ≤ p ∧ p < m + 1
      · rw [if_neg (by omega), if_pos e3, if_neg (by omega), if_pos (by omega)]
      · rw [if_neg (by omega), if_neg e3, if_neg (by omega), if_neg (by omega)]

/-- The first one goes in among those behind it. -/
theorem ins_first (hlt : LtOk lt) {a b i : Nat} {xs ys : List α} (hs : SrtOn d lt (a + 1) b xs) (hi : a + 1 ≤ i) (hib : i ≤ b) (h1 : ∀ k, a + 1 ≤ k → k < i → lt (xs.getD k d) (xs.getD a d) = true) (h2 : ∀ k, i ≤ k → k < b → lt (xs.getD k d) (xs.getD a d) = false)
    (hr : RotOn d a (a + 1) i xs ys) : SrtOn d lt a b ys := by
  intro p q hp hpq hq
  rw [hr p, hr q]
  by_cases c1 : q < a + (i - (a + 1))
  · rw [if_pos (by omega), if_pos (by omega)]
    exact hs _ _ (by omega) (by omega) (by omega)
  · by_cases c2 : q = a + (i - (a + 1))
    · rw [if_neg (by omega), if_pos (by omega), if_pos (by omega)]
      have e : q - (i - (a + 1)) = a := by omega
      rw [e]
      exact hlt.asym _ _ (h1 _ (by omega) (by omega))
    · rw [if_neg (by omega), if_neg (by omega)]
      by_cases c3 : p < a + (i - (a + 1))
      · rw [if_pos (by omega)]; exact hs _ _ (by omega) (by omega) (by omega)
      · by_cases c4 : p = a + (i - (a + 1))
        · rw [if_neg (by omega), if_pos (by omega)]
          have e : p - (i - (a + 1)) = a := by omega
          rw [e]
          exact h2 _ (by omega) hq
        · rw [if_neg (by omega), if_neg (by omega)]
          exact hs _ _ (by omega) hpq hq

/-- The last one goes in among those ahead of it. -/
theorem ins_last (hlt : LtOk lt) {a m i : Nat} {xs ys : List α} (hs : SrtOn d lt a m xs) (hi : a ≤ i) (him : i ≤ m) (h1 : ∀ k, a ≤ k → k < i → lt (xs.getD m d) (xs.getD k d) = false) (h2 : ∀ k, i ≤ k → k < m → lt (xs.getD m d) (xs.getD k d) = true)
    (hr : RotOn d i m (m + 1) xs ys) : SrtOn d lt a (m + 1) ys := by
  intro p q hp hpq hq
  rw [hr p, hr q]
  by_cases c1 : q < i
  · rw [if_neg (by omega), if_neg (by omega), if_neg (by omega), if_neg (by omega)]
    exact hs _ _ hp hpq (by omega)
  · by_cases c2 : q = i
    · subst c2
      rw [if_pos (by omega), if_neg (by omega), if_neg (by omega)]
      have e : q - q + m = m := by omega
      rw [e]
      exact h1 _ hp (by omega)
    · rw [if_neg (by omega), if_pos (by omega)]
      by_cases c3 : p < i
      · rw [if_neg (by omega), if_neg (by omega)]; exact hs _ _ hp (by omega) (by omega)
      · by_cases c4 : p = i
        · subst c4
          rw [if_pos (by omega)]
          have e : p - p + m = m := by omega
          rw [e]
          exact hlt.asym _ _ (h2 _ (by omega) (by omega))
        · rw [if_neg (by omega), if_pos (by omega)]
          exact hs _ _ (by omega) (by omega) (by omega)

/-! ### The search -/
structure SymS (d : α) (lt : α → α → Bool) (lo hi p s r : Nat) (xs : List α) : Prop where
  l : lo ≤ s
  m : s ≤ r
  h : r ≤ hi
  lf : s = lo ∨ lt (xs.getD (p - (s - 1)) d) (xs.getD (s - 1) d) = false
  rt : r = hi ∨ lt (xs.getD (p - r) d) (xs.getD r d) = true

/-- All that goes left is no greater than all that goes right. -/
def Cross (d : α) (lt : α → α → Bool) (a mid b : Nat) (ys : List α) : Prop := ∀ i j, a ≤ i → i < mid → mid ≤ j → j < b → lt (ys.getD j d) (ys.getD i d) = false

theorem sym_cross (hlt : LtOk lt) {a m b mid lo hi s : Nat} {xs ys : List α} (h1 : SrtOn d lt a m xs) (h2 : SrtOn d lt m b xs) (ham : a < m) (hmb : m < b) (hmid : mid = (a + b) / 2)
    (hlh : (mid < m ∧ lo = mid + m - b ∧ hi = mid) ∨ (m ≤ mid ∧ lo = a ∧ hi = m)) (hs : SymS d lt lo hi (mid + m - 1) s s xs) (hr : RotOn d s m (mid + m - s) xs ys) :
    Cross d lt a mid b ys ∧ SrtOn d lt a s ys ∧ SrtOn d lt s mid ys ∧ SrtOn d lt mid (mid + m - s) ys ∧ SrtOn d lt (mid + m - s) b ys := by
  have hl := hs.l
  have hh := hs.h
  have g1 : a ≤ s ∧ s ≤ mid ∧ s ≤ m ∧ mid ≤ mid + m - s ∧ m ≤ mid + m - s ∧ mid + m - s ≤ b := by omega
  obtain ⟨g1, g2, g3, g4, g5, g6⟩ := g1
  generalize he : mid + m - s = e at *
  have r1 : ∀ p, a ≤ p → p < s → ys.getD p d = xs.getD p d := fun p _ _ => by rw [hr p, if_neg (by omega), if_neg (by omega)]
  have r2 : ∀ p, s ≤ p → p < mid → ys.getD p d = xs.getD (p - s + m) d := fun p _ _ => by rw [hr p, if_pos (by omega)]
  have r3 : ∀ p, mid ≤ p → p < e → ys.getD p d = xs.getD (p - (e - m)) d := fun p _ _ => by rw [hr p, if_neg (by omega), if_pos (by omega)]
  have r4 : ∀ p, e ≤ p → p < b → ys.getD p d = xs.getD p d := fun p _ _ => by rw [hr p, if_neg (by omega), if_neg (by omega)]
  refine ⟨?_, ?_, ?_, ?_, ?_⟩
  · intro i j hi1 hi2 hj1 hj2
    by_cases c1 : i < s
    · rw [r1 i hi1 c1]
      by_cases c2 : j < e
      · rw [r3 j hj1 c2]
        exact h1 _ _ hi1 (by omega) (by omega)
      · rw [r4 j (by omega) hj2]
        have hx : lt (xs.getD e d) (xs.getD (s - 1) d) = false := by
          rcases hs.lf with h | h
          · omega
          · have : mid + m - 1 - (s - 1) = e := by omega
            rw [this] at h
            exact h
        have k1 := h1.le hlt (i := i) (j := s - 1) hi1 (by omega) (by omega)
        have k2 := h2.le hlt (i := e) (j := j) (by omega) (by omega) hj2
        exact hlt.trans _ _ _ k1 (hlt.trans _ _ _ hx k2)
    · rw [r2 i (by omega) hi2]
      by_cases c2 : j < e
      · rw [r3 j hj1 c2]
        have hx : lt (xs.getD (e - 1) d) (xs.getD s d) = true := by
          rcases hs.rt with h | h
          · omega
          · have : mid + m - 1 - s = e - 1 := by omega
            rw [this] at h
            exact h
        have k1 := h2.le hlt (i := i - s + m) (j := e - 1) (by omega) (by omega) (by omega)
        have k2 := h1.le hlt (i := s) (j := j - (e - m)) (by omega) (by omega) (by omega)
        exact hlt.trans _ _ _ k1 (hlt.trans _ _ _ (hlt.asym _ _ hx) k2)
      · rw [r4 j (by omega) hj2]
        exact h2 _ _ (by omega) (by omega) hj2
  · intro i j hi1 hij hj
    rw [r1 i hi1 (by omega), r1 j (by omega) hj]
    exact h1 i j hi1 hij (by omega)
  · intro i j hi1 hij hj
    rw [r2 i hi1 (by omega), r2 j (by omega) hj]
    exact h2 _ _ (by omega) (by omega) (by omega)
  · intro i j hi1 hij hj
    rw [r3 i hi1 (by omega), r3 j (by omega) hj]
    exact h1 _ _ (by omega) (by omega) (by omega)
  · intro i j hi1 hij hj
    rw [r4 i hi1 (by omega), r4 j (by omega) hj]
    exact h2 _ _ (by omega) hij hj

theorem cross_merge {a mid b : Nat} {ys zs us : List α} (hc : Cross d lt a mid b ys) (h1 : Mv d a mid ys zs) (s1 : SrtOn d lt a mid zs) (h2 : Mv d mid b zs us) (s2 : SrtOn d lt mid b us) : SrtOn d lt a b us := by
  intro i j hi hij hj
  by_cases c1 : j < mid
  · rw [h2.out i (by omega), h2.out j (by omega)]
    exact s1 i j hi hij c1
  · by_cases c2 : i < mid
    · obtain ⟨j', g1, g2, g3⟩ := h2.ins j (by omega) hj
      rw [g3, h2.out i (by omega), h1.out j' (by omega)]
      obtain ⟨i', f1, f2, f3⟩ := h1.ins i hi c2
      rw [f3]
      exact hc i' j' f1 f2 g1 g2
    · exact s2 i j (by omega) hij hj

/-! ### Block by block -/
/-- Whole blocks below a are in order. -/
def UpTo (d : α) (lt : α → α → Bool) (bs a : Nat) (ys : List α) : Prop := ∃ t, a = t * bs ∧ ∀ s, s < t → SrtOn d lt (s * bs) ((s + 1) * bs) ys
/-- All blocks are in order. -/
def AllBl (d : α) (lt : α → α → Bool) (bs n : Nat) (ys : List α) : Prop := ∀ s, SrtOn d lt (s * bs) (min ((s + 1) * bs) n) ys
/-- Below a in greater blocks, from there on in smaller ones. -/
def Half (d : α) (lt : α → α → Bool) (bs n a : Nat) (ys : List α) : Prop := ∃ t, a = t * (2 * bs) ∧ (∀ s, s < t → SrtOn d lt (s * (2 * bs)) ((s + 1) * (2 * bs)) ys) ∧ ∀ s, 2 * t ≤ s → SrtOn d lt (s * bs) (min ((s + 1) * bs) n) ys

theorem UpTo.zero (bs : Nat) (ys : List α) : UpTo d lt bs 0 ys := ⟨0, by simp, fun s h => by omega⟩

theorem UpTo.next {bs a : Nat} {ys zs : List α} (h : UpTo d lt bs a ys) (hm : Mv d a (a + bs) ys zs) (hs : SrtOn d lt a (a + bs) zs) : UpTo d lt bs (a + bs) zs := by
  obtain ⟨t, rfl, h2⟩ := h
  refine ⟨t + 1, by rw [Nat.succ_mul], fun s hst => ?_⟩
  by_cases e : s = t
  · subst e; rw [Nat.succ_mul]; exact hs
  · have hle : (s + 1) * bs ≤ t * bs := Nat.mul_le_mul_right _ (by omega)
    exact (h2 s (by omega)).cong fun k _ hk => hm.out k (.inl (by omega))

theorem UpTo.done {bs a n : Nat} {ys zs : List α} (h : UpTo d lt bs a ys) (han : a ≤ n) (hn : n < a + bs) (hm : Mv d a n ys zs) (hs : SrtOn d lt a n zs) : AllBl d lt bs n zs := by
  obtain ⟨t, rfl, h2⟩ := h
  intro s
  by_cases c : s < t
  · have hle : (s + 1) * bs ≤ t * bs := Nat.mul_le_mul_right _ (by omega)
    rw [Nat.min_eq_left (by omega)]
    exact (h2 s c).cong fun k _ hk => hm.out k (.inl (by omega))
  · by_cases e : s = t
    · subst e
      rw [Nat.min_eq_right (by rw [Nat.succ_mul]; omega)]
      exact hs
    · have hle : (t + 1) * bs ≤ s * bs := Nat.mul_le_mul_right _ (by omega)
      rw [Nat.succ_mul] at hle
      intro i j h1 h2 h3
      have := Nat.min_le_right ((s + 1) * bs) n
      omega

theorem Half.zero {bs n : Nat} {ys : List α} (h : AllBl d lt bs n ys) : Half d lt bs n 0 ys := ⟨0, by simp, fun s h => by omega, fun s _ => h s⟩

theorem Half.two {bs n a : Nat} {ys : List α} (h : Half d lt bs n a ys) (hab : a + bs ≤ n) : SrtOn d lt a (a + bs) ys ∧ SrtOn d lt (a + bs) (min (a + 2 * bs) n) ys := by
  obtain ⟨t, rfl, h2, h3⟩ := h
  have e1 : 2 * t * bs = t * (2 * bs) := by rw [Nat.mul_comm 2 t, Nat.mul_assoc]
  have e2 : (2 * t + 1) * bs = t * (2 * bs) + bs := by rw [Nat.succ_mul, e1]
  have e3 : (2 * t + 1 + 1) * bs = t * (2 * bs) + 2 * bs := by rw [Nat.succ_mul, e2]; omega
  have k1 := h3 (2 * t) (Nat.le_refl _)
  have k2 := h3 (2 * t + 1) (by omega)
  rw [e2, e1, Nat.min_eq_left hab] at k1
  rw [e3, e2] at k2
  exact ⟨k1, k2⟩

theorem Half.next {bs n a : Nat} {ys zs : List α} (h : Half d lt bs n a ys) (hm : Mv d a (a + 2 * bs) ys zs) (hs : SrtOn d lt a (a + 2 * bs) zs) : Half d lt bs n (a + 2 * bs) zs := by
  obtain ⟨t, rfl, h2, h3⟩ := h
  refine ⟨t + 1, (Nat.succ_mul t (2 * bs)).symm, fun s hst => ?_, fun s hst => ?_⟩
  · by_cases e : s = t
    · subst e; rw [Nat.succ_mul s (2 * bs)]; exact hs
    · have hle : (s + 1) * (2 * bs) ≤ t * (2 * bs) := Nat.mul_le_mul_right _ (by omega)
      exact (h2 s (by omega)).cong fun k _ hk => hm.out k (.inl (by omega))
  · have hle : (2 * t + 2) * bs ≤ s * bs := Nat.mul_le_mul_right _ (by omega)
    have e1 : (2 * t + 2) * bs = t * (2 * bs) + 2 * bs := by rw [Nat.add_mul, Nat.mul_comm 2 t, Nat.mul_assoc]
    exact (h3 s (by omega)).cong fun k hk _ => hm.out k (.inr (by omega))

theorem Half.done {bs n a : Nat} {ys zs : List α} (h : Half d lt bs n a ys) (han : a ≤ n) (hn : n < a + 2 * bs) (hm : Mv d a n ys zs) (hs : SrtOn d lt a n zs) : AllBl d lt (2 * bs) n zs := by
  obtain ⟨t, rfl, h2, _⟩ := h
  exact UpTo.done ⟨t, rfl, h2⟩ han hn hm hs

theorem AllBl.all {bs n : Nat} {ys : List α} (h : AllBl d lt bs n ys) (hn : n ≤ bs) : SrtOn d lt 0 n ys := by
  have := h 0
  rwa [Nat.zero_mul, Nat.zero_add, Nat.one_mul, Nat.min_eq_right hn] at this

end
end Go.Fw

/-
  Ways of a transducer, in the plain; what it is to be the least of some costs.
-/
namespace Go.Fw
open Go

/-! ### Arcs in order -/
theorem aheadB_trans {a b c : Arc} (h1 : aheadB a b = true) (h2 : aheadB b c = true) : aheadB a c = true := by
  unfold aheadB at *
  repeat' split at h1
  all_goals repeat' split at h2
  all_goals repeat' split
  all_goals simp only [decide_eq_true_eq, Bool.false_eq_true] at *
  all_goals omega

theorem aheadB_irr (a : Arc) : aheadB a a = false := by simp [aheadB]

theorem aheadB_asymm {a b : Arc} (h1 : aheadB a b = true) : aheadB b a = false := by
  cases h : aheadB b a with
  | false => rfl
  | true => have := aheadB_trans h1 h; rw [aheadB_irr] at this; cases this

def Srt (l : List Arc) : Prop := l.Pairwise fun a b => aheadB a b = true

theorem arcsE_iff {st : Int} : ∀ (l : List Arc) (p : Option Arc), arcsE st p l = 0 ↔ (∀ a ∈ l, ArcOk st a) ∧ Srt l ∧ ∀ b, p = some b → ∀ a ∈ l, aheadB b a = true
  | [], p => by simp [arcsE_nil, Srt]
  | x :: l, p => by
    rw [arcsE_cons]
    have ih := arcsE_iff (st := st) l (some x)
    have hx : ArcOk st x ↔ arcOk st x = true ∧ arcIn x = true := by
      simp only [arcOk, arcIn, Bool.and_eq_true, decide_eq_true_eq]
      constructor
      · intro h; have := h.f0; have := h.f1; have := h.t0; have := h.t1; have := h.w0; have := h.w1; have := h.i0; have := h.o0; omega
      · intro h; exact ⟨by omega, by omega, by omega, by omega, by omega, by omega, by omega, by omega⟩
    cases h1 : arcOk st x with
    | false =>
      simp only [Bool.not_false, if_true]
      constructor
      · intro h; cases h
      · intro h; have := hx.1 (h.1 x (by simp)); rw [h1] at this; cases this.1
    | true =>
      cases h2 : arcIn x with
      | false =>
        simp only [Bool.not_true, Bool.false_eq_true, if_false, Bool.not_false, if_true]
        constructor
        · intro h; cases h
        · intro h; have := hx.1 (h.1 x (by simp)); rw [h2] at this; cases this.2
      | true =>
        have hxo := hx.2 ⟨h1, h2⟩
        simp only [Bool.not_true, Bool.false_eq_true, if_false]
        cases p with
        | none =>
          simp only [Bool.false_eq_true, if_false, ih]
          simp only [List.mem_cons, forall_eq_or_imp, Srt, List.pairwise_cons, reduceCtorEq, false_implies, implies_true, and_true, Option.some.injEq, forall_eq']
          constructor
          · rintro ⟨g1, g2, g3⟩; exact ⟨⟨hxo, g1⟩, g3, g2⟩
          · rintro ⟨⟨_, g1⟩, g3, g2⟩; exact ⟨g1, g2, g3⟩
        | some b =>
          simp only
          by_cases h3 : aheadB b x = true
          · rw [if_neg (by rw [h3]; decide), ih]
            simp only [List.mem_cons, forall_eq_or_imp, Srt, List.pairwise_cons, Option.some.injEq, forall_eq']
            constructor
            · rintro ⟨g1, g2, g3⟩; exact ⟨⟨hxo, g1⟩, ⟨g3, g2⟩, h3, fun a ha => aheadB_trans h3 (g3 a ha)⟩
            · rintro ⟨⟨_, g1⟩, ⟨g3, g2⟩, _, _⟩; exact ⟨g1, g2, g3⟩
          · rw [if_pos (by simp [h3])]
            constructor
            · intro h; cases h
            · intro h; exact absurd (h.2.2 b rfl x (by simp)) h3

theorem fstE_iff {F : TF} : fstE F = 0 ↔ FOk F ∧ Srt F.arcs := by
  constructor
  · intro h
    refine ⟨fstE_ok h, ?_⟩
    unfold fstE at h
    split at h
    · cases h
    split at h
    · cases h
    split at h
    · cases h
    split at h
    · cases h
    split at h
    · cases h
    exact ((arcsE_iff _ _).1 h).2.1
  · rintro ⟨h, h2⟩
    have := h.st
    have := h.start
    have := h.arcl
    unfold fstE
    rw [if_neg (by omega), if_neg (by omega), if_neg (by have := h.finl; omega), if_neg (fun c => c h.fin), if_neg (by omega)]
    exact (arcsE_iff _ _).2 ⟨h.arc, h2, fun b hb => by cases hb⟩

/-! ### Ways -/
/-- What a label says. -/
def lab (x : Int) : List Int := if x = 0 then [] else [x]

/-- A way from a state to a state: what it reads, writes, costs. -/
inductive Way (L : List Arc) : Int → List Int → List Int → Int → Int → Prop
  | nil (s : Int) : Way L s [] [] s 0
  | cons {a : Arc} {u v : List Int} {t c : Int} (ha : a ∈ L) (h : Way L a.t u v t c) : Way L a.f (lab a.i ++ u) (lab a.o ++ v) t (a.w + c)

theorem Way.app {L : List Arc} {s t r : Int} {u v u' v' : List Int} {c d : Int} (h : Way L s u v t c) (h' : Way L t u' v' r d) : Way L s (u ++ u') (v ++ v') r (c + d) := by
  induction h with
  | nil s => simpa using h'
  | cons ha h ih =>
    rw [List.append_assoc, List.append_assoc, Int.add_assoc]
    exact .cons ha (ih h')

theorem Way.one {L : List Arc} {a : Arc} (ha : a ∈ L) : Way L a.f (lab a.i) (lab a.o) a.t a.w := by
  have := Way.cons ha (.nil a.t)
  simpa using this

theorem Way.snoc {L : List Arc} {s : Int} {u v : List Int} {c : Int} {a : Arc} (h : Way L s u v a.f c) (ha : a ∈ L) : Way L s (u ++ lab a.i) (v ++ lab a.o) a.t (c + a.w) := h.app (.one ha)

theorem Way.mono {L L' : List Arc} (hL : ∀ a ∈ L, a ∈ L') {s t : Int} {u v : List Int} {c : Int} (h : Way L s u v t c) : Way L' s u v t c := by
  induction h with
  | nil s => exact .nil s
  | cons ha h ih => exact .cons (hL _ ha) ih

theorem Way.pos {L : List Arc} {st : Int} (hL : ∀ a ∈ L, ArcOk st a) {s t : Int} {u v : List Int} {c : Int} (h : Way L s u v t c) : 0 ≤ c := by
  induction h with
  | nil s => exact Int.le_refl _
  | cons ha h ih => have := (hL _ ha).w0; omega

theorem Way.rng {L : List Arc} {st : Int} (hL : ∀ a ∈ L, ArcOk st a) {s t : Int} {u v : List Int} {c : Int} (h : Way L s u v t c) (hs : 0 ≤ s ∧ s < st) : 0 ≤ t ∧ t < st := by
  induction h with
  | nil s => exact hs
  | cons ha h ih => exact ih ⟨(hL _ ha).t0, (hL _ ha).t1⟩

/-- What a pair of words may cost. -/
def Wt (F : TF) (u v : List Int) (c : Int) : Prop := ∃ t d, Way F.arcs F.start u v t d ∧ F.fin.getD t.toNat 0 ≠ -1 ∧ c = d + F.fin.getD t.toNat 0

theorem Wt.pos {F : TF} (hF : FOk F) {u v : List Int} {c : Int} (h : Wt F u v c) : 0 ≤ c := by
  obtain ⟨t, d, h1, h2, rfl⟩ := h
  have h3 := h1.pos hF.arc
  have h4 := h1.rng hF.arc hF.start
  have h5 := hF.fin _ (getD_mem F.fin t.toNat 0 (by have := hF.finl; omega))
  omega

/-- The least of some costs; -1: there is none. -/
def MinOf (P : Int → Prop) (n : Int) : Prop := (n = -1 ∧ ∀ c, ¬ P c) ∨ (0 ≤ n ∧ P n ∧ ∀ c, P c → n ≤ c)

theorem MinOf.eq {P Q : Int → Prop} {m n : Int} (hm : MinOf P m) (hn : MinOf Q n) (h : ∀ c, P c ↔ Q c) : m = n := by
  rcases hm with ⟨rfl, h1⟩ | ⟨h0, h1, h2⟩ <;> rcases hn with ⟨rfl, g1⟩ | ⟨g0, g1, g2⟩
  · rfl
  · exact absurd ((h n).2 g1) (h1 n)
  · exact absurd ((h m).1 h1) (g1 m)
  · have := h2 n ((h n).2 g1); have := g2 m ((h m).1 h1); omega

theorem MinOf.le {P : Int → Prop} {n c : Int} (h : MinOf P n) (hc : P c) : n ≠ -1 ∧ n ≤ c := by
  rcases h with ⟨_, h⟩ | ⟨h0, _, h2⟩
  · exact absurd hc (h c)
  · exact ⟨by omega, h2 c hc⟩

theorem MinOf.is {P : Int → Prop} {n : Int} (h : MinOf P n) (hn : n ≠ -1) : P n := by
  rcases h with ⟨h, _⟩ | ⟨_, h, _⟩
  · exact absurd h hn
  · exact h

theorem MinOf.low {P : Int → Prop} {n : Int} (h : MinOf P n) : -1 ≤ n := by
  rcases h with ⟨h, _⟩ | ⟨h, _⟩ <;> omega

end Go.Fw

/-
  The order by which arcs are sorted, in the plain.
-/
namespace Go.Fw
open Go

def cmpW (a b : Arc) : Int := orI [orderI a b, cmpI a.w b.w]
def ltW (a b : Arc) : Bool := decide (cmpW a b < 0)
def sameK (a b : Arc) : Bool := decide (orderI a b = 0)

theorem cmpI_neg {x y : Int} : cmpI x y < 0 ↔ x < y := by
  unfold cmpI
  by_cases h1 : x < y
  · simp [h1]
  · by_cases h2 : x > y <;> simp [h1, h2]

theorem orI_neg {x y : Int} {l : List Int} : orI (cmpI x y :: l) < 0 ↔ x < y ∨ (x = y ∧ orI l < 0) := by
  by_cases e : x = y
  · subst e; rw [cmpI_self, orI_next]; omega
  · rw [orI_first (cmpI_ne e), cmpI_neg]; omega

theorem orI_zero {x y : Int} {l : List Int} : orI (cmpI x y :: l) = 0 ↔ (x = y ∧ orI l = 0) := by
  by_cases e : x = y
  · subst e; rw [cmpI_self, orI_next]; simp
  · rw [orI_first (cmpI_ne e)]
    have := cmpI_ne e
    omega

theorem orI_nil : orI [] = 0 := rfl

theorem orderI_neg {a b : Arc} : orderI a b < 0 ↔ a.f < b.f ∨ a.f = b.f ∧ (a.i < b.i ∨ a.i = b.i ∧ (a.o < b.o ∨ a.o = b.o ∧ (a.t < b.t ∨ a.t = b.t ∧ (0 : Int) < 0))) := by
  unfold orderI
  rw [orI_neg, orI_neg, orI_neg, orI_neg, orI_nil]
theorem orderI_zero {a b : Arc} : orderI a b = 0 ↔ a.f = b.f ∧ a.i = b.i ∧ a.o = b.o ∧ a.t = b.t := by
  unfold orderI
  rw [orI_zero, orI_zero, orI_zero, orI_zero, orI_nil]
  simp

theorem ltW_iff {a b : Arc} : ltW a b = true ↔ a.f < b.f ∨ a.f = b.f ∧ (a.i < b.i ∨ a.i = b.i ∧ (a.o < b.o ∨ a.o = b.o ∧ (a.t < b.t ∨ a.t = b.t ∧ a.w < b.w))) := by
  unfold ltW cmpW
  rw [decide_eq_true_eq]
  by_cases h : orderI a b = 0
  · rw [h, orI_next, orI_neg, orI_nil]
    have := orderI_zero.1 h
    omega
  · rw [orI_first h]
    have h1 := orderI_neg (a := a) (b := b)
    have h2 := mt orderI_zero.2 h
    omega

theorem ltW_ok : LtOk ltW := by
  constructor
  · intro x y h
    rw [ltW_iff] at h
    rw [← Bool.not_eq_true, ltW_iff]
    omega
  · intro x y z h1 h2
    rw [← Bool.not_eq_true, ltW_iff] at h1 h2 ⊢
    omega

theorem SrtOn.less {α : Type} {d : α} {lt : α → α → Bool} {a b c : Nat} {xs : List α} (h : SrtOn d lt a b xs) (hc : c ≤ b) : SrtOn d lt a c xs := fun i j h1 h2 h3 => h i j h1 h2 (by omega)

/-! ### Searches -/
section
variable {α : Type} {d : α} {lt : α → α → Bool}

/-- Where the first one goes, among those behind it. -/
structure SeaA (d : α) (lt : α → α → Bool) (a b i j : Nat) (xs : List α) : Prop where
  l : a + 1 ≤ i
  ij : i ≤ j
  h : j ≤ b
  lo : ∀ k, a + 1 ≤ k → k < i → lt (xs.getD k d) (xs.getD a d) = true
  hi : ∀ k, j ≤ k → k < b → lt (xs.getD k d) (xs.getD a d) = false

theorem SeaA.start {a b : Nat} {xs : List α} (h : a + 1 ≤ b) : SeaA d lt a b (a + 1) b xs := ⟨Nat.le_refl _, h, Nat.le_refl _, fun k h1 h2 => by omega, fun k h1 h2 => by omega⟩

theorem SeaA.up (hlt : LtOk lt) {a b i j : Nat} {xs : List α} (hs : SrtOn d lt (a + 1) b xs) (h : SeaA d lt a b i j xs) (hij : i < j) (hc : lt (xs.getD ((i + j) / 2) d) (xs.getD a d) = true) : SeaA d lt a b ((i + j) / 2 + 1) j xs := by
  have h1 := h.l
  have h2 := h.h
  refine ⟨by omega, by omega, h2, fun k g1 g2 => ?_, h.hi⟩
  cases e : lt (xs.getD k d) (xs.getD a d) with
  | true => rfl
  | false =>
    have := hlt.trans _ _ _ e (hs.le hlt (i := k) (j := (i + j) / 2) g1 (by omega) (by omega))
    rw [hc] at this; cases this

theorem SeaA.down (hlt : LtOk lt) {a b i j : Nat} {xs : List α} (hs : SrtOn d lt (a + 1) b xs) (h : SeaA d lt a b i j xs) (hij : i < j) (hc : lt (xs.getD ((i + j) / 2) d) (xs.getD a d) = false) : SeaA d lt a b i ((i + j) / 2) xs := by
  have h1 := h.l
  have h2 := h.h
  exact ⟨h1, by omega, by omega, h.lo, fun k g1 g2 => hlt.trans _ _ _ hc (hs.le hlt (i := (i + j) / 2) (j := k) (by omega) g1 g2)⟩

/-- Where the last one goes, among those ahead of it. -/
structure SeaB (d : α) (lt : α → α → Bool) (a m i j : Nat) (xs : List α) : Prop where
  l : a ≤ i
  ij : i ≤ j
  h : j ≤ m
  lo : ∀ k, a ≤ k → k < i → lt (xs.getD m d) (xs.getD k d) = false
  hi : ∀ k, j ≤ k → k < m → lt (xs.getD m d) (xs.getD k d) = true

theorem SeaB.start {a m : Nat} {xs : List α} (h : a ≤ m) : SeaB d lt a m a m xs := ⟨Nat.le_refl _, h, Nat.le_refl _, fun k h1 h2 => by omega, fun k h1 h2 => by omega⟩

theorem SeaB.up (hlt : LtOk lt) {a m i j : Nat} {xs : List α} (hs : SrtOn d lt a m xs) (h : SeaB d lt a m i j xs) (hij : i < j) (hc : lt (xs.getD m d) (xs.getD ((i + j) / 2) d) = false) : SeaB d lt a m ((i + j) / 2 + 1) j xs := by
  have h1 := h.l
  have h2 := h.h
  exact ⟨by omega, by omega, h2, fun k g1 g2 => hlt.trans _ _ _ (hs.le hlt (i := k) (j := (i + j) / 2) g1 (by omega) (by omega)) hc, h.hi⟩

theorem SeaB.down (hlt : LtOk lt) {a m i j : Nat} {xs : List α} (hs : SrtOn d lt a m xs) (h : SeaB d lt a m i j xs) (hij : i < j) (hc : lt (xs.getD m d) (xs.getD ((i + j) / 2) d) = true) : SeaB d lt a m i ((i + j) / 2) xs := by
  have h1 := h.l
  have h2 := h.h
  refine ⟨h1, by omega, by omega, h.lo, fun k g1 g2 => ?_⟩
  cases e : lt (xs.getD m d) (xs.getD k d) with
  | true => rfl
  | false =>
    have := hlt.trans _ _ _ (hs.le hlt (i := (i + j) / 2) (j := k) (by omega) g1 g2) e
    rw [hc] at this; cases this

theorem Half.low {bs n a : Nat} {ys : List α} (h : Half d lt bs n a ys) (hab : n ≤ a + bs) : SrtOn d lt a n ys := by
  obtain ⟨t, rfl, h2, h3⟩ := h
  have e1 : 2 * t * bs = t * (2 * bs) := by rw [Nat.mul_comm 2 t, Nat.mul_assoc]
  have e2 : (2 * t + 1) * bs = t * (2 * bs) + bs := by rw [Nat.succ_mul, e1]
  have k1 := h3 (2 * t) (Nat.le_refl _)
  rw [e2, e1, Nat.min_eq_right hab] at k1
  exact k1

theorem SymS.up {lo hi p s r : Nat} {xs : List α} (h : SymS d lt lo hi p s r xs) (hsr : s < r) (hc : lt (xs.getD (p - (s + r) / 2) d) (xs.getD ((s + r) / 2) d) = false) : SymS d lt lo hi p ((s + r) / 2 + 1) r xs := by
  have h1 := h.l
  have h2 := h.h
  exact ⟨by omega, by omega, h2, .inr (by rw [Nat.add_sub_cancel]; exact hc), h.rt⟩

theorem SymS.down {lo hi p s r : Nat} {xs : List α} (h : SymS d lt lo hi p s r xs) (hsr : s < r) (hc : lt (xs.getD (p - (s + r) / 2) d) (xs.getD ((s + r) / 2) d) = true) : SymS d lt lo hi p s ((s + r) / 2) xs := by
  have h1 := h.l
  have h2 := h.h
  exact ⟨h1, by omega, by omega, h.lf, .inr hc⟩

end
end Go.Fw

/-
  Of arcs that are the same the first one, in the plain.
-/
namespace Go.Fw
open Go

abbrev aD : Arc := ⟨0, 0, 0, 0, 0⟩

def compL : Arc → List Arc → List Arc
  | _, [] => []
  | p, x :: l => if sameK x p then compL x l else x :: compL x l
def comp : List Arc → List Arc
  | [] => []
  | x :: l => x :: compL x l

theorem compL_snoc : ∀ (l : List Arc) (p x : Arc), compL p (l ++ [x]) = compL p l ++ (if sameK x ((p :: l).getLast (by simp)) then [] else [x])
  | [], p, x => rfl
  | y :: l, p, x => by
    have ih := compL_snoc l y x
    simp only [List.cons_append, compL]
    have e : (p :: y :: l).getLast (by simp) = (y :: l).getLast (by simp) := by simp
    rw [e]
    split
    · exact ih
    · rw [ih]; rfl

theorem comp_snoc (l : List Arc) (x : Arc) (h : l ≠ []) : comp (l ++ [x]) = comp l ++ (if sameK x (l.getLast h) then [] else [x]) := by
  cases l with
  | nil => exact absurd rfl h
  | cons y l => simp only [List.cons_append, comp]; rw [compL_snoc]

theorem comp_take (l : List Arc) (k : Nat) (h1 : 1 ≤ k) (h2 : k < l.length) : comp (l.take (k + 1)) = comp (l.take k) ++ (if sameK (l.getD k aD) (l.getD (k - 1) aD) then [] else [l.getD k aD]) := by
  have hne : l.take k ≠ [] := by
    intro c
    have := congrArg List.length c
    rw [List.length_take, List.length_nil] at this
    omega
  rw [take_succ_getD l k aD h2, comp_snoc _ _ hne]
  have e : (l.take k).getLast hne = l.getD (k - 1) aD := by
    have hlt : k - 1 < (l.take k).length := by rw [List.length_take]; omega
    rw [List.getLast_eq_getElem]
    have e2 : (l.take k).length - 1 = k - 1 := by rw [List.length_take]; omega
    simp only [e2, List.getElem_take]
    simp [List.getD, show k - 1 < l.length by omega]
  rw [e]

theorem comp_short (l : List Arc) (h : l.length < 2) : comp l = l := by
  cases l with
  | nil => rfl
  | cons x l =>
    cases l with
    | nil => rfl
    | cons y l => simp only [List.length_cons] at h; omega

theorem comp_one (l : List Arc) : comp (l.take 1) = l.take 1 := comp_short _ (by rw [List.length_take]; omega)

/-- While the first k are put where they go. -/
structure CompIn (xs : List Arc) (k n : Nat) (ys : List Arc) : Prop where
  len : ys.length = xs.length
  kn : k + 1 ≤ n
  nl : n ≤ xs.length
  k1 : 1 ≤ k
  tk : ys.take k = comp (xs.take n)
  un : ∀ i, n - 1 ≤ i → ys.getD i aD = xs.getD i aD

theorem CompIn.start {xs : List Arc} {k : Nat} (h1 : 1 ≤ k) (h2 : k < xs.length) (hc : comp (xs.take k) = xs.take k) (hs : sameK (xs.getD k aD) (xs.getD (k - 1) aD) = true) : CompIn xs k (k + 1) xs :=
  ⟨rfl, Nat.le_refl _, h2, h1, by rw [comp_take xs k h1 h2, hs, if_pos rfl, List.append_nil, hc], fun _ _ => rfl⟩

theorem CompIn.skip {xs ys : List Arc} {k n : Nat} (h : CompIn xs k n ys) (hn : n < xs.length) (hs : sameK (xs.getD n aD) (xs.getD (n - 1) aD) = true) : CompIn xs k (n + 1) ys := by
  have := h.kn
  have := h.k1
  exact ⟨h.len, by omega, hn, h.k1, by rw [comp_take xs n (by omega) hn, hs, if_pos rfl, List.append_nil, h.tk], fun i hi => h.un i (by omega)⟩

theorem CompIn.put {xs ys : List Arc} {k n : Nat} (h : CompIn xs k n ys) (hn : n < xs.length) (hs : sameK (xs.getD n aD) (xs.getD (n - 1) aD) = false) : CompIn xs (k + 1) (n + 1) (ys.set k (xs.getD n aD)) := by
  have h1 := h.kn
  have h2 := h.k1
  have h3 := h.len
  refine ⟨by simp [h3], by omega, hn, by omega, ?_, fun i hi => ?_⟩
  · rw [comp_take xs n (by omega) hn, hs, if_neg (by simp), ← h.tk]
    rw [take_succ_getD _ k aD (by simp; omega), List.take_set_of_le (Nat.le_refl _)]
    congr 1
    simp [List.getD, show k < ys.length by omega]
  · rw [getD_set', if_neg (by omega)]
    exact h.un i (by omega)

theorem CompIn.done {xs ys : List Arc} {k : Nat} (h : CompIn xs k xs.length ys) : (comp xs).length = k ∧ ys = comp xs ++ ys.drop k := by
  have h1 := h.kn
  have h3 := h.len
  have e := h.tk
  rw [List.take_length] at e
  rw [← e, List.length_take]
  exact ⟨by omega, (List.take_append_drop k ys).symm⟩

end Go.Fw

namespace Go.Fw
open Go Go.Proofs

set_option maxHeartbeats 4000000 in
set_option maxRecDepth 20000 in
theorem swapRange_c (xs : List Arc) (cap sp a b n : Nat) (hab : a + n ≤ b) (hb : b + n ≤ xs.length) (hl : xs.length ≤ 1000000) : Ct Try.prog 137 [.c (.sl 0 5 0 xs.length cap), .i a, .i b, .i n, .c (.fn 115 [])] [] [(0, .arr true 47 .arc xs sp)] 1
    (fun v s => ∃ ys, v = .u ∧ s = ⟨[], [(0, .arr true 47 .arc ys sp)], 1⟩ ∧ Mv aD a (b + n) xs ys ∧ SwOn aD a b n xs ys) := by
  refine ctW Try.tyOk 11 [] Try.func137 rfl (by simp [SV.lt, SA.lt, SC.lt, arcV, fV]) (by simp) (fr := [(0, .c (.sl 0 5 0 xs.length cap)), (1, .i a), (2, .i b), (3, .i n), (4, .c (.fn 115 []))]) rfl ?_
  repeat' (first | exact rfl | ((conv => whnf); first | ((first | refine qA (fun h => ?_) fun h => ?_ | refine qN (fun h => ?_) fun h => ?_ | refine qB (fun h => ?_) fun h => ?_ | refine qC (fun h => ?_) fun h => ?_) <;> try exact absurd h (by omega)) | refine qM (fun h => ?_) fun h => ?_ | refine oM (by (first | omega | (simp only [lenS, InI, nmin, EK.sz]; omega) | (simp only [lenS, InI, nmin, EK.sz] at *; omega))) ?_ | refine oM ?_ ?_ | refine bM ?_ ?_ | refine draw_of Try.mixed Try.tyOk 60 (by kernel_rfl) ?_))
  (conv => whnf)
  refine loopI (fun y : Nat × List Arc => ⟨[(0, .c (.sl 0 5 0 xs.length cap)), (1, .i a), (2, .i b), (3, .i n), (10, .i y.1)], [(0, .arr true 47 .arc y.2 sp)], 1⟩)
    (fun y => y.1 ≤ n ∧ Mv aD a (b + n) xs y.2 ∧ SwOn aD a b y.1 xs y.2) (fun y => n - y.1) (0, xs) [] ⟨by rfl, ?_, ?_⟩ ⟨by omega, Mv.refl _ _ _, SwOn.zero _ _ _⟩ ?_
  · simp [eqFr, eqHp, eqV, eqA, eqC, eqO, eqCs, eqAs, look_cons, look, rn, EK.cast, EK.sz, eqCaps]
  · simp [eqFr, eqHp, eqV, eqA, eqC, eqO, eqCs, eqAs, look_cons, look, rn, EK.cast, EK.sz, eqCaps]
  · rintro ⟨k, ys⟩ ⟨hk, hm, hs⟩
    simp only at hk hm hs ⊢
    have hyl := hm.len
    have e1 : ((a : Int) + k).toNat = a + k := by omega
    have e2 : ((b : Int) + k).toNat = b + k := by omega
    repeat' (first | exact rfl | ((conv => whnf); first | ((first | refine qA (fun h => ?_) fun h => ?_ | refine qN (fun h => ?_) fun h => ?_ | refine qB (fun h => ?_) fun h => ?_ | refine qC (fun h => ?_) fun h => ?_) <;> try exact absurd h (by omega)) | refine qM (fun h => ?_) fun h => ?_ | refine oM (by (first | omega | (simp only [lenS, InI, nmin, EK.sz]; omega) | (simp only [lenS, InI, nmin, EK.sz] at *; omega))) ?_ | refine oM ?_ ?_ | refine bM ?_ ?_ | refine draw_of Try.mixed Try.tyOk 60 (by kernel_rfl) ?_))
    · (conv => whnf)
      refine ⟨(k + 1, swapL aD ys (a + k) (b + k)), [], ⟨by rfl, ?_, ?_⟩, ⟨by simp only; omega, hm.trans (swapL_mv (by omega) (by omega) (by omega)), hs.step hyl (by omega) hab hb⟩, by simp only; omega⟩
      · simp [eqFr, eqHp, eqV, eqA, eqC, eqO, eqCs, eqAs, look_cons, look, rn, EK.cast, EK.sz, eqCaps]
      · simp [eqFr, eqHp, eqV, eqA, eqC, eqO, eqCs, eqAs, look_cons, look, rn, EK.cast, EK.sz, eqCaps, swapL, e1, e2, EK.dflt]
    · have e : k = n := by omega
      subst e
      (conv => whnf)
      exact ⟨[], [(0, .arr true 47 .arc ys sp)], 1, .u, ⟨by rfl, trivial, by simp [eqFr, eqHp, eqV, eqA, eqC, eqO, eqCs, eqAs, look_cons, look, rn, EK.cast, EK.sz, eqCaps]⟩, by simp [eqV, eqAs], ys, rfl, rfl, hm, hs⟩

set_option maxHeartbeats 4000000 in
set_option maxRecDepth 20000 in
theorem rotate_c (xs : List Arc) (cap sp a m b : Nat) (ham : a < m) (hmb : m < b) (hb : b ≤ xs.length) (hl : xs.length ≤ 1000000) : Ct Try.prog 136 [.c (.sl 0 5 0 xs.length cap), .i a, .i m, .i b, .c (.fn 115 [])] [] [(0, .arr true 47 .arc xs sp)] 1
    (fun v s => ∃ ys, v = .u ∧ s = ⟨[], [(0, .arr true 47 .arc ys sp)], 1⟩ ∧ Mv aD a b xs ys ∧ RotOn aD a m b xs ys) := by
  refine ctW Try.tyOk 12 [] Try.func136 rfl (by simp [SV.lt, SA.lt, SC.lt, arcV, fV]) (by simp) (fr := [(0, .c (.sl 0 5 0 xs.length cap)), (1, .i a), (2, .i m), (3, .i b), (4, .c (.fn 115 []))]) rfl ?_
  repeat' (first | exact rfl | ((conv => whnf); first | ((first | refine qA (fun h => ?_) fun h => ?_ | refine qN (fun h => ?_) fun h => ?_ | refine qB (fun h => ?_) fun h => ?_ | refine qC (fun h => ?_) fun h => ?_) <;> try exact absurd h (by omega)) | refine qM (fun h => ?_) fun h => ?_ | refine oM (by (first | omega | (simp only [lenS, InI, nmin, EK.sz]; omega) | (simp only [lenS, InI, nmin, EK.sz] at *; omega))) ?_ | refine oM ?_ ?_ | refine bM ?_ ?_ | refine draw_of Try.mixed Try.tyOk 60 (by kernel_rfl) ?_))
  (conv => whnf)
  refine loopI (fun y : Nat × Nat × List Arc => ⟨[(0, .c (.sl 0 5 0 xs.length cap)), (1, .i a), (2, .i m), (3, .i b), (4, .c (.fn 115 [])), (10, .i y.1), (11, .i y.2.1)], [(0, .arr true 47 .arc y.2.2 sp)], 1⟩)
    (fun y => 0 < y.1 ∧ 0 < y.2.1 ∧ y.1 ≤ m - a ∧ y.2.1 ≤ b - m ∧ Mv aD a b xs y.2.2 ∧ ∀ us, RotOn aD (m - y.1) m (m + y.2.1) y.2.2 us → RotOn aD a m b xs us) (fun y => y.1 + y.2.1) (m - a, b - m, xs) [] ⟨by rfl, ?_, ?_⟩ ⟨by simp only; omega, by simp only; omega, Nat.le_refl _, Nat.le_refl _, Mv.refl _ _ _, ?_⟩ ?_
  · simp [eqFr, eqHp, eqV, eqA, eqC, eqO, eqCs, eqAs, look_cons, look, rn, EK.cast, EK.sz, eqCaps]
    omega
  · simp [eqFr, eqHp, eqV, eqA, eqC, eqO, eqCs, eqAs, look_cons, look, rn, EK.cast, EK.sz, eqCaps]
  · intro us h
    have e1 : m - (m - a) = a := by omega
    have e2 : m + (b - m) = b := by omega
    simp only [e1, e2] at h
    exact h
  · rintro ⟨i, j, ys⟩ ⟨hi, hj, him, hjm, hm, hr⟩
    simp only at hi hj him hjm hm hr ⊢
    have hyl := hm.len
    have ec1 : ((m : Int) - i) = ((m - i : Nat) : Int) := by omega
    have ec2 : ((m : Int) + j - i) = ((m + j - i : Nat) : Int) := by omega
    have ec3 : i > j → ((i : Int) - j) = ((i - j : Nat) : Int) := by omega
    have ec4 : i < j → ((j : Int) - i) = ((j - i : Nat) : Int) := by omega
    repeat' (first | exact rfl | ((conv => whnf); first | ((first | refine qA (fun h => ?_) fun h => ?_ | refine qN (fun h => ?_) fun h => ?_ | refine qB (fun h => ?_) fun h => ?_ | refine qC (fun h => ?_) fun h => ?_) <;> try exact absurd h (by omega)) | refine qM (fun h => ?_) fun h => ?_ | refine oM (by (first | omega | (simp only [lenS, InI, nmin, EK.sz]; omega) | (simp only [lenS, InI, nmin, EK.sz] at *; omega))) ?_ | refine oM ?_ ?_ | refine bM ?_ ?_ | refine draw_of Try.mixed Try.tyOk 60 (by kernel_rfl) ?_))
    · (conv => whnf)
      rw [ec1]
      refine callF (swapRange_c ys cap sp (m - i) m j (by omega) (by omega) (by omega)) [0] Try.call137 rfl (by simp [eqLs, eqL, eqO, eqC, eqCs, rn, renOf, look_cons, look, EK.cast, hyl]) (by simp [appN, ptrs, eqVL, eqV, eqA, eqC, eqCs, eqAs, eqCaps, EK.sz, rn, renOf, look_cons, look, arcV, fV, hyl]) (by simp [appN, ptrs, SV.lt, SA.lt, SC.lt, arcV, fV, lenN]) ?_
      rintro _ _ ⟨zs, rfl, rfl, hm2, hs2⟩
      have ec := ec3 (by omega)
      repeat' (first | exact rfl | ((conv => whnf); first | ((first | refine qA (fun h => ?_) fun h => ?_ | refine qN (fun h => ?_) fun h => ?_ | refine qB (fun h => ?_) fun h => ?_ | refine qC (fun h => ?_) fun h => ?_) <;> try exact absurd h (by omega)) | refine qM (fun h => ?_) fun h => ?_ | refine oM (by (first | omega | (simp only [lenS, InI, nmin, EK.sz]; omega) | (simp only [lenS, InI, nmin, EK.sz] at *; omega))) ?_ | refine oM ?_ ?_ | refine bM ?_ ?_ | refine draw_of Try.mixed Try.tyOk 60 (by kernel_rfl) ?_))
      rw [ec]
      (conv => whnf)
      refine ⟨(i - j, j, zs), [], ⟨by rfl, ?_, ?_⟩, ⟨by simp only; omega, hj, by simp only; omega, hjm, hm.trans (hm2.wide (by omega) (by omega)), RotOn.left hr (by omega) (by omega) hs2⟩, by simp only; omega⟩
      · simp [eqFr, eqHp, eqV, eqA, eqC, eqO, eqCs, eqAs, look_cons, look, rn, EK.cast, EK.sz, eqCaps]
      · simp [eqFr, eqHp, eqV, eqA, eqC, eqO, eqCs, eqAs, look_cons, look, rn, EK.cast, EK.sz, eqCaps]
    · (conv => whnf)
      rw [ec1, ec2]
      refine callF (swapRange_c ys cap sp (m - i) (m + j - i) i (by omega) (by omega) (by omega)) [0] Try.call137 rfl (by simp [eqLs, eqL, eqO, eqC, eqCs, rn, renOf, look_cons, look, EK.cast, hyl]) (by simp [appN, ptrs, eqVL, eqV, eqA, eqC, eqCs, eqAs, eqCaps, EK.sz, rn, renOf, look_cons, look, arcV, fV, hyl]) (by simp [appN, ptrs, SV.lt, SA.lt, SC.lt, arcV, fV, lenN]) ?_
      rintro _ _ ⟨zs, rfl, rfl, hm2, hs2⟩
      have ec := ec4 (by omega)
      repeat' (first | exact rfl | ((conv => whnf); first | ((first | refine qA (fun h => ?_) fun h => ?_ | refine qN (fun h => ?_) fun h => ?_ | refine qB (fun h => ?_) fun h => ?_ | refine qC (fun h => ?_) fun h => ?_) <;> try exact absurd h (by omega)) | refine qM (fun h => ?_) fun h => ?_ | refine oM (by (first | omega | (simp only [lenS, InI, nmin, EK.sz]; omega) | (simp only [lenS, InI, nmin, EK.sz] at *; omega))) ?_ | refine oM ?_ ?_ | refine bM ?_ ?_ | refine draw_of Try.mixed Try.tyOk 60 (by kernel_rfl) ?_))
      rw [ec]
      (conv => whnf)
      refine ⟨(i, j - i, zs), [], ⟨by rfl, ?_, ?_⟩, ⟨hi, by simp only; omega, him, by simp only; omega, hm.trans (hm2.wide (by omega) (by omega)), RotOn.right hr (by omega) (by omega) hs2⟩, by simp only; omega⟩
      · simp [eqFr, eqHp, eqV, eqA, eqC, eqO, eqCs, eqAs, look_cons, look, rn, EK.cast, EK.sz, eqCaps]
      · simp [eqFr, eqHp, eqV, eqA, eqC, eqO, eqCs, eqAs, look_cons, look, rn, EK.cast, EK.sz, eqCaps]
    · have e : i = j := by omega
      subst e
      (conv => whnf)
      rw [ec1]
      refine callF (swapRange_c ys cap sp (m - i) m i (by omega) (by omega) (by omega)) [0] Try.call137 rfl (by simp [eqLs, eqL, eqO, eqC, eqCs, rn, renOf, look_cons, look, EK.cast, hyl]) (by simp [appN, ptrs, eqVL, eqV, eqA, eqC, eqCs, eqAs, eqCaps, EK.sz, rn, renOf, look_cons, look, arcV, fV, hyl]) (by simp [appN, ptrs, SV.lt, SA.lt, SC.lt, arcV, fV, lenN]) ?_
      rintro _ _ ⟨zs, rfl, rfl, hm2, hs2⟩
      repeat' (first | exact rfl | ((conv => whnf); first | ((first | refine qA (fun h => ?_) fun h => ?_ | refine qN (fun h => ?_) fun h => ?_ | refine qB (fun h => ?_) fun h => ?_ | refine qC (fun h => ?_) fun h => ?_) <;> try exact absurd h (by omega)) | refine qM (fun h => ?_) fun h => ?_ | refine oM (by (first | omega | (simp only [lenS, InI, nmin, EK.sz]; omega) | (simp only [lenS, InI, nmin, EK.sz] at *; omega))) ?_ | refine oM ?_ ?_ | refine bM ?_ ?_ | refine draw_of Try.mixed Try.tyOk 60 (by kernel_rfl) ?_))
      (conv => whnf)
      exact ⟨[], [(0, .arr true 47 .arc zs sp)], 1, .u, ⟨by rfl, trivial, by simp [eqFr, eqHp, eqV, eqA, eqC, eqO, eqCs, eqAs, look_cons, look, rn, EK.cast, EK.sz, eqCaps]⟩, by simp [eqV, eqAs], zs, rfl, rfl, hm.trans (hm2.wide (by omega) (by omega)), hr zs (RotOn.last (by omega) hs2)⟩
end Go.Fw

namespace Go.Fw
open Go Go.Proofs

set_option maxHeartbeats 4000000 in
set_option maxRecDepth 20000 in
theorem sorted1_c (a b : Arc) : Ct Try.prog 115 [arcV a, arcV b] [] [] 0 (Is 0 (.i (cmpW a b))) := by
  refine ctW Try.tyOk 5 [] Try.func115 rfl (by simp [SV.lt, SA.lt, SC.lt, arcV, fV]) (by simp) (fr := [(0, arcV a), (1, arcV b)]) rfl ?_
  repeat' (first | exact rfl | ((conv => whnf); first | ((first | refine qA (fun h => ?_) fun h => ?_ | refine qN (fun h => ?_) fun h => ?_ | refine qB (fun h => ?_) fun h => ?_ | refine qC (fun h => ?_) fun h => ?_) <;> try exact absurd h (by omega)) | refine qM (fun h => ?_) fun h => ?_ | refine oM (by (first | omega | (simp only [lenS, InI, nmin, EK.sz]; omega) | (simp only [lenS, InI, nmin, EK.sz] at *; omega))) ?_ | refine oM ?_ ?_ | refine bM ?_ ?_ | refine draw_of Try.mixed Try.tyOk 60 (by kernel_rfl) ?_))
  (conv => whnf)
  refine callF (order_c a b) [] Try.call100 rfl (by simp [eqLs, eqL, eqO, eqC, eqCs, rn, renOf, look_cons, look, EK.cast]) (by simp [appN, ptrs, eqVL, eqV, eqA, eqC, eqCs, eqAs, eqCaps, EK.sz, rn, renOf, look_cons, look, arcV, fV]) (by simp [appN, ptrs, SV.lt, SA.lt, SC.lt, arcV, fV, lenN]) ?_
  rintro _ _ ⟨rfl, rfl⟩
  repeat' (first | exact rfl | ((conv => whnf); first | ((first | refine qA (fun h => ?_) fun h => ?_ | refine qN (fun h => ?_) fun h => ?_ | refine qB (fun h => ?_) fun h => ?_ | refine qC (fun h => ?_) fun h => ?_) <;> try exact absurd h (by omega)) | refine qM (fun h => ?_) fun h => ?_ | refine oM (by (first | omega | (simp only [lenS, InI, nmin, EK.sz]; omega) | (simp only [lenS, InI, nmin, EK.sz] at *; omega))) ?_ | refine oM ?_ ?_ | refine bM ?_ ?_ | refine draw_of Try.mixed Try.tyOk 60 (by kernel_rfl) ?_))
  (conv => whnf)
  refine callF (compare_c a.w b.w) [] Try.call117 rfl (by simp [eqLs, eqL, eqO, eqC, eqCs, rn, renOf, look_cons, look, EK.cast]) (by simp [appN, ptrs, eqVL, eqV, eqA, eqC, eqCs, eqAs, eqCaps, EK.sz, rn, renOf, look_cons, look, arcV, fV]) (by simp [appN, ptrs, SV.lt, SA.lt, SC.lt, arcV, fV, lenN]) ?_
  rintro _ _ ⟨rfl, rfl⟩
  repeat' (first | exact rfl | ((conv => whnf); first | ((first | refine qA (fun h => ?_) fun h => ?_ | refine qN (fun h => ?_) fun h => ?_ | refine qB (fun h => ?_) fun h => ?_ | refine qC (fun h => ?_) fun h => ?_) <;> try exact absurd h (by omega)) | refine qM (fun h => ?_) fun h => ?_ | refine oM (by (first | omega | (simp only [lenS, InI, nmin, EK.sz]; omega) | (simp only [lenS, InI, nmin, EK.sz] at *; omega))) ?_ | refine oM ?_ ?_ | refine bM ?_ ?_ | refine draw_of Try.mixed Try.tyOk 60 (by kernel_rfl) ?_))
  (conv => whnf)
  refine callF (or_c [orderI a b, cmpI a.w b.w] 2 (by simp)) [2] Try.call116 rfl (by simp [eqLs, eqL, eqO, eqC, eqCs, rn, renOf, look_cons, look, EK.cast]) (by simp [appN, ptrs, eqVL, eqV, eqA, eqC, eqCs, eqAs, eqCaps, EK.sz, rn, renOf, look_cons, look, arcV, fV]) (by simp [appN, ptrs, SV.lt, SA.lt, SC.lt, arcV, fV, lenN]) ?_
  rintro _ _ ⟨rfl, rfl⟩
  repeat' (first | exact rfl | ((conv => whnf); first | ((first | refine qA (fun h => ?_) fun h => ?_ | refine qN (fun h => ?_) fun h => ?_ | refine qB (fun h => ?_) fun h => ?_ | refine qC (fun h => ?_) fun h => ?_) <;> try exact absurd h (by omega)) | refine qM (fun h => ?_) fun h => ?_ | refine oM (by (first | omega | (simp only [lenS, InI, nmin, EK.sz]; omega) | (simp only [lenS, InI, nmin, EK.sz] at *; omega))) ?_ | refine oM ?_ ?_ | refine bM ?_ ?_ | refine draw_of Try.mixed Try.tyOk 60 (by kernel_rfl) ?_))
  (conv => whnf)
  refine Back.is ?_
  simp only [eqV, eqA, eqC, cmpW]

set_option maxHeartbeats 4000000 in
set_option maxRecDepth 20000 in
theorem sorted2_c (a b : Arc) : Ct Try.prog 119 [arcV a, arcV b] [] [] 0 (Is 0 (.b (sameK a b))) := by
  refine ctW Try.tyOk 5 [] Try.func119 rfl (by simp [SV.lt, SA.lt, SC.lt, arcV, fV]) (by simp) (fr := [(0, arcV a), (1, arcV b)]) rfl ?_
  repeat' (first | exact rfl | ((conv => whnf); first | ((first | refine qA (fun h => ?_) fun h => ?_ | refine qN (fun h => ?_) fun h => ?_ | refine qB (fun h => ?_) fun h => ?_ | refine qC (fun h => ?_) fun h => ?_) <;> try exact absurd h (by omega)) | refine qM (fun h => ?_) fun h => ?_ | refine oM (by (first | omega | (simp only [lenS, InI, nmin, EK.sz]; omega) | (simp only [lenS, InI, nmin, EK.sz] at *; omega))) ?_ | refine oM ?_ ?_ | refine bM ?_ ?_ | refine draw_of Try.mixed Try.tyOk 60 (by kernel_rfl) ?_))
  (conv => whnf)
  refine callF (order_c a b) [] Try.call100 rfl (by simp [eqLs, eqL, eqO, eqC, eqCs, rn, renOf, look_cons, look, EK.cast]) (by simp [appN, ptrs, eqVL, eqV, eqA, eqC, eqCs, eqAs, eqCaps, EK.sz, rn, renOf, look_cons, look, arcV, fV]) (by simp [appN, ptrs, SV.lt, SA.lt, SC.lt, arcV, fV, lenN]) ?_
  rintro _ _ ⟨rfl, rfl⟩
  repeat' (first | exact rfl | ((conv => whnf); first | ((first | refine qA (fun h => ?_) fun h => ?_ | refine qN (fun h => ?_) fun h => ?_ | refine qB (fun h => ?_) fun h => ?_ | refine qC (fun h => ?_) fun h => ?_) <;> try exact absurd h (by omega)) | refine qM (fun h => ?_) fun h => ?_ | refine oM (by (first | omega | (simp only [lenS, InI, nmin, EK.sz]; omega) | (simp only [lenS, InI, nmin, EK.sz] at *; omega))) ?_ | refine oM ?_ ?_ | refine bM ?_ ?_ | refine draw_of Try.mixed Try.tyOk 60 (by kernel_rfl) ?_))
  (conv => whnf)
  refine Back.is ?_
  simp only [eqV, eqA, eqC, sameK]
  rfl

set_option maxHeartbeats 4000000 in
set_option maxRecDepth 20000 in
theorem insertion_c (xs : List Arc) (cap sp a b : Nat) (hab : a ≤ b) (hb : b ≤ xs.length) (hl : xs.length ≤ 1000000) : Ct Try.prog 133 [.c (.sl 0 5 0 xs.length cap), .i a, .i b, .c (.fn 115 [])] [] [(0, .arr true 47 .arc xs sp)] 1
    (fun v s => ∃ ys, v = .u ∧ s = ⟨[], [(0, .arr true 47 .arc ys sp)], 1⟩ ∧ Mv aD a b xs ys ∧ SrtOn aD ltW a b ys) := by
  refine ctW Try.tyOk 10 [] Try.func133 rfl (by simp [SV.lt, SA.lt, SC.lt, arcV, fV]) (by simp) (fr := [(0, .c (.sl 0 5 0 xs.length cap)), (1, .i a), (2, .i b), (3, .c (.fn 115 []))]) rfl ?_
  repeat' (first | exact rfl | ((conv => whnf); first | ((first | refine qA (fun h => ?_) fun h => ?_ | refine qN (fun h => ?_) fun h => ?_ | refine qB (fun h => ?_) fun h => ?_ | refine qC (fun h => ?_) fun h => ?_) <;> try exact absurd h (by omega)) | refine qM (fun h => ?_) fun h => ?_ | refine oM (by (first | omega | (simp only [lenS, InI, nmin, EK.sz]; omega) | (simp only [lenS, InI, nmin, EK.sz] at *; omega))) ?_ | refine oM ?_ ?_ | refine bM ?_ ?_ | refine draw_of Try.mixed Try.tyOk 60 (by kernel_rfl) ?_))
  (conv => whnf)
  refine loopI (fun y : Nat × List Arc => ⟨[(0, .c (.sl 0 5 0 xs.length cap)), (1, .i a), (2, .i b), (3, .c (.fn 115 [])), (8, .i y.1)], [(0, .arr true 47 .arc y.2 sp)], 1⟩)
    (fun y => a + 1 ≤ y.1 ∧ y.1 ≤ b + 1 ∧ Mv aD a b xs y.2 ∧ SrtOn aD ltW a y.1 y.2) (fun y => b + 1 - y.1) (a + 1, xs) [] ⟨by rfl, ?_, ?_⟩ ⟨Nat.le_refl _, by simp only; omega, Mv.refl _ _ _, SrtOn.one (Nat.le_refl _)⟩ ?_
  · simp [eqFr, eqHp, eqV, eqA, eqC, eqO, eqCs, eqAs, look_cons, look, rn, EK.cast, EK.sz, eqCaps]
  · simp [eqFr, eqHp, eqV, eqA, eqC, eqO, eqCs, eqAs, look_cons, look, rn, EK.cast, EK.sz, eqCaps]
  · rintro ⟨i, ys⟩ ⟨hi, hib, hm, hs⟩
    simp only at hi hib hm hs ⊢
    have hyl := hm.len
    repeat' (first | exact rfl | ((conv => whnf); first | ((first | refine qA (fun h => ?_) fun h => ?_ | refine qN (fun h => ?_) fun h => ?_ | refine qB (fun h => ?_) fun h => ?_ | refine qC (fun h => ?_) fun h => ?_) <;> try exact absurd h (by omega)) | refine qM (fun h => ?_) fun h => ?_ | refine oM (by (first | omega | (simp only [lenS, InI, nmin, EK.sz]; omega) | (simp only [lenS, InI, nmin, EK.sz] at *; omega))) ?_ | refine oM ?_ ?_ | refine bM ?_ ?_ | refine draw_of Try.mixed Try.tyOk 60 (by kernel_rfl) ?_))
    · (conv => whnf)
      refine loopI (fun y : Nat × List Arc => ⟨[(0, .c (.sl 0 5 0 xs.length cap)), (1, .i a), (2, .i b), (3, .c (.fn 115 [])), (8, .i i), (9, .i y.1)], [(0, .arr true 47 .arc y.2 sp)], 1⟩)
        (fun y => a ≤ y.1 ∧ y.1 ≤ i ∧ Mv aD a b xs y.2 ∧ InsOn aD ltW a i y.1 y.2) (fun y => y.1) (i, ys) [] ⟨by rfl, ?_, ?_⟩ ⟨by simp only; omega, Nat.le_refl _, hm, InsOn.start hs⟩ ?_
      · simp [eqFr, eqHp, eqV, eqA, eqC, eqO, eqCs, eqAs, look_cons, look, rn, EK.cast, EK.sz, eqCaps]
      · simp [eqFr, eqHp, eqV, eqA, eqC, eqO, eqCs, eqAs, look_cons, look, rn, EK.cast, EK.sz, eqCaps]
      · rintro ⟨j, zs⟩ ⟨hj, hji, hm2, hs2⟩
        simp only at hj hji hm2 hs2 ⊢
        have hzl := hm2.len
        repeat' (first | exact rfl | ((conv => whnf); first | ((first | refine qA (fun h => ?_) fun h => ?_ | refine qN (fun h => ?_) fun h => ?_ | refine qB (fun h => ?_) fun h => ?_ | refine qC (fun h => ?_) fun h => ?_) <;> try exact absurd h (by omega)) | refine qM (fun h => ?_) fun h => ?_ | refine oM (by (first | omega | (simp only [lenS, InI, nmin, EK.sz]; omega) | (simp only [lenS, InI, nmin, EK.sz] at *; omega))) ?_ | refine oM ?_ ?_ | refine bM ?_ ?_ | refine draw_of Try.mixed Try.tyOk 60 (by kernel_rfl) ?_))
        · (conv => whnf)
          have e0 : 0 + (j : Int).toNat = j := by omega
          have e1 : 0 + ((j : Int) - 1).toNat = j - 1 := by omega
          have e2 : ((j : Int) - 1) = ((j - 1 : Nat) : Int) := by omega
          have ecm : ltW (zs.getD j aD) (zs.getD (j - 1) aD) = decide (cmpW (zs.getD (0 + (j : Int).toNat) EK.arc.dflt) (zs.getD (0 + ((j : Int) - 1).toNat) EK.arc.dflt) < 0) := by rw [e0, e1]; rfl
          refine callF (sorted1_c (zs.getD (0 + (j : Int).toNat) EK.arc.dflt) (zs.getD (0 + ((j : Int) - 1).toNat) EK.arc.dflt)) [] Try.call115 rfl (by simp [eqLs, eqL, eqO, eqC, eqCs, rn, renOf, look_cons, look, EK.cast]) (by simp [appN, ptrs, eqVL, eqV, eqA, eqC, eqCs, eqAs, eqCaps, EK.sz, rn, renOf, look_cons, look, arcV, fV]) (by simp [appN, ptrs, SV.lt, SA.lt, SC.lt, arcV, fV, lenN]) ?_
          rintro _ _ ⟨rfl, rfl⟩
          repeat' (first | exact rfl | ((conv => whnf); first | ((first | refine qA (fun h => ?_) fun h => ?_ | refine qN (fun h => ?_) fun h => ?_ | refine qB (fun h => ?_) fun h => ?_ | refine qC (fun h => ?_) fun h => ?_) <;> try exact absurd h (by omega)) | refine qM (fun h => ?_) fun h => ?_ | refine oM (by (first | omega | (simp only [lenS, InI, nmin, EK.sz]; omega) | (simp only [lenS, InI, nmin, EK.sz] at *; omega))) ?_ | refine oM ?_ ?_ | refine bM ?_ ?_ | refine draw_of Try.mixed Try.tyOk 60 (by kernel_rfl) ?_))
          · rw [decide_eq_true (by assumption)] at ecm
            (conv => whnf)
            refine ⟨(j - 1, swapL aD zs j (j - 1)), [], ⟨by rfl, ?_, ?_⟩, ⟨by simp only; omega, by simp only; omega, hm2.trans (swapL_mv (by omega) (by omega) (by omega)), hs2.step ltW_ok (by omega) hji (by omega) ecm⟩, by simp only; omega⟩
            · simp [eqFr, eqHp, eqV, eqA, eqC, eqO, eqCs, eqAs, look_cons, look, rn, EK.cast, EK.sz, eqCaps, e2]
            · simp [eqFr, eqHp, eqV, eqA, eqC, eqO, eqCs, eqAs, look_cons, look, rn, EK.cast, EK.sz, eqCaps, swapL, e0, e1, e2, EK.dflt]
              done
          · rw [decide_eq_false (by assumption)] at ecm
            (conv => whnf)
            refine ⟨(i + 1, zs), [], ⟨by rfl, ?_, ?_⟩, ⟨by simp only; omega, by simp only; omega, hm2, hs2.done ltW_ok hji (.inr ecm)⟩, by simp only; omega⟩
            · simp [eqFr, eqHp, eqV, eqA, eqC, eqO, eqCs, eqAs, look_cons, look, rn, EK.cast, EK.sz, eqCaps]
            · simp [eqFr, eqHp, eqV, eqA, eqC, eqO, eqCs, eqAs, look_cons, look, rn, EK.cast, EK.sz, eqCaps]
        · (conv => whnf)
          refine ⟨(i + 1, zs), [], ⟨by rfl, ?_, ?_⟩, ⟨by simp only; omega, by simp only; omega, hm2, hs2.done ltW_ok hji (.inl (by omega))⟩, by simp only; omega⟩
          · simp [eqFr, eqHp, eqV, eqA, eqC, eqO, eqCs, eqAs, look_cons, look, rn, EK.cast, EK.sz, eqCaps]
          · simp [eqFr, eqHp, eqV, eqA, eqC, eqO, eqCs, eqAs, look_cons, look, rn, EK.cast, EK.sz, eqCaps]
    · (conv => whnf)
      exact ⟨[], [(0, .arr true 47 .arc ys sp)], 1, .u, ⟨by rfl, trivial, by simp [eqFr, eqHp, eqV, eqA, eqC, eqO, eqCs, eqAs, look_cons, look, rn, EK.cast, EK.sz, eqCaps]⟩, by simp [eqV, eqAs], ys, rfl, rfl, hm, hs.less (by omega)⟩
end Go.Fw

namespace Go.Fw
open Go Go.Proofs

set_option maxHeartbeats 4000000 in
set_option maxRecDepth 20000 in
theorem symA_c (xs : List Arc) (cap sp a m b : Nat) (hm : m = a + 1) (hmb : m < b) (hb : b ≤ xs.length) (hl : xs.length ≤ 1000000) (hs : SrtOn aD ltW m b xs) : Ct Try.prog 134 [.c (.sl 0 5 0 xs.length cap), .i a, .i m, .i b, .c (.fn 115 [])] [] [(0, .arr true 47 .arc xs sp)] 1
    (fun v s => ∃ ys, v = .u ∧ s = ⟨[], [(0, .arr true 47 .arc ys sp)], 1⟩ ∧ Mv aD a b xs ys ∧ SrtOn aD ltW a b ys) := by
  subst hm
  refine ctW Try.tyOk 25 [] Try.func134 rfl (by simp [SV.lt, SA.lt, SC.lt, arcV, fV]) (by simp) (fr := [(0, .c (.sl 0 5 0 xs.length cap)), (1, .i a), (2, .i (a + 1 : Nat)), (3, .i b), (4, .c (.fn 115 []))]) rfl ?_
  repeat' (first | exact rfl | ((conv => whnf); first | ((first | refine qA (fun h => ?_) fun h => ?_ | refine qN (fun h => ?_) fun h => ?_ | refine qB (fun h => ?_) fun h => ?_ | refine qC (fun h => ?_) fun h => ?_) <;> try exact absurd h (by omega)) | refine qM (fun h => ?_) fun h => ?_ | refine oM (by (first | omega | (simp only [lenS, InI, nmin, EK.sz]; omega) | (simp only [lenS, InI, nmin, EK.sz] at *; omega))) ?_ | refine oM ?_ ?_ | refine bM ?_ ?_ | refine draw_of Try.mixed Try.tyOk 60 (by kernel_rfl) ?_))
  (conv => whnf)
  refine loopI (fun y : Nat × Nat => ⟨[(0, .c (.sl 0 5 0 xs.length cap)), (1, .i a), (2, .i (a + 1 : Nat)), (3, .i b), (4, .c (.fn 115 [])), (10, .i y.1), (11, .i y.2)], [(0, .arr true 47 .arc xs sp)], 1⟩)
    (fun y => SeaA aD ltW a b y.1 y.2 xs) (fun y => y.2 - y.1) (a + 1, b) [] ⟨by rfl, ?_, ?_⟩ (SeaA.start (by omega)) ?_
  · simp [eqFr, eqHp, eqV, eqA, eqC, eqO, eqCs, eqAs, look_cons, look, rn, EK.cast, EK.sz, eqCaps]
  · simp [eqFr, eqHp, eqV, eqA, eqC, eqO, eqCs, eqAs, look_cons, look, rn, EK.cast, EK.sz, eqCaps]
  · rintro ⟨i, j⟩ hi
    have hil := hi.l
    have him := hi.ij
    have hih := hi.h
    simp only at hil him hih ⊢
    have e0 : 0 + (((i : Int) + j) / 2).toNat = (i + j) / 2 := by omega
    have e1 : 0 + (a : Int).toNat = a := by omega
    have e2 : ((i : Int) + j) / 2 = ((i + j) / 2 : Nat) := by omega
    have e3 : ((i : Int) + j) / 2 + 1 = ((i + j) / 2 + 1 : Nat) := by omega
    repeat' (first | exact rfl | ((conv => whnf); first | ((first | refine qA (fun h => ?_) fun h => ?_ | refine qN (fun h => ?_) fun h => ?_ | refine qB (fun h => ?_) fun h => ?_ | refine qC (fun h => ?_) fun h => ?_) <;> try exact absurd h (by omega)) | refine qM (fun h => ?_) fun h => ?_ | refine oM (by (first | omega | (simp only [lenS, InI, nmin, EK.sz]; omega) | (simp only [lenS, InI, nmin, EK.sz] at *; omega))) ?_ | refine oM ?_ ?_ | refine bM ?_ ?_ | refine draw_of Try.mixed Try.tyOk 60 (by kernel_rfl) ?_))
    · (conv => whnf)
      have ecm : ltW (xs.getD ((i + j) / 2) aD) (xs.getD a aD) = decide (cmpW (xs.getD (0 + (((i : Int) + j) / 2).toNat) EK.arc.dflt) (xs.getD (0 + (a : Int).toNat) EK.arc.dflt) < 0) := by rw [e0, e1]; rfl
      refine callF (sorted1_c (xs.getD (0 + (((i : Int) + j) / 2).toNat) EK.arc.dflt) (xs.getD (0 + (a : Int).toNat) EK.arc.dflt)) [] Try.call115 rfl (by simp [eqLs, eqL, eqO, eqC, eqCs, rn, renOf, look_cons, look, EK.cast]) (by simp [appN, ptrs, eqVL, eqV, eqA, eqC, eqCs, eqAs, eqCaps, EK.sz, rn, renOf, look_cons, look, arcV, fV]) (by simp [appN, ptrs, SV.lt, SA.lt, SC.lt, arcV, fV, lenN]) ?_
      rintro _ _ ⟨rfl, rfl⟩
      repeat' (first | exact rfl | ((conv => whnf); first | ((first | refine qA (fun h => ?_) fun h => ?_ | refine qN (fun h => ?_) fun h => ?_ | refine qB (fun h => ?_) fun h => ?_ | refine qC (fun h => ?_) fun h => ?_) <;> try exact absurd h (by omega)) | refine qM (fun h => ?_) fun h => ?_ | refine oM (by (first | omega | (simp only [lenS, InI, nmin, EK.sz]; omega) | (simp only [lenS, InI, nmin, EK.sz] at *; omega))) ?_ | refine oM ?_ ?_ | refine bM ?_ ?_ | refine draw_of Try.mixed Try.tyOk 60 (by kernel_rfl) ?_))
      · rw [decide_eq_true (by assumption)] at ecm
        (conv => whnf)
        refine ⟨((i + j) / 2 + 1, j), [], ⟨by rfl, ?_, ?_⟩, hi.up ltW_ok hs (by omega) ecm, by simp only; omega⟩
        · simp [eqFr, eqHp, eqV, eqA, eqC, eqO, eqCs, eqAs, look_cons, look, rn, EK.cast, EK.sz, eqCaps]
        · simp [eqFr, eqHp, eqV, eqA, eqC, eqO, eqCs, eqAs, look_cons, look, rn, EK.cast, EK.sz, eqCaps]
      · rw [decide_eq_false (by assumption)] at ecm
        (conv => whnf)
        refine ⟨(i, (i + j) / 2), [], ⟨by rfl, ?_, ?_⟩, hi.down ltW_ok hs (by omega) ecm, by simp only; omega⟩
        · simp [eqFr, eqHp, eqV, eqA, eqC, eqO, eqCs, eqAs, look_cons, look, rn, EK.cast, EK.sz, eqCaps]
        · simp [eqFr, eqHp, eqV, eqA, eqC, eqO, eqCs, eqAs, look_cons, look, rn, EK.cast, EK.sz, eqCaps]
    · have e : i = j := by omega
      subst e
      (conv => whnf)
      refine loopI (fun y : Nat × List Arc => ⟨[(0, .c (.sl 0 5 0 xs.length cap)), (1, .i a), (2, .i (a + 1 : Nat)), (3, .i b), (4, .c (.fn 115 [])), (10, .i i), (13, .i y.1)], [(0, .arr true 47 .arc y.2 sp)], 1⟩)
        (fun y => a ≤ y.1 ∧ y.1 + 1 ≤ i ∧ Mv aD a b xs y.2 ∧ RotOn aD a (a + 1) (y.1 + 1) xs y.2) (fun y => i - y.1) (a, xs) [] ⟨by rfl, ?_, ?_⟩ ⟨Nat.le_refl _, hil, Mv.refl _ _ _, RotOn.none (.inr rfl)⟩ ?_
      · simp [eqFr, eqHp, eqV, eqA, eqC, eqO, eqCs, eqAs, look_cons, look, rn, EK.cast, EK.sz, eqCaps]
      · simp [eqFr, eqHp, eqV, eqA, eqC, eqO, eqCs, eqAs, look_cons, look, rn, EK.cast, EK.sz, eqCaps]
      · rintro ⟨k, ys⟩ ⟨hk, hki, hmv, hr⟩
        simp only at hk hki hmv hr ⊢
        have hyl := hmv.len
        have f0 : 0 + ((k : Int) + 1).toNat = k + 1 := by omega
        have f1 : 0 + (k : Int).toNat = k := by omega
        repeat' (first | exact rfl | ((conv => whnf); first | ((first | refine qA (fun h => ?_) fun h => ?_ | refine qN (fun h => ?_) fun h => ?_ | refine qB (fun h => ?_) fun h => ?_ | refine qC (fun h => ?_) fun h => ?_) <;> try exact absurd h (by omega)) | refine qM (fun h => ?_) fun h => ?_ | refine oM (by (first | omega | (simp only [lenS, InI, nmin, EK.sz]; omega) | (simp only [lenS, InI, nmin, EK.sz] at *; omega))) ?_ | refine oM ?_ ?_ | refine bM ?_ ?_ | refine draw_of Try.mixed Try.tyOk 60 (by kernel_rfl) ?_))
        · (conv => whnf)
          refine ⟨(k + 1, swapL aD ys k (k + 1)), [], ⟨by rfl, ?_, ?_⟩, ⟨by simp only; omega, by simp only; omega, hmv.trans (swapL_mv (by omega) (by omega) (by omega)), hr.fwd hyl hk (by omega)⟩, by simp only; omega⟩
          · simp [eqFr, eqHp, eqV, eqA, eqC, eqO, eqCs, eqAs, look_cons, look, rn, EK.cast, EK.sz, eqCaps]
          · simp [eqFr, eqHp, eqV, eqA, eqC, eqO, eqCs, eqAs, look_cons, look, rn, EK.cast, EK.sz, eqCaps, swapL, f0, f1, EK.dflt]
        · (conv => whnf)
          have e : i = k + 1 := by omega
          subst e
          exact ⟨[], [(0, .arr true 47 .arc ys sp)], 1, .u, ⟨by rfl, trivial, by simp [eqFr, eqHp, eqV, eqA, eqC, eqO, eqCs, eqAs, look_cons, look, rn, EK.cast, EK.sz, eqCaps]⟩, by simp [eqV, eqAs], ys, rfl, rfl, hmv, ins_first ltW_ok hs hil hih hi.lo hi.hi hr⟩
set_option maxHeartbeats 4000000 in
set_option maxRecDepth 20000 in
theorem symB_c (xs : List Arc) (cap sp a m b : Nat) (ham : a + 1 < m) (hbm : b = m + 1) (hb : b ≤ xs.length) (hl : xs.length ≤ 1000000) (hs : SrtOn aD ltW a m xs) : Ct Try.prog 134 [.c (.sl 0 5 0 xs.length cap), .i a, .i m, .i b, .c (.fn 115 [])] [] [(0, .arr true 47 .arc xs sp)] 1
    (fun v s => ∃ ys, v = .u ∧ s = ⟨[], [(0, .arr true 47 .arc ys sp)], 1⟩ ∧ Mv aD a b xs ys ∧ SrtOn aD ltW a b ys) := by
  subst hbm
  refine ctW Try.tyOk 25 [] Try.func134 rfl (by simp [SV.lt, SA.lt, SC.lt, arcV, fV]) (by simp) (fr := [(0, .c (.sl 0 5 0 xs.length cap)), (1, .i a), (2, .i m), (3, .i (m + 1 : Nat)), (4, .c (.fn 115 []))]) rfl ?_
  repeat' (first | exact rfl | ((conv => whnf); first | ((first | refine qA (fun h => ?_) fun h => ?_ | refine qN (fun h => ?_) fun h => ?_ | refine qB (fun h => ?_) fun h => ?_ | refine qC (fun h => ?_) fun h => ?_) <;> try exact absurd h (by omega)) | refine qM (fun h => ?_) fun h => ?_ | refine oM (by (first | omega | (simp only [lenS, InI, nmin, EK.sz]; omega) | (simp only [lenS, InI, nmin, EK.sz] at *; omega))) ?_ | refine oM ?_ ?_ | refine bM ?_ ?_ | refine draw_of Try.mixed Try.tyOk 60 (by kernel_rfl) ?_))
  (conv => whnf)
  refine loopI (fun y : Nat × Nat => ⟨[(0, .c (.sl 0 5 0 xs.length cap)), (1, .i a), (2, .i m), (3, .i (m + 1 : Nat)), (4, .c (.fn 115 [])), (14, .i y.1), (15, .i y.2)], [(0, .arr true 47 .arc xs sp)], 1⟩)
    (fun y => SeaB aD ltW a m y.1 y.2 xs) (fun y => y.2 - y.1) (a, m) [] ⟨by rfl, ?_, ?_⟩ (SeaB.start (by omega)) ?_
  · simp [eqFr, eqHp, eqV, eqA, eqC, eqO, eqCs, eqAs, look_cons, look, rn, EK.cast, EK.sz, eqCaps]
  · simp [eqFr, eqHp, eqV, eqA, eqC, eqO, eqCs, eqAs, look_cons, look, rn, EK.cast, EK.sz, eqCaps]
  · rintro ⟨i, j⟩ hi
    have hil := hi.l
    have him := hi.ij
    have hih := hi.h
    simp only at hil him hih ⊢
    have e0 : 0 + (((i : Int) + j) / 2).toNat = (i + j) / 2 := by omega
    have e1 : 0 + (m : Int).toNat = m := by omega
    repeat' (first | exact rfl | ((conv => whnf); first | ((first | refine qA (fun h => ?_) fun h => ?_ | refine qN (fun h => ?_) fun h => ?_ | refine qB (fun h => ?_) fun h => ?_ | refine qC (fun h => ?_) fun h => ?_) <;> try exact absurd h (by omega)) | refine qM (fun h => ?_) fun h => ?_ | refine oM (by (first | omega | (simp only [lenS, InI, nmin, EK.sz]; omega) | (simp only [lenS, InI, nmin, EK.sz] at *; omega))) ?_ | refine oM ?_ ?_ | refine bM ?_ ?_ | refine draw_of Try.mixed Try.tyOk 60 (by kernel_rfl) ?_))
    · (conv => whnf)
      have ecm : ltW (xs.getD m aD) (xs.getD ((i + j) / 2) aD) = decide (cmpW (xs.getD (0 + (m : Int).toNat) EK.arc.dflt) (xs.getD (0 + (((i : Int) + j) / 2).toNat) EK.arc.dflt) < 0) := by rw [e0, e1]; rfl
      refine callF (sorted1_c (xs.getD (0 + (m : Int).toNat) EK.arc.dflt) (xs.getD (0 + (((i : Int) + j) / 2).toNat) EK.arc.dflt)) [] Try.call115 rfl (by simp [eqLs, eqL, eqO, eqC, eqCs, rn, renOf, look_cons, look, EK.cast]) (by simp [appN, ptrs, eqVL, eqV, eqA, eqC, eqCs, eqAs, eqCaps, EK.sz, rn, renOf, look_cons, look, arcV, fV]) (by simp [appN, ptrs, SV.lt, SA.lt, SC.lt, arcV, fV, lenN]) ?_
      rintro _ _ ⟨rfl, rfl⟩
      repeat' (first | exact rfl | ((conv => whnf); first | ((first | refine qA (fun h => ?_) fun h => ?_ | refine qN (fun h => ?_) fun h => ?_ | refine qB (fun h => ?_) fun h => ?_ | refine qC (fun h => ?_) fun h => ?_) <;> try exact absurd h (by omega)) | refine qM (fun h => ?_) fun h => ?_ | refine oM (by (first | omega | (simp only [lenS, InI, nmin, EK.sz]; omega) | (simp only [lenS, InI, nmin, EK.sz] at *; omega))) ?_ | refine oM ?_ ?_ | refine bM ?_ ?_ | refine draw_of Try.mixed Try.tyOk 60 (by kernel_rfl) ?_))
      · rw [decide_eq_false (by assumption)] at ecm
        (conv => whnf)
        refine ⟨((i + j) / 2 + 1, j), [], ⟨by rfl, ?_, ?_⟩, hi.up ltW_ok hs (by omega) ecm, by simp only; omega⟩
        · simp [eqFr, eqHp, eqV, eqA, eqC, eqO, eqCs, eqAs, look_cons, look, rn, EK.cast, EK.sz, eqCaps]
        · simp [eqFr, eqHp, eqV, eqA, eqC, eqO, eqCs, eqAs, look_cons, look, rn, EK.cast, EK.sz, eqCaps]
      · rw [decide_eq_true (by assumption)] at ecm
        (conv => whnf)
        refine ⟨(i, (i + j) / 2), [], ⟨by rfl, ?_, ?_⟩, hi.down ltW_ok hs (by omega) ecm, by simp only; omega⟩
        · simp [eqFr, eqHp, eqV, eqA, eqC, eqO, eqCs, eqAs, look_cons, look, rn, EK.cast, EK.sz, eqCaps]
        · simp [eqFr, eqHp, eqV, eqA, eqC, eqO, eqCs, eqAs, look_cons, look, rn, EK.cast, EK.sz, eqCaps]
    · have e : i = j := by omega
      subst e
      (conv => whnf)
      refine loopI (fun y : Nat × List Arc => ⟨[(0, .c (.sl 0 5 0 xs.length cap)), (1, .i a), (2, .i m), (3, .i (m + 1 : Nat)), (4, .c (.fn 115 [])), (14, .i i), (17, .i y.1)], [(0, .arr true 47 .arc y.2 sp)], 1⟩)
        (fun y => y.1 ≤ m ∧ i ≤ y.1 ∧ Mv aD a (m + 1) xs y.2 ∧ RotOn aD y.1 m (m + 1) xs y.2) (fun y => y.1) (m, xs) [] ⟨by rfl, ?_, ?_⟩ ⟨Nat.le_refl _, hih, Mv.refl _ _ _, RotOn.none (.inl rfl)⟩ ?_
      · simp [eqFr, eqHp, eqV, eqA, eqC, eqO, eqCs, eqAs, look_cons, look, rn, EK.cast, EK.sz, eqCaps]
      · simp [eqFr, eqHp, eqV, eqA, eqC, eqO, eqCs, eqAs, look_cons, look, rn, EK.cast, EK.sz, eqCaps]
      · rintro ⟨k, ys⟩ ⟨hk, hki, hmv, hr⟩
        simp only at hk hki hmv hr ⊢
        have hyl := hmv.len
        have f0 : 0 + ((k : Int) - 1).toNat = k - 1 := by omega
        have f1 : 0 + (k : Int).toNat = k := by omega
        repeat' (first | exact rfl | ((conv => whnf); first | ((first | refine qA (fun h => ?_) fun h => ?_ | refine qN (fun h => ?_) fun h => ?_ | refine qB (fun h => ?_) fun h => ?_ | refine qC (fun h => ?_) fun h => ?_) <;> try exact absurd h (by omega)) | refine qM (fun h => ?_) fun h => ?_ | refine oM (by (first | omega | (simp only [lenS, InI, nmin, EK.sz]; omega) | (simp only [lenS, InI, nmin, EK.sz] at *; omega))) ?_ | refine oM ?_ ?_ | refine bM ?_ ?_ | refine draw_of Try.mixed Try.tyOk 60 (by kernel_rfl) ?_))
        · (conv => whnf)
          refine ⟨(k - 1, swapL aD ys k (k - 1)), [], ⟨by rfl, ?_, ?_⟩, ⟨by simp only; omega, by simp only; omega, hmv.trans (swapL_mv (by omega) (by omega) (by omega)), hr.bwd hyl (by omega) hk (by omega)⟩, by simp only; omega⟩
          · simp [eqFr, eqHp, eqV, eqA, eqC, eqO, eqCs, eqAs, look_cons, look, rn, EK.cast, EK.sz, eqCaps]
            omega
          · simp [eqFr, eqHp, eqV, eqA, eqC, eqO, eqCs, eqAs, look_cons, look, rn, EK.cast, EK.sz, eqCaps, swapL, f0, f1, EK.dflt]
        · (conv => whnf)
          have e : i = k := by omega
          subst e
          exact ⟨[], [(0, .arr true 47 .arc ys sp)], 1, .u, ⟨by rfl, trivial, by simp [eqFr, eqHp, eqV, eqA, eqC, eqO, eqCs, eqAs, look_cons, look, rn, EK.cast, EK.sz, eqCaps]⟩, by simp [eqV, eqAs], ys, rfl, rfl, hmv, ins_last ltW_ok hs hil hih hi.lo hi.hi hr⟩
end Go.Fw
