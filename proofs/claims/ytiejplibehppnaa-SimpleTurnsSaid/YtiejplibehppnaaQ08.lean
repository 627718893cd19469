/-
  Ways of a transducer, in the plain; what it is to be the least of some costs.
-/
import Derived.Test.YtiejplibehppnaaQ07
import Derived.Test.YtiejplibehppnaaQ05

set_option linter.unusedSimpArgs false
set_option linter.unusedVariables false

namespace Go.Fw
open Go

/-! ### Arcs in order -/
theorem aheadB_trans {a b c : Arc} (h1 : aheadB a b = true) (h2 : aheadB b c = true) : aheadB a c = true := by
  unfold aheadB at *
  repeat' split at h1
  all_goals repeat' split at h2
  all_goals repeat' split
  all_goals simp only [decide_eq_true_eq, Bool.false_eq_true] at *
  all_goals omega

theorem aheadB_irr (a : Arc) : aheadB a a = false := by simp [aheadB]

theorem aheadB_asymm {a b : Arc} (h1 : aheadB a b = true) : aheadB b a = false := by
  cases h : aheadB b a with
  | false => rfl
  | true => have := aheadB_trans h1 h; rw [aheadB_irr] at this; cases this

def Srt (l : List Arc) : Prop := l.Pairwise fun a b => aheadB a b = true

theorem arcsE_iff {st : Int} : ∀ (l : List Arc) (p : Option Arc), arcsE st p l = 0 ↔ (∀ a ∈ l, ArcOk st a) ∧ Srt l ∧ ∀ b, p = some b → ∀ a ∈ l, aheadB b a = true
  | [], p => by simp [arcsE_nil, Srt]
  | x :: l, p => by
    rw [arcsE_cons]
    have ih := arcsE_iff (st := st) l (some x)
    have hx : ArcOk st x ↔ arcOk st x = true ∧ arcIn x = true := by
      simp only [arcOk, arcIn, Bool.and_eq_true, decide_eq_true_eq]
      constructor
      · intro h; have := h.f0; have := h.f1; have := h.t0; have := h.t1; have := h.w0; have := h.w1; have := h.i0; have := h.o0; omega
      · intro h; exact ⟨by omega, by omega, by omega, by omega, by omega, by omega, by omega, by omega⟩
    cases h1 : arcOk st x with
    | false =>
      simp only [Bool.not_false, if_true]
      constructor
      · intro h; cases h
      · intro h; have := hx.1 (h.1 x (by simp)); rw [h1] at this; cases this.1
    | true =>
      cases h2 : arcIn x with
      | false =>
        simp only [Bool.not_true, Bool.false_eq_true, if_false, Bool.not_false, if_true]
        constructor
        · intro h; cases h
        · intro h; have := hx.1 (h.1 x (by simp)); rw [h2] at this; cases this.2
      | true =>
        have hxo := hx.2 ⟨h1, h2⟩
        simp only [Bool.not_true, Bool.false_eq_true, if_false]
        cases p with
        | none =>
          simp only [Bool.false_eq_true, if_false, ih]
          simp only [List.mem_cons, forall_eq_or_imp, Srt, List.pairwise_cons, reduceCtorEq, false_implies, implies_true, and_true, Option.some.injEq, forall_eq']
          constructor
          · rintro ⟨g1, g2, g3⟩; exact ⟨⟨hxo, g1⟩, g3, g2⟩
          · rintro ⟨⟨_, g1⟩, g3, g2⟩; exact ⟨g1, g2, g3⟩
        | some b =>
          simp only
          by_cases h3 : aheadB b x = true
          · rw [if_neg (by rw [h3]; decide), ih]
            simp only [List.mem_cons, forall_eq_or_imp, Srt, List.pairwise_cons, Option.some.injEq, forall_eq']
            constructor
            · rintro ⟨g1, g2, g3⟩; exact ⟨⟨hxo, g1⟩, ⟨g3, g2⟩, h3, fun a ha => aheadB_trans h3 (g3 a ha)⟩
            · rintro ⟨⟨_, g1⟩, ⟨g3, g2⟩, _, _⟩; exact ⟨g1, g2, g3⟩
          · rw [if_pos (by simp [h3])]
            constructor
            · intro h; cases h
            · intro h; exact absurd (h.2.2 b rfl x (by simp)) h3

theorem fstE_iff {F : TF} : fstE F = 0 ↔ FOk F ∧ Srt F.arcs := by
  constructor
  · intro h
    refine ⟨fstE_ok h, ?_⟩
    unfold fstE at h
    split at h
    · cases h
    split at h
    · cases h
    split at h
    · cases h
    split at h
    · cases h
    split at h
    · cases h
    exact ((arcsE_iff _ _).1 h).2.1
  · rintro ⟨h, h2⟩
    have := h.st
    have := h.start
    have := h.arcl
    unfold fstE
    rw [if_neg (by omega), if_neg (by omega), if_neg (by have := h.finl; omega), if_neg (fun c => c h.fin), if_neg (by omega)]
    exact (arcsE_iff _ _).2 ⟨h.arc, h2, fun b hb => by cases hb⟩

/-! ### Ways -/
/-- What a label says. -/
def lab (x : Int) : List Int := if x = 0 then [] else [x]

/-- A way from a state to a state: what it reads, writes, costs. -/
inductive Way (L : List Arc) : Int → List Int → List Int → Int → Int → Prop
  | nil (s : Int) : Way L s [] [] s 0
  | cons {a : Arc} {u v : List Int} {t c : Int} (ha : a ∈ L) (h : Way L a.t u v t c) : Way L a.f (lab a.i ++ u) (lab a.o ++ v) t (a.w + c)

theorem Way.app {L : List Arc} {s t r : Int} {u v u' v' : List Int} {c d : Int} (h : Way L s u v t c) (h' : Way L t u' v' r d) : Way L s (u ++ u') (v ++ v') r (c + d) := by
  induction h with
  | nil s => simpa using h'
  | cons ha h ih =>
    rw [List.append_assoc, List.append_assoc, Int.add_assoc]
    exact .cons ha (ih h')

theorem Way.one {L : List Arc} {a : Arc} (ha : a ∈ L) : Way L a.f (lab a.i) (lab a.o) a.t a.w := by
  have := Way.cons ha (.nil a.t)
  simpa using this

theorem Way.snoc {L : List Arc} {s : Int} {u v : List Int} {c : Int} {a : Arc} (h : Way L s u v a.f c) (ha : a ∈ L) : Way L s (u ++ lab a.i) (v ++ lab a.o) a.t (c + a.w) := h.app (.one ha)

theorem Way.mono {L L' : List Arc} (hL : ∀ a ∈ L, a ∈ L') {s t : Int} {u v : List Int} {c : Int} (h : Way L s u v t c) : Way L' s u v t c := by
  induction h with
  | nil s => exact .nil s
  | cons ha h ih => exact .cons (hL _ ha) ih

theorem Way.pos {L : List Arc} {st : Int} (hL : ∀ a ∈ L, ArcOk st a) {s t : Int} {u v : List Int} {c : Int} (h : Way L s u v t c) : 0 ≤ c := by
  induction h with
  | nil s => exact Int.le_refl _
  | cons ha h ih => have := (hL _ ha).w0; omega

theorem Way.rng {L : List Arc} {st : Int} (hL : ∀ a ∈ L, ArcOk st a) {s t : Int} {u v : List Int} {c : Int} (h : Way L s u v t c) (hs : 0 ≤ s ∧ s < st) : 0 ≤ t ∧ t < st := by
  induction h with
  | nil s => exact hs
  | cons ha h ih => exact ih ⟨(hL _ ha).t0, (hL _ ha).t1⟩

/-- What a pair of words may cost. -/
def Wt (F : TF) (u v : List Int) (c : Int) : Prop := ∃ t d, Way F.arcs F.start u v t d ∧ F.fin.getD t.toNat 0 ≠ -1 ∧ c = d + F.fin.getD t.toNat 0

theorem Wt.pos {F : TF} (hF : FOk F) {u v : List Int} {c : Int} (h : Wt F u v c) : 0 ≤ c := by
  obtain ⟨t, d, h1, h2, rfl⟩ := h
  have h3 := h1.pos hF.arc
  have h4 := h1.rng hF.arc hF.start
  have h5 := hF.fin _ (getD_mem F.fin t.toNat 0 (by have := hF.finl; omega))
  omega

/-- The least of some costs; -1: there is none. -/
def MinOf (P : Int → Prop) (n : Int) : Prop := (n = -1 ∧ ∀ c, ¬ P c) ∨ (0 ≤ n ∧ P n ∧ ∀ c, P c → n ≤ c)

theorem MinOf.eq {P Q : Int → Prop} {m n : Int} (hm : MinOf P m) (hn : MinOf Q n) (h : ∀ c, P c ↔ Q c) : m = n := by
  rcases hm with ⟨rfl, h1⟩ | ⟨h0, h1, h2⟩ <;> rcases hn with ⟨rfl, g1⟩ | ⟨g0, g1, g2⟩
  · rfl
  · exact absurd ((h n).2 g1) (h1 n)
  · exact absurd ((h m).1 h1) (g1 m)
  · have := h2 n ((h n).2 g1); have := g2 m ((h m).1 h1); omega

theorem MinOf.le {P : Int → Prop} {n c : Int} (h : MinOf P n) (hc : P c) : n ≠ -1 ∧ n ≤ c := by
  rcases h with ⟨_, h⟩ | ⟨h0, _, h2⟩
  · exact absurd hc (h c)
  · exact ⟨by omega, h2 c hc⟩

theorem MinOf.is {P : Int → Prop} {n : Int} (h : MinOf P n) (hn : n ≠ -1) : P n := by
  rcases h with ⟨h, _⟩ | ⟨_, h, _⟩
  · exact absurd h hn
  · exact h

theorem MinOf.low {P : Int → Prop} {n : Int} (h : MinOf P n) : -1 ≤ n := by
  rcases h with ⟨h, _⟩ | ⟨h, _⟩ <;> omega

end Go.Fw

/-
  The order by which arcs are sorted, in the plain.
-/
namespace Go.Fw
open Go

def cmpW (a b : Arc) : Int := orI [orderI a b, cmpI a.w b.w]
def ltW (a b : Arc) : Bool := decide (cmpW a b < 0)
def sameK (a b : Arc) : Bool := decide (orderI a b = 0)

theorem cmpI_neg {x y : Int} : cmpI x y < 0 ↔ x < y := by
  unfold cmpI
  by_cases h1 : x < y
  · simp [h1]
  · by_cases h2 : x > y <;> simp [h1, h2]

theorem orI_neg {x y : Int} {l : List Int} : orI (cmpI x y :: l) < 0 ↔ x < y ∨ (x = y ∧ orI l < 0) := by
  by_cases e : x = y
  · subst e; rw [cmpI_self, orI_next]; omega
  · rw [orI_first (cmpI_ne e), cmpI_neg]; omega

theorem orI_zero {x y : Int} {l : List Int} : orI (cmpI x y :: l) = 0 ↔ (x = y ∧ orI l = 0) := by
  by_cases e : x = y
  · subst e; rw [cmpI_self, orI_next]; simp
  · rw [orI_first (cmpI_ne e)]
    have := cmpI_ne e
    omega

theorem orI_nil : orI [] = 0 := rfl

theorem orderI_neg {a b : Arc} : orderI a b < 0 ↔ a.f < b.f ∨ a.f = b.f ∧ (a.i < b.i ∨ a.i = b.i ∧ (a.o < b.o ∨ a.o = b.o ∧ (a.t < b.t ∨ a.t = b.t ∧ (0 : Int) < 0))) := by
  unfold orderI
  rw [orI_neg, orI_neg, orI_neg, orI_neg, orI_nil]
theorem orderI_zero {a b : Arc} : orderI a b = 0 ↔ a.f = b.f ∧ a.i = b.i ∧ a.o = b.o ∧ a.t = b.t := by
  unfold orderI
  rw [orI_zero, orI_zero, orI_zero, orI_zero, orI_nil]
  simp

theorem ltW_iff {a b : Arc} : ltW a b = true ↔ a.f < b.f ∨ a.f = b.f ∧ (a.i < b.i ∨ a.i = b.i ∧ (a.o < b.o ∨ a.o = b.o ∧ (a.t < b.t ∨ a.t = b.t ∧ a.w < b.w))) := by
  unfold ltW cmpW
  rw [decide_eq_true_eq]
  by_cases h : orderI a b = 0
  · rw [h, orI_next, orI_neg, orI_nil]
    have := orderI_zero.1 h
    omega
  · rw [orI_first h]
    have h1 := orderI_neg (a := a) (b := b)
    have h2 := mt orderI_zero.2 h
    omega

theorem ltW_ok : LtOk ltW := by
  constructor
  · intro x y h
    rw [ltW_iff] at h
    rw [← Bool.not_eq_true, ltW_iff]
    omega
  · intro x y z h1 h2
    rw [← Bool.not_eq_true, ltW_iff] at h1 h2 ⊢
    omega

theorem SrtOn.less {α : Type} {d : α} {lt : α → α → Bool} {a b c : Nat} {xs : List α} (h : SrtOn d lt a b xs) (hc : c ≤ b) : SrtOn d lt a c xs := fun i j h1 h2 h3 => h i j h1 h2 (by omega)

/-! ### Searches -/
section
variable {α : Type} {d : α} {lt : α → α → Bool}

/-- Where the first one goes, among those behind it. -/
structure SeaA (d : α) (lt : α → α → Bool) (a b i j : Nat) (xs : List α) : Prop where
  l : a + 1 ≤ i
  ij : i ≤ j
  h : j ≤ b
  lo : ∀ k, a + 1 ≤ k → k < i → lt (xs.getD k d) (xs.getD a d) = true
  hi : ∀ k, j ≤ k → k < b → lt (xs.getD k d) (xs.getD a d) = false

theorem SeaA.start {a b : Nat} {xs : List α} (h : a + 1 ≤ b) : SeaA d lt a b (a + 1) b xs := ⟨Nat.le_refl _, h, Nat.le_refl _, fun k h1 h2 => by omega, fun k h1 h2 => by omega⟩

theorem SeaA.up (hlt : LtOk lt) {a b i j : Nat} {xs : List α} (hs : SrtOn d lt (a + 1) b xs) (h : SeaA d lt a b i j xs) (hij : i < j) (hc : lt (xs.getD ((i + j) / 2) d) (xs.getD a d) = true) : SeaA d lt a b ((i + j) / 2 + 1) j xs := by
  have h1 := h.l
  have h2 := h.h
  refine ⟨by omega, by omega, h2, fun k g1 g2 => ?_, h.hi⟩
  cases e : lt (xs.getD k d) (xs.getD a d) with
  | true => rfl
  | false =>
    have := hlt.trans _ _ _ e (hs.le hlt (i := k) (j := (i + j) / 2) g1 (by omega) (by omega))
    rw [hc] at this; cases this

theorem SeaA.down (hlt : LtOk lt) {a b i j : Nat} {xs : List α} (hs : SrtOn d lt (a + 1) b xs) (h : SeaA d lt a b i j xs) (hij : i < j) (hc : lt (xs.getD ((i + j) / 2) d) (xs.getD a d) = false) : SeaA d lt a b i ((i + j) / 2) xs := by
  have h1 := h.l
  have h2 := h.h
  exact ⟨h1, by omega, by omega, h.lo, fun k g1 g2 => hlt.trans _ _ _ hc (hs.le hlt (i := (i + j) / 2) (j := k) (by omega) g1 g2)⟩

/-- Where the last one goes, among those ahead of it. -/
structure SeaB (d : α) (lt : α → α → Bool) (a m i j : Nat) (xs : List α) : Prop where
  l : a ≤ i
  ij : i ≤ j
  h : j ≤ m
  lo : ∀ k, a ≤ k → k < i → lt (xs.getD m d) (xs.getD k d) = false
  hi : ∀ k, j ≤ k → k < m → lt (xs.getD m d) (xs.getD k d) = true

theorem SeaB.start {a m : Nat} {xs : List α} (h : a ≤ m) : SeaB d lt a m a m xs := ⟨Nat.le_refl _, h, Nat.le_refl _, fun k h1 h2 => by omega, fun k h1 h2 => by omega⟩

theorem SeaB.up (hlt : LtOk lt) {a m i j : Nat} {xs : List α} (hs : SrtOn d lt a m xs) (h : SeaB d lt a m i j xs) (hij : i < j) (hc : lt (xs.getD m d) (xs.getD ((i + j) / 2) d) = false) : SeaB d lt a m ((i + j) / 2 + 1) j xs := by
  have h1 := h.l
  have h2 := h.h
  exact ⟨by omega, by omega, h2, fun k g1 g2 => hlt.trans _ _ _ (hs.le hlt (i := k) (j := (i + j) / 2) g1 (by omega) (by omega)) hc, h.hi⟩

theorem SeaB.down (hlt : LtOk lt) {a m i j : Nat} {xs : List α} (hs : SrtOn d lt a m xs) (h : SeaB d lt a m i j xs) (hij : i < j) (hc : lt (xs.getD m d) (xs.getD ((i + j) / 2) d) = true) : SeaB d lt a m i ((i + j) / 2) xs := by
  have h1 := h.l
  have h2 := h.h
  refine ⟨h1, by omega, by omega, h.lo, fun k g1 g2 => ?_⟩
  cases e : lt (xs.getD m d) (xs.getD k d) with
  | true => rfl
  | false =>
    have := hlt.trans _ _ _ (hs.le hlt (i := (i + j) / 2) (j := k) (by omega) g1 g2) e
    rw [hc] at this; cases this

theorem Half.low {bs n a : Nat} {ys : List α} (h : Half d lt bs n a ys) (hab : n ≤ a + bs) : SrtOn d lt a n ys := by
  obtain ⟨t, rfl, h2, h3⟩ := h
  have e1 : 2 * t * bs = t * (2 * bs) := by rw [Nat.mul_comm 2 t, Nat.mul_assoc]
  have e2 : (2 * t + 1) * bs = t * (2 * bs) + bs := by rw [Nat.succ_mul, e1]
  have k1 := h3 (2 * t) (Nat.le_refl _)
  rw [e2, e1, Nat.min_eq_right hab] at k1
  exact k1

theorem SymS.up {lo hi p s r : Nat} {xs : List α} (h : SymS d lt lo hi p s r xs) (hsr : s < r) (hc : lt (xs.getD (p - (s + r) / 2) d) (xs.getD ((s + r) / 2) d) = false) : SymS d lt lo hi p ((s + r) / 2 + 1) r xs := by
  have h1 := h.l
  have h2 := h.h
  exact ⟨by omega, by omega, h2, .inr (by rw [Nat.add_sub_cancel]; exact hc), h.rt⟩

theorem SymS.down {lo hi p s r : Nat} {xs : List α} (h : SymS d lt lo hi p s r xs) (hsr : s < r) (hc : lt (xs.getD (p - (s + r) / 2) d) (xs.getD ((s + r) / 2) d) = true) : SymS d lt lo hi p s ((s + r) / 2) xs := by
  have h1 := h.l
  have h2 := h.h
  exact ⟨h1, by omega, by omega, h.lf, .inr hc⟩

end
end Go.Fw

/-
  Of arcs that are the same the first one, in the plain.
-/
namespace Go.Fw
open Go

abbrev aD : Arc := ⟨0, 0, 0, 0, 0⟩

def compL : Arc → List Arc → List Arc
  | _, [] => []
  | p, x :: l => if sameK x p then compL x l else x :: compL x l
def comp : List Arc → List Arc
  | [] => []
  | x :: l => x :: compL x l

theorem compL_snoc : ∀ (l : List Arc) (p x : Arc), compL p (l ++ [x]) = compL p l ++ (if sameK x ((p :: l).getLast (by simp)) then [] else [x])
  | [], p, x => rfl
  | y :: l, p, x => by
    have ih := compL_snoc l y x
    simp only [List.cons_append, compL]
    have e : (p :: y :: l).getLast (by simp) = (y :: l).getLast (by simp) := by simp
    rw [e]
    split
    · exact ih
    · rw [ih]; rfl

theorem comp_snoc (l : List Arc) (x : Arc) (h : l ≠ []) : comp (l ++ [x]) = comp l ++ (if sameK x (l.getLast h) then [] else [x]) := by
  cases l with
  | nil => exact absurd rfl h
  | cons y l => simp only [List.cons_append, comp]; rw [compL_snoc]

theorem comp_take (l : List Arc) (k : Nat) (h1 : 1 ≤ k) (h2 : k < l.length) : comp (l.take (k + 1)) = comp (l.take k) ++ (if sameK (l.getD k aD) (l.getD (k - 1) aD) then [] else [l.getD k aD]) := by
  have hne : l.take k ≠ [] := by
    intro c
    have := congrArg List.length c
    rw [List.length_take, List.length_nil] at this
    omega
  rw [take_succ_getD l k aD h2, comp_snoc _ _ hne]
  have e : (l.take k).getLast hne = l.getD (k - 1) aD := by
    have hlt : k - 1 < (l.take k).length := by rw [List.length_take]; omega
    rw [List.getLast_eq_getElem]
    have e2 : (l.take k).length - 1 = k - 1 := by rw [List.length_take]; omega
    simp only [e2, List.getElem_take]
    simp [List.getD, show k - 1 < l.length by omega]
  rw [e]

theorem comp_short (l : List Arc) (h : l.length < 2) : comp l = l := by
  cases l with
  | nil => rfl
  | cons x l =>
    cases l with
    | nil => rfl
    | cons y l => simp only [List.length_cons] at h; omega

theorem comp_one (l : List Arc) : comp (l.take 1) = l.take 1 := comp_short _ (by rw [List.length_take]; omega)

/-- While the first k are put where they go. -/
structure CompIn (xs : List Arc) (k n : Nat) (ys : List Arc) : Prop where
  len : ys.length = xs.length
  kn : k + 1 ≤ n
  nl : n ≤ xs.length
  k1 : 1 ≤ k
  tk : ys.take k = comp (xs.take n)
  un : ∀ i, n - 1 ≤ i → ys.getD i aD = xs.getD i aD

theorem CompIn.start {xs : List Arc} {k : Nat} (h1 : 1 ≤ k) (h2 : k < xs.length) (hc : comp (xs.take k) = xs.take k) (hs : sameK (xs.getD k aD) (xs.getD (k - 1) aD) = true) : CompIn xs k (k + 1) xs :=
  ⟨rfl, Nat.le_refl _, h2, h1, by rw [comp_take xs k h1 h2, hs, if_pos rfl, List.append_nil, hc], fun _ _ => rfl⟩

theorem CompIn.skip {xs ys : List Arc} {k n : Nat} (h : CompIn xs k n ys) (hn : n < xs.length) (hs : sameK (xs.getD n aD) (xs.getD (n - 1) aD) = true) : CompIn xs k (n + 1) ys := by
  have := h.kn
  have := h.k1
  exact ⟨h.len, by omega, hn, h.k1, by rw [comp_take xs n (by omega) hn, hs, if_pos rfl, List.append_nil, h.tk], fun i hi => h.un i (by omega)⟩

theorem CompIn.put {xs ys : List Arc} {k n : Nat} (h : CompIn xs k n ys) (hn : n < xs.length) (hs : sameK (xs.getD n aD) (xs.getD (n - 1) aD) = false) : CompIn xs (k + 1) (n + 1) (ys.set k (xs.getD n aD)) := by
  have h1 := h.kn
  have h2 := h.k1
  have h3 := h.len
  refine ⟨by simp [h3], by omega, hn, by omega, ?_, fun i hi => ?_⟩
  · rw [comp_take xs n (by omega) hn, hs, if_neg (by simp), ← h.tk]
    rw [take_succ_getD _ k aD (by simp; omega), List.take_set_of_le (Nat.le_refl _)]
    congr 1
    simp [List.getD, show k < ys.length by omega]
  · rw [getD_set', if_neg (by omega)]
    exact h.un i (by omega)

theorem CompIn.done {xs ys : List Arc} {k : Nat} (h : CompIn xs k xs.length ys) : (comp xs).length = k ∧ ys = comp xs ++ ys.drop k := by
  have h1 := h.kn
  have h3 := h.len
  have e := h.tk
  rw [List.take_length] at e
  rw [← e, List.length_take]
  exact ⟨by omega, (List.take_append_drop k ys).symm⟩

end Go.Fw

/-
  Rows of a pool lent to a callee.
-/
namespace Go.Fw
open Go

def rowAK (sz : Nat) : Nat → List Bool → List SV → (List SV → List Sli → Prop) → Prop
  | nx, true :: bs, .a (.c (.h x)) :: l, k => rowAK sz (nx + 1) bs l fun l' vs => k (.c (.sl nx sz 0 x.n x.c) :: l') (x :: vs)
  | nx, false :: bs, v :: l, k => rowAK sz nx bs l fun l' vs => k (v :: l') vs
  | _, [], l, k => k l []
  | _, _, _, _ => False

def rowsO (E : Nat) (k : EK) (m : List (Addr × List k.ty × Nat)) : Nat → List Sli → List (Nat × SO)
  | _, [] => []
  | nx, x :: l => (nx, .arr false E k (rowA m x.a) 0) :: rowsO E k m (nx + 1) l

def SO.strict : SO → Bool
  | .arr own _ _ _ _ => own
  | .gen _ => false
  | _ => true

def SO.ro : SO → Bool
  | .arr own _ _ _ _ => !own
  | _ => false

def filK (p : SO → Bool) : List (Nat × SO) → (List (Nat × SO) → Prop) → Prop
  | [], k => k []
  | (i, o) :: l, k => match p o with
    | true => filK p l fun l' => k ((i, o) :: l')
    | false => filK p l k

def filL (p : SO → Bool) : List (Nat × SO) → List (Nat × SO)
  | [] => []
  | (i, o) :: l => match p o with
    | true => (i, o) :: filL p l
    | false => filL p l

section
variable {P : Program} {β : Env} {Z : Nat → Prop} {fp : Nat → Nat → Prop} {s : S} {w w' : World}

end
end Go.Fw

/-
  A function's text cut in two: what holds between.
-/
namespace Go.Fw
open Go

def takeC : Nat → Code → Code
  | 0, _ => .skip
  | k + 1, .seq a b => .seq a (takeC k b)
  | _ + 1, _ => .goto 0

def dropC : Nat → Code → Code
  | 0, c => c
  | k + 1, .seq _ b => dropC k b
  | _ + 1, _ => .skip

theorem SemC.of {P : Program} {ty : List (Nat × STy)} (hty : TyOk P ty) {N n0 : Nat} (n : Nat) (live : List Nat) {c : Code} {kn kr : S → Prop} {ke : Nat → S → Prop} {s : S} (h : exec P ty N AnyE n0 n live c kn kr ke s) : SemC P N n0 c kn kr ke s := by
  intro C hN h0 a w hs
  subst hN h0
  exact exec_sound hty (E := AnyE) (fun _ _ => trivial) c kn kr ke s a w h hs

theorem SemC.sub {P : Program} {N n0 : Nat} {c : Code} {kn kr : S → Prop} {ke : Nat → S → Prop} {s s1 : S} {ren : List (Nat × Option Nat)} (h : SemC P N n0 c kn kr ke s1) (hs : Sub n0 ren s1 s) : SemC P N n0 c kn kr ke s := by
  intro C hN h0 a w hsat
  subst h0
  exact h C hN rfl a w (hsat.sub hs)

/-- The text is cut behind its first k statements. -/
theorem SemC.cut {P : Program} {ty : List (Nat × STy)} (hty : TyOk P ty) {N n0 : Nat} (n : Nat) (live : List Nat) {kn kr : S → Prop} {ke : Nat → S → Prop} {α : Type} (pat : α → S) (inv : α → Prop) : ∀ (k : Nat) (c : Code) (s : S),
    exec P ty N AnyE n0 n live (takeC k c) (fun s' => ∃ x ren, Sub n0 ren (pat x) s' ∧ inv x) kr ke s → (∀ x, inv x → SemC P N n0 (dropC k c) kn kr ke (pat x)) → SemC P N n0 c kn kr ke s
  | 0, c, s, h, hk => by
    obtain ⟨x, ren, hsub, hi⟩ := h
    exact (hk x hi).sub hsub
  | k + 1, c, s, h, hk => by
    cases c <;> first
      | exact h.elim
      | skip
    rename_i x y
    intro C hN h0 a w hs
    subst hN h0
    refine wp_seq (wp_mono (exec_sound hty (E := AnyE) (fun _ _ => trivial) x _ kr ke s a w h hs) ?_)
    intro e a w hq
    cases e <;> first
      | exact hq
      | (obtain ⟨s', hk', hs'⟩ := hq; exact SemC.cut hty n live pat inv k y s' hk' hk C rfl rfl a w hs')

/-- A call of a function of the program, by its text. -/
theorem entryC {P : Program} {ty : List (Nat × STy)} (hty : TyOk P ty) {f : FuncId} {fn : Func} {c : Code} {R : Ending → World → Prop} (avs : List SV) (hp : List (Nat × SO)) (nx : Nat) (post : SV → S → Prop)
    {β : Env} {Z : Nat → Prop} {fp : Nat → Nat → Prop} {w : World} (hf : P.funcs[f]? = some fn) (hb : fn.body = some c) (hs : HSat β Z fp ⟨[], hp, nx⟩ w) (hlt : ∀ v ∈ avs, SV.lt nx v) (hn : avs.length ≤ fn.ntmps)
    {fr : List (Nat × SV)} (hfr : fr = enumL 0 avs)
    (hex : SemC P fn.ntmps nx c (retK ty fn.results.toList post) (retK ty fn.results.toList post) (fun _ _ => False) ⟨fr, hp, nx⟩)
    (hR : ∀ v w' β' Z' fp' s', Nxt β Z ⟨[], hp, nx⟩ w v w' β' Z' fp' ⟨[], s'.hp, s'.nx⟩ → post v s' → R (.returned (v.den β')) w') :
    Calls P f (avs.map (SV.den β)).toArray w R := by
  subst hfr
  refine calls_of_wp hf hb ?_
  let C : Ctx := ⟨w, Z, β, nx, fn.ntmps, []⟩
  have hsat : Sat C ⟨enumL 0 avs, hp, nx⟩ { tmps := (avs.map (SV.den β)).toArray ++ Array.replicate (fn.ntmps - (avs.map (SV.den β)).toArray.size) undef, defers := [] } w := by
    refine ⟨β, Z, fp, ⟨hs.zlt, hs.flt, hs.sep, hs.obj, hs.lto⟩, ⟨?_, ?_, ?_, rfl⟩, ⟨fun _ h => h, Ext.refl _ _, fun _ _ => rfl, Nat.le_refl _⟩⟩
    · intro t v ht
      obtain ⟨_, h2⟩ := look_enumL avs 0 t v ht
      rw [Nat.sub_zero] at h2
      have hlt' : t < avs.length := (List.getElem?_eq_some_iff.1 h2).1
      rw [Array.getElem?_append_left (by simpa using hlt')]
      simp [h2]
    · intro t v ht
      obtain ⟨_, h2⟩ := look_enumL avs 0 t v ht
      exact hlt v (List.mem_of_getElem? h2)
    · show _ = fn.ntmps
      simp; omega
  have hmain := hex C rfl rfl _ _ hsat
  have hres : ∀ s a w', retK ty fn.results.toList post s → Sat C s a w' → a.defers = [] ∧ ∃ v, (results fn a.tmps).run P w' = .ok v w' ∧ R (.returned v) w' := by
    intro s a w' hr hsat'
    obtain ⟨β', Z', fp', hs', hf', hc'⟩ := hsat'
    refine ⟨hf'.defers, ?_⟩
    obtain ⟨r, hk, hl, hrun⟩ := resK_sound hty hs' hf' _ _ hr
    have hnxt : ∀ v : SV, v.lt s.nx → Nxt β Z ⟨[], hp, nx⟩ w v w' β' Z' fp' ⟨[], s.hp, s.nx⟩ := fun v hv =>
      ⟨hc'.env, hc'.ext, hc'.zz, rfl, hc'.nx, ⟨hs'.zlt, hs'.flt, hs'.sep, hs'.obj, hs'.lto⟩, hv⟩
    have hrun2 : (results fn a.tmps).run P w' = .ok (if h : (r.map (SA.den β')).toArray.size = 1 then (r.map (SA.den β')).toArray[0] else .tuple (r.map (SA.den β')).toArray) w' := by
      have e1 : results fn a.tmps = (do let vs ← fn.results.mapM (resOne a.tmps); pure (if h : vs.size = 1 then vs[0] else .tuple vs)) := rfl
      rw [e1, Sem.run_bind, Array.mapM_eq_mapM_toList]
      simp only [Sem.run_map, hrun, Result.andThen_ok, Sem.run_pure]
    match r, hk, hl, hrun2 with
    | [x], hk, hl, hrun2 =>
      refine ⟨_, hrun2, ?_⟩
      have := hR (.a x) w' β' Z' fp' s (hnxt (.a x) (hl x (by simp))) hk
      simpa [SV.den] using this
    | [], hk, hl, hrun2 =>
      refine ⟨_, hrun2, ?_⟩
      have := hR (.tup []) w' β' Z' fp' s (hnxt (.tup []) hl) hk
      simpa [SV.den] using this
    | x :: y :: r, hk, hl, hrun2 =>
      refine ⟨_, hrun2, ?_⟩
      have := hR (.tup (x :: y :: r)) w' β' Z' fp' s (hnxt (.tup (x :: y :: r)) hl) hk
      rw [dif_neg (by simp)]
      exact this
  refine wp_mono hmain ?_
  intro e a w' hq
  cases e with
  | normal => obtain ⟨s, hr, hs'⟩ := hq; exact hres s a w' hr hs'
  | ret => obtain ⟨s, hr, hs'⟩ := hq; exact hres s a w' hr hs'
  | exit i => obtain ⟨s, hr, _⟩ := hq; exact hr.elim
  | goto l => exact hq.elim
  | panic ch => exact hq.elim
  | outgrown => exact hq.elim

theorem ctC {P : Program} {ty : List (Nat × STy)} (hty : TyOk P ty) {f : FuncId} {fn : Func} {c : Code} {avs : List SV} {hp : List (Nat × SO)} {nx : Nat} {post : SV → S → Prop}
    (hf : P.funcs[f]? = some fn) (hb : fn.body = some c) (hlt : ∀ v ∈ avs, SV.lt nx v) (hn : avs.length ≤ fn.ntmps) {fr : List (Nat × SV)} (hfr : fr = enumL 0 avs)
    (hex : SemC P fn.ntmps nx c (retK ty fn.results.toList (Back nx post)) (retK ty fn.results.toList (Back nx post)) (fun _ _ => False) ⟨fr, hp, nx⟩) : Ct P f avs [] hp nx post := by
  intro β Z fp w hs
  rw [List.append_nil]
  refine entryC hty avs hp nx (Back nx post) hf hb hs hlt hn hfr hex fun v w' β' Z' fp' s' hN hp => ?_
  obtain ⟨ren, hp1, nx1, v1, h1, h2, h3⟩ := hp
  obtain ⟨g1, _, g3, g4⟩ := h1.sat (N := (0, [])) (a := { tmps := #[], defers := [] }) hN.sat ⟨fun t v h => (by cases h), fun t v h => (by cases h), rfl, rfl⟩
  obtain ⟨e1, e2⟩ := eqV_spec (β := β') h2 hN.lt
  exact ⟨v1, renE ren β', Z', _, ⟨[], hp1, nx1⟩, by rw [e1], ⟨fun id hid => (g3 id hid).trans (hN.env id hid), hN.ext, hN.zz, rfl, g4, g1, e2⟩, h3⟩

end Go.Fw

namespace Go.Fw
open Go Go.Proofs

set_option maxHeartbeats 4000000 in
set_option maxRecDepth 20000 in
theorem swapRange_c (xs : List Arc) (cap sp a b n : Nat) (hab : a + n ≤ b) (hb : b + n ≤ xs.length) (hl : xs.length ≤ 1000000) : Ct Try.prog 137 [.c (.sl 0 5 0 xs.length cap), .i a, .i b, .i n, .c (.fn 115 [])] [] [(0, .arr true 47 .arc xs sp)] 1
    (fun v s => ∃ ys, v = .u ∧ s = ⟨[], [(0, .arr true 47 .arc ys sp)], 1⟩ ∧ Mv aD a (b + n) xs ys ∧ SwOn aD a b n xs ys) := by
  refine ctW Try.tyOk 11 [] Try.func137 rfl (by simp [SV.lt, SA.lt, SC.lt, arcV, fV]) (by simp) (fr := [(0, .c (.sl 0 5 0 xs.length cap)), (1, .i a), (2, .i b), (3, .i n), (4, .c (.fn 115 []))]) rfl ?_
  repeat' (first | exact rfl | ((conv => whnf); first | refine condP_dec (fun h => absurd h (by omega)) (fun h => ?_) | refine condP_dec (fun h => ?_) (fun h => absurd h (by omega)) | refine condP_dec (fun h => ?_) (fun h => ?_) | refine condP_ndec (fun h => absurd h (by omega)) (fun h => ?_) | refine condP_ndec (fun h => ?_) (fun h => absurd h (by omega)) | refine condP_ndec (fun h => ?_) (fun h => ?_) | refine condP_beq (fun h => absurd h (by omega)) (fun h => ?_) | refine condP_beq (fun h => ?_) (fun h => absurd h (by omega)) | refine condP_beq (fun h => ?_) (fun h => ?_) | refine condP_bne (fun h => absurd h (by omega)) (fun h => ?_) | refine condP_bne (fun h => ?_) (fun h => absurd h (by omega)) | refine condP_bne (fun h => ?_) (fun h => ?_) | refine condP_mk (fun h => ?_) (fun h => ?_) | refine Ob.mk (by (first | omega | (simp only [InI, nmin, List.length_append, List.length_replicate, List.length_cons, List.length_nil, List.length_map, List.length_set, List.length_take, List.length_drop, List.length_reverse, List.length_range, Nat.zero_add, Nat.add_zero, Int.toNat_natCast, EK.sz]; omega) | (simp only [InI, nmin, List.length_append, List.length_replicate, List.length_cons, List.length_nil, List.length_map, List.length_set, List.length_take, List.length_drop, List.length_reverse, List.length_range, Nat.zero_add, Nat.add_zero, Int.toNat_natCast, EK.sz] at *; omega))) ?_ | refine Ob.mk ?_ ?_ | refine Both.mk ?_ ?_ | refine draw_of Try.mixed Try.tyOk 60 (by kernel_rfl) ?_))
  (conv => whnf)
  refine loopI (fun y : Nat × List Arc => ⟨[(0, .c (.sl 0 5 0 xs.length cap)), (1, .i a), (2, .i b), (3, .i n), (10, .i y.1)], [(0, .arr true 47 .arc y.2 sp)], 1⟩)
    (fun y => y.1 ≤ n ∧ Mv aD a (b + n) xs y.2 ∧ SwOn aD a b y.1 xs y.2) (fun y => n - y.1) (0, xs) [] ⟨by rfl, ?_, ?_⟩ ⟨by omega, Mv.refl _ _ _, SwOn.zero _ _ _⟩ ?_
  · simp [eqFr, eqHp, eqV, eqA, eqC, eqO, eqCs, eqAs, look_cons, look, rn, EK.cast, EK.sz, eqCaps]
  · simp [eqFr, eqHp, eqV, eqA, eqC, eqO, eqCs, eqAs, look_cons, look, rn, EK.cast, EK.sz, eqCaps]
  · rintro ⟨k, ys⟩ ⟨hk, hm, hs⟩
    simp only at hk hm hs ⊢
    have hyl := hm.len
    have e1 : ((a : Int) + k).toNat = a + k := by omega
    have e2 : ((b : Int) + k).toNat = b + k := by omega
    repeat' (first | exact rfl | ((conv => whnf); first | refine condP_dec (fun h => absurd h (by omega)) (fun h => ?_) | refine condP_dec (fun h => ?_) (fun h => absurd h (by omega)) | refine condP_dec (fun h => ?_) (fun h => ?_) | refine condP_ndec (fun h => absurd h (by omega)) (fun h => ?_) | refine condP_ndec (fun h => ?_) (fun h => absurd h (by omega)) | refine condP_ndec (fun h => ?_) (fun h => ?_) | refine condP_beq (fun h => absurd h (by omega)) (fun h => ?_) | refine condP_beq (fun h => ?_) (fun h => absurd h (by omega)) | refine condP_beq (fun h => ?_) (fun h => ?_) | refine condP_bne (fun h => absurd h (by omega)) (fun h => ?_) | refine condP_bne (fun h => ?_) (fun h => absurd h (by omega)) | refine condP_bne (fun h => ?_) (fun h => ?_) | refine condP_mk (fun h => ?_) (fun h => ?_) | refine Ob.mk (by (first | omega | (simp only [InI, nmin, List.length_append, List.length_replicate, List.length_cons, List.length_nil, List.length_map, List.length_set, List.length_take, List.length_drop, List.length_reverse, List.length_range, Nat.zero_add, Nat.add_zero, Int.toNat_natCast, EK.sz]; omega) | (simp only [InI, nmin, List.length_append, List.length_replicate, List.length_cons, List.length_nil, List.length_map, List.length_set, List.length_take, List.length_drop, List.length_reverse, List.length_range, Nat.zero_add, Nat.add_zero, Int.toNat_natCast, EK.sz] at *; omega))) ?_ | refine Ob.mk ?_ ?_ | refine Both.mk ?_ ?_ | refine draw_of Try.mixed Try.tyOk 60 (by kernel_rfl) ?_))
    · (conv => whnf)
      refine ⟨(k + 1, swapL aD ys (a + k) (b + k)), [], ⟨by rfl, ?_, ?_⟩, ⟨by simp only; omega, hm.trans (swapL_mv (by omega) (by omega) (by omega)), hs.step hyl (by omega) hab hb⟩, by simp only; omega⟩
      · simp [eqFr, eqHp, eqV, eqA, eqC, eqO, eqCs, eqAs, look_cons, look, rn, EK.cast, EK.sz, eqCaps]
      · simp [eqFr, eqHp, eqV, eqA, eqC, eqO, eqCs, eqAs, look_cons, look, rn, EK.cast, EK.sz, eqCaps, swapL, e1, e2, EK.dflt]
    · have e : k = n := by omega
      subst e
      (conv => whnf)
      exact ⟨[], [(0, .arr true 47 .arc ys sp)], 1, .u, ⟨by rfl, trivial, by simp [eqFr, eqHp, eqV, eqA, eqC, eqO, eqCs, eqAs, look_cons, look, rn, EK.cast, EK.sz, eqCaps]⟩, by simp [eqV, eqAs], ys, rfl, rfl, hm, hs⟩

set_option maxHeartbeats 4000000 in
set_option maxRecDepth 20000 in
theorem rotate_c (xs : List Arc) (cap sp a m b : Nat) (ham : a < m) (hmb : m < b) (hb : b ≤ xs.length) (hl : xs.length ≤ 1000000) : Ct Try.prog 136 [.c (.sl 0 5 0 xs.length cap), .i a, .i m, .i b, .c (.fn 115 [])] [] [(0, .arr true 47 .arc xs sp)] 1
    (fun v s => ∃ ys, v = .u ∧ s = ⟨[], [(0, .arr true 47 .arc ys sp)], 1⟩ ∧ Mv aD a b xs ys ∧ RotOn aD a m b xs ys) := by
  refine ctW Try.tyOk 12 [] Try.func136 rfl (by simp [SV.lt, SA.lt, SC.lt, arcV, fV]) (by simp) (fr := [(0, .c (.sl 0 5 0 xs.length cap)), (1, .i a), (2, .i m), (3, .i b), (4, .c (.fn 115 []))]) rfl ?_
  repeat' (first | exact rfl | ((conv => whnf); first | refine condP_dec (fun h => absurd h (by omega)) (fun h => ?_) | refine condP_dec (fun h => ?_) (fun h => absurd h (by omega)) | refine condP_dec (fun h => ?_) (fun h => ?_) | refine condP_ndec (fun h => absurd h (by omega)) (fun h => ?_) | refine condP_ndec (fun h => ?_) (fun h => absurd h (by omega)) | refine condP_ndec (fun h => ?_) (fun h => ?_) | refine condP_beq (fun h => absurd h (by omega)) (fun h => ?_) | refine condP_beq (fun h => ?_) (fun h => absurd h (by omega)) | refine condP_beq (fun h => ?_) (fun h => ?_) | refine condP_bne (fun h => absurd h (by omega)) (fun h => ?_) | refine condP_bne (fun h => ?_) (fun h => absurd h (by omega)) | refine condP_bne (fun h => ?_) (fun h => ?_) | refine condP_mk (fun h => ?_) (fun h => ?_) | refine Ob.mk (by (first | omega | (simp only [InI, nmin, List.length_append, List.length_replicate, List.length_cons, List.length_nil, List.length_map, List.length_set, List.length_take, List.length_drop, List.length_reverse, List.length_range, Nat.zero_add, Nat.add_zero, Int.toNat_natCast, EK.sz]; omega) | (simp only [InI, nmin, List.length_append, List.length_replicate, List.length_cons, List.length_nil, List.length_map, List.length_set, List.length_take, List.length_drop, List.length_reverse, List.length_range, Nat.zero_add, Nat.add_zero, Int.toNat_natCast, EK.sz] at *; omega))) ?_ | refine Ob.mk ?_ ?_ | refine Both.mk ?_ ?_ | refine draw_of Try.mixed Try.tyOk 60 (by kernel_rfl) ?_))
  (conv => whnf)
  refine loopI (fun y : Nat × Nat × List Arc => ⟨[(0, .c (.sl 0 5 0 xs.length cap)), (1, .i a), (2, .i m), (3, .i b), (4, .c (.fn 115 [])), (10, .i y.1), (11, .i y.2.1)], [(0, .arr true 47 .arc y.2.2 sp)], 1⟩)
    (fun y => 0 < y.1 ∧ 0 < y.2.1 ∧ y.1 ≤ m - a ∧ y.2.1 ≤ b - m ∧ Mv aD a b xs y.2.2 ∧ ∀ us, RotOn aD (m - y.1) m (m + y.2.1) y.2.2 us → RotOn aD a m b xs us) (fun y => y.1 + y.2.1) (m - a, b - m, xs) [] ⟨by rfl, ?_, ?_⟩ ⟨by simp only; omega, by simp only; omega, Nat.le_refl _, Nat.le_refl _, Mv.refl _ _ _, ?_⟩ ?_
  · simp [eqFr, eqHp, eqV, eqA, eqC, eqO, eqCs, eqAs, look_cons, look, rn, EK.cast, EK.sz, eqCaps]
    omega
  · simp [eqFr, eqHp, eqV, eqA, eqC, eqO, eqCs, eqAs, look_cons, look, rn, EK.cast, EK.sz, eqCaps]
  · intro us h
    have e1 : m - (m - a) = a := by omega
    have e2 : m + (b - m) = b := by omega
    simp only [e1, e2] at h
    exact h
  · rintro ⟨i, j, ys⟩ ⟨hi, hj, him, hjm, hm, hr⟩
    simp only at hi hj him hjm hm hr ⊢
    have hyl := hm.len
    have ec1 : ((m : Int) - i) = ((m - i : Nat) : Int) := by omega
    have ec2 : ((m : Int) + j - i) = ((m + j - i : Nat) : Int) := by omega
    have ec3 : i > j → ((i : Int) - j) = ((i - j : Nat) : Int) := by omega
    have ec4 : i < j → ((j : Int) - i) = ((j - i : Nat) : Int) := by omega
    repeat' (first | exact rfl | ((conv => whnf); first | refine condP_dec (fun h => absurd h (by omega)) (fun h => ?_) | refine condP_dec (fun h => ?_) (fun h => absurd h (by omega)) | refine condP_dec (fun h => ?_) (fun h => ?_) | refine condP_ndec (fun h => absurd h (by omega)) (fun h => ?_) | refine condP_ndec (fun h => ?_) (fun h => absurd h (by omega)) | refine condP_ndec (fun h => ?_) (fun h => ?_) | refine condP_beq (fun h => absurd h (by omega)) (fun h => ?_) | refine condP_beq (fun h => ?_) (fun h => absurd h (by omega)) | refine condP_beq (fun h => ?_) (fun h => ?_) | refine condP_bne (fun h => absurd h (by omega)) (fun h => ?_) | refine condP_bne (fun h => ?_) (fun h => absurd h (by omega)) | refine condP_bne (fun h => ?_) (fun h => ?_) | refine condP_mk (fun h => ?_) (fun h => ?_) | refine Ob.mk (by (first | omega | (simp only [InI, nmin, List.length_append, List.length_replicate, List.length_cons, List.length_nil, List.length_map, List.length_set, List.length_take, List.length_drop, List.length_reverse, List.length_range, Nat.zero_add, Nat.add_zero, Int.toNat_natCast, EK.sz]; omega) | (simp only [InI, nmin, List.length_append, List.length_replicate, List.length_cons, List.length_nil, List.length_map, List.length_set, List.length_take, List.length_drop, List.length_reverse, List.length_range, Nat.zero_add, Nat.add_zero, Int.toNat_natCast, EK.sz] at *; omega))) ?_ | refine Ob.mk ?_ ?_ | refine Both.mk ?_ ?_ | refine draw_of Try.mixed Try.tyOk 60 (by kernel_rfl) ?_))
    · (conv => whnf)
      rw [ec1]
      refine callF (swapRange_c ys cap sp (m - i) m j (by omega) (by omega) (by omega)) [0] Try.call137 rfl (by simp [eqLs, eqL, eqO, eqC, eqCs, rn, renOf, look_cons, look, EK.cast, hyl]) (by simp [appN, ptrs, eqVL, eqV, eqA, eqC, eqCs, eqAs, eqCaps, EK.sz, rn, renOf, look_cons, look, arcV, fV, hyl]) (by simp [appN, ptrs, SV.lt, SA.lt, SC.lt, arcV, fV, lenN]) ?_
      rintro _ _ ⟨zs, rfl, rfl, hm2, hs2⟩
      have ec := ec3 (by omega)
      repeat' (first | exact rfl | ((conv => whnf); first | refine condP_dec (fun h => absurd h (by omega)) (fun h => ?_) | refine condP_dec (fun h => ?_) (fun h => absurd h (by omega)) | refine condP_dec (fun h => ?_) (fun h => ?_) | refine condP_ndec (fun h => absurd h (by omega)) (fun h => ?_) | refine condP_ndec (fun h => ?_) (fun h => absurd h (by omega)) | refine condP_ndec (fun h => ?_) (fun h => ?_) | refine condP_beq (fun h => absurd h (by omega)) (fun h => ?_) | refine condP_beq (fun h => ?_) (fun h => absurd h (by omega)) | refine condP_beq (fun h => ?_) (fun h => ?_) | refine condP_bne (fun h => absurd h (by omega)) (fun h => ?_) | refine condP_bne (fun h => ?_) (fun h => absurd h (by omega)) | refine condP_bne (fun h => ?_) (fun h => ?_) | refine condP_mk (fun h => ?_) (fun h => ?_) | refine Ob.mk (by (first | omega | (simp only [InI, nmin, List.length_append, List.length_replicate, List.length_cons, List.length_nil, List.length_map, List.length_set, List.length_take, List.length_drop, List.length_reverse, List.length_range, Nat.zero_add, Nat.add_zero, Int.toNat_natCast, EK.sz]; omega) | (simp only [InI, nmin, List.length_append, List.length_replicate, List.length_cons, List.length_nil, List.length_map, List.length_set, List.length_take, List.length_drop, List.length_reverse, List.length_range, Nat.zero_add, Nat.add_zero, Int.toNat_natCast, EK.sz] at *; omega))) ?_ | refine Ob.mk ?_ ?_ | refine Both.mk ?_ ?_ | refine draw_of Try.mixed Try.tyOk 60 (by kernel_rfl) ?_))
      rw [ec]
      (conv => whnf)
      refine ⟨(i - j, j, zs), [], ⟨by rfl, ?_, ?_⟩, ⟨by simp only; omega, hj, by simp only; omega, hjm, hm.trans (hm2.wide (by omega) (by omega)), RotOn.left hr (by omega) (by omega) hs2⟩, by simp only; omega⟩
      · simp [eqFr, eqHp, eqV, eqA, eqC, eqO, eqCs, eqAs, look_cons, look, rn, EK.cast, EK.sz, eqCaps]
      · simp [eqFr, eqHp, eqV, eqA, eqC, eqO, eqCs, eqAs, look_cons, look, rn, EK.cast, EK.sz, eqCaps]
    · (conv => whnf)
      rw [ec1, ec2]
      refine callF (swapRange_c ys cap sp (m - i) (m + j - i) i (by omega) (by omega) (by omega)) [0] Try.call137 rfl (by simp [eqLs, eqL, eqO, eqC, eqCs, rn, renOf, look_cons, look, EK.cast, hyl]) (by simp [appN, ptrs, eqVL, eqV, eqA, eqC, eqCs, eqAs, eqCaps, EK.sz, rn, renOf, look_cons, look, arcV, fV, hyl]) (by simp [appN, ptrs, SV.lt, SA.lt, SC.lt, arcV, fV, lenN]) ?_
      rintro _ _ ⟨zs, rfl, rfl, hm2, hs2⟩
      have ec := ec4 (by omega)
      repeat' (first | exact rfl | ((conv => whnf); first | refine condP_dec (fun h => absurd h (by omega)) (fun h => ?_) | refine condP_dec (fun h => ?_) (fun h => absurd h (by omega)) | refine condP_dec (fun h => ?_) (fun h => ?_) | refine condP_ndec (fun h => absurd h (by omega)) (fun h => ?_) | refine condP_ndec (fun h => ?_) (fun h => absurd h (by omega)) | refine condP_ndec (fun h => ?_) (fun h => ?_) | refine condP_beq (fun h => absurd h (by omega)) (fun h => ?_) | refine condP_beq (fun h => ?_) (fun h => absurd h (by omega)) | refine condP_beq (fun h => ?_) (fun h => ?_) | refine condP_bne (fun h => absurd h (by omega)) (fun h => ?_) | refine condP_bne (fun h => ?_) (fun h => absurd h (by omega)) | refine condP_bne (fun h => ?_) (fun h => ?_) | refine condP_mk (fun h => ?_) (fun h => ?_) | refine Ob.mk (by (first | omega | (simp only [InI, nmin, List.length_append, List.length_replicate, List.length_cons, List.length_nil, List.length_map, List.length_set, List.length_take, List.length_drop, List.length_reverse, List.length_range, Nat.zero_add, Nat.add_zero, Int.toNat_natCast, EK.sz]; omega) | (simp only [InI, nmin, List.length_append, List.length_replicate, List.length_cons, List.length_nil, List.length_map, List.length_set, List.length_take, List.length_drop, List.length_reverse, List.length_range, Nat.zero_add, Nat.add_zero, Int.toNat_natCast, EK.sz] at *; omega))) ?_ | refine Ob.mk ?_ ?_ | refine Both.mk ?_ ?_ | refine draw_of Try.mixed Try.tyOk 60 (by kernel_rfl) ?_))
      rw [ec]
      (conv => whnf)
      refine ⟨(i, j - i, zs), [], ⟨by rfl, ?_, ?_⟩, ⟨hi, by simp only; omega, him, by simp only; omega, hm.trans (hm2.wide (by omega) (by omega)), RotOn.right hr (by omega) (by omega) hs2⟩, by simp only; omega⟩
      · simp [eqFr, eqHp, eqV, eqA, eqC, eqO, eqCs, eqAs, look_cons, look, rn, EK.cast, EK.sz, eqCaps]
      · simp [eqFr, eqHp, eqV, eqA, eqC, eqO, eqCs, eqAs, look_cons, look, rn, EK.cast, EK.sz, eqCaps]
    · have e : i = j := by omega
      subst e
      (conv => whnf)
      rw [ec1]
      refine callF (swapRange_c ys cap sp (m - i) m i (by omega) (by omega) (by omega)) [0] Try.call137 rfl (by simp [eqLs, eqL, eqO, eqC, eqCs, rn, renOf, look_cons, look, EK.cast, hyl]) (by simp [appN, ptrs, eqVL, eqV, eqA, eqC, eqCs, eqAs, eqCaps, EK.sz, rn, renOf, look_cons, look, arcV, fV, hyl]) (by simp [appN, ptrs, SV.lt, SA.lt, SC.lt, arcV, fV, lenN]) ?_
      rintro _ _ ⟨zs, rfl, rfl, hm2, hs2⟩
      repeat' (first | exact rfl | ((conv => whnf); first | refine condP_dec (fun h => absurd h (by omega)) (fun h => ?_) | refine condP_dec (fun h => ?_) (fun h => absurd h (by omega)) | refine condP_dec (fun h => ?_) (fun h => ?_) | refine condP_ndec (fun h => absurd h (by omega)) (fun h => ?_) | refine condP_ndec (fun h => ?_) (fun h => absurd h (by omega)) | refine condP_ndec (fun h => ?_) (fun h => ?_) | refine condP_beq (fun h => absurd h (by omega)) (fun h => ?_) | refine condP_beq (fun h => ?_) (fun h => absurd h (by omega)) | refine condP_beq (fun h => ?_) (fun h => ?_) | refine condP_bne (fun h => absurd h (by omega)) (fun h => ?_) | refine condP_bne (fun h => ?_) (fun h => absurd h (by omega)) | refine condP_bne (fun h => ?_) (fun h => ?_) | refine condP_mk (fun h => ?_) (fun h => ?_) | refine Ob.mk (by (first | omega | (simp only [InI, nmin, List.length_append, List.length_replicate, List.length_cons, List.length_nil, List.length_map, List.length_set, List.length_take, List.length_drop, List.length_reverse, List.length_range, Nat.zero_add, Nat.add_zero, Int.toNat_natCast, EK.sz]; omega) | (simp only [InI, nmin, List.length_append, List.length_replicate, List.length_cons, List.length_nil, List.length_map, List.length_set, List.length_take, List.length_drop, List.length_reverse, List.length_range, Nat.zero_add, Nat.add_zero, Int.toNat_natCast, EK.sz] at *; omega))) ?_ | refine Ob.mk ?_ ?_ | refine Both.mk ?_ ?_ | refine draw_of Try.mixed Try.tyOk 60 (by kernel_rfl) ?_))
      (conv => whnf)
      exact ⟨[], [(0, .arr true 47 .arc zs sp)], 1, .u, ⟨by rfl, trivial, by simp [eqFr, eqHp, eqV, eqA, eqC, eqO, eqCs, eqAs, look_cons, look, rn, EK.cast, EK.sz, eqCaps]⟩, by simp [eqV, eqAs], zs, rfl, rfl, hm.trans (hm2.wide (by omega) (by omega)), hr zs (RotOn.last (by omega) hs2)⟩
end Go.Fw

namespace Go.Fw
open Go Go.Proofs

set_option maxHeartbeats 4000000 in
set_option maxRecDepth 20000 in
theorem sorted1_c (a b : Arc) : Ct Try.prog 115 [arcV a, arcV b] [] [] 0 (Is 0 (.i (cmpW a b))) := by
  refine ctW Try.tyOk 5 [] Try.func115 rfl (by simp [SV.lt, SA.lt, SC.lt, arcV, fV]) (by simp) (fr := [(0, arcV a), (1, arcV b)]) rfl ?_
  repeat' (first | exact rfl | ((conv => whnf); first | refine condP_dec (fun h => absurd h (by omega)) (fun h => ?_) | refine condP_dec (fun h => ?_) (fun h => absurd h (by omega)) | refine condP_dec (fun h => ?_) (fun h => ?_) | refine condP_ndec (fun h => absurd h (by omega)) (fun h => ?_) | refine condP_ndec (fun h => ?_) (fun h => absurd h (by omega)) | refine condP_ndec (fun h => ?_) (fun h => ?_) | refine condP_beq (fun h => absurd h (by omega)) (fun h => ?_) | refine condP_beq (fun h => ?_) (fun h => absurd h (by omega)) | refine condP_beq (fun h => ?_) (fun h => ?_) | refine condP_bne (fun h => absurd h (by omega)) (fun h => ?_) | refine condP_bne (fun h => ?_) (fun h => absurd h (by omega)) | refine condP_bne (fun h => ?_) (fun h => ?_) | refine condP_mk (fun h => ?_) (fun h => ?_) | refine Ob.mk (by (first | omega | (simp only [InI, nmin, List.length_append, List.length_replicate, List.length_cons, List.length_nil, List.length_map, List.length_set, List.length_take, List.length_drop, List.length_reverse, List.length_range, Nat.zero_add, Nat.add_zero, Int.toNat_natCast, EK.sz]; omega) | (simp only [InI, nmin, List.length_append, List.length_replicate, List.length_cons, List.length_nil, List.length_map, List.length_set, List.length_take, List.length_drop, List.length_reverse, List.length_range, Nat.zero_add, Nat.add_zero, Int.toNat_natCast, EK.sz] at *; omega))) ?_ | refine Ob.mk ?_ ?_ | refine Both.mk ?_ ?_ | refine draw_of Try.mixed Try.tyOk 60 (by kernel_rfl) ?_))
  (conv => whnf)
  refine callF (order_c a b) [] Try.call100 rfl (by simp [eqLs, eqL, eqO, eqC, eqCs, rn, renOf, look_cons, look, EK.cast]) (by simp [appN, ptrs, eqVL, eqV, eqA, eqC, eqCs, eqAs, eqCaps, EK.sz, rn, renOf, look_cons, look, arcV, fV]) (by simp [appN, ptrs, SV.lt, SA.lt, SC.lt, arcV, fV, lenN]) ?_
  rintro _ _ ⟨rfl, rfl⟩
  repeat' (first | exact rfl | ((conv => whnf); first | refine condP_dec (fun h => absurd h (by omega)) (fun h => ?_) | refine condP_dec (fun h => ?_) (fun h => absurd h (by omega)) | refine condP_dec (fun h => ?_) (fun h => ?_) | refine condP_ndec (fun h => absurd h (by omega)) (fun h => ?_) | refine condP_ndec (fun h => ?_) (fun h => absurd h (by omega)) | refine condP_ndec (fun h => ?_) (fun h => ?_) | refine condP_beq (fun h => absurd h (by omega)) (fun h => ?_) | refine condP_beq (fun h => ?_) (fun h => absurd h (by omega)) | refine condP_beq (fun h => ?_) (fun h => ?_) | refine condP_bne (fun h => absurd h (by omega)) (fun h => ?_) | refine condP_bne (fun h => ?_) (fun h => absurd h (by omega)) | refine condP_bne (fun h => ?_) (fun h => ?_) | refine condP_mk (fun h => ?_) (fun h => ?_) | refine Ob.mk (by (first | omega | (simp only [InI, nmin, List.length_append, List.length_replicate, List.length_cons, List.length_nil, List.length_map, List.length_set, List.length_take, List.length_drop, List.length_reverse, List.length_range, Nat.zero_add, Nat.add_zero, Int.toNat_natCast, EK.sz]; omega) | (simp only [InI, nmin, List.length_append, List.length_replicate, List.length_cons, List.length_nil, List.length_map, List.length_set, List.length_take, List.length_drop, List.length_reverse, List.length_range, Nat.zero_add, Nat.add_zero, Int.toNat_natCast, EK.sz] at *; omega))) ?_ | refine Ob.mk ?_ ?_ | refine Both.mk ?_ ?_ | refine draw_of Try.mixed Try.tyOk 60 (by kernel_rfl) ?_))
  (conv => whnf)
  refine callF (compare_c a.w b.w) [] Try.call117 rfl (by simp [eqLs, eqL, eqO, eqC, eqCs, rn, renOf, look_cons, look, EK.cast]) (by simp [appN, ptrs, eqVL, eqV, eqA, eqC, eqCs, eqAs, eqCaps, EK.sz, rn, renOf, look_cons, look, arcV, fV]) (by simp [appN, ptrs, SV.lt, SA.lt, SC.lt, arcV, fV, lenN]) ?_
  rintro _ _ ⟨rfl, rfl⟩
  repeat' (first | exact rfl | ((conv => whnf); first | refine condP_dec (fun h => absurd h (by omega)) (fun h => ?_) | refine condP_dec (fun h => ?_) (fun h => absurd h (by omega)) | refine condP_dec (fun h => ?_) (fun h => ?_) | refine condP_ndec (fun h => absurd h (by omega)) (fun h => ?_) | refine condP_ndec (fun h => ?_) (fun h => absurd h (by omega)) | refine condP_ndec (fun h => ?_) (fun h => ?_) | refine condP_beq (fun h => absurd h (by omega)) (fun h => ?_) | refine condP_beq (fun h => ?_) (fun h => absurd h (by omega)) | refine condP_beq (fun h => ?_) (fun h => ?_) | refine condP_bne (fun h => absurd h (by omega)) (fun h => ?_) | refine condP_bne (fun h => ?_) (fun h => absurd h (by omega)) | refine condP_bne (fun h => ?_) (fun h => ?_) | refine condP_mk (fun h => ?_) (fun h => ?_) | refine Ob.mk (by (first | omega | (simp only [InI, nmin, List.length_append, List.length_replicate, List.length_cons, List.length_nil, List.length_map, List.length_set, List.length_take, List.length_drop, List.length_reverse, List.length_range, Nat.zero_add, Nat.add_zero, Int.toNat_natCast, EK.sz]; omega) | (simp only [InI, nmin, List.length_append, List.length_replicate, List.length_cons, List.length_nil, List.length_map, List.length_set, List.length_take, List.length_drop, List.length_reverse, List.length_range, Nat.zero_add, Nat.add_zero, Int.toNat_natCast, EK.sz] at *; omega))) ?_ | refine Ob.mk ?_ ?_ | refine Both.mk ?_ ?_ | refine draw_of Try.mixed Try.tyOk 60 (by kernel_rfl) ?_))
  (conv => whnf)
  refine callF (or_c [orderI a b, cmpI a.w b.w] 2 (by simp)) [2] Try.call116 rfl (by simp [eqLs, eqL, eqO, eqC, eqCs, rn, renOf, look_cons, look, EK.cast]) (by simp [appN, ptrs, eqVL, eqV, eqA, eqC, eqCs, eqAs, eqCaps, EK.sz, rn, renOf, look_cons, look, arcV, fV]) (by simp [appN, ptrs, SV.lt, SA.lt, SC.lt, arcV, fV, lenN]) ?_
  rintro _ _ ⟨rfl, rfl⟩
  repeat' (first | exact rfl | ((conv => whnf); first | refine condP_dec (fun h => absurd h (by omega)) (fun h => ?_) | refine condP_dec (fun h => ?_) (fun h => absurd h (by omega)) | refine condP_dec (fun h => ?_) (fun h => ?_) | refine condP_ndec (fun h => absurd h (by omega)) (fun h => ?_) | refine condP_ndec (fun h => ?_) (fun h => absurd h (by omega)) | refine condP_ndec (fun h => ?_) (fun h => ?_) | refine condP_beq (fun h => absurd h (by omega)) (fun h => ?_) | refine condP_beq (fun h => ?_) (fun h => absurd h (by omega)) | refine condP_beq (fun h => ?_) (fun h => ?_) | refine condP_bne (fun h => absurd h (by omega)) (fun h => ?_) | refine condP_bne (fun h => ?_) (fun h => absurd h (by omega)) | refine condP_bne (fun h => ?_) (fun h => ?_) | refine condP_mk (fun h => ?_) (fun h => ?_) | refine Ob.mk (by (first | omega | (simp only [InI, nmin, List.length_append, List.length_replicate, List.length_cons, List.length_nil, List.length_map, List.length_set, List.length_take, List.length_drop, List.length_reverse, List.length_range, Nat.zero_add, Nat.add_zero, Int.toNat_natCast, EK.sz]; omega) | (simp only [InI, nmin, List.length_append, List.length_replicate, List.length_cons, List.length_nil, List.length_map, List.length_set, List.length_take, List.length_drop, List.length_reverse, List.length_range, Nat.zero_add, Nat.add_zero, Int.toNat_natCast, EK.sz] at *; omega))) ?_ | refine Ob.mk ?_ ?_ | refine Both.mk ?_ ?_ | refine draw_of Try.mixed Try.tyOk 60 (by kernel_rfl) ?_))
  (conv => whnf)
  refine Back.is ?_
  simp only [eqV, eqA, eqC, cmpW]

set_option maxHeartbeats 4000000 in
set_option maxRecDepth 20000 in
theorem sorted2_c (a b : Arc) : Ct Try.prog 119 [arcV a, arcV b] [] [] 0 (Is 0 (.b (sameK a b))) := by
  refine ctW Try.tyOk 5 [] Try.func119 rfl (by simp [SV.lt, SA.lt, SC.lt, arcV, fV]) (by simp) (fr := [(0, arcV a), (1, arcV b)]) rfl ?_
  repeat' (first | exact rfl | ((conv => whnf); first | refine condP_dec (fun h => absurd h (by omega)) (fun h => ?_) | refine condP_dec (fun h => ?_) (fun h => absurd h (by omega)) | refine condP_dec (fun h => ?_) (fun h => ?_) | refine condP_ndec (fun h => absurd h (by omega)) (fun h => ?_) | refine condP_ndec (fun h => ?_) (fun h => absurd h (by omega)) | refine condP_ndec (fun h => ?_) (fun h => ?_) | refine condP_beq (fun h => absurd h (by omega)) (fun h => ?_) | refine condP_beq (fun h => ?_) (fun h => absurd h (by omega)) | refine condP_beq (fun h => ?_) (fun h => ?_) | refine condP_bne (fun h => absurd h (by omega)) (fun h => ?_) | refine condP_bne (fun h => ?_) (fun h => absurd h (by omega)) | refine condP_bne (fun h => ?_) (fun h => ?_) | refine condP_mk (fun h => ?_) (fun h => ?_) | refine Ob.mk (by (first | omega | (simp only [InI, nmin, List.length_append, List.length_replicate, List.length_cons, List.length_nil, List.length_map, List.length_set, List.length_take, List.length_drop, List.length_reverse, List.length_range, Nat.zero_add, Nat.add_zero, Int.toNat_natCast, EK.sz]; omega) | (simp only [InI, nmin, List.length_append, List.length_replicate, List.length_cons, List.length_nil, List.length_map, List.length_set, List.length_take, List.length_drop, List.length_reverse, List.length_range, Nat.zero_add, Nat.add_zero, Int.toNat_natCast, EK.sz] at *; omega))) ?_ | refine Ob.mk ?_ ?_ | refine Both.mk ?_ ?_ | refine draw_of Try.mixed Try.tyOk 60 (by kernel_rfl) ?_))
  (conv => whnf)
  refine callF (order_c a b) [] Try.call100 rfl (by simp [eqLs, eqL, eqO, eqC, eqCs, rn, renOf, look_cons, look, EK.cast]) (by simp [appN, ptrs, eqVL, eqV, eqA, eqC, eqCs, eqAs, eqCaps, EK.sz, rn, renOf, look_cons, look, arcV, fV]) (by simp [appN, ptrs, SV.lt, SA.lt, SC.lt, arcV, fV, lenN]) ?_
  rintro _ _ ⟨rfl, rfl⟩
  repeat' (first | exact rfl | ((conv => whnf); first | refine condP_dec (fun h => absurd h (by omega)) (fun h => ?_) | refine condP_dec (fun h => ?_) (fun h => absurd h (by omega)) | refine condP_dec (fun h => ?_) (fun h => ?_) | refine condP_ndec (fun h => absurd h (by omega)) (fun h => ?_) | refine condP_ndec (fun h => ?_) (fun h => absurd h (by omega)) | refine condP_ndec (fun h => ?_) (fun h => ?_) | refine condP_beq (fun h => absurd h (by omega)) (fun h => ?_) | refine condP_beq (fun h => ?_) (fun h => absurd h (by omega)) | refine condP_beq (fun h => ?_) (fun h => ?_) | refine condP_bne (fun h => absurd h (by omega)) (fun h => ?_) | refine condP_bne (fun h => ?_) (fun h => absurd h (by omega)) | refine condP_bne (fun h => ?_) (fun h => ?_) | refine condP_mk (fun h => ?_) (fun h => ?_) | refine Ob.mk (by (first | omega | (simp only [InI, nmin, List.length_append, List.length_replicate, List.length_cons, List.length_nil, List.length_map, List.length_set, List.length_take, List.length_drop, List.length_reverse, List.length_range, Nat.zero_add, Nat.add_zero, Int.toNat_natCast, EK.sz]; omega) | (simp only [InI, nmin, List.length_append, List.length_replicate, List.length_cons, List.length_nil, List.length_map, List.length_set, List.length_take, List.length_drop, List.length_reverse, List.length_range, Nat.zero_add, Nat.add_zero, Int.toNat_natCast, EK.sz] at *; omega))) ?_ | refine Ob.mk ?_ ?_ | refine Both.mk ?_ ?_ | refine draw_of Try.mixed Try.tyOk 60 (by kernel_rfl) ?_))
  (conv => whnf)
  refine Back.is ?_
  simp only [eqV, eqA, eqC, sameK]
  rfl

set_option maxHeartbeats 4000000 in
set_option maxRecDepth 20000 in
theorem insertion_c (xs : List Arc) (cap sp a b : Nat) (hab : a ≤ b) (hb : b ≤ xs.length) (hl : xs.length ≤ 1000000) : Ct Try.prog 133 [.c (.sl 0 5 0 xs.length cap), .i a, .i b, .c (.fn 115 [])] [] [(0, .arr true 47 .arc xs sp)] 1
    (fun v s => ∃ ys, v = .u ∧ s = ⟨[], [(0, .arr true 47 .arc ys sp)], 1⟩ ∧ Mv aD a b xs ys ∧ SrtOn aD ltW a b ys) := by
  refine ctW Try.tyOk 10 [] Try.func133 rfl (by simp [SV.lt, SA.lt, SC.lt, arcV, fV]) (by simp) (fr := [(0, .c (.sl 0 5 0 xs.length cap)), (1, .i a), (2, .i b), (3, .c (.fn 115 []))]) rfl ?_
  repeat' (first | exact rfl | ((conv => whnf); first | refine condP_dec (fun h => absurd h (by omega)) (fun h => ?_) | refine condP_dec (fun h => ?_) (fun h => absurd h (by omega)) | refine condP_dec (fun h => ?_) (fun h => ?_) | refine condP_ndec (fun h => absurd h (by omega)) (fun h => ?_) | refine condP_ndec (fun h => ?_) (fun h => absurd h (by omega)) | refine condP_ndec (fun h => ?_) (fun h => ?_) | refine condP_beq (fun h => absurd h (by omega)) (fun h => ?_) | refine condP_beq (fun h => ?_) (fun h => absurd h (by omega)) | refine condP_beq (fun h => ?_) (fun h => ?_) | refine condP_bne (fun h => absurd h (by omega)) (fun h => ?_) | refine condP_bne (fun h => ?_) (fun h => absurd h (by omega)) | refine condP_bne (fun h => ?_) (fun h => ?_) | refine condP_mk (fun h => ?_) (fun h => ?_) | refine Ob.mk (by (first | omega | (simp only [InI, nmin, List.length_append, List.length_replicate, List.length_cons, List.length_nil, List.length_map, List.length_set, List.length_take, List.length_drop, List.length_reverse, List.length_range, Nat.zero_add, Nat.add_zero, Int.toNat_natCast, EK.sz]; omega) | (simp only [InI, nmin, List.length_append, List.length_replicate, List.length_cons, List.length_nil, List.length_map, List.length_set, List.length_take, List.length_drop, List.length_reverse, List.length_range, Nat.zero_add, Nat.add_zero, Int.toNat_natCast, EK.sz] at *; omega))) ?_ | refine Ob.mk ?_ ?_ | refine Both.mk ?_ ?_ | refine draw_of Try.mixed Try.tyOk 60 (by kernel_rfl) ?_))
  (conv => whnf)
  refine loopI (fun y : Nat × List Arc => ⟨[(0, .c (.sl 0 5 0 xs.length cap)), (1, .i a), (2, .i b), (3, .c (.fn 115 [])), (8, .i y.1)], [(0, .arr true 47 .arc y.2 sp)], 1⟩)
    (fun y => a + 1 ≤ y.1 ∧ y.1 ≤ b + 1 ∧ Mv aD a b xs y.2 ∧ SrtOn aD ltW a y.1 y.2) (fun y => b + 1 - y.1) (a + 1, xs) [] ⟨by rfl, ?_, ?_⟩ ⟨Nat.le_refl _, by simp only; omega, Mv.refl _ _ _, SrtOn.one (Nat.le_refl _)⟩ ?_
  · simp [eqFr, eqHp, eqV, eqA, eqC, eqO, eqCs, eqAs, look_cons, look, rn, EK.cast, EK.sz, eqCaps]
  · simp [eqFr, eqHp, eqV, eqA, eqC, eqO, eqCs, eqAs, look_cons, look, rn, EK.cast, EK.sz, eqCaps]
  · rintro ⟨i, ys⟩ ⟨hi, hib, hm, hs⟩
    simp only at hi hib hm hs ⊢
    have hyl := hm.len
    repeat' (first | exact rfl | ((conv => whnf); first | refine condP_dec (fun h => absurd h (by omega)) (fun h => ?_) | refine condP_dec (fun h => ?_) (fun h => absurd h (by omega)) | refine condP_dec (fun h => ?_) (fun h => ?_) | refine condP_ndec (fun h => absurd h (by omega)) (fun h => ?_) | refine condP_ndec (fun h => ?_) (fun h => absurd h (by omega)) | refine condP_ndec (fun h => ?_) (fun h => ?_) | refine condP_beq (fun h => absurd h (by omega)) (fun h => ?_) | refine condP_beq (fun h => ?_) (fun h => absurd h (by omega)) | refine condP_beq (fun h => ?_) (fun h => ?_) | refine condP_bne (fun h => absurd h (by omega)) (fun h => ?_) | refine condP_bne (fun h => ?_) (fun h => absurd h (by omega)) | refine condP_bne (fun h => ?_) (fun h => ?_) | refine condP_mk (fun h => ?_) (fun h => ?_) | refine Ob.mk (by (first | omega | (simp only [InI, nmin, List.length_append, List.length_replicate, List.length_cons, List.length_nil, List.length_map, List.length_set, List.length_take, List.length_drop, List.length_reverse, List.length_range, Nat.zero_add, Nat.add_zero, Int.toNat_natCast, EK.sz]; omega) | (simp only [InI, nmin, List.length_append, List.length_replicate, List.length_cons, List.length_nil, List.length_map, List.length_set, List.length_take, List.length_drop, List.length_reverse, List.length_range, Nat.zero_add, Nat.add_zero, Int.toNat_natCast, EK.sz] at *; omega))) ?_ | refine Ob.mk ?_ ?_ | refine Both.mk ?_ ?_ | refine draw_of Try.mixed Try.tyOk 60 (by kernel_rfl) ?_))
    · (conv => whnf)
      refine loopI (fun y : Nat × List Arc => ⟨[(0, .c (.sl 0 5 0 xs.length cap)), (1, .i a), (2, .i b), (3, .c (.fn 115 [])), (8, .i i), (9, .i y.1)], [(0, .arr true 47 .arc y.2 sp)], 1⟩)
        (fun y => a ≤ y.1 ∧ y.1 ≤ i ∧ Mv aD a b xs y.2 ∧ InsOn aD ltW a i y.1 y.2) (fun y => y.1) (i, ys) [] ⟨by rfl, ?_, ?_⟩ ⟨by simp only; omega, Nat.le_refl _, hm, InsOn.start hs⟩ ?_
      · simp [eqFr, eqHp, eqV, eqA, eqC, eqO, eqCs, eqAs, look_cons, look, rn, EK.cast, EK.sz, eqCaps]
      · simp [eqFr, eqHp, eqV, eqA, eqC, eqO, eqCs, eqAs, look_cons, look, rn, EK.cast, EK.sz, eqCaps]
      · rintro ⟨j, zs⟩ ⟨hj, hji, hm2, hs2⟩
        simp only at hj hji hm2 hs2 ⊢
        have hzl := hm2.len
        repeat' (first | exact rfl | ((conv => whnf); first | refine condP_dec (fun h => absurd h (by omega)) (fun h => ?_) | refine condP_dec (fun h => ?_) (fun h => absurd h (by omega)) | refine condP_dec (fun h => ?_) (fun h => ?_) | refine condP_ndec (fun h => absurd h (by omega)) (fun h => ?_) | refine condP_ndec (fun h => ?_) (fun h => absurd h (by omega)) | refine condP_ndec (fun h => ?_) (fun h => ?_) | refine condP_beq (fun h => absurd h (by omega)) (fun h => ?_) | refine condP_beq (fun h => ?_) (fun h => absurd h (by omega)) | refine condP_beq (fun h => ?_) (fun h => ?_) | refine condP_bne (fun h => absurd h (by omega)) (fun h => ?_) | refine condP_bne (fun h => ?_) (fun h => absurd h (by omega)) | refine condP_bne (fun h => ?_) (fun h => ?_) | refine condP_mk (fun h => ?_) (fun h => ?_) | refine Ob.mk (by (first | omega | (simp only [InI, nmin, List.length_append, List.length_replicate, List.length_cons, List.length_nil, List.length_map, List.length_set, List.length_take, List.length_drop, List.length_reverse, List.length_range, Nat.zero_add, Nat.add_zero, Int.toNat_natCast, EK.sz]; omega) | (simp only [InI, nmin, List.length_append, List.length_replicate, List.length_cons, List.length_nil, List.length_map, List.length_set, List.length_take, List.length_drop, List.length_reverse, List.length_range, Nat.zero_add, Nat.add_zero, Int.toNat_natCast, EK.sz] at *; omega))) ?_ | refine Ob.mk ?_ ?_ | refine Both.mk ?_ ?_ | refine draw_of Try.mixed Try.tyOk 60 (by kernel_rfl) ?_))
        · (conv => whnf)
          have e0 : 0 + (j : Int).toNat = j := by omega
          have e1 : 0 + ((j : Int) - 1).toNat = j - 1 := by omega
          have e2 : ((j : Int) - 1) = ((j - 1 : Nat) : Int) := by omega
          have ecm : ltW (zs.getD j aD) (zs.getD (j - 1) aD) = decide (cmpW (zs.getD (0 + (j : Int).toNat) EK.arc.dflt) (zs.getD (0 + ((j : Int) - 1).toNat) EK.arc.dflt) < 0) := by rw [e0, e1]; rfl
          refine callF (sorted1_c (zs.getD (0 + (j : Int).toNat) EK.arc.dflt) (zs.getD (0 + ((j : Int) - 1).toNat) EK.arc.dflt)) [] Try.call115 rfl (by simp [eqLs, eqL, eqO, eqC, eqCs, rn, renOf, look_cons, look, EK.cast]) (by simp [appN, ptrs, eqVL, eqV, eqA, eqC, eqCs, eqAs, eqCaps, EK.sz, rn, renOf, look_cons, look, arcV, fV]) (by simp [appN, ptrs, SV.lt, SA.lt, SC.lt, arcV, fV, lenN]) ?_
          rintro _ _ ⟨rfl, rfl⟩
          repeat' (first | exact rfl | ((conv => whnf); first | refine condP_dec (fun h => absurd h (by omega)) (fun h => ?_) | refine condP_dec (fun h => ?_) (fun h => absurd h (by omega)) | refine condP_dec (fun h => ?_) (fun h => ?_) | refine condP_ndec (fun h => absurd h (by omega)) (fun h => ?_) | refine condP_ndec (fun h => ?_) (fun h => absurd h (by omega)) | refine condP_ndec (fun h => ?_) (fun h => ?_) | refine condP_beq (fun h => absurd h (by omega)) (fun h => ?_) | refine condP_beq (fun h => ?_) (fun h => absurd h (by omega)) | refine condP_beq (fun h => ?_) (fun h => ?_) | refine condP_bne (fun h => absurd h (by omega)) (fun h => ?_) | refine condP_bne (fun h => ?_) (fun h => absurd h (by omega)) | refine condP_bne (fun h => ?_) (fun h => ?_) | refine condP_mk (fun h => ?_) (fun h => ?_) | refine Ob.mk (by (first | omega | (simp only [InI, nmin, List.length_append, List.length_replicate, List.length_cons, List.length_nil, List.length_map, List.length_set, List.length_take, List.length_drop, List.length_reverse, List.length_range, Nat.zero_add, Nat.add_zero, Int.toNat_natCast, EK.sz]; omega) | (simp only [InI, nmin, List.length_append, List.length_replicate, List.length_cons, List.length_nil, List.length_map, List.length_set, List.length_take, List.length_drop, List.length_reverse, List.length_range, Nat.zero_add, Nat.add_zero, Int.toNat_natCast, EK.sz] at *; omega))) ?_ | refine Ob.mk ?_ ?_ | refine Both.mk ?_ ?_ | refine draw_of Try.mixed Try.tyOk 60 (by kernel_rfl) ?_))
          · rw [decide_eq_true (by assumption)] at ecm
            (conv => whnf)
            refine ⟨(j - 1, swapL aD zs j (j - 1)), [], ⟨by rfl, ?_, ?_⟩, ⟨by simp only; omega, by simp only; omega, hm2.trans (swapL_mv (by omega) (by omega) (by omega)), hs2.step ltW_ok (by omega) hji (by omega) ecm⟩, by simp only; omega⟩
            · simp [eqFr, eqHp, eqV, eqA, eqC, eqO, eqCs, eqAs, look_cons, look, rn, EK.cast, EK.sz, eqCaps, e2]
            · simp [eqFr, eqHp, eqV, eqA, eqC, eqO, eqCs, eqAs, look_cons, look, rn, EK.cast, EK.sz, eqCaps, swapL, e0, e1, e2, EK.dflt]
              done
          · rw [decide_eq_false (by assumption)] at ecm
            (conv => whnf)
            refine ⟨(i + 1, zs), [], ⟨by rfl, ?_, ?_⟩, ⟨by simp only; omega, by simp only; omega, hm2, hs2.done ltW_ok hji (.inr ecm)⟩, by simp only; omega⟩
            · simp [eqFr, eqHp, eqV, eqA, eqC, eqO, eqCs, eqAs, look_cons, look, rn, EK.cast, EK.sz, eqCaps]
            · simp [eqFr, eqHp, eqV, eqA, eqC, eqO, eqCs, eqAs, look_cons, look, rn, EK.cast, EK.sz, eqCaps]
        · (conv => whnf)
          refine ⟨(i + 1, zs), [], ⟨by rfl, ?_, ?_⟩, ⟨by simp only; omega, by simp only; omega, hm2, hs2.done ltW_ok hji (.inl (by omega))⟩, by simp only; omega⟩
          · simp [eqFr, eqHp, eqV, eqA, eqC, eqO, eqCs, eqAs, look_cons, look, rn, EK.cast, EK.sz, eqCaps]
          · simp [eqFr, eqHp, eqV, eqA, eqC, eqO, eqCs, eqAs, look_cons, look, rn, EK.cast, EK.sz, eqCaps]
    · (conv => whnf)
      exact ⟨[], [(0, .arr true 47 .arc ys sp)], 1, .u, ⟨by rfl, trivial, by simp [eqFr, eqHp, eqV, eqA, eqC, eqO, eqCs, eqAs, look_cons, look, rn, EK.cast, EK.sz, eqCaps]⟩, by simp [eqV, eqAs], ys, rfl, rfl, hm, hs.less (by omega)⟩
end Go.Fw
