/-
  The best of all ways to cut two words; the best of any number of pieces.
-/
import Derived.Test.YtdijmfdanbnppaaDoorS10
import Derived.Test.YtdijmfdanbnppaaDoorS09
import Derived.Test.YtdijmfdanbnppaaDoorS06
import Derived.Test.YtdijmfdanbnppaaDoorS08

set_option linter.unusedSimpArgs false
set_option linter.unusedVariables false

namespace Go.Fw
open Go

theorem MinOf.none : MinOf (fun _ => False) (-1) := .inl ⟨rfl, fun _ h => h⟩

/-! ### Cuts, one after the other -/
section
variable (P Q : List Int → List Int → Int → Prop) (u v : List Int)

def LexP (i o : Nat) (c : Int) : Prop := ∃ i' o' a b, (i' < i ∧ o' ≤ v.length ∨ i' = i ∧ o' < o) ∧ P (u.take i') (v.take o') a ∧ Q (u.drop i') (v.drop o') b ∧ c = a + b

variable {P Q u v}

end

/-! ### Any number of pieces -/
inductive StarR (P : List Int → List Int → Int → Prop) : List Int → List Int → Int → Prop
  | nil : StarR P [] [] 0
  | snoc {u1 v1 u2 v2 : List Int} {c1 c2 : Int} (h1 : StarR P u1 v1 c1) (h2 : P u2 v2 c2) : StarR P (u1 ++ u2) (v1 ++ v2) (c1 + c2)

theorem StarR.app {P : List Int → List Int → Int → Prop} {u v u' v' : List Int} {c d : Int} (h : StarR P u v c) (h' : Star P u' v' d) : StarR P (u ++ u') (v ++ v') (c + d) := by
  induction h' generalizing u v c with
  | nil => simpa using h
  | @cons u1 v1 u2 v2 c1 c2 h1 h2 ih =>
    have := ih (h.snoc h1)
    rw [← List.append_assoc, ← List.append_assoc, ← Int.add_assoc]
    exact this

theorem Star.app {P : List Int → List Int → Int → Prop} {u v u' v' : List Int} {c d : Int} (h : Star P u v c) (h' : P u' v' d) : Star P (u ++ u') (v ++ v') (c + d) := by
  induction h with
  | nil => simpa using Star.cons h' .nil
  | @cons u1 v1 u2 v2 c1 c2 h1 h2 ih =>
    rw [List.append_assoc, List.append_assoc, Int.add_assoc]
    exact .cons h1 ih

theorem StarR.pos {P : List Int → List Int → Int → Prop} (hP : ∀ u v c, P u v c → 0 ≤ c) {u v : List Int} {c : Int} (h : StarR P u v c) : 0 ≤ c := by
  induction h with
  | nil => exact Int.le_refl _
  | snoc h1 h2 ih => have := hP _ _ _ h2; omega

/-- The part of a word from a place to a place. -/
def seg (u : List Int) (a b : Nat) : List Int := (u.drop a).take (b - a)

theorem take_seg {u : List Int} {a b : Nat} (h : a ≤ b) : u.take a ++ seg u a b = u.take b := by
  unfold seg
  rw [← List.take_append_drop a (u.take b), List.take_take, Nat.min_eq_left h, List.drop_take]

/-- The table, the cells before a place done. -/
structure AgT (P : List Int → List Int → Int → Prop) (u v : List Int) (B : Int) (i o : Nat) (T : Nat → Nat → Int) : Prop where
  low : ∀ a b, a ≤ u.length → b ≤ v.length → -1 ≤ T a b ∧ T a b ≤ (a + b : Nat) * B
  snd : ∀ a b, a ≤ u.length → b ≤ v.length → 0 ≤ T a b → StarR P (u.take a) (v.take b) (T a b)
  org : T 0 0 = 0
  cpl : ∀ a b a' b' c1 c2, (a' < i ∧ b' ≤ v.length ∨ a' = i ∧ b' < o) → a' ≤ a → b' ≤ b → a ≤ u.length → b ≤ v.length → StarR P (u.take a') (v.take b') c1 → P (seg u a' a) (seg v b' b) c2 → 0 ≤ T a b ∧ T a b ≤ c1 + c2

section
variable {P : List Int → List Int → Int → Prop} {u v : List Int} {B : Int} {i o : Nat} {T : Nat → Nat → Int}

/-- What stands in a cell whose forerunners are done is the best. -/
theorem AgT.fin (h : AgT P u v B i o T) (hP : ∀ u v c, P u v c → 0 ≤ c) (hi : i ≤ u.length) (ho : o ≤ v.length) : MinOf (StarR P (u.take i) (v.take o)) (T i o) := by
  have key : ∀ x y c, StarR P x y c → x = u.take i → y = v.take o → 0 ≤ T i o ∧ T i o ≤ c := by
    intro x y c hs
    induction hs with
    | nil =>
      intro hx hy
      have h1 : i = 0 := by
        have := congrArg List.length hx
        rw [List.length_take] at this
        simp only [List.length_nil] at this
        omega
      have h2 : o = 0 := by
        have := congrArg List.length hy
        rw [List.length_take] at this
        simp only [List.length_nil] at this
        omega
      subst h1 h2
      rw [h.org]
      omega
    | @snoc u1 v1 u2 v2 c1 c2 h1 h2 ih =>
      intro hx hy
      have l1 : u1.length + u2.length = i := by
        have := congrArg List.length hx
        rw [List.length_take, List.length_append] at this
        omega
      have l2 : v1.length + v2.length = o := by
        have := congrArg List.length hy
        rw [List.length_take, List.length_append] at this
        omega
      have e1 : u1 = u.take u1.length := by
        have := congrArg (List.take u1.length) hx
        rw [List.take_left, List.take_take, Nat.min_eq_left (by omega)] at this
        exact this
      have e2 : v1 = v.take v1.length := by
        have := congrArg (List.take v1.length) hy
        rw [List.take_left, List.take_take, Nat.min_eq_left (by omega)] at this
        exact this
      have e3 : u2 = seg u u1.length i := by
        have := congrArg (List.drop u1.length) hx
        rw [List.drop_left, List.drop_take] at this
        exact this
      have e4 : v2 = seg v v1.length o := by
        have := congrArg (List.drop v1.length) hy
        rw [List.drop_left, List.drop_take] at this
        exact this
      have hc2 := hP _ _ _ h2
      by_cases q : u1.length = i ∧ v1.length = o
      · have g := ih (by rw [e1, q.1]) (by rw [e2, q.2])
        omega
      · rw [e1, e2] at h1
        rw [e3, e4] at h2
        exact h.cpl i o u1.length v1.length c1 c2 (by omega) (by omega) (by omega) hi ho h1 h2
  by_cases hn : 0 ≤ T i o
  · exact .inr ⟨hn, h.snd i o hi ho hn, fun c hc => (key _ _ c hc rfl rfl).2⟩
  · have := (h.low i o hi ho).1
    exact .inl ⟨by omega, fun c hc => hn (key _ _ c hc rfl rfl).1⟩

/-- A cell that none comes to is done with. -/
theorem AgT.skip (h : AgT P u v B i o T) (hP : ∀ u v c, P u v c → 0 ≤ c) (hi : i ≤ u.length) (ho : o ≤ v.length) (hn : T i o < 0) : AgT P u v B i (o + 1) T := by
  refine ⟨h.low, h.snd, h.org, fun a b a' b' c1 c2 hl h1 h2 h3 h4 h5 h6 => ?_⟩
  by_cases q : a' = i ∧ b' = o
  · obtain ⟨rfl, rfl⟩ := q
    rcases h.fin hP hi ho with ⟨_, g⟩ | ⟨g, _⟩
    · exact absurd h5 (g c1)
    · omega
  · exact h.cpl a b a' b' c1 c2 (by omega) h1 h2 h3 h4 h5 h6

theorem AgT.row (h : AgT P u v B i (v.length + 1) T) : AgT P u v B (i + 1) 0 T :=
  ⟨h.low, h.snd, h.org, fun a b a' b' c1 c2 hl h1 h2 h3 h4 h5 h6 => h.cpl a b a' b' c1 c2 (by omega) h1 h2 h3 h4 h5 h6⟩

/-- A cell on its way: the cells behind it, up to a place, are told. -/
structure AgW (P : List Int → List Int → Int → Prop) (u v : List Int) (B : Int) (i o x y : Nat) (t : Int) (T : Nat → Nat → Int) : Prop where
  tab : AgT P u v B i o T
  at_ : T i o = t
  don : ∀ x' y' c1 c2, (x' < x ∧ o + y' ≤ v.length ∨ x' = x ∧ y' < y) → i + x' ≤ u.length → o + y' ≤ v.length → StarR P (u.take i) (v.take o) c1 → P (seg u i (i + x')) (seg v o (o + y')) c2 → 0 ≤ T (i + x') (o + y') ∧ T (i + x') (o + y') ≤ c1 + c2

def up2 (T : Nat → Nat → Int) (a b : Nat) (n : Int) : Nat → Nat → Int := fun x y => if x = a ∧ y = b then n else T x y

theorem AgT.start (h : AgT P u v B i o T) : AgW P u v B i o 0 0 (T i o) T := ⟨h, rfl, fun x' y' c1 c2 h => by omega⟩

theorem AgW.done {t : Int} (h : AgW P u v B i o (u.length - i + 1) 0 t T) : AgT P u v B i (o + 1) T := by
  refine ⟨h.tab.low, h.tab.snd, h.tab.org, fun a b a' b' c1 c2 hl h1 h2 h3 h4 h5 h6 => ?_⟩
  by_cases q : a' = i ∧ b' = o
  · obtain ⟨rfl, rfl⟩ := q
    have e1 : a' + (a - a') = a := by omega
    have e2 : b' + (b - b') = b := by omega
    have := h.don (a - a') (b - b') c1 c2 (.inl ⟨by omega, by omega⟩) (by omega) (by omega) h5 (by rw [e1, e2]; exact h6)
    rw [e1, e2] at this
    exact this
  · exact h.tab.cpl a b a' b' c1 c2 (by omega) h1 h2 h3 h4 h5 h6

/-- One more is told. -/
theorem AgW.step {x y : Nat} {t p : Int} (h : AgW P u v B i o x y t T) (hP : ∀ u v c, P u v c → 0 ≤ c) (hB : 0 ≤ B) (ht : 0 ≤ t) (hx : i + x ≤ u.length) (hy : o + y ≤ v.length)
    (hp : MinOf (P (seg u i (i + x)) (seg v o (o + y))) p) (hpB : p ≤ B) (h00 : x = 0 → y = 0 → True) : AgW P u v B i o x (y + 1) t (up2 T (i + x) (o + y) (less (T (i + x) (o + y)) (plus t p))) := by
  have hi : i ≤ u.length := by omega
  have ho : o ≤ v.length := by omega
  have hpl := hp.low
  have hfin := h.tab.fin hP hi ho
  rw [h.at_] at hfin
  obtain ⟨hts, htl⟩ : StarR P (u.take i) (v.take o) t ∧ ∀ c, StarR P (u.take i) (v.take o) c → t ≤ c := by
    rcases hfin with ⟨g, _⟩ | ⟨_, g1, g2⟩
    · omega
    · exact ⟨g1, g2⟩
  have hTl := h.tab.low (i + x) (o + y) hx hy
  have hti := h.tab.low i o hi ho
  rw [h.at_] at hti
  -- the new value
  have hpv : (p < 0 ∧ plus t p = -1) ∨ (0 ≤ p ∧ plus t p = t + p) := by
    unfold plus
    by_cases q : p < 0
    · exact .inl ⟨q, if_pos (.inr q)⟩
    · exact .inr ⟨by omega, if_neg (by omega)⟩
  have hnew : less (T (i + x) (o + y)) (plus t p) = T (i + x) (o + y) ∨ (less (T (i + x) (o + y)) (plus t p) = t + p ∧ 0 ≤ p) := by
    rcases hpv with ⟨q, e⟩ | ⟨q, e⟩ <;> rw [e] <;> unfold less <;> (repeat' split) <;> omega
  have hle : (0 ≤ T (i + x) (o + y) → 0 ≤ less (T (i + x) (o + y)) (plus t p) ∧ less (T (i + x) (o + y)) (plus t p) ≤ T (i + x) (o + y)) ∧ (0 ≤ p → 0 ≤ less (T (i + x) (o + y)) (plus t p) ∧ less (T (i + x) (o + y)) (plus t p) ≤ t + p) := by
    rcases hpv with ⟨q, e⟩ | ⟨q, e⟩ <;> rw [e] <;> unfold less <;> (repeat' split) <;> omega
  have hat : ∀ a b, up2 T (i + x) (o + y) (less (T (i + x) (o + y)) (plus t p)) a b = if a = i + x ∧ b = o + y then less (T (i + x) (o + y)) (plus t p) else T a b := fun a b => rfl
  have hself : x = 0 → y = 0 → less (T (i + x) (o + y)) (plus t p) = t := by
    rintro rfl rfl
    rw [Nat.add_zero, Nat.add_zero, h.at_]
    rcases hpv with ⟨q, e⟩ | ⟨q, e⟩ <;> rw [e] <;> unfold less <;> (repeat' split) <;> omega
  generalize hn : less (T (i + x) (o + y)) (plus t p) = n at *
  refine ⟨⟨fun a b h1 h2 => ?_, fun a b h1 h2 h3 => ?_, ?_, fun a b a' b' c1 c2 hl h1 h2 h3 h4 h5 h6 => ?_⟩, ?_, fun x' y' c1 c2 hl h1 h2 h3 h4 => ?_⟩
  · rw [hat]
    split
    · rename_i e
      rw [e.1, e.2]
      rcases hnew with g | ⟨g, g0⟩
      · rw [g]; exact hTl
      · rw [g]
        refine ⟨by omega, ?_⟩
        by_cases q : x = 0 ∧ y = 0
        · have := hself q.1 q.2
          rw [q.1, q.2]
          simp only [Nat.add_zero]
          omega
        · have e1 : ((i + o : Nat) : Int) * B + B ≤ ((i + x + (o + y) : Nat) : Int) * B := by
            have : ((i + o : Nat) : Int) * B + B = ((i + o : Nat) + 1 : Int) * B := by rw [Int.add_mul, Int.one_mul]
            rw [this]
            exact Int.mul_le_mul_of_nonneg_right (by omega) hB
          omega
    · exact h.tab.low a b h1 h2
  · rw [hat] at h3 ⊢
    split at h3
    · rename_i e
      rw [if_pos e, e.1, e.2]
      rcases hnew with g | ⟨g, g0⟩
      · rw [g] at h3 ⊢; exact h.tab.snd _ _ hx hy h3
      · rw [g]
        have hpp : P (seg u i (i + x)) (seg v o (o + y)) p := hp.is (by omega)
        have := hts.snoc hpp
        rw [take_seg (by omega), take_seg (by omega)] at this
        exact this
    · rename_i e
      rw [if_neg e]
      exact h.tab.snd a b h1 h2 h3
  · rw [hat]
    split
    · rename_i e
      have e1 : x = 0 := by omega
      have e2 : y = 0 := by omega
      have e3 : i = 0 := by omega
      have e4 : o = 0 := by omega
      rw [hself e1 e2, ← h.at_, e3, e4]
      exact h.tab.org
    · exact h.tab.org
  · have g := h.tab.cpl a b a' b' c1 c2 hl h1 h2 h3 h4 h5 h6
    rw [hat]
    split
    · rename_i e
      rw [e.1, e.2] at g
      have := hle.1 g.1
      omega
    · exact g
  · rw [hat]
    split
    · rename_i e
      exact hself (by omega) (by omega)
    · exact h.at_
  · rw [hat]
    split
    · rename_i e
      have e1 : x' = x := by omega
      have e2 : y' = y := by omega
      subst e1 e2
      have g := hp.le h4
      have := hle.2 (by omega)
      have := htl c1 h3
      omega
    · rename_i e
      exact h.don x' y' c1 c2 (by omega) h1 h2 h3 h4
end
end Go.Fw

namespace Go.Fw
open Go Go.Proofs

abbrev onF (F : TF) : List SC := [.i F.st, .i F.start, .sl 0 1 0 F.fin.length F.capF, .sl 1 5 0 F.arcs.length F.capA]

/-- Rows in a pool, none on another. -/
structure Tab2 (m : List (Addr × List Int × Nat)) (rows : List Sli) (N : Nat) (L : Nat → List Int) : Prop where
  len : rows.length = N
  hd : ∀ j, j < N → Hd m (rows.getD j EK.sli.dflt)
  row : ∀ j, j < N → rowA m (rows.getD j EK.sli.dflt).a = L j
  dist : ∀ s t b, s < N → t < N → s ≠ t → (rows.getD s EK.sli.dflt).a = some b → (rows.getD t EK.sli.dflt).a ≠ some b

section
variable {m m' : List (Addr × List Int × Nat)} {rows : List Sli} {N : Nat} {L : Nat → List Int}

theorem keepHd {x : Sli} (h : Hd m x) (hk : ∀ b, x.a = some b → lkA m' b = lkA m b) : Hd m' x ∧ rowA m' x.a = rowA m x.a := by
  cases hx : x.a with
  | none =>
    refine ⟨?_, rfl⟩
    unfold Hd at h ⊢
    rw [hx] at h ⊢
    exact h
  | some b =>
    obtain ⟨y, h1, h2, h3⟩ := h.some hx
    have e := hk b hx
    exact ⟨Hd.of_some hx (by rw [e]; exact h1) h2 h3, rowA_congr e⟩

theorem Tab2.keep (h : Tab2 m rows N L) (hk : ∀ j b, j < N → (rows.getD j EK.sli.dflt).a = some b → lkA m' b = lkA m b) : Tab2 m' rows N L :=
  ⟨h.len, fun j hj => (keepHd (h.hd j hj) fun b hb => hk j b hj hb).1, fun j hj => by rw [(keepHd (h.hd j hj) fun b hb => hk j b hj hb).2]; exact h.row j hj, h.dist⟩

theorem Tab2.app (h : Tab2 m rows N L) {j : Nat} {n : Int} {h' : Sli} (hj : j < N) (ha : App m (rows.getD j EK.sli.dflt) [n] m' h') :
    Tab2 m' (rows.set j h') N (fun i => if i = j then L j ++ [n] else L i) := by
  have hl := h.len
  have hjr : j < rows.length := by omega
  generalize hx : rows.getD j EK.sli.dflt = x at ha
  have hdj := h.hd j hj
  have hrj := h.row j hj
  rw [hx] at hdj hrj
  cases ha with
  | stay h => cases h
  | @room a y sp h1 h2 h3 =>
    obtain ⟨y', g1, g2, g3⟩ := hdj.some h1
    rw [h2] at g1
    cases g1
    have hla : lkA (setA m a (y.1 ++ [n], sp)) a = some (y.1 ++ [n], sp) := by rw [lkA_setA, h2]; simp
    have hlb : ∀ b, b ≠ a → lkA (setA m a (y.1 ++ [n], sp)) b = lkA m b := by
      intro b hb
      rw [lkA_setA]
      simp only [hb, if_false]
      cases lkA m b <;> rfl
    have hoth : ∀ s, s < N → s ≠ j → ∀ b, (rows.getD s EK.sli.dflt).a = some b → b ≠ a := by
      intro s hs hsj b hb e
      subst e
      exact h.dist s j b hs hj hsj hb (by rw [hx]; exact h1)
    refine ⟨by rw [List.length_set]; exact hl, ?_, ?_, ?_⟩
    · intro s hs
      rw [getD_setJ _ _ _ _ _ hjr]
      by_cases e : s = j
      · rw [if_pos e]
        refine Hd.of_some rfl hla ?_ ?_
        · simp [g2]
        · simp only [List.length_append, List.length_cons, List.length_nil]
          simp only [List.length_cons, List.length_nil] at h3
          omega
      · rw [if_neg e]
        exact (keepHd (h.hd s hs) fun b hb => hlb b (hoth s hs e b hb)).1
    · intro s hs
      rw [getD_setJ _ _ _ _ _ hjr]
      by_cases e : s = j
      · rw [if_pos e, if_pos e, ← hrj, rowA_some hla, h1, rowA_some h2]
      · rw [if_neg e, if_neg e, ← h.row s hs]
        exact (keepHd (h.hd s hs) fun b hb => hlb b (hoth s hs e b hb)).2
    · intro s t b hs ht hst hb hc
      rw [getD_setJ _ _ _ _ _ hjr] at hb hc
      by_cases es : s = j
      · rw [if_pos es] at hb
        rw [if_neg (fun e => hst (es.trans e.symm))] at hc
        simp only [Option.some.injEq] at hb
        subst hb
        exact hoth t ht (fun e => hst (es.trans e.symm)) _ hc rfl
      · rw [if_neg es] at hb
        by_cases et : t = j
        · rw [if_pos et] at hc
          simp only [Option.some.injEq] at hc
          subst hc
          exact hoth s hs es _ hb rfl
        · rw [if_neg et] at hc
          exact h.dist s t b hs ht hst hb hc
  | @fresh a sp h1 h2 =>
    have hlb : ∀ b, b ≠ a → lkA ((a, rowA m x.a ++ [n], sp) :: m) b = lkA m b := fun b hb => by simp only [lkA, if_neg (Ne.symm hb)]
    have hla : lkA ((a, rowA m x.a ++ [n], sp) :: m) a = some (rowA m x.a ++ [n], sp) := by simp [lkA]
    have hoth : ∀ s, s < N → ∀ b, (rows.getD s EK.sli.dflt).a = some b → b ≠ a := by
      intro s hs b hb e
      subst e
      obtain ⟨z, k1, _⟩ := (h.hd s hs).some hb
      rw [h1] at k1
      cases k1
    refine ⟨by rw [List.length_set]; exact hl, ?_, ?_, ?_⟩
    · intro s hs
      rw [getD_setJ _ _ _ _ _ hjr]
      by_cases e : s = j
      · rw [if_pos e]
        refine Hd.of_some rfl hla ?_ ?_
        · simp [hdj.len]
        · simp [hdj.len]
      · rw [if_neg e]
        exact (keepHd (h.hd s hs) fun b hb => hlb b (hoth s hs b hb)).1
    · intro s hs
      rw [getD_setJ _ _ _ _ _ hjr]
      by_cases e : s = j
      · rw [if_pos e, if_pos e, ← hrj]
        exact rowA_some hla
      · rw [if_neg e, if_neg e, ← h.row s hs]
        exact (keepHd (h.hd s hs) fun b hb => hlb b (hoth s hs b hb)).2
    · intro s t b hs ht hst hb hc
      rw [getD_setJ _ _ _ _ _ hjr] at hb hc
      by_cases es : s = j
      · rw [if_pos es] at hb
        rw [if_neg (fun e => hst (es.trans e.symm))] at hc
        simp only [Option.some.injEq] at hb
        exact hoth t ht b hc hb.symm
      · rw [if_neg es] at hb
        by_cases et : t = j
        · rw [if_pos et] at hc
          simp only [Option.some.injEq] at hc
          exact hoth s hs b hb hc.symm
        · rw [if_neg et] at hc
          exact h.dist s t b hs ht hst hb hc

/-- A cell is set. -/
theorem Tab2.put (h : Tab2 m rows N L) {j k : Nat} {n : Int} (hj : j < N) (hk : k < (L j).length) :
    Tab2 (putA m (rows.getD j EK.sli.dflt).a k n) rows N (fun i => if i = j then (L j).set k n else L i) ∧
    ∀ b, (rows.getD j EK.sli.dflt).a ≠ some b → lkA (putA m (rows.getD j EK.sli.dflt).a k n) b = lkA m b := by
  have hrj := h.row j hj
  have hdj := h.hd j hj
  cases hx : (rows.getD j EK.sli.dflt).a with
  | none =>
    rw [hx] at hrj
    rw [← hrj] at hk
    exact absurd hk (by simp [rowA])
  | some a =>
    obtain ⟨y, g1, g2, g3⟩ := hdj.some hx
    have hy : y.1 = L j := by rw [← hrj, hx, rowA_some g1]
    have e : putA m (some a) k n = setA m a (y.1.set k n, y.2) := by unfold putA; simp [g1]
    rw [e]
    have hla : lkA (setA m a (y.1.set k n, y.2)) a = some (y.1.set k n, y.2) := by rw [lkA_setA, g1]; simp
    have hlb : ∀ b, b ≠ a → lkA (setA m a (y.1.set k n, y.2)) b = lkA m b := by
      intro b hb
      rw [lkA_setA]
      simp only [hb, if_false]
      cases lkA m b <;> rfl
    have hoth : ∀ s, s < N → s ≠ j → ∀ b, (rows.getD s EK.sli.dflt).a = some b → b ≠ a := by
      intro s hs hsj b hb e
      subst e
      exact h.dist s j b hs hj hsj hb hx
    refine ⟨⟨h.len, fun s hs => ?_, fun s hs => ?_, h.dist⟩, fun b hb => hlb b fun e => hb (by rw [e])⟩
    · by_cases e : s = j
      · subst e
        refine Hd.of_some hx hla ?_ ?_
        · show _ = (y.1.set k n).length
          rw [List.length_set]; exact g2
        · show _ ≤ (y.1.set k n).length + y.2
          rw [List.length_set]; exact g3
      · exact (keepHd (h.hd s hs) fun b hb => hlb b (hoth s hs e b hb)).1
    · by_cases e : s = j
      · subst e
        rw [if_pos rfl, hx, rowA_some hla, hy]
      · rw [if_neg e, ← h.row s hs]
        exact (keepHd (h.hd s hs) fun b hb => hlb b (hoth s hs e b hb)).2

theorem Tab2.cong (h : Tab2 m rows N L) {L' : Nat → List Int} (hL : ∀ j, j < N → L j = L' j) : Tab2 m rows N L' := ⟨h.len, h.hd, fun j hj => (h.row j hj).trans (hL j hj), h.dist⟩
end

/-- A row of a table. -/
def rowT (T : Nat → Nat → Int) (n j : Nat) : List Int := (List.range n).map (T j)
theorem rowT_len (T : Nat → Nat → Int) (n j : Nat) : (rowT T n j).length = n := by simp [rowT]
theorem rowT_set (T : Nat → Nat → Int) (n j o : Nat) (x : Int) : (rowT T n j).set o x = rowT (up2 T j o x) n j := by
  apply List.ext_getElem
  · simp [rowT]
  · intro k h1 h2
    simp only [rowT, List.getElem_set, List.getElem_map, List.getElem_range, up2]
    by_cases e : o = k
    · subst e; simp
    · rw [if_neg e, if_neg (fun c => e c.2.symm)]
theorem rowT_other (T : Nat → Nat → Int) (n : Nat) {a j : Nat} (o : Nat) (x : Int) (h : j ≠ a) : rowT (up2 T a o x) n j = rowT T n j := by
  unfold rowT
  apply List.map_congr_left
  intro k _
  unfold up2
  rw [if_neg (fun c => h c.1)]

/-- The table of the best of all, in a pool. -/
theorem Tab2.upd {m : List (Addr × List Int × Nat)} {rows : List Sli} {N n : Nat} {T : Nat → Nat → Int} (h : Tab2 m rows N (rowT T n)) {j k : Nat} {x : Int} (hj : j < N) (hk : k < n) :
    Tab2 (putA m (rows.getD j EK.sli.dflt).a k x) rows N (rowT (up2 T j k x) n) ∧ ∀ b, (rows.getD j EK.sli.dflt).a ≠ some b → lkA (putA m (rows.getD j EK.sli.dflt).a k x) b = lkA m b := by
  obtain ⟨h1, h2⟩ := h.put (n := x) hj (by rw [rowT_len]; exact hk)
  refine ⟨h1.cong fun i hi => ?_, h2⟩
  by_cases e : i = j
  · subst e; rw [if_pos rfl, rowT_set]
  · rw [if_neg e, rowT_other T n k x e]
end Go.Fw

/-
  Composed: the ways of pairs of states.
-/
namespace Go.Fw
open Go

/-- A step from a pair: what it reads, writes, costs, where it leads. -/
structure Stp where
  i : Int
  o : Int
  w : Int
  p : Trip

/-- The steps of a pair by an arc of the first one. -/
def stepA (G : TF) (p : Trip) (a : Arc) : List Stp :=
  if a.f ≠ p.a then [] else (if a.o = 0 ∧ p.c ≠ 2 then [⟨a.i, 0, a.w, ⟨a.t, p.b, 1⟩⟩] else []) ++ G.arcs.flatMap fun b => if b.f = p.b ∧ a.o = b.i ∧ a.o ≠ 0 then [⟨a.i, b.o, a.w + b.w, ⟨a.t, b.t, 0⟩⟩] else []
/-- Those of the second one alone. -/
def stepB (p : Trip) (b : Arc) : List Stp := if b.f = p.b ∧ b.i = 0 then [⟨0, b.o, b.w, ⟨p.a, b.t, 2⟩⟩] else []
def steps (F G : TF) (p : Trip) : List Stp := F.arcs.flatMap (stepA G p) ++ G.arcs.flatMap (stepB p)

theorem mem_stepA {G : TF} {p : Trip} {a : Arc} {s : Stp} : s ∈ stepA G p a ↔ a.f = p.a ∧ ((a.o = 0 ∧ p.c ≠ 2 ∧ s = ⟨a.i, 0, a.w, ⟨a.t, p.b, 1⟩⟩) ∨ ∃ b ∈ G.arcs, b.f = p.b ∧ a.o = b.i ∧ a.o ≠ 0 ∧ s = ⟨a.i, b.o, a.w + b.w, ⟨a.t, b.t, 0⟩⟩) := by
  unfold stepA
  by_cases h : a.f = p.a
  · rw [if_neg (fun c => c h), List.mem_append, List.mem_flatMap]
    constructor
    · rintro (h1 | ⟨b, hb, h1⟩)
      · split at h1
        · rename_i c
          exact ⟨h, .inl ⟨c.1, c.2, by simpa using h1⟩⟩
        · cases h1
      · split at h1
        · rename_i c
          exact ⟨h, .inr ⟨b, hb, c.1, c.2.1, c.2.2, by simpa using h1⟩⟩
        · cases h1
    · rintro ⟨_, ⟨h1, h2, rfl⟩ | ⟨b, hb, h1, h2, h3, rfl⟩⟩
      · left; rw [if_pos ⟨h1, h2⟩]; simp
      · right; exact ⟨b, hb, by rw [if_pos ⟨h1, h2, h3⟩]; simp⟩
  · rw [if_pos h]
    constructor
    · intro h1; cases h1
    · rintro ⟨h1, _⟩; exact absurd h1 h

theorem mem_steps {F G : TF} {p : Trip} {s : Stp} : s ∈ steps F G p ↔ (∃ a ∈ F.arcs, a.f = p.a ∧ a.o = 0 ∧ p.c ≠ 2 ∧ s = ⟨a.i, 0, a.w, ⟨a.t, p.b, 1⟩⟩) ∨ (∃ a ∈ F.arcs, ∃ b ∈ G.arcs, a.f = p.a ∧ b.f = p.b ∧ a.o = b.i ∧ a.o ≠ 0 ∧ s = ⟨a.i, b.o, a.w + b.w, ⟨a.t, b.t, 0⟩⟩) ∨
    (∃ b ∈ G.arcs, b.f = p.b ∧ b.i = 0 ∧ s = ⟨0, b.o, b.w, ⟨p.a, b.t, 2⟩⟩) := by
  unfold steps
  rw [List.mem_append, List.mem_flatMap, List.mem_flatMap]
  constructor
  · rintro (⟨a, ha, h⟩ | ⟨b, hb, h⟩)
    · obtain ⟨h1, ⟨h2, h3, rfl⟩ | ⟨b, hb, h2, h3, h4, rfl⟩⟩ := mem_stepA.1 h
      · exact .inl ⟨a, ha, h1, h2, h3, rfl⟩
      · exact .inr (.inl ⟨a, ha, b, hb, h1, h2, h3, h4, rfl⟩)
    · unfold stepB at h
      split at h
      · rename_i c
        exact .inr (.inr ⟨b, hb, c.1, c.2, by simpa using h⟩)
      · cases h
  · rintro (⟨a, ha, h1, h2, h3, rfl⟩ | ⟨a, ha, b, hb, h1, h2, h3, h4, rfl⟩ | ⟨b, hb, h1, h2, rfl⟩)
    · exact .inl ⟨a, ha, mem_stepA.2 ⟨h1, .inl ⟨h2, h3, rfl⟩⟩⟩
    · exact .inl ⟨a, ha, mem_stepA.2 ⟨h1, .inr ⟨b, hb, h2, h3, h4, rfl⟩⟩⟩
    · refine .inr ⟨b, hb, ?_⟩
      unfold stepB
      rw [if_pos ⟨h1, h2⟩]
      simp

/-- A way of pairs. -/
inductive PWay (F G : TF) : Trip → List Int → List Int → Trip → Int → Prop
  | nil (p : Trip) : PWay F G p [] [] p 0
  | cons {p : Trip} {s : Stp} {u v : List Int} {q : Trip} {c : Int} (hs : s ∈ steps F G p) (h : PWay F G s.p u v q c) : PWay F G p (lab s.i ++ u) (lab s.o ++ v) q (s.w + c)

theorem PWay.app {F G : TF} {p q r : Trip} {u v u' v' : List Int} {c d : Int} (h : PWay F G p u v q c) (h' : PWay F G q u' v' r d) : PWay F G p (u ++ u') (v ++ v') r (c + d) := by
  induction h with
  | nil p => simpa using h'
  | cons hs h ih =>
    rw [List.append_assoc, List.append_assoc, Int.add_assoc]
    exact .cons hs (ih h')

/-- A way of pairs is two ways, one word between. -/
theorem PWay.two {F G : TF} {p q : Trip} {u v : List Int} {c : Int} (h : PWay F G p u v q c) : ∃ w c1 c2, Way F.arcs p.a u w q.a c1 ∧ Way G.arcs p.b w v q.b c2 ∧ c = c1 + c2 := by
  induction h with
  | nil p => exact ⟨[], 0, 0, .nil _, .nil _, rfl⟩
  | cons hs h ih =>
    obtain ⟨w, c1, c2, h1, h2, rfl⟩ := ih
    rcases mem_steps.1 hs with ⟨a, ha, e1, e2, _, rfl⟩ | ⟨a, ha, b, hb, e1, e2, e3, e4, rfl⟩ | ⟨b, hb, e1, e2, rfl⟩
    · refine ⟨w, a.w + c1, c2, ?_, by simpa [lab] using h2, by simp only; omega⟩
      have := Way.cons ha h1
      rw [e1, e2] at this
      simpa [lab] using this
    · refine ⟨lab a.o ++ w, a.w + c1, b.w + c2, ?_, ?_, by simp only; omega⟩
      · have := Way.cons ha h1
        rw [e1] at this
        exact this
      · have := Way.cons hb h2
        rw [e2, ← e3] at this
        exact this
    · refine ⟨w, c1, b.w + c2, by simpa [lab] using h1, ?_, by simp only; omega⟩
      have := Way.cons hb h2
      rw [e1, e2] at this
      simpa [lab] using this

/-- One word read, another one written, some word between. -/
def Comp (P Q : List Int → List Int → Int → Prop) (u v : List Int) (c : Int) : Prop := ∃ w a b, P u w a ∧ Q w v b ∧ c = a + b

/-- What pairs cost. -/
def PWt (F G : TF) (u v : List Int) (c : Int) : Prop := ∃ q d, PWay F G ⟨F.start, G.start, 0⟩ u v q d ∧ F.fin.getD q.a.toNat 0 ≠ -1 ∧ G.fin.getD q.b.toNat 0 ≠ -1 ∧ c = d + (F.fin.getD q.a.toNat 0 + G.fin.getD q.b.toNat 0)

/-! ### Numbered -/
/-- The pairs numbered, their arcs. -/
structure Numd (F G : TF) (ps : List Trip) (raw : List Arc) : Prop where
  first : ps.head? = some ⟨F.start, G.start, 0⟩
  nd : ps.Nodup
  snd : ∀ a ∈ raw, ∃ p ∈ ps, ∃ s ∈ steps F G p, s.p ∈ ps ∧ a = ⟨ps.idxOf p, s.i, s.o, ps.idxOf s.p, s.w⟩
  cpl : ∀ p ∈ ps, ∀ s ∈ steps F G p, s.p ∈ ps ∧ (⟨ps.idxOf p, s.i, s.o, ps.idxOf s.p, s.w⟩ : Arc) ∈ raw

theorem idx_at {ps : List Trip} {p : Trip} (hp : p ∈ ps) : ps[ps.idxOf p]? = some p := by
  have h := List.idxOf_lt_length_iff.2 hp
  rw [List.getElem?_eq_getElem h, List.getElem_idxOf h]

theorem idx_inj {ps : List Trip} {p q : Trip} (hp : p ∈ ps) (hq : q ∈ ps) (h : ps.idxOf p = ps.idxOf q) : p = q := by
  have h1 := idx_at hp
  have h2 := idx_at hq
  rw [h, h2] at h1
  exact (Option.some.inj h1).symm

theorem Numd.way {F G : TF} {ps : List Trip} {raw : List Arc} (h : Numd F G ps raw) {p : Trip} (hp : p ∈ ps) {u v : List Int} {q : Trip} {c : Int} (hw : PWay F G p u v q c) : q ∈ ps ∧ Way raw (ps.idxOf p) u v (ps.idxOf q) c := by
  induction hw with
  | nil p => exact ⟨hp, .nil _⟩
  | @cons p s u v q c hs hw ih =>
    obtain ⟨h1, h2⟩ := h.cpl p hp s hs
    obtain ⟨h3, h4⟩ := ih h1
    exact ⟨h3, Way.cons h2 h4⟩

theorem Numd.back {F G : TF} {ps : List Trip} {raw : List Arc} (h : Numd F G ps raw) {n t : Int} {u v : List Int} {c : Int} (hw : Way raw n u v t c) : ∀ p ∈ ps, n = ps.idxOf p → ∃ q ∈ ps, t = ps.idxOf q ∧ PWay F G p u v q c := by
  induction hw with
  | nil s => intro p hp e; exact ⟨p, hp, e, .nil _⟩
  | @cons a u v t c ha hw ih =>
    intro p hp e
    obtain ⟨p', hp', s, hs, hsp, rfl⟩ := h.snd a ha
    have : p' = p := idx_inj hp' hp (by simp only at e; omega)
    subst this
    obtain ⟨q, hq, e2, hw2⟩ := ih s.p hsp rfl
    exact ⟨q, hq, e2, .cons hs hw2⟩

/-- What the numbered ones cost. -/
theorem Numd.wt {F G : TF} {ps : List Trip} {raw : List Arc} (h : Numd F G ps raw) {fin : List Int} (hf : ∀ q ∈ ps, fin.getD (ps.idxOf q) 0 = if F.fin.getD q.a.toNat 0 ≠ -1 ∧ G.fin.getD q.b.toNat 0 ≠ -1 then F.fin.getD q.a.toNat 0 + G.fin.getD q.b.toNat 0 else -1)
    (hF : ∀ x ∈ F.fin, -1 ≤ x) (hG : ∀ x ∈ G.fin, -1 ≤ x) {u v : List Int} {c : Int} : WtL raw 0 fin u v c ↔ PWt F G u v c := by
  have h0 : (⟨F.start, G.start, 0⟩ : Trip) ∈ ps := by
    cases hps : ps with
    | nil => have := h.first; rw [hps] at this; cases this
    | cons x l => have := h.first; rw [hps] at this; simp at this; simp [this]
  have e0 : ps.idxOf (⟨F.start, G.start, 0⟩ : Trip) = 0 := by
    cases hps : ps with
    | nil => rw [hps] at h0; cases h0
    | cons x l => have := h.first; rw [hps] at this; simp at this; rw [this]; simp
  have hpos : ∀ (l : List Int) (n : Nat), (∀ x ∈ l, -1 ≤ x) → -1 ≤ l.getD n 0 := by
    intro l n hl
    by_cases hn : n < l.length
    · exact hl _ (getD_mem l n 0 hn)
    · simp [List.getD, List.getElem?_eq_none (by omega : l.length ≤ n)]
  constructor
  · rintro ⟨t, d, hw, hfin, rfl⟩
    obtain ⟨q, hq, rfl, hp⟩ := h.back hw _ h0 (by rw [e0]; rfl)
    rw [Int.toNat_natCast] at hfin ⊢
    rw [hf q hq] at hfin ⊢
    split at hfin
    · rename_i hc
      rw [if_pos hc]
      exact ⟨q, d, hp, hc.1, hc.2, rfl⟩
    · exact absurd rfl hfin
  · rintro ⟨q, d, hp, h1, h2, rfl⟩
    obtain ⟨hq, hw⟩ := h.way h0 hp
    rw [e0] at hw
    refine ⟨_, d, hw, ?_⟩
    rw [Int.toNat_natCast, hf q hq, if_pos ⟨h1, h2⟩]
    have := hpos F.fin q.a.toNat hF
    have := hpos G.fin q.b.toNat hG
    exact ⟨by omega, rfl⟩
end Go.Fw

/-
  What is reached by arcs, or back by them.
-/
namespace Go.Fw
open Go

def srcA (bk : Bool) (a : Arc) : Int := if bk then a.t else a.f
def dstA (bk : Bool) (a : Arc) : Int := if bk then a.f else a.t

/-- Where the first k arcs lead from a state. -/
def nxL (l : List Arc) (bk : Bool) : Nat → Nat → List Int
  | 0, _ => []
  | k + 1, j => if (j : Int) = srcA bk (l.getD k aD) then nxL l bk k j ++ [dstA bk (l.getD k aD)] else nxL l bk k j

theorem nxL_mem {l : List Arc} {bk : Bool} {j : Nat} {y : Int} : ∀ k, k ≤ l.length → (y ∈ nxL l bk k j ↔ ∃ i, i < k ∧ srcA bk (l.getD i aD) = j ∧ dstA bk (l.getD i aD) = y)
  | 0, _ => by simp [nxL]
  | k + 1, hk => by
    have ih := nxL_mem (l := l) (bk := bk) (j := j) (y := y) k (by omega)
    unfold nxL
    by_cases e : (j : Int) = srcA bk (l.getD k aD)
    · rw [if_pos e, List.mem_append, ih, List.mem_singleton]
      constructor
      · rintro (⟨i, h1, h2⟩ | rfl)
        · exact ⟨i, by omega, h2⟩
        · exact ⟨k, by omega, e.symm, rfl⟩
      · rintro ⟨i, h1, h2, h3⟩
        by_cases q : i = k
        · subst q; exact .inr h3.symm
        · exact .inl ⟨i, by omega, h2, h3⟩
    · rw [if_neg e, ih]
      constructor
      · rintro ⟨i, h1, h2⟩
        exact ⟨i, by omega, h2⟩
      · rintro ⟨i, h1, h2, h3⟩
        by_cases q : i = k
        · subst q; exact absurd h2.symm e
        · exact ⟨i, by omega, h2, h3⟩

theorem nxL_len {l : List Arc} {bk : Bool} {j : Nat} : ∀ k, (nxL l bk k j).length ≤ k
  | 0 => Nat.le_refl _
  | k + 1 => by
    have := nxL_len (l := l) (bk := bk) (j := j) k
    unfold nxL
    split
    · simp; omega
    · omega

/-- What some lead to. -/
inductive Rch (l : List Arc) (bk : Bool) (first : List Int) : Int → Prop
  | here {x : Int} (h : x ∈ first) : Rch l bk first x
  | on {x : Int} {a : Arc} (h : Rch l bk first x) (ha : a ∈ l) (hs : srcA bk a = x) : Rch l bk first (dstA bk a)

/-- The marks and the heap of what is to be looked at. -/
structure ChInv (l : List Arc) (bk : Bool) (first : List Int) (n : Nat) (ms : List Bool) (st : List Int) : Prop where
  len : ms.length = n
  rng : ∀ x ∈ st, 0 ≤ x ∧ x < n
  snd : ∀ j, j < n → ms.getD j false = true → Rch l bk first j
  sst : ∀ x ∈ st, Rch l bk first x
  fst : ∀ x ∈ first, ms.getD x.toNat false = true ∨ x ∈ st
  cpl : ∀ j, j < n → ms.getD j false = true → ∀ y ∈ nxL l bk l.length j, ms.getD y.toNat false = true ∨ y ∈ st

section
variable {l : List Arc} {bk : Bool} {first : List Int} {n : Nat} {ms : List Bool} {st : List Int}

theorem ChInv.start (hf : ∀ x ∈ first, 0 ≤ x ∧ x < n) : ChInv l bk first n (List.replicate n false) first := by
  have e : ∀ j, (List.replicate n false).getD j false = false := fun j => by simp [List.getD, List.getElem?_replicate]; split <;> rfl
  exact ⟨by simp, hf, fun j _ h => (by rw [e] at h; cases h), fun x hx => .here hx, fun x hx => .inr hx, fun j _ h => (by rw [e] at h; cases h)⟩

theorem nxL_rch (hl : ∀ a ∈ l, 0 ≤ srcA bk a ∧ srcA bk a < n ∧ 0 ≤ dstA bk a ∧ dstA bk a < n) {j : Nat} (h : Rch l bk first j) {y : Int} (hy : y ∈ nxL l bk l.length j) : Rch l bk first y ∧ 0 ≤ y ∧ y < n := by
  obtain ⟨i, h1, h2, rfl⟩ := (nxL_mem l.length (Nat.le_refl _)).1 hy
  have hm := getD_mem l i aD h1
  have := hl _ hm
  exact ⟨.on h hm h2, this.2.2.1, this.2.2.2⟩

/-- One that is marked already. -/
theorem ChInv.pass {x : Int} (h : ChInv l bk first n ms (st ++ [x])) (hx : ms.getD x.toNat false = true) : ChInv l bk first n ms st :=
  ⟨h.len, fun y hy => h.rng y (by simp [hy]), h.snd, fun y hy => h.sst y (by simp [hy]), fun y hy => by
    rcases h.fst y hy with q | q
    · exact .inl q
    · rcases List.mem_append.1 q with q | q
      · exact .inr q
      · rw [List.mem_singleton] at q; subst q; exact .inl hx, fun j hj hm y hy => by
    rcases h.cpl j hj hm y hy with q | q
    · exact .inl q
    · rcases List.mem_append.1 q with q | q
      · exact .inr q
      · rw [List.mem_singleton] at q; subst q; exact .inl hx⟩

theorem getD_setB (ms : List Bool) (i j : Nat) (hi : i < ms.length) : (ms.set i true).getD j false = if j = i then true else ms.getD j false := by
  simp only [List.getD, List.getElem?_set]
  by_cases e : i = j
  · subst e; simp [hi]
  · simp [e, Ne.symm e]

/-- One that is new. -/
theorem ChInv.mark (hl : ∀ a ∈ l, 0 ≤ srcA bk a ∧ srcA bk a < n ∧ 0 ≤ dstA bk a ∧ dstA bk a < n) {x : Int} (h : ChInv l bk first n ms (st ++ [x])) : ChInv l bk first n (ms.set x.toNat true) (st ++ nxL l bk l.length x.toNat) := by
  have hxr := h.rng x (by simp)
  have hln := h.len
  have hx := h.sst x (by simp)
  have ex : ((x.toNat : Nat) : Int) = x := by omega
  have hg : ∀ j, (ms.set x.toNat true).getD j false = if j = x.toNat then true else ms.getD j false := fun j => getD_setB ms _ j (by omega)
  have hxn : Rch l bk first (x.toNat : Nat) := by rw [ex]; exact hx
  refine ⟨by simp [hln], fun y hy => ?_, fun j hj hm => ?_, fun y hy => ?_, fun y hy => ?_, fun j hj hm y hy => ?_⟩
  · rcases List.mem_append.1 hy with hy | hy
    · exact h.rng y (by simp [hy])
    · exact (nxL_rch hl hxn hy).2
  · rw [hg] at hm
    split at hm
    · rename_i e; rw [e, ex]; exact hx
    · exact h.snd j hj hm
  · rcases List.mem_append.1 hy with hy | hy
    · exact h.sst y (by simp [hy])
    · exact (nxL_rch hl hxn hy).1
  · rw [hg]
    rcases h.fst y hy with q | q
    · left; split
      · rfl
      · exact q
    · rcases List.mem_append.1 q with q | q
      · exact .inr (by simp [q])
      · rw [List.mem_singleton] at q; subst q; left; rw [if_pos rfl]
  · rw [hg] at hm ⊢
    split at hm
    · rename_i e; subst e; exact .inr (by simp [hy])
    · rcases h.cpl j hj hm y hy with q | q
      · left; split
        · rfl
        · exact q
      · rcases List.mem_append.1 q with q | q
        · exact .inr (by simp [q])
        · rw [List.mem_singleton] at q; subst q; left; rw [if_pos rfl]

theorem ChInv.done (hl : ∀ a ∈ l, 0 ≤ srcA bk a ∧ srcA bk a < n ∧ 0 ≤ dstA bk a ∧ dstA bk a < n) (hf : ∀ x ∈ first, 0 ≤ x ∧ x < n) (h : ChInv l bk first n ms []) {j : Nat} (hj : j < n) : ms.getD j false = true ↔ Rch l bk first j := by
  refine ⟨h.snd j hj, fun hr => ?_⟩
  have key : ∀ x, Rch l bk first x → 0 ≤ x ∧ x < n ∧ ms.getD x.toNat false = true := by
    intro x hx
    induction hx with
    | here hx =>
      have := hf _ hx
      rcases h.fst _ hx with q | q
      · exact ⟨this.1, this.2, q⟩
      · cases q
    | @on x a hr ha hs ih =>
      obtain ⟨h1, h2, h3⟩ := ih
      have hb := hl a ha
      obtain ⟨i, hi, e⟩ := List.getElem_of_mem ha
      have e2 : l.getD i aD = a := by simp [List.getD, hi, e]
      have hm : dstA bk a ∈ nxL l bk l.length x.toNat := (nxL_mem l.length (Nat.le_refl _)).2 ⟨i, hi, by rw [e2, hs]; omega, by rw [e2]⟩
      rcases h.cpl x.toNat (by omega) h3 _ hm with q | q
      · exact ⟨hb.2.2.1, hb.2.2.2, q⟩
      · cases q
  have := (key j hr).2.2
  simpa using this
end

/-- What is yet to be looked at. -/
def potR (L : Nat → Nat) (ms : List Bool) : Nat → Nat
  | 0 => 0
  | k + 1 => potR L ms k + if ms.getD k false = true then 0 else L k

theorem potR_set {L : Nat → Nat} {ms : List Bool} {i : Nat} (hi : i < ms.length) (hm : ms.getD i false ≠ true) : ∀ k, potR L (ms.set i true) k + (if i < k then L i else 0) = potR L ms k
  | 0 => by simp [potR]
  | k + 1 => by
    have ih := potR_set hi hm k (L := L)
    unfold potR
    rw [getD_setB ms i k hi]
    by_cases e : k = i
    · subst e
      rw [if_neg (by omega)] at ih
      rw [if_pos rfl, if_pos rfl, if_pos (by omega), if_neg hm]
      omega
    · rw [if_neg e]
      generalize (if ms.getD k false = true then 0 else L k) = z
      by_cases e2 : i < k
      · rw [if_pos e2] at ih
        rw [if_pos (by omega)]
        omega
      · rw [if_neg e2] at ih
        rw [if_neg (by omega)]
        omega
end Go.Fw

namespace Go.Fw
open Go Go.Proofs

/-- States and arcs that fit together. -/
structure FRng (F : TF) : Prop where
  st : 0 ≤ F.st ∧ F.st ≤ 100000
  finl : (F.fin.length : Int) = F.st
  arcl : F.arcs.length ≤ 100000
  arc : ∀ a ∈ F.arcs, 0 ≤ a.f ∧ a.f < F.st ∧ 0 ≤ a.t ∧ a.t < F.st

theorem FRng.src {F : TF} (h : FRng F) {bk : Bool} {a : Arc} (ha : a ∈ F.arcs) : 0 ≤ srcA bk a ∧ srcA bk a < (F.st.toNat : Nat) ∧ 0 ≤ dstA bk a ∧ dstA bk a < (F.st.toNat : Nat) := by
  have := h.arc a ha
  have := h.st
  unfold srcA dstA
  cases bk <;> simp only [Bool.false_eq_true, if_false, if_true, reduceIte] <;> omega

theorem nxL_app {l : List Arc} {bk : Bool} {k n : Nat} (h : 0 ≤ srcA bk (l.getD k aD)) (i : Nat) : (if i = (srcA bk (l.getD k aD)).toNat then nxL l bk k (srcA bk (l.getD k aD)).toNat ++ [dstA bk (l.getD k aD)] else nxL l bk k i) = nxL l bk (k + 1) i := by
  show _ = if (i : Int) = srcA bk (l.getD k aD) then nxL l bk k i ++ [dstA bk (l.getD k aD)] else nxL l bk k i
  by_cases e : (i : Int) = srcA bk (l.getD k aD)
  · rw [if_pos e, if_pos (by omega), show (srcA bk (l.getD k aD)).toNat = i by omega]
  · rw [if_neg e, if_neg (by omega)]

theorem potR_le {L : Nat → Nat} {ms : List Bool} {B : Nat} (h : ∀ j, L j ≤ B) : ∀ k, potR L ms k ≤ k * B
  | 0 => by simp [potR]
  | k + 1 => by
    have := potR_le (ms := ms) h k
    have := h k
    rw [Nat.succ_mul]
    unfold potR
    split <;> omega

theorem tab2_none (N : Nat) : Tab2 [] (List.replicate N EK.sli.dflt) N fun _ => ([] : List Int) := by
  have e : ∀ j, j < N → (List.replicate N EK.sli.dflt).getD j EK.sli.dflt = EK.sli.dflt := fun j hj => by simp [List.getD, hj]
  refine ⟨by simp, fun j hj => ?_, fun j hj => ?_, fun s t b hs ht hst hb => ?_⟩
  · rewrite [e j hj]; exact (⟨Eq.refl 0, Eq.refl 0⟩ : (0 : Nat) = 0 ∧ (0 : Nat) = 0)
  · rewrite [e j hj]; show rowA [] none = []; rfl
  · rewrite [e s hs] at hb; cases hb

abbrev hpRe (F : TF) (ms : List Bool) (rows : List Sli) (m : List (Addr × List Int × Nat)) : List (Nat × SO) := [(0, .arr false 3 .int F.fin 0), (1, .arr false 35 .arc F.arcs 0), (3, .box 25 (onF F)), (4, .arr true 4 .bool ms 0), (5, .arr true 22 .sli rows 0), (6, .pool 3 .int m)]

set_option maxHeartbeats 16000000 in
set_option maxRecDepth 20000 in
theorem reached_c (F : TF) (hF : FRng F) (xs : List Int) (sp : Nat) (bk : Bool) (hx : ∀ x ∈ xs, 0 ≤ x ∧ x < (F.st.toNat : Nat)) (hxl : xs.length ≤ 1000000) :
    Ct Tryd.prog 49 [fV F, .c (.sl 2 1 0 xs.length (xs.length + sp)), .b bk] [] ((2, .arr true 3 .int xs sp) :: hpF F) 3
    (fun v s => ∃ ms : List Bool, v = .c (.sl 3 1 0 ms.length ms.length) ∧ s = ⟨[], [(3, .arr true 4 .bool ms 0)], 4⟩ ∧ ms.length = F.st.toNat ∧ ∀ j, j < F.st.toNat → (ms.getD j false = true ↔ Rch F.arcs bk xs j)) := by
  have hst := hF.st
  have hal := hF.arcl
  refine ctW Tryd.tyOk 12 [19, 20, 21] Tryd.func49 rfl (by simp) (by simp) (fr := [(0, fV F), (1, .c (.sl 2 1 0 xs.length (xs.length + sp))), (2, .b bk)]) rfl ?_
  repeat' (first | exact rfl | ((conv => whnf); first | (refine qX (fun h => ?_) fun h => ?_ <;> try exact absurd h (by omega)) | refine oN ?_ | refine oM ?_ ?_ | refine bM ?_ ?_ | refine dR ?_))
  (conv => whnf)
  refine loopI (fun z : Nat × List Sli × List (Addr × List Int × Nat) => ⟨[(1, .c (.sl 2 1 0 xs.length (xs.length + sp))), (2, .b bk), (3, .c (.ptr 3 0)), (7, .c (.sl 4 1 0 F.st.toNat F.st.toNat)), (8, .c (.sl 5 1 0 F.st.toNat F.st.toNat)), (19, .c (.sl 1 5 0 F.arcs.length F.capA)), (20, .i F.arcs.length), (21, .i z.1)], (2, .arr true 3 .int xs sp) :: hpRe F (List.replicate F.st.toNat false) z.2.1 z.2.2, 7⟩)
    (fun z => z.1 ≤ F.arcs.length ∧ Tab2 z.2.2 z.2.1 F.st.toNat (nxL F.arcs bk z.1)) (fun z => F.arcs.length - z.1) (0, List.replicate F.st.toNat EK.sli.dflt, []) [(6, none)] ⟨by rfl, ?_, ?_⟩ ⟨Nat.zero_le _, (tab2_none _).cong fun j _ => rfl⟩ ?_
  · simp
  · simp [EK.dflt, nilO]
  · rintro ⟨k, rows, m⟩ ⟨hk, htab⟩
    simp only at hk htab ⊢
    have hrl := htab.len
    (conv => whnf)
    refine condP_dec (fun hk2 => ?_) (fun hk2 => ?_)
    · have e0 : 0 + (k : Int).toNat = k := by omega
      have hm := getD_mem F.arcs k aD (by omega)
      have hb := hF.arc _ hm
      have hsr := hF.src (bk := bk) hm
      have hj : (srcA bk (F.arcs.getD k aD)).toNat < F.st.toNat := by omega
      have hhd := htab.hd _ hj
      have hnl := hhd.len
      rw [htab.row _ hj] at hnl
      have hll := nxL_len (l := F.arcs) (bk := bk) (j := (srcA bk (F.arcs.getD k aD)).toNat) k
      cases bk with
      | true =>
        have hb1 : 0 ≤ (F.arcs.getD (0 + (k : Int).toNat) EK.arc.dflt).t ∧ (F.arcs.getD (0 + (k : Int).toNat) EK.arc.dflt).t < F.st := by rw [e0]; exact ⟨hb.2.2.1, hb.2.2.2⟩
        have hhd1 : Hd m (rows.getD (0 + (F.arcs.getD (0 + (k : Int).toNat) EK.arc.dflt).t.toNat) EK.sli.dflt) := by rw [Nat.zero_add, e0]; exact hhd
        have hnl1 : (rows.getD (0 + (F.arcs.getD (0 + (k : Int).toNat) EK.arc.dflt).t.toNat) EK.sli.dflt).n ≤ k := by rw [Nat.zero_add, e0]; exact hnl ▸ hll
        repeat' (first | exact rfl | ((conv => whnf); first | (refine qX (fun h => ?_) fun h => ?_ <;> try exact absurd h (by omega)) | refine oN ?_ | refine oM ?_ ?_ | refine bM ?_ ?_ | refine dR ?_))
        · exact ⟨hhd1, by omega, by omega⟩
        · intro m' h' happ
          have happ2 : App m (rows.getD (srcA true (F.arcs.getD k aD)).toNat EK.sli.dflt) [dstA true (F.arcs.getD k aD)] m' h' := by
            rw [Nat.zero_add, e0] at happ
            exact happ
          have htab2 := (htab.app hj happ2).cong fun i _ => nxL_app (n := 0) hsr.1 i
          have es : (srcA true (F.arcs.getD k aD)).toNat = 0 + (F.arcs.getD (0 + (k : Int).toNat) EK.arc.dflt).t.toNat := by rw [Nat.zero_add, e0]; rfl
          rw [es] at htab2
          clear htab happ happ2 hhd hhd1 hnl hnl1
          repeat' (first | exact rfl | ((conv => whnf); first | (refine qX (fun h => ?_) fun h => ?_ <;> try exact absurd h (by omega)) | refine oN ?_ | refine oM ?_ ?_ | refine bM ?_ ?_ | refine dR ?_))
          (conv => whnf)
          refine ⟨(k + 1, rows.set (0 + (F.arcs.getD (0 + (k : Int).toNat) EK.arc.dflt).t.toNat) h', m'), [], ⟨by rfl, ?_, ?_⟩, ⟨by simp only; omega, htab2⟩, by simp only; omega⟩
          · simp
          · simp
      | false =>
        have hb1 : 0 ≤ (F.arcs.getD (0 + (k : Int).toNat) EK.arc.dflt).f ∧ (F.arcs.getD (0 + (k : Int).toNat) EK.arc.dflt).f < F.st := by rw [e0]; exact ⟨hb.1, hb.2.1⟩
        have hhd1 : Hd m (rows.getD (0 + (F.arcs.getD (0 + (k : Int).toNat) EK.arc.dflt).f.toNat) EK.sli.dflt) := by rw [Nat.zero_add, e0]; exact hhd
        have hnl1 : (rows.getD (0 + (F.arcs.getD (0 + (k : Int).toNat) EK.arc.dflt).f.toNat) EK.sli.dflt).n ≤ k := by rw [Nat.zero_add, e0]; exact hnl ▸ hll
        repeat' (first | exact rfl | ((conv => whnf); first | (refine qX (fun h => ?_) fun h => ?_ <;> try exact absurd h (by omega)) | refine oN ?_ | refine oM ?_ ?_ | refine bM ?_ ?_ | refine dR ?_))
        · exact ⟨hhd1, by omega, by omega⟩
        · intro m' h' happ
          have happ2 : App m (rows.getD (srcA false (F.arcs.getD k aD)).toNat EK.sli.dflt) [dstA false (F.arcs.getD k aD)] m' h' := by
            rw [Nat.zero_add, e0] at happ
            exact happ
          have htab2 := (htab.app hj happ2).cong fun i _ => nxL_app (n := 0) hsr.1 i
          have es : (srcA false (F.arcs.getD k aD)).toNat = 0 + (F.arcs.getD (0 + (k : Int).toNat) EK.arc.dflt).f.toNat := by rw [Nat.zero_add, e0]; rfl
          rw [es] at htab2
          clear htab happ happ2 hhd hhd1 hnl hnl1
          repeat' (first | exact rfl | ((conv => whnf); first | (refine qX (fun h => ?_) fun h => ?_ <;> try exact absurd h (by omega)) | refine oN ?_ | refine oM ?_ ?_ | refine bM ?_ ?_ | refine dR ?_))
          (conv => whnf)
          refine ⟨(k + 1, rows.set (0 + (F.arcs.getD (0 + (k : Int).toNat) EK.arc.dflt).f.toNat) h', m'), [], ⟨by rfl, ?_, ?_⟩, ⟨by simp only; omega, htab2⟩, by simp only; omega⟩
          · simp
          · simp
    · have e : k = F.arcs.length := by omega
      subst e
      have hL : ∀ j, (nxL F.arcs bk F.arcs.length j).length ≤ 100000 := fun j => Nat.le_trans (nxL_len _) hal
      have hP0 := potR_le (ms := List.replicate F.st.toNat false) hL F.st.toNat
      generalize hpt : potR (fun j => (nxL F.arcs bk F.arcs.length j).length) (List.replicate F.st.toNat false) F.st.toNat = P0 at hP0
      repeat' (first | exact rfl | ((conv => whnf); first | (refine qX (fun h => ?_) fun h => ?_ <;> try exact absurd h (by omega)) | refine oN ?_ | refine oM ?_ ?_ | refine bM ?_ ?_ | refine dR ?_))
      (conv => whnf)
      refine loopI (fun z : List Int × List Int × Nat × Nat × List Bool => ⟨[(1, .c (.sl 7 1 0 z.1.length z.2.2.2.1)), (7, .c (.sl 4 1 0 F.st.toNat F.st.toNat)), (8, .c (.sl 5 1 0 F.st.toNat F.st.toNat))], (7, .arr true 3 .int (z.1 ++ z.2.1) z.2.2.1) :: hpRe F z.2.2.2.2 rows m, 8⟩)
        (fun z => ChInv F.arcs bk xs F.st.toNat z.2.2.2.2 z.1 ∧ z.2.2.2.1 ≤ z.1.length + z.2.1.length + z.2.2.1 ∧ z.1.length ≤ z.2.2.2.1 ∧ z.1.length + potR (fun j => (nxL F.arcs bk F.arcs.length j).length) z.2.2.2.2 F.st.toNat ≤ xs.length + P0) (fun z => z.1.length + potR (fun j => (nxL F.arcs bk F.arcs.length j).length) z.2.2.2.2 F.st.toNat) (xs, [], sp, xs.length + sp, List.replicate F.st.toNat false) [(7, some 2)] ⟨by rfl, ?_, ?_⟩ ⟨ChInv.start hx, by simp, by simp, by simp only [hpt]; exact Nat.le_refl _⟩ ?_
      · simp
      · simp
      · rintro ⟨st, junk, sp2, cap, ms⟩ ⟨hinv, hcap, hlc, hpo⟩
        simp only at hinv hcap hlc hpo ⊢
        have hml := hinv.len
        have hP1 : P0 ≤ 10000000000 := by omega
        have hnil : st = [] ∨ ∃ l x, st = l ++ [x] := by
          rcases st.eq_nil_or_concat with h | ⟨l, x, h⟩
          · exact .inl h
          · exact .inr ⟨l, x, by rw [h, List.concat_eq_append]⟩
        rcases hnil with rfl | ⟨st, x, rfl⟩
        · repeat' (first | exact rfl | ((conv => whnf); first | (refine qX (fun h => ?_) fun h => ?_ <;> try exact absurd h (by omega)) | refine oN ?_ | refine oM ?_ ?_ | refine bM ?_ ?_ | refine dR ?_ | intro _))
          (conv => whnf)
          exact ⟨[(3, some 4)], [(3, .arr true 4 .bool ms 0)], 4, .c (.sl 3 1 0 ms.length ms.length), ⟨by rfl, trivial, by simp⟩, by simp [hml], ms, rfl, rfl, hml, fun j hj => hinv.done (fun a ha => hF.src ha) hx hj⟩
        · have ee : ((st ++ [x] ++ junk).getD (0 + (((st ++ [x]).length : Int) - 1).toNat) EK.int.dflt) = x := by
            have e1 : 0 + (((st ++ [x]).length : Int) - 1).toNat = st.length := by simp
            rw [e1, List.append_assoc]
            simp [List.getD]
          have hxr := hinv.rng x (by simp)
          have hr0 := @id (@LE.le Int _ 0 ((st ++ [x] ++ junk).getD (0 + (((st ++ [x]).length : Int) - 1).toNat) EK.int.dflt)) (by rw [ee]; exact hxr.1)
          have hr1 := @id (@LT.lt Int _ ((st ++ [x] ++ junk).getD (0 + (((st ++ [x]).length : Int) - 1).toNat) EK.int.dflt) (F.st.toNat : Int)) (by rw [ee]; exact hxr.2)
          have hhd : Hd m (rows.getD (0 + Int.toNat ((st ++ [x] ++ junk).getD (0 + (((st ++ [x]).length : Int) - 1).toNat) EK.int.dflt)) EK.sli.dflt) := htab.hd _ (by omega)
          have hrw : rowA m (rows.getD (0 + Int.toNat ((st ++ [x] ++ junk).getD (0 + (((st ++ [x]).length : Int) - 1).toNat) EK.int.dflt)) EK.sli.dflt).a = nxL F.arcs bk F.arcs.length x.toNat := by rw [htab.row _ (by omega), ee, Nat.zero_add]
          have hnn := hhd.len
          rw [hrw] at hnn
          have hnl := hL x.toNat
          have hsl : (st ++ [x]).length = st.length + 1 := by simp
          have hA : (((st ++ [x]).length : Int) - 1 - 0).toNat = st.length := by simp
          have hsb0 : sub (st ++ [x] ++ junk) 0 st.length = st := by simp [sub]
          have hsb : sub (st ++ [x] ++ junk) (0 + Int.toNat 0) st.length = st := hsb0
          rw [hsl] at hpo hlc hcap
          repeat' (first | exact rfl | ((conv => whnf); first | (refine qX (fun h => ?_) fun h => ?_ <;> try exact absurd h (by omega)) | refine oN ?_ | refine oM ?_ ?_ | refine bM ?_ ?_ | refine dR ?_))
          · intro sp3
            repeat' (first | exact rfl | ((conv => whnf); first | (refine qX (fun h => ?_) fun h => ?_ <;> try exact absurd h (by omega)) | refine oN ?_ | refine oM ?_ ?_ | refine bM ?_ ?_ | refine dR ?_))
            (conv => whnf)
            rw [ee, Nat.zero_add] at h
            have hmk2 : ms.getD x.toNat false ≠ true := by
              intro q
              rw [show EK.bool.dflt = false from rfl, q] at h
              cases h
            have hps := potR_set (L := fun j => (nxL F.arcs bk F.arcs.length j).length) (i := x.toNat) (by omega) hmk2 F.st.toNat
            rw [if_pos (by omega)] at hps
            simp only [ee] at hrw hnn
            simp only [hA, ee, hsb, hsb0, hrw, hnn]
            refine ⟨(st ++ nxL F.arcs bk F.arcs.length x.toNat, [], sp3, (st ++ nxL F.arcs bk F.arcs.length x.toNat).length + sp3, ms.set x.toNat true), [(7, some 8)], ⟨by rfl, ?_, ?_⟩, ⟨hinv.mark fun a ha => hF.src ha, ?_, ?_, ?_⟩, ?_⟩
            · simp [List.length_append]
            · simp [List.append_nil, lOp.appL]
            all_goals simp only [List.length_append, List.length_cons, List.length_nil] at *
            all_goals omega
          · (conv => whnf)
            rw [ee, Nat.zero_add] at h
            have hmk2 : ms.getD x.toNat false = true := by
              rw [show EK.bool.dflt = false from rfl] at h
              simpa using h
            simp only [hA]
            refine ⟨(st, x :: junk, sp2, cap, ms), [], ⟨by rfl, ?_, ?_⟩, ⟨hinv.pass hmk2, ?_, ?_, ?_⟩, ?_⟩
            · simp
            · simp
            all_goals simp only [List.length_append, List.length_cons, List.length_nil] at *
            all_goals omega
end Go.Fw

namespace Go.Fw
open Go Go.Proofs

/-- Kept: marked twice. -/
def kpB (m1 m2 : List Bool) (j : Nat) : Bool := m1.getD j false && m2.getD j false

theorem keep1_c (m1 m2 : List Bool) (n1 n2 : Nat) (hn1 : n1 = m1.length) (hn2 : n2 = m2.length) (x : Int) (hx : 0 ≤ x) (h1 : x < m1.length) (h2 : x < m2.length) :
    Ct Tryd.prog 51 [.i x, .c (.ptr 2 0), .c (.ptr 3 0)] [] [(0, .arr false 4 .bool m1 0), (1, .arr false 4 .bool m2 0), (2, .box 77 [.sl 0 1 0 n1 n1]), (3, .box 77 [.sl 1 1 0 n2 n2])] 4
    (fun v s => v = .b (kpB m1 m2 x.toNat) ∧ s = ⟨[], [(2, .box 77 [.sl 0 1 0 n1 n1]), (3, .box 77 [.sl 1 1 0 n2 n2])], 4⟩) := by
  subst hn1 hn2
  refine ctW Tryd.tyOk 5 [] Tryd.func51 rfl (by simp) (by simp) (fr := [(0, .i x), (1, .c (.ptr 2 0)), (2, .c (.ptr 3 0))]) rfl ?_
  repeat' (first | exact rfl | ((conv => whnf); first | (refine qX (fun h => ?_) fun h => ?_ <;> try exact absurd h (by omega)) | refine oN ?_ | refine oM ?_ ?_ | refine bM ?_ ?_ | refine dR ?_))
  all_goals
    (conv => whnf)
    refine ⟨[], [(2, .box 77 [.sl 0 1 0 m1.length m1.length]), (3, .box 77 [.sl 1 1 0 m2.length m2.length])], 4, .b (kpB m1 m2 x.toNat), ⟨by rfl, trivial, by simp⟩, ?_, rfl, rfl⟩
    simp_all [eqV, eqA, eqC, kpB, EK.dflt]

/-- What comes out: 0 final, 1 arcs. -/
def OutPost (st start : Int) (fin : List Int) (arcs : List Arc) (n : Nat) (v : SV) (s : S) : Prop := ∃ sp sq, v = .a (.agg [.i st, .i start, .sl n 1 0 fin.length (fin.length + sp), .sl (n + 1) 5 0 arcs.length (arcs.length + sq)]) ∧ s = ⟨[], [(n, .arr true 3 .int fin sp), (n + 1, .arr true 35 .arc arcs sq)], n + 2⟩

theorem nothing_c : Ct Tryd.prog 63 [] [] [] 0 (OutPost 1 0 [-1] [] 0) := by
  refine ctW Tryd.tyOk 1 [] Tryd.func63 rfl (by simp) (by simp) (fr := []) rfl ?_
  repeat' (first | exact rfl | ((conv => whnf); first | (refine qX (fun h => ?_) fun h => ?_ <;> try exact absurd h (by omega)) | refine oN ?_ | refine oM ?_ ?_ | refine bM ?_ ?_ | refine dR ?_))
  (conv => whnf)
  exact ⟨[(0, some 1), (1, none)], [(0, .arr true 3 .int [-1] 0), (1, .arr true 35 .arc [] 0)], 2, .a (.agg [.i 1, .i 0, .sl 0 1 0 1 1, .sl 1 5 0 0 0]), ⟨by rfl, trivial, by simp [nilO]⟩, by simp, 0, 0, rfl, rfl⟩

/-- How many are kept below k. -/
def rkB (p : Nat → Bool) : Nat → Nat
  | 0 => 0
  | k + 1 => if p k = true then rkB p k + 1 else rkB p k

/-- What they tell. -/
def kfin (p : Nat → Bool) (fin : List Int) : Nat → List Int
  | 0 => []
  | k + 1 => if p k = true then kfin p fin k ++ [fin.getD k 0] else kfin p fin k

theorem kfin_len (p : Nat → Bool) (fin : List Int) : ∀ k, (kfin p fin k).length = rkB p k
  | 0 => rfl
  | k + 1 => by
    have := kfin_len p fin k
    unfold kfin rkB
    split <;> simp [this]
theorem rkB_le (p : Nat → Bool) : ∀ k, rkB p k ≤ k
  | 0 => Nat.le_refl _
  | k + 1 => by
    have := rkB_le p k
    unfold rkB
    split <;> omega

def kArc (p : Nat → Bool) (a : Arc) : Arc := ⟨(rkB p a.f.toNat : Nat), a.i, a.o, (rkB p a.t.toNat : Nat), a.w⟩
def kOk (p : Nat → Bool) (a : Arc) : Bool := p a.f.toNat && p a.t.toNat
def karc (p : Nat → Bool) (l : List Arc) : Nat → List Arc
  | 0 => []
  | k + 1 => if kOk p (l.getD k aD) = true then karc p l k ++ [kArc p (l.getD k aD)] else karc p l k

theorem karc_len (p : Nat → Bool) (l : List Arc) : ∀ k, (karc p l k).length ≤ k
  | 0 => Nat.le_refl _
  | k + 1 => by
    have := karc_len p l k
    unfold karc
    split
    · simp; omega
    · omega

abbrev LkI (es : List (Int × Int × Nat)) (p : Nat → Bool) (k : Nat) : Prop := ∀ j : Int, 0 ≤ j → j < k → p j.toNat = true → @lkM EK.int.ty EK.int.ty (EK.instDeq .int) es j = some ((rkB p j.toNat : Nat) : Int)

/-- What Kept answers. -/
def keptPost (F : TF) (p : Nat → Bool) (n : Nat) (v : SV) (s : S) : Prop :=
  if p F.start.toNat = true then OutPost (rkB p F.st.toNat : Nat) (rkB p F.start.toNat : Nat) (kfin p F.fin F.st.toNat) (karc p F.arcs F.arcs.length) n v s else OutPost 1 0 [-1] [] n v s

abbrev hpKe (F : TF) (m1 m2 : List Bool) (n1 n2 : Nat) : List (Nat × SO) := [(0, .arr false 3 .int F.fin 0), (1, .arr false 35 .arc F.arcs 0), (2, .arr false 4 .bool m1 0), (3, .arr false 4 .bool m2 0), (4, .box 77 [.sl 2 1 0 n1 n1]), (5, .box 77 [.sl 3 1 0 n2 n2])]

set_option maxHeartbeats 16000000 in
set_option maxRecDepth 20000 in
theorem kept_c (F : TF) (hF : FRng F) (hs : 0 ≤ F.start ∧ F.start < F.st) (m1 m2 : List Bool) (n1 n2 : Nat) (hn1 : n1 = m1.length) (hn2 : n2 = m2.length) (hm1 : (m1.length : Int) = F.st) (hm2 : (m2.length : Int) = F.st) :
    Ct Tryd.prog 50 [fV F, .c (.fn 51 [(4, 0), (5, 0)])] [] (hpKe F m1 m2 n1 n2) 6 (keptPost F (kpB m1 m2) 6) := by
  have hst := hF.st
  have hal := hF.arcl
  have hfl := hF.finl
  generalize hp : kpB m1 m2 = p
  refine ctW Tryd.tyOk 10 [13, 14, 51, 52, 53] Tryd.func50 rfl (by simp; omega) (by simp) (fr := [(0, fV F), (1, .c (.fn 51 [(4, 0), (5, 0)]))]) rfl ?_
  repeat' (first | exact rfl | ((conv => whnf); first | (refine qX (fun h => ?_) fun h => ?_ <;> try exact absurd h (by omega)) | refine oN ?_ | refine oM ?_ ?_ | refine bM ?_ ?_ | refine dR ?_))
  (conv => whnf)
  refine loopI (fun z : Nat × Nat × List (Int × Int × Nat) × Nat => ⟨[(1, .c (.fn 51 [(4, 0), (5, 0)])), (2, .c (.ptr 6 0)), (4, .c (.ptr 7 0)), (5, .c (.mp 8)), (6, .c (.ptr 9 0)), (13, .i F.st), (14, .i z.1)],
      hpKe F m1 m2 n1 n2 ++ [(6, .box 25 (fCells F)), (7, .box 25 [.i 0, .i 0, .v (.slice none 0 0), .v (.slice none 0 0)]), (8, .map .int .int z.2.2.1 z.2.2.2), (9, .box 25 [.i (rkB p z.1), .i 0, .sl 10 1 0 (kfin p F.fin z.1).length ((kfin p F.fin z.1).length + z.2.1), .v (.slice none 0 0)]), (10, .arr true 3 .int (kfin p F.fin z.1) z.2.1)], 11⟩)
    (fun z => (z.1 : Int) ≤ F.st ∧ LkI z.2.2.1 p z.1) (fun z => F.st.toNat - z.1) (0, 0, [], 0) [(10, none)] ⟨by rfl, ?_, ?_⟩ ⟨by simp only; omega, fun j h0 h1 => by simp only at h1; omega⟩ ?_
  · simp
  · simp [fCells, nilO, rkB, kfin]
  · rintro ⟨k, sp, es, clk⟩ ⟨hk, hlk⟩
    simp only at hk hlk ⊢
    have hkl := kfin_len p F.fin k
    have hrk := rkB_le p k
    generalize hpl : kfin p F.fin k = pl at hkl ⊢
    repeat' (first | exact rfl | ((conv => whnf); first | (refine qX (fun h => ?_) fun h => ?_ <;> try exact absurd h (by omega)) | refine oN ?_ | refine oM ?_ ?_ | refine bM ?_ ?_ | refine dR ?_))
    · have hk1 : F.st.toNat - (k + 1) < F.st.toNat - k := by omega
      (conv => whnf)
      refine cF (keep1_c m1 m2 n1 n2 hn1 hn2 (k : Int) (by omega) (by omega) (by omega)) [2, 3, 4, 5] Tryd.call51 ?_
      rintro _ _ ⟨rfl, rfl⟩
      have e0 : 0 + (k : Int).toNat = k := by omega
      rw [hp, Int.toNat_natCast]
      by_cases hpk : p k = true
      · have hr2 : rkB p (k + 1) = rkB p k + 1 := by show (if p k = true then _ else _) = _; rw [if_pos hpk]
        have hkf : kfin p F.fin (k + 1) = pl ++ [F.fin.getD k 0] := by show (if p k = true then _ else _) = _; rw [if_pos hpk, hpl]
        rw [hpk]
        repeat' (first | exact rfl | ((conv => whnf); first | (refine qX (fun h => ?_) fun h => ?_ <;> try exact absurd h (by omega)) | refine oN ?_ | refine oM ?_ ?_ | refine bM ?_ ?_ | refine dR ?_ | intro _))
        (conv => whnf)
        rename_i sp2
        refine ⟨(k + 1, sp2, (@insM EK.int.ty EK.int.ty (EK.instDeq .int) es clk (k : Int) ((rkB p k : Nat) : Int)).1, (@insM EK.int.ty EK.int.ty (EK.instDeq .int) es clk (k : Int) ((rkB p k : Nat) : Int)).2), [(10, some 12)], ⟨by rfl, ?_, ?_⟩, ⟨by simp only; omega, fun j h0 h1 hj => ?_⟩, by simp only; omega⟩
        · simp
        · simp [hkf, hr2, EK.dflt, e0, fCells]
          simp [app_one]
        · rw [lkM_insM]
          by_cases ej : j = k
          · rw [if_pos ej, ej, Int.toNat_natCast]
          · rw [if_neg ej]
            exact hlk j h0 (by simp only at h1; omega) hj
      · have hr2 : rkB p (k + 1) = rkB p k := by show (if p k = true then _ else _) = _; rw [if_neg hpk]
        have hkf : kfin p F.fin (k + 1) = pl := by show (if p k = true then _ else _) = _; rw [if_neg hpk, hpl]
        have hpk2 : p k = false := by simpa using hpk
        rw [hpk2]
        repeat' (first | exact rfl | ((conv => whnf); first | (refine qX (fun h => ?_) fun h => ?_ <;> try exact absurd h (by omega)) | refine oN ?_ | refine oM ?_ ?_ | refine bM ?_ ?_ | refine dR ?_ | intro _))
        (conv => whnf)
        refine ⟨(k + 1, sp, es, clk), [], ⟨by rfl, ?_, ?_⟩, ⟨by simp only; omega, fun j h0 h1 hj => ?_⟩, by simp only; omega⟩
        · simp
        · simp [hkf, hr2, fCells]
        · by_cases ej : j = k
          · rw [ej, Int.toNat_natCast, hpk2] at hj; cases hj
          · exact hlk j h0 (by simp only at h1; omega) hj
    · have e : k = F.st.toNat := by omega
      subst e
      subst hpl
      repeat' (first | exact rfl | ((conv => whnf); first | (refine qX (fun h => ?_) fun h => ?_ <;> try exact absurd h (by omega)) | refine oN ?_ | refine oM ?_ ?_ | refine bM ?_ ?_ | refine dR ?_))
      (conv => whnf)
      refine cF (keep1_c m1 m2 n1 n2 hn1 hn2 F.start (by omega) (by omega) (by omega)) [2, 3, 4, 5] Tryd.call51 ?_
      rintro _ _ ⟨rfl, rfl⟩
      rw [hp]
      by_cases hps : p F.start.toNat = true
      · have hl0 := hlk F.start hs.1 (by omega) hps
        rw [hps]
        repeat' (first | exact rfl | ((conv => whnf); first | (refine qX (fun h => ?_) fun h => ?_ <;> try exact absurd h (by omega)) | refine oN ?_ | refine oM ?_ ?_ | refine bM ?_ ?_ | refine dR ?_ | intro _))
        (conv => whnf)
        refine loopI (fun z : Nat × Nat => ⟨[(1, .c (.fn 51 [(4, 0), (5, 0)])), (2, .c (.ptr 6 0)), (4, .c (.ptr 7 0)), (5, .c (.mp 8)), (6, .c (.ptr 9 0)), (51, .c (.sl 1 5 0 F.arcs.length F.capA)), (52, .i F.arcs.length), (53, .i z.1)],
            hpKe F m1 m2 n1 n2 ++ [(6, .box 25 (fCells F)), (7, .box 25 [.i 0, .i 0, .v (.slice none 0 0), .v (.slice none 0 0)]), (8, .map .int .int es clk), (9, .box 25 [.i (rkB p F.st.toNat), .i (rkB p F.start.toNat), .sl 10 1 0 (kfin p F.fin F.st.toNat).length ((kfin p F.fin F.st.toNat).length + sp), .sl 11 5 0 (karc p F.arcs z.1).length ((karc p F.arcs z.1).length + z.2)]), (10, .arr true 3 .int (kfin p F.fin F.st.toNat) sp), (11, .arr true 35 .arc (karc p F.arcs z.1) z.2)], 12⟩)
          (fun z => z.1 ≤ F.arcs.length) (fun z => F.arcs.length - z.1) (0, 0) [(11, none)] ⟨by rfl, ?_, ?_⟩ (Nat.zero_le _) ?_
        · simp
        · simp [fCells, nilO, karc, hl0]
        · rintro ⟨k, sq⟩ hk2
          simp only at hk2 ⊢
          have hlen := karc_len p F.arcs k
          repeat' (first | exact rfl | ((conv => whnf); first | (refine qX (fun h => ?_) fun h => ?_ <;> try exact absurd h (by omega)) | refine oN ?_ | refine oM ?_ ?_ | refine bM ?_ ?_ | refine dR ?_))
          · have e0 : 0 + (k : Int).toNat = k := by omega
            have hb := hF.arc _ (getD_mem F.arcs k aD (by omega))
            rw [← e0] at hb
            generalize hax : F.arcs.getD (0 + (k : Int).toNat) aD = ax at hb
            have hax0 : F.arcs.getD k aD = ax := by rw [← hax, e0]
            have hax2 : F.arcs.getD (0 + (k : Int).toNat) EK.arc.dflt = ax := hax
            rw [hax2]
            (conv => whnf)
            refine cF (keep1_c m1 m2 n1 n2 hn1 hn2 ax.f (by omega) (by omega) (by omega)) [2, 3, 4, 5] Tryd.call51 ?_
            rintro _ _ ⟨rfl, rfl⟩
            rw [hp]
            have hks : karc p F.arcs (k + 1) = if kOk p ax = true then karc p F.arcs k ++ [kArc p ax] else karc p F.arcs k := by
              show (if kOk p (F.arcs.getD k aD) = true then _ else _) = _
              rw [hax0]
            by_cases hpf : p ax.f.toNat = true
            · rw [hpf]
              repeat' (first | exact rfl | ((conv => whnf); first | (refine qX (fun h => ?_) fun h => ?_ <;> try exact absurd h (by omega)) | refine oN ?_ | refine oM ?_ ?_ | refine bM ?_ ?_ | refine dR ?_ | intro _))
              (conv => whnf)
              refine cF (keep1_c m1 m2 n1 n2 hn1 hn2 ax.t (by omega) (by omega) (by omega)) [2, 3, 4, 5] Tryd.call51 ?_
              rintro _ _ ⟨rfl, rfl⟩
              rw [hp]
              by_cases hpt : p ax.t.toNat = true
              · rw [hpt]
                have hl1 := hlk ax.f hb.1 (by omega) hpf
                have hl2 := hlk ax.t hb.2.2.1 (by omega) hpt
                rw [if_pos (by unfold kOk; rw [hpf, hpt]; rfl)] at hks
                repeat' (first | exact rfl | ((conv => whnf); first | (refine qX (fun h => ?_) fun h => ?_ <;> try exact absurd h (by omega)) | refine oN ?_ | refine oM ?_ ?_ | refine bM ?_ ?_ | refine dR ?_ | intro _))
                (conv => whnf)
                rename_i sp2
                rw [hl1, hl2]
                refine ⟨(k + 1, sp2), [(11, some 14)], ⟨by rfl, ?_, ?_⟩, by simp only; omega, by simp only; omega⟩
                · simp
                · simp [hks, fCells]
                  exact (app_one (karc p F.arcs k) _ (kArc p ax) rfl).symm
              · have hpt2 : p ax.t.toNat = false := by simpa using hpt
                rw [hpt2]
                rw [if_neg (by unfold kOk; rw [hpt2]; simp)] at hks
                repeat' (first | exact rfl | ((conv => whnf); first | (refine qX (fun h => ?_) fun h => ?_ <;> try exact absurd h (by omega)) | refine oN ?_ | refine oM ?_ ?_ | refine bM ?_ ?_ | refine dR ?_ | intro _))
                (conv => whnf)
                refine ⟨(k + 1, sq), [], ⟨by rfl, ?_, ?_⟩, by simp only; omega, by simp only; omega⟩
                · simp
                · simp [hks, fCells]
            · have hpf2 : p ax.f.toNat = false := by simpa using hpf
              rw [hpf2]
              rw [if_neg (by unfold kOk; rw [hpf2]; simp)] at hks
              repeat' (first | exact rfl | ((conv => whnf); first | (refine qX (fun h => ?_) fun h => ?_ <;> try exact absurd h (by omega)) | refine oN ?_ | refine oM ?_ ?_ | refine bM ?_ ?_ | refine dR ?_ | intro _))
              (conv => whnf)
              refine ⟨(k + 1, sq), [], ⟨by rfl, ?_, ?_⟩, by simp only; omega, by simp only; omega⟩
              · simp
              · simp [hks, fCells]
          · have e : k = F.arcs.length := by omega
            subst e
            repeat' (first | exact rfl | ((conv => whnf); first | (refine qX (fun h => ?_) fun h => ?_ <;> try exact absurd h (by omega)) | refine oN ?_ | refine oM ?_ ?_ | refine bM ?_ ?_ | refine dR ?_ | intro _))
            (conv => whnf)
            refine ⟨[(6, some 10), (7, some 11)], [(6, .arr true 3 .int (kfin p F.fin F.st.toNat) sp), (7, .arr true 35 .arc (karc p F.arcs F.arcs.length) sq)], 8, .a (.agg [.i (rkB p F.st.toNat : Nat), .i (rkB p F.start.toNat : Nat), .sl 6 1 0 (kfin p F.fin F.st.toNat).length ((kfin p F.fin F.st.toNat).length + sp), .sl 7 5 0 (karc p F.arcs F.arcs.length).length ((karc p F.arcs F.arcs.length).length + sq)]), ⟨by rfl, trivial, by simp⟩, by simp, ?_⟩
            unfold keptPost
            rw [if_pos hps]
            exact ⟨sp, sq, rfl, rfl⟩
      · have hpk2 : p F.start.toNat = false := by simpa using hps
        rw [hpk2]
        repeat' (first | exact rfl | ((conv => whnf); first | (refine qX (fun h => ?_) fun h => ?_ <;> try exact absurd h (by omega)) | refine oN ?_ | refine oM ?_ ?_ | refine bM ?_ ?_ | refine dR ?_ | intro _))
        (conv => whnf)
        refine cF (nothing_c) [] Tryd.call63 ?_
        rintro _ _ ⟨sp3, sq3, rfl, rfl⟩
        repeat' (first | exact rfl | ((conv => whnf); first | (refine qX (fun h => ?_) fun h => ?_ <;> try exact absurd h (by omega)) | refine oN ?_ | refine oM ?_ ?_ | refine bM ?_ ?_ | refine dR ?_ | intro _))
        (conv => whnf)
        refine ⟨[(6, some 11), (7, some 12)], [(6, .arr true 3 .int [-1] sp3), (7, .arr true 35 .arc [] sq3)], 8, .a (.agg [.i 1, .i 0, .sl 6 1 0 [(-1 : Int)].length ([(-1 : Int)].length + sp3), .sl 7 5 0 ([] : List Arc).length (([] : List Arc).length + sq3)]), ⟨by rfl, trivial, by simp⟩, by simp, ?_⟩
        unfold keptPost
        rw [if_neg hps]
        exact ⟨sp3, sq3, rfl, rfl⟩

/-- What is kept. -/
def kT (F : TF) (p : Nat → Bool) : TF := if p F.start.toNat = true then ⟨(rkB p F.st.toNat : Nat), (rkB p F.start.toNat : Nat), kfin p F.fin F.st.toNat, karc p F.arcs F.arcs.length, 0, 0⟩ else ⟨1, 0, [-1], [], 0, 0⟩

theorem keptPost_iff {F : TF} {p : Nat → Bool} {n : Nat} {v : SV} {s : S} : keptPost F p n v s ↔ OutPost (kT F p).st (kT F p).start (kT F p).fin (kT F p).arcs n v s := by
  unfold keptPost kT
  split <;> exact Iff.rfl

/-- Useful: reached from the start, and some end reached from it. -/
structure UsOk (F : TF) (p : Nat → Bool) : Prop where
  iff : ∀ j, j < F.st.toNat → (p j = true ↔ Rch F.arcs false [F.start] j ∧ ∃ e : Nat, e < F.st.toNat ∧ F.fin.getD e 0 ≠ -1 ∧ Rch F.arcs true [(e : Int)] j)

/-- The ends below k. -/
def endL (fin : List Int) : Nat → List Int
  | 0 => []
  | k + 1 => if fin.getD k 0 ≠ -1 then endL fin k ++ [(k : Int)] else endL fin k
theorem endL_len (fin : List Int) : ∀ k, (endL fin k).length ≤ k
  | 0 => Nat.le_refl _
  | k + 1 => by
    have := endL_len fin k
    unfold endL
    split
    · simp; omega
    · omega
theorem mem_endL {fin : List Int} {x : Int} : ∀ k, x ∈ endL fin k ↔ ∃ e : Nat, e < k ∧ fin.getD e 0 ≠ -1 ∧ x = e
  | 0 => by simp [endL]
  | k + 1 => by
    have ih := mem_endL (fin := fin) (x := x) k
    unfold endL
    split
    · rename_i h
      rw [List.mem_append, ih, List.mem_singleton]
      constructor
      · rintro (⟨e, h1, h2⟩ | rfl)
        · exact ⟨e, by omega, h2⟩
        · exact ⟨k, by omega, h, rfl⟩
      · rintro ⟨e, h1, h2, h3⟩
        by_cases q : e = k
        · subst q; exact .inr h3
        · exact .inl ⟨e, by omega, h2, h3⟩
    · rename_i h
      rw [ih]
      constructor
      · rintro ⟨e, h1, h2⟩
        exact ⟨e, by omega, h2⟩
      · rintro ⟨e, h1, h2, h3⟩
        by_cases q : e = k
        · subst q; exact absurd h2 h
        · exact ⟨e, by omega, h2, h3⟩
theorem rch_some {l : List Arc} {bk : Bool} {first : List Int} {x : Int} : Rch l bk first x ↔ ∃ e ∈ first, Rch l bk [e] x := by
  constructor
  · intro h
    induction h with
    | here h => exact ⟨_, h, .here (by simp)⟩
    | on h ha hs ih =>
      obtain ⟨e, he, hr⟩ := ih
      exact ⟨e, he, .on hr ha hs⟩
  · rintro ⟨e, he, h⟩
    induction h with
    | here h => rw [List.mem_singleton] at h; subst h; exact .here he
    | on h ha hs ih => exact .on ih ha hs
end Go.Fw
