/-
  The way of least cost from spot to spot.
-/
import Derived.Test.YtdijmfdanbnppaaDoorS08
import Derived.Test.YtdijmfdanbnppaaDoorS07

set_option linter.unusedSimpArgs false
set_option linter.unusedVariables false

namespace Go.Fw
open Go

/-- From a spot by an arc. -/
def Edge (F : TF) (u v : List Int) (x : Trip) (n : Nat) (y : Trip) (w : Int) : Prop :=
  ∃ a, F.arcs[n]? = some a ∧ a.f = x.a ∧ (fitE u x.b a.i).2 = true ∧ (fitE v x.c a.o).2 = true ∧ y = ⟨a.t, (fitE u x.b a.i).1, (fitE v x.c a.o).1⟩ ∧ w = a.w

def st0 (F : TF) : Trip := ⟨F.start, 0, 0⟩

def InBox (F : TF) (u v : List Int) (x : Trip) : Prop := (0 ≤ x.a ∧ x.a < F.st) ∧ (0 ≤ x.b ∧ x.b ≤ u.length) ∧ (0 ≤ x.c ∧ x.c ≤ v.length)

theorem fitE_box {l : List Int} {p x : Int} (hp : 0 ≤ p ∧ p ≤ l.length) (h : (fitE l p x).2 = true) : 0 ≤ (fitE l p x).1 ∧ (fitE l p x).1 ≤ l.length := by
  unfold fitE at h ⊢
  split at h
  · rename_i e; rw [if_pos e]; exact hp
  · rename_i e
    rw [if_neg e]
    simp only [decide_eq_true_eq] at h
    constructor
    · show 0 ≤ p + 1
      omega
    · show p + 1 ≤ _
      omega

section
variable {F : TF} {u v : List Int}

theorem Edge.box (hF : FOk F) {x y : Trip} {n : Nat} {w : Int} (h : Edge F u v x n y w) (hx : InBox F u v x) : InBox F u v y := by
  obtain ⟨a, h1, h2, h3, h4, rfl, rfl⟩ := h
  have ha := hF.arc a (List.mem_of_getElem? h1)
  exact ⟨⟨ha.t0, ha.t1⟩, fitE_box hx.2.1 h3, fitE_box hx.2.2 h4⟩

theorem Edge.wt (hF : FOk F) {x y : Trip} {n : Nat} {w : Int} (h : Edge F u v x n y w) : 0 ≤ w ∧ w ≤ 1000000000 := by
  obtain ⟨a, h1, h2, h3, h4, rfl, rfl⟩ := h
  have ha := hF.arc a (List.mem_of_getElem? h1)
  exact ⟨ha.w0, ha.w1⟩

theorem Edge.fn {x y y' : Trip} {n : Nat} {w w' : Int} (h : Edge F u v x n y w) (h' : Edge F u v x n y' w') : y = y' ∧ w = w' := by
  obtain ⟨a, h1, h2, h3, h4, rfl, rfl⟩ := h
  obtain ⟨a', h1', h2', h3', h4', rfl, rfl⟩ := h'
  rw [h1] at h1'
  cases h1'
  exact ⟨rfl, rfl⟩

/-- What comes of one arc. -/
theorem stepD_cases {x : Trip} {cost : Int} {D : Trip → Option Fnd} {k : Nat} {a : Arc} (hk : F.arcs[k]? = some a) (hf : a.f = x.a) :
    (stepD F u v x cost D k = D ∧ ∀ y w, Edge F u v x k y w → ∃ d, D y = some d ∧ d.cost ≤ cost + w) ∨
    ∃ y w, Edge F u v x k y w ∧ stepD F u v x cost D k = updD D y ⟨cost + w, k, x.a, x.b, x.c, false⟩ ∧ ∀ d, D y = some d → cost + w < d.cost := by
  have har : F.arcs.getD (k : Int).toNat EK.arc.dflt = a := by rw [Int.toNat_natCast]; simp [List.getD, hk]
  cases h1 : (fitE u x.b a.i).2 with
  | false =>
    refine .inl ⟨stepD_no1 har (by rw [h1]; rfl), ?_⟩
    rintro y w ⟨b, g1, g2, g3, g4, _⟩
    rw [hk] at g1
    cases g1
    rw [h1] at g3
    cases g3
  | true =>
    cases h2 : (fitE v x.c a.o).2 with
    | false =>
      refine .inl ⟨stepD_no2 har (by rw [h2]; rfl), ?_⟩
      rintro y w ⟨b, g1, g2, g3, g4, _⟩
      rw [hk] at g1
      cases g1
      rw [h2] at g4
      cases g4
    | true =>
      have he : Edge F u v x k ⟨a.t, (fitE u x.b a.i).1, (fitE v x.c a.o).1⟩ a.w := ⟨a, hk, hf, h1, h2, rfl, rfl⟩
      cases h3 : D ⟨a.t, (fitE u x.b a.i).1, (fitE v x.c a.o).1⟩ with
      | none => exact .inr ⟨_, _, he, stepD_new har (by rw [h1]; rfl) (by rw [h2]; rfl) h3, fun d hd => by rw [h3] at hd; cases hd⟩
      | some d =>
        by_cases h4 : cost + a.w < d.cost
        · exact .inr ⟨_, _, he, stepD_less har (by rw [h1]; rfl) (by rw [h2]; rfl) h3 h4, fun d' hd => by rw [h3] at hd; cases hd; exact h4⟩
        · refine .inl ⟨stepD_keep har (by rw [h1]; rfl) (by rw [h2]; rfl) h3 h4, ?_⟩
          intro y w h
          obtain ⟨rfl, rfl⟩ := he.fn h
          exact ⟨d, h3, by omega⟩

/-- What holds between the rounds. -/
structure Dj (F : TF) (u v : List Int) (D : Trip → Option Fnd) (ord : List Trip) (rk : Trip → Nat) (B : Int) (Q : Trip → Nat → Prop) : Prop where
  start : ∃ c, D (st0 F) = some c ∧ c.cost = 0
  rng : ∀ y d, D y = some d → InBox F u v y
  dn : ∀ y d, D y = some d → (d.dn = true ↔ y ∈ ord)
  mem : ∀ y ∈ ord, ∃ d, D y = some d
  cost : ∀ y d, D y = some d → 0 ≤ d.cost ∧ d.cost ≤ B
  closed : ∀ z ∈ ord, ∀ c, D z = some c → ∀ n y w, Q z n → Edge F u v z n y w → ∃ d, D y = some d ∧ d.cost ≤ c.cost + w
  mono : ∀ z ∈ ord, ∀ c, D z = some c → ∀ y d, D y = some d → y ∉ ord → c.cost ≤ d.cost
  rkl : ∀ y ∈ ord, rk y < ord.length
  by' : ∀ y d, D y = some d → (y = st0 F ∧ d.cost = 0 ∧ d.arc = -1) ∨ ∃ (n : Nat) (x : Trip) (c : Fnd) (w : Int), d.arc = (n : Int) ∧ d.s = x.a ∧ d.i = x.b ∧ d.o = x.c ∧ x ∈ ord ∧ D x = some c ∧ Edge F u v x n y w ∧ d.cost = c.cost + w ∧ (y ∈ ord → rk x < rk y)

/-- The nearest spot is done. -/
def mark (D : Trip → Option Fnd) (x : Trip) (c : Fnd) : Trip → Option Fnd := updD D x { c with dn := true }

theorem updD_same {D : Trip → Option Fnd} {y : Trip} {e : Fnd} : updD D y e y = some e := by simp [updD]
theorem updD_ne {D : Trip → Option Fnd} {y z : Trip} {e : Fnd} (h : z ≠ y) : updD D y e z = D z := by simp [updD, h]

theorem mark_some {D : Trip → Option Fnd} {x : Trip} {c : Fnd} (hx : D x = some c) {y : Trip} {d : Fnd} (h : mark D x c y = some d) : ∃ d', D y = some d' ∧ d.cost = d'.cost ∧ d.arc = d'.arc ∧ d.s = d'.s ∧ d.i = d'.i ∧ d.o = d'.o ∧ (y = x → d.dn = true) ∧ (y ≠ x → d = d') := by
  by_cases e : y = x
  · subst e
    unfold mark at h
    rw [updD_same] at h
    cases h
    exact ⟨c, hx, rfl, rfl, rfl, rfl, rfl, fun _ => rfl, fun h => absurd rfl h⟩
  · unfold mark at h
    rw [updD_ne e] at h
    exact ⟨d, h, rfl, rfl, rfl, rfl, rfl, fun h => absurd h e, fun _ => rfl⟩

theorem mark_of {D : Trip → Option Fnd} {x : Trip} {c : Fnd} (hx : D x = some c) {y : Trip} {d : Fnd} (h : D y = some d) : ∃ d', mark D x c y = some d' ∧ d'.cost = d.cost := by
  by_cases e : y = x
  · subst e
    rw [hx] at h
    cases h
    exact ⟨_, updD_same, rfl⟩
  · exact ⟨d, by unfold mark; rw [updD_ne e]; exact h, rfl⟩

theorem Dj.mark {D : Trip → Option Fnd} {ord : List Trip} {rk : Trip → Nat} {B : Int} (h : Dj F u v D ord rk B (fun _ _ => True)) {x : Trip} {c : Fnd} (hx : D x = some c) (hd : c.dn = false) (hmin : ∀ y d, D y = some d → d.dn = false → c.cost ≤ d.cost) :
    Dj F u v (mark D x c) (ord ++ [x]) (fun z => if z = x then ord.length else rk z) B (fun z _ => z ≠ x) ∧ (∀ z ∈ ord ++ [x], ∀ d, mark D x c z = some d → d.cost ≤ c.cost) := by
  have hxn : x ∉ ord := fun hm => by have := (h.dn x c hx).2 hm; rw [hd] at this; cases this
  have hno : ∀ y d, D y = some d → y ∉ ord → d.dn = false := by
    intro y d hy hn
    cases hdn : d.dn with
    | false => rfl
    | true => exact absurd ((h.dn y d hy).1 hdn) hn
  constructor
  · constructor
    · obtain ⟨c0, h1, h2⟩ := h.start
      obtain ⟨d, h3, h4⟩ := mark_of hx h1
      exact ⟨d, h3, by rw [h4, h2]⟩
    · intro y d hy
      obtain ⟨d', h1, _⟩ := mark_some hx hy
      exact h.rng y d' h1
    · intro y d hy
      obtain ⟨d', h1, h2, _, _, _, _, h3, h4⟩ := mark_some hx hy
      by_cases e : y = x
      · simp [h3 e, e]
      · have := h4 e
        subst this
        rw [h.dn y d h1]
        simp [e]
    · intro y hy
      rcases List.mem_append.1 hy with hy | hy
      · obtain ⟨d, hd⟩ := h.mem y hy
        obtain ⟨d', hd', _⟩ := mark_of hx hd
        exact ⟨d', hd'⟩
      · rw [List.mem_singleton.1 hy]
        exact ⟨_, updD_same⟩
    · intro y d hy
      obtain ⟨d', h1, h2, _⟩ := mark_some hx hy
      rw [h2]
      exact h.cost y d' h1
    · intro z hz cz hcz n y w hq he
      rcases List.mem_append.1 hz with hz | hz
      · obtain ⟨d', h1, h2, _⟩ := mark_some hx hcz
        obtain ⟨d, h3, h4⟩ := h.closed z hz d' h1 n y w trivial he
        obtain ⟨d2, h5, h6⟩ := mark_of hx h3
        exact ⟨d2, h5, by omega⟩
      · exact absurd (List.mem_singleton.1 hz) hq
    · intro z hz cz hcz y d hy hyn
      simp only [List.mem_append, List.mem_singleton, not_or] at hyn
      obtain ⟨d', h1, h2, _⟩ := mark_some hx hcz
      obtain ⟨e', g1, g2, _⟩ := mark_some hx hy
      rw [h2, g2]
      rcases List.mem_append.1 hz with hz | hz
      · exact h.mono z hz d' h1 y e' g1 hyn.1
      · rw [List.mem_singleton.1 hz, hx] at h1
        cases h1
        exact hmin y e' g1 (hno y e' g1 hyn.1)
    · intro y hy
      simp only [List.length_append, List.length_cons, List.length_nil]
      split
      · omega
      · rename_i hne
        rcases List.mem_append.1 hy with hy | hy
        · have := h.rkl y hy; omega
        · exact absurd (List.mem_singleton.1 hy) hne
    · intro y d hy
      obtain ⟨d', h1, h2, h2a, h2b, h2c, h2d, _⟩ := mark_some hx hy
      rcases h.by' y d' h1 with ⟨g1, g2, g3⟩ | ⟨n, z, cz, w, g1, g2, g3, g4, g5, g6, g7, g8, g9⟩
      · exact .inl ⟨g1, by rw [h2, g2], by rw [h2a, g3]⟩
      · obtain ⟨cz', k1, k2⟩ := mark_of hx g6
        have hzx : z ≠ x := fun e => hxn (e ▸ g5)
        refine .inr ⟨n, z, cz', w, by rw [h2a, g1], by rw [h2b, g2], by rw [h2c, g3], by rw [h2d, g4], List.mem_append_left _ g5, k1, g7, by rw [h2, g8, k2], fun hy2 => ?_⟩
        rw [if_neg hzx]
        by_cases e : y = x
        · rw [if_pos e]; exact h.rkl z g5
        · rw [if_neg e]
          rcases List.mem_append.1 hy2 with hy2 | hy2
          · exact g9 hy2
          · exact absurd (List.mem_singleton.1 hy2) e
  · intro z hz d hzd
    obtain ⟨d', h1, h2, _⟩ := mark_some hx hzd
    rw [h2]
    rcases List.mem_append.1 hz with hz | hz
    · exact h.mono z hz d' h1 x c hx hxn
    · rw [List.mem_singleton.1 hz, hx] at h1
      cases h1
      exact Int.le_refl _

/-- One arc of the nearest spot. -/
theorem Dj.step (hF : FOk F) {D : Trip → Option Fnd} {ord : List Trip} {rk : Trip → Nat} {B : Int} {Q : Trip → Nat → Prop} (h : Dj F u v D ord rk B Q) {x : Trip} {c : Fnd} (hx : D x = some c) (hxo : x ∈ ord) (hmax : ∀ z ∈ ord, ∀ d, D z = some d → d.cost ≤ c.cost)
    (hB : c.cost + 1000000000 ≤ B) {k : Nat} {a : Arc} (hk : F.arcs[k]? = some a) (hf : a.f = x.a) :
    Dj F u v (stepD F u v x c.cost D k) ord rk B (fun z n => Q z n ∨ (z = x ∧ n = k)) ∧ stepD F u v x c.cost D k x = some c ∧ (∀ z ∈ ord, ∀ d, stepD F u v x c.cost D k z = some d → d.cost ≤ c.cost) := by
  rcases stepD_cases (u := u) (v := v) (cost := c.cost) (D := D) hk hf with ⟨e, hcl⟩ | ⟨y, w, he, e, hless⟩
  · rw [e]
    refine ⟨⟨h.start, h.rng, h.dn, h.mem, h.cost, ?_, h.mono, h.rkl, h.by'⟩, hx, hmax⟩
    rintro z hz cz hcz n y w (hq | ⟨rfl, rfl⟩) hed
    · exact h.closed z hz cz hcz n y w hq hed
    · rw [hx] at hcz
      cases hcz
      exact hcl y w hed
  · rw [e]
    have hw := he.wt hF
    have hyo : y ∉ ord := by
      intro hy
      obtain ⟨d, hd⟩ := h.mem y hy
      have h1 := hless d hd
      have h2 := hmax y hy d hd
      omega
    have hyx : x ≠ y := fun e => hyo (e ▸ hxo)
    have hord : ∀ z ∈ ord, updD D y ⟨c.cost + w, k, x.a, x.b, x.c, false⟩ z = D z := fun z hz => updD_ne (fun e => hyo (e ▸ hz))
    have hc0 := h.cost x c hx
    refine ⟨⟨?_, ?_, ?_, ?_, ?_, ?_, ?_, h.rkl, ?_⟩, by rw [hord x hxo]; exact hx, fun z hz d hd => hmax z hz d (by rw [← hord z hz]; exact hd)⟩
    · obtain ⟨c0, h1, h2⟩ := h.start
      have : st0 F ≠ y := fun e => by
        have := hless c0 (by rw [← e]; exact h1)
        omega
      exact ⟨c0, by rw [updD_ne this]; exact h1, h2⟩
    · intro z d hz
      by_cases ez : z = y
      · subst ez; exact he.box hF (h.rng x c hx)
      · rw [updD_ne ez] at hz; exact h.rng z d hz
    · intro z d hz
      by_cases ez : z = y
      · subst ez
        rw [updD_same] at hz
        cases hz
        simp [hyo]
      · rw [updD_ne ez] at hz; exact h.dn z d hz
    · intro z hz
      rw [hord z hz]; exact h.mem z hz
    · intro z d hz
      by_cases ez : z = y
      · subst ez
        rw [updD_same] at hz
        cases hz
        simp only
        omega
      · rw [updD_ne ez] at hz; exact h.cost z d hz
    · intro z hz cz hcz n y2 w2 hq hed
      rw [hord z hz] at hcz
      by_cases ey : y2 = y
      · subst ey
        refine ⟨_, updD_same, ?_⟩
        show c.cost + w ≤ cz.cost + w2
        rcases hq with hq | ⟨rfl, rfl⟩
        · obtain ⟨d, h1, h2⟩ := h.closed z hz cz hcz n y2 w2 hq hed
          have := hless d h1
          omega
        · rw [hx] at hcz
          cases hcz
          have := (he.fn hed).2
          omega
      · rw [updD_ne ey]
        rcases hq with hq | ⟨rfl, rfl⟩
        · exact h.closed z hz cz hcz n y2 w2 hq hed
        · exact absurd (he.fn hed).1.symm ey
    · intro z hz cz hcz y2 d hy2 hn
      rw [hord z hz] at hcz
      by_cases ey : y2 = y
      · subst ey
        rw [updD_same] at hy2
        cases hy2
        have := hmax z hz cz hcz
        show cz.cost ≤ c.cost + w
        omega
      · rw [updD_ne ey] at hy2
        exact h.mono z hz cz hcz y2 d hy2 hn
    · intro y2 d hy2
      by_cases ey : y2 = y
      · subst ey
        rw [updD_same] at hy2
        cases hy2
        exact .inr ⟨k, x, c, w, rfl, rfl, rfl, rfl, hxo, by rw [hord x hxo]; exact hx, he, rfl, fun hm => absurd hm hyo⟩
      · rw [updD_ne ey] at hy2
        rcases h.by' y2 d hy2 with g | ⟨n, z, cz, w', g1, g2, g3, g4, g5, g6, g7⟩
        · exact .inl g
        · exact .inr ⟨n, z, cz, w', g1, g2, g3, g4, g5, by rw [hord z g5]; exact g6, g7⟩

end
end Go.Fw

/-
  The way of least cost: rounds, the end.
-/
namespace Go.Fw
open Go

/-- The numbers of the first arcs that go from a state. -/
def numsK (F : TF) (k : Nat) (s : Int) : List Int := ((List.range k).filter fun j => decide ((F.arcs.getD j EK.arc.dflt).f = s)).map Int.ofNat
def numsOf (F : TF) (s : Int) : List Int := numsK F F.arcs.length s

theorem numsK_succ (F : TF) (k : Nat) (s : Int) : numsK F (k + 1) s = numsK F k s ++ if (F.arcs.getD k EK.arc.dflt).f = s then [(k : Int)] else [] := by
  unfold numsK
  rw [List.range_succ, List.filter_append, List.map_append]
  congr 1
  by_cases h : (F.arcs.getD k EK.arc.dflt).f = s
  · rw [if_pos h, List.filter_cons_of_pos (by simpa using h)]
    rfl
  · rw [if_neg h, List.filter_cons_of_neg (by simpa using h)]
    rfl

theorem numsK_mem {F : TF} {k : Nat} {s n : Int} : n ∈ numsK F k s ↔ ∃ j : Nat, n = j ∧ j < k ∧ (F.arcs.getD j EK.arc.dflt).f = s := by
  unfold numsK
  simp only [List.mem_map, List.mem_filter, List.mem_range, decide_eq_true_eq]
  constructor
  · rintro ⟨j, ⟨h1, h2⟩, rfl⟩; exact ⟨j, rfl, h1, h2⟩
  · rintro ⟨j, rfl, h1, h2⟩; exact ⟨j, ⟨h1, h2⟩, rfl⟩

theorem numsK_len (F : TF) (k : Nat) (s : Int) : (numsK F k s).length ≤ k := by
  unfold numsK
  rw [List.length_map]
  exact Nat.le_trans (List.length_filter_le _ _) (by rw [List.length_range]; exact Nat.le_refl _)

section
variable {F : TF} {u v : List Int}

theorem Dj.weak {D : Trip → Option Fnd} {ord : List Trip} {rk : Trip → Nat} {B B' : Int} {Q Q' : Trip → Nat → Prop} (h : Dj F u v D ord rk B Q) (hB : B ≤ B') (hQ : ∀ z ∈ ord, ∀ n y w, Edge F u v z n y w → Q' z n → Q z n) : Dj F u v D ord rk B' Q' :=
  ⟨h.start, h.rng, h.dn, h.mem, fun y d hy => ⟨(h.cost y d hy).1, Int.le_trans (h.cost y d hy).2 hB⟩, fun z hz c hc n y w hq he => h.closed z hz c hc n y w (hQ z hz n y w he hq) he, h.mono, h.rkl, h.by'⟩

theorem Dj.on (hF : FOk F) {x : Trip} {c : Fnd} {ord : List Trip} {rk : Trip → Nat} {B : Int} (hxo : x ∈ ord) (hB : c.cost + 1000000000 ≤ B) : ∀ (ns : List Int) (D : Trip → Option Fnd) (Q : Trip → Nat → Prop), Dj F u v D ord rk B Q → D x = some c → (∀ z ∈ ord, ∀ d, D z = some d → d.cost ≤ c.cost) →
    (∀ n ∈ ns, ∃ j : Nat, n = j ∧ j < F.arcs.length ∧ (F.arcs.getD j EK.arc.dflt).f = x.a) →
    Dj F u v (onD F u v x c.cost D ns) ord rk B (fun z n => Q z n ∨ (z = x ∧ (n : Int) ∈ ns)) ∧ onD F u v x c.cost D ns x = some c
  | [], D, Q, h, hx, hmax, _ => ⟨h.weak (Int.le_refl _) (fun z _ n y w _ hq => by rcases hq with hq | ⟨_, hq⟩; exact hq; cases hq), hx⟩
  | n :: ns, D, Q, h, hx, hmax, hn => by
    obtain ⟨j, rfl, h1, h2⟩ := hn n (List.mem_cons_self ..)
    have hk : F.arcs[j]? = some (F.arcs.getD j EK.arc.dflt) := by simp [List.getD, h1]
    obtain ⟨g1, g2, g3⟩ := h.step hF hx hxo hmax hB hk h2
    obtain ⟨g4, g5⟩ := Dj.on hF hxo hB ns _ _ g1 g2 g3 (fun n hn' => hn n (List.mem_cons_of_mem _ hn'))
    refine ⟨g4.weak (Int.le_refl _) (fun z _ n y w _ hq => ?_), g5⟩
    rcases hq with hq | ⟨hz, hq⟩
    · exact .inl (.inl hq)
    · rcases List.mem_cons.1 hq with hq | hq
      · exact .inl (.inr ⟨hz, by omega⟩)
      · exact .inr ⟨hz, hq⟩

/-- A round. -/
theorem Dj.round (hF : FOk F) {D : Trip → Option Fnd} {ord : List Trip} {rk : Trip → Nat} {B B' : Int} (h : Dj F u v D ord rk B (fun _ _ => True)) {x : Trip} {c : Fnd} (hx : D x = some c) (hd : c.dn = false) (hmin : ∀ y d, D y = some d → d.dn = false → c.cost ≤ d.cost)
    (hB1 : B ≤ B') (hB : c.cost + 1000000000 ≤ B') : ∃ rk', Dj F u v (onD F u v x c.cost (Fw.mark D x c) (numsOf F x.a)) (ord ++ [x]) rk' B' (fun _ _ => True) := by
  obtain ⟨h1, h2⟩ := h.mark hx hd hmin
  have h1' := h1.weak (Q' := fun z _ => z ≠ x) hB1 (fun _ _ _ _ _ _ h => h)
  have := Dj.on hF (c := { c with dn := true }) (List.mem_append_right ord (List.mem_singleton.2 rfl)) hB (numsOf F x.a) _ _ h1' updD_same h2 (fun n hn => numsK_mem.1 hn)
  refine ⟨_, this.1.weak (Int.le_refl _) (fun z hz n y w he _ => ?_)⟩
  by_cases e : z = x
  · subst e
    refine .inr ⟨rfl, ?_⟩
    obtain ⟨a, g1, g2, _⟩ := he
    have := (List.getElem?_eq_some_iff.1 g1).1
    exact numsK_mem.2 ⟨n, rfl, this, by simp [List.getD, g1, g2]⟩
  · exact .inl e

def D0 (F : TF) : Trip → Option Fnd := updD (fun _ => none) (st0 F) ⟨0, -1, 0, 0, 0, false⟩

theorem Dj.zero (hF : FOk F) : Dj F u v (D0 F) [] (fun _ => 0) 0 (fun _ _ => True) := by
  have hs := hF.start
  have key : ∀ y d, D0 F y = some d → y = st0 F ∧ d = ⟨0, -1, 0, 0, 0, false⟩ := by
    intro y d h
    unfold D0 updD at h
    split at h
    · rename_i e; cases h; exact ⟨e, rfl⟩
    · cases h
  refine ⟨⟨_, updD_same, rfl⟩, ?_, ?_, ?_, ?_, ?_, ?_, ?_, ?_⟩
  · intro y d h
    obtain ⟨rfl, rfl⟩ := key y d h
    refine ⟨hs, ⟨Int.le_refl _, ?_⟩, ⟨Int.le_refl _, ?_⟩⟩ <;> (simp only [st0]; omega)
  · intro y d h
    obtain ⟨rfl, rfl⟩ := key y d h
    simp
  · intro y h; cases h
  · intro y d h
    obtain ⟨rfl, rfl⟩ := key y d h
    exact ⟨Int.le_refl _, Int.le_refl _⟩
  · intro z h; cases h
  · intro z h; cases h
  · intro z h; cases h
  · intro y d h
    obtain ⟨rfl, rfl⟩ := key y d h
    exact .inl ⟨rfl, rfl, rfl⟩

/-- A way of some cost. -/
inductive Reach (F : TF) (u v : List Int) (S : Trip → Int → Prop) : Int → Trip → Prop
  | here {x : Trip} {c : Int} (h : S x c) : Reach F u v S c x
  | on {x y : Trip} {c w : Int} {n : Nat} (h : Reach F u v S c x) (he : Edge F u v x n y w) : Reach F u v S (c + w) y

structure IsLeast (F : TF) (u v : List Int) (S : Trip → Int → Prop) (A : Trip → Option Int) : Prop where
  path : ∀ y c, A y = some c → Reach F u v S c y
  least : ∀ c y, Reach F u v S c y → ∃ c', A y = some c' ∧ c' ≤ c

theorem IsLeast.eq {S : Trip → Int → Prop} {A B : Trip → Option Int} (hA : IsLeast F u v S A) (hB : IsLeast F u v S B) : A = B := by
  funext y
  cases ha : A y with
  | none =>
    cases hb : B y with
    | none => rfl
    | some c =>
      obtain ⟨c', h, _⟩ := hA.least _ _ (hB.path y c hb)
      rw [ha] at h
      cases h
  | some c =>
    obtain ⟨c1, h1, h2⟩ := hB.least _ _ (hA.path y c ha)
    obtain ⟨c2, h3, h4⟩ := hA.least _ _ (hB.path y c1 h1)
    rw [ha] at h3
    cases h3
    rw [h1]
    congr 1
    omega

/-- From the start, for nothing. -/
def fromSt (F : TF) : Trip → Int → Prop := fun x c => x = st0 F ∧ c = 0

/-- What came at the end. -/
theorem Dj.least {D : Trip → Option Fnd} {ord : List Trip} {rk : Trip → Nat} {B : Int} (h : Dj F u v D ord rk B (fun _ _ => True)) (hall : ∀ y d, D y = some d → d.dn = true) : IsLeast F u v (fromSt F) (fun y => (D y).map (·.cost)) := by
  have hm : ∀ y d, D y = some d → y ∈ ord := fun y d hy => (h.dn y d hy).1 (hall y d hy)
  constructor
  · have : ∀ (k : Nat) (y : Trip) (d : Fnd), rk y < k → D y = some d → Reach F u v (fromSt F) d.cost y := by
      intro k
      induction k with
      | zero => intro y d hk; omega
      | succ k ih =>
        intro y d hk hy
        rcases h.by' y d hy with ⟨g1, g2, _⟩ | ⟨n, z, cz, w, _, _, _, _, g5, g6, g7, g8, g9⟩
        · exact .here ⟨g1, g2⟩
        · rw [g8]
          exact .on (ih z cz (by have := g9 (hm y d hy); omega) g6) g7
    intro y c hy
    obtain ⟨d, hd, rfl⟩ := Option.map_eq_some_iff.1 hy
    exact this (rk y + 1) y d (Nat.lt_succ_self _) hd
  · intro c y hr
    induction hr with
    | here hs =>
      obtain ⟨rfl, rfl⟩ := hs
      obtain ⟨c0, h1, h2⟩ := h.start
      exact ⟨c0.cost, by simp [h1], by omega⟩
    | on hr he ih =>
      obtain ⟨c', h1, h2⟩ := ih
      obtain ⟨d, h3, rfl⟩ := Option.map_eq_some_iff.1 h1
      obtain ⟨e, h4, h5⟩ := h.closed _ (hm _ d h3) d h3 _ _ _ trivial he
      exact ⟨e.cost, by simp [h4], by omega⟩
end
end Go.Fw

namespace Go.Fw
open Go Go.Proofs

/-- All spots there may be. -/
def allSpots (F : TF) (u v : List Int) : List Trip := (List.range F.st.toNat).flatMap fun (s : Nat) => (List.range (u.length + 1)).flatMap fun (i : Nat) => (List.range (v.length + 1)).map fun (o : Nat) => (⟨(s : Int), (i : Int), (o : Int)⟩ : Trip)

theorem length_flatMap_const {α β : Type} {f : α → List β} {n : Nat} : ∀ {l : List α}, (∀ x ∈ l, (f x).length = n) → (l.flatMap f).length = l.length * n
  | [], _ => by simp
  | x :: l, h => by
    rw [List.flatMap_cons, List.length_append, h x (List.mem_cons_self ..), length_flatMap_const (fun y hy => h y (List.mem_cons_of_mem _ hy)), List.length_cons, Nat.add_mul]
    omega

theorem allSpots_len (F : TF) (u v : List Int) : (allSpots F u v).length = F.st.toNat * ((u.length + 1) * (v.length + 1)) := by
  unfold allSpots
  rw [length_flatMap_const (n := (u.length + 1) * (v.length + 1)), List.length_range]
  intro s _
  rw [length_flatMap_const (n := v.length + 1), List.length_range]
  intro i _
  simp

theorem allSpots_le {F : TF} {u v : List Int} (hF : FOk F) (hu : u.length ≤ 40) (hv : v.length ≤ 40) : (allSpots F u v).length ≤ 336200 := by
  rw [allSpots_len]
  have h1 : F.st.toNat ≤ 200 := by have := hF.st; omega
  have h2 : (u.length + 1) * (v.length + 1) ≤ 41 * 41 := Nat.mul_le_mul (by omega) (by omega)
  exact Nat.le_trans (Nat.mul_le_mul h1 h2) (by decide)

theorem allSpots_mem {F : TF} {u v : List Int} {x : Trip} (h : InBox F u v x) : x ∈ allSpots F u v := by
  obtain ⟨⟨h1, h2⟩, ⟨h3, h4⟩, ⟨h5, h6⟩⟩ := h
  unfold allSpots
  simp only [List.mem_flatMap, List.mem_map, List.mem_range]
  refine ⟨x.a.toNat, by omega, x.b.toNat, by omega, x.c.toNat, by omega, ?_⟩
  obtain ⟨a, b, c⟩ := x
  simp only at *
  congr 1 <;> omega

/-- How many spots are not done. -/
def und (F : TF) (u v : List Int) (ord : List Trip) : Nat := ((allSpots F u v).filter fun x => decide (x ∉ ord)).length

theorem und_lt {F : TF} {u v : List Int} {ord : List Trip} {x : Trip} (hx : x ∈ allSpots F u v) (hn : x ∉ ord) : und F u v (ord ++ [x]) < und F u v ord := by
  unfold und
  have h : ((allSpots F u v).filter fun y => decide (y ∉ ord ++ [x])) = ((allSpots F u v).filter fun y => decide (y ∉ ord)).filter fun y => decide (y ≠ x) := by
    rw [List.filter_filter]
    congr 1
    funext c
    by_cases h1 : c ∈ ord <;> by_cases h2 : c = x <;> simp [h1, h2]
  rw [h]
  refine Nat.lt_of_le_of_ne (List.length_filter_le _ _) (fun c => ?_)
  have := (List.length_filter_eq_length_iff.1 c) x (List.mem_filter.2 ⟨hx, by simpa using hn⟩)
  simp at this

theorem und_le (F : TF) (u v : List Int) (ord : List Trip) : und F u v ord ≤ (allSpots F u v).length := List.length_filter_le _ _

/-- The rows hold the numbers of the arcs. -/
structure RowsOk (F : TF) (rows : List Sli) (pi : List (Addr × List Int × Nat)) : Prop where
  len : rows.length = F.st.toNat
  row : ∀ s : Nat, s < F.st.toNat → (rows.getD s EK.sli.dflt).n = (numsOf F s).length ∧ rowA pi (rows.getD s EK.sli.dflt).a = numsOf F s

section
variable {es : List (Trip × Option Addr × Nat)} {clk : Nat} {pf : List (Addr × List Fnd × Nat)}

theorem lkA_put {a : Addr} {f e : Fnd} (h : lkA pf a = some ([f], 0)) (b : Addr) : lkA (putA pf (some a) 0 e) b = if b = a then some ([e], 0) else lkA pf b := by
  simp only [putA, h, List.set_cons_zero]
  rw [lkA_setA]
  by_cases hb : b = a
  · subst hb; simp [h]
  · simp only [hb, if_false]
    cases lkA pf b <;> rfl

theorem MetOk.put (hm : MetOk es clk pf) {x : Trip} {a : Addr} {n : Nat} {f e : Fnd} (hx : (x, some a, n) ∈ es) (ha : lkA pf a = some ([f], 0)) :
    MetOk es clk (putA pf (some a) 0 e) ∧ metOf es (putA pf (some a) 0 e) = updD (metOf es pf) x e ∧ lkA (putA pf (some a) 0 e) a = some ([e], 0) := by
  refine ⟨⟨hm.born, hm.keys, hm.adrs, ?_⟩, ?_, by rw [lkA_put ha, if_pos rfl]⟩
  · intro c hc
    obtain ⟨b, g, h1, h2⟩ := hm.row c hc
    refine ⟨b, ?_⟩
    rw [lkA_put ha]
    by_cases hb : b = a
    · exact ⟨e, h1, by rw [if_pos hb]⟩
    · exact ⟨g, h1, by rw [if_neg hb]; exact h2⟩
  · funext z
    show (lkM es z).bind _ = updD (metOf es pf) x e z
    unfold updD
    by_cases hz : z = x
    · subst hz
      rw [if_pos rfl, show lkM es z = some (some a) from lkM_mem hm.keys hx]
      simp [rowA, lkA_put ha]
    · rw [if_neg hz]
      show _ = (lkM es z).bind _
      cases hl : lkM es z with
      | none => rfl
      | some oa =>
        obtain ⟨m, hm2⟩ := lkM_some hl
        have hne : oa ≠ some a := by
          intro c
          subst c
          have : (z, some a, m) = (x, some a, n) := by
            have hnd := hm.adrs
            have h1 := List.getElem_of_mem hx
            have h2 := List.getElem_of_mem hm2
            obtain ⟨i, hi, e1⟩ := h1
            obtain ⟨j, hj, e2⟩ := h2
            have : i = j := by
              refine (List.getElem_inj (h₀ := by simpa using hi) (h₁ := by simpa using hj) hnd).1 ?_
              simp [e1, e2]
            subst this
            rw [← e1, ← e2]
          exact hz (congrArg (·.1) this)
        cases oa with
        | none => rfl
        | some b =>
          have hb : b ≠ a := fun c => hne (by rw [c])
          simp only [Option.bind_some, rowA, lkA_put ha, if_neg hb]

theorem MetOk.all (hm : MetOk es clk pf) {best : Trip} (h : Nst es pf (es.map (·.2.2)) best false) : ∀ y d, metOf es pf y = some d → d.dn = true := by
  intro y d hy
  obtain ⟨a, n, h1, _⟩ := hm.of hy
  rcases h with ⟨_, h⟩ | ⟨h, _⟩
  · exact h _ h1 (List.mem_map_of_mem (f := fun e : Trip × Option Addr × Nat => e.2.2) h1) d hy
  · cases h

theorem MetOk.near (hm : MetOk es clk pf) {best : Trip} (h : Nst es pf (es.map (·.2.2)) best true) : ∃ c, metOf es pf best = some c ∧ c.dn = false ∧ ∀ y d, metOf es pf y = some d → d.dn = false → c.cost ≤ d.cost := by
  rcases h with ⟨h, _⟩ | ⟨_, c, h1, h2, h3⟩
  · cases h
  · refine ⟨c, h1, h2, fun y d hy hd => ?_⟩
    obtain ⟨a, n, g1, _⟩ := hm.of hy
    exact h3 _ g1 (List.mem_map_of_mem (f := fun e : Trip × Option Addr × Nat => e.2.2) g1) d hy hd
end

theorem MetOk.zero (F : TF) {a : Addr} : MetOk [(st0 F, some a, 0)] 1 [(a, [⟨0, -1, 0, 0, 0, false⟩], 0)] ∧ metOf [(st0 F, some a, 0)] [(a, [⟨0, -1, 0, 0, 0, false⟩], 0)] = D0 F := by
  constructor
  · exact ⟨⟨by simp, by simp⟩, by simp, by simp, by simp [lkA]⟩
  · funext z
    unfold metOf D0 updD
    by_cases h : z = st0 F
    · simp [lkM, rowA, lkA, h]
    · simp [lkM, h, Ne.symm h]

end Go.Fw

namespace Go.Fw
open Go Go.Proofs

/-- The walker between makeMap and the end: 7 what the map holds, 8 the map. -/
abbrev hpR (W : Wk) (es : List (Trip × Option Addr × Nat)) (clk : Nat) (pf : List (Addr × List Fnd × Nat)) : List (Nat × SO) := [(0, .box 58 [.i W.F.st, .i W.F.start, .sl 1 1 0 W.F.fin.length W.F.capF, .sl 2 5 0 W.F.arcs.length W.F.capA, .sl 3 1 0 W.u.length W.cu, .sl 4 1 0 W.v.length W.cv, .sl 5 1 0 W.rows.length W.rows.length, .mp 8]), (1, .arr false 3 .int W.F.fin 0), (2, .arr false 35 .arc W.F.arcs 0), (3, .arr false 3 .int W.u 0), (4, .arr false 3 .int W.v 0),
  (5, .arr true 22 .sli W.rows 0), (6, .pool 3 .int W.pi), (7, .pool 60 .fnd pf), (8, .map .trip .adr es clk)]
abbrev hpS (W : Wk) : List (Nat × SO) := [(0, .box 58 [.i W.F.st, .i W.F.start, .sl 1 1 0 W.F.fin.length W.F.capF, .sl 2 5 0 W.F.arcs.length W.F.capA, .sl 3 1 0 W.u.length W.cu, .sl 4 1 0 W.v.length W.cv, .sl 5 1 0 W.rows.length W.rows.length, .v (.map none)]), (1, .arr false 3 .int W.F.fin 0), (2, .arr false 35 .arc W.F.arcs 0), (3, .arr false 3 .int W.u 0), (4, .arr false 3 .int W.v 0),
  (5, .arr true 22 .sli W.rows 0), (6, .pool 3 .int W.pi), (7, .pool 60 .fnd [])]

/-- Between the rounds. -/
def RInv (W : Wk) (y : List (Trip × Option Addr × Nat) × Nat × List (Addr × List Fnd × Nat) × List Trip) : Prop :=
  MetOk y.1 y.2.1 y.2.2.1 ∧ y.2.2.2.length + und W.F W.u W.v y.2.2.2 ≤ (allSpots W.F W.u W.v).length ∧ ∃ rk, Dj W.F W.u W.v (metOf y.1 y.2.2.1) y.2.2.2 rk (1000000000 * (((allSpots W.F W.u W.v).length : Int) - und W.F W.u W.v y.2.2.2)) (fun _ _ => True)

/-- What the walker holds at the end. -/
def Ran (W : Wk) (es : List (Trip × Option Addr × Nat)) (clk : Nat) (pf : List (Addr × List Fnd × Nat)) : Prop :=
  MetOk es clk pf ∧ ∃ ord rk B, ord.length ≤ 336200 ∧ Dj W.F W.u W.v (metOf es pf) ord rk B (fun _ _ => True) ∧ B ≤ 1000000000000000 ∧ ∀ y d, metOf es pf y = some d → d.dn = true

theorem nearest_l (W : Wk) {es : List (Trip × Option Addr × Nat)} {clk : Nat} {pf : List (Addr × List Fnd × Nat)} (hm : MetOk es clk pf) : Ct Tryd.prog 61 [.c (.ptr 0 0)] [] (hpL W es clk pf) 9 (fun v s => ∃ best any, v = .tup [.agg [.i best.a, .i best.b, .i best.c], .c (.b any)] ∧ s = ⟨[], [(0, .box 58 [.i W.F.st, .i W.F.start, .sl 1 1 0 W.F.fin.length W.F.capF, .sl 2 5 0 W.F.arcs.length W.F.capA, .sl 3 1 0 W.u.length W.cu, .sl 4 1 0 W.v.length W.cv, .sl 5 1 0 W.rows.length W.rows.length, .mp 7]), (5, .arr true 22 .sli W.rows 0), (6, .pool 3 .int W.pi), (7, .map .trip .adr es clk), (8, .pool 60 .fnd pf)], 9⟩ ∧ Nst es pf (es.map (·.2.2)) best any) :=
  nearest_c { W with es := es, clk := clk, pf := pf } hm

theorem on_l (W : Wk) {es : List (Trip × Option Addr × Nat)} {clk : Nat} {pf : List (Addr × List Fnd × Nat)} (hF : FOk W.F) (hu : W.u.length ≤ 40) (hv : W.v.length ≤ 40) (hr : RowsOk W.F W.rows W.pi) (x : Trip) (a : Addr) (c : Fnd) (hm : MetOk es clk pf) (ha : lkA pf a = some ([c], 0)) (hc : 0 ≤ c.cost ∧ c.cost ≤ 1000000000000000000) (hx : InBox W.F W.u W.v x) :
    Ct Tryd.prog 62 [.c (.ptr 0 0), SV.a (SA.agg [SC.i (Trip.a x), SC.i (Trip.b x), SC.i (Trip.c x)]), .c (.q (some a))] [] (hpL W es clk pf) 9 (fun v s => ∃ es' clk' pf', v = .tup [] ∧ s = ⟨[], [(0, .box 58 [.i W.F.st, .i W.F.start, .sl 1 1 0 W.F.fin.length W.F.capF, .sl 2 5 0 W.F.arcs.length W.F.capA, .sl 3 1 0 W.u.length W.cu, .sl 4 1 0 W.v.length W.cv, .sl 5 1 0 W.rows.length W.rows.length, .mp 7]), (5, .arr true 22 .sli W.rows 0), (6, .pool 3 .int W.pi), (7, .map .trip .adr es' clk'), (8, .pool 60 .fnd pf')], 9⟩ ∧ MetOk es' clk' pf' ∧ lkA pf' a = some ([c], 0) ∧ metOf es' pf' = onD W.F W.u W.v x c.cost (metOf es pf) (numsOf W.F x.a)) := by
  obtain ⟨⟨h1, h2⟩, h3, h4⟩ := hx
  have hst := hF.st
  have hlen := hr.len
  have hal := hF.arcl
  have hrow := hr.row x.a.toNat (by omega)
  rw [Int.toNat_of_nonneg h1] at hrow
  have hnl : (numsOf W.F x.a).length ≤ W.F.arcs.length := numsK_len W.F W.F.arcs.length x.a
  exact on_c' { W with es := es, clk := clk, pf := pf } hF hu hv x a c hm ha hc (by show 0 ≤ x.a ∧ x.a < W.rows.length; omega) h3 h4 _ rfl (numsOf W.F x.a) hrow.2 hrow.1 (by omega) (fun n hn => by
    obtain ⟨j, rfl, g1, g2⟩ := numsK_mem.1 hn
    exact ⟨by omega, by show (j : Int) < (W.F.arcs.length : Int); omega⟩)

set_option maxHeartbeats 4000000 in
set_option maxRecDepth 20000 in
theorem run_c (W : Wk) (hF : FOk W.F) (hu : W.u.length ≤ 40) (hv : W.v.length ≤ 40) (hr : RowsOk W.F W.rows W.pi) :
    Ct Tryd.prog 46 [.c (.ptr 0 0)] [] (hpS W) 8 (fun v s => ∃ es clk pf, v = .tup [] ∧ s = ⟨[], [(0, .box 58 [.i W.F.st, .i W.F.start, .sl 1 1 0 W.F.fin.length W.F.capF, .sl 2 5 0 W.F.arcs.length W.F.capA, .sl 3 1 0 W.u.length W.cu, .sl 4 1 0 W.v.length W.cv, .sl 5 1 0 W.rows.length W.rows.length, .mp 8]), (5, .arr true 22 .sli W.rows 0), (6, .pool 3 .int W.pi), (7, .pool 60 .fnd pf), (8, .map .trip .adr es clk)], 9⟩ ∧ Ran W es clk pf) := by
  have hsp := allSpots_le hF hu hv
  have hst := hF.st
  have hlen := hr.len
  have hal := hF.arcl
  refine ctW Tryd.tyOk 5 [] Tryd.func46 rfl (by simp) (by simp) (fr := [(0, .c (.ptr 0 0))]) rfl ?_
  repeat' (first | exact rfl | ((conv => whnf); first | (refine qX (fun h => ?_) fun h => ?_ <;> try exact absurd h (by omega)) | refine oN ?_ | refine oM ?_ ?_ | refine bM ?_ ?_ | refine dR ?_))
  (conv => whnf)
  intro a0 ha0 hb0
  repeat' (first | exact rfl | ((conv => whnf); first | (refine qX (fun h => ?_) fun h => ?_ <;> try exact absurd h (by omega)) | refine oN ?_ | refine oM ?_ ?_ | refine bM ?_ ?_ | refine dR ?_))
  (conv => whnf)
  have hz := MetOk.zero W.F (a := a0)
  refine loopI (fun y : List (Trip × Option Addr × Nat) × Nat × List (Addr × List Fnd × Nat) × List Trip => ⟨[(0, .c (.ptr 0 0))], hpR W y.1 y.2.1 y.2.2.1, 9⟩) (RInv W) (fun y => und W.F W.u W.v y.2.2.2) ([(st0 W.F, some a0, 0)], 1, [(a0, [⟨0, -1, 0, 0, 0, false⟩], 0)], []) [] ⟨by rfl, ?_, ?_⟩ ⟨hz.1, by simp only [List.length_nil, Nat.zero_add]; exact und_le _ _ _ _, fun _ => 0, ?_⟩ ?_
  · simp
  · simp
    exact ⟨rfl, rfl⟩
  · simp only
    rw [hz.2]
    refine (Dj.zero hF).weak ?_ (fun _ _ _ _ _ _ h => h)
    have := und_le W.F W.u W.v []
    omega
  · rintro ⟨es, clk, pf, ord⟩ ⟨hm, hol, rk, hD⟩
    simp only at hm hol hD ⊢
    (conv => whnf)
    refine cF (nearest_l W hm) [0, 1, 2, 3, 4, 5, 6, 8, 7] Tryd.call61 ?_
    rintro _ _ ⟨⟨b1, b2, b3⟩, any, rfl, rfl, hN⟩
    simp only at hN ⊢
    cases any with
    | false =>
      have hall := hm.all hN
      repeat' (first | exact rfl | ((conv => whnf); first | (refine qX (fun h => ?_) fun h => ?_ <;> try exact absurd h (by omega)) | refine oN ?_ | refine oM ?_ ?_ | refine bM ?_ ?_ | refine dR ?_))
      (conv => whnf)
      exact ⟨[], [(0, .box 58 [.i W.F.st, .i W.F.start, .sl 1 1 0 W.F.fin.length W.F.capF, .sl 2 5 0 W.F.arcs.length W.F.capA, .sl 3 1 0 W.u.length W.cu, .sl 4 1 0 W.v.length W.cv, .sl 5 1 0 W.rows.length W.rows.length, .mp 8]), (5, .arr true 22 .sli W.rows 0), (6, .pool 3 .int W.pi), (7, .pool 60 .fnd pf), (8, .map .trip .adr es clk)], 9, .tup [], ⟨by rfl, trivial, by simp⟩, by simp, es, clk, pf, rfl, rfl, hm, ord, rk, _, by omega, hD, by omega, hall⟩
    | true =>
      obtain ⟨c, hc, hcd, hmin⟩ := hm.near hN
      obtain ⟨a, n, r1, r2, r3, r4⟩ := hm.of hc
      have e1 : (@lkM EK.trip.ty EK.adr.ty (EK.instDeq .trip) es (⟨b1, b2, b3⟩ : Trip)).getD EK.adr.dflt = some a := congrArg (fun x => Option.getD x none) r3
      have ec : (rowA pf (some a)).getD 0 EK.fnd.dflt = c := by rw [r4]; rfl
      obtain ⟨p1, p2, p3⟩ := hm.put (e := { c with dn := true }) r1 r2
      have hcc := hD.cost _ _ hc
      have hbox := hD.rng _ _ hc
      have hxo : (⟨b1, b2, b3⟩ : Trip) ∉ ord := fun hmm => by have := (hD.dn _ _ hc).2 hmm; rw [hcd] at this; cases this
      have hul := und_lt (allSpots_mem hbox) hxo
      have hule := und_le W.F W.u W.v ord
      repeat' (first | exact rfl | ((conv => whnf); first | (refine qX (fun h => ?_) fun h => ?_ <;> try exact absurd h (by omega)) | refine oN ?_ | refine oM ?_ ?_ | refine bM ?_ ?_ | refine dR ?_))
      · rw [e1]; rfl
      · rw [e1, r4]; exact Nat.one_pos
      · rw [e1, r4]; exact Nat.one_pos
      (conv => whnf)
      rw [e1, ec]
      have hon := on_l W hF hu hv hr ⟨b1, b2, b3⟩ a { c with dn := true } p1 p3 (by simp only; omega) hbox
      refine cF (hon) [0, 1, 2, 3, 4, 5, 6, 8, 7] Tryd.call62 ?_
      rintro _ _ ⟨es2, clk2, pf2, rfl, rfl, q1, q2, q3⟩
      (conv => whnf)
      rw [p2] at q3
      obtain ⟨rk2, hD2⟩ := hD.round hF (B' := 1000000000 * (((allSpots W.F W.u W.v).length : Int) - und W.F W.u W.v (ord ++ [⟨b1, b2, b3⟩]))) hc hcd hmin (by omega) (by omega)
      refine ⟨(es2, clk2, pf2, ord ++ [⟨b1, b2, b3⟩]), [], ⟨by rfl, ?_, ?_⟩, ⟨q1, by simp only [List.length_append, List.length_cons, List.length_nil]; omega, rk2, ?_⟩, hul⟩
      · simp
      · simp
      · rw [q3]
        exact hD2
end Go.Fw

namespace Go.Fw
open Go Go.Proofs

/-- The best end so far. -/
def endF (D : Trip → Option Int) (fin : List Int) (p q : Int) : Nat → Trip × Int
  | 0 => (⟨0, 0, 0⟩, -1)
  | k + 1 => match D ⟨k, p, q⟩ with
    | none => endF D fin p q k
    | some d => if fin.getD k 0 ≠ -1 ∧ ((endF D fin p q k).2 = -1 ∨ d + fin.getD k 0 < (endF D fin p q k).2) then (⟨k, p, q⟩, d + fin.getD k 0) else endF D fin p q k

theorem endF_none {D : Trip → Option Int} {fin : List Int} {p q : Int} {k : Nat} (h : D ⟨k, p, q⟩ = none) : endF D fin p q (k + 1) = endF D fin p q k := by simp [endF, h]
theorem endF_yes {D : Trip → Option Int} {fin : List Int} {p q : Int} {k : Nat} {d : Int} (h : D ⟨k, p, q⟩ = some d) (h1 : fin.getD k 0 ≠ -1) (h2 : (endF D fin p q k).2 = -1 ∨ d + fin.getD k 0 < (endF D fin p q k).2) : endF D fin p q (k + 1) = (⟨k, p, q⟩, d + fin.getD k 0) := by
  simp only [endF, h]
  exact if_pos ⟨h1, h2⟩
theorem endF_no {D : Trip → Option Int} {fin : List Int} {p q : Int} {k : Nat} {d : Int} (h : D ⟨k, p, q⟩ = some d) (h2 : fin.getD k 0 = -1 ∨ ((endF D fin p q k).2 ≠ -1 ∧ ¬ d + fin.getD k 0 < (endF D fin p q k).2)) : endF D fin p q (k + 1) = endF D fin p q k := by
  simp only [endF, h]
  refine if_neg (fun c => ?_)
  rcases h2 with h2 | h2
  · exact c.1 h2
  · rcases c.2 with c | c
    · exact h2.1 c
    · exact h2.2 c

/-- The costs alone. -/
abbrev costOf (es : List (Trip × Option Addr × Nat)) (pf : List (Addr × List Fnd × Nat)) : Trip → Option Int := fun y => (metOf es pf y).map (·.cost)

set_option maxHeartbeats 4000000 in
set_option maxRecDepth 20000 in
theorem end_c (W : Wk) (hF : FOk W.F) (hu : W.u.length ≤ 40) (hv : W.v.length ≤ 40) (es : List (Trip × Option Addr × Nat)) (clk : Nat) (pf : List (Addr × List Fnd × Nat)) (hm : MetOk es clk pf) (hb : ∀ y d, metOf es pf y = some d → 0 ≤ d.cost ∧ d.cost ≤ 1000000000000000) :
    Ct Tryd.prog 47 [.c (.ptr 0 0)] [] (hpL W es clk pf) 9 (fun v s => v = .tup [.agg [.i (endF (costOf es pf) W.F.fin W.u.length W.v.length W.F.fin.length).1.a, .i (endF (costOf es pf) W.F.fin W.u.length W.v.length W.F.fin.length).1.b, .i (endF (costOf es pf) W.F.fin W.u.length W.v.length W.F.fin.length).1.c], .c (.i (endF (costOf es pf) W.F.fin W.u.length W.v.length W.F.fin.length).2)] ∧
      s = ⟨[], [(0, .box 58 [.i W.F.st, .i W.F.start, .sl 1 1 0 W.F.fin.length W.F.capF, .sl 2 5 0 W.F.arcs.length W.F.capA, .sl 3 1 0 W.u.length W.cu, .sl 4 1 0 W.v.length W.cv, .sl 5 1 0 W.rows.length W.rows.length, .mp 7]), (5, .arr true 22 .sli W.rows 0), (6, .pool 3 .int W.pi), (7, .map .trip .adr es clk), (8, .pool 60 .fnd pf)], 9⟩) := by
  have hst := hF.st
  have hfl := hF.finl
  have hD : ∀ y d, costOf es pf y = some d → 0 ≤ d ∧ d ≤ 1000000000000000 := by
    intro y d h
    obtain ⟨e, h1, rfl⟩ := Option.map_eq_some_iff.1 h
    exact hb y e h1
  generalize hDD : costOf es pf = D at *
  refine ctW Tryd.tyOk 11 [16, 17, 18] Tryd.func47 rfl (by simp) (by simp) (fr := [(0, .c (.ptr 0 0))]) rfl ?_
  repeat' (first | exact rfl | ((conv => whnf); first | (refine qX (fun h => ?_) fun h => ?_ <;> try exact absurd h (by omega)) | refine oN ?_ | refine oM ?_ ?_ | refine bM ?_ ?_ | refine dR ?_))
  (conv => whnf)
  refine loopI (fun k : Nat => ⟨[(0, .c (.ptr 0 0)), (2, .c (.ptr 9 0)), (4, .c (.ptr 10 0)), (5, .i (endF D W.F.fin W.u.length W.v.length k).2), (16, .c (.sl 1 1 0 W.F.fin.length W.F.capF)), (17, .i W.F.fin.length), (18, .i k)], (9, .box 51 [.i 0, .i 0, .i 0]) :: (10, .box 51 [.i (endF D W.F.fin W.u.length W.v.length k).1.a, .i (endF D W.F.fin W.u.length W.v.length k).1.b, .i (endF D W.F.fin W.u.length W.v.length k).1.c]) :: hpL W es clk pf, 11⟩)
    (fun k => k ≤ W.F.fin.length) (fun k => W.F.fin.length - k) 0 [] ⟨by rfl, ?_, ?_⟩ (by omega) ?_
  · simp [endF]
  · simp [endF]
  · intro k hk
    have e0 : 0 + (k : Int).toNat = k := by omega
    have ef : W.F.fin.getD (0 + (k : Int).toNat) EK.int.dflt = W.F.fin.getD k 0 := by rw [e0]; rfl
    (conv => whnf)
    refine condP_dec (fun hk2 => ?_) (fun hk2 => ?_)
    · have hf := hF.fin _ (getD_mem W.F.fin k 0 (by omega))
      rw [← ef] at hf
      cases hx : (metOf es pf ⟨k, W.u.length, W.v.length⟩) with
      | none =>
        have hsn : ¬ (@lkM EK.trip.ty EK.adr.ty (EK.instDeq .trip) es (⟨k, W.u.length, W.v.length⟩ : Trip)).isSome = true := by
          intro hh
          obtain ⟨b, d, g1, g2, g3⟩ := hm.get (y := ⟨k, W.u.length, W.v.length⟩) (by rw [hh]; rfl)
          rw [hx] at g3
          cases g3
        have e := endF_none (D := D) (fin := W.F.fin) (k := k) (p := W.u.length) (q := W.v.length) (by rw [← hDD]; simp [costOf, hx])
        repeat' (first | exact rfl | ((conv => whnf); first | (refine qX (fun h => ?_) fun h => ?_ <;> try exact absurd h (by omega)) | refine oN ?_ | refine oM ?_ ?_ | refine bM ?_ ?_ | refine dR ?_))
        all_goals first | exact absurd (by assumption) hsn | skip
        all_goals (conv => whnf)
        all_goals refine ⟨k + 1, [], ⟨by rfl, ?_, ?_⟩, by omega, by omega⟩
        · simp [e]
        · simp [e]
      | some d =>
        have hs : (@lkM EK.trip.ty EK.adr.ty (EK.instDeq .trip) es (⟨k, W.u.length, W.v.length⟩ : Trip)).isSome = true := by
          cases hh : (@lkM EK.trip.ty EK.adr.ty (EK.instDeq .trip) es (⟨k, W.u.length, W.v.length⟩ : Trip)).isSome with
          | true => rfl
          | false =>
            have := MetOk.none (es := es) (pf := pf) (y := ⟨k, W.u.length, W.v.length⟩) (by rw [hh]; rfl)
            rw [hx] at this
            cases this
        obtain ⟨b, d', g1, g2, g3⟩ := hm.get (y := ⟨k, W.u.length, W.v.length⟩) (by rw [hs]; rfl)
        rw [hx] at g3
        cases g3
        have gd : (rowA pf (some b)).getD 0 EK.fnd.dflt = d := by rw [g2]; rfl
        have hdb := hb _ _ hx
        have hDk : D ⟨k, W.u.length, W.v.length⟩ = some d.cost := by rw [← hDD]; simp [costOf, hx]
        repeat' (first | exact rfl | ((conv => whnf); first | (refine qX (fun h => ?_) fun h => ?_ <;> try exact absurd h (by omega)) | refine oN ?_ | refine oM ?_ ?_ | refine bM ?_ ?_ | refine dR ?_))
        all_goals first | exact absurd hs (Bool.eq_false_iff.1 (by assumption)) | skip
        all_goals first | (rw [g1]; rfl) | (rw [g1, g2]; exact Nat.one_pos) | (rw [g1, gd]; unfold InI; omega) | skip
        · have e := endF_yes hDk (by rw [← ef]; assumption) (.inl (by assumption))
          (conv => whnf)
          refine ⟨k + 1, [], ⟨by rfl, ?_, ?_⟩, by omega, by omega⟩
          · simp [e, g1, g2]
            exact rfl
          · simp [e]
        · rename_i hh
          rw [g1, gd, ef] at h
          have e := endF_yes hDk (by rw [← ef]; assumption) (.inr h)
          (conv => whnf)
          refine ⟨k + 1, [], ⟨by rfl, ?_, ?_⟩, by omega, by omega⟩
          · simp [e, g1, g2]
            exact rfl
          · simp [e]
        · rename_i hh
          rw [g1, gd, ef] at h
          have e := endF_no hDk (.inr ⟨hh, h⟩)
          (conv => whnf)
          refine ⟨k + 1, [], ⟨by rfl, ?_, ?_⟩, by omega, by omega⟩
          · simp [e, g1, gd, ef]
          · simp [e, g1, gd, ef]
        · rw [ef] at h
          have e := endF_no hDk (.inl h)
          (conv => whnf)
          refine ⟨k + 1, [], ⟨by rfl, ?_, ?_⟩, by omega, by omega⟩
          · simp [e, g1, gd, ef]
          · simp [e, g1, gd, ef]
    · have hkn : k = W.F.fin.length := by omega
      subst hkn
      repeat' (first | exact rfl | ((conv => whnf); first | (refine qX (fun h => ?_) fun h => ?_ <;> try exact absurd h (by omega)) | refine oN ?_ | refine oM ?_ ?_ | refine bM ?_ ?_ | refine dR ?_))
      (conv => whnf)
      exact ⟨[], [(0, .box 58 [.i W.F.st, .i W.F.start, .sl 1 1 0 W.F.fin.length W.F.capF, .sl 2 5 0 W.F.arcs.length W.F.capA, .sl 3 1 0 W.u.length W.cu, .sl 4 1 0 W.v.length W.cv, .sl 5 1 0 W.rows.length W.rows.length, .mp 7]), (5, .arr true 22 .sli W.rows 0), (6, .pool 3 .int W.pi), (7, .map .trip .adr es clk), (8, .pool 60 .fnd pf)], 9, .tup [.agg [.i (endF D W.F.fin W.u.length W.v.length W.F.fin.length).1.a, .i (endF D W.F.fin W.u.length W.v.length W.F.fin.length).1.b, .i (endF D W.F.fin W.u.length W.v.length W.F.fin.length).1.c], .c (.i (endF D W.F.fin W.u.length W.v.length W.F.fin.length).2)], ⟨by rfl, trivial, by simp⟩, by simp, rfl, rfl⟩

end Go.Fw

namespace Go.Fw
open Go Go.Proofs

/-- An empty pool for a callee. -/
theorem callPool {P : Program} {f : Nat} {args : List SV} {ex : List Value} {s : S} {k : S → SV → Prop} (E : Nat) (ek : EK) (hlt : ∀ v ∈ args, SV.lt s.nx v)
    (h : s.go fun fr hp nx => CallK P f args ex ⟨fr, (nx, .pool E ek []) :: hp, nx + 1⟩ k) : CallK P f args ex s k := by
  rw [S.go_eq] at h
  unfold CallK at h ⊢
  refine ⟨h.1, fun β Z fp w hs => ?_⟩
  have hs' := hs.add (o := .pool E ek []) (x := none) (q := fun _ => False) (fun _ _ => rfl) (Nat.le_refl _) (fun _ h => h.elim) ⟨fun _ _ _ h => (by cases h), fun _ _ _ _ h => (by cases h)⟩ trivial
  have hc := h.2 _ _ _ w hs'
  have ha : args.map (SV.den (β.add s.nx none)) = args.map (SV.den β) := List.map_congr_left fun v hv => SV.den_congr (fun id hid => Env.add_lt id hid) (hlt v hv)
  rw [ha] at hc
  refine hc.mono ?_
  rintro e w' ⟨v, β', Z', fp', s', rfl, hn, hk⟩
  exact ⟨v, β', Z', fp', s', rfl, ⟨fun id hid => (hn.env id (Nat.lt_succ_of_lt hid)).trans (Env.add_lt id hid), hn.ext, hn.zz, hn.fr, Nat.le_of_succ_le hn.nx, hn.sat, hn.lt⟩, hk⟩

/-- The rows as they grow. -/
structure RowsK (F : TF) (rows : List Sli) (pi : List (Addr × List Int × Nat)) (k : Nat) : Prop where
  len : rows.length = F.st.toNat
  hd : ∀ s : Nat, s < F.st.toNat → Hd pi (rows.getD s EK.sli.dflt)
  row : ∀ s : Nat, s < F.st.toNat → rowA pi (rows.getD s EK.sli.dflt).a = numsK F k s
  dist : ∀ (s t : Nat) (a : Addr), s < F.st.toNat → t < F.st.toNat → s ≠ t → (rows.getD s EK.sli.dflt).a = some a → (rows.getD t EK.sli.dflt).a ≠ some a

theorem Hd.len {α : Type} {m : List (Addr × List α × Nat)} {x : Sli} (h : Hd m x) : x.n = (rowA m x.a).length := by
  unfold Hd at h
  unfold rowA
  cases hx : x.a with
  | none => rw [hx] at h; simp [h.1]
  | some a =>
    rw [hx] at h
    simp only at h ⊢
    cases hl : lkA m a with
    | none => rw [hl] at h; exact h.elim
    | some y => rw [hl] at h; simp [h.1]

theorem Hd.some {α : Type} {m : List (Addr × List α × Nat)} {x : Sli} (h : Hd m x) {a : Addr} (ha : x.a = some a) : ∃ y, lkA m a = some y ∧ x.n = y.1.length ∧ x.c ≤ y.1.length + y.2 := by
  unfold Hd at h
  rw [ha] at h
  simp only at h
  cases hl : lkA m a with
  | none => rw [hl] at h; exact h.elim
  | some y => rw [hl] at h; exact ⟨y, rfl, h⟩

theorem Hd.of_some {α : Type} {m : List (Addr × List α × Nat)} {x : Sli} {a : Addr} {y : List α × Nat} (ha : x.a = Option.some a) (hl : lkA m a = Option.some y) (h1 : x.n = y.1.length) (h2 : x.c ≤ y.1.length + y.2) : Hd m x := by
  unfold Hd
  rw [ha]
  simp only
  rw [hl]
  exact ⟨h1, h2⟩

theorem Hd.of_none {α : Type} {m : List (Addr × List α × Nat)} {x : Sli} (ha : x.a = none) (h1 : x.n = 0) (h2 : x.c = 0) : Hd m x := by
  unfold Hd
  rw [ha]
  exact ⟨h1, h2⟩

theorem getD_setJ {α : Type} (l : List α) (j : Nat) (x d : α) (s : Nat) (hj : j < l.length) : (l.set j x).getD s d = if s = j then x else l.getD s d := by
  simp only [List.getD, List.getElem?_set]
  by_cases h : j = s
  · subst h; simp [hj]
  · simp [h, Ne.symm h]

theorem rowA_some {α : Type} {m : List (Addr × List α × Nat)} {a : Addr} {y : List α × Nat} (h : lkA m a = some y) : rowA m (some a) = y.1 := by simp [rowA, h]
theorem rowA_congr {α : Type} {m m' : List (Addr × List α × Nat)} {a : Addr} (h : lkA m a = lkA m' a) : rowA m (some a) = rowA m' (some a) := by simp only [rowA, h]

theorem RowsK.step {F : TF} {rows : List Sli} {pi pi' : List (Addr × List Int × Nat)} {k j : Nat} {h' : Sli} (h : RowsK F rows pi k) (hj : j < F.st.toNat) (hf : (F.arcs.getD k EK.arc.dflt).f = j) (ha : App pi (rows.getD j EK.sli.dflt) [(k : Int)] pi' h') :
    RowsK F (rows.set j h') pi' (k + 1) := by
  have hl := h.len
  have hjr : j < rows.length := by omega
  have hne : ∀ s : Nat, s ≠ j → numsK F (k + 1) s = numsK F k s := by
    intro s hs
    rw [numsK_succ, hf, if_neg (by omega), List.append_nil]
  have hjj : numsK F (k + 1) j = numsK F k j ++ [(k : Int)] := by rw [numsK_succ, hf, if_pos rfl]
  generalize hx : rows.getD j EK.sli.dflt = x at ha
  have hdj := h.hd j hj
  have hrj := h.row j hj
  rw [hx] at hdj hrj
  cases ha with
  | stay h => cases h
  | @room a y sp h1 h2 h3 =>
    obtain ⟨y', g1, g2, g3⟩ := hdj.some h1
    rw [h2] at g1
    cases g1
    have hla : lkA (setA pi a (y.1 ++ [(k : Int)], sp)) a = some (y.1 ++ [(k : Int)], sp) := by rw [lkA_setA, h2]; simp
    have hlb : ∀ b, b ≠ a → lkA (setA pi a (y.1 ++ [(k : Int)], sp)) b = lkA pi b := by
      intro b hb
      rw [lkA_setA]
      simp only [hb, if_false]
      cases lkA pi b <;> rfl
    have hoth : ∀ s, s < F.st.toNat → s ≠ j → ∀ b, (rows.getD s EK.sli.dflt).a = some b → b ≠ a := by
      intro s hs hsj b hb e
      subst e
      exact h.dist s j b hs hj hsj hb (by rw [hx]; exact h1)
    refine ⟨by rw [List.length_set]; exact hl, ?_, ?_, ?_⟩
    · intro s hs
      rw [getD_setJ _ _ _ _ _ hjr]
      by_cases e : s = j
      · rw [if_pos e]
        refine Hd.of_some rfl hla ?_ ?_
        · simp [g2]
        · simp only [List.length_append, List.length_cons, List.length_nil]
          simp only [List.length_cons, List.length_nil] at h3
          omega
      · rw [if_neg e]
        have := h.hd s hs
        cases hsa : (rows.getD s EK.sli.dflt).a with
        | none =>
          unfold Hd at this ⊢
          rw [hsa] at this ⊢
          exact this
        | some b =>
          obtain ⟨z, k1, k2, k3⟩ := this.some hsa
          exact Hd.of_some hsa (by rw [hlb b (hoth s hs e b hsa)]; exact k1) k2 k3
    · intro s hs
      rw [getD_setJ _ _ _ _ _ hjr]
      by_cases e : s = j
      · rw [if_pos e, e, hjj, ← hrj]
        simp [rowA, hla, h1, h2]
      · rw [if_neg e, hne s e, ← h.row s hs]
        cases hsa : (rows.getD s EK.sli.dflt).a with
        | none => rfl
        | some b => exact rowA_congr (hlb b (hoth s hs e b hsa))
    · intro s t b hs ht hst hb hc
      rw [getD_setJ _ _ _ _ _ hjr] at hb hc
      by_cases es : s = j
      · rw [if_pos es] at hb
        rw [if_neg (fun e => hst (es.trans e.symm))] at hc
        simp only [Option.some.injEq] at hb
        subst hb
        exact hoth t ht (fun e => hst (es.trans e.symm)) _ hc rfl
      · rw [if_neg es] at hb
        by_cases et : t = j
        · rw [if_pos et] at hc
          simp only [Option.some.injEq] at hc
          subst hc
          exact hoth s hs es _ hb rfl
        · rw [if_neg et] at hc
          exact h.dist s t b hs ht hst hb hc
  | @fresh a sp h1 h2 =>
    have hlb : ∀ b, b ≠ a → lkA ((a, rowA pi x.a ++ [(k : Int)], sp) :: pi) b = lkA pi b := fun b hb => by simp only [lkA, if_neg (Ne.symm hb)]
    have hla : lkA ((a, rowA pi x.a ++ [(k : Int)], sp) :: pi) a = some (rowA pi x.a ++ [(k : Int)], sp) := by simp [lkA]
    have hoth : ∀ s, s < F.st.toNat → ∀ b, (rows.getD s EK.sli.dflt).a = some b → b ≠ a := by
      intro s hs b hb e
      subst e
      obtain ⟨z, k1, _⟩ := (h.hd s hs).some hb
      rw [h1] at k1
      cases k1
    refine ⟨by rw [List.length_set]; exact hl, ?_, ?_, ?_⟩
    · intro s hs
      rw [getD_setJ _ _ _ _ _ hjr]
      by_cases e : s = j
      · rw [if_pos e]
        refine Hd.of_some rfl hla ?_ ?_
        · simp [hdj.len]
        · simp [hdj.len]
      · rw [if_neg e]
        have := h.hd s hs
        cases hsa : (rows.getD s EK.sli.dflt).a with
        | none =>
          unfold Hd at this ⊢
          rw [hsa] at this ⊢
          exact this
        | some b =>
          obtain ⟨z, k1, k2, k3⟩ := this.some hsa
          exact Hd.of_some hsa (by rw [hlb b (hoth s hs b hsa)]; exact k1) k2 k3
    · intro s hs
      rw [getD_setJ _ _ _ _ _ hjr]
      by_cases e : s = j
      · rw [if_pos e, e, hjj, ← hrj]
        exact rowA_some hla
      · rw [if_neg e, hne s e, ← h.row s hs]
        cases hsa : (rows.getD s EK.sli.dflt).a with
        | none => rfl
        | some b => exact rowA_congr (hlb b (hoth s hs b hsa))
    · intro s t b hs ht hst hb hc
      rw [getD_setJ _ _ _ _ _ hjr] at hb hc
      by_cases es : s = j
      · rw [if_pos es] at hb
        rw [if_neg (fun e => hst (es.trans e.symm))] at hc
        simp only [Option.some.injEq] at hb
        subst hb
        exact hoth t ht _ hc rfl
      · rw [if_neg es] at hb
        by_cases et : t = j
        · rw [if_pos et] at hc
          simp only [Option.some.injEq] at hc
          subst hc
          exact hoth s hs _ hb rfl
        · rw [if_neg et] at hc
          exact h.dist s t b hs ht hst hb hc

theorem RowsK.zero (F : TF) : RowsK F (List.replicate F.st.toNat (⟨none, 0, 0⟩ : Sli)) [] 0 := by
  have hg : ∀ s, (List.replicate F.st.toNat (⟨none, 0, 0⟩ : Sli)).getD s EK.sli.dflt = ⟨none, 0, 0⟩ := by
    intro s
    simp only [List.getD, List.getElem?_replicate]
    split <;> rfl
  refine ⟨List.length_replicate, ?_, ?_, ?_⟩
  · intro s _; rw [hg]; exact Hd.of_none rfl rfl rfl
  · intro s _; rw [hg]; rfl
  · intro s t a _ _ _ h; rw [hg] at h; cases h

theorem RowsK.ok {F : TF} {rows : List Sli} {pi : List (Addr × List Int × Nat)} (h : RowsK F rows pi F.arcs.length) : RowsOk F rows pi :=
  ⟨h.len, fun s hs => ⟨by rw [(h.hd s hs).len, h.row s hs]; rfl, h.row s hs⟩⟩

end Go.Fw

namespace Go.Fw
open Go Go.Proofs

/-- What is wrong with what is handed to Score. -/
def scoreE (F : TF) (u v : List Int) : Int := if fstE F ≠ 0 then fstE F else if wordE u ≠ 0 then wordE u else wordE v

/-- A transducer and two words: 0 final, 1 arcs, 2 in, 3 out. -/
abbrev hpQ (F : TF) (u v : List Int) : List (Nat × SO) := [(0, .arr false 3 .int F.fin 0), (1, .arr false 35 .arc F.arcs 0), (2, .arr false 3 .int u 0), (3, .arr false 3 .int v 0)]

section
variable (F : TF) (u v : List Int) (cu cv : Nat) (rows : List Sli) (pi : List (Addr × List Int × Nat))
theorem run_l (hF : FOk F) (hu : u.length ≤ 40) (hv : v.length ≤ 40) (hr : RowsOk F rows pi) :
    Ct Tryd.prog 46 [.c (.ptr 0 0)] [] [(0, .box 58 [.i F.st, .i F.start, .sl 1 1 0 F.fin.length F.capF, .sl 2 5 0 F.arcs.length F.capA, .sl 3 1 0 u.length cu, .sl 4 1 0 v.length cv, .sl 5 1 0 rows.length rows.length, .v (.map none)]), (1, .arr false 3 .int F.fin 0), (2, .arr false 35 .arc F.arcs 0), (3, .arr false 3 .int u 0), (4, .arr false 3 .int v 0), (5, .arr true 22 .sli rows 0), (6, .pool 3 .int pi), (7, .pool 60 .fnd [])] 8 (fun x s => ∃ es clk pf, x = .tup [] ∧ s = ⟨[], [(0, .box 58 [.i F.st, .i F.start, .sl 1 1 0 F.fin.length F.capF, .sl 2 5 0 F.arcs.length F.capA, .sl 3 1 0 u.length cu, .sl 4 1 0 v.length cv, .sl 5 1 0 rows.length rows.length, .mp 8]), (5, .arr true 22 .sli rows 0), (6, .pool 3 .int pi), (7, .pool 60 .fnd pf), (8, .map .trip .adr es clk)], 9⟩ ∧ Ran ⟨F, u, v, cu, cv, rows, pi, es, clk, pf⟩ es clk pf) :=
  (run_c ⟨F, u, v, cu, cv, rows, pi, [], 0, []⟩ hF hu hv hr).to (fun x s ⟨es, clk, pf, h1, h2, h3⟩ => ⟨es, clk, pf, h1, h2, h3⟩)

theorem end_l (es : List (Trip × Option Addr × Nat)) (clk : Nat) (pf : List (Addr × List Fnd × Nat)) (hF : FOk F) (hu : u.length ≤ 40) (hv : v.length ≤ 40) (hm : MetOk es clk pf) (hb : ∀ y d, metOf es pf y = some d → 0 ≤ d.cost ∧ d.cost ≤ 1000000000000000) :
    Ct Tryd.prog 47 [.c (.ptr 0 0)] [] [(0, .box 58 [.i F.st, .i F.start, .sl 1 1 0 F.fin.length F.capF, .sl 2 5 0 F.arcs.length F.capA, .sl 3 1 0 u.length cu, .sl 4 1 0 v.length cv, .sl 5 1 0 rows.length rows.length, .mp 7]), (1, .arr false 3 .int F.fin 0), (2, .arr false 35 .arc F.arcs 0), (3, .arr false 3 .int u 0), (4, .arr false 3 .int v 0), (5, .arr true 22 .sli rows 0), (6, .pool 3 .int pi), (7, .map .trip .adr es clk), (8, .pool 60 .fnd pf)] 9 (fun x s => x = .tup [.agg [.i (endF (costOf es pf) F.fin u.length v.length F.fin.length).1.a, .i (endF (costOf es pf) F.fin u.length v.length F.fin.length).1.b, .i (endF (costOf es pf) F.fin u.length v.length F.fin.length).1.c], .c (.i (endF (costOf es pf) F.fin u.length v.length F.fin.length).2)] ∧
      s = ⟨[], [(0, .box 58 [.i F.st, .i F.start, .sl 1 1 0 F.fin.length F.capF, .sl 2 5 0 F.arcs.length F.capA, .sl 3 1 0 u.length cu, .sl 4 1 0 v.length cv, .sl 5 1 0 rows.length rows.length, .mp 7]), (5, .arr true 22 .sli rows 0), (6, .pool 3 .int pi), (7, .map .trip .adr es clk), (8, .pool 60 .fnd pf)], 9⟩) :=
  end_c ⟨F, u, v, cu, cv, rows, pi, [], 0, []⟩ hF hu hv es clk pf hm hb
end

set_option maxHeartbeats 4000000 in
set_option maxRecDepth 20000 in
theorem walk_no (F : TF) (u v : List Int) (cu cv : Nat) (hl : F.fin.length ≤ 9223372036854775807) (hsc : scoreE F u v ≠ 0) :
    Ct Tryd.prog 21 [fV F, .c (.sl 2 1 0 u.length cu), .c (.sl 3 1 0 v.length cv)] [] (hpQ F u v) 4 (Is 4 (.tup [.c (.v (.pointer none)), .agg [.i 0, .i 0, .i 0], .c (.i 0), .c (.i (scoreE F u v))])) := by
  unfold scoreE at hsc ⊢
  refine ctW Tryd.tyOk 16 [39, 40, 41] Tryd.func21 rfl (by simp) (by simp) (fr := [(0, fV F), (1, .c (.sl 2 1 0 u.length cu)), (2, .c (.sl 3 1 0 v.length cv))]) rfl ?_
  repeat' (first | exact rfl | ((conv => whnf); first | (refine qX (fun h => ?_) fun h => ?_ <;> try exact absurd h (by omega)) | refine oN ?_ | refine oM ?_ ?_ | refine bM ?_ ?_ | refine dR ?_))
  refine cI (check_c F hl) [0, 1] Tryd.call16 ?_
  by_cases h1 : fstE F = 0
  · rw [if_neg (by omega)] at hsc ⊢
    repeat' (first | exact rfl | ((conv => whnf); first | (refine qX (fun h => ?_) fun h => ?_ <;> try exact absurd h (by omega)) | refine oN ?_ | refine oM ?_ ?_ | refine bM ?_ ?_ | refine dR ?_))
    (conv => whnf)
    refine cI (word_c u cu) [2] Tryd.call24 ?_
    by_cases h2 : wordE u = 0
    · rw [if_neg (by omega)] at hsc ⊢
      repeat' (first | exact rfl | ((conv => whnf); first | (refine qX (fun h => ?_) fun h => ?_ <;> try exact absurd h (by omega)) | refine oN ?_ | refine oM ?_ ?_ | refine bM ?_ ?_ | refine dR ?_))
      (conv => whnf)
      refine cI (word_c v cv) [3] Tryd.call24 ?_
      repeat' (first | exact rfl | ((conv => whnf); first | (refine qX (fun h => ?_) fun h => ?_ <;> try exact absurd h (by omega)) | refine oN ?_ | refine oM ?_ ?_ | refine bM ?_ ?_ | refine dR ?_))
      refine Back.is ?_
      simp
    · rw [if_pos h2]
      repeat' (first | exact rfl | ((conv => whnf); first | (refine qX (fun h => ?_) fun h => ?_ <;> try exact absurd h (by omega)) | refine oN ?_ | refine oM ?_ ?_ | refine bM ?_ ?_ | refine dR ?_))
      refine Back.is ?_
      simp
  · rw [if_pos h1]
    repeat' (first | exact rfl | ((conv => whnf); first | (refine qX (fun h => ?_) fun h => ?_ <;> try exact absurd h (by omega)) | refine oN ?_ | refine oM ?_ ?_ | refine bM ?_ ?_ | refine dR ?_))
    refine Back.is ?_
    simp

set_option maxHeartbeats 8000000 in
set_option maxRecDepth 20000 in
theorem walk_ok (F : TF) (u v : List Int) (cu cv : Nat) (hl : F.fin.length ≤ 9223372036854775807) (h : scoreE F u v = 0) :
    Ct Tryd.prog 21 [fV F, .c (.sl 2 1 0 u.length cu), .c (.sl 3 1 0 v.length cv)] [] (hpQ F u v) 4 (fun x s => ∃ rows pi es clk pf, Ran ⟨F, u, v, cu, cv, rows, pi, es, clk, pf⟩ es clk pf ∧
      x = .tup [.c (.ptr 4 0), .agg [.i (endF (costOf es pf) F.fin u.length v.length F.fin.length).1.a, .i (endF (costOf es pf) F.fin u.length v.length F.fin.length).1.b, .i (endF (costOf es pf) F.fin u.length v.length F.fin.length).1.c], .c (.i (endF (costOf es pf) F.fin u.length v.length F.fin.length).2), .c (.i 0)] ∧
      s = ⟨[], [(4, .box 58 [.i F.st, .i F.start, .sl 0 1 0 F.fin.length F.capF, .sl 1 5 0 F.arcs.length F.capA, .sl 2 1 0 u.length cu, .sl 3 1 0 v.length cv, .sl 5 1 0 rows.length rows.length, .mp 8]), (5, .arr true 22 .sli rows 0), (6, .pool 3 .int pi), (7, .pool 60 .fnd pf), (8, .map .trip .adr es clk)], 9⟩) := by
  have h1 : fstE F = 0 := by
    unfold scoreE at h
    split at h
    · omega
    · omega
  have h2 : wordE u = 0 := by
    unfold scoreE at h
    rw [if_neg (by omega)] at h
    split at h <;> omega
  have h3 : wordE v = 0 := by
    unfold scoreE at h
    rw [if_neg (by omega), if_neg (by omega)] at h
    exact h
  have hu : u.length ≤ 40 := by
    unfold wordE at h2
    split at h2
    · cases h2
    · omega
  have hv : v.length ≤ 40 := by
    unfold wordE at h3
    split at h3
    · cases h3
    · omega
  have hF := fstE_ok h1
  have hst := hF.st
  have hfl := hF.finl
  have hal := hF.arcl
  refine ctW Tryd.tyOk 16 [39, 40, 41] Tryd.func21 rfl (by simp) (by simp) (fr := [(0, fV F), (1, .c (.sl 2 1 0 u.length cu)), (2, .c (.sl 3 1 0 v.length cv))]) rfl ?_
  repeat' (first | exact rfl | ((conv => whnf); first | (refine qX (fun h => ?_) fun h => ?_ <;> try exact absurd h (by omega)) | refine oN ?_ | refine oM ?_ ?_ | refine bM ?_ ?_ | refine dR ?_))
  refine cI (check_c F hl) [0, 1] Tryd.call16 ?_
  rw [h1]
  repeat' (first | exact rfl | ((conv => whnf); first | (refine qX (fun h => ?_) fun h => ?_ <;> try exact absurd h (by omega)) | refine oN ?_ | refine oM ?_ ?_ | refine bM ?_ ?_ | refine dR ?_))
  (conv => whnf)
  refine cI (word_c u cu) [2] Tryd.call24 ?_
  rw [h2]
  repeat' (first | exact rfl | ((conv => whnf); first | (refine qX (fun h => ?_) fun h => ?_ <;> try exact absurd h (by omega)) | refine oN ?_ | refine oM ?_ ?_ | refine bM ?_ ?_ | refine dR ?_))
  (conv => whnf)
  refine cI (word_c v cv) [3] Tryd.call24 ?_
  rw [h3]
  repeat' (first | exact rfl | ((conv => whnf); first | (refine qX (fun h => ?_) fun h => ?_ <;> try exact absurd h (by omega)) | refine oN ?_ | refine oM ?_ ?_ | refine bM ?_ ?_ | refine dR ?_))
  (conv => whnf)
  refine loopI (fun y : Nat × List Sli × List (Addr × List Int × Nat) => ⟨[(1, .c (.sl 2 1 0 u.length cu)), (2, .c (.sl 3 1 0 v.length cv)), (3, .c (.ptr 4 0)), (6, .c (.v (.pointer none))), (7, .c (.ptr 5 0)), (8, .i 0), (9, .i 0), (10, .i 0), (11, .c (.ptr 7 0)), (39, .c (.sl 1 5 0 F.arcs.length F.capA)), (40, .i F.arcs.length), (41, .i y.1)],
    (4, .box 25 (fCells F)) :: (5, .box 51 [.i 0, .i 0, .i 0]) :: (6, .arr true 22 .sli y.2.1 0) :: (7, .box 58 [.i F.st, .i F.start, .sl 0 1 0 F.fin.length F.capF, .sl 1 5 0 F.arcs.length F.capA, .sl 2 1 0 u.length cu, .sl 3 1 0 v.length cv, .sl 6 1 0 y.2.1.length y.2.1.length, .v (.map none)]) :: (8, .pool 3 .int y.2.2) :: hpQ F u v, 9⟩)
    (fun y => y.1 ≤ F.arcs.length ∧ RowsK F y.2.1 y.2.2 y.1) (fun y => F.arcs.length - y.1) (0, List.replicate F.st.toNat ⟨none, 0, 0⟩, []) [(8, none)] ⟨by rfl, ?_, ?_⟩ ⟨by omega, RowsK.zero F⟩ ?_
  · simp
  · simp [fCells, nilO]
    exact .inr rfl
  · rintro ⟨k, rows, pi⟩ ⟨i1, i2⟩
    simp only at i1 i2 ⊢
    have hrl := i2.len
    (conv => whnf)
    refine condP_dec (fun hk => ?_) (fun hk => ?_)
    · have e0 : 0 + (k : Int).toNat = k := by omega
      have ea : F.arcs.getD (0 + (k : Int).toNat) EK.arc.dflt = F.arcs.getD k EK.arc.dflt := by rw [e0]
      have hao := hF.arc _ (getD_mem F.arcs k EK.arc.dflt (by omega))
      rw [← ea] at hao
      have hf0 := hao.f0
      have hf1 := hao.f1
      have hj : (F.arcs.getD (0 + (k : Int).toNat) EK.arc.dflt).f.toNat < F.st.toNat := by omega
      have hd := i2.hd _ hj
      have hln := hd.len
      rw [i2.row _ hj] at hln
      have hnl := numsK_len F k ((F.arcs.getD (0 + (k : Int).toNat) EK.arc.dflt).f.toNat)
      have ej : 0 + (F.arcs.getD (0 + (k : Int).toNat) EK.arc.dflt).f.toNat = (F.arcs.getD (0 + (k : Int).toNat) EK.arc.dflt).f.toNat := by omega
      repeat' (first | exact rfl | ((conv => whnf); first | (refine qX (fun h => ?_) fun h => ?_ <;> try exact absurd h (by omega)) | refine oN ?_ | refine oM ?_ ?_ | refine bM ?_ ?_ | refine dR ?_))
      · rw [ej]
        exact ⟨hd, by omega, by omega⟩
      · (conv => whnf)
        intro m' h' happ
        rw [ej] at happ
        have hstep := i2.step hj (by rw [← ea]; omega) happ
        repeat' (first | exact rfl | ((conv => whnf); first | (refine qX (fun h => ?_) fun h => ?_ <;> try exact absurd h (by omega)) | refine oN ?_ | refine oM ?_ ?_ | refine bM ?_ ?_ | refine dR ?_))
        (conv => whnf)
        refine ⟨(k + 1, rows.set (F.arcs.getD (0 + (k : Int).toNat) EK.arc.dflt).f.toNat h', m'), [], ⟨by rfl, ?_, ?_⟩, ⟨by simp only; omega, hstep⟩, by simp only; omega⟩
        · simp
        · simp [fCells]
    · have hkn : k = F.arcs.length := by omega
      subst hkn
      have hro := i2.ok
      repeat' (first | exact rfl | ((conv => whnf); first | (refine qX (fun h => ?_) fun h => ?_ <;> try exact absurd h (by omega)) | refine oN ?_ | refine oM ?_ ?_ | refine bM ?_ ?_ | refine dR ?_))
      (conv => whnf)
      refine callPool 60 .fnd (by simp) ?_
      (conv => whnf)
      refine cF (run_l F u v cu cv rows pi hF hu hv hro) [7, 0, 1, 2, 3, 6, 8, 9] Tryd.call46 ?_
      rintro _ _ ⟨es, clk, pf, rfl, rfl, hran⟩
      have hran2 := hran
      obtain ⟨hm, ord, rk, B, hol, hD, hB, hall⟩ := hran2
      repeat' (first | exact rfl | ((conv => whnf); first | (refine qX (fun h => ?_) fun h => ?_ <;> try exact absurd h (by omega)) | refine oN ?_ | refine oM ?_ ?_ | refine bM ?_ ?_ | refine dR ?_))
      (conv => whnf)
      refine cF (end_l F u v cu cv rows pi es clk pf hF hu hv hm (fun y d hy => ⟨(hD.cost y d hy).1, Int.le_trans (hD.cost y d hy).2 hB⟩)) [7, 0, 1, 2, 3, 6, 8, 10, 9] Tryd.call47 ?_
      rintro _ _ ⟨rfl, rfl⟩
      repeat' (first | exact rfl | ((conv => whnf); first | (refine qX (fun h => ?_) fun h => ?_ <;> try exact absurd h (by omega)) | refine oN ?_ | refine oM ?_ ?_ | refine bM ?_ ?_ | refine dR ?_))
      (conv => whnf)
      generalize hE : endF (costOf es pf) F.fin u.length v.length F.fin.length = E at *
      refine ⟨[(4, some 7), (5, some 6), (6, some 8), (7, some 9), (8, some 10)], [(4, .box 58 [.i F.st, .i F.start, .sl 0 1 0 F.fin.length F.capF, .sl 1 5 0 F.arcs.length F.capA, .sl 2 1 0 u.length cu, .sl 3 1 0 v.length cv, .sl 5 1 0 rows.length rows.length, .mp 8]), (5, .arr true 22 .sli rows 0), (6, .pool 3 .int pi), (7, .pool 60 .fnd pf), (8, .map .trip .adr es clk)], 9, .tup [.c (.ptr 4 0), .agg [.i E.1.a, .i E.1.b, .i E.1.c], .c (.i E.2), .c (.i 0)], ⟨by rfl, trivial, by simp⟩, by simp, rows, pi, es, clk, pf, hran, ?_, rfl⟩
      rw [hE]

end Go.Fw

/-
  A call with a transducer, two words and the variables.
-/
namespace Go.Fw
open Go Go.Proofs Go.ChangeShapes Go.WideShapes Go.ChangeAt Go.RowKit Go.Deep Go.Joins

theorem Hand.callQ {W : World} {F : TF} {a0 a1 a2 a3 : Option Addr} {v : Value} (h : Hand W F a0 a1 v) {g : Glo} (hg : GloW g W) {u w : List Int} (h2 : Lent W a2 .int u) (h3 : Lent W a3 .int w) {cu cw f : Nat}
    (hc : Ct Tryd.prog f [fV F, .c (.sl 2 1 0 u.length cu), .c (.sl 3 1 0 w.length cw)] [] (hpQ F u w ++ [(4, gloO g)]) 5 (fun v s => v = .b true ∧ s = ⟨[], [(4, gloO g)], 5⟩)) :
    Calls Tryd.prog f #[v, .slice a2 u.length cu, .slice a3 w.length cw] W fun e W' => e = .returned (.bool true) ∧ Below W.heap.size W W' := by
  refine glo_call hg (hp := hpQ F u w) (n := 4) (fun i => if i = 0 then a0 else if i = 1 then a1 else if i = 2 then a2 else a3) ?_ (fun id => ?_) ?_ hc
  · intro id o hl
    simp only [hpQ, look_cons] at hl
    split at hl
    · rename_i e; subst e; cases hl; exact ⟨by omega, 3, .int, F.fin, rfl, h.l0, int_cell⟩
    · split at hl
      · rename_i e; subst e; cases hl; exact ⟨by omega, 35, .arc, F.arcs, rfl, h.l1, arc_cell⟩
      · split at hl
        · rename_i e; subst e; cases hl; exact ⟨by omega, 3, .int, u, rfl, h2, int_cell⟩
        · split at hl
          · rename_i e; subst e; cases hl; exact ⟨by omega, 3, .int, w, rfl, h3, int_cell⟩
          · cases hl
  · simp only [hpQ, List.cons_append, List.nil_append, look_cons]
    by_cases e0 : 0 = id
    · subst e0; simp
    · by_cases e1 : 1 = id
      · subst e1; simp
      · by_cases e2 : 2 = id
        · subst e2; simp
        · by_cases e3 : 3 = id
          · subst e3; simp
          · by_cases e4 : 4 = id
            · subst e4; simp
            · simp [e0, e1, e2, e3, e4, look]
  · rw [h.val]
    have hi : ∀ o : Option Addr, o.map (fun x => x.add 0) = o := hid
    simp [fV, SV.den, SA.den, SC.den, hi]
end Go.Fw

namespace Go.Fw
open Go Go.Proofs

set_option maxHeartbeats 4000000 in
set_option maxRecDepth 20000 in
theorem score_no (F : TF) (u v : List Int) (cu cv : Nat) (hl : F.fin.length ≤ 9223372036854775807) (hsc : scoreE F u v ≠ 0) :
    Ct Tryd.prog 8 [fV F, .c (.sl 2 1 0 u.length cu), .c (.sl 3 1 0 v.length cv)] [] (hpQ F u v) 4 (Is 4 (.tup [.c (.i 0), .c (.i (scoreE F u v))])) := by
  refine ctW Tryd.tyOk 12 [] Tryd.func8 rfl (by simp) (by simp) (fr := [(0, fV F), (1, .c (.sl 2 1 0 u.length cu)), (2, .c (.sl 3 1 0 v.length cv))]) rfl ?_
  repeat' (first | exact rfl | ((conv => whnf); first | (refine qX (fun h => ?_) fun h => ?_ <;> try exact absurd h (by omega)) | refine oN ?_ | refine oM ?_ ?_ | refine bM ?_ ?_ | refine dR ?_))
  (conv => whnf)
  refine cI (walk_no F u v cu cv hl hsc) [0, 1, 2, 3] Tryd.call21 ?_
  repeat' (first | exact rfl | ((conv => whnf); first | (refine qX (fun h => ?_) fun h => ?_ <;> try exact absurd h (by omega)) | refine oN ?_ | refine oM ?_ ?_ | refine bM ?_ ?_ | refine dR ?_))
  refine Back.is ?_
  simp

set_option maxHeartbeats 4000000 in
set_option maxRecDepth 20000 in
theorem score_ok (F : TF) (u v : List Int) (cu cv : Nat) (hl : F.fin.length ≤ 9223372036854775807) (hsc : scoreE F u v = 0) :
    Ct Tryd.prog 8 [fV F, .c (.sl 2 1 0 u.length cu), .c (.sl 3 1 0 v.length cv)] [] (hpQ F u v) 4 (fun x s => ∃ A, IsLeast F u v (fromSt F) A ∧ x = .tup [.c (.i (endF A F.fin u.length v.length F.fin.length).2), .c (.i 0)] ∧ s = ⟨[], [], 4⟩) := by
  refine ctW Tryd.tyOk 12 [] Tryd.func8 rfl (by simp) (by simp) (fr := [(0, fV F), (1, .c (.sl 2 1 0 u.length cu)), (2, .c (.sl 3 1 0 v.length cv))]) rfl ?_
  repeat' (first | exact rfl | ((conv => whnf); first | (refine qX (fun h => ?_) fun h => ?_ <;> try exact absurd h (by omega)) | refine oN ?_ | refine oM ?_ ?_ | refine bM ?_ ?_ | refine dR ?_))
  (conv => whnf)
  refine cF (walk_ok F u v cu cv hl hsc) [0, 1, 2, 3] Tryd.call21 ?_
  rintro _ _ ⟨rows, pi, es, clk, pf, ⟨hm, ord, rk, B, hol, hD, hB, hall⟩, rfl, rfl⟩
  repeat' (first | exact rfl | ((conv => whnf); first | (refine qX (fun h => ?_) fun h => ?_ <;> try exact absurd h (by omega)) | refine oN ?_ | refine oM ?_ ?_ | refine bM ?_ ?_ | refine dR ?_))
  (conv => whnf)
  exact ⟨[], [], 4, .tup [.c (.i (endF (costOf es pf) F.fin u.length v.length F.fin.length).2), .c (.i 0)], ⟨by rfl, trivial, trivial⟩, by simp, costOf es pf, hD.least hall, rfl, rfl⟩

end Go.Fw
