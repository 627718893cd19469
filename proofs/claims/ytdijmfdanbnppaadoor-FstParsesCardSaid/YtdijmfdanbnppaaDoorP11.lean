/-
  The way of least cost from spot to spot.
-/
import Derived.Test.YtdijmfdanbnppaaDoorP10
import Derived.Test.YtdijmfdanbnppaaDoorP08
import Derived.Test.YtdijmfdanbnppaaDoorP06

set_option linter.unusedSimpArgs false
set_option linter.unusedVariables false

namespace Go.Fw
open Go

/-- From a spot by an arc. -/
def Edge (F : TF) (u v : List Int) (x : Trip) (n : Nat) (y : Trip) (w : Int) : Prop :=
  ∃ a, F.arcs[n]? = some a ∧ a.f = x.a ∧ (fitE u x.b a.i).2 = true ∧ (fitE v x.c a.o).2 = true ∧ y = ⟨a.t, (fitE u x.b a.i).1, (fitE v x.c a.o).1⟩ ∧ w = a.w

def st0 (F : TF) : Trip := ⟨F.start, 0, 0⟩

def InBox (F : TF) (u v : List Int) (x : Trip) : Prop := (0 ≤ x.a ∧ x.a < F.st) ∧ (0 ≤ x.b ∧ x.b ≤ u.length) ∧ (0 ≤ x.c ∧ x.c ≤ v.length)

theorem fitE_box {l : List Int} {p x : Int} (hp : 0 ≤ p ∧ p ≤ l.length) (h : (fitE l p x).2 = true) : 0 ≤ (fitE l p x).1 ∧ (fitE l p x).1 ≤ l.length := by
  unfold fitE at h ⊢
  split at h
  · rename_i e; rw [if_pos e]; exact hp
  · rename_i e
    rw [if_neg e]
    simp only [decide_eq_true_eq] at h
    constructor
    · show 0 ≤ p + 1
      omega
    · show p + 1 ≤ _
      omega

section
variable {F : TF} {u v : List Int}

theorem Edge.box (hF : FOk F) {x y : Trip} {n : Nat} {w : Int} (h : Edge F u v x n y w) (hx : InBox F u v x) : InBox F u v y := by
  obtain ⟨a, h1, h2, h3, h4, rfl, rfl⟩ := h
  have ha := hF.arc a (List.mem_of_getElem? h1)
  exact ⟨⟨ha.t0, ha.t1⟩, fitE_box hx.2.1 h3, fitE_box hx.2.2 h4⟩

theorem Edge.wt (hF : FOk F) {x y : Trip} {n : Nat} {w : Int} (h : Edge F u v x n y w) : 0 ≤ w ∧ w ≤ 1000000000 := by
  obtain ⟨a, h1, h2, h3, h4, rfl, rfl⟩ := h
  have ha := hF.arc a (List.mem_of_getElem? h1)
  exact ⟨ha.w0, ha.w1⟩

theorem Edge.fn {x y y' : Trip} {n : Nat} {w w' : Int} (h : Edge F u v x n y w) (h' : Edge F u v x n y' w') : y = y' ∧ w = w' := by
  obtain ⟨a, h1, h2, h3, h4, rfl, rfl⟩ := h
  obtain ⟨a', h1', h2', h3', h4', rfl, rfl⟩ := h'
  rw [h1] at h1'
  cases h1'
  exact ⟨rfl, rfl⟩

/-- What comes of one arc. -/
theorem stepD_cases {x : Trip} {cost : Int} {D : Trip → Option Fnd} {k : Nat} {a : Arc} (hk : F.arcs[k]? = some a) (hf : a.f = x.a) :
    (stepD F u v x cost D k = D ∧ ∀ y w, Edge F u v x k y w → ∃ d, D y = some d ∧ d.cost ≤ cost + w) ∨
    ∃ y w, Edge F u v x k y w ∧ stepD F u v x cost D k = updD D y ⟨cost + w, k, x.a, x.b, x.c, false⟩ ∧ ∀ d, D y = some d → cost + w < d.cost := by
  have har : F.arcs.getD (k : Int).toNat EK.arc.dflt = a := by rw [Int.toNat_natCast]; simp [List.getD, hk]
  cases h1 : (fitE u x.b a.i).2 with
  | false =>
    refine .inl ⟨stepD_no1 har (by rw [h1]; rfl), ?_⟩
    rintro y w ⟨b, g1, g2, g3, g4, _⟩
    rw [hk] at g1
    cases g1
    rw [h1] at g3
    cases g3
  | true =>
    cases h2 : (fitE v x.c a.o).2 with
    | false =>
      refine .inl ⟨stepD_no2 har (by rw [h2]; rfl), ?_⟩
      rintro y w ⟨b, g1, g2, g3, g4, _⟩
      rw [hk] at g1
      cases g1
      rw [h2] at g4
      cases g4
    | true =>
      have he : Edge F u v x k ⟨a.t, (fitE u x.b a.i).1, (fitE v x.c a.o).1⟩ a.w := ⟨a, hk, hf, h1, h2, rfl, rfl⟩
      cases h3 : D ⟨a.t, (fitE u x.b a.i).1, (fitE v x.c a.o).1⟩ with
      | none => exact .inr ⟨_, _, he, stepD_new har (by rw [h1]; rfl) (by rw [h2]; rfl) h3, fun d hd => by rw [h3] at hd; cases hd⟩
      | some d =>
        by_cases h4 : cost + a.w < d.cost
        · exact .inr ⟨_, _, he, stepD_less har (by rw [h1]; rfl) (by rw [h2]; rfl) h3 h4, fun d' hd => by rw [h3] at hd; cases hd; exact h4⟩
        · refine .inl ⟨stepD_keep har (by rw [h1]; rfl) (by rw [h2]; rfl) h3 h4, ?_⟩
          intro y w h
          obtain ⟨rfl, rfl⟩ := he.fn h
          exact ⟨d, h3, by omega⟩

/-- What holds between the rounds. -/
structure Dj (F : TF) (u v : List Int) (D : Trip → Option Fnd) (ord : List Trip) (rk : Trip → Nat) (B : Int) (Q : Trip → Nat → Prop) : Prop where
  start : ∃ c, D (st0 F) = some c ∧ c.cost = 0
  rng : ∀ y d, D y = some d → InBox F u v y
  dn : ∀ y d, D y = some d → (d.dn = true ↔ y ∈ ord)
  mem : ∀ y ∈ ord, ∃ d, D y = some d
  cost : ∀ y d, D y = some d → 0 ≤ d.cost ∧ d.cost ≤ B
  closed : ∀ z ∈ ord, ∀ c, D z = some c → ∀ n y w, Q z n → Edge F u v z n y w → ∃ d, D y = some d ∧ d.cost ≤ c.cost + w
  mono : ∀ z ∈ ord, ∀ c, D z = some c → ∀ y d, D y = some d → y ∉ ord → c.cost ≤ d.cost
  rkl : ∀ y ∈ ord, rk y < ord.length
  by' : ∀ y d, D y = some d → (y = st0 F ∧ d.cost = 0 ∧ d.arc = -1) ∨ ∃ (n : Nat) (x : Trip) (c : Fnd) (w : Int), d.arc = (n : Int) ∧ d.s = x.a ∧ d.i = x.b ∧ d.o = x.c ∧ x ∈ ord ∧ D x = some c ∧ Edge F u v x n y w ∧ d.cost = c.cost + w ∧ (y ∈ ord → rk x < rk y)

/-- The nearest spot is done. -/
def mark (D : Trip → Option Fnd) (x : Trip) (c : Fnd) : Trip → Option Fnd := updD D x { c with dn := true }

theorem updD_same {D : Trip → Option Fnd} {y : Trip} {e : Fnd} : updD D y e y = some e := by simp [updD]
theorem updD_ne {D : Trip → Option Fnd} {y z : Trip} {e : Fnd} (h : z ≠ y) : updD D y e z = D z := by simp [updD, h]

theorem mark_some {D : Trip → Option Fnd} {x : Trip} {c : Fnd} (hx : D x = some c) {y : Trip} {d : Fnd} (h : mark D x c y = some d) : ∃ d', D y = some d' ∧ d.cost = d'.cost ∧ d.arc = d'.arc ∧ d.s = d'.s ∧ d.i = d'.i ∧ d.o = d'.o ∧ (y = x → d.dn = true) ∧ (y ≠ x → d = d') := by
  by_cases e : y = x
  · subst e
    unfold mark at h
    rw [updD_same] at h
    cases h
    exact ⟨c, hx, rfl, rfl, rfl, rfl, rfl, fun _ => rfl, fun h => absurd rfl h⟩
  · unfold mark at h
    rw [updD_ne e] at h
    exact ⟨d, h, rfl, rfl, rfl, rfl, rfl, fun h => absurd h e, fun _ => rfl⟩

theorem mark_of {D : Trip → Option Fnd} {x : Trip} {c : Fnd} (hx : D x = some c) {y : Trip} {d : Fnd} (h : D y = some d) : ∃ d', mark D x c y = some d' ∧ d'.cost = d.cost := by
  by_cases e : y = x
  · subst e
    rw [hx] at h
    cases h
    exact ⟨_, updD_same, rfl⟩
  · exact ⟨d, by unfold mark; rw [updD_ne e]; exact h, rfl⟩

theorem Dj.mark {D : Trip → Option Fnd} {ord : List Trip} {rk : Trip → Nat} {B : Int} (h : Dj F u v D ord rk B (fun _ _ => True)) {x : Trip} {c : Fnd} (hx : D x = some c) (hd : c.dn = false) (hmin : ∀ y d, D y = some d → d.dn = false → c.cost ≤ d.cost) :
    Dj F u v (mark D x c) (ord ++ [x]) (fun z => if z = x then ord.length else rk z) B (fun z _ => z ≠ x) ∧ (∀ z ∈ ord ++ [x], ∀ d, mark D x c z = some d → d.cost ≤ c.cost) := by
  have hxn : x ∉ ord := fun hm => by have := (h.dn x c hx).2 hm; rw [hd] at this; cases this
  have hno : ∀ y d, D y = some d → y ∉ ord → d.dn = false := by
    intro y d hy hn
    cases hdn : d.dn with
    | false => rfl
    | true => exact absurd ((h.dn y d hy).1 hdn) hn
  constructor
  · constructor
    · obtain ⟨c0, h1, h2⟩ := h.start
      obtain ⟨d, h3, h4⟩ := mark_of hx h1
      exact ⟨d, h3, by rw [h4, h2]⟩
    · intro y d hy
      obtain ⟨d', h1, _⟩ := mark_some hx hy
      exact h.rng y d' h1
    · intro y d hy
      obtain ⟨d', h1, h2, _, _, _, _, h3, h4⟩ := mark_some hx hy
      by_cases e : y = x
      · simp [h3 e, e]
      · have := h4 e
        subst this
        rw [h.dn y d h1]
        simp [e]
    · intro y hy
      rcases List.mem_append.1 hy with hy | hy
      · obtain ⟨d, hd⟩ := h.mem y hy
        obtain ⟨d', hd', _⟩ := mark_of hx hd
        exact ⟨d', hd'⟩
      · rw [List.mem_singleton.1 hy]
        exact ⟨_, updD_same⟩
    · intro y d hy
      obtain ⟨d', h1, h2, _⟩ := mark_some hx hy
      rw [h2]
      exact h.cost y d' h1
    · intro z hz cz hcz n y w hq he
      rcases List.mem_append.1 hz with hz | hz
      · obtain ⟨d', h1, h2, _⟩ := mark_some hx hcz
        obtain ⟨d, h3, h4⟩ := h.closed z hz d' h1 n y w trivial he
        obtain ⟨d2, h5, h6⟩ := mark_of hx h3
        exact ⟨d2, h5, by omega⟩
      · exact absurd (List.mem_singleton.1 hz) hq
    · intro z hz cz hcz y d hy hyn
      simp only [List.mem_append, List.mem_singleton, not_or] at hyn
      obtain ⟨d', h1, h2, _⟩ := mark_some hx hcz
      obtain ⟨e', g1, g2, _⟩ := mark_some hx hy
      rw [h2, g2]
      rcases List.mem_append.1 hz with hz | hz
      · exact h.mono z hz d' h1 y e' g1 hyn.1
      · rw [List.mem_singleton.1 hz, hx] at h1
        cases h1
        exact hmin y e' g1 (hno y e' g1 hyn.1)
    · intro y hy
      simp only [List.length_append, List.length_cons, List.length_nil]
      split
      · omega
      · rename_i hne
        rcases List.mem_append.1 hy with hy | hy
        · have := h.rkl y hy; omega
        · exact absurd (List.mem_singleton.1 hy) hne
    · intro y d hy
      obtain ⟨d', h1, h2, h2a, h2b, h2c, h2d, _⟩ := mark_some hx hy
      rcases h.by' y d' h1 with ⟨g1, g2, g3⟩ | ⟨n, z, cz, w, g1, g2, g3, g4, g5, g6, g7, g8, g9⟩
      · exact .inl ⟨g1, by rw [h2, g2], by rw [h2a, g3]⟩
      · obtain ⟨cz', k1, k2⟩ := mark_of hx g6
        have hzx : z ≠ x := fun e => hxn (e ▸ g5)
        refine .inr ⟨n, z, cz', w, by rw [h2a, g1], by rw [h2b, g2], by rw [h2c, g3], by rw [h2d, g4], List.mem_append_left _ g5, k1, g7, by rw [h2, g8, k2], fun hy2 => ?_⟩
        rw [if_neg hzx]
        by_cases e : y = x
        · rw [if_pos e]; exact h.rkl z g5
        · rw [if_neg e]
          rcases List.mem_append.1 hy2 with hy2 | hy2
          · exact g9 hy2
          · exact absurd (List.mem_singleton.1 hy2) e
  · intro z hz d hzd
    obtain ⟨d', h1, h2, _⟩ := mark_some hx hzd
    rw [h2]
    rcases List.mem_append.1 hz with hz | hz
    · exact h.mono z hz d' h1 x c hx hxn
    · rw [List.mem_singleton.1 hz, hx] at h1
      cases h1
      exact Int.le_refl _

/-- One arc of the nearest spot. -/
theorem Dj.step (hF : FOk F) {D : Trip → Option Fnd} {ord : List Trip} {rk : Trip → Nat} {B : Int} {Q : Trip → Nat → Prop} (h : Dj F u v D ord rk B Q) {x : Trip} {c : Fnd} (hx : D x = some c) (hxo : x ∈ ord) (hmax : ∀ z ∈ ord, ∀ d, D z = some d → d.cost ≤ c.cost)
    (hB : c.cost + 1000000000 ≤ B) {k : Nat} {a : Arc} (hk : F.arcs[k]? = some a) (hf : a.f = x.a) :
    Dj F u v (stepD F u v x c.cost D k) ord rk B (fun z n => Q z n ∨ (z = x ∧ n = k)) ∧ stepD F u v x c.cost D k x = some c ∧ (∀ z ∈ ord, ∀ d, stepD F u v x c.cost D k z = some d → d.cost ≤ c.cost) := by
  rcases stepD_cases (u := u) (v := v) (cost := c.cost) (D := D) hk hf with ⟨e, hcl⟩ | ⟨y, w, he, e, hless⟩
  · rw [e]
    refine ⟨⟨h.start, h.rng, h.dn, h.mem, h.cost, ?_, h.mono, h.rkl, h.by'⟩, hx, hmax⟩
    rintro z hz cz hcz n y w (hq | ⟨rfl, rfl⟩) hed
    · exact h.closed z hz cz hcz n y w hq hed
    · rw [hx] at hcz
      cases hcz
      exact hcl y w hed
  · rw [e]
    have hw := he.wt hF
    have hyo : y ∉ ord := by
      intro hy
      obtain ⟨d, hd⟩ := h.mem y hy
      have h1 := hless d hd
      have h2 := hmax y hy d hd
      omega
    have hyx : x ≠ y := fun e => hyo (e ▸ hxo)
    have hord : ∀ z ∈ ord, updD D y ⟨c.cost + w, k, x.a, x.b, x.c, false⟩ z = D z := fun z hz => updD_ne (fun e => hyo (e ▸ hz))
    have hc0 := h.cost x c hx
    refine ⟨⟨?_, ?_, ?_, ?_, ?_, ?_, ?_, h.rkl, ?_⟩, by rw [hord x hxo]; exact hx, fun z hz d hd => hmax z hz d (by rw [← hord z hz]; exact hd)⟩
    · obtain ⟨c0, h1, h2⟩ := h.start
      have : st0 F ≠ y := fun e => by
        have := hless c0 (by rw [← e]; exact h1)
        omega
      exact ⟨c0, by rw [updD_ne this]; exact h1, h2⟩
    · intro z d hz
      by_cases ez : z = y
      · subst ez; exact he.box hF (h.rng x c hx)
      · rw [updD_ne ez] at hz; exact h.rng z d hz
    · intro z d hz
      by_cases ez : z = y
      · subst ez
        rw [updD_same] at hz
        cases hz
        simp [hyo]
      · rw [updD_ne ez] at hz; exact h.dn z d hz
    · intro z hz
      rw [hord z hz]; exact h.mem z hz
    · intro z d hz
      by_cases ez : z = y
      · subst ez
        rw [updD_same] at hz
        cases hz
        simp only
        omega
      · rw [updD_ne ez] at hz; exact h.cost z d hz
    · intro z hz cz hcz n y2 w2 hq hed
      rw [hord z hz] at hcz
      by_cases ey : y2 = y
      · subst ey
        refine ⟨_, updD_same, ?_⟩
        show c.cost + w ≤ cz.cost + w2
        rcases hq with hq | ⟨rfl, rfl⟩
        · obtain ⟨d, h1, h2⟩ := h.closed z hz cz hcz n y2 w2 hq hed
          have := hless d h1
          omega
        · rw [hx] at hcz
          cases hcz
          have := (he.fn hed).2
          omega
      · rw [updD_ne ey]
        rcases hq with hq | ⟨rfl, rfl⟩
        · exact h.closed z hz cz hcz n y2 w2 hq hed
        · exact absurd (he.fn hed).1.symm ey
    · intro z hz cz hcz y2 d hy2 hn
      rw [hord z hz] at hcz
      by_cases ey : y2 = y
      · subst ey
        rw [updD_same] at hy2
        cases hy2
        have := hmax z hz cz hcz
        show cz.cost ≤ c.cost + w
        omega
      · rw [updD_ne ey] at hy2
        exact h.mono z hz cz hcz y2 d hy2 hn
    · intro y2 d hy2
      by_cases ey : y2 = y
      · subst ey
        rw [updD_same] at hy2
        cases hy2
        exact .inr ⟨k, x, c, w, rfl, rfl, rfl, rfl, hxo, by rw [hord x hxo]; exact hx, he, rfl, fun hm => absurd hm hyo⟩
      · rw [updD_ne ey] at hy2
        rcases h.by' y2 d hy2 with g | ⟨n, z, cz, w', g1, g2, g3, g4, g5, g6, g7⟩
        · exact .inl g
        · exact .inr ⟨n, z, cz, w', g1, g2, g3, g4, g5, by rw [hord z g5]; exact g6, g7⟩

end
end Go.Fw

/-
  The way of least cost: rounds, the end.
-/
namespace Go.Fw
open Go

/-- The numbers of the first arcs that go from a state. -/
def numsK (F : TF) (k : Nat) (s : Int) : List Int := ((List.range k).filter fun j => decide ((F.arcs.getD j EK.arc.dflt).f = s)).map Int.ofNat
def numsOf (F : TF) (s : Int) : List Int := numsK F F.arcs.length s

theorem numsK_succ (F : TF) (k : Nat) (s : Int) : numsK F (k + 1) s = numsK F k s ++ if (F.arcs.getD k EK.arc.dflt).f = s then [(k : Int)] else [] := by
  unfold numsK
  rw [List.range_succ, List.filter_append, List.map_append]
  congr 1
  by_cases h : (F.arcs.getD k EK.arc.dflt).f = s
  · rw [if_pos h, List.filter_cons_of_pos (by simpa using h)]
    rfl
  · rw [if_neg h, List.filter_cons_of_neg (by simpa using h)]
    rfl

theorem numsK_mem {F : TF} {k : Nat} {s n : Int} : n ∈ numsK F k s ↔ ∃ j : Nat, n = j ∧ j < k ∧ (F.arcs.getD j EK.arc.dflt).f = s := by
  unfold numsK
  simp only [List.mem_map, List.mem_filter, List.mem_range, decide_eq_true_eq]
  constructor
  · rintro ⟨j, ⟨h1, h2⟩, rfl⟩; exact ⟨j, rfl, h1, h2⟩
  · rintro ⟨j, rfl, h1, h2⟩; exact ⟨j, ⟨h1, h2⟩, rfl⟩

section
variable {F : TF} {u v : List Int}

theorem Dj.weak {D : Trip → Option Fnd} {ord : List Trip} {rk : Trip → Nat} {B B' : Int} {Q Q' : Trip → Nat → Prop} (h : Dj F u v D ord rk B Q) (hB : B ≤ B') (hQ : ∀ z ∈ ord, ∀ n y w, Edge F u v z n y w → Q' z n → Q z n) : Dj F u v D ord rk B' Q' :=
  ⟨h.start, h.rng, h.dn, h.mem, fun y d hy => ⟨(h.cost y d hy).1, Int.le_trans (h.cost y d hy).2 hB⟩, fun z hz c hc n y w hq he => h.closed z hz c hc n y w (hQ z hz n y w he hq) he, h.mono, h.rkl, h.by'⟩

theorem Dj.on (hF : FOk F) {x : Trip} {c : Fnd} {ord : List Trip} {rk : Trip → Nat} {B : Int} (hxo : x ∈ ord) (hB : c.cost + 1000000000 ≤ B) : ∀ (ns : List Int) (D : Trip → Option Fnd) (Q : Trip → Nat → Prop), Dj F u v D ord rk B Q → D x = some c → (∀ z ∈ ord, ∀ d, D z = some d → d.cost ≤ c.cost) →
    (∀ n ∈ ns, ∃ j : Nat, n = j ∧ j < F.arcs.length ∧ (F.arcs.getD j EK.arc.dflt).f = x.a) →
    Dj F u v (onD F u v x c.cost D ns) ord rk B (fun z n => Q z n ∨ (z = x ∧ (n : Int) ∈ ns)) ∧ onD F u v x c.cost D ns x = some c
  | [], D, Q, h, hx, hmax, _ => ⟨h.weak (Int.le_refl _) (fun z _ n y w _ hq => by rcases hq with hq | ⟨_, hq⟩; exact hq; cases hq), hx⟩
  | n :: ns, D, Q, h, hx, hmax, hn => by
    obtain ⟨j, rfl, h1, h2⟩ := hn n (List.mem_cons_self ..)
    have hk : F.arcs[j]? = some (F.arcs.getD j EK.arc.dflt) := by simp [List.getD, h1]
    obtain ⟨g1, g2, g3⟩ := h.step hF hx hxo hmax hB hk h2
    obtain ⟨g4, g5⟩ := Dj.on hF hxo hB ns _ _ g1 g2 g3 (fun n hn' => hn n (List.mem_cons_of_mem _ hn'))
    refine ⟨g4.weak (Int.le_refl _) (fun z _ n y w _ hq => ?_), g5⟩
    rcases hq with hq | ⟨hz, hq⟩
    · exact .inl (.inl hq)
    · rcases List.mem_cons.1 hq with hq | hq
      · exact .inl (.inr ⟨hz, by omega⟩)
      · exact .inr ⟨hz, hq⟩

/-- A round. -/
theorem Dj.round (hF : FOk F) {D : Trip → Option Fnd} {ord : List Trip} {rk : Trip → Nat} {B B' : Int} (h : Dj F u v D ord rk B (fun _ _ => True)) {x : Trip} {c : Fnd} (hx : D x = some c) (hd : c.dn = false) (hmin : ∀ y d, D y = some d → d.dn = false → c.cost ≤ d.cost)
    (hB1 : B ≤ B') (hB : c.cost + 1000000000 ≤ B') : ∃ rk', Dj F u v (onD F u v x c.cost (Fw.mark D x c) (numsOf F x.a)) (ord ++ [x]) rk' B' (fun _ _ => True) := by
  obtain ⟨h1, h2⟩ := h.mark hx hd hmin
  have h1' := h1.weak (Q' := fun z _ => z ≠ x) hB1 (fun _ _ _ _ _ _ h => h)
  have := Dj.on hF (c := { c with dn := true }) (List.mem_append_right ord (List.mem_singleton.2 rfl)) hB (numsOf F x.a) _ _ h1' updD_same h2 (fun n hn => numsK_mem.1 hn)
  refine ⟨_, this.1.weak (Int.le_refl _) (fun z hz n y w he _ => ?_)⟩
  by_cases e : z = x
  · subst e
    refine .inr ⟨rfl, ?_⟩
    obtain ⟨a, g1, g2, _⟩ := he
    have := (List.getElem?_eq_some_iff.1 g1).1
    exact numsK_mem.2 ⟨n, rfl, this, by simp [List.getD, g1, g2]⟩
  · exact .inl e

def D0 (F : TF) : Trip → Option Fnd := updD (fun _ => none) (st0 F) ⟨0, -1, 0, 0, 0, false⟩

theorem Dj.zero (hF : FOk F) : Dj F u v (D0 F) [] (fun _ => 0) 0 (fun _ _ => True) := by
  have hs := hF.start
  have key : ∀ y d, D0 F y = some d → y = st0 F ∧ d = ⟨0, -1, 0, 0, 0, false⟩ := by
    intro y d h
    unfold D0 updD at h
    split at h
    · rename_i e; cases h; exact ⟨e, rfl⟩
    · cases h
  refine ⟨⟨_, updD_same, rfl⟩, ?_, ?_, ?_, ?_, ?_, ?_, ?_, ?_⟩
  · intro y d h
    obtain ⟨rfl, rfl⟩ := key y d h
    refine ⟨hs, ⟨Int.le_refl _, ?_⟩, ⟨Int.le_refl _, ?_⟩⟩ <;> (simp only [st0]; omega)
  · intro y d h
    obtain ⟨rfl, rfl⟩ := key y d h
    simp
  · intro y h; cases h
  · intro y d h
    obtain ⟨rfl, rfl⟩ := key y d h
    exact ⟨Int.le_refl _, Int.le_refl _⟩
  · intro z h; cases h
  · intro z h; cases h
  · intro z h; cases h
  · intro y d h
    obtain ⟨rfl, rfl⟩ := key y d h
    exact .inl ⟨rfl, rfl, rfl⟩

/-- A way of some cost. -/
inductive Reach (F : TF) (u v : List Int) (S : Trip → Int → Prop) : Int → Trip → Prop
  | here {x : Trip} {c : Int} (h : S x c) : Reach F u v S c x
  | on {x y : Trip} {c w : Int} {n : Nat} (h : Reach F u v S c x) (he : Edge F u v x n y w) : Reach F u v S (c + w) y

structure IsLeast (F : TF) (u v : List Int) (S : Trip → Int → Prop) (A : Trip → Option Int) : Prop where
  path : ∀ y c, A y = some c → Reach F u v S c y
  least : ∀ c y, Reach F u v S c y → ∃ c', A y = some c' ∧ c' ≤ c

theorem IsLeast.eq {S : Trip → Int → Prop} {A B : Trip → Option Int} (hA : IsLeast F u v S A) (hB : IsLeast F u v S B) : A = B := by
  funext y
  cases ha : A y with
  | none =>
    cases hb : B y with
    | none => rfl
    | some c =>
      obtain ⟨c', h, _⟩ := hA.least _ _ (hB.path y c hb)
      rw [ha] at h
      cases h
  | some c =>
    obtain ⟨c1, h1, h2⟩ := hB.least _ _ (hA.path y c ha)
    obtain ⟨c2, h3, h4⟩ := hA.least _ _ (hB.path y c1 h1)
    rw [ha] at h3
    cases h3
    rw [h1]
    congr 1
    omega

/-- From the start, for nothing. -/
def fromSt (F : TF) : Trip → Int → Prop := fun x c => x = st0 F ∧ c = 0

/-- What came at the end. -/
theorem Dj.least {D : Trip → Option Fnd} {ord : List Trip} {rk : Trip → Nat} {B : Int} (h : Dj F u v D ord rk B (fun _ _ => True)) (hall : ∀ y d, D y = some d → d.dn = true) : IsLeast F u v (fromSt F) (fun y => (D y).map (·.cost)) := by
  have hm : ∀ y d, D y = some d → y ∈ ord := fun y d hy => (h.dn y d hy).1 (hall y d hy)
  constructor
  · have : ∀ (k : Nat) (y : Trip) (d : Fnd), rk y < k → D y = some d → Reach F u v (fromSt F) d.cost y := by
      intro k
      induction k with
      | zero => intro y d hk; omega
      | succ k ih =>
        intro y d hk hy
        rcases h.by' y d hy with ⟨g1, g2, _⟩ | ⟨n, z, cz, w, _, _, _, _, g5, g6, g7, g8, g9⟩
        · exact .here ⟨g1, g2⟩
        · rw [g8]
          exact .on (ih z cz (by have := g9 (hm y d hy); omega) g6) g7
    intro y c hy
    obtain ⟨d, hd, rfl⟩ := Option.map_eq_some_iff.1 hy
    exact this (rk y + 1) y d (Nat.lt_succ_self _) hd
  · intro c y hr
    induction hr with
    | here hs =>
      obtain ⟨rfl, rfl⟩ := hs
      obtain ⟨c0, h1, h2⟩ := h.start
      exact ⟨c0.cost, by simp [h1], by omega⟩
    | on hr he ih =>
      obtain ⟨c', h1, h2⟩ := ih
      obtain ⟨d, h3, rfl⟩ := Option.map_eq_some_iff.1 h1
      obtain ⟨e, h4, h5⟩ := h.closed _ (hm _ d h3) d h3 _ _ _ trivial he
      exact ⟨e.cost, by simp [h4], by omega⟩
end
end Go.Fw

namespace Go.Fw
open Go Go.Proofs

/-- All spots there may be. -/
def allSpots (F : TF) (u v : List Int) : List Trip := (List.range F.st.toNat).flatMap fun (s : Nat) => (List.range (u.length + 1)).flatMap fun (i : Nat) => (List.range (v.length + 1)).map fun (o : Nat) => (⟨(s : Int), (i : Int), (o : Int)⟩ : Trip)

/-- How many spots are not done. -/
def und (F : TF) (u v : List Int) (ord : List Trip) : Nat := ((allSpots F u v).filter fun x => decide (x ∉ ord)).length

/-- The rows hold the numbers of the arcs. -/
structure RowsOk (F : TF) (rows : List Sli) (pi : List (Addr × List Int × Nat)) : Prop where
  len : rows.length = F.st.toNat
  row : ∀ s : Nat, s < F.st.toNat → (rows.getD s EK.sli.dflt).n = (numsOf F s).length ∧ rowA pi (rows.getD s EK.sli.dflt).a = numsOf F s

section
variable {es : List (Trip × Option Addr × Nat)} {clk : Nat} {pf : List (Addr × List Fnd × Nat)}

theorem lkA_put {a : Addr} {f e : Fnd} (h : lkA pf a = some ([f], 0)) (b : Addr) : lkA (putA pf (some a) 0 e) b = if b = a then some ([e], 0) else lkA pf b := by
  simp only [putA, h, List.set_cons_zero]
  rw [lkA_setA]
  by_cases hb : b = a
  · subst hb; simp [h]
  · simp only [hb, if_false]
    cases lkA pf b <;> rfl

theorem MetOk.put (hm : MetOk es clk pf) {x : Trip} {a : Addr} {n : Nat} {f e : Fnd} (hx : (x, some a, n) ∈ es) (ha : lkA pf a = some ([f], 0)) :
    MetOk es clk (putA pf (some a) 0 e) ∧ metOf es (putA pf (some a) 0 e) = updD (metOf es pf) x e ∧ lkA (putA pf (some a) 0 e) a = some ([e], 0) := by
  refine ⟨⟨hm.born, hm.keys, hm.adrs, ?_⟩, ?_, by rw [lkA_put ha, if_pos rfl]⟩
  · intro c hc
    obtain ⟨b, g, h1, h2⟩ := hm.row c hc
    refine ⟨b, ?_⟩
    rw [lkA_put ha]
    by_cases hb : b = a
    · exact ⟨e, h1, by rw [if_pos hb]⟩
    · exact ⟨g, h1, by rw [if_neg hb]; exact h2⟩
  · funext z
    show (lkM es z).bind _ = updD (metOf es pf) x e z
    unfold updD
    by_cases hz : z = x
    · subst hz
      rw [if_pos rfl, show lkM es z = some (some a) from lkM_mem hm.keys hx]
      simp [rowA, lkA_put ha]
    · rw [if_neg hz]
      show _ = (lkM es z).bind _
      cases hl : lkM es z with
      | none => rfl
      | some oa =>
        obtain ⟨m, hm2⟩ := lkM_some hl
        have hne : oa ≠ some a := by
          intro c
          subst c
          have : (z, some a, m) = (x, some a, n) := by
            have hnd := hm.adrs
            have h1 := List.getElem_of_mem hx
            have h2 := List.getElem_of_mem hm2
            obtain ⟨i, hi, e1⟩ := h1
            obtain ⟨j, hj, e2⟩ := h2
            have : i = j := by
              refine (List.getElem_inj (h₀ := by simpa using hi) (h₁ := by simpa using hj) hnd).1 ?_
              simp [e1, e2]
            subst this
            rw [← e1, ← e2]
          exact hz (congrArg (·.1) this)
        cases oa with
        | none => rfl
        | some b =>
          have hb : b ≠ a := fun c => hne (by rw [c])
          simp only [Option.bind_some, rowA, lkA_put ha, if_neg hb]

theorem MetOk.all (hm : MetOk es clk pf) {best : Trip} (h : Nst es pf (es.map (·.2.2)) best false) : ∀ y d, metOf es pf y = some d → d.dn = true := by
  intro y d hy
  obtain ⟨a, n, h1, _⟩ := hm.of hy
  rcases h with ⟨_, h⟩ | ⟨h, _⟩
  · exact h _ h1 (List.mem_map_of_mem (f := fun e : Trip × Option Addr × Nat => e.2.2) h1) d hy
  · cases h

end

theorem MetOk.zero (F : TF) {a : Addr} : MetOk [(st0 F, some a, 0)] 1 [(a, [⟨0, -1, 0, 0, 0, false⟩], 0)] ∧ metOf [(st0 F, some a, 0)] [(a, [⟨0, -1, 0, 0, 0, false⟩], 0)] = D0 F := by
  constructor
  · exact ⟨⟨by simp, by simp⟩, by simp, by simp, by simp [lkA]⟩
  · funext z
    unfold metOf D0 updD
    by_cases h : z = st0 F
    · simp [lkM, rowA, lkA, h]
    · simp [lkM, h, Ne.symm h]

end Go.Fw

namespace Go.Fw
open Go Go.Proofs

/-- The walker between makeMap and the end: 7 what the map holds, 8 the map. -/
abbrev hpR (W : Wk) (es : List (Trip × Option Addr × Nat)) (clk : Nat) (pf : List (Addr × List Fnd × Nat)) : List (Nat × SO) := [(0, .box 58 [.i W.F.st, .i W.F.start, .sl 1 1 0 W.F.fin.length W.F.capF, .sl 2 5 0 W.F.arcs.length W.F.capA, .sl 3 1 0 W.u.length W.cu, .sl 4 1 0 W.v.length W.cv, .sl 5 1 0 W.rows.length W.rows.length, .mp 8]), (1, .arr false 3 .int W.F.fin 0), (2, .arr false 35 .arc W.F.arcs 0), (3, .arr false 3 .int W.u 0), (4, .arr false 3 .int W.v 0),
  (5, .arr true 22 .sli W.rows 0), (6, .pool 3 .int W.pi), (7, .pool 60 .fnd pf), (8, .map .trip .adr es clk)]
abbrev hpS (W : Wk) : List (Nat × SO) := [(0, .box 58 [.i W.F.st, .i W.F.start, .sl 1 1 0 W.F.fin.length W.F.capF, .sl 2 5 0 W.F.arcs.length W.F.capA, .sl 3 1 0 W.u.length W.cu, .sl 4 1 0 W.v.length W.cv, .sl 5 1 0 W.rows.length W.rows.length, .v (.map none)]), (1, .arr false 3 .int W.F.fin 0), (2, .arr false 35 .arc W.F.arcs 0), (3, .arr false 3 .int W.u 0), (4, .arr false 3 .int W.v 0),
  (5, .arr true 22 .sli W.rows 0), (6, .pool 3 .int W.pi), (7, .pool 60 .fnd [])]

/-- Between the rounds. -/
def RInv (W : Wk) (y : List (Trip × Option Addr × Nat) × Nat × List (Addr × List Fnd × Nat) × List Trip) : Prop :=
  MetOk y.1 y.2.1 y.2.2.1 ∧ y.2.2.2.length + und W.F W.u W.v y.2.2.2 ≤ (allSpots W.F W.u W.v).length ∧ ∃ rk, Dj W.F W.u W.v (metOf y.1 y.2.2.1) y.2.2.2 rk (1000000000 * (((allSpots W.F W.u W.v).length : Int) - und W.F W.u W.v y.2.2.2)) (fun _ _ => True)

/-- What the walker holds at the end. -/
def Ran (W : Wk) (es : List (Trip × Option Addr × Nat)) (clk : Nat) (pf : List (Addr × List Fnd × Nat)) : Prop :=
  MetOk es clk pf ∧ ∃ ord rk B, ord.length ≤ 336200 ∧ Dj W.F W.u W.v (metOf es pf) ord rk B (fun _ _ => True) ∧ B ≤ 1000000000000000 ∧ ∀ y d, metOf es pf y = some d → d.dn = true

end Go.Fw

namespace Go.Fw
open Go Go.Proofs

/-- The best end so far. -/
def endF (D : Trip → Option Int) (fin : List Int) (p q : Int) : Nat → Trip × Int
  | 0 => (⟨0, 0, 0⟩, -1)
  | k + 1 => match D ⟨k, p, q⟩ with
    | none => endF D fin p q k
    | some d => if fin.getD k 0 ≠ -1 ∧ ((endF D fin p q k).2 = -1 ∨ d + fin.getD k 0 < (endF D fin p q k).2) then (⟨k, p, q⟩, d + fin.getD k 0) else endF D fin p q k

/-- The costs alone. -/
abbrev costOf (es : List (Trip × Option Addr × Nat)) (pf : List (Addr × List Fnd × Nat)) : Trip → Option Int := fun y => (metOf es pf y).map (·.cost)

end Go.Fw

namespace Go.Fw
open Go Go.Proofs

/-- The rows as they grow. -/
structure RowsK (F : TF) (rows : List Sli) (pi : List (Addr × List Int × Nat)) (k : Nat) : Prop where
  len : rows.length = F.st.toNat
  hd : ∀ s : Nat, s < F.st.toNat → Hd pi (rows.getD s EK.sli.dflt)
  row : ∀ s : Nat, s < F.st.toNat → rowA pi (rows.getD s EK.sli.dflt).a = numsK F k s
  dist : ∀ (s t : Nat) (a : Addr), s < F.st.toNat → t < F.st.toNat → s ≠ t → (rows.getD s EK.sli.dflt).a = some a → (rows.getD t EK.sli.dflt).a ≠ some a

theorem Hd.len {α : Type} {m : List (Addr × List α × Nat)} {x : Sli} (h : Hd m x) : x.n = (rowA m x.a).length := by
  unfold Hd at h
  unfold rowA
  cases hx : x.a with
  | none => rw [hx] at h; simp [h.1]
  | some a =>
    rw [hx] at h
    simp only at h ⊢
    cases hl : lkA m a with
    | none => rw [hl] at h; exact h.elim
    | some y => rw [hl] at h; simp [h.1]

theorem Hd.some {α : Type} {m : List (Addr × List α × Nat)} {x : Sli} (h : Hd m x) {a : Addr} (ha : x.a = some a) : ∃ y, lkA m a = some y ∧ x.n = y.1.length ∧ x.c ≤ y.1.length + y.2 := by
  unfold Hd at h
  rw [ha] at h
  simp only at h
  cases hl : lkA m a with
  | none => rw [hl] at h; exact h.elim
  | some y => rw [hl] at h; exact ⟨y, rfl, h⟩

theorem Hd.of_some {α : Type} {m : List (Addr × List α × Nat)} {x : Sli} {a : Addr} {y : List α × Nat} (ha : x.a = Option.some a) (hl : lkA m a = Option.some y) (h1 : x.n = y.1.length) (h2 : x.c ≤ y.1.length + y.2) : Hd m x := by
  unfold Hd
  rw [ha]
  simp only
  rw [hl]
  exact ⟨h1, h2⟩

theorem Hd.of_none {α : Type} {m : List (Addr × List α × Nat)} {x : Sli} (ha : x.a = none) (h1 : x.n = 0) (h2 : x.c = 0) : Hd m x := by
  unfold Hd
  rw [ha]
  exact ⟨h1, h2⟩

theorem getD_setJ {α : Type} (l : List α) (j : Nat) (x d : α) (s : Nat) (hj : j < l.length) : (l.set j x).getD s d = if s = j then x else l.getD s d := by
  simp only [List.getD, List.getElem?_set]
  by_cases h : j = s
  · subst h; simp [hj]
  · simp [h, Ne.symm h]

theorem rowA_some {α : Type} {m : List (Addr × List α × Nat)} {a : Addr} {y : List α × Nat} (h : lkA m a = some y) : rowA m (some a) = y.1 := by simp [rowA, h]
theorem rowA_congr {α : Type} {m m' : List (Addr × List α × Nat)} {a : Addr} (h : lkA m a = lkA m' a) : rowA m (some a) = rowA m' (some a) := by simp only [rowA, h]

theorem RowsK.step {F : TF} {rows : List Sli} {pi pi' : List (Addr × List Int × Nat)} {k j : Nat} {h' : Sli} (h : RowsK F rows pi k) (hj : j < F.st.toNat) (hf : (F.arcs.getD k EK.arc.dflt).f = j) (ha : App pi (rows.getD j EK.sli.dflt) [(k : Int)] pi' h') :
    RowsK F (rows.set j h') pi' (k + 1) := by
  have hl := h.len
  have hjr : j < rows.length := by omega
  have hne : ∀ s : Nat, s ≠ j → numsK F (k + 1) s = numsK F k s := by
    intro s hs
    rw [numsK_succ, hf, if_neg (by omega), List.append_nil]
  have hjj : numsK F (k + 1) j = numsK F k j ++ [(k : Int)] := by rw [numsK_succ, hf, if_pos rfl]
  generalize hx : rows.getD j EK.sli.dflt = x at ha
  have hdj := h.hd j hj
  have hrj := h.row j hj
  rw [hx] at hdj hrj
  cases ha with
  | stay h => cases h
  | @room a y sp h1 h2 h3 =>
    obtain ⟨y', g1, g2, g3⟩ := hdj.some h1
    rw [h2] at g1
    cases g1
    have hla : lkA (setA pi a (y.1 ++ [(k : Int)], sp)) a = some (y.1 ++ [(k : Int)], sp) := by rw [lkA_setA, h2]; simp
    have hlb : ∀ b, b ≠ a → lkA (setA pi a (y.1 ++ [(k : Int)], sp)) b = lkA pi b := by
      intro b hb
      rw [lkA_setA]
      simp only [hb, if_false]
      cases lkA pi b <;> rfl
    have hoth : ∀ s, s < F.st.toNat → s ≠ j → ∀ b, (rows.getD s EK.sli.dflt).a = some b → b ≠ a := by
      intro s hs hsj b hb e
      subst e
      exact h.dist s j b hs hj hsj hb (by rw [hx]; exact h1)
    refine ⟨by rw [List.length_set]; exact hl, ?_, ?_, ?_⟩
    · intro s hs
      rw [getD_setJ _ _ _ _ _ hjr]
      by_cases e : s = j
      · rw [if_pos e]
        refine Hd.of_some rfl hla ?_ ?_
        · simp [g2]
        · simp only [List.length_append, List.length_cons, List.length_nil]
          simp only [List.length_cons, List.length_nil] at h3
          omega
      · rw [if_neg e]
        have := h.hd s hs
        cases hsa : (rows.getD s EK.sli.dflt).a with
        | none =>
          unfold Hd at this ⊢
          rw [hsa] at this ⊢
          exact this
        | some b =>
          obtain ⟨z, k1, k2, k3⟩ := this.some hsa
          exact Hd.of_some hsa (by rw [hlb b (hoth s hs e b hsa)]; exact k1) k2 k3
    · intro s hs
      rw [getD_setJ _ _ _ _ _ hjr]
      by_cases e : s = j
      · rw [if_pos e, e, hjj, ← hrj]
        simp [rowA, hla, h1, h2]
      · rw [if_neg e, hne s e, ← h.row s hs]
        cases hsa : (rows.getD s EK.sli.dflt).a with
        | none => rfl
        | some b => exact rowA_congr (hlb b (hoth s hs e b hsa))
    · intro s t b hs ht hst hb hc
      rw [getD_setJ _ _ _ _ _ hjr] at hb hc
      by_cases es : s = j
      · rw [if_pos es] at hb
        rw [if_neg (fun e => hst (es.trans e.symm))] at hc
        simp only [Option.some.injEq] at hb
        subst hb
        exact hoth t ht (fun e => hst (es.trans e.symm)) _ hc rfl
      · rw [if_neg es] at hb
        by_cases et : t = j
        · rw [if_pos et] at hc
          simp only [Option.some.injEq] at hc
          subst hc
          exact hoth s hs es _ hb rfl
        · rw [if_neg et] at hc
          exact h.dist s t b hs ht hst hb hc
  | @fresh a sp h1 h2 =>
    have hlb : ∀ b, b ≠ a → lkA ((a, rowA pi x.a ++ [(k : Int)], sp) :: pi) b = lkA pi b := fun b hb => by simp only [lkA, if_neg (Ne.symm hb)]
    have hla : lkA ((a, rowA pi x.a ++ [(k : Int)], sp) :: pi) a = some (rowA pi x.a ++ [(k : Int)], sp) := by simp [lkA]
    have hoth : ∀ s, s < F.st.toNat → ∀ b, (rows.getD s EK.sli.dflt).a = some b → b ≠ a := by
      intro s hs b hb e
      subst e
      obtain ⟨z, k1, _⟩ := (h.hd s hs).some hb
      rw [h1] at k1
      cases k1
    refine ⟨by rw [List.length_set]; exact hl, ?_, ?_, ?_⟩
    · intro s hs
      rw [getD_setJ _ _ _ _ _ hjr]
      by_cases e : s = j
      · rw [if_pos e]
        refine Hd.of_some rfl hla ?_ ?_
        · simp [hdj.len]
        · simp [hdj.len]
      · rw [if_neg e]
        have := h.hd s hs
        cases hsa : (rows.getD s EK.sli.dflt).a with
        | none =>
          unfold Hd at this ⊢
          rw [hsa] at this ⊢
          exact this
        | some b =>
          obtain ⟨z, k1, k2, k3⟩ := this.some hsa
          exact Hd.of_some hsa (by rw [hlb b (hoth s hs b hsa)]; exact k1) k2 k3
    · intro s hs
      rw [getD_setJ _ _ _ _ _ hjr]
      by_cases e : s = j
      · rw [if_pos e, e, hjj, ← hrj]
        exact rowA_some hla
      · rw [if_neg e, hne s e, ← h.row s hs]
        cases hsa : (rows.getD s EK.sli.dflt).a with
        | none => rfl
        | some b => exact rowA_congr (hlb b (hoth s hs b hsa))
    · intro s t b hs ht hst hb hc
      rw [getD_setJ _ _ _ _ _ hjr] at hb hc
      by_cases es : s = j
      · rw [if_pos es] at hb
        rw [if_neg (fun e => hst (es.trans e.symm))] at hc
        simp only [Option.some.injEq] at hb
        subst hb
        exact hoth t ht _ hc rfl
      · rw [if_neg es] at hb
        by_cases et : t = j
        · rw [if_pos et] at hc
          simp only [Option.some.injEq] at hc
          subst hc
          exact hoth s hs _ hb rfl
        · rw [if_neg et] at hc
          exact h.dist s t b hs ht hst hb hc

theorem RowsK.zero (F : TF) : RowsK F (List.replicate F.st.toNat (⟨none, 0, 0⟩ : Sli)) [] 0 := by
  have hg : ∀ s, (List.replicate F.st.toNat (⟨none, 0, 0⟩ : Sli)).getD s EK.sli.dflt = ⟨none, 0, 0⟩ := by
    intro s
    simp only [List.getD, List.getElem?_replicate]
    split <;> rfl
  refine ⟨List.length_replicate, ?_, ?_, ?_⟩
  · intro s _; rw [hg]; exact Hd.of_none rfl rfl rfl
  · intro s _; rw [hg]; rfl
  · intro s t a _ _ _ h; rw [hg] at h; cases h

theorem RowsK.ok {F : TF} {rows : List Sli} {pi : List (Addr × List Int × Nat)} (h : RowsK F rows pi F.arcs.length) : RowsOk F rows pi :=
  ⟨h.len, fun s hs => ⟨by rw [(h.hd s hs).len, h.row s hs]; rfl, h.row s hs⟩⟩

end Go.Fw

namespace Go.Fw
open Go Go.Proofs

/-- What is wrong with what is handed to Score. -/
def scoreE (F : TF) (u v : List Int) : Int := if fstE F ≠ 0 then fstE F else if wordE u ≠ 0 then wordE u else wordE v

/-- A transducer and two words: 0 final, 1 arcs, 2 in, 3 out. -/
abbrev hpQ (F : TF) (u v : List Int) : List (Nat × SO) := [(0, .arr false 3 .int F.fin 0), (1, .arr false 35 .arc F.arcs 0), (2, .arr false 3 .int u 0), (3, .arr false 3 .int v 0)]

section
variable (F : TF) (u v : List Int) (cu cv : Nat) (rows : List Sli) (pi : List (Addr × List Int × Nat))
end

end Go.Fw

namespace Go.Fw
open Go Go.Proofs

end Go.Fw

/-
  Arcs in order, of those that are the same the least weight: told by what it is; there is one such list.
-/
namespace Go.Fw
open Go

/-- The same key. -/
def Key (a b : Arc) : Prop := a.f = b.f ∧ a.i = b.i ∧ a.o = b.o ∧ a.t = b.t

theorem aheadB_iff {a b : Arc} : aheadB a b = true ↔ a.f < b.f ∨ a.f = b.f ∧ (a.i < b.i ∨ a.i = b.i ∧ (a.o < b.o ∨ a.o = b.o ∧ a.t < b.t)) := by
  unfold aheadB
  by_cases h1 : a.f = b.f
  · by_cases h2 : a.i = b.i
    · by_cases h3 : a.o = b.o
      · by_cases h4 : a.t = b.t
        · simp [h1, h2, h3, h4]
        · simp [h1, h2, h3, h4]
      · simp [h1, h2, h3]
    · simp [h1, h2]
  · simp [h1]

theorem Key.not_ahead {a b : Arc} (h : Key a b) : aheadB a b = false := by
  rw [← Bool.not_eq_true, aheadB_iff]
  unfold Key at h
  omega

theorem Key.symm {a b : Arc} (h : Key a b) : Key b a := ⟨h.1.symm, h.2.1.symm, h.2.2.1.symm, h.2.2.2.symm⟩
theorem Key.trans {a b c : Arc} (h : Key a b) (h' : Key b c) : Key a c := ⟨h.1.trans h'.1, h.2.1.trans h'.2.1, h.2.2.1.trans h'.2.2.1, h.2.2.2.trans h'.2.2.2⟩
theorem Key.refl (a : Arc) : Key a a := ⟨rfl, rfl, rfl, rfl⟩
theorem Key.eq {a b : Arc} (h : Key a b) (hw : a.w = b.w) : a = b := by
  obtain ⟨a1, a2, a3, a4, a5⟩ := a
  obtain ⟨b1, b2, b3, b4, b5⟩ := b
  obtain ⟨h1, h2, h3, h4⟩ := h
  simp only at *
  subst h1 h2 h3 h4 hw
  rfl
/-- zs: the arcs of xs in order, of those that are the same the one that weighs least. -/
structure IsNorm (xs zs : List Arc) : Prop where
  srt : Srt zs
  sub : ∀ z ∈ zs, z ∈ xs
  cov : ∀ x ∈ xs, ∃ z ∈ zs, Key z x ∧ z.w ≤ x.w

theorem Srt.key {l : List Arc} (h : Srt l) {a b : Arc} (ha : a ∈ l) (hb : b ∈ l) (hk : Key a b) : a = b := by
  induction l with
  | nil => cases ha
  | cons x l ih =>
    unfold Srt at h
    rw [List.pairwise_cons] at h
    rw [List.mem_cons] at ha hb
    rcases ha with ha | ha
    · rcases hb with hb | hb
      · rw [ha, hb]
      · have := h.1 b hb; rw [← ha, hk.not_ahead] at this; cases this
    · rcases hb with hb | hb
      · have := h.1 a ha; rw [← hb, hk.symm.not_ahead] at this; cases this
      · exact ih h.2 ha hb

theorem Srt.ext {l m : List Arc} (hl : Srt l) (hm : Srt m) (h : ∀ a, a ∈ l ↔ a ∈ m) : l = m := by
  induction l generalizing m with
  | nil =>
    cases m with
    | nil => rfl
    | cons y m => have := (h y).2 (by simp); cases this
  | cons x l ih =>
    cases m with
    | nil => have := (h x).1 (by simp); cases this
    | cons y m =>
      unfold Srt at hl hm
      rw [List.pairwise_cons] at hl hm
      have e : x = y := by
        rcases List.mem_cons.1 ((h x).1 (by simp)) with e | hx
        · exact e
        · rcases List.mem_cons.1 ((h y).2 (by simp)) with e | hy
          · exact e.symm
          · have h1 := hl.1 y hy
            have h2 := hm.1 x hx
            rw [aheadB_asymm h1] at h2
            cases h2
      subst e
      rw [ih hl.2 hm.2]
      intro a
      constructor
      · intro ha
        rcases List.mem_cons.1 ((h a).1 (List.mem_cons_of_mem _ ha)) with rfl | h'
        · have := hl.1 a ha; rw [aheadB_irr] at this; cases this
        · exact h'
      · intro ha
        rcases List.mem_cons.1 ((h a).2 (List.mem_cons_of_mem _ ha)) with rfl | h'
        · have := hm.1 a ha; rw [aheadB_irr] at this; cases this
        · exact h'

/-- What sorting comes to. -/
def SortIs (xs zs : List Arc) : Prop := ∃ ys : List Arc, ys.Perm xs ∧ SrtOn aD ltW 0 xs.length ys ∧ zs = comp ys

/-! ### One more, put where it goes -/
theorem IsNorm.nil : IsNorm [] [] := ⟨.nil, fun z h => (by cases h), fun x h => (by cases h)⟩

theorem Srt.at {l : List Arc} (h : Srt l) {i j : Nat} (hij : i < j) (hj : j < l.length) : aheadB (l.getD i aD) (l.getD j aD) = true := by
  have := (List.pairwise_iff_getElem.1 h) i j (by omega) hj hij
  simpa [List.getD, hj, show i < l.length by omega] using this

theorem mem_getD {l : List Arc} {z : Arc} (h : z ∈ l) : ∃ i, i < l.length ∧ l.getD i aD = z := by
  obtain ⟨i, hi, e⟩ := List.getElem_of_mem h
  exact ⟨i, hi, by simp [List.getD, hi, e]⟩

/-- It is new. -/
theorem IsNorm.put {xs out : List Arc} {x : Arc} {at_ : Nat} (h : IsNorm xs out) (h2 : at_ ≤ out.length) (hb : ∀ j, at_ ≤ j → j < out.length → aheadB x (out.getD j aD) = true) (ha : at_ = 0 ∨ aheadB (out.getD (at_ - 1) aD) x = true) :
    IsNorm (xs ++ [x]) (out.take at_ ++ [x] ++ out.drop at_) := by
  have hlow : ∀ z ∈ out.take at_, aheadB z x = true := by
    intro z hz
    obtain ⟨i, hi, e⟩ := mem_getD hz
    rw [List.length_take] at hi
    have e2 : (out.take at_).getD i aD = out.getD i aD := by
      have : i < at_ := by omega
      simp [List.getD, this]
    rw [e2] at e
    rcases ha with ha | ha
    · omega
    · by_cases c : i = at_ - 1
      · rw [← e, c]; exact ha
      · rw [← e]; exact aheadB_trans (h.srt.at (by omega) (by omega)) ha
  have hup : ∀ z ∈ out.drop at_, aheadB x z = true := by
    intro z hz
    obtain ⟨i, hi, e⟩ := mem_getD hz
    rw [List.length_drop] at hi
    have e2 : (out.drop at_).getD i aD = out.getD (at_ + i) aD := by simp [List.getD]
    rw [e2] at e
    rw [← e]
    exact hb _ (by omega) (by omega)
  have hsp : Srt (out.take at_ ++ out.drop at_) := by rw [List.take_append_drop]; exact h.srt
  unfold Srt at hsp
  rw [List.pairwise_append] at hsp
  refine ⟨?_, ?_, ?_⟩
  · unfold Srt
    rw [List.append_assoc, List.pairwise_append]
    refine ⟨hsp.1, ?_, ?_⟩
    · exact List.pairwise_cons.2 ⟨fun z hz => hup z (by simpa using hz), hsp.2.1⟩
    · intro a ha' b hb'
      rcases List.mem_append.1 hb' with hb' | hb'
      · rw [List.mem_singleton] at hb'
        rw [hb']; exact hlow a ha'
      · exact hsp.2.2 a ha' b hb'
  · intro z hz
    rcases List.mem_append.1 hz with hz | hz
    · rcases List.mem_append.1 hz with hz | hz
      · exact List.mem_append_left _ (h.sub z (List.mem_of_mem_take hz))
      · exact List.mem_append_right _ hz
    · exact List.mem_append_left _ (h.sub z (List.mem_of_mem_drop hz))
  · intro u hu
    rcases List.mem_append.1 hu with hu | hu
    · obtain ⟨z, hz, hzk⟩ := h.cov u hu
      refine ⟨z, ?_, hzk⟩
      rw [← List.take_append_drop at_ out] at hz
      rcases List.mem_append.1 hz with hz | hz
      · exact List.mem_append_left _ (List.mem_append_left _ hz)
      · exact List.mem_append_right _ hz
    · rw [List.mem_singleton] at hu
      subst hu
      exact ⟨u, List.mem_append_left _ (List.mem_append_right _ (by simp)), Key.refl u, Int.le_refl _⟩

end Go.Fw

/-
  Turned: labels swapped, or the one for the other; twice swapped it is as it was.
-/
namespace Go.Fw
open Go

def invA (a : Arc) : Arc := ⟨a.f, a.o, a.i, a.t, a.w⟩
def prjA (side : Int) (a : Arc) : Arc := if side = 1 then ⟨a.f, a.i, a.i, a.t, a.w⟩ else ⟨a.f, a.o, a.o, a.t, a.w⟩
/-- Turned as R's TurnedOf does. -/
def turnA (side : Int) (a : Arc) : Arc := if side = 0 then invA a else if side = 1 then ⟨a.f, a.i, a.i, a.t, a.w⟩ else if side = 2 then ⟨a.f, a.o, a.o, a.t, a.w⟩ else a

theorem Srt.nodup {l : List Arc} (h : Srt l) : l.Nodup := by
  unfold Srt at h
  exact h.imp fun {a b} hab e => by rw [e, aheadB_irr] at hab; cases hab

theorem nodup_len {α : Type} [DecidableEq α] : ∀ (l m : List α), l.Nodup → (∀ a ∈ l, a ∈ m) → l.length ≤ m.length
  | [], m, _, _ => Nat.zero_le _
  | a :: l, m, hn, h => by
    rw [List.nodup_cons] at hn
    have ha := h a (by simp)
    have := nodup_len l (m.erase a) hn.2 (fun b hb => (List.mem_erase_of_ne (by rintro rfl; exact hn.1 hb)).2 (h b (List.mem_cons_of_mem _ hb)))
    rw [List.length_erase_of_mem ha] at this
    have : 0 < m.length := List.length_pos_of_mem ha
    simp only [List.length_cons]
    omega

theorem IsNorm.len {xs zs : List Arc} (h : IsNorm xs zs) : zs.length ≤ xs.length := nodup_len zs xs h.srt.nodup h.sub

end Go.Fw

/-
  Joined: either of two, one behind the other, again and again: the ways of what is joined.
-/
namespace Go.Fw
open Go

def shA (k : Int) (a : Arc) : Arc := ⟨a.f + k, a.i, a.o, a.t + k, a.w⟩
def silA (f t w : Int) : Arc := ⟨f, 0, 0, t, w⟩
/-- Silent arcs from the ends to a state. -/
def endsL (far to : Int) (fin : List Int) : Nat → List Arc
  | 0 => []
  | k + 1 => endsL far to fin k ++ (if fin.getD k 0 = -1 then [] else [silA (far + k) to (fin.getD k 0)])

/-- Normal: the ways are the same, but for what weighs more. -/
theorem IsNorm.way {xs zs : List Arc} (h : IsNorm xs zs) {s t : Int} {u v : List Int} {c : Int} (hw : Way xs s u v t c) : ∃ d, d ≤ c ∧ Way zs s u v t d := by
  induction hw with
  | nil s => exact ⟨0, Int.le_refl _, .nil s⟩
  | @cons a u v t c ha h2 ih =>
    obtain ⟨d, hd, hw⟩ := ih
    obtain ⟨z, hz, ⟨k1, k2, k3, k4⟩, hwz⟩ := h.cov a ha
    refine ⟨z.w + d, by omega, ?_⟩
    rw [← k1, ← k2, ← k3]
    rw [← k4] at hw
    exact .cons hz hw

/-- Costs of words over raw arcs. -/
def WtL (L : List Arc) (start : Int) (fin : List Int) (u v : List Int) (c : Int) : Prop := ∃ t d, Way L start u v t d ∧ fin.getD t.toNat 0 ≠ -1 ∧ c = d + fin.getD t.toNat 0

theorem IsNorm.min {xs : List Arc} {X : TF} (h : IsNorm xs X.arcs) {u v : List Int} {n : Int} (hn : MinOf (Wt X u v) n) : MinOf (WtL xs X.start X.fin u v) n := by
  have hup : ∀ c, WtL xs X.start X.fin u v c → ∃ d, d ≤ c ∧ Wt X u v d := by
    rintro c ⟨t, d, h1, h2, rfl⟩
    obtain ⟨e, he, hw⟩ := h.way h1
    exact ⟨e + X.fin.getD t.toNat 0, by omega, t, e, hw, h2, rfl⟩
  have hdn : ∀ c, Wt X u v c → WtL xs X.start X.fin u v c := by
    rintro c ⟨t, d, h1, h2, rfl⟩
    exact ⟨t, d, h1.mono h.sub, h2, rfl⟩
  rcases hn with ⟨rfl, h1⟩ | ⟨h0, h1, h2⟩
  · refine .inl ⟨rfl, fun c hc => ?_⟩
    obtain ⟨d, _, hd⟩ := hup c hc
    exact h1 d hd
  · refine .inr ⟨h0, hdn n h1, fun c hc => ?_⟩
    obtain ⟨d, hd, hw⟩ := hup c hc
    have := h2 d hw
    omega

theorem MinOf.cong {P Q : Int → Prop} {n : Int} (h : MinOf P n) (hpq : ∀ c, P c ↔ Q c) : MinOf Q n := by
  rcases h with ⟨rfl, h1⟩ | ⟨h0, h1, h2⟩
  · exact .inl ⟨rfl, fun c hc => h1 c ((hpq c).2 hc)⟩
  · exact .inr ⟨h0, (hpq n).1 h1, fun c hc => h2 c ((hpq c).2 hc)⟩

/-- One and then the other. -/
theorem MinOf.add {P Q : Int → Prop} {m n : Int} (hm : MinOf P m) (hn : MinOf Q n) : MinOf (fun c => ∃ a b, P a ∧ Q b ∧ c = a + b) (plus m n) := by
  unfold plus
  rcases hm with ⟨rfl, h1⟩ | ⟨h0, h1, h2⟩
  · rw [if_pos (.inl (by omega))]
    exact .inl ⟨rfl, fun c ⟨a, b, ha, _⟩ => h1 a ha⟩
  · rcases hn with ⟨rfl, g1⟩ | ⟨g0, g1, g2⟩
    · rw [if_pos (.inr (by omega))]
      exact .inl ⟨rfl, fun c ⟨a, b, _, hb, _⟩ => g1 b hb⟩
    · rw [if_neg (by omega)]
      refine .inr ⟨by omega, ⟨m, n, h1, g1, rfl⟩, ?_⟩
      rintro c ⟨a, b, ha, hb, rfl⟩
      have := h2 a ha
      have := g2 b hb
      omega

/-! ### Either -/
def eitherL (F G : TF) : List Arc := F.arcs.map (shA 1) ++ [silA 0 (1 + F.start) 0] ++ G.arcs.map (shA (1 + F.st)) ++ [silA 0 (1 + F.st + G.start) 0]

end Go.Fw

/-
  One behind the other, again and again: the ways of what is joined.
-/
namespace Go.Fw
open Go

def behindL (F G : TF) : List Arc := F.arcs.map (shA 1) ++ G.arcs.map (shA (1 + F.st)) ++ [silA 0 (1 + F.start) 0] ++ endsL 1 (1 + F.st + G.start) F.fin F.fin.length
def againL (F : TF) : List Arc := F.arcs.map (shA 1) ++ [silA 0 (1 + F.start) 0] ++ endsL 1 0 F.fin F.fin.length

/-- Two words cut in two: the first part by the one, the rest by the other. -/
def Cut2 (P Q : List Int → List Int → Int → Prop) (u v : List Int) (c : Int) : Prop := ∃ u1 u2 v1 v2 c1 c2, u = u1 ++ u2 ∧ v = v1 ++ v2 ∧ P u1 v1 c1 ∧ Q u2 v2 c2 ∧ c = c1 + c2

/-! ### Again -/
inductive Star (P : List Int → List Int → Int → Prop) : List Int → List Int → Int → Prop
  | nil : Star P [] [] 0
  | cons {u1 v1 u2 v2 : List Int} {c1 c2 : Int} (h1 : P u1 v1 c1) (h2 : Star P u2 v2 c2) : Star P (u1 ++ u2) (v1 ++ v2) (c1 + c2)

end Go.Fw

/-
  What is joined is a transducer again.
-/
namespace Go.Fw
open Go

/-! ### One arc -/
end Go.Fw

/-
  The best of all ways to cut two words; the best of any number of pieces.
-/
namespace Go.Fw
open Go

theorem MinOf.none : MinOf (fun _ => False) (-1) := .inl ⟨rfl, fun _ h => h⟩

/-! ### Cuts, one after the other -/
section
variable (P Q : List Int → List Int → Int → Prop) (u v : List Int)

def LexP (i o : Nat) (c : Int) : Prop := ∃ i' o' a b, (i' < i ∧ o' ≤ v.length ∨ i' = i ∧ o' < o) ∧ P (u.take i') (v.take o') a ∧ Q (u.drop i') (v.drop o') b ∧ c = a + b

variable {P Q u v}

end

/-! ### Any number of pieces -/
inductive StarR (P : List Int → List Int → Int → Prop) : List Int → List Int → Int → Prop
  | nil : StarR P [] [] 0
  | snoc {u1 v1 u2 v2 : List Int} {c1 c2 : Int} (h1 : StarR P u1 v1 c1) (h2 : P u2 v2 c2) : StarR P (u1 ++ u2) (v1 ++ v2) (c1 + c2)

theorem StarR.app {P : List Int → List Int → Int → Prop} {u v u' v' : List Int} {c d : Int} (h : StarR P u v c) (h' : Star P u' v' d) : StarR P (u ++ u') (v ++ v') (c + d) := by
  induction h' generalizing u v c with
  | nil => simpa using h
  | @cons u1 v1 u2 v2 c1 c2 h1 h2 ih =>
    have := ih (h.snoc h1)
    rw [← List.append_assoc, ← List.append_assoc, ← Int.add_assoc]
    exact this

theorem Star.app {P : List Int → List Int → Int → Prop} {u v u' v' : List Int} {c d : Int} (h : Star P u v c) (h' : P u' v' d) : Star P (u ++ u') (v ++ v') (c + d) := by
  induction h with
  | nil => simpa using Star.cons h' .nil
  | @cons u1 v1 u2 v2 c1 c2 h1 h2 ih =>
    rw [List.append_assoc, List.append_assoc, Int.add_assoc]
    exact .cons h1 ih

theorem StarR.pos {P : List Int → List Int → Int → Prop} (hP : ∀ u v c, P u v c → 0 ≤ c) {u v : List Int} {c : Int} (h : StarR P u v c) : 0 ≤ c := by
  induction h with
  | nil => exact Int.le_refl _
  | snoc h1 h2 ih => have := hP _ _ _ h2; omega

/-- The part of a word from a place to a place. -/
def seg (u : List Int) (a b : Nat) : List Int := (u.drop a).take (b - a)

theorem take_seg {u : List Int} {a b : Nat} (h : a ≤ b) : u.take a ++ seg u a b = u.take b := by
  unfold seg
  rw [← List.take_append_drop a (u.take b), List.take_take, Nat.min_eq_left h, List.drop_take]

/-- The table, the cells before a place done. -/
structure AgT (P : List Int → List Int → Int → Prop) (u v : List Int) (B : Int) (i o : Nat) (T : Nat → Nat → Int) : Prop where
  low : ∀ a b, a ≤ u.length → b ≤ v.length → -1 ≤ T a b ∧ T a b ≤ (a + b : Nat) * B
  snd : ∀ a b, a ≤ u.length → b ≤ v.length → 0 ≤ T a b → StarR P (u.take a) (v.take b) (T a b)
  org : T 0 0 = 0
  cpl : ∀ a b a' b' c1 c2, (a' < i ∧ b' ≤ v.length ∨ a' = i ∧ b' < o) → a' ≤ a → b' ≤ b → a ≤ u.length → b ≤ v.length → StarR P (u.take a') (v.take b') c1 → P (seg u a' a) (seg v b' b) c2 → 0 ≤ T a b ∧ T a b ≤ c1 + c2

section
variable {P : List Int → List Int → Int → Prop} {u v : List Int} {B : Int} {i o : Nat} {T : Nat → Nat → Int}

/-- What stands in a cell whose forerunners are done is the best. -/
theorem AgT.fin (h : AgT P u v B i o T) (hP : ∀ u v c, P u v c → 0 ≤ c) (hi : i ≤ u.length) (ho : o ≤ v.length) : MinOf (StarR P (u.take i) (v.take o)) (T i o) := by
  have key : ∀ x y c, StarR P x y c → x = u.take i → y = v.take o → 0 ≤ T i o ∧ T i o ≤ c := by
    intro x y c hs
    induction hs with
    | nil =>
      intro hx hy
      have h1 : i = 0 := by
        have := congrArg List.length hx
        rw [List.length_take] at this
        simp only [List.length_nil] at this
        omega
      have h2 : o = 0 := by
        have := congrArg List.length hy
        rw [List.length_take] at this
        simp only [List.length_nil] at this
        omega
      subst h1 h2
      rw [h.org]
      omega
    | @snoc u1 v1 u2 v2 c1 c2 h1 h2 ih =>
      intro hx hy
      have l1 : u1.length + u2.length = i := by
        have := congrArg List.length hx
        rw [List.length_take, List.length_append] at this
        omega
      have l2 : v1.length + v2.length = o := by
        have := congrArg List.length hy
        rw [List.length_take, List.length_append] at this
        omega
      have e1 : u1 = u.take u1.length := by
        have := congrArg (List.take u1.length) hx
        rw [List.take_left, List.take_take, Nat.min_eq_left (by omega)] at this
        exact this
      have e2 : v1 = v.take v1.length := by
        have := congrArg (List.take v1.length) hy
        rw [List.take_left, List.take_take, Nat.min_eq_left (by omega)] at this
        exact this
      have e3 : u2 = seg u u1.length i := by
        have := congrArg (List.drop u1.length) hx
        rw [List.drop_left, List.drop_take] at this
        exact this
      have e4 : v2 = seg v v1.length o := by
        have := congrArg (List.drop v1.length) hy
        rw [List.drop_left, List.drop_take] at this
        exact this
      have hc2 := hP _ _ _ h2
      by_cases q : u1.length = i ∧ v1.length = o
      · have g := ih (by rw [e1, q.1]) (by rw [e2, q.2])
        omega
      · rw [e1, e2] at h1
        rw [e3, e4] at h2
        exact h.cpl i o u1.length v1.length c1 c2 (by omega) (by omega) (by omega) hi ho h1 h2
  by_cases hn : 0 ≤ T i o
  · exact .inr ⟨hn, h.snd i o hi ho hn, fun c hc => (key _ _ c hc rfl rfl).2⟩
  · have := (h.low i o hi ho).1
    exact .inl ⟨by omega, fun c hc => hn (key _ _ c hc rfl rfl).1⟩

/-- A cell that none comes to is done with. -/
theorem AgT.skip (h : AgT P u v B i o T) (hP : ∀ u v c, P u v c → 0 ≤ c) (hi : i ≤ u.length) (ho : o ≤ v.length) (hn : T i o < 0) : AgT P u v B i (o + 1) T := by
  refine ⟨h.low, h.snd, h.org, fun a b a' b' c1 c2 hl h1 h2 h3 h4 h5 h6 => ?_⟩
  by_cases q : a' = i ∧ b' = o
  · obtain ⟨rfl, rfl⟩ := q
    rcases h.fin hP hi ho with ⟨_, g⟩ | ⟨g, _⟩
    · exact absurd h5 (g c1)
    · omega
  · exact h.cpl a b a' b' c1 c2 (by omega) h1 h2 h3 h4 h5 h6

theorem AgT.row (h : AgT P u v B i (v.length + 1) T) : AgT P u v B (i + 1) 0 T :=
  ⟨h.low, h.snd, h.org, fun a b a' b' c1 c2 hl h1 h2 h3 h4 h5 h6 => h.cpl a b a' b' c1 c2 (by omega) h1 h2 h3 h4 h5 h6⟩

/-- A cell on its way: the cells behind it, up to a place, are told. -/
structure AgW (P : List Int → List Int → Int → Prop) (u v : List Int) (B : Int) (i o x y : Nat) (t : Int) (T : Nat → Nat → Int) : Prop where
  tab : AgT P u v B i o T
  at_ : T i o = t
  don : ∀ x' y' c1 c2, (x' < x ∧ o + y' ≤ v.length ∨ x' = x ∧ y' < y) → i + x' ≤ u.length → o + y' ≤ v.length → StarR P (u.take i) (v.take o) c1 → P (seg u i (i + x')) (seg v o (o + y')) c2 → 0 ≤ T (i + x') (o + y') ∧ T (i + x') (o + y') ≤ c1 + c2

def up2 (T : Nat → Nat → Int) (a b : Nat) (n : Int) : Nat → Nat → Int := fun x y => if x = a ∧ y = b then n else T x y

theorem AgT.start (h : AgT P u v B i o T) : AgW P u v B i o 0 0 (T i o) T := ⟨h, rfl, fun x' y' c1 c2 h => by omega⟩

theorem AgW.done {t : Int} (h : AgW P u v B i o (u.length - i + 1) 0 t T) : AgT P u v B i (o + 1) T := by
  refine ⟨h.tab.low, h.tab.snd, h.tab.org, fun a b a' b' c1 c2 hl h1 h2 h3 h4 h5 h6 => ?_⟩
  by_cases q : a' = i ∧ b' = o
  · obtain ⟨rfl, rfl⟩ := q
    have e1 : a' + (a - a') = a := by omega
    have e2 : b' + (b - b') = b := by omega
    have := h.don (a - a') (b - b') c1 c2 (.inl ⟨by omega, by omega⟩) (by omega) (by omega) h5 (by rw [e1, e2]; exact h6)
    rw [e1, e2] at this
    exact this
  · exact h.tab.cpl a b a' b' c1 c2 (by omega) h1 h2 h3 h4 h5 h6

/-- One more is told. -/
theorem AgW.step {x y : Nat} {t p : Int} (h : AgW P u v B i o x y t T) (hP : ∀ u v c, P u v c → 0 ≤ c) (hB : 0 ≤ B) (ht : 0 ≤ t) (hx : i + x ≤ u.length) (hy : o + y ≤ v.length)
    (hp : MinOf (P (seg u i (i + x)) (seg v o (o + y))) p) (hpB : p ≤ B) (h00 : x = 0 → y = 0 → True) : AgW P u v B i o x (y + 1) t (up2 T (i + x) (o + y) (less (T (i + x) (o + y)) (plus t p))) := by
  have hi : i ≤ u.length := by omega
  have ho : o ≤ v.length := by omega
  have hpl := hp.low
  have hfin := h.tab.fin hP hi ho
  rw [h.at_] at hfin
  obtain ⟨hts, htl⟩ : StarR P (u.take i) (v.take o) t ∧ ∀ c, StarR P (u.take i) (v.take o) c → t ≤ c := by
    rcases hfin with ⟨g, _⟩ | ⟨_, g1, g2⟩
    · omega
    · exact ⟨g1, g2⟩
  have hTl := h.tab.low (i + x) (o + y) hx hy
  have hti := h.tab.low i o hi ho
  rw [h.at_] at hti
  -- the new value
  have hpv : (p < 0 ∧ plus t p = -1) ∨ (0 ≤ p ∧ plus t p = t + p) := by
    unfold plus
    by_cases q : p < 0
    · exact .inl ⟨q, if_pos (.inr q)⟩
    · exact .inr ⟨by omega, if_neg (by omega)⟩
  have hnew : less (T (i + x) (o + y)) (plus t p) = T (i + x) (o + y) ∨ (less (T (i + x) (o + y)) (plus t p) = t + p ∧ 0 ≤ p) := by
    rcases hpv with ⟨q, e⟩ | ⟨q, e⟩ <;> rw [e] <;> unfold less <;> (repeat' split) <;> omega
  have hle : (0 ≤ T (i + x) (o + y) → 0 ≤ less (T (i + x) (o + y)) (plus t p) ∧ less (T (i + x) (o + y)) (plus t p) ≤ T (i + x) (o + y)) ∧ (0 ≤ p → 0 ≤ less (T (i + x) (o + y)) (plus t p) ∧ less (T (i + x) (o + y)) (plus t p) ≤ t + p) := by
    rcases hpv with ⟨q, e⟩ | ⟨q, e⟩ <;> rw [e] <;> unfold less <;> (repeat' split) <;> omega
  have hat : ∀ a b, up2 T (i + x) (o + y) (less (T (i + x) (o + y)) (plus t p)) a b = if a = i + x ∧ b = o + y then less (T (i + x) (o + y)) (plus t p) else T a b := fun a b => rfl
  have hself : x = 0 → y = 0 → less (T (i + x) (o + y)) (plus t p) = t := by
    rintro rfl rfl
    rw [Nat.add_zero, Nat.add_zero, h.at_]
    rcases hpv with ⟨q, e⟩ | ⟨q, e⟩ <;> rw [e] <;> unfold less <;> (repeat' split) <;> omega
  generalize hn : less (T (i + x) (o + y)) (plus t p) = n at *
  refine ⟨⟨fun a b h1 h2 => ?_, fun a b h1 h2 h3 => ?_, ?_, fun a b a' b' c1 c2 hl h1 h2 h3 h4 h5 h6 => ?_⟩, ?_, fun x' y' c1 c2 hl h1 h2 h3 h4 => ?_⟩
  · rw [hat]
    split
    · rename_i e
      rw [e.1, e.2]
      rcases hnew with g | ⟨g, g0⟩
      · rw [g]; exact hTl
      · rw [g]
        refine ⟨by omega, ?_⟩
        by_cases q : x = 0 ∧ y = 0
        · have := hself q.1 q.2
          rw [q.1, q.2]
          simp only [Nat.add_zero]
          omega
        · have e1 : ((i + o : Nat) : Int) * B + B ≤ ((i + x + (o + y) : Nat) : Int) * B := by
            have : ((i + o : Nat) : Int) * B + B = ((i + o : Nat) + 1 : Int) * B := by rw [Int.add_mul, Int.one_mul]
            rw [this]
            exact Int.mul_le_mul_of_nonneg_right (by omega) hB
          omega
    · exact h.tab.low a b h1 h2
  · rw [hat] at h3 ⊢
    split at h3
    · rename_i e
      rw [if_pos e, e.1, e.2]
      rcases hnew with g | ⟨g, g0⟩
      · rw [g] at h3 ⊢; exact h.tab.snd _ _ hx hy h3
      · rw [g]
        have hpp : P (seg u i (i + x)) (seg v o (o + y)) p := hp.is (by omega)
        have := hts.snoc hpp
        rw [take_seg (by omega), take_seg (by omega)] at this
        exact this
    · rename_i e
      rw [if_neg e]
      exact h.tab.snd a b h1 h2 h3
  · rw [hat]
    split
    · rename_i e
      have e1 : x = 0 := by omega
      have e2 : y = 0 := by omega
      have e3 : i = 0 := by omega
      have e4 : o = 0 := by omega
      rw [hself e1 e2, ← h.at_, e3, e4]
      exact h.tab.org
    · exact h.tab.org
  · have g := h.tab.cpl a b a' b' c1 c2 hl h1 h2 h3 h4 h5 h6
    rw [hat]
    split
    · rename_i e
      rw [e.1, e.2] at g
      have := hle.1 g.1
      omega
    · exact g
  · rw [hat]
    split
    · rename_i e
      exact hself (by omega) (by omega)
    · exact h.at_
  · rw [hat]
    split
    · rename_i e
      have e1 : x' = x := by omega
      have e2 : y' = y := by omega
      subst e1 e2
      have g := hp.le h4
      have := hle.2 (by omega)
      have := htl c1 h3
      omega
    · rename_i e
      exact h.don x' y' c1 c2 (by omega) h1 h2 h3 h4
end
end Go.Fw

namespace Go.Fw
open Go Go.Proofs

abbrev onF (F : TF) : List SC := [.i F.st, .i F.start, .sl 0 1 0 F.fin.length F.capF, .sl 1 5 0 F.arcs.length F.capA]

/-- Rows in a pool, none on another. -/
structure Tab2 (m : List (Addr × List Int × Nat)) (rows : List Sli) (N : Nat) (L : Nat → List Int) : Prop where
  len : rows.length = N
  hd : ∀ j, j < N → Hd m (rows.getD j EK.sli.dflt)
  row : ∀ j, j < N → rowA m (rows.getD j EK.sli.dflt).a = L j
  dist : ∀ s t b, s < N → t < N → s ≠ t → (rows.getD s EK.sli.dflt).a = some b → (rows.getD t EK.sli.dflt).a ≠ some b

section
variable {m m' : List (Addr × List Int × Nat)} {rows : List Sli} {N : Nat} {L : Nat → List Int}

theorem keepHd {x : Sli} (h : Hd m x) (hk : ∀ b, x.a = some b → lkA m' b = lkA m b) : Hd m' x ∧ rowA m' x.a = rowA m x.a := by
  cases hx : x.a with
  | none =>
    refine ⟨?_, rfl⟩
    unfold Hd at h ⊢
    rw [hx] at h ⊢
    exact h
  | some b =>
    obtain ⟨y, h1, h2, h3⟩ := h.some hx
    have e := hk b hx
    exact ⟨Hd.of_some hx (by rw [e]; exact h1) h2 h3, rowA_congr e⟩

theorem Tab2.keep (h : Tab2 m rows N L) (hk : ∀ j b, j < N → (rows.getD j EK.sli.dflt).a = some b → lkA m' b = lkA m b) : Tab2 m' rows N L :=
  ⟨h.len, fun j hj => (keepHd (h.hd j hj) fun b hb => hk j b hj hb).1, fun j hj => by rw [(keepHd (h.hd j hj) fun b hb => hk j b hj hb).2]; exact h.row j hj, h.dist⟩

theorem Tab2.app (h : Tab2 m rows N L) {j : Nat} {n : Int} {h' : Sli} (hj : j < N) (ha : App m (rows.getD j EK.sli.dflt) [n] m' h') :
    Tab2 m' (rows.set j h') N (fun i => if i = j then L j ++ [n] else L i) := by
  have hl := h.len
  have hjr : j < rows.length := by omega
  generalize hx : rows.getD j EK.sli.dflt = x at ha
  have hdj := h.hd j hj
  have hrj := h.row j hj
  rw [hx] at hdj hrj
  cases ha with
  | stay h => cases h
  | @room a y sp h1 h2 h3 =>
    obtain ⟨y', g1, g2, g3⟩ := hdj.some h1
    rw [h2] at g1
    cases g1
    have hla : lkA (setA m a (y.1 ++ [n], sp)) a = some (y.1 ++ [n], sp) := by rw [lkA_setA, h2]; simp
    have hlb : ∀ b, b ≠ a → lkA (setA m a (y.1 ++ [n], sp)) b = lkA m b := by
      intro b hb
      rw [lkA_setA]
      simp only [hb, if_false]
      cases lkA m b <;> rfl
    have hoth : ∀ s, s < N → s ≠ j → ∀ b, (rows.getD s EK.sli.dflt).a = some b → b ≠ a := by
      intro s hs hsj b hb e
      subst e
      exact h.dist s j b hs hj hsj hb (by rw [hx]; exact h1)
    refine ⟨by rw [List.length_set]; exact hl, ?_, ?_, ?_⟩
    · intro s hs
      rw [getD_setJ _ _ _ _ _ hjr]
      by_cases e : s = j
      · rw [if_pos e]
        refine Hd.of_some rfl hla ?_ ?_
        · simp [g2]
        · simp only [List.length_append, List.length_cons, List.length_nil]
          simp only [List.length_cons, List.length_nil] at h3
          omega
      · rw [if_neg e]
        exact (keepHd (h.hd s hs) fun b hb => hlb b (hoth s hs e b hb)).1
    · intro s hs
      rw [getD_setJ _ _ _ _ _ hjr]
      by_cases e : s = j
      · rw [if_pos e, if_pos e, ← hrj, rowA_some hla, h1, rowA_some h2]
      · rw [if_neg e, if_neg e, ← h.row s hs]
        exact (keepHd (h.hd s hs) fun b hb => hlb b (hoth s hs e b hb)).2
    · intro s t b hs ht hst hb hc
      rw [getD_setJ _ _ _ _ _ hjr] at hb hc
      by_cases es : s = j
      · rw [if_pos es] at hb
        rw [if_neg (fun e => hst (es.trans e.symm))] at hc
        simp only [Option.some.injEq] at hb
        subst hb
        exact hoth t ht (fun e => hst (es.trans e.symm)) _ hc rfl
      · rw [if_neg es] at hb
        by_cases et : t = j
        · rw [if_pos et] at hc
          simp only [Option.some.injEq] at hc
          subst hc
          exact hoth s hs es _ hb rfl
        · rw [if_neg et] at hc
          exact h.dist s t b hs ht hst hb hc
  | @fresh a sp h1 h2 =>
    have hlb : ∀ b, b ≠ a → lkA ((a, rowA m x.a ++ [n], sp) :: m) b = lkA m b := fun b hb => by simp only [lkA, if_neg (Ne.symm hb)]
    have hla : lkA ((a, rowA m x.a ++ [n], sp) :: m) a = some (rowA m x.a ++ [n], sp) := by simp [lkA]
    have hoth : ∀ s, s < N → ∀ b, (rows.getD s EK.sli.dflt).a = some b → b ≠ a := by
      intro s hs b hb e
      subst e
      obtain ⟨z, k1, _⟩ := (h.hd s hs).some hb
      rw [h1] at k1
      cases k1
    refine ⟨by rw [List.length_set]; exact hl, ?_, ?_, ?_⟩
    · intro s hs
      rw [getD_setJ _ _ _ _ _ hjr]
      by_cases e : s = j
      · rw [if_pos e]
        refine Hd.of_some rfl hla ?_ ?_
        · simp [hdj.len]
        · simp [hdj.len]
      · rw [if_neg e]
        exact (keepHd (h.hd s hs) fun b hb => hlb b (hoth s hs b hb)).1
    · intro s hs
      rw [getD_setJ _ _ _ _ _ hjr]
      by_cases e : s = j
      · rw [if_pos e, if_pos e, ← hrj]
        exact rowA_some hla
      · rw [if_neg e, if_neg e, ← h.row s hs]
        exact (keepHd (h.hd s hs) fun b hb => hlb b (hoth s hs b hb)).2
    · intro s t b hs ht hst hb hc
      rw [getD_setJ _ _ _ _ _ hjr] at hb hc
      by_cases es : s = j
      · rw [if_pos es] at hb
        rw [if_neg (fun e => hst (es.trans e.symm))] at hc
        simp only [Option.some.injEq] at hb
        exact hoth t ht b hc hb.symm
      · rw [if_neg es] at hb
        by_cases et : t = j
        · rw [if_pos et] at hc
          simp only [Option.some.injEq] at hc
          exact hoth s hs b hb hc.symm
        · rw [if_neg et] at hc
          exact h.dist s t b hs ht hst hb hc

/-- A cell is set. -/
theorem Tab2.put (h : Tab2 m rows N L) {j k : Nat} {n : Int} (hj : j < N) (hk : k < (L j).length) :
    Tab2 (putA m (rows.getD j EK.sli.dflt).a k n) rows N (fun i => if i = j then (L j).set k n else L i) ∧
    ∀ b, (rows.getD j EK.sli.dflt).a ≠ some b → lkA (putA m (rows.getD j EK.sli.dflt).a k n) b = lkA m b := by
  have hrj := h.row j hj
  have hdj := h.hd j hj
  cases hx : (rows.getD j EK.sli.dflt).a with
  | none =>
    rw [hx] at hrj
    rw [← hrj] at hk
    exact absurd hk (by simp [rowA])
  | some a =>
    obtain ⟨y, g1, g2, g3⟩ := hdj.some hx
    have hy : y.1 = L j := by rw [← hrj, hx, rowA_some g1]
    have e : putA m (some a) k n = setA m a (y.1.set k n, y.2) := by unfold putA; simp [g1]
    rw [e]
    have hla : lkA (setA m a (y.1.set k n, y.2)) a = some (y.1.set k n, y.2) := by rw [lkA_setA, g1]; simp
    have hlb : ∀ b, b ≠ a → lkA (setA m a (y.1.set k n, y.2)) b = lkA m b := by
      intro b hb
      rw [lkA_setA]
      simp only [hb, if_false]
      cases lkA m b <;> rfl
    have hoth : ∀ s, s < N → s ≠ j → ∀ b, (rows.getD s EK.sli.dflt).a = some b → b ≠ a := by
      intro s hs hsj b hb e
      subst e
      exact h.dist s j b hs hj hsj hb hx
    refine ⟨⟨h.len, fun s hs => ?_, fun s hs => ?_, h.dist⟩, fun b hb => hlb b fun e => hb (by rw [e])⟩
    · by_cases e : s = j
      · subst e
        refine Hd.of_some hx hla ?_ ?_
        · show _ = (y.1.set k n).length
          rw [List.length_set]; exact g2
        · show _ ≤ (y.1.set k n).length + y.2
          rw [List.length_set]; exact g3
      · exact (keepHd (h.hd s hs) fun b hb => hlb b (hoth s hs e b hb)).1
    · by_cases e : s = j
      · subst e
        rw [if_pos rfl, hx, rowA_some hla, hy]
      · rw [if_neg e, ← h.row s hs]
        exact (keepHd (h.hd s hs) fun b hb => hlb b (hoth s hs e b hb)).2

theorem Tab2.cong (h : Tab2 m rows N L) {L' : Nat → List Int} (hL : ∀ j, j < N → L j = L' j) : Tab2 m rows N L' := ⟨h.len, h.hd, fun j hj => (h.row j hj).trans (hL j hj), h.dist⟩
end

/-- A row of a table. -/
def rowT (T : Nat → Nat → Int) (n j : Nat) : List Int := (List.range n).map (T j)
theorem rowT_len (T : Nat → Nat → Int) (n j : Nat) : (rowT T n j).length = n := by simp [rowT]
theorem rowT_set (T : Nat → Nat → Int) (n j o : Nat) (x : Int) : (rowT T n j).set o x = rowT (up2 T j o x) n j := by
  apply List.ext_getElem
  · simp [rowT]
  · intro k h1 h2
    simp only [rowT, List.getElem_set, List.getElem_map, List.getElem_range, up2]
    by_cases e : o = k
    · subst e; simp
    · rw [if_neg e, if_neg (fun c => e c.2.symm)]
theorem rowT_other (T : Nat → Nat → Int) (n : Nat) {a j : Nat} (o : Nat) (x : Int) (h : j ≠ a) : rowT (up2 T a o x) n j = rowT T n j := by
  unfold rowT
  apply List.map_congr_left
  intro k _
  unfold up2
  rw [if_neg (fun c => h c.1)]

/-- The table of the best of all, in a pool. -/
theorem Tab2.upd {m : List (Addr × List Int × Nat)} {rows : List Sli} {N n : Nat} {T : Nat → Nat → Int} (h : Tab2 m rows N (rowT T n)) {j k : Nat} {x : Int} (hj : j < N) (hk : k < n) :
    Tab2 (putA m (rows.getD j EK.sli.dflt).a k x) rows N (rowT (up2 T j k x) n) ∧ ∀ b, (rows.getD j EK.sli.dflt).a ≠ some b → lkA (putA m (rows.getD j EK.sli.dflt).a k x) b = lkA m b := by
  obtain ⟨h1, h2⟩ := h.put (n := x) hj (by rw [rowT_len]; exact hk)
  refine ⟨h1.cong fun i hi => ?_, h2⟩
  by_cases e : i = j
  · subst e; rw [if_pos rfl, rowT_set]
  · rw [if_neg e, rowT_other T n k x e]
end Go.Fw
