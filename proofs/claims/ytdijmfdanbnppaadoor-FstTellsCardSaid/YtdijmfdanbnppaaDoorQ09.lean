/-
  The way of least cost from spot to spot.
-/
import Derived.Test.YtdijmfdanbnppaaDoorQ08
import Derived.Test.YtdijmfdanbnppaaDoorQ05

set_option linter.unusedSimpArgs false
set_option linter.unusedVariables false

namespace Go.Fw
open Go

/-- From a spot by an arc. -/
def Edge (F : TF) (u v : List Int) (x : Trip) (n : Nat) (y : Trip) (w : Int) : Prop :=
  ∃ a, F.arcs[n]? = some a ∧ a.f = x.a ∧ (fitE u x.b a.i).2 = true ∧ (fitE v x.c a.o).2 = true ∧ y = ⟨a.t, (fitE u x.b a.i).1, (fitE v x.c a.o).1⟩ ∧ w = a.w

def st0 (F : TF) : Trip := ⟨F.start, 0, 0⟩

def InBox (F : TF) (u v : List Int) (x : Trip) : Prop := (0 ≤ x.a ∧ x.a < F.st) ∧ (0 ≤ x.b ∧ x.b ≤ u.length) ∧ (0 ≤ x.c ∧ x.c ≤ v.length)

theorem fitE_box {l : List Int} {p x : Int} (hp : 0 ≤ p ∧ p ≤ l.length) (h : (fitE l p x).2 = true) : 0 ≤ (fitE l p x).1 ∧ (fitE l p x).1 ≤ l.length := by
  unfold fitE at h ⊢
  split at h
  · rename_i e; rw [if_pos e]; exact hp
  · rename_i e
    rw [if_neg e]
    simp only [decide_eq_true_eq] at h
    constructor
    · show 0 ≤ p + 1
      omega
    · show p + 1 ≤ _
      omega

section
variable {F : TF} {u v : List Int}

theorem Edge.box (hF : FOk F) {x y : Trip} {n : Nat} {w : Int} (h : Edge F u v x n y w) (hx : InBox F u v x) : InBox F u v y := by
  obtain ⟨a, h1, h2, h3, h4, rfl, rfl⟩ := h
  have ha := hF.arc a (List.mem_of_getElem? h1)
  exact ⟨⟨ha.t0, ha.t1⟩, fitE_box hx.2.1 h3, fitE_box hx.2.2 h4⟩

theorem Edge.wt (hF : FOk F) {x y : Trip} {n : Nat} {w : Int} (h : Edge F u v x n y w) : 0 ≤ w ∧ w ≤ 1000000000 := by
  obtain ⟨a, h1, h2, h3, h4, rfl, rfl⟩ := h
  have ha := hF.arc a (List.mem_of_getElem? h1)
  exact ⟨ha.w0, ha.w1⟩

theorem Edge.fn {x y y' : Trip} {n : Nat} {w w' : Int} (h : Edge F u v x n y w) (h' : Edge F u v x n y' w') : y = y' ∧ w = w' := by
  obtain ⟨a, h1, h2, h3, h4, rfl, rfl⟩ := h
  obtain ⟨a', h1', h2', h3', h4', rfl, rfl⟩ := h'
  rw [h1] at h1'
  cases h1'
  exact ⟨rfl, rfl⟩

/-- What comes of one arc. -/
theorem stepD_cases {x : Trip} {cost : Int} {D : Trip → Option Fnd} {k : Nat} {a : Arc} (hk : F.arcs[k]? = some a) (hf : a.f = x.a) :
    (stepD F u v x cost D k = D ∧ ∀ y w, Edge F u v x k y w → ∃ d, D y = some d ∧ d.cost ≤ cost + w) ∨
    ∃ y w, Edge F u v x k y w ∧ stepD F u v x cost D k = updD D y ⟨cost + w, k, x.a, x.b, x.c, false⟩ ∧ ∀ d, D y = some d → cost + w < d.cost := by
  have har : F.arcs.getD (k : Int).toNat EK.arc.dflt = a := by rw [Int.toNat_natCast]; simp [List.getD, hk]
  cases h1 : (fitE u x.b a.i).2 with
  | false =>
    refine .inl ⟨stepD_no1 har (by rw [h1]; rfl), ?_⟩
    rintro y w ⟨b, g1, g2, g3, g4, _⟩
    rw [hk] at g1
    cases g1
    rw [h1] at g3
    cases g3
  | true =>
    cases h2 : (fitE v x.c a.o).2 with
    | false =>
      refine .inl ⟨stepD_no2 har (by rw [h2]; rfl), ?_⟩
      rintro y w ⟨b, g1, g2, g3, g4, _⟩
      rw [hk] at g1
      cases g1
      rw [h2] at g4
      cases g4
    | true =>
      have he : Edge F u v x k ⟨a.t, (fitE u x.b a.i).1, (fitE v x.c a.o).1⟩ a.w := ⟨a, hk, hf, h1, h2, rfl, rfl⟩
      cases h3 : D ⟨a.t, (fitE u x.b a.i).1, (fitE v x.c a.o).1⟩ with
      | none => exact .inr ⟨_, _, he, stepD_new har (by rw [h1]; rfl) (by rw [h2]; rfl) h3, fun d hd => by rw [h3] at hd; cases hd⟩
      | some d =>
        by_cases h4 : cost + a.w < d.cost
        · exact .inr ⟨_, _, he, stepD_less har (by rw [h1]; rfl) (by rw [h2]; rfl) h3 h4, fun d' hd => by rw [h3] at hd; cases hd; exact h4⟩
        · refine .inl ⟨stepD_keep har (by rw [h1]; rfl) (by rw [h2]; rfl) h3 h4, ?_⟩
          intro y w h
          obtain ⟨rfl, rfl⟩ := he.fn h
          exact ⟨d, h3, by omega⟩

/-- What holds between the rounds. -/
structure Dj (F : TF) (u v : List Int) (D : Trip → Option Fnd) (ord : List Trip) (rk : Trip → Nat) (B : Int) (Q : Trip → Nat → Prop) : Prop where
  start : ∃ c, D (st0 F) = some c ∧ c.cost = 0
  rng : ∀ y d, D y = some d → InBox F u v y
  dn : ∀ y d, D y = some d → (d.dn = true ↔ y ∈ ord)
  mem : ∀ y ∈ ord, ∃ d, D y = some d
  cost : ∀ y d, D y = some d → 0 ≤ d.cost ∧ d.cost ≤ B
  closed : ∀ z ∈ ord, ∀ c, D z = some c → ∀ n y w, Q z n → Edge F u v z n y w → ∃ d, D y = some d ∧ d.cost ≤ c.cost + w
  mono : ∀ z ∈ ord, ∀ c, D z = some c → ∀ y d, D y = some d → y ∉ ord → c.cost ≤ d.cost
  rkl : ∀ y ∈ ord, rk y < ord.length
  by' : ∀ y d, D y = some d → (y = st0 F ∧ d.cost = 0 ∧ d.arc = -1) ∨ ∃ (n : Nat) (x : Trip) (c : Fnd) (w : Int), d.arc = (n : Int) ∧ d.s = x.a ∧ d.i = x.b ∧ d.o = x.c ∧ x ∈ ord ∧ D x = some c ∧ Edge F u v x n y w ∧ d.cost = c.cost + w ∧ (y ∈ ord → rk x < rk y)

/-- The nearest spot is done. -/
def mark (D : Trip → Option Fnd) (x : Trip) (c : Fnd) : Trip → Option Fnd := updD D x { c with dn := true }

theorem updD_same {D : Trip → Option Fnd} {y : Trip} {e : Fnd} : updD D y e y = some e := by simp [updD]
theorem updD_ne {D : Trip → Option Fnd} {y z : Trip} {e : Fnd} (h : z ≠ y) : updD D y e z = D z := by simp [updD, h]

theorem mark_some {D : Trip → Option Fnd} {x : Trip} {c : Fnd} (hx : D x = some c) {y : Trip} {d : Fnd} (h : mark D x c y = some d) : ∃ d', D y = some d' ∧ d.cost = d'.cost ∧ d.arc = d'.arc ∧ d.s = d'.s ∧ d.i = d'.i ∧ d.o = d'.o ∧ (y = x → d.dn = true) ∧ (y ≠ x → d = d') := by
  by_cases e : y = x
  · subst e
    unfold mark at h
    rw [updD_same] at h
    cases h
    exact ⟨c, hx, rfl, rfl, rfl, rfl, rfl, fun _ => rfl, fun h => absurd rfl h⟩
  · unfold mark at h
    rw [updD_ne e] at h
    exact ⟨d, h, rfl, rfl, rfl, rfl, rfl, fun h => absurd h e, fun _ => rfl⟩

theorem mark_of {D : Trip → Option Fnd} {x : Trip} {c : Fnd} (hx : D x = some c) {y : Trip} {d : Fnd} (h : D y = some d) : ∃ d', mark D x c y = some d' ∧ d'.cost = d.cost := by
  by_cases e : y = x
  · subst e
    rw [hx] at h
    cases h
    exact ⟨_, updD_same, rfl⟩
  · exact ⟨d, by unfold mark; rw [updD_ne e]; exact h, rfl⟩

theorem Dj.mark {D : Trip → Option Fnd} {ord : List Trip} {rk : Trip → Nat} {B : Int} (h : Dj F u v D ord rk B (fun _ _ => True)) {x : Trip} {c : Fnd} (hx : D x = some c) (hd : c.dn = false) (hmin : ∀ y d, D y = some d → d.dn = false → c.cost ≤ d.cost) :
    Dj F u v (mark D x c) (ord ++ [x]) (fun z => if z = x then ord.length else rk z) B (fun z _ => z ≠ x) ∧ (∀ z ∈ ord ++ [x], ∀ d, mark D x c z = some d → d.cost ≤ c.cost) := by
  have hxn : x ∉ ord := fun hm => by have := (h.dn x c hx).2 hm; rw [hd] at this; cases this
  have hno : ∀ y d, D y = some d → y ∉ ord → d.dn = false := by
    intro y d hy hn
    cases hdn : d.dn with
    | false => rfl
    | true => exact absurd ((h.dn y d hy).1 hdn) hn
  constructor
  · constructor
    · obtain ⟨c0, h1, h2⟩ := h.start
      obtain ⟨d, h3, h4⟩ := mark_of hx h1
      exact ⟨d, h3, by rw [h4, h2]⟩
    · intro y d hy
      obtain ⟨d', h1, _⟩ := mark_some hx hy
      exact h.rng y d' h1
    · intro y d hy
      obtain ⟨d', h1, h2, _, _, _, _, h3, h4⟩ := mark_some hx hy
      by_cases e : y = x
      · simp [h3 e, e]
      · have := h4 e
        subst this
        rw [h.dn y d h1]
        simp [e]
    · intro y hy
      rcases List.mem_append.1 hy with hy | hy
      · obtain ⟨d, hd⟩ := h.mem y hy
        obtain ⟨d', hd', _⟩ := mark_of hx hd
        exact ⟨d', hd'⟩
      · rw [List.mem_singleton.1 hy]
        exact ⟨_, updD_same⟩
    · intro y d hy
      obtain ⟨d', h1, h2, _⟩ := mark_some hx hy
      rw [h2]
      exact h.cost y d' h1
    · intro z hz cz hcz n y w hq he
      rcases List.mem_append.1 hz with hz | hz
      · obtain ⟨d', h1, h2, _⟩ := mark_some hx hcz
        obtain ⟨d, h3, h4⟩ := h.closed z hz d' h1 n y w trivial he
        obtain ⟨d2, h5, h6⟩ := mark_of hx h3
        exact ⟨d2, h5, by omega⟩
      · exact absurd (List.mem_singleton.1 hz) hq
    · intro z hz cz hcz y d hy hyn
      simp only [List.mem_append, List.mem_singleton, not_or] at hyn
      obtain ⟨d', h1, h2, _⟩ := mark_some hx hcz
      obtain ⟨e', g1, g2, _⟩ := mark_some hx hy
      rw [h2, g2]
      rcases List.mem_append.1 hz with hz | hz
      · exact h.mono z hz d' h1 y e' g1 hyn.1
      · rw [List.mem_singleton.1 hz, hx] at h1
        cases h1
        exact hmin y e' g1 (hno y e' g1 hyn.1)
    · intro y hy
      simp only [List.length_append, List.length_cons, List.length_nil]
      split
      · omega
      · rename_i hne
        rcases List.mem_append.1 hy with hy | hy
        · have := h.rkl y hy; omega
        · exact absurd (List.mem_singleton.1 hy) hne
    · intro y d hy
      obtain ⟨d', h1, h2, h2a, h2b, h2c, h2d, _⟩ := mark_some hx hy
      rcases h.by' y d' h1 with ⟨g1, g2, g3⟩ | ⟨n, z, cz, w, g1, g2, g3, g4, g5, g6, g7, g8, g9⟩
      · exact .inl ⟨g1, by rw [h2, g2], by rw [h2a, g3]⟩
      · obtain ⟨cz', k1, k2⟩ := mark_of hx g6
        have hzx : z ≠ x := fun e => hxn (e ▸ g5)
        refine .inr ⟨n, z, cz', w, by rw [h2a, g1], by rw [h2b, g2], by rw [h2c, g3], by rw [h2d, g4], List.mem_append_left _ g5, k1, g7, by rw [h2, g8, k2], fun hy2 => ?_⟩
        rw [if_neg hzx]
        by_cases e : y = x
        · rw [if_pos e]; exact h.rkl z g5
        · rw [if_neg e]
          rcases List.mem_append.1 hy2 with hy2 | hy2
          · exact g9 hy2
          · exact absurd (List.mem_singleton.1 hy2) e
  · intro z hz d hzd
    obtain ⟨d', h1, h2, _⟩ := mark_some hx hzd
    rw [h2]
    rcases List.mem_append.1 hz with hz | hz
    · exact h.mono z hz d' h1 x c hx hxn
    · rw [List.mem_singleton.1 hz, hx] at h1
      cases h1
      exact Int.le_refl _

/-- One arc of the nearest spot. -/
theorem Dj.step (hF : FOk F) {D : Trip → Option Fnd} {ord : List Trip} {rk : Trip → Nat} {B : Int} {Q : Trip → Nat → Prop} (h : Dj F u v D ord rk B Q) {x : Trip} {c : Fnd} (hx : D x = some c) (hxo : x ∈ ord) (hmax : ∀ z ∈ ord, ∀ d, D z = some d → d.cost ≤ c.cost)
    (hB : c.cost + 1000000000 ≤ B) {k : Nat} {a : Arc} (hk : F.arcs[k]? = some a) (hf : a.f = x.a) :
    Dj F u v (stepD F u v x c.cost D k) ord rk B (fun z n => Q z n ∨ (z = x ∧ n = k)) ∧ stepD F u v x c.cost D k x = some c ∧ (∀ z ∈ ord, ∀ d, stepD F u v x c.cost D k z = some d → d.cost ≤ c.cost) := by
  rcases stepD_cases (u := u) (v := v) (cost := c.cost) (D := D) hk hf with ⟨e, hcl⟩ | ⟨y, w, he, e, hless⟩
  · rw [e]
    refine ⟨⟨h.start, h.rng, h.dn, h.mem, h.cost, ?_, h.mono, h.rkl, h.by'⟩, hx, hmax⟩
    rintro z hz cz hcz n y w (hq | ⟨rfl, rfl⟩) hed
    · exact h.closed z hz cz hcz n y w hq hed
    · rw [hx] at hcz
      cases hcz
      exact hcl y w hed
  · rw [e]
    have hw := he.wt hF
    have hyo : y ∉ ord := by
      intro hy
      obtain ⟨d, hd⟩ := h.mem y hy
      have h1 := hless d hd
      have h2 := hmax y hy d hd
      omega
    have hyx : x ≠ y := fun e => hyo (e ▸ hxo)
    have hord : ∀ z ∈ ord, updD D y ⟨c.cost + w, k, x.a, x.b, x.c, false⟩ z = D z := fun z hz => updD_ne (fun e => hyo (e ▸ hz))
    have hc0 := h.cost x c hx
    refine ⟨⟨?_, ?_, ?_, ?_, ?_, ?_, ?_, h.rkl, ?_⟩, by rw [hord x hxo]; exact hx, fun z hz d hd => hmax z hz d (by rw [← hord z hz]; exact hd)⟩
    · obtain ⟨c0, h1, h2⟩ := h.start
      have : st0 F ≠ y := fun e => by
        have := hless c0 (by rw [← e]; exact h1)
        omega
      exact ⟨c0, by rw [updD_ne this]; exact h1, h2⟩
    · intro z d hz
      by_cases ez : z = y
      · subst ez; exact he.box hF (h.rng x c hx)
      · rw [updD_ne ez] at hz; exact h.rng z d hz
    · intro z d hz
      by_cases ez : z = y
      · subst ez
        rw [updD_same] at hz
        cases hz
        simp [hyo]
      · rw [updD_ne ez] at hz; exact h.dn z d hz
    · intro z hz
      rw [hord z hz]; exact h.mem z hz
    · intro z d hz
      by_cases ez : z = y
      · subst ez
        rw [updD_same] at hz
        cases hz
        simp only
        omega
      · rw [updD_ne ez] at hz; exact h.cost z d hz
    · intro z hz cz hcz n y2 w2 hq hed
      rw [hord z hz] at hcz
      by_cases ey : y2 = y
      · subst ey
        refine ⟨_, updD_same, ?_⟩
        show c.cost + w ≤ cz.cost + w2
        rcases hq with hq | ⟨rfl, rfl⟩
        · obtain ⟨d, h1, h2⟩ := h.closed z hz cz hcz n y2 w2 hq hed
          have := hless d h1
          omega
        · rw [hx] at hcz
          cases hcz
          have := (he.fn hed).2
          omega
      · rw [updD_ne ey]
        rcases hq with hq | ⟨rfl, rfl⟩
        · exact h.closed z hz cz hcz n y2 w2 hq hed
        · exact absurd (he.fn hed).1.symm ey
    · intro z hz cz hcz y2 d hy2 hn
      rw [hord z hz] at hcz
      by_cases ey : y2 = y
      · subst ey
        rw [updD_same] at hy2
        cases hy2
        have := hmax z hz cz hcz
        show cz.cost ≤ c.cost + w
        omega
      · rw [updD_ne ey] at hy2
        exact h.mono z hz cz hcz y2 d hy2 hn
    · intro y2 d hy2
      by_cases ey : y2 = y
      · subst ey
        rw [updD_same] at hy2
        cases hy2
        exact .inr ⟨k, x, c, w, rfl, rfl, rfl, rfl, hxo, by rw [hord x hxo]; exact hx, he, rfl, fun hm => absurd hm hyo⟩
      · rw [updD_ne ey] at hy2
        rcases h.by' y2 d hy2 with g | ⟨n, z, cz, w', g1, g2, g3, g4, g5, g6, g7⟩
        · exact .inl g
        · exact .inr ⟨n, z, cz, w', g1, g2, g3, g4, g5, by rw [hord z g5]; exact g6, g7⟩

end
end Go.Fw

/-
  The way of least cost: rounds, the end.
-/
namespace Go.Fw
open Go

/-- The numbers of the first arcs that go from a state. -/
def numsK (F : TF) (k : Nat) (s : Int) : List Int := ((List.range k).filter fun j => decide ((F.arcs.getD j EK.arc.dflt).f = s)).map Int.ofNat
def numsOf (F : TF) (s : Int) : List Int := numsK F F.arcs.length s

theorem numsK_succ (F : TF) (k : Nat) (s : Int) : numsK F (k + 1) s = numsK F k s ++ if (F.arcs.getD k EK.arc.dflt).f = s then [(k : Int)] else [] := by
  unfold numsK
  rw [List.range_succ, List.filter_append, List.map_append]
  congr 1
  by_cases h : (F.arcs.getD k EK.arc.dflt).f = s
  · rw [if_pos h, List.filter_cons_of_pos (by simpa using h)]
    rfl
  · rw [if_neg h, List.filter_cons_of_neg (by simpa using h)]
    rfl

theorem numsK_mem {F : TF} {k : Nat} {s n : Int} : n ∈ numsK F k s ↔ ∃ j : Nat, n = j ∧ j < k ∧ (F.arcs.getD j EK.arc.dflt).f = s := by
  unfold numsK
  simp only [List.mem_map, List.mem_filter, List.mem_range, decide_eq_true_eq]
  constructor
  · rintro ⟨j, ⟨h1, h2⟩, rfl⟩; exact ⟨j, rfl, h1, h2⟩
  · rintro ⟨j, rfl, h1, h2⟩; exact ⟨j, ⟨h1, h2⟩, rfl⟩

section
variable {F : TF} {u v : List Int}

theorem Dj.weak {D : Trip → Option Fnd} {ord : List Trip} {rk : Trip → Nat} {B B' : Int} {Q Q' : Trip → Nat → Prop} (h : Dj F u v D ord rk B Q) (hB : B ≤ B') (hQ : ∀ z ∈ ord, ∀ n y w, Edge F u v z n y w → Q' z n → Q z n) : Dj F u v D ord rk B' Q' :=
  ⟨h.start, h.rng, h.dn, h.mem, fun y d hy => ⟨(h.cost y d hy).1, Int.le_trans (h.cost y d hy).2 hB⟩, fun z hz c hc n y w hq he => h.closed z hz c hc n y w (hQ z hz n y w he hq) he, h.mono, h.rkl, h.by'⟩

theorem Dj.on (hF : FOk F) {x : Trip} {c : Fnd} {ord : List Trip} {rk : Trip → Nat} {B : Int} (hxo : x ∈ ord) (hB : c.cost + 1000000000 ≤ B) : ∀ (ns : List Int) (D : Trip → Option Fnd) (Q : Trip → Nat → Prop), Dj F u v D ord rk B Q → D x = some c → (∀ z ∈ ord, ∀ d, D z = some d → d.cost ≤ c.cost) →
    (∀ n ∈ ns, ∃ j : Nat, n = j ∧ j < F.arcs.length ∧ (F.arcs.getD j EK.arc.dflt).f = x.a) →
    Dj F u v (onD F u v x c.cost D ns) ord rk B (fun z n => Q z n ∨ (z = x ∧ (n : Int) ∈ ns)) ∧ onD F u v x c.cost D ns x = some c
  | [], D, Q, h, hx, hmax, _ => ⟨h.weak (Int.le_refl _) (fun z _ n y w _ hq => by rcases hq with hq | ⟨_, hq⟩; exact hq; cases hq), hx⟩
  | n :: ns, D, Q, h, hx, hmax, hn => by
    obtain ⟨j, rfl, h1, h2⟩ := hn n (List.mem_cons_self ..)
    have hk : F.arcs[j]? = some (F.arcs.getD j EK.arc.dflt) := by simp [List.getD, h1]
    obtain ⟨g1, g2, g3⟩ := h.step hF hx hxo hmax hB hk h2
    obtain ⟨g4, g5⟩ := Dj.on hF hxo hB ns _ _ g1 g2 g3 (fun n hn' => hn n (List.mem_cons_of_mem _ hn'))
    refine ⟨g4.weak (Int.le_refl _) (fun z _ n y w _ hq => ?_), g5⟩
    rcases hq with hq | ⟨hz, hq⟩
    · exact .inl (.inl hq)
    · rcases List.mem_cons.1 hq with hq | hq
      · exact .inl (.inr ⟨hz, by omega⟩)
      · exact .inr ⟨hz, hq⟩

/-- A round. -/
theorem Dj.round (hF : FOk F) {D : Trip → Option Fnd} {ord : List Trip} {rk : Trip → Nat} {B B' : Int} (h : Dj F u v D ord rk B (fun _ _ => True)) {x : Trip} {c : Fnd} (hx : D x = some c) (hd : c.dn = false) (hmin : ∀ y d, D y = some d → d.dn = false → c.cost ≤ d.cost)
    (hB1 : B ≤ B') (hB : c.cost + 1000000000 ≤ B') : ∃ rk', Dj F u v (onD F u v x c.cost (Fw.mark D x c) (numsOf F x.a)) (ord ++ [x]) rk' B' (fun _ _ => True) := by
  obtain ⟨h1, h2⟩ := h.mark hx hd hmin
  have h1' := h1.weak (Q' := fun z _ => z ≠ x) hB1 (fun _ _ _ _ _ _ h => h)
  have := Dj.on hF (c := { c with dn := true }) (List.mem_append_right ord (List.mem_singleton.2 rfl)) hB (numsOf F x.a) _ _ h1' updD_same h2 (fun n hn => numsK_mem.1 hn)
  refine ⟨_, this.1.weak (Int.le_refl _) (fun z hz n y w he _ => ?_)⟩
  by_cases e : z = x
  · subst e
    refine .inr ⟨rfl, ?_⟩
    obtain ⟨a, g1, g2, _⟩ := he
    have := (List.getElem?_eq_some_iff.1 g1).1
    exact numsK_mem.2 ⟨n, rfl, this, by simp [List.getD, g1, g2]⟩
  · exact .inl e

def D0 (F : TF) : Trip → Option Fnd := updD (fun _ => none) (st0 F) ⟨0, -1, 0, 0, 0, false⟩

theorem Dj.zero (hF : FOk F) : Dj F u v (D0 F) [] (fun _ => 0) 0 (fun _ _ => True) := by
  have hs := hF.start
  have key : ∀ y d, D0 F y = some d → y = st0 F ∧ d = ⟨0, -1, 0, 0, 0, false⟩ := by
    intro y d h
    unfold D0 updD at h
    split at h
    · rename_i e; cases h; exact ⟨e, rfl⟩
    · cases h
  refine ⟨⟨_, updD_same, rfl⟩, ?_, ?_, ?_, ?_, ?_, ?_, ?_, ?_⟩
  · intro y d h
    obtain ⟨rfl, rfl⟩ := key y d h
    refine ⟨hs, ⟨Int.le_refl _, ?_⟩, ⟨Int.le_refl _, ?_⟩⟩ <;> (simp only [st0]; omega)
  · intro y d h
    obtain ⟨rfl, rfl⟩ := key y d h
    simp
  · intro y h; cases h
  · intro y d h
    obtain ⟨rfl, rfl⟩ := key y d h
    exact ⟨Int.le_refl _, Int.le_refl _⟩
  · intro z h; cases h
  · intro z h; cases h
  · intro z h; cases h
  · intro y d h
    obtain ⟨rfl, rfl⟩ := key y d h
    exact .inl ⟨rfl, rfl, rfl⟩

/-- A way of some cost. -/
inductive Reach (F : TF) (u v : List Int) (S : Trip → Int → Prop) : Int → Trip → Prop
  | here {x : Trip} {c : Int} (h : S x c) : Reach F u v S c x
  | on {x y : Trip} {c w : Int} {n : Nat} (h : Reach F u v S c x) (he : Edge F u v x n y w) : Reach F u v S (c + w) y

structure IsLeast (F : TF) (u v : List Int) (S : Trip → Int → Prop) (A : Trip → Option Int) : Prop where
  path : ∀ y c, A y = some c → Reach F u v S c y
  least : ∀ c y, Reach F u v S c y → ∃ c', A y = some c' ∧ c' ≤ c

theorem IsLeast.eq {S : Trip → Int → Prop} {A B : Trip → Option Int} (hA : IsLeast F u v S A) (hB : IsLeast F u v S B) : A = B := by
  funext y
  cases ha : A y with
  | none =>
    cases hb : B y with
    | none => rfl
    | some c =>
      obtain ⟨c', h, _⟩ := hA.least _ _ (hB.path y c hb)
      rw [ha] at h
      cases h
  | some c =>
    obtain ⟨c1, h1, h2⟩ := hB.least _ _ (hA.path y c ha)
    obtain ⟨c2, h3, h4⟩ := hA.least _ _ (hB.path y c1 h1)
    rw [ha] at h3
    cases h3
    rw [h1]
    congr 1
    omega

/-- From the start, for nothing. -/
def fromSt (F : TF) : Trip → Int → Prop := fun x c => x = st0 F ∧ c = 0

/-- What came at the end. -/
theorem Dj.least {D : Trip → Option Fnd} {ord : List Trip} {rk : Trip → Nat} {B : Int} (h : Dj F u v D ord rk B (fun _ _ => True)) (hall : ∀ y d, D y = some d → d.dn = true) : IsLeast F u v (fromSt F) (fun y => (D y).map (·.cost)) := by
  have hm : ∀ y d, D y = some d → y ∈ ord := fun y d hy => (h.dn y d hy).1 (hall y d hy)
  constructor
  · have : ∀ (k : Nat) (y : Trip) (d : Fnd), rk y < k → D y = some d → Reach F u v (fromSt F) d.cost y := by
      intro k
      induction k with
      | zero => intro y d hk; omega
      | succ k ih =>
        intro y d hk hy
        rcases h.by' y d hy with ⟨g1, g2, _⟩ | ⟨n, z, cz, w, _, _, _, _, g5, g6, g7, g8, g9⟩
        · exact .here ⟨g1, g2⟩
        · rw [g8]
          exact .on (ih z cz (by have := g9 (hm y d hy); omega) g6) g7
    intro y c hy
    obtain ⟨d, hd, rfl⟩ := Option.map_eq_some_iff.1 hy
    exact this (rk y + 1) y d (Nat.lt_succ_self _) hd
  · intro c y hr
    induction hr with
    | here hs =>
      obtain ⟨rfl, rfl⟩ := hs
      obtain ⟨c0, h1, h2⟩ := h.start
      exact ⟨c0.cost, by simp [h1], by omega⟩
    | on hr he ih =>
      obtain ⟨c', h1, h2⟩ := ih
      obtain ⟨d, h3, rfl⟩ := Option.map_eq_some_iff.1 h1
      obtain ⟨e, h4, h5⟩ := h.closed _ (hm _ d h3) d h3 _ _ _ trivial he
      exact ⟨e.cost, by simp [h4], by omega⟩
end
end Go.Fw

namespace Go.Fw
open Go Go.Proofs

/-- All spots there may be. -/
def allSpots (F : TF) (u v : List Int) : List Trip := (List.range F.st.toNat).flatMap fun (s : Nat) => (List.range (u.length + 1)).flatMap fun (i : Nat) => (List.range (v.length + 1)).map fun (o : Nat) => (⟨(s : Int), (i : Int), (o : Int)⟩ : Trip)

/-- How many spots are not done. -/
def und (F : TF) (u v : List Int) (ord : List Trip) : Nat := ((allSpots F u v).filter fun x => decide (x ∉ ord)).length

/-- The rows hold the numbers of the arcs. -/
structure RowsOk (F : TF) (rows : List Sli) (pi : List (Addr × List Int × Nat)) : Prop where
  len : rows.length = F.st.toNat
  row : ∀ s : Nat, s < F.st.toNat → (rows.getD s EK.sli.dflt).n = (numsOf F s).length ∧ rowA pi (rows.getD s EK.sli.dflt).a = numsOf F s

section
variable {es : List (Trip × Option Addr × Nat)} {clk : Nat} {pf : List (Addr × List Fnd × Nat)}

theorem lkA_put {a : Addr} {f e : Fnd} (h : lkA pf a = some ([f], 0)) (b : Addr) : lkA (putA pf (some a) 0 e) b = if b = a then some ([e], 0) else lkA pf b := by
  simp only [putA, h, List.set_cons_zero]
  rw [lkA_setA]
  by_cases hb : b = a
  · subst hb; simp [h]
  · simp only [hb, if_false]
    cases lkA pf b <;> rfl

theorem MetOk.put (hm : MetOk es clk pf) {x : Trip} {a : Addr} {n : Nat} {f e : Fnd} (hx : (x, some a, n) ∈ es) (ha : lkA pf a = some ([f], 0)) :
    MetOk es clk (putA pf (some a) 0 e) ∧ metOf es (putA pf (some a) 0 e) = updD (metOf es pf) x e ∧ lkA (putA pf (some a) 0 e) a = some ([e], 0) := by
  refine ⟨⟨hm.born, hm.keys, hm.adrs, ?_⟩, ?_, by rw [lkA_put ha, if_pos rfl]⟩
  · intro c hc
    obtain ⟨b, g, h1, h2⟩ := hm.row c hc
    refine ⟨b, ?_⟩
    rw [lkA_put ha]
    by_cases hb : b = a
    · exact ⟨e, h1, by rw [if_pos hb]⟩
    · exact ⟨g, h1, by rw [if_neg hb]; exact h2⟩
  · funext z
    show (lkM es z).bind _ = updD (metOf es pf) x e z
    unfold updD
    by_cases hz : z = x
    · subst hz
      rw [if_pos rfl, show lkM es z = some (some a) from lkM_mem hm.keys hx]
      simp [rowA, lkA_put ha]
    · rw [if_neg hz]
      show _ = (lkM es z).bind _
      cases hl : lkM es z with
      | none => rfl
      | some oa =>
        obtain ⟨m, hm2⟩ := lkM_some hl
        have hne : oa ≠ some a := by
          intro c
          subst c
          have : (z, some a, m) = (x, some a, n) := by
            have hnd := hm.adrs
            have h1 := List.getElem_of_mem hx
            have h2 := List.getElem_of_mem hm2
            obtain ⟨i, hi, e1⟩ := h1
            obtain ⟨j, hj, e2⟩ := h2
            have : i = j := by
              refine (List.getElem_inj (h₀ := by simpa using hi) (h₁ := by simpa using hj) hnd).1 ?_
              simp [e1, e2]
            subst this
            rw [← e1, ← e2]
          exact hz (congrArg (·.1) this)
        cases oa with
        | none => rfl
        | some b =>
          have hb : b ≠ a := fun c => hne (by rw [c])
          simp only [Option.bind_some, rowA, lkA_put ha, if_neg hb]

theorem MetOk.all (hm : MetOk es clk pf) {best : Trip} (h : Nst es pf (es.map (·.2.2)) best false) : ∀ y d, metOf es pf y = some d → d.dn = true := by
  intro y d hy
  obtain ⟨a, n, h1, _⟩ := hm.of hy
  rcases h with ⟨_, h⟩ | ⟨h, _⟩
  · exact h _ h1 (List.mem_map_of_mem (f := fun e : Trip × Option Addr × Nat => e.2.2) h1) d hy
  · cases h

end

theorem MetOk.zero (F : TF) {a : Addr} : MetOk [(st0 F, some a, 0)] 1 [(a, [⟨0, -1, 0, 0, 0, false⟩], 0)] ∧ metOf [(st0 F, some a, 0)] [(a, [⟨0, -1, 0, 0, 0, false⟩], 0)] = D0 F := by
  constructor
  · exact ⟨⟨by simp, by simp⟩, by simp, by simp, by simp [lkA]⟩
  · funext z
    unfold metOf D0 updD
    by_cases h : z = st0 F
    · simp [lkM, rowA, lkA, h]
    · simp [lkM, h, Ne.symm h]

end Go.Fw

namespace Go.Fw
open Go Go.Proofs

/-- The walker between makeMap and the end: 7 what the map holds, 8 the map. -/
abbrev hpR (W : Wk) (es : List (Trip × Option Addr × Nat)) (clk : Nat) (pf : List (Addr × List Fnd × Nat)) : List (Nat × SO) := [(0, .box 58 [.i W.F.st, .i W.F.start, .sl 1 1 0 W.F.fin.length W.F.capF, .sl 2 5 0 W.F.arcs.length W.F.capA, .sl 3 1 0 W.u.length W.cu, .sl 4 1 0 W.v.length W.cv, .sl 5 1 0 W.rows.length W.rows.length, .mp 8]), (1, .arr false 3 .int W.F.fin 0), (2, .arr false 35 .arc W.F.arcs 0), (3, .arr false 3 .int W.u 0), (4, .arr false 3 .int W.v 0),
  (5, .arr true 22 .sli W.rows 0), (6, .pool 3 .int W.pi), (7, .pool 60 .fnd pf), (8, .map .trip .adr es clk)]
abbrev hpS (W : Wk) : List (Nat × SO) := [(0, .box 58 [.i W.F.st, .i W.F.start, .sl 1 1 0 W.F.fin.length W.F.capF, .sl 2 5 0 W.F.arcs.length W.F.capA, .sl 3 1 0 W.u.length W.cu, .sl 4 1 0 W.v.length W.cv, .sl 5 1 0 W.rows.length W.rows.length, .v (.map none)]), (1, .arr false 3 .int W.F.fin 0), (2, .arr false 35 .arc W.F.arcs 0), (3, .arr false 3 .int W.u 0), (4, .arr false 3 .int W.v 0),
  (5, .arr true 22 .sli W.rows 0), (6, .pool 3 .int W.pi), (7, .pool 60 .fnd [])]

/-- Between the rounds. -/
def RInv (W : Wk) (y : List (Trip × Option Addr × Nat) × Nat × List (Addr × List Fnd × Nat) × List Trip) : Prop :=
  MetOk y.1 y.2.1 y.2.2.1 ∧ y.2.2.2.length + und W.F W.u W.v y.2.2.2 ≤ (allSpots W.F W.u W.v).length ∧ ∃ rk, Dj W.F W.u W.v (metOf y.1 y.2.2.1) y.2.2.2 rk (1000000000 * (((allSpots W.F W.u W.v).length : Int) - und W.F W.u W.v y.2.2.2)) (fun _ _ => True)

/-- What the walker holds at the end. -/
def Ran (W : Wk) (es : List (Trip × Option Addr × Nat)) (clk : Nat) (pf : List (Addr × List Fnd × Nat)) : Prop :=
  MetOk es clk pf ∧ ∃ ord rk B, ord.length ≤ 336200 ∧ Dj W.F W.u W.v (metOf es pf) ord rk B (fun _ _ => True) ∧ B ≤ 1000000000000000 ∧ ∀ y d, metOf es pf y = some d → d.dn = true

end Go.Fw

namespace Go.Fw
open Go Go.Proofs

/-- The best end so far. -/
def endF (D : Trip → Option Int) (fin : List Int) (p q : Int) : Nat → Trip × Int
  | 0 => (⟨0, 0, 0⟩, -1)
  | k + 1 => match D ⟨k, p, q⟩ with
    | none => endF D fin p q k
    | some d => if fin.getD k 0 ≠ -1 ∧ ((endF D fin p q k).2 = -1 ∨ d + fin.getD k 0 < (endF D fin p q k).2) then (⟨k, p, q⟩, d + fin.getD k 0) else endF D fin p q k

/-- The costs alone. -/
abbrev costOf (es : List (Trip × Option Addr × Nat)) (pf : List (Addr × List Fnd × Nat)) : Trip → Option Int := fun y => (metOf es pf y).map (·.cost)

end Go.Fw

namespace Go.Fw
open Go Go.Proofs

/-- The rows as they grow. -/
structure RowsK (F : TF) (rows : List Sli) (pi : List (Addr × List Int × Nat)) (k : Nat) : Prop where
  len : rows.length = F.st.toNat
  hd : ∀ s : Nat, s < F.st.toNat → Hd pi (rows.getD s EK.sli.dflt)
  row : ∀ s : Nat, s < F.st.toNat → rowA pi (rows.getD s EK.sli.dflt).a = numsK F k s
  dist : ∀ (s t : Nat) (a : Addr), s < F.st.toNat → t < F.st.toNat → s ≠ t → (rows.getD s EK.sli.dflt).a = some a → (rows.getD t EK.sli.dflt).a ≠ some a

theorem Hd.len {α : Type} {m : List (Addr × List α × Nat)} {x : Sli} (h : Hd m x) : x.n = (rowA m x.a).length := by
  unfold Hd at h
  unfold rowA
  cases hx : x.a with
  | none => rw [hx] at h; simp [h.1]
  | some a =>
    rw [hx] at h
    simp only at h ⊢
    cases hl : lkA m a with
    | none => rw [hl] at h; exact h.elim
    | some y => rw [hl] at h; simp [h.1]

theorem Hd.some {α : Type} {m : List (Addr × List α × Nat)} {x : Sli} (h : Hd m x) {a : Addr} (ha : x.a = some a) : ∃ y, lkA m a = some y ∧ x.n = y.1.length ∧ x.c ≤ y.1.length + y.2 := by
  unfold Hd at h
  rw [ha] at h
  simp only at h
  cases hl : lkA m a with
  | none => rw [hl] at h; exact h.elim
  | some y => rw [hl] at h; exact ⟨y, rfl, h⟩

theorem Hd.of_some {α : Type} {m : List (Addr × List α × Nat)} {x : Sli} {a : Addr} {y : List α × Nat} (ha : x.a = Option.some a) (hl : lkA m a = Option.some y) (h1 : x.n = y.1.length) (h2 : x.c ≤ y.1.length + y.2) : Hd m x := by
  unfold Hd
  rw [ha]
  simp only
  rw [hl]
  exact ⟨h1, h2⟩

theorem Hd.of_none {α : Type} {m : List (Addr × List α × Nat)} {x : Sli} (ha : x.a = none) (h1 : x.n = 0) (h2 : x.c = 0) : Hd m x := by
  unfold Hd
  rw [ha]
  exact ⟨h1, h2⟩

theorem getD_setJ {α : Type} (l : List α) (j : Nat) (x d : α) (s : Nat) (hj : j < l.length) : (l.set j x).getD s d = if s = j then x else l.getD s d := by
  simp only [List.getD, List.getElem?_set]
  by_cases h : j = s
  · subst h; simp [hj]
  · simp [h, Ne.symm h]

theorem rowA_some {α : Type} {m : List (Addr × List α × Nat)} {a : Addr} {y : List α × Nat} (h : lkA m a = some y) : rowA m (some a) = y.1 := by simp [rowA, h]
theorem rowA_congr {α : Type} {m m' : List (Addr × List α × Nat)} {a : Addr} (h : lkA m a = lkA m' a) : rowA m (some a) = rowA m' (some a) := by simp only [rowA, h]

theorem RowsK.step {F : TF} {rows : List Sli} {pi pi' : List (Addr × List Int × Nat)} {k j : Nat} {h' : Sli} (h : RowsK F rows pi k) (hj : j < F.st.toNat) (hf : (F.arcs.getD k EK.arc.dflt).f = j) (ha : App pi (rows.getD j EK.sli.dflt) [(k : Int)] pi' h') :
    RowsK F (rows.set j h') pi' (k + 1) := by
  have hl := h.len
  have hjr : j < rows.length := by omega
  have hne : ∀ s : Nat, s ≠ j → numsK F (k + 1) s = numsK F k s := by
    intro s hs
    rw [numsK_succ, hf, if_neg (by omega), List.append_nil]
  have hjj : numsK F (k + 1) j = numsK F k j ++ [(k : Int)] := by rw [numsK_succ, hf, if_pos rfl]
  generalize hx : rows.getD j EK.sli.dflt = x at ha
  have hdj := h.hd j hj
  have hrj := h.row j hj
  rw [hx] at hdj hrj
  cases ha with
  | stay h => cases h
  | @room a y sp h1 h2 h3 =>
    obtain ⟨y', g1, g2, g3⟩ := hdj.some h1
    rw [h2] at g1
    cases g1
    have hla : lkA (setA pi a (y.1 ++ [(k : Int)], sp)) a = some (y.1 ++ [(k : Int)], sp) := by rw [lkA_setA, h2]; simp
    have hlb : ∀ b, b ≠ a → lkA (setA pi a (y.1 ++ [(k : Int)], sp)) b = lkA pi b := by
      intro b hb
      rw [lkA_setA]
      simp only [hb, if_false]
      cases lkA pi b <;> rfl
    have hoth : ∀ s, s < F.st.toNat → s ≠ j → ∀ b, (rows.getD s EK.sli.dflt).a = some b → b ≠ a := by
      intro s hs hsj b hb e
      subst e
      exact h.dist s j b hs hj hsj hb (by rw [hx]; exact h1)
    refine ⟨by rw [List.length_set]; exact hl, ?_, ?_, ?_⟩
    · intro s hs
      rw [getD_setJ _ _ _ _ _ hjr]
      by_cases e : s = j
      · rw [if_pos e]
        refine Hd.of_some rfl hla ?_ ?_
        · simp [g2]
        · simp only [List.length_append, List.length_cons, List.length_nil]
          simp only [List.length_cons, List.length_nil] at h3
          omega
      · rw [if_neg e]
        have := h.hd s hs
        cases hsa : (rows.getD s EK.sli.dflt).a with
        | none =>
          unfold Hd at this ⊢
          rw [hsa] at this ⊢
          exact this
        | some b =>
          obtain ⟨z, k1, k2, k3⟩ := this.some hsa
          exact Hd.of_some hsa (by rw [hlb b (hoth s hs e b hsa)]; exact k1) k2 k3
    · intro s hs
      rw [getD_setJ _ _ _ _ _ hjr]
      by_cases e : s = j
      · rw [if_pos e, e, hjj, ← hrj]
        simp [rowA, hla, h1, h2]
      · rw [if_neg e, hne s e, ← h.row s hs]
        cases hsa : (rows.getD s EK.sli.dflt).a with
        | none => rfl
        | some b => exact rowA_congr (hlb b (hoth s hs e b hsa))
    · intro s t b hs ht hst hb hc
      rw [getD_setJ _ _ _ _ _ hjr] at hb hc
      by_cases es : s = j
      · rw [if_pos es] at hb
        rw [if_neg (fun e => hst (es.trans e.symm))] at hc
        simp only [Option.some.injEq] at hb
        subst hb
        exact hoth t ht (fun e => hst (es.trans e.symm)) _ hc rfl
      · rw [if_neg es] at hb
        by_cases et : t = j
        · rw [if_pos et] at hc
          simp only [Option.some.injEq] at hc
          subst hc
          exact hoth s hs es _ hb rfl
        · rw [if_neg et] at hc
          exact h.dist s t b hs ht hst hb hc
  | @fresh a sp h1 h2 =>
    have hlb : ∀ b, b ≠ a → lkA ((a, rowA pi x.a ++ [(k : Int)], sp) :: pi) b = lkA pi b := fun b hb => by simp only [lkA, if_neg (Ne.symm hb)]
    have hla : lkA ((a, rowA pi x.a ++ [(k : Int)], sp) :: pi) a = some (rowA pi x.a ++ [(k : Int)], sp) := by simp [lkA]
    have hoth : ∀ s, s < F.st.toNat → ∀ b, (rows.getD s EK.sli.dflt).a = some b → b ≠ a := by
      intro s hs b hb e
      subst e
      obtain ⟨z, k1, _⟩ := (h.hd s hs).some hb
      rw [h1] at k1
      cases k1
    refine ⟨by rw [List.length_set]; exact hl, ?_, ?_, ?_⟩
    · intro s hs
      rw [getD_setJ _ _ _ _ _ hjr]
      by_cases e : s = j
      · rw [if_pos e]
        refine Hd.of_some rfl hla ?_ ?_
        · simp [hdj.len]
        · simp [hdj.len]
      · rw [if_neg e]
        have := h.hd s hs
        cases hsa : (rows.getD s EK.sli.dflt).a with
        | none =>
          unfold Hd at this ⊢
          rw [hsa] at this ⊢
          exact this
        | some b =>
          obtain ⟨z, k1, k2, k3⟩ := this.some hsa
          exact Hd.of_some hsa (by rw [hlb b (hoth s hs b hsa)]; exact k1) k2 k3
    · intro s hs
      rw [getD_setJ _ _ _ _ _ hjr]
      by_cases e : s = j
      · rw [if_pos e, e, hjj, ← hrj]
        exact rowA_some hla
      · rw [if_neg e, hne s e, ← h.row s hs]
        cases hsa : (rows.getD s EK.sli.dflt).a with
        | none => rfl
        | some b => exact rowA_congr (hlb b (hoth s hs b hsa))
    · intro s t b hs ht hst hb hc
      rw [getD_setJ _ _ _ _ _ hjr] at hb hc
      by_cases es : s = j
      · rw [if_pos es] at hb
        rw [if_neg (fun e => hst (es.trans e.symm))] at hc
        simp only [Option.some.injEq] at hb
        subst hb
        exact hoth t ht _ hc rfl
      · rw [if_neg es] at hb
        by_cases et : t = j
        · rw [if_pos et] at hc
          simp only [Option.some.injEq] at hc
          subst hc
          exact hoth s hs _ hb rfl
        · rw [if_neg et] at hc
          exact h.dist s t b hs ht hst hb hc

theorem RowsK.zero (F : TF) : RowsK F (List.replicate F.st.toNat (⟨none, 0, 0⟩ : Sli)) [] 0 := by
  have hg : ∀ s, (List.replicate F.st.toNat (⟨none, 0, 0⟩ : Sli)).getD s EK.sli.dflt = ⟨none, 0, 0⟩ := by
    intro s
    simp only [List.getD, List.getElem?_replicate]
    split <;> rfl
  refine ⟨List.length_replicate, ?_, ?_, ?_⟩
  · intro s _; rw [hg]; exact Hd.of_none rfl rfl rfl
  · intro s _; rw [hg]; rfl
  · intro s t a _ _ _ h; rw [hg] at h; cases h

theorem RowsK.ok {F : TF} {rows : List Sli} {pi : List (Addr × List Int × Nat)} (h : RowsK F rows pi F.arcs.length) : RowsOk F rows pi :=
  ⟨h.len, fun s hs => ⟨by rw [(h.hd s hs).len, h.row s hs]; rfl, h.row s hs⟩⟩

end Go.Fw

namespace Go.Fw
open Go Go.Proofs

/-- What is wrong with what is handed to Score. -/
def scoreE (F : TF) (u v : List Int) : Int := if fstE F ≠ 0 then fstE F else if wordE u ≠ 0 then wordE u else wordE v

/-- A transducer and two words: 0 final, 1 arcs, 2 in, 3 out. -/
abbrev hpQ (F : TF) (u v : List Int) : List (Nat × SO) := [(0, .arr false 3 .int F.fin 0), (1, .arr false 35 .arc F.arcs 0), (2, .arr false 3 .int u 0), (3, .arr false 3 .int v 0)]

section
variable (F : TF) (u v : List Int) (cu cv : Nat) (rows : List Sli) (pi : List (Addr × List Int × Nat))
end

end Go.Fw

namespace Go.Fw
open Go Go.Proofs

end Go.Fw

/-
  Sorting a range in place, in the plain: swaps, rotation, merging; whatever the elements, by an order.
-/
namespace Go.Fw
open Go

section
variable {α : Type} {d : α}

/-- ys came of xs by moves inside the places from a on, below b. -/
structure Mv (d : α) (a b : Nat) (xs ys : List α) : Prop where
  len : ys.length = xs.length
  perm : ys.Perm xs
  out : ∀ k, k < a ∨ b ≤ k → ys.getD k d = xs.getD k d
  ins : ∀ k, a ≤ k → k < b → ∃ k', a ≤ k' ∧ k' < b ∧ ys.getD k d = xs.getD k' d

theorem Mv.refl (a b : Nat) (xs : List α) : Mv d a b xs xs := ⟨rfl, .refl _, fun _ _ => rfl, fun k h1 h2 => ⟨k, h1, h2, rfl⟩⟩

theorem Mv.trans {a b : Nat} {xs ys zs : List α} (h : Mv d a b xs ys) (h' : Mv d a b ys zs) : Mv d a b xs zs where
  len := h'.len.trans h.len
  perm := h'.perm.trans h.perm
  out := fun k hk => (h'.out k hk).trans (h.out k hk)
  ins := fun k h1 h2 => by
    obtain ⟨k', g1, g2, g3⟩ := h'.ins k h1 h2
    obtain ⟨k'', f1, f2, f3⟩ := h.ins k' g1 g2
    exact ⟨k'', f1, f2, g3.trans f3⟩

theorem Mv.wide {a b a' b' : Nat} {xs ys : List α} (h : Mv d a b xs ys) (ha : a' ≤ a) (hb : b ≤ b') : Mv d a' b' xs ys where
  len := h.len
  perm := h.perm
  out := fun k hk => h.out k (by omega)
  ins := fun k h1 h2 => by
    by_cases hk : a ≤ k ∧ k < b
    · obtain ⟨k', g1, g2, g3⟩ := h.ins k hk.1 hk.2
      exact ⟨k', by omega, by omega, g3⟩
    · exact ⟨k, h1, h2, h.out k (by omega)⟩

/-- Two elements change places. -/
def swapL (d : α) (xs : List α) (i j : Nat) : List α := (xs.set i (xs.getD j d)).set j (xs.getD i d)

theorem getD_set' {β : Type} (c : List β) (i v : Nat) (x d : β) : (c.set i x).getD v d = if i = v ∧ v < c.length then x else c.getD v d := by
  by_cases h : i = v
  · subst h
    by_cases h2 : i < c.length
    · simp [List.getD, h2]
    · simp [List.getD, h2]
  · simp [List.getD, List.getElem?_set_ne h, h]

theorem swapL_getD {xs : List α} {i j : Nat} (hi : i < xs.length) (hj : j < xs.length) (k : Nat) : (swapL d xs i j).getD k d = if k = j then xs.getD i d else if k = i then xs.getD j d else xs.getD k d := by
  unfold swapL
  rw [getD_set', getD_set', List.length_set]
  by_cases h1 : k = j
  · subst h1
    rw [if_pos ⟨rfl, hj⟩, if_pos rfl]
  · rw [if_neg (fun c => h1 c.1.symm), if_neg h1]
    by_cases h2 : k = i
    · subst h2
      rw [if_pos ⟨rfl, hi⟩, if_pos rfl]
    · rw [if_neg (fun c => h2 c.1.symm), if_neg h2]

/-- An order: one stands ahead of another one. -/
structure LtOk (lt : α → α → Bool) : Prop where
  asym : ∀ x y, lt x y = true → lt y x = false
  trans : ∀ x y z, lt y x = false → lt z y = false → lt z x = false

variable {lt : α → α → Bool}

/-- In order, from a on, below b. -/
def SrtOn (d : α) (lt : α → α → Bool) (a b : Nat) (xs : List α) : Prop := ∀ i j, a ≤ i → i < j → j < b → lt (xs.getD j d) (xs.getD i d) = false

theorem SrtOn.cong {a b : Nat} {xs ys : List α} (h : SrtOn d lt a b xs) (he : ∀ k, a ≤ k → k < b → ys.getD k d = xs.getD k d) : SrtOn d lt a b ys := by
  intro i j h1 h2 h3
  rw [he i h1 (by omega), he j (by omega) h3]
  exact h i j h1 h2 h3

theorem SrtOn.one {a b : Nat} {xs : List α} (h : b ≤ a + 1) : SrtOn d lt a b xs := fun i j h1 h2 h3 => by omega

theorem LtOk.irr (h : LtOk lt) (x : α) : lt x x = false := by
  cases e : lt x x with
  | false => rfl
  | true => have := h.asym x x e; rw [e] at this; cases this

theorem SrtOn.le (hlt : LtOk lt) {a b : Nat} {xs : List α} (h : SrtOn d lt a b xs) {i j : Nat} (h1 : a ≤ i) (h2 : i ≤ j) (h3 : j < b) : lt (xs.getD j d) (xs.getD i d) = false := by
  by_cases e : i = j
  · subst e; exact hlt.irr _
  · exact h i j h1 (by omega) h3

/-! ### Insertion -/
/-- In order but for the one at j, which goes back. -/
def InsOn (d : α) (lt : α → α → Bool) (a i j : Nat) (xs : List α) : Prop := ∀ p q, a ≤ p → p < q → q ≤ i → q ≠ j → lt (xs.getD q d) (xs.getD p d) = false

theorem InsOn.start {a i : Nat} {xs : List α} (h : SrtOn d lt a i xs) : InsOn d lt a i i xs := fun p q h1 h2 h3 h4 => h p q h1 h2 (by omega)

theorem InsOn.step (hlt : LtOk lt) {a i j : Nat} {xs : List α} (h : InsOn d lt a i j xs) (hj : a < j) (hji : j ≤ i) (hi : i < xs.length) (hx : lt (xs.getD j d) (xs.getD (j - 1) d) = true) : InsOn d lt a i (j - 1) (swapL d xs j (j - 1)) := by
  intro p q h1 h2 h3 h4
  have hg := swapL_getD (d := d) (xs := xs) (i := j) (j := j - 1) (by omega) (by omega)
  rw [hg, hg, if_neg h4]
  by_cases e : q = j
  · subst e
    rw [if_pos rfl]
    by_cases e2 : p = q - 1
    · rw [if_pos e2]; exact hlt.asym _ _ hx
    · rw [if_neg e2, if_neg (by omega)]; exact h p (q - 1) h1 (by omega) (by omega) (by omega)
  · rw [if_neg e]
    by_cases e2 : p = j - 1
    · rw [if_pos e2]; exact h j q (by omega) (by omega) h3 e
    · rw [if_neg e2]
      by_cases e3 : p = j
      · rw [if_pos e3]; exact h (j - 1) q (by omega) (by omega) h3 e
      · rw [if_neg e3]; exact h p q h1 h2 h3 e

theorem InsOn.done (hlt : LtOk lt) {a i j : Nat} {xs : List α} (h : InsOn d lt a i j xs) (hji : j ≤ i) (hx : j ≤ a ∨ lt (xs.getD j d) (xs.getD (j - 1) d) = false) : SrtOn d lt a (i + 1) xs := by
  intro p q h1 h2 h3
  by_cases e : q = j
  · subst e
    rcases hx with hx | hx
    · omega
    · by_cases e2 : p = q - 1
      · rw [e2]; exact hx
      · exact hlt.trans _ _ _ (h p (q - 1) h1 (by omega) (by omega) (by omega)) hx
  · exact h p q h1 h2 (by omega) e

/-! ### Blocks change places -/
/-- The first k of two blocks of the places from a on and from b on have changed places. -/
def SwOn (d : α) (a b k : Nat) (xs ys : List α) : Prop := ∀ p, ys.getD p d = if a ≤ p ∧ p < a + k then xs.getD (p - a + b) d else if b ≤ p ∧ p < b + k then xs.getD (p - b + a) d else xs.getD p d

theorem SwOn.zero (a b : Nat) (xs : List α) : SwOn d a b 0 xs xs := fun p => by rw [if_neg (by omega), if_neg (by omega)]

theorem SwOn.step {a b k n : Nat} {xs ys : List α} (h : SwOn d a b k xs ys) (hl : ys.length = xs.length) (hk : k < n) (hab : a + n ≤ b) (hb : b + n ≤ xs.length) : SwOn d a b (k + 1) xs (swapL d ys (a + k) (b + k)) := by
  intro p
  rw [swapL_getD (by omega) (by omega)]
  have h1 := h p
  have h2 := h (a + k)
  have h3 := h (b + k)
  rw [if_neg (by omega), if_neg (by omega)] at h2 h3
  by_cases e1 : p = b + k
  · subst e1
    rw [if_pos rfl, if_neg (by omega), if_pos (by omega), h2]
    congr 1; omega
  · rw [if_neg e1]
    by_cases e2 : p = a + k
    · subst e2
      rw [if_pos rfl, if_pos (by omega), h3]
      congr 1; omega
    · rw [if_neg e2, h1]
      by_cases e3 : a ≤ p ∧ p < a + k
      · rw [if_pos e3, if_pos (by omega)]
      · by_cases e4 : b ≤ p ∧ p < b + k
        · rw [if_neg e3, if_pos e4, if_neg (by omega), if_pos (by omega)]
        · rw [if_neg e3, if_neg e4, if_neg (by omega), if_neg (by omega)]

/-! ### Rotation -/
/-- What lay from a on, below m, and what lay from m on, below b, have changed places. -/
def RotOn (d : α) (a m b : Nat) (xs ys : List α) : Prop := ∀ p, ys.getD p d = if a ≤ p ∧ p < a + (b - m) then xs.getD (p - a + m) d else if a + (b - m) ≤ p ∧ p < b then xs.getD (p - (b - m)) d else xs.getD p d

/-- What is left to do. -/
theorem RotOn.left {a m b i j : Nat} {xs ys zs : List α} (h : ∀ us, RotOn d (m - i) m (m + j) ys us → RotOn d a m b xs us) (hij : j < i) (him : i ≤ m) (hs : SwOn d (m - i) m j ys zs) : ∀ us, RotOn d (m - (i - j)) m (m + j) zs us → RotOn d a m b xs us := by
  intro us hu
  refine h us fun p => ?_
  rw [hu p]
  have h1 := hs p
  have h2 := hs (p - (m - (i - j)) + m)
  have h3 := hs (p - (m + j - m))
  by_cases c1 : m - i ≤ p ∧ p < m - i + j
  · rw [if_neg (by omega), if_neg (by omega), h1, if_pos c1, if_pos (by omega)]
  · by_cases c2 : m - (i - j) ≤ p ∧ p < m - (i - j) + j
    · rw [if_pos (by omega), h2, if_neg (by omega), if_pos (by omega), if_neg (by omega), if_pos (by omega)]
      congr 1; omega
    · by_cases c3 : m - (i - j) + j ≤ p ∧ p < m + j
      · rw [if_neg (by omega), if_pos (by omega), h3, if_neg (by omega), if_neg (by omega), if_neg (by omega), if_pos (by omega)]
      · rw [if_neg (by omega), if_neg (by omega), h1, if_neg (by omega), if_neg (by omega), if_neg (by omega), if_neg (by omega)]

theorem RotOn.right {a m b i j : Nat} {xs ys zs : List α} (h : ∀ us, RotOn d (m - i) m (m + j) ys us → RotOn d a m b xs us) (hij : i < j) (him : i ≤ m) (hs : SwOn d (m - i) (m + j - i) i ys zs) : ∀ us, RotOn d (m - i) m (m + (j - i)) zs us → RotOn d a m b xs us := by
  intro us hu
  refine h us fun p => ?_
  rw [hu p]
  have h1 := hs p
  have h2 := hs (p - (m - i) + m)
  have h3 := hs (p - (m + (j - i) - m))
  by_cases c1 : m - i ≤ p ∧ p < m - i + (j - i)
  · rw [if_pos (by omega), h2, if_neg (by omega), if_neg (by omega), if_pos (by omega)]
  · by_cases c2 : m - i + (j - i) ≤ p ∧ p < m + (j - i)
    · rw [if_neg (by omega), if_pos (by omega), h3, if_pos (by omega), if_pos (by omega)]
      congr 1; omega
    · by_cases c3 : m + (j - i) ≤ p ∧ p < m + j
      · rw [if_neg (by omega), if_neg (by omega), h1, if_neg (by omega), if_pos (by omega), if_neg (by omega), if_pos (by omega)]
        congr 1; omega
      · rw [if_neg (by omega), if_neg (by omega), h1, if_neg (by omega), if_neg (by omega), if_neg (by omega), if_neg (by omega)]

theorem RotOn.last {m i : Nat} {ys zs : List α} (him : i ≤ m) (hs : SwOn d (m - i) m i ys zs) : RotOn d (m - i) m (m + i) ys zs := by
  intro p
  rw [hs p]
  by_cases c1 : m - i ≤ p ∧ p < m - i + i
  · rw [if_pos c1, if_pos (by omega)]
  · by_cases c2 : m ≤ p ∧ p < m + i
    · rw [if_neg c1, if_pos c2, if_neg (by omega), if_pos (by omega)]
      congr 1; omega
    · rw [if_neg c1, if_neg c2, if_neg (by omega), if_neg (by omega)]

end
end Go.Fw

/-
  Merging in place, and block by block, in the plain.
-/
namespace Go.Fw
open Go

section
variable {α : Type} {d : α} {lt : α → α → Bool}

/-! ### One element is put in among others -/
theorem RotOn.none {a m b : Nat} {xs : List α} (h : m = a ∨ b = m) : RotOn d a m b xs xs := by
  intro p
  rcases h with rfl | rfl
  · by_cases c : m ≤ p ∧ p < m + (b - m)
    · rw [if_pos c]; congr 1; omega
    · rw [if_neg c, if_neg (by omega)]
  · rw [if_neg (by omega)]
    by_cases c : a + (b - b) ≤ p ∧ p < b
    · rw [if_pos c]; congr 1; omega
    · rw [if_neg c]

/-! ### The search -/
structure SymS (d : α) (lt : α → α → Bool) (lo hi p s r : Nat) (xs : List α) : Prop where
  l : lo ≤ s
  m : s ≤ r
  h : r ≤ hi
  lf : s = lo ∨ lt (xs.getD (p - (s - 1)) d) (xs.getD (s - 1) d) = false
  rt : r = hi ∨ lt (xs.getD (p - r) d) (xs.getD r d) = true

/-- All that goes left is no greater than all that goes right. -/
def Cross (d : α) (lt : α → α → Bool) (a mid b : Nat) (ys : List α) : Prop := ∀ i j, a ≤ i → i < mid → mid ≤ j → j < b → lt (ys.getD j d) (ys.getD i d) = false

/-! ### Block by block -/
/-- Whole blocks below a are in order. -/
def UpTo (d : α) (lt : α → α → Bool) (bs a : Nat) (ys : List α) : Prop := ∃ t, a = t * bs ∧ ∀ s, s < t → SrtOn d lt (s * bs) ((s + 1) * bs) ys
/-- All blocks are in order. -/
def AllBl (d : α) (lt : α → α → Bool) (bs n : Nat) (ys : List α) : Prop := ∀ s, SrtOn d lt (s * bs) (min ((s + 1) * bs) n) ys
/-- Below a in greater blocks, from there on in smaller ones. -/
def Half (d : α) (lt : α → α → Bool) (bs n a : Nat) (ys : List α) : Prop := ∃ t, a = t * (2 * bs) ∧ (∀ s, s < t → SrtOn d lt (s * (2 * bs)) ((s + 1) * (2 * bs)) ys) ∧ ∀ s, 2 * t ≤ s → SrtOn d lt (s * bs) (min ((s + 1) * bs) n) ys

theorem UpTo.zero (bs : Nat) (ys : List α) : UpTo d lt bs 0 ys := ⟨0, by simp, fun s h => by omega⟩

theorem UpTo.next {bs a : Nat} {ys zs : List α} (h : UpTo d lt bs a ys) (hm : Mv d a (a + bs) ys zs) (hs : SrtOn d lt a (a + bs) zs) : UpTo d lt bs (a + bs) zs := by
  obtain ⟨t, rfl, h2⟩ := h
  refine ⟨t + 1, by rw [Nat.succ_mul], fun s hst => ?_⟩
  by_cases e : s = t
  · subst e; rw [Nat.succ_mul]; exact hs
  · have hle : (s + 1) * bs ≤ t * bs := Nat.mul_le_mul_right _ (by omega)
    exact (h2 s (by omega)).cong fun k _ hk => hm.out k (.inl (by omega))

theorem UpTo.done {bs a n : Nat} {ys zs : List α} (h : UpTo d lt bs a ys) (han : a ≤ n) (hn : n < a + bs) (hm : Mv d a n ys zs) (hs : SrtOn d lt a n zs) : AllBl d lt bs n zs := by
  obtain ⟨t, rfl, h2⟩ := h
  intro s
  by_cases c : s < t
  · have hle : (s + 1) * bs ≤ t * bs := Nat.mul_le_mul_right _ (by omega)
    rw [Nat.min_eq_left (by omega)]
    exact (h2 s c).cong fun k _ hk => hm.out k (.inl (by omega))
  · by_cases e : s = t
    · subst e
      rw [Nat.min_eq_right (by rw [Nat.succ_mul]; omega)]
      exact hs
    · have hle : (t + 1) * bs ≤ s * bs := Nat.mul_le_mul_right _ (by omega)
      rw [Nat.succ_mul] at hle
      intro i j h1 h2 h3
      have := Nat.min_le_right ((s + 1) * bs) n
      omega

theorem Half.zero {bs n : Nat} {ys : List α} (h : AllBl d lt bs n ys) : Half d lt bs n 0 ys := ⟨0, by simp, fun s h => by omega, fun s _ => h s⟩

theorem Half.two {bs n a : Nat} {ys : List α} (h : Half d lt bs n a ys) (hab : a + bs ≤ n) : SrtOn d lt a (a + bs) ys ∧ SrtOn d lt (a + bs) (min (a + 2 * bs) n) ys := by
  obtain ⟨t, rfl, h2, h3⟩ := h
  have e1 : 2 * t * bs = t * (2 * bs) := by rw [Nat.mul_comm 2 t, Nat.mul_assoc]
  have e2 : (2 * t + 1) * bs = t * (2 * bs) + bs := by rw [Nat.succ_mul, e1]
  have e3 : (2 * t + 1 + 1) * bs = t * (2 * bs) + 2 * bs := by rw [Nat.succ_mul, e2]; omega
  have k1 := h3 (2 * t) (Nat.le_refl _)
  have k2 := h3 (2 * t + 1) (by omega)
  rw [e2, e1, Nat.min_eq_left hab] at k1
  rw [e3, e2] at k2
  exact ⟨k1, k2⟩

theorem Half.next {bs n a : Nat} {ys zs : List α} (h : Half d lt bs n a ys) (hm : Mv d a (a + 2 * bs) ys zs) (hs : SrtOn d lt a (a + 2 * bs) zs) : Half d lt bs n (a + 2 * bs) zs := by
  obtain ⟨t, rfl, h2, h3⟩ := h
  refine ⟨t + 1, (Nat.succ_mul t (2 * bs)).symm, fun s hst => ?_, fun s hst => ?_⟩
  · by_cases e : s = t
    · subst e; rw [Nat.succ_mul s (2 * bs)]; exact hs
    · have hle : (s + 1) * (2 * bs) ≤ t * (2 * bs) := Nat.mul_le_mul_right _ (by omega)
      exact (h2 s (by omega)).cong fun k _ hk => hm.out k (.inl (by omega))
  · have hle : (2 * t + 2) * bs ≤ s * bs := Nat.mul_le_mul_right _ (by omega)
    have e1 : (2 * t + 2) * bs = t * (2 * bs) + 2 * bs := by rw [Nat.add_mul, Nat.mul_comm 2 t, Nat.mul_assoc]
    exact (h3 s (by omega)).cong fun k hk _ => hm.out k (.inr (by omega))

theorem Half.done {bs n a : Nat} {ys zs : List α} (h : Half d lt bs n a ys) (han : a ≤ n) (hn : n < a + 2 * bs) (hm : Mv d a n ys zs) (hs : SrtOn d lt a n zs) : AllBl d lt (2 * bs) n zs := by
  obtain ⟨t, rfl, h2, _⟩ := h
  exact UpTo.done ⟨t, rfl, h2⟩ han hn hm hs

theorem AllBl.all {bs n : Nat} {ys : List α} (h : AllBl d lt bs n ys) (hn : n ≤ bs) : SrtOn d lt 0 n ys := by
  have := h 0
  rwa [Nat.zero_mul, Nat.zero_add, Nat.one_mul, Nat.min_eq_right hn] at this

end
end Go.Fw

/-
  Ways of a transducer, in the plain; what it is to be the least of some costs.
-/
namespace Go.Fw
open Go

/-! ### Arcs in order -/
theorem aheadB_trans {a b c : Arc} (h1 : aheadB a b = true) (h2 : aheadB b c = true) : aheadB a c = true := by
  unfold aheadB at *
  repeat' split at h1
  all_goals repeat' split at h2
  all_goals repeat' split
  all_goals simp only [decide_eq_true_eq, Bool.false_eq_true] at *
  all_goals omega

theorem aheadB_irr (a : Arc) : aheadB a a = false := by simp [aheadB]

theorem aheadB_asymm {a b : Arc} (h1 : aheadB a b = true) : aheadB b a = false := by
  cases h : aheadB b a with
  | false => rfl
  | true => have := aheadB_trans h1 h; rw [aheadB_irr] at this; cases this

def Srt (l : List Arc) : Prop := l.Pairwise fun a b => aheadB a b = true

/-! ### Ways -/
/-- What a label says. -/
def lab (x : Int) : List Int := if x = 0 then [] else [x]

/-- A way from a state to a state: what it reads, writes, costs. -/
inductive Way (L : List Arc) : Int → List Int → List Int → Int → Int → Prop
  | nil (s : Int) : Way L s [] [] s 0
  | cons {a : Arc} {u v : List Int} {t c : Int} (ha : a ∈ L) (h : Way L a.t u v t c) : Way L a.f (lab a.i ++ u) (lab a.o ++ v) t (a.w + c)

theorem Way.app {L : List Arc} {s t r : Int} {u v u' v' : List Int} {c d : Int} (h : Way L s u v t c) (h' : Way L t u' v' r d) : Way L s (u ++ u') (v ++ v') r (c + d) := by
  induction h with
  | nil s => simpa using h'
  | cons ha h ih =>
    rw [List.append_assoc, List.append_assoc, Int.add_assoc]
    exact .cons ha (ih h')

theorem Way.one {L : List Arc} {a : Arc} (ha : a ∈ L) : Way L a.f (lab a.i) (lab a.o) a.t a.w := by
  have := Way.cons ha (.nil a.t)
  simpa using this

theorem Way.snoc {L : List Arc} {s : Int} {u v : List Int} {c : Int} {a : Arc} (h : Way L s u v a.f c) (ha : a ∈ L) : Way L s (u ++ lab a.i) (v ++ lab a.o) a.t (c + a.w) := h.app (.one ha)

theorem Way.mono {L L' : List Arc} (hL : ∀ a ∈ L, a ∈ L') {s t : Int} {u v : List Int} {c : Int} (h : Way L s u v t c) : Way L' s u v t c := by
  induction h with
  | nil s => exact .nil s
  | cons ha h ih => exact .cons (hL _ ha) ih

theorem Way.pos {L : List Arc} {st : Int} (hL : ∀ a ∈ L, ArcOk st a) {s t : Int} {u v : List Int} {c : Int} (h : Way L s u v t c) : 0 ≤ c := by
  induction h with
  | nil s => exact Int.le_refl _
  | cons ha h ih => have := (hL _ ha).w0; omega

theorem Way.rng {L : List Arc} {st : Int} (hL : ∀ a ∈ L, ArcOk st a) {s t : Int} {u v : List Int} {c : Int} (h : Way L s u v t c) (hs : 0 ≤ s ∧ s < st) : 0 ≤ t ∧ t < st := by
  induction h with
  | nil s => exact hs
  | cons ha h ih => exact ih ⟨(hL _ ha).t0, (hL _ ha).t1⟩

/-- What a pair of words may cost. -/
def Wt (F : TF) (u v : List Int) (c : Int) : Prop := ∃ t d, Way F.arcs F.start u v t d ∧ F.fin.getD t.toNat 0 ≠ -1 ∧ c = d + F.fin.getD t.toNat 0

theorem Wt.pos {F : TF} (hF : FOk F) {u v : List Int} {c : Int} (h : Wt F u v c) : 0 ≤ c := by
  obtain ⟨t, d, h1, h2, rfl⟩ := h
  have h3 := h1.pos hF.arc
  have h4 := h1.rng hF.arc hF.start
  have h5 := hF.fin _ (getD_mem F.fin t.toNat 0 (by have := hF.finl; omega))
  omega

/-- The least of some costs; -1: there is none. -/
def MinOf (P : Int → Prop) (n : Int) : Prop := (n = -1 ∧ ∀ c, ¬ P c) ∨ (0 ≤ n ∧ P n ∧ ∀ c, P c → n ≤ c)

theorem MinOf.eq {P Q : Int → Prop} {m n : Int} (hm : MinOf P m) (hn : MinOf Q n) (h : ∀ c, P c ↔ Q c) : m = n := by
  rcases hm with ⟨rfl, h1⟩ | ⟨h0, h1, h2⟩ <;> rcases hn with ⟨rfl, g1⟩ | ⟨g0, g1, g2⟩
  · rfl
  · exact absurd ((h n).2 g1) (h1 n)
  · exact absurd ((h m).1 h1) (g1 m)
  · have := h2 n ((h n).2 g1); have := g2 m ((h m).1 h1); omega

theorem MinOf.le {P : Int → Prop} {n c : Int} (h : MinOf P n) (hc : P c) : n ≠ -1 ∧ n ≤ c := by
  rcases h with ⟨_, h⟩ | ⟨h0, _, h2⟩
  · exact absurd hc (h c)
  · exact ⟨by omega, h2 c hc⟩

theorem MinOf.is {P : Int → Prop} {n : Int} (h : MinOf P n) (hn : n ≠ -1) : P n := by
  rcases h with ⟨h, _⟩ | ⟨_, h, _⟩
  · exact absurd h hn
  · exact h

theorem MinOf.low {P : Int → Prop} {n : Int} (h : MinOf P n) : -1 ≤ n := by
  rcases h with ⟨h, _⟩ | ⟨h, _⟩ <;> omega

end Go.Fw

/-
  The order by which arcs are sorted, in the plain.
-/
namespace Go.Fw
open Go

def cmpW (a b : Arc) : Int := orI [orderI a b, cmpI a.w b.w]
def ltW (a b : Arc) : Bool := decide (cmpW a b < 0)
def sameK (a b : Arc) : Bool := decide (orderI a b = 0)

theorem SrtOn.less {α : Type} {d : α} {lt : α → α → Bool} {a b c : Nat} {xs : List α} (h : SrtOn d lt a b xs) (hc : c ≤ b) : SrtOn d lt a c xs := fun i j h1 h2 h3 => h i j h1 h2 (by omega)

/-! ### Searches -/
section
variable {α : Type} {d : α} {lt : α → α → Bool}

/-- Where the first one goes, among those behind it. -/
structure SeaA (d : α) (lt : α → α → Bool) (a b i j : Nat) (xs : List α) : Prop where
  l : a + 1 ≤ i
  ij : i ≤ j
  h : j ≤ b
  lo : ∀ k, a + 1 ≤ k → k < i → lt (xs.getD k d) (xs.getD a d) = true
  hi : ∀ k, j ≤ k → k < b → lt (xs.getD k d) (xs.getD a d) = false

theorem SeaA.start {a b : Nat} {xs : List α} (h : a + 1 ≤ b) : SeaA d lt a b (a + 1) b xs := ⟨Nat.le_refl _, h, Nat.le_refl _, fun k h1 h2 => by omega, fun k h1 h2 => by omega⟩

theorem SeaA.up (hlt : LtOk lt) {a b i j : Nat} {xs : List α} (hs : SrtOn d lt (a + 1) b xs) (h : SeaA d lt a b i j xs) (hij : i < j) (hc : lt (xs.getD ((i + j) / 2) d) (xs.getD a d) = true) : SeaA d lt a b ((i + j) / 2 + 1) j xs := by
  have h1 := h.l
  have h2 := h.h
  refine ⟨by omega, by omega, h2, fun k g1 g2 => ?_, h.hi⟩
  cases e : lt (xs.getD k d) (xs.getD a d) with
  | true => rfl
  | false =>
    have := hlt.trans _ _ _ e (hs.le hlt (i := k) (j := (i + j) / 2) g1 (by omega) (by omega))
    rw [hc] at this; cases this

theorem SeaA.down (hlt : LtOk lt) {a b i j : Nat} {xs : List α} (hs : SrtOn d lt (a + 1) b xs) (h : SeaA d lt a b i j xs) (hij : i < j) (hc : lt (xs.getD ((i + j) / 2) d) (xs.getD a d) = false) : SeaA d lt a b i ((i + j) / 2) xs := by
  have h1 := h.l
  have h2 := h.h
  exact ⟨h1, by omega, by omega, h.lo, fun k g1 g2 => hlt.trans _ _ _ hc (hs.le hlt (i := (i + j) / 2) (j := k) (by omega) g1 g2)⟩

/-- Where the last one goes, among those ahead of it. -/
structure SeaB (d : α) (lt : α → α → Bool) (a m i j : Nat) (xs : List α) : Prop where
  l : a ≤ i
  ij : i ≤ j
  h : j ≤ m
  lo : ∀ k, a ≤ k → k < i → lt (xs.getD m d) (xs.getD k d) = false
  hi : ∀ k, j ≤ k → k < m → lt (xs.getD m d) (xs.getD k d) = true

theorem SeaB.start {a m : Nat} {xs : List α} (h : a ≤ m) : SeaB d lt a m a m xs := ⟨Nat.le_refl _, h, Nat.le_refl _, fun k h1 h2 => by omega, fun k h1 h2 => by omega⟩

theorem SeaB.up (hlt : LtOk lt) {a m i j : Nat} {xs : List α} (hs : SrtOn d lt a m xs) (h : SeaB d lt a m i j xs) (hij : i < j) (hc : lt (xs.getD m d) (xs.getD ((i + j) / 2) d) = false) : SeaB d lt a m ((i + j) / 2 + 1) j xs := by
  have h1 := h.l
  have h2 := h.h
  exact ⟨by omega, by omega, h2, fun k g1 g2 => hlt.trans _ _ _ (hs.le hlt (i := k) (j := (i + j) / 2) g1 (by omega) (by omega)) hc, h.hi⟩

theorem SeaB.down (hlt : LtOk lt) {a m i j : Nat} {xs : List α} (hs : SrtOn d lt a m xs) (h : SeaB d lt a m i j xs) (hij : i < j) (hc : lt (xs.getD m d) (xs.getD ((i + j) / 2) d) = true) : SeaB d lt a m i ((i + j) / 2) xs := by
  have h1 := h.l
  have h2 := h.h
  refine ⟨h1, by omega, by omega, h.lo, fun k g1 g2 => ?_⟩
  cases e : lt (xs.getD m d) (xs.getD k d) with
  | true => rfl
  | false =>
    have := hlt.trans _ _ _ (hs.le hlt (i := (i + j) / 2) (j := k) (by omega) g1 g2) e
    rw [hc] at this; cases this

theorem Half.low {bs n a : Nat} {ys : List α} (h : Half d lt bs n a ys) (hab : n ≤ a + bs) : SrtOn d lt a n ys := by
  obtain ⟨t, rfl, h2, h3⟩ := h
  have e1 : 2 * t * bs = t * (2 * bs) := by rw [Nat.mul_comm 2 t, Nat.mul_assoc]
  have e2 : (2 * t + 1) * bs = t * (2 * bs) + bs := by rw [Nat.succ_mul, e1]
  have k1 := h3 (2 * t) (Nat.le_refl _)
  rw [e2, e1, Nat.min_eq_right hab] at k1
  exact k1

theorem SymS.up {lo hi p s r : Nat} {xs : List α} (h : SymS d lt lo hi p s r xs) (hsr : s < r) (hc : lt (xs.getD (p - (s + r) / 2) d) (xs.getD ((s + r) / 2) d) = false) : SymS d lt lo hi p ((s + r) / 2 + 1) r xs := by
  have h1 := h.l
  have h2 := h.h
  exact ⟨by omega, by omega, h2, .inr (by rw [Nat.add_sub_cancel]; exact hc), h.rt⟩

theorem SymS.down {lo hi p s r : Nat} {xs : List α} (h : SymS d lt lo hi p s r xs) (hsr : s < r) (hc : lt (xs.getD (p - (s + r) / 2) d) (xs.getD ((s + r) / 2) d) = true) : SymS d lt lo hi p s ((s + r) / 2) xs := by
  have h1 := h.l
  have h2 := h.h
  exact ⟨h1, by omega, by omega, h.lf, .inr hc⟩

end
end Go.Fw

/-
  Of arcs that are the same the first one, in the plain.
-/
namespace Go.Fw
open Go

abbrev aD : Arc := ⟨0, 0, 0, 0, 0⟩

def compL : Arc → List Arc → List Arc
  | _, [] => []
  | p, x :: l => if sameK x p then compL x l else x :: compL x l
def comp : List Arc → List Arc
  | [] => []
  | x :: l => x :: compL x l

theorem compL_snoc : ∀ (l : List Arc) (p x : Arc), compL p (l ++ [x]) = compL p l ++ (if sameK x ((p :: l).getLast (by simp)) then [] else [x])
  | [], p, x => rfl
  | y :: l, p, x => by
    have ih := compL_snoc l y x
    simp only [List.cons_append, compL]
    have e : (p :: y :: l).getLast (by simp) = (y :: l).getLast (by simp) := by simp
    rw [e]
    split
    · exact ih
    · rw [ih]; rfl

theorem comp_snoc (l : List Arc) (x : Arc) (h : l ≠ []) : comp (l ++ [x]) = comp l ++ (if sameK x (l.getLast h) then [] else [x]) := by
  cases l with
  | nil => exact absurd rfl h
  | cons y l => simp only [List.cons_append, comp]; rw [compL_snoc]

theorem comp_take (l : List Arc) (k : Nat) (h1 : 1 ≤ k) (h2 : k < l.length) : comp (l.take (k + 1)) = comp (l.take k) ++ (if sameK (l.getD k aD) (l.getD (k - 1) aD) then [] else [l.getD k aD]) := by
  have hne : l.take k ≠ [] := by
    intro c
    have := congrArg List.length c
    rw [List.length_take, List.length_nil] at this
    omega
  rw [take_succ_getD l k aD h2, comp_snoc _ _ hne]
  have e : (l.take k).getLast hne = l.getD (k - 1) aD := by
    have hlt : k - 1 < (l.take k).length := by rw [List.length_take]; omega
    rw [List.getLast_eq_getElem]
    have e2 : (l.take k).length - 1 = k - 1 := by rw [List.length_take]; omega
    simp only [e2, List.getElem_take]
    simp [List.getD, show k - 1 < l.length by omega]
  rw [e]

/-- While the first k are put where they go. -/
structure CompIn (xs : List Arc) (k n : Nat) (ys : List Arc) : Prop where
  len : ys.length = xs.length
  kn : k + 1 ≤ n
  nl : n ≤ xs.length
  k1 : 1 ≤ k
  tk : ys.take k = comp (xs.take n)
  un : ∀ i, n - 1 ≤ i → ys.getD i aD = xs.getD i aD

theorem CompIn.start {xs : List Arc} {k : Nat} (h1 : 1 ≤ k) (h2 : k < xs.length) (hc : comp (xs.take k) = xs.take k) (hs : sameK (xs.getD k aD) (xs.getD (k - 1) aD) = true) : CompIn xs k (k + 1) xs :=
  ⟨rfl, Nat.le_refl _, h2, h1, by rw [comp_take xs k h1 h2, hs, if_pos rfl, List.append_nil, hc], fun _ _ => rfl⟩

theorem CompIn.skip {xs ys : List Arc} {k n : Nat} (h : CompIn xs k n ys) (hn : n < xs.length) (hs : sameK (xs.getD n aD) (xs.getD (n - 1) aD) = true) : CompIn xs k (n + 1) ys := by
  have := h.kn
  have := h.k1
  exact ⟨h.len, by omega, hn, h.k1, by rw [comp_take xs n (by omega) hn, hs, if_pos rfl, List.append_nil, h.tk], fun i hi => h.un i (by omega)⟩

theorem CompIn.put {xs ys : List Arc} {k n : Nat} (h : CompIn xs k n ys) (hn : n < xs.length) (hs : sameK (xs.getD n aD) (xs.getD (n - 1) aD) = false) : CompIn xs (k + 1) (n + 1) (ys.set k (xs.getD n aD)) := by
  have h1 := h.kn
  have h2 := h.k1
  have h3 := h.len
  refine ⟨by simp [h3], by omega, hn, by omega, ?_, fun i hi => ?_⟩
  · rw [comp_take xs n (by omega) hn, hs, if_neg (by simp), ← h.tk]
    rw [take_succ_getD _ k aD (by simp; omega), List.take_set_of_le (Nat.le_refl _)]
    congr 1
    simp [List.getD, show k < ys.length by omega]
  · rw [getD_set', if_neg (by omega)]
    exact h.un i (by omega)

theorem CompIn.done {xs ys : List Arc} {k : Nat} (h : CompIn xs k xs.length ys) : (comp xs).length = k ∧ ys = comp xs ++ ys.drop k := by
  have h1 := h.kn
  have h3 := h.len
  have e := h.tk
  rw [List.take_length] at e
  rw [← e, List.length_take]
  exact ⟨by omega, (List.take_append_drop k ys).symm⟩

end Go.Fw

/-
  Arcs in order, of those that are the same the least weight: told by what it is; there is one such list.
-/
namespace Go.Fw
open Go

/-- The same key. -/
def Key (a b : Arc) : Prop := a.f = b.f ∧ a.i = b.i ∧ a.o = b.o ∧ a.t = b.t

theorem aheadB_iff {a b : Arc} : aheadB a b = true ↔ a.f < b.f ∨ a.f = b.f ∧ (a.i < b.i ∨ a.i = b.i ∧ (a.o < b.o ∨ a.o = b.o ∧ a.t < b.t)) := by
  unfold aheadB
  by_cases h1 : a.f = b.f
  · by_cases h2 : a.i = b.i
    · by_cases h3 : a.o = b.o
      · by_cases h4 : a.t = b.t
        · simp [h1, h2, h3, h4]
        · simp [h1, h2, h3, h4]
      · simp [h1, h2, h3]
    · simp [h1, h2]
  · simp [h1]

theorem Key.not_ahead {a b : Arc} (h : Key a b) : aheadB a b = false := by
  rw [← Bool.not_eq_true, aheadB_iff]
  unfold Key at h
  omega

theorem Key.symm {a b : Arc} (h : Key a b) : Key b a := ⟨h.1.symm, h.2.1.symm, h.2.2.1.symm, h.2.2.2.symm⟩
theorem Key.trans {a b c : Arc} (h : Key a b) (h' : Key b c) : Key a c := ⟨h.1.trans h'.1, h.2.1.trans h'.2.1, h.2.2.1.trans h'.2.2.1, h.2.2.2.trans h'.2.2.2⟩
theorem Key.refl (a : Arc) : Key a a := ⟨rfl, rfl, rfl, rfl⟩
theorem Key.eq {a b : Arc} (h : Key a b) (hw : a.w = b.w) : a = b := by
  obtain ⟨a1, a2, a3, a4, a5⟩ := a
  obtain ⟨b1, b2, b3, b4, b5⟩ := b
  obtain ⟨h1, h2, h3, h4⟩ := h
  simp only at *
  subst h1 h2 h3 h4 hw
  rfl
/-- zs: the arcs of xs in order, of those that are the same the one that weighs least. -/
structure IsNorm (xs zs : List Arc) : Prop where
  srt : Srt zs
  sub : ∀ z ∈ zs, z ∈ xs
  cov : ∀ x ∈ xs, ∃ z ∈ zs, Key z x ∧ z.w ≤ x.w

theorem Srt.key {l : List Arc} (h : Srt l) {a b : Arc} (ha : a ∈ l) (hb : b ∈ l) (hk : Key a b) : a = b := by
  induction l with
  | nil => cases ha
  | cons x l ih =>
    unfold Srt at h
    rw [List.pairwise_cons] at h
    rw [List.mem_cons] at ha hb
    rcases ha with ha | ha
    · rcases hb with hb | hb
      · rw [ha, hb]
      · have := h.1 b hb; rw [← ha, hk.not_ahead] at this; cases this
    · rcases hb with hb | hb
      · have := h.1 a ha; rw [← hb, hk.symm.not_ahead] at this; cases this
      · exact ih h.2 ha hb

theorem Srt.ext {l m : List Arc} (hl : Srt l) (hm : Srt m) (h : ∀ a, a ∈ l ↔ a ∈ m) : l = m := by
  induction l generalizing m with
  | nil =>
    cases m with
    | nil => rfl
    | cons y m => have := (h y).2 (by simp); cases this
  | cons x l ih =>
    cases m with
    | nil => have := (h x).1 (by simp); cases this
    | cons y m =>
      unfold Srt at hl hm
      rw [List.pairwise_cons] at hl hm
      have e : x = y := by
        rcases List.mem_cons.1 ((h x).1 (by simp)) with e | hx
        · exact e
        · rcases List.mem_cons.1 ((h y).2 (by simp)) with e | hy
          · exact e.symm
          · have h1 := hl.1 y hy
            have h2 := hm.1 x hx
            rw [aheadB_asymm h1] at h2
            cases h2
      subst e
      rw [ih hl.2 hm.2]
      intro a
      constructor
      · intro ha
        rcases List.mem_cons.1 ((h a).1 (List.mem_cons_of_mem _ ha)) with rfl | h'
        · have := hl.1 a ha; rw [aheadB_irr] at this; cases this
        · exact h'
      · intro ha
        rcases List.mem_cons.1 ((h a).2 (List.mem_cons_of_mem _ ha)) with rfl | h'
        · have := hm.1 a ha; rw [aheadB_irr] at this; cases this
        · exact h'

theorem IsNorm.uniq {xs zs zs' : List Arc} (h : IsNorm xs zs) (h' : IsNorm xs zs') : zs = zs' := by
  have key : ∀ {zs zs' : List Arc}, IsNorm xs zs → IsNorm xs zs' → ∀ z ∈ zs, z ∈ zs' := by
    intro zs zs' h h' z hz
    obtain ⟨y, hy, hk, hw⟩ := h'.cov z (h.sub z hz)
    obtain ⟨u, hu, hk2, hw2⟩ := h.cov y (h'.sub y hy)
    have e := h.srt.key hu hz (hk2.trans hk)
    subst e
    have : y = u := hk.eq (by omega)
    subst this
    exact hy
  exact h.srt.ext h'.srt fun a => ⟨key h h' a, key h' h a⟩

/-- What sorting comes to. -/
def SortIs (xs zs : List Arc) : Prop := ∃ ys : List Arc, ys.Perm xs ∧ SrtOn aD ltW 0 xs.length ys ∧ zs = comp ys

/-! ### One more, put where it goes -/
theorem IsNorm.nil : IsNorm [] [] := ⟨.nil, fun z h => (by cases h), fun x h => (by cases h)⟩

theorem Srt.at {l : List Arc} (h : Srt l) {i j : Nat} (hij : i < j) (hj : j < l.length) : aheadB (l.getD i aD) (l.getD j aD) = true := by
  have := (List.pairwise_iff_getElem.1 h) i j (by omega) hj hij
  simpa [List.getD, hj, show i < l.length by omega] using this

theorem mem_getD {l : List Arc} {z : Arc} (h : z ∈ l) : ∃ i, i < l.length ∧ l.getD i aD = z := by
  obtain ⟨i, hi, e⟩ := List.getElem_of_mem h
  exact ⟨i, hi, by simp [List.getD, hi, e]⟩

/-- It is new. -/
theorem IsNorm.put {xs out : List Arc} {x : Arc} {at_ : Nat} (h : IsNorm xs out) (h2 : at_ ≤ out.length) (hb : ∀ j, at_ ≤ j → j < out.length → aheadB x (out.getD j aD) = true) (ha : at_ = 0 ∨ aheadB (out.getD (at_ - 1) aD) x = true) :
    IsNorm (xs ++ [x]) (out.take at_ ++ [x] ++ out.drop at_) := by
  have hlow : ∀ z ∈ out.take at_, aheadB z x = true := by
    intro z hz
    obtain ⟨i, hi, e⟩ := mem_getD hz
    rw [List.length_take] at hi
    have e2 : (out.take at_).getD i aD = out.getD i aD := by
      have : i < at_ := by omega
      simp [List.getD, this]
    rw [e2] at e
    rcases ha with ha | ha
    · omega
    · by_cases c : i = at_ - 1
      · rw [← e, c]; exact ha
      · rw [← e]; exact aheadB_trans (h.srt.at (by omega) (by omega)) ha
  have hup : ∀ z ∈ out.drop at_, aheadB x z = true := by
    intro z hz
    obtain ⟨i, hi, e⟩ := mem_getD hz
    rw [List.length_drop] at hi
    have e2 : (out.drop at_).getD i aD = out.getD (at_ + i) aD := by simp [List.getD]
    rw [e2] at e
    rw [← e]
    exact hb _ (by omega) (by omega)
  have hsp : Srt (out.take at_ ++ out.drop at_) := by rw [List.take_append_drop]; exact h.srt
  unfold Srt at hsp
  rw [List.pairwise_append] at hsp
  refine ⟨?_, ?_, ?_⟩
  · unfold Srt
    rw [List.append_assoc, List.pairwise_append]
    refine ⟨hsp.1, ?_, ?_⟩
    · exact List.pairwise_cons.2 ⟨fun z hz => hup z (by simpa using hz), hsp.2.1⟩
    · intro a ha' b hb'
      rcases List.mem_append.1 hb' with hb' | hb'
      · rw [List.mem_singleton] at hb'
        rw [hb']; exact hlow a ha'
      · exact hsp.2.2 a ha' b hb'
  · intro z hz
    rcases List.mem_append.1 hz with hz | hz
    · rcases List.mem_append.1 hz with hz | hz
      · exact List.mem_append_left _ (h.sub z (List.mem_of_mem_take hz))
      · exact List.mem_append_right _ hz
    · exact List.mem_append_left _ (h.sub z (List.mem_of_mem_drop hz))
  · intro u hu
    rcases List.mem_append.1 hu with hu | hu
    · obtain ⟨z, hz, hzk⟩ := h.cov u hu
      refine ⟨z, ?_, hzk⟩
      rw [← List.take_append_drop at_ out] at hz
      rcases List.mem_append.1 hz with hz | hz
      · exact List.mem_append_left _ (List.mem_append_left _ hz)
      · exact List.mem_append_right _ hz
    · rw [List.mem_singleton] at hu
      subst hu
      exact ⟨u, List.mem_append_left _ (List.mem_append_right _ (by simp)), Key.refl u, Int.le_refl _⟩

end Go.Fw

/-
  Turned: labels swapped, or the one for the other; twice swapped it is as it was.
-/
namespace Go.Fw
open Go

def invA (a : Arc) : Arc := ⟨a.f, a.o, a.i, a.t, a.w⟩
def prjA (side : Int) (a : Arc) : Arc := if side = 1 then ⟨a.f, a.i, a.i, a.t, a.w⟩ else ⟨a.f, a.o, a.o, a.t, a.w⟩
/-- Turned as R's TurnedOf does. -/
def turnA (side : Int) (a : Arc) : Arc := if side = 0 then invA a else if side = 1 then ⟨a.f, a.i, a.i, a.t, a.w⟩ else if side = 2 then ⟨a.f, a.o, a.o, a.t, a.w⟩ else a

theorem Srt.nodup {l : List Arc} (h : Srt l) : l.Nodup := by
  unfold Srt at h
  exact h.imp fun {a b} hab e => by rw [e, aheadB_irr] at hab; cases hab

theorem nodup_len {α : Type} [DecidableEq α] : ∀ (l m : List α), l.Nodup → (∀ a ∈ l, a ∈ m) → l.length ≤ m.length
  | [], m, _, _ => Nat.zero_le _
  | a :: l, m, hn, h => by
    rw [List.nodup_cons] at hn
    have ha := h a (by simp)
    have := nodup_len l (m.erase a) hn.2 (fun b hb => (List.mem_erase_of_ne (by rintro rfl; exact hn.1 hb)).2 (h b (List.mem_cons_of_mem _ hb)))
    rw [List.length_erase_of_mem ha] at this
    have : 0 < m.length := List.length_pos_of_mem ha
    simp only [List.length_cons]
    omega

theorem IsNorm.len {xs zs : List Arc} (h : IsNorm xs zs) : zs.length ≤ xs.length := nodup_len zs xs h.srt.nodup h.sub

end Go.Fw
