/-
  Composed: the ways of pairs of states.
-/
import Derived.Test.YtdijmfdanbnppaaDoorR09
import Derived.Test.YtdijmfdanbnppaaDoorR08

set_option linter.unusedSimpArgs false
set_option linter.unusedVariables false

namespace Go.Fw
open Go

/-- A step from a pair: what it reads, writes, costs, where it leads. -/
structure Stp where
  i : Int
  o : Int
  w : Int
  p : Trip

/-- The steps of a pair by an arc of the first one. -/
def stepA (G : TF) (p : Trip) (a : Arc) : List Stp :=
  if a.f ≠ p.a then [] else (if a.o = 0 ∧ p.c ≠ 2 then [⟨a.i, 0, a.w, ⟨a.t, p.b, 1⟩⟩] else []) ++ G.arcs.flatMap fun b => if b.f = p.b ∧ a.o = b.i ∧ a.o ≠ 0 then [⟨a.i, b.o, a.w + b.w, ⟨a.t, b.t, 0⟩⟩] else []
/-- Those of the second one alone. -/
def stepB (p : Trip) (b : Arc) : List Stp := if b.f = p.b ∧ b.i = 0 then [⟨0, b.o, b.w, ⟨p.a, b.t, 2⟩⟩] else []
def steps (F G : TF) (p : Trip) : List Stp := F.arcs.flatMap (stepA G p) ++ G.arcs.flatMap (stepB p)

theorem mem_stepA {G : TF} {p : Trip} {a : Arc} {s : Stp} : s ∈ stepA G p a ↔ a.f = p.a ∧ ((a.o = 0 ∧ p.c ≠ 2 ∧ s = ⟨a.i, 0, a.w, ⟨a.t, p.b, 1⟩⟩) ∨ ∃ b ∈ G.arcs, b.f = p.b ∧ a.o = b.i ∧ a.o ≠ 0 ∧ s = ⟨a.i, b.o, a.w + b.w, ⟨a.t, b.t, 0⟩⟩) := by
  unfold stepA
  by_cases h : a.f = p.a
  · rw [if_neg (fun c => c h), List.mem_append, List.mem_flatMap]
    constructor
    · rintro (h1 | ⟨b, hb, h1⟩)
      · split at h1
        · rename_i c
          exact ⟨h, .inl ⟨c.1, c.2, by simpa using h1⟩⟩
        · cases h1
      · split at h1
        · rename_i c
          exact ⟨h, .inr ⟨b, hb, c.1, c.2.1, c.2.2, by simpa using h1⟩⟩
        · cases h1
    · rintro ⟨_, ⟨h1, h2, rfl⟩ | ⟨b, hb, h1, h2, h3, rfl⟩⟩
      · left; rw [if_pos ⟨h1, h2⟩]; simp
      · right; exact ⟨b, hb, by rw [if_pos ⟨h1, h2, h3⟩]; simp⟩
  · rw [if_pos h]
    constructor
    · intro h1; cases h1
    · rintro ⟨h1, _⟩; exact absurd h1 h

theorem mem_steps {F G : TF} {p : Trip} {s : Stp} : s ∈ steps F G p ↔ (∃ a ∈ F.arcs, a.f = p.a ∧ a.o = 0 ∧ p.c ≠ 2 ∧ s = ⟨a.i, 0, a.w, ⟨a.t, p.b, 1⟩⟩) ∨ (∃ a ∈ F.arcs, ∃ b ∈ G.arcs, a.f = p.a ∧ b.f = p.b ∧ a.o = b.i ∧ a.o ≠ 0 ∧ s = ⟨a.i, b.o, a.w + b.w, ⟨a.t, b.t, 0⟩⟩) ∨
    (∃ b ∈ G.arcs, b.f = p.b ∧ b.i = 0 ∧ s = ⟨0, b.o, b.w, ⟨p.a, b.t, 2⟩⟩) := by
  unfold steps
  rw [List.mem_append, List.mem_flatMap, List.mem_flatMap]
  constructor
  · rintro (⟨a, ha, h⟩ | ⟨b, hb, h⟩)
    · obtain ⟨h1, ⟨h2, h3, rfl⟩ | ⟨b, hb, h2, h3, h4, rfl⟩⟩ := mem_stepA.1 h
      · exact .inl ⟨a, ha, h1, h2, h3, rfl⟩
      · exact .inr (.inl ⟨a, ha, b, hb, h1, h2, h3, h4, rfl⟩)
    · unfold stepB at h
      split at h
      · rename_i c
        exact .inr (.inr ⟨b, hb, c.1, c.2, by simpa using h⟩)
      · cases h
  · rintro (⟨a, ha, h1, h2, h3, rfl⟩ | ⟨a, ha, b, hb, h1, h2, h3, h4, rfl⟩ | ⟨b, hb, h1, h2, rfl⟩)
    · exact .inl ⟨a, ha, mem_stepA.2 ⟨h1, .inl ⟨h2, h3, rfl⟩⟩⟩
    · exact .inl ⟨a, ha, mem_stepA.2 ⟨h1, .inr ⟨b, hb, h2, h3, h4, rfl⟩⟩⟩
    · refine .inr ⟨b, hb, ?_⟩
      unfold stepB
      rw [if_pos ⟨h1, h2⟩]
      simp

/-- A way of pairs. -/
inductive PWay (F G : TF) : Trip → List Int → List Int → Trip → Int → Prop
  | nil (p : Trip) : PWay F G p [] [] p 0
  | cons {p : Trip} {s : Stp} {u v : List Int} {q : Trip} {c : Int} (hs : s ∈ steps F G p) (h : PWay F G s.p u v q c) : PWay F G p (lab s.i ++ u) (lab s.o ++ v) q (s.w + c)

theorem PWay.app {F G : TF} {p q r : Trip} {u v u' v' : List Int} {c d : Int} (h : PWay F G p u v q c) (h' : PWay F G q u' v' r d) : PWay F G p (u ++ u') (v ++ v') r (c + d) := by
  induction h with
  | nil p => simpa using h'
  | cons hs h ih =>
    rw [List.append_assoc, List.append_assoc, Int.add_assoc]
    exact .cons hs (ih h')

/-- A way of pairs is two ways, one word between. -/
theorem PWay.two {F G : TF} {p q : Trip} {u v : List Int} {c : Int} (h : PWay F G p u v q c) : ∃ w c1 c2, Way F.arcs p.a u w q.a c1 ∧ Way G.arcs p.b w v q.b c2 ∧ c = c1 + c2 := by
  induction h with
  | nil p => exact ⟨[], 0, 0, .nil _, .nil _, rfl⟩
  | cons hs h ih =>
    obtain ⟨w, c1, c2, h1, h2, rfl⟩ := ih
    rcases mem_steps.1 hs with ⟨a, ha, e1, e2, _, rfl⟩ | ⟨a, ha, b, hb, e1, e2, e3, e4, rfl⟩ | ⟨b, hb, e1, e2, rfl⟩
    · refine ⟨w, a.w + c1, c2, ?_, by simpa [lab] using h2, by simp only; omega⟩
      have := Way.cons ha h1
      rw [e1, e2] at this
      simpa [lab] using this
    · refine ⟨lab a.o ++ w, a.w + c1, b.w + c2, ?_, ?_, by simp only; omega⟩
      · have := Way.cons ha h1
        rw [e1] at this
        exact this
      · have := Way.cons hb h2
        rw [e2, ← e3] at this
        exact this
    · refine ⟨w, c1, b.w + c2, by simpa [lab] using h1, ?_, by simp only; omega⟩
      have := Way.cons hb h2
      rw [e1, e2] at this
      simpa [lab] using this

/-- One word read, another one written, some word between. -/
def Comp (P Q : List Int → List Int → Int → Prop) (u v : List Int) (c : Int) : Prop := ∃ w a b, P u w a ∧ Q w v b ∧ c = a + b

/-- What pairs cost. -/
def PWt (F G : TF) (u v : List Int) (c : Int) : Prop := ∃ q d, PWay F G ⟨F.start, G.start, 0⟩ u v q d ∧ F.fin.getD q.a.toNat 0 ≠ -1 ∧ G.fin.getD q.b.toNat 0 ≠ -1 ∧ c = d + (F.fin.getD q.a.toNat 0 + G.fin.getD q.b.toNat 0)

/-! ### Numbered -/
/-- The pairs numbered, their arcs. -/
structure Numd (F G : TF) (ps : List Trip) (raw : List Arc) : Prop where
  first : ps.head? = some ⟨F.start, G.start, 0⟩
  nd : ps.Nodup
  snd : ∀ a ∈ raw, ∃ p ∈ ps, ∃ s ∈ steps F G p, s.p ∈ ps ∧ a = ⟨ps.idxOf p, s.i, s.o, ps.idxOf s.p, s.w⟩
  cpl : ∀ p ∈ ps, ∀ s ∈ steps F G p, s.p ∈ ps ∧ (⟨ps.idxOf p, s.i, s.o, ps.idxOf s.p, s.w⟩ : Arc) ∈ raw

theorem idx_at {ps : List Trip} {p : Trip} (hp : p ∈ ps) : ps[ps.idxOf p]? = some p := by
  have h := List.idxOf_lt_length_iff.2 hp
  rw [List.getElem?_eq_getElem h, List.getElem_idxOf h]

theorem idx_inj {ps : List Trip} {p q : Trip} (hp : p ∈ ps) (hq : q ∈ ps) (h : ps.idxOf p = ps.idxOf q) : p = q := by
  have h1 := idx_at hp
  have h2 := idx_at hq
  rw [h, h2] at h1
  exact (Option.some.inj h1).symm

theorem Numd.way {F G : TF} {ps : List Trip} {raw : List Arc} (h : Numd F G ps raw) {p : Trip} (hp : p ∈ ps) {u v : List Int} {q : Trip} {c : Int} (hw : PWay F G p u v q c) : q ∈ ps ∧ Way raw (ps.idxOf p) u v (ps.idxOf q) c := by
  induction hw with
  | nil p => exact ⟨hp, .nil _⟩
  | @cons p s u v q c hs hw ih =>
    obtain ⟨h1, h2⟩ := h.cpl p hp s hs
    obtain ⟨h3, h4⟩ := ih h1
    exact ⟨h3, Way.cons h2 h4⟩

theorem Numd.back {F G : TF} {ps : List Trip} {raw : List Arc} (h : Numd F G ps raw) {n t : Int} {u v : List Int} {c : Int} (hw : Way raw n u v t c) : ∀ p ∈ ps, n = ps.idxOf p → ∃ q ∈ ps, t = ps.idxOf q ∧ PWay F G p u v q c := by
  induction hw with
  | nil s => intro p hp e; exact ⟨p, hp, e, .nil _⟩
  | @cons a u v t c ha hw ih =>
    intro p hp e
    obtain ⟨p', hp', s, hs, hsp, rfl⟩ := h.snd a ha
    have : p' = p := idx_inj hp' hp (by simp only at e; omega)
    subst this
    obtain ⟨q, hq, e2, hw2⟩ := ih s.p hsp rfl
    exact ⟨q, hq, e2, .cons hs hw2⟩

/-- What the numbered ones cost. -/
theorem Numd.wt {F G : TF} {ps : List Trip} {raw : List Arc} (h : Numd F G ps raw) {fin : List Int} (hf : ∀ q ∈ ps, fin.getD (ps.idxOf q) 0 = if F.fin.getD q.a.toNat 0 ≠ -1 ∧ G.fin.getD q.b.toNat 0 ≠ -1 then F.fin.getD q.a.toNat 0 + G.fin.getD q.b.toNat 0 else -1)
    (hF : ∀ x ∈ F.fin, -1 ≤ x) (hG : ∀ x ∈ G.fin, -1 ≤ x) {u v : List Int} {c : Int} : WtL raw 0 fin u v c ↔ PWt F G u v c := by
  have h0 : (⟨F.start, G.start, 0⟩ : Trip) ∈ ps := by
    cases hps : ps with
    | nil => have := h.first; rw [hps] at this; cases this
    | cons x l => have := h.first; rw [hps] at this; simp at this; simp [this]
  have e0 : ps.idxOf (⟨F.start, G.start, 0⟩ : Trip) = 0 := by
    cases hps : ps with
    | nil => rw [hps] at h0; cases h0
    | cons x l => have := h.first; rw [hps] at this; simp at this; rw [this]; simp
  have hpos : ∀ (l : List Int) (n : Nat), (∀ x ∈ l, -1 ≤ x) → -1 ≤ l.getD n 0 := by
    intro l n hl
    by_cases hn : n < l.length
    · exact hl _ (getD_mem l n 0 hn)
    · simp [List.getD, List.getElem?_eq_none (by omega : l.length ≤ n)]
  constructor
  · rintro ⟨t, d, hw, hfin, rfl⟩
    obtain ⟨q, hq, rfl, hp⟩ := h.back hw _ h0 (by rw [e0]; rfl)
    rw [Int.toNat_natCast] at hfin ⊢
    rw [hf q hq] at hfin ⊢
    split at hfin
    · rename_i hc
      rw [if_pos hc]
      exact ⟨q, d, hp, hc.1, hc.2, rfl⟩
    · exact absurd rfl hfin
  · rintro ⟨q, d, hp, h1, h2, rfl⟩
    obtain ⟨hq, hw⟩ := h.way h0 hp
    rw [e0] at hw
    refine ⟨_, d, hw, ?_⟩
    rw [Int.toNat_natCast, hf q hq, if_pos ⟨h1, h2⟩]
    have := hpos F.fin q.a.toNat hF
    have := hpos G.fin q.b.toNat hG
    exact ⟨by omega, rfl⟩
end Go.Fw

/-
  What is reached by arcs, or back by them.
-/
namespace Go.Fw
open Go

def srcA (bk : Bool) (a : Arc) : Int := if bk then a.t else a.f
def dstA (bk : Bool) (a : Arc) : Int := if bk then a.f else a.t

/-- Where the first k arcs lead from a state. -/
def nxL (l : List Arc) (bk : Bool) : Nat → Nat → List Int
  | 0, _ => []
  | k + 1, j => if (j : Int) = srcA bk (l.getD k aD) then nxL l bk k j ++ [dstA bk (l.getD k aD)] else nxL l bk k j

theorem nxL_mem {l : List Arc} {bk : Bool} {j : Nat} {y : Int} : ∀ k, k ≤ l.length → (y ∈ nxL l bk k j ↔ ∃ i, i < k ∧ srcA bk (l.getD i aD) = j ∧ dstA bk (l.getD i aD) = y)
  | 0, _ => by simp [nxL]
  | k + 1, hk => by
    have ih := nxL_mem (l := l) (bk := bk) (j := j) (y := y) k (by omega)
    unfold nxL
    by_cases e : (j : Int) = srcA bk (l.getD k aD)
    · rw [if_pos e, List.mem_append, ih, List.mem_singleton]
      constructor
      · rintro (⟨i, h1, h2⟩ | rfl)
        · exact ⟨i, by omega, h2⟩
        · exact ⟨k, by omega, e.symm, rfl⟩
      · rintro ⟨i, h1, h2, h3⟩
        by_cases q : i = k
        · subst q; exact .inr h3.symm
        · exact .inl ⟨i, by omega, h2, h3⟩
    · rw [if_neg e, ih]
      constructor
      · rintro ⟨i, h1, h2⟩
        exact ⟨i, by omega, h2⟩
      · rintro ⟨i, h1, h2, h3⟩
        by_cases q : i = k
        · subst q; exact absurd h2.symm e
        · exact ⟨i, by omega, h2, h3⟩

theorem nxL_len {l : List Arc} {bk : Bool} {j : Nat} : ∀ k, (nxL l bk k j).length ≤ k
  | 0 => Nat.le_refl _
  | k + 1 => by
    have := nxL_len (l := l) (bk := bk) (j := j) k
    unfold nxL
    split
    · simp; omega
    · omega

/-- What some lead to. -/
inductive Rch (l : List Arc) (bk : Bool) (first : List Int) : Int → Prop
  | here {x : Int} (h : x ∈ first) : Rch l bk first x
  | on {x : Int} {a : Arc} (h : Rch l bk first x) (ha : a ∈ l) (hs : srcA bk a = x) : Rch l bk first (dstA bk a)

/-- The marks and the heap of what is to be looked at. -/
structure ChInv (l : List Arc) (bk : Bool) (first : List Int) (n : Nat) (ms : List Bool) (st : List Int) : Prop where
  len : ms.length = n
  rng : ∀ x ∈ st, 0 ≤ x ∧ x < n
  snd : ∀ j, j < n → ms.getD j false = true → Rch l bk first j
  sst : ∀ x ∈ st, Rch l bk first x
  fst : ∀ x ∈ first, ms.getD x.toNat false = true ∨ x ∈ st
  cpl : ∀ j, j < n → ms.getD j false = true → ∀ y ∈ nxL l bk l.length j, ms.getD y.toNat false = true ∨ y ∈ st

section
variable {l : List Arc} {bk : Bool} {first : List Int} {n : Nat} {ms : List Bool} {st : List Int}

theorem ChInv.start (hf : ∀ x ∈ first, 0 ≤ x ∧ x < n) : ChInv l bk first n (List.replicate n false) first := by
  have e : ∀ j, (List.replicate n false).getD j false = false := fun j => by simp [List.getD, List.getElem?_replicate]; split <;> rfl
  exact ⟨by simp, hf, fun j _ h => (by rw [e] at h; cases h), fun x hx => .here hx, fun x hx => .inr hx, fun j _ h => (by rw [e] at h; cases h)⟩

theorem nxL_rch (hl : ∀ a ∈ l, 0 ≤ srcA bk a ∧ srcA bk a < n ∧ 0 ≤ dstA bk a ∧ dstA bk a < n) {j : Nat} (h : Rch l bk first j) {y : Int} (hy : y ∈ nxL l bk l.length j) : Rch l bk first y ∧ 0 ≤ y ∧ y < n := by
  obtain ⟨i, h1, h2, rfl⟩ := (nxL_mem l.length (Nat.le_refl _)).1 hy
  have hm := getD_mem l i aD h1
  have := hl _ hm
  exact ⟨.on h hm h2, this.2.2.1, this.2.2.2⟩

/-- One that is marked already. -/
theorem ChInv.pass {x : Int} (h : ChInv l bk first n ms (st ++ [x])) (hx : ms.getD x.toNat false = true) : ChInv l bk first n ms st :=
  ⟨h.len, fun y hy => h.rng y (by simp [hy]), h.snd, fun y hy => h.sst y (by simp [hy]), fun y hy => by
    rcases h.fst y hy with q | q
    · exact .inl q
    · rcases List.mem_append.1 q with q | q
      · exact .inr q
      · rw [List.mem_singleton] at q; subst q; exact .inl hx, fun j hj hm y hy => by
    rcases h.cpl j hj hm y hy with q | q
    · exact .inl q
    · rcases List.mem_append.1 q with q | q
      · exact .inr q
      · rw [List.mem_singleton] at q; subst q; exact .inl hx⟩

theorem getD_setB (ms : List Bool) (i j : Nat) (hi : i < ms.length) : (ms.set i true).getD j false = if j = i then true else ms.getD j false := by
  simp only [List.getD, List.getElem?_set]
  by_cases e : i = j
  · subst e; simp [hi]
  · simp [e, Ne.symm e]

/-- One that is new. -/
theorem ChInv.mark (hl : ∀ a ∈ l, 0 ≤ srcA bk a ∧ srcA bk a < n ∧ 0 ≤ dstA bk a ∧ dstA bk a < n) {x : Int} (h : ChInv l bk first n ms (st ++ [x])) : ChInv l bk first n (ms.set x.toNat true) (st ++ nxL l bk l.length x.toNat) := by
  have hxr := h.rng x (by simp)
  have hln := h.len
  have hx := h.sst x (by simp)
  have ex : ((x.toNat : Nat) : Int) = x := by omega
  have hg : ∀ j, (ms.set x.toNat true).getD j false = if j = x.toNat then true else ms.getD j false := fun j => getD_setB ms _ j (by omega)
  have hxn : Rch l bk first (x.toNat : Nat) := by rw [ex]; exact hx
  refine ⟨by simp [hln], fun y hy => ?_, fun j hj hm => ?_, fun y hy => ?_, fun y hy => ?_, fun j hj hm y hy => ?_⟩
  · rcases List.mem_append.1 hy with hy | hy
    · exact h.rng y (by simp [hy])
    · exact (nxL_rch hl hxn hy).2
  · rw [hg] at hm
    split at hm
    · rename_i e; rw [e, ex]; exact hx
    · exact h.snd j hj hm
  · rcases List.mem_append.1 hy with hy | hy
    · exact h.sst y (by simp [hy])
    · exact (nxL_rch hl hxn hy).1
  · rw [hg]
    rcases h.fst y hy with q | q
    · left; split
      · rfl
      · exact q
    · rcases List.mem_append.1 q with q | q
      · exact .inr (by simp [q])
      · rw [List.mem_singleton] at q; subst q; left; rw [if_pos rfl]
  · rw [hg] at hm ⊢
    split at hm
    · rename_i e; subst e; exact .inr (by simp [hy])
    · rcases h.cpl j hj hm y hy with q | q
      · left; split
        · rfl
        · exact q
      · rcases List.mem_append.1 q with q | q
        · exact .inr (by simp [q])
        · rw [List.mem_singleton] at q; subst q; left; rw [if_pos rfl]

theorem ChInv.done (hl : ∀ a ∈ l, 0 ≤ srcA bk a ∧ srcA bk a < n ∧ 0 ≤ dstA bk a ∧ dstA bk a < n) (hf : ∀ x ∈ first, 0 ≤ x ∧ x < n) (h : ChInv l bk first n ms []) {j : Nat} (hj : j < n) : ms.getD j false = true ↔ Rch l bk first j := by
  refine ⟨h.snd j hj, fun hr => ?_⟩
  have key : ∀ x, Rch l bk first x → 0 ≤ x ∧ x < n ∧ ms.getD x.toNat false = true := by
    intro x hx
    induction hx with
    | here hx =>
      have := hf _ hx
      rcases h.fst _ hx with q | q
      · exact ⟨this.1, this.2, q⟩
      · cases q
    | @on x a hr ha hs ih =>
      obtain ⟨h1, h2, h3⟩ := ih
      have hb := hl a ha
      obtain ⟨i, hi, e⟩ := List.getElem_of_mem ha
      have e2 : l.getD i aD = a := by simp [List.getD, hi, e]
      have hm : dstA bk a ∈ nxL l bk l.length x.toNat := (nxL_mem l.length (Nat.le_refl _)).2 ⟨i, hi, by rw [e2, hs]; omega, by rw [e2]⟩
      rcases h.cpl x.toNat (by omega) h3 _ hm with q | q
      · exact ⟨hb.2.2.1, hb.2.2.2, q⟩
      · cases q
  have := (key j hr).2.2
  simpa using this
end

/-- What is yet to be looked at. -/
def potR (L : Nat → Nat) (ms : List Bool) : Nat → Nat
  | 0 => 0
  | k + 1 => potR L ms k + if ms.getD k false = true then 0 else L k

theorem potR_set {L : Nat → Nat} {ms : List Bool} {i : Nat} (hi : i < ms.length) (hm : ms.getD i false ≠ true) : ∀ k, potR L (ms.set i true) k + (if i < k then L i else 0) = potR L ms k
  | 0 => by simp [potR]
  | k + 1 => by
    have ih := potR_set hi hm k (L := L)
    unfold potR
    rw [getD_setB ms i k hi]
    by_cases e : k = i
    · subst e
      rw [if_neg (by omega)] at ih
      rw [if_pos rfl, if_pos rfl, if_pos (by omega), if_neg hm]
      omega
    · rw [if_neg e]
      generalize (if ms.getD k false = true then 0 else L k) = z
      by_cases e2 : i < k
      · rw [if_pos e2] at ih
        rw [if_pos (by omega)]
        omega
      · rw [if_neg e2] at ih
        rw [if_neg (by omega)]
        omega
end Go.Fw

namespace Go.Fw
open Go Go.Proofs

/-- States and arcs that fit together. -/
structure FRng (F : TF) : Prop where
  st : 0 ≤ F.st ∧ F.st ≤ 100000
  finl : (F.fin.length : Int) = F.st
  arcl : F.arcs.length ≤ 100000
  arc : ∀ a ∈ F.arcs, 0 ≤ a.f ∧ a.f < F.st ∧ 0 ≤ a.t ∧ a.t < F.st

theorem FRng.src {F : TF} (h : FRng F) {bk : Bool} {a : Arc} (ha : a ∈ F.arcs) : 0 ≤ srcA bk a ∧ srcA bk a < (F.st.toNat : Nat) ∧ 0 ≤ dstA bk a ∧ dstA bk a < (F.st.toNat : Nat) := by
  have := h.arc a ha
  have := h.st
  unfold srcA dstA
  cases bk <;> simp only [Bool.false_eq_true, if_false, if_true, reduceIte] <;> omega

theorem nxL_app {l : List Arc} {bk : Bool} {k n : Nat} (h : 0 ≤ srcA bk (l.getD k aD)) (i : Nat) : (if i = (srcA bk (l.getD k aD)).toNat then nxL l bk k (srcA bk (l.getD k aD)).toNat ++ [dstA bk (l.getD k aD)] else nxL l bk k i) = nxL l bk (k + 1) i := by
  show _ = if (i : Int) = srcA bk (l.getD k aD) then nxL l bk k i ++ [dstA bk (l.getD k aD)] else nxL l bk k i
  by_cases e : (i : Int) = srcA bk (l.getD k aD)
  · rw [if_pos e, if_pos (by omega), show (srcA bk (l.getD k aD)).toNat = i by omega]
  · rw [if_neg e, if_neg (by omega)]

theorem potR_le {L : Nat → Nat} {ms : List Bool} {B : Nat} (h : ∀ j, L j ≤ B) : ∀ k, potR L ms k ≤ k * B
  | 0 => by simp [potR]
  | k + 1 => by
    have := potR_le (ms := ms) h k
    have := h k
    rw [Nat.succ_mul]
    unfold potR
    split <;> omega

theorem tab2_none (N : Nat) : Tab2 [] (List.replicate N EK.sli.dflt) N fun _ => ([] : List Int) := by
  have e : ∀ j, j < N → (List.replicate N EK.sli.dflt).getD j EK.sli.dflt = EK.sli.dflt := fun j hj => by simp [List.getD, hj]
  refine ⟨by simp, fun j hj => ?_, fun j hj => ?_, fun s t b hs ht hst hb => ?_⟩
  · rewrite [e j hj]; exact (⟨Eq.refl 0, Eq.refl 0⟩ : (0 : Nat) = 0 ∧ (0 : Nat) = 0)
  · rewrite [e j hj]; show rowA [] none = []; rfl
  · rewrite [e s hs] at hb; cases hb

abbrev hpRe (F : TF) (ms : List Bool) (rows : List Sli) (m : List (Addr × List Int × Nat)) : List (Nat × SO) := [(0, .arr false 3 .int F.fin 0), (1, .arr false 35 .arc F.arcs 0), (3, .box 25 (onF F)), (4, .arr true 4 .bool ms 0), (5, .arr true 22 .sli rows 0), (6, .pool 3 .int m)]

set_option maxHeartbeats 16000000 in
set_option maxRecDepth 20000 in
theorem reached_c (F : TF) (hF : FRng F) (xs : List Int) (sp : Nat) (bk : Bool) (hx : ∀ x ∈ xs, 0 ≤ x ∧ x < (F.st.toNat : Nat)) (hxl : xs.length ≤ 1000000) :
    Ct Tryd.prog 49 [fV F, .c (.sl 2 1 0 xs.length (xs.length + sp)), .b bk] [] ((2, .arr true 3 .int xs sp) :: hpF F) 3
    (fun v s => ∃ ms : List Bool, v = .c (.sl 3 1 0 ms.length ms.length) ∧ s = ⟨[], [(3, .arr true 4 .bool ms 0)], 4⟩ ∧ ms.length = F.st.toNat ∧ ∀ j, j < F.st.toNat → (ms.getD j false = true ↔ Rch F.arcs bk xs j)) := by
  have hst := hF.st
  have hal := hF.arcl
  refine ctW Tryd.tyOk 12 [19, 20, 21] Tryd.func49 rfl (by simp) (by simp) (fr := [(0, fV F), (1, .c (.sl 2 1 0 xs.length (xs.length + sp))), (2, .b bk)]) rfl ?_
  repeat' (first | exact rfl | ((conv => whnf); first | (refine qX (fun h => ?_) fun h => ?_ <;> try exact absurd h (by omega)) | refine oN ?_ | refine oM ?_ ?_ | refine bM ?_ ?_ | refine dR ?_))
  (conv => whnf)
  refine loopI (fun z : Nat × List Sli × List (Addr × List Int × Nat) => ⟨[(1, .c (.sl 2 1 0 xs.length (xs.length + sp))), (2, .b bk), (3, .c (.ptr 3 0)), (7, .c (.sl 4 1 0 F.st.toNat F.st.toNat)), (8, .c (.sl 5 1 0 F.st.toNat F.st.toNat)), (19, .c (.sl 1 5 0 F.arcs.length F.capA)), (20, .i F.arcs.length), (21, .i z.1)], (2, .arr true 3 .int xs sp) :: hpRe F (List.replicate F.st.toNat false) z.2.1 z.2.2, 7⟩)
    (fun z => z.1 ≤ F.arcs.length ∧ Tab2 z.2.2 z.2.1 F.st.toNat (nxL F.arcs bk z.1)) (fun z => F.arcs.length - z.1) (0, List.replicate F.st.toNat EK.sli.dflt, []) [(6, none)] ⟨by rfl, ?_, ?_⟩ ⟨Nat.zero_le _, (tab2_none _).cong fun j _ => rfl⟩ ?_
  · simp
  · simp [EK.dflt, nilO]
  · rintro ⟨k, rows, m⟩ ⟨hk, htab⟩
    simp only at hk htab ⊢
    have hrl := htab.len
    (conv => whnf)
    refine condP_dec (fun hk2 => ?_) (fun hk2 => ?_)
    · have e0 : 0 + (k : Int).toNat = k := by omega
      have hm := getD_mem F.arcs k aD (by omega)
      have hb := hF.arc _ hm
      have hsr := hF.src (bk := bk) hm
      have hj : (srcA bk (F.arcs.getD k aD)).toNat < F.st.toNat := by omega
      have hhd := htab.hd _ hj
      have hnl := hhd.len
      rw [htab.row _ hj] at hnl
      have hll := nxL_len (l := F.arcs) (bk := bk) (j := (srcA bk (F.arcs.getD k aD)).toNat) k
      cases bk with
      | true =>
        have hb1 : 0 ≤ (F.arcs.getD (0 + (k : Int).toNat) EK.arc.dflt).t ∧ (F.arcs.getD (0 + (k : Int).toNat) EK.arc.dflt).t < F.st := by rw [e0]; exact ⟨hb.2.2.1, hb.2.2.2⟩
        have hhd1 : Hd m (rows.getD (0 + (F.arcs.getD (0 + (k : Int).toNat) EK.arc.dflt).t.toNat) EK.sli.dflt) := by rw [Nat.zero_add, e0]; exact hhd
        have hnl1 : (rows.getD (0 + (F.arcs.getD (0 + (k : Int).toNat) EK.arc.dflt).t.toNat) EK.sli.dflt).n ≤ k := by rw [Nat.zero_add, e0]; exact hnl ▸ hll
        repeat' (first | exact rfl | ((conv => whnf); first | (refine qX (fun h => ?_) fun h => ?_ <;> try exact absurd h (by omega)) | refine oN ?_ | refine oM ?_ ?_ | refine bM ?_ ?_ | refine dR ?_))
        · exact ⟨hhd1, by omega, by omega⟩
        · intro m' h' happ
          have happ2 : App m (rows.getD (srcA true (F.arcs.getD k aD)).toNat EK.sli.dflt) [dstA true (F.arcs.getD k aD)] m' h' := by
            rw [Nat.zero_add, e0] at happ
            exact happ
          have htab2 := (htab.app hj happ2).cong fun i _ => nxL_app (n := 0) hsr.1 i
          have es : (srcA true (F.arcs.getD k aD)).toNat = 0 + (F.arcs.getD (0 + (k : Int).toNat) EK.arc.dflt).t.toNat := by rw [Nat.zero_add, e0]; rfl
          rw [es] at htab2
          clear htab happ happ2 hhd hhd1 hnl hnl1
          repeat' (first | exact rfl | ((conv => whnf); first | (refine qX (fun h => ?_) fun h => ?_ <;> try exact absurd h (by omega)) | refine oN ?_ | refine oM ?_ ?_ | refine bM ?_ ?_ | refine dR ?_))
          (conv => whnf)
          refine ⟨(k + 1, rows.set (0 + (F.arcs.getD (0 + (k : Int).toNat) EK.arc.dflt).t.toNat) h', m'), [], ⟨by rfl, ?_, ?_⟩, ⟨by simp only; omega, htab2⟩, by simp only; omega⟩
          · simp
          · simp
      | false =>
        have hb1 : 0 ≤ (F.arcs.getD (0 + (k : Int).toNat) EK.arc.dflt).f ∧ (F.arcs.getD (0 + (k : Int).toNat) EK.arc.dflt).f < F.st := by rw [e0]; exact ⟨hb.1, hb.2.1⟩
        have hhd1 : Hd m (rows.getD (0 + (F.arcs.getD (0 + (k : Int).toNat) EK.arc.dflt).f.toNat) EK.sli.dflt) := by rw [Nat.zero_add, e0]; exact hhd
        have hnl1 : (rows.getD (0 + (F.arcs.getD (0 + (k : Int).toNat) EK.arc.dflt).f.toNat) EK.sli.dflt).n ≤ k := by rw [Nat.zero_add, e0]; exact hnl ▸ hll
        repeat' (first | exact rfl | ((conv => whnf); first | (refine qX (fun h => ?_) fun h => ?_ <;> try exact absurd h (by omega)) | refine oN ?_ | refine oM ?_ ?_ | refine bM ?_ ?_ | refine dR ?_))
        · exact ⟨hhd1, by omega, by omega⟩
        · intro m' h' happ
          have happ2 : App m (rows.getD (srcA false (F.arcs.getD k aD)).toNat EK.sli.dflt) [dstA false (F.arcs.getD k aD)] m' h' := by
            rw [Nat.zero_add, e0] at happ
            exact happ
          have htab2 := (htab.app hj happ2).cong fun i _ => nxL_app (n := 0) hsr.1 i
          have es : (srcA false (F.arcs.getD k aD)).toNat = 0 + (F.arcs.getD (0 + (k : Int).toNat) EK.arc.dflt).f.toNat := by rw [Nat.zero_add, e0]; rfl
          rw [es] at htab2
          clear htab happ happ2 hhd hhd1 hnl hnl1
          repeat' (first | exact rfl | ((conv => whnf); first | (refine qX (fun h => ?_) fun h => ?_ <;> try exact absurd h (by omega)) | refine oN ?_ | refine oM ?_ ?_ | refine bM ?_ ?_ | refine dR ?_))
          (conv => whnf)
          refine ⟨(k + 1, rows.set (0 + (F.arcs.getD (0 + (k : Int).toNat) EK.arc.dflt).f.toNat) h', m'), [], ⟨by rfl, ?_, ?_⟩, ⟨by simp only; omega, htab2⟩, by simp only; omega⟩
          · simp
          · simp
    · have e : k = F.arcs.length := by omega
      subst e
      have hL : ∀ j, (nxL F.arcs bk F.arcs.length j).length ≤ 100000 := fun j => Nat.le_trans (nxL_len _) hal
      have hP0 := potR_le (ms := List.replicate F.st.toNat false) hL F.st.toNat
      generalize hpt : potR (fun j => (nxL F.arcs bk F.arcs.length j).length) (List.replicate F.st.toNat false) F.st.toNat = P0 at hP0
      repeat' (first | exact rfl | ((conv => whnf); first | (refine qX (fun h => ?_) fun h => ?_ <;> try exact absurd h (by omega)) | refine oN ?_ | refine oM ?_ ?_ | refine bM ?_ ?_ | refine dR ?_))
      (conv => whnf)
      refine loopI (fun z : List Int × List Int × Nat × Nat × List Bool => ⟨[(1, .c (.sl 7 1 0 z.1.length z.2.2.2.1)), (7, .c (.sl 4 1 0 F.st.toNat F.st.toNat)), (8, .c (.sl 5 1 0 F.st.toNat F.st.toNat))], (7, .arr true 3 .int (z.1 ++ z.2.1) z.2.2.1) :: hpRe F z.2.2.2.2 rows m, 8⟩)
        (fun z => ChInv F.arcs bk xs F.st.toNat z.2.2.2.2 z.1 ∧ z.2.2.2.1 ≤ z.1.length + z.2.1.length + z.2.2.1 ∧ z.1.length ≤ z.2.2.2.1 ∧ z.1.length + potR (fun j => (nxL F.arcs bk F.arcs.length j).length) z.2.2.2.2 F.st.toNat ≤ xs.length + P0) (fun z => z.1.length + potR (fun j => (nxL F.arcs bk F.arcs.length j).length) z.2.2.2.2 F.st.toNat) (xs, [], sp, xs.length + sp, List.replicate F.st.toNat false) [(7, some 2)] ⟨by rfl, ?_, ?_⟩ ⟨ChInv.start hx, by simp, by simp, by simp only [hpt]; exact Nat.le_refl _⟩ ?_
      · simp
      · simp
      · rintro ⟨st, junk, sp2, cap, ms⟩ ⟨hinv, hcap, hlc, hpo⟩
        simp only at hinv hcap hlc hpo ⊢
        have hml := hinv.len
        have hP1 : P0 ≤ 10000000000 := by omega
        have hnil : st = [] ∨ ∃ l x, st = l ++ [x] := by
          rcases st.eq_nil_or_concat with h | ⟨l, x, h⟩
          · exact .inl h
          · exact .inr ⟨l, x, by rw [h, List.concat_eq_append]⟩
        rcases hnil with rfl | ⟨st, x, rfl⟩
        · repeat' (first | exact rfl | ((conv => whnf); first | (refine qX (fun h => ?_) fun h => ?_ <;> try exact absurd h (by omega)) | refine oN ?_ | refine oM ?_ ?_ | refine bM ?_ ?_ | refine dR ?_ | intro _))
          (conv => whnf)
          exact ⟨[(3, some 4)], [(3, .arr true 4 .bool ms 0)], 4, .c (.sl 3 1 0 ms.length ms.length), ⟨by rfl, trivial, by simp⟩, by simp [hml], ms, rfl, rfl, hml, fun j hj => hinv.done (fun a ha => hF.src ha) hx hj⟩
        · have ee : ((st ++ [x] ++ junk).getD (0 + (((st ++ [x]).length : Int) - 1).toNat) EK.int.dflt) = x := by
            have e1 : 0 + (((st ++ [x]).length : Int) - 1).toNat = st.length := by simp
            rw [e1, List.append_assoc]
            simp [List.getD]
          have hxr := hinv.rng x (by simp)
          have hr0 := @id (@LE.le Int _ 0 ((st ++ [x] ++ junk).getD (0 + (((st ++ [x]).length : Int) - 1).toNat) EK.int.dflt)) (by rw [ee]; exact hxr.1)
          have hr1 := @id (@LT.lt Int _ ((st ++ [x] ++ junk).getD (0 + (((st ++ [x]).length : Int) - 1).toNat) EK.int.dflt) (F.st.toNat : Int)) (by rw [ee]; exact hxr.2)
          have hhd : Hd m (rows.getD (0 + Int.toNat ((st ++ [x] ++ junk).getD (0 + (((st ++ [x]).length : Int) - 1).toNat) EK.int.dflt)) EK.sli.dflt) := htab.hd _ (by omega)
          have hrw : rowA m (rows.getD (0 + Int.toNat ((st ++ [x] ++ junk).getD (0 + (((st ++ [x]).length : Int) - 1).toNat) EK.int.dflt)) EK.sli.dflt).a = nxL F.arcs bk F.arcs.length x.toNat := by rw [htab.row _ (by omega), ee, Nat.zero_add]
          have hnn := hhd.len
          rw [hrw] at hnn
          have hnl := hL x.toNat
          have hsl : (st ++ [x]).length = st.length + 1 := by simp
          have hA : (((st ++ [x]).length : Int) - 1 - 0).toNat = st.length := by simp
          have hsb0 : sub (st ++ [x] ++ junk) 0 st.length = st := by simp [sub]
          have hsb : sub (st ++ [x] ++ junk) (0 + Int.toNat 0) st.length = st := hsb0
          rw [hsl] at hpo hlc hcap
          repeat' (first | exact rfl | ((conv => whnf); first | (refine qX (fun h => ?_) fun h => ?_ <;> try exact absurd h (by omega)) | refine oN ?_ | refine oM ?_ ?_ | refine bM ?_ ?_ | refine dR ?_))
          · intro sp3
            repeat' (first | exact rfl | ((conv => whnf); first | (refine qX (fun h => ?_) fun h => ?_ <;> try exact absurd h (by omega)) | refine oN ?_ | refine oM ?_ ?_ | refine bM ?_ ?_ | refine dR ?_))
            (conv => whnf)
            rw [ee, Nat.zero_add] at h
            have hmk2 : ms.getD x.toNat false ≠ true := by
              intro q
              rw [show EK.bool.dflt = false from rfl, q] at h
              cases h
            have hps := potR_set (L := fun j => (nxL F.arcs bk F.arcs.length j).length) (i := x.toNat) (by omega) hmk2 F.st.toNat
            rw [if_pos (by omega)] at hps
            simp only [ee] at hrw hnn
            simp only [hA, ee, hsb, hsb0, hrw, hnn]
            refine ⟨(st ++ nxL F.arcs bk F.arcs.length x.toNat, [], sp3, (st ++ nxL F.arcs bk F.arcs.length x.toNat).length + sp3, ms.set x.toNat true), [(7, some 8)], ⟨by rfl, ?_, ?_⟩, ⟨hinv.mark fun a ha => hF.src ha, ?_, ?_, ?_⟩, ?_⟩
            · simp [List.length_append]
            · simp [List.append_nil, lOp.appL]
            all_goals simp only [List.length_append, List.length_cons, List.length_nil] at *
            all_goals omega
          · (conv => whnf)
            rw [ee, Nat.zero_add] at h
            have hmk2 : ms.getD x.toNat false = true := by
              rw [show EK.bool.dflt = false from rfl] at h
              simpa using h
            simp only [hA]
            refine ⟨(st, x :: junk, sp2, cap, ms), [], ⟨by rfl, ?_, ?_⟩, ⟨hinv.pass hmk2, ?_, ?_, ?_⟩, ?_⟩
            · simp
            · simp
            all_goals simp only [List.length_append, List.length_cons, List.length_nil] at *
            all_goals omega
end Go.Fw

namespace Go.Fw
open Go Go.Proofs

/-- Kept: marked twice. -/
def kpB (m1 m2 : List Bool) (j : Nat) : Bool := m1.getD j false && m2.getD j false

theorem keep1_c (m1 m2 : List Bool) (n1 n2 : Nat) (hn1 : n1 = m1.length) (hn2 : n2 = m2.length) (x : Int) (hx : 0 ≤ x) (h1 : x < m1.length) (h2 : x < m2.length) :
    Ct Tryd.prog 51 [.i x, .c (.ptr 2 0), .c (.ptr 3 0)] [] [(0, .arr false 4 .bool m1 0), (1, .arr false 4 .bool m2 0), (2, .box 77 [.sl 0 1 0 n1 n1]), (3, .box 77 [.sl 1 1 0 n2 n2])] 4
    (fun v s => v = .b (kpB m1 m2 x.toNat) ∧ s = ⟨[], [(2, .box 77 [.sl 0 1 0 n1 n1]), (3, .box 77 [.sl 1 1 0 n2 n2])], 4⟩) := by
  subst hn1 hn2
  refine ctW Tryd.tyOk 5 [] Tryd.func51 rfl (by simp) (by simp) (fr := [(0, .i x), (1, .c (.ptr 2 0)), (2, .c (.ptr 3 0))]) rfl ?_
  repeat' (first | exact rfl | ((conv => whnf); first | (refine qX (fun h => ?_) fun h => ?_ <;> try exact absurd h (by omega)) | refine oN ?_ | refine oM ?_ ?_ | refine bM ?_ ?_ | refine dR ?_))
  all_goals
    (conv => whnf)
    refine ⟨[], [(2, .box 77 [.sl 0 1 0 m1.length m1.length]), (3, .box 77 [.sl 1 1 0 m2.length m2.length])], 4, .b (kpB m1 m2 x.toNat), ⟨by rfl, trivial, by simp⟩, ?_, rfl, rfl⟩
    simp_all [eqV, eqA, eqC, kpB, EK.dflt]

/-- What comes out: 0 final, 1 arcs. -/
def OutPost (st start : Int) (fin : List Int) (arcs : List Arc) (n : Nat) (v : SV) (s : S) : Prop := ∃ sp sq, v = .a (.agg [.i st, .i start, .sl n 1 0 fin.length (fin.length + sp), .sl (n + 1) 5 0 arcs.length (arcs.length + sq)]) ∧ s = ⟨[], [(n, .arr true 3 .int fin sp), (n + 1, .arr true 35 .arc arcs sq)], n + 2⟩

theorem nothing_c : Ct Tryd.prog 63 [] [] [] 0 (OutPost 1 0 [-1] [] 0) := by
  refine ctW Tryd.tyOk 1 [] Tryd.func63 rfl (by simp) (by simp) (fr := []) rfl ?_
  repeat' (first | exact rfl | ((conv => whnf); first | (refine qX (fun h => ?_) fun h => ?_ <;> try exact absurd h (by omega)) | refine oN ?_ | refine oM ?_ ?_ | refine bM ?_ ?_ | refine dR ?_))
  (conv => whnf)
  exact ⟨[(0, some 1), (1, none)], [(0, .arr true 3 .int [-1] 0), (1, .arr true 35 .arc [] 0)], 2, .a (.agg [.i 1, .i 0, .sl 0 1 0 1 1, .sl 1 5 0 0 0]), ⟨by rfl, trivial, by simp [nilO]⟩, by simp, 0, 0, rfl, rfl⟩

/-- How many are kept below k. -/
def rkB (p : Nat → Bool) : Nat → Nat
  | 0 => 0
  | k + 1 => if p k = true then rkB p k + 1 else rkB p k

/-- What they tell. -/
def kfin (p : Nat → Bool) (fin : List Int) : Nat → List Int
  | 0 => []
  | k + 1 => if p k = true then kfin p fin k ++ [fin.getD k 0] else kfin p fin k

theorem kfin_len (p : Nat → Bool) (fin : List Int) : ∀ k, (kfin p fin k).length = rkB p k
  | 0 => rfl
  | k + 1 => by
    have := kfin_len p fin k
    unfold kfin rkB
    split <;> simp [this]
theorem rkB_le (p : Nat → Bool) : ∀ k, rkB p k ≤ k
  | 0 => Nat.le_refl _
  | k + 1 => by
    have := rkB_le p k
    unfold rkB
    split <;> omega

def kArc (p : Nat → Bool) (a : Arc) : Arc := ⟨(rkB p a.f.toNat : Nat), a.i, a.o, (rkB p a.t.toNat : Nat), a.w⟩
def kOk (p : Nat → Bool) (a : Arc) : Bool := p a.f.toNat && p a.t.toNat
def karc (p : Nat → Bool) (l : List Arc) : Nat → List Arc
  | 0 => []
  | k + 1 => if kOk p (l.getD k aD) = true then karc p l k ++ [kArc p (l.getD k aD)] else karc p l k

theorem karc_len (p : Nat → Bool) (l : List Arc) : ∀ k, (karc p l k).length ≤ k
  | 0 => Nat.le_refl _
  | k + 1 => by
    have := karc_len p l k
    unfold karc
    split
    · simp; omega
    · omega

abbrev LkI (es : List (Int × Int × Nat)) (p : Nat → Bool) (k : Nat) : Prop := ∀ j : Int, 0 ≤ j → j < k → p j.toNat = true → @lkM EK.int.ty EK.int.ty (EK.instDeq .int) es j = some ((rkB p j.toNat : Nat) : Int)

/-- What Kept answers. -/
def keptPost (F : TF) (p : Nat → Bool) (n : Nat) (v : SV) (s : S) : Prop :=
  if p F.start.toNat = true then OutPost (rkB p F.st.toNat : Nat) (rkB p F.start.toNat : Nat) (kfin p F.fin F.st.toNat) (karc p F.arcs F.arcs.length) n v s else OutPost 1 0 [-1] [] n v s

abbrev hpKe (F : TF) (m1 m2 : List Bool) (n1 n2 : Nat) : List (Nat × SO) := [(0, .arr false 3 .int F.fin 0), (1, .arr false 35 .arc F.arcs 0), (2, .arr false 4 .bool m1 0), (3, .arr false 4 .bool m2 0), (4, .box 77 [.sl 2 1 0 n1 n1]), (5, .box 77 [.sl 3 1 0 n2 n2])]

set_option maxHeartbeats 16000000 in
set_option maxRecDepth 20000 in
theorem kept_c (F : TF) (hF : FRng F) (hs : 0 ≤ F.start ∧ F.start < F.st) (m1 m2 : List Bool) (n1 n2 : Nat) (hn1 : n1 = m1.length) (hn2 : n2 = m2.length) (hm1 : (m1.length : Int) = F.st) (hm2 : (m2.length : Int) = F.st) :
    Ct Tryd.prog 50 [fV F, .c (.fn 51 [(4, 0), (5, 0)])] [] (hpKe F m1 m2 n1 n2) 6 (keptPost F (kpB m1 m2) 6) := by
  have hst := hF.st
  have hal := hF.arcl
  have hfl := hF.finl
  generalize hp : kpB m1 m2 = p
  refine ctW Tryd.tyOk 10 [13, 14, 51, 52, 53] Tryd.func50 rfl (by simp; omega) (by simp) (fr := [(0, fV F), (1, .c (.fn 51 [(4, 0), (5, 0)]))]) rfl ?_
  repeat' (first | exact rfl | ((conv => whnf); first | (refine qX (fun h => ?_) fun h => ?_ <;> try exact absurd h (by omega)) | refine oN ?_ | refine oM ?_ ?_ | refine bM ?_ ?_ | refine dR ?_))
  (conv => whnf)
  refine loopI (fun z : Nat × Nat × List (Int × Int × Nat) × Nat => ⟨[(1, .c (.fn 51 [(4, 0), (5, 0)])), (2, .c (.ptr 6 0)), (4, .c (.ptr 7 0)), (5, .c (.mp 8)), (6, .c (.ptr 9 0)), (13, .i F.st), (14, .i z.1)],
      hpKe F m1 m2 n1 n2 ++ [(6, .box 25 (fCells F)), (7, .box 25 [.i 0, .i 0, .v (.slice none 0 0), .v (.slice none 0 0)]), (8, .map .int .int z.2.2.1 z.2.2.2), (9, .box 25 [.i (rkB p z.1), .i 0, .sl 10 1 0 (kfin p F.fin z.1).length ((kfin p F.fin z.1).length + z.2.1), .v (.slice none 0 0)]), (10, .arr true 3 .int (kfin p F.fin z.1) z.2.1)], 11⟩)
    (fun z => (z.1 : Int) ≤ F.st ∧ LkI z.2.2.1 p z.1) (fun z => F.st.toNat - z.1) (0, 0, [], 0) [(10, none)] ⟨by rfl, ?_, ?_⟩ ⟨by simp only; omega, fun j h0 h1 => by simp only at h1; omega⟩ ?_
  · simp
  · simp [fCells, nilO, rkB, kfin]
  · rintro ⟨k, sp, es, clk⟩ ⟨hk, hlk⟩
    simp only at hk hlk ⊢
    have hkl := kfin_len p F.fin k
    have hrk := rkB_le p k
    generalize hpl : kfin p F.fin k = pl at hkl ⊢
    repeat' (first | exact rfl | ((conv => whnf); first | (refine qX (fun h => ?_) fun h => ?_ <;> try exact absurd h (by omega)) | refine oN ?_ | refine oM ?_ ?_ | refine bM ?_ ?_ | refine dR ?_))
    · have hk1 : F.st.toNat - (k + 1) < F.st.toNat - k := by omega
      (conv => whnf)
      refine cF (keep1_c m1 m2 n1 n2 hn1 hn2 (k : Int) (by omega) (by omega) (by omega)) [2, 3, 4, 5] Tryd.call51 ?_
      rintro _ _ ⟨rfl, rfl⟩
      have e0 : 0 + (k : Int).toNat = k := by omega
      rw [hp, Int.toNat_natCast]
      by_cases hpk : p k = true
      · have hr2 : rkB p (k + 1) = rkB p k + 1 := by show (if p k = true then _ else _) = _; rw [if_pos hpk]
        have hkf : kfin p F.fin (k + 1) = pl ++ [F.fin.getD k 0] := by show (if p k = true then _ else _) = _; rw [if_pos hpk, hpl]
        rw [hpk]
        repeat' (first | exact rfl | ((conv => whnf); first | (refine qX (fun h => ?_) fun h => ?_ <;> try exact absurd h (by omega)) | refine oN ?_ | refine oM ?_ ?_ | refine bM ?_ ?_ | refine dR ?_ | intro _))
        (conv => whnf)
        rename_i sp2
        refine ⟨(k + 1, sp2, (@insM EK.int.ty EK.int.ty (EK.instDeq .int) es clk (k : Int) ((rkB p k : Nat) : Int)).1, (@insM EK.int.ty EK.int.ty (EK.instDeq .int) es clk (k : Int) ((rkB p k : Nat) : Int)).2), [(10, some 12)], ⟨by rfl, ?_, ?_⟩, ⟨by simp only; omega, fun j h0 h1 hj => ?_⟩, by simp only; omega⟩
        · simp
        · simp [hkf, hr2, EK.dflt, e0, fCells]
          simp [app_one]
        · rw [lkM_insM]
          by_cases ej : j = k
          · rw [if_pos ej, ej, Int.toNat_natCast]
          · rw [if_neg ej]
            exact hlk j h0 (by simp only at h1; omega) hj
      · have hr2 : rkB p (k + 1) = rkB p k := by show (if p k = true then _ else _) = _; rw [if_neg hpk]
        have hkf : kfin p F.fin (k + 1) = pl := by show (if p k = true then _ else _) = _; rw [if_neg hpk, hpl]
        have hpk2 : p k = false := by simpa using hpk
        rw [hpk2]
        repeat' (first | exact rfl | ((conv => whnf); first | (refine qX (fun h => ?_) fun h => ?_ <;> try exact absurd h (by omega)) | refine oN ?_ | refine oM ?_ ?_ | refine bM ?_ ?_ | refine dR ?_ | intro _))
        (conv => whnf)
        refine ⟨(k + 1, sp, es, clk), [], ⟨by rfl, ?_, ?_⟩, ⟨by simp only; omega, fun j h0 h1 hj => ?_⟩, by simp only; omega⟩
        · simp
        · simp [hkf, hr2, fCells]
        · by_cases ej : j = k
          · rw [ej, Int.toNat_natCast, hpk2] at hj; cases hj
          · exact hlk j h0 (by simp only at h1; omega) hj
    · have e : k = F.st.toNat := by omega
      subst e
      subst hpl
      repeat' (first | exact rfl | ((conv => whnf); first | (refine qX (fun h => ?_) fun h => ?_ <;> try exact absurd h (by omega)) | refine oN ?_ | refine oM ?_ ?_ | refine bM ?_ ?_ | refine dR ?_))
      (conv => whnf)
      refine cF (keep1_c m1 m2 n1 n2 hn1 hn2 F.start (by omega) (by omega) (by omega)) [2, 3, 4, 5] Tryd.call51 ?_
      rintro _ _ ⟨rfl, rfl⟩
      rw [hp]
      by_cases hps : p F.start.toNat = true
      · have hl0 := hlk F.start hs.1 (by omega) hps
        rw [hps]
        repeat' (first | exact rfl | ((conv => whnf); first | (refine qX (fun h => ?_) fun h => ?_ <;> try exact absurd h (by omega)) | refine oN ?_ | refine oM ?_ ?_ | refine bM ?_ ?_ | refine dR ?_ | intro _))
        (conv => whnf)
        refine loopI (fun z : Nat × Nat => ⟨[(1, .c (.fn 51 [(4, 0), (5, 0)])), (2, .c (.ptr 6 0)), (4, .c (.ptr 7 0)), (5, .c (.mp 8)), (6, .c (.ptr 9 0)), (51, .c (.sl 1 5 0 F.arcs.length F.capA)), (52, .i F.arcs.length), (53, .i z.1)],
            hpKe F m1 m2 n1 n2 ++ [(6, .box 25 (fCells F)), (7, .box 25 [.i 0, .i 0, .v (.slice none 0 0), .v (.slice none 0 0)]), (8, .map .int .int es clk), (9, .box 25 [.i (rkB p F.st.toNat), .i (rkB p F.start.toNat), .sl 10 1 0 (kfin p F.fin F.st.toNat).length ((kfin p F.fin F.st.toNat).length + sp), .sl 11 5 0 (karc p F.arcs z.1).length ((karc p F.arcs z.1).length + z.2)]), (10, .arr true 3 .int (kfin p F.fin F.st.toNat) sp), (11, .arr true 35 .arc (karc p F.arcs z.1) z.2)], 12⟩)
          (fun z => z.1 ≤ F.arcs.length) (fun z => F.arcs.length - z.1) (0, 0) [(11, none)] ⟨by rfl, ?_, ?_⟩ (Nat.zero_le _) ?_
        · simp
        · simp [fCells, nilO, karc, hl0]
        · rintro ⟨k, sq⟩ hk2
          simp only at hk2 ⊢
          have hlen := karc_len p F.arcs k
          repeat' (first | exact rfl | ((conv => whnf); first | (refine qX (fun h => ?_) fun h => ?_ <;> try exact absurd h (by omega)) | refine oN ?_ | refine oM ?_ ?_ | refine bM ?_ ?_ | refine dR ?_))
          · have e0 : 0 + (k : Int).toNat = k := by omega
            have hb := hF.arc _ (getD_mem F.arcs k aD (by omega))
            rw [← e0] at hb
            generalize hax : F.arcs.getD (0 + (k : Int).toNat) aD = ax at hb
            have hax0 : F.arcs.getD k aD = ax := by rw [← hax, e0]
            have hax2 : F.arcs.getD (0 + (k : Int).toNat) EK.arc.dflt = ax := hax
            rw [hax2]
            (conv => whnf)
            refine cF (keep1_c m1 m2 n1 n2 hn1 hn2 ax.f (by omega) (by omega) (by omega)) [2, 3, 4, 5] Tryd.call51 ?_
            rintro _ _ ⟨rfl, rfl⟩
            rw [hp]
            have hks : karc p F.arcs (k + 1) = if kOk p ax = true then karc p F.arcs k ++ [kArc p ax] else karc p F.arcs k := by
              show (if kOk p (F.arcs.getD k aD) = true then _ else _) = _
              rw [hax0]
            by_cases hpf : p ax.f.toNat = true
            · rw [hpf]
              repeat' (first | exact rfl | ((conv => whnf); first | (refine qX (fun h => ?_) fun h => ?_ <;> try exact absurd h (by omega)) | refine oN ?_ | refine oM ?_ ?_ | refine bM ?_ ?_ | refine dR ?_ | intro _))
              (conv => whnf)
              refine cF (keep1_c m1 m2 n1 n2 hn1 hn2 ax.t (by omega) (by omega) (by omega)) [2, 3, 4, 5] Tryd.call51 ?_
              rintro _ _ ⟨rfl, rfl⟩
              rw [hp]
              by_cases hpt : p ax.t.toNat = true
              · rw [hpt]
                have hl1 := hlk ax.f hb.1 (by omega) hpf
                have hl2 := hlk ax.t hb.2.2.1 (by omega) hpt
                rw [if_pos (by unfold kOk; rw [hpf, hpt]; rfl)] at hks
                repeat' (first | exact rfl | ((conv => whnf); first | (refine qX (fun h => ?_) fun h => ?_ <;> try exact absurd h (by omega)) | refine oN ?_ | refine oM ?_ ?_ | refine bM ?_ ?_ | refine dR ?_ | intro _))
                (conv => whnf)
                rename_i sp2
                rw [hl1, hl2]
                refine ⟨(k + 1, sp2), [(11, some 14)], ⟨by rfl, ?_, ?_⟩, by simp only; omega, by simp only; omega⟩
                · simp
                · simp [hks, fCells]
                  exact (app_one (karc p F.arcs k) _ (kArc p ax) rfl).symm
              · have hpt2 : p ax.t.toNat = false := by simpa using hpt
                rw [hpt2]
                rw [if_neg (by unfold kOk; rw [hpt2]; simp)] at hks
                repeat' (first | exact rfl | ((conv => whnf); first | (refine qX (fun h => ?_) fun h => ?_ <;> try exact absurd h (by omega)) | refine oN ?_ | refine oM ?_ ?_ | refine bM ?_ ?_ | refine dR ?_ | intro _))
                (conv => whnf)
                refine ⟨(k + 1, sq), [], ⟨by rfl, ?_, ?_⟩, by simp only; omega, by simp only; omega⟩
                · simp
                · simp [hks, fCells]
            · have hpf2 : p ax.f.toNat = false := by simpa using hpf
              rw [hpf2]
              rw [if_neg (by unfold kOk; rw [hpf2]; simp)] at hks
              repeat' (first | exact rfl | ((conv => whnf); first | (refine qX (fun h => ?_) fun h => ?_ <;> try exact absurd h (by omega)) | refine oN ?_ | refine oM ?_ ?_ | refine bM ?_ ?_ | refine dR ?_ | intro _))
              (conv => whnf)
              refine ⟨(k + 1, sq), [], ⟨by rfl, ?_, ?_⟩, by simp only; omega, by simp only; omega⟩
              · simp
              · simp [hks, fCells]
          · have e : k = F.arcs.length := by omega
            subst e
            repeat' (first | exact rfl | ((conv => whnf); first | (refine qX (fun h => ?_) fun h => ?_ <;> try exact absurd h (by omega)) | refine oN ?_ | refine oM ?_ ?_ | refine bM ?_ ?_ | refine dR ?_ | intro _))
            (conv => whnf)
            refine ⟨[(6, some 10), (7, some 11)], [(6, .arr true 3 .int (kfin p F.fin F.st.toNat) sp), (7, .arr true 35 .arc (karc p F.arcs F.arcs.length) sq)], 8, .a (.agg [.i (rkB p F.st.toNat : Nat), .i (rkB p F.start.toNat : Nat), .sl 6 1 0 (kfin p F.fin F.st.toNat).length ((kfin p F.fin F.st.toNat).length + sp), .sl 7 5 0 (karc p F.arcs F.arcs.length).length ((karc p F.arcs F.arcs.length).length + sq)]), ⟨by rfl, trivial, by simp⟩, by simp, ?_⟩
            unfold keptPost
            rw [if_pos hps]
            exact ⟨sp, sq, rfl, rfl⟩
      · have hpk2 : p F.start.toNat = false := by simpa using hps
        rw [hpk2]
        repeat' (first | exact rfl | ((conv => whnf); first | (refine qX (fun h => ?_) fun h => ?_ <;> try exact absurd h (by omega)) | refine oN ?_ | refine oM ?_ ?_ | refine bM ?_ ?_ | refine dR ?_ | intro _))
        (conv => whnf)
        refine cF (nothing_c) [] Tryd.call63 ?_
        rintro _ _ ⟨sp3, sq3, rfl, rfl⟩
        repeat' (first | exact rfl | ((conv => whnf); first | (refine qX (fun h => ?_) fun h => ?_ <;> try exact absurd h (by omega)) | refine oN ?_ | refine oM ?_ ?_ | refine bM ?_ ?_ | refine dR ?_ | intro _))
        (conv => whnf)
        refine ⟨[(6, some 11), (7, some 12)], [(6, .arr true 3 .int [-1] sp3), (7, .arr true 35 .arc [] sq3)], 8, .a (.agg [.i 1, .i 0, .sl 6 1 0 [(-1 : Int)].length ([(-1 : Int)].length + sp3), .sl 7 5 0 ([] : List Arc).length (([] : List Arc).length + sq3)]), ⟨by rfl, trivial, by simp⟩, by simp, ?_⟩
        unfold keptPost
        rw [if_neg hps]
        exact ⟨sp3, sq3, rfl, rfl⟩

/-- What is kept. -/
def kT (F : TF) (p : Nat → Bool) : TF := if p F.start.toNat = true then ⟨(rkB p F.st.toNat : Nat), (rkB p F.start.toNat : Nat), kfin p F.fin F.st.toNat, karc p F.arcs F.arcs.length, 0, 0⟩ else ⟨1, 0, [-1], [], 0, 0⟩

theorem keptPost_iff {F : TF} {p : Nat → Bool} {n : Nat} {v : SV} {s : S} : keptPost F p n v s ↔ OutPost (kT F p).st (kT F p).start (kT F p).fin (kT F p).arcs n v s := by
  unfold keptPost kT
  split <;> exact Iff.rfl

/-- Useful: reached from the start, and some end reached from it. -/
structure UsOk (F : TF) (p : Nat → Bool) : Prop where
  iff : ∀ j, j < F.st.toNat → (p j = true ↔ Rch F.arcs false [F.start] j ∧ ∃ e : Nat, e < F.st.toNat ∧ F.fin.getD e 0 ≠ -1 ∧ Rch F.arcs true [(e : Int)] j)

/-- The ends below k. -/
def endL (fin : List Int) : Nat → List Int
  | 0 => []
  | k + 1 => if fin.getD k 0 ≠ -1 then endL fin k ++ [(k : Int)] else endL fin k
theorem endL_len (fin : List Int) : ∀ k, (endL fin k).length ≤ k
  | 0 => Nat.le_refl _
  | k + 1 => by
    have := endL_len fin k
    unfold endL
    split
    · simp; omega
    · omega
theorem mem_endL {fin : List Int} {x : Int} : ∀ k, x ∈ endL fin k ↔ ∃ e : Nat, e < k ∧ fin.getD e 0 ≠ -1 ∧ x = e
  | 0 => by simp [endL]
  | k + 1 => by
    have ih := mem_endL (fin := fin) (x := x) k
    unfold endL
    split
    · rename_i h
      rw [List.mem_append, ih, List.mem_singleton]
      constructor
      · rintro (⟨e, h1, h2⟩ | rfl)
        · exact ⟨e, by omega, h2⟩
        · exact ⟨k, by omega, h, rfl⟩
      · rintro ⟨e, h1, h2, h3⟩
        by_cases q : e = k
        · subst q; exact .inr h3
        · exact .inl ⟨e, by omega, h2, h3⟩
    · rename_i h
      rw [ih]
      constructor
      · rintro ⟨e, h1, h2⟩
        exact ⟨e, by omega, h2⟩
      · rintro ⟨e, h1, h2, h3⟩
        by_cases q : e = k
        · subst q; exact absurd h2 h
        · exact ⟨e, by omega, h2, h3⟩
theorem rch_some {l : List Arc} {bk : Bool} {first : List Int} {x : Int} : Rch l bk first x ↔ ∃ e ∈ first, Rch l bk [e] x := by
  constructor
  · intro h
    induction h with
    | here h => exact ⟨_, h, .here (by simp)⟩
    | on h ha hs ih =>
      obtain ⟨e, he, hr⟩ := ih
      exact ⟨e, he, .on hr ha hs⟩
  · rintro ⟨e, he, h⟩
    induction h with
    | here h => rw [List.mem_singleton] at h; subst h; exact .here he
    | on h ha hs ih => exact .on ih ha hs
end Go.Fw

namespace Go.Fw
open Go Go.Proofs

set_option maxHeartbeats 16000000 in
set_option maxRecDepth 20000 in
theorem useful_c (F : TF) (hF : FRng F) (hs : 0 ≤ F.start ∧ F.start < F.st) :
    Ct Tryd.prog 25 [fV F] [] (hpF F) 2 (fun v s => ∃ p, UsOk F p ∧ OutPost (kT F p).st (kT F p).start (kT F p).fin (kT F p).arcs 2 v s) := by
  have hst := hF.st
  have hal := hF.arcl
  have hfl := hF.finl
  refine ctW Tryd.tyOk 8 [9, 10, 11] Tryd.func25 rfl (by simp) (by simp) (fr := [(0, fV F)]) rfl ?_
  repeat' (first | exact rfl | ((conv => whnf); first | (refine qX (fun h => ?_) fun h => ?_ <;> try exact absurd h (by omega)) | refine oN ?_ | refine oM ?_ ?_ | refine bM ?_ ?_ | refine dR ?_))
  (conv => whnf)
  refine loopI (fun z : Nat × Nat => ⟨[(1, .c (.ptr 2 0)), (2, .c (.ptr 3 0)), (3, .c (.sl 4 1 0 (endL F.fin z.1).length ((endL F.fin z.1).length + z.2))), (9, .c (.sl 0 1 0 F.fin.length F.capF)), (10, .i F.fin.length), (11, .i z.1)],
      hpF F ++ [(2, .box 25 (fCells F)), (3, .box 25 [.i 0, .i 0, .v (.slice none 0 0), .v (.slice none 0 0)]), (4, .arr true 3 .int (endL F.fin z.1) z.2)], 5⟩)
    (fun z => z.1 ≤ F.fin.length) (fun z => F.fin.length - z.1) (0, 0) [(4, none)] ⟨by rfl, ?_, ?_⟩ (Nat.zero_le _) ?_
  · simp [endL, nilO]
  · simp [fCells, nilO, endL]
  · rintro ⟨k, sp⟩ hk
    simp only at hk ⊢
    have hkl := endL_len F.fin k
    have e0 : 0 + (k : Int).toNat = k := by omega
    have hks : endL F.fin (k + 1) = if F.fin.getD k 0 ≠ -1 then endL F.fin k ++ [(k : Int)] else endL F.fin k := rfl
    repeat' (first | exact rfl | ((conv => whnf); first | (refine qX (fun h => ?_) fun h => ?_ <;> try exact absurd h (by omega)) | refine oN ?_ | refine oM ?_ ?_ | refine bM ?_ ?_))
    · have h3 : F.fin.getD k 0 ≠ -1 := e0 ▸ h
      rw [if_pos h3] at hks
      intro sp2
      repeat' (first | exact rfl | ((conv => whnf); first | (refine qX (fun h => ?_) fun h => ?_ <;> try exact absurd h (by omega)) | refine oN ?_ | refine oM ?_ ?_ | refine bM ?_ ?_))
      (conv => whnf)
      refine ⟨(k + 1, sp2), [(4, some 6)], ⟨by rfl, ?_, ?_⟩, by simp only; omega, by simp only; omega⟩
      · simp [hks]
      · simp [hks, fCells]
        exact (app_one (endL F.fin k) _ (k : Int) rfl).symm
    · have h3 : F.fin.getD k 0 = -1 := e0 ▸ h
      rw [if_neg (by simpa using h3)] at hks
      (conv => whnf)
      refine ⟨(k + 1, sp), [], ⟨by rfl, ?_, ?_⟩, by simp only; omega, by simp only; omega⟩
      · simp [hks]
      · simp [hks, fCells]
    · have e : k = F.fin.length := by omega
      subst e
      have hst2 : (F.st.toNat : Int) = F.st := by omega
      have hn2 : F.fin.length = F.st.toNat := by omega
      have hx1 : ∀ x ∈ [F.start], 0 ≤ x ∧ x < (F.st.toNat : Nat) := fun x hx => by rw [List.mem_singleton] at hx; subst hx; omega
      have hx2 : ∀ x ∈ endL F.fin F.fin.length, 0 ≤ x ∧ x < (F.st.toNat : Nat) := fun x hx => by
        obtain ⟨e, h1, h2, rfl⟩ := (mem_endL _).1 hx
        omega
      (conv => whnf)
      refine drawCut (fun z : List Bool × List Bool => ⟨[(1, .c (.ptr 2 0)), (2, .c (.ptr 3 0)), (6, .c (.ptr 6 0)), (7, .c (.ptr 7 0))],
        hpF F ++ [(2, .box 25 (fCells F)), (3, .box 25 [.i 0, .i 0, .v (.slice none 0 0), .v (.slice none 0 0)]), (4, .arr true 4 .bool z.1 0), (5, .arr true 4 .bool z.2 0), (6, .box 77 [.sl 4 1 0 z.1.length z.1.length]), (7, .box 77 [.sl 5 1 0 z.2.length z.2.length])], 8⟩)
        (fun z => z.1.length = F.st.toNat ∧ z.2.length = F.st.toNat ∧ (∀ j, j < F.st.toNat → (z.1.getD j false = true ↔ Rch F.arcs false [F.start] j)) ∧ ∀ j, j < F.st.toNat → (z.2.getD j false = true ↔ Rch F.arcs true (endL F.fin F.fin.length) j)) ?_ ?_
      · repeat' (first | exact rfl | ((conv => whnf); first | (refine qX (fun h => ?_) fun h => ?_ <;> try exact absurd h (by omega)) | refine oN ?_ | refine oM ?_ ?_ | refine bM ?_ ?_ | refine dR ?_))
        all_goals
          (conv => whnf)
          first
          | (refine callF (reached_c F hF [F.start] 0 false hx1 (by simp)) [0, 1, 5] Tryd.call49 rfl ?_ ?_ ?_ ?_; (focus (simp; done)); (focus (simp; done)); (focus (simp; done)))
          | (refine callF (reached_c F hF [F.start] 0 false hx1 (by simp)) [0, 1, 6] Tryd.call49 rfl ?_ ?_ ?_ ?_; (focus (simp; done)); (focus (simp; done)); (focus (simp; done)))
          | (refine callF (reached_c F hF [F.start] 0 false hx1 (by simp)) [0, 1, 7] Tryd.call49 rfl ?_ ?_ ?_ ?_; (focus (simp; done)); (focus (simp; done)); (focus (simp; done)))
          rintro _ _ ⟨m1, rfl, rfl, hl1, hr1⟩
          repeat' (first | exact rfl | ((conv => whnf); first | (refine qX (fun h => ?_) fun h => ?_ <;> try exact absurd h (by omega)) | refine oN ?_ | refine oM ?_ ?_ | refine bM ?_ ?_ | refine dR ?_))
          all_goals
            (conv => whnf)
            refine cF (reached_c F hF (endL F.fin F.fin.length) sp true hx2 (by omega)) [0, 1, 4] Tryd.call49 ?_
            rintro _ _ ⟨m2, rfl, rfl, hl2, hr2⟩
            repeat' (first | exact rfl | ((conv => whnf); first | (refine qX (fun h => ?_) fun h => ?_ <;> try exact absurd h (by omega)) | refine oN ?_ | refine oM ?_ ?_ | refine bM ?_ ?_ | refine dR ?_))
            all_goals
              (conv => whnf)
              first
              | (refine ⟨(m1, m2), [(4, some 8), (5, some 9), (6, some 5), (7, some 6)], ⟨by rfl, ?_, ?_⟩, hl1, hl2, hr1, hr2⟩; (focus (simp; done)); (simp [fCells]; done))
              | (refine ⟨(m1, m2), [(4, some 8), (5, some 9), (6, some 5), (7, some 7)], ⟨by rfl, ?_, ?_⟩, hl1, hl2, hr1, hr2⟩; (focus (simp; done)); (simp [fCells]; done))
              | (refine ⟨(m1, m2), [(4, some 7), (5, some 9), (6, some 5), (7, some 8)], ⟨by rfl, ?_, ?_⟩, hl1, hl2, hr1, hr2⟩; (focus (simp; done)); (simp [fCells]; done))
              | (refine ⟨(m1, m2), [(4, some 7), (5, some 8), (6, some 5), (7, some 9)], ⟨by rfl, ?_, ?_⟩, hl1, hl2, hr1, hr2⟩; (focus (simp; done)); (simp [fCells]; done))
              | (refine ⟨(m1, m2), [(4, some 8), (5, some 9), (6, some 6), (7, some 5)], ⟨by rfl, ?_, ?_⟩, hl1, hl2, hr1, hr2⟩; (focus (simp; done)); (simp [fCells]; done))
              | (refine ⟨(m1, m2), [(4, some 8), (5, some 9), (6, some 6), (7, some 7)], ⟨by rfl, ?_, ?_⟩, hl1, hl2, hr1, hr2⟩; (focus (simp; done)); (simp [fCells]; done))
              | (refine ⟨(m1, m2), [(4, some 7), (5, some 9), (6, some 6), (7, some 8)], ⟨by rfl, ?_, ?_⟩, hl1, hl2, hr1, hr2⟩; (focus (simp; done)); (simp [fCells]; done))
              | (refine ⟨(m1, m2), [(4, some 7), (5, some 8), (6, some 6), (7, some 9)], ⟨by rfl, ?_, ?_⟩, hl1, hl2, hr1, hr2⟩; (focus (simp; done)); (simp [fCells]; done))
              | (refine ⟨(m1, m2), [(4, some 8), (5, some 9), (6, some 7), (7, some 5)], ⟨by rfl, ?_, ?_⟩, hl1, hl2, hr1, hr2⟩; (focus (simp; done)); (simp [fCells]; done))
              | (refine ⟨(m1, m2), [(4, some 8), (5, some 9), (6, some 7), (7, some 6)], ⟨by rfl, ?_, ?_⟩, hl1, hl2, hr1, hr2⟩; (focus (simp; done)); (simp [fCells]; done))
              | (refine ⟨(m1, m2), [(4, some 6), (5, some 9), (6, some 7), (7, some 8)], ⟨by rfl, ?_, ?_⟩, hl1, hl2, hr1, hr2⟩; (focus (simp; done)); (simp [fCells]; done))
              | (refine ⟨(m1, m2), [(4, some 6), (5, some 8), (6, some 7), (7, some 9)], ⟨by rfl, ?_, ?_⟩, hl1, hl2, hr1, hr2⟩; (focus (simp; done)); (simp [fCells]; done))
              | (refine ⟨(m1, m2), [(4, some 7), (5, some 9), (6, some 8), (7, some 5)], ⟨by rfl, ?_, ?_⟩, hl1, hl2, hr1, hr2⟩; (focus (simp; done)); (simp [fCells]; done))
              | (refine ⟨(m1, m2), [(4, some 7), (5, some 9), (6, some 8), (7, some 6)], ⟨by rfl, ?_, ?_⟩, hl1, hl2, hr1, hr2⟩; (focus (simp; done)); (simp [fCells]; done))
              | (refine ⟨(m1, m2), [(4, some 6), (5, some 9), (6, some 8), (7, some 7)], ⟨by rfl, ?_, ?_⟩, hl1, hl2, hr1, hr2⟩; (focus (simp; done)); (simp [fCells]; done))
              | (refine ⟨(m1, m2), [(4, some 6), (5, some 7), (6, some 8), (7, some 9)], ⟨by rfl, ?_, ?_⟩, hl1, hl2, hr1, hr2⟩; (focus (simp; done)); (simp [fCells]; done))
              | (refine ⟨(m1, m2), [(4, some 7), (5, some 8), (6, some 9), (7, some 5)], ⟨by rfl, ?_, ?_⟩, hl1, hl2, hr1, hr2⟩; (focus (simp; done)); (simp [fCells]; done))
              | (refine ⟨(m1, m2), [(4, some 7), (5, some 8), (6, some 9), (7, some 6)], ⟨by rfl, ?_, ?_⟩, hl1, hl2, hr1, hr2⟩; (focus (simp; done)); (simp [fCells]; done))
              | (refine ⟨(m1, m2), [(4, some 6), (5, some 8), (6, some 9), (7, some 7)], ⟨by rfl, ?_, ?_⟩, hl1, hl2, hr1, hr2⟩; (focus (simp; done)); (simp [fCells]; done))
              | (refine ⟨(m1, m2), [(4, some 6), (5, some 7), (6, some 9), (7, some 8)], ⟨by rfl, ?_, ?_⟩, hl1, hl2, hr1, hr2⟩; (focus (simp; done)); (simp [fCells]; done))
      · rintro ⟨m1, m2⟩ ⟨hl1, hl2, hr1, hr2⟩
        simp only at hl1 hl2 hr1 hr2 ⊢
        repeat' (first | exact rfl | ((conv => whnf); first | (refine qX (fun h => ?_) fun h => ?_ <;> try exact absurd h (by omega)) | refine oN ?_ | refine oM ?_ ?_ | refine bM ?_ ?_ | refine dR ?_))
        (conv => whnf)
        refine callF (kept_c F hF hs m1 m2 m1.length m2.length rfl rfl (by omega) (by omega)) [0, 1, 4, 5, 6, 7] Tryd.call50 rfl (by simp) (by simp) (by simp; omega) ?_
        intro v s hv
        rw [keptPost_iff] at hv
        have hus : UsOk F (kpB m1 m2) := ⟨fun j hj => by
          unfold kpB
          rw [Bool.and_eq_true, hr1 j hj, hr2 j hj, rch_some (bk := true)]
          constructor
          · rintro ⟨h1, x, h2, h3⟩
            obtain ⟨e, h4, h5, rfl⟩ := (mem_endL _).1 h2
            exact ⟨h1, e, by omega, h5, h3⟩
          · rintro ⟨h1, e, h2, h3, h4⟩
            exact ⟨h1, e, (mem_endL _).2 ⟨e, by omega, h3, rfl⟩, h4⟩⟩
        generalize hT : kT F (kpB m1 m2) = T at hv
        obtain ⟨tst, tstart, tfin, tarcs, tc1, tc2⟩ := T
        obtain ⟨sp3, sq3, rfl, rfl⟩ := hv
        simp only at *
        repeat' (first | exact rfl | ((conv => whnf); first | (refine qX (fun h => ?_) fun h => ?_ <;> try exact absurd h (by omega)) | refine oN ?_ | refine oM ?_ ?_ | refine bM ?_ ?_ | refine dR ?_))
        (conv => whnf)
        refine ⟨[(2, some 8), (3, some 9)], [(2, .arr true 3 .int tfin sp3), (3, .arr true 35 .arc tarcs sq3)], 4, .a (.agg [.i tst, .i tstart, .sl 2 1 0 tfin.length (tfin.length + sp3), .sl 3 5 0 tarcs.length (tarcs.length + sq3)]), ⟨by rfl, trivial, by simp⟩, by simp, kpB m1 m2, hus, ?_⟩
        rw [hT]
        exact ⟨sp3, sq3, rfl, rfl⟩
end Go.Fw

/-
  What is useful alone costs the same.
-/
namespace Go.Fw
open Go

section
variable {p : Nat → Bool}

end

section
variable {F : TF} {p : Nat → Bool} (hF : FRng F) (hs : 0 ≤ F.start ∧ F.start < F.st) (hp : UsOk F p)
include hF hp

end
end Go.Fw

/-
  States without arcs that come to them go, over and over: what is left tells whether a way goes round.
-/
namespace Go.Fw

/-- How many places fit. -/
def cin (n : Nat) (p : Nat → Bool) : Nat := (List.range n).countP p

theorem cin_succ (n : Nat) (p : Nat → Bool) : cin (n + 1) p = cin n p + (if p n = true then 1 else 0) := by
  unfold cin
  rw [List.range_succ, List.countP_append, List.countP_singleton]
theorem cin_le (n : Nat) (p : Nat → Bool) : cin n p ≤ n := by
  have := List.countP_le_length (p := p) (l := List.range n)
  simpa [cin] using this
theorem cin_congr {n : Nat} {p q : Nat → Bool} (h : ∀ i, i < n → p i = q i) : cin n p = cin n q := by
  induction n with
  | zero => rfl
  | succ n ih => rw [cin_succ, cin_succ, ih (fun i hi => h i (by omega)), h n (by omega)]
theorem cin_one {n k : Nat} {p q : Nat → Bool} (hk : k < n) (hp : p k = true) (hq : q k = false) (h : ∀ i, i ≠ k → p i = q i) : cin n p = cin n q + 1 := by
  induction n with
  | zero => omega
  | succ n ih =>
    rw [cin_succ, cin_succ]
    by_cases e : k = n
    · subst e
      rw [cin_congr (p := p) (q := q) fun i hi => h i (by omega), hp, hq]
      simp
    · rw [ih (by omega), h n (fun c => e c.symm)]
      omega
theorem cin_zero {n : Nat} {p : Nat → Bool} : cin n p = 0 ↔ ∀ i, i < n → p i = false := by
  unfold cin
  rw [List.countP_eq_zero]
  constructor
  · intro h i hi
    have := h i (List.mem_range.2 hi)
    simpa using this
  · intro h a ha
    simp [h a (List.mem_range.1 ha)]
theorem cin_all {n : Nat} {p : Nat → Bool} : cin n p = n ↔ ∀ i, i < n → p i = true := by
  induction n with
  | zero => simp [cin]
  | succ n ih =>
    rw [cin_succ]
    have := cin_le n p
    constructor
    · intro h i hi
      by_cases hp : p n = true
      · rw [if_pos hp] at h
        by_cases e : i = n
        · subst e; exact hp
        · exact ih.1 (by omega) i (by omega)
      · rw [if_neg hp] at h; omega
    · intro h
      rw [if_pos (h n (by omega)), ih.2 fun i hi => h i (by omega)]

/-- Does a way of so many arcs end there? -/
def nowB (l : List Arc) : Nat → Int → Bool
  | 0, _ => true
  | k + 1, v => l.any fun a => a.t == v && nowB l k a.f
def roundB (l : List Arc) (n : Nat) : Bool := (List.range n).any fun v => nowB l n (v : Int)

structure Kh (l : List Arc) (n : Nat) (R st : List Int) (c : List Int) : Prop where
  len : c.length = n
  rng : ∀ v ∈ R ++ st, 0 ≤ v ∧ v < n
  nd : (R ++ st).Nodup
  cnt : ∀ v : Nat, v < n → c.getD v 0 = (cin l.length fun i => (l.getD i aD).t == (v : Int) && !decide ((l.getD i aD).f ∈ R) : Nat)
  zer : ∀ v : Nat, v < n → (c.getD v 0 = 0 ↔ (v : Int) ∈ R ++ st)
  top : ∀ a ∈ l, ∀ i : Nat, R[i]? = some a.t → ∃ j : Nat, j < i ∧ R[j]? = some a.f

structure KhM (l : List Arc) (n : Nat) (R : List Int) (x : Int) (st : List Int) (c : List Int) (k : Nat) : Prop where
  len : c.length = n
  rng : ∀ v ∈ R ++ (x :: st), 0 ≤ v ∧ v < n
  nd : (R ++ (x :: st)).Nodup
  cnt : ∀ v : Nat, v < n → c.getD v 0 = (cin l.length fun i => (l.getD i aD).t == (v : Int) && !decide ((l.getD i aD).f ∈ R) && !(decide (i < k) && (l.getD i aD).f == x) : Nat)
  zer : ∀ v : Nat, v < n → (c.getD v 0 = 0 ↔ (v : Int) ∈ R ++ (x :: st))
  top : ∀ a ∈ l, ∀ i : Nat, (R ++ [x])[i]? = some a.t → ∃ j : Nat, j < i ∧ (R ++ [x])[j]? = some a.f

section
variable {l : List Arc} {n : Nat} {R st c : List Int} {x : Int} {k : Nat}

theorem KhM.done (h : KhM l n R x st c l.length) : Kh l n (R ++ [x]) st c := by
  have e : R ++ [x] ++ st = R ++ (x :: st) := by simp
  refine ⟨h.len, fun v hv => h.rng v (by rw [← e]; exact hv), by rw [e]; exact h.nd, fun v hv => ?_, fun v hv => by rw [e]; exact h.zer v hv, h.top⟩
  rw [h.cnt v hv]
  congr 1
  apply cin_congr
  intro i hi
  have : ((l.getD i aD).f ∈ R ++ [x]) ↔ ((l.getD i aD).f ∈ R ∨ (l.getD i aD).f = x) := by simp
  rw [show decide ((l.getD i aD).f ∈ R ++ [x]) = (decide ((l.getD i aD).f ∈ R) || (l.getD i aD).f == x) by
    rw [decide_eq_decide.2 this, Bool.decide_or]; congr 1]
  simp only [hi, decide_true, Bool.true_and, Bool.not_or, Bool.and_assoc]

/-- How many are gone. -/
def goneN (n : Nat) (R : List Int) : Nat := cin n fun v => decide ((v : Int) ∈ R)
theorem goneN_le (n : Nat) (R : List Int) : goneN n R ≤ n := cin_le _ _
theorem gone_cons {n : Nat} {R R' : List Int} {x : Int} (hx : 0 ≤ x ∧ x < n) (hxR : x ∉ R) (hm : ∀ v, v ∈ R' ↔ v ∈ R ∨ v = x) : goneN n R' = goneN n R + 1 := by
  have hx0 : ((x.toNat : Nat) : Int) = x := by omega
  unfold goneN
  apply cin_one (k := x.toNat) (by omega)
  · rw [hx0]; exact decide_eq_true ((hm x).2 (.inr rfl))
  · rw [hx0]; exact decide_eq_false hxR
  · intro i hi
    apply decide_eq_decide.2
    rw [hm]
    constructor
    · rintro (h | h)
      · exact h
      · omega
    · exact .inl
theorem len_gone {n : Nat} : ∀ {R : List Int}, R.Nodup → (∀ v ∈ R, 0 ≤ v ∧ v < n) → R.length = goneN n R
  | [], _, _ => by
    unfold goneN
    rw [cin_zero.2 fun i _ => by simp]
    rfl
  | x :: R, hnd, hr => by
    rw [List.nodup_cons] at hnd
    rw [gone_cons (R := R) (hr x (by simp)) hnd.1 (fun v => by simp [or_comm]), List.length_cons, len_gone hnd.2 fun v hv => hr v (by simp [hv])]
theorem Kh.round (h : Kh l n R [] c) (hr : ∀ a ∈ l, (0 ≤ a.f ∧ a.f < n) ∧ 0 ≤ a.t ∧ a.t < n) : decide (goneN n R < n) = roundB l n := by
  by_cases hg : goneN n R < n
  · rw [decide_eq_true hg]
    have hex : ∃ v, v < n ∧ ((v : Nat) : Int) ∉ R := by
      refine Classical.byContradiction fun hc => ?_
      have : goneN n R = n := cin_all.2 fun i hi => by
        simp only [decide_eq_true_eq]
        exact Classical.byContradiction fun hn => hc ⟨i, hi, hn⟩
      omega
    have hall : ∀ k (v : Nat), v < n → ((v : Nat) : Int) ∉ R → nowB l k (v : Int) = true := by
      intro k
      induction k with
      | zero => intro v _ _; rfl
      | succ k ih =>
        intro v hv hn
        have hz : c.getD v 0 ≠ 0 := fun e => hn (by simpa using (h.zer v hv).1 e)
        rw [h.cnt v hv] at hz
        have hex2 : ∃ i, i < l.length ∧ ((l.getD i aD).t == (v : Int) && !decide ((l.getD i aD).f ∈ R)) = true := by
          refine Classical.byContradiction fun hc => hz ?_
          have : (cin l.length fun i => (l.getD i aD).t == (v : Int) && !decide ((l.getD i aD).f ∈ R)) = 0 := cin_zero.2 fun i hi => by
            cases hb : ((l.getD i aD).t == (v : Int) && !decide ((l.getD i aD).f ∈ R)) with
            | false => rfl
            | true => exact absurd ⟨i, hi, hb⟩ hc
          rw [this]; rfl
        obtain ⟨i, hi, hb⟩ := hex2
        simp only [Bool.and_eq_true, beq_iff_eq, Bool.not_eq_true', decide_eq_false_iff_not] at hb
        have ham := getD_mem l i aD hi
        have hr1 := (hr _ ham).1
        have hf0 : (((l.getD i aD).f.toNat : Nat) : Int) = (l.getD i aD).f := by omega
        have := ih (l.getD i aD).f.toNat (by omega) (by rw [hf0]; exact hb.2)
        rw [hf0] at this
        unfold nowB
        rw [List.any_eq_true]
        exact ⟨_, ham, by rw [this, hb.1]; simp⟩
    obtain ⟨v, hv, hn⟩ := hex
    unfold roundB
    symm
    rw [List.any_eq_true]
    exact ⟨v, List.mem_range.2 hv, hall n v hv hn⟩
  · rw [decide_eq_false hg]
    have hge : goneN n R = n := by have := goneN_le n R; omega
    have hin : ∀ v : Nat, v < n → (v : Int) ∈ R := fun v hv => by
      have := cin_all.1 hge v hv
      simpa using this
    have hrl : R.length ≤ n := by
      have hnd : R.Nodup := by have := h.nd; simpa using this
      rw [len_gone hnd fun v hv => h.rng v (by simpa using hv)]
      exact goneN_le n R
    have hlt : ∀ k (v : Int), nowB l k v = true → ∀ i, R[i]? = some v → k ≤ i := by
      intro k
      induction k with
      | zero => intro v _ i _; omega
      | succ k ih =>
        intro v hv i hi
        unfold nowB at hv
        rw [List.any_eq_true] at hv
        obtain ⟨a, ha, hb⟩ := hv
        simp only [Bool.and_eq_true, beq_iff_eq] at hb
        obtain ⟨j, hj, e⟩ := h.top a ha i (by rw [hi, hb.1])
        have := ih a.f hb.2 j e
        omega
    symm
    unfold roundB
    rw [List.any_eq_false]
    intro v hv
    have hv := List.mem_range.1 hv
    intro hb
    obtain ⟨i, hi, e⟩ := List.mem_iff_getElem.1 (hin v hv)
    have := hlt n v hb i (by rw [List.getElem?_eq_getElem hi, e])
    omega
end
end Go.Fw

/-
  Marks that go along arcs, over and over: as often as there are states is often enough.
-/
namespace Go.Fw

def mkP (l : List Arc) (bk : Bool) (ms : List Bool) : Nat → List Bool
  | 0 => ms
  | k + 1 => (mkP l bk ms k).set (dstA bk (l.getD k aD)).toNat ((mkP l bk ms k).getD (dstA bk (l.getD k aD)).toNat false || (mkP l bk ms k).getD (srcA bk (l.getD k aD)).toNat false)
def itM (l : List Arc) (bk : Bool) (ms : List Bool) : Nat → List Bool
  | 0 => ms
  | n + 1 => mkP l bk (itM l bk ms n) l.length

section
variable {l : List Arc} {bk : Bool} {n : Nat}

/-- No arc leads from a mark to none. -/
def ClosedM (l : List Arc) (bk : Bool) (ms : List Bool) : Prop := ∀ a ∈ l, ms.getD (srcA bk a).toNat false = true → ms.getD (dstA bk a).toNat false = true

/-- How many are marked. -/
def mcnt (n : Nat) (ms : List Bool) : Nat := cin n fun j => ms.getD j false
end
end Go.Fw

namespace Go.Fw
open Go Go.Proofs

abbrev zero25 : List SC := [.i 0, .i 0, .v (.slice none 0 0), .v (.slice none 0 0)]

/-- The number that a kept state has: those ahead of it. -/
def TrimTo (p : Nat → Bool) (k : Nat) (to : List Int) (n : Nat) : Prop := to.length = n ∧ ∀ j, j < k → p j = true → to.getD j 0 = (rkB p j : Nat)

end Go.Fw

/-
  Trim; what is useful is one thing alone.
-/
namespace Go.Fw
open Go Go.Proofs

theorem fstE_rng {F : TF} (h : fstE F = 0) : FRng F ∧ (0 ≤ F.start ∧ F.start < F.st) ∧ ∀ n ∈ F.fin, -1 ≤ n := by
  have hF := fstE_ok h
  have h1 := hF.st
  have h2 := hF.start
  have h3 := hF.finl
  have h4 := hF.arcl
  refine ⟨⟨by omega, by omega, by omega, fun a ha => ?_⟩, by omega, fun n hn => by have := hF.fin n hn; omega⟩
  obtain ⟨q1, q2, q3, q4, q5, q6, q7, q8⟩ := hF.arc a ha
  omega

/-- What is trimmed. -/
def TrimU (F : TF) (st sa : Int) (fin : List Int) (arcs : List Arc) : Prop :=
  (fstE F ≠ 0 ∧ st = 0 ∧ sa = 0 ∧ fin = [] ∧ arcs = []) ∨ (fstE F = 0 ∧ ∃ p, UsOk F p ∧ st = (kT F p).st ∧ sa = (kT F p).start ∧ fin = (kT F p).fin ∧ arcs = (kT F p).arcs)
def TrimPost (F : TF) (v : SV) (s : S) : Prop := ∃ st sa fin arcs sp sq, TrimU F st sa fin arcs ∧ v = .tup [.agg [.i st, .i sa, .sl 2 1 0 fin.length (fin.length + sp), .sl 3 5 0 arcs.length (arcs.length + sq)], .c (.i (fstE F))] ∧
  s = ⟨[], [(2, .arr true 3 .int fin sp), (3, .arr true 35 .arc arcs sq)], 4⟩

theorem trim_c (F : TF) (hl : F.fin.length ≤ 9223372036854775807) : Ct Tryd.prog 11 [fV F] [] (hpF F) 2 (TrimPost F) := by
  refine ctW Tryd.tyOk 5 [] Tryd.func11 rfl (by simp) (by simp) (fr := [(0, fV F)]) rfl ?_
  repeat' (first | exact rfl | ((conv => whnf); first | (refine qX (fun h => ?_) fun h => ?_ <;> try exact absurd h (by omega)) | refine oN ?_ | refine oM ?_ ?_ | refine bM ?_ ?_ | refine dR ?_))
  (conv => whnf)
  refine cF (check_c F hl) [0, 1] Tryd.call16 ?_
  rintro _ _ ⟨rfl, rfl⟩
  repeat' (first | exact rfl | ((conv => whnf); first | (refine qX (fun h => ?_) fun h => ?_ <;> try exact absurd h (by omega)) | refine oN ?_ | refine oM ?_ ?_ | refine bM ?_ ?_ | refine dR ?_))
  · (conv => whnf)
    exact ⟨[(2, none), (3, none)], [(2, .arr true 3 .int [] 0), (3, .arr true 35 .arc [] 0)], 4, .tup [.agg [.i 0, .i 0, .sl 2 1 0 0 0, .sl 3 5 0 0 0], .c (.i (fstE F))], ⟨by rfl, trivial, by simp [nilO]⟩, by simp, 0, 0, [], [], 0, 0, .inl ⟨h, rfl, rfl, rfl, rfl⟩, rfl, rfl⟩
  · obtain ⟨hr, hs, _⟩ := fstE_rng h
    (conv => whnf)
    refine cF (useful_c F hr hs) [0, 1] Tryd.call25 ?_
    rintro _ _ ⟨p, hp, sp, sq, rfl, rfl⟩
    have hU : TrimU F (kT F p).st (kT F p).start (kT F p).fin (kT F p).arcs := .inr ⟨h, p, hp, rfl, rfl, rfl, rfl⟩
    generalize kT F p = K at *
    obtain ⟨a, b, c, d, e, f⟩ := K
    repeat' (first | exact rfl | ((conv => whnf); first | (refine qX (fun h => ?_) fun h => ?_ <;> try exact absurd h (by omega)) | refine oN ?_ | refine oM ?_ ?_ | refine bM ?_ ?_ | refine dR ?_))
    (conv => whnf)
    simp only [Nat.reduceAdd, Nat.reduceSub]
    refine ⟨[(2, some 4), (3, some 5)], [(2, .arr true 3 .int c sp), (3, .arr true 35 .arc d sq)], 4, .tup [.agg [.i a, .i b, .sl 2 1 0 c.length (c.length + sp), .sl 3 5 0 d.length (d.length + sq)], .c (.i (fstE F))], ⟨by rfl, trivial, by simp⟩, by simp [h], a, b, c, d, sp, sq, hU, rfl, rfl⟩
end Go.Fw
