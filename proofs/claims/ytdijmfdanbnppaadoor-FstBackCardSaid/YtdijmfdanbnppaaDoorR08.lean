/-
  Settling one state after the other, in the plain.
-/
import Derived.Test.YtdijmfdanbnppaaDoorR07
import Derived.Test.YtdijmfdanbnppaaDoorR06

set_option linter.unusedSimpArgs false
set_option linter.unusedVariables false

namespace Go.Fw
open Go

/-- The first of the best that are not done among the first k; -1: none. -/
def pick (c : List Int) (d : List Bool) : Nat → Int
  | 0 => -1
  | k + 1 => if d.getD k false = false ∧ c.getD k 0 ≠ -1 ∧ (pick c d k < 0 ∨ c.getD k 0 < c.getD (pick c d k).toNat 0) then (k : Int) else pick c d k

def setlS (u : Int) (r : List Int × List Int) (p : Arc × Nat) : List Int × List Int :=
  if p.1.f = u ∧ better (r.1.getD u.toNat 0 + p.1.w) (r.1.getD p.1.t.toNat 0) = true then (r.1.set p.1.t.toNat (r.1.getD u.toNat 0 + p.1.w), r.2.set p.1.t.toNat (p.2 : Int)) else r

def setlR (l : List (Arc × Nat)) (u : Int) (r : List Int × List Int) : List Int × List Int := l.foldl (setlS u) r

def setl (l : List (Arc × Nat)) : Nat → List Int → List Int → List Bool → List Int × List Int
  | 0, c, b, _ => (c, b)
  | k + 1, c, b, d => if pick c d c.length < 0 then (c, b) else
    let r := setlR l (pick c d c.length) (c, b)
    setl l k r.1 r.2 (d.set (pick c d c.length).toNat true)

/-- What the program's settle comes to. -/
def settled (l : List Arc) (n : Nat) (c : List Int) : List Int × List Int := setl l.zipIdx (n + 1) c (List.replicate n (-1)) (List.replicate n false)

theorem pick_spec (c : List Int) (d : List Bool) : ∀ k : Nat, k ≤ c.length → (pick c d k < 0 ∧ ∀ v, v < k → d.getD v false = false → c.getD v 0 = -1) ∨
    (0 ≤ pick c d k ∧ (pick c d k).toNat < k ∧ d.getD (pick c d k).toNat false = false ∧ c.getD (pick c d k).toNat 0 ≠ -1 ∧ ∀ v, v < k → d.getD v false = false → c.getD v 0 ≠ -1 → c.getD (pick c d k).toNat 0 ≤ c.getD v 0)
  | 0, _ => .inl ⟨by simp [pick], fun v h => by omega⟩
  | k + 1, hk => by
    have ih := pick_spec c d k (by omega)
    simp only [pick]
    by_cases h : d.getD k false = false ∧ c.getD k 0 ≠ -1 ∧ (pick c d k < 0 ∨ c.getD k 0 < c.getD (pick c d k).toNat 0)
    · rw [if_pos h]
      right
      refine ⟨by omega, by simp, by simpa using h.1, by simpa using h.2.1, ?_⟩
      intro v hv hd hc
      simp only [Int.toNat_natCast]
      by_cases e : v = k
      · subst e; omega
      · rcases ih with ⟨_, h1⟩ | ⟨h0, _, _, _, h1⟩
        · exact absurd (h1 v (by omega) hd) hc
        · have := h1 v (by omega) hd hc
          rcases h.2.2 with h2 | h2
          · omega
          · omega
    · rw [if_neg h]
      rcases ih with ⟨h0, h1⟩ | ⟨h0, h1, h2, h3, h4⟩
      · left
        refine ⟨h0, fun v hv hd => ?_⟩
        by_cases e : v = k
        · subst e
          exact Classical.byContradiction fun hc => h ⟨hd, hc, .inl h0⟩
        · exact h1 v (by omega) hd
      · right
        refine ⟨h0, by omega, h2, h3, fun v hv hd hc => ?_⟩
        by_cases e : v = k
        · subst e
          exact Classical.byContradiction fun hx => h ⟨hd, hc, .inr (by omega)⟩
        · exact h4 v (by omega) hd hc

/-- What holds between two rounds. n: how many are done. -/
structure DI (l : List Arc) (c0 : List Int) (c b : List Int) (d : List Bool) : Prop where
  len : c.length = c0.length
  lenb : b.length = c0.length
  lend : d.length = c0.length
  low : ∀ v, v < c0.length → -1 ≤ c.getD v 0
  s1 : ∀ v, v < c0.length → Le (c.getD v 0) (c0.getD v 0)
  fin : ∀ v, d.getD v false = true → c.getD v 0 ≠ -1
  out : ∀ a ∈ l, d.getD a.f.toNat false = true → Le (c.getD a.t.toNat 0) (c.getD a.f.toNat 0 + a.w)
  rn : ∀ v, v < c0.length → c.getD v 0 ≠ -1 → ∃ k, k ≤ d.count true ∧ RN l c0 k v (c.getD v 0)
  ord : ∀ u v, d.getD u false = true → v < c0.length → d.getD v false = false → c.getD v 0 ≠ -1 → c.getD u 0 ≤ c.getD v 0

/-- Inside a round: u is settled, the arcs of m are gone by. -/
structure DJ (l : List Arc) (c0 c b : List Int) (d : List Bool) (u : Nat) (m : List (Arc × Nat)) (c' b' : List Int) : Prop where
  len : c'.length = c0.length
  lenb : b'.length = c0.length
  at_ : c'.getD u 0 = c.getD u 0
  done : ∀ v, d.getD v false = true → c'.getD v 0 = c.getD v 0
  low : ∀ v, v < c0.length → -1 ≤ c'.getD v 0
  le : ∀ v, Le (c'.getD v 0) (c.getD v 0)
  ge : ∀ v, v < c0.length → d.getD v false = false → c'.getD v 0 ≠ -1 → c.getD u 0 ≤ c'.getD v 0
  out : ∀ p ∈ m, p.1.f.toNat = u → Le (c'.getD p.1.t.toNat 0) (c.getD u 0 + p.1.w)
  rn : ∀ v, v < c0.length → c'.getD v 0 ≠ -1 → ∃ k, k ≤ d.count true + 1 ∧ RN l c0 k v (c'.getD v 0)

theorem DJ.start {l : List Arc} {c0 c b : List Int} {d : List Bool} (h : DI l c0 c b d) {u : Nat} (hu : ∀ v, v < c.length → d.getD v false = false → c.getD v 0 ≠ -1 → c.getD u 0 ≤ c.getD v 0) : DJ l c0 c b d u [] c b where
  len := h.len
  lenb := h.lenb
  at_ := rfl
  done := fun _ _ => rfl
  low := h.low
  le := fun _ => Le.refl _
  ge := fun v hv hd hc => hu v (by rw [h.len]; exact hv) hd hc
  out := fun p hp => by cases hp
  rn := fun v hv hc => by obtain ⟨k, hk, hr⟩ := h.rn v hv hc; exact ⟨k, by omega, hr⟩

theorem better_iff {a b : Int} : better a b = true ↔ a ≠ -1 ∧ (b = -1 ∨ a < b) := by simp [better]

theorem DJ.step {l : List Arc} {st : Int} {c0 c b : List Int} {d : List Bool} {u : Nat} {m : List (Arc × Nat)} {c' b' : List Int} (h : DI l c0 c b d) (hl : ∀ a ∈ l, ArcOk st a) (hn : (c0.length : Int) = st)
    (hul : u < c0.length) (hud : d.getD u false = false) (huc : c.getD u 0 ≠ -1) (hj : DJ l c0 c b d u m c' b') {p : Arc × Nat} (hp : p.1 ∈ l) :
    DJ l c0 c b d u (m ++ [p]) (setlS (u : Int) (c', b') p).1 (setlS (u : Int) (c', b') p).2 := by
  have ha := hl p.1 hp
  have hu0 := h.low u hul
  have w0 := ha.w0
  have htl : p.1.t.toNat < c0.length := by have := ha.t0; have := ha.t1; omega
  have hat := hj.at_
  unfold setlS
  simp only [Int.toNat_natCast]
  by_cases hb : p.1.f = (u : Int) ∧ better (c'.getD u 0 + p.1.w) (c'.getD p.1.t.toNat 0) = true
  · rw [if_pos hb]
    obtain ⟨hf, hb⟩ := hb
    rw [better_iff, hat] at hb
    have htu : p.1.t.toNat ≠ u := by
      intro e
      rw [e, hat] at hb
      omega
    have htd : d.getD p.1.t.toNat false = false := by
      cases hx : d.getD p.1.t.toNat false with
      | false => rfl
      | true =>
        have h1 := h.ord _ u hx hul hud huc
        have h2 := hj.done _ hx
        have h3 := h.fin _ hx
        rw [h2] at hb
        omega
    have hg : ∀ v, (c'.set p.1.t.toNat (c'.getD u 0 + p.1.w)).getD v 0 = if p.1.t.toNat = v ∧ v < c'.length then c.getD u 0 + p.1.w else c'.getD v 0 := fun v => by rw [getD_set, hat]
    refine ⟨by simp [hj.len], by simp [hj.lenb], ?_, ?_, ?_, ?_, ?_, ?_, ?_⟩
    · rw [hg, if_neg (fun hh => htu hh.1)]; exact hat
    · intro v hv
      rw [hg, if_neg (fun hh => by rw [← hh.1, htd] at hv; cases hv)]
      exact hj.done v hv
    · intro v hv
      rw [hg]
      split
      · omega
      · exact hj.low v hv
    · intro v
      rw [hg]
      split
      · rename_i hh
        obtain ⟨rfl, _⟩ := hh
        intro hne
        have := hj.le _ hne
        exact ⟨hb.1, by rcases hb.2 with h1 | h1 <;> omega⟩
      · exact hj.le v
    · intro v hv hd hc
      rw [hg] at hc ⊢
      split
      · omega
      · rename_i hh
        rw [if_neg hh] at hc
        exact hj.ge v hv hd hc
    · intro q hq hqf
      rw [hg]
      rcases List.mem_append.1 hq with hq | hq
      · split
        · rename_i hh
          have h1 := hj.out q hq hqf
          intro hne
          have h2 := h1 hne
          rw [← hh.1] at h2
          exact ⟨hb.1, by rcases hb.2 with h3 | h3 <;> omega⟩
        · exact hj.out q hq hqf
      · rw [List.mem_singleton] at hq
        subst hq
        rw [if_pos ⟨rfl, by rw [hj.len]; exact htl⟩]
        exact Le.refl _
    · intro v hv hc
      rw [hg] at hc ⊢
      split
      · rename_i hh
        obtain ⟨rfl, _⟩ := hh
        obtain ⟨k, hk, hr⟩ := h.rn u hul huc
        have hfu : p.1.f.toNat = u := by omega
        exact ⟨k + 1, by omega, .step (hfu ▸ hr) hp⟩
      · rename_i hh
        rw [if_neg hh] at hc
        exact hj.rn v hv hc
  · rw [if_neg hb]
    refine ⟨hj.len, hj.lenb, hj.at_, hj.done, hj.low, hj.le, hj.ge, ?_, hj.rn⟩
    intro q hq hqf
    rcases List.mem_append.1 hq with hq | hq
    · exact hj.out q hq hqf
    · rw [List.mem_singleton] at hq
      subst hq
      have hf : q.1.f = (u : Int) := by have := ha.f0; omega
      have h1 : ¬ better (c'.getD u 0 + q.1.w) (c'.getD q.1.t.toNat 0) = true := fun hx => hb ⟨hf, hx⟩
      rw [better_iff, hat] at h1
      intro hne
      have h2 := hj.low _ htl
      show c'.getD q.1.t.toNat 0 ≠ -1 ∧ c'.getD q.1.t.toNat 0 ≤ c.getD u 0 + q.1.w
      omega

theorem DJ.fold {l : List Arc} {st : Int} {c0 c b : List Int} {d : List Bool} {u : Nat} (h : DI l c0 c b d) (hl : ∀ a ∈ l, ArcOk st a) (hn : (c0.length : Int) = st) (hul : u < c0.length) (hud : d.getD u false = false) (huc : c.getD u 0 ≠ -1) :
    ∀ (r m : List (Arc × Nat)) (c' b' : List Int), (∀ p ∈ r, p.1 ∈ l) → DJ l c0 c b d u m c' b' → DJ l c0 c b d u (m ++ r) (setlR r (u : Int) (c', b')).1 (setlR r (u : Int) (c', b')).2
  | [], m, c', b', _, hj => by simpa [setlR] using hj
  | p :: r, m, c', b', hr, hj => by
    have h1 := hj.step h hl hn hul hud huc (hr p (by simp))
    have h2 := DJ.fold h hl hn hul hud huc r _ _ _ (fun q hq => hr q (by simp [hq])) h1
    have e : m ++ p :: r = m ++ [p] ++ r := by simp
    rw [e]
    exact h2

theorem count_set : ∀ (d : List Bool) (u : Nat), u < d.length → d.getD u false = false → (d.set u true).count true = d.count true + 1 ∧ d.count true < d.length
  | [], u, h, _ => by simp at h
  | x :: d, 0, _, h => by
    simp only [List.getD_cons_zero] at h
    subst h
    simp only [List.set_cons_zero, List.count_cons, beq_self_eq_true, if_true, List.length_cons]
    have := List.count_le_length (a := true) (l := d)
    simp; omega
  | x :: d, u + 1, hl, h => by
    simp only [List.getD_cons_succ] at h
    have ih := count_set d u (by simpa using hl) h
    simp only [List.set_cons_succ, List.count_cons, List.length_cons]
    refine ⟨by omega, ?_⟩
    cases x <;> simp <;> omega

theorem DI.next {l : List Arc} {st : Int} {c0 c b : List Int} {d : List Bool} {u : Nat} (h : DI l c0 c b d) (hl : ∀ a ∈ l, ArcOk st a) (hn : (c0.length : Int) = st) (hul : u < c0.length) (hud : d.getD u false = false) (huc : c.getD u 0 ≠ -1)
    (hu : ∀ v, v < c.length → d.getD v false = false → c.getD v 0 ≠ -1 → c.getD u 0 ≤ c.getD v 0) {r : List (Arc × Nat)} (hr : ∀ a, a ∈ l ↔ ∃ i, (a, i) ∈ r) :
    DI l c0 (setlR r (u : Int) (c, b)).1 (setlR r (u : Int) (c, b)).2 (d.set u true) := by
  have hj := DJ.fold h hl hn hul hud huc r [] c b (fun p hp => (hr p.1).2 ⟨p.2, hp⟩) (DJ.start h hu)
  rw [List.nil_append] at hj
  have hdl := h.lend
  have hg : ∀ v, (d.set u true).getD v false = if u = v ∧ v < d.length then true else d.getD v false := fun v => getD_set _ _ _ _ _
  have hcnt := (count_set d u (by omega) hud).1
  have hset : ∀ v, (d.set u true).getD v false = true → v = u ∨ d.getD v false = true := by
    intro v hv
    rw [hg] at hv
    split at hv
    · rename_i hh; exact .inl hh.1.symm
    · exact .inr hv
  have hset' : ∀ v, (d.set u true).getD v false = false → v ≠ u ∧ d.getD v false = false := by
    intro v hv
    rw [hg] at hv
    split at hv
    · cases hv
    · rename_i hh; exact ⟨fun e => hh ⟨e.symm, by omega⟩, hv⟩
  refine ⟨hj.len, hj.lenb, by simp [hdl], hj.low, fun v hv => (hj.le v).trans (h.s1 v hv), ?_, ?_, ?_, ?_⟩
  · intro v hv
    rcases hset v hv with rfl | hv
    · rw [hj.at_]; exact huc
    · rw [hj.done v hv]; exact h.fin v hv
  · intro a ha hf
    rcases hset _ hf with hf | hf
    · obtain ⟨i, hi⟩ := (hr a).1 ha
      rw [hf, hj.at_]
      exact hj.out (a, i) hi hf
    · rw [hj.done _ hf]
      exact (hj.le _).trans (h.out a ha hf)
  · intro v hv hc
    obtain ⟨k, hk, hr'⟩ := hj.rn v hv hc
    exact ⟨k, by rw [hcnt]; exact hk, hr'⟩
  · intro x v hx hv hd hc
    obtain ⟨_, hd'⟩ := hset' v hd
    have h1 := hj.ge v hv hd' hc
    rcases hset x hx with rfl | hx
    · rw [hj.at_]; exact h1
    · rw [hj.done x hx]
      have := h.ord x u hx hul hud huc
      omega

end Go.Fw

/-
  Settling: bounds, one step of the walk.
-/
namespace Go.Fw
open Go

structure SB (st B : Int) (u : Int) (cu : Int) (r : List Int × List Int) : Prop where
  bd : Bd st (B + 1000000000) r.1
  at_ : r.1.getD u.toNat 0 = cu
  lenb : (r.2.length : Int) = st

theorem SB.step {st B u cu : Int} {r : List Int × List Int} (h : SB st B u cu r) (hu : 0 ≤ u) (hu1 : u < st) (hc : cu ≠ -1) (hB : cu ≤ B) {p : Arc × Nat} (ha : ArcOk st p.1) : SB st B u cu (setlS u r p) := by
  unfold setlS
  by_cases hb : p.1.f = u ∧ better (r.1.getD u.toNat 0 + p.1.w) (r.1.getD p.1.t.toNat 0) = true
  · rw [if_pos hb]
    obtain ⟨_, hb⟩ := hb
    rw [better_iff, h.at_] at hb
    have w0 := ha.w0
    have w1 := ha.w1
    have hlen := h.bd.len
    have hcu := h.bd.at hu hu1
    rw [h.at_] at hcu
    refine ⟨⟨by simp [hlen], fun v hv => ?_⟩, ?_, by simp [h.lenb]⟩
    · rcases List.mem_or_eq_of_mem_set hv with hv | rfl
      · exact h.bd.bd v hv
      · rw [h.at_]; omega
    · rw [getD_set]
      split
      · rename_i hh
        rw [hh.1, h.at_] at hb
        omega
      · exact h.at_
  · rw [if_neg hb]
    exact h

theorem SB.fold {st B u cu : Int} (hu : 0 ≤ u) (hu1 : u < st) (hc : cu ≠ -1) (hB : cu ≤ B) : ∀ (l : List (Arc × Nat)) {r : List Int × List Int}, SB st B u cu r → (∀ p ∈ l, ArcOk st p.1) → SB st B u cu (setlR l u r)
  | [], r, h, _ => h
  | p :: l, r, h, hl => SB.fold hu hu1 hc hB l (h.step hu hu1 hc hB (hl p (by simp))) (fun q hq => hl q (by simp [hq]))

/-- What is known at a round's head. -/
structure SI (st : Int) (l : List (Arc × Nat)) (R : List Int × List Int) (k : Nat) (c b : List Int) (d : List Bool) : Prop where
  kk : k ≤ st.toNat + 1
  bd : Bd st (1000000000 * (203 - k)) c
  lenb : (b.length : Int) = st
  lend : (d.length : Int) = st
  eq : setl l k c b d = R
  cnt : st.toNat < k + d.count true

theorem SI.k1 {st : Int} {l : List (Arc × Nat)} {R : List Int × List Int} {k : Nat} {c b : List Int} {d : List Bool} (h : SI st l R k c b d) : ∃ k', k = k' + 1 := by
  have := List.count_le_length (a := true) (l := d)
  have := h.cnt
  have := h.lend
  exact ⟨k - 1, by omega⟩

theorem SI.next {st : Int} (hst : 1 ≤ st ∧ st ≤ 200) {l : List (Arc × Nat)} {R : List Int × List Int} {k : Nat} {c b : List Int} {d : List Bool} (h : SI st l R k c b d) (hl : ∀ p ∈ l, ArcOk st p.1) (hp : ¬ pick c d c.length < 0) :
    SI st l R (k - 1) (setlR l (pick c d c.length) (c, b)).1 (setlR l (pick c d c.length) (c, b)).2 (d.set (pick c d c.length).toNat true) ∧ k - 1 < k ∧
      0 ≤ pick c d c.length ∧ pick c d c.length < st ∧ c.getD (pick c d c.length).toNat 0 ≠ -1 ∧ SB st (1000000000 * (203 - k)) (pick c d c.length) (c.getD (pick c d c.length).toNat 0) (c, b) ∧ c.getD (pick c d c.length).toNat 0 ≤ 1000000000 * (203 - k) := by
  obtain ⟨k', rfl⟩ := h.k1
  have hlen := h.bd.len
  have hlend := h.lend
  rcases pick_spec c d c.length (Nat.le_refl _) with ⟨h1, _⟩ | ⟨h1, h2, h3, h4, h5⟩
  · exact absurd h1 hp
  · have hlt : pick c d c.length < st := by omega
    have hb := h.bd.at h1 hlt
    have kk := h.kk
    have sb : SB st (1000000000 * (203 - (k' + 1 : Nat))) (pick c d c.length) (c.getD (pick c d c.length).toNat 0) (c, b) :=
      ⟨⟨hlen, fun v hv => by have := h.bd.bd v hv; omega⟩, rfl, h.lenb⟩
    have sb2 := sb.fold h1 hlt h4 hb.2 l hl
    have heq := h.eq
    simp only [setl, if_neg hp] at heq
    refine ⟨⟨by omega, ⟨sb2.bd.len, fun v hv => ?_⟩, sb2.lenb, by simp [hlend], ?_, ?_⟩, by omega, h1, hlt, h4, sb, hb.2⟩
    · have := sb2.bd.bd v hv
      simp only [Nat.add_sub_cancel]
      omega
    · simpa using heq
    · have := h.cnt
      rw [(count_set d _ (by omega) h3).1]
      omega

theorem SI.start {st : Int} (hst : 1 ≤ st ∧ st ≤ 200) {l : List Arc} {c : List Int} (hc : Bd st 1000000000 c) : SI st l.zipIdx (settled l c.length c) (c.length + 1) c (List.replicate c.length (-1)) (List.replicate c.length false) := by
  have := hc.len
  refine ⟨by omega, ⟨hc.len, fun v hv => ?_⟩, by simp [hc.len], by simp [hc.len], rfl, by omega⟩
  have := hc.bd v hv
  omega

end Go.Fw

namespace Go.Fw
open Go Go.Proofs

end Go.Fw

namespace Go.Fw
open Go Go.Proofs

def aheadS (F : TF) : List Int × List Int := settled (F.arcs.map id) F.st.toNat (begun F)
def onS (F : TF) : List Int × List Int := settled (F.arcs.map swap) F.st.toNat F.fin

end Go.Fw

/-
  Weights pushed ahead, in the plain.
-/
namespace Go.Fw
open Go

def pushA (D : List Int) (a : Arc) : Option Arc :=
  if D.getD a.f.toNat 0 = -1 ∨ D.getD a.t.toNat 0 = -1 then none else some ⟨a.f, a.i, a.o, a.t, a.w + (D.getD a.t.toNat 0 - D.getD a.f.toNat 0)⟩
def pushL (D : List Int) (l : List Arc) : List Arc := l.filterMap (pushA D)
def pushV (D fin : List Int) (k n : Nat) : Int := if n < k ∧ fin.getD n 0 ≠ -1 then fin.getD n 0 - D.getD n 0 else fin.getD n 0
def pushF (D fin : List Int) (k : Nat) : List Int := (List.range fin.length).map (pushV D fin k)
def pushBig (l : List Arc) : Bool := l.any fun a => decide (a.w > 1000000000)

end Go.Fw

namespace Go.Fw
open Go Go.Proofs

/-- A transducer's cells, its lists wherever. -/
def cellsF (F : TF) (i j : Nat) (lf cf la ca : Nat) : List SC := [.i F.st, .i F.start, .sl i 1 0 lf cf, .sl j 5 0 la ca]

end Go.Fw

namespace Go.Fw
open Go Go.Proofs

end Go.Fw

namespace Go.Fw
open Go Go.Proofs

/-- What pushing answers. -/
def PushPost (F : TF) (v : SV) (s : S) : Prop :=
  if (toOf F).getD F.start.toNat 0 = -1 then ∃ sp, v = .tup [.agg [.i F.st, .i F.start, .sl 2 1 0 F.fin.length (F.fin.length + sp), .v (.slice none 0 0)], .c (.i (-1)), .c (.i 0)] ∧ s = ⟨[], [(2, .arr true 3 .int F.fin sp)], 3⟩
  else if pushBig (pushL (toOf F) F.arcs) = true then v = .tup [.agg [.i 0, .i 0, .v (.slice none 0 0), .v (.slice none 0 0)], .c (.i 0), .c (.i 2)] ∧ s = ⟨[], [], 2⟩
  else ∃ sp sp', v = .tup [.agg [.i F.st, .i F.start, .sl 2 1 0 F.fin.length (F.fin.length + sp), .sl 3 5 0 (pushL (toOf F) F.arcs).length ((pushL (toOf F) F.arcs).length + sp')], .c (.i ((toOf F).getD F.start.toNat 0)), .c (.i 0)] ∧
      s = ⟨[], [(2, .arr true 3 .int (pushF (toOf F) F.fin F.fin.length) sp), (3, .arr true 35 .arc (pushL (toOf F) F.arcs) sp')], 4⟩

/-- A transducer of which nothing is told. -/
def zeroF : TF := ⟨0, 0, [], [], 0, 0⟩

end Go.Fw

/-
  Settling: by which arc each state was come to.
-/
namespace Go.Fw
open Go

/-- How a state was come to. -/
def Come (l : List Arc) (c0 c b : List Int) (P : Arc → Prop) (v : Nat) : Prop :=
  (b.getD v (-1) = -1 ∧ c.getD v 0 = c0.getD v 0) ∨ ∃ (i : Nat) (a : Arc), b.getD v (-1) = (i : Int) ∧ l[i]? = some a ∧ a.t.toNat = v ∧ c.getD v 0 = c.getD a.f.toNat 0 + a.w ∧ P a

structure DB (l : List Arc) (c0 c b : List Int) (d : List Bool) (rk : Nat → Nat) : Prop where
  r1 : ∀ v, d.getD v false = true → rk v < d.count true
  b1 : ∀ v, v < c0.length → Come l c0 c b (fun a => d.getD a.f.toNat false = true ∧ (d.getD v false = true → rk a.f.toNat < rk v)) v

def DC (l : List Arc) (c0 c' b' : List Int) (d : List Bool) (rk : Nat → Nat) (u : Nat) : Prop :=
  ∀ v, v < c0.length → Come l c0 c' b' (fun a => (d.getD a.f.toNat false = true ∨ a.f.toNat = u) ∧ (d.getD v false = true → d.getD a.f.toNat false = true ∧ rk a.f.toNat < rk v) ∧ (v = u → d.getD a.f.toNat false = true)) v

theorem DC.step {l : List Arc} {st : Int} {c0 c b : List Int} {d : List Bool} {rk : Nat → Nat} {u : Nat} {m : List (Arc × Nat)} {c' b' : List Int} (h : DI l c0 c b d) (hl : ∀ a ∈ l, ArcOk st a) (hn : (c0.length : Int) = st)
    (hul : u < c0.length) (hud : d.getD u false = false) (huc : c.getD u 0 ≠ -1) (hj : DJ l c0 c b d u m c' b') {p : Arc × Nat} (hp : l[p.2]? = some p.1) (hc : DC l c0 c' b' d rk u) :
    DC l c0 (setlS (u : Int) (c', b') p).1 (setlS (u : Int) (c', b') p).2 d rk u := by
  have ha := hl p.1 (List.mem_of_getElem? hp)
  have hu0 := h.low u hul
  have w0 := ha.w0
  have htl : p.1.t.toNat < c0.length := by have := ha.t0; have := ha.t1; omega
  have hat := hj.at_
  unfold setlS
  simp only [Int.toNat_natCast]
  by_cases hb : p.1.f = (u : Int) ∧ better (c'.getD u 0 + p.1.w) (c'.getD p.1.t.toNat 0) = true
  · rw [if_pos hb]
    obtain ⟨hf, hb⟩ := hb
    rw [better_iff, hat] at hb
    have htu : p.1.t.toNat ≠ u := by
      intro e
      rw [e, hat] at hb
      omega
    have htd : d.getD p.1.t.toNat false = false := by
      cases hx : d.getD p.1.t.toNat false with
      | false => rfl
      | true =>
        have h1 := h.ord _ u hx hul hud huc
        have h2 := hj.done _ hx
        have h3 := h.fin _ hx
        rw [h2] at hb
        omega
    have hg : ∀ v, (c'.set p.1.t.toNat (c'.getD u 0 + p.1.w)).getD v 0 = if p.1.t.toNat = v ∧ v < c'.length then c.getD u 0 + p.1.w else c'.getD v 0 := fun v => by rw [getD_set, hat]
    have hgb : ∀ v, (b'.set p.1.t.toNat (p.2 : Int)).getD v (-1) = if p.1.t.toNat = v ∧ v < b'.length then (p.2 : Int) else b'.getD v (-1) := fun v => getD_set _ _ _ _ _
    intro v hv
    unfold Come
    by_cases e : p.1.t.toNat = v
    · subst e
      right
      have hfu : p.1.f.toNat = u := by omega
      refine ⟨p.2, p.1, ?_, hp, rfl, ?_, .inr hfu, ?_, ?_⟩
      · simp only [hgb]; rw [if_pos ⟨trivial, by rw [hj.lenb]; exact hv⟩]
      · simp only [hg]
        rw [if_pos ⟨trivial, by rw [hj.len]; exact hv⟩, hfu, if_neg (fun hh => htu hh.1), hat]
      · intro hx; rw [htd] at hx; cases hx
      · intro hx; exact absurd hx htu
    · rcases hc v hv with ⟨h1, h2⟩ | ⟨i, a, h1, h2, h3, h4, h5, h6, h7⟩
      · left
        simp only [hg, hgb]
        rw [if_neg (fun hh => e hh.1), if_neg (fun hh => e hh.1)]
        exact ⟨h1, h2⟩
      · right
        refine ⟨i, a, ?_, h2, h3, ?_, h5, h6, h7⟩
        · simp only [hgb]; rw [if_neg (fun hh => e hh.1)]; exact h1
        · simp only [hg]
          rw [if_neg (fun hh => e hh.1), h4]
          have : ¬ (p.1.t.toNat = a.f.toNat) := by
            intro hx
            rcases h5 with h5 | h5
            · rw [← hx, htd] at h5; cases h5
            · exact htu (hx.trans h5)
          rw [if_neg (fun hh => this hh.1)]
  · rw [if_neg hb]
    exact hc

theorem DC.fold {l : List Arc} {st : Int} {c0 c b : List Int} {d : List Bool} {rk : Nat → Nat} {u : Nat} (h : DI l c0 c b d) (hl : ∀ a ∈ l, ArcOk st a) (hn : (c0.length : Int) = st) (hul : u < c0.length) (hud : d.getD u false = false) (huc : c.getD u 0 ≠ -1) :
    ∀ (r m : List (Arc × Nat)) (c' b' : List Int), (∀ p ∈ r, l[p.2]? = some p.1) → DJ l c0 c b d u m c' b' → DC l c0 c' b' d rk u → DC l c0 (setlR r (u : Int) (c', b')).1 (setlR r (u : Int) (c', b')).2 d rk u
  | [], m, c', b', _, _, hc => hc
  | p :: r, m, c', b', hr, hj, hc => by
    have hp := hr p (by simp)
    have h1 := hj.step h hl hn hul hud huc (p := p) (List.mem_of_getElem? hp)
    exact DC.fold h hl hn hul hud huc r _ _ _ (fun q hq => hr q (by simp [hq])) h1 (hc.step h hl hn hul hud huc hj hp)

theorem DB.next {l : List Arc} {st : Int} {c0 c b : List Int} {d : List Bool} {rk : Nat → Nat} {u : Nat} (h : DI l c0 c b d) (hb : DB l c0 c b d rk) (hl : ∀ a ∈ l, ArcOk st a) (hn : (c0.length : Int) = st) (hul : u < c0.length) (hud : d.getD u false = false) (huc : c.getD u 0 ≠ -1)
    (hu : ∀ v, v < c.length → d.getD v false = false → c.getD v 0 ≠ -1 → c.getD u 0 ≤ c.getD v 0) {r : List (Arc × Nat)} (hr2 : ∀ p ∈ r, l[p.2]? = some p.1) :
    DB l c0 (setlR r (u : Int) (c, b)).1 (setlR r (u : Int) (c, b)).2 (d.set u true) (fun v => if v = u then d.count true else rk v) := by
  have hj0 := DJ.start h hu
  have hj := DJ.fold h hl hn hul hud huc r [] c b (fun p hp => List.mem_of_getElem? (hr2 p hp)) hj0
  have hc := DC.fold (rk := rk) h hl hn hul hud huc r [] c b hr2 hj0 (by
    intro v hv
    rcases hb.b1 v hv with h1 | ⟨i, a, h1, h2, h3, h4, h5, h6⟩
    · exact .inl h1
    · exact .inr ⟨i, a, h1, h2, h3, h4, .inl h5, fun hx => ⟨h5, h6 hx⟩, fun _ => h5⟩)
  have hdl := h.lend
  have hg : ∀ v, (d.set u true).getD v false = if u = v ∧ v < d.length then true else d.getD v false := fun v => getD_set _ _ _ _ _
  have hcnt := (count_set d u (by omega) hud).1
  have hset : ∀ v, (d.set u true).getD v false = true → v = u ∨ d.getD v false = true := by
    intro v hv
    rw [hg] at hv
    split at hv
    · rename_i hh; exact .inl hh.1.symm
    · exact .inr hv
  have hset2 : ∀ v, (d.getD v false = true ∨ v = u) → (d.set u true).getD v false = true := by
    intro v hv
    rw [hg]
    split
    · rfl
    · rename_i hh
      rcases hv with hv | rfl
      · exact hv
      · exact absurd ⟨rfl, by omega⟩ hh
  constructor
  · intro v hv
    rw [hcnt]
    rcases hset v hv with rfl | hv
    · simp
    · by_cases e : v = u
      · simp [e]
      · simp only [if_neg e]; have := hb.r1 v hv; omega
  · intro v hv
    rcases hc v hv with h1 | ⟨i, a, h1, h2, h3, h4, h5, h6, h7⟩
    · exact .inl h1
    · refine .inr ⟨i, a, h1, h2, h3, h4, hset2 _ h5, fun hx => ?_⟩
      rcases hset v hx with e | hx
      · have h8 := h7 e
        have hne : a.f.toNat ≠ u := fun e2 => by rw [e2, hud] at h8; cases h8
        simp only [if_neg hne, if_pos e]
        exact hb.r1 _ h8
      · obtain ⟨h8, h9⟩ := h6 hx
        have hne : a.f.toNat ≠ u := fun e2 => by rw [e2, hud] at h8; cases h8
        have hne2 : v ≠ u := fun e2 => by rw [e2, hud] at hx; cases hx
        simp only [if_neg hne, if_neg hne2]
        exact h9

/-- At the end: how each was come to, and that no way goes round. -/
def ByOk (l : List Arc) (c0 c b : List Int) : Prop :=
  ∃ rk : Nat → Nat, (∀ v, v < c0.length → c.getD v 0 ≠ -1 → rk v < c0.length) ∧ ∀ v, v < c0.length → Come l c0 c b (fun a => c.getD v 0 ≠ -1 ∧ c.getD a.f.toNat 0 ≠ -1 ∧ rk a.f.toNat < rk v) v

/-- The way back. -/
def wayB (arcs : List Arc) (b : List Int) : Nat → Int → List Int
  | 0, _ => []
  | k + 1, v => if 0 ≤ v ∧ 0 ≤ b.getD v.toNat (-1) then b.getD v.toNat (-1) :: wayB arcs b k ((arcs.getD (b.getD v.toNat (-1)).toNat EK.arc.dflt).f) else []

/-- The best of all ends. -/
def bestF (c fin : List Int) : Nat → Int × Int
  | 0 => (-1, -1)
  | k + 1 => if fin.getD k 0 ≠ -1 ∧ c.getD k 0 ≠ -1 ∧ better (c.getD k 0 + fin.getD k 0) (bestF c fin k).2 = true then ((k : Int), c.getD k 0 + fin.getD k 0) else bestF c fin k

end Go.Fw

namespace Go.Fw
open Go Go.Proofs

/-- Turned round so far. -/
def revS (l : List Int) (k i : Nat) : Int := if i < k ∨ l.length ≤ i + k then l.getD (l.length - 1 - i) 0 else l.getD i 0
def revF (l : List Int) (k : Nat) : List Int := (List.range l.length).map (revS l k)

end Go.Fw

namespace Go.Fw
open Go Go.Proofs

/-- The best way of all: its end, what it costs, its arcs. -/
def bestE (F : TF) : Int × Int := bestF (aheadS F).1 F.fin F.fin.length
def bestW (F : TF) : List Int := (wayB F.arcs (aheadS F).2 F.st.toNat (bestE F).1).reverse

end Go.Fw

namespace Go.Fw
open Go Go.Proofs

def oneT : TF := ⟨2, 0, [-1, 1], [⟨0, 1, 2, 1, 5⟩], 2, 1⟩

end Go.Fw

namespace Go.Fw
open Go Go.Proofs

/-- Does a letter stand there, and how far does it go? -/
def fitE (l : List Int) (p x : Int) : Int × Bool := if x = 0 then (p, true) else (p + 1, decide (p < l.length ∧ l.getD p.toNat 0 = x))

/-- Two lists by their first difference. -/
def cmpL : List Int → List Int → Int
  | [], [] => 0
  | [], _ => -1
  | _ :: _, [] => 1
  | a :: l, b :: m => if cmpI a b ≠ 0 then cmpI a b else cmpL l m

/-- An order of spots: how much was read, how much was written, the state. -/
def spotLt (x y : Trip) : Bool := decide (cmpL [x.b, x.c, x.a] [y.b, y.c, y.a] < 0)

end Go.Fw

namespace Go.Fw
open Go Go.Proofs

/-- The walker as it stands: 0 itself, 1 final, 2 arcs, 3 in, 4 out, 5 numbers of arcs, 6 their rows, 7 the map, 8 what it holds. -/
structure Wk where
  F : TF
  u : List Int
  v : List Int
  cu : Nat
  cv : Nat
  rows : List Sli
  pi : List (Addr × List Int × Nat)
  es : List (Trip × Option Addr × Nat)
  clk : Nat
  pf : List (Addr × List Fnd × Nat)

def wkCells (W : Wk) : List SC := [.i W.F.st, .i W.F.start, .sl 1 1 0 W.F.fin.length W.F.capF, .sl 2 5 0 W.F.arcs.length W.F.capA, .sl 3 1 0 W.u.length W.cu, .sl 4 1 0 W.v.length W.cv, .sl 5 1 0 W.rows.length W.rows.length, .mp 7]

abbrev hpL (W : Wk) (es : List (Trip × Option Addr × Nat)) (clk : Nat) (pf : List (Addr × List Fnd × Nat)) : List (Nat × SO) := [(0, .box 58 [.i W.F.st, .i W.F.start, .sl 1 1 0 W.F.fin.length W.F.capF, .sl 2 5 0 W.F.arcs.length W.F.capA, .sl 3 1 0 W.u.length W.cu, .sl 4 1 0 W.v.length W.cv, .sl 5 1 0 W.rows.length W.rows.length, .mp 7]), (1, .arr false 3 .int W.F.fin 0), (2, .arr false 35 .arc W.F.arcs 0), (3, .arr false 3 .int W.u 0), (4, .arr false 3 .int W.v 0),
  (5, .arr true 22 .sli W.rows 0), (6, .pool 3 .int W.pi), (7, .map .trip .adr es clk), (8, .pool 60 .fnd pf)]
abbrev hpW (W : Wk) : List (Nat × SO) := hpL W W.es W.clk W.pf

/-- The map is in order. -/
structure MetOk (es : List (Trip × Option Addr × Nat)) (clk : Nat) (pf : List (Addr × List Fnd × Nat)) : Prop where
  born : BornOk es clk
  keys : (es.map (·.1)).Nodup
  adrs : (es.map (·.2.1)).Nodup
  row : ∀ e ∈ es, ∃ a f, e.2.1 = some a ∧ lkA pf a = some ([f], 0)

/-- What the map holds at a spot. -/
def metOf (es : List (Trip × Option Addr × Nat)) (pf : List (Addr × List Fnd × Nat)) (x : Trip) : Option Fnd := (lkM es x).bind fun oa => (rowA pf oa).head?

theorem lkM_mem {es : List (Trip × Option Addr × Nat)} (hk : (es.map (·.1)).Nodup) {e : Trip × Option Addr × Nat} (he : e ∈ es) : lkM es e.1 = some e.2.1 := by
  induction es with
  | nil => cases he
  | cons c es ih =>
    obtain ⟨x, y, n⟩ := c
    simp only [lkM]
    rcases List.mem_cons.1 he with rfl | h
    · simp
    · simp only [List.map_cons, List.nodup_cons] at hk
      rw [if_neg (fun c => hk.1 (by rw [c]; exact List.mem_map_of_mem h)), ih hk.2 h]

theorem lkM_some {es : List (Trip × Option Addr × Nat)} {x : Trip} {oa : Option Addr} (h : lkM es x = some oa) : ∃ n, (x, oa, n) ∈ es := by
  induction es with
  | nil => cases h
  | cons c es ih =>
    obtain ⟨y, b, n⟩ := c
    simp only [lkM] at h
    split at h
    · rename_i e
      cases h
      exact ⟨n, by rw [e]; exact List.mem_cons_self ..⟩
    · obtain ⟨n, h⟩ := ih h
      exact ⟨n, List.mem_cons_of_mem _ h⟩

theorem MetOk.at {es : List (Trip × Option Addr × Nat)} {clk : Nat} {pf : List (Addr × List Fnd × Nat)} (h : MetOk es clk pf) {e : Trip × Option Addr × Nat} (he : e ∈ es) : ∃ a f, e.2.1 = some a ∧ lkA pf a = some ([f], 0) ∧ lkM es e.1 = some (some a) ∧ rowA pf (some a) = [f] ∧ metOf es pf e.1 = some f := by
  obtain ⟨a, f, h1, h2⟩ := h.row e he
  have h3 := lkM_mem h.keys he
  rw [h1] at h3
  have h4 : rowA pf (some a) = [f] := by simp [rowA, h2]
  exact ⟨a, f, h1, h2, h3, h4, by simp [metOf, h3, h4]⟩

theorem MetOk.of {es : List (Trip × Option Addr × Nat)} {clk : Nat} {pf : List (Addr × List Fnd × Nat)} (h : MetOk es clk pf) {x : Trip} {f : Fnd} (hx : metOf es pf x = some f) : ∃ a n, (x, some a, n) ∈ es ∧ lkA pf a = some ([f], 0) ∧ lkM es x = some (some a) ∧ rowA pf (some a) = [f] := by
  unfold metOf at hx
  cases hl : lkM es x with
  | none => rw [hl] at hx; cases hx
  | some oa =>
    obtain ⟨n, hn⟩ := lkM_some hl
    obtain ⟨a, g, h1, h2, h3, h4, h5⟩ := h.at hn
    simp only at h1
    subst h1
    rw [hl] at hx
    simp only [Option.bind_some, h4, List.head?_cons, Option.some.injEq] at hx
    subst hx
    exact ⟨a, n, hn, h2, rfl, h4⟩

/-- The best so far of those that were seen. -/
def Nst (es : List (Trip × Option Addr × Nat)) (pf : List (Addr × List Fnd × Nat)) (seen : List Nat) (best : Trip) (any : Bool) : Prop :=
  (any = false ∧ ∀ e ∈ es, e.2.2 ∈ seen → ∀ f, metOf es pf e.1 = some f → f.dn = true) ∨
  (any = true ∧ ∃ g, metOf es pf best = some g ∧ g.dn = false ∧ ∀ e ∈ es, e.2.2 ∈ seen → ∀ f, metOf es pf e.1 = some f → f.dn = false → g.cost ≤ f.cost)

/-- What is left to be seen. -/
def left (es : List (Trip × Option Addr × Nat)) (seen : List Nat) : Nat := (es.filter fun e => !seen.contains e.2.2).length

theorem born_inj {es : List (Trip × Option Addr × Nat)} (h : (es.map (·.2.2)).Nodup) {e c : Trip × Option Addr × Nat} (he : e ∈ es) (hc : c ∈ es) (h2 : c.2.2 = e.2.2) : c = e := by
  induction es with
  | nil => cases he
  | cons d es ih =>
    simp only [List.map_cons, List.nodup_cons, List.mem_map] at h
    rcases List.mem_cons.1 he with rfl | he <;> rcases List.mem_cons.1 hc with rfl | hc
    · rfl
    · exact absurd ⟨c, by assumption, h2⟩ h.1
    · exact absurd ⟨e, by assumption, h2.symm⟩ h.1
    · exact ih h.2 (by assumption) (by assumption)

section
variable {es : List (Trip × Option Addr × Nat)} {clk : Nat} {pf : List (Addr × List Fnd × Nat)} {seen : List Nat} {best : Trip} {e : Trip × Option Addr × Nat} {f : Fnd}

theorem Nst.skip (hm : MetOk es clk pf) {any : Bool} (h : Nst es pf seen best any) (he : e ∈ es) (hf : metOf es pf e.1 = some f) (hd : f.dn = true) : Nst es pf (seen ++ [e.2.2]) best any := by
  have key : ∀ c ∈ es, c.2.2 ∈ seen ++ [e.2.2] → c.2.2 ∈ seen ∨ c = e := by
    intro c hc h
    rcases List.mem_append.1 h with h | h
    · exact .inl h
    · exact .inr (born_inj hm.born.1 he hc (List.mem_singleton.1 h))
  rcases h with ⟨q1, q2⟩ | ⟨q1, g, q2, q3, q4⟩
  · refine .inl ⟨q1, fun c hc hs f' hf' => ?_⟩
    rcases key c hc hs with h | rfl
    · exact q2 c hc h f' hf'
    · rw [hf] at hf'; cases hf'; exact hd
  · refine .inr ⟨q1, g, q2, q3, fun c hc hs f' hf' hd' => ?_⟩
    rcases key c hc hs with h | rfl
    · exact q4 c hc h f' hf' hd'
    · rw [hf] at hf'; cases hf'; rw [hd] at hd'; cases hd'

theorem Nst.new (hm : MetOk es clk pf) (h : Nst es pf seen best false) (he : e ∈ es) (hf : metOf es pf e.1 = some f) (hd : f.dn = false) : Nst es pf (seen ++ [e.2.2]) e.1 true := by
  rcases h with ⟨q1, q2⟩ | ⟨q1, g, q2, q3, q4⟩
  · refine .inr ⟨rfl, f, hf, hd, fun c hc hs f' hf' hd' => ?_⟩
    rcases List.mem_append.1 hs with h | h
    · have := q2 c hc h f' hf'
      rw [hd'] at this
      cases this
    · have := born_inj hm.born.1 he hc (List.mem_singleton.1 h)
      subst this
      rw [hf] at hf'
      cases hf'
      exact Int.le_refl _
  · cases q1

theorem Nst.better {g : Fnd} (hm : MetOk es clk pf) (h : Nst es pf seen best true) (he : e ∈ es) (hf : metOf es pf e.1 = some f) (hd : f.dn = false) (hg : metOf es pf best = some g) (hc : f.cost ≤ g.cost) : Nst es pf (seen ++ [e.2.2]) e.1 true := by
  rcases h with ⟨q1, q2⟩ | ⟨q1, g', q2, q3, q4⟩
  · cases q1
  · rw [hg] at q2
    cases q2
    refine .inr ⟨rfl, f, hf, hd, fun c hc' hs f' hf' hd' => ?_⟩
    rcases List.mem_append.1 hs with h | h
    · exact Int.le_trans hc (q4 c hc' h f' hf' hd')
    · have := born_inj hm.born.1 he hc' (List.mem_singleton.1 h)
      subst this
      rw [hf] at hf'
      cases hf'
      exact Int.le_refl _

theorem Nst.keep {g : Fnd} (hm : MetOk es clk pf) (h : Nst es pf seen best true) (he : e ∈ es) (hf : metOf es pf e.1 = some f) (hg : metOf es pf best = some g) (hc : g.cost ≤ f.cost) : Nst es pf (seen ++ [e.2.2]) best true := by
  rcases h with ⟨q1, q2⟩ | ⟨q1, g', q2, q3, q4⟩
  · cases q1
  · rw [hg] at q2
    cases q2
    refine .inr ⟨rfl, g, hg, q3, fun c hc' hs f' hf' hd' => ?_⟩
    rcases List.mem_append.1 hs with h | h
    · exact q4 c hc' h f' hf' hd'
    · have := born_inj hm.born.1 he hc' (List.mem_singleton.1 h)
      subst this
      rw [hf] at hf'
      cases hf'
      exact hc
end

end Go.Fw

namespace Go.Fw
open Go Go.Proofs

/-- A map with one value told. -/
def updD (D : Trip → Option Fnd) (y : Trip) (e : Fnd) : Trip → Option Fnd := fun z => if z = y then some e else D z

theorem lkM_setM {κ ν : Type} [DecidableEq κ] (es : List (κ × ν × Nat)) (y : κ) (v : ν) (z : κ) : lkM (setM es y v) z = if z = y ∧ (lkM es y).isSome then some v else lkM es z := by
  induction es with
  | nil => simp [setM, lkM]
  | cons e es ih =>
    obtain ⟨x, w, n⟩ := e
    simp only [setM]
    by_cases h : x = y
    · subst h
      by_cases hz : z = x
      · subst hz; simp [lkM]
      · simp [lkM, hz, Ne.symm hz]
    · rw [if_neg h]
      by_cases hz : x = z
      · subst hz; simp [lkM, h]
      · simp only [lkM, hz, h, if_false, ih]

theorem lkM_append {κ ν : Type} [DecidableEq κ] (es fs : List (κ × ν × Nat)) (z : κ) : lkM (es ++ fs) z = match lkM es z with
    | some v => some v
    | none => lkM fs z := by
  induction es with
  | nil => rfl
  | cons e es ih =>
    obtain ⟨x, w, n⟩ := e
    simp only [List.cons_append, lkM]
    by_cases h : x = z
    · simp [h]
    · simp only [h, if_false, ih]

theorem lkM_insM {κ ν : Type} [DecidableEq κ] (es : List (κ × ν × Nat)) (clk : Nat) (y : κ) (v : ν) (z : κ) : lkM (insM es clk y v).1 z = if z = y then some v else lkM es z := by
  unfold insM
  by_cases h : (lkM es y).isSome = true
  · rw [if_pos h, lkM_setM]
    simp [h]
  · rw [if_neg h, lkM_append]
    simp only [lkM]
    by_cases hz : z = y
    · subst hz
      simp only [Bool.not_eq_true, Option.isSome_eq_false_iff, Option.isNone_iff_eq_none] at h
      simp [h]
    · simp only [hz, Ne.symm hz, if_false]
      cases lkM es z <;> rfl

theorem setM_keys {κ ν : Type} [DecidableEq κ] (es : List (κ × ν × Nat)) (y : κ) (v : ν) : (setM es y v).map (·.1) = es.map (·.1) ∧ (setM es y v).map (·.2.2) = es.map (·.2.2) := by
  induction es with
  | nil => exact ⟨rfl, rfl⟩
  | cons e es ih =>
    obtain ⟨x, w, n⟩ := e
    simp only [setM]
    split
    · exact ⟨rfl, rfl⟩
    · simp [ih.1, ih.2]

theorem setM_mem {κ ν : Type} [DecidableEq κ] {es : List (κ × ν × Nat)} {y : κ} {v : ν} {e : κ × ν × Nat} (h : e ∈ setM es y v) : e ∈ es ∨ (e.1 = y ∧ e.2.1 = v) := by
  induction es with
  | nil => cases h
  | cons c es ih =>
    obtain ⟨x, w, n⟩ := c
    simp only [setM] at h
    split at h
    · rename_i hx
      rcases List.mem_cons.1 h with rfl | h
      · exact .inr ⟨hx, rfl⟩
      · exact .inl (List.mem_cons_of_mem _ h)
    · rcases List.mem_cons.1 h with rfl | h
      · exact .inl (List.mem_cons_self ..)
      · rcases ih h with h | h
        · exact .inl (List.mem_cons_of_mem _ h)
        · exact .inr h

theorem setM_adrs {es : List (Trip × Option Addr × Nat)} (h : (es.map (·.2.1)).Nodup) (y : Trip) {v : Option Addr} (hv : ∀ e ∈ es, e.2.1 ≠ v) : ((setM es y v).map (·.2.1)).Nodup := by
  induction es with
  | nil => exact h
  | cons c es ih =>
    obtain ⟨x, w, n⟩ := c
    simp only [List.map_cons, List.nodup_cons] at h
    simp only [setM]
    split
    · simp only [List.map_cons, List.nodup_cons]
      refine ⟨fun hm => ?_, h.2⟩
      obtain ⟨e, he, e2⟩ := List.mem_map.1 hm
      exact hv e (List.mem_cons_of_mem _ he) e2
    · simp only [List.map_cons, List.nodup_cons]
      refine ⟨fun hm => ?_, ih h.2 (fun e he => hv e (List.mem_cons_of_mem _ he))⟩
      obtain ⟨e, he, e2⟩ := List.mem_map.1 hm
      rcases setM_mem he with he | ⟨_, he⟩
      · exact h.1 (e2 ▸ List.mem_map_of_mem he)
      · exact hv _ (List.mem_cons_self ..) (e2.symm.trans he)

section
variable {es : List (Trip × Option Addr × Nat)} {clk : Nat} {pf : List (Addr × List Fnd × Nat)}

theorem MetOk.ne (h : MetOk es clk pf) {a : Addr} (ha : lkA pf a = none) : ∀ e ∈ es, e.2.1 ≠ some a := by
  intro e he c
  obtain ⟨b, f, h1, h2⟩ := h.row e he
  rw [c] at h1
  cases h1
  rw [ha] at h2
  cases h2

theorem rowA_cons {a : Addr} {y : List Fnd × Nat} {oa : Option Addr} (h : oa ≠ some a) : rowA ((a, y) :: pf) oa = rowA pf oa := by
  cases oa with
  | none => rfl
  | some b => simp only [rowA, lkA, if_neg (fun c : a = b => h (by rw [c]))]

theorem MetOk.ins (h : MetOk es clk pf) {a : Addr} (ha : lkA pf a = none) (y : Trip) (e : Fnd) :
    MetOk (insM es clk y (some a)).1 (insM es clk y (some a)).2 ((a, [e], 0) :: pf) ∧ metOf (insM es clk y (some a)).1 ((a, [e], 0) :: pf) = updD (metOf es pf) y e := by
  have hne := h.ne ha
  have hrow : ∀ c ∈ es, ∃ b f, c.2.1 = some b ∧ lkA ((a, [e], 0) :: pf) b = some ([f], 0) := by
    intro c hc
    obtain ⟨b, f, h1, h2⟩ := h.row c hc
    refine ⟨b, f, h1, ?_⟩
    simp only [lkA]
    rw [if_neg (fun c' : a = b => hne c hc (by rw [h1, c'])), h2]
  constructor
  · unfold insM
    by_cases hs : (lkM es y).isSome = true
    · rw [if_pos hs]
      refine ⟨⟨?_, ?_⟩, ?_, ?_, ?_⟩
      · show ((setM es y (some a)).map (·.2.2)).Nodup
        rw [(setM_keys es y (some a)).2]; exact h.born.1
      · intro c hc
        have : c.2.2 ∈ (setM es y (some a)).map (·.2.2) := List.mem_map_of_mem hc
        rw [(setM_keys es y (some a)).2] at this
        obtain ⟨c', hc', e'⟩ := List.mem_map.1 this
        rw [← e']
        exact h.born.2 c' hc'
      · show ((setM es y (some a)).map (·.1)).Nodup
        rw [(setM_keys es y (some a)).1]; exact h.keys
      · exact setM_adrs h.adrs y hne
      · intro c hc
        rcases setM_mem hc with hc | ⟨_, hc⟩
        · exact hrow c hc
        · exact ⟨a, e, hc, by simp [lkA]⟩
    · rw [if_neg hs]
      have hnk : y ∉ es.map (·.1) := by
        intro hm
        obtain ⟨c, hc, e'⟩ := List.mem_map.1 hm
        have := lkM_mem h.keys hc
        rw [e'] at this
        rw [this] at hs
        exact hs rfl
      refine ⟨⟨?_, ?_⟩, ?_, ?_, ?_⟩
      · show ((es ++ [(y, some a, clk)]).map (·.2.2)).Nodup
        rw [List.map_append, List.nodup_append]
        refine ⟨h.born.1, by simp, ?_⟩
        intro n hn m hm
        obtain ⟨c, hc, rfl⟩ := List.mem_map.1 hn
        have := h.born.2 c hc
        simp only [List.map_cons, List.map_nil, List.mem_singleton] at hm
        omega
      · intro c hc
        show c.2.2 < clk + 1
        rcases List.mem_append.1 hc with hc | hc
        · have := h.born.2 c hc; omega
        · rw [List.mem_singleton.1 hc]; exact Nat.lt_succ_self _
      · show ((es ++ [(y, some a, clk)]).map (·.1)).Nodup
        rw [List.map_append, List.nodup_append]
        refine ⟨h.keys, by simp, ?_⟩
        intro n hn m hm
        simp only [List.map_cons, List.map_nil, List.mem_singleton] at hm
        subst hm
        intro c
        exact hnk (c ▸ hn)
      · show ((es ++ [(y, some a, clk)]).map (·.2.1)).Nodup
        rw [List.map_append, List.nodup_append]
        refine ⟨h.adrs, by simp, ?_⟩
        intro n hn m hm
        obtain ⟨c, hc, rfl⟩ := List.mem_map.1 hn
        simp only [List.map_cons, List.map_nil, List.mem_singleton] at hm
        subst hm
        exact hne c hc
      · intro c hc
        rcases List.mem_append.1 hc with hc | hc
        · exact hrow c hc
        · rw [List.mem_singleton.1 hc]
          exact ⟨a, e, rfl, by simp [lkA]⟩
  · funext z
    unfold metOf updD
    rw [lkM_insM]
    by_cases hz : z = y
    · rw [if_pos hz, if_pos hz]
      simp [rowA, lkA]
    · rw [if_neg hz, if_neg hz]
      show _ = (lkM es z).bind _
      cases hl : lkM es z with
      | none => rfl
      | some oa =>
        obtain ⟨n, hn⟩ := lkM_some hl
        simp only [Option.bind_some]
        rw [rowA_cons (hne _ hn)]
end

/-- One arc tried from a spot. -/
def stepD (F : TF) (u v : List Int) (x : Trip) (cost : Int) (D : Trip → Option Fnd) (n : Int) : Trip → Option Fnd :=
  let a := F.arcs.getD n.toNat EK.arc.dflt
  let i := fitE u x.b a.i
  let o := fitE v x.c a.o
  if i.2 = true ∧ o.2 = true then
    match D ⟨a.t, i.1, o.1⟩ with
    | none => updD D ⟨a.t, i.1, o.1⟩ ⟨cost + a.w, n, x.a, x.b, x.c, false⟩
    | some d => if cost + a.w < d.cost then updD D ⟨a.t, i.1, o.1⟩ ⟨cost + a.w, n, x.a, x.b, x.c, false⟩ else D
  else D

def onD (F : TF) (u v : List Int) (x : Trip) (cost : Int) (D : Trip → Option Fnd) (ns : List Int) : Trip → Option Fnd := ns.foldl (stepD F u v x cost) D

section
variable {F : TF} {u v : List Int} {x : Trip} {cost n : Int} {D : Trip → Option Fnd} {ar : Arc}

theorem stepD_no1 (har : F.arcs.getD n.toNat EK.arc.dflt = ar) (h : (!(fitE u x.b ar.i).2) = true) : stepD F u v x cost D n = D := by
  subst har
  rw [Bool.not_eq_true'] at h
  exact if_neg (fun c => by rw [h] at c; cases c.1)
theorem stepD_no2 (har : F.arcs.getD n.toNat EK.arc.dflt = ar) (h : (!(fitE v x.c ar.o).2) = true) : stepD F u v x cost D n = D := by
  subst har
  rw [Bool.not_eq_true'] at h
  exact if_neg (fun c => by rw [h] at c; cases c.2)
theorem stepD_new (har : F.arcs.getD n.toNat EK.arc.dflt = ar) (h1 : (!(fitE u x.b ar.i).2) = false) (h2 : (!(fitE v x.c ar.o).2) = false) (h3 : D ⟨ar.t, (fitE u x.b ar.i).1, (fitE v x.c ar.o).1⟩ = none) :
    stepD F u v x cost D n = updD D ⟨ar.t, (fitE u x.b ar.i).1, (fitE v x.c ar.o).1⟩ ⟨cost + ar.w, n, x.a, x.b, x.c, false⟩ := by
  subst har
  simp only [Bool.not_eq_false'] at h1 h2
  simp only [stepD, h1, h2, and_self, if_true, h3]
theorem stepD_less {d : Fnd} (har : F.arcs.getD n.toNat EK.arc.dflt = ar) (h1 : (!(fitE u x.b ar.i).2) = false) (h2 : (!(fitE v x.c ar.o).2) = false) (h3 : D ⟨ar.t, (fitE u x.b ar.i).1, (fitE v x.c ar.o).1⟩ = some d) (h4 : cost + ar.w < d.cost) :
    stepD F u v x cost D n = updD D ⟨ar.t, (fitE u x.b ar.i).1, (fitE v x.c ar.o).1⟩ ⟨cost + ar.w, n, x.a, x.b, x.c, false⟩ := by
  subst har
  simp only [Bool.not_eq_false'] at h1 h2
  simp only [stepD, h1, h2, and_self, if_true, h3, h4]
theorem stepD_keep {d : Fnd} (har : F.arcs.getD n.toNat EK.arc.dflt = ar) (h1 : (!(fitE u x.b ar.i).2) = false) (h2 : (!(fitE v x.c ar.o).2) = false) (h3 : D ⟨ar.t, (fitE u x.b ar.i).1, (fitE v x.c ar.o).1⟩ = some d) (h4 : ¬ cost + ar.w < d.cost) :
    stepD F u v x cost D n = D := by
  subst har
  simp only [Bool.not_eq_false'] at h1 h2
  simp only [stepD, h1, h2, and_self, if_true, h3, h4, if_false]

theorem MetOk.none {es : List (Trip × Option Addr × Nat)} {pf : List (Addr × List Fnd × Nat)} {y : Trip} (h : (!(@lkM EK.trip.ty EK.adr.ty (EK.instDeq .trip) es y).isSome) = true) : metOf es pf y = Option.none := by
  have h' : (lkM es y).isSome = false := by
    rw [Bool.not_eq_true'] at h
    exact h
  unfold metOf
  cases hl : lkM es y with
  | none => rfl
  | some b => rw [hl] at h'; cases h'
end

end Go.Fw

/-
  The way of least cost from spot to spot.
-/
namespace Go.Fw
open Go

/-- From a spot by an arc. -/
def Edge (F : TF) (u v : List Int) (x : Trip) (n : Nat) (y : Trip) (w : Int) : Prop :=
  ∃ a, F.arcs[n]? = some a ∧ a.f = x.a ∧ (fitE u x.b a.i).2 = true ∧ (fitE v x.c a.o).2 = true ∧ y = ⟨a.t, (fitE u x.b a.i).1, (fitE v x.c a.o).1⟩ ∧ w = a.w

def st0 (F : TF) : Trip := ⟨F.start, 0, 0⟩

def InBox (F : TF) (u v : List Int) (x : Trip) : Prop := (0 ≤ x.a ∧ x.a < F.st) ∧ (0 ≤ x.b ∧ x.b ≤ u.length) ∧ (0 ≤ x.c ∧ x.c ≤ v.length)

theorem fitE_box {l : List Int} {p x : Int} (hp : 0 ≤ p ∧ p ≤ l.length) (h : (fitE l p x).2 = true) : 0 ≤ (fitE l p x).1 ∧ (fitE l p x).1 ≤ l.length := by
  unfold fitE at h ⊢
  split at h
  · rename_i e; rw [if_pos e]; exact hp
  · rename_i e
    rw [if_neg e]
    simp only [decide_eq_true_eq] at h
    constructor
    · show 0 ≤ p + 1
      omega
    · show p + 1 ≤ _
      omega

section
variable {F : TF} {u v : List Int}

theorem Edge.box (hF : FOk F) {x y : Trip} {n : Nat} {w : Int} (h : Edge F u v x n y w) (hx : InBox F u v x) : InBox F u v y := by
  obtain ⟨a, h1, h2, h3, h4, rfl, rfl⟩ := h
  have ha := hF.arc a (List.mem_of_getElem? h1)
  exact ⟨⟨ha.t0, ha.t1⟩, fitE_box hx.2.1 h3, fitE_box hx.2.2 h4⟩

theorem Edge.wt (hF : FOk F) {x y : Trip} {n : Nat} {w : Int} (h : Edge F u v x n y w) : 0 ≤ w ∧ w ≤ 1000000000 := by
  obtain ⟨a, h1, h2, h3, h4, rfl, rfl⟩ := h
  have ha := hF.arc a (List.mem_of_getElem? h1)
  exact ⟨ha.w0, ha.w1⟩

theorem Edge.fn {x y y' : Trip} {n : Nat} {w w' : Int} (h : Edge F u v x n y w) (h' : Edge F u v x n y' w') : y = y' ∧ w = w' := by
  obtain ⟨a, h1, h2, h3, h4, rfl, rfl⟩ := h
  obtain ⟨a', h1', h2', h3', h4', rfl, rfl⟩ := h'
  rw [h1] at h1'
  cases h1'
  exact ⟨rfl, rfl⟩

/-- What comes of one arc. -/
theorem stepD_cases {x : Trip} {cost : Int} {D : Trip → Option Fnd} {k : Nat} {a : Arc} (hk : F.arcs[k]? = some a) (hf : a.f = x.a) :
    (stepD F u v x cost D k = D ∧ ∀ y w, Edge F u v x k y w → ∃ d, D y = some d ∧ d.cost ≤ cost + w) ∨
    ∃ y w, Edge F u v x k y w ∧ stepD F u v x cost D k = updD D y ⟨cost + w, k, x.a, x.b, x.c, false⟩ ∧ ∀ d, D y = some d → cost + w < d.cost := by
  have har : F.arcs.getD (k : Int).toNat EK.arc.dflt = a := by rw [Int.toNat_natCast]; simp [List.getD, hk]
  cases h1 : (fitE u x.b a.i).2 with
  | false =>
    refine .inl ⟨stepD_no1 har (by rw [h1]; rfl), ?_⟩
    rintro y w ⟨b, g1, g2, g3, g4, _⟩
    rw [hk] at g1
    cases g1
    rw [h1] at g3
    cases g3
  | true =>
    cases h2 : (fitE v x.c a.o).2 with
    | false =>
      refine .inl ⟨stepD_no2 har (by rw [h2]; rfl), ?_⟩
      rintro y w ⟨b, g1, g2, g3, g4, _⟩
      rw [hk] at g1
      cases g1
      rw [h2] at g4
      cases g4
    | true =>
      have he : Edge F u v x k ⟨a.t, (fitE u x.b a.i).1, (fitE v x.c a.o).1⟩ a.w := ⟨a, hk, hf, h1, h2, rfl, rfl⟩
      cases h3 : D ⟨a.t, (fitE u x.b a.i).1, (fitE v x.c a.o).1⟩ with
      | none => exact .inr ⟨_, _, he, stepD_new har (by rw [h1]; rfl) (by rw [h2]; rfl) h3, fun d hd => by rw [h3] at hd; cases hd⟩
      | some d =>
        by_cases h4 : cost + a.w < d.cost
        · exact .inr ⟨_, _, he, stepD_less har (by rw [h1]; rfl) (by rw [h2]; rfl) h3 h4, fun d' hd => by rw [h3] at hd; cases hd; exact h4⟩
        · refine .inl ⟨stepD_keep har (by rw [h1]; rfl) (by rw [h2]; rfl) h3 h4, ?_⟩
          intro y w h
          obtain ⟨rfl, rfl⟩ := he.fn h
          exact ⟨d, h3, by omega⟩

/-- What holds between the rounds. -/
structure Dj (F : TF) (u v : List Int) (D : Trip → Option Fnd) (ord : List Trip) (rk : Trip → Nat) (B : Int) (Q : Trip → Nat → Prop) : Prop where
  start : ∃ c, D (st0 F) = some c ∧ c.cost = 0
  rng : ∀ y d, D y = some d → InBox F u v y
  dn : ∀ y d, D y = some d → (d.dn = true ↔ y ∈ ord)
  mem : ∀ y ∈ ord, ∃ d, D y = some d
  cost : ∀ y d, D y = some d → 0 ≤ d.cost ∧ d.cost ≤ B
  closed : ∀ z ∈ ord, ∀ c, D z = some c → ∀ n y w, Q z n → Edge F u v z n y w → ∃ d, D y = some d ∧ d.cost ≤ c.cost + w
  mono : ∀ z ∈ ord, ∀ c, D z = some c → ∀ y d, D y = some d → y ∉ ord → c.cost ≤ d.cost
  rkl : ∀ y ∈ ord, rk y < ord.length
  by' : ∀ y d, D y = some d → (y = st0 F ∧ d.cost = 0 ∧ d.arc = -1) ∨ ∃ (n : Nat) (x : Trip) (c : Fnd) (w : Int), d.arc = (n : Int) ∧ d.s = x.a ∧ d.i = x.b ∧ d.o = x.c ∧ x ∈ ord ∧ D x = some c ∧ Edge F u v x n y w ∧ d.cost = c.cost + w ∧ (y ∈ ord → rk x < rk y)

/-- The nearest spot is done. -/
def mark (D : Trip → Option Fnd) (x : Trip) (c : Fnd) : Trip → Option Fnd := updD D x { c with dn := true }

theorem updD_same {D : Trip → Option Fnd} {y : Trip} {e : Fnd} : updD D y e y = some e := by simp [updD]
theorem updD_ne {D : Trip → Option Fnd} {y z : Trip} {e : Fnd} (h : z ≠ y) : updD D y e z = D z := by simp [updD, h]

theorem mark_some {D : Trip → Option Fnd} {x : Trip} {c : Fnd} (hx : D x = some c) {y : Trip} {d : Fnd} (h : mark D x c y = some d) : ∃ d', D y = some d' ∧ d.cost = d'.cost ∧ d.arc = d'.arc ∧ d.s = d'.s ∧ d.i = d'.i ∧ d.o = d'.o ∧ (y = x → d.dn = true) ∧ (y ≠ x → d = d') := by
  by_cases e : y = x
  · subst e
    unfold mark at h
    rw [updD_same] at h
    cases h
    exact ⟨c, hx, rfl, rfl, rfl, rfl, rfl, fun _ => rfl, fun h => absurd rfl h⟩
  · unfold mark at h
    rw [updD_ne e] at h
    exact ⟨d, h, rfl, rfl, rfl, rfl, rfl, fun h => absurd h e, fun _ => rfl⟩

theorem mark_of {D : Trip → Option Fnd} {x : Trip} {c : Fnd} (hx : D x = some c) {y : Trip} {d : Fnd} (h : D y = some d) : ∃ d', mark D x c y = some d' ∧ d'.cost = d.cost := by
  by_cases e : y = x
  · subst e
    rw [hx] at h
    cases h
    exact ⟨_, updD_same, rfl⟩
  · exact ⟨d, by unfold mark; rw [updD_ne e]; exact h, rfl⟩

theorem Dj.mark {D : Trip → Option Fnd} {ord : List Trip} {rk : Trip → Nat} {B : Int} (h : Dj F u v D ord rk B (fun _ _ => True)) {x : Trip} {c : Fnd} (hx : D x = some c) (hd : c.dn = false) (hmin : ∀ y d, D y = some d → d.dn = false → c.cost ≤ d.cost) :
    Dj F u v (mark D x c) (ord ++ [x]) (fun z => if z = x then ord.length else rk z) B (fun z _ => z ≠ x) ∧ (∀ z ∈ ord ++ [x], ∀ d, mark D x c z = some d → d.cost ≤ c.cost) := by
  have hxn : x ∉ ord := fun hm => by have := (h.dn x c hx).2 hm; rw [hd] at this; cases this
  have hno : ∀ y d, D y = some d → y ∉ ord → d.dn = false := by
    intro y d hy hn
    cases hdn : d.dn with
    | false => rfl
    | true => exact absurd ((h.dn y d hy).1 hdn) hn
  constructor
  · constructor
    · obtain ⟨c0, h1, h2⟩ := h.start
      obtain ⟨d, h3, h4⟩ := mark_of hx h1
      exact ⟨d, h3, by rw [h4, h2]⟩
    · intro y d hy
      obtain ⟨d', h1, _⟩ := mark_some hx hy
      exact h.rng y d' h1
    · intro y d hy
      obtain ⟨d', h1, h2, _, _, _, _, h3, h4⟩ := mark_some hx hy
      by_cases e : y = x
      · simp [h3 e, e]
      · have := h4 e
        subst this
        rw [h.dn y d h1]
        simp [e]
    · intro y hy
      rcases List.mem_append.1 hy with hy | hy
      · obtain ⟨d, hd⟩ := h.mem y hy
        obtain ⟨d', hd', _⟩ := mark_of hx hd
        exact ⟨d', hd'⟩
      · rw [List.mem_singleton.1 hy]
        exact ⟨_, updD_same⟩
    · intro y d hy
      obtain ⟨d', h1, h2, _⟩ := mark_some hx hy
      rw [h2]
      exact h.cost y d' h1
    · intro z hz cz hcz n y w hq he
      rcases List.mem_append.1 hz with hz | hz
      · obtain ⟨d', h1, h2, _⟩ := mark_some hx hcz
        obtain ⟨d, h3, h4⟩ := h.closed z hz d' h1 n y w trivial he
        obtain ⟨d2, h5, h6⟩ := mark_of hx h3
        exact ⟨d2, h5, by omega⟩
      · exact absurd (List.mem_singleton.1 hz) hq
    · intro z hz cz hcz y d hy hyn
      simp only [List.mem_append, List.mem_singleton, not_or] at hyn
      obtain ⟨d', h1, h2, _⟩ := mark_some hx hcz
      obtain ⟨e', g1, g2, _⟩ := mark_some hx hy
      rw [h2, g2]
      rcases List.mem_append.1 hz with hz | hz
      · exact h.mono z hz d' h1 y e' g1 hyn.1
      · rw [List.mem_singleton.1 hz, hx] at h1
        cases h1
        exact hmin y e' g1 (hno y e' g1 hyn.1)
    · intro y hy
      simp only [List.length_append, List.length_cons, List.length_nil]
      split
      · omega
      · rename_i hne
        rcases List.mem_append.1 hy with hy | hy
        · have := h.rkl y hy; omega
        · exact absurd (List.mem_singleton.1 hy) hne
    · intro y d hy
      obtain ⟨d', h1, h2, h2a, h2b, h2c, h2d, _⟩ := mark_some hx hy
      rcases h.by' y d' h1 with ⟨g1, g2, g3⟩ | ⟨n, z, cz, w, g1, g2, g3, g4, g5, g6, g7, g8, g9⟩
      · exact .inl ⟨g1, by rw [h2, g2], by rw [h2a, g3]⟩
      · obtain ⟨cz', k1, k2⟩ := mark_of hx g6
        have hzx : z ≠ x := fun e => hxn (e ▸ g5)
        refine .inr ⟨n, z, cz', w, by rw [h2a, g1], by rw [h2b, g2], by rw [h2c, g3], by rw [h2d, g4], List.mem_append_left _ g5, k1, g7, by rw [h2, g8, k2], fun hy2 => ?_⟩
        rw [if_neg hzx]
        by_cases e : y = x
        · rw [if_pos e]; exact h.rkl z g5
        · rw [if_neg e]
          rcases List.mem_append.1 hy2 with hy2 | hy2
          · exact g9 hy2
          · exact absurd (List.mem_singleton.1 hy2) e
  · intro z hz d hzd
    obtain ⟨d', h1, h2, _⟩ := mark_some hx hzd
    rw [h2]
    rcases List.mem_append.1 hz with hz | hz
    · exact h.mono z hz d' h1 x c hx hxn
    · rw [List.mem_singleton.1 hz, hx] at h1
      cases h1
      exact Int.le_refl _

/-- One arc of the nearest spot. -/
theorem Dj.step (hF : FOk F) {D : Trip → Option Fnd} {ord : List Trip} {rk : Trip → Nat} {B : Int} {Q : Trip → Nat → Prop} (h : Dj F u v D ord rk B Q) {x : Trip} {c : Fnd} (hx : D x = some c) (hxo : x ∈ ord) (hmax : ∀ z ∈ ord, ∀ d, D z = some d → d.cost ≤ c.cost)
    (hB : c.cost + 1000000000 ≤ B) {k : Nat} {a : Arc} (hk : F.arcs[k]? = some a) (hf : a.f = x.a) :
    Dj F u v (stepD F u v x c.cost D k) ord rk B (fun z n => Q z n ∨ (z = x ∧ n = k)) ∧ stepD F u v x c.cost D k x = some c ∧ (∀ z ∈ ord, ∀ d, stepD F u v x c.cost D k z = some d → d.cost ≤ c.cost) := by
  rcases stepD_cases (u := u) (v := v) (cost := c.cost) (D := D) hk hf with ⟨e, hcl⟩ | ⟨y, w, he, e, hless⟩
  · rw [e]
    refine ⟨⟨h.start, h.rng, h.dn, h.mem, h.cost, ?_, h.mono, h.rkl, h.by'⟩, hx, hmax⟩
    rintro z hz cz hcz n y w (hq | ⟨rfl, rfl⟩) hed
    · exact h.closed z hz cz hcz n y w hq hed
    · rw [hx] at hcz
      cases hcz
      exact hcl y w hed
  · rw [e]
    have hw := he.wt hF
    have hyo : y ∉ ord := by
      intro hy
      obtain ⟨d, hd⟩ := h.mem y hy
      have h1 := hless d hd
      have h2 := hmax y hy d hd
      omega
    have hyx : x ≠ y := fun e => hyo (e ▸ hxo)
    have hord : ∀ z ∈ ord, updD D y ⟨c.cost + w, k, x.a, x.b, x.c, false⟩ z = D z := fun z hz => updD_ne (fun e => hyo (e ▸ hz))
    have hc0 := h.cost x c hx
    refine ⟨⟨?_, ?_, ?_, ?_, ?_, ?_, ?_, h.rkl, ?_⟩, by rw [hord x hxo]; exact hx, fun z hz d hd => hmax z hz d (by rw [← hord z hz]; exact hd)⟩
    · obtain ⟨c0, h1, h2⟩ := h.start
      have : st0 F ≠ y := fun e => by
        have := hless c0 (by rw [← e]; exact h1)
        omega
      exact ⟨c0, by rw [updD_ne this]; exact h1, h2⟩
    · intro z d hz
      by_cases ez : z = y
      · subst ez; exact he.box hF (h.rng x c hx)
      · rw [updD_ne ez] at hz; exact h.rng z d hz
    · intro z d hz
      by_cases ez : z = y
      · subst ez
        rw [updD_same] at hz
        cases hz
        simp [hyo]
      · rw [updD_ne ez] at hz; exact h.dn z d hz
    · intro z hz
      rw [hord z hz]; exact h.mem z hz
    · intro z d hz
      by_cases ez : z = y
      · subst ez
        rw [updD_same] at hz
        cases hz
        simp only
        omega
      · rw [updD_ne ez] at hz; exact h.cost z d hz
    · intro z hz cz hcz n y2 w2 hq hed
      rw [hord z hz] at hcz
      by_cases ey : y2 = y
      · subst ey
        refine ⟨_, updD_same, ?_⟩
        show c.cost + w ≤ cz.cost + w2
        rcases hq with hq | ⟨rfl, rfl⟩
        · obtain ⟨d, h1, h2⟩ := h.closed z hz cz hcz n y2 w2 hq hed
          have := hless d h1
          omega
        · rw [hx] at hcz
          cases hcz
          have := (he.fn hed).2
          omega
      · rw [updD_ne ey]
        rcases hq with hq | ⟨rfl, rfl⟩
        · exact h.closed z hz cz hcz n y2 w2 hq hed
        · exact absurd (he.fn hed).1.symm ey
    · intro z hz cz hcz y2 d hy2 hn
      rw [hord z hz] at hcz
      by_cases ey : y2 = y
      · subst ey
        rw [updD_same] at hy2
        cases hy2
        have := hmax z hz cz hcz
        show cz.cost ≤ c.cost + w
        omega
      · rw [updD_ne ey] at hy2
        exact h.mono z hz cz hcz y2 d hy2 hn
    · intro y2 d hy2
      by_cases ey : y2 = y
      · subst ey
        rw [updD_same] at hy2
        cases hy2
        exact .inr ⟨k, x, c, w, rfl, rfl, rfl, rfl, hxo, by rw [hord x hxo]; exact hx, he, rfl, fun hm => absurd hm hyo⟩
      · rw [updD_ne ey] at hy2
        rcases h.by' y2 d hy2 with g | ⟨n, z, cz, w', g1, g2, g3, g4, g5, g6, g7⟩
        · exact .inl g
        · exact .inr ⟨n, z, cz, w', g1, g2, g3, g4, g5, by rw [hord z g5]; exact g6, g7⟩

end
end Go.Fw

/-
  The way of least cost: rounds, the end.
-/
namespace Go.Fw
open Go

/-- The numbers of the first arcs that go from a state. -/
def numsK (F : TF) (k : Nat) (s : Int) : List Int := ((List.range k).filter fun j => decide ((F.arcs.getD j EK.arc.dflt).f = s)).map Int.ofNat
def numsOf (F : TF) (s : Int) : List Int := numsK F F.arcs.length s

theorem numsK_succ (F : TF) (k : Nat) (s : Int) : numsK F (k + 1) s = numsK F k s ++ if (F.arcs.getD k EK.arc.dflt).f = s then [(k : Int)] else [] := by
  unfold numsK
  rw [List.range_succ, List.filter_append, List.map_append]
  congr 1
  by_cases h : (F.arcs.getD k EK.arc.dflt).f = s
  · rw [if_pos h, List.filter_cons_of_pos (by simpa using h)]
    rfl
  · rw [if_neg h, List.filter_cons_of_neg (by simpa using h)]
    rfl

theorem numsK_mem {F : TF} {k : Nat} {s n : Int} : n ∈ numsK F k s ↔ ∃ j : Nat, n = j ∧ j < k ∧ (F.arcs.getD j EK.arc.dflt).f = s := by
  unfold numsK
  simp only [List.mem_map, List.mem_filter, List.mem_range, decide_eq_true_eq]
  constructor
  · rintro ⟨j, ⟨h1, h2⟩, rfl⟩; exact ⟨j, rfl, h1, h2⟩
  · rintro ⟨j, rfl, h1, h2⟩; exact ⟨j, ⟨h1, h2⟩, rfl⟩

section
variable {F : TF} {u v : List Int}

theorem Dj.weak {D : Trip → Option Fnd} {ord : List Trip} {rk : Trip → Nat} {B B' : Int} {Q Q' : Trip → Nat → Prop} (h : Dj F u v D ord rk B Q) (hB : B ≤ B') (hQ : ∀ z ∈ ord, ∀ n y w, Edge F u v z n y w → Q' z n → Q z n) : Dj F u v D ord rk B' Q' :=
  ⟨h.start, h.rng, h.dn, h.mem, fun y d hy => ⟨(h.cost y d hy).1, Int.le_trans (h.cost y d hy).2 hB⟩, fun z hz c hc n y w hq he => h.closed z hz c hc n y w (hQ z hz n y w he hq) he, h.mono, h.rkl, h.by'⟩

theorem Dj.on (hF : FOk F) {x : Trip} {c : Fnd} {ord : List Trip} {rk : Trip → Nat} {B : Int} (hxo : x ∈ ord) (hB : c.cost + 1000000000 ≤ B) : ∀ (ns : List Int) (D : Trip → Option Fnd) (Q : Trip → Nat → Prop), Dj F u v D ord rk B Q → D x = some c → (∀ z ∈ ord, ∀ d, D z = some d → d.cost ≤ c.cost) →
    (∀ n ∈ ns, ∃ j : Nat, n = j ∧ j < F.arcs.length ∧ (F.arcs.getD j EK.arc.dflt).f = x.a) →
    Dj F u v (onD F u v x c.cost D ns) ord rk B (fun z n => Q z n ∨ (z = x ∧ (n : Int) ∈ ns)) ∧ onD F u v x c.cost D ns x = some c
  | [], D, Q, h, hx, hmax, _ => ⟨h.weak (Int.le_refl _) (fun z _ n y w _ hq => by rcases hq with hq | ⟨_, hq⟩; exact hq; cases hq), hx⟩
  | n :: ns, D, Q, h, hx, hmax, hn => by
    obtain ⟨j, rfl, h1, h2⟩ := hn n (List.mem_cons_self ..)
    have hk : F.arcs[j]? = some (F.arcs.getD j EK.arc.dflt) := by simp [List.getD, h1]
    obtain ⟨g1, g2, g3⟩ := h.step hF hx hxo hmax hB hk h2
    obtain ⟨g4, g5⟩ := Dj.on hF hxo hB ns _ _ g1 g2 g3 (fun n hn' => hn n (List.mem_cons_of_mem _ hn'))
    refine ⟨g4.weak (Int.le_refl _) (fun z _ n y w _ hq => ?_), g5⟩
    rcases hq with hq | ⟨hz, hq⟩
    · exact .inl (.inl hq)
    · rcases List.mem_cons.1 hq with hq | hq
      · exact .inl (.inr ⟨hz, by omega⟩)
      · exact .inr ⟨hz, hq⟩

/-- A round. -/
theorem Dj.round (hF : FOk F) {D : Trip → Option Fnd} {ord : List Trip} {rk : Trip → Nat} {B B' : Int} (h : Dj F u v D ord rk B (fun _ _ => True)) {x : Trip} {c : Fnd} (hx : D x = some c) (hd : c.dn = false) (hmin : ∀ y d, D y = some d → d.dn = false → c.cost ≤ d.cost)
    (hB1 : B ≤ B') (hB : c.cost + 1000000000 ≤ B') : ∃ rk', Dj F u v (onD F u v x c.cost (Fw.mark D x c) (numsOf F x.a)) (ord ++ [x]) rk' B' (fun _ _ => True) := by
  obtain ⟨h1, h2⟩ := h.mark hx hd hmin
  have h1' := h1.weak (Q' := fun z _ => z ≠ x) hB1 (fun _ _ _ _ _ _ h => h)
  have := Dj.on hF (c := { c with dn := true }) (List.mem_append_right ord (List.mem_singleton.2 rfl)) hB (numsOf F x.a) _ _ h1' updD_same h2 (fun n hn => numsK_mem.1 hn)
  refine ⟨_, this.1.weak (Int.le_refl _) (fun z hz n y w he _ => ?_)⟩
  by_cases e : z = x
  · subst e
    refine .inr ⟨rfl, ?_⟩
    obtain ⟨a, g1, g2, _⟩ := he
    have := (List.getElem?_eq_some_iff.1 g1).1
    exact numsK_mem.2 ⟨n, rfl, this, by simp [List.getD, g1, g2]⟩
  · exact .inl e

def D0 (F : TF) : Trip → Option Fnd := updD (fun _ => none) (st0 F) ⟨0, -1, 0, 0, 0, false⟩

theorem Dj.zero (hF : FOk F) : Dj F u v (D0 F) [] (fun _ => 0) 0 (fun _ _ => True) := by
  have hs := hF.start
  have key : ∀ y d, D0 F y = some d → y = st0 F ∧ d = ⟨0, -1, 0, 0, 0, false⟩ := by
    intro y d h
    unfold D0 updD at h
    split at h
    · rename_i e; cases h; exact ⟨e, rfl⟩
    · cases h
  refine ⟨⟨_, updD_same, rfl⟩, ?_, ?_, ?_, ?_, ?_, ?_, ?_, ?_⟩
  · intro y d h
    obtain ⟨rfl, rfl⟩ := key y d h
    refine ⟨hs, ⟨Int.le_refl _, ?_⟩, ⟨Int.le_refl _, ?_⟩⟩ <;> (simp only [st0]; omega)
  · intro y d h
    obtain ⟨rfl, rfl⟩ := key y d h
    simp
  · intro y h; cases h
  · intro y d h
    obtain ⟨rfl, rfl⟩ := key y d h
    exact ⟨Int.le_refl _, Int.le_refl _⟩
  · intro z h; cases h
  · intro z h; cases h
  · intro z h; cases h
  · intro y d h
    obtain ⟨rfl, rfl⟩ := key y d h
    exact .inl ⟨rfl, rfl, rfl⟩

/-- A way of some cost. -/
inductive Reach (F : TF) (u v : List Int) (S : Trip → Int → Prop) : Int → Trip → Prop
  | here {x : Trip} {c : Int} (h : S x c) : Reach F u v S c x
  | on {x y : Trip} {c w : Int} {n : Nat} (h : Reach F u v S c x) (he : Edge F u v x n y w) : Reach F u v S (c + w) y

structure IsLeast (F : TF) (u v : List Int) (S : Trip → Int → Prop) (A : Trip → Option Int) : Prop where
  path : ∀ y c, A y = some c → Reach F u v S c y
  least : ∀ c y, Reach F u v S c y → ∃ c', A y = some c' ∧ c' ≤ c

theorem IsLeast.eq {S : Trip → Int → Prop} {A B : Trip → Option Int} (hA : IsLeast F u v S A) (hB : IsLeast F u v S B) : A = B := by
  funext y
  cases ha : A y with
  | none =>
    cases hb : B y with
    | none => rfl
    | some c =>
      obtain ⟨c', h, _⟩ := hA.least _ _ (hB.path y c hb)
      rw [ha] at h
      cases h
  | some c =>
    obtain ⟨c1, h1, h2⟩ := hB.least _ _ (hA.path y c ha)
    obtain ⟨c2, h3, h4⟩ := hA.least _ _ (hB.path y c1 h1)
    rw [ha] at h3
    cases h3
    rw [h1]
    congr 1
    omega

/-- From the start, for nothing. -/
def fromSt (F : TF) : Trip → Int → Prop := fun x c => x = st0 F ∧ c = 0

/-- What came at the end. -/
theorem Dj.least {D : Trip → Option Fnd} {ord : List Trip} {rk : Trip → Nat} {B : Int} (h : Dj F u v D ord rk B (fun _ _ => True)) (hall : ∀ y d, D y = some d → d.dn = true) : IsLeast F u v (fromSt F) (fun y => (D y).map (·.cost)) := by
  have hm : ∀ y d, D y = some d → y ∈ ord := fun y d hy => (h.dn y d hy).1 (hall y d hy)
  constructor
  · have : ∀ (k : Nat) (y : Trip) (d : Fnd), rk y < k → D y = some d → Reach F u v (fromSt F) d.cost y := by
      intro k
      induction k with
      | zero => intro y d hk; omega
      | succ k ih =>
        intro y d hk hy
        rcases h.by' y d hy with ⟨g1, g2, _⟩ | ⟨n, z, cz, w, _, _, _, _, g5, g6, g7, g8, g9⟩
        · exact .here ⟨g1, g2⟩
        · rw [g8]
          exact .on (ih z cz (by have := g9 (hm y d hy); omega) g6) g7
    intro y c hy
    obtain ⟨d, hd, rfl⟩ := Option.map_eq_some_iff.1 hy
    exact this (rk y + 1) y d (Nat.lt_succ_self _) hd
  · intro c y hr
    induction hr with
    | here hs =>
      obtain ⟨rfl, rfl⟩ := hs
      obtain ⟨c0, h1, h2⟩ := h.start
      exact ⟨c0.cost, by simp [h1], by omega⟩
    | on hr he ih =>
      obtain ⟨c', h1, h2⟩ := ih
      obtain ⟨d, h3, rfl⟩ := Option.map_eq_some_iff.1 h1
      obtain ⟨e, h4, h5⟩ := h.closed _ (hm _ d h3) d h3 _ _ _ trivial he
      exact ⟨e.cost, by simp [h4], by omega⟩
end
end Go.Fw

namespace Go.Fw
open Go Go.Proofs

/-- All spots there may be. -/
def allSpots (F : TF) (u v : List Int) : List Trip := (List.range F.st.toNat).flatMap fun (s : Nat) => (List.range (u.length + 1)).flatMap fun (i : Nat) => (List.range (v.length + 1)).map fun (o : Nat) => (⟨(s : Int), (i : Int), (o : Int)⟩ : Trip)

/-- How many spots are not done. -/
def und (F : TF) (u v : List Int) (ord : List Trip) : Nat := ((allSpots F u v).filter fun x => decide (x ∉ ord)).length

/-- The rows hold the numbers of the arcs. -/
structure RowsOk (F : TF) (rows : List Sli) (pi : List (Addr × List Int × Nat)) : Prop where
  len : rows.length = F.st.toNat
  row : ∀ s : Nat, s < F.st.toNat → (rows.getD s EK.sli.dflt).n = (numsOf F s).length ∧ rowA pi (rows.getD s EK.sli.dflt).a = numsOf F s

section
variable {es : List (Trip × Option Addr × Nat)} {clk : Nat} {pf : List (Addr × List Fnd × Nat)}

theorem lkA_put {a : Addr} {f e : Fnd} (h : lkA pf a = some ([f], 0)) (b : Addr) : lkA (putA pf (some a) 0 e) b = if b = a then some ([e], 0) else lkA pf b := by
  simp only [putA, h, List.set_cons_zero]
  rw [lkA_setA]
  by_cases hb : b = a
  · subst hb; simp [h]
  · simp only [hb, if_false]
    cases lkA pf b <;> rfl

theorem MetOk.put (hm : MetOk es clk pf) {x : Trip} {a : Addr} {n : Nat} {f e : Fnd} (hx : (x, some a, n) ∈ es) (ha : lkA pf a = some ([f], 0)) :
    MetOk es clk (putA pf (some a) 0 e) ∧ metOf es (putA pf (some a) 0 e) = updD (metOf es pf) x e ∧ lkA (putA pf (some a) 0 e) a = some ([e], 0) := by
  refine ⟨⟨hm.born, hm.keys, hm.adrs, ?_⟩, ?_, by rw [lkA_put ha, if_pos rfl]⟩
  · intro c hc
    obtain ⟨b, g, h1, h2⟩ := hm.row c hc
    refine ⟨b, ?_⟩
    rw [lkA_put ha]
    by_cases hb : b = a
    · exact ⟨e, h1, by rw [if_pos hb]⟩
    · exact ⟨g, h1, by rw [if_neg hb]; exact h2⟩
  · funext z
    show (lkM es z).bind _ = updD (metOf es pf) x e z
    unfold updD
    by_cases hz : z = x
    · subst hz
      rw [if_pos rfl, show lkM es z = some (some a) from lkM_mem hm.keys hx]
      simp [rowA, lkA_put ha]
    · rw [if_neg hz]
      show _ = (lkM es z).bind _
      cases hl : lkM es z with
      | none => rfl
      | some oa =>
        obtain ⟨m, hm2⟩ := lkM_some hl
        have hne : oa ≠ some a := by
          intro c
          subst c
          have : (z, some a, m) = (x, some a, n) := by
            have hnd := hm.adrs
            have h1 := List.getElem_of_mem hx
            have h2 := List.getElem_of_mem hm2
            obtain ⟨i, hi, e1⟩ := h1
            obtain ⟨j, hj, e2⟩ := h2
            have : i = j := by
              refine (List.getElem_inj (h₀ := by simpa using hi) (h₁ := by simpa using hj) hnd).1 ?_
              simp [e1, e2]
            subst this
            rw [← e1, ← e2]
          exact hz (congrArg (·.1) this)
        cases oa with
        | none => rfl
        | some b =>
          have hb : b ≠ a := fun c => hne (by rw [c])
          simp only [Option.bind_some, rowA, lkA_put ha, if_neg hb]

theorem MetOk.all (hm : MetOk es clk pf) {best : Trip} (h : Nst es pf (es.map (·.2.2)) best false) : ∀ y d, metOf es pf y = some d → d.dn = true := by
  intro y d hy
  obtain ⟨a, n, h1, _⟩ := hm.of hy
  rcases h with ⟨_, h⟩ | ⟨h, _⟩
  · exact h _ h1 (List.mem_map_of_mem (f := fun e : Trip × Option Addr × Nat => e.2.2) h1) d hy
  · cases h

end

theorem MetOk.zero (F : TF) {a : Addr} : MetOk [(st0 F, some a, 0)] 1 [(a, [⟨0, -1, 0, 0, 0, false⟩], 0)] ∧ metOf [(st0 F, some a, 0)] [(a, [⟨0, -1, 0, 0, 0, false⟩], 0)] = D0 F := by
  constructor
  · exact ⟨⟨by simp, by simp⟩, by simp, by simp, by simp [lkA]⟩
  · funext z
    unfold metOf D0 updD
    by_cases h : z = st0 F
    · simp [lkM, rowA, lkA, h]
    · simp [lkM, h, Ne.symm h]

end Go.Fw

namespace Go.Fw
open Go Go.Proofs

/-- The walker between makeMap and the end: 7 what the map holds, 8 the map. -/
abbrev hpR (W : Wk) (es : List (Trip × Option Addr × Nat)) (clk : Nat) (pf : List (Addr × List Fnd × Nat)) : List (Nat × SO) := [(0, .box 58 [.i W.F.st, .i W.F.start, .sl 1 1 0 W.F.fin.length W.F.capF, .sl 2 5 0 W.F.arcs.length W.F.capA, .sl 3 1 0 W.u.length W.cu, .sl 4 1 0 W.v.length W.cv, .sl 5 1 0 W.rows.length W.rows.length, .mp 8]), (1, .arr false 3 .int W.F.fin 0), (2, .arr false 35 .arc W.F.arcs 0), (3, .arr false 3 .int W.u 0), (4, .arr false 3 .int W.v 0),
  (5, .arr true 22 .sli W.rows 0), (6, .pool 3 .int W.pi), (7, .pool 60 .fnd pf), (8, .map .trip .adr es clk)]
abbrev hpS (W : Wk) : List (Nat × SO) := [(0, .box 58 [.i W.F.st, .i W.F.start, .sl 1 1 0 W.F.fin.length W.F.capF, .sl 2 5 0 W.F.arcs.length W.F.capA, .sl 3 1 0 W.u.length W.cu, .sl 4 1 0 W.v.length W.cv, .sl 5 1 0 W.rows.length W.rows.length, .v (.map none)]), (1, .arr false 3 .int W.F.fin 0), (2, .arr false 35 .arc W.F.arcs 0), (3, .arr false 3 .int W.u 0), (4, .arr false 3 .int W.v 0),
  (5, .arr true 22 .sli W.rows 0), (6, .pool 3 .int W.pi), (7, .pool 60 .fnd [])]

/-- Between the rounds. -/
def RInv (W : Wk) (y : List (Trip × Option Addr × Nat) × Nat × List (Addr × List Fnd × Nat) × List Trip) : Prop :=
  MetOk y.1 y.2.1 y.2.2.1 ∧ y.2.2.2.length + und W.F W.u W.v y.2.2.2 ≤ (allSpots W.F W.u W.v).length ∧ ∃ rk, Dj W.F W.u W.v (metOf y.1 y.2.2.1) y.2.2.2 rk (1000000000 * (((allSpots W.F W.u W.v).length : Int) - und W.F W.u W.v y.2.2.2)) (fun _ _ => True)

/-- What the walker holds at the end. -/
def Ran (W : Wk) (es : List (Trip × Option Addr × Nat)) (clk : Nat) (pf : List (Addr × List Fnd × Nat)) : Prop :=
  MetOk es clk pf ∧ ∃ ord rk B, ord.length ≤ 336200 ∧ Dj W.F W.u W.v (metOf es pf) ord rk B (fun _ _ => True) ∧ B ≤ 1000000000000000 ∧ ∀ y d, metOf es pf y = some d → d.dn = true

end Go.Fw

namespace Go.Fw
open Go Go.Proofs

/-- The best end so far. -/
def endF (D : Trip → Option Int) (fin : List Int) (p q : Int) : Nat → Trip × Int
  | 0 => (⟨0, 0, 0⟩, -1)
  | k + 1 => match D ⟨k, p, q⟩ with
    | none => endF D fin p q k
    | some d => if fin.getD k 0 ≠ -1 ∧ ((endF D fin p q k).2 = -1 ∨ d + fin.getD k 0 < (endF D fin p q k).2) then (⟨k, p, q⟩, d + fin.getD k 0) else endF D fin p q k

/-- The costs alone. -/
abbrev costOf (es : List (Trip × Option Addr × Nat)) (pf : List (Addr × List Fnd × Nat)) : Trip → Option Int := fun y => (metOf es pf y).map (·.cost)

end Go.Fw
