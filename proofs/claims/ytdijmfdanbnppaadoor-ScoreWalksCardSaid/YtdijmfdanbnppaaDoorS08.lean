/-
  Settling one state after the other, in the plain.
-/
import Derived.Test.YtdijmfdanbnppaaDoorS07
import Derived.Test.YtdijmfdanbnppaaDoorS06

set_option linter.unusedSimpArgs false
set_option linter.unusedVariables false

namespace Go.Fw
open Go

/-- The first of the best that are not done among the first k; -1: none. -/
def pick (c : List Int) (d : List Bool) : Nat → Int
  | 0 => -1
  | k + 1 => if d.getD k false = false ∧ c.getD k 0 ≠ -1 ∧ (pick c d k < 0 ∨ c.getD k 0 < c.getD (pick c d k).toNat 0) then (k : Int) else pick c d k

def setlS (u : Int) (r : List Int × List Int) (p : Arc × Nat) : List Int × List Int :=
  if p.1.f = u ∧ better (r.1.getD u.toNat 0 + p.1.w) (r.1.getD p.1.t.toNat 0) = true then (r.1.set p.1.t.toNat (r.1.getD u.toNat 0 + p.1.w), r.2.set p.1.t.toNat (p.2 : Int)) else r

def setlR (l : List (Arc × Nat)) (u : Int) (r : List Int × List Int) : List Int × List Int := l.foldl (setlS u) r

def setl (l : List (Arc × Nat)) : Nat → List Int → List Int → List Bool → List Int × List Int
  | 0, c, b, _ => (c, b)
  | k + 1, c, b, d => if pick c d c.length < 0 then (c, b) else
    let r := setlR l (pick c d c.length) (c, b)
    setl l k r.1 r.2 (d.set (pick c d c.length).toNat true)

/-- What the program's settle comes to. -/
def settled (l : List Arc) (n : Nat) (c : List Int) : List Int × List Int := setl l.zipIdx (n + 1) c (List.replicate n (-1)) (List.replicate n false)

theorem pick_spec (c : List Int) (d : List Bool) : ∀ k : Nat, k ≤ c.length → (pick c d k < 0 ∧ ∀ v, v < k → d.getD v false = false → c.getD v 0 = -1) ∨
    (0 ≤ pick c d k ∧ (pick c d k).toNat < k ∧ d.getD (pick c d k).toNat false = false ∧ c.getD (pick c d k).toNat 0 ≠ -1 ∧ ∀ v, v < k → d.getD v false = false → c.getD v 0 ≠ -1 → c.getD (pick c d k).toNat 0 ≤ c.getD v 0)
  | 0, _ => .inl ⟨by simp [pick], fun v h => by omega⟩
  | k + 1, hk => by
    have ih := pick_spec c d k (by omega)
    simp only [pick]
    by_cases h : d.getD k false = false ∧ c.getD k 0 ≠ -1 ∧ (pick c d k < 0 ∨ c.getD k 0 < c.getD (pick c d k).toNat 0)
    · rw [if_pos h]
      right
      refine ⟨by omega, by simp, by simpa using h.1, by simpa using h.2.1, ?_⟩
      intro v hv hd hc
      simp only [Int.toNat_natCast]
      by_cases e : v = k
      · subst e; omega
      · rcases ih with ⟨_, h1⟩ | ⟨h0, _, _, _, h1⟩
        · exact absurd (h1 v (by omega) hd) hc
        · have := h1 v (by omega) hd hc
          rcases h.2.2 with h2 | h2
          · omega
          · omega
    · rw [if_neg h]
      rcases ih with ⟨h0, h1⟩ | ⟨h0, h1, h2, h3, h4⟩
      · left
        refine ⟨h0, fun v hv hd => ?_⟩
        by_cases e : v = k
        · subst e
          exact Classical.byContradiction fun hc => h ⟨hd, hc, .inl h0⟩
        · exact h1 v (by omega) hd
      · right
        refine ⟨h0, by omega, h2, h3, fun v hv hd hc => ?_⟩
        by_cases e : v = k
        · subst e
          exact Classical.byContradiction fun hx => h ⟨hd, hc, .inr (by omega)⟩
        · exact h4 v (by omega) hd hc

/-- What holds between two rounds. n: how many are done. -/
structure DI (l : List Arc) (c0 : List Int) (c b : List Int) (d : List Bool) : Prop where
  len : c.length = c0.length
  lenb : b.length = c0.length
  lend : d.length = c0.length
  low : ∀ v, v < c0.length → -1 ≤ c.getD v 0
  s1 : ∀ v, v < c0.length → Le (c.getD v 0) (c0.getD v 0)
  fin : ∀ v, d.getD v false = true → c.getD v 0 ≠ -1
  out : ∀ a ∈ l, d.getD a.f.toNat false = true → Le (c.getD a.t.toNat 0) (c.getD a.f.toNat 0 + a.w)
  rn : ∀ v, v < c0.length → c.getD v 0 ≠ -1 → ∃ k, k ≤ d.count true ∧ RN l c0 k v (c.getD v 0)
  ord : ∀ u v, d.getD u false = true → v < c0.length → d.getD v false = false → c.getD v 0 ≠ -1 → c.getD u 0 ≤ c.getD v 0

/-- Inside a round: u is settled, the arcs of m are gone by. -/
structure DJ (l : List Arc) (c0 c b : List Int) (d : List Bool) (u : Nat) (m : List (Arc × Nat)) (c' b' : List Int) : Prop where
  len : c'.length = c0.length
  lenb : b'.length = c0.length
  at_ : c'.getD u 0 = c.getD u 0
  done : ∀ v, d.getD v false = true → c'.getD v 0 = c.getD v 0
  low : ∀ v, v < c0.length → -1 ≤ c'.getD v 0
  le : ∀ v, Le (c'.getD v 0) (c.getD v 0)
  ge : ∀ v, v < c0.length → d.getD v false = false → c'.getD v 0 ≠ -1 → c.getD u 0 ≤ c'.getD v 0
  out : ∀ p ∈ m, p.1.f.toNat = u → Le (c'.getD p.1.t.toNat 0) (c.getD u 0 + p.1.w)
  rn : ∀ v, v < c0.length → c'.getD v 0 ≠ -1 → ∃ k, k ≤ d.count true + 1 ∧ RN l c0 k v (c'.getD v 0)

theorem DJ.start {l : List Arc} {c0 c b : List Int} {d : List Bool} (h : DI l c0 c b d) {u : Nat} (hu : ∀ v, v < c.length → d.getD v false = false → c.getD v 0 ≠ -1 → c.getD u 0 ≤ c.getD v 0) : DJ l c0 c b d u [] c b where
  len := h.len
  lenb := h.lenb
  at_ := rfl
  done := fun _ _ => rfl
  low := h.low
  le := fun _ => Le.refl _
  ge := fun v hv hd hc => hu v (by rw [h.len]; exact hv) hd hc
  out := fun p hp => by cases hp
  rn := fun v hv hc => by obtain ⟨k, hk, hr⟩ := h.rn v hv hc; exact ⟨k, by omega, hr⟩

theorem better_iff {a b : Int} : better a b = true ↔ a ≠ -1 ∧ (b = -1 ∨ a < b) := by simp [better]

theorem DJ.step {l : List Arc} {st : Int} {c0 c b : List Int} {d : List Bool} {u : Nat} {m : List (Arc × Nat)} {c' b' : List Int} (h : DI l c0 c b d) (hl : ∀ a ∈ l, ArcOk st a) (hn : (c0.length : Int) = st)
    (hul : u < c0.length) (hud : d.getD u false = false) (huc : c.getD u 0 ≠ -1) (hj : DJ l c0 c b d u m c' b') {p : Arc × Nat} (hp : p.1 ∈ l) :
    DJ l c0 c b d u (m ++ [p]) (setlS (u : Int) (c', b') p).1 (setlS (u : Int) (c', b') p).2 := by
  have ha := hl p.1 hp
  have hu0 := h.low u hul
  have w0 := ha.w0
  have htl : p.1.t.toNat < c0.length := by have := ha.t0; have := ha.t1; omega
  have hat := hj.at_
  unfold setlS
  simp only [Int.toNat_natCast]
  by_cases hb : p.1.f = (u : Int) ∧ better (c'.getD u 0 + p.1.w) (c'.getD p.1.t.toNat 0) = true
  · rw [if_pos hb]
    obtain ⟨hf, hb⟩ := hb
    rw [better_iff, hat] at hb
    have htu : p.1.t.toNat ≠ u := by
      intro e
      rw [e, hat] at hb
      omega
    have htd : d.getD p.1.t.toNat false = false := by
      cases hx : d.getD p.1.t.toNat false with
      | false => rfl
      | true =>
        have h1 := h.ord _ u hx hul hud huc
        have h2 := hj.done _ hx
        have h3 := h.fin _ hx
        rw [h2] at hb
        omega
    have hg : ∀ v, (c'.set p.1.t.toNat (c'.getD u 0 + p.1.w)).getD v 0 = if p.1.t.toNat = v ∧ v < c'.length then c.getD u 0 + p.1.w else c'.getD v 0 := fun v => by rw [getD_set, hat]
    refine ⟨by simp [hj.len], by simp [hj.lenb], ?_, ?_, ?_, ?_, ?_, ?_, ?_⟩
    · rw [hg, if_neg (fun hh => htu hh.1)]; exact hat
    · intro v hv
      rw [hg, if_neg (fun hh => by rw [← hh.1, htd] at hv; cases hv)]
      exact hj.done v hv
    · intro v hv
      rw [hg]
      split
      · omega
      · exact hj.low v hv
    · intro v
      rw [hg]
      split
      · rename_i hh
        obtain ⟨rfl, _⟩ := hh
        intro hne
        have := hj.le _ hne
        exact ⟨hb.1, by rcases hb.2 with h1 | h1 <;> omega⟩
      · exact hj.le v
    · intro v hv hd hc
      rw [hg] at hc ⊢
      split
      · omega
      · rename_i hh
        rw [if_neg hh] at hc
        exact hj.ge v hv hd hc
    · intro q hq hqf
      rw [hg]
      rcases List.mem_append.1 hq with hq | hq
      · split
        · rename_i hh
          have h1 := hj.out q hq hqf
          intro hne
          have h2 := h1 hne
          rw [← hh.1] at h2
          exact ⟨hb.1, by rcases hb.2 with h3 | h3 <;> omega⟩
        · exact hj.out q hq hqf
      · rw [List.mem_singleton] at hq
        subst hq
        rw [if_pos ⟨rfl, by rw [hj.len]; exact htl⟩]
        exact Le.refl _
    · intro v hv hc
      rw [hg] at hc ⊢
      split
      · rename_i hh
        obtain ⟨rfl, _⟩ := hh
        obtain ⟨k, hk, hr⟩ := h.rn u hul huc
        have hfu : p.1.f.toNat = u := by omega
        exact ⟨k + 1, by omega, .step (hfu ▸ hr) hp⟩
      · rename_i hh
        rw [if_neg hh] at hc
        exact hj.rn v hv hc
  · rw [if_neg hb]
    refine ⟨hj.len, hj.lenb, hj.at_, hj.done, hj.low, hj.le, hj.ge, ?_, hj.rn⟩
    intro q hq hqf
    rcases List.mem_append.1 hq with hq | hq
    · exact hj.out q hq hqf
    · rw [List.mem_singleton] at hq
      subst hq
      have hf : q.1.f = (u : Int) := by have := ha.f0; omega
      have h1 : ¬ better (c'.getD u 0 + q.1.w) (c'.getD q.1.t.toNat 0) = true := fun hx => hb ⟨hf, hx⟩
      rw [better_iff, hat] at h1
      intro hne
      have h2 := hj.low _ htl
      show c'.getD q.1.t.toNat 0 ≠ -1 ∧ c'.getD q.1.t.toNat 0 ≤ c.getD u 0 + q.1.w
      omega

theorem DJ.fold {l : List Arc} {st : Int} {c0 c b : List Int} {d : List Bool} {u : Nat} (h : DI l c0 c b d) (hl : ∀ a ∈ l, ArcOk st a) (hn : (c0.length : Int) = st) (hul : u < c0.length) (hud : d.getD u false = false) (huc : c.getD u 0 ≠ -1) :
    ∀ (r m : List (Arc × Nat)) (c' b' : List Int), (∀ p ∈ r, p.1 ∈ l) → DJ l c0 c b d u m c' b' → DJ l c0 c b d u (m ++ r) (setlR r (u : Int) (c', b')).1 (setlR r (u : Int) (c', b')).2
  | [], m, c', b', _, hj => by simpa [setlR] using hj
  | p :: r, m, c', b', hr, hj => by
    have h1 := hj.step h hl hn hul hud huc (hr p (by simp))
    have h2 := DJ.fold h hl hn hul hud huc r _ _ _ (fun q hq => hr q (by simp [hq])) h1
    have e : m ++ p :: r = m ++ [p] ++ r := by simp
    rw [e]
    exact h2

theorem count_set : ∀ (d : List Bool) (u : Nat), u < d.length → d.getD u false = false → (d.set u true).count true = d.count true + 1 ∧ d.count true < d.length
  | [], u, h, _ => by simp at h
  | x :: d, 0, _, h => by
    simp only [List.getD_cons_zero] at h
    subst h
    simp only [List.set_cons_zero, List.count_cons, beq_self_eq_true, if_true, List.length_cons]
    have := List.count_le_length (a := true) (l := d)
    simp; omega
  | x :: d, u + 1, hl, h => by
    simp only [List.getD_cons_succ] at h
    have ih := count_set d u (by simpa using hl) h
    simp only [List.set_cons_succ, List.count_cons, List.length_cons]
    refine ⟨by omega, ?_⟩
    cases x <;> simp <;> omega

theorem DI.next {l : List Arc} {st : Int} {c0 c b : List Int} {d : List Bool} {u : Nat} (h : DI l c0 c b d) (hl : ∀ a ∈ l, ArcOk st a) (hn : (c0.length : Int) = st) (hul : u < c0.length) (hud : d.getD u false = false) (huc : c.getD u 0 ≠ -1)
    (hu : ∀ v, v < c.length → d.getD v false = false → c.getD v 0 ≠ -1 → c.getD u 0 ≤ c.getD v 0) {r : List (Arc × Nat)} (hr : ∀ a, a ∈ l ↔ ∃ i, (a, i) ∈ r) :
    DI l c0 (setlR r (u : Int) (c, b)).1 (setlR r (u : Int) (c, b)).2 (d.set u true) := by
  have hj := DJ.fold h hl hn hul hud huc r [] c b (fun p hp => (hr p.1).2 ⟨p.2, hp⟩) (DJ.start h hu)
  rw [List.nil_append] at hj
  have hdl := h.lend
  have hg : ∀ v, (d.set u true).getD v false = if u = v ∧ v < d.length then true else d.getD v false := fun v => getD_set _ _ _ _ _
  have hcnt := (count_set d u (by omega) hud).1
  have hset : ∀ v, (d.set u true).getD v false = true → v = u ∨ d.getD v false = true := by
    intro v hv
    rw [hg] at hv
    split at hv
    · rename_i hh; exact .inl hh.1.symm
    · exact .inr hv
  have hset' : ∀ v, (d.set u true).getD v false = false → v ≠ u ∧ d.getD v false = false := by
    intro v hv
    rw [hg] at hv
    split at hv
    · cases hv
    · rename_i hh; exact ⟨fun e => hh ⟨e.symm, by omega⟩, hv⟩
  refine ⟨hj.len, hj.lenb, by simp [hdl], hj.low, fun v hv => (hj.le v).trans (h.s1 v hv), ?_, ?_, ?_, ?_⟩
  · intro v hv
    rcases hset v hv with rfl | hv
    · rw [hj.at_]; exact huc
    · rw [hj.done v hv]; exact h.fin v hv
  · intro a ha hf
    rcases hset _ hf with hf | hf
    · obtain ⟨i, hi⟩ := (hr a).1 ha
      rw [hf, hj.at_]
      exact hj.out (a, i) hi hf
    · rw [hj.done _ hf]
      exact (hj.le _).trans (h.out a ha hf)
  · intro v hv hc
    obtain ⟨k, hk, hr'⟩ := hj.rn v hv hc
    exact ⟨k, by rw [hcnt]; exact hk, hr'⟩
  · intro x v hx hv hd hc
    obtain ⟨_, hd'⟩ := hset' v hd
    have h1 := hj.ge v hv hd' hc
    rcases hset x hx with rfl | hx
    · rw [hj.at_]; exact h1
    · rw [hj.done x hx]
      have := h.ord x u hx hul hud huc
      omega

end Go.Fw

/-
  Settling: bounds, one step of the walk.
-/
namespace Go.Fw
open Go

structure SB (st B : Int) (u : Int) (cu : Int) (r : List Int × List Int) : Prop where
  bd : Bd st (B + 1000000000) r.1
  at_ : r.1.getD u.toNat 0 = cu
  lenb : (r.2.length : Int) = st

theorem SB.step {st B u cu : Int} {r : List Int × List Int} (h : SB st B u cu r) (hu : 0 ≤ u) (hu1 : u < st) (hc : cu ≠ -1) (hB : cu ≤ B) {p : Arc × Nat} (ha : ArcOk st p.1) : SB st B u cu (setlS u r p) := by
  unfold setlS
  by_cases hb : p.1.f = u ∧ better (r.1.getD u.toNat 0 + p.1.w) (r.1.getD p.1.t.toNat 0) = true
  · rw [if_pos hb]
    obtain ⟨_, hb⟩ := hb
    rw [better_iff, h.at_] at hb
    have w0 := ha.w0
    have w1 := ha.w1
    have hlen := h.bd.len
    have hcu := h.bd.at hu hu1
    rw [h.at_] at hcu
    refine ⟨⟨by simp [hlen], fun v hv => ?_⟩, ?_, by simp [h.lenb]⟩
    · rcases List.mem_or_eq_of_mem_set hv with hv | rfl
      · exact h.bd.bd v hv
      · rw [h.at_]; omega
    · rw [getD_set]
      split
      · rename_i hh
        rw [hh.1, h.at_] at hb
        omega
      · exact h.at_
  · rw [if_neg hb]
    exact h

theorem SB.fold {st B u cu : Int} (hu : 0 ≤ u) (hu1 : u < st) (hc : cu ≠ -1) (hB : cu ≤ B) : ∀ (l : List (Arc × Nat)) {r : List Int × List Int}, SB st B u cu r → (∀ p ∈ l, ArcOk st p.1) → SB st B u cu (setlR l u r)
  | [], r, h, _ => h
  | p :: l, r, h, hl => SB.fold hu hu1 hc hB l (h.step hu hu1 hc hB (hl p (by simp))) (fun q hq => hl q (by simp [hq]))

/-- What is known at a round's head. -/
structure SI (st : Int) (l : List (Arc × Nat)) (R : List Int × List Int) (k : Nat) (c b : List Int) (d : List Bool) : Prop where
  kk : k ≤ st.toNat + 1
  bd : Bd st (1000000000 * (203 - k)) c
  lenb : (b.length : Int) = st
  lend : (d.length : Int) = st
  eq : setl l k c b d = R
  cnt : st.toNat < k + d.count true

theorem SI.k1 {st : Int} {l : List (Arc × Nat)} {R : List Int × List Int} {k : Nat} {c b : List Int} {d : List Bool} (h : SI st l R k c b d) : ∃ k', k = k' + 1 := by
  have := List.count_le_length (a := true) (l := d)
  have := h.cnt
  have := h.lend
  exact ⟨k - 1, by omega⟩

theorem SI.next {st : Int} (hst : 1 ≤ st ∧ st ≤ 200) {l : List (Arc × Nat)} {R : List Int × List Int} {k : Nat} {c b : List Int} {d : List Bool} (h : SI st l R k c b d) (hl : ∀ p ∈ l, ArcOk st p.1) (hp : ¬ pick c d c.length < 0) :
    SI st l R (k - 1) (setlR l (pick c d c.length) (c, b)).1 (setlR l (pick c d c.length) (c, b)).2 (d.set (pick c d c.length).toNat true) ∧ k - 1 < k ∧
      0 ≤ pick c d c.length ∧ pick c d c.length < st ∧ c.getD (pick c d c.length).toNat 0 ≠ -1 ∧ SB st (1000000000 * (203 - k)) (pick c d c.length) (c.getD (pick c d c.length).toNat 0) (c, b) ∧ c.getD (pick c d c.length).toNat 0 ≤ 1000000000 * (203 - k) := by
  obtain ⟨k', rfl⟩ := h.k1
  have hlen := h.bd.len
  have hlend := h.lend
  rcases pick_spec c d c.length (Nat.le_refl _) with ⟨h1, _⟩ | ⟨h1, h2, h3, h4, h5⟩
  · exact absurd h1 hp
  · have hlt : pick c d c.length < st := by omega
    have hb := h.bd.at h1 hlt
    have kk := h.kk
    have sb : SB st (1000000000 * (203 - (k' + 1 : Nat))) (pick c d c.length) (c.getD (pick c d c.length).toNat 0) (c, b) :=
      ⟨⟨hlen, fun v hv => by have := h.bd.bd v hv; omega⟩, rfl, h.lenb⟩
    have sb2 := sb.fold h1 hlt h4 hb.2 l hl
    have heq := h.eq
    simp only [setl, if_neg hp] at heq
    refine ⟨⟨by omega, ⟨sb2.bd.len, fun v hv => ?_⟩, sb2.lenb, by simp [hlend], ?_, ?_⟩, by omega, h1, hlt, h4, sb, hb.2⟩
    · have := sb2.bd.bd v hv
      simp only [Nat.add_sub_cancel]
      omega
    · simpa using heq
    · have := h.cnt
      rw [(count_set d _ (by omega) h3).1]
      omega

theorem SI.start {st : Int} (hst : 1 ≤ st ∧ st ≤ 200) {l : List Arc} {c : List Int} (hc : Bd st 1000000000 c) : SI st l.zipIdx (settled l c.length c) (c.length + 1) c (List.replicate c.length (-1)) (List.replicate c.length false) := by
  have := hc.len
  refine ⟨by omega, ⟨hc.len, fun v hv => ?_⟩, by simp [hc.len], by simp [hc.len], rfl, by omega⟩
  have := hc.bd v hv
  omega

end Go.Fw

namespace Go.Fw
open Go Go.Proofs

end Go.Fw

namespace Go.Fw
open Go Go.Proofs

def aheadS (F : TF) : List Int × List Int := settled (F.arcs.map id) F.st.toNat (begun F)
def onS (F : TF) : List Int × List Int := settled (F.arcs.map swap) F.st.toNat F.fin

end Go.Fw

/-
  Weights pushed ahead, in the plain.
-/
namespace Go.Fw
open Go

def pushA (D : List Int) (a : Arc) : Option Arc :=
  if D.getD a.f.toNat 0 = -1 ∨ D.getD a.t.toNat 0 = -1 then none else some ⟨a.f, a.i, a.o, a.t, a.w + (D.getD a.t.toNat 0 - D.getD a.f.toNat 0)⟩
def pushL (D : List Int) (l : List Arc) : List Arc := l.filterMap (pushA D)
def pushV (D fin : List Int) (k n : Nat) : Int := if n < k ∧ fin.getD n 0 ≠ -1 then fin.getD n 0 - D.getD n 0 else fin.getD n 0
def pushF (D fin : List Int) (k : Nat) : List Int := (List.range fin.length).map (pushV D fin k)
def pushBig (l : List Arc) : Bool := l.any fun a => decide (a.w > 1000000000)

theorem pushF_getD (D fin : List Int) (k n : Nat) (h : n < fin.length) : (pushF D fin k).getD n 0 = pushV D fin k n := by simp [pushF, List.getD, h]
end Go.Fw

namespace Go.Fw
open Go Go.Proofs

/-- A transducer's cells, its lists wherever. -/
def cellsF (F : TF) (i j : Nat) (lf cf la ca : Nat) : List SC := [.i F.st, .i F.start, .sl i 1 0 lf cf, .sl j 5 0 la ca]

end Go.Fw

namespace Go.Fw
open Go Go.Proofs

end Go.Fw

namespace Go.Fw
open Go Go.Proofs

/-- What pushing answers. -/
def PushPost (F : TF) (v : SV) (s : S) : Prop :=
  if (toOf F).getD F.start.toNat 0 = -1 then ∃ sp, v = .tup [.agg [.i F.st, .i F.start, .sl 2 1 0 F.fin.length (F.fin.length + sp), .v (.slice none 0 0)], .c (.i (-1)), .c (.i 0)] ∧ s = ⟨[], [(2, .arr true 3 .int F.fin sp)], 3⟩
  else if pushBig (pushL (toOf F) F.arcs) = true then v = .tup [.agg [.i 0, .i 0, .v (.slice none 0 0), .v (.slice none 0 0)], .c (.i 0), .c (.i 2)] ∧ s = ⟨[], [], 2⟩
  else ∃ sp sp', v = .tup [.agg [.i F.st, .i F.start, .sl 2 1 0 F.fin.length (F.fin.length + sp), .sl 3 5 0 (pushL (toOf F) F.arcs).length ((pushL (toOf F) F.arcs).length + sp')], .c (.i ((toOf F).getD F.start.toNat 0)), .c (.i 0)] ∧
      s = ⟨[], [(2, .arr true 3 .int (pushF (toOf F) F.fin F.fin.length) sp), (3, .arr true 35 .arc (pushL (toOf F) F.arcs) sp')], 4⟩

/-- A transducer of which nothing is told. -/
def zeroF : TF := ⟨0, 0, [], [], 0, 0⟩

end Go.Fw

/-
  Settling: by which arc each state was come to.
-/
namespace Go.Fw
open Go

/-- How a state was come to. -/
def Come (l : List Arc) (c0 c b : List Int) (P : Arc → Prop) (v : Nat) : Prop :=
  (b.getD v (-1) = -1 ∧ c.getD v 0 = c0.getD v 0) ∨ ∃ (i : Nat) (a : Arc), b.getD v (-1) = (i : Int) ∧ l[i]? = some a ∧ a.t.toNat = v ∧ c.getD v 0 = c.getD a.f.toNat 0 + a.w ∧ P a

structure DB (l : List Arc) (c0 c b : List Int) (d : List Bool) (rk : Nat → Nat) : Prop where
  r1 : ∀ v, d.getD v false = true → rk v < d.count true
  b1 : ∀ v, v < c0.length → Come l c0 c b (fun a => d.getD a.f.toNat false = true ∧ (d.getD v false = true → rk a.f.toNat < rk v)) v

def DC (l : List Arc) (c0 c' b' : List Int) (d : List Bool) (rk : Nat → Nat) (u : Nat) : Prop :=
  ∀ v, v < c0.length → Come l c0 c' b' (fun a => (d.getD a.f.toNat false = true ∨ a.f.toNat = u) ∧ (d.getD v false = true → d.getD a.f.toNat false = true ∧ rk a.f.toNat < rk v) ∧ (v = u → d.getD a.f.toNat false = true)) v

theorem DC.step {l : List Arc} {st : Int} {c0 c b : List Int} {d : List Bool} {rk : Nat → Nat} {u : Nat} {m : List (Arc × Nat)} {c' b' : List Int} (h : DI l c0 c b d) (hl : ∀ a ∈ l, ArcOk st a) (hn : (c0.length : Int) = st)
    (hul : u < c0.length) (hud : d.getD u false = false) (huc : c.getD u 0 ≠ -1) (hj : DJ l c0 c b d u m c' b') {p : Arc × Nat} (hp : l[p.2]? = some p.1) (hc : DC l c0 c' b' d rk u) :
    DC l c0 (setlS (u : Int) (c', b') p).1 (setlS (u : Int) (c', b') p).2 d rk u := by
  have ha := hl p.1 (List.mem_of_getElem? hp)
  have hu0 := h.low u hul
  have w0 := ha.w0
  have htl : p.1.t.toNat < c0.length := by have := ha.t0; have := ha.t1; omega
  have hat := hj.at_
  unfold setlS
  simp only [Int.toNat_natCast]
  by_cases hb : p.1.f = (u : Int) ∧ better (c'.getD u 0 + p.1.w) (c'.getD p.1.t.toNat 0) = true
  · rw [if_pos hb]
    obtain ⟨hf, hb⟩ := hb
    rw [better_iff, hat] at hb
    have htu : p.1.t.toNat ≠ u := by
      intro e
      rw [e, hat] at hb
      omega
    have htd : d.getD p.1.t.toNat false = false := by
      cases hx : d.getD p.1.t.toNat false with
      | false => rfl
      | true =>
        have h1 := h.ord _ u hx hul hud huc
        have h2 := hj.done _ hx
        have h3 := h.fin _ hx
        rw [h2] at hb
        omega
    have hg : ∀ v, (c'.set p.1.t.toNat (c'.getD u 0 + p.1.w)).getD v 0 = if p.1.t.toNat = v ∧ v < c'.length then c.getD u 0 + p.1.w else c'.getD v 0 := fun v => by rw [getD_set, hat]
    have hgb : ∀ v, (b'.set p.1.t.toNat (p.2 : Int)).getD v (-1) = if p.1.t.toNat = v ∧ v < b'.length then (p.2 : Int) else b'.getD v (-1) := fun v => getD_set _ _ _ _ _
    intro v hv
    unfold Come
    by_cases e : p.1.t.toNat = v
    · subst e
      right
      have hfu : p.1.f.toNat = u := by omega
      refine ⟨p.2, p.1, ?_, hp, rfl, ?_, .inr hfu, ?_, ?_⟩
      · simp only [hgb]; rw [if_pos ⟨trivial, by rw [hj.lenb]; exact hv⟩]
      · simp only [hg]
        rw [if_pos ⟨trivial, by rw [hj.len]; exact hv⟩, hfu, if_neg (fun hh => htu hh.1), hat]
      · intro hx; rw [htd] at hx; cases hx
      · intro hx; exact absurd hx htu
    · rcases hc v hv with ⟨h1, h2⟩ | ⟨i, a, h1, h2, h3, h4, h5, h6, h7⟩
      · left
        simp only [hg, hgb]
        rw [if_neg (fun hh => e hh.1), if_neg (fun hh => e hh.1)]
        exact ⟨h1, h2⟩
      · right
        refine ⟨i, a, ?_, h2, h3, ?_, h5, h6, h7⟩
        · simp only [hgb]; rw [if_neg (fun hh => e hh.1)]; exact h1
        · simp only [hg]
          rw [if_neg (fun hh => e hh.1), h4]
          have : ¬ (p.1.t.toNat = a.f.toNat) := by
            intro hx
            rcases h5 with h5 | h5
            · rw [← hx, htd] at h5; cases h5
            · exact htu (hx.trans h5)
          rw [if_neg (fun hh => this hh.1)]
  · rw [if_neg hb]
    exact hc

theorem DC.fold {l : List Arc} {st : Int} {c0 c b : List Int} {d : List Bool} {rk : Nat → Nat} {u : Nat} (h : DI l c0 c b d) (hl : ∀ a ∈ l, ArcOk st a) (hn : (c0.length : Int) = st) (hul : u < c0.length) (hud : d.getD u false = false) (huc : c.getD u 0 ≠ -1) :
    ∀ (r m : List (Arc × Nat)) (c' b' : List Int), (∀ p ∈ r, l[p.2]? = some p.1) → DJ l c0 c b d u m c' b' → DC l c0 c' b' d rk u → DC l c0 (setlR r (u : Int) (c', b')).1 (setlR r (u : Int) (c', b')).2 d rk u
  | [], m, c', b', _, _, hc => hc
  | p :: r, m, c', b', hr, hj, hc => by
    have hp := hr p (by simp)
    have h1 := hj.step h hl hn hul hud huc (p := p) (List.mem_of_getElem? hp)
    exact DC.fold h hl hn hul hud huc r _ _ _ (fun q hq => hr q (by simp [hq])) h1 (hc.step h hl hn hul hud huc hj hp)

theorem DB.next {l : List Arc} {st : Int} {c0 c b : List Int} {d : List Bool} {rk : Nat → Nat} {u : Nat} (h : DI l c0 c b d) (hb : DB l c0 c b d rk) (hl : ∀ a ∈ l, ArcOk st a) (hn : (c0.length : Int) = st) (hul : u < c0.length) (hud : d.getD u false = false) (huc : c.getD u 0 ≠ -1)
    (hu : ∀ v, v < c.length → d.getD v false = false → c.getD v 0 ≠ -1 → c.getD u 0 ≤ c.getD v 0) {r : List (Arc × Nat)} (hr2 : ∀ p ∈ r, l[p.2]? = some p.1) :
    DB l c0 (setlR r (u : Int) (c, b)).1 (setlR r (u : Int) (c, b)).2 (d.set u true) (fun v => if v = u then d.count true else rk v) := by
  have hj0 := DJ.start h hu
  have hj := DJ.fold h hl hn hul hud huc r [] c b (fun p hp => List.mem_of_getElem? (hr2 p hp)) hj0
  have hc := DC.fold (rk := rk) h hl hn hul hud huc r [] c b hr2 hj0 (by
    intro v hv
    rcases hb.b1 v hv with h1 | ⟨i, a, h1, h2, h3, h4, h5, h6⟩
    · exact .inl h1
    · exact .inr ⟨i, a, h1, h2, h3, h4, .inl h5, fun hx => ⟨h5, h6 hx⟩, fun _ => h5⟩)
  have hdl := h.lend
  have hg : ∀ v, (d.set u true).getD v false = if u = v ∧ v < d.length then true else d.getD v false := fun v => getD_set _ _ _ _ _
  have hcnt := (count_set d u (by omega) hud).1
  have hset : ∀ v, (d.set u true).getD v false = true → v = u ∨ d.getD v false = true := by
    intro v hv
    rw [hg] at hv
    split at hv
    · rename_i hh; exact .inl hh.1.symm
    · exact .inr hv
  have hset2 : ∀ v, (d.getD v false = true ∨ v = u) → (d.set u true).getD v false = true := by
    intro v hv
    rw [hg]
    split
    · rfl
    · rename_i hh
      rcases hv with hv | rfl
      · exact hv
      · exact absurd ⟨rfl, by omega⟩ hh
  constructor
  · intro v hv
    rw [hcnt]
    rcases hset v hv with rfl | hv
    · simp
    · by_cases e : v = u
      · simp [e]
      · simp only [if_neg e]; have := hb.r1 v hv; omega
  · intro v hv
    rcases hc v hv with h1 | ⟨i, a, h1, h2, h3, h4, h5, h6, h7⟩
    · exact .inl h1
    · refine .inr ⟨i, a, h1, h2, h3, h4, hset2 _ h5, fun hx => ?_⟩
      rcases hset v hx with e | hx
      · have h8 := h7 e
        have hne : a.f.toNat ≠ u := fun e2 => by rw [e2, hud] at h8; cases h8
        simp only [if_neg hne, if_pos e]
        exact hb.r1 _ h8
      · obtain ⟨h8, h9⟩ := h6 hx
        have hne : a.f.toNat ≠ u := fun e2 => by rw [e2, hud] at h8; cases h8
        have hne2 : v ≠ u := fun e2 => by rw [e2, hud] at hx; cases hx
        simp only [if_neg hne, if_neg hne2]
        exact h9

/-- At the end: how each was come to, and that no way goes round. -/
def ByOk (l : List Arc) (c0 c b : List Int) : Prop :=
  ∃ rk : Nat → Nat, (∀ v, v < c0.length → c.getD v 0 ≠ -1 → rk v < c0.length) ∧ ∀ v, v < c0.length → Come l c0 c b (fun a => c.getD v 0 ≠ -1 ∧ c.getD a.f.toNat 0 ≠ -1 ∧ rk a.f.toNat < rk v) v

/-- The way back. -/
def wayB (arcs : List Arc) (b : List Int) : Nat → Int → List Int
  | 0, _ => []
  | k + 1, v => if 0 ≤ v ∧ 0 ≤ b.getD v.toNat (-1) then b.getD v.toNat (-1) :: wayB arcs b k ((arcs.getD (b.getD v.toNat (-1)).toNat EK.arc.dflt).f) else []

/-- The best of all ends. -/
def bestF (c fin : List Int) : Nat → Int × Int
  | 0 => (-1, -1)
  | k + 1 => if fin.getD k 0 ≠ -1 ∧ c.getD k 0 ≠ -1 ∧ better (c.getD k 0 + fin.getD k 0) (bestF c fin k).2 = true then ((k : Int), c.getD k 0 + fin.getD k 0) else bestF c fin k

end Go.Fw

namespace Go.Fw
open Go Go.Proofs

/-- Turned round so far. -/
def revS (l : List Int) (k i : Nat) : Int := if i < k ∨ l.length ≤ i + k then l.getD (l.length - 1 - i) 0 else l.getD i 0
def revF (l : List Int) (k : Nat) : List Int := (List.range l.length).map (revS l k)

theorem revF_len (l : List Int) (k : Nat) : (revF l k).length = l.length := by simp [revF]
theorem revF_zero (l : List Int) : revF l 0 = l := by
  apply List.ext_getElem (by simp [revF])
  intro i h1 h2
  simp [revF, revS, List.getD, h2]
  intro h3
  omega
theorem revF_end (l : List Int) (k : Nat) (h : l.length ≤ 2 * k + 1) : revF l k = l.reverse := by
  apply List.ext_getElem (by simp [revF])
  intro i h1 h2
  simp only [List.length_reverse] at h2
  have h3 : l.length - 1 - i < l.length := by omega
  simp only [revF, List.getElem_map, List.getElem_range, revS, List.getElem_reverse]
  by_cases h4 : i < k ∨ l.length ≤ i + k
  · rw [if_pos h4]; simp [List.getD, h3]
  · rw [if_neg h4]
    have e : l.length - 1 - i = i := by omega
    simp [List.getD, h2, e]
theorem revF_getD (l : List Int) (k i : Nat) (h : i < l.length) : (revF l k).getD i 0 = revS l k i := by simp [revF, List.getD, h]
theorem revF_step (l : List Int) (k : Nat) (h : 2 * k + 1 < l.length) : revF l (k + 1) = ((revF l k).set k ((revF l k).getD (l.length - 1 - k) 0)).set (l.length - 1 - k) ((revF l k).getD k 0) := by
  apply List.ext_getElem (by simp [revF])
  intro i h1 h2
  have h2' := h2
  simp only [List.length_set, revF_len] at h2'
  simp only [revF_getD l k (l.length - 1 - k) (by omega), revF_getD l k k (by omega)]
  simp only [List.getElem_set]
  simp only [revF, List.getElem_map, List.getElem_range, revS]
  by_cases e1 : l.length - 1 - k = i
  · rw [if_pos e1, if_pos (by omega), if_neg (by omega)]
    congr 1; omega
  · rw [if_neg e1]
    by_cases e2 : k = i
    · rw [if_pos e2, if_pos (by omega), if_neg (by omega)]
      congr 1; omega
    · rw [if_neg e2]
      by_cases h4 : i < k ∨ l.length ≤ i + k
      · rw [if_pos h4, if_pos (by omega)]
      · rw [if_neg h4, if_neg (by omega)]

set_option maxHeartbeats 4000000 in
set_option maxRecDepth 20000 in
theorem reverse_c (l : List Int) (cap sp : Nat) (hl : l.length ≤ 1000000) : Ct Tryd.prog 22 [.c (.sl 0 1 0 l.length cap)] [] [(0, .arr true 3 .int l sp)] 1 (fun v s => v = .u ∧ s = ⟨[], [(0, .arr true 3 .int l.reverse sp)], 1⟩) := by
  refine ctW Tryd.tyOk 4 [] Tryd.func22 rfl (by simp) (by simp) (fr := [(0, .c (.sl 0 1 0 l.length cap))]) rfl ?_
  repeat' (first | exact rfl | ((conv => whnf); first | (refine qX (fun h => ?_) fun h => ?_ <;> try exact absurd h (by omega)) | refine oN ?_ | refine oM ?_ ?_ | refine bM ?_ ?_ | refine dR ?_))
  (conv => whnf)
  refine loopI (fun k : Nat => ⟨[(0, .c (.sl 0 1 0 l.length cap)), (2, .i k), (3, .i ((l.length : Int) - 1 - k))], [(0, .arr true 3 .int (revF l k) sp)], 1⟩) (fun k => k ≤ l.length) (fun k => l.length - k) 0 [] ⟨by rfl, ?_, ?_⟩ (by omega) ?_
  · simp
  · simp [revF_zero]
  · intro k hk
    have hrl := revF_len l k
    have hst := revF_step l k
    have hen := revF_end l k
    have e1 : ((l.length : Int) - 1 - k).toNat = l.length - 1 - k := by omega
    repeat' (first | exact rfl | ((conv => whnf); first | (refine qX (fun h => ?_) fun h => ?_ <;> try exact absurd h (by omega)) | refine oN ?_ | refine oM ?_ ?_ | refine bM ?_ ?_ | refine dR ?_))
    · replace hst := hst (by omega)
      (conv => whnf)
      refine ⟨k + 1, [], ⟨by rfl, ?_, ?_⟩, by omega, by omega⟩
      · simp
        omega
      · simp
        rw [hst]
        simp [e1, EK.dflt]
    · (conv => whnf)
      exact ⟨[], [(0, .arr true 3 .int l.reverse sp)], 1, .u, ⟨by rfl, trivial, by simp [hen]; exact (hen (by omega)).symm⟩, by simp, rfl, rfl⟩
end Go.Fw

namespace Go.Fw
open Go Go.Proofs

/-- The best way of all: its end, what it costs, its arcs. -/
def bestE (F : TF) : Int × Int := bestF (aheadS F).1 F.fin F.fin.length
def bestW (F : TF) : List Int := (wayB F.arcs (aheadS F).2 F.st.toNat (bestE F).1).reverse

end Go.Fw

namespace Go.Fw
open Go Go.Proofs

def oneT : TF := ⟨2, 0, [-1, 1], [⟨0, 1, 2, 1, 5⟩], 2, 1⟩

end Go.Fw

namespace Go.Fw
open Go Go.Proofs

theorem word1_c (x : Int) : Ct Tryd.prog 48 [.i x] [] [] 0 (Is 0 (.b (!decide (1 ≤ x ∧ x ≤ 9)))) := by
  refine ctW Tryd.tyOk 9 [] Tryd.func48 rfl (by simp) (by simp) (fr := [(0, .i x)]) rfl ?_
  repeat' (first | exact rfl | ((conv => whnf); first | (refine qX (fun h => ?_) fun h => ?_ <;> try exact absurd h (by omega)) | refine oN ?_ | refine oM ?_ ?_ | refine bM ?_ ?_ | refine dR ?_))
  all_goals refine Back.is ?_
  all_goals simp only [eqV, eqA, eqC]
  · simp; omega
  · have e : decide (1 ≤ x ∧ x ≤ 9) = decide (x ≤ 9) := by simp; omega
    rw [e]
    by_cases h9 : x ≤ 9
    · rw [decide_eq_true h9]; simp; omega
    · rw [decide_eq_false h9]; simp; omega

theorem wordE_any (l : List Int) (h : l.length ≤ 40) : wordE l = if l.any (fun x => !decide (1 ≤ x ∧ x ≤ 9)) = true then 3 else 0 := by
  unfold wordE
  rw [if_neg (by omega)]
  by_cases e : ∀ n ∈ l, 1 ≤ n ∧ n ≤ 9
  · rw [if_pos e, if_neg]
    simp only [List.any_eq_true, not_exists, not_and]
    intro x hx
    simp [e x hx]
  · rw [if_neg e, if_pos]
    simp only [List.any_eq_true]
    obtain ⟨n, h1, h2⟩ : ∃ n, n ∈ l ∧ ¬(1 ≤ n ∧ n ≤ 9) := by
      apply Classical.byContradiction
      intro c
      exact e (fun n hn => Classical.byContradiction fun c2 => c ⟨n, hn, c2⟩)
    exact ⟨n, h1, by rw [decide_eq_false h2]; rfl⟩

theorem word_c (l : List Int) (cap : Nat) : Ct Tryd.prog 24 [.c (.sl 0 1 0 l.length cap)] [] [(0, .arr false 3 .int l 0)] 1 (Is 1 (.i (wordE l))) := by
  refine ctW Tryd.tyOk 10 [] Tryd.func24 rfl (by simp) (by simp) (fr := [(0, .c (.sl 0 1 0 l.length cap))]) rfl ?_
  repeat' (first | exact rfl | ((conv => whnf); first | (refine qX (fun h => ?_) fun h => ?_ <;> try exact absurd h (by omega)) | refine oN ?_ | refine oM ?_ ?_ | refine bM ?_ ?_ | refine dR ?_))
  · refine Back.is ?_
    simp only [eqV, eqA, eqC, wordE]
    rw [if_pos (by omega)]
  · refine cI (containsFunc_c l cap (by omega) 48 _ word1_c Tryd.call48) [0] Tryd.call35 ?_
    rw [wordE_any l (by omega)]
    repeat' (first | exact rfl | ((conv => whnf); first | (refine qX (fun h => ?_) fun h => ?_ <;> try exact absurd h (by omega)) | refine oN ?_ | refine oM ?_ ?_ | refine bM ?_ ?_ | refine dR ?_))
    · refine Back.is ?_
      simp only [eqV, eqA, eqC]
      rw [if_pos h]
    · refine Back.is ?_
      simp only [eqV, eqA, eqC]
      rw [h]
      rfl

/-- Does a letter stand there, and how far does it go? -/
def fitE (l : List Int) (p x : Int) : Int × Bool := if x = 0 then (p, true) else (p + 1, decide (p < l.length ∧ l.getD p.toNat 0 = x))

set_option maxRecDepth 20000 in
theorem fits_c (l : List Int) (cap : Nat) (p x : Int) (hl : l.length ≤ 40) (hp : 0 ≤ p ∧ p ≤ l.length) : Ct Tryd.prog 74 [.c (.sl 0 1 0 l.length cap), .i p, .i x] [] [(0, .arr false 3 .int l 0)] 1 (Is 1 (.tup [.c (.i (fitE l p x).1), .c (.b (fitE l p x).2)])) := by
  have e1 : l.getD (0 + p.toNat) EK.int.dflt = l.getD p.toNat 0 := by rw [Nat.zero_add]; rfl
  refine ctW Tryd.tyOk 8 [] Tryd.func74 rfl (by simp) (by simp) (fr := [(0, .c (.sl 0 1 0 l.length cap)), (1, .i p), (2, .i x)]) rfl ?_
  repeat' (first | exact rfl | ((conv => whnf); first | (refine qX (fun h => ?_) fun h => ?_ <;> try exact absurd h (by omega)) | refine oN ?_ | refine oM ?_ ?_ | refine bM ?_ ?_ | refine dR ?_))
  all_goals refine Back.is ?_
  all_goals simp only [eqV, eqA, eqAs, eqC, fitE]
  · simp [h]
  · rename_i hx
    rw [if_neg hx, e1]
    refine ⟨rfl, ?_, trivial⟩
    by_cases e : l.getD p.toNat 0 = x
    · rw [decide_eq_true ⟨h, e⟩, e]; simp
    · rw [decide_eq_false (fun c => e c.2)]
      exact (beq_eq_false_iff_ne.2 e).symm
  · rename_i hx
    rw [if_neg hx]
    refine ⟨rfl, ?_, trivial⟩
    exact decide_eq_false (fun c => h c.1)

/-- Two lists by their first difference. -/
def cmpL : List Int → List Int → Int
  | [], [] => 0
  | [], _ => -1
  | _ :: _, [] => 1
  | a :: l, b :: m => if cmpI a b ≠ 0 then cmpI a b else cmpL l m

theorem drop_getD (l : List Int) (k : Nat) (h : k < l.length) : l.drop k = l.getD k 0 :: l.drop (k + 1) := by
  rw [List.drop_eq_getElem_cons h]
  simp [List.getD, h]

set_option maxHeartbeats 2000000 in
set_option maxRecDepth 20000 in
theorem compareL_c (a b : List Int) (ca cb : Nat) (ha : a.length ≤ 9223372036854775807) : Ct Tryd.prog 90 [.c (.sl 0 1 0 a.length ca), .c (.sl 1 1 0 b.length cb)] [] [(0, .arr false 3 .int a 0), (1, .arr false 3 .int b 0)] 2 (Is 2 (.i (cmpL a b))) := by
  refine ctW Tryd.tyOk 9 [9, 10, 11] Tryd.func90 rfl (by simp) (by simp) (fr := [(0, .c (.sl 0 1 0 a.length ca)), (1, .c (.sl 1 1 0 b.length cb))]) rfl ?_
  repeat' (first | exact rfl | ((conv => whnf); first | (refine qX (fun h => ?_) fun h => ?_ <;> try exact absurd h (by omega)) | refine oN ?_ | refine oM ?_ ?_ | refine bM ?_ ?_ | refine dR ?_))
  (conv => whnf)
  refine loopI (fun k : Nat => ⟨[(0, .c (.sl 0 1 0 a.length ca)), (1, .c (.sl 1 1 0 b.length cb)), (4, .i 0), (9, .c (.sl 0 1 0 a.length ca)), (10, .i a.length), (11, .i k)], [(0, .arr false 3 .int a 0), (1, .arr false 3 .int b 0)], 2⟩) (fun k => k ≤ a.length ∧ k ≤ b.length ∧ cmpL a b = cmpL (a.drop k) (b.drop k)) (fun k => a.length - k) 0 [] ⟨by rfl, ?_, ?_⟩ (by simp) ?_
  · simp
  · simp
  · intro k ⟨hk1, hk2, hk3⟩
    have e1 : a.getD (0 + (k : Int).toNat) EK.int.dflt = a.getD k 0 := by rw [Nat.zero_add, Int.toNat_natCast]; rfl
    have e2 : b.getD (0 + (k : Int).toNat) EK.int.dflt = b.getD k 0 := by rw [Nat.zero_add, Int.toNat_natCast]; rfl
    repeat' (first | exact rfl | ((conv => whnf); first | (refine qX (fun h => ?_) fun h => ?_ <;> try exact absurd h (by omega)) | refine oN ?_ | refine oM ?_ ?_ | refine bM ?_ ?_ | refine dR ?_))
    · refine Back.is ?_
      simp only [eqV, eqA, eqC]
      have : b.length ≤ k := by omega
      rw [hk3, drop_getD a k (by omega), List.drop_eq_nil_of_le this]
      rfl
    · (conv => whnf)
      refine cI (compare_c (a.getD (0 + (k : Int).toNat) EK.int.dflt) (b.getD (0 + (k : Int).toNat) EK.int.dflt)) [] Tryd.call56 ?_
      rw [e1, e2]
      rw [drop_getD a k (by omega), drop_getD b k (by omega), cmpL] at hk3
      generalize hc : cmpI (a.getD k 0) (b.getD k 0) = c at *
      repeat' (first | exact rfl | ((conv => whnf); first | (refine qX (fun h => ?_) fun h => ?_ <;> try exact absurd h (by omega)) | refine oN ?_ | refine oM ?_ ?_ | refine bM ?_ ?_ | refine dR ?_))
      · refine Back.is ?_
        simp only [eqV, eqA, eqC]
        rw [hk3, if_pos (by omega)]
      · (conv => whnf)
        rw [if_neg (by omega)] at hk3
        refine ⟨k + 1, [], ⟨by rfl, ?_, ?_⟩, ⟨by omega, by omega, hk3⟩, by omega⟩
        · simp
        · simp
    · refine Back.is ?_
      simp only [eqV, eqA, eqC]
      rw [hk3, List.drop_eq_nil_of_le (by omega), drop_getD b k (by omega)]
      rfl
    · refine Back.is ?_
      simp only [eqV, eqA, eqC]
      rw [hk3, List.drop_eq_nil_of_le (by omega), List.drop_eq_nil_of_le (by omega)]
      rfl

/-- An order of spots: how much was read, how much was written, the state. -/
def spotLt (x y : Trip) : Bool := decide (cmpL [x.b, x.c, x.a] [y.b, y.c, y.a] < 0)

set_option maxHeartbeats 2000000 in
set_option maxRecDepth 20000 in
theorem spot_c (x y : Trip) : Ct Tryd.prog 73 [SV.a (SA.agg [SC.i (Trip.a x), SC.i (Trip.b x), SC.i (Trip.c x)]), SV.a (SA.agg [SC.i (Trip.a y), SC.i (Trip.b y), SC.i (Trip.c y)])] [] [] 0 (Is 0 (.b (spotLt x y))) := by
  refine ctW Tryd.tyOk 5 [] Tryd.func73 rfl (by simp) (by simp) (fr := [(0, SV.a (SA.agg [SC.i (Trip.a x), SC.i (Trip.b x), SC.i (Trip.c x)])), (1, SV.a (SA.agg [SC.i (Trip.a y), SC.i (Trip.b y), SC.i (Trip.c y)]))]) rfl ?_
  (conv => whnf)
  refine cI (compareL_c [x.b, x.c, x.a] [y.b, y.c, y.a] 3 3 (by simp)) [2, 3] Tryd.call90 ?_
  repeat' (first | exact rfl | ((conv => whnf); first | (refine qX (fun h => ?_) fun h => ?_ <;> try exact absurd h (by omega)) | refine oN ?_ | refine oM ?_ ?_ | refine bM ?_ ?_ | refine dR ?_))
  refine Back.is ?_
  simp only [eqV, eqA, eqC, spotLt]
end Go.Fw

namespace Go.Fw
open Go Go.Proofs

/-- The walker as it stands: 0 itself, 1 final, 2 arcs, 3 in, 4 out, 5 numbers of arcs, 6 their rows, 7 the map, 8 what it holds. -/
structure Wk where
  F : TF
  u : List Int
  v : List Int
  cu : Nat
  cv : Nat
  rows : List Sli
  pi : List (Addr × List Int × Nat)
  es : List (Trip × Option Addr × Nat)
  clk : Nat
  pf : List (Addr × List Fnd × Nat)

def wkCells (W : Wk) : List SC := [.i W.F.st, .i W.F.start, .sl 1 1 0 W.F.fin.length W.F.capF, .sl 2 5 0 W.F.arcs.length W.F.capA, .sl 3 1 0 W.u.length W.cu, .sl 4 1 0 W.v.length W.cv, .sl 5 1 0 W.rows.length W.rows.length, .mp 7]

abbrev hpL (W : Wk) (es : List (Trip × Option Addr × Nat)) (clk : Nat) (pf : List (Addr × List Fnd × Nat)) : List (Nat × SO) := [(0, .box 58 [.i W.F.st, .i W.F.start, .sl 1 1 0 W.F.fin.length W.F.capF, .sl 2 5 0 W.F.arcs.length W.F.capA, .sl 3 1 0 W.u.length W.cu, .sl 4 1 0 W.v.length W.cv, .sl 5 1 0 W.rows.length W.rows.length, .mp 7]), (1, .arr false 3 .int W.F.fin 0), (2, .arr false 35 .arc W.F.arcs 0), (3, .arr false 3 .int W.u 0), (4, .arr false 3 .int W.v 0),
  (5, .arr true 22 .sli W.rows 0), (6, .pool 3 .int W.pi), (7, .map .trip .adr es clk), (8, .pool 60 .fnd pf)]
abbrev hpW (W : Wk) : List (Nat × SO) := hpL W W.es W.clk W.pf

/-- The map is in order. -/
structure MetOk (es : List (Trip × Option Addr × Nat)) (clk : Nat) (pf : List (Addr × List Fnd × Nat)) : Prop where
  born : BornOk es clk
  keys : (es.map (·.1)).Nodup
  adrs : (es.map (·.2.1)).Nodup
  row : ∀ e ∈ es, ∃ a f, e.2.1 = some a ∧ lkA pf a = some ([f], 0)

/-- What the map holds at a spot. -/
def metOf (es : List (Trip × Option Addr × Nat)) (pf : List (Addr × List Fnd × Nat)) (x : Trip) : Option Fnd := (lkM es x).bind fun oa => (rowA pf oa).head?

theorem lkM_mem {es : List (Trip × Option Addr × Nat)} (hk : (es.map (·.1)).Nodup) {e : Trip × Option Addr × Nat} (he : e ∈ es) : lkM es e.1 = some e.2.1 := by
  induction es with
  | nil => cases he
  | cons c es ih =>
    obtain ⟨x, y, n⟩ := c
    simp only [lkM]
    rcases List.mem_cons.1 he with rfl | h
    · simp
    · simp only [List.map_cons, List.nodup_cons] at hk
      rw [if_neg (fun c => hk.1 (by rw [c]; exact List.mem_map_of_mem h)), ih hk.2 h]

theorem lkM_some {es : List (Trip × Option Addr × Nat)} {x : Trip} {oa : Option Addr} (h : lkM es x = some oa) : ∃ n, (x, oa, n) ∈ es := by
  induction es with
  | nil => cases h
  | cons c es ih =>
    obtain ⟨y, b, n⟩ := c
    simp only [lkM] at h
    split at h
    · rename_i e
      cases h
      exact ⟨n, by rw [e]; exact List.mem_cons_self ..⟩
    · obtain ⟨n, h⟩ := ih h
      exact ⟨n, List.mem_cons_of_mem _ h⟩

theorem MetOk.at {es : List (Trip × Option Addr × Nat)} {clk : Nat} {pf : List (Addr × List Fnd × Nat)} (h : MetOk es clk pf) {e : Trip × Option Addr × Nat} (he : e ∈ es) : ∃ a f, e.2.1 = some a ∧ lkA pf a = some ([f], 0) ∧ lkM es e.1 = some (some a) ∧ rowA pf (some a) = [f] ∧ metOf es pf e.1 = some f := by
  obtain ⟨a, f, h1, h2⟩ := h.row e he
  have h3 := lkM_mem h.keys he
  rw [h1] at h3
  have h4 : rowA pf (some a) = [f] := by simp [rowA, h2]
  exact ⟨a, f, h1, h2, h3, h4, by simp [metOf, h3, h4]⟩

theorem MetOk.of {es : List (Trip × Option Addr × Nat)} {clk : Nat} {pf : List (Addr × List Fnd × Nat)} (h : MetOk es clk pf) {x : Trip} {f : Fnd} (hx : metOf es pf x = some f) : ∃ a n, (x, some a, n) ∈ es ∧ lkA pf a = some ([f], 0) ∧ lkM es x = some (some a) ∧ rowA pf (some a) = [f] := by
  unfold metOf at hx
  cases hl : lkM es x with
  | none => rw [hl] at hx; cases hx
  | some oa =>
    obtain ⟨n, hn⟩ := lkM_some hl
    obtain ⟨a, g, h1, h2, h3, h4, h5⟩ := h.at hn
    simp only at h1
    subst h1
    rw [hl] at hx
    simp only [Option.bind_some, h4, List.head?_cons, Option.some.injEq] at hx
    subst hx
    exact ⟨a, n, hn, h2, rfl, h4⟩

/-- The best so far of those that were seen. -/
def Nst (es : List (Trip × Option Addr × Nat)) (pf : List (Addr × List Fnd × Nat)) (seen : List Nat) (best : Trip) (any : Bool) : Prop :=
  (any = false ∧ ∀ e ∈ es, e.2.2 ∈ seen → ∀ f, metOf es pf e.1 = some f → f.dn = true) ∨
  (any = true ∧ ∃ g, metOf es pf best = some g ∧ g.dn = false ∧ ∀ e ∈ es, e.2.2 ∈ seen → ∀ f, metOf es pf e.1 = some f → f.dn = false → g.cost ≤ f.cost)

/-- What is left to be seen. -/
def left (es : List (Trip × Option Addr × Nat)) (seen : List Nat) : Nat := (es.filter fun e => !seen.contains e.2.2).length

theorem left_lt {es : List (Trip × Option Addr × Nat)} {seen : List Nat} {e : Trip × Option Addr × Nat} (he : e ∈ es) (hn : e.2.2 ∉ seen) : left es (seen ++ [e.2.2]) < left es seen := by
  unfold left
  have h : (es.filter fun c => !(seen ++ [e.2.2]).contains c.2.2) = (es.filter fun c => !seen.contains c.2.2).filter fun c => c.2.2 != e.2.2 := by
    rw [List.filter_filter]
    congr 1
    funext c
    by_cases h1 : c.2.2 ∈ seen <;> by_cases h2 : c.2.2 = e.2.2 <;> simp [h1, h2]
  rw [h]
  refine Nat.lt_of_le_of_ne (List.length_filter_le _ _) (fun c => ?_)
  have := (List.length_filter_eq_length_iff.1 c) e (List.mem_filter.2 ⟨he, by simpa using hn⟩)
  simp at this

theorem born_inj {es : List (Trip × Option Addr × Nat)} (h : (es.map (·.2.2)).Nodup) {e c : Trip × Option Addr × Nat} (he : e ∈ es) (hc : c ∈ es) (h2 : c.2.2 = e.2.2) : c = e := by
  induction es with
  | nil => cases he
  | cons d es ih =>
    simp only [List.map_cons, List.nodup_cons, List.mem_map] at h
    rcases List.mem_cons.1 he with rfl | he <;> rcases List.mem_cons.1 hc with rfl | hc
    · rfl
    · exact absurd ⟨c, by assumption, h2⟩ h.1
    · exact absurd ⟨e, by assumption, h2.symm⟩ h.1
    · exact ih h.2 (by assumption) (by assumption)

section
variable {es : List (Trip × Option Addr × Nat)} {clk : Nat} {pf : List (Addr × List Fnd × Nat)} {seen : List Nat} {best : Trip} {e : Trip × Option Addr × Nat} {f : Fnd}

theorem Nst.skip (hm : MetOk es clk pf) {any : Bool} (h : Nst es pf seen best any) (he : e ∈ es) (hf : metOf es pf e.1 = some f) (hd : f.dn = true) : Nst es pf (seen ++ [e.2.2]) best any := by
  have key : ∀ c ∈ es, c.2.2 ∈ seen ++ [e.2.2] → c.2.2 ∈ seen ∨ c = e := by
    intro c hc h
    rcases List.mem_append.1 h with h | h
    · exact .inl h
    · exact .inr (born_inj hm.born.1 he hc (List.mem_singleton.1 h))
  rcases h with ⟨q1, q2⟩ | ⟨q1, g, q2, q3, q4⟩
  · refine .inl ⟨q1, fun c hc hs f' hf' => ?_⟩
    rcases key c hc hs with h | rfl
    · exact q2 c hc h f' hf'
    · rw [hf] at hf'; cases hf'; exact hd
  · refine .inr ⟨q1, g, q2, q3, fun c hc hs f' hf' hd' => ?_⟩
    rcases key c hc hs with h | rfl
    · exact q4 c hc h f' hf' hd'
    · rw [hf] at hf'; cases hf'; rw [hd] at hd'; cases hd'

theorem Nst.new (hm : MetOk es clk pf) (h : Nst es pf seen best false) (he : e ∈ es) (hf : metOf es pf e.1 = some f) (hd : f.dn = false) : Nst es pf (seen ++ [e.2.2]) e.1 true := by
  rcases h with ⟨q1, q2⟩ | ⟨q1, g, q2, q3, q4⟩
  · refine .inr ⟨rfl, f, hf, hd, fun c hc hs f' hf' hd' => ?_⟩
    rcases List.mem_append.1 hs with h | h
    · have := q2 c hc h f' hf'
      rw [hd'] at this
      cases this
    · have := born_inj hm.born.1 he hc (List.mem_singleton.1 h)
      subst this
      rw [hf] at hf'
      cases hf'
      exact Int.le_refl _
  · cases q1

theorem Nst.better {g : Fnd} (hm : MetOk es clk pf) (h : Nst es pf seen best true) (he : e ∈ es) (hf : metOf es pf e.1 = some f) (hd : f.dn = false) (hg : metOf es pf best = some g) (hc : f.cost ≤ g.cost) : Nst es pf (seen ++ [e.2.2]) e.1 true := by
  rcases h with ⟨q1, q2⟩ | ⟨q1, g', q2, q3, q4⟩
  · cases q1
  · rw [hg] at q2
    cases q2
    refine .inr ⟨rfl, f, hf, hd, fun c hc' hs f' hf' hd' => ?_⟩
    rcases List.mem_append.1 hs with h | h
    · exact Int.le_trans hc (q4 c hc' h f' hf' hd')
    · have := born_inj hm.born.1 he hc' (List.mem_singleton.1 h)
      subst this
      rw [hf] at hf'
      cases hf'
      exact Int.le_refl _

theorem Nst.keep {g : Fnd} (hm : MetOk es clk pf) (h : Nst es pf seen best true) (he : e ∈ es) (hf : metOf es pf e.1 = some f) (hg : metOf es pf best = some g) (hc : g.cost ≤ f.cost) : Nst es pf (seen ++ [e.2.2]) best true := by
  rcases h with ⟨q1, q2⟩ | ⟨q1, g', q2, q3, q4⟩
  · cases q1
  · rw [hg] at q2
    cases q2
    refine .inr ⟨rfl, g, hg, q3, fun c hc' hs f' hf' hd' => ?_⟩
    rcases List.mem_append.1 hs with h | h
    · exact q4 c hc' h f' hf' hd'
    · have := born_inj hm.born.1 he hc' (List.mem_singleton.1 h)
      subst this
      rw [hf] at hf'
      cases hf'
      exact hc
end

set_option maxHeartbeats 4000000 in
set_option maxRecDepth 20000 in
theorem nearest_c (W : Wk) (hm : MetOk W.es W.clk W.pf) : Ct Tryd.prog 61 [.c (.ptr 0 0)] [] (hpW W) 9 (fun v s => ∃ best any, v = .tup [.agg [.i best.a, .i best.b, .i best.c], .c (.b any)] ∧ s = ⟨[], [(0, .box 58 (wkCells W)), (5, .arr true 22 .sli W.rows 0), (6, .pool 3 .int W.pi), (7, .map .trip .adr W.es W.clk), (8, .pool 60 .fnd W.pf)], 9⟩ ∧ Nst W.es W.pf (W.es.map (·.2.2)) best any) := by
  refine ctW Tryd.tyOk 9 [13] Tryd.func61 rfl (by simp) (by simp) (fr := [(0, .c (.ptr 0 0))]) rfl ?_
  repeat' (first | exact rfl | ((conv => whnf); first | (refine qX (fun h => ?_) fun h => ?_ <;> try exact absurd h (by omega)) | refine oN ?_ | refine oM ?_ ?_ | refine bM ?_ ?_ | refine dR ?_))
  (conv => whnf)
  refine loopI (fun x : List Nat × Nat × Trip × Bool => ⟨[(0, .c (.ptr 0 0)), (2, .c (.ptr 9 0)), (3, .b false), (4, .c (.ptr 10 0)), (5, .b x.2.2.2), (13, .c (.ptr 11 0))], (9, .box 51 [.i 0, .i 0, .i 0]) :: (10, .box 51 [.i x.2.2.1.a, .i x.2.2.1.b, .i x.2.2.1.c]) :: (11, .iter 7 W.clk x.1 W.clk x.2.1) :: hpW W, 12⟩) (fun x => Nst W.es W.pf x.1 x.2.2.1 x.2.2.2) (fun x => left W.es x.1) ([], 0, ⟨0, 0, 0⟩, false) [] ⟨by rfl, ?_, ?_⟩ (.inl ⟨rfl, by simp⟩) ?_
  · simp
  · simp
  · rintro ⟨seen, cur, ⟨b1, b2, b3⟩, any⟩ hN
    simp only at hN ⊢
    (conv => whnf)
    refine Ob.mk ⟨hm.born, rfl, rfl⟩ ?_
    (conv => whnf)
    refine Both.mk (fun hall => ?_) (fun i hi hns => ?_)
    · repeat' (first | exact rfl | ((conv => whnf); first | (refine qX (fun h => ?_) fun h => ?_ <;> try exact absurd h (by omega)) | refine oN ?_ | refine oM ?_ ?_ | refine bM ?_ ?_ | refine dR ?_))
      (conv => whnf)
      refine ⟨[], [(0, .box 58 (wkCells W)), (5, .arr true 22 .sli W.rows 0), (6, .pool 3 .int W.pi), (7, .map .trip .adr W.es W.clk), (8, .pool 60 .fnd W.pf)], 9, .tup [.agg [.i b1, .i b2, .i b3], .c (.b any)], ⟨by rfl, trivial, by simp [wkCells]⟩, by simp, ⟨b1, b2, b3⟩, any, rfl, rfl, ?_⟩
      unfold Nst at hN ⊢
      simp only [List.mem_map]
      rcases hN with ⟨q1, q2⟩ | ⟨q1, g, q2, q3, q4⟩
      · exact .inl ⟨q1, fun e he _ => q2 e he (hall e he)⟩
      · exact .inr ⟨q1, g, q2, q3, fun e he _ => q4 e he (hall e he)⟩
    · have hmem := List.getElem_mem hi
      generalize he : W.es[i] = e at *
      obtain ⟨a, f, h1, h2, h3, h4, h5⟩ := hm.at hmem
      obtain ⟨⟨x1, x2, x3⟩, oa, n⟩ := e
      simp only at h1 h3 h5 hns
      subst h1
      have h4l : 0 < (rowA W.pf (some a)).length := by rw [h4]; exact Nat.one_pos
      (conv => whnf)
      refine Ob.mk ⟨hm.born, rfl, hi, by rw [he]; simp⟩ (fun _ => ?_)
      rw [he]
      dsimp only
      have ef : (rowA W.pf (some a)).getD 0 EK.fnd.dflt = f := by rw [h4]; rfl
      have hlt := left_lt hmem hns
      cases any with
      | false =>
        repeat' (first | exact rfl | ((conv => whnf); first | (refine qX (fun h => ?_) fun h => ?_ <;> try exact absurd h (by omega)) | refine oN ?_ | refine oM ?_ ?_ | refine bM ?_ ?_ | refine dR ?_))
        · rw [ef] at h
          (conv => whnf)
          refine ⟨(seen ++ [n], i, ⟨b1, b2, b3⟩, false), [], ⟨by rfl, ?_, ?_⟩, hN.skip hm hmem h5 h, hlt⟩
          · simp
          · simp
        · rw [ef] at h
          (conv => whnf)
          refine ⟨(seen ++ [n], i, ⟨x1, x2, x3⟩, true), [], ⟨by rfl, ?_, ?_⟩, hN.new hm hmem h5 h, hlt⟩
          · simp
          · simp
      | true =>
        have hN0 := hN
        rcases hN with ⟨q1, q2⟩ | ⟨q1, g, q2, q3, q4⟩
        · cases q1
        obtain ⟨b, nb, r1, r2, r3, r4⟩ := hm.of q2
        have e1 : (@lkM EK.trip.ty EK.adr.ty (EK.instDeq .trip) W.es (⟨b1, b2, b3⟩ : Trip)).getD EK.adr.dflt = some b := congrArg (fun x => Option.getD x none) r3
        have eg : (rowA W.pf (some b)).getD 0 EK.fnd.dflt = g := by rw [r4]; rfl
        repeat' (first | exact rfl | ((conv => whnf); first | (refine qX (fun h => ?_) fun h => ?_ <;> try exact absurd h (by omega)) | refine oN ?_ | refine oM ?_ ?_ | refine bM ?_ ?_ | refine dR ?_))
        · rw [ef] at h
          (conv => whnf)
          refine ⟨(seen ++ [n], i, ⟨b1, b2, b3⟩, true), [], ⟨by rfl, ?_, ?_⟩, hN0.skip hm hmem h5 h, hlt⟩
          · simp
          · simp
        · rw [e1]; rfl
        · rw [e1, r4]; exact Nat.one_pos
        · rw [ef] at *
          rw [e1, eg] at h
          (conv => whnf)
          refine ⟨(seen ++ [n], i, ⟨x1, x2, x3⟩, true), [], ⟨by rfl, ?_, ?_⟩, hN0.better hm hmem h5 (by assumption) q2 (Int.le_of_lt h), hlt⟩
          · simp
          · simp
        · rw [ef] at *
          rw [e1, eg] at *
          (conv => whnf)
          refine cI (spot_c ⟨x1, x2, x3⟩ ⟨b1, b2, b3⟩) [] Tryd.call73 ?_
          repeat' (first | exact rfl | ((conv => whnf); first | (refine qX (fun h => ?_) fun h => ?_ <;> try exact absurd h (by omega)) | refine oN ?_ | refine oM ?_ ?_ | refine bM ?_ ?_ | refine dR ?_))
          · (conv => whnf)
            refine ⟨(seen ++ [n], i, ⟨x1, x2, x3⟩, true), [], ⟨by rfl, ?_, ?_⟩, hN0.better hm hmem h5 (by assumption) q2 (by omega), hlt⟩
            · simp
            · simp
          · (conv => whnf)
            refine ⟨(seen ++ [n], i, ⟨b1, b2, b3⟩, true), [], ⟨by rfl, ?_, ?_⟩, hN0.keep hm hmem h5 q2 (by omega), hlt⟩
            · simp
            · simp
        · rw [ef] at *
          rw [e1, eg] at *
          (conv => whnf)
          refine ⟨(seen ++ [n], i, ⟨b1, b2, b3⟩, true), [], ⟨by rfl, ?_, ?_⟩, hN0.keep hm hmem h5 q2 (by omega), hlt⟩
          · simp
          · simp
end Go.Fw

namespace Go.Fw
open Go Go.Proofs

/-- A map with one value told. -/
def updD (D : Trip → Option Fnd) (y : Trip) (e : Fnd) : Trip → Option Fnd := fun z => if z = y then some e else D z

theorem lkM_setM {κ ν : Type} [DecidableEq κ] (es : List (κ × ν × Nat)) (y : κ) (v : ν) (z : κ) : lkM (setM es y v) z = if z = y ∧ (lkM es y).isSome then some v else lkM es z := by
  induction es with
  | nil => simp [setM, lkM]
  | cons e es ih =>
    obtain ⟨x, w, n⟩ := e
    simp only [setM]
    by_cases h : x = y
    · subst h
      by_cases hz : z = x
      · subst hz; simp [lkM]
      · simp [lkM, hz, Ne.symm hz]
    · rw [if_neg h]
      by_cases hz : x = z
      · subst hz; simp [lkM, h]
      · simp only [lkM, hz, h, if_false, ih]

theorem lkM_append {κ ν : Type} [DecidableEq κ] (es fs : List (κ × ν × Nat)) (z : κ) : lkM (es ++ fs) z = match lkM es z with
    | some v => some v
    | none => lkM fs z := by
  induction es with
  | nil => rfl
  | cons e es ih =>
    obtain ⟨x, w, n⟩ := e
    simp only [List.cons_append, lkM]
    by_cases h : x = z
    · simp [h]
    · simp only [h, if_false, ih]

theorem lkM_insM {κ ν : Type} [DecidableEq κ] (es : List (κ × ν × Nat)) (clk : Nat) (y : κ) (v : ν) (z : κ) : lkM (insM es clk y v).1 z = if z = y then some v else lkM es z := by
  unfold insM
  by_cases h : (lkM es y).isSome = true
  · rw [if_pos h, lkM_setM]
    simp [h]
  · rw [if_neg h, lkM_append]
    simp only [lkM]
    by_cases hz : z = y
    · subst hz
      simp only [Bool.not_eq_true, Option.isSome_eq_false_iff, Option.isNone_iff_eq_none] at h
      simp [h]
    · simp only [hz, Ne.symm hz, if_false]
      cases lkM es z <;> rfl

theorem setM_keys {κ ν : Type} [DecidableEq κ] (es : List (κ × ν × Nat)) (y : κ) (v : ν) : (setM es y v).map (·.1) = es.map (·.1) ∧ (setM es y v).map (·.2.2) = es.map (·.2.2) := by
  induction es with
  | nil => exact ⟨rfl, rfl⟩
  | cons e es ih =>
    obtain ⟨x, w, n⟩ := e
    simp only [setM]
    split
    · exact ⟨rfl, rfl⟩
    · simp [ih.1, ih.2]

theorem setM_mem {κ ν : Type} [DecidableEq κ] {es : List (κ × ν × Nat)} {y : κ} {v : ν} {e : κ × ν × Nat} (h : e ∈ setM es y v) : e ∈ es ∨ (e.1 = y ∧ e.2.1 = v) := by
  induction es with
  | nil => cases h
  | cons c es ih =>
    obtain ⟨x, w, n⟩ := c
    simp only [setM] at h
    split at h
    · rename_i hx
      rcases List.mem_cons.1 h with rfl | h
      · exact .inr ⟨hx, rfl⟩
      · exact .inl (List.mem_cons_of_mem _ h)
    · rcases List.mem_cons.1 h with rfl | h
      · exact .inl (List.mem_cons_self ..)
      · rcases ih h with h | h
        · exact .inl (List.mem_cons_of_mem _ h)
        · exact .inr h

theorem setM_adrs {es : List (Trip × Option Addr × Nat)} (h : (es.map (·.2.1)).Nodup) (y : Trip) {v : Option Addr} (hv : ∀ e ∈ es, e.2.1 ≠ v) : ((setM es y v).map (·.2.1)).Nodup := by
  induction es with
  | nil => exact h
  | cons c es ih =>
    obtain ⟨x, w, n⟩ := c
    simp only [List.map_cons, List.nodup_cons] at h
    simp only [setM]
    split
    · simp only [List.map_cons, List.nodup_cons]
      refine ⟨fun hm => ?_, h.2⟩
      obtain ⟨e, he, e2⟩ := List.mem_map.1 hm
      exact hv e (List.mem_cons_of_mem _ he) e2
    · simp only [List.map_cons, List.nodup_cons]
      refine ⟨fun hm => ?_, ih h.2 (fun e he => hv e (List.mem_cons_of_mem _ he))⟩
      obtain ⟨e, he, e2⟩ := List.mem_map.1 hm
      rcases setM_mem he with he | ⟨_, he⟩
      · exact h.1 (e2 ▸ List.mem_map_of_mem he)
      · exact hv _ (List.mem_cons_self ..) (e2.symm.trans he)

section
variable {es : List (Trip × Option Addr × Nat)} {clk : Nat} {pf : List (Addr × List Fnd × Nat)}

theorem MetOk.ne (h : MetOk es clk pf) {a : Addr} (ha : lkA pf a = none) : ∀ e ∈ es, e.2.1 ≠ some a := by
  intro e he c
  obtain ⟨b, f, h1, h2⟩ := h.row e he
  rw [c] at h1
  cases h1
  rw [ha] at h2
  cases h2

theorem rowA_cons {a : Addr} {y : List Fnd × Nat} {oa : Option Addr} (h : oa ≠ some a) : rowA ((a, y) :: pf) oa = rowA pf oa := by
  cases oa with
  | none => rfl
  | some b => simp only [rowA, lkA, if_neg (fun c : a = b => h (by rw [c]))]

theorem MetOk.ins (h : MetOk es clk pf) {a : Addr} (ha : lkA pf a = none) (y : Trip) (e : Fnd) :
    MetOk (insM es clk y (some a)).1 (insM es clk y (some a)).2 ((a, [e], 0) :: pf) ∧ metOf (insM es clk y (some a)).1 ((a, [e], 0) :: pf) = updD (metOf es pf) y e := by
  have hne := h.ne ha
  have hrow : ∀ c ∈ es, ∃ b f, c.2.1 = some b ∧ lkA ((a, [e], 0) :: pf) b = some ([f], 0) := by
    intro c hc
    obtain ⟨b, f, h1, h2⟩ := h.row c hc
    refine ⟨b, f, h1, ?_⟩
    simp only [lkA]
    rw [if_neg (fun c' : a = b => hne c hc (by rw [h1, c'])), h2]
  constructor
  · unfold insM
    by_cases hs : (lkM es y).isSome = true
    · rw [if_pos hs]
      refine ⟨⟨?_, ?_⟩, ?_, ?_, ?_⟩
      · show ((setM es y (some a)).map (·.2.2)).Nodup
        rw [(setM_keys es y (some a)).2]; exact h.born.1
      · intro c hc
        have : c.2.2 ∈ (setM es y (some a)).map (·.2.2) := List.mem_map_of_mem hc
        rw [(setM_keys es y (some a)).2] at this
        obtain ⟨c', hc', e'⟩ := List.mem_map.1 this
        rw [← e']
        exact h.born.2 c' hc'
      · show ((setM es y (some a)).map (·.1)).Nodup
        rw [(setM_keys es y (some a)).1]; exact h.keys
      · exact setM_adrs h.adrs y hne
      · intro c hc
        rcases setM_mem hc with hc | ⟨_, hc⟩
        · exact hrow c hc
        · exact ⟨a, e, hc, by simp [lkA]⟩
    · rw [if_neg hs]
      have hnk : y ∉ es.map (·.1) := by
        intro hm
        obtain ⟨c, hc, e'⟩ := List.mem_map.1 hm
        have := lkM_mem h.keys hc
        rw [e'] at this
        rw [this] at hs
        exact hs rfl
      refine ⟨⟨?_, ?_⟩, ?_, ?_, ?_⟩
      · show ((es ++ [(y, some a, clk)]).map (·.2.2)).Nodup
        rw [List.map_append, List.nodup_append]
        refine ⟨h.born.1, by simp, ?_⟩
        intro n hn m hm
        obtain ⟨c, hc, rfl⟩ := List.mem_map.1 hn
        have := h.born.2 c hc
        simp only [List.map_cons, List.map_nil, List.mem_singleton] at hm
        omega
      · intro c hc
        show c.2.2 < clk + 1
        rcases List.mem_append.1 hc with hc | hc
        · have := h.born.2 c hc; omega
        · rw [List.mem_singleton.1 hc]; exact Nat.lt_succ_self _
      · show ((es ++ [(y, some a, clk)]).map (·.1)).Nodup
        rw [List.map_append, List.nodup_append]
        refine ⟨h.keys, by simp, ?_⟩
        intro n hn m hm
        simp only [List.map_cons, List.map_nil, List.mem_singleton] at hm
        subst hm
        intro c
        exact hnk (c ▸ hn)
      · show ((es ++ [(y, some a, clk)]).map (·.2.1)).Nodup
        rw [List.map_append, List.nodup_append]
        refine ⟨h.adrs, by simp, ?_⟩
        intro n hn m hm
        obtain ⟨c, hc, rfl⟩ := List.mem_map.1 hn
        simp only [List.map_cons, List.map_nil, List.mem_singleton] at hm
        subst hm
        exact hne c hc
      · intro c hc
        rcases List.mem_append.1 hc with hc | hc
        · exact hrow c hc
        · rw [List.mem_singleton.1 hc]
          exact ⟨a, e, rfl, by simp [lkA]⟩
  · funext z
    unfold metOf updD
    rw [lkM_insM]
    by_cases hz : z = y
    · rw [if_pos hz, if_pos hz]
      simp [rowA, lkA]
    · rw [if_neg hz, if_neg hz]
      show _ = (lkM es z).bind _
      cases hl : lkM es z with
      | none => rfl
      | some oa =>
        obtain ⟨n, hn⟩ := lkM_some hl
        simp only [Option.bind_some]
        rw [rowA_cons (hne _ hn)]
end

/-- One arc tried from a spot. -/
def stepD (F : TF) (u v : List Int) (x : Trip) (cost : Int) (D : Trip → Option Fnd) (n : Int) : Trip → Option Fnd :=
  let a := F.arcs.getD n.toNat EK.arc.dflt
  let i := fitE u x.b a.i
  let o := fitE v x.c a.o
  if i.2 = true ∧ o.2 = true then
    match D ⟨a.t, i.1, o.1⟩ with
    | none => updD D ⟨a.t, i.1, o.1⟩ ⟨cost + a.w, n, x.a, x.b, x.c, false⟩
    | some d => if cost + a.w < d.cost then updD D ⟨a.t, i.1, o.1⟩ ⟨cost + a.w, n, x.a, x.b, x.c, false⟩ else D
  else D

def onD (F : TF) (u v : List Int) (x : Trip) (cost : Int) (D : Trip → Option Fnd) (ns : List Int) : Trip → Option Fnd := ns.foldl (stepD F u v x cost) D

theorem onD_snoc (F : TF) (u v : List Int) (x : Trip) (cost : Int) (D : Trip → Option Fnd) (ns : List Int) (n : Int) : onD F u v x cost D (ns ++ [n]) = stepD F u v x cost (onD F u v x cost D ns) n := by
  simp [onD]

section
variable {F : TF} {u v : List Int} {x : Trip} {cost n : Int} {D : Trip → Option Fnd} {ar : Arc}

theorem stepD_no1 (har : F.arcs.getD n.toNat EK.arc.dflt = ar) (h : (!(fitE u x.b ar.i).2) = true) : stepD F u v x cost D n = D := by
  subst har
  rw [Bool.not_eq_true'] at h
  exact if_neg (fun c => by rw [h] at c; cases c.1)
theorem stepD_no2 (har : F.arcs.getD n.toNat EK.arc.dflt = ar) (h : (!(fitE v x.c ar.o).2) = true) : stepD F u v x cost D n = D := by
  subst har
  rw [Bool.not_eq_true'] at h
  exact if_neg (fun c => by rw [h] at c; cases c.2)
theorem stepD_new (har : F.arcs.getD n.toNat EK.arc.dflt = ar) (h1 : (!(fitE u x.b ar.i).2) = false) (h2 : (!(fitE v x.c ar.o).2) = false) (h3 : D ⟨ar.t, (fitE u x.b ar.i).1, (fitE v x.c ar.o).1⟩ = none) :
    stepD F u v x cost D n = updD D ⟨ar.t, (fitE u x.b ar.i).1, (fitE v x.c ar.o).1⟩ ⟨cost + ar.w, n, x.a, x.b, x.c, false⟩ := by
  subst har
  simp only [Bool.not_eq_false'] at h1 h2
  simp only [stepD, h1, h2, and_self, if_true, h3]
theorem stepD_less {d : Fnd} (har : F.arcs.getD n.toNat EK.arc.dflt = ar) (h1 : (!(fitE u x.b ar.i).2) = false) (h2 : (!(fitE v x.c ar.o).2) = false) (h3 : D ⟨ar.t, (fitE u x.b ar.i).1, (fitE v x.c ar.o).1⟩ = some d) (h4 : cost + ar.w < d.cost) :
    stepD F u v x cost D n = updD D ⟨ar.t, (fitE u x.b ar.i).1, (fitE v x.c ar.o).1⟩ ⟨cost + ar.w, n, x.a, x.b, x.c, false⟩ := by
  subst har
  simp only [Bool.not_eq_false'] at h1 h2
  simp only [stepD, h1, h2, and_self, if_true, h3, h4]
theorem stepD_keep {d : Fnd} (har : F.arcs.getD n.toNat EK.arc.dflt = ar) (h1 : (!(fitE u x.b ar.i).2) = false) (h2 : (!(fitE v x.c ar.o).2) = false) (h3 : D ⟨ar.t, (fitE u x.b ar.i).1, (fitE v x.c ar.o).1⟩ = some d) (h4 : ¬ cost + ar.w < d.cost) :
    stepD F u v x cost D n = D := by
  subst har
  simp only [Bool.not_eq_false'] at h1 h2
  simp only [stepD, h1, h2, and_self, if_true, h3, h4, if_false]

theorem MetOk.get {es : List (Trip × Option Addr × Nat)} {clk : Nat} {pf : List (Addr × List Fnd × Nat)} (hm : MetOk es clk pf) {y : Trip} (h : (!(@lkM EK.trip.ty EK.adr.ty (EK.instDeq .trip) es y).isSome) = false) :
    ∃ b d, (@lkM EK.trip.ty EK.adr.ty (EK.instDeq .trip) es y).getD EK.adr.dflt = some b ∧ rowA pf (some b) = [d] ∧ metOf es pf y = some d := by
  have h' : (lkM es y).isSome = true := by
    rw [Bool.not_eq_false'] at h
    exact h
  obtain ⟨oa, hoa⟩ := Option.isSome_iff_exists.1 h'
  obtain ⟨n, hn⟩ := lkM_some hoa
  obtain ⟨b, d, h1, h2, h3, h4, h5⟩ := hm.at hn
  exact ⟨b, d, congrArg (fun x => Option.getD x none) h3, h4, h5⟩

theorem MetOk.none {es : List (Trip × Option Addr × Nat)} {pf : List (Addr × List Fnd × Nat)} {y : Trip} (h : (!(@lkM EK.trip.ty EK.adr.ty (EK.instDeq .trip) es y).isSome) = true) : metOf es pf y = Option.none := by
  have h' : (lkM es y).isSome = false := by
    rw [Bool.not_eq_true'] at h
    exact h
  unfold metOf
  cases hl : lkM es y with
  | none => rfl
  | some b => rw [hl] at h'; cases h'
end

set_option maxHeartbeats 4000000 in
set_option maxRecDepth 20000 in
theorem on_c' (W : Wk) (hF : FOk W.F) (hu : W.u.length ≤ 40) (hv : W.v.length ≤ 40) (x : Trip) (a : Addr) (c : Fnd) (hm : MetOk W.es W.clk W.pf) (ha : lkA W.pf a = some ([c], 0)) (hc : 0 ≤ c.cost ∧ c.cost ≤ 1000000000000000000)
    (hx1 : 0 ≤ x.a ∧ x.a < W.rows.length) (hx2 : 0 ≤ x.b ∧ x.b ≤ W.u.length) (hx3 : 0 ≤ x.c ∧ x.c ≤ W.v.length)
    (row : Sli) (hrow : W.rows.getD x.a.toNat EK.sli.dflt = row) (ns : List Int) (hns : rowA W.pi row.a = ns) (hn : row.n = ns.length) (hnl : ns.length ≤ 3000) (hno : ∀ n ∈ ns, 0 ≤ n ∧ n < W.F.arcs.length) :
    Ct Tryd.prog 62 [.c (.ptr 0 0), SV.a (SA.agg [SC.i (Trip.a x), SC.i (Trip.b x), SC.i (Trip.c x)]), .c (.q (some a))] [] (hpW W) 9 (fun v s => ∃ es clk pf, v = .tup [] ∧ s = ⟨[], [(0, .box 58 (wkCells W)), (5, .arr true 22 .sli W.rows 0), (6, .pool 3 .int W.pi), (7, .map .trip .adr es clk), (8, .pool 60 .fnd pf)], 9⟩ ∧ MetOk es clk pf ∧ lkA pf a = some ([c], 0) ∧ metOf es pf = onD W.F W.u W.v x c.cost (metOf W.es W.pf) ns) := by
  have e0 : 0 + x.a.toNat = x.a.toNat := Nat.zero_add _
  have hrow2 : W.rows.getD (0 + x.a.toNat) EK.sli.dflt = row := by rw [e0]; exact hrow
  refine ctW Tryd.tyOk 16 [23, 24, 25] Tryd.func62 rfl (by simp) (by simp) (fr := [(0, .c (.ptr 0 0)), (1, SV.a (SA.agg [SC.i (Trip.a x), SC.i (Trip.b x), SC.i (Trip.c x)])), (2, .c (.q (some a)))]) rfl ?_
  repeat' (first | exact rfl | ((conv => whnf); first | (refine qX (fun h => ?_) fun h => ?_ <;> try exact absurd h (by omega)) | refine oN ?_ | refine oM ?_ ?_ | refine bM ?_ ?_ | refine dR ?_))
  (conv => whnf)
  rw [hrow2]
  refine loopI (fun y : Nat × List (Trip × Option Addr × Nat) × Nat × List (Addr × List Fnd × Nat) => ⟨[(0, .c (.ptr 0 0)), (1, SV.a (SA.agg [SC.i (Trip.a x), SC.i (Trip.b x), SC.i (Trip.c x)])), (2, .c (.q (some a))), (4, .c (.ptr 9 0)), (23, .c (.h row)), (24, .i row.n), (25, .i y.1)], (9, .box 51 [.i x.a, .i x.b, .i x.c]) :: hpL W y.2.1 y.2.2.1 y.2.2.2, 10⟩)
    (fun y => y.1 ≤ ns.length ∧ MetOk y.2.1 y.2.2.1 y.2.2.2 ∧ lkA y.2.2.2 a = some ([c], 0) ∧ metOf y.2.1 y.2.2.2 = onD W.F W.u W.v x c.cost (metOf W.es W.pf) (ns.take y.1)) (fun y => ns.length - y.1) (0, W.es, W.clk, W.pf) [] ⟨by rfl, ?_, ?_⟩ ⟨by omega, hm, ha, by simp [onD]⟩ ?_
  · simp
  · simp
  · rintro ⟨k, es, clk, pf⟩ ⟨i1, i2, i3, i4⟩
    simp only at i1 i2 i3 i4 ⊢
    have hc1 : rowA pf (some a) = [c] := by simp [rowA, i3]
    have hcl : 0 < (rowA pf (some a)).length := by rw [hc1]; exact Nat.one_pos
    have ec : (rowA pf (some a)).getD 0 EK.fnd.dflt = c := by rw [hc1]; rfl
    have ek : (k : Int).toNat = k := Int.toNat_natCast k
    (conv => whnf)
    refine condP_dec (fun hk => ?_) (fun hk => ?_)
    · have hk2 : k < ns.length := by omega
      have hrl : (k : Int).toNat < (rowA W.pi row.a).length := by rw [hns]; omega
      have ha0 := hno _ (getD_mem ns k 0 hk2)
      have en : (rowA W.pi row.a).getD (k : Int).toNat EK.int.dflt = ns.getD k 0 := by rw [hns, ek]; rfl
      generalize hnk : ns.getD k 0 = n at *
      have hn0 : 0 ≤ (rowA W.pi row.a).getD (k : Int).toNat EK.int.dflt ∧ (rowA W.pi row.a).getD (k : Int).toNat EK.int.dflt < W.F.arcs.length := by rw [en]; exact ha0
      have ear : W.F.arcs.getD (0 + n.toNat) EK.arc.dflt = W.F.arcs.getD n.toNat EK.arc.dflt := by rw [Nat.zero_add]
      have hao := hF.arc _ (getD_mem W.F.arcs n.toNat EK.arc.dflt (by omega))
      generalize har : W.F.arcs.getD n.toNat EK.arc.dflt = ar at *
      have hw0 := hao.w0
      have hw1 := hao.w1
      have hcb : 0 ≤ ((rowA pf (some a)).getD 0 EK.fnd.dflt).cost ∧ ((rowA pf (some a)).getD 0 EK.fnd.dflt).cost ≤ 1000000000000000000 := by rw [ec]; exact hc
      repeat' (first | exact rfl | ((conv => whnf); first | (refine qX (fun h => ?_) fun h => ?_ <;> try exact absurd h (by omega)) | refine oN ?_ | refine oM ?_ ?_ | refine bM ?_ ?_ | refine dR ?_))
      (conv => whnf)
      rw [en, ear]
      refine cI (fits_c W.u W.cu x.b ar.i hu hx2) [3] Tryd.call74 ?_
      repeat' (first | exact rfl | ((conv => whnf); first | (refine qX (fun h => ?_) fun h => ?_ <;> try exact absurd h (by omega)) | refine oN ?_ | refine oM ?_ ?_ | refine bM ?_ ?_ | refine dR ?_))
      (conv => whnf)
      refine cI (fits_c W.v W.cv x.c ar.o hv hx3) [4] Tryd.call74 ?_
      have htake : ns.take (k + 1) = ns.take k ++ [n] := by rw [take_succ_getD ns k 0 hk2, hnk]
      repeat' (first | exact rfl | ((conv => whnf); first | (refine qX (fun h => ?_) fun h => ?_ <;> try exact absurd h (by omega)) | refine oN ?_ | refine oM ?_ ?_ | refine bM ?_ ?_ | refine dR ?_))
      · (conv => whnf)
        refine ⟨(k + 1, es, clk, pf), [], ⟨by rfl, ?_, ?_⟩, ⟨by omega, i2, i3, ?_⟩, by simp only; omega⟩
        · simp
        · simp
        · simp only
          rw [htake, onD_snoc, ← i4]
          exact (stepD_no1 har h).symm
      · (conv => whnf)
        refine ⟨(k + 1, es, clk, pf), [], ⟨by rfl, ?_, ?_⟩, ⟨by omega, i2, i3, ?_⟩, by simp only; omega⟩
        · simp
        · simp
        · simp only
          rw [htake, onD_snoc, ← i4]
          exact (stepD_no2 har h).symm
      · (conv => whnf)
        intro a2 ha2 hb2
        have hins := i2.ins ha2 ⟨ar.t, (fitE W.u x.b ar.i).1, (fitE W.v x.c ar.o).1⟩ ⟨((rowA pf (some a)).getD 0 EK.fnd.dflt).cost + ar.w, n, x.a, x.b, x.c, false⟩
        have hne : a2 ≠ a := fun c2 => by rw [c2, i3] at ha2; cases ha2
        repeat' (first | exact rfl | ((conv => whnf); first | (refine qX (fun h => ?_) fun h => ?_ <;> try exact absurd h (by omega)) | refine oN ?_ | refine oM ?_ ?_ | refine bM ?_ ?_ | refine dR ?_))
        (conv => whnf)
        refine ⟨(k + 1, _, _, (a2, [⟨((rowA pf (some a)).getD 0 EK.fnd.dflt).cost + ar.w, n, x.a, x.b, x.c, false⟩], 0) :: pf), [], ⟨by rfl, ?_, ?_⟩, ⟨by omega, hins.1, by simp only [lkA, hne, if_false]; exact i3, ?_⟩, by simp only; omega⟩
        · simp
        · simp
          exact ⟨rfl, rfl⟩
        · simp only
          rw [hins.2, htake, onD_snoc, ← i4, ec]
          exact (stepD_new har (by assumption) (by assumption) (MetOk.none h)).symm
      · obtain ⟨b, d, g1, g2, g3⟩ := i2.get h
        rw [g1]
        rfl
      · obtain ⟨b, d, g1, g2, g3⟩ := i2.get h
        rw [g1, g2]
        exact Nat.one_pos
      · obtain ⟨b, d, g1, g2, g3⟩ := i2.get h
        rw [g1, g2]
        exact Nat.one_pos
      · rename_i hh
        obtain ⟨b, d, g1, g2, g3⟩ := i2.get hh
        have g4 : (rowA pf (some b)).getD 0 EK.fnd.dflt = d := by rw [g2]; rfl
        rw [g1, g4, ec] at h
        (conv => whnf)
        intro a2 ha2 hb2
        have hins := i2.ins ha2 ⟨ar.t, (fitE W.u x.b ar.i).1, (fitE W.v x.c ar.o).1⟩ ⟨((rowA pf (some a)).getD 0 EK.fnd.dflt).cost + ar.w, n, x.a, x.b, x.c, false⟩
        have hne : a2 ≠ a := fun c2 => by rw [c2, i3] at ha2; cases ha2
        repeat' (first | exact rfl | ((conv => whnf); first | (refine qX (fun h => ?_) fun h => ?_ <;> try exact absurd h (by omega)) | refine oN ?_ | refine oM ?_ ?_ | refine bM ?_ ?_ | refine dR ?_))
        (conv => whnf)
        refine ⟨(k + 1, _, _, (a2, [⟨((rowA pf (some a)).getD 0 EK.fnd.dflt).cost + ar.w, n, x.a, x.b, x.c, false⟩], 0) :: pf), [], ⟨by rfl, ?_, ?_⟩, ⟨by omega, hins.1, by simp only [lkA, hne, if_false]; exact i3, ?_⟩, by simp only; omega⟩
        · simp
        · simp
          exact ⟨rfl, rfl⟩
        · simp only
          rw [hins.2, htake, onD_snoc, ← i4, ec]
          exact (stepD_less har (by assumption) (by assumption) g3 h).symm
      · rename_i hh
        obtain ⟨b, d, g1, g2, g3⟩ := i2.get hh
        have g4 : (rowA pf (some b)).getD 0 EK.fnd.dflt = d := by rw [g2]; rfl
        rw [g1, g4, ec] at h
        (conv => whnf)
        refine ⟨(k + 1, es, clk, pf), [], ⟨by rfl, ?_, ?_⟩, ⟨by omega, i2, i3, ?_⟩, by simp only; omega⟩
        · simp
        · simp
        · simp only
          rw [htake, onD_snoc, ← i4]
          exact (stepD_keep har (by assumption) (by assumption) g3 h).symm
    · have hkn : k = ns.length := by omega
      subst hkn
      repeat' (first | exact rfl | ((conv => whnf); first | (refine qX (fun h => ?_) fun h => ?_ <;> try exact absurd h (by omega)) | refine oN ?_ | refine oM ?_ ?_ | refine bM ?_ ?_ | refine dR ?_))
      (conv => whnf)
      rw [List.take_length] at i4
      refine ⟨[], [(0, .box 58 (wkCells W)), (5, .arr true 22 .sli W.rows 0), (6, .pool 3 .int W.pi), (7, .map .trip .adr es clk), (8, .pool 60 .fnd pf)], 9, .tup [], ⟨by rfl, trivial, by simp [wkCells]⟩, by simp, es, clk, pf, rfl, rfl, i2, i3, i4⟩

end Go.Fw
