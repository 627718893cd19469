/-
  What is useful alone costs the same.
-/
import Derived.Test.YtdijmfdanbnppaaDoorS11
import Derived.Test.YtdijmfdanbnppaaDoorS10
import Derived.Test.YtdijmfdanbnppaaDoorS08
import Derived.Test.YtdijmfdanbnppaaDoorS07
import Derived.Laws.IdiomStrings
import Derived.Lib.ItoaLen

set_option linter.unusedSimpArgs false
set_option linter.unusedVariables false

namespace Go.Fw
open Go

section
variable {p : Nat → Bool}

theorem rkB_mono : ∀ {j k : Nat}, j ≤ k → rkB p j ≤ rkB p k
  | j, 0, h => by rw [Nat.le_zero.1 h]; exact Nat.le_refl _
  | j, k + 1, h => by
    by_cases e : j = k + 1
    · rw [e]; exact Nat.le_refl _
    · have := rkB_mono (j := j) (k := k) (by omega)
      show _ ≤ if p k = true then rkB p k + 1 else rkB p k
      split <;> omega

theorem rkB_lt {j k : Nat} (h : j < k) (hj : p j = true) : rkB p j < rkB p k := by
  have h1 : rkB p (j + 1) = rkB p j + 1 := by show (if p j = true then _ else _) = _; rw [if_pos hj]
  have := rkB_mono (p := p) (j := j + 1) (k := k) h
  omega

theorem rkB_inj {j k : Nat} (hj : p j = true) (hk : p k = true) (h : rkB p j = rkB p k) : j = k := by
  rcases Nat.lt_trichotomy j k with q | q | q
  · have := rkB_lt q hj; omega
  · exact q
  · have := rkB_lt q hk; omega

theorem kfin_get (fin : List Int) : ∀ {n j : Nat}, j < n → p j = true → (kfin p fin n).getD (rkB p j) 0 = fin.getD j 0
  | 0, j, h, _ => by omega
  | n + 1, j, h, hj => by
    have hl := kfin_len p fin n
    have hs : kfin p fin (n + 1) = if p n = true then kfin p fin n ++ [fin.getD n 0] else kfin p fin n := rfl
    by_cases e : j = n
    · subst e
      rw [hs, if_pos hj]
      simp [List.getD, hl]
    · have ih := kfin_get fin (n := n) (j := j) (by omega) hj
      have hlt := rkB_lt (p := p) (show j < n by omega) hj
      rw [hs]
      split
      · rw [← ih]
        simp only [List.getD]
        rw [List.getElem?_append_left (by omega)]
      · exact ih

theorem kfin_mem (fin : List Int) : ∀ {n : Nat} {x : Int}, x ∈ kfin p fin n → ∃ j, j < n ∧ x = fin.getD j 0
  | 0, x, h => by cases h
  | n + 1, x, h => by
    have hs : kfin p fin (n + 1) = if p n = true then kfin p fin n ++ [fin.getD n 0] else kfin p fin n := rfl
    rw [hs] at h
    split at h
    · rcases List.mem_append.1 h with h | h
      · obtain ⟨j, h1, h2⟩ := kfin_mem fin h
        exact ⟨j, by omega, h2⟩
      · rw [List.mem_singleton] at h; exact ⟨n, by omega, h⟩
    · obtain ⟨j, h1, h2⟩ := kfin_mem fin h
      exact ⟨j, by omega, h2⟩

theorem mem_karc {l : List Arc} {b : Arc} : ∀ k, k ≤ l.length → (b ∈ karc p l k ↔ ∃ i, i < k ∧ kOk p (l.getD i aD) = true ∧ b = kArc p (l.getD i aD))
  | 0, _ => by simp [karc]
  | k + 1, hk => by
    have ih := mem_karc (l := l) (b := b) k (by omega)
    have hs : karc p l (k + 1) = if kOk p (l.getD k aD) = true then karc p l k ++ [kArc p (l.getD k aD)] else karc p l k := rfl
    rw [hs]
    split
    · rename_i h
      rw [List.mem_append, ih, List.mem_singleton]
      constructor
      · rintro (⟨i, h1, h2⟩ | rfl)
        · exact ⟨i, by omega, h2⟩
        · exact ⟨k, by omega, h, rfl⟩
      · rintro ⟨i, h1, h2, h3⟩
        by_cases q : i = k
        · subst q; exact .inr h3
        · exact .inl ⟨i, by omega, h2, h3⟩
    · rename_i h
      rw [ih]
      constructor
      · rintro ⟨i, h1, h2⟩
        exact ⟨i, by omega, h2⟩
      · rintro ⟨i, h1, h2, h3⟩
        by_cases q : i = k
        · subst q; exact absurd h2 h
        · exact ⟨i, by omega, h2, h3⟩

theorem mem_karcs {l : List Arc} {b : Arc} : b ∈ karc p l l.length ↔ ∃ a ∈ l, p a.f.toNat = true ∧ p a.t.toNat = true ∧ b = kArc p a := by
  rw [mem_karc _ (Nat.le_refl _)]
  constructor
  · rintro ⟨i, h1, h2, h3⟩
    unfold kOk at h2
    rw [Bool.and_eq_true] at h2
    exact ⟨_, getD_mem l i aD h1, h2.1, h2.2, h3⟩
  · rintro ⟨a, ha, h1, h2, h3⟩
    obtain ⟨i, hi, e⟩ := List.getElem_of_mem ha
    have e2 : l.getD i aD = a := by simp [List.getD, hi, e]
    exact ⟨i, hi, by rw [e2]; unfold kOk; rw [h1, h2]; rfl, by rw [e2]; exact h3⟩

theorem kArc_ahead {a b : Arc} (ha : 0 ≤ a.f ∧ 0 ≤ a.t) (hb : 0 ≤ b.f ∧ 0 ≤ b.t) (h1 : p a.f.toNat = true) (h2 : p a.t.toNat = true) (h : aheadB a b = true) : aheadB (kArc p a) (kArc p b) = true := by
  rw [aheadB_iff] at h ⊢
  have key : ∀ x y : Int, 0 ≤ x → 0 ≤ y → p x.toNat = true → (x < y → ((rkB p x.toNat : Nat) : Int) < (rkB p y.toNat : Nat)) ∧ (x = y → ((rkB p x.toNat : Nat) : Int) = (rkB p y.toNat : Nat)) := fun x y hx hy hp =>
    ⟨fun h => by have := rkB_lt (p := p) (show x.toNat < y.toNat by omega) hp; omega, fun h => by rw [h]⟩
  have k1 := key a.f b.f ha.1 hb.1 h1
  have k2 := key a.t b.t ha.2 hb.2 h2
  show ((rkB p a.f.toNat : Nat) : Int) < (rkB p b.f.toNat : Nat) ∨ ((rkB p a.f.toNat : Nat) : Int) = (rkB p b.f.toNat : Nat) ∧ (a.i < b.i ∨ a.i = b.i ∧ (a.o < b.o ∨ a.o = b.o ∧ ((rkB p a.t.toNat : Nat) : Int) < (rkB p b.t.toNat : Nat)))
  rcases h with h | ⟨h, h3⟩
  · exact .inl (k1.1 h)
  · refine .inr ⟨k1.2 h, ?_⟩
    rcases h3 with h3 | ⟨h3, h4⟩
    · exact .inl h3
    · refine .inr ⟨h3, ?_⟩
      rcases h4 with h4 | ⟨h4, h5⟩
      · exact .inl h4
      · exact .inr ⟨h4, k2.1 h5⟩

theorem karc_srt {l : List Arc} (hr : ∀ a ∈ l, 0 ≤ a.f ∧ 0 ≤ a.t) (hs : Srt l) : ∀ k, k ≤ l.length → Srt (karc p l k)
  | 0, _ => List.Pairwise.nil
  | k + 1, hk => by
    have ih := karc_srt hr hs k (by omega)
    have hs1 : karc p l (k + 1) = if kOk p (l.getD k aD) = true then karc p l k ++ [kArc p (l.getD k aD)] else karc p l k := rfl
    rw [hs1]
    split
    · refine List.pairwise_append.2 ⟨ih, List.pairwise_singleton _ _, fun x hx y hy => ?_⟩
      rw [List.mem_singleton] at hy
      subst hy
      obtain ⟨i, hi, hok, rfl⟩ := (mem_karc k (by omega)).1 hx
      unfold kOk at hok
      rw [Bool.and_eq_true] at hok
      have hmi := getD_mem l i aD (by omega)
      have hmk := getD_mem l k aD (by omega)
      refine kArc_ahead (hr _ hmi) (hr _ hmk) hok.1 hok.2 ?_
      have e1 : l.getD i aD = l[i]'(by omega) := by simp [List.getD, show i < l.length by omega]
      have e2 : l.getD k aD = l[k]'(by omega) := by simp [List.getD, show k < l.length by omega]
      rw [e1, e2]
      exact List.pairwise_iff_getElem.1 hs i k (by omega) (by omega) hi
    · exact ih
end

theorem way_none {s t : Int} {u v : List Int} {d : Int} (h : Way [] s u v t d) : t = s := by
  induction h with
  | nil s => rfl
  | cons ha _ _ => cases ha

section
variable {F : TF} {p : Nat → Bool} (hF : FRng F) (hs : 0 ≤ F.start ∧ F.start < F.st) (hp : UsOk F p)
include hF hp

theorem keep_way {s t : Int} {u v : List Int} {d : Int} (hw : Way F.arcs s u v t d) : 0 ≤ s ∧ s < F.st → Rch F.arcs false [F.start] s → F.fin.getD t.toNat 0 ≠ -1 →
    0 ≤ t ∧ t < F.st ∧ p t.toNat = true ∧ Rch F.arcs true [t] s ∧ p s.toNat = true ∧ Way (karc p F.arcs F.arcs.length) (rkB p s.toNat : Nat) u v (rkB p t.toNat : Nat) d := by
  induction hw with
  | nil s =>
    intro h1 h2 h3
    have e : ((s.toNat : Nat) : Int) = s := by omega
    have : p s.toNat = true := (hp.iff s.toNat (by omega)).2 ⟨by rw [e]; exact h2, s.toNat, by omega, h3, by rw [e]; exact .here (by simp)⟩
    exact ⟨h1.1, h1.2, this, .here (by simp), this, .nil _⟩
  | @cons a u v t c ha hw ih =>
    intro h1 h2 h3
    have hb := hF.arc a ha
    have h2' : Rch F.arcs false [F.start] a.t := Rch.on (bk := false) h2 ha rfl
    obtain ⟨i1, i2, i3, i4, i5, i6⟩ := ih ⟨hb.2.2.1, hb.2.2.2⟩ h2' h3
    have h5 : Rch F.arcs true [t] a.f := Rch.on (bk := true) i4 ha rfl
    have e : ((a.f.toNat : Nat) : Int) = a.f := by omega
    have e2 : ((t.toNat : Nat) : Int) = t := by omega
    have hpf : p a.f.toNat = true := (hp.iff a.f.toNat (by omega)).2 ⟨by rw [e]; exact h2, t.toNat, by omega, h3, by rw [e, e2]; exact h5⟩
    refine ⟨i1, i2, i3, h5, hpf, ?_⟩
    exact Way.cons (a := kArc p a) (mem_karcs.2 ⟨a, ha, hpf, i5, rfl⟩) i6

omit hp in
theorem kept_way {r r' : Int} {u v : List Int} {d : Int} (hw : Way (karc p F.arcs F.arcs.length) r u v r' d) : ∀ j : Int, 0 ≤ j ∧ j < F.st → p j.toNat = true → r = (rkB p j.toNat : Nat) → ∃ j' : Int, 0 ≤ j' ∧ j' < F.st ∧ p j'.toNat = true ∧ r' = (rkB p j'.toNat : Nat) ∧ Way F.arcs j u v j' d := by
  induction hw with
  | nil s => intro j h1 h2 h3; exact ⟨j, h1.1, h1.2, h2, h3, .nil _⟩
  | @cons b u v t c hb hw ih =>
    intro j h1 h2 h3
    obtain ⟨a, ha, h4, h5, rfl⟩ := mem_karcs.1 hb
    have hr := hF.arc a ha
    have e : a.f = j := by
      have e1 : ((rkB p a.f.toNat : Nat) : Int) = (rkB p j.toNat : Nat) := h3
      have := rkB_inj h4 h2 (by omega)
      omega
    obtain ⟨j', q1, q2, q3, q4, q5⟩ := ih a.t ⟨hr.2.2.1, hr.2.2.2⟩ h5 rfl
    refine ⟨j', q1, q2, q3, q4, ?_⟩
    rw [← e]
    exact Way.cons ha q5

include hs
/-- What is useful costs the same. -/
theorem useful_wt {u v : List Int} {c : Int} : Wt (kT F p) u v c ↔ Wt F u v c := by
  by_cases h : p F.start.toNat = true
  · have e : kT F p = ⟨(rkB p F.st.toNat : Nat), (rkB p F.start.toNat : Nat), kfin p F.fin F.st.toNat, karc p F.arcs F.arcs.length, 0, 0⟩ := by unfold kT; rw [if_pos h]
    rw [e]
    constructor
    · rintro ⟨t, d, h1, h2, rfl⟩
      simp only at h1 h2 ⊢
      obtain ⟨j, q1, q2, q3, rfl, q5⟩ := kept_way hF h1 F.start hs h rfl
      rw [Int.toNat_natCast, kfin_get F.fin (by omega) q3] at h2 ⊢
      exact ⟨j, d, q5, h2, rfl⟩
    · rintro ⟨t, d, h1, h2, rfl⟩
      obtain ⟨i1, i2, i3, i4, i5, i6⟩ := keep_way hF hp h1 hs (.here (by simp)) h2
      refine ⟨_, d, i6, ?_⟩
      simp only
      rw [Int.toNat_natCast, kfin_get F.fin (by omega) i3]
      exact ⟨h2, rfl⟩
  · have e : kT F p = ⟨1, 0, [-1], [], 0, 0⟩ := by unfold kT; rw [if_neg h]
    rw [e]
    constructor
    · rintro ⟨t, d, h1, h2, rfl⟩
      simp only at h1 h2
      rw [way_none h1] at h2
      exact absurd rfl h2
    · rintro ⟨t, d, h1, h2, rfl⟩
      obtain ⟨i1, i2, i3, i4, i5, i6⟩ := keep_way hF hp h1 hs (.here (by simp)) h2
      exact absurd i5 h

omit hp in
/-- What is useful is a transducer. -/
theorem useful_fst (hsr : Srt F.arcs) (ha : ∀ a ∈ F.arcs, (0 ≤ a.i ∧ a.i ≤ 9) ∧ (0 ≤ a.o ∧ a.o ≤ 9) ∧ 0 ≤ a.w ∧ a.w ≤ 1000000000) (hf : ∀ n ∈ F.fin, -1 ≤ n ∧ n ≤ 1000000000)
    (h1 : (kT F p).st ≤ 200) (h2 : (kT F p).arcs.length ≤ 3000) : fstE (kT F p) = 0 := by
  have hfl := hF.finl
  by_cases h : p F.start.toNat = true
  · have e : kT F p = ⟨(rkB p F.st.toNat : Nat), (rkB p F.start.toNat : Nat), kfin p F.fin F.st.toNat, karc p F.arcs F.arcs.length, 0, 0⟩ := by unfold kT; rw [if_pos h]
    rw [e] at h1 h2 ⊢
    simp only at h1 h2
    have hlt := rkB_lt (p := p) (show F.start.toNat < F.st.toNat by omega) h
    have hkl := kfin_len p F.fin F.st.toNat
    refine fstE_iff.2 ⟨⟨⟨by simp only; omega, h1⟩, ⟨by simp only; omega, by simp only; omega⟩, by simp only; omega, fun n hn => ?_, h2, fun b hb => ?_⟩, karc_srt (fun a ha => ⟨(hF.arc a ha).1, (hF.arc a ha).2.2.1⟩) hsr _ (Nat.le_refl _)⟩
    · simp only at hn
      obtain ⟨j, hj, rfl⟩ := kfin_mem F.fin hn
      exact hf _ (getD_mem F.fin j 0 (by omega))
    · simp only at hb ⊢
      obtain ⟨a, ha', q1, q2, rfl⟩ := mem_karcs.1 hb
      have hr := hF.arc a ha'
      have hx := ha a ha'
      have l1 := rkB_lt (p := p) (show a.f.toNat < F.st.toNat by omega) q1
      have l2 := rkB_lt (p := p) (show a.t.toNat < F.st.toNat by omega) q2
      exact ⟨by simp only [kArc]; omega, by simp only [kArc]; omega, by simp only [kArc]; omega, by simp only [kArc]; omega, hx.1, hx.2.1, hx.2.2.1, hx.2.2.2⟩
  · have e : kT F p = ⟨1, 0, [-1], [], 0, 0⟩ := by unfold kT; rw [if_neg h]
    rw [e]
    exact fstE_iff.2 ⟨⟨⟨by simp only; omega, by simp only; omega⟩, ⟨by simp only; omega, by simp only; omega⟩, by simp, by simp, by simp, by simp⟩, List.Pairwise.nil⟩
end
end Go.Fw

/-
  A walk, arc by arc, and how long it may be: the plain law.
-/
namespace Go.Fw
open Go

/-- Arcs from one spot on to another. -/
inductive Steps (F : TF) (u v : List Int) : Trip → List Int → Trip → Int → Prop
  | nil (x : Trip) : Steps F u v x [] x 0
  | cons {x y z : Trip} {n : Nat} {w c : Int} {l : List Int} (he : Edge F u v x n y w) (h : Steps F u v y l z c) : Steps F u v x ((n : Int) :: l) z (w + c)

theorem Steps.snoc {F : TF} {u v : List Int} {x y z : Trip} {l : List Int} {n : Nat} {c w : Int} (h : Steps F u v x l y c) (he : Edge F u v y n z w) : Steps F u v x (l ++ [(n : Int)]) z (c + w) := by
  induction h with
  | nil x =>
    have := Steps.cons he (Steps.nil z)
    rw [List.nil_append, Int.zero_add]
    rwa [Int.add_zero] at this
  | cons he' _ ih =>
    have := Steps.cons he' (ih he)
    rw [List.cons_append, Int.add_assoc]
    exact this

theorem Steps.bd {F : TF} {u v : List Int} {x y : Trip} {l : List Int} {c : Int} (hF : FOk F) (h : Steps F u v x l y c) : 0 ≤ c ∧ c ≤ 1000000000 * (l.length : Int) := by
  induction h with
  | nil x => simp
  | cons he _ ih =>
    obtain ⟨a, h1, h2, h3, h4, h5, rfl⟩ := he
    have ha := hF.arc a (List.mem_of_getElem? h1)
    have h6 := ha.w0
    have h7 := ha.w1
    simp only [List.length_cons]
    omega

theorem fitE_mono {l : List Int} {p x : Int} : p ≤ (fitE l p x).1 := by
  unfold fitE
  split <;> simp only <;> omega

section
variable {F : TF} {u v : List Int} {D : Trip → Option Fnd} {ord : List Trip} {rk : Trip → Nat} {B : Int} {Q : Trip → Nat → Prop} (hD : Dj F u v D ord rk B Q) (hall : ∀ y d, D y = some d → d.dn = true)
include hD hall

theorem chain_steps : ∀ (n : Nat) (y : Trip) (d : Fnd), D y = some d → rk y < n → Steps F u v (st0 F) (chain D n y).reverse y d.cost
  | 0, _, _, _, h => absurd h (Nat.not_lt_zero _)
  | n + 1, y, d, hy, hr => by
    rcases hD.by' y d hy with ⟨h1, h2, h3⟩ | ⟨m, x, c, w, g1, g2, g3, g4, g5, g6, g7, g8, g9⟩
    · rw [chain_stop hy (by omega), h1, h2]
      exact Steps.nil _
    · have hlt := g9 ((hD.dn y d hy).1 (hall y d hy))
      have hx : x = ⟨d.s, d.i, d.o⟩ := by rw [g2, g3, g4]
      rw [chain_on hy (by omega), ← hx, List.reverse_cons, g1, g8]
      exact (chain_steps n x c g6 (by omega)).snoc g7

/-- The spots on the way, back from the last. -/
theorem chain_trips : ∀ (n : Nat) (y : Trip) (d : Fnd), D y = some d → rk y < n → ∃ T : List Trip, T.length = (chain D n y).length + 1 ∧ (∀ t ∈ T, InBox F u v t ∧ rk t ≤ rk y ∧ t.b ≤ y.b ∧ t.c ≤ y.c) ∧ T.Pairwise (fun s t => rk t < rk s ∧ t.b ≤ s.b ∧ t.c ≤ s.c)
  | 0, _, _, _, h => absurd h (Nat.not_lt_zero _)
  | n + 1, y, d, hy, hr => by
    have hbox := hD.rng y d hy
    rcases hD.by' y d hy with ⟨h1, h2, h3⟩ | ⟨m, x, c, w, g1, g2, g3, g4, g5, g6, g7, g8, g9⟩
    · rw [chain_stop hy (by omega)]
      refine ⟨[y], rfl, fun t ht => ?_, List.pairwise_singleton _ _⟩
      rw [List.mem_singleton] at ht
      subst ht
      exact ⟨hbox, Nat.le_refl _, Int.le_refl _, Int.le_refl _⟩
    · have hlt := g9 ((hD.dn y d hy).1 (hall y d hy))
      have hx : x = ⟨d.s, d.i, d.o⟩ := by rw [g2, g3, g4]
      obtain ⟨T, t1, t2, t3⟩ := chain_trips n x c g6 (by omega)
      obtain ⟨a, e1, e2, e3, e4, e5, e6⟩ := g7
      have hb : x.b ≤ y.b := by rw [e5]; exact fitE_mono
      have hc : x.c ≤ y.c := by rw [e5]; exact fitE_mono
      refine ⟨y :: T, ?_, fun t ht => ?_, List.pairwise_cons.2 ⟨fun t ht => ?_, t3⟩⟩
      · rw [chain_on hy (by omega), ← hx, List.length_cons, List.length_cons, t1]
      · rcases List.mem_cons.1 ht with rfl | ht
        · exact ⟨hbox, Nat.le_refl _, Int.le_refl _, Int.le_refl _⟩
        · obtain ⟨q1, q2, q3, q4⟩ := t2 t ht
          exact ⟨q1, by omega, by omega, by omega⟩
      · obtain ⟨q1, q2, q3, q4⟩ := t2 t ht
        exact ⟨by omega, by omega, by omega⟩

theorem chain_len {n : Nat} {y : Trip} {d : Fnd} (hy : D y = some d) (hr : rk y < n) : ((chain D n y).length : Int) + 1 ≤ F.st * (1 + (u.length : Int) + (v.length : Int)) := by
  obtain ⟨T, t1, t2, t3⟩ := chain_trips hD hall n y d hy hr
  have hst : 0 < F.st := by
    have := (hD.rng y d hy).1
    omega
  obtain ⟨st, hs⟩ : ∃ st : Nat, F.st = st := ⟨F.st.toNat, by omega⟩
  have hnd : (T.map fun t => (t.b + t.c).toNat * st + t.a.toNat).Nodup := by
    rw [List.Nodup, List.pairwise_map]
    refine List.Pairwise.imp_of_mem (fun {s t} hs' ht' h e => ?_) t3
    obtain ⟨⟨⟨a1, a2⟩, ⟨a3, a4⟩, a5, a6⟩, _⟩ := t2 s hs'
    obtain ⟨⟨⟨b1, b2⟩, ⟨b3, b4⟩, b5, b6⟩, _⟩ := t2 t ht'
    obtain ⟨h1, h2, h3⟩ := h
    have l1 : s.a.toNat < st := by omega
    have l2 : t.a.toNat < st := by omega
    have hq : (s.b + s.c).toNat = (t.b + t.c).toNat := by
      have e1 : ((s.b + s.c).toNat * st + s.a.toNat) / st = ((t.b + t.c).toNat * st + t.a.toNat) / st := congrArg (· / st) e
      rwa [Nat.mul_comm _ st, Nat.mul_comm _ st, Nat.mul_add_div (by omega), Nat.mul_add_div (by omega), Nat.div_eq_of_lt l1, Nat.div_eq_of_lt l2, Nat.add_zero, Nat.add_zero] at e1
    have ha : s.a = t.a := by rw [hq] at e; omega
    have hb : s.b = t.b := by omega
    have hc : s.c = t.c := by omega
    have : s = t := by
      cases s; cases t
      simp only at ha hb hc
      rw [ha, hb, hc]
    rw [this] at h1
    omega
  have hle := nodup_len _ (List.range ((u.length + v.length + 1) * st)) hnd (fun m hm => by
    obtain ⟨t, ht, rfl⟩ := List.mem_map.1 hm
    obtain ⟨⟨⟨b1, b2⟩, ⟨b3, b4⟩, b5, b6⟩, _⟩ := t2 t ht
    rw [List.mem_range]
    have h1 : (t.b + t.c).toNat ≤ u.length + v.length := by omega
    have h2 : t.a.toNat < st := by omega
    have h3 := Nat.mul_le_mul_right st h1
    rw [Nat.add_mul (u.length + v.length) 1 st, Nat.one_mul]
    omega)
  rw [List.length_map, List.length_range, t1] at hle
  rw [hs]
  have : (((u.length + v.length + 1) * st : Nat) : Int) = (st : Int) * (1 + (u.length : Int) + (v.length : Int)) := by
    rw [Int.natCast_mul, Int.mul_comm]
    congr 1
    omega
  rw [← this]
  omega
end

theorem endF_at {A : Trip → Option Int} {fin : List Int} {p q : Int} : ∀ k, k ≤ fin.length → (endF A fin p q k).2 ≠ -1 → ∃ (j : Nat) (d : Int), j < k ∧ (endF A fin p q k).1 = ⟨j, p, q⟩ ∧ A ⟨j, p, q⟩ = some d ∧ fin.getD j 0 ≠ -1 ∧ (endF A fin p q k).2 = d + fin.getD j 0
  | 0, _, h => absurd rfl h
  | k + 1, hk, h => by
    cases hd : A ⟨k, p, q⟩ with
    | none =>
      rw [endF_none hd] at h ⊢
      obtain ⟨j, d, h1, h2⟩ := endF_at k (by omega) h
      exact ⟨j, d, by omega, h2⟩
    | some d =>
      by_cases c : fin.getD k 0 ≠ -1 ∧ ((endF A fin p q k).2 = -1 ∨ d + fin.getD k 0 < (endF A fin p q k).2)
      · rw [endF_yes hd c.1 c.2]
        exact ⟨k, d, Nat.lt_succ_self _, rfl, hd, c.1, rfl⟩
      · have e : endF A fin p q (k + 1) = endF A fin p q k := by simp only [endF, hd]; exact if_neg c
        rw [e] at h ⊢
        obtain ⟨j, d, h1, h2⟩ := endF_at k (by omega) h
        exact ⟨j, d, by omega, h2⟩

/-- What a walk is. -/
structure Walked (F : TF) (u v : List Int) (l : List Int) (n : Int) (e : Nat) (c : Int) : Prop where
  e1 : e < F.fin.length
  fin : F.fin.getD e 0 ≠ -1
  sum : n = c + F.fin.getD e 0
  way : Steps F u v (st0 F) l ⟨e, u.length, v.length⟩ c
  len : (l.length : Int) ≤ F.st * (1 + (u.length : Int) + (v.length : Int))

theorem WalkIs.walked {F : TF} {u v : List Int} {E : Trip × Int} {l : List Int} (h : WalkIs F u v E l) (hE : E.2 ≠ -1) : ∃ e c, Walked F u v l E.2 e c := by
  obtain ⟨D, ord, rk, B, n, hD, hall, rfl, hr, hl⟩ := h
  obtain ⟨j, d, h1, h2, h3, h4, h5⟩ := endF_at _ (Nat.le_refl _) hE
  obtain ⟨f, hf, rfl⟩ := Option.map_eq_some_iff.1 h3
  rw [h2] at hr hl
  have hs := chain_steps hD hall n _ f hf hr
  have hn := chain_len hD hall hf hr
  rw [← hl, List.reverse_reverse] at hs
  rw [← hl, List.length_reverse] at hn
  exact ⟨j, f.cost, h1, h4, h5, hs, by omega⟩
theorem WalkIs.min {F : TF} {u v : List Int} {E : Trip × Int} {l : List Int} (hF : FOk F) (h : WalkIs F u v E l) : MinOf (Wt F u v) E.2 := by
  obtain ⟨D, ord, rk, B, n, hD, hall, rfl, hr, hl⟩ := h
  exact score_min hF (hD.least hall)

/-- What is trimmed costs the same. -/
theorem trim_min {F : TF} (hE : fstE F = 0) {p : Nat → Bool} (hp : UsOk F p) {u v : List Int} {m n : Int} (hm : MinOf (Wt F u v) m) (a b : Nat) (hn : MinOf (Wt ⟨(kT F p).st, (kT F p).start, (kT F p).fin, (kT F p).arcs, a, b⟩ u v) n) : n = m := by
  have hF := fstE_ok hE
  have h1 := hF.st
  have h2 := hF.arcl
  have h3 := hF.finl
  have hs := hF.start
  have hR : FRng F := ⟨by omega, h3, by omega, fun x hx => by have := hF.arc x hx; exact ⟨this.f0, this.f1, this.t0, this.t1⟩⟩
  exact hn.eq hm fun c => useful_wt (c := c) hR hs hp
theorem trim_fst {F : TF} (hE : fstE F = 0) (p : Nat → Bool) (a b : Nat) : fstE ⟨(kT F p).st, (kT F p).start, (kT F p).fin, (kT F p).arcs, a, b⟩ = 0 := by
  have hF := fstE_ok hE
  have h1 := hF.st
  have h2 := hF.arcl
  have h3 := hF.finl
  have hs := hF.start
  have hR : FRng F := ⟨by omega, h3, by omega, fun x hx => by have := hF.arc x hx; exact ⟨this.f0, this.f1, this.t0, this.t1⟩⟩
  have l1 := rkB_le p F.st.toNat
  have l2 := karc_len p F.arcs F.arcs.length
  have hl : (kT F p).st ≤ 200 ∧ (kT F p).arcs.length ≤ 3000 := by
    unfold kT
    split
    · simp only; omega
    · simp
  exact useful_fst hR hs (fstE_iff.1 hE).2 (fun x hx => by have := hF.arc x hx; exact ⟨this.i0, this.o0, this.w0, this.w1⟩) hF.fin hl.1 hl.2
end Go.Fw

namespace Go.Fw
open Go Go.Proofs

set_option maxHeartbeats 16000000 in
set_option maxRecDepth 20000 in
theorem useful_c (F : TF) (hF : FRng F) (hs : 0 ≤ F.start ∧ F.start < F.st) :
    Ct Tryd.prog 25 [fV F] [] (hpF F) 2 (fun v s => ∃ p, UsOk F p ∧ OutPost (kT F p).st (kT F p).start (kT F p).fin (kT F p).arcs 2 v s) := by
  have hst := hF.st
  have hal := hF.arcl
  have hfl := hF.finl
  refine ctW Tryd.tyOk 8 [9, 10, 11] Tryd.func25 rfl (by simp) (by simp) (fr := [(0, fV F)]) rfl ?_
  repeat' (first | exact rfl | ((conv => whnf); first | (refine qX (fun h => ?_) fun h => ?_ <;> try exact absurd h (by omega)) | refine oN ?_ | refine oM ?_ ?_ | refine bM ?_ ?_ | refine dR ?_))
  (conv => whnf)
  refine loopI (fun z : Nat × Nat => ⟨[(1, .c (.ptr 2 0)), (2, .c (.ptr 3 0)), (3, .c (.sl 4 1 0 (endL F.fin z.1).length ((endL F.fin z.1).length + z.2))), (9, .c (.sl 0 1 0 F.fin.length F.capF)), (10, .i F.fin.length), (11, .i z.1)],
      hpF F ++ [(2, .box 25 (fCells F)), (3, .box 25 [.i 0, .i 0, .v (.slice none 0 0), .v (.slice none 0 0)]), (4, .arr true 3 .int (endL F.fin z.1) z.2)], 5⟩)
    (fun z => z.1 ≤ F.fin.length) (fun z => F.fin.length - z.1) (0, 0) [(4, none)] ⟨by rfl, ?_, ?_⟩ (Nat.zero_le _) ?_
  · simp [endL, nilO]
  · simp [fCells, nilO, endL]
  · rintro ⟨k, sp⟩ hk
    simp only at hk ⊢
    have hkl := endL_len F.fin k
    have e0 : 0 + (k : Int).toNat = k := by omega
    have hks : endL F.fin (k + 1) = if F.fin.getD k 0 ≠ -1 then endL F.fin k ++ [(k : Int)] else endL F.fin k := rfl
    repeat' (first | exact rfl | ((conv => whnf); first | (refine qX (fun h => ?_) fun h => ?_ <;> try exact absurd h (by omega)) | refine oN ?_ | refine oM ?_ ?_ | refine bM ?_ ?_))
    · have h3 : F.fin.getD k 0 ≠ -1 := e0 ▸ h
      rw [if_pos h3] at hks
      intro sp2
      repeat' (first | exact rfl | ((conv => whnf); first | (refine qX (fun h => ?_) fun h => ?_ <;> try exact absurd h (by omega)) | refine oN ?_ | refine oM ?_ ?_ | refine bM ?_ ?_))
      (conv => whnf)
      refine ⟨(k + 1, sp2), [(4, some 6)], ⟨by rfl, ?_, ?_⟩, by simp only; omega, by simp only; omega⟩
      · simp [hks]
      · simp [hks, fCells]
        exact (app_one (endL F.fin k) _ (k : Int) rfl).symm
    · have h3 : F.fin.getD k 0 = -1 := e0 ▸ h
      rw [if_neg (by simpa using h3)] at hks
      (conv => whnf)
      refine ⟨(k + 1, sp), [], ⟨by rfl, ?_, ?_⟩, by simp only; omega, by simp only; omega⟩
      · simp [hks]
      · simp [hks, fCells]
    · have e : k = F.fin.length := by omega
      subst e
      have hst2 : (F.st.toNat : Int) = F.st := by omega
      have hn2 : F.fin.length = F.st.toNat := by omega
      have hx1 : ∀ x ∈ [F.start], 0 ≤ x ∧ x < (F.st.toNat : Nat) := fun x hx => by rw [List.mem_singleton] at hx; subst hx; omega
      have hx2 : ∀ x ∈ endL F.fin F.fin.length, 0 ≤ x ∧ x < (F.st.toNat : Nat) := fun x hx => by
        obtain ⟨e, h1, h2, rfl⟩ := (mem_endL _).1 hx
        omega
      (conv => whnf)
      refine drawCut (fun z : List Bool × List Bool => ⟨[(1, .c (.ptr 2 0)), (2, .c (.ptr 3 0)), (6, .c (.ptr 6 0)), (7, .c (.ptr 7 0))],
        hpF F ++ [(2, .box 25 (fCells F)), (3, .box 25 [.i 0, .i 0, .v (.slice none 0 0), .v (.slice none 0 0)]), (4, .arr true 4 .bool z.1 0), (5, .arr true 4 .bool z.2 0), (6, .box 77 [.sl 4 1 0 z.1.length z.1.length]), (7, .box 77 [.sl 5 1 0 z.2.length z.2.length])], 8⟩)
        (fun z => z.1.length = F.st.toNat ∧ z.2.length = F.st.toNat ∧ (∀ j, j < F.st.toNat → (z.1.getD j false = true ↔ Rch F.arcs false [F.start] j)) ∧ ∀ j, j < F.st.toNat → (z.2.getD j false = true ↔ Rch F.arcs true (endL F.fin F.fin.length) j)) ?_ ?_
      · repeat' (first | exact rfl | ((conv => whnf); first | (refine qX (fun h => ?_) fun h => ?_ <;> try exact absurd h (by omega)) | refine oN ?_ | refine oM ?_ ?_ | refine bM ?_ ?_ | refine dR ?_))
        all_goals
          (conv => whnf)
          first
          | (refine callF (reached_c F hF [F.start] 0 false hx1 (by simp)) [0, 1, 5] Tryd.call49 rfl ?_ ?_ ?_ ?_; (focus (simp; done)); (focus (simp; done)); (focus (simp; done)))
          | (refine callF (reached_c F hF [F.start] 0 false hx1 (by simp)) [0, 1, 6] Tryd.call49 rfl ?_ ?_ ?_ ?_; (focus (simp; done)); (focus (simp; done)); (focus (simp; done)))
          | (refine callF (reached_c F hF [F.start] 0 false hx1 (by simp)) [0, 1, 7] Tryd.call49 rfl ?_ ?_ ?_ ?_; (focus (simp; done)); (focus (simp; done)); (focus (simp; done)))
          rintro _ _ ⟨m1, rfl, rfl, hl1, hr1⟩
          repeat' (first | exact rfl | ((conv => whnf); first | (refine qX (fun h => ?_) fun h => ?_ <;> try exact absurd h (by omega)) | refine oN ?_ | refine oM ?_ ?_ | refine bM ?_ ?_ | refine dR ?_))
          all_goals
            (conv => whnf)
            refine cF (reached_c F hF (endL F.fin F.fin.length) sp true hx2 (by omega)) [0, 1, 4] Tryd.call49 ?_
            rintro _ _ ⟨m2, rfl, rfl, hl2, hr2⟩
            repeat' (first | exact rfl | ((conv => whnf); first | (refine qX (fun h => ?_) fun h => ?_ <;> try exact absurd h (by omega)) | refine oN ?_ | refine oM ?_ ?_ | refine bM ?_ ?_ | refine dR ?_))
            all_goals
              (conv => whnf)
              first
              | (refine ⟨(m1, m2), [(4, some 8), (5, some 9), (6, some 5), (7, some 6)], ⟨by rfl, ?_, ?_⟩, hl1, hl2, hr1, hr2⟩; (focus (simp; done)); (simp [fCells]; done))
              | (refine ⟨(m1, m2), [(4, some 8), (5, some 9), (6, some 5), (7, some 7)], ⟨by rfl, ?_, ?_⟩, hl1, hl2, hr1, hr2⟩; (focus (simp; done)); (simp [fCells]; done))
              | (refine ⟨(m1, m2), [(4, some 7), (5, some 9), (6, some 5), (7, some 8)], ⟨by rfl, ?_, ?_⟩, hl1, hl2, hr1, hr2⟩; (focus (simp; done)); (simp [fCells]; done))
              | (refine ⟨(m1, m2), [(4, some 7), (5, some 8), (6, some 5), (7, some 9)], ⟨by rfl, ?_, ?_⟩, hl1, hl2, hr1, hr2⟩; (focus (simp; done)); (simp [fCells]; done))
              | (refine ⟨(m1, m2), [(4, some 8), (5, some 9), (6, some 6), (7, some 5)], ⟨by rfl, ?_, ?_⟩, hl1, hl2, hr1, hr2⟩; (focus (simp; done)); (simp [fCells]; done))
              | (refine ⟨(m1, m2), [(4, some 8), (5, some 9), (6, some 6), (7, some 7)], ⟨by rfl, ?_, ?_⟩, hl1, hl2, hr1, hr2⟩; (focus (simp; done)); (simp [fCells]; done))
              | (refine ⟨(m1, m2), [(4, some 7), (5, some 9), (6, some 6), (7, some 8)], ⟨by rfl, ?_, ?_⟩, hl1, hl2, hr1, hr2⟩; (focus (simp; done)); (simp [fCells]; done))
              | (refine ⟨(m1, m2), [(4, some 7), (5, some 8), (6, some 6), (7, some 9)], ⟨by rfl, ?_, ?_⟩, hl1, hl2, hr1, hr2⟩; (focus (simp; done)); (simp [fCells]; done))
              | (refine ⟨(m1, m2), [(4, some 8), (5, some 9), (6, some 7), (7, some 5)], ⟨by rfl, ?_, ?_⟩, hl1, hl2, hr1, hr2⟩; (focus (simp; done)); (simp [fCells]; done))
              | (refine ⟨(m1, m2), [(4, some 8), (5, some 9), (6, some 7), (7, some 6)], ⟨by rfl, ?_, ?_⟩, hl1, hl2, hr1, hr2⟩; (focus (simp; done)); (simp [fCells]; done))
              | (refine ⟨(m1, m2), [(4, some 6), (5, some 9), (6, some 7), (7, some 8)], ⟨by rfl, ?_, ?_⟩, hl1, hl2, hr1, hr2⟩; (focus (simp; done)); (simp [fCells]; done))
              | (refine ⟨(m1, m2), [(4, some 6), (5, some 8), (6, some 7), (7, some 9)], ⟨by rfl, ?_, ?_⟩, hl1, hl2, hr1, hr2⟩; (focus (simp; done)); (simp [fCells]; done))
              | (refine ⟨(m1, m2), [(4, some 7), (5, some 9), (6, some 8), (7, some 5)], ⟨by rfl, ?_, ?_⟩, hl1, hl2, hr1, hr2⟩; (focus (simp; done)); (simp [fCells]; done))
              | (refine ⟨(m1, m2), [(4, some 7), (5, some 9), (6, some 8), (7, some 6)], ⟨by rfl, ?_, ?_⟩, hl1, hl2, hr1, hr2⟩; (focus (simp; done)); (simp [fCells]; done))
              | (refine ⟨(m1, m2), [(4, some 6), (5, some 9), (6, some 8), (7, some 7)], ⟨by rfl, ?_, ?_⟩, hl1, hl2, hr1, hr2⟩; (focus (simp; done)); (simp [fCells]; done))
              | (refine ⟨(m1, m2), [(4, some 6), (5, some 7), (6, some 8), (7, some 9)], ⟨by rfl, ?_, ?_⟩, hl1, hl2, hr1, hr2⟩; (focus (simp; done)); (simp [fCells]; done))
              | (refine ⟨(m1, m2), [(4, some 7), (5, some 8), (6, some 9), (7, some 5)], ⟨by rfl, ?_, ?_⟩, hl1, hl2, hr1, hr2⟩; (focus (simp; done)); (simp [fCells]; done))
              | (refine ⟨(m1, m2), [(4, some 7), (5, some 8), (6, some 9), (7, some 6)], ⟨by rfl, ?_, ?_⟩, hl1, hl2, hr1, hr2⟩; (focus (simp; done)); (simp [fCells]; done))
              | (refine ⟨(m1, m2), [(4, some 6), (5, some 8), (6, some 9), (7, some 7)], ⟨by rfl, ?_, ?_⟩, hl1, hl2, hr1, hr2⟩; (focus (simp; done)); (simp [fCells]; done))
              | (refine ⟨(m1, m2), [(4, some 6), (5, some 7), (6, some 9), (7, some 8)], ⟨by rfl, ?_, ?_⟩, hl1, hl2, hr1, hr2⟩; (focus (simp; done)); (simp [fCells]; done))
      · rintro ⟨m1, m2⟩ ⟨hl1, hl2, hr1, hr2⟩
        simp only at hl1 hl2 hr1 hr2 ⊢
        repeat' (first | exact rfl | ((conv => whnf); first | (refine qX (fun h => ?_) fun h => ?_ <;> try exact absurd h (by omega)) | refine oN ?_ | refine oM ?_ ?_ | refine bM ?_ ?_ | refine dR ?_))
        (conv => whnf)
        refine callF (kept_c F hF hs m1 m2 m1.length m2.length rfl rfl (by omega) (by omega)) [0, 1, 4, 5, 6, 7] Tryd.call50 rfl (by simp) (by simp) (by simp; omega) ?_
        intro v s hv
        rw [keptPost_iff] at hv
        have hus : UsOk F (kpB m1 m2) := ⟨fun j hj => by
          unfold kpB
          rw [Bool.and_eq_true, hr1 j hj, hr2 j hj, rch_some (bk := true)]
          constructor
          · rintro ⟨h1, x, h2, h3⟩
            obtain ⟨e, h4, h5, rfl⟩ := (mem_endL _).1 h2
            exact ⟨h1, e, by omega, h5, h3⟩
          · rintro ⟨h1, e, h2, h3, h4⟩
            exact ⟨h1, e, (mem_endL _).2 ⟨e, by omega, h3, rfl⟩, h4⟩⟩
        generalize hT : kT F (kpB m1 m2) = T at hv
        obtain ⟨tst, tstart, tfin, tarcs, tc1, tc2⟩ := T
        obtain ⟨sp3, sq3, rfl, rfl⟩ := hv
        simp only at *
        repeat' (first | exact rfl | ((conv => whnf); first | (refine qX (fun h => ?_) fun h => ?_ <;> try exact absurd h (by omega)) | refine oN ?_ | refine oM ?_ ?_ | refine bM ?_ ?_ | refine dR ?_))
        (conv => whnf)
        refine ⟨[(2, some 8), (3, some 9)], [(2, .arr true 3 .int tfin sp3), (3, .arr true 35 .arc tarcs sq3)], 4, .a (.agg [.i tst, .i tstart, .sl 2 1 0 tfin.length (tfin.length + sp3), .sl 3 5 0 tarcs.length (tarcs.length + sq3)]), ⟨by rfl, trivial, by simp⟩, by simp, kpB m1 m2, hus, ?_⟩
        rw [hT]
        exact ⟨sp3, sq3, rfl, rfl⟩
end Go.Fw

/-
  States without arcs that come to them go, over and over: what is left tells whether a way goes round.
-/
namespace Go.Fw

/-- How many places fit. -/
def cin (n : Nat) (p : Nat → Bool) : Nat := (List.range n).countP p

theorem cin_succ (n : Nat) (p : Nat → Bool) : cin (n + 1) p = cin n p + (if p n = true then 1 else 0) := by
  unfold cin
  rw [List.range_succ, List.countP_append, List.countP_singleton]
theorem cin_le (n : Nat) (p : Nat → Bool) : cin n p ≤ n := by
  have := List.countP_le_length (p := p) (l := List.range n)
  simpa [cin] using this
theorem cin_congr {n : Nat} {p q : Nat → Bool} (h : ∀ i, i < n → p i = q i) : cin n p = cin n q := by
  induction n with
  | zero => rfl
  | succ n ih => rw [cin_succ, cin_succ, ih (fun i hi => h i (by omega)), h n (by omega)]
theorem cin_one {n k : Nat} {p q : Nat → Bool} (hk : k < n) (hp : p k = true) (hq : q k = false) (h : ∀ i, i ≠ k → p i = q i) : cin n p = cin n q + 1 := by
  induction n with
  | zero => omega
  | succ n ih =>
    rw [cin_succ, cin_succ]
    by_cases e : k = n
    · subst e
      rw [cin_congr (p := p) (q := q) fun i hi => h i (by omega), hp, hq]
      simp
    · rw [ih (by omega), h n (fun c => e c.symm)]
      omega
theorem cin_zero {n : Nat} {p : Nat → Bool} : cin n p = 0 ↔ ∀ i, i < n → p i = false := by
  unfold cin
  rw [List.countP_eq_zero]
  constructor
  · intro h i hi
    have := h i (List.mem_range.2 hi)
    simpa using this
  · intro h a ha
    simp [h a (List.mem_range.1 ha)]
theorem cin_all {n : Nat} {p : Nat → Bool} : cin n p = n ↔ ∀ i, i < n → p i = true := by
  induction n with
  | zero => simp [cin]
  | succ n ih =>
    rw [cin_succ]
    have := cin_le n p
    constructor
    · intro h i hi
      by_cases hp : p n = true
      · rw [if_pos hp] at h
        by_cases e : i = n
        · subst e; exact hp
        · exact ih.1 (by omega) i (by omega)
      · rw [if_neg hp] at h; omega
    · intro h
      rw [if_pos (h n (by omega)), ih.2 fun i hi => h i (by omega)]

/-- Does a way of so many arcs end there? -/
def nowB (l : List Arc) : Nat → Int → Bool
  | 0, _ => true
  | k + 1, v => l.any fun a => a.t == v && nowB l k a.f
def roundB (l : List Arc) (n : Nat) : Bool := (List.range n).any fun v => nowB l n (v : Int)

structure Kh (l : List Arc) (n : Nat) (R st : List Int) (c : List Int) : Prop where
  len : c.length = n
  rng : ∀ v ∈ R ++ st, 0 ≤ v ∧ v < n
  nd : (R ++ st).Nodup
  cnt : ∀ v : Nat, v < n → c.getD v 0 = (cin l.length fun i => (l.getD i aD).t == (v : Int) && !decide ((l.getD i aD).f ∈ R) : Nat)
  zer : ∀ v : Nat, v < n → (c.getD v 0 = 0 ↔ (v : Int) ∈ R ++ st)
  top : ∀ a ∈ l, ∀ i : Nat, R[i]? = some a.t → ∃ j : Nat, j < i ∧ R[j]? = some a.f

structure KhM (l : List Arc) (n : Nat) (R : List Int) (x : Int) (st : List Int) (c : List Int) (k : Nat) : Prop where
  len : c.length = n
  rng : ∀ v ∈ R ++ (x :: st), 0 ≤ v ∧ v < n
  nd : (R ++ (x :: st)).Nodup
  cnt : ∀ v : Nat, v < n → c.getD v 0 = (cin l.length fun i => (l.getD i aD).t == (v : Int) && !decide ((l.getD i aD).f ∈ R) && !(decide (i < k) && (l.getD i aD).f == x) : Nat)
  zer : ∀ v : Nat, v < n → (c.getD v 0 = 0 ↔ (v : Int) ∈ R ++ (x :: st))
  top : ∀ a ∈ l, ∀ i : Nat, (R ++ [x])[i]? = some a.t → ∃ j : Nat, j < i ∧ (R ++ [x])[j]? = some a.f

section
variable {l : List Arc} {n : Nat} {R st c : List Int} {x : Int} {k : Nat}

theorem KhM.done (h : KhM l n R x st c l.length) : Kh l n (R ++ [x]) st c := by
  have e : R ++ [x] ++ st = R ++ (x :: st) := by simp
  refine ⟨h.len, fun v hv => h.rng v (by rw [← e]; exact hv), by rw [e]; exact h.nd, fun v hv => ?_, fun v hv => by rw [e]; exact h.zer v hv, h.top⟩
  rw [h.cnt v hv]
  congr 1
  apply cin_congr
  intro i hi
  have : ((l.getD i aD).f ∈ R ++ [x]) ↔ ((l.getD i aD).f ∈ R ∨ (l.getD i aD).f = x) := by simp
  rw [show decide ((l.getD i aD).f ∈ R ++ [x]) = (decide ((l.getD i aD).f ∈ R) || (l.getD i aD).f == x) by
    rw [decide_eq_decide.2 this, Bool.decide_or]; congr 1]
  simp only [hi, decide_true, Bool.true_and, Bool.not_or, Bool.and_assoc]

/-- How many are gone. -/
def goneN (n : Nat) (R : List Int) : Nat := cin n fun v => decide ((v : Int) ∈ R)
theorem goneN_le (n : Nat) (R : List Int) : goneN n R ≤ n := cin_le _ _
theorem gone_cons {n : Nat} {R R' : List Int} {x : Int} (hx : 0 ≤ x ∧ x < n) (hxR : x ∉ R) (hm : ∀ v, v ∈ R' ↔ v ∈ R ∨ v = x) : goneN n R' = goneN n R + 1 := by
  have hx0 : ((x.toNat : Nat) : Int) = x := by omega
  unfold goneN
  apply cin_one (k := x.toNat) (by omega)
  · rw [hx0]; exact decide_eq_true ((hm x).2 (.inr rfl))
  · rw [hx0]; exact decide_eq_false hxR
  · intro i hi
    apply decide_eq_decide.2
    rw [hm]
    constructor
    · rintro (h | h)
      · exact h
      · omega
    · exact .inl
theorem len_gone {n : Nat} : ∀ {R : List Int}, R.Nodup → (∀ v ∈ R, 0 ≤ v ∧ v < n) → R.length = goneN n R
  | [], _, _ => by
    unfold goneN
    rw [cin_zero.2 fun i _ => by simp]
    rfl
  | x :: R, hnd, hr => by
    rw [List.nodup_cons] at hnd
    rw [gone_cons (R := R) (hr x (by simp)) hnd.1 (fun v => by simp [or_comm]), List.length_cons, len_gone hnd.2 fun v hv => hr v (by simp [hv])]
theorem Kh.round (h : Kh l n R [] c) (hr : ∀ a ∈ l, (0 ≤ a.f ∧ a.f < n) ∧ 0 ≤ a.t ∧ a.t < n) : decide (goneN n R < n) = roundB l n := by
  by_cases hg : goneN n R < n
  · rw [decide_eq_true hg]
    have hex : ∃ v, v < n ∧ ((v : Nat) : Int) ∉ R := by
      refine Classical.byContradiction fun hc => ?_
      have : goneN n R = n := cin_all.2 fun i hi => by
        simp only [decide_eq_true_eq]
        exact Classical.byContradiction fun hn => hc ⟨i, hi, hn⟩
      omega
    have hall : ∀ k (v : Nat), v < n → ((v : Nat) : Int) ∉ R → nowB l k (v : Int) = true := by
      intro k
      induction k with
      | zero => intro v _ _; rfl
      | succ k ih =>
        intro v hv hn
        have hz : c.getD v 0 ≠ 0 := fun e => hn (by simpa using (h.zer v hv).1 e)
        rw [h.cnt v hv] at hz
        have hex2 : ∃ i, i < l.length ∧ ((l.getD i aD).t == (v : Int) && !decide ((l.getD i aD).f ∈ R)) = true := by
          refine Classical.byContradiction fun hc => hz ?_
          have : (cin l.length fun i => (l.getD i aD).t == (v : Int) && !decide ((l.getD i aD).f ∈ R)) = 0 := cin_zero.2 fun i hi => by
            cases hb : ((l.getD i aD).t == (v : Int) && !decide ((l.getD i aD).f ∈ R)) with
            | false => rfl
            | true => exact absurd ⟨i, hi, hb⟩ hc
          rw [this]; rfl
        obtain ⟨i, hi, hb⟩ := hex2
        simp only [Bool.and_eq_true, beq_iff_eq, Bool.not_eq_true', decide_eq_false_iff_not] at hb
        have ham := getD_mem l i aD hi
        have hr1 := (hr _ ham).1
        have hf0 : (((l.getD i aD).f.toNat : Nat) : Int) = (l.getD i aD).f := by omega
        have := ih (l.getD i aD).f.toNat (by omega) (by rw [hf0]; exact hb.2)
        rw [hf0] at this
        unfold nowB
        rw [List.any_eq_true]
        exact ⟨_, ham, by rw [this, hb.1]; simp⟩
    obtain ⟨v, hv, hn⟩ := hex
    unfold roundB
    symm
    rw [List.any_eq_true]
    exact ⟨v, List.mem_range.2 hv, hall n v hv hn⟩
  · rw [decide_eq_false hg]
    have hge : goneN n R = n := by have := goneN_le n R; omega
    have hin : ∀ v : Nat, v < n → (v : Int) ∈ R := fun v hv => by
      have := cin_all.1 hge v hv
      simpa using this
    have hrl : R.length ≤ n := by
      have hnd : R.Nodup := by have := h.nd; simpa using this
      rw [len_gone hnd fun v hv => h.rng v (by simpa using hv)]
      exact goneN_le n R
    have hlt : ∀ k (v : Int), nowB l k v = true → ∀ i, R[i]? = some v → k ≤ i := by
      intro k
      induction k with
      | zero => intro v _ i _; omega
      | succ k ih =>
        intro v hv i hi
        unfold nowB at hv
        rw [List.any_eq_true] at hv
        obtain ⟨a, ha, hb⟩ := hv
        simp only [Bool.and_eq_true, beq_iff_eq] at hb
        obtain ⟨j, hj, e⟩ := h.top a ha i (by rw [hi, hb.1])
        have := ih a.f hb.2 j e
        omega
    symm
    unfold roundB
    rw [List.any_eq_false]
    intro v hv
    have hv := List.mem_range.1 hv
    intro hb
    obtain ⟨i, hi, e⟩ := List.mem_iff_getElem.1 (hin v hv)
    have := hlt n v hb i (by rw [List.getElem?_eq_getElem hi, e])
    omega
end
end Go.Fw

/-
  Marks that go along arcs, over and over: as often as there are states is often enough.
-/
namespace Go.Fw

def mkP (l : List Arc) (bk : Bool) (ms : List Bool) : Nat → List Bool
  | 0 => ms
  | k + 1 => (mkP l bk ms k).set (dstA bk (l.getD k aD)).toNat ((mkP l bk ms k).getD (dstA bk (l.getD k aD)).toNat false || (mkP l bk ms k).getD (srcA bk (l.getD k aD)).toNat false)
def itM (l : List Arc) (bk : Bool) (ms : List Bool) : Nat → List Bool
  | 0 => ms
  | n + 1 => mkP l bk (itM l bk ms n) l.length

section
variable {l : List Arc} {bk : Bool} {n : Nat}

/-- No arc leads from a mark to none. -/
def ClosedM (l : List Arc) (bk : Bool) (ms : List Bool) : Prop := ∀ a ∈ l, ms.getD (srcA bk a).toNat false = true → ms.getD (dstA bk a).toNat false = true

/-- How many are marked. -/
def mcnt (n : Nat) (ms : List Bool) : Nat := cin n fun j => ms.getD j false
end
end Go.Fw

namespace Go.Fw
open Go Go.Proofs

abbrev zero25 : List SC := [.i 0, .i 0, .v (.slice none 0 0), .v (.slice none 0 0)]

/-- The number that a kept state has: those ahead of it. -/
def TrimTo (p : Nat → Bool) (k : Nat) (to : List Int) (n : Nat) : Prop := to.length = n ∧ ∀ j, j < k → p j = true → to.getD j 0 = (rkB p j : Nat)

end Go.Fw

/-
  Trim; what is useful is one thing alone.
-/
namespace Go.Fw
open Go Go.Proofs

theorem fstE_rng {F : TF} (h : fstE F = 0) : FRng F ∧ (0 ≤ F.start ∧ F.start < F.st) ∧ ∀ n ∈ F.fin, -1 ≤ n := by
  have hF := fstE_ok h
  have h1 := hF.st
  have h2 := hF.start
  have h3 := hF.finl
  have h4 := hF.arcl
  refine ⟨⟨by omega, by omega, by omega, fun a ha => ?_⟩, by omega, fun n hn => by have := hF.fin n hn; omega⟩
  obtain ⟨q1, q2, q3, q4, q5, q6, q7, q8⟩ := hF.arc a ha
  omega

/-- What is trimmed. -/
def TrimU (F : TF) (st sa : Int) (fin : List Int) (arcs : List Arc) : Prop :=
  (fstE F ≠ 0 ∧ st = 0 ∧ sa = 0 ∧ fin = [] ∧ arcs = []) ∨ (fstE F = 0 ∧ ∃ p, UsOk F p ∧ st = (kT F p).st ∧ sa = (kT F p).start ∧ fin = (kT F p).fin ∧ arcs = (kT F p).arcs)
def TrimPost (F : TF) (v : SV) (s : S) : Prop := ∃ st sa fin arcs sp sq, TrimU F st sa fin arcs ∧ v = .tup [.agg [.i st, .i sa, .sl 2 1 0 fin.length (fin.length + sp), .sl 3 5 0 arcs.length (arcs.length + sq)], .c (.i (fstE F))] ∧
  s = ⟨[], [(2, .arr true 3 .int fin sp), (3, .arr true 35 .arc arcs sq)], 4⟩

theorem trim_c (F : TF) (hl : F.fin.length ≤ 9223372036854775807) : Ct Tryd.prog 11 [fV F] [] (hpF F) 2 (TrimPost F) := by
  refine ctW Tryd.tyOk 5 [] Tryd.func11 rfl (by simp) (by simp) (fr := [(0, fV F)]) rfl ?_
  repeat' (first | exact rfl | ((conv => whnf); first | (refine qX (fun h => ?_) fun h => ?_ <;> try exact absurd h (by omega)) | refine oN ?_ | refine oM ?_ ?_ | refine bM ?_ ?_ | refine dR ?_))
  (conv => whnf)
  refine cF (check_c F hl) [0, 1] Tryd.call16 ?_
  rintro _ _ ⟨rfl, rfl⟩
  repeat' (first | exact rfl | ((conv => whnf); first | (refine qX (fun h => ?_) fun h => ?_ <;> try exact absurd h (by omega)) | refine oN ?_ | refine oM ?_ ?_ | refine bM ?_ ?_ | refine dR ?_))
  · (conv => whnf)
    exact ⟨[(2, none), (3, none)], [(2, .arr true 3 .int [] 0), (3, .arr true 35 .arc [] 0)], 4, .tup [.agg [.i 0, .i 0, .sl 2 1 0 0 0, .sl 3 5 0 0 0], .c (.i (fstE F))], ⟨by rfl, trivial, by simp [nilO]⟩, by simp, 0, 0, [], [], 0, 0, .inl ⟨h, rfl, rfl, rfl, rfl⟩, rfl, rfl⟩
  · obtain ⟨hr, hs, _⟩ := fstE_rng h
    (conv => whnf)
    refine cF (useful_c F hr hs) [0, 1] Tryd.call25 ?_
    rintro _ _ ⟨p, hp, sp, sq, rfl, rfl⟩
    have hU : TrimU F (kT F p).st (kT F p).start (kT F p).fin (kT F p).arcs := .inr ⟨h, p, hp, rfl, rfl, rfl, rfl⟩
    generalize kT F p = K at *
    obtain ⟨a, b, c, d, e, f⟩ := K
    repeat' (first | exact rfl | ((conv => whnf); first | (refine qX (fun h => ?_) fun h => ?_ <;> try exact absurd h (by omega)) | refine oN ?_ | refine oM ?_ ?_ | refine bM ?_ ?_ | refine dR ?_))
    (conv => whnf)
    simp only [Nat.reduceAdd, Nat.reduceSub]
    refine ⟨[(2, some 4), (3, some 5)], [(2, .arr true 3 .int c sp), (3, .arr true 35 .arc d sq)], 4, .tup [.agg [.i a, .i b, .sl 2 1 0 c.length (c.length + sp), .sl 3 5 0 d.length (d.length + sq)], .c (.i (fstE F))], ⟨by rfl, trivial, by simp⟩, by simp [h], a, b, c, d, sp, sq, hU, rfl, rfl⟩
end Go.Fw

/-
  (*strings.Builder).WriteString and String: what they leave of all other blocks, block by block; a builder as an object.
-/
namespace Go.Fw
open Go Go.Proofs Go.Shelf Go.RowKit

/-- Where an appended row lies. -/
theorem append_where {P : Program} (w : World) (t u ty e : TypeId) (i : TypeInfo) (ht : P.underlying t = some (.slice e)) (hu : P.underlying u = some .string) (hi : P.info? e = some i) (hz : i.zero = some (.int .u8 0))
    (hsize : i.size = 1) (hby : i.bytes = 1) (v : Value) (n : Nat) (xs : List Value) (hown : w.ownsRow 0 e 1 v n xs) (s : ByteArray) (hbytes : n + s.size ≤ 140737488355328) :
    ∃ v' w', (Builtin.append_ #[t, u] ty #[v, .string s]).run P w = .ok v' w' ∧ w'.ownsRow 0 e 1 v' (n + s.size) (xs ++ Lib.strCells s) ∧ w.grownBy w' v.ownBlock ∧ (v'.ownBlock = none ∨ v'.ownBlock = v.ownBlock ∨ v'.ownBlock = some w.heap.size) := by
  obtain ⟨v', w', hr, h2, h3, h4⟩ := Lib.run_append_own_string (P := P) w 0 t u ty e i ht hu hi hz hsize hby v n xs hown s (by unfold maxLen; omega) hbytes (Nat.zero_le _)
  refine ⟨v', w', hr, h2, h3, ?_⟩
  have hxl : xs.length = n := by simpa using hown.1
  rcases hown.2 with ⟨rfl, rfl⟩ | ⟨g, cap, cur, rfl, hbg, hg, hnc, hcm, hcs, htake⟩
  · by_cases hm : s.size = 0
    · rw [h4.2 ⟨rfl, hm⟩]; exact .inl rfl
    · have hr2 := run_append_nil_string (P := P) w t u ty e i (.int .u8 0) ht hu hi hz s (by omega) (by omega) (by rw [hby]; omega)
      rw [hr2] at hr
      cases hr
      exact .inr (.inr rfl)
  · by_cases hroom : n + s.size ≤ cap
    · have hcs' : cur.size = cap := by simpa using hcs
      have hr2 := Lib.run_append_room_string (P := P) w t u ty e i ht hu hi hsize g n cap cur hg s hroom (by omega)
      rw [hr2] at hr
      cases hr
      exact .inr (.inl rfl)
    · have holds : ∀ j u, xs[j]? = some u → w.cell? ((⟨g, 0, none⟩ : Addr).add j) = some u := hown.cells (g := g) rfl
      have hr2 := Lib.run_append_grow_string (P := P) w t u ty e i (.int .u8 0) ht hu hi hz ⟨g, 0, none⟩ n cap xs (by rw [hsize]; simpa using hxl) holds s (by omega) (by omega) (by rw [hby]; exact growslice_fits (by omega) (by omega))
      rw [hr2] at hr
      cases hr
      exact .inr (.inr rfl)

theorem append_step {P : Program} {w : World} {ops : Array Oper} {rest : List Oper} {o : Oper} {a : Act} {Q : Exit → Act → World → Prop} (hgd : o.guard = none) (sl x : Operand) (t u : TypeId) {e : TypeId}
    (ho : o.op = .call { callee := .builtin .append, args := #[sl, x], argTypes := #[t, u] }) (ht : P.underlying t = some (.slice e)) (hu : P.underlying u = some .string) (i : TypeInfo) (hi : P.info? e = some i) (hz : i.zero = some (.int .u8 0))
    (hsize : i.size = 1) (hby : i.bytes = 1) (v : Value) (n : Nat) (xs : List Value) (hown : w.ownsRow 0 e 1 v n xs) (s : ByteArray) (hs : a.eval sl = v) (hx : a.eval x = .string s) (hbytes : n + s.size ≤ 140737488355328)
    (k : ∀ v' w', w'.ownsRow 0 e 1 v' (n + s.size) (xs ++ Lib.strCells s) → w.grownBy w' v.ownBlock → (v'.ownBlock = none ∨ v'.ownBlock = v.ownBlock ∨ v'.ownBlock = some w.heap.size) → wpList P ops Q rest (a.put o.dst v') w') : wpList P ops Q (o :: rest) a w := by
  refine wpList_plain hgd fun K hK => ?_
  obtain ⟨v', w', hr, k2, k3, k4⟩ := append_where (P := P) w t u o.type e i ht hu hi hz hsize hby v n xs hown s hbytes
  unfold Oper.wp execOp
  simp only [ho, resolve, invoke, builtin, Sem.run_bind, Sem.run_pure, Result.andThen_ok, List.map_toArray, List.map_cons, List.map_nil, hs, hx, hr]
  exact hK _ _ (k v' w' k2 k3 k4)

/-- A builder, written out. -/
structure BldAt (b : Nat) (p v : Value) (l : List UInt8) (w : World) : Prop where
  row : w.heap[b]? = some (.cells #[p, v] 67 (0, 0))
  ptr : p = .pointer none ∨ p = .pointer (some ⟨b, 0, none⟩)
  own : w.ownsRow 0 5 1 v l.length (Lib.byteCells l)
  ne : v.ownBlock ≠ some b

theorem BldAt.is {b : Nat} {p v : Value} {l : List UInt8} {w : World} (h : BldAt b p v l w) : Lib.BuilderAt 67 5 0 b p (Lib.byteCells l) w := ⟨Nat.zero_le _, v, h.row, by rw [Lib.byteCells_length]; exact h.own, h.ne⟩

theorem check_run {b : Nat} {p v : Value} {l : List UInt8} {w : World} (h : BldAt b p v l w) :
    Calls Tryd.prog 52 #[.pointer (some ⟨b, 0, none⟩)] w fun e w' => e = .returned (.tuple #[]) ∧ BldAt b (.pointer (some ⟨b, 0, none⟩)) v l w' ∧ w.grownBy w' (some b) := by
  rcases h.ptr with hp | hp
  · subst hp
    have key : Calls Tryd.prog 52 #[.pointer (some ⟨b, 0, none⟩)] w _ := Any.Builder_copyCheck_fresh { bldLays with } bldX.toX72 b w h.is.cell0 h.is.shape h.is.frozen0
    refine key.mono ?_
    rintro e w' ⟨rfl, rfl⟩
    refine ⟨rfl, ⟨?_, .inr rfl, ?_, h.ne⟩, ⟨rfl, rfl, rfl, by simp [World.setCell], fun k _ hk => Below.heap_setCell _ _ _ _ (fun e => hk (by simp [e]))⟩⟩
    · simp [World.setCell, Array.getElem?_modify, h.row]
    · exact h.own.kept (row := some b) ⟨rfl, rfl, rfl, by simp [World.setCell], fun k _ hk => Below.heap_setCell _ _ _ _ (fun e => hk (by simp [e]))⟩ (Or.inr h.ne)
  · subst hp
    have key : Calls Tryd.prog 52 #[.pointer (some ⟨b, 0, none⟩)] w _ := Any.Builder_copyCheck_used { bldLays with } bldX.toX72 b w h.is.cell0
    refine key.mono ?_
    rintro e w' ⟨rfl, rfl⟩
    exact ⟨rfl, h, ⟨rfl, rfl, rfl, Nat.le_refl _, fun _ _ _ => rfl⟩⟩

theorem strCells_bs (l : List UInt8) : Lib.strCells (bs l) = Lib.byteCells l := by rw [Lib.strCells_eq, bs_data]

/-- The row of a builder behind a write. -/
def RowAt (w : World) (v v' : Value) : Prop := v'.ownBlock = none ∨ v'.ownBlock = v.ownBlock ∨ ∃ k, v'.ownBlock = some k ∧ w.heap.size ≤ k

set_option maxHeartbeats 2000000 in
set_option maxRecDepth 100000 in
theorem write_run {b : Nat} {p v : Value} {l : List UInt8} {w : World} (h : BldAt b p v l w) (s : List UInt8) (hlen : l.length + s.length ≤ 140737488355328) :
    Calls Tryd.prog 26 #[.pointer (some ⟨b, 0, none⟩), .string (bs s)] w fun e w' => e = .returned (.tuple #[.int .i64 s.length, .nilIface]) ∧
      ∃ v', BldAt b (.pointer (some ⟨b, 0, none⟩)) v' (l ++ s) w' ∧ RowAt w v v' ∧ w.heap.size ≤ w'.heap.size ∧ Ext (fun k => k < w.heap.size ∧ k ≠ b ∧ some k ≠ v.ownBlock) w w' := by
  obtain ⟨i0, hi, hz0, hz1, hz2⟩ := info_parts bldX.infoByte
  have u65 : Tryd.prog.underlying 65 = some (.slice 5) := bldLays.t37
  have u9 : Tryd.prog.underlying 9 = some .string := bldLays.t9
  go_enter Tryd.func26, Tryd.ntmps26
  go_wp2_with (go_at_call 52; refine (check_run h).mono ?_)
  rintro e w1 ⟨rfl, h1, hg1⟩
  have c1 : w1.cell? ⟨b, 1, none⟩ = some v := by rw [Lib.cell_of_heap h1.row]; rfl
  have hblt : b < w1.heap.size := (Array.getElem?_eq_some_iff.1 h1.row).1
  go_wp2_with (at_builtin; refine append_step rfl _ _ 65 9 rfl u65 u9 i0 hi hz0 hz1 hz2 v _ _ h1.own (bs s) rfl rfl (by rw [bs_size]; omega) ?_)
  intro v' w2 hown' hgrow hwh
  have hb2 : w2.heap[b]? = some (.cells #[.pointer (some ⟨b, 0, none⟩), v] 67 (0, 0)) := by
    rw [hgrow.block b hblt (fun e => h1.ne e.symm)]
    exact h1.row
  have d0 : w2.cell? ⟨b, 0, none⟩ = some (.pointer (some ⟨b, 0, none⟩)) := by rw [Lib.cell_of_heap hb2]; rfl
  have d1 : w2.cell? ⟨b, 1, none⟩ = some v := by rw [Lib.cell_of_heap hb2]; rfl
  have f1 : w2.frozen? ⟨b, 1, none⟩ = false := Lib.frozen_of_heap hb2 1
  obtain ⟨ao, n', cap, rfl⟩ : ∃ ao n' cap, v' = .slice ao n' cap := by
    rcases hown'.2 with ⟨hv, _⟩ | ⟨g, cap, cur, hv, _⟩
    · exact ⟨_, _, _, hv⟩
    · exact ⟨_, _, _, hv⟩
  go_wp2
  go_ret2
  rw [strCells_bs, ← Lib.byteCells_append, bs_size] at hown'
  have hput := Lib.BuilderAt.put (T := 67) (e := 5) (Nat.zero_le b) hb2 (bs' := Lib.byteCells (l ++ s)) (by rw [Lib.byteCells_length, List.length_append]; exact hown') (by decide)
  obtain ⟨_, v3, hr3, ho3, hn3⟩ := hput
  have hv3 : v3 = .slice ao n' cap := by
    have h3 : (w2.setCell ⟨b, 1, none⟩ (.slice ao n' cap)).heap[b]? = some (.cells #[.pointer (some ⟨b, 0, none⟩), .slice ao n' cap] 67 (0, 0)) := by simp [World.setCell, Array.getElem?_modify, hb2]
    rw [h3] at hr3
    simp at hr3
    exact hr3.symm
  subst hv3
  refine ⟨by rw [bs_size]; rfl, .slice ao n' cap, ⟨hr3, .inr rfl, by rw [Lib.byteCells_length] at ho3; exact ho3, hn3⟩, ?_, ?_, ?_⟩
  · rcases hwh with h | h | h
    · exact .inl h
    · exact .inr (.inl h)
    · exact .inr (.inr ⟨_, h, hg1.size⟩)
  · have := hg1.size
    have := hgrow.size
    simp [World.setCell]
    omega
  · refine ⟨hgrow.os.trans hg1.os, hgrow.tape.trans hg1.tape, hgrow.output.trans hg1.output, ?_, ?_⟩
    · have := hg1.size
      have := hgrow.size
      simp [World.setCell]
      omega
    · rintro k ⟨hk1, hk2, hk3⟩
      rw [Below.heap_setCell _ _ _ _ hk2, hgrow.block k (Nat.lt_of_lt_of_le hk1 hg1.size) hk3]
      exact hg1.block k hk1 (fun e => hk2 (Option.some.inj e))

set_option maxHeartbeats 2000000 in
set_option maxRecDepth 100000 in
theorem string_run {b : Nat} {p v : Value} {l : List UInt8} {w : World} (h : BldAt b p v l w) (h0 : l ≠ []) :
    Calls Tryd.prog 29 #[.pointer (some ⟨b, 0, none⟩)] w fun e w' => e = .returned (.string (bs l)) ∧ Ext (fun k => some k ≠ v.ownBlock) w w' := by
  obtain ⟨hbk, hptr, hown, hne⟩ := h
  have hl0 : l.length ≠ 0 := by simpa using h0
  obtain ⟨g, cap, cur, rfl, hbg, hg, hnc, hcm, hcs, htake⟩ : ∃ g cap cur, v = .slice (some ⟨g, 0, none⟩) l.length cap ∧ 0 ≤ g ∧ w.heap[g]? = some (.cells cur 5 (0, 0)) ∧ l.length ≤ cap ∧ cap ≤ maxLen ∧ cur.size = cap * 1 ∧ cur.toList.take (l.length * 1) = Lib.byteCells l := by
    rcases hown.2 with ⟨_, hz⟩ | hr
    · exact absurd hz hl0
    · exact hr
  have u97 : Tryd.prog.underlying 97 = some (.pointer 5) := strLays.t127
  have c1 : w.drew.cell? ⟨b, 1, none⟩ = some (.slice (some ⟨g, 0, none⟩) l.length cap) := by
    have : w.drew.heap[b]? = some (.cells #[p, .slice (some ⟨g, 0, none⟩) l.length cap] 67 (0, 0)) := hbk
    rw [Lib.cell_of_heap this]; rfl
  have hSD : (Builtin.unsafeSliceData_ #[65] 97 #[.slice (some ⟨g, 0, none⟩) l.length cap]).run Tryd.prog w.drew = .ok (.pointer (some ⟨g, 0, none⟩)) w.drew := Lib.run_unsafeSliceData_row _ _ _ _ _ _ (by omega)
  have hUS : (Builtin.unsafeString_ #[97, 3] 9 #[.pointer (some ⟨g, 0, none⟩), .int .i64 l.length]).run Tryd.prog w.drew = .ok (.string ⟨l.toArray⟩) (w.drew.freeze ⟨g, 0, none⟩ l.length) := by
    refine Lib.run_unsafeString_row w.drew 97 3 9 5 u97 bldX.cellsByte g cur.size (by have hg' : w.drew.heap[g]? = some (.cells cur 5 (0, 0)) := hg; simp [World.shape?, hg']) l h0 (by omega) (by unfold maxLen at hcm; omega) ?_
    intro j x hx
    exact hown.cells (g := g) rfl j (.int .u8 x.toNat) (by simp [Lib.byteCells, hx])
  have hfin : Ext (fun k => some k ≠ (Value.slice (some ⟨g, 0, none⟩) l.length cap).ownBlock) w (w.drew.freeze ⟨g, 0, none⟩ l.length) := by
    have hb := Lib.below_freeze (B := 0) (Below.drew (Below.refl 0 w)) (p := ⟨g, 0, none⟩) (Nat.zero_le _) l.length
    refine ⟨hb.os, hb.tape, hb.output, hb.size, fun k hk => ?_⟩
    have hkg : k ≠ g := fun e => hk (by rw [e]; rfl)
    unfold World.freeze
    split
    · rfl
    · simp [Array.getElem?_modify, Ne.symm hkg]
      rfl
  have mixed := Tryd.mixed
  go_enter Tryd.func29, Tryd.ntmps29
  go_wp2
  go_region_o
  all_goals (go_wp2; go_ret; exact ⟨rfl, hfin⟩)
end Go.Fw

/-
  A builder as an object; its two functions' contracts.
-/
namespace Go.Fw
open Go Go.Proofs

def BldIs (l : List UInt8) (oa : Option Addr) (fp : Nat → Prop) (w : World) : Prop := ∃ b p v, oa = some ⟨b, 0, none⟩ ∧ fp b ∧ BldAt b p v l w ∧ ∀ k, v.ownBlock = some k → fp k
abbrev bldO (l : List UInt8) : SO := .gen (BldIs l)

theorem BldAt.kept {b : Nat} {p v : Value} {l : List UInt8} {w w' : World} (h : BldAt b p v l w) (h1 : w'.heap[b]? = w.heap[b]?) (h2 : ∀ k, v.ownBlock = some k → w'.heap[k]? = w.heap[k]?) : BldAt b p v l w' := by
  refine ⟨h1.trans h.row, h.ptr, ⟨h.own.1, ?_⟩, h.ne⟩
  rcases h.own.2 with hn | ⟨g, cap, cur, rfl, hbg, hg, hr⟩
  · exact .inl hn
  · exact .inr ⟨g, cap, cur, rfl, hbg, (h2 g rfl).trans hg, hr⟩

theorem BldIs.ok {l : List UInt8} {oa : Option Addr} {fp : Nat → Prop} {w : World} {β : Env} {Z : Nat → Prop} (h : BldIs l oa fp w) : SO.ok β Z fp w oa (bldO l) := by
  refine ⟨h, fun w' hw _ => ?_⟩
  obtain ⟨b, p, v, e, hb, hat, hk⟩ := h
  exact ⟨b, p, v, e, hb, hat.kept (hw b hb) (fun k hk2 => hw k (hk k hk2)), hk⟩

theorem write_go {β : Env} {Z : Nat → Prop} {fp : Nat → Nat → Prop} {w : World} {o : SO} (hs : HSat β Z fp ⟨[], [(0, o)], 1⟩ w) {l : List UInt8} (h : BldIs l (β 0) (fp 0) w) (s : List UInt8) (hlen : l.length + s.length ≤ 140737488355328) :
    Calls Tryd.prog 26 ([SV.c (.ptr 0 0), stV s].map (SV.den β) ++ []).toArray w fun e w' => ∃ v β' Z' fp' s', e = .returned (v.den β') ∧ Nxt β Z ⟨[], [(0, o)], 1⟩ w v w' β' Z' fp' ⟨[], s'.hp, s'.nx⟩ ∧
      (v = .tup [.c (.i s.length), .c (.v .nilIface)] ∧ s' = (⟨[], [(0, bldO (l ++ s))], 1⟩ : S)) := by
  obtain ⟨b, p, v, e, hb, hat, hk⟩ := h
  have harg : ([SV.c (.ptr 0 0), stV s].map (SV.den β) ++ []).toArray = #[Value.pointer (some ⟨b, 0, none⟩), .string (bs s)] := by
    simp [SV.den, SA.den, SC.den, e, Addr.add_lit]
  rw [harg]
  refine (write_run hat s hlen).mono ?_
  rintro e' w' ⟨rfl, v', hat', hrow, hsz, hext⟩
  have hfl := fun k hk => hs.flt 0 o rfl k hk
  have hfp : ∀ k, v'.ownBlock = some k → fp 0 k ∨ w.heap.size ≤ k := by
    intro k h'
    rcases hrow with h1 | h1 | ⟨k2, h1, h2⟩
    · rw [h1] at h'; cases h'
    · exact .inl (hk k (h1.symm.trans h'))
    · rw [h1] at h'; cases h'; exact .inr h2
  refine ⟨.tup [.c (.i s.length), .c (.v .nilIface)], β, Z, fun id k => id = 0 ∧ (fp 0 k ∨ v'.ownBlock = some k), ⟨[], [(0, bldO (l ++ s))], 1⟩, rfl, ⟨fun _ _ => rfl, ?_, fun _ h => h, rfl, Nat.le_refl _, ⟨?_, ?_, ?_, ?_, ?_⟩, ?_⟩, rfl, rfl⟩
  · refine hext.mono fun k hz => ⟨hs.zlt k hz, fun e => ?_, fun e => ?_⟩
    · subst e; exact (hfl _ hb).2 hz
    · exact (hfl k (hk k e.symm)).2 hz
  · exact ⟨hs.zlt'.1, fun k hz => Nat.lt_of_lt_of_le (hs.zlt k hz) hsz⟩
  · rintro id o' hl k ⟨rfl, hf⟩
    rcases hf with hf | hf
    · exact ⟨Nat.lt_of_lt_of_le (hfl k hf).1 hsz, (hfl k hf).2⟩
    · rcases hfp k hf with h1 | h1
      · exact ⟨Nat.lt_of_lt_of_le (hfl k h1).1 hsz, (hfl k h1).2⟩
      · exact ⟨(hat'.own.lt k hf).2, fun hz => absurd (hs.zlt k hz) (by omega)⟩
  · rintro id id' o1 o2 hl hl' hne k ⟨rfl, _⟩ ⟨rfl, _⟩
    exact hne rfl
  · intro id o' hl
    simp only [look_cons] at hl
    split at hl
    · rename_i e0
      subst e0
      cases hl
      exact BldIs.ok ⟨b, _, v', e, ⟨rfl, .inl hb⟩, hat', fun k hk' => ⟨rfl, .inr hk'⟩⟩
    · cases hl
  · intro id o' hl
    simp only [look_cons] at hl
    split at hl
    · rename_i e0
      subst e0
      cases hl
      exact ⟨Nat.one_pos, trivial⟩
    · cases hl
  · simp [SV.lt, SA.lt, SC.lt, Value.oneCell']

theorem write_c (l s : List UInt8) (hlen : l.length + s.length ≤ 140737488355328) :
    Ct Tryd.prog 26 [.c (.ptr 0 0), stV s] [] [(0, bldO l)] 1 (fun v s' => v = .tup [.c (.i s.length), .c (.v .nilIface)] ∧ s' = ⟨[], [(0, bldO (l ++ s))], 1⟩) :=
  fun _ _ _ _ hs => write_go hs (hs.obj 0 _ rfl).1 s hlen

theorem write0_c (s : List UInt8) (hlen : s.length ≤ 140737488355328) :
    Ct Tryd.prog 26 [.c (.ptr 0 0), stV s] [] [(0, .box 67 [.v (.pointer none), .v (.slice none 0 0)])] 1 (fun v s' => v = .tup [.c (.i s.length), .c (.v .nilIface)] ∧ s' = ⟨[], [(0, bldO s)], 1⟩) := by
  intro β Z fp w hs
  obtain ⟨b, e, hb, hh⟩ := hs.obj 0 _ rfl
  have := write_go hs (l := []) ⟨b, .pointer none, .slice none 0 0, e, hb, ⟨hh, .inl rfl, World.ownsRow_nil _ _ _ _, by simp [Value.ownBlock]⟩, fun k hk => by cases hk⟩ s (by simpa using hlen)
  rwa [List.nil_append] at this

theorem string_c (l : List UInt8) (h0 : l ≠ []) : Ct Tryd.prog 29 [.c (.ptr 0 0)] [] [(0, bldO l)] 1 (fun v s' => v = stV l ∧ s' = ⟨[], [], 1⟩) := by
  intro β Z fp w hs
  obtain ⟨b, p, v, e, hb, hat, hk⟩ := (hs.obj 0 _ rfl).1
  have harg : ([SV.c (.ptr 0 0)].map (SV.den β) ++ []).toArray = #[Value.pointer (some ⟨b, 0, none⟩)] := by
    simp [SV.den, SA.den, SC.den, e, Addr.add_lit]
  rw [harg]
  refine (string_run hat h0).mono ?_
  rintro e' w' ⟨rfl, hext⟩
  have hfl := fun k hk => hs.flt 0 _ rfl k hk
  refine ⟨stV l, β, Z, fun _ _ => False, ⟨[], [], 1⟩, rfl, ⟨fun _ _ => rfl, ?_, fun _ h => h, rfl, Nat.le_refl _, ⟨?_, ?_, ?_, ?_, ?_⟩, ?_⟩, rfl, rfl⟩
  · exact hext.mono fun k hz e => (hfl k (hk k e.symm)).2 hz
  · exact ⟨hs.zlt'.1, fun k hz => Nat.lt_of_lt_of_le (hs.zlt k hz) hext.size⟩
  · rintro id o' hl; cases hl
  · rintro id id' o1 o2 hl; cases hl
  · intro id o' hl; cases hl
  · intro id o' hl; cases hl
  · simp [SV.lt, SA.lt, SC.lt, Value.oneCell']
end Go.Fw

/-
  The reference's digits of a number.
-/
namespace Go.Fw
open Go Go.Proofs Go.RowKit

end Go.Fw

/-
  The reference's digits of a number: Digits.
-/
namespace Go.Fw
open Go Go.Proofs

attribute [simp] Value.oneCell' mk_bs

theorem itoa_len21 {n : Int} (h0 : 0 ≤ n) (h1 : n ≤ 9223372036854775807) : (Lib.itoa n).length ≤ 21 := Lib.itoa_length_le n (by omega) h1

end Go.Fw

/-
  line: numbers behind a word.
-/
namespace Go.Fw
open Go Go.Proofs

/-- What stands ahead of a number. -/
def gapL (word : List UInt8) (k : Nat) : List UInt8 := if 0 < k ∨ word ≠ [] then [32] else []
/-- The line so far. -/
def lnK (word : List UInt8) (ns : List Int) : Nat → List UInt8
  | 0 => word
  | k + 1 => lnK word ns k ++ gapL word k ++ Lib.itoa (ns.getD k 0)
def lnF (word : List UInt8) (ns : List Int) : List UInt8 := lnK word ns ns.length ++ [10]

theorem gapL_len (word : List UInt8) (k : Nat) : (gapL word k).length ≤ 1 := by
  unfold gapL
  split <;> simp
theorem lnK_len {word : List UInt8} {ns : List Int} (hn : ∀ n ∈ ns, 0 ≤ n ∧ n ≤ 9223372036854775807) : ∀ k : Nat, k ≤ ns.length → (lnK word ns k).length ≤ word.length + 22 * k
  | 0, _ => by simp [lnK]
  | k + 1, hk => by
    have h1 := lnK_len hn (word := word) k (by omega)
    have h2 := hn _ (getD_mem ns k 0 (by omega))
    have h3 := itoa_len21 h2.1 h2.2
    have h4 := gapL_len word k
    simp only [lnK, List.length_append]
    omega

set_option maxHeartbeats 16000000 in
set_option maxRecDepth 20000 in
theorem line_c (g : Glo) (hg : GloX g) (word : List UInt8) (ns : List Int) (cap : Nat) (hw : word.length ≤ 100) (hl : ns.length ≤ 100) (hn : ∀ n ∈ ns, 0 ≤ n ∧ n ≤ 9223372036854775807) :
    Ct Tryd.prog 28 [stV word, .c (.sl 0 1 0 ns.length cap)] [] [(0, .arr false 3 .int ns 0), (1, gloO g)] 2 (fun v s => v = stV (lnF word ns) ∧ s = ⟨[], [(1, gloO g)], 2⟩) := by
  refine ctW Tryd.tyOk 8 [9, 10, 11] Tryd.func28 rfl (by simp) (by simp) (fr := [(0, stV word), (1, .c (.sl 0 1 0 ns.length cap))]) rfl ?_
  repeat' (first | exact rfl | ((conv => whnf); first | (refine qX (fun h => ?_) fun h => ?_ <;> try exact absurd h (by omega)) | refine oN ?_ | refine oM ?_ ?_ | refine bM ?_ ?_ | refine dR ?_))
  (conv => whnf)
  refine loopI (fun k : Nat => ⟨[(0, stV word), (5, stV (lnK word ns k)), (9, .c (.sl 0 1 0 ns.length cap)), (10, .i ns.length), (11, .i k)], [(0, .arr false 3 .int ns 0), (1, gloO g)], 2⟩)
    (fun k => k ≤ ns.length) (fun k => ns.length - k) 0 [] ⟨by rfl, ?_, ?_⟩ (Nat.zero_le _) ?_
  · simp [lnK]
  · simp [gloO]
  · intro k hk
    have hkl := lnK_len hn (word := word) k hk
    (conv => whnf)
    refine condP_dec (fun hk2 => ?_) (fun hk2 => ?_)
    · have hr := hn _ (getD_mem ns k 0 (by omega))
      have e0 : 0 + (k : Int).toNat = k := by omega
      have hi := itoa_len21 hr.1 hr.2
      have hs : lnK word ns (k + 1) = lnK word ns k ++ gapL word k ++ Lib.itoa (ns.getD k 0) := rfl
      generalize hx : lnK word ns k = x at *
      have hv : ns.getD (0 + (k : Int).toNat) EK.int.dflt = ns.getD k 0 := by rw [e0]; rfl
      have hend : ∀ gp : List UInt8, gapL word k = gp → bs (lnK word ns (k + 1)) = bs x ++ bs gp ++ bs (Lib.itoa (ns.getD k 0)) := fun gp h => by rw [hs, h, bs_app, bs_app]
      clear hs
      repeat' (first | exact rfl | ((conv => whnf); first | (refine qX (fun h => ?_) fun h => ?_ <;> try exact absurd h (by omega)) | refine oN ?_ | refine oM ?_ ?_ | refine bM ?_ ?_ | refine dR ?_))
      · (conv => whnf)
        rw [hv]
        refine cF (itoa_c g hg (ns.getD k 0) (by omega) (by omega)) [1] Tryd.call27 ?_
        rintro _ _ ⟨rfl, rfl⟩
        repeat' (first | exact rfl | ((conv => whnf); first | (refine qX (fun h => ?_) fun h => ?_ <;> try exact absurd h (by omega)) | refine oN ?_ | refine oM ?_ ?_ | refine bM ?_ ?_ | refine dR ?_))
        (conv => whnf)
        refine ⟨k + 1, [], ⟨by rfl, ?_, ?_⟩, by omega, by omega⟩
        · have := hend [32] (by unfold gapL; rw [if_pos (.inl (by omega))])
          simp [this, mk_bs]
        · simp [gloO]
      · rw [bs_data] at h
        (conv => whnf)
        rw [hv]
        refine cF (itoa_c g hg (ns.getD k 0) (by omega) (by omega)) [1] Tryd.call27 ?_
        rintro _ _ ⟨rfl, rfl⟩
        repeat' (first | exact rfl | ((conv => whnf); first | (refine qX (fun h => ?_) fun h => ?_ <;> try exact absurd h (by omega)) | refine oN ?_ | refine oM ?_ ?_ | refine bM ?_ ?_ | refine dR ?_))
        (conv => whnf)
        refine ⟨k + 1, [], ⟨by rfl, ?_, ?_⟩, by omega, by omega⟩
        · have := hend [32] (by unfold gapL; rw [if_pos (.inr h)])
          simp [this, mk_bs]
        · simp [gloO]
      · rw [bs_data] at h
        (conv => whnf)
        rw [hv]
        refine cF (itoa_c g hg (ns.getD k 0) (by omega) (by omega)) [1] Tryd.call27 ?_
        rintro _ _ ⟨rfl, rfl⟩
        repeat' (first | exact rfl | ((conv => whnf); first | (refine qX (fun h => ?_) fun h => ?_ <;> try exact absurd h (by omega)) | refine oN ?_ | refine oM ?_ ?_ | refine bM ?_ ?_ | refine dR ?_))
        (conv => whnf)
        refine ⟨k + 1, [], ⟨by rfl, ?_, ?_⟩, by omega, by omega⟩
        · have := hend [] (by unfold gapL; rw [if_neg (by rintro (h1 | h1) <;> first | omega | exact h1 h)])
          rw [show bs x ++ bs [] = bs x by rw [bs_app, List.append_nil]] at this
          simp [this, mk_bs]
        · simp [gloO]
    · have e : k = ns.length := by omega
      subst e
      repeat' (first | exact rfl | ((conv => whnf); first | (refine qX (fun h => ?_) fun h => ?_ <;> try exact absurd h (by omega)) | refine oN ?_ | refine oM ?_ ?_ | refine bM ?_ ?_ | refine dR ?_))
      (conv => whnf)
      exact ⟨[], [(1, gloO g)], 2, stV (lnF word ns), ⟨by rfl, trivial, by simp [gloO]⟩, by simp [lnF, mk_bs, bs_app], rfl, rfl⟩
end Go.Fw
