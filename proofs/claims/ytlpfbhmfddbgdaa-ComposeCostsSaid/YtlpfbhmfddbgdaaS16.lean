/-
  The composer: what it holds when pair after pair is done; how many pairs and arcs there are.
-/
import Derived.Test.YtlpfbhmfddbgdaaS15
import Derived.Test.YtlpfbhmfddbgdaaS13

set_option linter.unusedSimpArgs false
set_option linter.unusedVariables false

namespace Go.Fw
open Go

/-! ### Sums -/
def sumF {α : Type} (f : α → Nat) : List α → Nat
  | [] => 0
  | x :: l => f x + sumF f l

theorem sumF_app {α : Type} (f : α → Nat) (l m : List α) : sumF f (l ++ m) = sumF f l + sumF f m := by
  induction l with
  | nil => simp [sumF]
  | cons x l ih => simp only [List.cons_append, sumF, ih]; omega
theorem sumF_mono {α : Type} {f g : α → Nat} (l : List α) (h : ∀ x ∈ l, f x ≤ g x) : sumF f l ≤ sumF g l := by
  induction l with
  | nil => exact Nat.le_refl _
  | cons x l ih =>
    have := h x (by simp)
    have := ih fun y hy => h y (by simp [hy])
    simp only [sumF]; omega
theorem sumF_erase {α : Type} [BEq α] [LawfulBEq α] (f : α → Nat) {l : List α} {x : α} (h : x ∈ l) : sumF f l = f x + sumF f (l.erase x) := by
  induction l with
  | nil => cases h
  | cons y l ih =>
    by_cases e : y = x
    · subst e; simp [sumF]
    · have hx : x ∈ l := by
        rcases List.mem_cons.1 h with h | h
        · exact absurd h.symm e
        · exact h
      rw [List.erase_cons_tail (by simpa using e)]
      simp only [sumF, ih hx]; omega
theorem sumF_sub {α : Type} [BEq α] [LawfulBEq α] (f : α → Nat) : ∀ (l m : List α), l.Nodup → (∀ x ∈ l, x ∈ m) → sumF f l ≤ sumF f m
  | [], m, _, _ => Nat.zero_le _
  | x :: l, m, hn, hs => by
    have hx := hs x (by simp)
    rw [List.nodup_cons] at hn
    rw [sumF_erase f hx]
    have := sumF_sub f l (m.erase x) hn.2 fun y hy => (List.mem_erase_of_ne (by rintro rfl; exact hn.1 hy)).2 (hs y (by simp [hy]))
    simp only [sumF]; omega
theorem sumF_one {α : Type} (l : List α) : sumF (fun _ => 1) l = l.length := by
  induction l with
  | nil => rfl
  | cons x l ih => simp only [sumF, ih, List.length_cons]; omega
theorem sumF_flatMap {α β : Type} (f : β → Nat) (g : α → List β) (l : List α) : sumF f (l.flatMap g) = sumF (fun x => sumF f (g x)) l := by
  induction l with
  | nil => rfl
  | cons x l ih => rw [List.flatMap_cons, sumF_app, ih]; rfl
theorem sumF_map {α β : Type} (f : β → Nat) (g : α → β) (l : List α) : sumF f (l.map g) = sumF (fun x => f (g x)) l := by
  induction l with
  | nil => rfl
  | cons x l ih => simp only [List.map_cons, sumF, ih]
theorem length_flatMapF {α β : Type} (g : α → List β) (l : List α) : (l.flatMap g).length = sumF (fun x => (g x).length) l := by
  induction l with
  | nil => rfl
  | cons x l ih => rw [List.flatMap_cons, List.length_append, ih]; rfl

def sumR (n : Nat) (f : Nat → Nat) : Nat := sumF f (List.range n)
theorem sumR_succ (n : Nat) (f : Nat → Nat) : sumR (n + 1) f = sumR n f + f n := by
  unfold sumR
  rw [List.range_succ, sumF_app]
  simp [sumF]
theorem sumR_lin (n : Nat) (f : Nat → Nat) (A B C : Nat) : sumR n (fun i => A * f i + f i * B + C) = A * sumR n f + sumR n f * B + n * C := by
  induction n with
  | zero => simp [sumR, sumF]
  | succ n ih =>
    rw [sumR_succ, sumR_succ, ih, Nat.mul_add, Nat.add_mul, Nat.succ_mul]
    omega
theorem sumR_const (n c : Nat) : sumR n (fun _ => c) = n * c := by
  induction n with
  | zero => simp [sumR, sumF]
  | succ n ih => rw [sumR_succ, ih, Nat.succ_mul]

/-- How many arcs leave a state. -/
def degA (l : List Arc) (a : Nat) : Nat := sumF (fun x => if x.f = (a : Int) then 1 else 0) l
theorem degA_sum (l : List Arc) (n : Nat) : sumR n (degA l) ≤ l.length := by
  induction l with
  | nil => 
    have : ∀ n, sumR n (degA []) = 0 := fun n => by
      induction n with
      | zero => rfl
      | succ n ih => rw [sumR_succ, ih]; rfl
    rw [this]; exact Nat.zero_le _
  | cons x l ih =>
    have e : ∀ n, sumR n (degA (x :: l)) = sumR n (fun a => if x.f = (a : Int) then 1 else 0) + sumR n (degA l) := fun n => by
      induction n with
      | zero => rfl
      | succ n ih => rw [sumR_succ, sumR_succ, sumR_succ, ih]; simp only [degA, sumF]; omega
    have h1 : ∀ n, sumR n (fun a => if x.f = (a : Int) then 1 else 0) ≤ 1 ∧ (sumR n (fun a => if x.f = (a : Int) then 1 else 0) = 1 → x.f < n) := fun n => by
      induction n with
      | zero => exact ⟨Nat.zero_le _, fun h => by cases h⟩
      | succ n ih =>
        rw [sumR_succ]
        by_cases q : x.f = (n : Int)
        · rw [if_pos q]
          have : sumR n (fun a => if x.f = (a : Int) then 1 else 0) ≠ 1 := fun h => by have := ih.2 h; omega
          exact ⟨by omega, fun _ => by omega⟩
        · rw [if_neg q]
          exact ⟨by omega, fun h => by have := ih.2 (by omega); omega⟩
    have := (h1 n).1
    rw [e, List.length_cons]
    omega

def allT (n m : Nat) : List Trip := (List.range n).flatMap fun a : Nat => (List.range m).flatMap fun b : Nat => (List.range 3).map fun c : Nat => ⟨(a : Int), (b : Int), (c : Int)⟩
theorem mem_allT {n m : Nat} {p : Trip} (ha : 0 ≤ p.a ∧ p.a < n) (hb : 0 ≤ p.b ∧ p.b < m) (hc : 0 ≤ p.c ∧ p.c < 3) : p ∈ allT n m := by
  unfold allT
  refine List.mem_flatMap.2 ⟨p.a.toNat, List.mem_range.2 (by omega), List.mem_flatMap.2 ⟨p.b.toNat, List.mem_range.2 (by omega), List.mem_map.2 ⟨p.c.toNat, List.mem_range.2 (by omega), ?_⟩⟩⟩
  obtain ⟨a, b, c⟩ := p
  simp only at *
  rw [Int.toNat_of_nonneg ha.1, Int.toNat_of_nonneg hb.1, Int.toNat_of_nonneg hc.1]
theorem sum_allT (n m : Nat) (h : Nat → Nat → Nat) : sumF (fun p : Trip => h p.a.toNat p.b.toNat) (allT n m) = sumR n fun a => sumR m fun b => 3 * h a b := by
  unfold allT
  rw [sumF_flatMap]
  unfold sumR
  congr 1
  funext a
  rw [sumF_flatMap]
  congr 1
  funext b
  rw [sumF_map]
  simp only [Int.toNat_natCast]
  show sumR 3 (fun _ => h a b) = _
  rw [sumR_const]

/-- How many arcs a pair has at most. -/
theorem steps_len (F G : TF) (p : Trip) (ha : 0 ≤ p.a) (hb : 0 ≤ p.b) : (steps F G p).length ≤ 1 * degA F.arcs p.a.toNat + degA F.arcs p.a.toNat * degA G.arcs p.b.toNat + degA G.arcs p.b.toNat := by
  have ea : ((p.a.toNat : Nat) : Int) = p.a := by omega
  have eb : ((p.b.toNat : Nat) : Int) = p.b := by omega
  unfold steps
  rw [List.length_append, length_flatMapF, length_flatMapF]
  have h1 : sumF (fun x => (stepB p x).length) G.arcs ≤ degA G.arcs p.b.toNat := by
    refine sumF_mono _ fun x _ => ?_
    rw [eb]
    unfold stepB
    by_cases q : x.f = p.b
    · rw [if_pos q]; split <;> simp
    · rw [if_neg (fun h => q h.1), if_neg q]; simp
  have h2 : ∀ a : Arc, (stepA G p a).length ≤ if a.f = p.a then 1 + degA G.arcs p.b.toNat else 0 := fun a => by
    unfold stepA
    by_cases q : a.f = p.a
    · rw [if_neg (fun h => h q), if_pos q, List.length_append, length_flatMapF]
      have h3 : sumF (fun b : Arc => (if b.f = p.b ∧ a.o = b.i ∧ a.o ≠ 0 then [(⟨a.i, b.o, a.w + b.w, ⟨a.t, b.t, 0⟩⟩ : Stp)] else []).length) G.arcs ≤ degA G.arcs p.b.toNat := by
        refine sumF_mono _ fun x _ => ?_
        rw [eb]
        by_cases q : x.f = p.b
        · rw [if_pos q]; split <;> simp
        · rw [if_neg (fun h => q h.1), if_neg q]; simp
      have h4 : (if a.o = 0 ∧ p.c ≠ 2 then [(⟨a.i, 0, a.w, ⟨a.t, p.b, 1⟩⟩ : Stp)] else []).length ≤ 1 := by split <;> simp
      omega
    · rw [if_pos q, if_neg q]; simp
  have h5 : sumF (fun x => (stepA G p x).length) F.arcs ≤ degA F.arcs p.a.toNat * (1 + degA G.arcs p.b.toNat) := by
    refine Nat.le_trans (sumF_mono _ fun x _ => h2 x) ?_
    unfold degA
    rw [ea]
    generalize sumF (fun x : Arc => if x.f = ((p.b.toNat : Nat) : Int) then 1 else 0) G.arcs = D
    generalize F.arcs = l
    induction l with
    | nil => simp [sumF]
    | cons x l ih =>
      simp only [sumF]
      rw [Nat.add_mul]
      split <;> omega
  rw [Nat.mul_add] at h5
  omega

/-! ### Pair after pair -/
/-- The arcs of a pair. -/
def arcsOf (F G : TF) (ps : List Trip) (p : Trip) : List Arc := (steps F G p).map fun s => ⟨(ps.idxOf p : Nat), s.i, s.o, (ps.idxOf s.p : Nat), s.w⟩

theorem numP_mem {ps : List Trip} {q x : Trip} : x ∈ numP ps q ↔ x ∈ ps ∨ x = q := by
  unfold numP
  split
  · rename_i h
    exact ⟨.inl, fun h2 => h2.elim id fun e => e ▸ h⟩
  · simp
theorem numP_pre (ps : List Trip) (q : Trip) : ∃ m, numP ps q = ps ++ m := by
  unfold numP
  split
  · exact ⟨[], by simp⟩
  · exact ⟨[q], rfl⟩
theorem numP_nd {ps : List Trip} {q : Trip} (h : ps.Nodup) : (numP ps q).Nodup := by
  unfold numP
  split
  · exact h
  · rename_i hq
    exact List.nodup_append.2 ⟨h, by simp, fun a ha b hb => by rw [List.mem_singleton] at hb; subst hb; rintro rfl; exact hq ha⟩

structure FoldIs (F G : TF) (n : Int) (x : CS) (l : List Stp) (y : CS) : Prop where
  pre : ∃ m, y.1 = x.1 ++ m
  nd : x.1.Nodup → y.1.Nodup
  of : ∀ q ∈ y.1, q ∈ x.1 ∨ ∃ s ∈ l, q = s.p
  cl : ∀ s ∈ l, s.p ∈ y.1
  raw : y.2.1 = x.2.1 ++ l.map fun s => ⟨n, s.i, s.o, (y.1.idxOf s.p : Nat), s.w⟩
  g : y.2.2 = true → x.2.2 = true ∨ (∃ q ∈ y.1, 1000000000 < finP F G q) ∨ ∃ s ∈ l, 1000000000 < s.w
  g2 : y.2.2 = false → x.2.2 = false ∧ (∀ q ∈ y.1, q ∈ x.1 ∨ finP F G q ≤ 1000000000) ∧ ∀ s ∈ l, s.w ≤ 1000000000

theorem fold_is (F G : TF) (n : Int) : ∀ (l : List Stp) (x : CS), FoldIs F G n x l (l.foldl (oneC F G n) x)
  | [], x => ⟨⟨[], by simp⟩, id, fun q h => .inl h, fun s h => (by cases h), by simp, fun h => .inl h, fun h => ⟨h, fun q hq => .inl hq, fun s hs => (by cases hs)⟩⟩
  | s :: l, x => by
    have ih := fold_is F G n l (oneC F G n x s)
    rw [List.foldl_cons]
    generalize l.foldl (oneC F G n) (oneC F G n x s) = y at ih
    obtain ⟨m, hm⟩ := ih.pre
    obtain ⟨m0, hm0⟩ := numP_pre x.1 s.p
    have e1 : (oneC F G n x s).1 = numP x.1 s.p := rfl
    rw [e1] at hm
    have hsp : s.p ∈ numP x.1 s.p := numP_mem.2 (.inr rfl)
    refine ⟨⟨m0 ++ m, by rw [hm, hm0, List.append_assoc]⟩, fun h => ih.nd (numP_nd h), fun q hq => ?_, fun t ht => ?_, ?_, fun h => ?_, fun h => ?_⟩
    · rcases ih.of q hq with h | ⟨t, ht, h⟩
      · rcases numP_mem.1 h with h | h
        · exact .inl h
        · exact .inr ⟨s, by simp, h⟩
      · exact .inr ⟨t, by simp [ht], h⟩
    · rcases List.mem_cons.1 ht with rfl | ht
      · rw [hm]; exact List.mem_append.2 (.inl hsp)
      · exact ih.cl t ht
    · rw [ih.raw]
      show arcP x.1 x.2.1 n s ++ _ = _
      unfold arcP
      rw [List.append_assoc]
      congr 1
      rw [List.map_cons, hm, idxOf_append_of_mem hsp]
      rfl
    · rcases ih.g h with h | h | ⟨t, ht, h⟩
      · have h : grP F G x.1 x.2.2 s = true := h
        unfold grP greatP at h
        rw [Bool.or_eq_true, decide_eq_true_eq] at h
        rcases h with h | h
        · split at h
          · exact .inl h
          · rw [Bool.or_eq_true, decide_eq_true_eq] at h
            rcases h with h | h
            · exact .inl h
            · exact .inr (.inl ⟨s.p, by rw [hm]; exact List.mem_append.2 (.inl hsp), h⟩)
        · exact .inr (.inr ⟨s, by simp, h⟩)
      · exact .inr (.inl h)
      · exact .inr (.inr ⟨t, by simp [ht], h⟩)
    · obtain ⟨h1, h2, h3⟩ := ih.g2 h
      have h1 : grP F G x.1 x.2.2 s = false := h1
      unfold grP greatP at h1
      rw [Bool.or_eq_false_iff, decide_eq_false_iff_not] at h1
      refine ⟨?_, fun q hq => ?_, fun t ht => ?_⟩
      · have := h1.1
        split at this
        · exact this
        · exact (Bool.or_eq_false_iff.1 this).1
      · rcases h2 q hq with h | h
        · rcases numP_mem.1 h with h | h
          · exact .inl h
          · subst h
            by_cases hin : s.p ∈ x.1
            · exact .inl hin
            · right
              have := h1.1
              rw [if_neg hin, Bool.or_eq_false_iff, decide_eq_false_iff_not] at this
              omega
        · exact .inr h
      · rcases List.mem_cons.1 ht with rfl | ht
        · have := h1.2; omega
        · exact h3 t ht

/-- The first k pairs are done. -/
structure CDone (F G : TF) (k : Nat) (x : CS) : Prop where
  kl : k ≤ x.1.length
  nd : x.1.Nodup
  first : x.1.head? = some ⟨F.start, G.start, 0⟩
  rng : ∀ q ∈ x.1, PRng F G q ∧ 0 ≤ q.c ∧ q.c < 3
  cl : ∀ p ∈ x.1.take k, ∀ s ∈ steps F G p, s.p ∈ x.1
  raw : x.2.1 = (x.1.take k).flatMap (arcsOf F G x.1)
  g : x.2.2 = true → (∃ q ∈ x.1, 1000000000 < finP F G q) ∨ ∃ p ∈ x.1, ∃ s ∈ steps F G p, 1000000000 < s.w
  g2 : x.2.2 = false → (∀ q ∈ x.1, finP F G q ≤ 1000000000) ∧ ∀ p ∈ x.1.take k, ∀ s ∈ steps F G p, s.w ≤ 1000000000

section
variable {F G : TF} {k : Nat} {x : CS} (hF : FOk F) (hG : FOk G)
include hF hG

theorem steps_rng {p : Trip} (hp : PRng F G p) {s : Stp} (hs : s ∈ steps F G p) : PRng F G s.p ∧ 0 ≤ s.p.c ∧ s.p.c < 3 := by
  have hf := hF.finl
  have hg := hG.finl
  rcases mem_steps.1 hs with ⟨a, ha, e1, e2, _, rfl⟩ | ⟨a, ha, b, hb, e1, e2, e3, e4, rfl⟩ | ⟨b, hb, e1, e2, rfl⟩
  · have h1 := hF.arc a ha
    exact ⟨PRng.of ⟨h1.t0, by have := h1.t1; omega⟩ ⟨hp.b0, hp.b1⟩, by show (0 : Int) ≤ 1; omega, by show (1 : Int) < 3; omega⟩
  · have h1 := hF.arc a ha
    have h2 := hG.arc b hb
    exact ⟨PRng.of ⟨h1.t0, by have := h1.t1; omega⟩ ⟨h2.t0, by have := h2.t1; omega⟩, by show (0 : Int) ≤ 0; omega, by show (0 : Int) < 3; omega⟩
  · have h2 := hG.arc b hb
    exact ⟨PRng.of ⟨hp.a0, hp.a1⟩ ⟨h2.t0, by have := h2.t1; omega⟩, by show (0 : Int) ≤ 2; omega, by show (2 : Int) < 3; omega⟩

theorem steps_ok {p : Trip} {s : Stp} (hs : s ∈ steps F G p) : (0 ≤ s.i ∧ s.i ≤ 9) ∧ (0 ≤ s.o ∧ s.o ≤ 9) ∧ 0 ≤ s.w := by
  rcases mem_steps.1 hs with ⟨a, ha, e1, e2, _, rfl⟩ | ⟨a, ha, b, hb, e1, e2, e3, e4, rfl⟩ | ⟨b, hb, e1, e2, rfl⟩
  · have h1 := hF.arc a ha
    exact ⟨h1.i0, by show (0 : Int) ≤ 0 ∧ (0 : Int) ≤ 9; omega, h1.w0⟩
  · have h1 := hF.arc a ha
    have h2 := hG.arc b hb
    refine ⟨h1.i0, h2.o0, ?_⟩
    have := h1.w0
    have := h2.w0
    show 0 ≤ a.w + b.w
    omega
  · have h2 := hG.arc b hb
    exact ⟨by show (0 : Int) ≤ 0 ∧ (0 : Int) ≤ 9; omega, h2.o0, h2.w0⟩

theorem CDone.start : CDone F G 0 (numP [] ⟨F.start, G.start, 0⟩, [], greatP F G [] false ⟨F.start, G.start, 0⟩) := by
  have e : numP [] (⟨F.start, G.start, 0⟩ : Trip) = [⟨F.start, G.start, 0⟩] := rfl
  have e2 : greatP F G [] false ⟨F.start, G.start, 0⟩ = decide (1000000000 < finP F G ⟨F.start, G.start, 0⟩) := by simp [greatP]
  rw [e, e2]
  have h1 := hF.start
  have h2 := hG.start
  have h3 := hF.finl
  have h4 := hG.finl
  refine ⟨Nat.zero_le _, by simp, rfl, fun q hq => ?_, fun p hp => by simp at hp, rfl, fun h => ?_, fun h => ⟨fun q hq => ?_, fun p hp => by simp at hp⟩⟩
  · rw [List.mem_singleton] at hq
    subst hq
    exact ⟨PRng.of ⟨h1.1, by omega⟩ ⟨h2.1, by omega⟩, by show (0 : Int) ≤ 0; omega, by show (0 : Int) < 3; omega⟩
  · exact .inl ⟨_, List.mem_singleton.2 rfl, of_decide_eq_true h⟩
  · rw [List.mem_singleton] at hq
    subst hq
    have := of_decide_eq_false h
    omega

omit hF hG in
theorem idx_pre {ps m : List Trip} {q : Trip} (h : q ∈ ps) : (ps ++ m).idxOf q = ps.idxOf q := idxOf_append_of_mem h

omit hF hG in
theorem idx_nd {ps : List Trip} (hn : ps.Nodup) (hk : k < ps.length) : ps.idxOf (ps.getD k ⟨0, 0, 0⟩) = k := by
  have e : ps.getD k ⟨0, 0, 0⟩ = ps[k] := by simp [List.getD, hk]
  rw [e]
  exact List.Nodup.idxOf_getElem hn k hk

theorem CDone.step (h : CDone F G k x) (hk : k < x.1.length) : CDone F G (k + 1) ((steps F G (x.1.getD k ⟨0, 0, 0⟩)).foldl (oneC F G (x.1.idxOf (x.1.getD k ⟨0, 0, 0⟩) : Nat)) x) := by
  have hi := idx_nd h.nd hk
  have hpm : x.1.getD k ⟨0, 0, 0⟩ ∈ x.1 := getD_mem _ _ _ hk
  have ht : x.1.take (k + 1) = x.1.take k ++ [x.1.getD k ⟨0, 0, 0⟩] := take_succ_getD x.1 k _ hk
  generalize hp : x.1.getD k ⟨0, 0, 0⟩ = p at hi hpm ht
  have hf := fold_is F G (x.1.idxOf p : Nat) (steps F G p) x
  generalize (steps F G p).foldl (oneC F G (x.1.idxOf p : Nat)) x = y at hf
  obtain ⟨m, hm⟩ := hf.pre
  have htk : y.1.take (k + 1) = x.1.take k ++ [p] := by rw [hm, List.take_append_of_le_length (by omega), ht]
  have hkl := h.kl
  have hsub : ∀ q ∈ x.1, q ∈ y.1 := fun q hq => by rw [hm]; exact List.mem_append.2 (.inl hq)
  have htm : ∀ q ∈ x.1.take k, q ∈ x.1 := fun q hq => List.mem_of_mem_take hq
  refine ⟨by rw [hm, List.length_append]; omega, hf.nd h.nd, ?_, fun q hq => ?_, fun q hq s hs => ?_, ?_, fun hg => ?_, fun hg => ?_⟩
  · rw [hm]
    have := h.first
    cases hx : x.1 with
    | nil => rw [hx] at hk; cases hk
    | cons a l => rw [hx] at this; exact this
  · rcases hf.of q hq with hq | ⟨s, hs, rfl⟩
    · exact h.rng q hq
    · exact steps_rng hF hG (h.rng p hpm).1 hs
  · rw [htk] at hq
    rcases List.mem_append.1 hq with hq | hq
    · exact hsub _ (h.cl q hq s hs)
    · rw [List.mem_singleton] at hq; subst hq; exact hf.cl s hs
  · rw [hf.raw, htk, List.flatMap_append, h.raw]
    congr 1
    · rw [List.flatMap_def, List.flatMap_def]
      congr 1
      refine List.map_congr_left fun q hq => ?_
      unfold arcsOf
      refine List.map_congr_left fun s hs => ?_
      rw [hm, idx_pre (htm q hq), idx_pre (h.cl q hq s hs)]
    · rw [List.flatMap_cons, List.flatMap_nil, List.append_nil]
      unfold arcsOf
      rw [hm, idx_pre hpm]
  · rcases hf.g hg with hg | hg | ⟨s, hs, hw⟩
    · rcases h.g hg with ⟨q, hq, hw⟩ | ⟨q, hq, s, hs, hw⟩
      · exact .inl ⟨q, hsub q hq, hw⟩
      · exact .inr ⟨q, hsub q hq, s, hs, hw⟩
    · exact .inl hg
    · exact .inr ⟨p, hsub p hpm, s, hs, hw⟩
  · obtain ⟨g1, g2, g3⟩ := hf.g2 hg
    obtain ⟨g4, g5⟩ := h.g2 g1
    refine ⟨fun q hq => ?_, fun q hq s hs => ?_⟩
    · rcases g2 q hq with h1 | h1
      · exact g4 q h1
      · exact h1
    · rw [htk] at hq
      rcases List.mem_append.1 hq with hq | hq
      · exact g5 q hq s hs
      · rw [List.mem_singleton] at hq; subst hq; exact g3 s hs

/-- How many pairs, how many arcs. -/
def mostA (F G : TF) : Nat := F.arcs.length * G.arcs.length + F.arcs.length * G.st.toNat + G.arcs.length * F.st.toNat

theorem CDone.psl (h : CDone F G k x) : x.1.length ≤ 3 * F.st.toNat * G.st.toNat := by
  have hf := hF.finl
  have hg := hG.finl
  have hsub : ∀ q ∈ x.1, q ∈ allT F.st.toNat G.st.toNat := fun q hq => by
    obtain ⟨⟨a0, a1, b0, b1⟩, c⟩ := h.rng q hq
    exact mem_allT ⟨a0, by omega⟩ ⟨b0, by omega⟩ c
  have h1 := sumF_sub (fun _ => 1) x.1 _ h.nd hsub
  rw [sumF_one] at h1
  have h2 := sum_allT F.st.toNat G.st.toNat fun _ _ => 1
  rw [h2, sumR_const, sumR_const] at h1
  rw [Nat.mul_assoc, Nat.mul_comm 3 _]
  rw [Nat.mul_assoc]
  exact h1

theorem CDone.rawl (h : CDone F G k x) : x.2.1.length ≤ 3 * mostA F G := by
  have hf := hF.finl
  have hg := hG.finl
  rw [h.raw, length_flatMapF]
  have hsub : ∀ q ∈ x.1.take k, q ∈ allT F.st.toNat G.st.toNat := fun q hq => by
    obtain ⟨⟨a0, a1, b0, b1⟩, c⟩ := h.rng q (List.mem_of_mem_take hq)
    exact mem_allT ⟨a0, by omega⟩ ⟨b0, by omega⟩ c
  have h1 : sumF (fun p => (arcsOf F G x.1 p).length) (x.1.take k) ≤ sumF (fun p : Trip => (fun a b => 1 * degA F.arcs a + degA F.arcs a * degA G.arcs b + degA G.arcs b) p.a.toNat p.b.toNat) (x.1.take k) := by
    refine sumF_mono _ fun p hp => ?_
    have hr := (h.rng p (List.mem_of_mem_take hp)).1
    unfold arcsOf
    rw [List.length_map]
    exact steps_len F G p hr.a0 hr.b0
  have h2 := sumF_sub (fun p : Trip => (fun a b => 1 * degA F.arcs a + degA F.arcs a * degA G.arcs b + degA G.arcs b) p.a.toNat p.b.toNat) (x.1.take k) _ (h.nd.sublist (List.take_sublist _ _)) hsub
  rw [sum_allT F.st.toNat G.st.toNat fun a b => 1 * degA F.arcs a + degA F.arcs a * degA G.arcs b + degA G.arcs b] at h2
  have e : ∀ a, sumR G.st.toNat (fun b => 3 * (1 * degA F.arcs a + degA F.arcs a * degA G.arcs b + degA G.arcs b)) ≤ 3 * (G.st.toNat * degA F.arcs a + degA F.arcs a * G.arcs.length + G.arcs.length) := fun a => by
    have e1 : (fun b => 3 * (1 * degA F.arcs a + degA F.arcs a * degA G.arcs b + degA G.arcs b)) = fun b => (3 * degA F.arcs a + 3) * degA G.arcs b + degA G.arcs b * 0 + 3 * degA F.arcs a := by
      funext b
      rw [Nat.mul_zero, Nat.add_zero, Nat.add_mul, Nat.mul_add, Nat.mul_add, Nat.mul_assoc]
      omega
    rw [e1, sumR_lin]
    have hd := degA_sum G.arcs G.st.toNat
    have := Nat.mul_le_mul_left (3 * degA F.arcs a + 3) hd
    rw [Nat.add_mul, Nat.mul_assoc] at this
    have e3 : G.st.toNat * (3 * degA F.arcs a) = 3 * (G.st.toNat * degA F.arcs a) := by rw [Nat.mul_left_comm]
    rw [Nat.mul_zero, e3]
    rw [Nat.add_mul] at this ⊢
    rw [Nat.mul_assoc] at this ⊢
    omega
  have h3 : sumR F.st.toNat (fun a => sumR G.st.toNat fun b => 3 * (1 * degA F.arcs a + degA F.arcs a * degA G.arcs b + degA G.arcs b)) ≤ sumR F.st.toNat fun a => 3 * (G.st.toNat * degA F.arcs a + degA F.arcs a * G.arcs.length + G.arcs.length) := sumF_mono _ fun a _ => e a
  have e4 : (fun a => 3 * (G.st.toNat * degA F.arcs a + degA F.arcs a * G.arcs.length + G.arcs.length)) = fun a => (3 * G.st.toNat) * degA F.arcs a + degA F.arcs a * (3 * G.arcs.length) + 3 * G.arcs.length := by
    funext a
    rw [Nat.mul_add, Nat.mul_add, Nat.mul_assoc, Nat.mul_left_comm (degA F.arcs a) 3]
  rw [e4, sumR_lin] at h3
  have hd := degA_sum F.arcs F.st.toNat
  have m1 := Nat.mul_le_mul_left (3 * G.st.toNat) hd
  have m2 := Nat.mul_le_mul_right (3 * G.arcs.length) hd
  have e5 : 3 * mostA F G = F.arcs.length * (3 * G.arcs.length) + 3 * G.st.toNat * F.arcs.length + F.st.toNat * (3 * G.arcs.length) := by
    unfold mostA
    rw [Nat.mul_add, Nat.mul_add, Nat.mul_left_comm F.arcs.length 3, Nat.mul_assoc 3 G.st.toNat, Nat.mul_comm G.st.toNat, Nat.mul_left_comm F.st.toNat 3, Nat.mul_comm F.st.toNat]
  omega

omit hF hG in
theorem CDone.numd (h : CDone F G x.1.length x) : Numd F G x.1 x.2.1 := by
  have e : x.1.take x.1.length = x.1 := List.take_length
  have hr := h.raw
  have hc := h.cl
  rw [e] at hr hc
  refine ⟨h.first, h.nd, fun a ha => ?_, fun p hp s hs => ⟨hc p hp s hs, ?_⟩⟩
  · rw [hr] at ha
    obtain ⟨p, hp, ha⟩ := List.mem_flatMap.1 ha
    obtain ⟨s, hs, rfl⟩ := List.mem_map.1 ha
    exact ⟨p, hp, s, hs, hc p hp s hs, rfl⟩
  · rw [hr]
    exact List.mem_flatMap.2 ⟨p, hp, List.mem_map.2 ⟨s, hs, rfl⟩⟩
end
end Go.Fw

/-
  A table made less again and again till nothing changes.
-/
namespace Go.Fw
open Go

structure Rlx where
  f : Nat
  t : Nat
  w : Int

def tOf (c : List Int) (r : Rlx) : Int := less (c.getD r.t 0) (plus (c.getD r.f 0) r.w)
def rel1 (x : List Int × Bool) (r : Rlx) : List Int × Bool := if tOf x.1 r = x.1.getD r.t 0 then x else (x.1.set r.t (tOf x.1 r), true)

structure RlxOk (n : Nat) (r : Rlx) : Prop where
  f : r.f < n
  t : r.t < n
  w0 : 0 ≤ r.w
  w1 : r.w ≤ 2000000000

/-- How many are told. -/
def finC (c : List Int) : Nat := sumF (fun v => if v < 0 then 0 else 1) c

structure TB (n : Nat) (c : List Int) : Prop where
  len : c.length = n
  low : ∀ j, j < n → -1 ≤ c.getD j 0
  high : ∀ j, j < n → c.getD j 0 ≤ 2000000000 * ((finC c : Nat) : Int)

theorem sumF_set (f : Int → Nat) : ∀ (c : List Int) (i : Nat) (v : Int), i < c.length → sumF f (c.set i v) + f (c.getD i 0) = sumF f c + f v
  | [], _, _, h => by cases h
  | x :: c, 0, v, _ => by simp only [List.set_cons_zero, sumF, List.getD_cons_zero]; omega
  | x :: c, i + 1, v, h => by
    have := sumF_set f c i v (by simpa using h)
    simp only [List.set_cons_succ, sumF, List.getD_cons_succ]
    omega
theorem sumF_le {α : Type} (f : α → Nat) (B : Nat) (l : List α) (h : ∀ x ∈ l, f x ≤ B) : sumF f l ≤ l.length * B := by
  induction l with
  | nil => simp [sumF]
  | cons x l ih =>
    have := h x (by simp)
    have := ih fun y hy => h y (by simp [hy])
    simp only [sumF, List.length_cons, Nat.succ_mul]; omega
theorem finC_le (c : List Int) : finC c ≤ c.length := by
  have := sumF_le (fun v : Int => if v < 0 then 0 else 1) 1 c fun x _ => by split <;> omega
  unfold finC
  omega

theorem getD_setI (c : List Int) (i j : Nat) (v : Int) (hi : i < c.length) : (c.set i v).getD j 0 = if j = i then v else c.getD j 0 := by
  simp only [List.getD, List.getElem?_set]
  by_cases e : i = j
  · subst e; simp [hi]
  · simp [e, Ne.symm e]

/-- What is to be made less, is. -/
theorem tOf_spec {n : Nat} {c : List Int} (h : TB n c) {r : Rlx} (hr : RlxOk n r) (hne : tOf c r ≠ c.getD r.t 0) : 0 ≤ c.getD r.f 0 ∧ tOf c r = c.getD r.f 0 + r.w ∧ (c.getD r.t 0 < 0 ∨ c.getD r.f 0 + r.w < c.getD r.t 0) := by
  have h1 := hr.w0
  have ha := h.low r.t hr.t
  have hp := plus_spec (c.getD r.f 0) r.w h1
  unfold tOf less at hne ⊢
  generalize c.getD r.t 0 = a at hne ha ⊢
  generalize plus (c.getD r.f 0) r.w = z at hne hp ⊢
  generalize c.getD r.f 0 = b at hp ⊢
  by_cases hb : b < 0
  · have hz := hp.2 hb
    subst hz
    by_cases haa : a < 0
    · rw [if_pos haa] at hne
      exact absurd (by omega : (-1 : Int) = a) hne
    · rw [if_neg haa, if_pos (.inl (by omega))] at hne
      exact absurd rfl hne
  · have hz := hp.1 (by omega)
    subst hz
    by_cases haa : a < 0
    · rw [if_pos haa]
      exact ⟨by omega, rfl, .inl haa⟩
    · rw [if_neg haa] at hne ⊢
      split at hne
      · exact absurd rfl hne
      · rename_i q
        rw [if_neg q]
        exact ⟨by omega, rfl, .inr (by omega)⟩

theorem tOf_same {n : Nat} {c : List Int} {r : Rlx} (hr : RlxOk n r) (h : tOf c r = c.getD r.t 0) (hf : 0 ≤ c.getD r.f 0) : 0 ≤ c.getD r.t 0 ∧ c.getD r.t 0 ≤ c.getD r.f 0 + r.w := by
  have h1 := hr.w0
  have hp := (plus_spec (c.getD r.f 0) r.w h1).1 hf
  unfold tOf at h
  have hs := (less_spec (c.getD r.t 0) (plus (c.getD r.f 0) r.w)).2.1 (by omega)
  omega

theorem TB.rel {n : Nat} {x : List Int × Bool} (h : TB n x.1) {r : Rlx} (hr : RlxOk n r) : TB n (rel1 x r).1 := by
  unfold rel1
  split
  · exact h
  · rename_i hne
    obtain ⟨h1, h2, h3⟩ := tOf_spec h hr hne
    have hl := h.len
    have hw0 := hr.w0
    have hw1 := hr.w1
    have hhf := h.high r.f hr.f
    have hht := h.high r.t hr.t
    have hs := sumF_set (fun v => if v < 0 then 0 else 1) x.1 r.t (tOf x.1 r) (by rw [hl]; exact hr.t)
    rw [if_neg (by omega : ¬ tOf x.1 r < 0)] at hs
    have hfin : (finC (x.1.set r.t (tOf x.1 r)) : Nat) = finC x.1 + if x.1.getD r.t 0 < 0 then 1 else 0 := by
      unfold finC
      split at hs
      · rename_i q; rw [if_pos q]; omega
      · rename_i q; rw [if_neg q]; omega
    refine ⟨by simp [hl], fun j hj => ?_, fun j hj => ?_⟩
    · simp only
      rw [getD_setI _ _ _ _ (by rw [hl]; exact hr.t)]
      split
      · omega
      · exact h.low j hj
    · simp only
      rw [getD_setI _ _ _ _ (by rw [hl]; exact hr.t), hfin]
      have := h.high j hj
      split
      · split
        · omega
        · omega
      · split <;> omega

/-- How much is yet to be made less. -/
def potC (B : Nat) (c : List Int) : Nat := sumF (fun v => if v < 0 then B else v.toNat) c

theorem potC_rel {n : Nat} {x : List Int × Bool} (h : TB n x.1) {r : Rlx} (hr : RlxOk n r) : potC (2000000000 * n + 1) (rel1 x r).1 ≤ potC (2000000000 * n + 1) x.1 ∧ (tOf x.1 r ≠ x.1.getD r.t 0 → potC (2000000000 * n + 1) (rel1 x r).1 < potC (2000000000 * n + 1) x.1) := by
  unfold rel1
  split
  · rename_i q
    exact ⟨Nat.le_refl _, fun hne => absurd q hne⟩
  · rename_i hne
    obtain ⟨h1, h2, h3⟩ := tOf_spec h hr hne
    have hw := hr.w0
    have hl := h.len
    have hs := sumF_set (fun v => if v < 0 then 2000000000 * n + 1 else v.toNat) x.1 r.t (tOf x.1 r) (by rw [hl]; exact hr.t)
    have ht := h.rel hr
    have hh := ht.high r.t hr.t
    unfold rel1 at hh
    rw [if_neg hne] at hh
    simp only at hh
    rw [getD_setI _ _ _ _ (by rw [hl]; exact hr.t), if_pos rfl] at hh
    have hfl := finC_le (x.1.set r.t (tOf x.1 r))
    rw [List.length_set, hl] at hfl
    rw [if_neg (by omega : ¬ tOf x.1 r < 0)] at hs
    unfold potC
    simp only
    have key : sumF (fun v => if v < 0 then 2000000000 * n + 1 else v.toNat) (x.1.set r.t (tOf x.1 r)) < sumF (fun v => if v < 0 then 2000000000 * n + 1 else v.toNat) x.1 := by
      split at hs <;> omega
    exact ⟨Nat.le_of_lt key, fun _ => key⟩

/-- What a whole round does. -/
structure RoundIs (n : Nat) (s0 : Nat) (S : Nat → Int → Prop) (x : List Int × Bool) (l : List Rlx) (y : List Int × Bool) : Prop where
  tb : TB n y.1
  up : x.2 = true → y.2 = true
  same : y.2 = false → y.1 = x.1 ∧ ∀ r ∈ l, tOf x.1 r = x.1.getD r.t 0
  pot : potC (2000000000 * n + 1) y.1 ≤ potC (2000000000 * n + 1) x.1 ∧ (x.2 = false → y.2 = true → potC (2000000000 * n + 1) y.1 < potC (2000000000 * n + 1) x.1)
  st : x.1.getD s0 0 = 0 → y.1.getD s0 0 = 0
  snd : (∀ j, j < n → 0 ≤ x.1.getD j 0 → S j (x.1.getD j 0)) → ∀ j, j < n → 0 ≤ y.1.getD j 0 → S j (y.1.getD j 0)

theorem round_is (n s0 : Nat) (S : Nat → Int → Prop) : ∀ (l : List Rlx) (x : List Int × Bool), TB n x.1 → (∀ r ∈ l, RlxOk n r) → (∀ r ∈ l, ∀ z, S r.f z → S r.t (z + r.w)) → RoundIs n s0 S x l (l.foldl rel1 x)
  | [], x, h, _, _ => ⟨h, id, fun _ => ⟨rfl, fun r hr => (by cases hr)⟩, ⟨Nat.le_refl _, fun h1 h2 => absurd (h1.symm.trans h2) (by decide)⟩, id, id⟩
  | r :: l, x, h, hr, hS => by
    have hr0 := hr r (by simp)
    have ht := h.rel hr0
    have hp := potC_rel h hr0
    have ih := round_is n s0 S l (rel1 x r) ht (fun q hq => hr q (by simp [hq])) (fun q hq => hS q (by simp [hq]))
    rw [List.foldl_cons]
    generalize l.foldl rel1 (rel1 x r) = y at ih
    by_cases q : tOf x.1 r = x.1.getD r.t 0
    · have e : rel1 x r = x := if_pos q
      rw [e] at ih
      refine ⟨ih.tb, ih.up, fun hy => ⟨(ih.same hy).1, fun s hs => ?_⟩, ih.pot, ih.st, ih.snd⟩
      rcases List.mem_cons.1 hs with rfl | hs
      · exact q
      · exact (ih.same hy).2 s hs
    · have e : rel1 x r = (x.1.set r.t (tOf x.1 r), true) := if_neg q
      have h2 := hp.2 q
      obtain ⟨h3, h4, h5⟩ := tOf_spec h hr0 q
      have hl := h.len
      refine ⟨ih.tb, fun _ => ih.up (by rw [e]), fun hy => absurd (ih.up (by rw [e])) (by rw [hy]; decide), ⟨Nat.le_trans ih.pot.1 (Nat.le_of_lt h2), fun _ _ => Nat.lt_of_le_of_lt ih.pot.1 h2⟩, fun h0 => ih.st ?_, fun hs => ih.snd fun j hj hj0 => ?_⟩
      · rw [e]
        simp only
        rw [getD_setI _ _ _ _ (by rw [hl]; exact hr0.t)]
        have := hr0.w0
        split
        · rename_i e0
          subst e0
          omega
        · exact h0
      · rw [e] at hj0 ⊢
        simp only at hj0 ⊢
        rw [getD_setI _ _ _ _ (by rw [hl]; exact hr0.t)] at hj0 ⊢
        split
        · rename_i e0
          subst e0
          rw [h4]
          exact hS r (by simp) _ (hs r.f hr0.f h3)
        · rename_i e0
          rw [if_neg e0] at hj0
          exact hs j hj hj0

/-- What is come to. -/
inductive RS (l : List Rlx) (s0 : Nat) : Nat → Int → Prop
  | start : RS l s0 s0 0
  | step {r : Rlx} {x : Int} (h : RS l s0 r.f x) (hr : r ∈ l) : RS l s0 r.t (x + r.w)

theorem fix_min {n s0 : Nat} {l : List Rlx} {c : List Int} (h : TB n c) (hs0 : s0 < n) (hl : ∀ r ∈ l, RlxOk n r) (hfix : ∀ r ∈ l, tOf c r = c.getD r.t 0) (h0 : c.getD s0 0 = 0) (hsnd : ∀ j, j < n → 0 ≤ c.getD j 0 → RS l s0 j (c.getD j 0)) {j : Nat} (hj : j < n) : MinOf (RS l s0 j) (c.getD j 0) := by
  have key : ∀ j x, RS l s0 j x → 0 ≤ c.getD j 0 ∧ c.getD j 0 ≤ x := by
    intro j x hx
    induction hx with
    | start => rw [h0]; exact ⟨Int.le_refl _, Int.le_refl _⟩
    | @step r x hx hr ih =>
      have := tOf_same (hl r hr) (hfix r hr) ih.1
      omega
  have hlow := h.low j hj
  by_cases q : c.getD j 0 < 0
  · refine .inl ⟨by omega, fun x hx => ?_⟩
    have := key j x hx
    omega
  · exact .inr ⟨by omega, hsnd j hj (by omega), fun x hx => (key j x hx).2⟩
end Go.Fw

/-
  The table over pairs of states and places: what it comes to.
-/
namespace Go.Fw
open Go

section
variable (F G : TF) (u v : List Int)

def pN : Nat := F.st.toNat * G.st.toNat
def atI (i j a b : Nat) : Nat := (a * (v.length + 1) + b) * pN F G + i * G.st.toNat + j
def cN : Nat := pN F G * ((u.length + 1) * (v.length + 1))
def badW (u : List Int) (a : Nat) (x : Int) : Prop := 0 < x ∧ (a = u.length ∨ u.getD a 0 ≠ x)
instance (u : List Int) (a : Nat) (x : Int) : Decidable (badW u a x) := by unfold badW; infer_instance
def nxW (a : Nat) (x : Int) : Nat := if 0 < x then a + 1 else a

def rlSil (a b : Nat) (x : Arc) (j : Nat) : Rlx := ⟨atI F G v x.f.toNat j a b, atI F G v x.t.toNat j (nxW a x.i) b, x.w⟩
def rlTwo (a b : Nat) (x y : Arc) : List Rlx := if y.i ≠ x.o ∨ badW v b y.o then [] else [⟨atI F G v x.f.toNat y.f.toNat a b, atI F G v x.t.toNat y.t.toNat (nxW a x.i) (nxW b y.o), x.w + y.w⟩]
def rlA (a b : Nat) (x : Arc) : List Rlx := if badW u a x.i then [] else if x.o = 0 then (List.range G.st.toNat).map (rlSil F G v a b x) else G.arcs.flatMap (rlTwo F G v a b x)
def rlOne (a b : Nat) (y : Arc) (i : Nat) : Rlx := ⟨atI F G v i y.f.toNat a b, atI F G v i y.t.toNat a (nxW b y.o), y.w⟩
def rlB (a b : Nat) (y : Arc) : List Rlx := if y.i ≠ 0 ∨ badW v b y.o then [] else (List.range F.st.toNat).map (rlOne F G v a b y)
def placeR (a b : Nat) : List Rlx := F.arcs.flatMap (rlA F G u v a b) ++ G.arcs.flatMap (rlB F G v a b)
def rowR (a : Nat) : List Rlx := (List.range (v.length + 1)).flatMap (placeR F G u v a)
def passR : List Rlx := (List.range (u.length + 1)).flatMap (rowR F G u v)
end

theorem nxW_le {u : List Int} {a : Nat} {x : Int} (ha : a ≤ u.length) (h : ¬ badW u a x) : nxW a x ≤ u.length := by
  unfold nxW badW at *
  split
  · by_cases e : a = u.length
    · exact absurd ⟨by assumption, .inl e⟩ h
    · omega
  · exact ha

theorem nxW_take {u : List Int} {a : Nat} {x : Int} (hx : 0 ≤ x) (ha : a ≤ u.length) (h : ¬ badW u a x) : u.take (nxW a x) = u.take a ++ lab x := by
  unfold nxW badW at *
  by_cases q : 0 < x
  · rw [if_pos q]
    have h1 : a ≠ u.length ∧ u.getD a 0 = x := by
      by_cases e : a = u.length
      · exact absurd ⟨q, .inl e⟩ h
      · by_cases e2 : u.getD a 0 = x
        · exact ⟨e, e2⟩
        · exact absurd ⟨q, .inr e2⟩ h
    rw [take_succ_getD u a 0 (by omega), h1.2, lab_ne (by omega)]
  · rw [if_neg q]
    have : x = 0 := by omega
    subst this
    simp [lab]

section
variable {F G : TF} {u v : List Int}

theorem at_lt {i j a b : Nat} (hi : i < F.st.toNat) (hj : j < G.st.toNat) (ha : a ≤ u.length) (hb : b ≤ v.length) : atI F G v i j a b < cN F G u v := by
  unfold atI cN pN
  have h1 : i * G.st.toNat + j < F.st.toNat * G.st.toNat := by
    have := Nat.mul_le_mul_right G.st.toNat (show i + 1 ≤ F.st.toNat from hi)
    rw [Nat.succ_mul] at this
    omega
  have h2 : a * (v.length + 1) + b < (u.length + 1) * (v.length + 1) := by
    have := Nat.mul_le_mul_right (v.length + 1) (show a + 1 ≤ u.length + 1 by omega)
    rw [Nat.succ_mul] at this
    omega
  generalize F.st.toNat * G.st.toNat = P at h1 ⊢
  generalize (u.length + 1) * (v.length + 1) = Q at h2 ⊢
  have := Nat.mul_le_mul_right P (show a * (v.length + 1) + b + 1 ≤ Q by omega)
  rw [Nat.succ_mul] at this
  rw [Nat.mul_comm P Q]
  omega

theorem two_inj {P q r q' r' : Nat} (hr : r < P) (hr' : r' < P) (h : q * P + r = q' * P + r') : q = q' ∧ r = r' := by
  have e1 : (q * P + r) / P = q := by rw [Nat.mul_comm, Nat.mul_add_div (by omega), Nat.div_eq_of_lt hr]; rfl
  have e2 : (q' * P + r') / P = q' := by rw [Nat.mul_comm, Nat.mul_add_div (by omega), Nat.div_eq_of_lt hr']; rfl
  have e3 : q = q' := by rw [← e1, ← e2, h]
  subst e3
  exact ⟨rfl, by omega⟩

theorem at_inj {i j a b i' j' a' b' : Nat} (hi : i < F.st.toNat) (hj : j < G.st.toNat) (hb : b ≤ v.length) (hi' : i' < F.st.toNat) (hj' : j' < G.st.toNat) (hb' : b' ≤ v.length) (h : atI F G v i j a b = atI F G v i' j' a' b') : i = i' ∧ j = j' ∧ a = a' ∧ b = b' := by
  unfold atI pN at h
  have h1 : ∀ i j, i < F.st.toNat → j < G.st.toNat → i * G.st.toNat + j < F.st.toNat * G.st.toNat := fun i j hi hj => by
    have := Nat.mul_le_mul_right G.st.toNat (show i + 1 ≤ F.st.toNat from hi)
    rw [Nat.succ_mul] at this
    omega
  rw [Nat.add_assoc, Nat.add_assoc] at h
  obtain ⟨e1, e2⟩ := two_inj (h1 i j hi hj) (h1 i' j' hi' hj') h
  obtain ⟨e3, e4⟩ := two_inj hj hj' e2
  obtain ⟨e5, e6⟩ := two_inj (show b < v.length + 1 by omega) (show b' < v.length + 1 by omega) e1
  exact ⟨e3, e4, e5, e6⟩

theorem mem_passR {r : Rlx} : r ∈ passR F G u v ↔ ∃ a b, a ≤ u.length ∧ b ≤ v.length ∧
    ((∃ x ∈ F.arcs, ¬ badW u a x.i ∧ x.o = 0 ∧ ∃ j, j < G.st.toNat ∧ r = rlSil F G v a b x j) ∨
     (∃ x ∈ F.arcs, ∃ y ∈ G.arcs, ¬ badW u a x.i ∧ x.o ≠ 0 ∧ y.i = x.o ∧ ¬ badW v b y.o ∧ r = ⟨atI F G v x.f.toNat y.f.toNat a b, atI F G v x.t.toNat y.t.toNat (nxW a x.i) (nxW b y.o), x.w + y.w⟩) ∨
     (∃ y ∈ G.arcs, y.i = 0 ∧ ¬ badW v b y.o ∧ ∃ i, i < F.st.toNat ∧ r = rlOne F G v a b y i)) := by
  unfold passR
  rw [List.mem_flatMap]
  constructor
  · rintro ⟨a, ha, h⟩
    unfold rowR at h
    obtain ⟨b, hb, h⟩ := List.mem_flatMap.1 h
    rw [List.mem_range] at ha hb
    refine ⟨a, b, by omega, by omega, ?_⟩
    unfold placeR at h
    rcases List.mem_append.1 h with h | h
    · obtain ⟨x, hx, h⟩ := List.mem_flatMap.1 h
      unfold rlA at h
      split at h
      · cases h
      · rename_i q
        split at h
        · rename_i q2
          obtain ⟨j, hj, rfl⟩ := List.mem_map.1 h
          exact .inl ⟨x, hx, q, q2, j, List.mem_range.1 hj, rfl⟩
        · rename_i q2
          obtain ⟨y, hy, h⟩ := List.mem_flatMap.1 h
          unfold rlTwo at h
          split at h
          · cases h
          · rename_i q3
            rw [List.mem_singleton] at h
            have q4 : y.i = x.o ∧ ¬ badW v b y.o := ⟨Classical.byContradiction fun e => q3 (.inl e), fun e => q3 (.inr e)⟩
            exact .inr (.inl ⟨x, hx, y, hy, q, q2, q4.1, q4.2, h⟩)
    · obtain ⟨y, hy, h⟩ := List.mem_flatMap.1 h
      unfold rlB at h
      split at h
      · cases h
      · rename_i q3
        have q4 : y.i = 0 ∧ ¬ badW v b y.o := ⟨Classical.byContradiction fun e => q3 (.inl e), fun e => q3 (.inr e)⟩
        obtain ⟨i, hi, rfl⟩ := List.mem_map.1 h
        exact .inr (.inr ⟨y, hy, q4.1, q4.2, i, List.mem_range.1 hi, rfl⟩)
  · rintro ⟨a, b, ha, hb, h⟩
    refine ⟨a, List.mem_range.2 (by omega), List.mem_flatMap.2 ⟨b, List.mem_range.2 (by omega), ?_⟩⟩
    unfold placeR
    rcases h with ⟨x, hx, q, q2, j, hj, rfl⟩ | ⟨x, hx, y, hy, q, q2, q3, q4, rfl⟩ | ⟨y, hy, q3, q4, i, hi, rfl⟩
    · refine List.mem_append.2 (.inl (List.mem_flatMap.2 ⟨x, hx, ?_⟩))
      unfold rlA
      rw [if_neg q, if_pos q2]
      exact List.mem_map.2 ⟨j, List.mem_range.2 hj, rfl⟩
    · refine List.mem_append.2 (.inl (List.mem_flatMap.2 ⟨x, hx, ?_⟩))
      unfold rlA
      rw [if_neg q, if_neg q2]
      refine List.mem_flatMap.2 ⟨y, hy, ?_⟩
      unfold rlTwo
      rw [if_neg (fun e => e.elim (fun e => e q3) q4)]
      simp
    · refine List.mem_append.2 (.inr (List.mem_flatMap.2 ⟨y, hy, ?_⟩))
      unfold rlB
      rw [if_neg (fun e => e.elim (fun e => e q3) q4)]
      exact List.mem_map.2 ⟨i, List.mem_range.2 hi, rfl⟩

variable (hF : FOk F) (hG : FOk G)
include hF hG

theorem pass_ok {r : Rlx} (hr : r ∈ passR F G u v) : RlxOk (cN F G u v) r := by
  obtain ⟨a, b, ha, hb, ⟨x, hx, q, q2, j, hj, rfl⟩ | ⟨x, hx, y, hy, q, q2, q3, q4, rfl⟩ | ⟨y, hy, q3, q4, i, hi, rfl⟩⟩ := mem_passR.1 hr
  · have h1 := hF.arc x hx
    have := h1.f0; have := h1.f1; have := h1.t0; have := h1.t1
    exact ⟨at_lt (by omega) hj ha hb, at_lt (by omega) hj (nxW_le ha q) hb, h1.w0, by have := h1.w1; show x.w ≤ _; omega⟩
  · have h1 := hF.arc x hx
    have h2 := hG.arc y hy
    have := h1.f0; have := h1.f1; have := h1.t0; have := h1.t1
    have := h2.f0; have := h2.f1; have := h2.t0; have := h2.t1
    have := h1.w0; have := h1.w1; have := h2.w0; have := h2.w1
    exact ⟨at_lt (by omega) (by omega) ha hb, at_lt (by omega) (by omega) (nxW_le ha q) (nxW_le hb q4), by simp only; omega, by simp only; omega⟩
  · have h2 := hG.arc y hy
    have := h2.f0; have := h2.f1; have := h2.t0; have := h2.t1
    exact ⟨at_lt hi (by omega) ha hb, at_lt hi (by omega) ha (nxW_le hb q4), h2.w0, by have := h2.w1; show y.w ≤ _; omega⟩

/-- Two ways to here, one word between. -/
def CW (F G : TF) (u v : List Int) (i j a b : Nat) (x : Int) : Prop := ∃ w c1 c2, Way F.arcs F.start (u.take a) w i c1 ∧ Way G.arcs G.start w (v.take b) j c2 ∧ x = c1 + c2

theorem rs_cw {n : Nat} {z : Int} (h : RS (passR F G u v) (atI F G v F.start.toNat G.start.toNat 0 0) n z) : ∃ i j a b, i < F.st.toNat ∧ j < G.st.toNat ∧ a ≤ u.length ∧ b ≤ v.length ∧ n = atI F G v i j a b ∧ CW F G u v i j a b z := by
  have f3 := hF.start
  have g3 := hG.start
  induction h with
  | start =>
    have e1 : ((F.start.toNat : Nat) : Int) = F.start := by omega
    have e2 : ((G.start.toNat : Nat) : Int) = G.start := by omega
    refine ⟨F.start.toNat, G.start.toNat, 0, 0, by omega, by omega, Nat.zero_le _, Nat.zero_le _, rfl, [], 0, 0, ?_, ?_, rfl⟩
    · rw [e1]; exact .nil _
    · rw [e2]; exact .nil _
  | @step r z h hr ih =>
    obtain ⟨i, j, a, b, hi, hj, ha, hb, hn, w, c1, c2, w1, w2, rfl⟩ := ih
    obtain ⟨a', b', ha', hb', ⟨x, hx, q, q2, j', hj', rfl⟩ | ⟨x, hx, y, hy, q, q2, q3, q4, rfl⟩ | ⟨y, hy, q3, q4, i', hi', rfl⟩⟩ := mem_passR.1 hr
    · have h1 := hF.arc x hx
      have := h1.f0; have := h1.f1; have := h1.t0; have := h1.t1
      obtain ⟨rfl, rfl, rfl, rfl⟩ := at_inj (by omega) hj' hb' hi hj hb hn
      refine ⟨x.t.toNat, j', nxW a' x.i, b', by omega, hj', nxW_le ha' q, hb', rfl, w ++ lab x.o, c1 + x.w, c2, ?_, ?_, by show c1 + c2 + x.w = _; omega⟩
      · rw [nxW_take h1.i0.1 ha' q, show ((x.t.toNat : Nat) : Int) = x.t by omega]
        rw [show ((x.f.toNat : Nat) : Int) = x.f by omega] at w1
        exact w1.snoc hx
      · rw [q2]; simpa [lab] using w2
    · have h1 := hF.arc x hx
      have h2 := hG.arc y hy
      have := h1.f0; have := h1.f1; have := h1.t0; have := h1.t1
      have := h2.f0; have := h2.f1; have := h2.t0; have := h2.t1
      obtain ⟨rfl, rfl, rfl, rfl⟩ := at_inj (by omega) (by omega) hb' hi hj hb hn
      refine ⟨x.t.toNat, y.t.toNat, nxW a' x.i, nxW b' y.o, by omega, by omega, nxW_le ha' q, nxW_le hb' q4, rfl, w ++ lab x.o, c1 + x.w, c2 + y.w, ?_, ?_, by show c1 + c2 + (x.w + y.w) = _; omega⟩
      · rw [nxW_take h1.i0.1 ha' q, show ((x.t.toNat : Nat) : Int) = x.t by omega]
        rw [show ((x.f.toNat : Nat) : Int) = x.f by omega] at w1
        exact w1.snoc hx
      · rw [nxW_take h2.o0.1 hb' q4, show ((y.t.toNat : Nat) : Int) = y.t by omega, ← q3]
        rw [show ((y.f.toNat : Nat) : Int) = y.f by omega] at w2
        exact w2.snoc hy
    · have h2 := hG.arc y hy
      have := h2.f0; have := h2.f1; have := h2.t0; have := h2.t1
      obtain ⟨rfl, rfl, rfl, rfl⟩ := at_inj hi' (by omega) hb' hi hj hb hn
      refine ⟨i', y.t.toNat, a', nxW b' y.o, hi', by omega, ha', nxW_le hb' q4, rfl, w, c1, c2 + y.w, w1, ?_, by show c1 + c2 + y.w = _; omega⟩
      rw [nxW_take h2.o0.1 hb' q4, show ((y.t.toNat : Nat) : Int) = y.t by omega]
      rw [show ((y.f.toNat : Nat) : Int) = y.f by omega] at w2
      have := w2.snoc hy
      rw [q3] at this
      simpa [lab] using this

omit hF hG in
theorem lab_bad {u u1 u2 u3 : List Int} {x : Int} (hx : 0 ≤ x) (hu : u = u1 ++ (lab x ++ u2)) : ¬ badW u u1.length x ∧ nxW u1.length x = (u1 ++ lab x).length ∧ u1.length ≤ u.length := by
  unfold badW nxW
  subst hu
  by_cases q : 0 < x
  · rw [lab_ne (by omega), if_pos q]
    refine ⟨fun ⟨_, h⟩ => ?_, by simp, by simp⟩
    rcases h with h | h
    · simp at h
    · apply h
      simp [List.getD]
  · rw [if_neg q]
    have : x = 0 := by omega
    subst this
    refine ⟨fun ⟨h, _⟩ => q h, by simp [lab], by simp⟩

theorem pw_rs {s0 : Nat} {p q : Trip} {u' v' : List Int} {d : Int} (h : PWay F G p u' v' q d) : ∀ (u1 u2 v1 v2 : List Int) (z : Int), u = u1 ++ (u' ++ u2) → v = v1 ++ (v' ++ v2) → PRng F G p → RS (passR F G u v) s0 (atI F G v p.a.toNat p.b.toNat u1.length v1.length) z →
    RS (passR F G u v) s0 (atI F G v q.a.toNat q.b.toNat (u1 ++ u').length (v1 ++ v').length) (z + d) ∧ PRng F G q := by
  have f2 := hF.finl
  have g2 := hG.finl
  induction h with
  | nil p => intro u1 u2 v1 v2 z hu hv hp hr; simpa using ⟨hr, hp⟩
  | @cons p s u' v' q c hs h ih =>
    intro u1 u2 v1 v2 z hu hv hp hr
    have hi := (steps_ok hF hG hs).1.1
    have ho := (steps_ok hF hG hs).2.1.1
    rw [List.append_assoc] at hu hv
    obtain ⟨b1, b2, b3⟩ := lab_bad (u3 := []) hi hu
    obtain ⟨d1, d2, d3⟩ := lab_bad (u3 := []) ho hv
    have hpa := hp.a0; have hpa1 := hp.a1; have hpb := hp.b0; have hpb1 := hp.b1
    have hq := (steps_rng hF hG hp hs).1
    have key : (⟨atI F G v p.a.toNat p.b.toNat u1.length v1.length, atI F G v s.p.a.toNat s.p.b.toNat (u1 ++ lab s.i).length (v1 ++ lab s.o).length, s.w⟩ : Rlx) ∈ passR F G u v := by
      rw [← b2, ← d2]
      refine mem_passR.2 ⟨u1.length, v1.length, b3, d3, ?_⟩
      rcases mem_steps.1 hs with ⟨a, ha, e1, e2, _, rfl⟩ | ⟨a, ha, b, hb, e1, e2, e3, e4, rfl⟩ | ⟨b, hb, e1, e2, rfl⟩
      · refine .inl ⟨a, ha, b1, e2, p.b.toNat, by omega, ?_⟩
        unfold rlSil
        rw [e1]
        simp [nxW]
      · refine .inr (.inl ⟨a, ha, b, hb, b1, e4, e3.symm, d1, ?_⟩)
        rw [e1, e2]
      · refine .inr (.inr ⟨b, hb, e2, d1, p.a.toNat, by omega, ?_⟩)
        unfold rlOne
        rw [e1]
        simp [nxW]
    have := ih (u1 ++ lab s.i) u2 (v1 ++ lab s.o) v2 (z + s.w) (by rw [hu]; simp) (by rw [hv]; simp) hq (RS.step hr key)
    rw [List.append_assoc, List.append_assoc, Int.add_assoc] at this
    exact this

theorem rs_iff {i j : Nat} (hi : i < F.st.toNat) (hj : j < G.st.toNat) {z : Int} : RS (passR F G u v) (atI F G v F.start.toNat G.start.toNat 0 0) (atI F G v i j u.length v.length) z ↔ CW F G u v i j u.length v.length z := by
  constructor
  · intro h
    obtain ⟨i', j', a, b, hi', hj', ha, hb, hn, hc⟩ := rs_cw hF hG h
    obtain ⟨rfl, rfl, rfl, rfl⟩ := at_inj hi hj (Nat.le_refl _) hi' hj' hb hn
    exact hc
  · rintro ⟨w, c1, c2, h1, h2, rfl⟩
    rw [List.take_length] at h1 h2
    obtain ⟨k', hp⟩ := h1.pair G.start j 0 v c2 (by omega) h2
    have f3 := hF.start
    have g3 := hG.start
    have f2 := hF.finl
    have g2 := hG.finl
    have := (pw_rs (u := u) (v := v) (s0 := atI F G v F.start.toNat G.start.toNat 0 0) hF hG hp [] [] [] [] 0 (by simp) (by simp) (PRng.of ⟨f3.1, by omega⟩ ⟨g3.1, by omega⟩) .start).1
    simpa using this

/-- The best of all pairs of states. -/
def bRow (F G : TF) (u v : List Int) (c : List Int) (i : Nat) (b : Int) : Nat → Int
  | 0 => b
  | j + 1 => less (bRow F G u v c i b j) (plus (c.getD (atI F G v i j u.length v.length) 0) (plus (F.fin.getD i 0) (G.fin.getD j 0)))
def bAll (F G : TF) (u v : List Int) (c : List Int) : Nat → Int
  | 0 => -1
  | i + 1 => bRow F G u v c i (bAll F G u v c i) G.st.toNat

theorem bAll_min {c : List Int} (hc : ∀ i j, i < F.st.toNat → j < G.st.toNat → MinOf (CW F G u v i j u.length v.length) (c.getD (atI F G v i j u.length v.length) 0)) : MinOf (Comp (Wt F) (Wt G) u v) (bAll F G u v c F.st.toNat) := by
  have f2 := hF.finl
  have g2 := hG.finl
  let Q : Nat → Nat → Int → Prop := fun i j x => ∃ d z, CW F G u v i j u.length v.length d ∧ (0 ≤ F.fin.getD i 0 ∧ G.fin.getD j 0 ≠ -1 ∧ z = F.fin.getD i 0 + G.fin.getD j 0) ∧ x = d + z
  have hQ : ∀ i j, i < F.st.toNat → j < G.st.toNat → MinOf (Q i j) (plus (c.getD (atI F G v i j u.length v.length) 0) (plus (F.fin.getD i 0) (G.fin.getD j 0))) := fun i j hi hj =>
    (hc i j hi hj).add (plus_min _ _ (hG.fin _ (getD_mem G.fin j 0 (by omega))).1)
  have hrow : ∀ i b (P : Int → Prop), i < F.st.toNat → MinOf P b → ∀ j, j ≤ G.st.toNat → MinOf (fun x => P x ∨ ∃ j', j' < j ∧ Q i j' x) (bRow F G u v c i b j) := by
    intro i b P hi hb j
    induction j with
    | zero => intro _; exact hb.cong fun x => ⟨.inl, fun h => h.elim id fun ⟨j', h, _⟩ => absurd h (Nat.not_lt_zero _)⟩
    | succ j ih =>
      intro hj
      refine ((ih (by omega)).or (hQ i j hi (by omega))).cong fun x => ⟨fun h => ?_, fun h => ?_⟩
      · rcases h with (h | ⟨j', h1, h2⟩) | h
        · exact .inl h
        · exact .inr ⟨j', by omega, h2⟩
        · exact .inr ⟨j, by omega, h⟩
      · rcases h with h | ⟨j', h1, h2⟩
        · exact .inl (.inl h)
        · by_cases e : j' = j
          · subst e; exact .inr h2
          · exact .inl (.inr ⟨j', by omega, h2⟩)
  have hall : ∀ i, i ≤ F.st.toNat → MinOf (fun x => ∃ i' j', i' < i ∧ j' < G.st.toNat ∧ Q i' j' x) (bAll F G u v c i) := by
    intro i
    induction i with
    | zero => intro _; exact .inl ⟨rfl, fun x ⟨i', j', h, _⟩ => absurd h (Nat.not_lt_zero _)⟩
    | succ i ih =>
      intro hi
      refine (hrow i _ _ (by omega) (ih (by omega)) G.st.toNat (Nat.le_refl _)).cong fun x => ⟨fun h => ?_, fun h => ?_⟩
      · rcases h with ⟨i', j', h1, h2, h3⟩ | ⟨j', h1, h2⟩
        · exact ⟨i', j', by omega, h2, h3⟩
        · exact ⟨i, j', by omega, h1, h2⟩
      · obtain ⟨i', j', h1, h2, h3⟩ := h
        by_cases e : i' = i
        · subst e; exact .inr ⟨j', h2, h3⟩
        · exact .inl ⟨i', j', by omega, h2, h3⟩
  refine (hall F.st.toNat (Nat.le_refl _)).cong fun x => ⟨?_, ?_⟩
  · rintro ⟨i, j, hi, hj, d, z, ⟨w, c1, c2, h1, h2, rfl⟩, ⟨h3, h4, rfl⟩, rfl⟩
    rw [List.take_length] at h1 h2
    refine ⟨w, c1 + F.fin.getD i 0, c2 + G.fin.getD j 0, ⟨i, c1, h1, ?_, ?_⟩, ⟨j, c2, h2, ?_, ?_⟩, by omega⟩
    · rw [Int.toNat_natCast]; omega
    · rw [Int.toNat_natCast]
    · rw [Int.toNat_natCast]; exact h4
    · rw [Int.toNat_natCast]
  · rintro ⟨w, a, b, ⟨t, d, h1, h2, rfl⟩, ⟨t', d', h3, h4, rfl⟩, rfl⟩
    have r1 := h1.rng hF.arc hF.start
    have r2 := h3.rng hG.arc hG.start
    have k1 := hF.fin _ (getD_mem F.fin t.toNat 0 (by omega))
    refine ⟨t.toNat, t'.toNat, by omega, by omega, d + d', _, ⟨w, d, d', ?_, ?_, rfl⟩, ⟨by omega, h4, rfl⟩, by omega⟩
    · rw [List.take_length, Int.toNat_of_nonneg r1.1]; exact h1
    · rw [List.take_length, Int.toNat_of_nonneg r2.1]; exact h3
end
end Go.Fw
