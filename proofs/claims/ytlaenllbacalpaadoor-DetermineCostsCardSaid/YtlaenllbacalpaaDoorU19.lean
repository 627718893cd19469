/-
  What is made does not go round, and is no dearer than all that there is.
-/
import Derived.Test.YtlaenllbacalpaaDoorU18
import Derived.Test.YtlaenllbacalpaaDoorU16
import Derived.Test.YtlaenllbacalpaaDoorU15
import Derived.Test.YtlaenllbacalpaaDoorU06

set_option linter.unusedSimpArgs false
set_option linter.unusedVariables false

namespace Go.Fw

theorem nowB_iff {l : List Arc} {k : Nat} {v : Int} : nowB l (k + 1) v = true ↔ ∃ a ∈ l, a.t = v ∧ nowB l k a.f = true := by
  show (l.any fun a => a.t == v && nowB l k a.f) = true ↔ _
  rw [List.any_eq_true]
  constructor
  · rintro ⟨a, ha, h⟩
    rw [Bool.and_eq_true, beq_iff_eq] at h
    exact ⟨a, ha, h⟩
  · rintro ⟨a, ha, h⟩
    exact ⟨a, ha, by rw [Bool.and_eq_true, beq_iff_eq]; exact h⟩
theorem nowB_down {l : List Arc} : ∀ {k : Nat} {v : Int}, nowB l (k + 1) v = true → nowB l k v = true
  | 0, _, _ => rfl
  | k + 1, v, h => by
    obtain ⟨a, ha, h1, h2⟩ := nowB_iff.1 h
    exact nowB_iff.2 ⟨a, ha, h1, nowB_down h2⟩
theorem nowB_le {l : List Arc} {k : Nat} {v : Int} {j : Nat} (hj : j ≤ k) (h : nowB l k v = true) : nowB l j v = true := by
  obtain ⟨d, rfl⟩ := Nat.exists_eq_add_of_le hj
  induction d with
  | zero => exact h
  | succ d ih => exact ih (by omega) (nowB_down h)
theorem rd_nowB {l : List Arc} {s t c : Int} : ∀ {w : List Int}, RdW l s w t c → nowB l w.length t = true := by
  have : ∀ (n : Nat) (w : List Int) (t c : Int), w.length = n → RdW l s w t c → nowB l n t = true := by
    intro n
    induction n with
    | zero => intro w t c _ _; rfl
    | succ n ih =>
      intro w t c hw hr
      obtain ⟨v, x, rfl⟩ : ∃ v x, w = v ++ [x] := ⟨w.dropLast, w.getLast (by intro e; rw [e] at hw; cases hw), (List.dropLast_concat_getLast _).symm⟩
      rw [List.length_append, List.length_singleton] at hw
      obtain ⟨a, ha, d, h1, h2, h3, h4⟩ := hr.unsnoc
      exact nowB_iff.2 ⟨a, ha, h3, ih v a.f d (by omega) h1⟩
  intro w h
  exact this _ _ _ _ rfl h
theorem nowB_rd {l : List Arc} {n : Int} (hl : ∀ a ∈ l, 0 ≤ a.f ∧ a.f < n) : ∀ {k : Nat} {v : Int}, 0 ≤ v ∧ v < n → nowB l k v = true → ∃ s w c, (0 ≤ s ∧ s < n) ∧ w.length = k ∧ RdW l s w v c
  | 0, v, hv, _ => ⟨v, [], 0, hv, rfl, .nil _⟩
  | k + 1, v, hv, h => by
    obtain ⟨a, ha, h1, h2⟩ := nowB_iff.1 h
    obtain ⟨s, w, c, g1, g2, g3⟩ := nowB_rd hl (hl a ha) h2
    exact ⟨s, w ++ [a.i], c + a.w, g1, by simp [g2], h1 ▸ g3.snoc ha rfl⟩

/-- Who goes round goes as long as one likes. -/
theorem round_all {l : List Arc} {n : Nat} (hl : ∀ a ∈ l, 0 ≤ a.f ∧ a.f < n) (h : roundB l n = true) (M : Nat) : ∃ v : Nat, v < n ∧ nowB l M v = true := by
  have key : ∀ k, (∃ j, j < k ∧ ∀ v : Nat, v < n → nowB l j v = nowB l (j + 1) v) ∨ cin n (fun v => nowB l k v) + k ≤ n := by
    intro k
    induction k with
    | zero => exact .inr (cin_le _ _)
    | succ k ih =>
      rcases ih with ⟨j, h1, h2⟩ | ih
      · exact .inl ⟨j, by omega, h2⟩
      · by_cases hs : ∀ v : Nat, v < n → nowB l k v = nowB l (k + 1) v
        · exact .inl ⟨k, by omega, hs⟩
        · right
          obtain ⟨v, hv⟩ := Classical.not_forall.1 hs
          obtain ⟨hv, hne⟩ := Classical.not_imp.1 hv
          have h1 : nowB l (k + 1) v = false := by
            cases e : nowB l (k + 1) v with
            | false => rfl
            | true => exact absurd ((nowB_down e).trans e.symm) hne
          have h2 : nowB l k v = true := by
            cases e : nowB l k v with
            | true => rfl
            | false => exact absurd (e.trans h1.symm) hne
          have := cin_lt (p := fun v : Nat => nowB l (k + 1) v) (q := fun v : Nat => nowB l k v) (n := n) (fun i _ h => nowB_down h) hv h1 h2
          omega
  unfold roundB at h
  rw [List.any_eq_true] at h
  obtain ⟨v, hv, h⟩ := h
  have hv := List.mem_range.1 hv
  refine ⟨v, hv, ?_⟩
  rcases key n with ⟨j, hj, hs⟩ | hk
  · have hst : ∀ d (v : Nat), v < n → nowB l (j + d) v = nowB l j v := by
      intro d
      induction d with
      | zero => intro v _; rfl
      | succ d ih =>
        intro v hv
        rw [hs v hv, Bool.eq_iff_iff, nowB_iff, ← Nat.add_assoc, nowB_iff]
        constructor
        · rintro ⟨a, ha, h1, h2⟩
          have hr := hl a ha
          have := ih a.f.toNat (by omega)
          rw [show ((a.f.toNat : Nat) : Int) = a.f by omega] at this
          exact ⟨a, ha, h1, this ▸ h2⟩
        · rintro ⟨a, ha, h1, h2⟩
          have hr := hl a ha
          have := ih a.f.toNat (by omega)
          rw [show ((a.f.toNat : Nat) : Int) = a.f by omega] at this
          exact ⟨a, ha, h1, this.symm ▸ h2⟩
    by_cases hM : M ≤ j
    · exact nowB_le (by omega : M ≤ n) h
    · have e1 := hst (M - j) v hv
      rw [show j + (M - j) = M by omega] at e1
      rw [e1]
      exact nowB_le (by omega : j ≤ n) h
  · exfalso
    have := cin_lt (p := fun _ => false) (q := fun v : Nat => nowB l n v) (n := n) (fun i _ h => by cases h) hv rfl h
    omega

/-- Down to some place. -/
theorem cin_down {p : Nat → Bool} (hp : ∀ k, p (k + 1) = true → p k = true) : ∀ (m k : Nat), k < m → (p k = true ↔ k < cin m p)
  | 0, _, h => by omega
  | m + 1, k, h => by
    by_cases hm : p m = true
    · have hall : ∀ d, d ≤ m → p (m - d) = true := by
        intro d
        induction d with
        | zero => intro _; exact hm
        | succ d ih =>
          intro hd
          refine hp _ ?_
          rw [show m - (d + 1) + 1 = m - d by omega]
          exact ih (by omega)
      have h1 : cin (m + 1) p = m + 1 := cin_all.2 fun i hi => by
        have := hall (m - i) (by omega)
        rwa [show m - (m - i) = i by omega] at this
      rw [h1]
      refine ⟨fun _ => h, fun _ => ?_⟩
      have := hall (m - k) (by omega)
      rwa [show m - (m - k) = k by omega] at this
    · rw [cin_succ, if_neg hm, Nat.add_zero]
      by_cases hk : k = m
      · subst hk
        have := cin_le k p
        exact ⟨fun c => absurd c hm, fun c => by omega⟩
      · exact cin_down hp m k (by omega)

def rankA (l : List Arc) (n : Nat) (v : Int) : Nat := cin (n + 1) fun k => nowB l k v
theorem rank_lt {l : List Arc} {n : Nat} (hl : ∀ a ∈ l, 0 ≤ a.f ∧ a.f < n) (h : roundB l n = false) {a : Arc} (ha : a ∈ l) : rankA l n a.f < rankA l n a.t := by
  have hdn : ∀ v : Int, ∀ k, k < n + 1 → (nowB l k v = true ↔ k < rankA l n v) := fun v k hk => cin_down (p := fun k => nowB l k v) (fun k h => nowB_down h) (n + 1) k hk
  have hr := hl a ha
  have hn : nowB l n a.f = false := by
    unfold roundB at h
    rw [List.any_eq_false] at h
    have := h a.f.toNat (List.mem_range.2 (by omega))
    rw [show ((a.f.toNat : Nat) : Int) = a.f by omega] at this
    simpa using this
  have h0 := (hdn a.f 0 (by omega)).1 rfl
  have h1 : rankA l n a.f ≤ n := by
    refine Classical.byContradiction fun hc => ?_
    rw [(hdn a.f n (by omega)).2 (by omega)] at hn
    cases hn
  have h2 := (hdn a.f (rankA l n a.f - 1) (by omega)).2 (by omega)
  have h3 : nowB l (rankA l n a.f) a.t = true := by
    have := nowB_iff.2 ⟨a, ha, rfl, h2⟩
    rwa [show rankA l n a.f - 1 + 1 = rankA l n a.f by omega] at this
  exact (hdn a.t _ (by omega)).1 h3

def wsP (l : List Arc) (q : Arc → Bool) : Nat → Int
  | 0 => 0
  | k + 1 => wsP l q k + (if q (l.getD k aD) = true then (l.getD k aD).w else 0)
theorem wsP_le {l : List Arc} (hw : ∀ a ∈ l, 0 ≤ a.w) {q r : Arc → Bool} (hqr : ∀ a, q a = true → r a = true) : ∀ k, k ≤ l.length → wsP l q k ≤ wsP l r k
  | 0, _ => Int.le_refl _
  | k + 1, hk => by
    have ih := wsP_le hw hqr k (by omega)
    have := hw _ (getD_mem l k aD (by omega))
    unfold wsP
    by_cases h : q (l.getD k aD) = true
    · rw [if_pos h, if_pos (hqr _ h)]; omega
    · rw [if_neg h]; split <;> omega
theorem wsP_add {l : List Arc} (hw : ∀ a ∈ l, 0 ≤ a.w) {q r : Arc → Bool} (hqr : ∀ a, q a = true → r a = true) {j : Nat} (h1 : q (l.getD j aD) = false) (h2 : r (l.getD j aD) = true) : ∀ k, j < k → k ≤ l.length → wsP l q k + (l.getD j aD).w ≤ wsP l r k
  | 0, h, _ => by omega
  | k + 1, hj, hk => by
    have hwk := hw _ (getD_mem l k aD (by omega))
    unfold wsP
    by_cases e : j = k
    · subst e
      have := wsP_le hw hqr j (by omega)
      rw [if_neg (by rw [h1]; simp), if_pos h2]
      omega
    · have ih := wsP_add hw hqr h1 h2 k (by omega) (by omega)
      by_cases h : q (l.getD k aD) = true
      · rw [if_pos h, if_pos (hqr _ h)]; omega
      · rw [if_neg h]; split <;> omega
theorem wsP_all {l : List Arc} : ∀ k, wsP l (fun _ => true) k = wsumL l k
  | 0 => rfl
  | k + 1 => by
    unfold wsP wsumL
    rw [wsP_all k, if_pos rfl]

theorem rd_sum {l : List Arc} {n : Nat} (hl : ∀ a ∈ l, 0 ≤ a.f ∧ a.f < n) (hw : ∀ a ∈ l, 0 ≤ a.w) (h : roundB l n = false) {s t c : Int} {w : List Int} (hr : RdW l s w t c) : c ≤ wsumL l l.length := by
  have : ∀ (m : Nat) (w : List Int) (t c : Int), w.length = m → RdW l s w t c → c ≤ wsP l (fun a => decide (rankA l n a.f < rankA l n t)) l.length := by
    intro m
    induction m with
    | zero =>
      intro w t c hw2 hr
      have : w = [] := List.length_eq_zero_iff.1 hw2
      rw [(hr.none this).2]
      have h0 : ∀ k, k ≤ l.length → 0 ≤ wsP l (fun a => decide (rankA l n a.f < rankA l n t)) k := by
        intro k
        induction k with
        | zero => intro _; exact Int.le_refl _
        | succ k ih =>
          intro hk
          have := ih (by omega)
          have := hw _ (getD_mem l k aD (by omega))
          unfold wsP
          split <;> omega
      exact h0 _ (Nat.le_refl _)
    | succ m ih =>
      intro w t c hw2 hr
      obtain ⟨v, x, rfl⟩ : ∃ v x, w = v ++ [x] := ⟨w.dropLast, w.getLast (by intro e; rw [e] at hw2; cases hw2), (List.dropLast_concat_getLast _).symm⟩
      rw [List.length_append, List.length_singleton] at hw2
      obtain ⟨a, ha, d, h1, h2, h3, h4⟩ := hr.unsnoc
      have hi := ih v a.f d (by omega) h1
      have hlt := rank_lt hl h ha
      obtain ⟨j, hj, rfl⟩ := getD_ix ha
      rw [h3] at hlt
      have := wsP_add hw (q := fun a => decide (rankA l n a.f < rankA l n (l.getD j aD).f)) (r := fun a => decide (rankA l n a.f < rankA l n t)) (fun a h => by rw [decide_eq_true_eq] at h ⊢; omega) (j := j) (by simp) (by simpa using hlt) l.length hj (Nat.le_refl _)
      omega
  have h1 := this w.length w t c rfl hr
  have h2 := wsP_le hw (q := fun a => decide (rankA l n a.f < rankA l n t)) (r := fun _ => true) (fun _ _ => rfl) l.length (Nat.le_refl _)
  rw [wsP_all] at h2
  omega

theorem fmaxL_ge {l : List Int} : ∀ k, ∀ j, j < k → l.getD j 0 ≤ fmaxL l k
  | 0, j, h => by omega
  | k + 1, j, h => by
    unfold fmaxL
    by_cases e : j = k
    · subst e
      split <;> omega
    · have := fmaxL_ge (l := l) k j (by omega)
      split <;> omega
end Go.Fw

/-
  One way for each word: all that the law asks.
-/
namespace Go.Fw

theorem IsUs.arcs {F U : TF} (h : IsUs F U) {a : Arc} (ha : a ∈ U.arcs) : ∃ b ∈ F.arcs, a.i = b.i ∧ a.o = b.o ∧ a.w = b.w := by
  obtain ⟨p, hp, h1, h2, h3, h4⟩ := h
  rw [h4] at ha
  unfold kT at ha
  split at ha
  · obtain ⟨b, hb, _, _, rfl⟩ := mem_karcs.1 ha
    exact ⟨b, hb, rfl, rfl, rfl⟩
  · cases ha
theorem IsUs.fin {F U : TF} (h : IsUs F U) (j : Nat) : U.fin.getD j 0 ≤ fmaxL F.fin F.fin.length := by
  obtain ⟨p, hp, h1, h2, h3, h4⟩ := h
  have h0 : 0 ≤ fmaxL F.fin F.fin.length := by
    have : ∀ k, 0 ≤ fmaxL F.fin k := by
      intro k
      induction k with
      | zero => exact Int.le_refl _
      | succ k ih => unfold fmaxL; split <;> omega
    exact this _
  by_cases hj : j < U.fin.length
  · have hm := getD_mem U.fin j 0 hj
    generalize U.fin.getD j 0 = n at *
    rw [h3] at hm
    unfold kT at hm
    split at hm
    · obtain ⟨i, hi, rfl⟩ := kfin_mem F.fin hm
      by_cases hi2 : i < F.fin.length
      · exact fmaxL_ge _ i hi2
      · simp only [List.getD, List.getElem?_eq_none (show F.fin.length ≤ i by omega), Option.getD_none]; exact h0
    · rw [List.mem_singleton] at hm
      omega
  · simp only [List.getD, List.getElem?_eq_none (show U.fin.length ≤ j by omega), Option.getD_none]; exact h0

theorem RdW.empty {L : List Arc} {s t c : Int} {w : List Int} (h : RdW L s w t c) (hL : L = []) : w = [] ∧ t = s ∧ c = 0 := by
  cases h with
  | nil => exact ⟨rfl, rfl, rfl⟩
  | cons ha _ => rw [hL] at ha; cases ha

theorem IsUs.rd {F U : TF} (h : IsUs F U) (hF : FRng F) (hs : 0 ≤ F.start ∧ F.start < F.st) (hL : ∀ a ∈ F.arcs, a.i = a.o ∧ a.i ≠ 0) {w : List Int} {t c : Int} (hr : RdW U.arcs U.start w t c) : ∃ t', (0 ≤ t' ∧ t' < F.st) ∧ RdW F.arcs F.start w t' c := by
  have hLU : ∀ a ∈ U.arcs, a.i = a.o ∧ a.i ≠ 0 := fun a ha => by
    obtain ⟨b, hb, e1, e2, _⟩ := h.arcs ha
    rw [e1, e2]; exact hL b hb
  obtain ⟨p, hp, h1, h2, h3, h4⟩ := h
  rw [h4] at hLU
  rw [h4, h2] at hr
  by_cases hps : p F.start.toNat = true
  · have e1 : (kT F p).arcs = karc p F.arcs F.arcs.length := by unfold kT; rw [if_pos hps]
    have e2 : (kT F p).start = (rkB p F.start.toNat : Nat) := by unfold kT; rw [if_pos hps]
    rw [e1] at hLU
    rw [e1, e2] at hr
    obtain ⟨j, q1, q2, q3, q4, q5⟩ := kept_way hF (rd_way hLU hr) F.start hs hps rfl
    exact ⟨j, ⟨q1, q2⟩, (way_rd hL q5).2⟩
  · have e1 : (kT F p).arcs = [] := by unfold kT; rw [if_neg hps]
    rw [e1] at hr
    obtain ⟨rfl, _, rfl⟩ := hr.empty rfl
    exact ⟨F.start, hs, .nil _⟩

theorem fineB_iff {F : TF} : fineB F = true ↔ (∀ a ∈ F.arcs, a.i = a.o ∧ a.i ≠ 0) ∧ roundB F.arcs F.st.toNat = false := by
  unfold fineB bothB silB
  rw [Bool.and_eq_true, Bool.and_eq_true, Bool.not_eq_true', Bool.not_eq_true', Bool.not_eq_true', List.any_eq_false, List.any_eq_false]
  constructor
  · rintro ⟨⟨h1, h2⟩, h3⟩
    exact ⟨fun a ha => ⟨by simpa using h1 a ha, by simpa using h2 a ha⟩, h3⟩
  · rintro ⟨h1, h2⟩
    exact ⟨⟨fun a ha => by simpa using (h1 a ha).1, fun a ha => by simpa using (h1 a ha).2⟩, h2⟩

/-- What there is to begin with. -/
structure DetH (F U : TF) (st : DS) : Prop where
  fok : FOk F
  fine : fineB F = true
  us : IsUs F U
  bgn : bgnF U 201 200 [⟨U.start, 0⟩] ≤ 200
  done : MDone U st

section
variable {F U : TF} {st : DS} (h : DetH F U st)
include h

theorem DetH.wok : WOk F := ⟨FRng.of h.fok, fun a ha => ⟨(h.fok.arc a ha).w0, (h.fok.arc a ha).w1⟩, h.fok.fin⟩
theorem DetH.lets : ∀ a ∈ F.arcs, a.i = a.o ∧ a.i ≠ 0 := (fineB_iff.1 h.fine).1
theorem DetH.uok : WOk U ∧ (0 ≤ U.start ∧ U.start < U.st) ∧ U.st ≤ F.st := h.us.ok h.wok h.fok.start
theorem DetH.hU : ∀ a ∈ U.arcs, (0 ≤ a.f ∧ a.f < U.st) ∧ (0 ≤ a.t ∧ a.t < U.st) ∧ 0 ≤ a.w ∧ a.w ≤ 1000000000 := fun a ha => by
  have := h.uok.1.arc a ha
  have := h.uok.1.w a ha
  omega
theorem DetH.hlet : ∀ a ∈ U.arcs, (1 ≤ a.i ∧ a.i ≤ 9) ∧ a.i = a.o := fun a ha => by
  obtain ⟨b, hb, e1, e2, _⟩ := h.us.arcs ha
  have := h.lets b hb
  have := (h.fok.arc b hb).i0
  omega
theorem DetH.hfin : ∀ j : Nat, -1 ≤ U.fin.getD j 0 := fun j => by
  by_cases hj : j < U.fin.length
  · exact (h.uok.1.fin _ (getD_mem U.fin j 0 hj)).1
  · simp only [List.getD, List.getElem?_eq_none (show U.fin.length ≤ j by omega), Option.getD_none]; omega
theorem DetH.ri : RI U st.1.length 1 st := h.done.ri
theorem DetH.small : MInv U (treeL U 201 [⟨U.start, 0⟩]) st.1.length st ∧ st.1.length ≤ 200 ∧ st.2.length ≤ 1800 :=
  h.done.small h.uok.1.st.1 h.uok.1.w (fun a ha => (h.hU a ha).2.1) h.uok.2.1 h.bgn

theorem DetH.fst (hg : greatB st.2 (st.1.map (finD U)) = false) (cf ca : Nat) : fstE (mkD U st cf ca) = 0 := by
  have hr := h.ri
  obtain ⟨h1, h2, h3⟩ := h.small
  have hl := hr.len
  unfold greatB at hg
  rw [Bool.or_eq_false_iff, List.any_eq_false, List.any_eq_false] at hg
  refine fstE_iff.2 ⟨⟨?_, ?_, ?_, ?_, ?_, ?_⟩, hr.srt⟩
  · show 1 ≤ ((st.1.length : Nat) : Int) ∧ ((st.1.length : Nat) : Int) ≤ 200
    omega
  · show 0 ≤ (0 : Int) ∧ (0 : Int) < ((st.1.length : Nat) : Int)
    omega
  · show ((st.1.map (finD U)).length : Int) = ((st.1.length : Nat) : Int)
    rw [List.length_map]
  · intro n hn
    have g1 := hg.2 n hn
    have hn : n ∈ st.1.map (finD U) := hn
    obtain ⟨s, hs, rfl⟩ := List.mem_map.1 hn
    obtain ⟨j, hj, rfl⟩ := List.mem_iff_getElem.1 hs
    have hok := h1.ok j hj
    have e : st.1.getD j [] = st.1[j] := by simp [List.getD, hj]
    rw [e] at hok
    have := (finD_min (U := U) (fun e he => ((hok.rng e he).2).1) h.hfin).low
    exact ⟨this, by simpa using g1⟩
  · show st.2.length ≤ 3000
    omega
  · intro a ha
    have ha : a ∈ st.2 := ha
    have g1 := hg.1 a ha
    obtain ⟨j, x, q1, q2, q3, q4, q5, q6, q7, q8, q9, q10⟩ := hr.arc ha
    have hok := h1.ok j q2
    have hb := (sbR_spec (U := U) (fun e he => ((hok.rng e he).2).1) (fun a ha => (h.hU a ha).2.2.1) x).b.low
    change -1 ≤ sbB U _ x at hb
    have g2 : a.w ≤ 1000000000 := by simpa using g1
    exact ⟨by omega, by show a.f < ((st.1.length : Nat) : Int); omega, by omega, by show a.t < ((st.1.length : Nat) : Int); omega, by omega, by omega, by omega, g2⟩

theorem DetH.both (cf ca : Nat) : bothB (mkD U st cf ca) = true ∧ silB (mkD U st cf ca) = false := by
  unfold bothB silB
  rw [Bool.not_eq_true', List.any_eq_false, List.any_eq_false]
  have key : ∀ a ∈ (mkD U st cf ca).arcs, a.i = a.o ∧ a.i ≠ 0 := fun a ha => by
    obtain ⟨j, x, q1, q2, q3, q4, q5, q6, q7, q8, q9, q10⟩ := h.ri.arc ha
    omega
  exact ⟨fun a ha => by simpa using (key a ha).1, fun a ha => by simpa using (key a ha).2⟩

theorem DetH.single (cf ca : Nat) : dblB (mkD U st cf ca).arcs = false := by
  show dblB st.2 = false
  have hr := h.ri
  unfold dblB
  rw [List.any_eq_false]
  intro i hi
  have hi := List.mem_range.1 hi
  rw [Bool.not_eq_true, List.any_eq_false]
  intro k hk
  have hk := List.mem_range.1 hk
  have e1 : st.2.getD i aD = st.2[i] := by simp [List.getD, hi]
  have e2 : st.2.getD k aD = st.2[k]'(by omega) := by simp [List.getD, show k < st.2.length by omega]
  have hah := List.pairwise_iff_getElem.1 hr.srt k i (by omega) hi hk
  rw [← e1, ← e2] at hah
  obtain ⟨j, x, g1, g2, g3, g4, g5, g6⟩ := hr.snd _ (getD_mem st.2 i aD hi)
  obtain ⟨j', x', p1, p2, p3, p4, p5, p6⟩ := hr.snd _ (getD_mem st.2 k aD (by omega))
  unfold sg2
  rw [g6, p6] at hah ⊢
  intro hc
  rw [Bool.and_eq_true, beq_iff_eq, beq_iff_eq] at hc
  have c1 : (j' : Int) = j := hc.1
  have c2 : x' = x := hc.2
  have c3 : j' = j := by omega
  subst c2 c3
  rw [aheadB_iff] at hah
  omega

theorem DetH.round (cf ca : Nat) : roundB (mkD U st cf ca).arcs (mkD U st cf ca).st.toNat = false := by
  show roundB st.2 ((st.1.length : Nat) : Int).toNat = false
  rw [Int.toNat_natCast]
  have hr := h.ri
  obtain ⟨h1, h2, h3⟩ := h.small
  cases hc : roundB st.2 st.1.length with
  | false => rfl
  | true =>
    exfalso
    have hf : ∀ a ∈ st.2, 0 ≤ a.f ∧ a.f < (st.1.length : Nat) := fun a ha => by
      obtain ⟨j, x, q1, q2, q3, q4, q5, q6, q7, q8, q9, q10⟩ := hr.arc ha
      omega
    obtain ⟨v, hv, hn⟩ := round_all hf hc F.st.toNat
    obtain ⟨s, w, c, hs, hw, hrd⟩ := nowB_rd hf (v := (v : Int)) ⟨by omega, by omega⟩ hn
    obtain ⟨w0, d, hr0⟩ := hr.rch s.toNat (by omega)
    rw [show ((s.toNat : Nat) : Int) = s by omega] at hr0
    have hall := hr0.app hrd
    have hsub := hr.sub h.hU hall
    rw [Int.toNat_natCast] at hsub
    have hne := h1.ne _ (getD_mem st.1 v [] hv)
    obtain ⟨e, he⟩ := List.exists_mem_of_ne_nil _ hne
    have hp := (hsub.min e he).is (by have := hsub.r0; have := hsub.b0 e he; omega)
    obtain ⟨t', ht, hF⟩ := h.us.rd h.wok.toFRng h.fok.start h.lets hp
    have hnb := nowB_le (k := (w0 ++ w).length) (j := F.st.toNat) (by rw [List.length_append, hw]; omega) (rd_nowB hF)
    have hrf := (fineB_iff.1 h.fine).2
    unfold roundB at hrf
    rw [List.any_eq_false] at hrf
    have := hrf t'.toNat (List.mem_range.2 (by omega))
    rw [show ((t'.toNat : Nat) : Int) = t' by omega] at this
    exact this hnb

theorem DetH.cost {cf ca : Nat} {l : List Int} {n : Int} (hn : MinOf (Wt (mkD U st cf ca) l l) n) : MinOf (Wt F l l) n := by
  have h1 := mkD_wt h.hU h.hlet h.hfin h.ri hn
  obtain ⟨p, hp, g1, g2, g3, g4⟩ := h.us
  refine h1.cong fun c => ?_
  rw [← useful_wt h.wok.toFRng h.fok.start hp]
  unfold Wt
  rw [g2, g3, g4]

theorem DetH.sum {w : List Int} {t c : Int} (hr : RdW U.arcs U.start w t c) : c ≤ wsumL F.arcs F.arcs.length := by
  obtain ⟨t', ht, hF⟩ := h.us.rd h.wok.toFRng h.fok.start h.lets hr
  refine rd_sum (n := F.st.toNat) (fun a ha => ?_) (fun a ha => (h.fok.arc a ha).w0) (fineB_iff.1 h.fine).2 hF
  have := h.fok.arc a ha
  have := this.f0
  have := (h.fok.arc a ha).f1
  omega

theorem DetH.great (hg : greatB st.2 (st.1.map (finD U)) = true) : 1000000000 < allW F := by
  have hr := h.ri
  have hwb := wsumL_bd h.wok.w F.arcs.length (Nat.le_refl _)
  have hfb := fmaxL_bd h.wok.fin F.fin.length (Nat.le_refl _)
  unfold greatB at hg
  rw [Bool.or_eq_true, List.any_eq_true, List.any_eq_true] at hg
  unfold allW
  rcases hg with ⟨a, ha, hg⟩ | ⟨n, hn, hg⟩
  · rw [decide_eq_true_eq] at hg
    obtain ⟨j, x, q1, q2, q3, q4, q5, q6, q7, q8, q9, q10⟩ := hr.arc ha
    obtain ⟨w, d, hrd⟩ := hr.rch j q2
    have hs := hr.sub h.hU hrd
    rw [Int.toNat_natCast] at hs
    obtain ⟨t, c, hb⟩ := hs.yes h.hU q3
    have hs2 := hs.step h.hU q3
    obtain ⟨e, he, _⟩ := hs2.all _ _ hb
    have hp := (hs2.min e he).is (by have := hs2.r0; have := hs2.b0 e he; omega)
    have := h.sum hp
    have := hs2.b0 e he
    have := hs.r0
    omega
  · rw [decide_eq_true_eq] at hg
    obtain ⟨s, hs, rfl⟩ := List.mem_map.1 hn
    obtain ⟨j, hj, rfl⟩ := List.mem_iff_getElem.1 hs
    have e : st.1.getD j [] = st.1[j] := by simp [List.getD, hj]
    rw [← e] at hg
    obtain ⟨w, d, hrd⟩ := hr.rch j hj
    have hs := hr.sub h.hU hrd
    rw [Int.toNat_natCast] at hs
    obtain ⟨e, he, g1, g2⟩ := (finD_min (U := U) hs.b0 h.hfin).is (show finD U (st.1.getD j []) ≠ -1 by omega)
    have hp := (hs.min e he).is (by have := hs.r0; have := hs.b0 e he; omega)
    have := h.sum hp
    have := h.us.fin e.a.toNat
    have := hs.r0
    omega
end
end Go.Fw

/-
  What is useful is one thing alone; so the beginnings are as many, whoever counts.
-/
namespace Go.Fw

theorem rkB_cong {p q : Nat → Bool} : ∀ k, (∀ j, j < k → p j = q j) → rkB p k = rkB q k
  | 0, _ => rfl
  | k + 1, h => by
    have := rkB_cong k fun j hj => h j (by omega)
    unfold rkB
    rw [h k (by omega), this]
theorem kfin_cong {p q : Nat → Bool} (fin : List Int) : ∀ k, (∀ j, j < k → p j = q j) → kfin p fin k = kfin q fin k
  | 0, _ => rfl
  | k + 1, h => by
    have := kfin_cong fin k fun j hj => h j (by omega)
    unfold kfin
    rw [h k (by omega), this]
theorem karc_cong {p q : Nat → Bool} {n : Nat} (hpq : ∀ j, j < n → p j = q j) {l : List Arc} (hl : ∀ a ∈ l, a.f.toNat < n ∧ a.t.toNat < n) : ∀ k, k ≤ l.length → karc p l k = karc q l k
  | 0, _ => rfl
  | k + 1, hk => by
    have ih := karc_cong hpq hl k (by omega)
    have ha := hl _ (getD_mem l k aD (by omega))
    unfold karc kOk kArc
    rw [ih, hpq _ ha.1, hpq _ ha.2, rkB_cong _ fun j hj => hpq j (by omega), rkB_cong (q := q) _ fun j hj => hpq j (by omega)]

theorem kT_cong {F : TF} (hF : FRng F) (hs : 0 ≤ F.start ∧ F.start < F.st) {p q : Nat → Bool} (hp : UsOk F p) (hq : UsOk F q) : kT F p = kT F q := by
  have hpq : ∀ j, j < F.st.toNat → p j = q j := fun j hj => by
    rw [Bool.eq_iff_iff, hp.iff j hj, hq.iff j hj]
  have h1 := rkB_cong F.st.toNat hpq
  have h2 := kfin_cong F.fin F.st.toNat hpq
  have h3 := karc_cong hpq (l := F.arcs) (fun a ha => by have := hF.arc a ha; omega) F.arcs.length (Nat.le_refl _)
  have h4 := rkB_cong (p := p) (q := q) F.start.toNat fun j hj => hpq j (by omega)
  unfold kT
  rw [hpq _ (by omega), h1, h2, h3, h4]

theorem IsUs.uniq {F U V : TF} (hF : FRng F) (hs : 0 ≤ F.start ∧ F.start < F.st) (hU : IsUs F U) (hV : IsUs F V) : U.st = V.st ∧ U.start = V.start ∧ U.fin = V.fin ∧ U.arcs = V.arcs := by
  obtain ⟨p, hp, a1, a2, a3, a4⟩ := hU
  obtain ⟨q, hq, b1, b2, b3, b4⟩ := hV
  rw [kT_cong hF hs hp hq] at a1 a2 a3 a4
  exact ⟨a1.trans b1.symm, a2.trans b2.symm, a3.trans b3.symm, a4.trans b4.symm⟩

theorem sbX_cap {U V : TF} (h2 : U.arcs = V.arcs) (c : Int) : sbX U c = sbX V c := by
  funext st x
  unfold sbX
  rw [h2]
theorem sbR_cap {U V : TF} (h2 : U.arcs = V.arcs) (s : List Duo) (c : Int) : sbR U s c = sbR V s c := by
  unfold sbR
  rw [sbX_cap h2]
theorem bgn_cap {U V : TF} (h1 : U.st = V.st) (h2 : U.arcs = V.arcs) : ∀ (f m : Nat) (s : List Duo), bgnF U f m s = bgnF V f m s
  | 0, _, _ => rfl
  | f + 1, m, s => by
    unfold bgnF sbB sbS
    simp only [sbR_cap h2, h1, bgn_cap h1 h2 f]
theorem IsUs.bgn {F U V : TF} (hF : FRng F) (hs : 0 ≤ F.start ∧ F.start < F.st) (hU : IsUs F U) (hV : IsUs F V) : bgnF U 201 200 [⟨U.start, 0⟩] = bgnF V 201 200 [⟨V.start, 0⟩] := by
  obtain ⟨h1, h2, h3, h4⟩ := hU.uniq hF hs hV
  rw [h2]
  exact bgn_cap h1 h4 _ _ _

section
variable {F U V : TF} (hF : FOk F) (hf : fineB F = true) (hU : IsUs F U) (hV : IsUs F V) {W vs : List (List Int)} {par sym : List Int} {i : Nat} {c : Int}
include hF hf hV
theorem us_ok : (∀ a ∈ V.arcs, (0 ≤ a.f ∧ a.f < V.st) ∧ (0 ≤ a.t ∧ a.t < V.st) ∧ 0 ≤ a.w ∧ a.w ≤ 1000000000) ∧ ∀ a ∈ V.arcs, 1 ≤ a.i ∧ a.i ≤ 9 := by
  have hw : WOk F := ⟨FRng.of hF, fun a ha => ⟨(hF.arc a ha).w0, (hF.arc a ha).w1⟩, hF.fin⟩
  have hv := hV.ok hw hF.start
  refine ⟨fun a ha => ?_, fun a ha => ?_⟩
  · have := hv.1.arc a ha
    have := hv.1.w a ha
    omega
  · obtain ⟨b, hb, e1, e2, _⟩ := hV.arcs ha
    have := (fineB_iff.1 hf).1 b hb
    have := (hF.arc b hb).i0
    omega
include hU
theorem bgn_yes (h : WSt V W vs par sym W.length 1) (hl : W.length ≤ 200) : bgnF U 201 200 [⟨U.start, 0⟩] ≤ 200 := by
  rw [hU.bgn (FRng.of hF) hF.start hV]
  obtain ⟨h1, h2⟩ := us_ok hF hf hV
  exact words_ok h1 h2 h hl
theorem bgn_no (h : WSt V W vs par sym i c) (hl : W.length = 201) : 200 < bgnF U 201 200 [⟨U.start, 0⟩] := by
  rw [hU.bgn (FRng.of hF) hF.start hV]
  obtain ⟨h1, h2⟩ := us_ok hF hf hV
  exact words_many h1 h2 h hl
end
end Go.Fw

namespace Go.Fw
open Go Go.Proofs

/-- What the law finds. -/
def LawPost (x : Obj) (v : SV) (s : S) : Prop := v = .b true ∧ s = ⟨[], [(3, tabO x)], 4⟩

abbrev hpLw (F : TF) (l : List Int) (x : Obj) : List (Nat × SO) := hpF F ++ [(2, .arr false 3 .int l 0), (3, tabO x)]

set_option maxHeartbeats 8000000 in
set_option maxRecDepth 20000 in
theorem costs_no (F : TF) (l : List Int) (cl : Nat) (hl : F.fin.length ≤ 9223372036854775807) (x : Obj) (hx : TabX x) (h : fstE F ≠ 0) : Ct Tryd.prog 4 [fV F, .c (.sl 2 1 0 l.length cl)] [] (hpLw F l x) 4 (LawPost x) := by
  have hd : detE F = fstE F := by unfold detE; rw [if_pos h]
  refine ctW Tryd.tyOk 13 [] Tryd.func4 rfl (by simp [SV.lt, SA.lt, SC.lt, arcV, fV]) (by simp) (fr := [(0, fV F), (1, .c (.sl 2 1 0 l.length cl))]) rfl ?_
  repeat' (first | exact rfl | ((conv => whnf); first | ((first | refine qA (fun h => ?_) fun h => ?_ | refine qN (fun h => ?_) fun h => ?_ | refine qB (fun h => ?_) fun h => ?_ | refine qC (fun h => ?_) fun h => ?_) <;> try exact absurd h (by omega)) | refine qM (fun h => ?_) fun h => ?_ | refine oM (by (first | omega | (simp only [lenS, InI, nmin, EK.sz]; omega) | (simp only [lenS, InI, nmin, EK.sz] at *; omega))) ?_ | refine oM ?_ ?_ | refine bM ?_ ?_ | refine draw_of Tryd.mixed Tryd.tyOk 60 (by kernel_rfl) ?_))
  (conv => whnf)
  refine callF (determine_c F hl x hx) [0, 1, 3] Tryd.call15 rfl (by simp [eqLs, eqL, eqO, eqC, eqCs, rn, renOf, look_cons, look, EK.cast]) (by simp [appN, ptrs, eqVL, eqV, eqA, eqC, eqCs, eqAs, eqCaps, EK.sz, rn, renOf, look_cons, look, arcV, fV]) (by simp [appN, ptrs, SV.lt, SA.lt, SC.lt, arcV, fV, lenN]) ?_
  rintro v s (⟨_, rfl, rfl⟩ | ⟨hd0, _⟩)
  · rw [hd]
    repeat' (first | exact rfl | ((conv => whnf); first | ((first | refine qA (fun h => ?_) fun h => ?_ | refine qN (fun h => ?_) fun h => ?_ | refine qB (fun h => ?_) fun h => ?_ | refine qC (fun h => ?_) fun h => ?_) <;> try exact absurd h (by omega)) | refine qM (fun h => ?_) fun h => ?_ | refine oM (by (first | omega | (simp only [lenS, InI, nmin, EK.sz]; omega) | (simp only [lenS, InI, nmin, EK.sz] at *; omega))) ?_ | refine oM ?_ ?_ | refine bM ?_ ?_ | refine draw_of Tryd.mixed Tryd.tyOk 60 (by kernel_rfl) ?_))
    (conv => whnf)
    refine callI (checkFst_c F) [0, 1] Tryd.call10 rfl (by simp [eqLs, eqL, eqO, eqC, eqCs, rn, renOf, look_cons, look, EK.cast]) (by simp [appN, ptrs, eqVL, eqV, eqA, eqC, eqCs, eqAs, eqCaps, EK.sz, rn, renOf, look_cons, look, arcV, fV]) (by simp [appN, ptrs, SV.lt, SA.lt, SC.lt, arcV, fV]) ?_
    repeat' (first | exact rfl | ((conv => whnf); first | ((first | refine qA (fun h => ?_) fun h => ?_ | refine qN (fun h => ?_) fun h => ?_ | refine qB (fun h => ?_) fun h => ?_ | refine qC (fun h => ?_) fun h => ?_) <;> try exact absurd h (by omega)) | refine qM (fun h => ?_) fun h => ?_ | refine oM (by (first | omega | (simp only [lenS, InI, nmin, EK.sz]; omega) | (simp only [lenS, InI, nmin, EK.sz] at *; omega))) ?_ | refine oM ?_ ?_ | refine bM ?_ ?_ | refine draw_of Tryd.mixed Tryd.tyOk 60 (by kernel_rfl) ?_))
    (conv => whnf)
    refine callF (determineBegun_c x hx) [3] Tryd.call14 rfl (by simp [eqLs, eqL, eqO, eqC, eqCs, rn, renOf, look_cons, look, EK.cast]) (by simp [appN, ptrs, eqVL, eqV, eqA, eqC, eqCs, eqAs, eqCaps, EK.sz, rn, renOf, look_cons, look, arcV, fV]) (by simp [appN, ptrs, SV.lt, SA.lt, SC.lt, arcV, fV, lenN]) ?_
    rintro _ _ ⟨rfl, rfl⟩
    simp only [Nat.reduceAdd, Nat.reduceSub]
    repeat' (first | exact rfl | ((conv => whnf); first | ((first | refine qA (fun h => ?_) fun h => ?_ | refine qN (fun h => ?_) fun h => ?_ | refine qB (fun h => ?_) fun h => ?_ | refine qC (fun h => ?_) fun h => ?_) <;> try exact absurd h (by omega)) | refine qM (fun h => ?_) fun h => ?_ | refine oM (by (first | omega | (simp only [lenS, InI, nmin, EK.sz]; omega) | (simp only [lenS, InI, nmin, EK.sz] at *; omega))) ?_ | refine oM ?_ ?_ | refine bM ?_ ?_ | refine draw_of Tryd.mixed Tryd.tyOk 60 (by kernel_rfl) ?_))
    (conv => whnf)
    refine callI (scoreBegun_c) [] Tryd.call18 rfl trivial (by simp [appN, ptrs, eqVL, eqV, eqA, eqC, eqCs, eqAs, eqCaps, EK.sz, rn, renOf, look_cons, look, arcV, fV]) (by simp [appN, ptrs, SV.lt, SA.lt, SC.lt, arcV, fV]) ?_
    repeat' (first | exact rfl | ((conv => whnf); first | ((first | refine qA (fun h => ?_) fun h => ?_ | refine qN (fun h => ?_) fun h => ?_ | refine qB (fun h => ?_) fun h => ?_ | refine qC (fun h => ?_) fun h => ?_) <;> try exact absurd h (by omega)) | refine qM (fun h => ?_) fun h => ?_ | refine oM (by (first | omega | (simp only [lenS, InI, nmin, EK.sz]; omega) | (simp only [lenS, InI, nmin, EK.sz] at *; omega))) ?_ | refine oM ?_ ?_ | refine bM ?_ ?_ | refine draw_of Tryd.mixed Tryd.tyOk 60 (by kernel_rfl) ?_))
    all_goals
      first
      | (exfalso; omega)
      | ((conv => whnf)
         exact ⟨[], [(3, tabO x)], 4, .b true, ⟨by rfl, trivial, by simp [eqFr, eqHp, eqV, eqA, eqC, eqO, eqCs, eqAs, look_cons, look, rn, EK.cast, EK.sz, eqCaps]⟩, by simp [eqV, eqA, eqC], rfl, rfl⟩)
  · exact absurd (hd ▸ hd0) h

set_option maxHeartbeats 8000000 in
set_option maxRecDepth 20000 in
theorem costs_st (F : TF) (l : List Int) (cl : Nat) (hl : F.fin.length ≤ 9223372036854775807) (x : Obj) (hx : TabX x) (h : fstE F = 0) (hf : fineB F = false) : Ct Tryd.prog 4 [fV F, .c (.sl 2 1 0 l.length cl)] [] (hpLw F l x) 4 (LawPost x) := by
  have hF := fstE_ok h
  have hal := hF.arcl
  have hd : detE F = 4 := by unfold detE; rw [if_neg (fun c => c h), hf]; rfl
  have c1 := isBoth_c F (by omega)
  have c2 := hasSilent_c F (by omega)
  have c3 := isRound_c F (FRng.of hF)
  unfold fineB at hf
  refine ctW Tryd.tyOk 13 [] Tryd.func4 rfl (by simp [SV.lt, SA.lt, SC.lt, arcV, fV]) (by simp) (fr := [(0, fV F), (1, .c (.sl 2 1 0 l.length cl))]) rfl ?_
  repeat' (first | exact rfl | ((conv => whnf); first | ((first | refine qA (fun h => ?_) fun h => ?_ | refine qN (fun h => ?_) fun h => ?_ | refine qB (fun h => ?_) fun h => ?_ | refine qC (fun h => ?_) fun h => ?_) <;> try exact absurd h (by omega)) | refine qM (fun h => ?_) fun h => ?_ | refine oM (by (first | omega | (simp only [lenS, InI, nmin, EK.sz]; omega) | (simp only [lenS, InI, nmin, EK.sz] at *; omega))) ?_ | refine oM ?_ ?_ | refine bM ?_ ?_ | refine draw_of Tryd.mixed Tryd.tyOk 60 (by kernel_rfl) ?_))
  (conv => whnf)
  refine callF (determine_c F hl x hx) [0, 1, 3] Tryd.call15 rfl (by simp [eqLs, eqL, eqO, eqC, eqCs, rn, renOf, look_cons, look, EK.cast]) (by simp [appN, ptrs, eqVL, eqV, eqA, eqC, eqCs, eqAs, eqCaps, EK.sz, rn, renOf, look_cons, look, arcV, fV]) (by simp [appN, ptrs, SV.lt, SA.lt, SC.lt, arcV, fV, lenN]) ?_
  rintro v s (⟨_, rfl, rfl⟩ | ⟨hd0, _⟩)
  · rw [hd]
    repeat' (first | exact rfl | ((conv => whnf); first | ((first | refine qA (fun h => ?_) fun h => ?_ | refine qN (fun h => ?_) fun h => ?_ | refine qB (fun h => ?_) fun h => ?_ | refine qC (fun h => ?_) fun h => ?_) <;> try exact absurd h (by omega)) | refine qM (fun h => ?_) fun h => ?_ | refine oM (by (first | omega | (simp only [lenS, InI, nmin, EK.sz]; omega) | (simp only [lenS, InI, nmin, EK.sz] at *; omega))) ?_ | refine oM ?_ ?_ | refine bM ?_ ?_ | refine draw_of Tryd.mixed Tryd.tyOk 60 (by kernel_rfl) ?_))
    (conv => whnf)
    refine callI (checkFst_c F) [0, 1] Tryd.call10 rfl (by simp [eqLs, eqL, eqO, eqC, eqCs, rn, renOf, look_cons, look, EK.cast]) (by simp [appN, ptrs, eqVL, eqV, eqA, eqC, eqCs, eqAs, eqCaps, EK.sz, rn, renOf, look_cons, look, arcV, fV]) (by simp [appN, ptrs, SV.lt, SA.lt, SC.lt, arcV, fV]) ?_
    rw [h]
    generalize bothB F = b1 at *
    generalize silB F = b2 at *
    generalize roundB F.arcs F.st.toNat = b3 at *
    repeat' (first | exact rfl | ((conv => whnf); first | ((first | refine qA (fun h => ?_) fun h => ?_ | refine qN (fun h => ?_) fun h => ?_ | refine qB (fun h => ?_) fun h => ?_ | refine qC (fun h => ?_) fun h => ?_) <;> try exact absurd h (by omega)) | refine qM (fun h => ?_) fun h => ?_ | refine oM (by (first | omega | (simp only [lenS, InI, nmin, EK.sz]; omega) | (simp only [lenS, InI, nmin, EK.sz] at *; omega))) ?_ | refine oM ?_ ?_ | refine bM ?_ ?_ | refine draw_of Tryd.mixed Tryd.tyOk 60 (by kernel_rfl) ?_))
    (conv => whnf)
    refine callI (c1) [0, 1] Tryd.call11 rfl (by simp [eqLs, eqL, eqO, eqC, eqCs, rn, renOf, look_cons, look, EK.cast]) (by simp [appN, ptrs, eqVL, eqV, eqA, eqC, eqCs, eqAs, eqCaps, EK.sz, rn, renOf, look_cons, look, arcV, fV]) (by simp [appN, ptrs, SV.lt, SA.lt, SC.lt, arcV, fV]) ?_
    cases b1 with
    | false =>
      repeat' (first | exact rfl | ((conv => whnf); first | ((first | refine qA (fun h => ?_) fun h => ?_ | refine qN (fun h => ?_) fun h => ?_ | refine qB (fun h => ?_) fun h => ?_ | refine qC (fun h => ?_) fun h => ?_) <;> try exact absurd h (by omega)) | refine qM (fun h => ?_) fun h => ?_ | refine oM (by (first | omega | (simp only [lenS, InI, nmin, EK.sz]; omega) | (simp only [lenS, InI, nmin, EK.sz] at *; omega))) ?_ | refine oM ?_ ?_ | refine bM ?_ ?_ | refine draw_of Tryd.mixed Tryd.tyOk 60 (by kernel_rfl) ?_))
      (conv => whnf)
      refine callF (determineBegun_c x hx) [3] Tryd.call14 rfl (by simp [eqLs, eqL, eqO, eqC, eqCs, rn, renOf, look_cons, look, EK.cast]) (by simp [appN, ptrs, eqVL, eqV, eqA, eqC, eqCs, eqAs, eqCaps, EK.sz, rn, renOf, look_cons, look, arcV, fV]) (by simp [appN, ptrs, SV.lt, SA.lt, SC.lt, arcV, fV, lenN]) ?_
      rintro _ _ ⟨rfl, rfl⟩
      simp only [Nat.reduceAdd, Nat.reduceSub]
      repeat' (first | exact rfl | ((conv => whnf); first | ((first | refine qA (fun h => ?_) fun h => ?_ | refine qN (fun h => ?_) fun h => ?_ | refine qB (fun h => ?_) fun h => ?_ | refine qC (fun h => ?_) fun h => ?_) <;> try exact absurd h (by omega)) | refine qM (fun h => ?_) fun h => ?_ | refine oM (by (first | omega | (simp only [lenS, InI, nmin, EK.sz]; omega) | (simp only [lenS, InI, nmin, EK.sz] at *; omega))) ?_ | refine oM ?_ ?_ | refine bM ?_ ?_ | refine draw_of Tryd.mixed Tryd.tyOk 60 (by kernel_rfl) ?_))
      (conv => whnf)
      refine callI (scoreBegun_c) [] Tryd.call18 rfl trivial (by simp [appN, ptrs, eqVL, eqV, eqA, eqC, eqCs, eqAs, eqCaps, EK.sz, rn, renOf, look_cons, look, arcV, fV]) (by simp [appN, ptrs, SV.lt, SA.lt, SC.lt, arcV, fV]) ?_
      repeat' (first | exact rfl | ((conv => whnf); first | ((first | refine qA (fun h => ?_) fun h => ?_ | refine qN (fun h => ?_) fun h => ?_ | refine qB (fun h => ?_) fun h => ?_ | refine qC (fun h => ?_) fun h => ?_) <;> try exact absurd h (by omega)) | refine qM (fun h => ?_) fun h => ?_ | refine oM (by (first | omega | (simp only [lenS, InI, nmin, EK.sz]; omega) | (simp only [lenS, InI, nmin, EK.sz] at *; omega))) ?_ | refine oM ?_ ?_ | refine bM ?_ ?_ | refine draw_of Tryd.mixed Tryd.tyOk 60 (by kernel_rfl) ?_))
      (conv => whnf)
      exact ⟨[], [(3, tabO x)], 4, .b true, ⟨by rfl, trivial, by simp [eqFr, eqHp, eqV, eqA, eqC, eqO, eqCs, eqAs, look_cons, look, rn, EK.cast, EK.sz, eqCaps]⟩, by simp [eqV, eqA, eqC], rfl, rfl⟩
    | true =>
      repeat' (first | exact rfl | ((conv => whnf); first | ((first | refine qA (fun h => ?_) fun h => ?_ | refine qN (fun h => ?_) fun h => ?_ | refine qB (fun h => ?_) fun h => ?_ | refine qC (fun h => ?_) fun h => ?_) <;> try exact absurd h (by omega)) | refine qM (fun h => ?_) fun h => ?_ | refine oM (by (first | omega | (simp only [lenS, InI, nmin, EK.sz]; omega) | (simp only [lenS, InI, nmin, EK.sz] at *; omega))) ?_ | refine oM ?_ ?_ | refine bM ?_ ?_ | refine draw_of Tryd.mixed Tryd.tyOk 60 (by kernel_rfl) ?_))
      (conv => whnf)
      refine callI (c2) [0, 1] Tryd.call16 rfl (by simp [eqLs, eqL, eqO, eqC, eqCs, rn, renOf, look_cons, look, EK.cast]) (by simp [appN, ptrs, eqVL, eqV, eqA, eqC, eqCs, eqAs, eqCaps, EK.sz, rn, renOf, look_cons, look, arcV, fV]) (by simp [appN, ptrs, SV.lt, SA.lt, SC.lt, arcV, fV]) ?_
      cases b2 with
      | true =>
        repeat' (first | exact rfl | ((conv => whnf); first | ((first | refine qA (fun h => ?_) fun h => ?_ | refine qN (fun h => ?_) fun h => ?_ | refine qB (fun h => ?_) fun h => ?_ | refine qC (fun h => ?_) fun h => ?_) <;> try exact absurd h (by omega)) | refine qM (fun h => ?_) fun h => ?_ | refine oM (by (first | omega | (simp only [lenS, InI, nmin, EK.sz]; omega) | (simp only [lenS, InI, nmin, EK.sz] at *; omega))) ?_ | refine oM ?_ ?_ | refine bM ?_ ?_ | refine draw_of Tryd.mixed Tryd.tyOk 60 (by kernel_rfl) ?_))
        (conv => whnf)
        refine callF (determineBegun_c x hx) [3] Tryd.call14 rfl (by simp [eqLs, eqL, eqO, eqC, eqCs, rn, renOf, look_cons, look, EK.cast]) (by simp [appN, ptrs, eqVL, eqV, eqA, eqC, eqCs, eqAs, eqCaps, EK.sz, rn, renOf, look_cons, look, arcV, fV]) (by simp [appN, ptrs, SV.lt, SA.lt, SC.lt, arcV, fV, lenN]) ?_
        rintro _ _ ⟨rfl, rfl⟩
        simp only [Nat.reduceAdd, Nat.reduceSub]
        repeat' (first | exact rfl | ((conv => whnf); first | ((first | refine qA (fun h => ?_) fun h => ?_ | refine qN (fun h => ?_) fun h => ?_ | refine qB (fun h => ?_) fun h => ?_ | refine qC (fun h => ?_) fun h => ?_) <;> try exact absurd h (by omega)) | refine qM (fun h => ?_) fun h => ?_ | refine oM (by (first | omega | (simp only [lenS, InI, nmin, EK.sz]; omega) | (simp only [lenS, InI, nmin, EK.sz] at *; omega))) ?_ | refine oM ?_ ?_ | refine bM ?_ ?_ | refine draw_of Tryd.mixed Tryd.tyOk 60 (by kernel_rfl) ?_))
        (conv => whnf)
        refine callI (scoreBegun_c) [] Tryd.call18 rfl trivial (by simp [appN, ptrs, eqVL, eqV, eqA, eqC, eqCs, eqAs, eqCaps, EK.sz, rn, renOf, look_cons, look, arcV, fV]) (by simp [appN, ptrs, SV.lt, SA.lt, SC.lt, arcV, fV]) ?_
        repeat' (first | exact rfl | ((conv => whnf); first | ((first | refine qA (fun h => ?_) fun h => ?_ | refine qN (fun h => ?_) fun h => ?_ | refine qB (fun h => ?_) fun h => ?_ | refine qC (fun h => ?_) fun h => ?_) <;> try exact absurd h (by omega)) | refine qM (fun h => ?_) fun h => ?_ | refine oM (by (first | omega | (simp only [lenS, InI, nmin, EK.sz]; omega) | (simp only [lenS, InI, nmin, EK.sz] at *; omega))) ?_ | refine oM ?_ ?_ | refine bM ?_ ?_ | refine draw_of Tryd.mixed Tryd.tyOk 60 (by kernel_rfl) ?_))
        (conv => whnf)
        exact ⟨[], [(3, tabO x)], 4, .b true, ⟨by rfl, trivial, by simp [eqFr, eqHp, eqV, eqA, eqC, eqO, eqCs, eqAs, look_cons, look, rn, EK.cast, EK.sz, eqCaps]⟩, by simp [eqV, eqA, eqC], rfl, rfl⟩
      | false =>
        repeat' (first | exact rfl | ((conv => whnf); first | ((first | refine qA (fun h => ?_) fun h => ?_ | refine qN (fun h => ?_) fun h => ?_ | refine qB (fun h => ?_) fun h => ?_ | refine qC (fun h => ?_) fun h => ?_) <;> try exact absurd h (by omega)) | refine qM (fun h => ?_) fun h => ?_ | refine oM (by (first | omega | (simp only [lenS, InI, nmin, EK.sz]; omega) | (simp only [lenS, InI, nmin, EK.sz] at *; omega))) ?_ | refine oM ?_ ?_ | refine bM ?_ ?_ | refine draw_of Tryd.mixed Tryd.tyOk 60 (by kernel_rfl) ?_))
        (conv => whnf)
        refine callI (c3) [0, 1] Tryd.call13 rfl (by simp [eqLs, eqL, eqO, eqC, eqCs, rn, renOf, look_cons, look, EK.cast]) (by simp [appN, ptrs, eqVL, eqV, eqA, eqC, eqCs, eqAs, eqCaps, EK.sz, rn, renOf, look_cons, look, arcV, fV]) (by simp [appN, ptrs, SV.lt, SA.lt, SC.lt, arcV, fV]) ?_
        cases b3 with
        | false => cases hf
        | true =>
          repeat' (first | exact rfl | ((conv => whnf); first | ((first | refine qA (fun h => ?_) fun h => ?_ | refine qN (fun h => ?_) fun h => ?_ | refine qB (fun h => ?_) fun h => ?_ | refine qC (fun h => ?_) fun h => ?_) <;> try exact absurd h (by omega)) | refine qM (fun h => ?_) fun h => ?_ | refine oM (by (first | omega | (simp only [lenS, InI, nmin, EK.sz]; omega) | (simp only [lenS, InI, nmin, EK.sz] at *; omega))) ?_ | refine oM ?_ ?_ | refine bM ?_ ?_ | refine draw_of Tryd.mixed Tryd.tyOk 60 (by kernel_rfl) ?_))
          (conv => whnf)
          refine callF (determineBegun_c x hx) [3] Tryd.call14 rfl (by simp [eqLs, eqL, eqO, eqC, eqCs, rn, renOf, look_cons, look, EK.cast]) (by simp [appN, ptrs, eqVL, eqV, eqA, eqC, eqCs, eqAs, eqCaps, EK.sz, rn, renOf, look_cons, look, arcV, fV]) (by simp [appN, ptrs, SV.lt, SA.lt, SC.lt, arcV, fV, lenN]) ?_
          rintro _ _ ⟨rfl, rfl⟩
          simp only [Nat.reduceAdd, Nat.reduceSub]
          repeat' (first | exact rfl | ((conv => whnf); first | ((first | refine qA (fun h => ?_) fun h => ?_ | refine qN (fun h => ?_) fun h => ?_ | refine qB (fun h => ?_) fun h => ?_ | refine qC (fun h => ?_) fun h => ?_) <;> try exact absurd h (by omega)) | refine qM (fun h => ?_) fun h => ?_ | refine oM (by (first | omega | (simp only [lenS, InI, nmin, EK.sz]; omega) | (simp only [lenS, InI, nmin, EK.sz] at *; omega))) ?_ | refine oM ?_ ?_ | refine bM ?_ ?_ | refine draw_of Tryd.mixed Tryd.tyOk 60 (by kernel_rfl) ?_))
          (conv => whnf)
          refine callI (scoreBegun_c) [] Tryd.call18 rfl trivial (by simp [appN, ptrs, eqVL, eqV, eqA, eqC, eqCs, eqAs, eqCaps, EK.sz, rn, renOf, look_cons, look, arcV, fV]) (by simp [appN, ptrs, SV.lt, SA.lt, SC.lt, arcV, fV]) ?_
          repeat' (first | exact rfl | ((conv => whnf); first | ((first | refine qA (fun h => ?_) fun h => ?_ | refine qN (fun h => ?_) fun h => ?_ | refine qB (fun h => ?_) fun h => ?_ | refine qC (fun h => ?_) fun h => ?_) <;> try exact absurd h (by omega)) | refine qM (fun h => ?_) fun h => ?_ | refine oM (by (first | omega | (simp only [lenS, InI, nmin, EK.sz]; omega) | (simp only [lenS, InI, nmin, EK.sz] at *; omega))) ?_ | refine oM ?_ ?_ | refine bM ?_ ?_ | refine draw_of Tryd.mixed Tryd.tyOk 60 (by kernel_rfl) ?_))
          (conv => whnf)
          exact ⟨[], [(3, tabO x)], 4, .b true, ⟨by rfl, trivial, by simp [eqFr, eqHp, eqV, eqA, eqC, eqO, eqCs, eqAs, look_cons, look, rn, EK.cast, EK.sz, eqCaps]⟩, by simp [eqV, eqA, eqC], rfl, rfl⟩
  · rw [hd] at hd0; cases hd0
end Go.Fw

/-
  What is made comes to an end, and is one thing alone.
-/
namespace Go.Fw

theorem IsUs.some (F : TF) : ∃ U, IsUs F U := by
  classical
  refine ⟨kT F fun j => decide (Rch F.arcs false [F.start] j ∧ ∃ e : Nat, e < F.st.toNat ∧ F.fin.getD e 0 ≠ -1 ∧ Rch F.arcs true [(e : Int)] j), _, ⟨fun j _ => ?_⟩, rfl, rfl, rfl, rfl⟩
  rw [decide_eq_true_eq]

theorem stD_cap {U V : TF} (h1 : U.st = V.st) (h2 : U.arcs = V.arcs) (i : Nat) (st : DS) (c : Int) : stD U i st c = stD V i st c := by
  unfold stD sbB sbS
  simp only [sbR_cap h2, h1]
theorem rowP_cap {U V : TF} (h1 : U.st = V.st) (h2 : U.arcs = V.arcs) (i : Nat) (st : DS) : ∀ k, rowP U i st k = rowP V i st k
  | 0 => rfl
  | k + 1 => by rw [rowP_succ, rowP_succ, rowP_cap h1 h2 i st k, stD_cap h1 h2]
theorem rowsD_cap {U V : TF} (h1 : U.st = V.st) (h2 : U.arcs = V.arcs) (h3 : U.start = V.start) : ∀ k, rowsD U k = rowsD V k
  | 0 => by unfold rowsD; rw [h3]
  | k + 1 => by
    show rowP U k (rowsD U k) 9 = rowP V k (rowsD V k) 9
    rw [rowsD_cap h1 h2 h3 k, rowP_cap h1 h2]
theorem MDone.cap {U V : TF} (h1 : U.st = V.st) (h2 : U.arcs = V.arcs) (h3 : U.start = V.start) {st : DS} (h : MDone U st) : MDone V st := by
  obtain ⟨k, e, hk⟩ := h
  exact ⟨k, by rw [← rowsD_cap h1 h2 h3]; exact e, hk⟩
theorem finD_cap {U V : TF} (h1 : U.fin = V.fin) : finD U = finD V := by
  funext s
  unfold finD
  congr 1
  funext r x
  unfold finS
  rw [h1]

theorem MDone.some {U : TF} (hU : 0 ≤ U.st) (hw : ∀ a ∈ U.arcs, 0 ≤ a.w ∧ a.w ≤ 1000000000) (hr : ∀ a ∈ U.arcs, 0 ≤ a.t ∧ a.t < U.st) (hs : 0 ≤ U.start ∧ U.start < U.st) (hb : bgnF U 201 200 [⟨U.start, 0⟩] ≤ 200) : ∃ st, MDone U st := by
  obtain ⟨g1, g2⟩ := tree_ok U 201 200 [⟨U.start, 0⟩] (by omega) hb
  have : ∀ k, (∃ st, MDone U st) ∨ MInv U (treeL U 201 [⟨U.start, 0⟩]) k (rowsD U k) ∧ k < (rowsD U k).1.length := by
    intro k
    induction k with
    | zero => exact .inr ⟨MInv.start hs (tree_self _ _ _), by simp [rowsD]⟩
    | succ k ih =>
      rcases ih with ih | ⟨h1, h2⟩
      · exact .inl ih
      · obtain ⟨p1, p2, p3⟩ := h1.row hU hw hr g2 h2 9 (Nat.le_refl _)
        have e : rowsD U (k + 1) = rowP U k (rowsD U k) 9 := rfl
        by_cases hk : k + 1 = (rowsD U (k + 1)).1.length
        · exact .inl ⟨_, k + 1, rfl, hk⟩
        · right
          rw [e] at hk ⊢
          exact ⟨⟨p1.sub, p1.nd, p1.ok, p1.ne, ⟨by omega, p1.len.2⟩, p1.raw⟩, by omega⟩
  rcases this 200 with h | ⟨h1, h2⟩
  · exact h
  · have := nd_le h1.nd h1.sub
    omega
end Go.Fw
