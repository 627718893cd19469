/-
  What is least of two: the same just where all words cost the same.
-/
import Derived.Test.YtlaenllbacalpaaDoorB18
import Derived.Test.YtlaenllbacalpaaDoorB19
import Derived.Test.YtlaenllbacalpaaDoorB06

set_option linter.unusedSimpArgs false
set_option linter.unusedVariables false

namespace Go.Fw
structure Mch (X : TF) (cls : List Int) : Prop where
  dfst : DFst X
  cls : ClsOk X cls
  det : DetD X
  psh : Psh X
  rnd : roundB X.arcs X.st.toNat = false
  let_ : ∀ a ∈ X.arcs, (1 ≤ a.i ∧ a.i ≤ 9) ∧ a.i = a.o
  start : X.start = 0
  pos : 1 ≤ X.st
  rch : ∀ q : Nat, q < X.st.toNat → ∃ w d, RdW X.arcs 0 w q d
theorem rd_push {F : TF} (hd : ∀ a ∈ F.arcs, (onS F).1.getD a.f.toNat 0 ≠ -1 ∧ (onS F).1.getD a.t.toNat 0 ≠ -1) {s t d : Int} {w : List Int} (h : RdW F.arcs s w t d) : ∃ d', RdW (pushL (onS F).1 F.arcs) s w t d' := by
  induction h with
  | nil s => exact ⟨0, .nil s⟩
  | cons ha h ih =>
    obtain ⟨d', h'⟩ := ih
    rename_i a u t c
    exact ⟨_, RdW.cons (a := ⟨a.f, a.i, a.o, a.t, a.w + ((onS F).1.getD a.t.toNat 0 - (onS F).1.getD a.f.toNat 0)⟩) (pushL_mem.2 ⟨a, ha, (hd _ ha).1, (hd _ ha).2, rfl⟩) h'⟩
theorem DetH.mch {F U : TF} {st : DS} (h : DetH F U st) (h12 : F.st ≤ 12) (hn : ∃ w c, CW U U.start w c) {c1 c2 : Nat} {cls : List Int} (hc : ClsOk (phT (mkD U st 0 0) c1 c2) cls) : Mch (phT (mkD U st 0 0) c1 c2) cls := by
  have hB := (h.fokB h12 0 0).1
  have hds : ∀ q : Nat, q < st.1.length → (onS (mkD U st 0 0)).1.getD q 0 ≠ -1 ∧ (onS (mkD U st 0 0)).1.getD q 0 ≤ 1000000000000 := fun q hq => by
    have := dsD_is h h12 hn hq
    unfold dsD at this
    omega
  have hst2 : (phT (mkD U st 0 0) c1 c2).st = ((st.1.length : Nat) : Int) := rfl
  refine ⟨ph_dfst hB fun q hq => hds q ?_, hc, ph_det (h.detD 0 0), ph_psh hB fun q hq => h.co hn 0 0 ?_, ph_round (h.round 0 0), fun a ha => ?_, rfl, ?_, fun q hq => ?_⟩
  · have hq : q < ((st.1.length : Nat) : Int).toNat := hq
    omega
  · have hq : q < ((st.1.length : Nat) : Int).toNat := hq
    omega
  · obtain ⟨b, hb, _, _, rfl⟩ := pushL_mem.1 ha
    exact (h.rngD 0 0 b hb).2.2
  · have := h.ri.len
    rw [hst2]; omega
  · rw [hst2] at hq
    obtain ⟨w, d, hr⟩ := h.ri.rch q (by omega)
    obtain ⟨d', hr'⟩ := rd_push (F := mkD U st 0 0) (fun a ha => by
      have := h.rngD 0 0 a ha
      have e : (mkD U st 0 0).st = ((st.1.length : Nat) : Int) := rfl
      exact ⟨(hds _ (by omega)).1, (hds _ (by omega)).1⟩) hr
    exact ⟨w, d', hr'⟩
section
variable {X : TF} {cls : List Int} (h : Mch X cls)
include h
theorem Mch.lv {q : Nat} (hq : q < X.st.toNat) : LvA X.arcs X.st.toNat q :=
  LvA.all (fun a ha => by have := h.dfst.arc a ha; omega) h.rnd ⟨by omega, by omega⟩
theorem Mch.noback {a : Arc} (ha : a ∈ X.arcs) : clA cls a.t ≠ clA cls 0 := by
  intro he
  have hr := h.dfst.arc a ha
  have hp := h.pos
  obtain ⟨w, d, hw⟩ := h.rch a.f.toNat (by omega)
  rw [show ((a.f.toNat : Nat) : Int) = a.f by omega] at hw
  have key : ∀ m : Nat, ∃ v c, m ≤ v.length ∧ CW X 0 v c := by
    intro m
    induction m with
    | zero =>
      obtain ⟨⟨v, hv⟩, _⟩ := h.psh 0 (by omega)
      exact ⟨v, 0, Nat.zero_le _, hv⟩
    | succ m ih =>
      obtain ⟨v, c, h1, h2⟩ := ih
      have h3 := cls_cw h.dfst h.cls v 0 a.t.toNat c (by omega) (by omega) he.symm h2
      rw [show ((a.t.toNat : Nat) : Int) = a.t by omega] at h3
      obtain ⟨t, e, g1, g2, g3⟩ := h3
      refine ⟨w ++ a.i :: v, _, ?_, t, d + (a.w + e), hw.app (.cons ha g1), g2, rfl⟩
      rw [List.length_append, List.length_cons]
      omega
  obtain ⟨v, c, h1, t, e, g1, _⟩ := key X.st.toNat
  have := h.lv (q := 0) (by omega) _ _ _ g1
  omega
end
theorem mgN_ok (cls left : List Int) (t : Int) : ∃ m : Nat, mgN cls left t = (m : Nat) ∧ m < (mgL cls left t).length ∧ clA cls ((mgL cls left t).getD m 0) = clA cls t := by
  have hm : clA cls t ∈ (mgL cls left t).map (clA cls) := by
    unfold mgL
    split
    · assumption
    · simp
  have h1 := List.idxOf_lt_length_of_mem hm
  have h2 := List.getElem_idxOf h1
  rw [List.length_map] at h1
  refine ⟨_, rfl, h1, ?_⟩
  rw [List.getElem_map] at h2
  simp only [List.getD, List.getElem?_eq_getElem h1, Option.getD_some]
  exact h2
structure MgC (X : TF) (cls : List Int) (i k : Nat) (st : List Int × List Arc) : Prop where
  snd : ∀ b ∈ st.2, ∃ (j m : Nat) (a : Arc), j < st.1.length ∧ m < st.1.length ∧ a ∈ X.arcs ∧ a.f = st.1.getD j 0 ∧ b = ⟨(j : Nat), a.i, a.o, (m : Nat), a.w⟩ ∧ clA cls (st.1.getD m 0) = clA cls a.t
  cpl : ∀ (j n : Nat), n < X.arcs.length → (j < i ∨ j = i ∧ n < k) → j < st.1.length → (X.arcs.getD n aD).f = st.1.getD j 0 →
    ∃ m : Nat, m < st.1.length ∧ (⟨(j : Nat), (X.arcs.getD n aD).i, (X.arcs.getD n aD).o, (m : Nat), (X.arcs.getD n aD).w⟩ : Arc) ∈ st.2 ∧ clA cls (st.1.getD m 0) = clA cls (X.arcs.getD n aD).t
theorem getD_pre (l M : List Int) {j : Nat} (h : j < l.length) : (l ++ M).getD j 0 = l.getD j 0 := by
  simp only [List.getD]
  rw [List.getElem?_append_left h]
theorem MgC.step {X : TF} {cls : List Int} {i k : Nat} {st : List Int × List Arc} (h : MgC X cls i k st) (hi : i < st.1.length) (hk : k < X.arcs.length) : MgC X cls i (k + 1) (mgStep cls i (st.1.getD i 0) st (X.arcs.getD k aD)) := by
  unfold mgStep
  by_cases e : (X.arcs.getD k aD).f = st.1.getD i 0
  · rw [if_pos e]
    obtain ⟨m, hm1, hm2, hm3⟩ := mgN_ok cls st.1 (X.arcs.getD k aD).t
    obtain ⟨M, hM⟩ := mgL_app cls st.1 (X.arcs.getD k aD).t
    have hlen : st.1.length ≤ (mgL cls st.1 (X.arcs.getD k aD).t).length := by rw [hM, List.length_append]; omega
    have hpre : ∀ j, j < st.1.length → (mgL cls st.1 (X.arcs.getD k aD).t).getD j 0 = st.1.getD j 0 := fun j hj => by rw [hM]; exact getD_pre _ _ hj
    refine ⟨fun b hb => ?_, fun j n hn hjn hj hf => ?_⟩
    · simp only at hb ⊢
      rcases List.mem_append.1 hb with hb | hb
      · obtain ⟨j, m', a, g1, g2, g3, g4, g5, g6⟩ := h.snd b hb
        exact ⟨j, m', a, by omega, by omega, g3, by rw [hpre j g1]; exact g4, g5, by rw [hpre m' g2]; exact g6⟩
      · rw [List.mem_singleton] at hb
        exact ⟨i, m, X.arcs.getD k aD, by omega, hm2, getD_mem X.arcs k aD hk, by rw [hpre i hi]; exact e, by rw [hb, hm1], hm3⟩
    · simp only at hj hf ⊢
      by_cases ej : j = i ∧ n = k
      · obtain ⟨rfl, rfl⟩ := ej
        exact ⟨m, hm2, List.mem_append.2 (.inr (by rw [hm1]; exact List.mem_singleton.2 rfl)), hm3⟩
      · have hj2 : j < st.1.length := by omega
        rw [hpre j hj2] at hf
        obtain ⟨m', g1, g2, g3⟩ := h.cpl j n hn (by omega) hj2 hf
        exact ⟨m', by omega, List.mem_append.2 (.inl g2), by rw [hpre m' g1]; exact g3⟩
  · rw [if_neg e]
    refine ⟨h.snd, fun j n hn hjn hj hf => ?_⟩
    by_cases ej : j = i ∧ n = k
    · obtain ⟨rfl, rfl⟩ := ej
      exact absurd hf e
    · exact h.cpl j n hn (by omega) hj hf
theorem MgC.rows {X : TF} {cls : List Int} : ∀ n, (∀ j, j < n → j < (mgRows X cls j).1.length) → MgC X cls n 0 (mgRows X cls n)
  | 0, _ => ⟨fun b hb => by simp [mgRows] at hb, fun j n hn hjn => by omega⟩
  | n + 1, hl => by
    have ih := MgC.rows n fun j hj => hl j (by omega)
    have hn := hl n (by omega)
    have key : ∀ k, k ≤ X.arcs.length → MgC X cls n k (mgP X cls n ((mgRows X cls n).1.getD n 0) (mgRows X cls n) k) := by
      intro k
      induction k with
      | zero => intro _; exact ih
      | succ k ihk =>
        intro hk
        have h1 := ihk (by omega)
        obtain ⟨_, M, hM⟩ := mgP_len (D := X) (cls := cls) (i := n) (s := (mgRows X cls n).1.getD n 0) (st := mgRows X cls n) k
        have hi : n < (mgP X cls n ((mgRows X cls n).1.getD n 0) (mgRows X cls n) k).1.length := by rw [hM, List.length_append]; omega
        have e : (mgP X cls n ((mgRows X cls n).1.getD n 0) (mgRows X cls n) k).1.getD n 0 = (mgRows X cls n).1.getD n 0 := by rw [hM]; exact getD_pre _ _ hn
        have := h1.step hi (by omega)
        rw [e] at this
        exact this
    have := key X.arcs.length (Nat.le_refl _)
    refine ⟨this.snd, fun j m hm hjm hj hf => this.cpl j m hm (by omega) hj hf⟩
theorem idxOf_congr {t t' : Int} : ∀ {l l' : List Int}, l.length = l'.length → (∀ j, j < l.length → (l.getD j 0 = t ↔ l'.getD j 0 = t')) → l.idxOf t = l'.idxOf t'
  | [], [], _, _ => rfl
  | [], _ :: _, h, _ => by cases h
  | _ :: _, [], h, _ => by cases h
  | x :: l, y :: l', h, hj => by
    have h0 := hj 0 (by simp)
    simp only [List.getD_cons_zero] at h0
    have ih := idxOf_congr (t := t) (t' := t') (l := l) (l' := l') (by simpa using h) fun j hjl => by
      have := hj (j + 1) (by simp only [List.length_cons]; omega)
      simpa only [List.getD_cons_succ] using this
    rw [List.idxOf_cons, List.idxOf_cons, ih]
    by_cases e : x = t
    · rw [e, h0.1 e]; simp
    · have e' : ¬ y = t' := fun c => e (h0.2 c)
      rw [show (x == t) = false by simpa using e, show (y == t') = false by simpa using e']
section
variable {X X' : TF} {cls cls' : List Int} (h : Mch X cls) (h' : Mch X' cls')
def Eqv (X X' : TF) (q r : Int) : Prop := ∀ v c, CW X q v c ↔ CW X' r v c
include h h'
theorem Eqv.arc {q r : Int} (he : Eqv X X' q r) {a : Arc} (ha : a ∈ X.arcs) (hq : a.f = q) : ∃ b ∈ X'.arcs, b.f = r ∧ b.i = a.i ∧ b.w = a.w ∧ Eqv X X' a.t b.t := by
  have ra := h.dfst.arc a ha
  have ea : ((a.t.toNat : Nat) : Int) = a.t := by omega
  obtain ⟨⟨v, hv⟩, ha0⟩ := h.psh a.t.toNat (by omega)
  rw [ea] at hv ha0
  have hi1 : CW X q (a.i :: v) a.w := CW.cons.2 ⟨a, ha, hq, rfl, by rw [show a.w - a.w = 0 by omega]; exact hv⟩
  obtain ⟨b, hb, g1, g2, g3⟩ := CW.cons.1 ((he _ _).1 hi1)
  have rb := h'.dfst.arc b hb
  have eb : ((b.t.toNat : Nat) : Int) = b.t := by omega
  obtain ⟨⟨v', hv'⟩, hb0⟩ := h'.psh b.t.toNat (by omega)
  rw [eb] at hv' hb0
  have q1 := hb0 _ _ g3
  have hj1 : CW X' r (a.i :: v') b.w := CW.cons.2 ⟨b, hb, g1, g2, by rw [show b.w - b.w = 0 by omega]; exact hv'⟩
  obtain ⟨a', ha', p1, p2, p3⟩ := CW.cons.1 ((he _ _).2 hj1)
  have ea' := h.det.one a' ha' a ha (p1.trans hq.symm) p2
  subst ea'
  have q2 := ha0 _ _ p3
  refine ⟨b, hb, g1, g2, by omega, fun w c => ?_⟩
  constructor
  · intro hw
    have : CW X q (a'.i :: w) (c + a'.w) := CW.cons.2 ⟨a', ha', hq, rfl, by rw [show c + a'.w - a'.w = c by omega]; exact hw⟩
    obtain ⟨b', hb', k1, k2, k3⟩ := CW.cons.1 ((he _ _).1 this)
    have := h'.det.one b' hb' b hb (k1.trans g1.symm) (k2.trans g2.symm)
    subst this
    rwa [show c + a'.w - b'.w = c by omega] at k3
  · intro hw
    have : CW X' r (a'.i :: w) (c + b.w) := CW.cons.2 ⟨b, hb, g1, g2, by rw [show c + b.w - b.w = c by omega]; exact hw⟩
    obtain ⟨b', hb', k1, k2, k3⟩ := CW.cons.1 ((he _ _).2 this)
    have := h.det.one b' hb' a' ha' (k1.trans hq.symm) k2
    subst this
    rwa [show c + b.w - b'.w = c by omega] at k3
structure SimR (X X' : TF) (b b' : List Int × List Arc) : Prop where
  len : b.1.length = b'.1.length
  on : ∀ j, j < b.1.length → ∃ q r : Nat, q < X.st.toNat ∧ r < X'.st.toNat ∧ b.1.getD j 0 = q ∧ b'.1.getD j 0 = r ∧ Eqv X X' q r
  out : b.2 = b'.2
theorem Eqv.same {q r s t : Nat} (hq : q < X.st.toNat) (hr : r < X'.st.toNat) (hs : s < X.st.toNat) (ht : t < X'.st.toNat) (h1 : Eqv X X' q r) (h2 : Eqv X X' s t) : clA cls q = clA cls s ↔ clA cls' r = clA cls' t := by
  unfold clA
  simp only [Int.toNat_natCast]
  constructor
  · intro e
    refine cw_cls h'.dfst h'.cls h'.det h'.psh _ r t hr ht (h'.lv hr) (h'.lv ht) fun w c => ?_
    rw [← h1, ← h2]
    exact ⟨cls_cw h.dfst h.cls w q s c hq hs e, cls_cw h.dfst h.cls w s q c hs hq e.symm⟩
  · intro e
    refine cw_cls h.dfst h.cls h.det h.psh _ q s hq hs (h.lv hq) (h.lv hs) fun w c => ?_
    rw [h1, h2]
    exact ⟨cls_cw h'.dfst h'.cls w r t c hr ht e, cls_cw h'.dfst h'.cls w t r c ht hr e.symm⟩
theorem SimR.take {b b' : List Int × List Arc} (hr : SimR X X' b b') (n : Nat) {x y : Arc} (hx : x ∈ X.arcs) (hy : y ∈ X'.arcs) (ei : y.i = x.i) (ew : y.w = x.w) (he : Eqv X X' x.t y.t) : SimR X X' (mgG cls n b x) (mgG cls' n b' y) := by
  have rx := h.dfst.arc x hx
  have ry := h'.dfst.arc y hy
  have lx := h.let_ x hx
  have ly := h'.let_ y hy
  have ex : ((x.t.toNat : Nat) : Int) = x.t := by omega
  have ey : ((y.t.toNat : Nat) : Int) = y.t := by omega
  have hlen := hr.len
  have hm1 : (b.1.map (clA cls)).length = b.1.length := List.length_map _
  have hm2 : (b'.1.map (clA cls')).length = b'.1.length := List.length_map _
  have hix : (b.1.map (clA cls)).idxOf (clA cls x.t) = (b'.1.map (clA cls')).idxOf (clA cls' y.t) := by
    refine idxOf_congr (by omega) fun j hj => ?_
    rw [hm1] at hj
    obtain ⟨q, r, g1, g2, g3, g4, g5⟩ := hr.on j hj
    have e1 : (b.1.map (clA cls)).getD j 0 = clA cls (b.1.getD j 0) := by simp [List.getD, hj]
    have e2 : (b'.1.map (clA cls')).getD j 0 = clA cls' (b'.1.getD j 0) := by simp [List.getD, show j < b'.1.length by omega]
    rw [e1, e2, g3, g4, ← ex, ← ey]
    exact Eqv.same h h' g1 g2 (by omega) (by omega) g5 (by rw [ex, ey]; exact he)
  have hmem : clA cls x.t ∈ b.1.map (clA cls) ↔ clA cls' y.t ∈ b'.1.map (clA cls') := by
    rw [← List.idxOf_lt_length_iff, ← List.idxOf_lt_length_iff, hix, hm1, hm2, hlen]
  have hL : SimR X X' (mgL cls b.1 x.t, b.2) (mgL cls' b'.1 y.t, b'.2) ∧ mgN cls b.1 x.t = mgN cls' b'.1 y.t := by
    unfold mgN mgL
    by_cases hm : clA cls x.t ∈ b.1.map (clA cls)
    · rw [if_pos hm, if_pos (hmem.1 hm), hix]
      exact ⟨hr, rfl⟩
    · have hm' := fun c => hm (hmem.2 c)
      rw [if_neg hm, if_neg hm']
      refine ⟨⟨by simp only [List.length_append, List.length_singleton]; omega, fun j hj => ?_, hr.out⟩, ?_⟩
      · simp only [List.length_append, List.length_singleton] at hj ⊢
        rw [snoc_getD, snoc_getD, ← hlen]
        by_cases e : j = b.1.length
        · rw [if_pos e, if_pos e]
          exact ⟨x.t.toNat, y.t.toNat, by omega, by omega, ex.symm, ey.symm, by rw [ex, ey]; exact he⟩
        · rw [if_neg e, if_neg e]
          exact hr.on j (by omega)
      · have k : ∀ (l : List Int) (t : Int), t ∉ l → (l ++ [t]).idxOf t = l.length := fun l t ht => by
          rw [List.idxOf_append, if_neg ht]
          simp
        rw [List.map_append, List.map_append, List.map_singleton, List.map_singleton, k _ _ hm, k _ _ hm', hm1, hm2, hlen]
  unfold mgG
  refine ⟨hL.1.len, hL.1.on, ?_⟩
  show b.2 ++ _ = b'.2 ++ _
  rw [hr.out, hL.2, ei, ew, show x.o = y.o by omega]
theorem SimR.row {n q r : Nat} (hq : q < X.st.toNat) (hr : r < X'.st.toNat) (he : Eqv X X' q r) {b b' : List Int × List Arc} (hb : SimR X X' b b') : ∀ k, k ≤ 9 → SimR X X' ((outR X q k).foldl (mgG cls n) b) ((outR X' r k).foldl (mgG cls' n) b')
  | 0, _ => by
    rw [outR_none fun a ha => (h.let_ a ha).1.1, outR_none fun a ha => (h'.let_ a ha).1.1]
    exact hb
  | k + 1, hk => by
    have ih := SimR.row (n := n) hq hr he hb k (by omega)
    by_cases hx : ∃ a ∈ X.arcs, a.f = (q : Int) ∧ a.i = (k : Int) + 1
    · obtain ⟨a, ha, e1, e2⟩ := hx
      obtain ⟨c, hc, f1, f2, f3, f4⟩ := Eqv.arc h h' he ha e1
      rw [outR_yes h.det ha e1 e2, outR_yes h'.det hc f1 (f2.trans e2), List.foldl_append, List.foldl_append]
      exact ih.take h h' n ha hc f2 f3 f4
    · have hy : ∀ c ∈ X'.arcs, c.f = (r : Int) → c.i ≠ (k : Int) + 1 := fun c hc e1 e2 => by
        obtain ⟨a, ha, g1, g2, _⟩ := Eqv.arc h' h (fun v c => (he v c).symm) hc e1
        exact hx ⟨a, ha, g1, g2.trans e2⟩
      rw [outR_no fun a ha e1 e2 => hx ⟨a, ha, e1, e2⟩, outR_no hy]
      exact ih
theorem SimR.rows (h0 : Eqv X X' 0 0) : ∀ n, (∀ j, j < n → j < (mgRows X cls j).1.length) → SimR X X' (mgRows X cls n) (mgRows X' cls' n)
  | 0, _ => by
    have p1 := h.pos
    have p2 := h'.pos
    refine ⟨rfl, fun j hj => ?_, rfl⟩
    have hj : j < 1 := hj
    have : j = 0 := by omega
    subst this
    exact ⟨0, 0, by omega, by omega, by show X.start = _; rw [h.start]; rfl, by show X'.start = _; rw [h'.start]; rfl, h0⟩
  | n + 1, hl => by
    have ih := SimR.rows h0 n fun j hj => hl j (by omega)
    obtain ⟨q, r, g1, g2, g3, g4, g5⟩ := ih.on n (hl n (by omega))
    show SimR X X' (mgP X cls n ((mgRows X cls n).1.getD n 0) (mgRows X cls n) X.arcs.length) (mgP X' cls' n ((mgRows X' cls' n).1.getD n 0) (mgRows X' cls' n) X'.arcs.length)
    rw [mgP_fold _ _ _ _ _ _ (Nat.le_refl _), mgP_fold _ _ _ _ _ _ (Nat.le_refl _), List.take_length, List.take_length, g3, g4, ← outR_all fun a ha => (h.let_ a ha).1.2, ← outR_all fun a ha => (h'.let_ a ha).1.2]
    exact SimR.row h h' g1 g2 g5 ih 9 (Nat.le_refl _)
theorem sim_same (h0 : Eqv X X' 0 0) {left left' : List Int} {outs outs' : List Arc} (m1 : mgRows X cls left.length = (left, outs)) (m2 : ∀ j, j < left.length → j < (mgRows X cls j).1.length)
    (m1' : mgRows X' cls' left'.length = (left', outs')) (m2' : ∀ j, j < left'.length → j < (mgRows X' cls' j).1.length) : left.length = left'.length ∧ outs = outs' ∧ left.map (fiA X) = left'.map (fiA X') := by
  have hlen : left.length = left'.length := by
    rcases Nat.lt_trichotomy left.length left'.length with g | g | g
    · exfalso
      have := (SimR.rows h h' h0 left.length m2).len
      rw [m1] at this
      have h2 := m2' _ g
      simp only at this
      omega
    · exact g
    · exfalso
      have := (SimR.rows h h' h0 left'.length fun j hj => m2 j (by omega)).len
      rw [m1'] at this
      have h2 := m2 _ g
      simp only at this
      omega
  have hr := SimR.rows h h' h0 left.length m2
  rw [m1, hlen, m1'] at hr
  refine ⟨hlen, hr.out, List.ext_getElem (by simp [hlen]) fun j g1 g2 => ?_⟩
  rw [List.length_map] at g1 g2
  obtain ⟨q, r, k1, k2, k3, k4, k5⟩ := hr.on j g1
  simp only at k3 k4
  have e1 : left[j] = q := by rw [← k3]; simp [List.getD, g1]
  have e2 : left'[j] = r := by rw [← k4]; simp [List.getD, g2]
  rw [List.getElem_map, List.getElem_map, e1, e2]
  unfold fiA
  rw [Int.toNat_natCast, Int.toNat_natCast]
  have hc := fun c => k5 [] c
  simp only [CW.nil, Int.toNat_natCast] at hc
  by_cases e : X.fin.getD q 0 = -1
  · by_cases e' : X'.fin.getD r 0 = -1
    · rw [e, e']
    · exact absurd e ((hc _).2 ⟨e', rfl⟩).1
  · exact ((hc _).1 ⟨e, rfl⟩).2
end
end Go.Fw

/-
  What is least of two: where it is the same, all words cost the same.
-/
namespace Go.Fw
def shM (more : Int) (j : Nat) : Int := if j = 0 then more else 0
theorem adF_get (more : Int) (l : List Int) {j : Nat} (hj : j < l.length) : (adF more l).getD j 0 = if l.getD j 0 = -1 then -1 else l.getD j 0 + shM more j := by
  unfold adF shM
  by_cases e0 : j = 0
  · subst e0
    by_cases e : l.getD 0 0 = -1
    · rw [if_pos e, if_pos e]; exact e
    · rw [if_neg e, if_neg e, setI_getD _ _ _ _ hj, if_pos rfl, if_pos rfl]
  · rw [if_neg e0, Int.add_zero]
    by_cases e : l.getD 0 0 = -1
    · rw [if_pos e]; split <;> simp_all
    · rw [if_neg e, setI_getD _ _ _ _ (by omega), if_neg e0]; split <;> simp_all
theorem adA_row (more : Int) (j : Nat) (i o t w : Int) : adA more ⟨(j : Nat), i, o, t, w⟩ = ⟨(j : Nat), i, o, t, w + shM more j⟩ := by
  unfold adA shM
  by_cases e : j = 0
  · subst e; simp
  · rw [if_neg (by simp only; omega), if_neg e, Int.add_zero]
theorem mg_head (X : TF) (cls : List Int) : ∀ n, ∃ M, (mgRows X cls n).1 = X.start :: M
  | 0 => ⟨[], rfl⟩
  | n + 1 => by
    obtain ⟨M, hM⟩ := mg_head X cls n
    obtain ⟨_, N, hN⟩ := mgP_len (D := X) (cls := cls) (i := n) (s := (mgRows X cls n).1.getD n 0) (st := mgRows X cls n) X.arcs.length
    refine ⟨M ++ N, ?_⟩
    show (mgP X cls n _ _ _).1 = _
    rw [hN, hM]
    rfl
section
variable {X X' : TF} {cls cls' : List Int} (h : Mch X cls) (h' : Mch X' cls') {left left' : List Int} {outs outs' : List Arc} {more more' : Int} (hm : 0 ≤ more)
  (m1 : mgRows X cls left.length = (left, outs)) (m2 : ∀ j, j < left.length → j < (mgRows X cls j).1.length) (m3 : MgI X cls (left, outs))
  (m1' : mgRows X' cls' left'.length = (left', outs')) (m2' : ∀ j, j < left'.length → j < (mgRows X' cls' j).1.length) (m3' : MgI X' cls' (left', outs'))
  (hl : left.length = left'.length) (hf : adF more (left.map (fiA X)) = adF more' (left'.map (fiA X'))) (ho : outs.map (adA more) = outs'.map (adA more'))
include h h' hm m1 m2 m3 m1' m2' m3' hl hf ho
theorem out_imp : ∀ (v : List Int) (j : Nat) (c : Int), j < left.length → CW X (left.getD j 0) v (c - shM more j) → CW X' (left'.getD j 0) v (c - shM more' j)
  | [], j, c, hj, hv => by
    obtain ⟨h1, h2⟩ := CW.nil.1 hv
    have hr := m3.rng _ (getD_mem left j 0 hj)
    have hff := h.dfst.fin _ (getD_mem X.fin (left.getD j 0).toNat 0 (by have := h.dfst.finl; omega))
    have e1 : (left.map (fiA X)).getD j 0 = X.fin.getD (left.getD j 0).toNat 0 := by simp [List.getD, hj, fiA]
    have e2 : (left'.map (fiA X')).getD j 0 = X'.fin.getD (left'.getD j 0).toNat 0 := by simp [List.getD, show j < left'.length by omega, fiA]
    have hg := adF_get more (left.map (fiA X)) (j := j) (by rw [List.length_map]; exact hj)
    have hg' := adF_get more' (left'.map (fiA X')) (j := j) (by rw [List.length_map]; omega)
    rw [hf, hg', e1, e2, if_neg h1] at hg
    have hs : 0 ≤ shM more j := by unfold shM; split <;> omega
    by_cases e : X'.fin.getD (left'.getD j 0).toNat 0 = -1
    · rw [if_pos e] at hg; omega
    · rw [if_neg e] at hg
      exact CW.nil.2 ⟨e, by omega⟩
  | x :: u, j, c, hj, hv => by
    obtain ⟨a, ha, e1, e2, hu⟩ := CW.cons.1 hv
    have ra := h.dfst.arc a ha
    obtain ⟨n, hn, rfl⟩ := getD_ix ha
    have hC := MgC.rows (X := X) (cls := cls) left.length m2
    have hC' := MgC.rows (X := X') (cls := cls') left'.length m2'
    rw [m1] at hC
    rw [m1'] at hC'
    obtain ⟨m, g1, g2, g3⟩ := hC.cpl j n hn (.inl hj) hj e1
    simp only at g1 g2 g3
    have hz : m ≠ 0 := fun e => by
      subst e
      obtain ⟨M, hM⟩ := mg_head X cls left.length
      rw [m1] at hM
      simp only at hM
      rw [hM, h.start] at g3
      exact h.noback ha g3.symm
    have hrm := m3.rng _ (getD_mem left m 0 g1)
    have hum := cls_cw h.dfst h.cls u (X.arcs.getD n aD).t.toNat (left.getD m 0).toNat (c - shM more j - (X.arcs.getD n aD).w) (by omega) (by omega) g3.symm (by rw [show (((X.arcs.getD n aD).t.toNat : Nat) : Int) = (X.arcs.getD n aD).t by omega]; exact hu)
    rw [show (((left.getD m 0).toNat : Nat) : Int) = left.getD m 0 by have := hrm.1; omega] at hum
    have hb : adA more ⟨(j : Nat), (X.arcs.getD n aD).i, (X.arcs.getD n aD).o, (m : Nat), (X.arcs.getD n aD).w⟩ ∈ outs'.map (adA more') := by rw [← ho]; exact List.mem_map_of_mem g2
    obtain ⟨b, hb1, hb2⟩ := List.mem_map.1 hb
    obtain ⟨j', m', a', k1, k2, k3, k4, k5, k6⟩ := hC'.snd b hb1
    simp only at k1 k2 k4 k6
    rw [k5, adA_row, adA_row] at hb2
    simp only [Arc.mk.injEq] at hb2
    obtain ⟨q1, q2, q3, q4, q5⟩ := hb2
    have ej : j' = j := by omega
    have em : m' = m := by omega
    subst ej em
    have hsm : ∀ z : Int, shM z m' = 0 := fun z => by unfold shM; rw [if_neg hz]
    have ih := out_imp u m' (c - shM more j' - (X.arcs.getD n aD).w) g1 (by rw [hsm, Int.sub_zero]; exact hum)
    rw [hsm, Int.sub_zero] at ih
    have ra' := h'.dfst.arc a' k3
    have hrm' := m3'.rng _ (getD_mem left' m' 0 k2)
    have hu' := cls_cw h'.dfst h'.cls u (left'.getD m' 0).toNat a'.t.toNat (c - shM more j' - (X.arcs.getD n aD).w) (by have := hrm'.1; have := hrm'.2; omega) (by omega) k6 (by rw [show (((left'.getD m' 0).toNat : Nat) : Int) = left'.getD m' 0 by have := hrm'.1; omega]; exact ih)
    rw [show ((a'.t.toNat : Nat) : Int) = a'.t by omega] at hu'
    exact CW.cons.2 ⟨a', k3, k4, q2.trans e2, by rw [show c - shM more' j' - a'.w = c - shM more j' - (X.arcs.getD n aD).w by omega]; exact hu'⟩
end
theorem DetH.cw0 {F U : TF} {st : DS} (h : DetH F U st) (h12 : F.st ≤ 12) {c1 c2 : Nat} {v : List Int} {c : Int} : CW (phT (mkD U st 0 0) c1 c2) 0 v (c - dsD U st 0) ↔ CW (mkD U st 0 0) 0 v c := by
  have := ph_cw (h.fokB h12 0 0).1 (c1 := c1) (c2 := c2) v 0 (c - dsD U st 0) ⟨Int.le_refl _, by show (0 : Int) < ((st.1.length : Nat) : Int); have := h.ri.len; omega⟩
  rw [this]
  show CW _ 0 v (c - dsD U st 0 + dsD U st 0) ↔ _
  rw [show c - dsD U st 0 + dsD U st 0 = c by omega]
theorem none_cw {F U : TF} {st : DS} (h : DetH F U st) (h12 : F.st ≤ 12) (hn : ¬ ∃ w c, CW U U.start w c) {v : List Int} {c : Int} : ¬ CW (mkD U st 0 0) 0 v c := fun hv =>
  hn ⟨v, c, (h.cw1 hv).is (by have := CW.pos (h.fokB h12 0 0).1 _ _ _ hv; omega)⟩
theorem some_not {F U : TF} {st : DS} (h : DetH F U st) (h12 : F.st ≤ 12) (hn : ∃ w c, CW U U.start w c) {c1 c2 : Nat} {cls left : List Int} {outs : List Arc} (hc : ClsOk (phT (mkD U st 0 0) c1 c2) cls) (m1 : mgRows (phT (mkD U st 0 0) c1 c2) cls left.length = (left, outs))
    (m2 : ∀ j, j < left.length → j < (mgRows (phT (mkD U st 0 0) c1 c2) cls j).1.length) : ¬ (adF (dsD U st 0) (left.map (fiA (phT (mkD U st 0 0) c1 c2))) = [-1] ∧ outs.map (adA (dsD U st 0)) = []) := by
  rintro ⟨e1, e2⟩
  have hM := h.mch h12 hn hc
  have d0 := dsD_is h h12 hn (q := 0) (by have := h.ri.len; omega)
  obtain ⟨M, hH⟩ := mg_head (phT (mkD U st 0 0) c1 c2) cls left.length
  rw [m1] at hH
  simp only at hH
  have hlp : 0 < left.length := by rw [hH]; simp
  have hl0 : left.getD 0 0 = 0 := by rw [hH]; rfl
  obtain ⟨⟨v, hv⟩, _⟩ := hM.psh 0 (by have := hM.pos; omega)
  cases v with
  | nil =>
    obtain ⟨g1, g2⟩ := CW.nil.1 hv
    have g1 : (phT (mkD U st 0 0) c1 c2).fin.getD (Int.toNat 0) 0 ≠ -1 := g1
    have g2 : 0 = (phT (mkD U st 0 0) c1 c2).fin.getD (Int.toNat 0) 0 := g2
    have hg := adF_get (dsD U st 0) (left.map (fiA (phT (mkD U st 0 0) c1 c2))) (j := 0) (by rw [List.length_map]; exact hlp)
    have e3 : (left.map (fiA (phT (mkD U st 0 0) c1 c2))).getD 0 0 = (phT (mkD U st 0 0) c1 c2).fin.getD (left.getD 0 0).toNat 0 := by simp [List.getD, hlp, fiA]
    rw [e1, e3, hl0] at hg
    rw [if_neg g1, ← g2] at hg
    unfold shM at hg
    rw [if_pos rfl] at hg
    have hg : (-1 : Int) = 0 + dsD U st 0 := hg
    omega
  | cons x u =>
    obtain ⟨a, ha, g1, g2, _⟩ := CW.cons.1 hv
    obtain ⟨n, hn2, rfl⟩ := getD_ix ha
    have hC := MgC.rows (X := phT (mkD U st 0 0) c1 c2) (cls := cls) left.length m2
    rw [m1] at hC
    obtain ⟨m, _, g4, _⟩ := hC.cpl 0 n hn2 (.inl hlp) hlp (by simp only; rw [hl0]; exact g1)
    have : outs = [] := by simpa using e2
    rw [this] at g4
    cases g4
section
variable {F G U V : TF} {st st' : DS} (h : DetH F U st) (h12 : F.st ≤ 12) (h' : DetH G V st') (h12' : G.st ≤ 12)
include h h12 h' h12'
theorem ls_iff {n n' : Nat} {ff ff' : List Int} {oo oo' : List Arc} (hA : IsLs U st n ff oo) (hA' : IsLs V st' n' ff' oo') : (n = n' ∧ ff = ff' ∧ oo = oo') ↔ Eqv (mkD U st 0 0) (mkD V st' 0 0) 0 0 := by
  rcases hA with ⟨hn, rfl, rfl, rfl⟩ | ⟨hn, c1, c2, cls, left, outs, hc, m1, m2, m3, rfl, rfl, rfl⟩
  · rcases hA' with ⟨hn', rfl, rfl, rfl⟩ | ⟨hn', c1', c2', cls', left', outs', hc', m1', m2', m3', rfl, rfl, rfl⟩
    · exact ⟨fun _ v c => ⟨fun hv => absurd hv (none_cw h h12 hn), fun hv => absurd hv (none_cw h' h12' hn')⟩, fun _ => ⟨rfl, rfl, rfl⟩⟩
    · constructor
      · rintro ⟨_, e1, e2⟩
        exact absurd ⟨e1.symm, e2.symm⟩ (some_not h' h12' hn' hc' m1' m2')
      · intro he
        obtain ⟨w, c, hw⟩ := h'.co hn' 0 0 (j := 0) (by have := h'.ri.len; omega)
        exact absurd ((he _ _).2 hw) (none_cw h h12 hn)
  · rcases hA' with ⟨hn', rfl, rfl, rfl⟩ | ⟨hn', c1', c2', cls', left', outs', hc', m1', m2', m3', rfl, rfl, rfl⟩
    · constructor
      · rintro ⟨_, e1, e2⟩
        exact absurd ⟨e1, e2⟩ (some_not h h12 hn hc m1 m2)
      · intro he
        obtain ⟨w, c, hw⟩ := h.co hn 0 0 (j := 0) (by have := h.ri.len; omega)
        exact absurd ((he _ _).1 hw) (none_cw h' h12' hn')
    · have hM := h.mch h12 hn hc
      have hM' := h'.mch h12' hn' hc'
      have d0 := dsD_is h h12 hn (q := 0) (by have := h.ri.len; omega)
      have d0' := dsD_is h' h12' hn' (q := 0) (by have := h'.ri.len; omega)
      have hz : left.getD 0 0 = 0 := by
        obtain ⟨M, hH⟩ := mg_head (phT (mkD U st 0 0) c1 c2) cls left.length
        rw [m1] at hH
        simp only at hH
        rw [hH]; rfl
      have hz' : left'.getD 0 0 = 0 := by
        obtain ⟨M, hH⟩ := mg_head (phT (mkD V st' 0 0) c1' c2') cls' left'.length
        rw [m1'] at hH
        simp only at hH
        rw [hH]; rfl
      have hp := m3.pos
      simp only at hp
      constructor
      · rintro ⟨e1, e2, e3⟩ v c
        have i1 := out_imp hM hM' d0.2.1 m1 m2 m3 m1' m2' m3' e1 e2 e3 v 0 c hp
        have i2 := out_imp hM' hM d0'.2.1 m1' m2' m3' m1 m2 m3 e1.symm e2.symm e3.symm v 0 c (by omega)
        rw [hz, hz'] at i1 i2
        rw [← h.cw0 h12 (c1 := c1) (c2 := c2), ← h'.cw0 h12' (c1 := c1') (c2 := c2')]
        exact ⟨i1, i2⟩
      · intro he
        have hds : dsD U st 0 = dsD V st' 0 := d0.1.eq d0'.1 fun c => ⟨fun ⟨w, hw⟩ => ⟨w, (he _ _).1 hw⟩, fun ⟨w, hw⟩ => ⟨w, (he _ _).2 hw⟩⟩
        have h0 : Eqv (phT (mkD U st 0 0) c1 c2) (phT (mkD V st' 0 0) c1' c2') 0 0 := fun v c => by
          have a1 := h.cw0 h12 (c1 := c1) (c2 := c2) (v := v) (c := c + dsD U st 0)
          have a2 := h'.cw0 h12' (c1 := c1') (c2 := c2') (v := v) (c := c + dsD U st 0)
          rw [show c + dsD U st 0 - dsD U st 0 = c by omega] at a1
          rw [← hds, show c + dsD U st 0 - dsD U st 0 = c by omega] at a2
          rw [a1, a2]
          exact he v _
        obtain ⟨k1, k2, k3⟩ := sim_same hM hM' h0 m1 m2 m1' m2'
        refine ⟨k1, ?_, ?_⟩
        · rw [k3, hds]
        · rw [k2, hds]
end
end Go.Fw

namespace Go.Fw
open Go Go.Proofs
theorem leastE_ok {F : TF} (h0 : leastE F = 0) : FOk F ∧ fineB F = true ∧ F.st ≤ 12 := by
  have hfst : fstE F = 0 := Classical.byContradiction fun h => by
    have hd : leastE F = fstE F := by unfold leastE; rw [if_pos h]
    omega
  have h12 : F.st ≤ 12 := Classical.byContradiction fun h => by
    have hd : leastE F = 2 := by unfold leastE; rw [if_neg (fun c => c hfst), if_pos (by omega)]
    omega
  have hf : fineB F = true := Classical.byContradiction fun h => by
    have hd : leastE F = 4 := by unfold leastE; rw [if_neg (fun c => c hfst), if_neg (by omega), if_neg h]
    omega
  exact ⟨fstE_ok hfst, hf, h12⟩
theorem LAns.to {F V : TF} {n : Nat} {ff : List Int} {oo : List Arc} (h : LAns F 0 n ff oo) (h0 : leastE F = 0) (hV : IsUs F V) : ∃ st, DetH F V st ∧ IsLs V st n ff oo := by
  obtain ⟨hF, hf, h12⟩ := leastE_ok h0
  rcases h with ⟨h1, _⟩ | ⟨_, U, hus, ⟨_, h2⟩ | ⟨h2, st, hmd, hls, _⟩⟩
  · exact absurd h0 h1
  · cases h2
  · have hw := WOk.of hF
    obtain ⟨e1, e2, e3, e4⟩ := hus.uniq hw.toFRng hF.start hV
    have hbg := hus.bgn hw.toFRng hF.start hV
    exact ⟨st, ⟨hF, hf, hV, by omega, hmd.cap e1 e4 e2⟩, hls.cap e1 e2 e3 e4⟩
abbrev hpSm (F G : TF) (x : Obj) : List (Nat × SO) := hpG F G ++ [(4, tabO x)]
end Go.Fw

/-
  What is least is a transducer again: it costs the same, and its least is itself.
-/
namespace Go.Fw
def lsT (n : Nat) (ff : List Int) (oo : List Arc) (c1 c2 : Nat) : TF := ⟨(n : Nat), 0, ff, oo, c1, c2⟩
structure OutI (n k : Nat) (o : List Arc) : Prop where
  srt : Srt o
  fr : ∀ a ∈ o, 0 ≤ a.f ∧ (a.f < n ∨ a.f = n ∧ a.i ≤ k)
  len : o.length ≤ 9 * n + k
  io : ∀ a ∈ o, (1 ≤ a.i ∧ a.i ≤ 9) ∧ a.i = a.o
section
variable {X : TF} {cls : List Int} (h : Mch X cls)
include h
theorem OutI.row {n : Nat} {s : Int} {b : List Int × List Arc} (hb : OutI n 0 b.2) : ∀ k, k ≤ 9 → OutI n k ((outR X s k).foldl (mgG cls n) b).2
  | 0, _ => by
    rw [outR_none fun a ha => (h.let_ a ha).1.1]
    exact hb
  | k + 1, hk => by
    have ih := OutI.row (s := s) hb k (by omega)
    by_cases hx : ∃ a ∈ X.arcs, a.f = s ∧ a.i = (k : Int) + 1
    · obtain ⟨a, ha, e1, e2⟩ := hx
      have hl := h.let_ a ha
      rw [outR_yes h.det ha e1 e2, List.foldl_append]
      show OutI n (k + 1) (_ ++ [_])
      refine ⟨?_, fun c hc => ?_, ?_, fun c hc => ?_⟩
      · refine List.pairwise_append.2 ⟨ih.srt, List.pairwise_singleton _ _, fun c hc d hd => ?_⟩
        rw [List.mem_singleton] at hd
        subst hd
        have := ih.fr c hc
        rw [aheadB_iff]
        simp only
        omega
      · rcases List.mem_append.1 hc with hc | hc
        · have := ih.fr c hc
          omega
        · rw [List.mem_singleton] at hc
          subst hc
          refine ⟨Int.natCast_nonneg n, .inr ⟨rfl, ?_⟩⟩
          show a.i ≤ ((k + 1 : Nat) : Int)
          omega
      · rw [List.length_append, List.length_singleton]
        have := ih.len
        omega
      · rcases List.mem_append.1 hc with hc | hc
        · exact ih.io c hc
        · rw [List.mem_singleton] at hc
          subst hc
          exact hl
    · rw [outR_no fun a ha e1 e2 => hx ⟨a, ha, e1, e2⟩]
      exact ⟨ih.srt, fun c hc => by have := ih.fr c hc; omega, by have := ih.len; omega, ih.io⟩
theorem OutI.rows : ∀ n, OutI n 0 (mgRows X cls n).2
  | 0 => ⟨List.Pairwise.nil, fun a ha => by simp [mgRows] at ha, by simp [mgRows], fun a ha => by simp [mgRows] at ha⟩
  | n + 1 => by
    have ih := OutI.rows n
    show OutI (n + 1) 0 (mgP X cls n ((mgRows X cls n).1.getD n 0) (mgRows X cls n) X.arcs.length).2
    rw [mgP_fold _ _ _ _ _ _ (Nat.le_refl _), List.take_length, ← outR_all fun a ha => (h.let_ a ha).1.2]
    have := OutI.row h (s := (mgRows X cls n).1.getD n 0) ih 9 (Nat.le_refl _)
    exact ⟨this.srt, fun c hc => by have := this.fr c hc; omega, by have := this.len; omega, this.io⟩
end
section
variable {X : TF} {cls : List Int} (h : Mch X cls) {left : List Int} {outs : List Arc} {more : Int} (hm : 0 ≤ more)
  (m1 : mgRows X cls left.length = (left, outs)) (m2 : ∀ j, j < left.length → j < (mgRows X cls j).1.length) (m3 : MgI X cls (left, outs)) {c1 c2 : Nat}
include h hm m1 m2 m3
omit h hm m1 m2 m3 in
theorem ls_fin {j : Nat} (hj : j < left.length) : (adF more (left.map (fiA X))).getD j 0 = if X.fin.getD (left.getD j 0).toNat 0 = -1 then -1 else X.fin.getD (left.getD j 0).toNat 0 + shM more j := by
  have e1 : (left.map (fiA X)).getD j 0 = X.fin.getD (left.getD j 0).toNat 0 := by simp [List.getD, hj, fiA]
  rw [adF_get more (left.map (fiA X)) (j := j) (by rw [List.length_map]; exact hj), e1]
theorem ls_cw : ∀ (v : List Int) (j : Nat) (c : Int), j < left.length → (CW (lsT left.length (adF more (left.map (fiA X))) (outs.map (adA more)) c1 c2) (j : Nat) v c ↔ CW X (left.getD j 0) v (c - shM more j))
  | [], j, c, hj => by
    have hf := ls_fin (X := X) (more := more) hj
    have hr := m3.rng _ (getD_mem left j 0 hj)
    have hff := h.dfst.fin _ (getD_mem X.fin (left.getD j 0).toNat 0 (by have := h.dfst.finl; omega))
    have hs : 0 ≤ shM more j := by unfold shM; split <;> omega
    rw [CW.nil, CW.nil]
    show (adF more (left.map (fiA X))).getD (j : Int).toNat 0 ≠ -1 ∧ c = (adF more (left.map (fiA X))).getD (j : Int).toNat 0 ↔ _
    rw [Int.toNat_natCast, hf]
    by_cases e : X.fin.getD (left.getD j 0).toNat 0 = -1
    · rw [if_pos e]
      exact ⟨fun g => absurd rfl g.1, fun g => absurd e g.1⟩
    · rw [if_neg e]
      constructor
      · rintro ⟨_, g⟩; exact ⟨e, by omega⟩
      · rintro ⟨_, g⟩; exact ⟨by omega, by omega⟩
  | x :: u, j, c, hj => by
    have hC := MgC.rows (X := X) (cls := cls) left.length m2
    rw [m1] at hC
    have hsm : ∀ m, clA cls (left.getD m 0) ≠ clA cls 0 → shM more m = 0 := fun m hne => by
      unfold shM
      rw [if_neg fun e => hne (by
        subst e
        obtain ⟨M, hM⟩ := mg_head X cls left.length
        rw [m1] at hM
        simp only at hM
        rw [hM, h.start]
        rfl)]
    have key : ∀ (m : Nat) (a : Arc) (e : Int), a ∈ X.arcs → m < left.length → clA cls (left.getD m 0) = clA cls a.t → (CW (lsT left.length (adF more (left.map (fiA X))) (outs.map (adA more)) c1 c2) (m : Nat) u e ↔ CW X a.t u e) := fun m a e ha hml hcl => by
      have ra := h.dfst.arc a ha
      have hrm := m3.rng _ (getD_mem left m 0 hml)
      rw [ls_cw u m e hml, hsm m (by rw [hcl]; exact h.noback ha), Int.sub_zero]
      have ea : ((a.t.toNat : Nat) : Int) = a.t := by omega
      have em : (((left.getD m 0).toNat : Nat) : Int) = left.getD m 0 := by have := hrm.1; omega
      rw [← ea, ← em]
      exact ⟨cls_cw h.dfst h.cls u _ _ e (by have := hrm.1; have := hrm.2; omega) (by omega) hcl, cls_cw h.dfst h.cls u _ _ e (by omega) (by have := hrm.1; have := hrm.2; omega) hcl.symm⟩
    rw [CW.cons, CW.cons]
    constructor
    · rintro ⟨b, hb, g1, g2, g3⟩
      obtain ⟨b0, hb0, rfl⟩ := List.mem_map.1 hb
      obtain ⟨j', m, a, k1, k2, k3, k4, k5, k6⟩ := hC.snd b0 hb0
      simp only at k1 k2 k4 k6
      rw [k5, adA_row] at g1 g2 g3
      simp only at g1 g2 g3
      have ej : j' = j := by omega
      subst ej
      exact ⟨a, k3, k4, g2, by rw [show c - shM more j' - a.w = c - (a.w + shM more j') by omega]; exact (key m a _ k3 k2 k6).1 g3⟩
    · rintro ⟨a, ha, g1, g2, g3⟩
      obtain ⟨n, hn, rfl⟩ := getD_ix ha
      obtain ⟨m, k1, k2, k3⟩ := hC.cpl j n hn (.inl hj) hj g1
      simp only at k1 k2 k3
      refine ⟨adA more ⟨(j : Nat), (X.arcs.getD n aD).i, (X.arcs.getD n aD).o, (m : Nat), (X.arcs.getD n aD).w⟩, List.mem_map_of_mem k2, ?_, ?_, ?_⟩
      · rw [adA_row]
      · rw [adA_row]; exact g2
      · rw [adA_row]
        simp only
        rw [show c - ((X.arcs.getD n aD).w + shM more j) = c - shM more j - (X.arcs.getD n aD).w by omega]
        exact (key m _ _ ha k1 k3).2 g3
omit m3 in
theorem ls_arc {b : Arc} (hb : b ∈ outs.map (adA more)) : (0 ≤ b.f ∧ b.f < left.length) ∧ (0 ≤ b.t ∧ b.t < left.length) ∧ ((1 ≤ b.i ∧ b.i ≤ 9) ∧ b.i = b.o) ∧ 0 ≤ b.w := by
  have hC := MgC.rows (X := X) (cls := cls) left.length m2
  rw [m1] at hC
  obtain ⟨b0, hb0, rfl⟩ := List.mem_map.1 hb
  obtain ⟨j, m, a, k1, k2, k3, k4, k5, k6⟩ := hC.snd b0 hb0
  simp only at k1 k2
  have hl := h.let_ a k3
  have hw := h.dfst.w a k3
  have hs : 0 ≤ shM more j := by unfold shM; split <;> omega
  rw [k5, adA_row]
  simp only
  exact ⟨by omega, by omega, hl, by omega⟩
theorem ls_fst (hn : left.length ≤ 200) (hg : greatB (outs.map (adA more)) (adF more (left.map (fiA X))) = false) : fstE (lsT left.length (adF more (left.map (fiA X))) (outs.map (adA more)) c1 c2) = 0 := by
  have hO := OutI.rows h left.length
  rw [m1] at hO
  have hp := m3.pos
  simp only at hp
  unfold greatB at hg
  rw [Bool.or_eq_false_iff, List.any_eq_false, List.any_eq_false] at hg
  have hfl : (adF more (left.map (fiA X))).length = left.length := by unfold adF; split <;> simp
  refine fstE_iff.2 ⟨⟨⟨?_, ?_⟩, ⟨?_, ?_⟩, ?_, fun x hx => ?_, ?_, fun b hb => ?_⟩, ?_⟩
  · show 1 ≤ ((left.length : Nat) : Int); omega
  · show ((left.length : Nat) : Int) ≤ 200; omega
  · exact Int.le_refl _
  · show (0 : Int) < ((left.length : Nat) : Int); omega
  · show (((adF more (left.map (fiA X))).length : Nat) : Int) = ((left.length : Nat) : Int); rw [hfl]
  · have hx : x ∈ adF more (left.map (fiA X)) := hx
    have h1 := hg.2 x hx
    simp only [decide_eq_true_eq] at h1
    refine ⟨?_, by omega⟩
    obtain ⟨j, hj, rfl⟩ := List.mem_iff_getElem.1 hx
    have hj2 : j < left.length := by omega
    have hf := ls_fin (X := X) (more := more) hj2
    have hr := m3.rng _ (getD_mem left j 0 hj2)
    have hff := h.dfst.fin _ (getD_mem X.fin (left.getD j 0).toNat 0 (by have := h.dfst.finl; omega))
    have hs : 0 ≤ shM more j := by unfold shM; split <;> omega
    have e : (adF more (left.map (fiA X))).getD j 0 = (adF more (left.map (fiA X)))[j] := by simp [List.getD, hj]
    rw [← e, hf]
    split <;> omega
  · show (outs.map (adA more)).length ≤ 3000
    rw [List.length_map]
    have := hO.len
    simp only at this
    omega
  · have hb : b ∈ outs.map (adA more) := hb
    have h1 := hg.1 b hb
    simp only [decide_eq_true_eq] at h1
    have h2 := ls_arc h hm m1 m2 hb
    have e : (lsT left.length (adF more (left.map (fiA X))) (outs.map (adA more)) c1 c2).st = ((left.length : Nat) : Int) := rfl
    exact ⟨h2.1.1, by rw [e]; exact h2.1.2, h2.2.1.1, by rw [e]; exact h2.2.1.2, by omega, by omega, h2.2.2.2, by omega⟩
  · show Srt (outs.map (adA more))
    refine List.pairwise_map.2 (hO.srt.imp fun {a b} hab => ?_)
    have k : ∀ a : Arc, adA more a = ⟨a.f, a.i, a.o, a.t, (adA more a).w⟩ := fun a => by unfold adA; split <;> rfl
    rw [k a, k b, aheadB_w]
    exact hab
theorem ls_fine : fineB (lsT left.length (adF more (left.map (fiA X))) (outs.map (adA more)) c1 c2) = true := by
  refine fineB_iff.2 ⟨fun a ha => ?_, ?_⟩
  · have := (ls_arc h hm m1 m2 (show a ∈ outs.map (adA more) from ha)).2.2.1
    omega
  · show roundB (outs.map (adA more)) ((left.length : Nat) : Int).toNat = false
    rw [Int.toNat_natCast]
    cases hc : roundB (outs.map (adA more)) left.length with
    | false => rfl
    | true =>
      exfalso
      have hf : ∀ a ∈ outs.map (adA more), 0 ≤ a.f ∧ a.f < (left.length : Nat) := fun a ha => (ls_arc h hm m1 m2 ha).1
      obtain ⟨v, hv, hnb⟩ := round_all hf hc X.st.toNat
      obtain ⟨s, w, c, hs, hw, hrd⟩ := nowB_rd hf (v := (v : Int)) ⟨by omega, by omega⟩ hnb
      have hrv := m3.rng _ (getD_mem left v 0 hv)
      obtain ⟨⟨u, hu⟩, _⟩ := h.psh (left.getD v 0).toNat (by have := hrv.1; have := hrv.2; omega)
      rw [show (((left.getD v 0).toNat : Nat) : Int) = left.getD v 0 by have := hrv.1; omega] at hu
      have hL := (ls_cw h hm m1 m2 m3 (c1 := c1) (c2 := c2) u v (0 + shM more v) hv).2 (by rw [show 0 + shM more v - shM more v = 0 by omega]; exact hu)
      obtain ⟨t, e, g1, g2, g3⟩ := hL
      have hsn : s.toNat < left.length := by omega
      have hall : CW (lsT left.length (adF more (left.map (fiA X))) (outs.map (adA more)) c1 c2) ((s.toNat : Nat) : Int) (w ++ u) (c + (0 + shM more v)) := by
        rw [show ((s.toNat : Nat) : Int) = s by omega]
        exact ⟨t, c + e, hrd.app g1, g2, by omega⟩
      obtain ⟨t', e', k1, _⟩ := (ls_cw h hm m1 m2 m3 (w ++ u) s.toNat _ hsn).1 hall
      have hrs := m3.rng _ (getD_mem left s.toNat 0 hsn)
      have hlv := h.lv (q := (left.getD s.toNat 0).toNat) (by have := hrs.1; have := hrs.2; omega)
      rw [show (((left.getD s.toNat 0).toNat : Nat) : Int) = left.getD s.toNat 0 by have := hrs.1; omega] at hlv
      have := hlv _ _ _ k1
      rw [List.length_append] at this
      omega
end
section
variable {F U : TF} {st : DS} (h : DetH F U st) (h12 : F.st ≤ 12)
include h
theorem DetH.cwm (h12 : F.st ≤ 12) {v : List Int} {c : Int} : CW (mkD U st 0 0) 0 v c ↔ MinOf (CW U U.start v) c ∧ c ≠ -1 := by
  have hB := (h.fokB h12 0 0).1
  constructor
  · intro hv
    exact ⟨h.cw1 hv, by have := CW.pos hB _ _ _ hv; omega⟩
  · rintro ⟨hm, hc⟩
    obtain ⟨m, _, h2⟩ := h.cw2 (cf := 0) (ca := 0) (hm.is hc)
    have := hm.eq (h.cw1 h2) fun c => Iff.rfl
    rw [this]
    exact h2
theorem DetH.cwF {v : List Int} {c : Int} : CW U U.start v c ↔ CW F F.start v c := by
  have hLU : ∀ a ∈ U.arcs, a.i = a.o ∧ a.i ≠ 0 := fun a ha => by have := h.hlet a ha; omega
  rw [cw_wt hLU, cw_wt h.lets]
  obtain ⟨p, hp, g1, g2, g3, g4⟩ := h.us
  rw [← useful_wt h.wok.toFRng h.fok.start hp]
  unfold Wt
  rw [g2, g3, g4]
theorem DetH.minD (h12 : F.st ≤ 12) {v : List Int} {m : Int} : MinOf (CW (mkD U st 0 0) 0 v) m ↔ MinOf (CW F F.start v) m := by
  have hB := (h.fokB h12 0 0).1
  have k1 : ∀ m, MinOf (CW (mkD U st 0 0) 0 v) m → MinOf (CW F F.start v) m := fun m hm => hm.dom (fun c hc => h.cwF.1 ((h.cw1 hc).is (by have := CW.pos hB _ _ _ hc; omega))) fun c hc => h.cw2 (h.cwF.2 hc)
  refine ⟨k1 m, fun hm => ?_⟩
  have hex : ∃ m', MinOf (CW (mkD U st 0 0) 0 v) m' := by
    by_cases e : ∃ c, CW (mkD U st 0 0) 0 v c
    · obtain ⟨c, hc⟩ := e
      refine ⟨c, .inr ⟨CW.pos hB _ _ _ hc, hc, fun d hd => ?_⟩⟩
      have := (h.cw1 hc).eq (h.cw1 hd) fun c => Iff.rfl
      omega
    · exact ⟨-1, .inl ⟨rfl, fun c hc => e ⟨c, hc⟩⟩⟩
  obtain ⟨m', hm'⟩ := hex
  have := (k1 m' hm').eq hm fun c => Iff.rfl
  rwa [this] at hm'
end
theorem again {F U : TF} {st : DS} (h : DetH F U st) (h12 : F.st ≤ 12) {n : Nat} {ff : List Int} {oo : List Arc} (hls : IsLs U st n ff oo) (hg : greatB oo ff = false) (c1 c2 : Nat) :
    fstE (lsT n ff oo c1 c2) = 0 ∧ fineB (lsT n ff oo c1 c2) = true ∧ n ≤ st.1.length ∧ ∀ v c, CW (lsT n ff oo c1 c2) 0 v c ↔ CW (mkD U st 0 0) 0 v c := by
  rcases hls with ⟨hn, rfl, rfl, rfl⟩ | ⟨hn, k1, k2, cls, left, outs, hc, m1, m2, m3, rfl, rfl, rfl⟩
  · refine ⟨rfl, rfl, h.ri.len, fun v c => ⟨fun hv => ?_, fun hv => absurd hv (none_cw h h12 hn)⟩⟩
    exfalso
    obtain ⟨t, d, g1, g2, _⟩ := hv
    obtain ⟨_, rfl, _⟩ := g1.empty rfl
    exact g2 rfl
  · have hM := h.mch h12 hn hc
    have d0 := dsD_is h h12 hn (q := 0) (by have := h.ri.len; omega)
    have hle := m3.le hM.dfst.st.1 hc.bd
    have e : (phT (mkD U st 0 0) k1 k2).st = ((st.1.length : Nat) : Int) := rfl
    simp only at hle
    have hs := h.small.2.1
    have hz : left.getD 0 0 = 0 := by
      obtain ⟨M, hH⟩ := mg_head (phT (mkD U st 0 0) k1 k2) cls left.length
      rw [m1] at hH
      simp only at hH
      rw [hH]; rfl
    have hp := m3.pos
    simp only at hp
    refine ⟨ls_fst hM d0.2.1 m1 m2 m3 (by omega) hg, ls_fine hM d0.2.1 m1 m2 m3, by omega, fun v c => ?_⟩
    have := ls_cw hM d0.2.1 m1 m2 m3 (c1 := c1) (c2 := c2) v 0 c hp
    rw [hz] at this
    exact this.trans (h.cw0 h12)
theorem bgn_same {F U G V : TF} {st : DS} (h : DetH F U st) (hG : FOk G) (hf : fineB G = true) (hV : IsUs G V) (he : ∀ v, (∃ c, CW G G.start v c) → ∃ c, CW F F.start v c) : bgnF V 201 200 [⟨V.start, 0⟩] ≤ 200 := by
  obtain ⟨hV1, hV2⟩ := us_ok hG hf hV
  have hL : ∀ a ∈ G.arcs, a.i = a.o ∧ a.i ≠ 0 := (fineB_iff.1 hf).1
  have hR : FRng G := FRng.of hG
  have hw := WOk.of hG
  obtain ⟨hVw, hVs, _⟩ := hV.ok hw hG.start
  have hcw : ∀ v c, CW V V.start v c ↔ CW G G.start v c := fun v c => by
    have hLV : ∀ a ∈ V.arcs, a.i = a.o ∧ a.i ≠ 0 := fun a ha => by
      obtain ⟨b, hb, e1, e2, _⟩ := hV.arcs ha
      rw [e1, e2]; exact hL b hb
    rw [cw_wt hLV, cw_wt hL]
    obtain ⟨p, hp, g1, g2, g3, g4⟩ := hV
    rw [← useful_wt hR hG.start hp]
    unfold Wt
    rw [g2, g3, g4]
  have hbg : ∀ w, Bg V w → Bg U w := fun w ⟨t, c, hr⟩ => by
    by_cases hn : ∃ w c, CW V V.start w c
    · have ht := hr.rng (fun a ha => (hV1 a ha).2.1) hVs
      obtain ⟨v, c', t', d, g1, g2, _⟩ := hV.co hR hL hn t ht
      obtain ⟨e, he'⟩ := he (w ++ v) ⟨_, (hcw _ _).1 ⟨t', c + d, hr.app g1, g2, rfl⟩⟩
      obtain ⟨t2, d2, k1, _⟩ := h.cwF.2 he'
      obtain ⟨q, x, y, k2, _⟩ := k1.split
      exact ⟨q, x, k2⟩
    · have := (hr.empty (hV.nil hR hG.start hL hn)).1
      subst this
      exact ⟨_, _, .nil _⟩
  refine Classical.byContradiction fun hc => ?_
  have h1 := bgn_tree V 201 200 [⟨V.start, 0⟩]
  rw [← treeW_len] at h1
  have h3 := (tree_ok U 201 200 [⟨U.start, 0⟩] (by omega) h.bgn).1
  rw [← treeW_len] at h3
  have hb := h.bgn
  have h2 := nd_le (treeW_nd V 201 [⟨V.start, 0⟩]) (m := treeW U 201 [⟨U.start, 0⟩]) fun w hw => by
    obtain ⟨g1, g2⟩ := (treeW_bg hV1 hV2).1 hw
    exact (treeW_bg h.hU fun a ha => (h.hlet a ha).1).2 ⟨hbg w g1, g2⟩
  omega
theorem eqv_of {F G U V : TF} {st st' : DS} (h : DetH F U st) (h12 : F.st ≤ 12) (h' : DetH G V st') (h12' : G.st ≤ 12) (he : ∀ v c, CW (mkD U st 0 0) 0 v c ↔ CW G G.start v c) : Eqv (mkD U st 0 0) (mkD V st' 0 0) 0 0 := fun v c => by
  have hB := (h.fokB h12 0 0).1
  show CW (mkD U st 0 0) 0 v c ↔ CW (mkD V st' 0 0) 0 v c
  rw [h'.cwm h12']
  have k : ∀ c, CW V V.start v c ↔ CW (mkD U st 0 0) 0 v c := fun c => by rw [h'.cwF, he]
  constructor
  · intro hv
    have hp := CW.pos hB _ _ _ hv
    refine ⟨.inr ⟨hp, (k c).2 hv, fun d hd => ?_⟩, by omega⟩
    have := (h.cw1 hv).eq (h.cw1 ((k d).1 hd)) fun c => Iff.rfl
    omega
  · rintro ⟨hm, hc⟩
    exact (k c).1 (hm.is hc)
end Go.Fw

namespace Go.Fw
open Go Go.Proofs
theorem scoreE_word {F : TF} {l : List Int} (h : fstE F = 0) : scoreE F l l = wordE l := by
  unfold scoreE
  rw [if_neg (fun c => c h)]
  by_cases e : wordE l = 0
  · rw [if_neg (fun c => c e)]
  · rw [if_pos e]
theorem score_l (F : TF) (l : List Int) (c1 c2 : Nat) (hl : F.fin.length ≤ 9223372036854775807) (h : fstE F = 0) (hL : ∀ a ∈ F.arcs, a.i = a.o ∧ a.i ≠ 0) : Ct Tryd.prog 20 [fV F, .c (.sl 2 1 0 l.length c1), .c (.sl 3 1 0 l.length c2)] [] (hpQ F l l) 4
    (fun v s => ∃ n, (wordE l = 0 → MinOf (CW F F.start l) n) ∧ (wordE l ≠ 0 → n = 0) ∧ v = .tup [.c (.i n), .c (.i (wordE l))] ∧ s = ⟨[], [], 4⟩) := by
  have hc := score_a F l l c1 c2 hl
  rw [scoreE_word h] at hc
  refine hc.to ?_
  rintro v s ⟨n, hp, h1, h2⟩
  unfold ScoreP at hp
  rw [scoreE_word h] at hp
  exact ⟨n, fun hw => (hp.1 hw).1.cong fun c => (cw_wt hL).symm, hp.2, h1, h2⟩
theorem det_st {F U U' : TF} {st st' : DS} (hF : FOk F) (hU : IsUs F U) (hU' : IsUs F U') (h : MDone U st) (h' : MDone U' st') : st = st' := by
  obtain ⟨e1, e2, e3, e4⟩ := hU.uniq (FRng.of hF) hF.start hU'
  exact (h.cap e1 e4 e2).uniq h'
theorem LAns.st {F : TF} {n : Nat} {ff : List Int} {oo : List Arc} (h : LAns F 0 n ff oo) (h0 : leastE F = 0) : ∃ U st, DetH F U st ∧ IsLs U st n ff oo ∧ greatB oo ff = false := by
  obtain ⟨hF, hf, h12⟩ := leastE_ok h0
  rcases h with ⟨h1, _⟩ | ⟨_, U, hus, ⟨_, h2⟩ | ⟨h2, st, hmd, hls, hg⟩⟩
  · exact absurd h0 h1
  · cases h2
  · rcases hg with ⟨_, h3⟩ | ⟨hg, _⟩
    · cases h3
    · exact ⟨U, st, ⟨hF, hf, hus, h2, hmd⟩, hls, hg⟩
theorem LAns.ok {F : TF} {n : Nat} {ff : List Int} {oo : List Arc} (h : LAns F 0 n ff oo) : leastE F = 0 := by
  rcases h with ⟨h1, h2⟩ | ⟨h, _⟩
  · exact absurd h2.symm h1
  · exact h
theorem least_again {F : TF} {n : Nat} {ff : List Int} {oo : List Arc} (h : LAns F 0 n ff oo) (c1 c2 : Nat) : fstE (lsT n ff oo c1 c2) = 0 ∧ (∀ a ∈ oo, a.i = a.o ∧ a.i ≠ 0) ∧ (∀ l m, MinOf (CW (lsT n ff oo c1 c2) 0 l) m ↔ MinOf (CW F F.start l) m) ∧
    (∀ U st, IsUs F U → MDone U st → n ≤ st.1.length) ∧ (n ≤ 12 → ∀ e n' ff' oo', LAns (lsT n ff oo c1 c2) e n' ff' oo' → e = 0 ∧ n' = n ∧ ff' = ff ∧ oo' = oo) := by
  have h0 := h.ok
  obtain ⟨hF, hf, h12⟩ := leastE_ok h0
  obtain ⟨U, st, hD, hls, hg⟩ := h.st h0
  obtain ⟨a1, a2, a3, a4⟩ := again hD h12 hls hg c1 c2
  refine ⟨a1, (fineB_iff.1 a2).1, fun l m => ?_, fun U' st' hU' hm' => by rw [← det_st hF hD.us hU' hD.done hm']; exact a3, fun hn e n' ff' oo' hA => ?_⟩
  · rw [← hD.minD h12]
    constructor
    · exact fun hm => hm.cong fun c => a4 l c
    · exact fun hm => hm.cong fun c => (a4 l c).symm
  · have hst : (lsT n ff oo c1 c2).st = ((n : Nat) : Int) := rfl
    have hL12 : (lsT n ff oo c1 c2).st ≤ 12 := by rw [hst]; omega
    have hLE : leastE (lsT n ff oo c1 c2) = 0 := by unfold leastE; rw [if_neg (fun c => c a1), if_neg (by omega), if_pos a2]
    have hGok := fstE_ok a1
    rcases hA with ⟨h1, _⟩ | ⟨_, V, hV, ⟨h2, _⟩ | ⟨h2, st', hmd', hls', hg'⟩⟩
    · exact absurd hLE h1
    · exfalso
      have := bgn_same hD hGok a2 hV fun v ⟨c, hc⟩ => by
        have hc : CW (lsT n ff oo c1 c2) 0 v c := hc
        have := (hD.cwm h12).1 ((a4 v c).1 hc)
        exact ⟨c, hD.cwF.1 (this.1.is this.2)⟩
      omega
    · have hD' : DetH (lsT n ff oo c1 c2) V st' := ⟨hGok, a2, hV, h2, hmd'⟩
      obtain ⟨k1, k2, k3⟩ := (ls_iff hD h12 hD' hL12 hls hls').2 (eqv_of hD h12 hD' hL12 fun v c => (a4 v c).symm)
      subst k1 k2 k3
      refine ⟨?_, rfl, rfl, rfl⟩
      rcases hg' with ⟨hg', _⟩ | ⟨_, he⟩
      · rw [hg] at hg'; cases hg'
      · exact he
theorem same_cost {F G : TF} {n : Nat} {ff : List Int} {oo : List Arc} (h : LAns F 0 n ff oo) (h' : LAns G 0 n ff oo) {l : List Int} {a b : Int} (ha : MinOf (CW F F.start l) a) (hb : MinOf (CW G G.start l) b) : a = b := by
  obtain ⟨_, _, h12⟩ := leastE_ok h.ok
  obtain ⟨_, _, h12'⟩ := leastE_ok h'.ok
  obtain ⟨U, st, hD, hls, _⟩ := h.st h.ok
  obtain ⟨V, st', hD', hls', _⟩ := h'.st h'.ok
  have he := (ls_iff hD h12 hD' h12' hls hls').1 ⟨rfl, rfl, rfl⟩
  exact ((hD.minD h12).2 ha).eq ((hD'.minD h12').2 hb) fun c => he l c
abbrev hpAg (F G : TF) (l : List Int) (x : Obj) : List (Nat × SO) := hpG F G ++ [(4, .arr false 3 .int l 0), (5, tabO x)]
theorem SamePost.short {F G : TF} {x : Obj} {v : SV} {s : S} (h : SamePost F G x v s) : ∃ ok e, v = .tup [.c (.b ok), .c (.i e)] ∧ s = ⟨[], [(4, tabO x)], 5⟩ ∧ (e = 0 → ok = true → ∃ n ff oo, LAns F 0 n ff oo ∧ LAns G 0 n ff oo) := by
  obtain ⟨e, n, ff, oo, h1, ⟨h2, h3⟩ | ⟨rfl, e', n', ff', oo', h4, ⟨h2, h3⟩ | ⟨rfl, h3⟩⟩, h5⟩ := h
  · exact ⟨_, _, h3, h5, fun h => absurd h h2⟩
  · exact ⟨_, _, h3, h5, fun h => absurd h h2⟩
  · refine ⟨_, _, h3, h5, fun _ h => ?_⟩
    obtain ⟨rfl, rfl, rfl⟩ := of_decide_eq_true h
    exact ⟨_, _, _, h1, h4⟩
abbrev gV2 (F : TF) : SV := .a (.agg [.i F.st, .i F.start, .sl 2 1 0 F.fin.length F.capF, .sl 3 5 0 F.arcs.length F.capA])
structure AZ where
  n : Nat
  ff : List Int
  oo : List Arc
  sp : Nat
  sq : Nat
  k : Int
abbrev hpA2 (F G : TF) (l : List Int) (x : Obj) (n : Nat) (ff : List Int) (oo : List Arc) (sp sq : Nat) : List (Nat × SO) :=
  hpAg F G l x ++ [(6, .box 25 (fCells F)), (7, .box 25 [.i G.st, .i G.start, .sl 2 1 0 G.fin.length G.capF, .sl 3 5 0 G.arcs.length G.capA]), (8, .arr true 3 .int ff sp), (9, .arr true 50 .arc oo sq), (10, .box 25 [.i (n : Nat), .i 0, .sl 8 1 0 ff.length (ff.length + sp), .sl 9 5 0 oo.length (oo.length + sq)])]
set_option maxHeartbeats 16000000 in
set_option maxRecDepth 20000 in
theorem leastAgain_c (F G : TF) (l : List Int) (cl : Nat) (hl : F.fin.length ≤ 9223372036854775807) (hl' : G.fin.length ≤ 9223372036854775807) (x : Obj) (hx : TabX x) : Ct Tryd.prog 7 [fV F, gV G, .c (.sl 4 1 0 l.length cl)] [] (hpAg F G l x) 6 (fun v s => v = .b true ∧ s = ⟨[], [(5, tabO x)], 6⟩) := by
  have hfin : (SV.b true = .b true ∧ (⟨[], [(5, tabO x)], 6⟩ : S) = ⟨[], [(5, tabO x)], 6⟩) := ⟨rfl, rfl⟩
  refine ctC Tryd.tyOk Tryd.func7 rfl (by simp [gV]) (by simp) (fr := [(0, fV F), (1, gV G), (2, .c (.sl 4 1 0 l.length cl))]) rfl ?_
  refine SemC.cut Tryd.tyOk 17 [] (fun z : AZ => ⟨[(2, .c (.sl 4 1 0 l.length cl)), (3, .c (.ptr 6 0)), (4, .c (.ptr 7 0)), (7, .c (.ptr 10 0)), (9, .i z.k)], hpA2 F G l x z.n z.ff z.oo z.sp z.sq, 11⟩)
    (fun z => LAns F 0 z.n z.ff z.oo ∧ (wordE l = 0 → MinOf (CW F F.start l) z.k)) 8 _ _ ?_ ?_
  · repeat' (first | exact rfl | ((conv => whnf); first | (refine qX (fun h => ?_) fun h => ?_ <;> try exact absurd h (by omega)) | refine oN ?_ | refine oM ?_ ?_ | refine bM ?_ ?_ | refine dR ?_))
    (conv => whnf)
    refine cF (leastBegun_c x hx) [5] Tryd.call24 ?_
    rintro _ _ ⟨rfl, rfl⟩
    repeat' (first | exact rfl | ((conv => whnf); first | (refine qX (fun h => ?_) fun h => ?_ <;> try exact absurd h (by omega)) | refine oN ?_ | refine oM ?_ ?_ | refine bM ?_ ?_ | refine dR ?_ | intro _))
    (conv => whnf)
    refine cI (scoreBegun_c) [] Tryd.call18 ?_
    repeat' (first | exact rfl | ((conv => whnf); first | (refine qX (fun h => ?_) fun h => ?_ <;> try exact absurd h (by omega)) | refine oN ?_ | refine oM ?_ ?_ | refine bM ?_ ?_ | refine dR ?_ | intro _))
    (conv => whnf)
    refine cF (determineBegun_c x hx) [5] Tryd.call14 ?_
    rintro _ _ ⟨rfl, rfl⟩
    repeat' (first | exact rfl | ((conv => whnf); first | (refine qX (fun h => ?_) fun h => ?_ <;> try exact absurd h (by omega)) | refine oN ?_ | refine oM ?_ ?_ | refine bM ?_ ?_ | refine dR ?_ | intro _))
    (conv => whnf)
    try simp only [Nat.reduceAdd, Nat.reduceSub]
    refine cF (Least_c F hl x hx) [0, 1, 5] Tryd.call21 ?_
    rintro v s hp
    obtain ⟨e, n, ff, oo, hA, hO⟩ := hp.split
    clear hp
    rcases hO with ⟨he, rfl, rfl⟩ | ⟨rfl, sp, sq, rfl, rfl⟩
    · repeat' (first | exact rfl | ((conv => whnf); first | (refine qX (fun h => ?_) fun h => ?_ <;> try exact absurd h (by omega)) | refine oN ?_ | refine oM ?_ ?_ | refine bM ?_ ?_ | refine dR ?_ | intro _))
      all_goals try (exfalso; omega)
      (conv => whnf)
      exact ⟨[], [(5, tabO x)], 6, .b true, ⟨by rfl, trivial, by simp⟩, by simp, hfin⟩
    · have h0 := hA.ok
      obtain ⟨hF, hf, h12⟩ := leastE_ok h0
      have hfst : fstE F = 0 := Classical.byContradiction fun h => by
        have hd : leastE F = fstE F := by unfold leastE; rw [if_pos h]
        omega
      have hL := (fineB_iff.1 hf).1
      have hlen := hA.len2
      obtain ⟨g1, g2, g3, g4, g5⟩ := least_again hA (ff.length + sp) (oo.length + sq)
      have cSF := score_l F l cl cl hl hfst hL
      repeat' (first | exact rfl | ((conv => whnf); first | (refine qX (fun h => ?_) fun h => ?_ <;> try exact absurd h (by omega)) | refine oN ?_ | refine oM ?_ ?_ | refine bM ?_ ?_ | refine dR ?_ | intro _))
      (conv => whnf)
      try simp only [Nat.reduceAdd, Nat.reduceSub]
      have cX : Ct Tryd.prog 20 [.a (.agg [.i (n : Nat), .i 0, .sl 0 1 0 ff.length (ff.length + sp), .sl 1 5 0 oo.length (oo.length + sq)]), .c (.sl 2 1 0 l.length cl), .c (.sl 3 1 0 l.length cl)] [] [(0, .arr false 3 .int ff 0), (1, .arr false 50 .arc oo 0), (2, .arr false 3 .int l 0), (3, .arr false 3 .int l 0)] 4
          (fun v s => ∃ m, (wordE l = 0 → MinOf (CW F F.start l) m) ∧ (wordE l ≠ 0 → m = 0) ∧ v = .tup [.c (.i m), .c (.i (wordE l))] ∧ s = ⟨[], [], 4⟩) :=
        (score_l (lsT n ff oo (ff.length + sp) (oo.length + sq)) l cl cl (show ff.length ≤ _ by omega) g1 g2).to fun v s ⟨m, h1, h2, h3, h4⟩ => ⟨m, fun hw => (g3 l m).1 (h1 hw), h2, h3, h4⟩
      refine callSub 4 0 l.length rfl (by omega) (args' := [fV F, .c (.sl 4 1 0 l.length cl), .c (.sl 11 1 0 l.length cl)]) (fun β => by simp [SV.den, SA.den, SC.den, Env.add, adr_zero, Option.map_map, Function.comp_def]) ?_
      (conv => whnf)
      rw [sub_all]
      refine cF (cSF) [0, 1, 4, 11] Tryd.call20 ?_
      rintro _ _ ⟨k1, hk1, hk1', rfl, rfl⟩
      try simp only [Nat.reduceAdd, Nat.reduceSub]
      repeat' (first | exact rfl | ((conv => whnf); first | (refine qX (fun h => ?_) fun h => ?_ <;> try exact absurd h (by omega)) | refine oN ?_ | refine oM ?_ ?_ | refine bM ?_ ?_ | refine dR ?_ | intro _))
      (conv => whnf)
      try simp only [Nat.reduceAdd, Nat.reduceSub]
      refine callSub 4 0 l.length rfl (by omega) (args' := [.a (.agg [.i (n : Nat), .i 0, .sl 8 1 0 ff.length (ff.length + sp), .sl 9 5 0 oo.length (oo.length + sq)]), .c (.sl 4 1 0 l.length cl), .c (.sl 12 1 0 l.length cl)]) (fun β => by simp [SV.den, SA.den, SC.den, Env.add, adr_zero, Option.map_map, Function.comp_def]) ?_
      (conv => whnf)
      rw [sub_all]
      refine cF (cX) [8, 9, 4, 12] Tryd.call20 ?_
      rintro _ _ ⟨k2, hk2, hk2', rfl, rfl⟩
      have hkk : k1 = k2 := by
        by_cases hw : wordE l = 0
        · exact (hk1 hw).eq (hk2 hw) fun c => Iff.rfl
        · rw [hk1' hw, hk2' hw]
      subst hkk
      clear hk1' hk2' hk2 g3 g4 cSF cX
      have cLx : Ct Tryd.prog 21 [.a (.agg [.i (n : Nat), .i 0, .sl 0 1 0 ff.length (ff.length + sp), .sl 1 5 0 oo.length (oo.length + sq)])] [] [(0, .arr false 3 .int ff 0), (1, .arr false 50 .arc oo 0), (2, tabO x)] 3
          (fun v s => ∃ e n' ff' oo', LAns (lsT n ff oo (ff.length + sp) (oo.length + sq)) e n' ff' oo' ∧ LOut x e n' ff' oo' v s) :=
        (Least_c (lsT n ff oo (ff.length + sp) (oo.length + sq)) (show ff.length ≤ _ by omega) x hx).to fun v s hp => hp.split
      try simp only [Nat.reduceAdd, Nat.reduceSub]
      repeat' (first | exact rfl | ((conv => whnf); first | (refine qX (fun h => ?_) fun h => ?_ <;> try exact absurd h (by omega)) | refine oN ?_ | refine oM ?_ ?_ | refine bM ?_ ?_ | refine dR ?_ | intro _))
      · (conv => whnf)
        try simp only [Nat.reduceAdd, Nat.reduceSub]
        refine cF (cLx) [8, 9, 5] Tryd.call21 ?_
        rintro v s ⟨e', n', ff', oo', hA', hO'⟩
        obtain ⟨he', hn', hf', ho'⟩ := g5 (by omega) e' n' ff' oo' hA'
        obtain rfl := hn'.symm
        obtain rfl := hf'.symm
        obtain rfl := ho'.symm
        subst he'
        rcases hO' with ⟨h, _⟩ | ⟨_, sp', sq', rfl, rfl⟩
        · exact absurd rfl h
        have cI := sameFst_c ⟨(n : Nat), 0, ff, oo, ff.length + sp, oo.length + sq⟩ ⟨(n : Nat), 0, ff, oo, ff.length + sp', oo.length + sq'⟩ (show ff.length ≤ _ by omega) (show ff.length ≤ _ by omega) hlen.2.2
        rw [show sameF ⟨(n : Nat), 0, ff, oo, ff.length + sp, oo.length + sq⟩ ⟨(n : Nat), 0, ff, oo, ff.length + sp', oo.length + sq'⟩ = true by simp [sameF]] at cI
        repeat' (first | exact rfl | ((conv => whnf); first | (refine qX (fun h => ?_) fun h => ?_ <;> try exact absurd h (by omega)) | refine oN ?_ | refine oM ?_ ?_ | refine bM ?_ ?_ | refine dR ?_ | intro _))
        (conv => whnf)
        try simp only [Nat.reduceAdd, Nat.reduceSub]
        refine callF (cI) [8, 9, 13, 14] Tryd.call28 rfl (by simp [gV]) (by simp [gV]) (by simp) ?_
        rintro _ _ ⟨rfl, rfl⟩
        repeat' (first | exact rfl | ((conv => whnf); first | (refine qX (fun h => ?_) fun h => ?_ <;> try exact absurd h (by omega)) | refine oN ?_ | refine oM ?_ ?_ | refine bM ?_ ?_ | refine dR ?_ | intro _))
        (conv => whnf)
        refine ⟨⟨n, ff, oo, sp, sq, k1⟩, [], ⟨by rfl, ?_, ?_⟩, hA, hk1⟩
        · simp
        · simp [fCells]
      · (conv => whnf)
        refine ⟨⟨n, ff, oo, sp, sq, k1⟩, [], ⟨by rfl, ?_, ?_⟩, hA, hk1⟩
        · simp
        · simp [fCells]
  · rintro ⟨n, ff, oo, sp, sq, k⟩ ⟨hA, hk⟩
    simp only at hA hk ⊢
    have h0 := hA.ok
    obtain ⟨hF, hf, h12⟩ := leastE_ok h0
    have hfst : fstE F = 0 := Classical.byContradiction fun h => by
      have hd : leastE F = fstE F := by unfold leastE; rw [if_pos h]
      omega
    have hdet : detE F = 0 := by unfold detE; rw [if_neg (fun c => c hfst), if_pos hf]
    obtain ⟨_, _, _, g4, _⟩ := least_again hA 0 0
    refine SemC.cut Tryd.tyOk 17 [] (fun _ : Unit => ⟨[(2, .c (.sl 4 1 0 l.length cl)), (3, .c (.ptr 6 0)), (4, .c (.ptr 7 0)), (9, .i k)], hpA2 F G l x n ff oo sp sq, 11⟩) (fun _ => True) 2 _ _ ?_ ?_
    · repeat' (first | exact rfl | ((conv => whnf); first | (refine qX (fun h => ?_) fun h => ?_ <;> try exact absurd h (by omega)) | refine oN ?_ | refine oM ?_ ?_ | refine bM ?_ ?_ | refine dR ?_))
      (conv => whnf)
      refine cF (determine_c F hl x hx) [0, 1, 5] Tryd.call15 ?_
      rintro v s (⟨h, _⟩ | ⟨_, U, hU, ⟨_, rfl, rfl⟩ | ⟨_, st, hst, _, sp1, sq1, rfl, rfl⟩⟩)
      · exact absurd hdet h
      · repeat' (first | exact rfl | ((conv => whnf); first | (refine qX (fun h => ?_) fun h => ?_ <;> try exact absurd h (by omega)) | refine oN ?_ | refine oM ?_ ?_ | refine bM ?_ ?_ | refine dR ?_ | intro _))
        all_goals try (exfalso; omega)
        (conv => whnf)
        refine ⟨(), [], ⟨by rfl, ?_, ?_⟩, trivial⟩
        · simp
        · simp [fCells]
      · have hle := g4 U st hU hst
        generalize st.1.map (finD U) = fd at *
        generalize st.2 = rd at *
        repeat' (first | exact rfl | ((conv => whnf); first | (refine qX (fun h => ?_) fun h => ?_ <;> try exact absurd h (by omega)) | refine oN ?_ | refine oM ?_ ?_ | refine bM ?_ ?_ | refine dR ?_ | intro _))
        all_goals try (exfalso; omega)
        (conv => whnf)
        refine ⟨(), [], ⟨by rfl, ?_, ?_⟩, trivial⟩
        · simp
        · simp [fCells]
    · rintro _ -
      refine SemC.of Tryd.tyOk 17 [] ?_
      repeat' (first | exact rfl | ((conv => whnf); first | (refine qX (fun h => ?_) fun h => ?_ <;> try exact absurd h (by omega)) | refine oN ?_ | refine oM ?_ ?_ | refine bM ?_ ?_ | refine dR ?_))
      (conv => whnf)
      refine callF (Same_c F G hl hl' x hx) [0, 1, 2, 3, 5] Tryd.call26 rfl (by simp [gV]) (by simp [gV]) (by simp) ?_
      rintro v s hp
      obtain ⟨ok, e2, rfl, rfl, hsm⟩ := hp.short
      clear hp
      have hscG := score_a G l l cl cl hl'
      repeat' (first | exact rfl | ((conv => whnf); first | (refine qX (fun h => ?_) fun h => ?_ <;> try exact absurd h (by omega)) | refine oN ?_ | refine oM ?_ ?_ | refine bM ?_ ?_ | refine dR ?_ | intro _))
      (conv => whnf)
      try simp only [Nat.reduceAdd, Nat.reduceSub]
      refine callSub 4 0 l.length rfl (by omega) (args' := [gV2 G, .c (.sl 4 1 0 l.length cl), .c (.sl 11 1 0 l.length cl)]) (fun β => by simp [gV2, SV.den, SA.den, SC.den, Env.add, adr_zero, Option.map_map, Function.comp_def]) ?_
      (conv => whnf)
      rw [sub_all]
      refine callF (hscG) [2, 3, 4, 11] Tryd.call20 rfl (by simp [gV2]) (by simp [gV2]) (by simp) ?_
      rintro _ _ ⟨k2, hk2, rfl, rfl⟩
      have hkk : e2 = 0 → scoreE G l l = 0 → ok = true → k2 = k := fun q1 q2 q3 => by
        obtain ⟨n', ff', oo', b1, b2⟩ := hsm q1 q3
        obtain ⟨hG, hfG, _⟩ := leastE_ok b2.ok
        have hfstG : fstE G = 0 := Classical.byContradiction fun h => by
          have hd : leastE G = fstE G := by unfold leastE; rw [if_pos h]
          have := b2.ok
          omega
        have hw : wordE l = 0 := by rw [← scoreE_word hfstG]; exact q2
        have hm : MinOf (CW G G.start l) k2 := (hk2.1 q2).1.cong fun c => (cw_wt (fineB_iff.1 hfG).1).symm
        exact (same_cost b1 b2 (hk hw) hm).symm
      clear hk2 hsm hscG hA hk g4
      generalize scoreE G l l = h2 at *
      try simp only [Nat.reduceAdd, Nat.reduceSub]
      repeat' (first | exact rfl | ((conv => whnf); first | (refine qX (fun h => ?_) fun h => ?_ <;> try exact absurd h (by omega)) | refine oN ?_ | refine oM ?_ ?_ | refine bM ?_ ?_ | refine dR ?_ | intro _))
      · (conv => whnf)
        exact ⟨[], [(5, tabO x)], 6, .b true, ⟨by rfl, trivial, by simp⟩, by simp, hfin⟩
      · (conv => whnf)
        exact ⟨[], [(5, tabO x)], 6, .b true, ⟨by rfl, trivial, by simp⟩, by simp, hfin⟩
      · (conv => whnf)
        exact ⟨[], [(5, tabO x)], 6, .b true, ⟨by rfl, trivial, by simp⟩, by simp, hfin⟩
      · have hkz := hkk (by assumption) (by assumption) (by simpa using h)
        (conv => whnf)
        exact ⟨[], [(5, tabO x)], 6, .b true, ⟨by rfl, trivial, by simp⟩, by simp [hkz], hfin⟩
end Go.Fw
