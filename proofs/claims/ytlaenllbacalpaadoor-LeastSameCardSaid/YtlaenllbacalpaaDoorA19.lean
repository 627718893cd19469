/-
  States by classes and states by beginnings: both numberings run alike.
-/
import Derived.Test.YtlaenllbacalpaaDoorA18
import Derived.Test.YtlaenllbacalpaaDoorA15
import Derived.Test.YtlaenllbacalpaaDoorA16
import Derived.Test.YtlaenllbacalpaaDoorA08
import Derived.Test.YtlaenllbacalpaaDoorA09

set_option linter.unusedSimpArgs false
set_option linter.unusedVariables false

namespace Go.Fw
section
variable (U : TF) (W vs : List (List Int))
def lrBase (n j : Nat) : Int := if n = 0 then 0 else bstW U W vs W.length j
def lrStep (n j : Nat) (st : List Nat × List Arc) (c : Nat) : List Nat × List Arc :=
  if 0 ≤ onI W j ((c : Int) + 1) then
    (lsF U W vs st.1 (onI W j ((c : Int) + 1)).toNat, st.2 ++ [⟨(n : Nat), (c : Int) + 1, (c : Int) + 1, (lsN U W vs st.1 (onI W j ((c : Int) + 1)).toNat : Nat), bstW U W vs W.length (onI W j ((c : Int) + 1)).toNat - lrBase U W vs n j⟩])
  else st
def lrL (n j : Nat) (st : List Nat × List Arc) : Nat → List Nat × List Arc
  | 0 => st
  | k + 1 => lrStep U W vs n j (lrL n j st k) k
def lrRows : Nat → List Nat × List Arc
  | 0 => ([0], [])
  | n + 1 => lrL U W vs n ((lrRows n).1.getD n 0) (lrRows n) 9
def lrE (n j : Nat) : Int := if 0 ≤ endW U vs j then endW U vs j - lrBase U W vs n j else endW U vs j
def lrF (first : List Nat) (n : Nat) : List Int := (List.range n).map fun k => lrE U W vs k (first.getD k 0)
end
section
variable {U : TF} {W vs : List (List Int)}
theorem alk_refl : ∀ (f i : Nat) (x : Int), alkW U W vs f i i x x = true
  | 0, _, _ => rfl
  | f + 1, i, x => by
    have hdef : alkW U W vs (f + 1) i i x x = (alE (endW U vs i) (endW U vs i) x x && (List.range 9).all (alkS U W vs f i i x x)) := rfl
    rw [hdef, Bool.and_eq_true, List.all_eq_true]
    refine ⟨by simp [alE], fun c _ => ?_⟩
    unfold alkS
    rw [if_neg (by simp)]
    split
    · exact alk_refl f _ x
    · rfl
theorem lsF_app (first : List Nat) (i : Nat) : ∃ M, lsF U W vs first i = first ++ M := by
  unfold lsF
  split
  · exact ⟨[], by simp⟩
  · exact ⟨[i], rfl⟩
structure LrI (W : List (List Int)) (first : List Nat) : Prop where
  rng : ∀ j ∈ first, j < W.length
  nd : first.Nodup
  pos : 1 ≤ first.length
theorem LrI.le {first : List Nat} (h : LrI W first) : first.length ≤ W.length := by
  have := nd_le h.nd (m := List.range W.length) fun j hj => List.mem_range.2 (h.rng j hj)
  simpa using this
theorem LrI.step {first : List Nat} (h : LrI W first) {i : Nat} (hi : i < W.length) : LrI W (lsF U W vs first i) := by
  unfold lsF
  split
  · exact h
  · rename_i hn
    have hni : i ∉ first := fun hc => hn (by
      unfold lsN
      exact List.findIdx_lt_length_of_exists ⟨i, hc, alk_refl _ _ _⟩)
    refine ⟨fun j hj => ?_, ?_, by simp⟩
    · rcases List.mem_append.1 hj with hj | hj
      · exact h.rng j hj
      · rw [List.mem_singleton] at hj; rw [hj]; exact hi
    · refine List.nodup_append.2 ⟨h.nd, by simp, fun a ha b hb => ?_⟩
      rw [List.mem_singleton] at hb
      rw [hb]
      exact fun e => hni (e ▸ ha)
theorem lrL_app (n j : Nat) (st : List Nat × List Arc) : ∀ k, (∃ M, (lrL U W vs n j st k).1 = st.1 ++ M) ∧ (lrL U W vs n j st k).2.length ≤ st.2.length + k
  | 0 => ⟨⟨[], by simp [lrL]⟩, Nat.le_refl _⟩
  | k + 1 => by
    obtain ⟨⟨M, hM⟩, hl⟩ := lrL_app n j st k
    show (∃ M, (lrStep U W vs n j (lrL U W vs n j st k) k).1 = st.1 ++ M) ∧ (lrStep U W vs n j (lrL U W vs n j st k) k).2.length ≤ _
    unfold lrStep
    split
    · obtain ⟨N, hN⟩ := lsF_app (U := U) (W := W) (vs := vs) (lrL U W vs n j st k).1 (onI W j ((k : Int) + 1)).toNat
      exact ⟨⟨M ++ N, by simp only; rw [hN, hM, List.append_assoc]⟩, by simp only [List.length_append, List.length_singleton]; omega⟩
    · exact ⟨⟨M, hM⟩, by omega⟩
end
theorem findIdx_idxOf {p : Nat → Bool} {t : Int} : ∀ {f : List Nat} {L : List Int}, f.length = L.length → (∀ j, j < L.length → (p (f.getD j 0) = true ↔ L.getD j 0 = t)) → f.findIdx p = L.idxOf t
  | [], [], _, _ => rfl
  | [], _ :: _, h, _ => by cases h
  | _ :: _, [], h, _ => by cases h
  | x :: f, y :: L, h, hj => by
    have h0 := hj 0 (by simp)
    simp only [List.getD_cons_zero] at h0
    have ih := findIdx_idxOf (p := p) (t := t) (f := f) (L := L) (by simpa using h) fun j hjl => by
      have := hj (j + 1) (by simp only [List.length_cons]; omega)
      simpa only [List.getD_cons_succ] using this
    rw [List.findIdx_cons, List.idxOf_cons, ih]
    by_cases e : y = t
    · rw [h0.2 e, e]; simp
    · have hp : p x = false := by
        cases hp : p x with
        | false => rfl
        | true => exact absurd (h0.1 hp) e
      rw [hp, show (y == t) = false by simpa using e]
def mgG (cls : List Int) (i : Nat) (st : List Int × List Arc) (a : Arc) : List Int × List Arc := (mgL cls st.1 a.t, st.2 ++ [⟨(i : Nat), a.i, a.o, mgN cls st.1 a.t, a.w⟩])
theorem mgP_fold (D : TF) (cls : List Int) (i : Nat) (s : Int) (st : List Int × List Arc) : ∀ k, k ≤ D.arcs.length → mgP D cls i s st k = ((D.arcs.take k).filter fun a => decide (a.f = s)).foldl (mgG cls i) st
  | 0, _ => by simp [mgP]
  | k + 1, hk => by
    show mgStep cls i s (mgP D cls i s st k) (D.arcs.getD k aD) = _
    have e : D.arcs.take (k + 1) = D.arcs.take k ++ [D.arcs.getD k aD] := by
      rw [List.take_add_one]
      simp [List.getD, show k < D.arcs.length by omega]
    rw [e, List.filter_append, List.foldl_append, ← mgP_fold D cls i s st k (by omega)]
    unfold mgStep
    by_cases h : (D.arcs.getD k aD).f = s
    · rw [if_pos h, List.filter_cons_of_pos (by simpa using h)]
      rfl
    · rw [if_neg h, List.filter_cons_of_neg (by simpa using h)]
      rfl
theorem arc_ext : ∀ {l m : List Arc}, l.Pairwise (fun x y => x.i < y.i) → m.Pairwise (fun x y => x.i < y.i) → (∀ x, x ∈ l ↔ x ∈ m) → l = m
  | [], [], _, _, _ => rfl
  | [], y :: m, _, _, h => by have := (h y).2 (by simp); cases this
  | x :: l, [], _, _, h => by have := (h x).1 (by simp); cases this
  | x :: l, y :: m, hl, hm, h => by
    rw [List.pairwise_cons] at hl hm
    have e : x = y := by
      have h1 := (h x).1 (by simp)
      have h2 := (h y).2 (by simp)
      rcases List.mem_cons.1 h1 with h1 | h1
      · exact h1
      · rcases List.mem_cons.1 h2 with h2 | h2
        · exact h2.symm
        · have := hm.1 x h1
          have := hl.1 y h2
          omega
    subst e
    rw [arc_ext hl.2 hm.2 fun z => ?_]
    have hz := h z
    rw [List.mem_cons, List.mem_cons] at hz
    constructor
    · intro hzl
      rcases hz.1 (.inr hzl) with e | g
      · subst e; have := hl.1 z hzl; omega
      · exact g
    · intro hzm
      rcases hz.2 (.inr hzm) with e | g
      · subst e; have := hm.1 z hzm; omega
      · exact g
def outR (X : TF) (s : Int) (k : Nat) : List Arc := X.arcs.filter fun a => decide (a.f = s) && decide (a.i ≤ (k : Int))
theorem mem_outR {X : TF} {s : Int} {k : Nat} {a : Arc} : a ∈ outR X s k ↔ a ∈ X.arcs ∧ a.f = s ∧ a.i ≤ k := by
  unfold outR
  rw [List.mem_filter, Bool.and_eq_true, decide_eq_true_eq, decide_eq_true_eq]
theorem outR_srt {X : TF} (hd : DetD X) (s : Int) (k : Nat) : (outR X s k).Pairwise fun x y => x.i < y.i := by
  have h1 : (outR X s k).Pairwise fun a b => aheadB a b = true := List.Pairwise.sublist List.filter_sublist hd.srt
  refine List.Pairwise.imp_of_mem (fun {a b} ha hb hab => ?_) h1
  obtain ⟨ha1, ha2, _⟩ := mem_outR.1 ha
  obtain ⟨hb1, hb2, _⟩ := mem_outR.1 hb
  rw [aheadB_iff] at hab
  by_cases hi : a.i = b.i
  · have := hd.one a ha1 b hb1 (ha2.trans hb2.symm) hi
    rw [this] at hab
    omega
  · omega
theorem outR_yes {X : TF} (hd : DetD X) {s : Int} {k : Nat} {a : Arc} (ha : a ∈ X.arcs) (h1 : a.f = s) (h2 : a.i = (k : Int) + 1) : outR X s (k + 1) = outR X s k ++ [a] := by
  refine arc_ext (outR_srt hd s (k + 1)) ?_ fun x => ?_
  · refine List.pairwise_append.2 ⟨outR_srt hd s k, List.pairwise_singleton _ _, fun x hx y hy => ?_⟩
    rw [List.mem_singleton] at hy
    subst hy
    have := (mem_outR.1 hx).2.2
    omega
  · rw [List.mem_append, List.mem_singleton, mem_outR, mem_outR]
    constructor
    · rintro ⟨g1, g2, g3⟩
      by_cases e : x.i = (k : Int) + 1
      · exact .inr (hd.one x g1 a ha (g2.trans h1.symm) (e.trans h2.symm))
      · exact .inl ⟨g1, g2, by omega⟩
    · rintro (⟨g1, g2, g3⟩ | rfl)
      · exact ⟨g1, g2, by omega⟩
      · exact ⟨ha, h1, by omega⟩
theorem outR_no {X : TF} {s : Int} {k : Nat} (h : ∀ a ∈ X.arcs, a.f = s → a.i ≠ (k : Int) + 1) : outR X s (k + 1) = outR X s k := by
  unfold outR
  refine List.filter_congr fun a ha => ?_
  by_cases e : a.f = s
  · have := h a ha e
    rw [decide_eq_true e, Bool.true_and, Bool.true_and]
    exact decide_eq_decide.2 ⟨fun g => by omega, fun g => by omega⟩
  · rw [decide_eq_false e]; rfl
theorem outR_none {X : TF} {s : Int} (h : ∀ a ∈ X.arcs, 1 ≤ a.i) : outR X s 0 = [] := by
  unfold outR
  rw [List.filter_eq_nil_iff]
  intro a ha
  have := h a ha
  rw [Bool.and_eq_true, decide_eq_true_eq, decide_eq_true_eq]
  rintro ⟨_, g⟩
  omega
theorem outR_all {X : TF} {s : Int} (h : ∀ a ∈ X.arcs, a.i ≤ 9) : outR X s 9 = X.arcs.filter fun a => decide (a.f = s) := by
  unfold outR
  refine List.filter_congr fun a ha => ?_
  rw [decide_eq_true (show a.i ≤ ((9 : Nat) : Int) from h a ha), Bool.and_true]
section
variable {F U : TF} {st : DS} (h : DetH F U st) (h12 : F.st ≤ 12) (hn : ∃ w c, CW U U.start w c) {W vs : List (List Int)} {par sym : List Int} (hw : WSt U W vs par sym W.length 1)
structure Run (U : TF) (st : DS) (W : List (List Int)) (a : List Nat × List Arc) (b : List Int × List Arc) : Prop where
  len : a.1.length = b.1.length
  f0 : a.1.getD 0 0 = 0
  pos : 1 ≤ b.1.length
  on : ∀ j, j < b.1.length → a.1.getD j 0 < W.length ∧ ∃ (q : Nat) (d : Int), q < st.1.length ∧ b.1.getD j 0 = q ∧ RdW st.2 0 (W.getD (a.1.getD j 0) []) q d
  out : a.2 = b.2.map (adA (dsD U st 0))
include h hw in
theorem Run.start (cls : List Int) (c1 c2 : Nat) : Run U st W (lrRows U W vs 0) (mgRows (phT (mkD U st 0 0) c1 c2) cls 0) := by
  refine ⟨rfl, rfl, Nat.le_refl _, fun j hj => ?_, rfl⟩
  have hj : j < 1 := hj
  have : j = 0 := by omega
  subst this
  refine ⟨hw.pos, 0, 0, h.ri.len, rfl, ?_⟩
  show RdW st.2 0 (W.getD 0 []) _ 0
  rw [hw.w0]
  exact .nil _
include h h12 hn hw
variable {c1 c2 : Nat} {cls : List Int} (hc : ClsOk (phT (mkD U st 0 0) c1 c2) cls)
include hc
theorem Run.num {a : List Nat × List Arc} {b : List Int × List Arc} (hr : Run U st W a b) {o : Nat} (ho : o < W.length) {r : Nat} {e : Int} (hr1 : r < st.1.length) (hr2 : RdW st.2 0 (W.getD o []) r e) :
    lsN U W vs a.1 o = (b.1.map (clA cls)).idxOf (clA cls r) := by
  unfold lsN
  refine findIdx_idxOf (by rw [List.length_map]; exact hr.len) fun j hj => ?_
  rw [List.length_map] at hj
  obtain ⟨k1, q, d, k2, k3, k4⟩ := hr.on j hj
  rw [lsA_iff h h12 hn hw hc k1 ho k2 hr1 k4 hr2]
  have e1 : (b.1.map (clA cls)).getD j 0 = clA cls (b.1.getD j 0) := by simp [List.getD, hj]
  rw [e1, k3]
  unfold clA
  rw [Int.toNat_natCast, Int.toNat_natCast]
theorem Run.step {n j q : Nat} {d : Int} (hj : j < W.length) (hq : q < st.1.length) (hjq : RdW st.2 0 (W.getD j []) q d) (h0 : n = 0 → j = 0) {a : List Nat × List Arc} {b : List Int × List Arc} (hr : Run U st W a b) {k : Nat} (hk : k < 9) :
    (0 ≤ onI W j ((k : Int) + 1) ∧ ∃ x ∈ (phT (mkD U st 0 0) c1 c2).arcs, x.f = q ∧ x.i = (k : Int) + 1 ∧ Run U st W (lrStep U W vs n j a k) (mgG cls n b x)) ∨
    (¬ 0 ≤ onI W j ((k : Int) + 1) ∧ (∀ x ∈ (phT (mkD U st 0 0) c1 c2).arcs, x.f = q → x.i ≠ (k : Int) + 1) ∧ Run U st W (lrStep U W vs n j a k) b) := by
  have hB := (h.fokB h12 0 0).1
  by_cases ho : 0 ≤ onI W j ((k : Int) + 1)
  · left
    refine ⟨ho, ?_⟩
    obtain ⟨x, hx, g1, g2, g3, g4, g5, g6⟩ := on_yes h hw hj hjq ho
    have hrx := (h.rngD 0 0 x hx).2.1
    have hrx : 0 ≤ x.t ∧ x.t < ((st.1.length : Nat) : Int) := hrx
    have et : ((x.t.toNat : Nat) : Int) = x.t := by omega
    have d1 := dsD_is h h12 hn hq
    have d2 := dsD_is h h12 hn (q := x.t.toNat) (by omega)
    have d0 := dsD_is h h12 hn (q := 0) (by have := h.ri.len; omega)
    have eq' : x.f.toNat = q := by omega
    have hnum := hr.num h h12 hn hw hc g4.2 (r := x.t.toNat) (by omega) (by rw [et]; exact g6)
    rw [et] at hnum
    have hb1 := bst_is h h12 hn hw hj hq hjq
    have hb2 := bst_is h h12 hn hw g4.2 (q := x.t.toNat) (by omega) (by rw [et]; exact g6)
    have hp : (⟨x.f, x.i, x.o, x.t, x.w + (dsD U st x.t.toNat - dsD U st q)⟩ : Arc) ∈ (phT (mkD U st 0 0) c1 c2).arcs := by
      show _ ∈ pushL _ _
      refine pushL_mem.2 ⟨x, hx, ?_, ?_, ?_⟩
      · rw [eq']; have := d1.2.1; unfold dsD at this; omega
      · have := d2.2.1; unfold dsD at this; omega
      · rw [eq']; rfl
    refine ⟨_, hp, g1, g2, ?_⟩
    unfold lrStep mgG
    rw [if_pos ho]
    have hxw : (adA (dsD U st 0) ⟨(n : Nat), x.i, x.o, mgN cls b.1 x.t, x.w + (dsD U st x.t.toNat - dsD U st q)⟩) = ⟨(n : Nat), (k : Int) + 1, (k : Int) + 1, mgN cls b.1 x.t, bstW U W vs W.length (onI W j ((k : Int) + 1)).toNat - lrBase U W vs n j⟩ := by
      unfold adA lrBase
      rw [hb2]
      by_cases en : n = 0
      · have ej := h0 en
        subst en ej
        rw [hw.w0] at hjq
        obtain ⟨e1, e2⟩ := hjq.none rfl
        have e3 : q = 0 := by omega
        subst e2 e3
        rw [if_pos rfl, if_pos (by rfl)]
        simp only [Arc.mk.injEq]
        exact ⟨trivial, g2, g3, trivial, by omega⟩
      · rw [if_neg en, if_neg (by simp only; omega), hb1]
        simp only [Arc.mk.injEq]
        exact ⟨trivial, g2, g3, trivial, by omega⟩
    have hnew : Run U st W (a.1 ++ [(onI W j ((k : Int) + 1)).toNat], a.2) (b.1 ++ [x.t], b.2) := by
      have hlen := hr.len
      have hpos := hr.pos
      refine ⟨by simp only [List.length_append, List.length_singleton]; omega, ?_, by simp only [List.length_append, List.length_singleton]; omega, fun i hi => ?_, hr.out⟩
      · show (a.1 ++ _).getD 0 0 = 0
        rw [snoc_getD, if_neg (by omega)]; exact hr.f0
      · simp only [List.length_append, List.length_singleton] at hi ⊢
        rw [snoc_getD, snoc_getD, hlen]
        by_cases e : i = b.1.length
        · rw [if_pos e, if_pos e]
          exact ⟨g4.2, x.t.toNat, _, by omega, et.symm, by rw [et]; exact g6⟩
        · rw [if_neg e, if_neg e]
          exact hr.on i (by omega)
    have hmg : (mgN cls b.1 x.t : Int) = (lsN U W vs a.1 (onI W j ((k : Int) + 1)).toNat : Nat) ∧ Run U st W (lsF U W vs a.1 (onI W j ((k : Int) + 1)).toNat, a.2) (mgL cls b.1 x.t, b.2) := by
      rw [hnum]
      unfold mgN mgL lsF
      rw [hnum]
      have hlen := hr.len
      have hll : (b.1.map (clA cls)).length = b.1.length := List.length_map _
      by_cases hm : clA cls x.t ∈ b.1.map (clA cls)
      · have := List.idxOf_lt_length_of_mem hm
        rw [if_pos hm, if_pos (by omega)]
        exact ⟨rfl, hr⟩
      · have hio : (b.1.map (clA cls)).idxOf (clA cls x.t) = b.1.length := by rw [List.idxOf_eq_length hm, hll]
        rw [if_neg hm, if_neg (by omega), List.map_append, hio]
        have e9 : (b.1.map (clA cls) ++ [x.t].map (clA cls)).idxOf (clA cls x.t) = b.1.length := by
          show (b.1.map (clA cls) ++ [clA cls x.t]).idxOf (clA cls x.t) = _
          rw [idxOf_out hm, hll]
          simp
        exact ⟨by rw [e9], hnew⟩
    obtain ⟨hm1, hm2⟩ := hmg
    refine ⟨hm2.len, hm2.f0, hm2.pos, hm2.on, ?_⟩
    show a.2 ++ _ = (b.2 ++ _).map _
    rw [List.map_append, ← hr.out, List.map_singleton, hxw, hm1]
  · right
    refine ⟨ho, fun x hx e1 e2 => ho ?_, ?_⟩
    · obtain ⟨y, hy, _, _, rfl⟩ := pushL_mem.1 hx
      exact on_no h hw hj hjq hy e1 e2
    · unfold lrStep
      rw [if_neg ho]
      exact hr
theorem Run.row {n j q : Nat} {d : Int} (hj : j < W.length) (hq : q < st.1.length) (hjq : RdW st.2 0 (W.getD j []) q d) (h0 : n = 0 → j = 0) {a : List Nat × List Arc} {b : List Int × List Arc} (hr : Run U st W a b) :
    ∀ k, k ≤ 9 → Run U st W (lrL U W vs n j a k) ((outR (phT (mkD U st 0 0) c1 c2) q k).foldl (mgG cls n) b)
  | 0, _ => by
    rw [outR_none fun x hx => by
      obtain ⟨y, hy, _, _, rfl⟩ := pushL_mem.1 hx
      exact (h.rngD 0 0 y hy).2.2.1.1]
    exact hr
  | k + 1, hk => by
    have ih := Run.row hj hq hjq h0 hr k (by omega)
    show Run U st W (lrStep U W vs n j (lrL U W vs n j a k) k) _
    rcases ih.step h h12 hn hw hc hj hq hjq h0 (k := k) (by omega) with ⟨_, x, hx, e1, e2, g⟩ | ⟨_, hno, g⟩
    · rw [outR_yes (ph_det (h.detD 0 0)) hx e1 e2, List.foldl_append]
      exact g
    · rw [outR_no hno]
      exact g
theorem Run.rows : ∀ n, (∀ j, j < n → j < (mgRows (phT (mkD U st 0 0) c1 c2) cls j).1.length) → Run U st W (lrRows U W vs n) (mgRows (phT (mkD U st 0 0) c1 c2) cls n)
  | 0, _ => Run.start h hw cls c1 c2
  | n + 1, hl => by
    have ih := Run.rows n fun j hj => hl j (by omega)
    obtain ⟨hj, q, d, hq, hb, hr⟩ := ih.on n (hl n (by omega))
    show Run U st W (lrL U W vs n ((lrRows U W vs n).1.getD n 0) (lrRows U W vs n) 9) (mgP (phT (mkD U st 0 0) c1 c2) cls n ((mgRows (phT (mkD U st 0 0) c1 c2) cls n).1.getD n 0) (mgRows (phT (mkD U st 0 0) c1 c2) cls n) (phT (mkD U st 0 0) c1 c2).arcs.length)
    rw [mgP_fold _ _ _ _ _ _ (Nat.le_refl _), List.take_length, hb, ← outR_all fun x hx => by
      obtain ⟨y, hy, _, _, rfl⟩ := pushL_mem.1 hx
      exact (h.rngD 0 0 y hy).2.2.1.2]
    refine Run.row h h12 hn hw hc hj hq hr (fun e => ?_) ih 9 (Nat.le_refl _)
    rw [e]
    exact (Run.start h hw cls c1 c2).f0
theorem rows_same {left : List Int} {outs : List Arc} (h1 : mgRows (phT (mkD U st 0 0) c1 c2) cls left.length = (left, outs)) (h2 : ∀ j, j < left.length → j < (mgRows (phT (mkD U st 0 0) c1 c2) cls j).1.length)
    {first : List Nat} {rout : List Arc} (h3 : lrRows U W vs first.length = (first, rout)) (h4 : ∀ j, j < first.length → j < (lrRows U W vs j).1.length) :
    first.length = left.length ∧ rout = outs.map (adA (dsD U st 0)) ∧ lrF U W vs first first.length = adF (dsD U st 0) (left.map (fiA (phT (mkD U st 0 0) c1 c2))) := by
  have hB := (h.fokB h12 0 0).1
  have hlen : first.length = left.length := by
    rcases Nat.lt_trichotomy first.length left.length with g | g | g
    · exfalso
      have hr := Run.rows h h12 hn hw hc first.length fun j hj => h2 j (by omega)
      have e := hr.len
      rw [h3] at e
      have := h2 _ g
      simp only at e
      omega
    · exact g
    · exfalso
      have hr := Run.rows h h12 hn hw hc left.length h2
      have e := hr.len
      rw [h1] at e
      have := h4 _ g
      simp only at e
      omega
  have hr := Run.rows h h12 hn hw hc left.length h2
  rw [h1, ← hlen, h3] at hr
  refine ⟨hlen, hr.out, ?_⟩
  have hfl : ∀ q : Nat, -1 ≤ (mkD U st 0 0).fin.getD q 0 := fun q => by
    by_cases hj : q < (mkD U st 0 0).fin.length
    · exact (hB.fin _ (getD_mem _ q 0 hj)).1
    · simp only [List.getD, List.getElem?_eq_none (show (mkD U st 0 0).fin.length ≤ q by omega), Option.getD_none]; omega
  have key : ∀ n (hn2 : n < left.length), lrE U W vs n (first.getD n 0) = if (n = 0 ∧ fiA (phT (mkD U st 0 0) c1 c2) (left.getD 0 0) ≠ -1) then fiA (phT (mkD U st 0 0) c1 c2) (left.getD 0 0) + dsD U st 0 else fiA (phT (mkD U st 0 0) c1 c2) (left.getD n 0) := fun n hn2 => by
    obtain ⟨hj, q, d, hq, hb, hrd⟩ := hr.on n hn2
    simp only at hj hb hrd
    have he := end_is h hw hj hq hrd
    have hf := ph_fin hB (c1 := c1) (c2 := c2) (q := q) (by show q < ((st.1.length : Nat) : Int).toNat; omega)
    have d1 := dsD_is h h12 hn hq
    have hd0 := (h.ri.sub h.hU hrd).r0
    have hbst := bst_is h h12 hn hw hj hq hrd
    have hfi : fiA (phT (mkD U st 0 0) c1 c2) (left.getD n 0) = if (mkD U st 0 0).fin.getD q 0 ≠ -1 then (mkD U st 0 0).fin.getD q 0 - dsD U st q else -1 := by
      unfold fiA
      rw [hb, Int.toNat_natCast, hf]
      rfl
    have hle : (mkD U st 0 0).fin.getD q 0 ≠ -1 → dsD U st q ≤ (mkD U st 0 0).fin.getD q 0 := fun e => (d1.1.le (c := (mkD U st 0 0).fin.getD q 0) ⟨[], CW.nil.2 ⟨by rw [Int.toNat_natCast]; exact e, by rw [Int.toNat_natCast]⟩⟩).2
    have hq1 := hfl q
    unfold lrE lrBase
    rw [he]
    by_cases e0 : n = 0
    · subst e0
      have hf0 := hr.f0
      simp only at hf0
      rw [hf0, hw.w0] at hrd
      obtain ⟨g1, g2⟩ := hrd.none rfl
      have g3 : q = 0 := by omega
      subst g2 g3
      rw [hfi]
      rw [if_pos (show (0 : Nat) = 0 from rfl)]
      generalize (mkD U st 0 0).fin.getD 0 0 = a0 at *
      by_cases e : a0 = -1
      · subst e
        simp
      · have := hle e
        have e5 : a0 - dsD U st 0 ≠ -1 := by omega
        simp only [e, e5, ne_eq, not_false_eq_true, and_self, if_true, if_false]
        rw [if_pos (show 0 ≤ 0 + a0 by omega)]
        omega
    · rw [hfi, hbst]
      generalize (mkD U st 0 0).fin.getD q 0 = a0 at *
      by_cases e : a0 = -1
      · subst e
        simp [e0]
      · have := hle e
        simp only [e, e0, ne_eq, not_false_eq_true, false_and, if_true, if_false]
        rw [if_pos (show 0 ≤ d + a0 by omega)]
        omega
  have hpos := hr.pos
  simp only at hpos
  apply List.ext_getElem
  · unfold lrF adF
    split <;> simp [hlen]
  · intro n g1 g2
    have gn : n < left.length := by
      have : (lrF U W vs first first.length).length = first.length := by simp [lrF]
      omega
    have e1 : (lrF U W vs first first.length)[n] = lrE U W vs n (first.getD n 0) := by simp [lrF]
    rw [e1, key n gn]
    have e3 : (left.map (fiA (phT (mkD U st 0 0) c1 c2))).getD 0 0 = fiA (phT (mkD U st 0 0) c1 c2) (left.getD 0 0) := by simp [List.getD, show 0 < left.length by omega]
    have e4 : ∀ (g : n < (left.map (fiA (phT (mkD U st 0 0) c1 c2))).length), (left.map (fiA (phT (mkD U st 0 0) c1 c2)))[n] = fiA (phT (mkD U st 0 0) c1 c2) (left.getD n 0) := fun g => by simp [List.getD, gn]
    have e2 : ∀ g, (adF (dsD U st 0) (left.map (fiA (phT (mkD U st 0 0) c1 c2))))[n]'g = if (n = 0 ∧ fiA (phT (mkD U st 0 0) c1 c2) (left.getD 0 0) ≠ -1) then fiA (phT (mkD U st 0 0) c1 c2) (left.getD 0 0) + dsD U st 0 else fiA (phT (mkD U st 0 0) c1 c2) (left.getD n 0) := by
      intro g
      have hall : adF (dsD U st 0) (left.map (fiA (phT (mkD U st 0 0) c1 c2))) = if fiA (phT (mkD U st 0 0) c1 c2) (left.getD 0 0) = -1 then left.map (fiA (phT (mkD U st 0 0) c1 c2)) else (left.map (fiA (phT (mkD U st 0 0) c1 c2))).set 0 (fiA (phT (mkD U st 0 0) c1 c2) (left.getD 0 0) + dsD U st 0) := by
        unfold adF
        rw [e3]
      by_cases e : fiA (phT (mkD U st 0 0) c1 c2) (left.getD 0 0) = -1
      · rw [if_pos e] at hall
        rw [if_neg (fun c => c.2 e)]
        simp only [hall]
        exact e4 _
      · rw [if_neg e] at hall
        simp only [hall, List.getElem_set]
        by_cases e0 : n = 0
        · rw [if_pos e0.symm, if_pos ⟨e0, e⟩]
        · rw [if_neg (fun c => e0 c.symm), if_neg (fun c => e0 c.1)]
          exact e4 _
    exact (e2 g2).symm
end
end Go.Fw

/-
  Bounds of what beginnings cost; the most of all costs; what the document's rows keep.
-/
namespace Go.Fw
section
variable {F U : TF} {st : DS} (h : DetH F U st) (h12 : F.st ≤ 12) {W vs : List (List Int)} {par sym : List Int} (hw : WSt U W vs par sym W.length 1)
include h h12
theorem DetH.cwbd {w : List Int} {c : Int} (hc : CW U U.start w c) : c ≤ 13000000000 := by
  obtain ⟨t, d, h1, h2, rfl⟩ := hc
  have := (h.short h12 h1).2
  have hfu : U.fin.getD t.toNat 0 ≤ 1000000000 := by
    by_cases hj : t.toNat < U.fin.length
    · exact (h.uok.1.fin _ (getD_mem U.fin _ 0 hj)).2
    · simp only [List.getD, List.getElem?_eq_none (show U.fin.length ≤ t.toNat by omega), Option.getD_none]; omega
  omega
include hw
theorem end_bd {j : Nat} (hj : j < W.length) : -1 ≤ endW U vs j ∧ endW U vs j ≤ 13000000000 := by
  have hm : MinOf (CW U U.start (W.getD j [])) (endW U vs j) := endW_min (fun a ha => (h.hU a ha).2.1) h.uok.2.1 h.hfin hw hj
  refine ⟨hm.low, ?_⟩
  by_cases e : endW U vs j = -1
  · omega
  · exact h.cwbd h12 (hm.is e)
theorem bst_bd {j : Nat} (hj : j < W.length) : -1 ≤ bstW U W vs W.length j ∧ bstW U W vs W.length j ≤ 13000000000 := by
  have hm := bst_min h hw W.length j hj (by omega)
  refine ⟨hm.low, ?_⟩
  by_cases e : bstW U W vs W.length j = -1
  · omega
  · obtain ⟨v, hv⟩ := hm.is e
    exact h.cwbd h12 hv
omit h12 in
theorem bst0_iff : bstW U W vs W.length 0 < 0 ↔ ¬ ∃ w c, CW U U.start w c := by
  have hm := bst_min h hw W.length 0 hw.pos (by omega)
  rw [hw.w0] at hm
  constructor
  · rintro h1 ⟨w, c, hc⟩
    have := (hm.le (c := c) ⟨w, hc⟩)
    have := hm.low
    omega
  · intro hn
    have hl := hm.low
    refine Classical.byContradiction fun hc => ?_
    obtain ⟨v, hv⟩ := hm.is (by omega)
    exact hn ⟨_, _, hv⟩
end
theorem mostW_great (F : TF) : 1000000000 < mostW F ↔ greatB F.arcs F.fin = true := by
  unfold greatB
  rw [Bool.or_eq_true, List.any_eq_true, List.any_eq_true]
  constructor
  · intro h
    refine Classical.byContradiction fun hc => ?_
    rw [not_or] at hc
    have : mostW F ≤ 1000000000 := mostL_le _ _ (mostL_le _ _ (by omega) fun x hx => by
      obtain ⟨a, ha, rfl⟩ := List.mem_map.1 hx
      refine Classical.byContradiction fun hx => hc.1 ⟨a, ha, ?_⟩
      simp only [decide_eq_true_eq]
      omega) fun x hx => by
      refine Classical.byContradiction fun hx2 => hc.2 ⟨x, hx, ?_⟩
      simp only [decide_eq_true_eq]
      omega
    omega
  · rintro (⟨a, ha, h⟩ | ⟨x, hx, h⟩)
    · have := mostW_arc ha
      simp only [decide_eq_true_eq] at h
      omega
    · have := mostW_fin hx
      simp only [decide_eq_true_eq] at h
      omega
section
variable {U : TF} {W vs : List (List Int)}
theorem lrF_app (first M : List Nat) {n : Nat} (hn : n ≤ first.length) : lrF U W vs (first ++ M) n = lrF U W vs first n := by
  unfold lrF
  refine List.map_congr_left fun k hk => ?_
  have := List.mem_range.1 hk
  have e : (first ++ M).getD k 0 = first.getD k 0 := by
    simp only [List.getD]
    rw [List.getElem?_append_left (by omega)]
  rw [e]
theorem lrF_succ (first : List Nat) (n : Nat) : lrF U W vs first (n + 1) = lrF U W vs first n ++ [lrE U W vs n (first.getD n 0)] := by
  unfold lrF
  rw [List.range_succ, List.map_append]
  rfl
theorem lrF_len (first : List Nat) (n : Nat) : (lrF U W vs first n).length = n := by simp [lrF]
theorem LrI.start (h : 1 ≤ W.length) : LrI W [0] := ⟨fun j hj => by rw [List.mem_singleton] at hj; omega, by simp, by simp⟩
theorem LrI.lsF0 : lsF U W vs [] 0 = [0] := by simp [lsF, lsN]
end
end Go.Fw

namespace Go.Fw
open Go Go.Proofs
def LeastOfPost (F : TF) (v : SV) (s : S) : Prop := ∃ (U : TF) (W vs : List (List Int)) (par sym : List Int), IsUs F U ∧
  ((∃ i c, WSt U W vs par sym i c ∧ W.length = 201 ∧ v = .tup [.agg zero25, .c (.i 2)] ∧ s = ⟨[], [], 2⟩) ∨
   (WSt U W vs par sym W.length 1 ∧ W.length ≤ 200 ∧ ∃ (n : Nat) (ff : List Int) (oo : List Arc),
     ((¬ (∃ w c, CW U U.start w c) ∧ n = 1 ∧ ff = [-1] ∧ oo = []) ∨
      ((∃ w c, CW U U.start w c) ∧ ∃ first, lrRows U W vs first.length = (first, oo) ∧ (∀ j, j < first.length → j < (lrRows U W vs j).1.length) ∧ n = first.length ∧ ff = lrF U W vs first first.length)) ∧
     ((greatB oo ff = true ∧ v = .tup [.agg zero25, .c (.i 2)] ∧ s = ⟨[], [], 2⟩) ∨
      (greatB oo ff = false ∧ ∃ sp sq, v = .tup [.agg [.i (n : Nat), .i 0, .sl 2 1 0 ff.length (ff.length + sp), .sl 3 5 0 oo.length (oo.length + sq)], .c (.i 0)] ∧
        s = ⟨[], [(2, .arr true 3 .int ff sp), (3, .arr true 50 .arc oo sq)], 4⟩))))
theorem IsUs.fok {F U : TF} (h : IsUs F U) (hF : FOk F) : FOk U := by
  have hw := WOk.of hF
  obtain ⟨h1, h2, h3⟩ := h.ok hw hF.start
  have hst := hF.st
  have hal := hF.arcl
  have hu1 : 1 ≤ U.st := by omega
  refine ⟨⟨hu1, by omega⟩, h2, h1.finl, h1.fin, ?_, fun a ha => ?_⟩
  · obtain ⟨p, hp, _, _, _, e⟩ := h
    rw [e]
    unfold kT
    split
    · have := karc_len p F.arcs F.arcs.length
      show (karc p F.arcs F.arcs.length).length ≤ 3000
      omega
    · simp
  · obtain ⟨b, hb, e1, e2, e3⟩ := h.arcs ha
    have hb := hF.arc b hb
    have hr := h1.arc a ha
    exact ⟨hr.1, hr.2.1, hr.2.2.1, hr.2.2.2, e1 ▸ hb.i0, e2 ▸ hb.o0, by rw [e3]; exact hb.w0, by rw [e3]; exact hb.w1⟩
structure LZ where
  U : TF
  W : List (List Int)
  vs : List (List Int)
  par : List Int
  sym : List Int
  rows : List Sli
  m : List (Addr × List Int × Nat)
  spU : Nat
  sqU : Nat
  sr : Nat
  sp : Nat
  sy : Nat
abbrev hpLs (U : TF) (W vs : List (List Int)) (rows : List Sli) (m : List (Addr × List Int × Nat)) (par sym : List Int) (spU sqU sr sp sy : Nat) (first : List Nat) (sf sb : Nat) : List (Nat × SO) :=
  [(2, .arr true 3 .int U.fin spU), (3, .arr true 50 .arc U.arcs sqU), (4, .arr true 22 .sli rows sr), (5, .pool 3 .int m), (6, .arr true 3 .int par sp), (7, .arr true 3 .int sym sy),
   (8, .box 36 (cWo U 2 3 4 6 7 rows.length (rows.length + sr) par.length (par.length + sp) sym.length (sym.length + sy))), (9, .box 22 [.sl 11 1 0 first.length (first.length + sf)]), (10, .box 22 [.sl 12 1 0 first.length (first.length + sb)]),
   (11, .arr true 3 .int (first.map fun j : Nat => (j : Int)) sf), (12, .arr true 3 .int (first.map fun j => bstW U W vs W.length j) sb), (13, .box 25 zero25)]
abbrev frLs : List (Nat × SV) := [(2, .c (.ptr 13 0)), (4, .c (.ptr 8 0)), (6, .c (.ptr 9 0)), (7, .c (.ptr 10 0)), (8, .c (.fn 48 [(8, 0), (9, 0), (10, 0)]))]
structure LY where
  first : List Nat
  outs : List Arc
  fi : List Int
  sf : Nat
  sb : Nat
  si : Nat
  so : Nat
abbrev hpLo (U : TF) (W vs : List (List Int)) (rows : List Sli) (m : List (Addr × List Int × Nat)) (par sym : List Int) (spU sqU sr sp sy : Nat) (first : List Nat) (outs : List Arc) (fi : List Int) (sf sb si so : Nat) : List (Nat × SO) :=
  hpLs U W vs rows m par sym spU sqU sr sp sy first sf sb ++ [(14, .box 25 [.i 0, .i 0, .sl 15 1 0 fi.length (fi.length + si), .sl 16 5 0 outs.length (outs.length + so)]), (15, .arr true 3 .int fi si), (16, .arr true 50 .arc outs so)]
set_option maxHeartbeats 16000000 in
set_option maxRecDepth 20000 in
theorem leastOf_c (F : TF) (hF : FOk F) (hf : fineB F = true) (h12 : F.st ≤ 12) : Ct Tryd.prog 23 [fV F] [] (hpF F) 2 (LeastOfPost F) := by
  have hst := hF.st
  refine ctC Tryd.tyOk Tryd.func23 rfl (by simp) (by simp) (fr := [(0, fV F)]) rfl ?_
  refine SemC.cut Tryd.tyOk 16 [] (fun z : LZ => ⟨frLs, hpLs z.U z.W z.vs z.rows z.m z.par z.sym z.spU z.sqU z.sr z.sp z.sy [] 0 0, 14⟩)
    (fun z => IsUs F z.U ∧ z.U.capF = z.U.fin.length + z.spU ∧ z.U.capA = z.U.arcs.length + z.sqU ∧ WSt z.U z.W z.vs z.par z.sym z.W.length 1 ∧ Tab2 z.m z.rows z.vs.length (fun j => z.vs.getD j []) ∧ z.W.length ≤ 200 ∧ ∃ w c, CW z.U z.U.start w c) 7 _ _ ?_ ?_
  · repeat' (first | exact rfl | ((conv => whnf); first | (refine qX (fun h => ?_) fun h => ?_ <;> try exact absurd h (by omega)) | refine oN ?_ | refine oM ?_ ?_ | refine bM ?_ ?_ | refine dR ?_))
    (conv => whnf)
    refine cF (wordsOf_c F (WOk.of hF) hst.2 hF.start) [0, 1] Tryd.call17 ?_
    rintro _ _ ⟨U, W, vs, par, sym, i, c, ok, rows, m, spU, sqU, sr, sp, sy, hus, hcF, hcA, hW, htab, hcase, rfl, rfl⟩
    try simp only [Nat.reduceAdd, Nat.reduceSub]
    rcases hcase with ⟨rfl, h1, rfl, rfl⟩ | ⟨rfl, h1⟩
    · repeat' (first | exact rfl | ((conv => whnf); first | (refine qX (fun h => ?_) fun h => ?_ <;> try exact absurd h (by omega)) | refine oN ?_ | refine oM ?_ ?_ | refine bM ?_ ?_ | refine dR ?_ | intro _))
      (conv => whnf)
      try simp only [Nat.reduceAdd, Nat.reduceSub]
      obtain ⟨hUw, hUs, _⟩ := hus.ok (WOk.of hF) hF.start
      have hb := bgn_yes hF hf hus hus hW h1
      obtain ⟨st, hst2⟩ := MDone.some hUw.st.1 hUw.w (fun a ha => (hUw.arc a ha).2.2) hUs hb
      have hD : DetH F U st := ⟨hF, hf, hus, hb, hst2⟩
      have hUf := hus.fok hF
      have h0 := bst0_iff hD hW
      have hpos := hW.pos
      have cB := wBest_c U hUf hD.hU W vs rows m par sym (rows.length + sr) (par.length + sp) (sym.length + sy) hW (by omega) htab W.length 0 hpos (by omega)
      clear hUw hUs hb hst2 hD hUf
      generalize bstW U W vs W.length 0 = b0 at *
      refine cF (cB) [4, 5, 6, 7, 8, 9] Tryd.call47 ?_
      rintro _ _ ⟨rfl, rfl⟩
      try simp only [Nat.reduceAdd, Nat.reduceSub]
      repeat' (first | exact rfl | ((conv => whnf); first | (refine qX (fun h => ?_) fun h => ?_ <;> try exact absurd h (by omega)) | refine oN ?_ | refine oM ?_ ?_ | refine bM ?_ ?_ | refine dR ?_ | intro _))
      · (conv => whnf)
        try simp only [Nat.reduceAdd, Nat.reduceSub]
        exact ⟨[(2, some 11), (3, none)], [(2, .arr true 3 .int [-1] 0), (3, .arr true 50 .arc [] 0)], 4, .tup [.agg [.i ((1 : Nat) : Int), .i 0, .sl 2 1 0 ([-1] : List Int).length (([-1] : List Int).length + 0), .sl 3 5 0 ([] : List Arc).length (([] : List Arc).length + 0)], .c (.i 0)], ⟨by rfl, trivial, by simp [nilO]⟩, by simp,
          U, W, vs, par, sym, hus, .inr ⟨hW, h1, 1, [-1], [], .inl ⟨h0.1 (by assumption), rfl, rfl, rfl⟩, .inr ⟨by decide, 0, 0, rfl, rfl⟩⟩⟩
      · (conv => whnf)
        try simp only [Nat.reduceAdd, Nat.reduceSub]
        refine ⟨⟨U, W, vs, par, sym, rows, m, spU, sqU, sr, sp, sy⟩, [(2, some 4), (3, some 5), (4, some 6), (5, some 7), (6, some 8), (7, some 9), (8, some 10), (9, some 11), (10, some 12), (11, none), (12, none), (13, some 3)], ⟨by rfl, ?_, ?_⟩, hus, hcF, hcA, hW, htab, h1, ?_⟩
        · simp
        · simp [nilO]
        · exact Classical.byContradiction fun hc => by have := h0.2 hc; omega
    · repeat' (first | exact rfl | ((conv => whnf); first | (refine qX (fun h => ?_) fun h => ?_ <;> try exact absurd h (by omega)) | refine oN ?_ | refine oM ?_ ?_ | refine bM ?_ ?_ | refine dR ?_ | intro _))
      (conv => whnf)
      exact ⟨[], [], 2, .tup [.agg zero25, .c (.i 2)], ⟨by rfl, trivial, by simp⟩, by simp, U, W, vs, par, sym, hus, .inl ⟨i, c, hW, h1, rfl, rfl⟩⟩
  · rintro ⟨U, W, vs, par, sym, rows, m, spU, sqU, sr, sp, sy⟩ ⟨hus, hcF, hcA, hW, htab, hl, hn⟩
    simp only at hus hcF hcA hW htab hl hn ⊢
    obtain ⟨hUw, hUs, _⟩ := hus.ok (WOk.of hF) hF.start
    have hb := bgn_yes hF hf hus hus hW hl
    obtain ⟨st, hst2⟩ := MDone.some hUw.st.1 hUw.w (fun a ha => (hUw.arc a ha).2.2) hUs hb
    have hD : DetH F U st := ⟨hF, hf, hus, hb, hst2⟩
    have hUf := hus.fok hF
    have hpos := hW.pos
    have hend := fun j (hj : j < W.length) => end_bd hD h12 hW hj
    have hbst := fun j (hj : j < W.length) => bst_bd hD h12 hW hj
    have cE := fun i (hi : i < W.length) => wEnd_c U hUf hD.hU W vs rows m par sym (rows.length + sr) (par.length + sp) (sym.length + sy) hW (by omega) htab i hi
    have cO := fun i (hi : i < W.length) c => wOn_c U W vs rows m par sym (rows.length + sr) (par.length + sp) (sym.length + sy) hW (by omega) i hi c
    have cB := fun i (hi : i < W.length) => wBest_c U hUf hD.hU W vs rows m par sym (rows.length + sr) (par.length + sp) (sym.length + sy) hW (by omega) htab W.length i hi (by omega)
    have cS := fun first (hf : ∀ j ∈ first, j < W.length) (hfl : first.length ≤ 1000) sf sb i (hi : i < W.length) => wState_c U hUf hD.hU W vs rows m par sym (rows.length + sr) (par.length + sp) (sym.length + sy) hW (by omega) htab (fun j hj => by have := hend j hj; omega) (fun j hj => by have := hbst j hj; omega) first hf hfl sf sb i hi
    have hor := fun i (hi : i < W.length) c => hW.onI_rng (c := c) hi
    clear hUw hUs hb hst2 hD hUf hst
    refine SemC.of Tryd.tyOk 16 [] ?_
    repeat' (first | exact rfl | ((conv => whnf); first | (refine qX (fun h => ?_) fun h => ?_ <;> try exact absurd h (by omega)) | refine oN ?_ | refine oM ?_ ?_ | refine bM ?_ ?_ | refine dR ?_))
    (conv => whnf)
    have cS0 := cS [] (by simp) (by simp) 0 0 0 hpos
    rw [LrI.lsF0] at cS0
    refine cF (cS0) [2, 3, 4, 5, 6, 7, 8, 9, 10, 11, 12] Tryd.call48 ?_
    rintro _ _ ⟨sf0, sb0, rfl, rfl⟩
    try simp only [Nat.reduceAdd, Nat.reduceSub]
    repeat' (first | exact rfl | ((conv => whnf); first | (refine qX (fun h => ?_) fun h => ?_ <;> try exact absurd h (by omega)) | refine oN ?_ | refine oM ?_ ?_ | refine bM ?_ ?_ | refine dR ?_ | intro _))
    (conv => whnf)
    try simp only [Nat.reduceAdd, Nat.reduceSub]
    refine loopI (fun z : Nat × LY => ⟨frLs ++ [(9, .c (.ptr 14 0)), (10, .i z.1)], hpLo U W vs rows m par sym spU sqU sr sp sy z.2.first z.2.outs z.2.fi z.2.sf z.2.sb z.2.si z.2.so, 17⟩)
      (fun z => z.1 ≤ z.2.first.length ∧ lrRows U W vs z.1 = (z.2.first, z.2.outs) ∧ LrI W z.2.first ∧ z.2.fi = lrF U W vs z.2.first z.1 ∧ (∀ j, j < z.1 → j < (lrRows U W vs j).1.length) ∧ z.2.outs.length ≤ 9 * z.1) (fun z => 201 - z.1)
      (0, ⟨[0], [], [], sf0, sb0, 0, 0⟩) [(11, some 14), (12, some 15), (14, some 16), (15, none), (16, none)] ⟨by rfl, ?_, ?_⟩ ⟨by simp, rfl, LrI.start hpos, rfl, fun j h => absurd h (Nat.not_lt_zero _), Nat.le_refl _⟩ ?_
    · simp
    · simp [nilO]
    · rintro ⟨n, ⟨first, outs, fi, sf, sb, si, so⟩⟩ ⟨hnl, hrow, hI, hfi, hml, hol⟩
      simp only at hnl hrow hI hfi hml hol ⊢
      have hIl := hI.le
      have hlm1 : (first.map fun j : Nat => (j : Int)).length = first.length := List.length_map _
      have hlm2 : (first.map fun j => bstW U W vs W.length j).length = first.length := List.length_map _
      (conv => whnf)
      refine condP_dec (fun hn2 => ?_) (fun hn2 => ?_)
      · have hn3 : n < first.length := by omega
        have hj := hI.rng _ (getD_mem first n 0 hn3)
        have e0 : 0 + (n : Int).toNat = n := by omega
        have ef : (first.map fun j : Nat => (j : Int)).getD (0 + (n : Int).toNat) EK.int.dflt = (first.getD n 0 : Nat) := by rw [e0]; simp [List.getD, hn3]
        have eb : (first.map fun j => bstW U W vs W.length j).getD (0 + (n : Int).toNat) EK.int.dflt = bstW U W vs W.length (first.getD n 0) := by rw [e0]; simp [List.getD, hn3]
        have hbj := hbst _ hj
        have hej := hend _ hj
        have cEj := cE _ hj
        have hfs : lrF U W vs first (n + 1) = fi ++ [lrE U W vs n (first.getD n 0)] := by rw [lrF_succ, ← hfi]
        have hfl : fi.length = n := by rw [hfi, lrF_len]
        generalize hjj : first.getD n 0 = j at *
        have hb0 : n = 0 → lrBase U W vs n j = 0 := fun e => by unfold lrBase; rw [if_pos e]
        have hb1 : n ≠ 0 → lrBase U W vs n j = bstW U W vs W.length j := fun e => by unfold lrBase; rw [if_neg e]
        have hbb : 0 ≤ n → -1 ≤ lrBase U W vs n j ∧ lrBase U W vs n j ≤ 13000000000 := fun _ => by
          by_cases e : n = 0
          · rw [hb0 e]; omega
          · rw [hb1 e]; exact hbj
        have hlE : lrE U W vs n j = if 0 ≤ endW U vs j then endW U vs j - lrBase U W vs n j else endW U vs j := rfl
        have hnx : lrRows U W vs (n + 1) = lrL U W vs n j (first, outs) 9 := by
          show lrL U W vs n ((lrRows U W vs n).1.getD n 0) (lrRows U W vs n) 9 = _
          rw [hrow, hjj]
        have hLs : ∀ k, lrL U W vs n j (first, outs) (k + 1) = if 0 ≤ onI W j ((k : Int) + 1) then
            (lsF U W vs (lrL U W vs n j (first, outs) k).1 (onI W j ((k : Int) + 1)).toNat, (lrL U W vs n j (first, outs) k).2 ++ [⟨(n : Nat), (k : Int) + 1, (k : Int) + 1, (lsN U W vs (lrL U W vs n j (first, outs) k).1 (onI W j ((k : Int) + 1)).toNat : Nat), bstW U W vs W.length (onI W j ((k : Int) + 1)).toNat - lrBase U W vs n j⟩])
            else lrL U W vs n j (first, outs) k := fun k => rfl
        have hLa := fun k => lrL_app (U := U) (W := W) (vs := vs) n j (first, outs) k
        generalize hbs : lrBase U W vs n j = base at *
        generalize hle : lrE U W vs n j = lst at *
        repeat' (first | exact rfl | ((conv => whnf); first | (refine qX (fun h => ?_) fun h => ?_ <;> try exact absurd h (by omega)) | refine oN ?_ | refine oM ?_ ?_ | refine bM ?_ ?_ | refine dR ?_))
        all_goals
          (conv => whnf)
          try rw [eb]
          try rw [ef]
          refine cF (cEj) [2, 3, 4, 5, 6, 7] Tryd.call50 ?_
          rintro _ _ ⟨rfl, rfl⟩
          generalize hee : endW U vs j = ee at *
          repeat' (first | exact rfl | ((conv => whnf); first | (refine qX (fun h => ?_) fun h => ?_ <;> try exact absurd h (by omega)) | refine oN ?_ | refine oM ?_ ?_ | refine bM ?_ ?_ | refine dR ?_ | intro _))
          all_goals (conv => whnf)
        all_goals
          rename_i si2
          have hbv : base = 0 ∧ n = 0 ∨ base = bstW U W vs W.length j ∧ n ≠ 0 := by
            by_cases e : n = 0
            · exact .inl ⟨hb0 e, e⟩
            · exact .inr ⟨hb1 e, e⟩
          rcases hbv with ⟨hbv, hn0⟩ | ⟨hbv, hn0⟩ <;> try (exfalso; omega)
        all_goals
          have hlv := hlE
          split at hlv <;> try (exfalso; omega)
        all_goals
          try rw [hbv] at hlv
          refine loopI (fun z : Nat × LY => ⟨frLs ++ [(9, .c (.ptr 14 0)), (10, .i n), (11, .i base), (13, .i ((z.1 : Int) + 1))], hpLo U W vs rows m par sym spU sqU sr sp sy z.2.first z.2.outs z.2.fi z.2.sf z.2.sb z.2.si z.2.so, 17⟩)
            (fun z => z.1 ≤ 9 ∧ lrL U W vs n j (first, outs) z.1 = (z.2.first, z.2.outs) ∧ LrI W z.2.first ∧ z.2.fi = fi ++ [lst]) (fun z => 9 - z.1) (0, ⟨first, outs, fi ++ [lst], sf, sb, si2, so⟩) [(15, some 18)] ⟨by rfl, ?_, ?_⟩ ⟨Nat.zero_le _, rfl, hI, rfl⟩ ?_
          · simp [hbv]
          · simp [app_one, hlv]
          · clear hlv
            rintro ⟨k, ⟨f, o, fi2, sf3, sb3, si3, so3⟩⟩ ⟨hk, hrk, hI2, hf2⟩
            simp only at hk hrk hI2 hf2 ⊢
            obtain ⟨⟨M, hM⟩, hol2⟩ := hLa k
            rw [hrk] at hM hol2
            simp only at hM hol2
            have hI2l := hI2.le
            have hfn : f.getD n 0 = j := by
              rw [hM, ← hjj]
              simp only [List.getD]
              rw [List.getElem?_append_left hn3]
            have hfnl : n < f.length := by rw [hM, List.length_append]; omega
            have hgj : (f.map fun j : Nat => (j : Int)).getD (0 + (n : Int).toNat) EK.int.dflt = (j : Nat) := by rw [e0, ← hfn]; simp [List.getD, hfnl]
            have hlm3 : (f.map fun j : Nat => (j : Int)).length = f.length := List.length_map _
            have hlm4 : (f.map fun j => bstW U W vs W.length j).length = f.length := List.length_map _
            (conv => whnf)
            refine condP_dec (fun hk2 => ?_) (fun hk2 => ?_)
            · have hks := hLs k
              rw [hrk] at hks
              simp only at hks
              have hor2 := hor j hj ((k : Int) + 1)
              have cOj := cO j hj ((k : Int) + 1)
              generalize hon : onI W j ((k : Int) + 1) = on at *
              repeat' (first | exact rfl | ((conv => whnf); first | (refine qX (fun h => ?_) fun h => ?_ <;> try exact absurd h (by omega)) | refine oN ?_ | refine oM ?_ ?_ | refine bM ?_ ?_ | refine dR ?_))
              (conv => whnf)
              rw [hgj]
              refine cF (cOj) [2, 3, 4, 5, 6, 7] Tryd.call51 ?_
              rintro _ _ ⟨rfl, rfl⟩
              repeat' (first | exact rfl | ((conv => whnf); first | (refine qX (fun h => ?_) fun h => ?_ <;> try exact absurd h (by omega)) | refine oN ?_ | refine oM ?_ ?_ | refine bM ?_ ?_ | refine dR ?_))
              · rw [if_pos (by omega)] at hks
                obtain ⟨q, rfl⟩ := Int.eq_ofNat_of_zero_le (show 0 ≤ on by omega)
                rw [Int.toNat_natCast] at hks
                have hq : q < W.length := by omega
                have hbq := hbst q hq
                have cBq := cB q hq
                have hI3 := hI2.step (U := U) (vs := vs) hq
                have hI3l := hI3.le
                (conv => whnf)
                refine cF (cS f hI2.rng (by omega) sf3 sb3 q hq) [2, 3, 4, 5, 6, 7, 8, 9, 10, 11, 12] Tryd.call48 ?_
                rintro _ _ ⟨sf4, sb4, rfl, rfl⟩
                try simp only [Nat.reduceAdd, Nat.reduceSub]
                generalize lsN U W vs f q = ln at *
                generalize lsF U W vs f q = lf at *
                generalize bstW U W vs W.length q = bq at *
                repeat' (first | exact rfl | ((conv => whnf); first | (refine qX (fun h => ?_) fun h => ?_ <;> try exact absurd h (by omega)) | refine oN ?_ | refine oM ?_ ?_ | refine bM ?_ ?_ | refine dR ?_ | intro _))
                (conv => whnf)
                try simp only [Nat.reduceAdd, Nat.reduceSub]
                refine cF (cBq) [2, 3, 4, 5, 6, 7] Tryd.call47 ?_
                rintro _ _ ⟨rfl, rfl⟩
                try simp only [Nat.reduceAdd, Nat.reduceSub]
                repeat' (first | exact rfl | ((conv => whnf); first | (refine qX (fun h => ?_) fun h => ?_ <;> try exact absurd h (by omega)) | refine oN ?_ | refine oM ?_ ?_ | refine bM ?_ ?_ | refine dR ?_ | intro _))
                (conv => whnf)
                try simp only [Nat.reduceAdd, Nat.reduceSub]
                rename_i so4
                refine ⟨(k + 1, ⟨lf, o ++ [⟨(n : Nat), (k : Int) + 1, (k : Int) + 1, (ln : Nat), bq - base⟩], fi2, sf4, sb4, si3, so4⟩), [(11, some 17), (12, some 18), (16, some 20)], ⟨by rfl, ?_, ?_⟩, ⟨by simp only; omega, hks, hI3, hf2⟩, by simp only; omega⟩
                · simp
                · simp [app_one]
              · rw [if_neg (by omega)] at hks
                (conv => whnf)
                refine ⟨(k + 1, ⟨f, o, fi2, sf3, sb3, si3, so3⟩), [], ⟨by rfl, ?_, ?_⟩, ⟨by simp only; omega, hks, hI2, hf2⟩, by simp only; omega⟩
                · simp
                · simp
            · have e : k = 9 := by omega
              subst e
              rw [hrk] at hnx
              repeat' (first | exact rfl | ((conv => whnf); first | (refine qX (fun h => ?_) fun h => ?_ <;> try exact absurd h (by omega)) | refine oN ?_ | refine oM ?_ ?_ | refine bM ?_ ?_ | refine dR ?_))
              (conv => whnf)
              refine ⟨(n + 1, ⟨f, o, fi2, sf3, sb3, si3, so3⟩), [], ⟨by rfl, ?_, ?_⟩, ⟨by simp only; omega, hnx, hI2, ?_, fun i hi => ?_, by simp only; omega⟩, by simp only; omega⟩
              · simp
              · simp
              · simp only
                rw [hf2, ← hfs, hM, lrF_app first M (by omega)]
              · by_cases ei : i = n
                · rw [ei, hrow]; exact hn3
                · exact hml i (by simp only at hi; omega)
      · have e : n = first.length := by omega
        subst e
        have hfl : fi.length = first.length := by rw [hfi, lrF_len]
        have cM := mostWeight_c ⟨(first.length : Nat), 0, fi, outs, fi.length + si, outs.length + so⟩ (by simp only; omega) (by simp only; omega)
        have hgr := mostW_great ⟨(first.length : Nat), 0, fi, outs, fi.length + si, outs.length + so⟩
        generalize mostW ⟨(first.length : Nat), 0, fi, outs, fi.length + si, outs.length + so⟩ = mw at *
        simp only at hgr
        repeat' (first | exact rfl | ((conv => whnf); first | (refine qX (fun h => ?_) fun h => ?_ <;> try exact absurd h (by omega)) | refine oN ?_ | refine oM ?_ ?_ | refine bM ?_ ?_ | refine dR ?_))
        (conv => whnf)
        refine cI (cM) [15, 16] Tryd.call52 ?_
        repeat' (first | exact rfl | ((conv => whnf); first | (refine qX (fun h => ?_) fun h => ?_ <;> try exact absurd h (by omega)) | refine oN ?_ | refine oM ?_ ?_ | refine bM ?_ ?_ | refine dR ?_))
        · (conv => whnf)
          exact ⟨[], [], 2, .tup [.agg zero25, .c (.i 2)], ⟨by rfl, trivial, by simp⟩, by simp, U, W, vs, par, sym, hus, .inr ⟨hW, hl, first.length, fi, outs, .inr ⟨hn, first, hrow, hml, rfl, hfi⟩, .inl ⟨hgr.1 (by assumption), rfl, rfl⟩⟩⟩
        · have hg2 : greatB outs fi = false := by
            cases hg : greatB outs fi with
            | false => rfl
            | true => have := hgr.2 hg; omega
          (conv => whnf)
          exact ⟨[(2, some 15), (3, some 16)], [(2, .arr true 3 .int fi si), (3, .arr true 50 .arc outs so)], 4, .tup [.agg [.i (first.length : Nat), .i 0, .sl 2 1 0 fi.length (fi.length + si), .sl 3 5 0 outs.length (outs.length + so)], .c (.i 0)], ⟨by rfl, trivial, by simp⟩, by simp,
            U, W, vs, par, sym, hus, .inr ⟨hW, hl, first.length, fi, outs, .inr ⟨hn, first, hrow, hml, rfl, hfi⟩, .inr ⟨hg2, si, so, rfl, rfl⟩⟩⟩
end Go.Fw

namespace Go.Fw
open Go Go.Proofs
set_option maxHeartbeats 4000000 in
set_option maxRecDepth 20000 in
theorem equalI_c (a b : List Int) (ca cb : Nat) (ha : a.length ≤ 9223372036854775807) (hl : b.length ≤ 9223372036854775807) :
    Ct Tryd.prog 78 [.c (.sl 0 1 0 a.length ca), .c (.sl 1 1 0 b.length cb)] [] [(0, .arr false 3 .int a 0), (1, .arr false 3 .int b 0)] 2 (fun v s => v = .b (decide (a = b)) ∧ s = ⟨[], [], 2⟩) := by
  refine ctW Tryd.tyOk 6 [12, 13] Tryd.func78 rfl (by simp) (by simp) (fr := [(0, .c (.sl 0 1 0 a.length ca)), (1, .c (.sl 1 1 0 b.length cb))]) rfl ?_
  repeat' (first | exact rfl | ((conv => whnf); first | (refine qX (fun h => ?_) fun h => ?_ <;> try exact absurd h (by omega)) | refine oN ?_ | refine oM ?_ ?_ | refine bM ?_ ?_ | refine dR ?_))
  · have : a ≠ b := fun e => by rw [e] at h; omega
    (conv => whnf)
    exact ⟨[], [], 2, .b (decide (a = b)), ⟨by rfl, trivial, trivial⟩, by simp [this], rfl, rfl⟩
  have hab : a.length = b.length := by omega
  clear h
  (conv => whnf)
  refine loopI (fun k : Nat => ⟨[(0, .c (.sl 0 1 0 a.length ca)), (1, .c (.sl 1 1 0 b.length cb)), (12, .i a.length), (13, .i k)], [(0, .arr false 3 .int a 0), (1, .arr false 3 .int b 0)], 2⟩) (fun k => k ≤ a.length ∧ ∀ j, j < k → a.getD j 0 = b.getD j 0) (fun k => a.length - k) 0 [] ⟨by rfl, ?_, ?_⟩ ⟨Nat.zero_le _, fun j h => absurd h (Nat.not_lt_zero _)⟩ ?_
  · simp
  · simp
  · intro k ⟨hk1, hk2⟩
    (conv => whnf)
    refine condP_dec (fun hk => ?_) (fun hk => ?_)
    · have e0 : 0 + (k : Int).toNat = k := by omega
      repeat' (first | exact rfl | ((conv => whnf); first | (refine qX (fun h => ?_) fun h => ?_ <;> try exact absurd h (by omega)) | refine oN ?_ | refine oM ?_ ?_ | refine bM ?_ ?_ | refine dR ?_))
      · simp only [Nat.zero_add, Int.toNat_natCast, EK.dflt] at h
        have : a ≠ b := fun e => h (by rw [e])
        (conv => whnf)
        exact ⟨[], [], 2, .b (decide (a = b)), ⟨by rfl, trivial, trivial⟩, by simp [this], rfl, rfl⟩
      · simp only [Nat.zero_add, Int.toNat_natCast, EK.dflt] at h
        (conv => whnf)
        refine ⟨k + 1, [], ⟨by rfl, ?_, ?_⟩, ⟨by omega, fun j hj => ?_⟩, by omega⟩
        · simp
        · simp
        · exact if e : j = k then e ▸ (by omega) else hk2 j (by omega)
    · have : a = b := sameTake a b hab fun j hj => hk2 j (by omega)
      repeat' (first | exact rfl | ((conv => whnf); first | (refine qX (fun h => ?_) fun h => ?_ <;> try exact absurd h (by omega)) | refine oN ?_ | refine oM ?_ ?_ | refine bM ?_ ?_ | refine dR ?_))
      (conv => whnf)
      exact ⟨[], [], 2, .b (decide (a = b)), ⟨by rfl, trivial, trivial⟩, by simp [this], rfl, rfl⟩
set_option maxHeartbeats 4000000 in
set_option maxRecDepth 20000 in
theorem equalA_c (a b : List Arc) (ca cb : Nat) (ha : a.length ≤ 9223372036854775807) (hl : b.length ≤ 9223372036854775807) :
    Ct Tryd.prog 79 [.c (.sl 0 5 0 a.length ca), .c (.sl 1 5 0 b.length cb)] [] [(0, .arr false 50 .arc a 0), (1, .arr false 50 .arc b 0)] 2 (fun v s => v = .b (decide (a = b)) ∧ s = ⟨[], [], 2⟩) := by
  refine ctW Tryd.tyOk 6 [12, 13] Tryd.func79 rfl (by simp) (by simp) (fr := [(0, .c (.sl 0 5 0 a.length ca)), (1, .c (.sl 1 5 0 b.length cb))]) rfl ?_
  repeat' (first | exact rfl | ((conv => whnf); first | (refine qX (fun h => ?_) fun h => ?_ <;> try exact absurd h (by omega)) | refine oN ?_ | refine oM ?_ ?_ | refine bM ?_ ?_ | refine dR ?_))
  · have : a ≠ b := fun e => by rw [e] at h; omega
    (conv => whnf)
    exact ⟨[], [], 2, .b (decide (a = b)), ⟨by rfl, trivial, trivial⟩, by simp [this], rfl, rfl⟩
  have hab : a.length = b.length := by omega
  clear h
  (conv => whnf)
  refine loopI (fun k : Nat => ⟨[(0, .c (.sl 0 5 0 a.length ca)), (1, .c (.sl 1 5 0 b.length cb)), (12, .i a.length), (13, .i k)], [(0, .arr false 50 .arc a 0), (1, .arr false 50 .arc b 0)], 2⟩) (fun k => k ≤ a.length ∧ ∀ j, j < k → a.getD j EK.arc.dflt = b.getD j EK.arc.dflt) (fun k => a.length - k) 0 [] ⟨by rfl, ?_, ?_⟩ ⟨Nat.zero_le _, fun j h => absurd h (Nat.not_lt_zero _)⟩ ?_
  · simp
  · simp
  · intro k ⟨hk1, hk2⟩
    (conv => whnf)
    refine condP_dec (fun hk => ?_) (fun hk => ?_)
    · have e0 : 0 + (k : Int).toNat = k := by omega
      repeat' (first | exact rfl | ((conv => whnf); first | (refine qX (fun h => ?_) fun h => ?_ <;> try exact absurd h (by omega)) | refine oN ?_ | refine oM ?_ ?_ | refine bM ?_ ?_ | refine dR ?_))
      · rw [arcEq] at h
        simp only [Nat.zero_add, Int.toNat_natCast, Bool.not_eq_true', decide_eq_false_iff_not] at h
        have : a ≠ b := fun e => h (by rw [e])
        (conv => whnf)
        exact ⟨[], [], 2, .b (decide (a = b)), ⟨by rfl, trivial, trivial⟩, by simp [this], rfl, rfl⟩
      · rw [arcEq] at h
        simp only [Nat.zero_add, Int.toNat_natCast, Bool.not_eq_false', decide_eq_true_eq, Bool.not_eq_true', Bool.not_eq_false, decide_eq_false_iff_not, Decidable.not_not] at h
        (conv => whnf)
        refine ⟨k + 1, [], ⟨by rfl, ?_, ?_⟩, ⟨by omega, fun j hj => ?_⟩, by omega⟩
        · simp
        · simp
        · exact if e : j = k then e ▸ h else hk2 j (by omega)
    · have : a = b := sameTakeA a b hab fun j hj => hk2 j (by omega)
      repeat' (first | exact rfl | ((conv => whnf); first | (refine qX (fun h => ?_) fun h => ?_ <;> try exact absurd h (by omega)) | refine oN ?_ | refine oM ?_ ?_ | refine bM ?_ ?_ | refine dR ?_))
      (conv => whnf)
      exact ⟨[], [], 2, .b (decide (a = b)), ⟨by rfl, trivial, trivial⟩, by simp [this], rfl, rfl⟩
set_option maxHeartbeats 4000000 in
set_option maxRecDepth 20000 in
theorem checkLeast_c (F : TF) : Ct Tryd.prog 22 [fV F] [] (hpF F) 2 (fun v s => v = .i (leastE F) ∧ s = ⟨[], [], 2⟩) := by
  by_cases h : fstE F = 0
  · have hF := fstE_ok h
    have hal := hF.arcl
    have hst := hF.st
    have c1 := isBoth_c F (by omega)
    have c2 := hasSilent_c F (by omega)
    have c3 := isRound_c F (FRng.of hF)
    by_cases h12 : 12 < F.st
    · have hd : leastE F = 2 := by unfold leastE; rw [if_neg (fun c => c h), if_pos h12]
      refine ctW Tryd.tyOk 4 [] Tryd.func22 rfl (by simp) (by simp) (fr := [(0, fV F)]) rfl ?_
      repeat' (first | exact rfl | ((conv => whnf); first | (refine qX (fun h => ?_) fun h => ?_ <;> try exact absurd h (by omega)) | refine oN ?_ | refine oM ?_ ?_ | refine bM ?_ ?_ | refine dR ?_))
      (conv => whnf)
      refine cI (checkFst_c F) [0, 1] Tryd.call10 ?_
      rw [h]
      repeat' (first | exact rfl | ((conv => whnf); first | (refine qX (fun h => ?_) fun h => ?_ <;> try exact absurd h (by omega)) | refine oN ?_ | refine oM ?_ ?_ | refine bM ?_ ?_ | refine dR ?_))
      all_goals
        first
        | (exfalso; omega)
        | ((conv => whnf)
           exact ⟨[], [], 2, .i 2, ⟨by rfl, trivial, by simp⟩, by simp, by rw [hd], rfl⟩)
    · have hd : leastE F = if fineB F = true then 0 else 4 := by unfold leastE; rw [if_neg (fun c => c h), if_neg h12]
      unfold fineB at hd
      rw [hd]
      clear hd
      generalize bothB F = b1 at *
      generalize silB F = b2 at *
      generalize roundB F.arcs F.st.toNat = b3 at *
      refine ctW Tryd.tyOk 4 [] Tryd.func22 rfl (by simp) (by simp) (fr := [(0, fV F)]) rfl ?_
      repeat' (first | exact rfl | ((conv => whnf); first | (refine qX (fun h => ?_) fun h => ?_ <;> try exact absurd h (by omega)) | refine oN ?_ | refine oM ?_ ?_ | refine bM ?_ ?_ | refine dR ?_))
      (conv => whnf)
      refine cI (checkFst_c F) [0, 1] Tryd.call10 ?_
      rw [h]
      repeat' (first | exact rfl | ((conv => whnf); first | (refine qX (fun h => ?_) fun h => ?_ <;> try exact absurd h (by omega)) | refine oN ?_ | refine oM ?_ ?_ | refine bM ?_ ?_ | refine dR ?_))
      all_goals try (exfalso; omega)
      (conv => whnf)
      refine cI (c1) [0, 1] Tryd.call11 ?_
      cases b1 with
      | false =>
        repeat' (first | exact rfl | ((conv => whnf); first | (refine qX (fun h => ?_) fun h => ?_ <;> try exact absurd h (by omega)) | refine oN ?_ | refine oM ?_ ?_ | refine bM ?_ ?_ | refine dR ?_))
        (conv => whnf)
        exact ⟨[], [], 2, .i 4, ⟨by rfl, trivial, by simp⟩, by simp, by simp, rfl⟩
      | true =>
        repeat' (first | exact rfl | ((conv => whnf); first | (refine qX (fun h => ?_) fun h => ?_ <;> try exact absurd h (by omega)) | refine oN ?_ | refine oM ?_ ?_ | refine bM ?_ ?_ | refine dR ?_))
        (conv => whnf)
        refine cI (c2) [0, 1] Tryd.call16 ?_
        cases b2 with
        | true =>
          repeat' (first | exact rfl | ((conv => whnf); first | (refine qX (fun h => ?_) fun h => ?_ <;> try exact absurd h (by omega)) | refine oN ?_ | refine oM ?_ ?_ | refine bM ?_ ?_ | refine dR ?_))
          (conv => whnf)
          exact ⟨[], [], 2, .i 4, ⟨by rfl, trivial, by simp⟩, by simp, by simp, rfl⟩
        | false =>
          repeat' (first | exact rfl | ((conv => whnf); first | (refine qX (fun h => ?_) fun h => ?_ <;> try exact absurd h (by omega)) | refine oN ?_ | refine oM ?_ ?_ | refine bM ?_ ?_ | refine dR ?_))
          (conv => whnf)
          refine cI (c3) [0, 1] Tryd.call13 ?_
          cases b3 with
          | true =>
            repeat' (first | exact rfl | ((conv => whnf); first | (refine qX (fun h => ?_) fun h => ?_ <;> try exact absurd h (by omega)) | refine oN ?_ | refine oM ?_ ?_ | refine bM ?_ ?_ | refine dR ?_))
            (conv => whnf)
            exact ⟨[], [], 2, .i 4, ⟨by rfl, trivial, by simp⟩, by simp, by simp, rfl⟩
          | false =>
            repeat' (first | exact rfl | ((conv => whnf); first | (refine qX (fun h => ?_) fun h => ?_ <;> try exact absurd h (by omega)) | refine oN ?_ | refine oM ?_ ?_ | refine bM ?_ ?_ | refine dR ?_))
            (conv => whnf)
            exact ⟨[], [], 2, .i 0, ⟨by rfl, trivial, by simp⟩, by simp, by simp, rfl⟩
  · have hd : leastE F = fstE F := by unfold leastE; rw [if_pos h]
    refine ctW Tryd.tyOk 4 [] Tryd.func22 rfl (by simp) (by simp) (fr := [(0, fV F)]) rfl ?_
    repeat' (first | exact rfl | ((conv => whnf); first | (refine qX (fun h => ?_) fun h => ?_ <;> try exact absurd h (by omega)) | refine oN ?_ | refine oM ?_ ?_ | refine bM ?_ ?_ | refine dR ?_))
    (conv => whnf)
    refine cI (checkFst_c F) [0, 1] Tryd.call10 ?_
    repeat' (first | exact rfl | ((conv => whnf); first | (refine qX (fun h => ?_) fun h => ?_ <;> try exact absurd h (by omega)) | refine oN ?_ | refine oM ?_ ?_ | refine bM ?_ ?_ | refine dR ?_))
    all_goals
      first
      | (exfalso; omega)
      | ((conv => whnf)
         exact ⟨[], [], 2, .i (fstE F), ⟨by rfl, trivial, by simp⟩, by simp, by rw [hd], rfl⟩)
set_option maxHeartbeats 4000000 in
set_option maxRecDepth 20000 in
theorem same2_c (F G : TF) (h1 : F.fin.length ≤ 9223372036854775807) (h2 : G.fin.length ≤ 9223372036854775807) (h3 : F.arcs.length ≤ 9223372036854775807) (h4 : G.arcs.length ≤ 9223372036854775807) :
    Ct Tryd.prog 54 [fV F, gV G] [] (hpG F G) 4 (fun v s => v = .b (sameF F G) ∧ s = ⟨[], [], 4⟩) := by
  have hs : sameF F G = (decide (F.st = G.st) && (decide (F.start = G.start) && (decide (F.fin = G.fin) && decide (F.arcs = G.arcs)))) := by
    unfold sameF
    simp only [Bool.decide_and]
  have cI := equalI_c F.fin G.fin F.capF G.capF h1 h2
  have cA := equalA_c F.arcs G.arcs F.capA G.capA h3 h4
  generalize decide (F.fin = G.fin) = bf at *
  generalize decide (F.arcs = G.arcs) = ba at *
  refine ctC Tryd.tyOk Tryd.func54 rfl (by simp [gV]) (by simp) (fr := [(0, fV F), (1, gV G)]) rfl ?_
  refine SemC.of Tryd.tyOk 5 [] ?_
  by_cases e1 : F.st = G.st
  · by_cases e2 : F.start = G.start
    · rw [decide_eq_true e1, decide_eq_true e2, Bool.true_and, Bool.true_and] at hs
      repeat' (first | exact rfl | ((conv => whnf); first | (refine qX (fun h => ?_) fun h => ?_ <;> try exact absurd h (by omega)) | refine oN ?_ | refine oM ?_ ?_ | refine bM ?_ ?_ | refine dR ?_))
      all_goals try (exfalso; omega)
      all_goals (conv => whnf)
      refine cF (cI) [0, 2] Tryd.call78 ?_
      rintro _ _ ⟨rfl, rfl⟩
      cases bf with
      | false =>
        repeat' (first | exact rfl | ((conv => whnf); first | (refine qX (fun h => ?_) fun h => ?_ <;> try exact absurd h (by omega)) | refine oN ?_ | refine oM ?_ ?_ | refine bM ?_ ?_ | refine dR ?_ | intro _))
        (conv => whnf)
        exact ⟨[], [], 4, .b (sameF F G), ⟨by rfl, trivial, by simp⟩, by simp [hs], rfl, rfl⟩
      | true =>
        repeat' (first | exact rfl | ((conv => whnf); first | (refine qX (fun h => ?_) fun h => ?_ <;> try exact absurd h (by omega)) | refine oN ?_ | refine oM ?_ ?_ | refine bM ?_ ?_ | refine dR ?_ | intro _))
        (conv => whnf)
        refine cF (cA) [1, 3] Tryd.call79 ?_
        rintro _ _ ⟨rfl, rfl⟩
        repeat' (first | exact rfl | ((conv => whnf); first | (refine qX (fun h => ?_) fun h => ?_ <;> try exact absurd h (by omega)) | refine oN ?_ | refine oM ?_ ?_ | refine bM ?_ ?_ | refine dR ?_ | intro _))
        (conv => whnf)
        exact ⟨[], [], 4, .b (sameF F G), ⟨by rfl, trivial, by simp⟩, by simp [hs], rfl, rfl⟩
    · rw [decide_eq_true e1, decide_eq_false e2, Bool.true_and, Bool.false_and] at hs
      repeat' (first | exact rfl | ((conv => whnf); first | (refine qX (fun h => ?_) fun h => ?_ <;> try exact absurd h (by omega)) | refine oN ?_ | refine oM ?_ ?_ | refine bM ?_ ?_ | refine dR ?_))
      all_goals try (exfalso; omega)
      all_goals
        (conv => whnf)
        exact ⟨[], [], 4, .b (sameF F G), ⟨by rfl, trivial, by simp⟩, by simp [hs, e1, e2], rfl, rfl⟩
  · rw [decide_eq_false e1, Bool.false_and] at hs
    repeat' (first | exact rfl | ((conv => whnf); first | (refine qX (fun h => ?_) fun h => ?_ <;> try exact absurd h (by omega)) | refine oN ?_ | refine oM ?_ ?_ | refine bM ?_ ?_ | refine dR ?_))
    all_goals try (exfalso; omega)
    all_goals
      (conv => whnf)
      exact ⟨[], [], 4, .b (sameF F G), ⟨by rfl, trivial, by simp⟩, by simp [hs, e1], rfl, rfl⟩
set_option maxHeartbeats 4000000 in
set_option maxRecDepth 20000 in
theorem Least_c (F : TF) (hl : F.fin.length ≤ 9223372036854775807) (x : Obj) (hx : TabX x) : Ct Tryd.prog 21 [fV F] [] (hpF F ++ [(2, tabO x)]) 3 (LeastPost F x) := by
  refine ctW Tryd.tyOk 4 [] Tryd.func21 rfl (by simp) (by simp) (fr := [(0, fV F)]) rfl ?_
  repeat' (first | exact rfl | ((conv => whnf); first | (refine qX (fun h => ?_) fun h => ?_ <;> try exact absurd h (by omega)) | refine oN ?_ | refine oM ?_ ?_ | refine bM ?_ ?_ | refine dR ?_))
  (conv => whnf)
  refine cF (least_c F hl x hx) [0, 1, 2] Tryd.call46 ?_
  rintro v s (⟨h1, rfl, rfl⟩ | ⟨h1, U, hus, ⟨h2, rfl, rfl⟩ | ⟨h2, st, hmd, n, ff, oo, hls, ⟨hg, rfl, rfl⟩ | ⟨hg, sp, sq, rfl, rfl⟩⟩⟩)
  · repeat' (first | exact rfl | ((conv => whnf); first | (refine qX (fun h => ?_) fun h => ?_ <;> try exact absurd h (by omega)) | refine oN ?_ | refine oM ?_ ?_ | refine bM ?_ ?_ | refine dR ?_ | intro _))
    (conv => whnf)
    exact ⟨[], [(2, tabO x)], 3, .tup [.agg zero25, .c (.i (leastE F))], ⟨by rfl, trivial, by simp⟩, by simp, .inl ⟨h1, rfl, rfl⟩⟩
  · repeat' (first | exact rfl | ((conv => whnf); first | (refine qX (fun h => ?_) fun h => ?_ <;> try exact absurd h (by omega)) | refine oN ?_ | refine oM ?_ ?_ | refine bM ?_ ?_ | refine dR ?_ | intro _))
    (conv => whnf)
    exact ⟨[], [(2, tabO x)], 3, .tup [.agg zero25, .c (.i 2)], ⟨by rfl, trivial, by simp⟩, by simp, .inr ⟨h1, U, hus, .inl ⟨h2, rfl, rfl⟩⟩⟩
  · repeat' (first | exact rfl | ((conv => whnf); first | (refine qX (fun h => ?_) fun h => ?_ <;> try exact absurd h (by omega)) | refine oN ?_ | refine oM ?_ ?_ | refine bM ?_ ?_ | refine dR ?_ | intro _))
    (conv => whnf)
    exact ⟨[], [(2, tabO x)], 3, .tup [.agg zero25, .c (.i 2)], ⟨by rfl, trivial, by simp⟩, by simp, .inr ⟨h1, U, hus, .inr ⟨h2, st, hmd, n, ff, oo, hls, .inl ⟨hg, rfl, rfl⟩⟩⟩⟩
  · repeat' (first | exact rfl | ((conv => whnf); first | (refine qX (fun h => ?_) fun h => ?_ <;> try exact absurd h (by omega)) | refine oN ?_ | refine oM ?_ ?_ | refine bM ?_ ?_ | refine dR ?_ | intro _))
    (conv => whnf)
    try simp only [Nat.reduceAdd, Nat.reduceSub]
    exact ⟨[(3, some 5), (4, some 6)], [(2, tabO x), (3, .arr true 3 .int ff sp), (4, .arr true 50 .arc oo sq)], 5, .tup [.agg [.i (n : Nat), .i 0, .sl 3 1 0 ff.length (ff.length + sp), .sl 4 5 0 oo.length (oo.length + sq)], .c (.i 0)], ⟨by rfl, trivial, by simp⟩, by simp, .inr ⟨h1, U, hus, .inr ⟨h2, st, hmd, n, ff, oo, hls, .inr ⟨hg, sp, sq, rfl, rfl⟩⟩⟩⟩
end Go.Fw

namespace Go.Fw
open Go Go.Proofs
def chain (D : Trip → Option Fnd) : Nat → Trip → List Int
  | 0, _ => []
  | n + 1, y => match D y with
    | none => []
    | some c => if 0 ≤ c.arc then c.arc :: chain D n ⟨c.s, c.i, c.o⟩ else []
def WalkIs (F : TF) (u v : List Int) (E : Trip × Int) (l : List Int) : Prop :=
  ∃ D ord rk B n, Dj F u v D ord rk B (fun _ _ => True) ∧ (∀ y d, D y = some d → d.dn = true) ∧ E = endF (fun y => (D y).map (·.cost)) F.fin u.length v.length F.fin.length ∧ rk E.1 < n ∧ l.reverse = chain D n E.1
end Go.Fw

namespace Go.Fw
open Go Go.Proofs
end Go.Fw

namespace Go.Fw
open Go Go.Proofs
end Go.Fw

namespace Go.Fw
open Go Go.Proofs
abbrev samT : TF := ⟨2, 0, [-1, 1], [⟨0, 1, 1, 1, 5⟩], 2, 1⟩
abbrev samV (i j : Nat) : SV := .a (.agg [.i 2, .i 0, .sl i 1 0 2 2, .sl j 5 0 1 1])
theorem same_c : Ct Tryd.prog 35 [] [] [] 0 (fun v s => v = samV 0 1 ∧ s = ⟨[], [(0, .arr true 3 .int [-1, 1] 0), (1, .arr true 50 .arc [⟨0, 1, 1, 1, 5⟩] 0)], 2⟩) := by
  refine ctW Tryd.tyOk 2 [] Tryd.func35 rfl (by simp) (by simp) (fr := []) rfl ?_
  repeat' (first | exact rfl | ((conv => whnf); first | (refine qX (fun h => ?_) fun h => ?_ <;> try exact absurd h (by omega)) | refine oN ?_ | refine oM ?_ ?_ | refine bM ?_ ?_ | refine dR ?_))
  (conv => whnf)
  refine cF (one_c) [] Tryd.call42 ?_
  rintro _ _ ⟨rfl, rfl⟩
  repeat' (first | exact rfl | ((conv => whnf); first | (refine qX (fun h => ?_) fun h => ?_ <;> try exact absurd h (by omega)) | refine oN ?_ | refine oM ?_ ?_ | refine bM ?_ ?_ | refine dR ?_ | intro _))
  (conv => whnf)
  try simp only [Nat.reduceAdd, Nat.reduceSub]
  exact ⟨[(0, some 1), (1, some 4)], [(0, .arr true 3 .int [-1, 1] 0), (1, .arr true 50 .arc [⟨0, 1, 1, 1, 5⟩] 0)], 2, samV 0 1, ⟨by rfl, trivial, by simp⟩, by simp, rfl, rfl⟩
abbrev sam2T : TF := ⟨2, 0, [-1, 1], [⟨0, 1, 1, 0, 2⟩, ⟨0, 1, 1, 1, 5⟩], 2, 2⟩
end Go.Fw
