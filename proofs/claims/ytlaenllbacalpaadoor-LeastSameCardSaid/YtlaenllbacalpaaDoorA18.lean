/- Walks of the functions: what each computes. -/
import Derived.Test.YtlaenllbacalpaaDoorA17
import Derived.Test.YtlaenllbacalpaaDoorA15
import Derived.Test.YtlaenllbacalpaaDoorA16
import Derived.Test.YtlaenllbacalpaaDoorA09
import Derived.Test.YtlaenllbacalpaaDoorA05
import Derived.Test.YtlaenllbacalpaaDoorA10
import Derived.Test.YtlaenllbacalpaaDoorA14

set_option linter.unusedSimpArgs false
set_option linter.unusedVariables false

namespace Go.Fw
open Go Go.Proofs
instance {a b : Bool} : CB (!(a == b)) (¬ a = b) (a = b) := ⟨fun h => by simpa using h, fun h => by simpa using h⟩
def alE (p q x y : Int) : Bool := !(decide (p < 0) != decide (q < 0) || (decide (p ≥ 0) && decide (p - x ≠ q - y)))
def alkW (U : TF) (W vs : List (List Int)) : Nat → Nat → Nat → Int → Int → Bool
  | 0, _, _, _, _ => true
  | f + 1, i, k, x, y => alE (endW U vs i) (endW U vs k) x y && (List.range 9).all fun (c : Nat) =>
    if decide (onI W i ((c : Int) + 1) < 0) != decide (onI W k ((c : Int) + 1) < 0) then false
    else if 0 ≤ onI W i ((c : Int) + 1) then alkW U W vs f (onI W i ((c : Int) + 1)).toNat (onI W k ((c : Int) + 1)).toNat x y else true
def alkS (U : TF) (W vs : List (List Int)) (f i k : Nat) (x y : Int) (c : Nat) : Bool :=
  if decide (onI W i ((c : Int) + 1) < 0) != decide (onI W k ((c : Int) + 1) < 0) then false
    else if 0 ≤ onI W i ((c : Int) + 1) then alkW U W vs f (onI W i ((c : Int) + 1)).toNat (onI W k ((c : Int) + 1)).toNat x y else true
set_option maxHeartbeats 8000000 in
set_option maxRecDepth 20000 in
theorem wAlike_c (U : TF) (hUf : FOk U) (hU : ∀ a ∈ U.arcs, (0 ≤ a.f ∧ a.f < U.st) ∧ (0 ≤ a.t ∧ a.t < U.st) ∧ 0 ≤ a.w ∧ a.w ≤ 1000000000) (W vs : List (List Int)) (rows : List Sli) (m : List (Addr × List Int × Nat)) (par sym : List Int) (rc pc sc : Nat) (hw : WSt U W vs par sym W.length 1) (hl : W.length ≤ 201) (htab : Tab2 m rows vs.length (fun j => vs.getD j []))
    (hend : ∀ j, j < W.length → -1 ≤ endW U vs j ∧ endW U vs j ≤ 1000000000000000) (x y : Int) (hx : -1000000000000000 ≤ x ∧ x ≤ 1000000000000000) (hy : -1000000000000000 ≤ y ∧ y ≤ 1000000000000000) : ∀ (f i k : Nat), i < W.length → k < W.length → W.length ≤ i + f →
    Ct Tryd.prog 49 [wV U rows par sym rc pc sc, .i i, wV U rows par sym rc pc sc, .i k, .i x, .i y] [] (hpWd U rows m par sym) 6 (fun v s => v = .b (alkW U W vs f i k x y) ∧ s = ⟨[], [(3, .pool 3 .int m)], 6⟩) := by
  intro f
  induction f with
  | zero => intro i k hi hk h; omega
  | succ f ih =>
    intro i k hi hk hf
    have he1 := hend i hi
    have he2 := hend k hk
    have c1 := wEnd_c U hUf hU W vs rows m par sym rc pc sc hw hl htab i hi
    have c2 := wEnd_c U hUf hU W vs rows m par sym rc pc sc hw hl htab k hk
    have hdef : alkW U W vs (f + 1) i k x y = (alE (endW U vs i) (endW U vs k) x y && (List.range 9).all (alkS U W vs f i k x y)) := rfl
    generalize endW U vs i = p at *
    generalize endW U vs k = q at *
    refine ctC Tryd.tyOk Tryd.func49 rfl (by simp) (by simp) (fr := [(0, wV U rows par sym rc pc sc), (1, .i i), (2, wV U rows par sym rc pc sc), (3, .i k), (4, .i x), (5, .i y)]) rfl ?_
    refine SemC.cut Tryd.tyOk 18 [] (fun _ : Unit => ⟨[(1, .i i), (3, .i k), (4, .i x), (5, .i y), (6, .c (.ptr 6 0)), (8, .c (.ptr 7 0))], hpWd U rows m par sym ++ [(6, .box 36 (cWo U 0 1 2 4 5 rows.length rc par.length pc sym.length sc)), (7, .box 36 (cWo U 0 1 2 4 5 rows.length rc par.length pc sym.length sc))], 8⟩) (fun _ => alE p q x y = true) 3 _ _ ?_ ?_
    · repeat' (first | exact rfl | ((conv => whnf); first | (refine qX (fun h => ?_) fun h => ?_ <;> try exact absurd h (by omega)) | refine oN ?_ | refine oM ?_ ?_ | refine bM ?_ ?_ | refine dR ?_))
      (conv => whnf)
      refine cF (c1) [0, 1, 2, 3, 4, 5] Tryd.call50 ?_
      rintro _ _ ⟨rfl, rfl⟩
      simp only [Nat.reduceAdd, Nat.reduceSub]
      repeat' (first | exact rfl | ((conv => whnf); first | (refine qX (fun h => ?_) fun h => ?_ <;> try exact absurd h (by omega)) | refine oN ?_ | refine oM ?_ ?_ | refine bM ?_ ?_ | refine dR ?_))
      (conv => whnf)
      refine cF (c2) [0, 1, 2, 3, 4, 5] Tryd.call50 ?_
      rintro _ _ ⟨rfl, rfl⟩
      simp only [Nat.reduceAdd, Nat.reduceSub]
      repeat' (first | exact rfl | ((conv => whnf); first | (refine qX (fun h => ?_) fun h => ?_ <;> try exact absurd h (by omega)) | refine oN ?_ | refine oM ?_ ?_ | refine bM ?_ ?_ | refine dR ?_))
      · have he : alE p q x y = false := by unfold alE; simp_all
        rw [he, Bool.false_and] at hdef
        (conv => whnf)
        refine ⟨[], [(3, .pool 3 .int m)], 6, .b (alkW U W vs (f + 1) i k x y), ⟨by rfl, trivial, by simp⟩, by simp [hdef], rfl, rfl⟩
      · have he : alE p q x y = false := by unfold alE; simp_all
        rw [he, Bool.false_and] at hdef
        (conv => whnf)
        refine ⟨[], [(3, .pool 3 .int m)], 6, .b (alkW U W vs (f + 1) i k x y), ⟨by rfl, trivial, by simp⟩, by simp [hdef], rfl, rfl⟩
      all_goals
        have he : alE p q x y = true := by unfold alE; simp_all
        (conv => whnf)
        refine ⟨(), [], ⟨by rfl, ?_, ?_⟩, he⟩
        · simp
        · simp
    rintro _ he
    rw [he, Bool.true_and] at hdef
    refine SemC.of Tryd.tyOk 18 [] ?_
    repeat' (first | exact rfl | ((conv => whnf); first | (refine qX (fun h => ?_) fun h => ?_ <;> try exact absurd h (by omega)) | refine oN ?_ | refine oM ?_ ?_ | refine bM ?_ ?_ | refine dR ?_))
    (conv => whnf)
    refine loopI (fun c : Nat => ⟨[(1, .i i), (3, .i k), (4, .i x), (5, .i y), (6, .c (.ptr 6 0)), (8, .c (.ptr 7 0)), (15, .i ((c : Int) + 1))], hpWd U rows m par sym ++ [(6, .box 36 (cWo U 0 1 2 4 5 rows.length rc par.length pc sym.length sc)), (7, .box 36 (cWo U 0 1 2 4 5 rows.length rc par.length pc sym.length sc))], 8⟩)
      (fun c => c ≤ 9 ∧ ∀ d, d < c → alkS U W vs f i k x y d = true) (fun c => 9 - c) 0 [] ⟨by rfl, ?_, ?_⟩ ⟨Nat.zero_le _, fun d h => absurd h (Nat.not_lt_zero _)⟩ ?_
    · simp
    · simp
    · rintro c ⟨hc, hall⟩
      have hor1 := hw.onI_rng (c := (c : Int) + 1) hi
      have hor2 := hw.onI_rng (c := (c : Int) + 1) hk
      have d1 := wOn_c U W vs rows m par sym rc pc sc hw hl i hi ((c : Int) + 1)
      have d2 := wOn_c U W vs rows m par sym rc pc sc hw hl k hk ((c : Int) + 1)
      have hsd : alkS U W vs f i k x y c = if decide (onI W i ((c : Int) + 1) < 0) != decide (onI W k ((c : Int) + 1) < 0) then false else if 0 ≤ onI W i ((c : Int) + 1) then alkW U W vs f (onI W i ((c : Int) + 1)).toNat (onI W k ((c : Int) + 1)).toNat x y else true := rfl
      generalize onI W i ((c : Int) + 1) = o1 at *
      generalize onI W k ((c : Int) + 1) = o2 at *
      (conv => whnf)
      refine condP_dec (fun hc2 => ?_) (fun hc2 => ?_)
      · have hbad : alkS U W vs f i k x y c = false → alkW U W vs (f + 1) i k x y = false := fun h => by
          rw [hdef, List.all_eq_false]
          exact ⟨c, List.mem_range.2 (by omega), by rw [h]; simp⟩
        have hok : alkS U W vs f i k x y c = true → ∀ d, d < c + 1 → alkS U W vs f i k x y d = true := fun h d hd => by
          by_cases e : d = c
          · rw [e]; exact h
          · exact hall d (by omega)
        repeat' (first | exact rfl | ((conv => whnf); first | (refine qX (fun h => ?_) fun h => ?_ <;> try exact absurd h (by omega)) | refine oN ?_ | refine oM ?_ ?_ | refine bM ?_ ?_ | refine dR ?_))
        (conv => whnf)
        refine cF (d1) [0, 1, 2, 3, 4, 5] Tryd.call51 ?_
        rintro _ _ ⟨rfl, rfl⟩
        simp only [Nat.reduceAdd, Nat.reduceSub]
        repeat' (first | exact rfl | ((conv => whnf); first | (refine qX (fun h => ?_) fun h => ?_ <;> try exact absurd h (by omega)) | refine oN ?_ | refine oM ?_ ?_ | refine bM ?_ ?_ | refine dR ?_))
        (conv => whnf)
        refine cF (d2) [0, 1, 2, 3, 4, 5] Tryd.call51 ?_
        rintro _ _ ⟨rfl, rfl⟩
        simp only [Nat.reduceAdd, Nat.reduceSub]
        repeat' (first | exact rfl | ((conv => whnf); first | (refine qX (fun h => ?_) fun h => ?_ <;> try exact absurd h (by omega)) | refine oN ?_ | refine oM ?_ ?_ | refine bM ?_ ?_ | refine dR ?_))
        · rw [if_pos (by simp_all)] at hsd
          have hx := hbad hsd
          (conv => whnf)
          refine ⟨[], [(3, .pool 3 .int m)], 6, .b (alkW U W vs (f + 1) i k x y), ⟨by rfl, trivial, by simp⟩, by simp [hx], rfl, rfl⟩
        · rename_i g
          have g2 : 0 ≤ o2 := Int.not_lt.1 fun c => by
            rw [decide_eq_true c, decide_eq_true_eq] at g
            omega
          rw [if_neg (by rw [g]; simp), if_pos h] at hsd
          obtain ⟨j1, rfl⟩ := Int.eq_ofNat_of_zero_le h
          obtain ⟨j2, rfl⟩ := Int.eq_ofNat_of_zero_le g2
          rw [Int.toNat_natCast, Int.toNat_natCast] at hsd
          (conv => whnf)
          refine cF (ih j1 j2 (by omega) (by omega) (by omega)) [0, 1, 2, 3, 4, 5] Tryd.call49 ?_
          rintro _ _ ⟨rfl, rfl⟩
          simp only [Nat.reduceAdd, Nat.reduceSub]
          generalize alkW U W vs f j1 j2 x y = r at *
          cases r with
          | true =>
            have hx := hok hsd
            repeat' (first | exact rfl | ((conv => whnf); first | (refine qX (fun h => ?_) fun h => ?_ <;> try exact absurd h (by omega)) | refine oN ?_ | refine oM ?_ ?_ | refine bM ?_ ?_ | refine dR ?_))
            (conv => whnf)
            refine ⟨c + 1, [], ⟨by rfl, ?_, ?_⟩, ⟨by omega, hx⟩, by omega⟩
            · simp
            · simp
          | false =>
            have hx := hbad hsd
            repeat' (first | exact rfl | ((conv => whnf); first | (refine qX (fun h => ?_) fun h => ?_ <;> try exact absurd h (by omega)) | refine oN ?_ | refine oM ?_ ?_ | refine bM ?_ ?_ | refine dR ?_))
            (conv => whnf)
            refine ⟨[], [(3, .pool 3 .int m)], 6, .b (alkW U W vs (f + 1) i k x y), ⟨by rfl, trivial, by simp⟩, by simp [hx], rfl, rfl⟩
        · rename_i g
          rw [if_neg (by rw [g]; simp), if_neg h] at hsd
          have hx := hok hsd
          (conv => whnf)
          refine ⟨c + 1, [], ⟨by rfl, ?_, ?_⟩, ⟨by omega, hx⟩, by omega⟩
          · simp
          · simp
      · have e : c = 9 := by omega
        subst e
        have he2 : alkW U W vs (f + 1) i k x y = true := by
          rw [hdef, List.all_eq_true]
          exact fun d hd => hall d (List.mem_range.1 hd)
        repeat' (first | exact rfl | ((conv => whnf); first | (refine qX (fun h => ?_) fun h => ?_ <;> try exact absurd h (by omega)) | refine oN ?_ | refine oM ?_ ?_ | refine bM ?_ ?_ | refine dR ?_))
        (conv => whnf)
        refine ⟨[], [(3, .pool 3 .int m)], 6, .b (alkW U W vs (f + 1) i k x y), ⟨by rfl, trivial, by simp⟩, by simp [he2], rfl, rfl⟩
end Go.Fw

namespace Go.Fw
open Go Go.Proofs
def lsA (U : TF) (W vs : List (List Int)) (j i : Nat) : Bool := alkW U W vs W.length j i (bstW U W vs W.length j) (bstW U W vs W.length i)
def lsN (U : TF) (W vs : List (List Int)) (first : List Nat) (i : Nat) : Nat := first.findIdx fun j => lsA U W vs j i
def lsF (U : TF) (W vs : List (List Int)) (first : List Nat) (i : Nat) : List Nat := if lsN U W vs first i < first.length then first else first ++ [i]
theorem lsN_at {U : TF} {W vs : List (List Int)} {first : List Nat} {i k : Nat} (hk : k < first.length) (hno : ∀ j, j < k → lsA U W vs (first.getD j 0) i = false) (h : lsA U W vs (first.getD k 0) i = true) : lsN U W vs first i = k := by
  unfold lsN
  rw [List.findIdx_eq hk]
  refine ⟨by simpa [List.getD, hk] using h, fun j hj => ?_⟩
  have := hno j hj
  simpa [List.getD, show j < first.length by omega] using this
theorem lsN_no {U : TF} {W vs : List (List Int)} {first : List Nat} {i : Nat} (hno : ∀ j, j < first.length → lsA U W vs (first.getD j 0) i = false) : lsN U W vs first i = first.length := by
  unfold lsN
  rw [List.findIdx_eq_length]
  intro x hx
  obtain ⟨j, hj, rfl⟩ := List.mem_iff_getElem.1 hx
  simpa [List.getD, hj] using hno j hj
abbrev hpSt (U : TF) (W vs : List (List Int)) (rows : List Sli) (m : List (Addr × List Int × Nat)) (par sym : List Int) (rc pc sc : Nat) (first : List Nat) (fi bi sf sb : Nat) : List (Nat × SO) :=
  [(6, .box 36 (cWo U 0 1 2 4 5 rows.length rc par.length pc sym.length sc)), (7, .box 22 [.sl fi 1 0 first.length (first.length + sf)]), (8, .box 22 [.sl bi 1 0 first.length (first.length + sb)]), (fi, .arr true 3 .int (first.map fun j : Nat => (j : Int)) sf), (bi, .arr true 3 .int (first.map fun j => bstW U W vs W.length j) sb), (3, .pool 3 .int m)]
abbrev hpSr (U : TF) (rows : List Sli) (par sym : List Int) : List (Nat × SO) := [(0, .arr false 3 .int U.fin 0), (1, .arr false 50 .arc U.arcs 0), (2, .arr false 22 .sli rows 0), (4, .arr false 3 .int par 0), (5, .arr false 3 .int sym 0)]
set_option maxHeartbeats 8000000 in
set_option maxRecDepth 20000 in
theorem wState_c (U : TF) (hUf : FOk U) (hU : ∀ a ∈ U.arcs, (0 ≤ a.f ∧ a.f < U.st) ∧ (0 ≤ a.t ∧ a.t < U.st) ∧ 0 ≤ a.w ∧ a.w ≤ 1000000000) (W vs : List (List Int)) (rows : List Sli) (m : List (Addr × List Int × Nat)) (par sym : List Int) (rc pc sc : Nat) (hw : WSt U W vs par sym W.length 1) (hl : W.length ≤ 201) (htab : Tab2 m rows vs.length (fun j => vs.getD j []))
    (hend : ∀ j, j < W.length → -1 ≤ endW U vs j ∧ endW U vs j ≤ 1000000000000000) (hbst : ∀ j, j < W.length → -1 ≤ bstW U W vs W.length j ∧ bstW U W vs W.length j ≤ 1000000000000000) (first : List Nat) (hf : ∀ j ∈ first, j < W.length) (hfl : first.length ≤ 1000) (sf sb i : Nat) (hi : i < W.length) :
    Ct Tryd.prog 48 [.i i, .c (.ptr 6 0), .c (.ptr 7 0), .c (.ptr 8 0)] [] (hpSr U rows par sym ++ hpSt U W vs rows m par sym rc pc sc first 9 10 sf sb) 11
      (fun v s => ∃ sf' sb', v = .i (lsN U W vs first i : Nat) ∧ s = ⟨[], hpSt U W vs rows m par sym rc pc sc (lsF U W vs first i) 11 12 sf' sb', 13⟩) := by
  have hbi := hbst i hi
  have cb := wBest_c U hUf hU W vs rows m par sym rc pc sc hw hl htab W.length i hi (by omega)
  refine ctW Tryd.tyOk 8 [] Tryd.func48 rfl (by simp) (by simp) (fr := [(0, .i i), (1, .c (.ptr 6 0)), (2, .c (.ptr 7 0)), (3, .c (.ptr 8 0))]) rfl ?_
  repeat' (first | exact rfl | ((conv => whnf); first | (refine qX (fun h => ?_) fun h => ?_ <;> try exact absurd h (by omega)) | refine oN ?_ | refine oM ?_ ?_ | refine bM ?_ ?_ | refine dR ?_))
  (conv => whnf)
  refine cF (cb) [0, 1, 2, 3, 4, 5] Tryd.call47 ?_
  rintro _ _ ⟨rfl, rfl⟩
  simp only [Nat.reduceAdd, Nat.reduceSub]
  repeat' (first | exact rfl | ((conv => whnf); first | (refine qX (fun h => ?_) fun h => ?_ <;> try exact absurd h (by omega)) | refine oN ?_ | refine oM ?_ ?_ | refine bM ?_ ?_ | refine dR ?_))
  (conv => whnf)
  refine loopI (fun k : Nat => ⟨[(0, .i i), (1, .c (.ptr 6 0)), (2, .c (.ptr 7 0)), (3, .c (.ptr 8 0)), (6, .i (bstW U W vs W.length i)), (7, .i k)], hpSr U rows par sym ++ hpSt U W vs rows m par sym rc pc sc first 9 10 sf sb, 11⟩)
    (fun k => k ≤ first.length ∧ ∀ j, j < k → lsA U W vs (first.getD j 0) i = false) (fun k => first.length - k) 0 [] ⟨by rfl, ?_, ?_⟩ ⟨Nat.zero_le _, fun j h => absurd h (Nat.not_lt_zero _)⟩ ?_
  · simp
  · simp
  · rintro k ⟨hk, hno⟩
    (conv => whnf)
    refine condP_dec (fun hk2 => ?_) (fun hk2 => ?_)
    · have hk3 : k < first.length := by omega
      have hj := hf _ (getD_mem first k 0 hk3)
      have e0 : 0 + (k : Int).toNat = k := by omega
      have ef : (first.map fun j : Nat => (j : Int)).getD (0 + (k : Int).toNat) EK.int.dflt = (first.getD k 0 : Nat) := by rw [e0]; simp [List.getD, hk3]
      have eb : (first.map fun j => bstW U W vs W.length j).getD (0 + (k : Int).toNat) EK.int.dflt = bstW U W vs W.length (first.getD k 0) := by rw [e0]; simp [List.getD, hk3]
      have hlm1 : (first.map fun j : Nat => (j : Int)).length = first.length := List.length_map _
      have hlm2 : (first.map fun j => bstW U W vs W.length j).length = first.length := List.length_map _
      have ca := wAlike_c U hUf hU W vs rows m par sym rc pc sc hw hl htab hend (bstW U W vs W.length (first.getD k 0)) (bstW U W vs W.length i) (by have := hbst _ hj; omega) (by omega) W.length (first.getD k 0) i hj hi (by omega)
      have hla : lsA U W vs (first.getD k 0) i = alkW U W vs W.length (first.getD k 0) i (bstW U W vs W.length (first.getD k 0)) (bstW U W vs W.length i) := rfl
      generalize alkW U W vs W.length (first.getD k 0) i (bstW U W vs W.length (first.getD k 0)) (bstW U W vs W.length i) = r at *
      repeat' (first | exact rfl | ((conv => whnf); first | (refine qX (fun h => ?_) fun h => ?_ <;> try exact absurd h (by omega)) | refine oN ?_ | refine oM ?_ ?_ | refine bM ?_ ?_ | refine dR ?_))
      (conv => whnf)
      rw [ef, eb]
      refine cF (ca) [0, 1, 2, 3, 4, 5] Tryd.call49 ?_
      rintro _ _ ⟨rfl, rfl⟩
      simp only [Nat.reduceAdd, Nat.reduceSub]
      cases r with
      | true =>
        have hn := lsN_at hk3 hno hla
        have hF : lsF U W vs first i = first := by unfold lsF; rw [hn, if_pos hk3]
        repeat' (first | exact rfl | ((conv => whnf); first | (refine qX (fun h => ?_) fun h => ?_ <;> try exact absurd h (by omega)) | refine oN ?_ | refine oM ?_ ?_ | refine bM ?_ ?_ | refine dR ?_))
        (conv => whnf)
        refine ⟨[(11, some 9), (12, some 10)], hpSt U W vs rows m par sym rc pc sc first 11 12 sf sb, 13, .i (lsN U W vs first i : Nat), ⟨by rfl, trivial, by simp⟩, by simp [hn], sf, sb, rfl, by rw [hF]⟩
      | false =>
        repeat' (first | exact rfl | ((conv => whnf); first | (refine qX (fun h => ?_) fun h => ?_ <;> try exact absurd h (by omega)) | refine oN ?_ | refine oM ?_ ?_ | refine bM ?_ ?_ | refine dR ?_))
        (conv => whnf)
        refine ⟨k + 1, [], ⟨by rfl, ?_, ?_⟩, ⟨by omega, fun j hj => ?_⟩, by omega⟩
        · simp
        · simp
        · by_cases e : j = k
          · rw [e]; exact hla
          · exact hno j (by omega)
    · have e : k = first.length := by omega
      subst e
      have hn := lsN_no hno
      have hF : lsF U W vs first i = first ++ [i] := by unfold lsF; rw [hn, if_neg (by omega)]
      have hlm1 : (first.map fun j : Nat => (j : Int)).length = first.length := List.length_map _
      have hlm2 : (first.map fun j => bstW U W vs W.length j).length = first.length := List.length_map _
      have hv : ((first.length + 1 : Nat) : Int) - 1 = (lsN U W vs first i : Nat) := by rw [hn]; omega
      have ht1 : (first.map fun j : Nat => (j : Int)).take first.length = first.map fun j : Nat => (j : Int) := List.take_of_length_le (by omega)
      have ht2 : (first.map fun j => bstW U W vs W.length j).take first.length = first.map fun j => bstW U W vs W.length j := List.take_of_length_le (by omega)
      repeat' (first | exact rfl | ((conv => whnf); first | (refine qX (fun h => ?_) fun h => ?_ <;> try exact absurd h (by omega)) | refine oN ?_ | refine oM ?_ ?_ | refine bM ?_ ?_ | refine dR ?_ | intro _))
      all_goals
        (conv => whnf)
        rw [hv]
        rename_i sp1 sp2
        first
        | (refine ⟨[(11, some 12), (12, some 14)], hpSt U W vs rows m par sym rc pc sc (lsF U W vs first i) 11 12 sp1 sp2, 13, .i (lsN U W vs first i : Nat), ⟨by rfl, trivial, ?_⟩, ?_, sp1, sp2, rfl, rfl⟩; (focus (rw [hF]; simp [lOp.appL, sub, ht1, ht2]; done)); (focus (simp; done)))
        | (refine ⟨[(11, some 13), (12, some 14)], hpSt U W vs rows m par sym rc pc sc (lsF U W vs first i) 11 12 sp1 sp2, 13, .i (lsN U W vs first i : Nat), ⟨by rfl, trivial, ?_⟩, ?_, sp1, sp2, rfl, rfl⟩; (focus (rw [hF]; simp [lOp.appL, sub, ht1, ht2]; done)); (focus (simp; done)))
end Go.Fw

/-
  What goes on from a beginning: the best of it, and which go on alike.
-/
namespace Go.Fw
section
variable {F U : TF} {st : DS} (h : DetH F U st) {W vs : List (List Int)} {par sym : List Int} (hw : WSt U W vs par sym W.length 1)
include h hw
theorem q_some {j : Nat} (hj : j < W.length) : ∃ (q : Nat) (d : Int), q < st.1.length ∧ RdW st.2 0 (W.getD j []) q d :=
  h.ri.reads h.hU (fun a ha => (h.hlet a ha).1) (hw.bg j hj)
theorem on_yes {j : Nat} (hj : j < W.length) {q d x : Int} (hq : RdW st.2 0 (W.getD j []) q d) (ho : 0 ≤ onI W j x) :
    ∃ a ∈ st.2, a.f = q ∧ a.i = x ∧ a.o = x ∧ (j < (onI W j x).toNat ∧ (onI W j x).toNat < W.length) ∧ W.getD (onI W j x).toNat [] = W.getD j [] ++ [x] ∧ RdW st.2 0 (W.getD (onI W j x).toNat []) a.t (d + a.w) := by
  by_cases hm : W.getD j [] ++ [x] ∈ W
  · obtain ⟨k, hk, e⟩ := getD_mem2.1 hm
    have ho2 := hw.onI_yes hk e
    have hgt := hw.gt hj hk e
    rw [ho2, Int.toNat_natCast]
    obtain ⟨q', d', hq', hr⟩ := q_some h hw hk
    rw [e] at hr ⊢
    obtain ⟨a, ha, d1, h1, h2, h3, h4⟩ := hr.unsnoc
    obtain ⟨e1, e2⟩ := RdW.det (h.detD 0 0) h1 hq
    have ho3 := (h.rngD 0 0 a ha).2.2.2
    refine ⟨a, ha, e1, h2, by omega, ⟨hgt, hk⟩, rfl, ?_⟩
    rw [h3, ← e2, ← h4]
    exact hr
  · exfalso
    unfold onI at ho
    rw [if_neg hm] at ho
    omega
theorem on_no {j : Nat} (hj : j < W.length) {q d x : Int} (hq : RdW st.2 0 (W.getD j []) q d) {a : Arc} (ha : a ∈ st.2) (e1 : a.f = q) (e2 : a.i = x) : 0 ≤ onI W j x := by
  have hr := hq.snoc ha e1
  rw [e2] at hr
  have hs := h.ri.sub h.hU hr
  obtain ⟨h1, h2, h3⟩ := h.small
  have hra := (h.rngD 0 0 a ha).2.1
  have hrt : a.t < ((st.1.length : Nat) : Int) := hra.2
  have hne := h1.ne _ (getD_mem st.1 a.t.toNat [] (by omega))
  obtain ⟨e, he⟩ := List.exists_mem_of_ne_nil _ hne
  have hp := (hs.min e he).is (by have := hs.r0; have := hs.b0 e he; omega)
  obtain ⟨k, hk, e3⟩ := hw.full (fun a ha => (h.hlet a ha).1) _ ⟨_, _, hp⟩
  rw [hw.onI_yes hk e3]
  omega
theorem end_is {j : Nat} (hj : j < W.length) {q : Nat} {d : Int} (hq : q < st.1.length) (hr : RdW st.2 0 (W.getD j []) q d) : endW U vs j = if (mkD U st 0 0).fin.getD q 0 = -1 then -1 else d + (mkD U st 0 0).fin.getD q 0 := by
  rw [h.ri.endW h.hU h.hfin h.uok.2.1 hw hj hr, Int.toNat_natCast]
  show _ = if (st.1.map (finD U)).getD q 0 = -1 then -1 else d + (st.1.map (finD U)).getD q 0
  rw [mkD_fin hq]
theorem bstP_min {f i : Nat} (hi : i < W.length) (ih : ∀ j, i < j → j < W.length → MinOf (fun c => ∃ v, CW U U.start (W.getD j [] ++ v) c) (bstW U W vs f j)) : ∀ k : Nat, k ≤ 9 →
    MinOf (fun c => CW U U.start (W.getD i []) c ∨ ∃ (x : Int) (v : List Int), (1 ≤ x ∧ x ≤ (k : Int)) ∧ CW U U.start (W.getD i [] ++ x :: v) c) (bstP U W vs f i k)
  | 0, _ => by
    have he : MinOf (CW U U.start (W.getD i [])) (endW U vs i) := endW_min (fun a ha => (h.hU a ha).2.1) h.uok.2.1 h.hfin hw hi
    refine MinOf.cong (show MinOf (CW U U.start (W.getD i [])) (bstP U W vs f i 0) from he) fun c => ?_
    constructor
    · exact fun h => .inl h
    · rintro (h | ⟨x, v, h1, _⟩)
      · exact h
      · omega
  | k + 1, hk => by
    have hP := bstP_min hi ih k (by omega)
    obtain ⟨q, d, hq, hr⟩ := q_some h hw hi
    rw [bstP_succ]
    by_cases ho : 0 ≤ onI W i ((k : Int) + 1)
    · obtain ⟨a, ha, g1, g2, g3, g4, g5, g6⟩ := on_yes h hw hi hr ho
      rw [if_pos ho]
      refine (MinOf.or hP (ih _ g4.1 g4.2)).cong fun c => ?_
      rw [g5]
      constructor
      · rintro ((h1 | ⟨x, v, h1, h2⟩) | ⟨v, h1⟩)
        · exact .inl h1
        · exact .inr ⟨x, v, by omega, h2⟩
        · exact .inr ⟨(k : Int) + 1, v, by omega, by rwa [List.append_assoc] at h1⟩
      · rintro (h1 | ⟨x, v, h1, h2⟩)
        · exact .inl (.inl h1)
        · by_cases e : x = (k : Int) + 1
          · subst e
            exact .inr ⟨v, by rw [List.append_assoc]; exact h2⟩
          · exact .inl (.inr ⟨x, v, by omega, h2⟩)
    · rw [if_neg ho]
      refine hP.cong fun c => ?_
      constructor
      · rintro (h1 | ⟨x, v, h1, h2⟩)
        · exact .inl h1
        · exact .inr ⟨x, v, by omega, h2⟩
      · rintro (h1 | ⟨x, v, h1, h2⟩)
        · exact .inl h1
        · by_cases e : x = (k : Int) + 1
          · exfalso
            subst e
            obtain ⟨t, d', h3, _, _⟩ := h2
            obtain ⟨q', d2, e2, h4, h5, _⟩ := (show RdW U.arcs U.start ((W.getD i [] ++ [(k : Int) + 1]) ++ v) t d' by rw [List.append_assoc]; exact h3).split
            obtain ⟨m, hm, e3⟩ := hw.full (fun a ha => (h.hlet a ha).1) _ ⟨_, _, h4⟩
            rw [hw.onI_yes hm e3] at ho
            omega
          · exact .inr ⟨x, v, by omega, h2⟩
theorem bst_min : ∀ (f i : Nat), i < W.length → W.length ≤ i + f → MinOf (fun c => ∃ v, CW U U.start (W.getD i [] ++ v) c) (bstW U W vs f i)
  | 0, i, hi, hf => by omega
  | f + 1, i, hi, hf => by
    have hP := bstP_min h hw hi (f := f) (fun j h1 h2 => bst_min f j h2 (by omega)) 9 (Nat.le_refl _)
    refine MinOf.cong (show MinOf _ (bstW U W vs (f + 1) i) from hP) fun c => ?_
    constructor
    · rintro (h1 | ⟨x, v, _, h2⟩)
      · exact ⟨[], by rw [List.append_nil]; exact h1⟩
      · exact ⟨x :: v, h2⟩
    · rintro ⟨v, hv⟩
      cases v with
      | nil => exact .inl (by rw [List.append_nil] at hv; exact hv)
      | cons x v =>
        obtain ⟨t, d, h1, h2, h3⟩ := hv
        have := h1.lets (fun a ha => (h.hlet a ha).1) x (by simp)
        exact .inr ⟨x, v, by omega, t, d, h1, h2, h3⟩
end
section
def alkW2 (U : TF) (W vs : List (List Int)) (V : TF) (Y ys : List (List Int)) : Nat → Nat → Nat → Int → Int → Bool
  | 0, _, _, _, _ => true
  | f + 1, i, k, x, y => alE (endW U vs i) (endW V ys k) x y && (List.range 9).all fun (c : Nat) =>
    if decide (onI W i ((c : Int) + 1) < 0) != decide (onI Y k ((c : Int) + 1) < 0) then false
    else if 0 ≤ onI W i ((c : Int) + 1) then alkW2 U W vs V Y ys f (onI W i ((c : Int) + 1)).toNat (onI Y k ((c : Int) + 1)).toNat x y else true
def alkS2 (U : TF) (W vs : List (List Int)) (V : TF) (Y ys : List (List Int)) (f i k : Nat) (x y : Int) (c : Nat) : Bool :=
  if decide (onI W i ((c : Int) + 1) < 0) != decide (onI Y k ((c : Int) + 1) < 0) then false
    else if 0 ≤ onI W i ((c : Int) + 1) then alkW2 U W vs V Y ys f (onI W i ((c : Int) + 1)).toNat (onI Y k ((c : Int) + 1)).toNat x y else true
theorem alkW_eq {U : TF} {W vs : List (List Int)} : ∀ (f i k : Nat) (x y : Int), alkW U W vs f i k x y = alkW2 U W vs U W vs f i k x y
  | 0, _, _, _, _ => rfl
  | f + 1, i, k, x, y => by
    unfold alkW alkW2
    simp only [alkW_eq f]
theorem IsUs.nil {F U : TF} (h : IsUs F U) (hF : FRng F) (hs : 0 ≤ F.start ∧ F.start < F.st) (hL : ∀ a ∈ F.arcs, a.i = a.o ∧ a.i ≠ 0) (hn : ¬ ∃ w c, CW U U.start w c) : U.arcs = [] := by
  have hLU : ∀ a ∈ U.arcs, a.i = a.o ∧ a.i ≠ 0 := fun a ha => by
    obtain ⟨b, hb, e1, e2, _⟩ := h.arcs ha
    rw [e1, e2]; exact hL b hb
  obtain ⟨p, hp, h1, h2, h3, h4⟩ := h
  by_cases hps : p F.start.toNat = true
  · exfalso
    have e1 : (kT F p).arcs = karc p F.arcs F.arcs.length := by unfold kT; rw [if_pos hps]
    have e2 : (kT F p).start = (rkB p F.start.toNat : Nat) := by unfold kT; rw [if_pos hps]
    have e3 : (kT F p).fin = kfin p F.fin F.st.toNat := by unfold kT; rw [if_pos hps]
    rw [e1] at h4
    rw [e2] at h2
    rw [e3] at h3
    obtain ⟨r1, e, r2, r3, r4⟩ := (hp.iff F.start.toNat (by omega)).1 hps
    obtain ⟨w, c, t, d, hr, hf, _⟩ := rch_cw (e := (e : Int)) (by rw [Int.toNat_natCast]; exact r3) r4
    obtain ⟨i1, i2, i3, i4, i5, i6⟩ := keep_way hF hp (rd_way hL hr) ⟨by omega, by omega⟩ r1 hf
    rw [h4] at hLU
    have hw := (way_rd hLU i6).2
    rw [Int.toNat_natCast, ← h2] at hw
    refine hn ⟨w, d + U.fin.getD (rkB p t.toNat) 0, (rkB p t.toNat : Nat), d, by rw [h4]; exact hw, ?_, by rw [Int.toNat_natCast]⟩
    rw [Int.toNat_natCast, h3, kfin_get F.fin (by omega) i3]
    exact hf
  · rw [h4]
    unfold kT
    rw [if_neg hps]
theorem DetH.fl {F U : TF} {st : DS} (h : DetH F U st) (h12 : F.st ≤ 12) (q : Nat) : -1 ≤ (mkD U st 0 0).fin.getD q 0 := by
  by_cases hj : q < (mkD U st 0 0).fin.length
  · exact ((h.fokB h12 0 0).1.fin _ (getD_mem _ q 0 hj)).1
  · simp only [List.getD, List.getElem?_eq_none (show (mkD U st 0 0).fin.length ≤ q by omega), Option.getD_none]; omega
theorem DetH.coA {F U : TF} {st : DS} (h : DetH F U st) {a : Arc} (ha : a ∈ st.2) : ∃ v c, CW (mkD U st 0 0) a.t v c := by
  have hr := (h.rngD 0 0 a ha).2.1
  have hr : 0 ≤ a.t ∧ a.t < ((st.1.length : Nat) : Int) := hr
  by_cases hn : ∃ w c, CW U U.start w c
  · have := h.co hn 0 0 (j := a.t.toNat) (by omega)
    rwa [show ((a.t.toNat : Nat) : Int) = a.t by omega] at this
  · exfalso
    have he := h.us.nil h.wok.toFRng h.fok.start h.lets hn
    obtain ⟨j, x, q1, q2, q3, q4, q5, _⟩ := h.ri.arc ha
    obtain ⟨w, d, hw⟩ := h.ri.rch j q2
    have hs := h.ri.sub h.hU hw
    rw [Int.toNat_natCast] at hs
    obtain ⟨t, c, hb⟩ := hs.yes h.hU q3
    have := (hb.empty he).1
    simp at this
variable {F U G V : TF} {st st' : DS} (h : DetH F U st) (h12 : F.st ≤ 12) {W vs : List (List Int)} {par sym : List Int} (hw : WSt U W vs par sym W.length 1)
  (h' : DetH G V st') (h12' : G.st ≤ 12) {Y ys : List (List Int)} {par' sym' : List Int} (hw' : WSt V Y ys par' sym' Y.length 1)
include h h12 hw h' h12' hw'
theorem alk2_iff : ∀ (f i k : Nat) (x y : Int) (q r : Nat) (d e : Int), i < W.length → k < Y.length → W.length ≤ i + f → q < st.1.length → r < st'.1.length → RdW st.2 0 (W.getD i []) q d → RdW st'.2 0 (Y.getD k []) r e →
    (alkW2 U W vs V Y ys f i k x y = true ↔ ∀ v c, CW (mkD U st 0 0) q v (c + (x - d)) ↔ CW (mkD V st' 0 0) r v (c + (y - e)))
  | 0, i, k, x, y, q, r, d, e, hi, hk, hf, _, _, _, _ => by omega
  | f + 1, i, k, x, y, q, r, d, e, hi, hk, hf, hq, hr, hrq, hrr => by
    have hd0 := (h.ri.sub h.hU hrq).r0
    have he0 := (h'.ri.sub h'.hU hrr).r0
    have e1 := end_is h hw hi hq hrq
    have e2 := end_is h' hw' hk hr hrr
    have f1 := h.fl h12 q
    have f2 := h'.fl h12' r
    have hdef : alkW2 U W vs V Y ys (f + 1) i k x y = (alE (endW U vs i) (endW V ys k) x y && (List.range 9).all (alkS2 U W vs V Y ys f i k x y)) := rfl
    have hAE : alE (endW U vs i) (endW V ys k) x y = true ↔ ∀ c, CW (mkD U st 0 0) q [] (c + (x - d)) ↔ CW (mkD V st' 0 0) r [] (c + (y - e)) := by
      simp only [CW.nil, Int.toNat_natCast]
      rw [e1, e2]
      generalize (mkD U st 0 0).fin.getD q 0 = a at *
      generalize (mkD V st' 0 0).fin.getD r 0 = b at *
      unfold alE
      by_cases ha : a = -1
      · rw [if_pos ha]
        by_cases hb : b = -1
        · rw [if_pos hb]
          refine ⟨fun _ c => ⟨fun h => absurd ha h.1, fun h => absurd hb h.1⟩, fun _ => by simp⟩
        · rw [if_neg hb]
          constructor
          · intro hc
            exfalso
            rw [decide_eq_true (show (-1 : Int) < 0 by omega), decide_eq_false (show ¬ (e + b < 0) by omega)] at hc
            simp at hc
          · intro hc
            exact absurd ha ((hc (b - (y - e))).2 ⟨hb, by omega⟩).1
      · rw [if_neg ha]
        by_cases hb : b = -1
        · rw [if_pos hb]
          constructor
          · intro hc
            exfalso
            rw [decide_eq_true (show (-1 : Int) < 0 by omega), decide_eq_false (show ¬ (d + a < 0) by omega)] at hc
            simp at hc
          · intro hc
            exact absurd hb ((hc (a - (x - d))).1 ⟨ha, by omega⟩).1
        · rw [if_neg hb, decide_eq_false (show ¬ (d + a < 0) by omega), decide_eq_false (show ¬ (e + b < 0) by omega), decide_eq_true (show d + a ≥ 0 by omega)]
          simp only [bne_self_eq_false, Bool.false_or, Bool.true_and, Bool.not_eq_true', decide_eq_false_iff_not, Decidable.not_not]
          constructor
          · intro hc c
            exact ⟨fun g => ⟨hb, by omega⟩, fun g => ⟨ha, by omega⟩⟩
          · intro hc
            have := ((hc (a - (x - d))).1 ⟨ha, by omega⟩).2
            omega
    rw [hdef, Bool.and_eq_true, hAE, List.all_eq_true]
    have hrng : ∀ a ∈ st.2, 0 ≤ a.t ∧ a.t < ((st.1.length : Nat) : Int) := fun a ha => (h.rngD 0 0 a ha).2.1
    have hrng' : ∀ a ∈ st'.2, 0 ≤ a.t ∧ a.t < ((st'.1.length : Nat) : Int) := fun a ha => (h'.rngD 0 0 a ha).2.1
    constructor
    · rintro ⟨hnil, hall⟩ v c
      cases v with
      | nil => exact hnil c
      | cons z u =>
        have hS : ∀ z : Int, 1 ≤ z ∧ z ≤ 9 → alkS2 U W vs V Y ys f i k x y (z - 1).toNat = true := fun z hz => hall _ (List.mem_range.2 (by omega))
        have key : ∀ z : Int, 1 ≤ z ∧ z ≤ 9 → (0 ≤ onI W i z ∨ 0 ≤ onI Y k z) → 0 ≤ onI W i z ∧ 0 ≤ onI Y k z ∧ alkW2 U W vs V Y ys f (onI W i z).toNat (onI Y k z).toNat x y = true := fun z hz ho => by
          have g := hS z hz
          unfold alkS2 at g
          rw [show (((z - 1).toNat : Nat) : Int) + 1 = z by omega] at g
          by_cases o1 : 0 ≤ onI W i z
          · by_cases o2 : 0 ≤ onI Y k z
            · rw [decide_eq_false (show ¬ onI W i z < 0 by omega), decide_eq_false (show ¬ onI Y k z < 0 by omega), if_neg (by simp), if_pos o1] at g
              exact ⟨o1, o2, g⟩
            · rw [decide_eq_false (show ¬ onI W i z < 0 by omega), decide_eq_true (show onI Y k z < 0 by omega)] at g
              simp at g
          · have o2 : 0 ≤ onI Y k z := by omega
            rw [decide_eq_true (show onI W i z < 0 by omega), decide_eq_false (show ¬ onI Y k z < 0 by omega)] at g
            simp at g
        constructor
        · intro hc
          obtain ⟨a, ha, g1, g2, g3⟩ := CW.cons.1 hc
          have hz := (h.rngD 0 0 a ha).2.2.1
          rw [g2] at hz
          obtain ⟨o1, o2, o3⟩ := key z hz (.inl (on_no h hw hi hrq ha g1 g2))
          obtain ⟨a', ha', p1, p2, _, p4, _, p6⟩ := on_yes h hw hi hrq o1
          obtain ⟨b, hb, r1, r2, _, r4, _, r6⟩ := on_yes h' hw' hk hrr o2
          have := (h.detD 0 0).one a ha a' ha' (g1.trans p1.symm) (g2.trans p2.symm)
          subst this
          have ra := hrng a ha
          have rb := hrng' b hb
          have ea : ((a.t.toNat : Nat) : Int) = a.t := by omega
          have eb : ((b.t.toNat : Nat) : Int) = b.t := by omega
          have ih := (alk2_iff f _ _ x y a.t.toNat b.t.toNat (d + a.w) (e + b.w) p4.2 r4.2 (by omega) (by omega) (by omega) (by rw [ea]; exact p6) (by rw [eb]; exact r6)).1 o3 u c
          rw [ea, eb] at ih
          refine CW.cons.2 ⟨b, hb, r1, r2, ?_⟩
          rw [show c + (y - e) - b.w = c + (y - (e + b.w)) by omega]
          exact ih.1 (by rw [show c + (x - (d + a.w)) = c + (x - d) - a.w by omega]; exact g3)
        · intro hc
          obtain ⟨b, hb, g1, g2, g3⟩ := CW.cons.1 hc
          have hz := (h'.rngD 0 0 b hb).2.2.1
          rw [g2] at hz
          obtain ⟨o1, o2, o3⟩ := key z hz (.inr (on_no h' hw' hk hrr hb g1 g2))
          obtain ⟨a, ha, p1, p2, _, p4, _, p6⟩ := on_yes h hw hi hrq o1
          obtain ⟨b', hb', r1, r2, _, r4, _, r6⟩ := on_yes h' hw' hk hrr o2
          have := (h'.detD 0 0).one b hb b' hb' (g1.trans r1.symm) (g2.trans r2.symm)
          subst this
          have ra := hrng a ha
          have rb := hrng' b hb
          have ea : ((a.t.toNat : Nat) : Int) = a.t := by omega
          have eb : ((b.t.toNat : Nat) : Int) = b.t := by omega
          have ih := (alk2_iff f _ _ x y a.t.toNat b.t.toNat (d + a.w) (e + b.w) p4.2 r4.2 (by omega) (by omega) (by omega) (by rw [ea]; exact p6) (by rw [eb]; exact r6)).1 o3 u c
          rw [ea, eb] at ih
          refine CW.cons.2 ⟨a, ha, p1, p2, ?_⟩
          rw [show c + (x - d) - a.w = c + (x - (d + a.w)) by omega]
          exact ih.2 (by rw [show c + (y - (e + b.w)) = c + (y - e) - b.w by omega]; exact g3)
    · intro hall
      refine ⟨fun c => hall [] c, fun z hz => ?_⟩
      have hz := List.mem_range.1 hz
      have s1 : 0 ≤ onI W i ((z : Int) + 1) → 0 ≤ onI Y k ((z : Int) + 1) := fun o1 => by
        obtain ⟨a, ha, p1, p2, _, p4, _, p6⟩ := on_yes h hw hi hrq o1
        have ra := hrng a ha
        obtain ⟨v, c, hv⟩ := h.coA ha
        have := (hall (((z : Int) + 1) :: v) (c + a.w - (x - d))).1 (CW.cons.2 ⟨a, ha, p1, p2, by rw [show c + a.w - (x - d) + (x - d) - a.w = c by omega]; exact hv⟩)
        obtain ⟨b, hb, g1, g2, _⟩ := CW.cons.1 this
        exact on_no h' hw' hk hrr hb g1 g2
      have s2 : 0 ≤ onI Y k ((z : Int) + 1) → 0 ≤ onI W i ((z : Int) + 1) := fun o1 => by
        obtain ⟨b, hb, p1, p2, _, p4, _, p6⟩ := on_yes h' hw' hk hrr o1
        have ra := hrng' b hb
        obtain ⟨v, c, hv⟩ := h'.coA hb
        have := (hall (((z : Int) + 1) :: v) (c + b.w - (y - e))).2 (CW.cons.2 ⟨b, hb, p1, p2, by rw [show c + b.w - (y - e) + (y - e) - b.w = c by omega]; exact hv⟩)
        obtain ⟨a, ha, g1, g2, _⟩ := CW.cons.1 this
        exact on_no h hw hi hrq ha g1 g2
      unfold alkS2
      by_cases o1 : 0 ≤ onI W i ((z : Int) + 1)
      · have o2 := s1 o1
        rw [decide_eq_false (show ¬ onI W i ((z : Int) + 1) < 0 by omega), decide_eq_false (show ¬ onI Y k ((z : Int) + 1) < 0 by omega), if_neg (by simp), if_pos o1]
        obtain ⟨a, ha, p1, p2, _, p4, _, p6⟩ := on_yes h hw hi hrq o1
        obtain ⟨b, hb, r1, r2, _, r4, _, r6⟩ := on_yes h' hw' hk hrr o2
        have ra := hrng a ha
        have rb := hrng' b hb
        have ea : ((a.t.toNat : Nat) : Int) = a.t := by omega
        have eb : ((b.t.toNat : Nat) : Int) = b.t := by omega
        refine (alk2_iff f _ _ x y a.t.toNat b.t.toNat (d + a.w) (e + b.w) p4.2 r4.2 (by omega) (by omega) (by omega) (by rw [ea]; exact p6) (by rw [eb]; exact r6)).2 fun v c => ?_
        rw [ea, eb]
        have hv := hall (((z : Int) + 1) :: v) c
        constructor
        · intro g
          obtain ⟨b', hb', t1, t2, t3⟩ := CW.cons.1 (hv.1 (CW.cons.2 ⟨a, ha, p1, p2, by rw [show c + (x - d) - a.w = c + (x - (d + a.w)) by omega]; exact g⟩))
          have := (h'.detD 0 0).one b hb b' hb' (r1.trans t1.symm) (r2.trans t2.symm)
          subst this
          rwa [show c + (y - e) - b.w = c + (y - (e + b.w)) by omega] at t3
        · intro g
          obtain ⟨a', ha', t1, t2, t3⟩ := CW.cons.1 (hv.2 (CW.cons.2 ⟨b, hb, r1, r2, by rw [show c + (y - e) - b.w = c + (y - (e + b.w)) by omega]; exact g⟩))
          have := (h.detD 0 0).one a ha a' ha' (p1.trans t1.symm) (p2.trans t2.symm)
          subst this
          rwa [show c + (x - d) - a.w = c + (x - (d + a.w)) by omega] at t3
      · have o2 : ¬ 0 ≤ onI Y k ((z : Int) + 1) := fun c => o1 (s2 c)
        rw [decide_eq_true (show onI W i ((z : Int) + 1) < 0 by omega), decide_eq_true (show onI Y k ((z : Int) + 1) < 0 by omega), if_neg (by simp), if_neg o1]
end
section
variable {F U : TF} {st : DS} (h : DetH F U st) (h12 : F.st ≤ 12) (hn : ∃ w c, CW U U.start w c) {W vs : List (List Int)} {par sym : List Int} (hw : WSt U W vs par sym W.length 1)
def dsD (U : TF) (st : DS) (q : Nat) : Int := (onS (mkD U st 0 0)).1.getD q 0
include h h12 hn
theorem dsD_is {q : Nat} (hq : q < st.1.length) : MinOf (fun c => ∃ w, CW (mkD U st 0 0) q w c) (dsD U st q) ∧ 0 ≤ dsD U st q ∧ dsD U st q ≤ 100000000000 := by
  have hB := (h.fokB h12 0 0).1
  have hm := onS_min hB (q := q) (by show q < ((st.1.length : Nat) : Int).toNat; omega)
  obtain ⟨w, c, hc⟩ := h.co hn 0 0 hq
  have h1 := hm.le ⟨w, hc⟩
  have hlow := hm.low
  obtain ⟨v, hv⟩ := hm.is h1.1
  refine ⟨hm, by unfold dsD; omega, ?_⟩
  obtain ⟨w0, d0, hr⟩ := h.ri.rch q hq
  obtain ⟨t, d, k1, k2, k3⟩ := hv
  have hall : CW (mkD U st 0 0) 0 (w0 ++ v) (d0 + (dsD U st q)) := ⟨t, d0 + d, hr.app k1, k2, by unfold dsD; omega⟩
  have hd0 := (h.ri.sub h.hU hr).r0
  obtain ⟨t2, d2, k4, k5, k6⟩ := (h.cw1 hall).is (by have := CW.pos hB _ _ _ hall; omega)
  have := (h.short h12 k4).2
  have hfu : U.fin.getD t2.toNat 0 ≤ 1000000000 := by
    by_cases hj : t2.toNat < U.fin.length
    · exact (h.uok.1.fin _ (getD_mem U.fin _ 0 hj)).2
    · simp only [List.getD, List.getElem?_eq_none (show U.fin.length ≤ t2.toNat by omega), Option.getD_none]; omega
  omega
include hw
theorem bst_is {j : Nat} (hj : j < W.length) {q : Nat} {d : Int} (hq : q < st.1.length) (hr : RdW st.2 0 (W.getD j []) q d) : bstW U W vs W.length j = d + dsD U st q := by
  have hm := bst_min h hw W.length j hj (by omega)
  obtain ⟨d1, d2, _⟩ := dsD_is h h12 hn hq
  have hd0 := (h.ri.sub h.hU hr).r0
  have hB := (h.fokB h12 0 0).1
  refine hm.eq (Q := fun c => ∃ v, CW U U.start (W.getD j [] ++ v) c) ?_ fun c => Iff.rfl
  have hsum : MinOf (fun c => ∃ v, CW (mkD U st 0 0) 0 (W.getD j [] ++ v) c) (d + dsD U st q) := by
    refine .inr ⟨by omega, ?_, ?_⟩
    · obtain ⟨v, t, e, k1, k2, k3⟩ := d1.is (by omega)
      exact ⟨v, t, d + e, hr.app k1, k2, by omega⟩
    · rintro c ⟨v, t, e, k1, k2, k3⟩
      obtain ⟨q', x, y, l1, l2, l3⟩ := RdW.split k1
      obtain ⟨rfl, rfl⟩ := RdW.det (h.detD 0 0) l1 hr
      have := (d1.le (c := y + (mkD U st 0 0).fin.getD t.toNat 0) ⟨v, t, y, l2, k2, rfl⟩).2
      omega
  refine hsum.dom (fun c ⟨v, hv⟩ => ⟨v, (h.cw1 hv).is (by have := CW.pos hB _ _ _ hv; omega)⟩) fun c ⟨v, hv⟩ => ?_
  obtain ⟨m, h1, h2⟩ := h.cw2 (cf := 0) (ca := 0) hv
  exact ⟨m, h1, v, h2⟩
omit hn in
theorem alk_iff (i k : Nat) (x y : Int) (q r : Nat) (d e : Int) (hi : i < W.length) (hk : k < W.length) (hq : q < st.1.length) (hr : r < st.1.length) (hrq : RdW st.2 0 (W.getD i []) q d) (hrr : RdW st.2 0 (W.getD k []) r e) :
    alkW U W vs W.length i k x y = true ↔ ∀ v c, CW (mkD U st 0 0) q v (c + (x - d)) ↔ CW (mkD U st 0 0) r v (c + (y - e)) := by
  rw [alkW_eq]
  exact alk2_iff h h12 hw h h12 hw W.length i k x y q r d e hi hk (by omega) hq hr hrq hrr
theorem lsA_iff {c1 c2 : Nat} {cls : List Int} (hc : ClsOk (phT (mkD U st 0 0) c1 c2) cls) {i k : Nat} (hi : i < W.length) (hk : k < W.length) {q r : Nat} {d e : Int} (hq : q < st.1.length) (hr : r < st.1.length) (hrq : RdW st.2 0 (W.getD i []) q d) (hrr : RdW st.2 0 (W.getD k []) r e) :
    lsA U W vs i k = true ↔ cls.getD q 0 = cls.getD r 0 := by
  have hB := (h.fokB h12 0 0).1
  have b1 := bst_is h h12 hn hw hi hq hrq
  have b2 := bst_is h h12 hn hw hk hr hrr
  have hX := ph_dfst hB (c1 := c1) (c2 := c2) fun q hq => by
    have hq : q < ((st.1.length : Nat) : Int).toNat := hq
    have := dsD_is h h12 hn (q := q) (by omega)
    unfold dsD at this
    omega
  have hXd := ph_det (c1 := c1) (c2 := c2) (h.detD 0 0)
  have hXp := ph_psh hB (c1 := c1) (c2 := c2) fun q hq => by
    have hq : q < ((st.1.length : Nat) : Int).toNat := hq
    exact h.co hn 0 0 (by omega)
  have hXr := ph_round (c1 := c1) (c2 := c2) (h.round 0 0)
  have hst2 : (phT (mkD U st 0 0) c1 c2).st = ((st.1.length : Nat) : Int) := rfl
  unfold lsA
  rw [alk_iff h h12 hw i k _ _ q r d e hi hk hq hr hrq hrr, b1, b2]
  have conv : ∀ (q : Nat) (hq : q < st.1.length) (v : List Int) (c : Int), CW (phT (mkD U st 0 0) c1 c2) q v c ↔ CW (mkD U st 0 0) q v (c + dsD U st q) := fun q hq v c => by
    have := ph_cw hB (c1 := c1) (c2 := c2) v (q : Int) c ⟨by omega, by show (q : Int) < ((st.1.length : Nat) : Int); omega⟩
    rw [Int.toNat_natCast] at this
    exact this
  have e1 : ∀ x y : Int, x + y - x = y := fun x y => by omega
  rw [e1, e1]
  have hlv : ∀ q : Nat, q < st.1.length → LvA (phT (mkD U st 0 0) c1 c2).arcs ((phT (mkD U st 0 0) c1 c2).st.toNat) q := fun q hq =>
    LvA.all (fun a ha => by have := hX.arc a ha; have := hX.st; omega) hXr ⟨by omega, by rw [hst2]; omega⟩
  constructor
  · intro hall
    exact cw_cls hX hc hXd hXp _ q r (by rw [hst2]; omega) (by rw [hst2]; omega) (hlv q hq) (hlv r hr) fun v c => by
      rw [conv q hq, conv r hr]
      exact hall v c
  · intro he v c
    rw [← conv q hq, ← conv r hr]
    exact ⟨cls_cw hX hc v q r c (by rw [hst2]; omega) (by rw [hst2]; omega) he, cls_cw hX hc v r q c (by rw [hst2]; omega) (by rw [hst2]; omega) he.symm⟩
end
end Go.Fw

namespace Go.Fw
open Go Go.Proofs
def leastE (F : TF) : Int := if fstE F ≠ 0 then fstE F else if 12 < F.st then 2 else if fineB F = true then 0 else 4
def IsLs (U : TF) (st : DS) (n : Nat) (ff : List Int) (oo : List Arc) : Prop :=
  (¬ (∃ w c, CW U U.start w c) ∧ n = 1 ∧ ff = [-1] ∧ oo = []) ∨
  ((∃ w c, CW U U.start w c) ∧ ∃ c1 c2 cls left outs, ClsOk (phT (mkD U st 0 0) c1 c2) cls ∧ mgRows (phT (mkD U st 0 0) c1 c2) cls left.length = (left, outs) ∧
    (∀ j, j < left.length → j < (mgRows (phT (mkD U st 0 0) c1 c2) cls j).1.length) ∧ MgI (phT (mkD U st 0 0) c1 c2) cls (left, outs) ∧ n = left.length ∧ ff = adF (dsD U st 0) (left.map (fiA (phT (mkD U st 0 0) c1 c2))) ∧ oo = outs.map (adA (dsD U st 0)))
def LeastPost (F : TF) (x : Obj) (v : SV) (s : S) : Prop :=
  (leastE F ≠ 0 ∧ v = .tup [.agg zero25, .c (.i (leastE F))] ∧ s = ⟨[], [(2, tabO x)], 3⟩) ∨
  (leastE F = 0 ∧ ∃ U, IsUs F U ∧
    ((200 < bgnF U 201 200 [⟨U.start, 0⟩] ∧ v = .tup [.agg zero25, .c (.i 2)] ∧ s = ⟨[], [(2, tabO x)], 3⟩) ∨
     (bgnF U 201 200 [⟨U.start, 0⟩] ≤ 200 ∧ ∃ st : DS, MDone U st ∧ ∃ n ff oo, IsLs U st n ff oo ∧
       ((greatB oo ff = true ∧ v = .tup [.agg zero25, .c (.i 2)] ∧ s = ⟨[], [(2, tabO x)], 3⟩) ∨
        (greatB oo ff = false ∧ ∃ sp sq, v = .tup [.agg [.i (n : Nat), .i 0, .sl 3 1 0 ff.length (ff.length + sp), .sl 4 5 0 oo.length (oo.length + sq)], .c (.i 0)] ∧
          s = ⟨[], [(2, tabO x), (3, .arr true 3 .int ff sp), (4, .arr true 50 .arc oo sq)], 5⟩)))))
set_option maxHeartbeats 16000000 in
set_option maxRecDepth 20000 in
theorem least_c (F : TF) (hl : F.fin.length ≤ 9223372036854775807) (x : Obj) (hx : TabX x) : Ct Tryd.prog 46 [fV F] [] (hpF F ++ [(2, tabO x)]) 3 (LeastPost F x) := by
  by_cases h : fstE F = 0
  · have hF := fstE_ok h
    have hst := hF.st
    have hss := hF.start
    by_cases h12 : 12 < F.st
    · have hd : leastE F = 2 := by unfold leastE; rw [if_neg (fun c => c h), if_pos h12]
      refine ctW Tryd.tyOk 10 [] Tryd.func46 rfl (by simp) (by simp) (fr := [(0, fV F)]) rfl ?_
      repeat' (first | exact rfl | ((conv => whnf); first | (refine qX (fun h => ?_) fun h => ?_ <;> try exact absurd h (by omega)) | refine oN ?_ | refine oM ?_ ?_ | refine bM ?_ ?_ | refine dR ?_))
      refine cI (check_c F hl) [0, 1] Tryd.call29 ?_
      rw [h]
      repeat' (first | exact rfl | ((conv => whnf); first | (refine qX (fun h => ?_) fun h => ?_ <;> try exact absurd h (by omega)) | refine oN ?_ | refine oM ?_ ?_ | refine bM ?_ ?_ | refine dR ?_))
      all_goals
        first
        | (exfalso; omega)
        | ((conv => whnf)
           exact ⟨[], [(2, tabO x)], 3, .tup [.agg zero25, .c (.i 2)], ⟨by rfl, trivial, by simp⟩, by simp, .inl ⟨by rw [hd]; decide, by rw [hd], rfl⟩⟩)
    · by_cases hf : fineB F = true
      · have hd : leastE F = 0 := by unfold leastE; rw [if_neg (fun c => c h), if_neg h12, if_pos hf]
        refine ctW Tryd.tyOk 10 [] Tryd.func46 rfl (by simp) (by simp) (fr := [(0, fV F)]) rfl ?_
        repeat' (first | exact rfl | ((conv => whnf); first | (refine qX (fun h => ?_) fun h => ?_ <;> try exact absurd h (by omega)) | refine oN ?_ | refine oM ?_ ?_ | refine bM ?_ ?_ | refine dR ?_))
        refine cI (check_c F hl) [0, 1] Tryd.call29 ?_
        rw [h]
        repeat' (first | exact rfl | ((conv => whnf); first | (refine qX (fun h => ?_) fun h => ?_ <;> try exact absurd h (by omega)) | refine oN ?_ | refine oM ?_ ?_ | refine bM ?_ ?_ | refine dR ?_))
        all_goals try (exfalso; omega)
        (conv => whnf)
        refine cI (fine_c F (FRng.of hF)) [0, 1] Tryd.call36 ?_
        rw [hf]
        repeat' (first | exact rfl | ((conv => whnf); first | (refine qX (fun h => ?_) fun h => ?_ <;> try exact absurd h (by omega)) | refine oN ?_ | refine oM ?_ ?_ | refine bM ?_ ?_ | refine dR ?_))
        (conv => whnf)
        refine cF (made_c F (WOk.of hF) (by omega) (by omega) x hx) [0, 1, 2] Tryd.call37 ?_
        rintro v s ⟨U, hus, ⟨h1, rfl, rfl⟩ | ⟨h1, st, hmd, sp, sq, rfl, rfl⟩⟩
        · simp only [Nat.reduceAdd, Nat.reduceSub]
          repeat' (first | exact rfl | ((conv => whnf); first | (refine qX (fun h => ?_) fun h => ?_ <;> try exact absurd h (by omega)) | refine oN ?_ | refine oM ?_ ?_ | refine bM ?_ ?_ | refine dR ?_ | intro _))
          (conv => whnf)
          exact ⟨[], [(2, tabO x)], 3, .tup [.agg zero25, .c (.i 2)], ⟨by rfl, trivial, by simp⟩, by simp, .inr ⟨hd, U, hus, .inl ⟨h1, rfl, rfl⟩⟩⟩
        · have hD : DetH F U st := ⟨hF, hf, hus, h1, hmd⟩
          have hle : F.st ≤ 12 := by omega
          have hB := fun cf ca => (hD.fokB hle cf ca).1
          obtain ⟨_, hs1, hs2⟩ := hD.small
          have hdec : ∀ v s, (∃ n ff oo, IsLs U st n ff oo ∧ ((greatB oo ff = true ∧ v = .tup [.agg zero25, .c (.i 2)] ∧ s = ⟨[], [(2, tabO x)], 3⟩) ∨
              (greatB oo ff = false ∧ ∃ sp sq, v = .tup [.agg [.i (n : Nat), .i 0, .sl 3 1 0 ff.length (ff.length + sp), .sl 4 5 0 oo.length (oo.length + sq)], .c (.i 0)] ∧
              s = ⟨[], [(2, tabO x), (3, .arr true 3 .int ff sp), (4, .arr true 50 .arc oo sq)], 5⟩))) → LeastPost F x v s := fun v s hp => .inr ⟨hd, U, hus, .inr ⟨h1, st, hmd, hp⟩⟩
          by_cases hn : ∃ w c, CW U U.start w c
          · have c63 : ∀ cf ca, Ct Tryd.prog 63 [.a (.agg [.i (st.1.length : Nat), .i 0, .sl 0 1 0 (st.1.map (finD U)).length cf, .sl 1 5 0 st.2.length ca])] [] [(0, .arr false 3 .int (st.1.map (finD U)) 0), (1, .arr false 50 .arc st.2 0)] 2 (OutPost (st.1.length : Nat) 0 (st.1.map (finD U)) st.2 2) := fun cf ca =>
              (useful_c (mkD U st cf ca) (FRng.ofB (hB cf ca)) (hB cf ca).start).to fun v s ⟨p, hp, ho⟩ => by rw [hD.all hle hn hp] at ho; exact ho
            have d0 := dsD_is hD hle hn (q := 0) (by have := hD.ri.len; omega)
            have c73 : ∀ cf ca, Ct Tryd.prog 73 [.a (.agg [.i (st.1.length : Nat), .i 0, .sl 0 1 0 (st.1.map (finD U)).length cf, .sl 1 5 0 st.2.length ca])] [] [(0, .arr false 3 .int (st.1.map (finD U)) 0), (1, .arr false 50 .arc st.2 0)] 2
                (fun v s => ∃ sp sp', v = .tup [.agg [.i (st.1.length : Nat), .i 0, .sl 2 1 0 (st.1.map (finD U)).length ((st.1.map (finD U)).length + sp), .sl 3 5 0 (phT (mkD U st 0 0) 0 0).arcs.length ((phT (mkD U st 0 0) 0 0).arcs.length + sp')], .c (.i (dsD U st 0))] ∧
                  s = ⟨[], [(2, .arr true 3 .int (phT (mkD U st 0 0) 0 0).fin sp), (3, .arr true 50 .arc (phT (mkD U st 0 0) 0 0).arcs sp')], 4⟩) := fun cf ca =>
              (pushed_cB (mkD U st cf ca) (hB cf ca)).to fun v s hp => by
                have : ¬ (onS (mkD U st cf ca)).1.getD (mkD U st cf ca).start.toNat 0 = -1 := fun e => by
                  have e : dsD U st 0 = -1 := e
                  omega
                rw [if_neg this] at hp
                exact hp
            have hX := fun c1 c2 => ph_dfst (hB 0 0) (c1 := c1) (c2 := c2) fun q hq => by
              have hq : q < ((st.1.length : Nat) : Int).toNat := hq
              have := dsD_is hD hle hn (q := q) (by omega)
              unfold dsD at this
              omega
            have hXr := fun c1 c2 => ph_round (c1 := c1) (c2 := c2) (hD.round 0 0)
            have c75 : ∀ c1 c2, Ct Tryd.prog 75 [.a (.agg [.i (st.1.length : Nat), .i 0, .sl 0 1 0 (phT (mkD U st 0 0) 0 0).fin.length c1, .sl 1 5 0 (phT (mkD U st 0 0) 0 0).arcs.length c2])] [] [(0, .arr false 3 .int (phT (mkD U st 0 0) 0 0).fin 0), (1, .arr false 50 .arc (phT (mkD U st 0 0) 0 0).arcs 0), (2, tabO x)] 3
                (fun v s => ∃ cls, ClsOk (phT (mkD U st 0 0) c1 c2) cls ∧ v = .c (.sl 3 1 0 cls.length cls.length) ∧ s = ⟨[], [(2, tabO x), (3, .arr true 3 .int cls 0)], 4⟩) := fun c1 c2 =>
              classes_c (phT (mkD U st 0 0) c1 c2) (hX c1 c2) (hXr c1 c2) x hx
            have c76 : ∀ c1 c2 cls, ClsOk (phT (mkD U st 0 0) c1 c2) cls → Ct Tryd.prog 76 [.c (.ptr 2 0), .i (dsD U st 0)] [] [(0, .arr false 3 .int (phT (mkD U st 0 0) 0 0).fin 0), (1, .arr false 50 .arc (phT (mkD U st 0 0) 0 0).arcs 0), (2, .box 101 [.i (st.1.length : Nat), .i 0, .sl 0 1 0 (phT (mkD U st 0 0) 0 0).fin.length c1, .sl 1 5 0 (phT (mkD U st 0 0) 0 0).arcs.length c2, .sl 3 1 0 cls.length cls.length, .mp 4, .v (.slice none 0 0), .i 0, .i 0, .v (.slice none 0 0), .v (.slice none 0 0)]), (3, .arr false 3 .int cls 0), (4, .map .int .int [] 0)] 5
                (fun v s => ∃ n ff oo, IsLs U st n ff oo ∧ n ≤ 100000 ∧ ff.length ≤ 100000 ∧ oo.length ≤ 9223372036854775807 ∧ ∃ fsp asp, v = .a (.agg [.i (n : Nat), .i 0, .sl 5 1 0 ff.length (ff.length + fsp), .sl 6 5 0 oo.length (oo.length + asp)]) ∧ s = ⟨[], [(5, .arr true 3 .int ff fsp), (6, .arr true 50 .arc oo asp)], 7⟩) := fun c1 c2 cls hc =>
              (merge_c (phT (mkD U st 0 0) c1 c2) (hX c1 c2) ⟨Int.le_refl _, by show (0 : Int) < ((st.1.length : Nat) : Int); have := hD.ri.len; omega⟩ cls cls.length hc.len hc.bd (dsD U st 0) (by omega)).to fun v s ⟨left, outs, fsp, asp, m1, m2, m3, m4, m5⟩ =>
                ⟨left.length, _, _, .inr ⟨hn, c1, c2, cls, left, outs, hc, m1, m2, m3, rfl, rfl, rfl⟩, by
                  have := m3.le (hX c1 c2).st.1 hc.bd
                  have e : (phT (mkD U st 0 0) c1 c2).st = ((st.1.length : Nat) : Int) := rfl
                  simp only at this
                  omega, by
                  have := m3.le (hX c1 c2).st.1 hc.bd
                  have e : (phT (mkD U st 0 0) c1 c2).st = ((st.1.length : Nat) : Int) := rfl
                  have e2 : (adF (dsD U st 0) (left.map (fiA (phT (mkD U st 0 0) c1 c2)))).length = left.length := by unfold adF; split <;> simp
                  simp only at this
                  omega, by
                  have hk : ∀ k, (mgRows (phT (mkD U st 0 0) c1 c2) cls k).2.length ≤ k * (phT (mkD U st 0 0) c1 c2).arcs.length := fun k => by
                    induction k with
                    | zero => simp [mgRows]
                    | succ k ih =>
                      have := (mgP_len (D := phT (mkD U st 0 0) c1 c2) (cls := cls) (i := k) (s := (mgRows (phT (mkD U st 0 0) c1 c2) cls k).1.getD k 0) (st := mgRows (phT (mkD U st 0 0) c1 c2) cls k) (phT (mkD U st 0 0) c1 c2).arcs.length).1
                      show (mgP _ _ _ _ _ _).2.length ≤ _
                      rw [Nat.succ_mul]
                      omega
                  have h2 := hk left.length
                  rw [m1] at h2
                  have h3 := m3.le (hX c1 c2).st.1 hc.bd
                  have e : (phT (mkD U st 0 0) c1 c2).st = ((st.1.length : Nat) : Int) := rfl
                  simp only at h2 h3
                  have h4 : left.length * (phT (mkD U st 0 0) c1 c2).arcs.length ≤ 200 * (phT (mkD U st 0 0) c1 c2).arcs.length := Nat.mul_le_mul_right _ (by omega)
                  have h5 := (hX c1 c2).arc1
                  rw [List.length_map]
                  omega, fsp, asp, m4, m5⟩
            have hpl : (phT (mkD U st 0 0) 0 0).fin.length = (st.1.map (finD U)).length := pushF_len _ _ _
            have hfl : (st.1.map (finD U)).length ≤ 200 := by rw [List.length_map]; omega
            have hal : (phT (mkD U st 0 0) 0 0).arcs.length ≤ 10000 := (hX 0 0).arc1
            clear hX hXr hB
            generalize (phT (mkD U st 0 0) 0 0).fin = pf at *
            generalize (phT (mkD U st 0 0) 0 0).arcs = pl at *
            simp only [hpl] at c75 c76
            generalize hcl : ClsOk = CO at *
            clear hcl
            generalize st.1.map (finD U) = fins at *
            generalize ((st.1.length : Nat) : Int) = nst at *
            generalize st.2 = raw at *
            generalize dsD U st 0 = more at *
            simp only [Nat.reduceAdd, Nat.reduceSub]
            repeat' (first | exact rfl | ((conv => whnf); first | (refine qX (fun h => ?_) fun h => ?_ <;> try exact absurd h (by omega)) | refine oN ?_ | refine oM ?_ ?_ | refine bM ?_ ?_ | refine dR ?_ | intro _))
            (conv => whnf)
            refine cF (c63 (fins.length + sp) (raw.length + sq)) [5, 6] Tryd.call63 ?_
            rintro _ _ ⟨sp1, sq1, rfl, rfl⟩
            simp only [Nat.reduceAdd, Nat.reduceSub]
            repeat' (first | exact rfl | ((conv => whnf); first | (refine qX (fun h => ?_) fun h => ?_ <;> try exact absurd h (by omega)) | refine oN ?_ | refine oM ?_ ?_ | refine bM ?_ ?_ | refine dR ?_ | intro _))
            (conv => whnf)
            simp only [Nat.reduceAdd, Nat.reduceSub]
            refine cF (c73 (fins.length + sp1) (raw.length + sq1)) [8, 9] Tryd.call73 ?_
            rintro _ _ ⟨sp2, sq2, rfl, rfl⟩
            try simp only [Nat.reduceAdd, Nat.reduceSub]
            repeat' (first | exact rfl | ((conv => whnf); first | (refine qX (fun h => ?_) fun h => ?_ <;> try exact absurd h (by omega)) | refine oN ?_ | refine oM ?_ ?_ | refine bM ?_ ?_ | refine dR ?_ | intro _))
            all_goals
              (conv => whnf)
              simp only [Nat.reduceAdd, Nat.reduceSub]
              refine cF (c75 (fins.length + sp2) (pl.length + sq2)) [10, 11, 2] Tryd.call75 ?_
              rintro _ _ ⟨cls, hcls, rfl, rfl⟩
              repeat' (first | exact rfl | ((conv => whnf); first | (refine qX (fun h => ?_) fun h => ?_ <;> try exact absurd h (by omega)) | refine oN ?_ | refine oM ?_ ?_ | refine bM ?_ ?_ | refine dR ?_ | intro _))
              (conv => whnf)
              try simp only [Nat.reduceAdd, Nat.reduceSub]
            refine cF (c76 (fins.length + sp2) (pl.length + sq2) cls hcls) [10, 11, 14, 12, 13] Tryd.call76 ?_
            rotate_left
            refine cF (c76 (fins.length + sp2) (pl.length + sq2) cls hcls) [10, 11, 14, 13, 12] Tryd.call76 ?_
            rotate_left
            all_goals
              rintro _ _ ⟨n, ff, oo, hls, hn1, hf1, ho1, fsp, asp, rfl, rfl⟩
              repeat' (first | exact rfl | ((conv => whnf); first | (refine qX (fun h => ?_) fun h => ?_ <;> try exact absurd h (by omega)) | refine oN ?_ | refine oM ?_ ?_ | refine bM ?_ ?_ | refine dR ?_ | intro _))
              (conv => whnf)
              try simp only [Nat.reduceAdd, Nat.reduceSub]
              have hgc := great_c ⟨(n : Nat), 0, ff, oo, ff.length + fsp, oo.length + asp⟩ ho1 (by simp only; omega)
              refine cI (hgc) [15, 16] Tryd.call38 ?_
              simp only
              cases hg : greatB oo ff with
              | true =>
                repeat' (first | exact rfl | ((conv => whnf); first | (refine qX (fun h => ?_) fun h => ?_ <;> try exact absurd h (by omega)) | refine oN ?_ | refine oM ?_ ?_ | refine bM ?_ ?_ | refine dR ?_))
                (conv => whnf)
                exact ⟨[], [(2, tabO x)], 3, .tup [.agg zero25, .c (.i 2)], ⟨by rfl, trivial, by simp⟩, by simp, hdec _ _ ⟨n, ff, oo, hls, .inl ⟨hg, rfl, rfl⟩⟩⟩
              | false =>
                repeat' (first | exact rfl | ((conv => whnf); first | (refine qX (fun h => ?_) fun h => ?_ <;> try exact absurd h (by omega)) | refine oN ?_ | refine oM ?_ ?_ | refine bM ?_ ?_ | refine dR ?_))
                (conv => whnf)
                exact ⟨[(3, some 15), (4, some 16)], [(2, tabO x), (3, .arr true 3 .int ff fsp), (4, .arr true 50 .arc oo asp)], 5, .tup [.agg [.i (n : Nat), .i 0, .sl 3 1 0 ff.length (ff.length + fsp), .sl 4 5 0 oo.length (oo.length + asp)], .c (.i 0)], ⟨by rfl, trivial, by simp⟩, by simp, hdec _ _ ⟨n, ff, oo, hls, .inr ⟨hg, fsp, asp, rfl, rfl⟩⟩⟩
          · have c63 : ∀ cf ca, Ct Tryd.prog 63 [.a (.agg [.i (st.1.length : Nat), .i 0, .sl 0 1 0 (st.1.map (finD U)).length cf, .sl 1 5 0 st.2.length ca])] [] [(0, .arr false 3 .int (st.1.map (finD U)) 0), (1, .arr false 50 .arc st.2 0)] 2 (fun v s => ∃ ts tr tf ta, OutPost ts tr tf ta 2 v s ∧
                ∀ c1 c2, FOkB ⟨ts, tr, tf, ta, c1, c2⟩ ∧ (onS ⟨ts, tr, tf, ta, c1, c2⟩).1.getD tr.toNat 0 = -1) := fun cf ca =>
              (useful_c (mkD U st cf ca) (FRng.ofB (hB cf ca)) (hB cf ca).start).to fun v s ⟨p, hp, ho⟩ => ⟨_, _, _, _, ho, fun c1 c2 => ⟨kT_okB (hB cf ca) p c1 c2, hD.none hle hn hp c1 c2⟩⟩
            have hls : IsLs U st 1 [-1] [] := .inl ⟨hn, rfl, rfl, rfl⟩
            clear hB
            generalize st.1.map (finD U) = fins at *
            generalize ((st.1.length : Nat) : Int) = nst at *
            generalize st.2 = raw at *
            simp only [Nat.reduceAdd, Nat.reduceSub]
            repeat' (first | exact rfl | ((conv => whnf); first | (refine qX (fun h => ?_) fun h => ?_ <;> try exact absurd h (by omega)) | refine oN ?_ | refine oM ?_ ?_ | refine bM ?_ ?_ | refine dR ?_ | intro _))
            (conv => whnf)
            simp only [Nat.reduceAdd, Nat.reduceSub]
            refine cF (c63 (fins.length + sp) (raw.length + sq)) [5, 6] Tryd.call63 ?_
            rintro _ _ ⟨ts, tr, tf, ta, ⟨sp1, sq1, rfl, rfl⟩, hT⟩
            obtain ⟨hT1, hT2⟩ := hT (tf.length + sp1) (ta.length + sq1)
            have hpu := pushed_cB ⟨ts, tr, tf, ta, tf.length + sp1, ta.length + sq1⟩ hT1
            simp only [hT2, if_pos] at hpu
            clear hT hT2
            simp only [Nat.reduceAdd, Nat.reduceSub]
            repeat' (first | exact rfl | ((conv => whnf); first | (refine qX (fun h => ?_) fun h => ?_ <;> try exact absurd h (by omega)) | refine oN ?_ | refine oM ?_ ?_ | refine bM ?_ ?_ | refine dR ?_ | intro _))
            (conv => whnf)
            refine cF (hpu) [8, 9] Tryd.call73 ?_
            rintro _ _ ⟨sp2, rfl, rfl⟩
            repeat' (first | exact rfl | ((conv => whnf); first | (refine qX (fun h => ?_) fun h => ?_ <;> try exact absurd h (by omega)) | refine oN ?_ | refine oM ?_ ?_ | refine bM ?_ ?_ | refine dR ?_ | intro _))
            (conv => whnf)
            refine cF (nothing_c) [] Tryd.call74 ?_
            rintro _ _ ⟨sp3, sq3, rfl, rfl⟩
            repeat' (first | exact rfl | ((conv => whnf); first | (refine qX (fun h => ?_) fun h => ?_ <;> try exact absurd h (by omega)) | refine oN ?_ | refine oM ?_ ?_ | refine bM ?_ ?_ | refine dR ?_ | intro _))
            (conv => whnf)
            simp only [Nat.reduceAdd, Nat.reduceSub]
            exact ⟨[(3, some 11), (4, some 12)], [(2, tabO x), (3, .arr true 3 .int [-1] sp3), (4, .arr true 50 .arc [] sq3)], 5, .tup [.agg [.i ((1 : Nat) : Int), .i 0, .sl 3 1 0 ([-1] : List Int).length (([-1] : List Int).length + sp3), .sl 4 5 0 ([] : List Arc).length (([] : List Arc).length + sq3)], .c (.i 0)], ⟨by rfl, trivial, by simp⟩, by simp, hdec _ _ ⟨1, [-1], [], hls, .inr ⟨by decide, sp3, sq3, rfl, rfl⟩⟩⟩
      · have hd : leastE F = 4 := by unfold leastE; rw [if_neg (fun c => c h), if_neg h12, if_neg hf]
        have hf2 : fineB F = false := by simpa using hf
        refine ctW Tryd.tyOk 10 [] Tryd.func46 rfl (by simp) (by simp) (fr := [(0, fV F)]) rfl ?_
        repeat' (first | exact rfl | ((conv => whnf); first | (refine qX (fun h => ?_) fun h => ?_ <;> try exact absurd h (by omega)) | refine oN ?_ | refine oM ?_ ?_ | refine bM ?_ ?_ | refine dR ?_))
        refine cI (check_c F hl) [0, 1] Tryd.call29 ?_
        rw [h]
        repeat' (first | exact rfl | ((conv => whnf); first | (refine qX (fun h => ?_) fun h => ?_ <;> try exact absurd h (by omega)) | refine oN ?_ | refine oM ?_ ?_ | refine bM ?_ ?_ | refine dR ?_))
        all_goals try (exfalso; omega)
        (conv => whnf)
        refine cI (fine_c F (FRng.of hF)) [0, 1] Tryd.call36 ?_
        rw [hf2]
        repeat' (first | exact rfl | ((conv => whnf); first | (refine qX (fun h => ?_) fun h => ?_ <;> try exact absurd h (by omega)) | refine oN ?_ | refine oM ?_ ?_ | refine bM ?_ ?_ | refine dR ?_))
        (conv => whnf)
        exact ⟨[], [(2, tabO x)], 3, .tup [.agg zero25, .c (.i 4)], ⟨by rfl, trivial, by simp⟩, by simp, .inl ⟨by rw [hd]; decide, by rw [hd], rfl⟩⟩
  · have hd : leastE F = fstE F := by unfold leastE; rw [if_pos h]
    refine ctW Tryd.tyOk 10 [] Tryd.func46 rfl (by simp) (by simp) (fr := [(0, fV F)]) rfl ?_
    repeat' (first | exact rfl | ((conv => whnf); first | (refine qX (fun h => ?_) fun h => ?_ <;> try exact absurd h (by omega)) | refine oN ?_ | refine oM ?_ ?_ | refine bM ?_ ?_ | refine dR ?_))
    refine cI (check_c F hl) [0, 1] Tryd.call29 ?_
    repeat' (first | exact rfl | ((conv => whnf); first | (refine qX (fun h => ?_) fun h => ?_ <;> try exact absurd h (by omega)) | refine oN ?_ | refine oM ?_ ?_ | refine bM ?_ ?_ | refine dR ?_))
    all_goals
      first
      | (exfalso; omega)
      | ((conv => whnf)
         exact ⟨[], [(2, tabO x)], 3, .tup [.agg zero25, .c (.i (fstE F))], ⟨by rfl, trivial, by simp⟩, by simp, .inl ⟨by rw [hd]; exact h, by rw [hd], rfl⟩⟩)
end Go.Fw

/-
  What score tells is the least of all ways.
-/
namespace Go.Fw
open Go Go.Proofs
theorem fitE_take {l : List Int} {p x : Int} (hp : 0 ≤ p ∧ p ≤ l.length) (h : (fitE l p x).2 = true) : l.take (fitE l p x).1.toNat = l.take p.toNat ++ lab x := by
  unfold fitE lab at *
  by_cases e : x = 0
  · simp [if_pos e]
  · rw [if_neg e] at h ⊢
    rw [if_neg e]
    simp only [decide_eq_true_eq] at h ⊢
    have h1 : (p + 1).toNat = p.toNat + 1 := by omega
    rw [h1, take_succ_getD l p.toNat 0 (by omega), h.2]
section
variable {F : TF} {u v : List Int}
theorem Reach.way (hF : FOk F) {c : Int} {y : Trip} (h : Reach F u v (fromSt F) c y) : InBox F u v y ∧ Way F.arcs F.start (u.take y.b.toNat) (v.take y.c.toNat) y.a c := by
  induction h with
  | here h =>
    obtain ⟨rfl, rfl⟩ := h
    have := hF.start
    refine ⟨⟨this, ⟨Int.le_refl _, ?_⟩, ⟨Int.le_refl _, ?_⟩⟩, .nil _⟩ <;> (show (0 : Int) ≤ _; omega)
  | on h he ih =>
    obtain ⟨hx, hw⟩ := ih
    have hb := he.box hF hx
    refine ⟨hb, ?_⟩
    obtain ⟨a, h1, h2, h3, h4, rfl, rfl⟩ := he
    have ha := List.mem_of_getElem? h1
    rw [← h2] at hw
    simp only
    rw [fitE_take hx.2.1 h3, fitE_take hx.2.2 h4]
    exact hw.snoc ha
end
end Go.Fw

namespace Go.Fw
open Go Go.Proofs
def ScoreP (F : TF) (u v : List Int) (n : Int) : Prop := (scoreE F u v = 0 → MinOf (Wt F u v) n ∧ n ≤ 1000001000000000) ∧ (scoreE F u v ≠ 0 → n = 0)
end Go.Fw

/-
  The most of a list.
-/
namespace Go.Fw
open Go
def mostL (l : List Int) (m : Int) : Int := l.foldl (fun m x => if m < x then x else m) m
theorem mostL_ge : ∀ (l : List Int) (m : Int), m ≤ mostL l m ∧ ∀ x ∈ l, x ≤ mostL l m
  | [], m => ⟨Int.le_refl _, fun x h => (by cases h)⟩
  | y :: l, m => by
    obtain ⟨h1, h2⟩ := mostL_ge l (if m < y then y else m)
    have e : mostL (y :: l) m = mostL l (if m < y then y else m) := rfl
    rw [e]
    refine ⟨?_, fun x hx => ?_⟩
    · split at h1 <;> split <;> omega
    · rcases List.mem_cons.1 hx with rfl | hx
      · split at h1 <;> split <;> omega
      · exact h2 x hx
theorem mostL_le {B : Int} : ∀ (l : List Int) (m : Int), m ≤ B → (∀ x ∈ l, x ≤ B) → mostL l m ≤ B
  | [], m, h, _ => h
  | y :: l, m, h, hl => by
    have e : mostL (y :: l) m = mostL l (if m < y then y else m) := rfl
    rw [e]
    refine mostL_le l _ ?_ fun x hx => hl x (by simp [hx])
    have := hl y (by simp)
    split <;> omega
theorem mostL_take (l : List Int) (m : Int) (k : Nat) (h : k < l.length) : mostL (l.take (k + 1)) m = if mostL (l.take k) m < l.getD k 0 then l.getD k 0 else mostL (l.take k) m := by
  rw [take_succ_getD l k 0 h]
  unfold mostL
  rw [List.foldl_append]
  rfl
def mostW (F : TF) : Int := mostL F.fin (mostL (F.arcs.map (·.w)) 0)
theorem mostW_arc {F : TF} {a : Arc} (h : a ∈ F.arcs) : a.w ≤ mostW F := by
  have h1 := (mostL_ge (F.arcs.map (·.w)) 0).2 a.w (List.mem_map.2 ⟨a, h, rfl⟩)
  have h2 := (mostL_ge F.fin (mostL (F.arcs.map (·.w)) 0)).1
  unfold mostW
  omega
theorem mostW_fin {F : TF} {x : Int} (h : x ∈ F.fin) : x ≤ mostW F := (mostL_ge F.fin _).2 x h
end Go.Fw

namespace Go.Fw
open Go Go.Proofs
set_option maxHeartbeats 4000000 in
set_option maxRecDepth 20000 in
theorem mostWeight_c (F : TF) (hal : F.arcs.length ≤ 1000000000) (hfl : F.fin.length ≤ 1000000000) : Ct Tryd.prog 52 [fV F] [] (hpF F) 2 (Is 2 (.i (mostW F))) := by
  refine ctW Tryd.tyOk 6 [] Tryd.func52 rfl (by simp) (by simp) (fr := [(0, fV F)]) rfl ?_
  repeat' (first | exact rfl | ((conv => whnf); first | (refine qX (fun h => ?_) fun h => ?_ <;> try exact absurd h (by omega)) | refine oN ?_ | refine oM ?_ ?_ | refine bM ?_ ?_ | refine dR ?_))
  (conv => whnf)
  refine loopI (fun k : Nat => ⟨[(1, .c (.ptr 2 0)), (2, .c (.i 0)), (3, .i (mostL ((F.arcs.map (·.w)).take k) 0)), (4, .i k)], hpF F ++ [(2, .box 25 (fCells F))], 3⟩)
    (fun k => k ≤ F.arcs.length) (fun k => F.arcs.length - k) 0 [] ⟨by rfl, ?_, ?_⟩ (Nat.zero_le _) ?_
  · simp [mostL]
  · simp [fCells]
  · intro k hk
    have e0 : 0 + (k : Int).toNat = k := by omega
    have hks : k < F.arcs.length → mostL ((F.arcs.map (·.w)).take (k + 1)) 0 = if mostL ((F.arcs.map (·.w)).take k) 0 < (F.arcs.getD (0 + (k : Int).toNat) EK.arc.dflt).w then (F.arcs.getD (0 + (k : Int).toNat) EK.arc.dflt).w else mostL ((F.arcs.map (·.w)).take k) 0 := by
      intro h
      have e1 : (F.arcs.map (·.w)).getD k 0 = (F.arcs.getD (0 + (k : Int).toNat) EK.arc.dflt).w := by
        rw [e0]
        simp [List.getD, h]
      rw [mostL_take _ _ k (by simpa using h), e1]
    have hke : k = F.arcs.length → mostL ((F.arcs.map (·.w)).take k) 0 = mostL (F.arcs.map (·.w)) 0 := by
      rintro rfl
      rw [List.take_of_length_le (by simp)]
    generalize hm : mostL ((F.arcs.map (·.w)).take k) 0 = m at hks hke ⊢
    repeat' (first | exact rfl | ((conv => whnf); first | (refine qX (fun h => ?_) fun h => ?_ <;> try exact absurd h (by omega)) | refine oN ?_ | refine oM ?_ ?_ | refine bM ?_ ?_ | refine dR ?_))
    · rename_i h2
      have e := hks (by omega)
      rw [if_pos (by omega)] at e
      (conv => whnf)
      refine ⟨k + 1, [], ⟨by rfl, ?_, ?_⟩, by omega, by omega⟩
      · simp [e]
      · simp [fCells]
    · have e := hks (by omega)
      rw [if_neg (by omega)] at e
      (conv => whnf)
      refine ⟨k + 1, [], ⟨by rfl, ?_, ?_⟩, by omega, by omega⟩
      · simp [e]
      · simp [fCells]
    · have e := hke (by omega)
      subst e
      clear hks hm hke
      (conv => whnf)
      refine loopI (fun k : Nat => ⟨[(1, .c (.ptr 2 0)), (2, .c (.i 0)), (3, .i (mostL (F.fin.take k) (mostL (F.arcs.map (·.w)) 0))), (5, .i k)], hpF F ++ [(2, .box 25 (fCells F))], 3⟩)
        (fun k => k ≤ F.fin.length) (fun k => F.fin.length - k) 0 [] ⟨by rfl, ?_, ?_⟩ (Nat.zero_le _) ?_
      · simp [mostL]
      · simp [fCells]
      · clear hk
        intro k hk
        have e0 : 0 + (k : Int).toNat = k := by omega
        have hks : k < F.fin.length → mostL (F.fin.take (k + 1)) (mostL (F.arcs.map (·.w)) 0) = if mostL (F.fin.take k) (mostL (F.arcs.map (·.w)) 0) < F.fin.getD (0 + (k : Int).toNat) EK.int.dflt then F.fin.getD (0 + (k : Int).toNat) EK.int.dflt else mostL (F.fin.take k) (mostL (F.arcs.map (·.w)) 0) := by
          intro h
          rw [e0]
          exact mostL_take _ _ k h
        have hke : k = F.fin.length → mostL (F.fin.take k) (mostL (F.arcs.map (·.w)) 0) = mostW F := by
          rintro rfl
          rw [List.take_length]
          rfl
        generalize hm : mostL (F.fin.take k) (mostL (F.arcs.map (·.w)) 0) = m at hks hke ⊢
        repeat' (first | exact rfl | ((conv => whnf); first | (refine qX (fun h => ?_) fun h => ?_ <;> try exact absurd h (by omega)) | refine oN ?_ | refine oM ?_ ?_ | refine bM ?_ ?_ | refine dR ?_))
        · rename_i h2
          have e := hks (by omega)
          rw [if_pos (by omega)] at e
          (conv => whnf)
          refine ⟨k + 1, [], ⟨by rfl, ?_, ?_⟩, by omega, by omega⟩
          · simp [e]
          · simp [fCells]
        · have e := hks (by omega)
          rw [if_neg (by omega)] at e
          (conv => whnf)
          refine ⟨k + 1, [], ⟨by rfl, ?_, ?_⟩, by omega, by omega⟩
          · simp [e]
          · simp [fCells]
        · have e := hke (by omega)
          rw [e]
          (conv => whnf)
          refine Back.is ?_
          simp
end Go.Fw
