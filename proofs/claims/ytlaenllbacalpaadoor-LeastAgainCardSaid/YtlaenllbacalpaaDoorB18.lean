/- Walks of the functions: what each computes. -/
import Derived.Test.YtlaenllbacalpaaDoorB17
import Derived.Test.YtlaenllbacalpaaDoorB15
import Derived.Test.YtlaenllbacalpaaDoorB16
import Derived.Test.YtlaenllbacalpaaDoorB10
import Derived.Test.YtlaenllbacalpaaDoorB05
import Derived.Test.YtlaenllbacalpaaDoorB14

set_option linter.unusedSimpArgs false
set_option linter.unusedVariables false

namespace Go.Fw
open Go Go.Proofs
def lsA (U : TF) (W vs : List (List Int)) (j i : Nat) : Bool := alkW U W vs W.length j i (bstW U W vs W.length j) (bstW U W vs W.length i)
def lsN (U : TF) (W vs : List (List Int)) (first : List Nat) (i : Nat) : Nat := first.findIdx fun j => lsA U W vs j i
def lsF (U : TF) (W vs : List (List Int)) (first : List Nat) (i : Nat) : List Nat := if lsN U W vs first i < first.length then first else first ++ [i]
abbrev hpSt (U : TF) (W vs : List (List Int)) (rows : List Sli) (m : List (Addr × List Int × Nat)) (par sym : List Int) (rc pc sc : Nat) (first : List Nat) (fi bi sf sb : Nat) : List (Nat × SO) :=
  [(6, .box 36 (cWo U 0 1 2 4 5 rows.length rc par.length pc sym.length sc)), (7, .box 22 [.sl fi 1 0 first.length (first.length + sf)]), (8, .box 22 [.sl bi 1 0 first.length (first.length + sb)]), (fi, .arr true 3 .int (first.map fun j : Nat => (j : Int)) sf), (bi, .arr true 3 .int (first.map fun j => bstW U W vs W.length j) sb), (3, .pool 3 .int m)]
abbrev hpSr (U : TF) (rows : List Sli) (par sym : List Int) : List (Nat × SO) := [(0, .arr false 3 .int U.fin 0), (1, .arr false 50 .arc U.arcs 0), (2, .arr false 22 .sli rows 0), (4, .arr false 3 .int par 0), (5, .arr false 3 .int sym 0)]
end Go.Fw

/-
  What goes on from a beginning: the best of it, and which go on alike.
-/
namespace Go.Fw
section
variable {F U : TF} {st : DS} (h : DetH F U st) {W vs : List (List Int)} {par sym : List Int} (hw : WSt U W vs par sym W.length 1)
include h hw
theorem q_some {j : Nat} (hj : j < W.length) : ∃ (q : Nat) (d : Int), q < st.1.length ∧ RdW st.2 0 (W.getD j []) q d :=
  h.ri.reads h.hU (fun a ha => (h.hlet a ha).1) (hw.bg j hj)
theorem on_yes {j : Nat} (hj : j < W.length) {q d x : Int} (hq : RdW st.2 0 (W.getD j []) q d) (ho : 0 ≤ onI W j x) :
    ∃ a ∈ st.2, a.f = q ∧ a.i = x ∧ a.o = x ∧ (j < (onI W j x).toNat ∧ (onI W j x).toNat < W.length) ∧ W.getD (onI W j x).toNat [] = W.getD j [] ++ [x] ∧ RdW st.2 0 (W.getD (onI W j x).toNat []) a.t (d + a.w) := by
  by_cases hm : W.getD j [] ++ [x] ∈ W
  · obtain ⟨k, hk, e⟩ := getD_mem2.1 hm
    have ho2 := hw.onI_yes hk e
    have hgt := hw.gt hj hk e
    rw [ho2, Int.toNat_natCast]
    obtain ⟨q', d', hq', hr⟩ := q_some h hw hk
    rw [e] at hr ⊢
    obtain ⟨a, ha, d1, h1, h2, h3, h4⟩ := hr.unsnoc
    obtain ⟨e1, e2⟩ := RdW.det (h.detD 0 0) h1 hq
    have ho3 := (h.rngD 0 0 a ha).2.2.2
    refine ⟨a, ha, e1, h2, by omega, ⟨hgt, hk⟩, rfl, ?_⟩
    rw [h3, ← e2, ← h4]
    exact hr
  · exfalso
    unfold onI at ho
    rw [if_neg hm] at ho
    omega
theorem on_no {j : Nat} (hj : j < W.length) {q d x : Int} (hq : RdW st.2 0 (W.getD j []) q d) {a : Arc} (ha : a ∈ st.2) (e1 : a.f = q) (e2 : a.i = x) : 0 ≤ onI W j x := by
  have hr := hq.snoc ha e1
  rw [e2] at hr
  have hs := h.ri.sub h.hU hr
  obtain ⟨h1, h2, h3⟩ := h.small
  have hra := (h.rngD 0 0 a ha).2.1
  have hrt : a.t < ((st.1.length : Nat) : Int) := hra.2
  have hne := h1.ne _ (getD_mem st.1 a.t.toNat [] (by omega))
  obtain ⟨e, he⟩ := List.exists_mem_of_ne_nil _ hne
  have hp := (hs.min e he).is (by have := hs.r0; have := hs.b0 e he; omega)
  obtain ⟨k, hk, e3⟩ := hw.full (fun a ha => (h.hlet a ha).1) _ ⟨_, _, hp⟩
  rw [hw.onI_yes hk e3]
  omega
theorem end_is {j : Nat} (hj : j < W.length) {q : Nat} {d : Int} (hq : q < st.1.length) (hr : RdW st.2 0 (W.getD j []) q d) : endW U vs j = if (mkD U st 0 0).fin.getD q 0 = -1 then -1 else d + (mkD U st 0 0).fin.getD q 0 := by
  rw [h.ri.endW h.hU h.hfin h.uok.2.1 hw hj hr, Int.toNat_natCast]
  show _ = if (st.1.map (finD U)).getD q 0 = -1 then -1 else d + (st.1.map (finD U)).getD q 0
  rw [mkD_fin hq]
theorem bstP_min {f i : Nat} (hi : i < W.length) (ih : ∀ j, i < j → j < W.length → MinOf (fun c => ∃ v, CW U U.start (W.getD j [] ++ v) c) (bstW U W vs f j)) : ∀ k : Nat, k ≤ 9 →
    MinOf (fun c => CW U U.start (W.getD i []) c ∨ ∃ (x : Int) (v : List Int), (1 ≤ x ∧ x ≤ (k : Int)) ∧ CW U U.start (W.getD i [] ++ x :: v) c) (bstP U W vs f i k)
  | 0, _ => by
    have he : MinOf (CW U U.start (W.getD i [])) (endW U vs i) := endW_min (fun a ha => (h.hU a ha).2.1) h.uok.2.1 h.hfin hw hi
    refine MinOf.cong (show MinOf (CW U U.start (W.getD i [])) (bstP U W vs f i 0) from he) fun c => ?_
    constructor
    · exact fun h => .inl h
    · rintro (h | ⟨x, v, h1, _⟩)
      · exact h
      · omega
  | k + 1, hk => by
    have hP := bstP_min hi ih k (by omega)
    obtain ⟨q, d, hq, hr⟩ := q_some h hw hi
    rw [bstP_succ]
    by_cases ho : 0 ≤ onI W i ((k : Int) + 1)
    · obtain ⟨a, ha, g1, g2, g3, g4, g5, g6⟩ := on_yes h hw hi hr ho
      rw [if_pos ho]
      refine (MinOf.or hP (ih _ g4.1 g4.2)).cong fun c => ?_
      rw [g5]
      constructor
      · rintro ((h1 | ⟨x, v, h1, h2⟩) | ⟨v, h1⟩)
        · exact .inl h1
        · exact .inr ⟨x, v, by omega, h2⟩
        · exact .inr ⟨(k : Int) + 1, v, by omega, by rwa [List.append_assoc] at h1⟩
      · rintro (h1 | ⟨x, v, h1, h2⟩)
        · exact .inl (.inl h1)
        · by_cases e : x = (k : Int) + 1
          · subst e
            exact .inr ⟨v, by rw [List.append_assoc]; exact h2⟩
          · exact .inl (.inr ⟨x, v, by omega, h2⟩)
    · rw [if_neg ho]
      refine hP.cong fun c => ?_
      constructor
      · rintro (h1 | ⟨x, v, h1, h2⟩)
        · exact .inl h1
        · exact .inr ⟨x, v, by omega, h2⟩
      · rintro (h1 | ⟨x, v, h1, h2⟩)
        · exact .inl h1
        · by_cases e : x = (k : Int) + 1
          · exfalso
            subst e
            obtain ⟨t, d', h3, _, _⟩ := h2
            obtain ⟨q', d2, e2, h4, h5, _⟩ := (show RdW U.arcs U.start ((W.getD i [] ++ [(k : Int) + 1]) ++ v) t d' by rw [List.append_assoc]; exact h3).split
            obtain ⟨m, hm, e3⟩ := hw.full (fun a ha => (h.hlet a ha).1) _ ⟨_, _, h4⟩
            rw [hw.onI_yes hm e3] at ho
            omega
          · exact .inr ⟨x, v, by omega, h2⟩
theorem bst_min : ∀ (f i : Nat), i < W.length → W.length ≤ i + f → MinOf (fun c => ∃ v, CW U U.start (W.getD i [] ++ v) c) (bstW U W vs f i)
  | 0, i, hi, hf => by omega
  | f + 1, i, hi, hf => by
    have hP := bstP_min h hw hi (f := f) (fun j h1 h2 => bst_min f j h2 (by omega)) 9 (Nat.le_refl _)
    refine MinOf.cong (show MinOf _ (bstW U W vs (f + 1) i) from hP) fun c => ?_
    constructor
    · rintro (h1 | ⟨x, v, _, h2⟩)
      · exact ⟨[], by rw [List.append_nil]; exact h1⟩
      · exact ⟨x :: v, h2⟩
    · rintro ⟨v, hv⟩
      cases v with
      | nil => exact .inl (by rw [List.append_nil] at hv; exact hv)
      | cons x v =>
        obtain ⟨t, d, h1, h2, h3⟩ := hv
        have := h1.lets (fun a ha => (h.hlet a ha).1) x (by simp)
        exact .inr ⟨x, v, by omega, t, d, h1, h2, h3⟩
end
section
def alkW2 (U : TF) (W vs : List (List Int)) (V : TF) (Y ys : List (List Int)) : Nat → Nat → Nat → Int → Int → Bool
  | 0, _, _, _, _ => true
  | f + 1, i, k, x, y => alE (endW U vs i) (endW V ys k) x y && (List.range 9).all fun (c : Nat) =>
    if decide (onI W i ((c : Int) + 1) < 0) != decide (onI Y k ((c : Int) + 1) < 0) then false
    else if 0 ≤ onI W i ((c : Int) + 1) then alkW2 U W vs V Y ys f (onI W i ((c : Int) + 1)).toNat (onI Y k ((c : Int) + 1)).toNat x y else true
def alkS2 (U : TF) (W vs : List (List Int)) (V : TF) (Y ys : List (List Int)) (f i k : Nat) (x y : Int) (c : Nat) : Bool :=
  if decide (onI W i ((c : Int) + 1) < 0) != decide (onI Y k ((c : Int) + 1) < 0) then false
    else if 0 ≤ onI W i ((c : Int) + 1) then alkW2 U W vs V Y ys f (onI W i ((c : Int) + 1)).toNat (onI Y k ((c : Int) + 1)).toNat x y else true
theorem alkW_eq {U : TF} {W vs : List (List Int)} : ∀ (f i k : Nat) (x y : Int), alkW U W vs f i k x y = alkW2 U W vs U W vs f i k x y
  | 0, _, _, _, _ => rfl
  | f + 1, i, k, x, y => by
    unfold alkW alkW2
    simp only [alkW_eq f]
theorem IsUs.nil {F U : TF} (h : IsUs F U) (hF : FRng F) (hs : 0 ≤ F.start ∧ F.start < F.st) (hL : ∀ a ∈ F.arcs, a.i = a.o ∧ a.i ≠ 0) (hn : ¬ ∃ w c, CW U U.start w c) : U.arcs = [] := by
  have hLU : ∀ a ∈ U.arcs, a.i = a.o ∧ a.i ≠ 0 := fun a ha => by
    obtain ⟨b, hb, e1, e2, _⟩ := h.arcs ha
    rw [e1, e2]; exact hL b hb
  obtain ⟨p, hp, h1, h2, h3, h4⟩ := h
  by_cases hps : p F.start.toNat = true
  · exfalso
    have e1 : (kT F p).arcs = karc p F.arcs F.arcs.length := by unfold kT; rw [if_pos hps]
    have e2 : (kT F p).start = (rkB p F.start.toNat : Nat) := by unfold kT; rw [if_pos hps]
    have e3 : (kT F p).fin = kfin p F.fin F.st.toNat := by unfold kT; rw [if_pos hps]
    rw [e1] at h4
    rw [e2] at h2
    rw [e3] at h3
    obtain ⟨r1, e, r2, r3, r4⟩ := (hp.iff F.start.toNat (by omega)).1 hps
    obtain ⟨w, c, t, d, hr, hf, _⟩ := rch_cw (e := (e : Int)) (by rw [Int.toNat_natCast]; exact r3) r4
    obtain ⟨i1, i2, i3, i4, i5, i6⟩ := keep_way hF hp (rd_way hL hr) ⟨by omega, by omega⟩ r1 hf
    rw [h4] at hLU
    have hw := (way_rd hLU i6).2
    rw [Int.toNat_natCast, ← h2] at hw
    refine hn ⟨w, d + U.fin.getD (rkB p t.toNat) 0, (rkB p t.toNat : Nat), d, by rw [h4]; exact hw, ?_, by rw [Int.toNat_natCast]⟩
    rw [Int.toNat_natCast, h3, kfin_get F.fin (by omega) i3]
    exact hf
  · rw [h4]
    unfold kT
    rw [if_neg hps]
theorem DetH.fl {F U : TF} {st : DS} (h : DetH F U st) (h12 : F.st ≤ 12) (q : Nat) : -1 ≤ (mkD U st 0 0).fin.getD q 0 := by
  by_cases hj : q < (mkD U st 0 0).fin.length
  · exact ((h.fokB h12 0 0).1.fin _ (getD_mem _ q 0 hj)).1
  · simp only [List.getD, List.getElem?_eq_none (show (mkD U st 0 0).fin.length ≤ q by omega), Option.getD_none]; omega
theorem DetH.coA {F U : TF} {st : DS} (h : DetH F U st) {a : Arc} (ha : a ∈ st.2) : ∃ v c, CW (mkD U st 0 0) a.t v c := by
  have hr := (h.rngD 0 0 a ha).2.1
  have hr : 0 ≤ a.t ∧ a.t < ((st.1.length : Nat) : Int) := hr
  by_cases hn : ∃ w c, CW U U.start w c
  · have := h.co hn 0 0 (j := a.t.toNat) (by omega)
    rwa [show ((a.t.toNat : Nat) : Int) = a.t by omega] at this
  · exfalso
    have he := h.us.nil h.wok.toFRng h.fok.start h.lets hn
    obtain ⟨j, x, q1, q2, q3, q4, q5, _⟩ := h.ri.arc ha
    obtain ⟨w, d, hw⟩ := h.ri.rch j q2
    have hs := h.ri.sub h.hU hw
    rw [Int.toNat_natCast] at hs
    obtain ⟨t, c, hb⟩ := hs.yes h.hU q3
    have := (hb.empty he).1
    simp at this
variable {F U G V : TF} {st st' : DS} (h : DetH F U st) (h12 : F.st ≤ 12) {W vs : List (List Int)} {par sym : List Int} (hw : WSt U W vs par sym W.length 1)
  (h' : DetH G V st') (h12' : G.st ≤ 12) {Y ys : List (List Int)} {par' sym' : List Int} (hw' : WSt V Y ys par' sym' Y.length 1)
include h h12 hw h' h12' hw'
theorem alk2_iff : ∀ (f i k : Nat) (x y : Int) (q r : Nat) (d e : Int), i < W.length → k < Y.length → W.length ≤ i + f → q < st.1.length → r < st'.1.length → RdW st.2 0 (W.getD i []) q d → RdW st'.2 0 (Y.getD k []) r e →
    (alkW2 U W vs V Y ys f i k x y = true ↔ ∀ v c, CW (mkD U st 0 0) q v (c + (x - d)) ↔ CW (mkD V st' 0 0) r v (c + (y - e)))
  | 0, i, k, x, y, q, r, d, e, hi, hk, hf, _, _, _, _ => by omega
  | f + 1, i, k, x, y, q, r, d, e, hi, hk, hf, hq, hr, hrq, hrr => by
    have hd0 := (h.ri.sub h.hU hrq).r0
    have he0 := (h'.ri.sub h'.hU hrr).r0
    have e1 := end_is h hw hi hq hrq
    have e2 := end_is h' hw' hk hr hrr
    have f1 := h.fl h12 q
    have f2 := h'.fl h12' r
    have hdef : alkW2 U W vs V Y ys (f + 1) i k x y = (alE (endW U vs i) (endW V ys k) x y && (List.range 9).all (alkS2 U W vs V Y ys f i k x y)) := rfl
    have hAE : alE (endW U vs i) (endW V ys k) x y = true ↔ ∀ c, CW (mkD U st 0 0) q [] (c + (x - d)) ↔ CW (mkD V st' 0 0) r [] (c + (y - e)) := by
      simp only [CW.nil, Int.toNat_natCast]
      rw [e1, e2]
      generalize (mkD U st 0 0).fin.getD q 0 = a at *
      generalize (mkD V st' 0 0).fin.getD r 0 = b at *
      unfold alE
      by_cases ha : a = -1
      · rw [if_pos ha]
        by_cases hb : b = -1
        · rw [if_pos hb]
          refine ⟨fun _ c => ⟨fun h => absurd ha h.1, fun h => absurd hb h.1⟩, fun _ => by simp⟩
        · rw [if_neg hb]
          constructor
          · intro hc
            exfalso
            rw [decide_eq_true (show (-1 : Int) < 0 by omega), decide_eq_false (show ¬ (e + b < 0) by omega)] at hc
            simp at hc
          · intro hc
            exact absurd ha ((hc (b - (y - e))).2 ⟨hb, by omega⟩).1
      · rw [if_neg ha]
        by_cases hb : b = -1
        · rw [if_pos hb]
          constructor
          · intro hc
            exfalso
            rw [decide_eq_true (show (-1 : Int) < 0 by omega), decide_eq_false (show ¬ (d + a < 0) by omega)] at hc
            simp at hc
          · intro hc
            exact absurd hb ((hc (a - (x - d))).1 ⟨ha, by omega⟩).1
        · rw [if_neg hb, decide_eq_false (show ¬ (d + a < 0) by omega), decide_eq_false (show ¬ (e + b < 0) by omega), decide_eq_true (show d + a ≥ 0 by omega)]
          simp only [bne_self_eq_false, Bool.false_or, Bool.true_and, Bool.not_eq_true', decide_eq_false_iff_not, Decidable.not_not]
          constructor
          · intro hc c
            exact ⟨fun g => ⟨hb, by omega⟩, fun g => ⟨ha, by omega⟩⟩
          · intro hc
            have := ((hc (a - (x - d))).1 ⟨ha, by omega⟩).2
            omega
    rw [hdef, Bool.and_eq_true, hAE, List.all_eq_true]
    have hrng : ∀ a ∈ st.2, 0 ≤ a.t ∧ a.t < ((st.1.length : Nat) : Int) := fun a ha => (h.rngD 0 0 a ha).2.1
    have hrng' : ∀ a ∈ st'.2, 0 ≤ a.t ∧ a.t < ((st'.1.length : Nat) : Int) := fun a ha => (h'.rngD 0 0 a ha).2.1
    constructor
    · rintro ⟨hnil, hall⟩ v c
      cases v with
      | nil => exact hnil c
      | cons z u =>
        have hS : ∀ z : Int, 1 ≤ z ∧ z ≤ 9 → alkS2 U W vs V Y ys f i k x y (z - 1).toNat = true := fun z hz => hall _ (List.mem_range.2 (by omega))
        have key : ∀ z : Int, 1 ≤ z ∧ z ≤ 9 → (0 ≤ onI W i z ∨ 0 ≤ onI Y k z) → 0 ≤ onI W i z ∧ 0 ≤ onI Y k z ∧ alkW2 U W vs V Y ys f (onI W i z).toNat (onI Y k z).toNat x y = true := fun z hz ho => by
          have g := hS z hz
          unfold alkS2 at g
          rw [show (((z - 1).toNat : Nat) : Int) + 1 = z by omega] at g
          by_cases o1 : 0 ≤ onI W i z
          · by_cases o2 : 0 ≤ onI Y k z
            · rw [decide_eq_false (show ¬ onI W i z < 0 by omega), decide_eq_false (show ¬ onI Y k z < 0 by omega), if_neg (by simp), if_pos o1] at g
              exact ⟨o1, o2, g⟩
            · rw [decide_eq_false (show ¬ onI W i z < 0 by omega), decide_eq_true (show onI Y k z < 0 by omega)] at g
              simp at g
          · have o2 : 0 ≤ onI Y k z := by omega
            rw [decide_eq_true (show onI W i z < 0 by omega), decide_eq_false (show ¬ onI Y k z < 0 by omega)] at g
            simp at g
        constructor
        · intro hc
          obtain ⟨a, ha, g1, g2, g3⟩ := CW.cons.1 hc
          have hz := (h.rngD 0 0 a ha).2.2.1
          rw [g2] at hz
          obtain ⟨o1, o2, o3⟩ := key z hz (.inl (on_no h hw hi hrq ha g1 g2))
          obtain ⟨a', ha', p1, p2, _, p4, _, p6⟩ := on_yes h hw hi hrq o1
          obtain ⟨b, hb, r1, r2, _, r4, _, r6⟩ := on_yes h' hw' hk hrr o2
          have := (h.detD 0 0).one a ha a' ha' (g1.trans p1.symm) (g2.trans p2.symm)
          subst this
          have ra := hrng a ha
          have rb := hrng' b hb
          have ea : ((a.t.toNat : Nat) : Int) = a.t := by omega
          have eb : ((b.t.toNat : Nat) : Int) = b.t := by omega
          have ih := (alk2_iff f _ _ x y a.t.toNat b.t.toNat (d + a.w) (e + b.w) p4.2 r4.2 (by omega) (by omega) (by omega) (by rw [ea]; exact p6) (by rw [eb]; exact r6)).1 o3 u c
          rw [ea, eb] at ih
          refine CW.cons.2 ⟨b, hb, r1, r2, ?_⟩
          rw [show c + (y - e) - b.w = c + (y - (e + b.w)) by omega]
          exact ih.1 (by rw [show c + (x - (d + a.w)) = c + (x - d) - a.w by omega]; exact g3)
        · intro hc
          obtain ⟨b, hb, g1, g2, g3⟩ := CW.cons.1 hc
          have hz := (h'.rngD 0 0 b hb).2.2.1
          rw [g2] at hz
          obtain ⟨o1, o2, o3⟩ := key z hz (.inr (on_no h' hw' hk hrr hb g1 g2))
          obtain ⟨a, ha, p1, p2, _, p4, _, p6⟩ := on_yes h hw hi hrq o1
          obtain ⟨b', hb', r1, r2, _, r4, _, r6⟩ := on_yes h' hw' hk hrr o2
          have := (h'.detD 0 0).one b hb b' hb' (g1.trans r1.symm) (g2.trans r2.symm)
          subst this
          have ra := hrng a ha
          have rb := hrng' b hb
          have ea : ((a.t.toNat : Nat) : Int) = a.t := by omega
          have eb : ((b.t.toNat : Nat) : Int) = b.t := by omega
          have ih := (alk2_iff f _ _ x y a.t.toNat b.t.toNat (d + a.w) (e + b.w) p4.2 r4.2 (by omega) (by omega) (by omega) (by rw [ea]; exact p6) (by rw [eb]; exact r6)).1 o3 u c
          rw [ea, eb] at ih
          refine CW.cons.2 ⟨a, ha, p1, p2, ?_⟩
          rw [show c + (x - d) - a.w = c + (x - (d + a.w)) by omega]
          exact ih.2 (by rw [show c + (y - (e + b.w)) = c + (y - e) - b.w by omega]; exact g3)
    · intro hall
      refine ⟨fun c => hall [] c, fun z hz => ?_⟩
      have hz := List.mem_range.1 hz
      have s1 : 0 ≤ onI W i ((z : Int) + 1) → 0 ≤ onI Y k ((z : Int) + 1) := fun o1 => by
        obtain ⟨a, ha, p1, p2, _, p4, _, p6⟩ := on_yes h hw hi hrq o1
        have ra := hrng a ha
        obtain ⟨v, c, hv⟩ := h.coA ha
        have := (hall (((z : Int) + 1) :: v) (c + a.w - (x - d))).1 (CW.cons.2 ⟨a, ha, p1, p2, by rw [show c + a.w - (x - d) + (x - d) - a.w = c by omega]; exact hv⟩)
        obtain ⟨b, hb, g1, g2, _⟩ := CW.cons.1 this
        exact on_no h' hw' hk hrr hb g1 g2
      have s2 : 0 ≤ onI Y k ((z : Int) + 1) → 0 ≤ onI W i ((z : Int) + 1) := fun o1 => by
        obtain ⟨b, hb, p1, p2, _, p4, _, p6⟩ := on_yes h' hw' hk hrr o1
        have ra := hrng' b hb
        obtain ⟨v, c, hv⟩ := h'.coA hb
        have := (hall (((z : Int) + 1) :: v) (c + b.w - (y - e))).2 (CW.cons.2 ⟨b, hb, p1, p2, by rw [show c + b.w - (y - e) + (y - e) - b.w = c by omega]; exact hv⟩)
        obtain ⟨a, ha, g1, g2, _⟩ := CW.cons.1 this
        exact on_no h hw hi hrq ha g1 g2
      unfold alkS2
      by_cases o1 : 0 ≤ onI W i ((z : Int) + 1)
      · have o2 := s1 o1
        rw [decide_eq_false (show ¬ onI W i ((z : Int) + 1) < 0 by omega), decide_eq_false (show ¬ onI Y k ((z : Int) + 1) < 0 by omega), if_neg (by simp), if_pos o1]
        obtain ⟨a, ha, p1, p2, _, p4, _, p6⟩ := on_yes h hw hi hrq o1
        obtain ⟨b, hb, r1, r2, _, r4, _, r6⟩ := on_yes h' hw' hk hrr o2
        have ra := hrng a ha
        have rb := hrng' b hb
        have ea : ((a.t.toNat : Nat) : Int) = a.t := by omega
        have eb : ((b.t.toNat : Nat) : Int) = b.t := by omega
        refine (alk2_iff f _ _ x y a.t.toNat b.t.toNat (d + a.w) (e + b.w) p4.2 r4.2 (by omega) (by omega) (by omega) (by rw [ea]; exact p6) (by rw [eb]; exact r6)).2 fun v c => ?_
        rw [ea, eb]
        have hv := hall (((z : Int) + 1) :: v) c
        constructor
        · intro g
          obtain ⟨b', hb', t1, t2, t3⟩ := CW.cons.1 (hv.1 (CW.cons.2 ⟨a, ha, p1, p2, by rw [show c + (x - d) - a.w = c + (x - (d + a.w)) by omega]; exact g⟩))
          have := (h'.detD 0 0).one b hb b' hb' (r1.trans t1.symm) (r2.trans t2.symm)
          subst this
          rwa [show c + (y - e) - b.w = c + (y - (e + b.w)) by omega] at t3
        · intro g
          obtain ⟨a', ha', t1, t2, t3⟩ := CW.cons.1 (hv.2 (CW.cons.2 ⟨b, hb, r1, r2, by rw [show c + (y - e) - b.w = c + (y - (e + b.w)) by omega]; exact g⟩))
          have := (h.detD 0 0).one a ha a' ha' (p1.trans t1.symm) (p2.trans t2.symm)
          subst this
          rwa [show c + (x - d) - a.w = c + (x - (d + a.w)) by omega] at t3
      · have o2 : ¬ 0 ≤ onI Y k ((z : Int) + 1) := fun c => o1 (s2 c)
        rw [decide_eq_true (show onI W i ((z : Int) + 1) < 0 by omega), decide_eq_true (show onI Y k ((z : Int) + 1) < 0 by omega), if_neg (by simp), if_neg o1]
end
section
variable {F U : TF} {st : DS} (h : DetH F U st) (h12 : F.st ≤ 12) (hn : ∃ w c, CW U U.start w c) {W vs : List (List Int)} {par sym : List Int} (hw : WSt U W vs par sym W.length 1)
def dsD (U : TF) (st : DS) (q : Nat) : Int := (onS (mkD U st 0 0)).1.getD q 0
include h h12 hn
theorem dsD_is {q : Nat} (hq : q < st.1.length) : MinOf (fun c => ∃ w, CW (mkD U st 0 0) q w c) (dsD U st q) ∧ 0 ≤ dsD U st q ∧ dsD U st q ≤ 100000000000 := by
  have hB := (h.fokB h12 0 0).1
  have hm := onS_min hB (q := q) (by show q < ((st.1.length : Nat) : Int).toNat; omega)
  obtain ⟨w, c, hc⟩ := h.co hn 0 0 hq
  have h1 := hm.le ⟨w, hc⟩
  have hlow := hm.low
  obtain ⟨v, hv⟩ := hm.is h1.1
  refine ⟨hm, by unfold dsD; omega, ?_⟩
  obtain ⟨w0, d0, hr⟩ := h.ri.rch q hq
  obtain ⟨t, d, k1, k2, k3⟩ := hv
  have hall : CW (mkD U st 0 0) 0 (w0 ++ v) (d0 + (dsD U st q)) := ⟨t, d0 + d, hr.app k1, k2, by unfold dsD; omega⟩
  have hd0 := (h.ri.sub h.hU hr).r0
  obtain ⟨t2, d2, k4, k5, k6⟩ := (h.cw1 hall).is (by have := CW.pos hB _ _ _ hall; omega)
  have := (h.short h12 k4).2
  have hfu : U.fin.getD t2.toNat 0 ≤ 1000000000 := by
    by_cases hj : t2.toNat < U.fin.length
    · exact (h.uok.1.fin _ (getD_mem U.fin _ 0 hj)).2
    · simp only [List.getD, List.getElem?_eq_none (show U.fin.length ≤ t2.toNat by omega), Option.getD_none]; omega
  omega
include hw
theorem bst_is {j : Nat} (hj : j < W.length) {q : Nat} {d : Int} (hq : q < st.1.length) (hr : RdW st.2 0 (W.getD j []) q d) : bstW U W vs W.length j = d + dsD U st q := by
  have hm := bst_min h hw W.length j hj (by omega)
  obtain ⟨d1, d2, _⟩ := dsD_is h h12 hn hq
  have hd0 := (h.ri.sub h.hU hr).r0
  have hB := (h.fokB h12 0 0).1
  refine hm.eq (Q := fun c => ∃ v, CW U U.start (W.getD j [] ++ v) c) ?_ fun c => Iff.rfl
  have hsum : MinOf (fun c => ∃ v, CW (mkD U st 0 0) 0 (W.getD j [] ++ v) c) (d + dsD U st q) := by
    refine .inr ⟨by omega, ?_, ?_⟩
    · obtain ⟨v, t, e, k1, k2, k3⟩ := d1.is (by omega)
      exact ⟨v, t, d + e, hr.app k1, k2, by omega⟩
    · rintro c ⟨v, t, e, k1, k2, k3⟩
      obtain ⟨q', x, y, l1, l2, l3⟩ := RdW.split k1
      obtain ⟨rfl, rfl⟩ := RdW.det (h.detD 0 0) l1 hr
      have := (d1.le (c := y + (mkD U st 0 0).fin.getD t.toNat 0) ⟨v, t, y, l2, k2, rfl⟩).2
      omega
  refine hsum.dom (fun c ⟨v, hv⟩ => ⟨v, (h.cw1 hv).is (by have := CW.pos hB _ _ _ hv; omega)⟩) fun c ⟨v, hv⟩ => ?_
  obtain ⟨m, h1, h2⟩ := h.cw2 (cf := 0) (ca := 0) hv
  exact ⟨m, h1, v, h2⟩
omit hn in
theorem alk_iff (i k : Nat) (x y : Int) (q r : Nat) (d e : Int) (hi : i < W.length) (hk : k < W.length) (hq : q < st.1.length) (hr : r < st.1.length) (hrq : RdW st.2 0 (W.getD i []) q d) (hrr : RdW st.2 0 (W.getD k []) r e) :
    alkW U W vs W.length i k x y = true ↔ ∀ v c, CW (mkD U st 0 0) q v (c + (x - d)) ↔ CW (mkD U st 0 0) r v (c + (y - e)) := by
  rw [alkW_eq]
  exact alk2_iff h h12 hw h h12 hw W.length i k x y q r d e hi hk (by omega) hq hr hrq hrr
theorem lsA_iff {c1 c2 : Nat} {cls : List Int} (hc : ClsOk (phT (mkD U st 0 0) c1 c2) cls) {i k : Nat} (hi : i < W.length) (hk : k < W.length) {q r : Nat} {d e : Int} (hq : q < st.1.length) (hr : r < st.1.length) (hrq : RdW st.2 0 (W.getD i []) q d) (hrr : RdW st.2 0 (W.getD k []) r e) :
    lsA U W vs i k = true ↔ cls.getD q 0 = cls.getD r 0 := by
  have hB := (h.fokB h12 0 0).1
  have b1 := bst_is h h12 hn hw hi hq hrq
  have b2 := bst_is h h12 hn hw hk hr hrr
  have hX := ph_dfst hB (c1 := c1) (c2 := c2) fun q hq => by
    have hq : q < ((st.1.length : Nat) : Int).toNat := hq
    have := dsD_is h h12 hn (q := q) (by omega)
    unfold dsD at this
    omega
  have hXd := ph_det (c1 := c1) (c2 := c2) (h.detD 0 0)
  have hXp := ph_psh hB (c1 := c1) (c2 := c2) fun q hq => by
    have hq : q < ((st.1.length : Nat) : Int).toNat := hq
    exact h.co hn 0 0 (by omega)
  have hXr := ph_round (c1 := c1) (c2 := c2) (h.round 0 0)
  have hst2 : (phT (mkD U st 0 0) c1 c2).st = ((st.1.length : Nat) : Int) := rfl
  unfold lsA
  rw [alk_iff h h12 hw i k _ _ q r d e hi hk hq hr hrq hrr, b1, b2]
  have conv : ∀ (q : Nat) (hq : q < st.1.length) (v : List Int) (c : Int), CW (phT (mkD U st 0 0) c1 c2) q v c ↔ CW (mkD U st 0 0) q v (c + dsD U st q) := fun q hq v c => by
    have := ph_cw hB (c1 := c1) (c2 := c2) v (q : Int) c ⟨by omega, by show (q : Int) < ((st.1.length : Nat) : Int); omega⟩
    rw [Int.toNat_natCast] at this
    exact this
  have e1 : ∀ x y : Int, x + y - x = y := fun x y => by omega
  rw [e1, e1]
  have hlv : ∀ q : Nat, q < st.1.length → LvA (phT (mkD U st 0 0) c1 c2).arcs ((phT (mkD U st 0 0) c1 c2).st.toNat) q := fun q hq =>
    LvA.all (fun a ha => by have := hX.arc a ha; have := hX.st; omega) hXr ⟨by omega, by rw [hst2]; omega⟩
  constructor
  · intro hall
    exact cw_cls hX hc hXd hXp _ q r (by rw [hst2]; omega) (by rw [hst2]; omega) (hlv q hq) (hlv r hr) fun v c => by
      rw [conv q hq, conv r hr]
      exact hall v c
  · intro he v c
    rw [← conv q hq, ← conv r hr]
    exact ⟨cls_cw hX hc v q r c (by rw [hst2]; omega) (by rw [hst2]; omega) he, cls_cw hX hc v r q c (by rw [hst2]; omega) (by rw [hst2]; omega) he.symm⟩
end
end Go.Fw

namespace Go.Fw
open Go Go.Proofs
def leastE (F : TF) : Int := if fstE F ≠ 0 then fstE F else if 12 < F.st then 2 else if fineB F = true then 0 else 4
def IsLs (U : TF) (st : DS) (n : Nat) (ff : List Int) (oo : List Arc) : Prop :=
  (¬ (∃ w c, CW U U.start w c) ∧ n = 1 ∧ ff = [-1] ∧ oo = []) ∨
  ((∃ w c, CW U U.start w c) ∧ ∃ c1 c2 cls left outs, ClsOk (phT (mkD U st 0 0) c1 c2) cls ∧ mgRows (phT (mkD U st 0 0) c1 c2) cls left.length = (left, outs) ∧
    (∀ j, j < left.length → j < (mgRows (phT (mkD U st 0 0) c1 c2) cls j).1.length) ∧ MgI (phT (mkD U st 0 0) c1 c2) cls (left, outs) ∧ n = left.length ∧ ff = adF (dsD U st 0) (left.map (fiA (phT (mkD U st 0 0) c1 c2))) ∧ oo = outs.map (adA (dsD U st 0)))
def LeastPost (F : TF) (x : Obj) (v : SV) (s : S) : Prop :=
  (leastE F ≠ 0 ∧ v = .tup [.agg zero25, .c (.i (leastE F))] ∧ s = ⟨[], [(2, tabO x)], 3⟩) ∨
  (leastE F = 0 ∧ ∃ U, IsUs F U ∧
    ((200 < bgnF U 201 200 [⟨U.start, 0⟩] ∧ v = .tup [.agg zero25, .c (.i 2)] ∧ s = ⟨[], [(2, tabO x)], 3⟩) ∨
     (bgnF U 201 200 [⟨U.start, 0⟩] ≤ 200 ∧ ∃ st : DS, MDone U st ∧ ∃ n ff oo, IsLs U st n ff oo ∧
       ((greatB oo ff = true ∧ v = .tup [.agg zero25, .c (.i 2)] ∧ s = ⟨[], [(2, tabO x)], 3⟩) ∨
        (greatB oo ff = false ∧ ∃ sp sq, v = .tup [.agg [.i (n : Nat), .i 0, .sl 3 1 0 ff.length (ff.length + sp), .sl 4 5 0 oo.length (oo.length + sq)], .c (.i 0)] ∧
          s = ⟨[], [(2, tabO x), (3, .arr true 3 .int ff sp), (4, .arr true 50 .arc oo sq)], 5⟩)))))
set_option maxHeartbeats 16000000 in
set_option maxRecDepth 20000 in
theorem least_c (F : TF) (hl : F.fin.length ≤ 9223372036854775807) (x : Obj) (hx : TabX x) : Ct Tryd.prog 46 [fV F] [] (hpF F ++ [(2, tabO x)]) 3 (LeastPost F x) := by
  by_cases h : fstE F = 0
  · have hF := fstE_ok h
    have hst := hF.st
    have hss := hF.start
    by_cases h12 : 12 < F.st
    · have hd : leastE F = 2 := by unfold leastE; rw [if_neg (fun c => c h), if_pos h12]
      refine ctW Tryd.tyOk 10 [] Tryd.func46 rfl (by simp) (by simp) (fr := [(0, fV F)]) rfl ?_
      repeat' (first | exact rfl | ((conv => whnf); first | (refine qX (fun h => ?_) fun h => ?_ <;> try exact absurd h (by omega)) | refine oN ?_ | refine oM ?_ ?_ | refine bM ?_ ?_ | refine dR ?_))
      refine cI (check_c F hl) [0, 1] Tryd.call29 ?_
      rw [h]
      repeat' (first | exact rfl | ((conv => whnf); first | (refine qX (fun h => ?_) fun h => ?_ <;> try exact absurd h (by omega)) | refine oN ?_ | refine oM ?_ ?_ | refine bM ?_ ?_ | refine dR ?_))
      all_goals
        first
        | (exfalso; omega)
        | ((conv => whnf)
           exact ⟨[], [(2, tabO x)], 3, .tup [.agg zero25, .c (.i 2)], ⟨by rfl, trivial, by simp⟩, by simp, .inl ⟨by rw [hd]; decide, by rw [hd], rfl⟩⟩)
    · by_cases hf : fineB F = true
      · have hd : leastE F = 0 := by unfold leastE; rw [if_neg (fun c => c h), if_neg h12, if_pos hf]
        refine ctW Tryd.tyOk 10 [] Tryd.func46 rfl (by simp) (by simp) (fr := [(0, fV F)]) rfl ?_
        repeat' (first | exact rfl | ((conv => whnf); first | (refine qX (fun h => ?_) fun h => ?_ <;> try exact absurd h (by omega)) | refine oN ?_ | refine oM ?_ ?_ | refine bM ?_ ?_ | refine dR ?_))
        refine cI (check_c F hl) [0, 1] Tryd.call29 ?_
        rw [h]
        repeat' (first | exact rfl | ((conv => whnf); first | (refine qX (fun h => ?_) fun h => ?_ <;> try exact absurd h (by omega)) | refine oN ?_ | refine oM ?_ ?_ | refine bM ?_ ?_ | refine dR ?_))
        all_goals try (exfalso; omega)
        (conv => whnf)
        refine cI (fine_c F (FRng.of hF)) [0, 1] Tryd.call36 ?_
        rw [hf]
        repeat' (first | exact rfl | ((conv => whnf); first | (refine qX (fun h => ?_) fun h => ?_ <;> try exact absurd h (by omega)) | refine oN ?_ | refine oM ?_ ?_ | refine bM ?_ ?_ | refine dR ?_))
        (conv => whnf)
        refine cF (made_c F (WOk.of hF) (by omega) (by omega) x hx) [0, 1, 2] Tryd.call37 ?_
        rintro v s ⟨U, hus, ⟨h1, rfl, rfl⟩ | ⟨h1, st, hmd, sp, sq, rfl, rfl⟩⟩
        · simp only [Nat.reduceAdd, Nat.reduceSub]
          repeat' (first | exact rfl | ((conv => whnf); first | (refine qX (fun h => ?_) fun h => ?_ <;> try exact absurd h (by omega)) | refine oN ?_ | refine oM ?_ ?_ | refine bM ?_ ?_ | refine dR ?_ | intro _))
          (conv => whnf)
          exact ⟨[], [(2, tabO x)], 3, .tup [.agg zero25, .c (.i 2)], ⟨by rfl, trivial, by simp⟩, by simp, .inr ⟨hd, U, hus, .inl ⟨h1, rfl, rfl⟩⟩⟩
        · have hD : DetH F U st := ⟨hF, hf, hus, h1, hmd⟩
          have hle : F.st ≤ 12 := by omega
          have hB := fun cf ca => (hD.fokB hle cf ca).1
          obtain ⟨_, hs1, hs2⟩ := hD.small
          have hdec : ∀ v s, (∃ n ff oo, IsLs U st n ff oo ∧ ((greatB oo ff = true ∧ v = .tup [.agg zero25, .c (.i 2)] ∧ s = ⟨[], [(2, tabO x)], 3⟩) ∨
              (greatB oo ff = false ∧ ∃ sp sq, v = .tup [.agg [.i (n : Nat), .i 0, .sl 3 1 0 ff.length (ff.length + sp), .sl 4 5 0 oo.length (oo.length + sq)], .c (.i 0)] ∧
              s = ⟨[], [(2, tabO x), (3, .arr true 3 .int ff sp), (4, .arr true 50 .arc oo sq)], 5⟩))) → LeastPost F x v s := fun v s hp => .inr ⟨hd, U, hus, .inr ⟨h1, st, hmd, hp⟩⟩
          by_cases hn : ∃ w c, CW U U.start w c
          · have c63 : ∀ cf ca, Ct Tryd.prog 63 [.a (.agg [.i (st.1.length : Nat), .i 0, .sl 0 1 0 (st.1.map (finD U)).length cf, .sl 1 5 0 st.2.length ca])] [] [(0, .arr false 3 .int (st.1.map (finD U)) 0), (1, .arr false 50 .arc st.2 0)] 2 (OutPost (st.1.length : Nat) 0 (st.1.map (finD U)) st.2 2) := fun cf ca =>
              (useful_c (mkD U st cf ca) (FRng.ofB (hB cf ca)) (hB cf ca).start).to fun v s ⟨p, hp, ho⟩ => by rw [hD.all hle hn hp] at ho; exact ho
            have d0 := dsD_is hD hle hn (q := 0) (by have := hD.ri.len; omega)
            have c73 : ∀ cf ca, Ct Tryd.prog 73 [.a (.agg [.i (st.1.length : Nat), .i 0, .sl 0 1 0 (st.1.map (finD U)).length cf, .sl 1 5 0 st.2.length ca])] [] [(0, .arr false 3 .int (st.1.map (finD U)) 0), (1, .arr false 50 .arc st.2 0)] 2
                (fun v s => ∃ sp sp', v = .tup [.agg [.i (st.1.length : Nat), .i 0, .sl 2 1 0 (st.1.map (finD U)).length ((st.1.map (finD U)).length + sp), .sl 3 5 0 (phT (mkD U st 0 0) 0 0).arcs.length ((phT (mkD U st 0 0) 0 0).arcs.length + sp')], .c (.i (dsD U st 0))] ∧
                  s = ⟨[], [(2, .arr true 3 .int (phT (mkD U st 0 0) 0 0).fin sp), (3, .arr true 50 .arc (phT (mkD U st 0 0) 0 0).arcs sp')], 4⟩) := fun cf ca =>
              (pushed_cB (mkD U st cf ca) (hB cf ca)).to fun v s hp => by
                have : ¬ (onS (mkD U st cf ca)).1.getD (mkD U st cf ca).start.toNat 0 = -1 := fun e => by
                  have e : dsD U st 0 = -1 := e
                  omega
                rw [if_neg this] at hp
                exact hp
            have hX := fun c1 c2 => ph_dfst (hB 0 0) (c1 := c1) (c2 := c2) fun q hq => by
              have hq : q < ((st.1.length : Nat) : Int).toNat := hq
              have := dsD_is hD hle hn (q := q) (by omega)
              unfold dsD at this
              omega
            have hXr := fun c1 c2 => ph_round (c1 := c1) (c2 := c2) (hD.round 0 0)
            have c75 : ∀ c1 c2, Ct Tryd.prog 75 [.a (.agg [.i (st.1.length : Nat), .i 0, .sl 0 1 0 (phT (mkD U st 0 0) 0 0).fin.length c1, .sl 1 5 0 (phT (mkD U st 0 0) 0 0).arcs.length c2])] [] [(0, .arr false 3 .int (phT (mkD U st 0 0) 0 0).fin 0), (1, .arr false 50 .arc (phT (mkD U st 0 0) 0 0).arcs 0), (2, tabO x)] 3
                (fun v s => ∃ cls, ClsOk (phT (mkD U st 0 0) c1 c2) cls ∧ v = .c (.sl 3 1 0 cls.length cls.length) ∧ s = ⟨[], [(2, tabO x), (3, .arr true 3 .int cls 0)], 4⟩) := fun c1 c2 =>
              classes_c (phT (mkD U st 0 0) c1 c2) (hX c1 c2) (hXr c1 c2) x hx
            have c76 : ∀ c1 c2 cls, ClsOk (phT (mkD U st 0 0) c1 c2) cls → Ct Tryd.prog 76 [.c (.ptr 2 0), .i (dsD U st 0)] [] [(0, .arr false 3 .int (phT (mkD U st 0 0) 0 0).fin 0), (1, .arr false 50 .arc (phT (mkD U st 0 0) 0 0).arcs 0), (2, .box 101 [.i (st.1.length : Nat), .i 0, .sl 0 1 0 (phT (mkD U st 0 0) 0 0).fin.length c1, .sl 1 5 0 (phT (mkD U st 0 0) 0 0).arcs.length c2, .sl 3 1 0 cls.length cls.length, .mp 4, .v (.slice none 0 0), .i 0, .i 0, .v (.slice none 0 0), .v (.slice none 0 0)]), (3, .arr false 3 .int cls 0), (4, .map .int .int [] 0)] 5
                (fun v s => ∃ n ff oo, IsLs U st n ff oo ∧ n ≤ 100000 ∧ ff.length ≤ 100000 ∧ oo.length ≤ 9223372036854775807 ∧ ∃ fsp asp, v = .a (.agg [.i (n : Nat), .i 0, .sl 5 1 0 ff.length (ff.length + fsp), .sl 6 5 0 oo.length (oo.length + asp)]) ∧ s = ⟨[], [(5, .arr true 3 .int ff fsp), (6, .arr true 50 .arc oo asp)], 7⟩) := fun c1 c2 cls hc =>
              (merge_c (phT (mkD U st 0 0) c1 c2) (hX c1 c2) ⟨Int.le_refl _, by show (0 : Int) < ((st.1.length : Nat) : Int); have := hD.ri.len; omega⟩ cls cls.length hc.len hc.bd (dsD U st 0) (by omega)).to fun v s ⟨left, outs, fsp, asp, m1, m2, m3, m4, m5⟩ =>
                ⟨left.length, _, _, .inr ⟨hn, c1, c2, cls, left, outs, hc, m1, m2, m3, rfl, rfl, rfl⟩, by
                  have := m3.le (hX c1 c2).st.1 hc.bd
                  have e : (phT (mkD U st 0 0) c1 c2).st = ((st.1.length : Nat) : Int) := rfl
                  simp only at this
                  omega, by
                  have := m3.le (hX c1 c2).st.1 hc.bd
                  have e : (phT (mkD U st 0 0) c1 c2).st = ((st.1.length : Nat) : Int) := rfl
                  have e2 : (adF (dsD U st 0) (left.map (fiA (phT (mkD U st 0 0) c1 c2)))).length = left.length := by unfold adF; split <;> simp
                  simp only at this
                  omega, by
                  have hk : ∀ k, (mgRows (phT (mkD U st 0 0) c1 c2) cls k).2.length ≤ k * (phT (mkD U st 0 0) c1 c2).arcs.length := fun k => by
                    induction k with
                    | zero => simp [mgRows]
                    | succ k ih =>
                      have := (mgP_len (D := phT (mkD U st 0 0) c1 c2) (cls := cls) (i := k) (s := (mgRows (phT (mkD U st 0 0) c1 c2) cls k).1.getD k 0) (st := mgRows (phT (mkD U st 0 0) c1 c2) cls k) (phT (mkD U st 0 0) c1 c2).arcs.length).1
                      show (mgP _ _ _ _ _ _).2.length ≤ _
                      rw [Nat.succ_mul]
                      omega
                  have h2 := hk left.length
                  rw [m1] at h2
                  have h3 := m3.le (hX c1 c2).st.1 hc.bd
                  have e : (phT (mkD U st 0 0) c1 c2).st = ((st.1.length : Nat) : Int) := rfl
                  simp only at h2 h3
                  have h4 : left.length * (phT (mkD U st 0 0) c1 c2).arcs.length ≤ 200 * (phT (mkD U st 0 0) c1 c2).arcs.length := Nat.mul_le_mul_right _ (by omega)
                  have h5 := (hX c1 c2).arc1
                  rw [List.length_map]
                  omega, fsp, asp, m4, m5⟩
            have hpl : (phT (mkD U st 0 0) 0 0).fin.length = (st.1.map (finD U)).length := pushF_len _ _ _
            have hfl : (st.1.map (finD U)).length ≤ 200 := by rw [List.length_map]; omega
            have hal : (phT (mkD U st 0 0) 0 0).arcs.length ≤ 10000 := (hX 0 0).arc1
            clear hX hXr hB
            generalize (phT (mkD U st 0 0) 0 0).fin = pf at *
            generalize (phT (mkD U st 0 0) 0 0).arcs = pl at *
            simp only [hpl] at c75 c76
            generalize hcl : ClsOk = CO at *
            clear hcl
            generalize st.1.map (finD U) = fins at *
            generalize ((st.1.length : Nat) : Int) = nst at *
            generalize st.2 = raw at *
            generalize dsD U st 0 = more at *
            simp only [Nat.reduceAdd, Nat.reduceSub]
            repeat' (first | exact rfl | ((conv => whnf); first | (refine qX (fun h => ?_) fun h => ?_ <;> try exact absurd h (by omega)) | refine oN ?_ | refine oM ?_ ?_ | refine bM ?_ ?_ | refine dR ?_ | intro _))
            (conv => whnf)
            refine cF (c63 (fins.length + sp) (raw.length + sq)) [5, 6] Tryd.call63 ?_
            rintro _ _ ⟨sp1, sq1, rfl, rfl⟩
            simp only [Nat.reduceAdd, Nat.reduceSub]
            repeat' (first | exact rfl | ((conv => whnf); first | (refine qX (fun h => ?_) fun h => ?_ <;> try exact absurd h (by omega)) | refine oN ?_ | refine oM ?_ ?_ | refine bM ?_ ?_ | refine dR ?_ | intro _))
            (conv => whnf)
            simp only [Nat.reduceAdd, Nat.reduceSub]
            refine cF (c73 (fins.length + sp1) (raw.length + sq1)) [8, 9] Tryd.call73 ?_
            rintro _ _ ⟨sp2, sq2, rfl, rfl⟩
            try simp only [Nat.reduceAdd, Nat.reduceSub]
            repeat' (first | exact rfl | ((conv => whnf); first | (refine qX (fun h => ?_) fun h => ?_ <;> try exact absurd h (by omega)) | refine oN ?_ | refine oM ?_ ?_ | refine bM ?_ ?_ | refine dR ?_ | intro _))
            all_goals
              (conv => whnf)
              simp only [Nat.reduceAdd, Nat.reduceSub]
              refine cF (c75 (fins.length + sp2) (pl.length + sq2)) [10, 11, 2] Tryd.call75 ?_
              rintro _ _ ⟨cls, hcls, rfl, rfl⟩
              repeat' (first | exact rfl | ((conv => whnf); first | (refine qX (fun h => ?_) fun h => ?_ <;> try exact absurd h (by omega)) | refine oN ?_ | refine oM ?_ ?_ | refine bM ?_ ?_ | refine dR ?_ | intro _))
              (conv => whnf)
              try simp only [Nat.reduceAdd, Nat.reduceSub]
            refine cF (c76 (fins.length + sp2) (pl.length + sq2) cls hcls) [10, 11, 14, 12, 13] Tryd.call76 ?_
            rotate_left
            refine cF (c76 (fins.length + sp2) (pl.length + sq2) cls hcls) [10, 11, 14, 13, 12] Tryd.call76 ?_
            rotate_left
            all_goals
              rintro _ _ ⟨n, ff, oo, hls, hn1, hf1, ho1, fsp, asp, rfl, rfl⟩
              repeat' (first | exact rfl | ((conv => whnf); first | (refine qX (fun h => ?_) fun h => ?_ <;> try exact absurd h (by omega)) | refine oN ?_ | refine oM ?_ ?_ | refine bM ?_ ?_ | refine dR ?_ | intro _))
              (conv => whnf)
              try simp only [Nat.reduceAdd, Nat.reduceSub]
              have hgc := great_c ⟨(n : Nat), 0, ff, oo, ff.length + fsp, oo.length + asp⟩ ho1 (by simp only; omega)
              refine cI (hgc) [15, 16] Tryd.call38 ?_
              simp only
              cases hg : greatB oo ff with
              | true =>
                repeat' (first | exact rfl | ((conv => whnf); first | (refine qX (fun h => ?_) fun h => ?_ <;> try exact absurd h (by omega)) | refine oN ?_ | refine oM ?_ ?_ | refine bM ?_ ?_ | refine dR ?_))
                (conv => whnf)
                exact ⟨[], [(2, tabO x)], 3, .tup [.agg zero25, .c (.i 2)], ⟨by rfl, trivial, by simp⟩, by simp, hdec _ _ ⟨n, ff, oo, hls, .inl ⟨hg, rfl, rfl⟩⟩⟩
              | false =>
                repeat' (first | exact rfl | ((conv => whnf); first | (refine qX (fun h => ?_) fun h => ?_ <;> try exact absurd h (by omega)) | refine oN ?_ | refine oM ?_ ?_ | refine bM ?_ ?_ | refine dR ?_))
                (conv => whnf)
                exact ⟨[(3, some 15), (4, some 16)], [(2, tabO x), (3, .arr true 3 .int ff fsp), (4, .arr true 50 .arc oo asp)], 5, .tup [.agg [.i (n : Nat), .i 0, .sl 3 1 0 ff.length (ff.length + fsp), .sl 4 5 0 oo.length (oo.length + asp)], .c (.i 0)], ⟨by rfl, trivial, by simp⟩, by simp, hdec _ _ ⟨n, ff, oo, hls, .inr ⟨hg, fsp, asp, rfl, rfl⟩⟩⟩
          · have c63 : ∀ cf ca, Ct Tryd.prog 63 [.a (.agg [.i (st.1.length : Nat), .i 0, .sl 0 1 0 (st.1.map (finD U)).length cf, .sl 1 5 0 st.2.length ca])] [] [(0, .arr false 3 .int (st.1.map (finD U)) 0), (1, .arr false 50 .arc st.2 0)] 2 (fun v s => ∃ ts tr tf ta, OutPost ts tr tf ta 2 v s ∧
                ∀ c1 c2, FOkB ⟨ts, tr, tf, ta, c1, c2⟩ ∧ (onS ⟨ts, tr, tf, ta, c1, c2⟩).1.getD tr.toNat 0 = -1) := fun cf ca =>
              (useful_c (mkD U st cf ca) (FRng.ofB (hB cf ca)) (hB cf ca).start).to fun v s ⟨p, hp, ho⟩ => ⟨_, _, _, _, ho, fun c1 c2 => ⟨kT_okB (hB cf ca) p c1 c2, hD.none hle hn hp c1 c2⟩⟩
            have hls : IsLs U st 1 [-1] [] := .inl ⟨hn, rfl, rfl, rfl⟩
            clear hB
            generalize st.1.map (finD U) = fins at *
            generalize ((st.1.length : Nat) : Int) = nst at *
            generalize st.2 = raw at *
            simp only [Nat.reduceAdd, Nat.reduceSub]
            repeat' (first | exact rfl | ((conv => whnf); first | (refine qX (fun h => ?_) fun h => ?_ <;> try exact absurd h (by omega)) | refine oN ?_ | refine oM ?_ ?_ | refine bM ?_ ?_ | refine dR ?_ | intro _))
            (conv => whnf)
            simp only [Nat.reduceAdd, Nat.reduceSub]
            refine cF (c63 (fins.length + sp) (raw.length + sq)) [5, 6] Tryd.call63 ?_
            rintro _ _ ⟨ts, tr, tf, ta, ⟨sp1, sq1, rfl, rfl⟩, hT⟩
            obtain ⟨hT1, hT2⟩ := hT (tf.length + sp1) (ta.length + sq1)
            have hpu := pushed_cB ⟨ts, tr, tf, ta, tf.length + sp1, ta.length + sq1⟩ hT1
            simp only [hT2, if_pos] at hpu
            clear hT hT2
            simp only [Nat.reduceAdd, Nat.reduceSub]
            repeat' (first | exact rfl | ((conv => whnf); first | (refine qX (fun h => ?_) fun h => ?_ <;> try exact absurd h (by omega)) | refine oN ?_ | refine oM ?_ ?_ | refine bM ?_ ?_ | refine dR ?_ | intro _))
            (conv => whnf)
            refine cF (hpu) [8, 9] Tryd.call73 ?_
            rintro _ _ ⟨sp2, rfl, rfl⟩
            repeat' (first | exact rfl | ((conv => whnf); first | (refine qX (fun h => ?_) fun h => ?_ <;> try exact absurd h (by omega)) | refine oN ?_ | refine oM ?_ ?_ | refine bM ?_ ?_ | refine dR ?_ | intro _))
            (conv => whnf)
            refine cF (nothing_c) [] Tryd.call74 ?_
            rintro _ _ ⟨sp3, sq3, rfl, rfl⟩
            repeat' (first | exact rfl | ((conv => whnf); first | (refine qX (fun h => ?_) fun h => ?_ <;> try exact absurd h (by omega)) | refine oN ?_ | refine oM ?_ ?_ | refine bM ?_ ?_ | refine dR ?_ | intro _))
            (conv => whnf)
            simp only [Nat.reduceAdd, Nat.reduceSub]
            exact ⟨[(3, some 11), (4, some 12)], [(2, tabO x), (3, .arr true 3 .int [-1] sp3), (4, .arr true 50 .arc [] sq3)], 5, .tup [.agg [.i ((1 : Nat) : Int), .i 0, .sl 3 1 0 ([-1] : List Int).length (([-1] : List Int).length + sp3), .sl 4 5 0 ([] : List Arc).length (([] : List Arc).length + sq3)], .c (.i 0)], ⟨by rfl, trivial, by simp⟩, by simp, hdec _ _ ⟨1, [-1], [], hls, .inr ⟨by decide, sp3, sq3, rfl, rfl⟩⟩⟩
      · have hd : leastE F = 4 := by unfold leastE; rw [if_neg (fun c => c h), if_neg h12, if_neg hf]
        have hf2 : fineB F = false := by simpa using hf
        refine ctW Tryd.tyOk 10 [] Tryd.func46 rfl (by simp) (by simp) (fr := [(0, fV F)]) rfl ?_
        repeat' (first | exact rfl | ((conv => whnf); first | (refine qX (fun h => ?_) fun h => ?_ <;> try exact absurd h (by omega)) | refine oN ?_ | refine oM ?_ ?_ | refine bM ?_ ?_ | refine dR ?_))
        refine cI (check_c F hl) [0, 1] Tryd.call29 ?_
        rw [h]
        repeat' (first | exact rfl | ((conv => whnf); first | (refine qX (fun h => ?_) fun h => ?_ <;> try exact absurd h (by omega)) | refine oN ?_ | refine oM ?_ ?_ | refine bM ?_ ?_ | refine dR ?_))
        all_goals try (exfalso; omega)
        (conv => whnf)
        refine cI (fine_c F (FRng.of hF)) [0, 1] Tryd.call36 ?_
        rw [hf2]
        repeat' (first | exact rfl | ((conv => whnf); first | (refine qX (fun h => ?_) fun h => ?_ <;> try exact absurd h (by omega)) | refine oN ?_ | refine oM ?_ ?_ | refine bM ?_ ?_ | refine dR ?_))
        (conv => whnf)
        exact ⟨[], [(2, tabO x)], 3, .tup [.agg zero25, .c (.i 4)], ⟨by rfl, trivial, by simp⟩, by simp, .inl ⟨by rw [hd]; decide, by rw [hd], rfl⟩⟩
  · have hd : leastE F = fstE F := by unfold leastE; rw [if_pos h]
    refine ctW Tryd.tyOk 10 [] Tryd.func46 rfl (by simp) (by simp) (fr := [(0, fV F)]) rfl ?_
    repeat' (first | exact rfl | ((conv => whnf); first | (refine qX (fun h => ?_) fun h => ?_ <;> try exact absurd h (by omega)) | refine oN ?_ | refine oM ?_ ?_ | refine bM ?_ ?_ | refine dR ?_))
    refine cI (check_c F hl) [0, 1] Tryd.call29 ?_
    repeat' (first | exact rfl | ((conv => whnf); first | (refine qX (fun h => ?_) fun h => ?_ <;> try exact absurd h (by omega)) | refine oN ?_ | refine oM ?_ ?_ | refine bM ?_ ?_ | refine dR ?_))
    all_goals
      first
      | (exfalso; omega)
      | ((conv => whnf)
         exact ⟨[], [(2, tabO x)], 3, .tup [.agg zero25, .c (.i (fstE F))], ⟨by rfl, trivial, by simp⟩, by simp, .inl ⟨by rw [hd]; exact h, by rw [hd], rfl⟩⟩)
end Go.Fw

/-
  What score tells is the least of all ways.
-/
namespace Go.Fw
open Go Go.Proofs
theorem fitE_take {l : List Int} {p x : Int} (hp : 0 ≤ p ∧ p ≤ l.length) (h : (fitE l p x).2 = true) : l.take (fitE l p x).1.toNat = l.take p.toNat ++ lab x := by
  unfold fitE lab at *
  by_cases e : x = 0
  · simp [if_pos e]
  · rw [if_neg e] at h ⊢
    rw [if_neg e]
    simp only [decide_eq_true_eq] at h ⊢
    have h1 : (p + 1).toNat = p.toNat + 1 := by omega
    rw [h1, take_succ_getD l p.toNat 0 (by omega), h.2]
section
variable {F : TF} {u v : List Int}
theorem Reach.way (hF : FOk F) {c : Int} {y : Trip} (h : Reach F u v (fromSt F) c y) : InBox F u v y ∧ Way F.arcs F.start (u.take y.b.toNat) (v.take y.c.toNat) y.a c := by
  induction h with
  | here h =>
    obtain ⟨rfl, rfl⟩ := h
    have := hF.start
    refine ⟨⟨this, ⟨Int.le_refl _, ?_⟩, ⟨Int.le_refl _, ?_⟩⟩, .nil _⟩ <;> (show (0 : Int) ≤ _; omega)
  | on h he ih =>
    obtain ⟨hx, hw⟩ := ih
    have hb := he.box hF hx
    refine ⟨hb, ?_⟩
    obtain ⟨a, h1, h2, h3, h4, rfl, rfl⟩ := he
    have ha := List.mem_of_getElem? h1
    rw [← h2] at hw
    simp only
    rw [fitE_take hx.2.1 h3, fitE_take hx.2.2 h4]
    exact hw.snoc ha
theorem fitE_of {u1 u2 : List Int} {x : Int} : (fitE (u1 ++ (lab x ++ u2)) u1.length x).2 = true ∧ (fitE (u1 ++ (lab x ++ u2)) u1.length x).1 = ((u1 ++ lab x).length : Int) := by
  unfold fitE lab
  by_cases e : x = 0
  · simp [if_pos e]
  · rw [if_neg e, if_neg e]
    refine ⟨?_, by simp⟩
    simp only [decide_eq_true_eq, Int.toNat_natCast]
    refine ⟨by simp; omega, ?_⟩
    simp [List.getD]
theorem Way.reach {S : Trip → Int → Prop} {s t : Int} {p q : List Int} {c : Int} (h : Way F.arcs s p q t c) : ∀ {u1 u2 v1 v2 : List Int} {c0 : Int}, u = u1 ++ (p ++ u2) → v = v1 ++ (q ++ v2) → Reach F u v S c0 ⟨s, u1.length, v1.length⟩ →
    Reach F u v S (c0 + c) ⟨t, (u1 ++ p).length, (v1 ++ q).length⟩ := by
  induction h with
  | nil s => intro u1 u2 v1 v2 c0 _ _ h; simpa using h
  | cons ha h ih =>
    rename_i a p q t c
    intro u1 u2 v1 v2 c0 hu hv hr
    obtain ⟨n, hn, he⟩ := List.getElem_of_mem ha
    have f1 := fitE_of (u1 := u1) (u2 := p ++ u2) (x := a.i)
    have f2 := fitE_of (u1 := v1) (u2 := q ++ v2) (x := a.o)
    rw [List.append_assoc] at hu hv
    rw [← hu] at f1
    rw [← hv] at f2
    have hedge : Edge F u v ⟨a.f, u1.length, v1.length⟩ n ⟨a.t, (u1 ++ lab a.i).length, (v1 ++ lab a.o).length⟩ a.w :=
      ⟨a, by rw [List.getElem?_eq_getElem hn, he], rfl, f1.1, f2.1, by rw [f1.2, f2.2], rfl⟩
    have := ih (u1 := u1 ++ lab a.i) (u2 := u2) (v1 := v1 ++ lab a.o) (v2 := v2) (by simp [hu]) (by simp [hv]) (.on hr hedge)
    rw [← Int.add_assoc, ← List.append_assoc, ← List.append_assoc]
    exact this
theorem reach_way (hF : FOk F) {c t : Int} : Reach F u v (fromSt F) c ⟨t, u.length, v.length⟩ ↔ Way F.arcs F.start u v t c := by
  constructor
  · intro h
    have := (h.way hF).2
    simpa using this
  · intro h
    have := h.reach (u := u) (v := v) (S := fromSt F) (u1 := []) (u2 := []) (v1 := []) (v2 := []) (c0 := 0) (by simp) (by simp) (.here ⟨rfl, rfl⟩)
    simpa using this
theorem endF_min {A : Trip → Option Int} {fin : List Int} {p q : Int} (hf : ∀ x ∈ fin, -1 ≤ x) (hA : ∀ y d, A y = some d → 0 ≤ d) : ∀ k, k ≤ fin.length → MinOf (fun c => ∃ (n : Nat) (d : Int), n < k ∧ A ⟨n, p, q⟩ = some d ∧ fin.getD n 0 ≠ -1 ∧ c = d + fin.getD n 0) (endF A fin p q k).2
  | 0, _ => .inl ⟨rfl, fun c h => by obtain ⟨n, d, h, _⟩ := h; omega⟩
  | k + 1, hk => by
    have ih := endF_min (p := p) (q := q) hf hA k (by omega)
    have hfk := hf _ (getD_mem fin k 0 (by omega))
    cases hd : A ⟨k, p, q⟩ with
    | none =>
      rw [endF_none hd]
      rcases ih with ⟨h1, h2⟩ | ⟨h0, ⟨n, d, h1, h2⟩, h3⟩
      · left
        refine ⟨h1, ?_⟩
        rintro c ⟨n, d, g1, g2, g3⟩
        by_cases e : n = k
        · subst e; rw [hd] at g2; cases g2
        · exact h2 c ⟨n, d, by omega, g2, g3⟩
      · right
        refine ⟨h0, ⟨n, d, by omega, h2⟩, ?_⟩
        rintro c ⟨n, d, g1, g2, g3⟩
        by_cases e : n = k
        · subst e; rw [hd] at g2; cases g2
        · exact h3 c ⟨n, d, by omega, g2, g3⟩
    | some d =>
      have hd0 := hA _ _ hd
      by_cases q1 : fin.getD k 0 = -1
      · rw [endF_no hd (.inl q1)]
        rcases ih with ⟨h1, h2⟩ | ⟨h0, ⟨n, d, h1, h2⟩, h3⟩
        · left
          refine ⟨h1, ?_⟩
          rintro c ⟨n, d, g1, g2, g3, g4⟩
          by_cases e : n = k
          · subst e; exact g3 q1
          · exact h2 c ⟨n, d, by omega, g2, g3, g4⟩
        · right
          refine ⟨h0, ⟨n, d, by omega, h2⟩, ?_⟩
          rintro c ⟨n, d, g1, g2, g3, g4⟩
          by_cases e : n = k
          · subst e; exact absurd q1 g3
          · exact h3 c ⟨n, d, by omega, g2, g3, g4⟩
      · by_cases q2 : (endF A fin p q k).2 = -1 ∨ d + fin.getD k 0 < (endF A fin p q k).2
        · rw [endF_yes hd q1 q2]
          right
          refine ⟨by show 0 ≤ d + fin.getD k 0; omega, ⟨k, d, by omega, hd, q1, rfl⟩, ?_⟩
          rintro c ⟨n, d', g1, g2, g3, g4⟩
          by_cases e : n = k
          · subst e; rw [hd] at g2; cases g2; simp only; omega
          · rcases ih with ⟨h1, h2⟩ | ⟨h0, _, h3⟩
            · exact absurd ⟨n, d', by omega, g2, g3, g4⟩ (h2 c)
            · have := h3 c ⟨n, d', by omega, g2, g3, g4⟩
              simp only
              omega
        · rw [endF_no hd (.inr ⟨fun c => q2 (.inl c), fun c => q2 (.inr c)⟩)]
          rcases ih with ⟨h1, h2⟩ | ⟨h0, ⟨n, d', h1, h2⟩, h3⟩
          · exact absurd (.inl h1) q2
          · right
            refine ⟨h0, ⟨n, d', by omega, h2⟩, ?_⟩
            rintro c ⟨n, d', g1, g2, g3, g4⟩
            by_cases e : n = k
            · subst e; rw [hd] at g2; cases g2; omega
            · exact h3 c ⟨n, d', by omega, g2, g3, g4⟩
theorem score_min (hF : FOk F) {A : Trip → Option Int} (hA : IsLeast F u v (fromSt F) A) : MinOf (Wt F u v) (endF A F.fin u.length v.length F.fin.length).2 := by
  have hfl := hF.finl
  have hpos : ∀ y d, A y = some d → 0 ≤ d := fun y d h => ((hA.path y d h).way hF).2.pos hF.arc
  have := endF_min (p := u.length) (q := v.length) (fun x hx => (hF.fin x hx).1) hpos F.fin.length (Nat.le_refl _)
  rcases this with ⟨h1, h2⟩ | ⟨h0, ⟨n, d, h1, h2, h3, h4⟩, h5⟩
  · left
    refine ⟨h1, ?_⟩
    rintro c ⟨t, d, g1, g2, g3⟩
    obtain ⟨c', g4, g5⟩ := hA.least _ _ ((reach_way hF).2 g1)
    have hr := g1.rng hF.arc hF.start
    have e : (t.toNat : Int) = t := by omega
    exact h2 _ ⟨t.toNat, c', by omega, by rw [e]; exact g4, g2, rfl⟩
  · right
    refine ⟨h0, ⟨n, d, (reach_way hF).1 (hA.path _ _ h2), by rw [Int.toNat_natCast]; exact h3, by rw [Int.toNat_natCast]; exact h4⟩, ?_⟩
    rintro c ⟨t, d, g1, g2, g3⟩
    obtain ⟨c', g4, g5⟩ := hA.least _ _ ((reach_way hF).2 g1)
    have hr := g1.rng hF.arc hF.start
    have e : (t.toNat : Int) = t := by omega
    have := h5 _ ⟨t.toNat, c', by omega, by rw [e]; exact g4, g2, rfl⟩
    omega
end
theorem endF_bd {A : Trip → Option Int} {fin : List Int} {p q : Int} (hf : ∀ x ∈ fin, x ≤ 1000000000) (hA : ∀ y d, A y = some d → d ≤ 1000000000000000) : ∀ k, k ≤ fin.length → (endF A fin p q k).2 ≤ 1000001000000000
  | 0, _ => by simp [endF]
  | k + 1, hk => by
    have ih := endF_bd (p := p) (q := q) hf hA k (by omega)
    have hfk := hf _ (getD_mem fin k 0 (by omega))
    cases hd : A ⟨k, p, q⟩ with
    | none => rw [endF_none hd]; exact ih
    | some d =>
      have := hA _ _ hd
      by_cases c : fin.getD k 0 ≠ -1 ∧ ((endF A fin p q k).2 = -1 ∨ d + fin.getD k 0 < (endF A fin p q k).2)
      · rw [endF_yes hd c.1 c.2]; show d + fin.getD k 0 ≤ _; omega
      · rw [endF_no hd]
        · exact ih
        · by_cases c1 : fin.getD k 0 = -1
          · exact .inl c1
          · exact .inr ⟨fun e => c ⟨c1, .inl e⟩, fun e => c ⟨c1, .inr e⟩⟩
end Go.Fw

namespace Go.Fw
open Go Go.Proofs
def ScoreP (F : TF) (u v : List Int) (n : Int) : Prop := (scoreE F u v = 0 → MinOf (Wt F u v) n ∧ n ≤ 1000001000000000) ∧ (scoreE F u v ≠ 0 → n = 0)
set_option maxHeartbeats 4000000 in
set_option maxRecDepth 20000 in
theorem score_b (F : TF) (u v : List Int) (cu cv : Nat) (hl : F.fin.length ≤ 9223372036854775807) (hsc : scoreE F u v = 0) :
    Ct Tryd.prog 20 [fV F, .c (.sl 2 1 0 u.length cu), .c (.sl 3 1 0 v.length cv)] [] (hpQ F u v) 4 (fun x s => ∃ n, ScoreP F u v n ∧ x = .tup [.c (.i n), .c (.i 0)] ∧ s = ⟨[], [], 4⟩) := by
  have hF : FOk F := by
    refine fstE_ok ?_
    unfold scoreE at hsc
    by_cases h : fstE F = 0
    · exact h
    · rw [if_pos h] at hsc; exact absurd hsc h
  refine ctW Tryd.tyOk 12 [] Tryd.func20 rfl (by simp) (by simp) (fr := [(0, fV F), (1, .c (.sl 2 1 0 u.length cu)), (2, .c (.sl 3 1 0 v.length cv))]) rfl ?_
  repeat' (first | exact rfl | ((conv => whnf); first | (refine qX (fun h => ?_) fun h => ?_ <;> try exact absurd h (by omega)) | refine oN ?_ | refine oM ?_ ?_ | refine bM ?_ ?_ | refine dR ?_))
  (conv => whnf)
  refine cF (walk_ok F u v cu cv hl hsc) [0, 1, 2, 3] Tryd.call45 ?_
  rintro _ _ ⟨rows, pi, es, clk, pf, ⟨hm, ord, rk, B, hol, hD, hB, hall⟩, rfl, rfl⟩
  repeat' (first | exact rfl | ((conv => whnf); first | (refine qX (fun h => ?_) fun h => ?_ <;> try exact absurd h (by omega)) | refine oN ?_ | refine oM ?_ ?_ | refine bM ?_ ?_ | refine dR ?_))
  (conv => whnf)
  refine ⟨[], [], 4, .tup [.c (.i (endF (costOf es pf) F.fin u.length v.length F.fin.length).2), .c (.i 0)], ⟨by rfl, trivial, trivial⟩, by simp, _, ⟨fun _ => ⟨score_min hF (hD.least hall), ?_⟩, fun c => absurd hsc c⟩, rfl, rfl⟩
  refine endF_bd (fun x hx => (hF.fin x hx).2) (fun y d h => ?_) _ (Nat.le_refl _)
  obtain ⟨e, h1, rfl⟩ := Option.map_eq_some_iff.1 h
  have := (hD.cost y e h1).2
  omega
theorem score_a (F : TF) (u v : List Int) (cu cv : Nat) (hl : F.fin.length ≤ 9223372036854775807) :
    Ct Tryd.prog 20 [fV F, .c (.sl 2 1 0 u.length cu), .c (.sl 3 1 0 v.length cv)] [] (hpQ F u v) 4 (fun x s => ∃ n, ScoreP F u v n ∧ x = .tup [.c (.i n), .c (.i (scoreE F u v))] ∧ s = ⟨[], [], 4⟩) := by
  by_cases h : scoreE F u v = 0
  · refine (score_b F u v cu cv hl h).to ?_
    rintro x s ⟨n, h1, h2, h3⟩
    exact ⟨n, h1, by rw [h2, h], h3⟩
  · refine (score_no F u v cu cv hl h).to ?_
    rintro x s ⟨h2, h3⟩
    exact ⟨0, ⟨fun c => absurd c h, fun _ => rfl⟩, h2, h3⟩
end Go.Fw

/-
  The most of a list.
-/
namespace Go.Fw
open Go
def mostL (l : List Int) (m : Int) : Int := l.foldl (fun m x => if m < x then x else m) m
def mostW (F : TF) : Int := mostL F.fin (mostL (F.arcs.map (·.w)) 0)
end Go.Fw

namespace Go.Fw
open Go Go.Proofs
end Go.Fw

/-
  States by classes and states by beginnings: both numberings run alike.
-/
namespace Go.Fw
section
variable (U : TF) (W vs : List (List Int))
def lrBase (n j : Nat) : Int := if n = 0 then 0 else bstW U W vs W.length j
def lrStep (n j : Nat) (st : List Nat × List Arc) (c : Nat) : List Nat × List Arc :=
  if 0 ≤ onI W j ((c : Int) + 1) then
    (lsF U W vs st.1 (onI W j ((c : Int) + 1)).toNat, st.2 ++ [⟨(n : Nat), (c : Int) + 1, (c : Int) + 1, (lsN U W vs st.1 (onI W j ((c : Int) + 1)).toNat : Nat), bstW U W vs W.length (onI W j ((c : Int) + 1)).toNat - lrBase U W vs n j⟩])
  else st
def lrL (n j : Nat) (st : List Nat × List Arc) : Nat → List Nat × List Arc
  | 0 => st
  | k + 1 => lrStep U W vs n j (lrL n j st k) k
def lrRows : Nat → List Nat × List Arc
  | 0 => ([0], [])
  | n + 1 => lrL U W vs n ((lrRows n).1.getD n 0) (lrRows n) 9
def lrE (n j : Nat) : Int := if 0 ≤ endW U vs j then endW U vs j - lrBase U W vs n j else endW U vs j
def lrF (first : List Nat) (n : Nat) : List Int := (List.range n).map fun k => lrE U W vs k (first.getD k 0)
end
section
variable {U : TF} {W vs : List (List Int)}
theorem alk_refl : ∀ (f i : Nat) (x : Int), alkW U W vs f i i x x = true
  | 0, _, _ => rfl
  | f + 1, i, x => by
    have hdef : alkW U W vs (f + 1) i i x x = (alE (endW U vs i) (endW U vs i) x x && (List.range 9).all (alkS U W vs f i i x x)) := rfl
    rw [hdef, Bool.and_eq_true, List.all_eq_true]
    refine ⟨by simp [alE], fun c _ => ?_⟩
    unfold alkS
    rw [if_neg (by simp)]
    split
    · exact alk_refl f _ x
    · rfl
structure LrI (W : List (List Int)) (first : List Nat) : Prop where
  rng : ∀ j ∈ first, j < W.length
  nd : first.Nodup
  pos : 1 ≤ first.length
theorem LrI.le {first : List Nat} (h : LrI W first) : first.length ≤ W.length := by
  have := nd_le h.nd (m := List.range W.length) fun j hj => List.mem_range.2 (h.rng j hj)
  simpa using this
theorem LrI.step {first : List Nat} (h : LrI W first) {i : Nat} (hi : i < W.length) : LrI W (lsF U W vs first i) := by
  unfold lsF
  split
  · exact h
  · rename_i hn
    have hni : i ∉ first := fun hc => hn (by
      unfold lsN
      exact List.findIdx_lt_length_of_exists ⟨i, hc, alk_refl _ _ _⟩)
    refine ⟨fun j hj => ?_, ?_, by simp⟩
    · rcases List.mem_append.1 hj with hj | hj
      · exact h.rng j hj
      · rw [List.mem_singleton] at hj; rw [hj]; exact hi
    · refine List.nodup_append.2 ⟨h.nd, by simp, fun a ha b hb => ?_⟩
      rw [List.mem_singleton] at hb
      rw [hb]
      exact fun e => hni (e ▸ ha)
end
theorem findIdx_idxOf {p : Nat → Bool} {t : Int} : ∀ {f : List Nat} {L : List Int}, f.length = L.length → (∀ j, j < L.length → (p (f.getD j 0) = true ↔ L.getD j 0 = t)) → f.findIdx p = L.idxOf t
  | [], [], _, _ => rfl
  | [], _ :: _, h, _ => by cases h
  | _ :: _, [], h, _ => by cases h
  | x :: f, y :: L, h, hj => by
    have h0 := hj 0 (by simp)
    simp only [List.getD_cons_zero] at h0
    have ih := findIdx_idxOf (p := p) (t := t) (f := f) (L := L) (by simpa using h) fun j hjl => by
      have := hj (j + 1) (by simp only [List.length_cons]; omega)
      simpa only [List.getD_cons_succ] using this
    rw [List.findIdx_cons, List.idxOf_cons, ih]
    by_cases e : y = t
    · rw [h0.2 e, e]; simp
    · have hp : p x = false := by
        cases hp : p x with
        | false => rfl
        | true => exact absurd (h0.1 hp) e
      rw [hp, show (y == t) = false by simpa using e]
def mgG (cls : List Int) (i : Nat) (st : List Int × List Arc) (a : Arc) : List Int × List Arc := (mgL cls st.1 a.t, st.2 ++ [⟨(i : Nat), a.i, a.o, mgN cls st.1 a.t, a.w⟩])
theorem mgP_fold (D : TF) (cls : List Int) (i : Nat) (s : Int) (st : List Int × List Arc) : ∀ k, k ≤ D.arcs.length → mgP D cls i s st k = ((D.arcs.take k).filter fun a => decide (a.f = s)).foldl (mgG cls i) st
  | 0, _ => by simp [mgP]
  | k + 1, hk => by
    show mgStep cls i s (mgP D cls i s st k) (D.arcs.getD k aD) = _
    have e : D.arcs.take (k + 1) = D.arcs.take k ++ [D.arcs.getD k aD] := by
      rw [List.take_add_one]
      simp [List.getD, show k < D.arcs.length by omega]
    rw [e, List.filter_append, List.foldl_append, ← mgP_fold D cls i s st k (by omega)]
    unfold mgStep
    by_cases h : (D.arcs.getD k aD).f = s
    · rw [if_pos h, List.filter_cons_of_pos (by simpa using h)]
      rfl
    · rw [if_neg h, List.filter_cons_of_neg (by simpa using h)]
      rfl
theorem arc_ext : ∀ {l m : List Arc}, l.Pairwise (fun x y => x.i < y.i) → m.Pairwise (fun x y => x.i < y.i) → (∀ x, x ∈ l ↔ x ∈ m) → l = m
  | [], [], _, _, _ => rfl
  | [], y :: m, _, _, h => by have := (h y).2 (by simp); cases this
  | x :: l, [], _, _, h => by have := (h x).1 (by simp); cases this
  | x :: l, y :: m, hl, hm, h => by
    rw [List.pairwise_cons] at hl hm
    have e : x = y := by
      have h1 := (h x).1 (by simp)
      have h2 := (h y).2 (by simp)
      rcases List.mem_cons.1 h1 with h1 | h1
      · exact h1
      · rcases List.mem_cons.1 h2 with h2 | h2
        · exact h2.symm
        · have := hm.1 x h1
          have := hl.1 y h2
          omega
    subst e
    rw [arc_ext hl.2 hm.2 fun z => ?_]
    have hz := h z
    rw [List.mem_cons, List.mem_cons] at hz
    constructor
    · intro hzl
      rcases hz.1 (.inr hzl) with e | g
      · subst e; have := hl.1 z hzl; omega
      · exact g
    · intro hzm
      rcases hz.2 (.inr hzm) with e | g
      · subst e; have := hm.1 z hzm; omega
      · exact g
def outR (X : TF) (s : Int) (k : Nat) : List Arc := X.arcs.filter fun a => decide (a.f = s) && decide (a.i ≤ (k : Int))
theorem mem_outR {X : TF} {s : Int} {k : Nat} {a : Arc} : a ∈ outR X s k ↔ a ∈ X.arcs ∧ a.f = s ∧ a.i ≤ k := by
  unfold outR
  rw [List.mem_filter, Bool.and_eq_true, decide_eq_true_eq, decide_eq_true_eq]
theorem outR_srt {X : TF} (hd : DetD X) (s : Int) (k : Nat) : (outR X s k).Pairwise fun x y => x.i < y.i := by
  have h1 : (outR X s k).Pairwise fun a b => aheadB a b = true := List.Pairwise.sublist List.filter_sublist hd.srt
  refine List.Pairwise.imp_of_mem (fun {a b} ha hb hab => ?_) h1
  obtain ⟨ha1, ha2, _⟩ := mem_outR.1 ha
  obtain ⟨hb1, hb2, _⟩ := mem_outR.1 hb
  rw [aheadB_iff] at hab
  by_cases hi : a.i = b.i
  · have := hd.one a ha1 b hb1 (ha2.trans hb2.symm) hi
    rw [this] at hab
    omega
  · omega
theorem outR_yes {X : TF} (hd : DetD X) {s : Int} {k : Nat} {a : Arc} (ha : a ∈ X.arcs) (h1 : a.f = s) (h2 : a.i = (k : Int) + 1) : outR X s (k + 1) = outR X s k ++ [a] := by
  refine arc_ext (outR_srt hd s (k + 1)) ?_ fun x => ?_
  · refine List.pairwise_append.2 ⟨outR_srt hd s k, List.pairwise_singleton _ _, fun x hx y hy => ?_⟩
    rw [List.mem_singleton] at hy
    subst hy
    have := (mem_outR.1 hx).2.2
    omega
  · rw [List.mem_append, List.mem_singleton, mem_outR, mem_outR]
    constructor
    · rintro ⟨g1, g2, g3⟩
      by_cases e : x.i = (k : Int) + 1
      · exact .inr (hd.one x g1 a ha (g2.trans h1.symm) (e.trans h2.symm))
      · exact .inl ⟨g1, g2, by omega⟩
    · rintro (⟨g1, g2, g3⟩ | rfl)
      · exact ⟨g1, g2, by omega⟩
      · exact ⟨ha, h1, by omega⟩
theorem outR_no {X : TF} {s : Int} {k : Nat} (h : ∀ a ∈ X.arcs, a.f = s → a.i ≠ (k : Int) + 1) : outR X s (k + 1) = outR X s k := by
  unfold outR
  refine List.filter_congr fun a ha => ?_
  by_cases e : a.f = s
  · have := h a ha e
    rw [decide_eq_true e, Bool.true_and, Bool.true_and]
    exact decide_eq_decide.2 ⟨fun g => by omega, fun g => by omega⟩
  · rw [decide_eq_false e]; rfl
theorem outR_none {X : TF} {s : Int} (h : ∀ a ∈ X.arcs, 1 ≤ a.i) : outR X s 0 = [] := by
  unfold outR
  rw [List.filter_eq_nil_iff]
  intro a ha
  have := h a ha
  rw [Bool.and_eq_true, decide_eq_true_eq, decide_eq_true_eq]
  rintro ⟨_, g⟩
  omega
theorem outR_all {X : TF} {s : Int} (h : ∀ a ∈ X.arcs, a.i ≤ 9) : outR X s 9 = X.arcs.filter fun a => decide (a.f = s) := by
  unfold outR
  refine List.filter_congr fun a ha => ?_
  rw [decide_eq_true (show a.i ≤ ((9 : Nat) : Int) from h a ha), Bool.and_true]
section
variable {F U : TF} {st : DS} (h : DetH F U st) (h12 : F.st ≤ 12) (hn : ∃ w c, CW U U.start w c) {W vs : List (List Int)} {par sym : List Int} (hw : WSt U W vs par sym W.length 1)
structure Run (U : TF) (st : DS) (W : List (List Int)) (a : List Nat × List Arc) (b : List Int × List Arc) : Prop where
  len : a.1.length = b.1.length
  f0 : a.1.getD 0 0 = 0
  pos : 1 ≤ b.1.length
  on : ∀ j, j < b.1.length → a.1.getD j 0 < W.length ∧ ∃ (q : Nat) (d : Int), q < st.1.length ∧ b.1.getD j 0 = q ∧ RdW st.2 0 (W.getD (a.1.getD j 0) []) q d
  out : a.2 = b.2.map (adA (dsD U st 0))
include h hw in
theorem Run.start (cls : List Int) (c1 c2 : Nat) : Run U st W (lrRows U W vs 0) (mgRows (phT (mkD U st 0 0) c1 c2) cls 0) := by
  refine ⟨rfl, rfl, Nat.le_refl _, fun j hj => ?_, rfl⟩
  have hj : j < 1 := hj
  have : j = 0 := by omega
  subst this
  refine ⟨hw.pos, 0, 0, h.ri.len, rfl, ?_⟩
  show RdW st.2 0 (W.getD 0 []) _ 0
  rw [hw.w0]
  exact .nil _
include h h12 hn hw
variable {c1 c2 : Nat} {cls : List Int} (hc : ClsOk (phT (mkD U st 0 0) c1 c2) cls)
include hc
theorem Run.num {a : List Nat × List Arc} {b : List Int × List Arc} (hr : Run U st W a b) {o : Nat} (ho : o < W.length) {r : Nat} {e : Int} (hr1 : r < st.1.length) (hr2 : RdW st.2 0 (W.getD o []) r e) :
    lsN U W vs a.1 o = (b.1.map (clA cls)).idxOf (clA cls r) := by
  unfold lsN
  refine findIdx_idxOf (by rw [List.length_map]; exact hr.len) fun j hj => ?_
  rw [List.length_map] at hj
  obtain ⟨k1, q, d, k2, k3, k4⟩ := hr.on j hj
  rw [lsA_iff h h12 hn hw hc k1 ho k2 hr1 k4 hr2]
  have e1 : (b.1.map (clA cls)).getD j 0 = clA cls (b.1.getD j 0) := by simp [List.getD, hj]
  rw [e1, k3]
  unfold clA
  rw [Int.toNat_natCast, Int.toNat_natCast]
theorem Run.step {n j q : Nat} {d : Int} (hj : j < W.length) (hq : q < st.1.length) (hjq : RdW st.2 0 (W.getD j []) q d) (h0 : n = 0 → j = 0) {a : List Nat × List Arc} {b : List Int × List Arc} (hr : Run U st W a b) {k : Nat} (hk : k < 9) :
    (0 ≤ onI W j ((k : Int) + 1) ∧ ∃ x ∈ (phT (mkD U st 0 0) c1 c2).arcs, x.f = q ∧ x.i = (k : Int) + 1 ∧ Run U st W (lrStep U W vs n j a k) (mgG cls n b x)) ∨
    (¬ 0 ≤ onI W j ((k : Int) + 1) ∧ (∀ x ∈ (phT (mkD U st 0 0) c1 c2).arcs, x.f = q → x.i ≠ (k : Int) + 1) ∧ Run U st W (lrStep U W vs n j a k) b) := by
  have hB := (h.fokB h12 0 0).1
  by_cases ho : 0 ≤ onI W j ((k : Int) + 1)
  · left
    refine ⟨ho, ?_⟩
    obtain ⟨x, hx, g1, g2, g3, g4, g5, g6⟩ := on_yes h hw hj hjq ho
    have hrx := (h.rngD 0 0 x hx).2.1
    have hrx : 0 ≤ x.t ∧ x.t < ((st.1.length : Nat) : Int) := hrx
    have et : ((x.t.toNat : Nat) : Int) = x.t := by omega
    have d1 := dsD_is h h12 hn hq
    have d2 := dsD_is h h12 hn (q := x.t.toNat) (by omega)
    have d0 := dsD_is h h12 hn (q := 0) (by have := h.ri.len; omega)
    have eq' : x.f.toNat = q := by omega
    have hnum := hr.num h h12 hn hw hc g4.2 (r := x.t.toNat) (by omega) (by rw [et]; exact g6)
    rw [et] at hnum
    have hb1 := bst_is h h12 hn hw hj hq hjq
    have hb2 := bst_is h h12 hn hw g4.2 (q := x.t.toNat) (by omega) (by rw [et]; exact g6)
    have hp : (⟨x.f, x.i, x.o, x.t, x.w + (dsD U st x.t.toNat - dsD U st q)⟩ : Arc) ∈ (phT (mkD U st 0 0) c1 c2).arcs := by
      show _ ∈ pushL _ _
      refine pushL_mem.2 ⟨x, hx, ?_, ?_, ?_⟩
      · rw [eq']; have := d1.2.1; unfold dsD at this; omega
      · have := d2.2.1; unfold dsD at this; omega
      · rw [eq']; rfl
    refine ⟨_, hp, g1, g2, ?_⟩
    unfold lrStep mgG
    rw [if_pos ho]
    have hxw : (adA (dsD U st 0) ⟨(n : Nat), x.i, x.o, mgN cls b.1 x.t, x.w + (dsD U st x.t.toNat - dsD U st q)⟩) = ⟨(n : Nat), (k : Int) + 1, (k : Int) + 1, mgN cls b.1 x.t, bstW U W vs W.length (onI W j ((k : Int) + 1)).toNat - lrBase U W vs n j⟩ := by
      unfold adA lrBase
      rw [hb2]
      by_cases en : n = 0
      · have ej := h0 en
        subst en ej
        rw [hw.w0] at hjq
        obtain ⟨e1, e2⟩ := hjq.none rfl
        have e3 : q = 0 := by omega
        subst e2 e3
        rw [if_pos rfl, if_pos (by rfl)]
        simp only [Arc.mk.injEq]
        exact ⟨trivial, g2, g3, trivial, by omega⟩
      · rw [if_neg en, if_neg (by simp only; omega), hb1]
        simp only [Arc.mk.injEq]
        exact ⟨trivial, g2, g3, trivial, by omega⟩
    have hnew : Run U st W (a.1 ++ [(onI W j ((k : Int) + 1)).toNat], a.2) (b.1 ++ [x.t], b.2) := by
      have hlen := hr.len
      have hpos := hr.pos
      refine ⟨by simp only [List.length_append, List.length_singleton]; omega, ?_, by simp only [List.length_append, List.length_singleton]; omega, fun i hi => ?_, hr.out⟩
      · show (a.1 ++ _).getD 0 0 = 0
        rw [snoc_getD, if_neg (by omega)]; exact hr.f0
      · simp only [List.length_append, List.length_singleton] at hi ⊢
        rw [snoc_getD, snoc_getD, hlen]
        by_cases e : i = b.1.length
        · rw [if_pos e, if_pos e]
          exact ⟨g4.2, x.t.toNat, _, by omega, et.symm, by rw [et]; exact g6⟩
        · rw [if_neg e, if_neg e]
          exact hr.on i (by omega)
    have hmg : (mgN cls b.1 x.t : Int) = (lsN U W vs a.1 (onI W j ((k : Int) + 1)).toNat : Nat) ∧ Run U st W (lsF U W vs a.1 (onI W j ((k : Int) + 1)).toNat, a.2) (mgL cls b.1 x.t, b.2) := by
      rw [hnum]
      unfold mgN mgL lsF
      rw [hnum]
      have hlen := hr.len
      have hll : (b.1.map (clA cls)).length = b.1.length := List.length_map _
      by_cases hm : clA cls x.t ∈ b.1.map (clA cls)
      · have := List.idxOf_lt_length_of_mem hm
        rw [if_pos hm, if_pos (by omega)]
        exact ⟨rfl, hr⟩
      · have hio : (b.1.map (clA cls)).idxOf (clA cls x.t) = b.1.length := by rw [List.idxOf_eq_length hm, hll]
        rw [if_neg hm, if_neg (by omega), List.map_append, hio]
        have e9 : (b.1.map (clA cls) ++ [x.t].map (clA cls)).idxOf (clA cls x.t) = b.1.length := by
          show (b.1.map (clA cls) ++ [clA cls x.t]).idxOf (clA cls x.t) = _
          rw [idxOf_out hm, hll]
          simp
        exact ⟨by rw [e9], hnew⟩
    obtain ⟨hm1, hm2⟩ := hmg
    refine ⟨hm2.len, hm2.f0, hm2.pos, hm2.on, ?_⟩
    show a.2 ++ _ = (b.2 ++ _).map _
    rw [List.map_append, ← hr.out, List.map_singleton, hxw, hm1]
  · right
    refine ⟨ho, fun x hx e1 e2 => ho ?_, ?_⟩
    · obtain ⟨y, hy, _, _, rfl⟩ := pushL_mem.1 hx
      exact on_no h hw hj hjq hy e1 e2
    · unfold lrStep
      rw [if_neg ho]
      exact hr
theorem Run.row {n j q : Nat} {d : Int} (hj : j < W.length) (hq : q < st.1.length) (hjq : RdW st.2 0 (W.getD j []) q d) (h0 : n = 0 → j = 0) {a : List Nat × List Arc} {b : List Int × List Arc} (hr : Run U st W a b) :
    ∀ k, k ≤ 9 → Run U st W (lrL U W vs n j a k) ((outR (phT (mkD U st 0 0) c1 c2) q k).foldl (mgG cls n) b)
  | 0, _ => by
    rw [outR_none fun x hx => by
      obtain ⟨y, hy, _, _, rfl⟩ := pushL_mem.1 hx
      exact (h.rngD 0 0 y hy).2.2.1.1]
    exact hr
  | k + 1, hk => by
    have ih := Run.row hj hq hjq h0 hr k (by omega)
    show Run U st W (lrStep U W vs n j (lrL U W vs n j a k) k) _
    rcases ih.step h h12 hn hw hc hj hq hjq h0 (k := k) (by omega) with ⟨_, x, hx, e1, e2, g⟩ | ⟨_, hno, g⟩
    · rw [outR_yes (ph_det (h.detD 0 0)) hx e1 e2, List.foldl_append]
      exact g
    · rw [outR_no hno]
      exact g
theorem Run.rows : ∀ n, (∀ j, j < n → j < (mgRows (phT (mkD U st 0 0) c1 c2) cls j).1.length) → Run U st W (lrRows U W vs n) (mgRows (phT (mkD U st 0 0) c1 c2) cls n)
  | 0, _ => Run.start h hw cls c1 c2
  | n + 1, hl => by
    have ih := Run.rows n fun j hj => hl j (by omega)
    obtain ⟨hj, q, d, hq, hb, hr⟩ := ih.on n (hl n (by omega))
    show Run U st W (lrL U W vs n ((lrRows U W vs n).1.getD n 0) (lrRows U W vs n) 9) (mgP (phT (mkD U st 0 0) c1 c2) cls n ((mgRows (phT (mkD U st 0 0) c1 c2) cls n).1.getD n 0) (mgRows (phT (mkD U st 0 0) c1 c2) cls n) (phT (mkD U st 0 0) c1 c2).arcs.length)
    rw [mgP_fold _ _ _ _ _ _ (Nat.le_refl _), List.take_length, hb, ← outR_all fun x hx => by
      obtain ⟨y, hy, _, _, rfl⟩ := pushL_mem.1 hx
      exact (h.rngD 0 0 y hy).2.2.1.2]
    refine Run.row h h12 hn hw hc hj hq hr (fun e => ?_) ih 9 (Nat.le_refl _)
    rw [e]
    exact (Run.start h hw cls c1 c2).f0
end
end Go.Fw

/-
  Bounds of what beginnings cost; the most of all costs; what the document's rows keep.
-/
namespace Go.Fw
section
variable {F U : TF} {st : DS} (h : DetH F U st) (h12 : F.st ≤ 12) {W vs : List (List Int)} {par sym : List Int} (hw : WSt U W vs par sym W.length 1)
include h h12
end
section
variable {U : TF} {W vs : List (List Int)}
theorem LrI.start (h : 1 ≤ W.length) : LrI W [0] := ⟨fun j hj => by rw [List.mem_singleton] at hj; omega, by simp, by simp⟩
end
end Go.Fw
