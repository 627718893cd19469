/- Walks of the functions: what each computes. -/
import Derived.Test.YtlaenllbacalpaaDoorB11
import Derived.Test.YtlaenllbacalpaaDoorB06
import Derived.Test.YtlaenllbacalpaaDoorB07

set_option linter.unusedSimpArgs false
set_option linter.unusedVariables false

namespace Go.Fw
open Go Go.Proofs
def zerosL (c : List Int) (k : Nat) : List Int := ((List.range k).filter fun v => c.getD v 0 == 0).map fun v : Nat => (v : Int)
theorem zerosL_succ (c : List Int) (k : Nat) : zerosL c (k + 1) = if c.getD k 0 = 0 then zerosL c k ++ [(k : Int)] else zerosL c k := by
  unfold zerosL
  rw [List.range_succ, List.filter_append, List.map_append]
  by_cases h : c.getD k 0 = 0
  · rw [if_pos h]
    simp only [List.filter_cons, h, beq_self_eq_true, if_true, List.filter_nil, List.map_cons, List.map_nil]
  · rw [if_neg h]
    simp only [List.filter_cons, beq_eq_false_iff_ne.2 h, Bool.false_eq_true, if_false, List.filter_nil, List.map_nil, List.append_nil]
theorem zerosL_len (c : List Int) (k : Nat) : (zerosL c k).length ≤ k := by
  unfold zerosL
  rw [List.length_map]
  have := List.length_filter_le (fun v => c.getD v 0 == 0) (List.range k)
  simpa using this
theorem zerosL_mem {c : List Int} {k : Nat} {x : Int} : x ∈ zerosL c k ↔ ∃ v : Nat, v < k ∧ c.getD v 0 = 0 ∧ x = (v : Int) := by
  unfold zerosL
  simp only [List.mem_map, List.mem_filter, List.mem_range, beq_iff_eq]
  constructor
  · rintro ⟨v, ⟨h1, h2⟩, rfl⟩; exact ⟨v, h1, h2, rfl⟩
  · rintro ⟨v, h1, h2, rfl⟩; exact ⟨v, ⟨h1, h2⟩, rfl⟩
theorem zerosL_nd (c : List Int) (k : Nat) : (zerosL c k).Nodup := by
  induction k with
  | zero => simp [zerosL]
  | succ k ih =>
    rw [zerosL_succ]
    split
    · rw [List.nodup_append]
      refine ⟨ih, by simp, fun a ha b hb => ?_⟩
      obtain ⟨v, hv, _, rfl⟩ := zerosL_mem.1 ha
      simp only [List.mem_singleton] at hb
      omega
    · exact ih
def ComeIs (l : List Arc) (n k : Nat) (c : List Int) : Prop := c.length = n ∧ ∀ v : Nat, v < n → c.getD v 0 = (cin k fun i => (l.getD i aD).t == (v : Int) : Nat)
theorem ComeIs.start (l : List Arc) (n : Nat) : ComeIs l n 0 (List.replicate n 0) := by
  refine ⟨by simp, fun v hv => ?_⟩
  simp [List.getD, hv, cin]
theorem ComeIs.step {l : List Arc} {n k : Nat} {c : List Int} (h : ComeIs l n k c) (ht : 0 ≤ (l.getD k aD).t ∧ (l.getD k aD).t < n) : ComeIs l n (k + 1) (c.set (l.getD k aD).t.toNat (c.getD (l.getD k aD).t.toNat 0 + 1)) := by
  refine ⟨by simp [h.1], fun v hv => ?_⟩
  rw [cin_succ]
  have hs : (c.set (l.getD k aD).t.toNat (c.getD (l.getD k aD).t.toNat 0 + 1)).getD v 0 = if v = (l.getD k aD).t.toNat then c.getD (l.getD k aD).t.toNat 0 + 1 else c.getD v 0 := getD_setJ _ _ _ _ v (by rw [h.1]; omega)
  rw [hs]
  by_cases e : v = (l.getD k aD).t.toNat
  · rw [if_pos e, ← e, h.2 v hv, if_pos (by rw [beq_iff_eq]; omega)]
    omega
  · rw [if_neg e, h.2 v hv, if_neg (by rw [beq_iff_eq]; omega)]
    omega
theorem ComeIs.kh {l : List Arc} {n : Nat} {c : List Int} (h : ComeIs l n l.length c) : Kh l n [] (zerosL c n) c := by
  refine ⟨h.1, fun v hv => ?_, by simpa using zerosL_nd c n, fun v hv => ?_, fun v hv => ?_, fun a _ i hi => by simp at hi⟩
  · obtain ⟨w, hw, _, rfl⟩ := zerosL_mem.1 (by simpa using hv)
    omega
  · rw [h.2 v hv]
    congr 1
    apply cin_congr
    intro i _
    simp
  · rw [List.nil_append, zerosL_mem]
    constructor
    · intro h0; exact ⟨v, hv, h0, rfl⟩
    · rintro ⟨w, _, h0, e⟩
      have : v = w := by omega
      subst this; exact h0
set_option maxHeartbeats 16000000 in
set_option maxRecDepth 20000 in
theorem circles_c (F : TF) (hF : FRng F) : Ct Tryd.prog 32 [fV F] [] (hpF F) 2 (Is 2 (.b (roundB F.arcs F.st.toNat))) := by
  have hst := hF.st
  have hal := hF.arcl
  refine ctW Tryd.tyOk 13 [17, 18, 19, 31, 32, 33, 62, 63, 64] Tryd.func32 rfl (by simp) (by simp) (fr := [(0, fV F)]) rfl ?_
  repeat' (first | exact rfl | ((conv => whnf); first | (refine qX (fun h => ?_) fun h => ?_ <;> try exact absurd h (by omega)) | refine oN ?_ | refine oM ?_ ?_ | refine bM ?_ ?_ | refine dR ?_))
  (conv => whnf)
  refine loopI (fun z : Nat × List Int => ⟨[(1, .c (.ptr 2 0)), (2, .b false), (3, .c (.sl 3 1 0 F.st.toNat F.st.toNat)), (17, .c (.sl 1 5 0 F.arcs.length F.capA)), (18, .i F.arcs.length), (19, .i z.1)], hpF F ++ [(2, .box 25 (fCells F)), (3, .arr true 3 .int z.2 0)], 4⟩)
    (fun z => z.1 ≤ F.arcs.length ∧ ComeIs F.arcs F.st.toNat z.1 z.2) (fun z => F.arcs.length - z.1) (0, List.replicate F.st.toNat 0) [] ⟨by rfl, ?_, ?_⟩ ⟨Nat.zero_le _, ComeIs.start _ _⟩ ?_
  · simp
  · simp [fCells, EK.dflt]
  · rintro ⟨k, c⟩ ⟨hk, hc⟩
    simp only at hk hc ⊢
    have hcl := hc.1
    (conv => whnf)
    refine condP_dec (fun hk2 => ?_) (fun hk2 => ?_)
    · have e0 : 0 + (k : Int).toNat = k := by omega
      have hb := hF.arc _ (getD_mem F.arcs k aD (by omega))
      have hb1 : 0 ≤ (F.arcs.getD (0 + (k : Int).toNat) EK.arc.dflt).t ∧ (F.arcs.getD (0 + (k : Int).toNat) EK.arc.dflt).t < F.st := by rw [e0]; exact ⟨hb.2.2.1, hb.2.2.2⟩
      have hs := hc.step (k := k) ⟨hb.2.2.1, by omega⟩
      have hv := hc.2 (F.arcs.getD k aD).t.toNat (by omega)
      have hcb := cin_le k fun i => (F.arcs.getD i aD).t == (((F.arcs.getD k aD).t.toNat : Nat) : Int)
      have hv1 : 0 ≤ c.getD (0 + (F.arcs.getD (0 + (k : Int).toNat) EK.arc.dflt).t.toNat) EK.int.dflt ∧ c.getD (0 + (F.arcs.getD (0 + (k : Int).toNat) EK.arc.dflt).t.toNat) EK.int.dflt ≤ 100000 := by
        rw [e0, Nat.zero_add]
        have : c.getD (F.arcs.getD k EK.arc.dflt).t.toNat EK.int.dflt = _ := hv
        rw [this]
        omega
      repeat' (first | exact rfl | ((conv => whnf); first | (refine qX (fun h => ?_) fun h => ?_ <;> try exact absurd h (by omega)) | refine oN ?_ | refine oM ?_ ?_ | refine bM ?_ ?_ | refine dR ?_))
      (conv => whnf)
      refine ⟨(k + 1, c.set (0 + (F.arcs.getD (0 + (k : Int).toNat) EK.arc.dflt).t.toNat) (c.getD (0 + (F.arcs.getD (0 + (k : Int).toNat) EK.arc.dflt).t.toNat) EK.int.dflt + 1)), [], ⟨by rfl, ?_, ?_⟩, ⟨by simp only; omega, ?_⟩, by simp only; omega⟩
      · simp
      · simp [fCells]
      · simp only
        rw [e0, Nat.zero_add]
        exact hs
    · have e : k = F.arcs.length := by omega
      subst e
      repeat' (first | exact rfl | ((conv => whnf); first | (refine qX (fun h => ?_) fun h => ?_ <;> try exact absurd h (by omega)) | refine oN ?_ | refine oM ?_ ?_ | refine bM ?_ ?_ | refine dR ?_))
      (conv => whnf)
      refine loopI (fun z : Nat × Nat => ⟨[(1, .c (.ptr 2 0)), (2, .b false), (3, .c (.sl 3 1 0 F.st.toNat F.st.toNat)), (6, .c (.sl 4 1 0 (zerosL c z.1).length ((zerosL c z.1).length + z.2))), (31, .c (.sl 3 1 0 F.st.toNat F.st.toNat)), (32, .i (F.st.toNat : Nat)), (33, .i z.1)], hpF F ++ [(2, .box 25 (fCells F)), (3, .arr true 3 .int c 0), (4, .arr true 3 .int (zerosL c z.1) z.2)], 5⟩)
        (fun z => z.1 ≤ F.st.toNat) (fun z => F.st.toNat - z.1) (0, 0) [(4, none)] ⟨by rfl, ?_, ?_⟩ (Nat.zero_le _) ?_
      · simp [zerosL]
      · simp [fCells, nilO, zerosL]
      · rintro ⟨k, sp⟩ hk3
        simp only at hk3 ⊢
        have hzl := zerosL_len c k
        have hzs := zerosL_succ c k
        generalize hz : zerosL c k = zl at hzl hzs ⊢
        (conv => whnf)
        refine condP_dec (fun hk4 => ?_) (fun hk4 => ?_)
        · have e0 : 0 + (k : Int).toNat = k := by omega
          repeat' (first | exact rfl | ((conv => whnf); first | (refine qX (fun h => ?_) fun h => ?_ <;> try exact absurd h (by omega)) | refine oN ?_ | refine oM ?_ ?_ | refine bM ?_ ?_ | refine dR ?_))
          · rw [e0] at h
            rw [if_pos (show c.getD k 0 = 0 from h)] at hzs
            intro sp2
            repeat' (first | exact rfl | ((conv => whnf); first | (refine qX (fun h => ?_) fun h => ?_ <;> try exact absurd h (by omega)) | refine oN ?_ | refine oM ?_ ?_ | refine bM ?_ ?_ | refine dR ?_))
            (conv => whnf)
            refine ⟨(k + 1, sp2), [(4, some 6)], ⟨by rfl, ?_, ?_⟩, by simp only; omega, by simp only; omega⟩
            · simp [hzs]
            · simp [fCells, hzs]
              simp [app_one]
          · rw [e0] at h
            rw [if_neg (show ¬ c.getD k 0 = 0 from h)] at hzs
            (conv => whnf)
            refine ⟨(k + 1, sp), [], ⟨by rfl, ?_, ?_⟩, by simp only; omega, by simp only; omega⟩
            · simp [hzs]
            · simp [fCells, hzs]
        · have e : k = F.st.toNat := by omega
          subst e
          have hkh := hc.kh
          rw [hz] at hkh
          clear hz hzs
          repeat' (first | exact rfl | ((conv => whnf); first | (refine qX (fun h => ?_) fun h => ?_ <;> try exact absurd h (by omega)) | refine oN ?_ | refine oM ?_ ?_ | refine bM ?_ ?_ | refine dR ?_))
          (conv => whnf)
          refine loopI (fun z : List Int × List Int × List Int × Nat × Nat × List Int => ⟨[(1, .c (.ptr 2 0)), (2, .b false), (3, .c (.sl 3 1 0 F.st.toNat F.st.toNat)), (6, .c (.sl 4 1 0 z.2.1.length z.2.2.2.2.1)), (9, .i (goneN F.st.toNat z.1))], hpF F ++ [(2, .box 25 (fCells F)), (3, .arr true 3 .int z.2.2.2.2.2 0), (4, .arr true 3 .int (z.2.1 ++ z.2.2.1) z.2.2.2.1)], 5⟩)
            (fun z => Kh F.arcs F.st.toNat z.1 z.2.1 z.2.2.2.2.2 ∧ z.2.2.2.2.1 ≤ z.2.1.length + z.2.2.1.length + z.2.2.2.1 ∧ z.2.1.length ≤ z.2.2.2.2.1) (fun z => F.st.toNat - goneN F.st.toNat z.1) ([], zl, [], sp, zl.length + sp, c) [] ⟨by rfl, ?_, ?_⟩ ⟨hkh, by simp, by simp⟩ ?_
          · simp [goneN, cin]
          · simp [fCells]
          · clear hkh hzl hc hcl
            rintro ⟨R, st, junk, sp, cap, c⟩ ⟨hkh, hcap, hlc⟩
            simp only at hkh hcap hlc ⊢
            have hcl := hkh.len
            have hgl := goneN_le F.st.toNat R
            have hnil : st = [] ∨ ∃ l x, st = l ++ [x] := by
              rcases st.eq_nil_or_concat with h | ⟨l, x, h⟩
              · exact .inl h
              · exact .inr ⟨l, x, by rw [h, List.concat_eq_append]⟩
            rcases hnil with rfl | ⟨st, x, rfl⟩
            · have hrd := hkh.round fun a ha => by have := hF.arc a ha; omega
              repeat' (first | exact rfl | ((conv => whnf); first | (refine qX (fun h => ?_) fun h => ?_ <;> try exact absurd h (by omega)) | refine oN ?_ | refine oM ?_ ?_ | refine bM ?_ ?_ | refine dR ?_))
              (conv => whnf)
              refine Back.is ?_
              rw [← hrd]
              simp only [eqV, eqA, eqC]
              apply decide_eq_decide.2
              omega
            · have hm := hkh.pop
              have hgx := hm.gone
              have hgl2 := goneN_le F.st.toNat (R ++ [x])
              have hxr := hm.rng x (by simp)
              have hsl : (st ++ [x]).length = st.length + 1 := by simp
              have ee : ((st ++ [x] ++ junk).getD (0 + (((st ++ [x]).length : Int) - 1).toNat) EK.int.dflt) = x := by
                have e1 : 0 + (((st ++ [x]).length : Int) - 1).toNat = st.length := by simp
                rw [e1, List.append_assoc]
                simp [List.getD]
              have hA : (((st ++ [x]).length : Int) - 1 - 0).toNat = st.length := by simp
              have hst2 : st.length ≤ 100000 := by
                have h1 := len_gone (n := F.st.toNat) (List.nodup_append.1 hkh.nd).2.1 (fun v hv => hkh.rng v (List.mem_append_right _ hv))
                have h2 := goneN_le F.st.toNat (st ++ [x])
                omega
              rw [hsl] at hcap hlc
              repeat' (first | exact rfl | ((conv => whnf); first | (refine qX (fun h => ?_) fun h => ?_ <;> try exact absurd h (by omega)) | refine oN ?_ | refine oM ?_ ?_ | refine bM ?_ ?_ | refine dR ?_))
              (conv => whnf)
              simp only [ee, hA]
              refine loopI (fun y : Nat × List Int × List Int × Nat × Nat × List Int => ⟨[(1, .c (.ptr 2 0)), (2, .b false), (3, .c (.sl 3 1 0 F.st.toNat F.st.toNat)), (6, .c (.sl 4 1 0 y.2.1.length y.2.2.2.2.1)), (9, .i (goneN F.st.toNat R + 1)), (10, .i x), (62, .c (.sl 1 5 0 F.arcs.length F.capA)), (63, .i F.arcs.length), (64, .i y.1)], hpF F ++ [(2, .box 25 (fCells F)), (3, .arr true 3 .int y.2.2.2.2.2 0), (4, .arr true 3 .int (y.2.1 ++ y.2.2.1) y.2.2.2.1)], 5⟩)
                (fun y => y.1 ≤ F.arcs.length ∧ KhM F.arcs F.st.toNat R x y.2.1 y.2.2.2.2.2 y.1 ∧ y.2.2.2.2.1 ≤ y.2.1.length + y.2.2.1.length + y.2.2.2.1 ∧ y.2.1.length ≤ y.2.2.2.2.1) (fun y => F.arcs.length - y.1) (0, st, x :: junk, sp, cap, c) [] ⟨by rfl, ?_, ?_⟩ ⟨Nat.zero_le _, hm, by simp only [List.length_cons]; omega, by simp only; omega⟩ ?_
              · simp
              · simp [fCells]
              · clear hm hkh hcap hlc ee hA hsl hcl hst2
                rintro ⟨k, st, junk, sp, cap, c⟩ ⟨hk, hm, hcap, hlc⟩
                simp only at hk hm hcap hlc ⊢
                have hcl := hm.len
                have hst2 : st.length ≤ 100000 := by
                  have h0 := (List.nodup_cons.1 (List.nodup_append.1 hm.nd).2.1).2
                  have h1 := len_gone (n := F.st.toNat) h0 (fun v hv => hm.rng v (List.mem_append_right _ (List.mem_cons_of_mem _ hv)))
                  have h2 := goneN_le F.st.toNat st
                  omega
                (conv => whnf)
                refine condP_dec (fun hk5 => ?_) (fun hk5 => ?_)
                · have e0 : 0 + (k : Int).toNat = k := by omega
                  have hb := hF.arc _ (getD_mem F.arcs k aD (by omega))
                  have hb1 : 0 ≤ (F.arcs.getD (0 + (k : Int).toNat) EK.arc.dflt).t ∧ (F.arcs.getD (0 + (k : Int).toNat) EK.arc.dflt).t < F.st := by rw [e0]; exact ⟨hb.2.2.1, hb.2.2.2⟩
                  by_cases hfx : (F.arcs.getD k aD).f = x
                  · obtain ⟨hpos, hstp⟩ := hm.hit (by omega) hfx ⟨hb.2.2.1, by omega⟩
                    have hv := hm.cnt (F.arcs.getD k aD).t.toNat (by omega)
                    have hcb := cin_le F.arcs.length fun i => (F.arcs.getD i aD).t == (((F.arcs.getD k aD).t.toNat : Nat) : Int) && !decide ((F.arcs.getD i aD).f ∈ R) && !(decide (i < k) && (F.arcs.getD i aD).f == x)
                    have hv1 : 0 < c.getD (0 + (F.arcs.getD (0 + (k : Int).toNat) EK.arc.dflt).t.toNat) EK.int.dflt ∧ c.getD (0 + (F.arcs.getD (0 + (k : Int).toNat) EK.arc.dflt).t.toNat) EK.int.dflt ≤ 100000 := by
                      rw [e0, Nat.zero_add]
                      refine ⟨hpos, ?_⟩
                      have : c.getD (F.arcs.getD k EK.arc.dflt).t.toNat EK.int.dflt = _ := hv
                      rw [this]
                      omega
                    have hfx1 : (F.arcs.getD (0 + (k : Int).toNat) EK.arc.dflt).f = x := by rw [e0]; exact hfx
                    repeat' (first | exact rfl | ((conv => whnf); first | (refine qX (fun h => ?_) fun h => ?_ <;> try exact absurd h (by omega)) | refine oN ?_ | refine oM ?_ ?_ | refine bM ?_ ?_ | refine dR ?_))
                    · have hz : c.getD (F.arcs.getD k aD).t.toNat 0 - 1 = 0 := by
                        rw [e0, Nat.zero_add] at h
                        have h2 := getD_setJ c (F.arcs.getD k aD).t.toNat (c.getD (F.arcs.getD k aD).t.toNat 0 - 1) 0 (F.arcs.getD k aD).t.toNat (by omega)
                        rw [if_pos rfl] at h2
                        exact h2.symm.trans h
                      rw [if_pos hz] at hstp
                      intro sp2
                      have hsb : st ++ [(F.arcs.getD k aD).t] = lOp.appL (sub (st ++ junk) 0 st.length) (sub [(F.arcs.getD k EK.arc.dflt).t] 0 1) := by
                        simp [sub, lOp.appL]
                        rfl
                      repeat' (first | exact rfl | ((conv => whnf); first | (refine qX (fun h => ?_) fun h => ?_ <;> try exact absurd h (by omega)) | refine oN ?_ | refine oM ?_ ?_ | refine bM ?_ ?_ | refine dR ?_))
                      (conv => whnf)
                      refine ⟨(k + 1, st ++ [(F.arcs.getD k aD).t], [], sp2, (st ++ [(F.arcs.getD k aD).t]).length + sp2, c.set (0 + (F.arcs.getD (0 + (k : Int).toNat) EK.arc.dflt).t.toNat) (c.getD (0 + (F.arcs.getD (0 + (k : Int).toNat) EK.arc.dflt).t.toNat) EK.int.dflt - 1)), [(4, some 7)], ⟨by rfl, ?_, ?_⟩, ⟨by simp only; omega, ?_, by simp, by simp⟩, by simp only; omega⟩
                      · simp
                      · simp [fCells]
                        exact hsb
                      · simp only
                        rw [e0, Nat.zero_add]
                        exact hstp
                    · have hz : ¬ c.getD (F.arcs.getD k aD).t.toNat 0 - 1 = 0 := by
                        rw [e0, Nat.zero_add] at h
                        have h2 := getD_setJ c (F.arcs.getD k aD).t.toNat (c.getD (F.arcs.getD k aD).t.toNat 0 - 1) 0 (F.arcs.getD k aD).t.toNat (by omega)
                        rw [if_pos rfl] at h2
                        exact fun e => h (h2.trans e)
                      rw [if_neg hz] at hstp
                      (conv => whnf)
                      refine ⟨(k + 1, st, junk, sp, cap, c.set (0 + (F.arcs.getD (0 + (k : Int).toNat) EK.arc.dflt).t.toNat) (c.getD (0 + (F.arcs.getD (0 + (k : Int).toNat) EK.arc.dflt).t.toNat) EK.int.dflt - 1)), [], ⟨by rfl, ?_, ?_⟩, ⟨by simp only; omega, ?_, hcap, hlc⟩, by simp only; omega⟩
                      · simp
                      · simp [fCells]
                      · simp only
                        rw [e0, Nat.zero_add]
                        exact hstp
                  · have hfx1 : ¬ (F.arcs.getD (0 + (k : Int).toNat) EK.arc.dflt).f = x := by rw [e0]; exact hfx
                    have hstp := hm.other hfx
                    repeat' (first | exact rfl | ((conv => whnf); first | (refine qX (fun h => ?_) fun h => ?_ <;> try exact absurd h (by omega)) | refine oN ?_ | refine oM ?_ ?_ | refine bM ?_ ?_ | refine dR ?_))
                    (conv => whnf)
                    refine ⟨(k + 1, st, junk, sp, cap, c), [], ⟨by rfl, ?_, ?_⟩, ⟨by simp only; omega, hstp, hcap, hlc⟩, by simp only; omega⟩
                    · simp
                    · simp [fCells]
                · have e : k = F.arcs.length := by omega
                  subst e
                  have hd := hm.done
                  (conv => whnf)
                  refine ⟨(R ++ [x], st, junk, sp, cap, c), [], ⟨by rfl, ?_, ?_⟩, ⟨hd, hcap, hlc⟩, by simp only; omega⟩
                  · simp [hgx]
                  · simp [fCells]
end Go.Fw

namespace Go.Fw
open Go Go.Proofs
def NowIs (l : List Arc) (n k : Nat) (c : List Bool) : Prop := c.length = n ∧ ∀ v : Nat, v < n → c.getD v false = nowB l k (v : Int)
def NxtIs (l : List Arc) (n k j : Nat) (c : List Bool) : Prop := c.length = n ∧ ∀ v : Nat, v < n → c.getD v false = (l.take j).any fun a => a.t == (v : Int) && nowB l k a.f
theorem NxtIs.step {l : List Arc} {n k j : Nat} {c d : List Bool} (h : NxtIs l n k j c) (hd : NowIs l n k d) (hj : j < l.length) (ht : 0 ≤ (l.getD j aD).t ∧ (l.getD j aD).t < n) (hf : 0 ≤ (l.getD j aD).f ∧ (l.getD j aD).f < n) :
    NxtIs l n k (j + 1) (c.set (l.getD j aD).t.toNat (c.getD (l.getD j aD).t.toNat false || d.getD (l.getD j aD).f.toNat false)) := by
  refine ⟨by simp [h.1], fun v hv => ?_⟩
  rw [any_take _ _ aD j hj, getD_setJ _ _ _ _ _ (by rw [h.1]; omega)]
  have e2 := hd.2 (l.getD j aD).f.toNat (by omega)
  rw [show (((l.getD j aD).f.toNat : Nat) : Int) = (l.getD j aD).f by omega] at e2
  by_cases e : v = (l.getD j aD).t.toNat
  · rw [if_pos e, ← e, h.2 v hv, e2, show ((l.getD j aD).t == (v : Int)) = true by rw [beq_iff_eq]; omega, Bool.true_and]
  · rw [if_neg e, h.2 v hv, show ((l.getD j aD).t == (v : Int)) = false by rw [beq_eq_false_iff_ne]; omega, Bool.false_and, Bool.or_false]
end Go.Fw

namespace Go.Fw
open Go Go.Proofs
def bs (l : List UInt8) : ByteArray := ⟨l.toArray⟩
theorem bs_app (a b : List UInt8) : bs a ++ bs b = bs (a ++ b) := by
  apply ByteArray.ext
  rw [ByteArray.data_append]
  simp [bs]
theorem bs_size (a : List UInt8) : (bs a).size = a.length := by simp [bs, ByteArray.size]
theorem dec_len : ∀ (n u : Nat), u ≤ n → (Lib.decDigits u).length ≤ u + 1
  | 0, u, h => by
    rw [Lib.decDigits, dif_pos (by omega)]; simp
  | n + 1, u, h => by
    rw [Lib.decDigits]
    split
    · simp
    · have := dec_len n (u / 10) (by omega)
      simp only [List.length_append, List.length_cons, List.length_nil]
      omega
theorem itoa_len {n B : Int} (h0 : 0 ≤ n) (h1 : n ≤ B) : ((Lib.itoa n).length : Int) ≤ B + 1 := by
  unfold Lib.itoa
  rw [if_neg (by omega)]
  have := dec_len n.toNat n.toNat (Nat.le_refl _)
  omega
def kyB (l : List Duo) : List UInt8 := l.flatMap fun e => Lib.itoa e.a ++ [58] ++ Lib.itoa e.b ++ [32]
theorem kyB_succ (l : List Duo) (k : Nat) (hk : k < l.length) : kyB (l.take (k + 1)) = kyB (l.take k) ++ (Lib.itoa (l.getD k ⟨0, 0⟩).a ++ [58] ++ Lib.itoa (l.getD k ⟨0, 0⟩).b ++ [32]) := by
  unfold kyB
  rw [List.take_add_one, List.flatMap_append]
  congr 1
  simp [List.getD, hk]
structure DOk (B : Int) (l : List Duo) : Prop where
  len : l.length ≤ 1000
  rng : ∀ e ∈ l, (0 ≤ e.a ∧ e.a ≤ 1000) ∧ 0 ≤ e.b ∧ e.b ≤ B
theorem kyB_len {l : List Duo} (h : DOk 10000000000000 l) (k : Nat) : ((kyB (l.take k)).length : Int) ≤ k * 20000000000000 := by
  induction k with
  | zero => simp [kyB]
  | succ k ih =>
    by_cases hk : k < l.length
    · rw [kyB_succ l k hk]
      have hr := h.rng _ (getD_mem l k ⟨0, 0⟩ hk)
      have h1 := itoa_len hr.1.1 hr.1.2
      have h2 := itoa_len hr.2.1 hr.2.2
      simp only [List.length_append, List.length_cons, List.length_nil]
      omega
    · rw [List.take_of_length_le (by omega), ← List.take_of_length_le (l := l) (i := k) (by omega)]
      omega
abbrev stV (l : List UInt8) : SV := .c (.v (.string (bs l)))
set_option maxHeartbeats 16000000 in
set_option maxRecDepth 20000 in
theorem key_c (x : Obj) (hx : TabX x) (l : List Duo) (cap : Nat) (hl : DOk 10000000000000 l) : Ct Tryd.prog 87 [.c (.sl 0 2 0 l.length cap)] [] [(0, .arr false 80 .duo l 0), (1, tabO x)] 2
    (fun v s => v = stV (kyB l) ∧ s = ⟨[], [(1, tabO x)], 2⟩) := by
  have hll := hl.len
  refine ctW Tryd.tyOk 6 [6, 7, 8] Tryd.func87 rfl (by simp) (by simp) (fr := [(0, .c (.sl 0 2 0 l.length cap))]) rfl ?_
  repeat' (first | exact rfl | ((conv => whnf); first | (refine qX (fun h => ?_) fun h => ?_ <;> try exact absurd h (by omega)) | refine oN ?_ | refine oM ?_ ?_ | refine bM ?_ ?_ | refine dR ?_))
  (conv => whnf)
  refine loopI (fun k : Nat => ⟨[(3, stV (kyB (l.take k))), (6, .c (.sl 0 2 0 l.length cap)), (7, .i l.length), (8, .i k)], [(0, .arr false 80 .duo l 0), (1, tabO x)], 2⟩)
    (fun k => k ≤ l.length) (fun k => l.length - k) 0 [] ⟨by rfl, ?_, ?_⟩ (Nat.zero_le _) ?_
  · simp [kyB, bs]
  · simp [tabO]
  · intro k hk
    have hkl := kyB_len hl k
    (conv => whnf)
    refine condP_dec (fun hk2 => ?_) (fun hk2 => ?_)
    · have hks := kyB_succ l k (by omega)
      have e0 : 0 + (k : Int).toNat = k := by omega
      have hr := hl.rng _ (getD_mem l k ⟨0, 0⟩ (by omega))
      have hr1 : (0 ≤ (l.getD (0 + (k : Int).toNat) EK.duo.dflt).a ∧ (l.getD (0 + (k : Int).toNat) EK.duo.dflt).a ≤ 1000) ∧ 0 ≤ (l.getD (0 + (k : Int).toNat) EK.duo.dflt).b ∧ (l.getD (0 + (k : Int).toNat) EK.duo.dflt).b ≤ 10000000000000 := by rw [e0]; exact hr
      have hks2 : kyB (l.take (k + 1)) = kyB (l.take k) ++ (Lib.itoa (l.getD (0 + (k : Int).toNat) EK.duo.dflt).a ++ [58] ++ Lib.itoa (l.getD (0 + (k : Int).toNat) EK.duo.dflt).b ++ [32]) := by rw [e0]; exact hks
      have hi1 := itoa_len hr1.1.1 hr1.1.2
      have hi2 := itoa_len hr1.2.1 hr1.2.2
      clear hks hr
      generalize hky : kyB (l.take k) = ky at *
      repeat' (first | exact rfl | ((conv => whnf); first | (refine qX (fun h => ?_) fun h => ?_ <;> try exact absurd h (by omega)) | refine oN ?_ | refine oM ?_ ?_ | refine bM ?_ ?_ | refine dR ?_))
      (conv => whnf)
      refine cF (itoa_c x hx (l.getD (0 + (k : Int).toNat) EK.duo.dflt).a (by omega) (by omega)) [1] Tryd.call97 ?_
      rintro _ _ ⟨rfl, rfl⟩
      have hfin : bs ky ++ ((((⟨(Lib.itoa (l.getD (0 + (k : Int).toNat) EK.duo.dflt).a).toArray⟩ : ByteArray) ++ (⟨#[58]⟩ : ByteArray)) ++ (⟨(Lib.itoa (l.getD (0 + (k : Int).toNat) EK.duo.dflt).b).toArray⟩ : ByteArray)) ++ (⟨#[32]⟩ : ByteArray)) = bs (kyB (l.take (k + 1))) := by
        show bs ky ++ (((bs (Lib.itoa (l.getD (0 + (k : Int).toNat) EK.duo.dflt).a) ++ bs [58]) ++ bs (Lib.itoa (l.getD (0 + (k : Int).toNat) EK.duo.dflt).b)) ++ bs [32]) = _
        rw [hks2]
        simp only [bs_app]
      repeat' (first | exact rfl | ((conv => whnf); first | (refine qX (fun h => ?_) fun h => ?_ <;> try exact absurd h (by omega)) | refine oN ?_ | refine oM ?_ ?_ | refine bM ?_ ?_ | refine dR ?_ | intro _))
      · show (bs (Lib.itoa (l.getD (0 + (k : Int).toNat) EK.duo.dflt).a)).size + (bs [58]).size ≤ 9223372036854775807
        simp only [bs_size, List.length_cons, List.length_nil]
        omega
      (conv => whnf)
      refine cF (itoa_c x hx (l.getD (0 + (k : Int).toNat) EK.duo.dflt).b (by omega) (by omega)) [1] Tryd.call97 ?_
      rintro _ _ ⟨rfl, rfl⟩
      repeat' (first | exact rfl | ((conv => whnf); first | (refine qX (fun h => ?_) fun h => ?_ <;> try exact absurd h (by omega)) | refine oN ?_ | refine oM ?_ ?_ | refine bM ?_ ?_ | refine dR ?_ | intro _))
      · show (bs (Lib.itoa (l.getD (0 + (k : Int).toNat) EK.duo.dflt).a) ++ bs [58]).size + (bs (Lib.itoa (l.getD (0 + (k : Int).toNat) EK.duo.dflt).b)).size ≤ 9223372036854775807
        simp only [bs_app, bs_size, List.length_append, List.length_cons, List.length_nil]
        omega
      · show (bs (Lib.itoa (l.getD (0 + (k : Int).toNat) EK.duo.dflt).a) ++ bs [58] ++ bs (Lib.itoa (l.getD (0 + (k : Int).toNat) EK.duo.dflt).b)).size + (bs [32]).size ≤ 9223372036854775807
        simp only [bs_app, bs_size, List.length_append, List.length_cons, List.length_nil]
        omega
      · show (bs ky).size + (bs (Lib.itoa (l.getD (0 + (k : Int).toNat) EK.duo.dflt).a) ++ bs [58] ++ bs (Lib.itoa (l.getD (0 + (k : Int).toNat) EK.duo.dflt).b) ++ bs [32]).size ≤ 9223372036854775807
        simp only [bs_app, bs_size, List.length_append, List.length_cons, List.length_nil]
        omega
      · (conv => whnf)
        rw [hfin]
        refine ⟨k + 1, [], ⟨by rfl, ?_, ?_⟩, by omega, by omega⟩
        · simp
        · simp
    · have e : k = l.length := by omega
      subst e
      rw [List.take_length]
      repeat' (first | exact rfl | ((conv => whnf); first | (refine qX (fun h => ?_) fun h => ?_ <;> try exact absurd h (by omega)) | refine oN ?_ | refine oM ?_ ?_ | refine bM ?_ ?_ | refine dR ?_))
      (conv => whnf)
      exact ⟨[], [(1, tabO x)], 2, stV (kyB l), ⟨by rfl, trivial, by simp⟩, by simp, rfl, rfl⟩
end Go.Fw

/-
  One way for each word: what a letter makes of some states, and what it costs.
-/
namespace Go.Fw
abbrev CM := Int → Option Int
def updC (m : CM) (t v : Int) : CM := fun u => if u = t then (match m t with | some o => if v < o then some v else some o | none => some v) else m u
def updB (b v : Int) : Int := if b = -1 ∨ v < b then v else b
def sbA (c : Int) (x : Duo) (st : CM × Int) (a : Arc) : CM × Int := if a.f = x.a ∧ a.i = c then (updC st.1 a.t (x.b + a.w), updB st.2 (x.b + a.w)) else st
def sbX (F : TF) (c : Int) (st : CM × Int) (x : Duo) : CM × Int := F.arcs.foldl (sbA c x) st
def sbR (F : TF) (s : List Duo) (c : Int) : CM × Int := s.foldl (sbX F c) (fun _ => none, -1)
def sbB (F : TF) (s : List Duo) (c : Int) : Int := (sbR F s c).2
def sbE (m : CM) (b : Int) (t : Nat) : Option Duo := (m t).map fun v => ⟨t, v - b⟩
def sbL (m : CM) (b : Int) (n : Nat) : List Duo := (List.range n).filterMap (sbE m b)
def sbS (F : TF) (s : List Duo) (c : Int) : List Duo := sbL (sbR F s c).1 (sbR F s c).2 F.st.toNat
theorem foldl_take {α β : Type} (f : β → α → β) (b : β) (l : List α) (d : α) (k : Nat) (hk : k < l.length) : (l.take (k + 1)).foldl f b = f ((l.take k).foldl f b) (l.getD k d) := by
  rw [List.take_add_one, List.foldl_append]
  simp [List.getD, hk]
theorem sbL_succ (m : CM) (b : Int) (n : Nat) : sbL m b (n + 1) = match m n with | some v => sbL m b n ++ [⟨n, v - b⟩] | none => sbL m b n := by
  unfold sbL
  rw [List.range_succ, List.filterMap_append]
  unfold sbE
  cases h : m (n : Int) with
  | some v => simp [h]
  | none => simp [h]
theorem sbL_len (m : CM) (b : Int) (n : Nat) : (sbL m b n).length ≤ n := by
  have := List.length_filterMap_le (sbE m b) (List.range n)
  simpa [sbL] using this
theorem sbL_mem {m : CM} {b : Int} {n : Nat} {e : Duo} : e ∈ sbL m b n ↔ ∃ t v, t < n ∧ m (t : Int) = some v ∧ e = ⟨t, v - b⟩ := by
  unfold sbL sbE
  simp only [List.mem_filterMap, List.mem_range, Option.map_eq_some_iff]
  constructor
  · rintro ⟨t, ht, v, hv, rfl⟩; exact ⟨t, v, ht, hv, rfl⟩
  · rintro ⟨t, v, ht, hv, rfl⟩; exact ⟨t, ht, v, hv, rfl⟩
structure OnBd (B : Int) (st : CM × Int) : Prop where
  c : ∀ t v, st.1 t = some v → 0 ≤ v ∧ v ≤ B ∧ st.2 ≠ -1 ∧ st.2 ≤ v
  b : -1 ≤ st.2 ∧ st.2 ≤ B
  e : st.2 ≠ -1 → ∃ t, st.1 t = some st.2
theorem OnBd.start {B : Int} (hB : 0 ≤ B) : OnBd B (fun _ => none, -1) := ⟨fun t v h => (by cases h), ⟨by simp, by simp; omega⟩, fun h => absurd rfl h⟩
theorem OnBd.step {B : Int} {c : Int} {x : Duo} {st : CM × Int} {a : Arc} (h : OnBd B st) (h0 : 0 ≤ x.b + a.w) (h1 : x.b + a.w ≤ B) : OnBd B (sbA c x st a) := by
  unfold sbA
  split
  · generalize x.b + a.w = v at *
    have hb := h.b
    have hB : updB st.2 v = v ∧ (st.2 = -1 ∨ v < st.2) ∨ updB st.2 v = st.2 ∧ st.2 ≠ -1 ∧ st.2 ≤ v := by
      unfold updB
      split
      · rename_i h2; exact .inl ⟨rfl, h2⟩
      · rename_i h2; exact .inr ⟨rfl, by omega, by omega⟩
    have hle : updB st.2 v ≤ v ∧ updB st.2 v ≠ -1 ∧ -1 ≤ updB st.2 v ∧ updB st.2 v ≤ B := by omega
    have hkeep : ∀ t o, st.1 t = some o → updB st.2 v ≤ o := fun t o ho => by
      have := h.c t o ho
      omega
    refine ⟨fun t o ho => ?_, ⟨hle.2.2.1, hle.2.2.2⟩, fun _ => ?_⟩
    · simp only [updC] at ho
      split at ho
      · split at ho
        · rename_i o' ho'
          have := h.c _ _ ho'
          have := hkeep _ _ ho'
          split at ho <;> cases ho <;> exact ⟨by omega, by omega, hle.2.1, by omega⟩
        · cases ho
          exact ⟨h0, h1, hle.2.1, hle.1⟩
      · have := h.c _ _ ho
        have := hkeep _ _ ho
        exact ⟨by omega, by omega, hle.2.1, by omega⟩
    · rcases hB with ⟨e, h2⟩ | ⟨e, h2, h3⟩
      · refine ⟨a.t, ?_⟩
        simp only [e]
        unfold updC
        rw [if_pos rfl]
        split
        · rename_i o ho
          have := h.c _ _ ho
          rw [if_pos (by omega)]
        · rfl
      · obtain ⟨t, ht⟩ := h.e h2
        simp only [e]
        unfold updC
        by_cases e2 : t = a.t
        · refine ⟨t, ?_⟩
          rw [if_pos e2, ← e2, ht]
          simp only
          split
          · rename_i h4; omega
          · rfl
        · exact ⟨t, by rw [if_neg e2]; exact ht⟩
  · exact h
def finS (F : TF) (r : Int) (x : Duo) : Int := if F.fin.getD x.a.toNat 0 ≠ -1 ∧ (r = -1 ∨ x.b + F.fin.getD x.a.toNat 0 < r) then x.b + F.fin.getD x.a.toNat 0 else r
def finD (F : TF) (s : List Duo) : Int := s.foldl (finS F) (-1)
structure SOk (F : TF) (B : Int) (s : List Duo) : Prop where
  len : s.length ≤ F.st
  rng : ∀ e ∈ s, (0 ≤ e.a ∧ e.a < F.st) ∧ 0 ≤ e.b ∧ e.b ≤ B
theorem SOk.mono {F : TF} {B C : Int} {s : List Duo} (h : SOk F B s) (hBC : B ≤ C) : SOk F C s := ⟨h.len, fun e he => by have := h.rng e he; omega⟩
section
variable {F : TF} {B : Int} {s : List Duo} {c : Int}
theorem sbX_bd {st : CM × Int} {x : Duo} (hw : ∀ a ∈ F.arcs, 0 ≤ a.w ∧ a.w ≤ 1000000000) (h : OnBd (B + 1000000000) st) (h0 : 0 ≤ x.b) (h1 : x.b ≤ B) (k : Nat) : OnBd (B + 1000000000) ((F.arcs.take k).foldl (sbA c x) st) := by
  have : ∀ (l : List Arc), (∀ a ∈ l, 0 ≤ a.w ∧ a.w ≤ 1000000000) → ∀ st, OnBd (B + 1000000000) st → OnBd (B + 1000000000) (l.foldl (sbA c x) st) := by
    intro l
    induction l with
    | nil => intro _ st h; exact h
    | cons a l ih =>
      intro hl st h
      have := hl a (by simp)
      exact ih (fun a ha => hl a (by simp [ha])) _ (h.step (by omega) (by omega))
  exact this _ (fun a ha => hw a (List.mem_of_mem_take ha)) _ h
theorem sbR_bd (hs : SOk F B s) (hB : 0 ≤ B) (hw : ∀ a ∈ F.arcs, 0 ≤ a.w ∧ a.w ≤ 1000000000) (k : Nat) : OnBd (B + 1000000000) ((s.take k).foldl (sbX F c) (fun _ => none, -1)) := by
  have : ∀ (l : List Duo), (∀ e ∈ l, 0 ≤ e.b ∧ e.b ≤ B) → ∀ st, OnBd (B + 1000000000) st → OnBd (B + 1000000000) (l.foldl (sbX F c) st) := by
    intro l
    induction l with
    | nil => intro _ st h; exact h
    | cons e l ih =>
      intro hl st h
      have he := hl e (by simp)
      refine ih (fun a ha => hl a (by simp [ha])) _ ?_
      have := sbX_bd (F := F) (c := c) (x := e) hw h he.1 he.2 F.arcs.length
      rwa [List.take_length] at this
  exact this _ (fun a ha => (hs.rng a (List.mem_of_mem_take ha)).2) _ (OnBd.start (by omega))
theorem sbS_ok (hs : SOk F B s) (hB : 0 ≤ B) (hst : 0 ≤ F.st) (hw : ∀ a ∈ F.arcs, 0 ≤ a.w ∧ a.w ≤ 1000000000) : SOk F (B + 1000000000) (sbS F s c) ∧ -1 ≤ sbB F s c ∧ sbB F s c ≤ B + 1000000000 := by
  have h := sbR_bd (c := c) hs hB hw s.length
  rw [List.take_length] at h
  refine ⟨⟨?_, ?_⟩, h.b⟩
  · have := sbL_len (sbR F s c).1 (sbR F s c).2 F.st.toNat
    unfold sbS
    omega
  · intro e he
    obtain ⟨t, v, ht, hv, rfl⟩ := sbL_mem.1 he
    have h2 := h.c _ _ hv
    have h3 := h.b
    simp only
    refine ⟨⟨by omega, by omega⟩, ?_, ?_⟩
    · have : (sbR F s c).2 ≤ v := h2.2.2.2
      omega
    · have h4 : -1 ≤ (sbR F s c).2 := h3.1
      have h5 : (sbR F s c).2 ≠ -1 := h2.2.2.1
      omega
end
end Go.Fw

namespace Go.Fw
open Go Go.Proofs
abbrev dC (F : TF) (il nl cl : Nat) (ost osr : Int) (jf nf cf ir nr cr : Nat) : List SC := [.i F.st, .i F.start, .sl 0 1 0 F.fin.length F.capF, .sl 1 5 0 F.arcs.length F.capA, .mp 4, .sl il 1 0 nl cl, .i ost, .i osr, .sl jf 1 0 nf cf, .sl ir 5 0 nr cr]
abbrev LkC (es : List (Int × Int × Nat)) (m : CM) : Prop := ∀ t : Int, @lkM EK.int.ty EK.int.ty (EK.instDeq .int) es t = m t
structure WOk (F : TF) : Prop extends FRng F where
  w : ∀ a ∈ F.arcs, 0 ≤ a.w ∧ a.w ≤ 1000000000
  fin : ∀ n ∈ F.fin, -1 ≤ n ∧ n ≤ 1000000000
theorem sbA_yes {c : Int} {x : Duo} {st : CM × Int} {a : Arc} (h1 : a.f = x.a) (h2 : a.i = c) : sbA c x st a = (updC st.1 a.t (x.b + a.w), updB st.2 (x.b + a.w)) := by unfold sbA; rw [if_pos ⟨h1, h2⟩]
theorem sbA_no1 {c : Int} {x : Duo} {st : CM × Int} {a : Arc} (h1 : ¬ a.f = x.a) : sbA c x st a = st := by unfold sbA; rw [if_neg (fun h => h1 h.1)]
theorem sbA_no2 {c : Int} {x : Duo} {st : CM × Int} {a : Arc} (h1 : ¬ a.i = c) : sbA c x st a = st := by unfold sbA; rw [if_neg (fun h => h1 h.2)]
section
variable {es : List (Int × Int × Nat)} {m : CM} {t v : Int} (clk : Nat)
theorem LkC.new (h : LkC es m) (ht : @lkM EK.int.ty EK.int.ty (EK.instDeq .int) es t = none) : LkC (@insM EK.int.ty EK.int.ty (EK.instDeq .int) es clk t v).1 (updC m t v) := by
  intro u
  rw [lkM_insM]
  have h2 := h t
  rw [ht] at h2
  unfold updC
  by_cases e : u = t
  · rw [if_pos e, if_pos e, ← h2]
  · rw [if_neg e, if_neg e, h u]
theorem LkC.less (h : LkC es m) {o : Int} (ht : @lkM EK.int.ty EK.int.ty (EK.instDeq .int) es t = some o) (hv : v < o) : LkC (@insM EK.int.ty EK.int.ty (EK.instDeq .int) es clk t v).1 (updC m t v) := by
  intro u
  rw [lkM_insM]
  have h2 := h t
  rw [ht] at h2
  unfold updC
  by_cases e : u = t
  · rw [if_pos e, if_pos e, ← h2]
    simp only [if_pos hv]
  · rw [if_neg e, if_neg e, h u]
theorem LkC.same (h : LkC es m) {o : Int} (ht : @lkM EK.int.ty EK.int.ty (EK.instDeq .int) es t = some o) (hv : ¬ v < o) : LkC es (updC m t v) := by
  intro u
  have h2 := h t
  rw [ht] at h2
  unfold updC
  by_cases e : u = t
  · rw [if_pos e, ← h2, e, ht]
    simp only [if_neg hv]
  · rw [if_neg e, h u]
end
set_option maxHeartbeats 16000000 in
set_option maxRecDepth 20000 in
theorem on2_c (F : TF) (hF : WOk F) (s : List Duo) (B : Int) (hB : 0 ≤ B ∧ B ≤ 10000000000000) (hs : SOk F B s) (cap : Nat) (c : Int) (nl cl nf cf nr cr : Nat) (ost osr : Int) :
    Ct Tryd.prog 66 [.c (.ptr 2 0), .c (.sl 3 2 0 s.length cap), .i c] [] [(1, .arr false 50 .arc F.arcs 0), (2, .box 79 (dC F 5 nl cl ost osr 7 nf cf 8 nr cr)), (3, .arr false 80 .duo s 0)] 9
    (fun v st => ∃ sp, v = .tup [.c (.sl 9 2 0 (sbS F s c).length ((sbS F s c).length + sp)), .c (.i (sbB F s c))] ∧ st = ⟨[], [(2, .box 79 (dC F 5 nl cl ost osr 7 nf cf 8 nr cr)), (9, .arr true 80 .duo (sbS F s c) sp)], 10⟩) := by
  have hst := hF.st
  have hal := hF.arcl
  have hsl := hs.len
  refine ctW Tryd.tyOk 21 [22, 23, 24, 32, 33, 34, 86, 87] Tryd.func66 rfl (by simp) (by simp) (fr := [(0, .c (.ptr 2 0)), (1, .c (.sl 3 2 0 s.length cap)), (2, .i c)]) rfl ?_
  repeat' (first | exact rfl | ((conv => whnf); first | (refine qX (fun h => ?_) fun h => ?_ <;> try exact absurd h (by omega)) | refine oN ?_ | refine oM ?_ ?_ | refine bM ?_ ?_ | refine dR ?_))
  (conv => whnf)
  refine loopI (fun z : Nat × List (Int × Int × Nat) × Nat => ⟨[(0, .c (.ptr 2 0)), (2, .i c), (8, .c (.mp 9)), (9, .i (((s.take z.1).foldl (sbX F c) (fun _ => none, -1)).2)), (22, .c (.sl 3 2 0 s.length cap)), (23, .i s.length), (24, .i z.1)], [(1, .arr false 50 .arc F.arcs 0), (2, .box 79 (dC F 5 nl cl ost osr 7 nf cf 8 nr cr)), (3, .arr false 80 .duo s 0), (9, .map .int .int z.2.1 z.2.2)], 10⟩)
    (fun z => z.1 ≤ s.length ∧ LkC z.2.1 ((s.take z.1).foldl (sbX F c) (fun _ => none, -1)).1) (fun z => s.length - z.1) (0, [], 0) [] ⟨by rfl, ?_, ?_⟩ ⟨Nat.zero_le _, fun t => rfl⟩ ?_
  · simp
  · simp
  · rintro ⟨k, es, clk⟩ ⟨hk, hlk⟩
    simp only at hk hlk ⊢
    have hbd := sbR_bd (c := c) hs hB.1 hF.w k
    (conv => whnf)
    refine condP_dec (fun hk2 => ?_) (fun hk2 => ?_)
    · have e0 : 0 + (k : Int).toNat = k := by omega
      have hks := foldl_take (sbX F c) (fun _ => none, -1) s ⟨0, 0⟩ k (by omega)
      have hx := hs.rng _ (getD_mem s k ⟨0, 0⟩ (by omega))
      have hx1 : ((0 ≤ (s.getD (0 + (k : Int).toNat) EK.duo.dflt).a ∧ (s.getD (0 + (k : Int).toNat) EK.duo.dflt).a < F.st) ∧ 0 ≤ (s.getD (0 + (k : Int).toNat) EK.duo.dflt).b ∧ (s.getD (0 + (k : Int).toNat) EK.duo.dflt).b ≤ B) := by rw [e0]; exact hx
      have hks1 : (s.take (k + 1)).foldl (sbX F c) (fun _ => none, -1) = sbX F c ((s.take k).foldl (sbX F c) (fun _ => none, -1)) (s.getD (0 + (k : Int).toNat) EK.duo.dflt) := by rw [e0]; exact hks
      clear hks hx
      generalize hst0 : (s.take k).foldl (sbX F c) (fun _ => none, -1) = st0 at *
      repeat' (first | exact rfl | ((conv => whnf); first | (refine qX (fun h => ?_) fun h => ?_ <;> try exact absurd h (by omega)) | refine oN ?_ | refine oM ?_ ?_ | refine bM ?_ ?_ | refine dR ?_))
      (conv => whnf)
      generalize s.getD (0 + (k : Int).toNat) EK.duo.dflt = x at *
      refine loopI (fun z : Nat × List (Int × Int × Nat) × Nat => ⟨[(0, .c (.ptr 2 0)), (2, .i c), (8, .c (.mp 9)), (9, .i (((F.arcs.take z.1).foldl (sbA c x) st0).2)), (11, .c (.ptr 10 0)), (22, .c (.sl 3 2 0 s.length cap)), (23, .i s.length), (24, .i k), (32, .c (.sl 1 5 0 F.arcs.length F.capA)), (33, .i F.arcs.length), (34, .i z.1)], [(1, .arr false 50 .arc F.arcs 0), (2, .box 79 (dC F 5 nl cl ost osr 7 nf cf 8 nr cr)), (3, .arr false 80 .duo s 0), (9, .map .int .int z.2.1 z.2.2), (10, .box 80 [.i x.a, .i x.b])], 11⟩)
        (fun z => z.1 ≤ F.arcs.length ∧ LkC z.2.1 ((F.arcs.take z.1).foldl (sbA c x) st0).1) (fun z => F.arcs.length - z.1) (0, es, clk) [] ⟨by rfl, ?_, ?_⟩ ⟨Nat.zero_le _, hlk⟩ ?_
      · simp
      · simp
      · clear hlk
        rintro ⟨j, es, clk⟩ ⟨hj, hlk⟩
        simp only at hj hlk ⊢
        have hbj := sbX_bd (F := F) (c := c) (x := x) hF.w hbd hx1.2.1 hx1.2.2 j
        (conv => whnf)
        refine condP_dec (fun hj2 => ?_) (fun hj2 => ?_)
        · have ej : 0 + (j : Int).toNat = j := by omega
          have hjs := foldl_take (sbA c x) st0 F.arcs aD j (by omega)
          have hw := hF.w _ (getD_mem F.arcs j aD (by omega))
          have hw1 : 0 ≤ (F.arcs.getD (0 + (j : Int).toNat) EK.arc.dflt).w ∧ (F.arcs.getD (0 + (j : Int).toNat) EK.arc.dflt).w ≤ 1000000000 := by rw [ej]; exact hw
          have hjs1 : (F.arcs.take (j + 1)).foldl (sbA c x) st0 = sbA c x ((F.arcs.take j).foldl (sbA c x) st0) (F.arcs.getD (0 + (j : Int).toNat) EK.arc.dflt) := by rw [ej]; exact hjs
          clear hjs hw
          generalize hst1 : (F.arcs.take j).foldl (sbA c x) st0 = st1 at *
          repeat' (first | exact rfl | ((conv => whnf); first | (refine qX (fun h => ?_) fun h => ?_ <;> try exact absurd h (by omega)) | refine oN ?_ | refine oM ?_ ?_ | refine bM ?_ ?_ | refine dR ?_))
          · (conv => whnf)
            generalize F.arcs.getD (0 + (j : Int).toNat) EK.arc.dflt = a at *
            rw [sbA_no1 h] at hjs1
            refine ⟨(j + 1, es, clk), [], ⟨by rfl, ?_, ?_⟩, ⟨by simp only; omega, ?_⟩, by simp only; omega⟩
            · simp [hjs1]
            · simp
            · simp only
              rw [hjs1]
              exact hlk
          · (conv => whnf)
            generalize F.arcs.getD (0 + (j : Int).toNat) EK.arc.dflt = a at *
            rw [sbA_no2 h] at hjs1
            refine ⟨(j + 1, es, clk), [], ⟨by rfl, ?_, ?_⟩, ⟨by simp only; omega, ?_⟩, by simp only; omega⟩
            · simp [hjs1]
            · simp
            · simp only
              rw [hjs1]
              exact hlk
          · rename_i g1 g2 g3
            (conv => whnf)
            generalize F.arcs.getD (0 + (j : Int).toNat) EK.arc.dflt = a at *
            rw [sbA_yes g1 g2] at hjs1
            have hub : updB st1.2 (x.b + a.w) = x.b + a.w := by unfold updB; rw [if_pos (by omega)]
            have hn : @lkM EK.int.ty EK.int.ty (EK.instDeq .int) es a.t = none := by
              cases hq : @lkM EK.int.ty EK.int.ty (EK.instDeq .int) es a.t with
              | none => rfl
              | some o => rw [hq] at g3; cases g3
            refine ⟨(j + 1, (@insM EK.int.ty EK.int.ty (EK.instDeq .int) es clk a.t (x.b + a.w)).1, (@insM EK.int.ty EK.int.ty (EK.instDeq .int) es clk a.t (x.b + a.w)).2), [], ⟨by rfl, ?_, ?_⟩, ⟨by simp only; omega, ?_⟩, by simp only; omega⟩
            · simp [hjs1, hub]
            · simp
            · simp only
              rw [hjs1]
              exact hlk.new clk hn
          · rename_i g1 g2 g3 g0
            (conv => whnf)
            generalize F.arcs.getD (0 + (j : Int).toNat) EK.arc.dflt = a at *
            rw [sbA_yes g1 g2] at hjs1
            have hub : updB st1.2 (x.b + a.w) = x.b + a.w := by unfold updB; rw [if_pos (by omega)]
            have hn : @lkM EK.int.ty EK.int.ty (EK.instDeq .int) es a.t = none := by
              cases hq : @lkM EK.int.ty EK.int.ty (EK.instDeq .int) es a.t with
              | none => rfl
              | some o => rw [hq] at g3; cases g3
            refine ⟨(j + 1, (@insM EK.int.ty EK.int.ty (EK.instDeq .int) es clk a.t (x.b + a.w)).1, (@insM EK.int.ty EK.int.ty (EK.instDeq .int) es clk a.t (x.b + a.w)).2), [], ⟨by rfl, ?_, ?_⟩, ⟨by simp only; omega, ?_⟩, by simp only; omega⟩
            · simp [hjs1, hub]
            · simp
            · simp only
              rw [hjs1]
              exact hlk.new clk hn
          · rename_i g1 g2 g3 g0
            (conv => whnf)
            generalize F.arcs.getD (0 + (j : Int).toNat) EK.arc.dflt = a at *
            rw [sbA_yes g1 g2] at hjs1
            have hub : updB st1.2 (x.b + a.w) = st1.2 := by unfold updB; rw [if_neg (by omega)]
            have hn : @lkM EK.int.ty EK.int.ty (EK.instDeq .int) es a.t = none := by
              cases hq : @lkM EK.int.ty EK.int.ty (EK.instDeq .int) es a.t with
              | none => rfl
              | some o => rw [hq] at g3; cases g3
            refine ⟨(j + 1, (@insM EK.int.ty EK.int.ty (EK.instDeq .int) es clk a.t (x.b + a.w)).1, (@insM EK.int.ty EK.int.ty (EK.instDeq .int) es clk a.t (x.b + a.w)).2), [], ⟨by rfl, ?_, ?_⟩, ⟨by simp only; omega, ?_⟩, by simp only; omega⟩
            · simp [hjs1, hub]
            · simp
            · simp only
              rw [hjs1]
              exact hlk.new clk hn
          · rename_i g1 g2 g3 g4
            (conv => whnf)
            generalize F.arcs.getD (0 + (j : Int).toNat) EK.arc.dflt = a at *
            rw [sbA_yes g1 g2] at hjs1
            have hub : updB st1.2 (x.b + a.w) = x.b + a.w := by unfold updB; rw [if_pos (by omega)]
            obtain ⟨o, hn⟩ : ∃ o, @lkM EK.int.ty EK.int.ty (EK.instDeq .int) es a.t = some o := by
              cases hq : @lkM EK.int.ty EK.int.ty (EK.instDeq .int) es a.t with
              | none => rw [hq] at g3; cases g3
              | some o => exact ⟨o, rfl⟩
            rw [hn] at g4
            refine ⟨(j + 1, (@insM EK.int.ty EK.int.ty (EK.instDeq .int) es clk a.t (x.b + a.w)).1, (@insM EK.int.ty EK.int.ty (EK.instDeq .int) es clk a.t (x.b + a.w)).2), [], ⟨by rfl, ?_, ?_⟩, ⟨by simp only; omega, ?_⟩, by simp only; omega⟩
            · simp [hjs1, hub]
            · simp
            · simp only
              rw [hjs1]
              exact hlk.less clk hn g4
          · rename_i g1 g2 g3 g4 g0
            (conv => whnf)
            generalize F.arcs.getD (0 + (j : Int).toNat) EK.arc.dflt = a at *
            rw [sbA_yes g1 g2] at hjs1
            have hub : updB st1.2 (x.b + a.w) = x.b + a.w := by unfold updB; rw [if_pos (by omega)]
            obtain ⟨o, hn⟩ : ∃ o, @lkM EK.int.ty EK.int.ty (EK.instDeq .int) es a.t = some o := by
              cases hq : @lkM EK.int.ty EK.int.ty (EK.instDeq .int) es a.t with
              | none => rw [hq] at g3; cases g3
              | some o => exact ⟨o, rfl⟩
            rw [hn] at g4
            refine ⟨(j + 1, (@insM EK.int.ty EK.int.ty (EK.instDeq .int) es clk a.t (x.b + a.w)).1, (@insM EK.int.ty EK.int.ty (EK.instDeq .int) es clk a.t (x.b + a.w)).2), [], ⟨by rfl, ?_, ?_⟩, ⟨by simp only; omega, ?_⟩, by simp only; omega⟩
            · simp [hjs1, hub]
            · simp
            · simp only
              rw [hjs1]
              exact hlk.less clk hn g4
          · rename_i g1 g2 g3 g4 g0
            (conv => whnf)
            generalize F.arcs.getD (0 + (j : Int).toNat) EK.arc.dflt = a at *
            rw [sbA_yes g1 g2] at hjs1
            have hub : updB st1.2 (x.b + a.w) = st1.2 := by unfold updB; rw [if_neg (by omega)]
            obtain ⟨o, hn⟩ : ∃ o, @lkM EK.int.ty EK.int.ty (EK.instDeq .int) es a.t = some o := by
              cases hq : @lkM EK.int.ty EK.int.ty (EK.instDeq .int) es a.t with
              | none => rw [hq] at g3; cases g3
              | some o => exact ⟨o, rfl⟩
            rw [hn] at g4
            refine ⟨(j + 1, (@insM EK.int.ty EK.int.ty (EK.instDeq .int) es clk a.t (x.b + a.w)).1, (@insM EK.int.ty EK.int.ty (EK.instDeq .int) es clk a.t (x.b + a.w)).2), [], ⟨by rfl, ?_, ?_⟩, ⟨by simp only; omega, ?_⟩, by simp only; omega⟩
            · simp [hjs1, hub]
            · simp
            · simp only
              rw [hjs1]
              exact hlk.less clk hn g4
          · rename_i g1 g2 g3 g4
            (conv => whnf)
            generalize F.arcs.getD (0 + (j : Int).toNat) EK.arc.dflt = a at *
            rw [sbA_yes g1 g2] at hjs1
            have hub : updB st1.2 (x.b + a.w) = x.b + a.w := by unfold updB; rw [if_pos (by omega)]
            obtain ⟨o, hn⟩ : ∃ o, @lkM EK.int.ty EK.int.ty (EK.instDeq .int) es a.t = some o := by
              cases hq : @lkM EK.int.ty EK.int.ty (EK.instDeq .int) es a.t with
              | none => rw [hq] at g3; cases g3
              | some o => exact ⟨o, rfl⟩
            rw [hn] at g4
            refine ⟨(j + 1, es, clk), [], ⟨by rfl, ?_, ?_⟩, ⟨by simp only; omega, ?_⟩, by simp only; omega⟩
            · simp [hjs1, hub]
            · simp
            · simp only
              rw [hjs1]
              exact hlk.same hn g4
          · rename_i g1 g2 g3 g4 g0
            (conv => whnf)
            generalize F.arcs.getD (0 + (j : Int).toNat) EK.arc.dflt = a at *
            rw [sbA_yes g1 g2] at hjs1
            have hub : updB st1.2 (x.b + a.w) = x.b + a.w := by unfold updB; rw [if_pos (by omega)]
            obtain ⟨o, hn⟩ : ∃ o, @lkM EK.int.ty EK.int.ty (EK.instDeq .int) es a.t = some o := by
              cases hq : @lkM EK.int.ty EK.int.ty (EK.instDeq .int) es a.t with
              | none => rw [hq] at g3; cases g3
              | some o => exact ⟨o, rfl⟩
            rw [hn] at g4
            refine ⟨(j + 1, es, clk), [], ⟨by rfl, ?_, ?_⟩, ⟨by simp only; omega, ?_⟩, by simp only; omega⟩
            · simp [hjs1, hub]
            · simp
            · simp only
              rw [hjs1]
              exact hlk.same hn g4
          · rename_i g1 g2 g3 g4 g0
            (conv => whnf)
            generalize F.arcs.getD (0 + (j : Int).toNat) EK.arc.dflt = a at *
            rw [sbA_yes g1 g2] at hjs1
            have hub : updB st1.2 (x.b + a.w) = st1.2 := by unfold updB; rw [if_neg (by omega)]
            obtain ⟨o, hn⟩ : ∃ o, @lkM EK.int.ty EK.int.ty (EK.instDeq .int) es a.t = some o := by
              cases hq : @lkM EK.int.ty EK.int.ty (EK.instDeq .int) es a.t with
              | none => rw [hq] at g3; cases g3
              | some o => exact ⟨o, rfl⟩
            rw [hn] at g4
            refine ⟨(j + 1, es, clk), [], ⟨by rfl, ?_, ?_⟩, ⟨by simp only; omega, ?_⟩, by simp only; omega⟩
            · simp [hjs1, hub]
            · simp
            · simp only
              rw [hjs1]
              exact hlk.same hn g4
        · have e : j = F.arcs.length := by omega
          subst e
          rw [List.take_length] at hlk
          have hks2 : (s.take (k + 1)).foldl (sbX F c) (fun _ => none, -1) = F.arcs.foldl (sbA c x) st0 := hks1
          rw [List.take_length]
          repeat' (first | exact rfl | ((conv => whnf); first | (refine qX (fun h => ?_) fun h => ?_ <;> try exact absurd h (by omega)) | refine oN ?_ | refine oM ?_ ?_ | refine bM ?_ ?_ | refine dR ?_))
          (conv => whnf)
          refine ⟨(k + 1, es, clk), [], ⟨by rfl, ?_, ?_⟩, ⟨by simp only; omega, ?_⟩, by simp only; omega⟩
          · simp [hks2]
          · simp
          · simp only
            rw [hks2]
            exact hlk
    · have e : k = s.length := by omega
      subst e
      rw [List.take_length] at hlk hbd
      rw [List.take_length]
      have hlk : LkC es (sbR F s c).1 := hlk
      have hbd : OnBd (B + 1000000000) (sbR F s c) := hbd
      have hfold : s.foldl (sbX F c) (fun _ => none, -1) = sbR F s c := rfl
      rw [hfold]
      have hmS : sbS F s c = sbL (sbR F s c).1 (sbR F s c).2 F.st.toNat := rfl
      have hmB : sbB F s c = (sbR F s c).2 := rfl
      rw [hmS, hmB]
      clear hfold hmS hmB
      generalize sbR F s c = st at *
      repeat' (first | exact rfl | ((conv => whnf); first | (refine qX (fun h => ?_) fun h => ?_ <;> try exact absurd h (by omega)) | refine oN ?_ | refine oM ?_ ?_ | refine bM ?_ ?_ | refine dR ?_))
      (conv => whnf)
      refine loopI (fun z : Nat × Nat => ⟨[(8, .c (.mp 9)), (9, .i st.2), (17, .c (.sl 10 2 0 (sbL st.1 st.2 z.1).length ((sbL st.1 st.2 z.1).length + z.2))), (86, .i F.st), (87, .i z.1)], [(2, .box 79 (dC F 5 nl cl ost osr 7 nf cf 8 nr cr)), (9, .map .int .int es clk), (10, .arr true 80 .duo (sbL st.1 st.2 z.1) z.2)], 11⟩)
        (fun z => (z.1 : Int) ≤ F.st) (fun z => F.st.toNat - z.1) (0, 0) [(10, none)] ⟨by rfl, ?_, ?_⟩ (by simp only; omega) ?_
      · simp [sbL]
      · simp [nilO, sbL]
      · clear hk hk2
        rintro ⟨k, sp⟩ hk
        simp only at hk ⊢
        have hll := sbL_len st.1 st.2 k
        have hls := sbL_succ st.1 st.2 k
        have hbk := hbd.c (k : Int)
        have hl := hlk (k : Int)
        have hb := hbd.b
        generalize hql : sbL st.1 st.2 k = ql at hll hls ⊢
        (conv => whnf)
        refine condP_dec (fun hk2 => ?_) (fun hk2 => ?_)
        · cases hm : st.1 (k : Int) with
          | none =>
            rw [hm] at hl hls
            simp only at hls
            repeat' (first | exact rfl | ((conv => whnf); first | (refine qX (fun h => ?_) fun h => ?_ <;> try exact absurd h (by omega)) | refine oN ?_ | refine oM ?_ ?_ | refine bM ?_ ?_ | refine dR ?_))
            all_goals try (rw [hl] at h; cases h; done)
            · (conv => whnf)
              refine ⟨(k + 1, sp), [], ⟨by rfl, ?_, ?_⟩, by simp only; omega, by simp only; omega⟩
              · simp [hls]
              · simp [hls]
          | some v =>
            rw [hm] at hl hls
            simp only at hls
            have hv := hbk v hm
            have hg : (@lkM EK.int.ty EK.int.ty (EK.instDeq .int) es (k : Int)).getD EK.int.dflt = v := by rw [hl]; rfl
            have hg0 : @LE.le Int _ 0 ((@lkM EK.int.ty EK.int.ty (EK.instDeq .int) es (k : Int)).getD EK.int.dflt) ∧ @LE.le Int _ ((@lkM EK.int.ty EK.int.ty (EK.instDeq .int) es (k : Int)).getD EK.int.dflt) 20000000000000 := by rw [hg]; exact ⟨hv.1, by omega⟩
            repeat' (first | exact rfl | ((conv => whnf); first | (refine qX (fun h => ?_) fun h => ?_ <;> try exact absurd h (by omega)) | refine oN ?_ | refine oM ?_ ?_ | refine bM ?_ ?_ | refine dR ?_))
            all_goals try (rw [hl] at h; cases h; done)
            · intro sp2
              repeat' (first | exact rfl | ((conv => whnf); first | (refine qX (fun h => ?_) fun h => ?_ <;> try exact absurd h (by omega)) | refine oN ?_ | refine oM ?_ ?_ | refine bM ?_ ?_ | refine dR ?_))
              (conv => whnf)
              rw [hg]
              refine ⟨(k + 1, sp2), [(10, some 12)], ⟨by rfl, ?_, ?_⟩, by simp only; omega, by simp only; omega⟩
              · simp [hls]
              · simp [hls]
                simp [app_one]
        · have e : k = F.st.toNat := by omega
          subst e
          rw [← hql]
          repeat' (first | exact rfl | ((conv => whnf); first | (refine qX (fun h => ?_) fun h => ?_ <;> try exact absurd h (by omega)) | refine oN ?_ | refine oM ?_ ?_ | refine bM ?_ ?_ | refine dR ?_))
          (conv => whnf)
          exact ⟨[(9, some 10)], [(2, .box 79 (dC F 5 nl cl ost osr 7 nf cf 8 nr cr)), (9, .arr true 80 .duo (sbL st.1 st.2 F.st.toNat) sp)], 10, .tup [.c (.sl 9 2 0 (sbL st.1 st.2 F.st.toNat).length ((sbL st.1 st.2 F.st.toNat).length + sp)), .c (.i st.2)], ⟨by rfl, trivial, by simp⟩, by simp, sp, rfl, rfl⟩
end Go.Fw

namespace Go.Fw
open Go Go.Proofs
def sgA (cls : List Int) (a : Arc) : List UInt8 := [32] ++ Lib.itoa a.i ++ [58] ++ Lib.itoa a.w ++ [58] ++ Lib.itoa (cls.getD a.t.toNat 0)
def sgB (F : TF) (cls : List Int) (n : Int) : Nat → List UInt8
  | 0 => Lib.itoa (F.fin.getD n.toNat 0)
  | k + 1 => if (F.arcs.getD k aD).f = n then sgB F cls n k ++ sgA cls (F.arcs.getD k aD) else sgB F cls n k
def sgOk (F : TF) (cls : List Int) (n : Int) : Nat → Bool
  | 0 => true
  | k + 1 => sgOk F cls n k && !(decide ((F.arcs.getD k aD).f = n) && decide (cls.getD (F.arcs.getD k aD).t.toNat 0 < 0))
def signV (F : TF) (cls : List Int) (n : Int) : SV := if sgOk F cls n F.arcs.length = true then .tup [.c (.v (.string (bs (sgB F cls n F.arcs.length)))), .c (.b true)] else .tup [.c (.v (.string (bs []))), .c (.b false)]
structure DFst (F : TF) : Prop extends FRng F where
  st1 : F.st ≤ 1000
  arc1 : F.arcs.length ≤ 10000
  i : ∀ a ∈ F.arcs, 0 ≤ a.i ∧ a.i ≤ 9
  w : ∀ a ∈ F.arcs, 0 ≤ a.w ∧ a.w ≤ 10000000000000
  fin : ∀ n ∈ F.fin, -1 ≤ n ∧ n ≤ 10000000000000
theorem itoa_len2 {n B : Int} (h0 : -1 ≤ n) (h1 : n ≤ B) (hB : 1 ≤ B) : ((Lib.itoa n).length : Int) ≤ B + 2 := by
  by_cases h : 0 ≤ n
  · have := itoa_len h h1; omega
  · have : n = -1 := by omega
    subst this
    have : (Lib.itoa (-1)).length = 2 := by decide +kernel
    omega
theorem sgB_len {F : TF} (hF : DFst F) {cls : List Int} (hc : ∀ c ∈ cls, -1 ≤ c ∧ c ≤ 1000) {n : Int} (hn : 0 ≤ n ∧ n < F.st) (hcl : (cls.length : Int) = F.st) : ∀ k, k ≤ F.arcs.length → ((sgB F cls n k).length : Int) ≤ 10000000000002 + k * 20000000000000
  | 0, _ => by
    have hfl := hF.finl
    have hf := hF.fin _ (getD_mem F.fin n.toNat 0 (by omega))
    unfold sgB
    have := itoa_len2 hf.1 hf.2 (by omega)
    omega
  | k + 1, hk => by
    have ih := sgB_len hF hc hn hcl k (by omega)
    have hm := getD_mem F.arcs k aD (by omega)
    have h1 := hF.i _ hm
    have h2 := hF.w _ hm
    have h3 := hF.arc _ hm
    have h4 := hc _ (getD_mem cls (F.arcs.getD k aD).t.toNat 0 (by omega))
    have g1 := itoa_len h1.1 h1.2
    have g2 := itoa_len h2.1 h2.2
    have g3 := itoa_len2 h4.1 h4.2 (by omega)
    unfold sgB
    split
    · unfold sgA
      simp only [List.length_append, List.length_cons, List.length_nil]
      omega
    · omega
theorem sgOk_le {F : TF} {cls : List Int} {n : Int} {k : Nat} : ∀ {m : Nat}, k ≤ m → sgOk F cls n m = true → sgOk F cls n k = true
  | 0, h, g => by rw [show k = 0 by omega]; rfl
  | m + 1, h, g => by
    by_cases e : k = m + 1
    · rw [e]; exact g
    · unfold sgOk at g
      rw [Bool.and_eq_true] at g
      exact sgOk_le (by omega) g.1
set_option maxHeartbeats 16000000 in
set_option maxRecDepth 20000 in
theorem sign_c (F : TF) (hF : DFst F) (cls : List Int) (cc : Nat) (hc : ∀ c ∈ cls, -1 ≤ c ∧ c ≤ 1000) (n : Int) (hn : 0 ≤ n ∧ n < F.st) (hcl : (cls.length : Int) = F.st) (x : Obj) (hx : TabX x) :
    Ct Tryd.prog 93 [fV F, .c (.sl 2 1 0 cls.length cc), .i n] [] (hpF F ++ [(2, .arr false 3 .int cls 0), (3, tabO x)]) 4 (fun v s => v = signV F cls n ∧ s = ⟨[], [(3, tabO x)], 4⟩) := by
  have hst := hF.st
  have hal := hF.arc1
  have hfl := hF.finl
  have hf0 := hF.fin _ (getD_mem F.fin n.toNat 0 (by omega))
  have hf1 : -1 ≤ F.fin.getD (0 + n.toNat) EK.int.dflt ∧ F.fin.getD (0 + n.toNat) EK.int.dflt ≤ 10000000000000 := by rw [Nat.zero_add]; exact hf0
  refine ctW Tryd.tyOk 11 [18, 19, 20] Tryd.func93 rfl (by simp) (by simp) (fr := [(0, fV F), (1, .c (.sl 2 1 0 cls.length cc)), (2, .i n)]) rfl ?_
  repeat' (first | exact rfl | ((conv => whnf); first | (refine qX (fun h => ?_) fun h => ?_ <;> try exact absurd h (by omega)) | refine oN ?_ | refine oM ?_ ?_ | refine bM ?_ ?_ | refine dR ?_))
  (conv => whnf)
  refine cF (itoa_c x hx (F.fin.getD (0 + n.toNat) EK.int.dflt) (by omega) (by omega)) [3] Tryd.call97 ?_
  rintro _ _ ⟨rfl, rfl⟩
  simp only [Nat.reduceAdd, Nat.reduceSub]
  repeat' (first | exact rfl | ((conv => whnf); first | (refine qX (fun h => ?_) fun h => ?_ <;> try exact absurd h (by omega)) | refine oN ?_ | refine oM ?_ ?_ | refine bM ?_ ?_ | refine dR ?_))
  (conv => whnf)
  refine loopI (fun k : Nat => ⟨[(1, .c (.sl 2 1 0 cls.length cc)), (2, .i n), (3, .c (.ptr 4 0)), (8, stV (sgB F cls n k)), (18, .c (.sl 1 5 0 F.arcs.length F.capA)), (19, .i F.arcs.length), (20, .i k)], hpF F ++ [(2, .arr false 3 .int cls 0), (3, tabO x), (4, .box 25 (fCells F))], 5⟩)
    (fun k => k ≤ F.arcs.length ∧ sgOk F cls n k = true) (fun k => F.arcs.length - k) 0 [] ⟨by rfl, ?_, ?_⟩ ⟨Nat.zero_le _, rfl⟩ ?_
  · simp [sgB, bs, EK.dflt]
  · simp [fCells, tabO]
  · rintro k ⟨hk, hok⟩
    have hsl := sgB_len hF hc hn hcl k hk
    have hks : sgB F cls n (k + 1) = if (F.arcs.getD k aD).f = n then sgB F cls n k ++ sgA cls (F.arcs.getD k aD) else sgB F cls n k := rfl
    have hko : sgOk F cls n (k + 1) = (sgOk F cls n k && !(decide ((F.arcs.getD k aD).f = n) && decide (cls.getD (F.arcs.getD k aD).t.toNat 0 < 0))) := rfl
    rw [hok, Bool.true_and] at hko
    generalize hsg : sgB F cls n k = sg at *
    (conv => whnf)
    refine condP_dec (fun hk2 => ?_) (fun hk2 => ?_)
    · have e0 : 0 + (k : Int).toNat = k := by omega
      have hax : F.arcs.getD (0 + (k : Int).toNat) EK.arc.dflt = F.arcs.getD k aD := by rw [e0]; rfl
      have hm := getD_mem F.arcs k aD (by omega)
      have hr1 := hF.i _ hm
      have hr2 := hF.w _ hm
      have hr3 := hF.arc _ hm
      have hcv := hc _ (getD_mem cls (F.arcs.getD k aD).t.toNat 0 (by omega))
      rw [← hax] at hks hko hr1 hr2 hr3 hcv
      have hcv2 : -1 ≤ cls.getD (0 + (F.arcs.getD (0 + (k : Int).toNat) EK.arc.dflt).t.toNat) EK.int.dflt ∧ cls.getD (0 + (F.arcs.getD (0 + (k : Int).toNat) EK.arc.dflt).t.toNat) EK.int.dflt ≤ 1000 := by rw [show 0 + (F.arcs.getD (0 + (k : Int).toNat) EK.arc.dflt).t.toNat = (F.arcs.getD (0 + (k : Int).toNat) EK.arc.dflt).t.toNat from Nat.zero_add _]; exact hcv
      have hko2 : sgOk F cls n (k + 1) = !(decide ((F.arcs.getD (0 + (k : Int).toNat) EK.arc.dflt).f = n) && decide (cls.getD (0 + (F.arcs.getD (0 + (k : Int).toNat) EK.arc.dflt).t.toNat) EK.int.dflt < 0)) := by rw [show 0 + (F.arcs.getD (0 + (k : Int).toNat) EK.arc.dflt).t.toNat = (F.arcs.getD (0 + (k : Int).toNat) EK.arc.dflt).t.toNat from Nat.zero_add _]; exact hko
      have hks2 : sgB F cls n (k + 1) = if (F.arcs.getD (0 + (k : Int).toNat) EK.arc.dflt).f = n then sg ++ ([32] ++ Lib.itoa (F.arcs.getD (0 + (k : Int).toNat) EK.arc.dflt).i ++ [58] ++ Lib.itoa (F.arcs.getD (0 + (k : Int).toNat) EK.arc.dflt).w ++ [58] ++ Lib.itoa (cls.getD (0 + (F.arcs.getD (0 + (k : Int).toNat) EK.arc.dflt).t.toNat) EK.int.dflt)) else sg := by rw [show 0 + (F.arcs.getD (0 + (k : Int).toNat) EK.arc.dflt).t.toNat = (F.arcs.getD (0 + (k : Int).toNat) EK.arc.dflt).t.toNat from Nat.zero_add _]; exact hks
      clear hks hko hm
      have hi1 := itoa_len hr1.1 hr1.2
      have hi2 := itoa_len hr2.1 hr2.2
      have hi3 := itoa_len2 hcv2.1 hcv2.2 (by omega)
      repeat' (first | exact rfl | ((conv => whnf); first | (refine qX (fun h => ?_) fun h => ?_ <;> try exact absurd h (by omega)) | refine oN ?_ | refine oM ?_ ?_ | refine bM ?_ ?_ | refine dR ?_))
      · rw [if_neg h] at hks2
        rw [decide_eq_false h, Bool.false_and] at hko2
        (conv => whnf)
        refine ⟨k + 1, [], ⟨by rfl, ?_, ?_⟩, ⟨by omega, hko2⟩, by omega⟩
        · simp [hks2]
        · simp [fCells, tabO]
      · rename_i g
        rw [decide_eq_true g, decide_eq_true h] at hko2
        have hbad : ¬ sgOk F cls n F.arcs.length = true := fun c => by
          have := sgOk_le (k := k + 1) (by omega) c
          rw [hko2] at this
          cases this
        (conv => whnf)
        refine ⟨[], [(3, tabO x)], 4, .tup [.c (.v (.string (bs []))), .c (.b false)], ⟨by rfl, trivial, by simp⟩, by simp [bs], ?_, rfl⟩
        unfold signV
        rw [if_neg hbad]
      · rename_i g
        rw [decide_eq_true g, decide_eq_false h] at hko2
        rw [if_pos g] at hks2
        have hfin : bs sg ++ ((((((⟨#[32]⟩ : ByteArray) ++ (⟨(Lib.itoa (F.arcs.getD (0 + (k : Int).toNat) EK.arc.dflt).i).toArray⟩ : ByteArray)) ++ (⟨#[58]⟩ : ByteArray)) ++ (⟨(Lib.itoa (F.arcs.getD (0 + (k : Int).toNat) EK.arc.dflt).w).toArray⟩ : ByteArray)) ++ (⟨#[58]⟩ : ByteArray)) ++ (⟨(Lib.itoa (cls.getD (0 + (F.arcs.getD (0 + (k : Int).toNat) EK.arc.dflt).t.toNat) EK.int.dflt)).toArray⟩ : ByteArray)) = bs (sgB F cls n (k + 1)) := by
          show bs sg ++ (((((bs [32] ++ bs (Lib.itoa (F.arcs.getD (0 + (k : Int).toNat) EK.arc.dflt).i)) ++ bs [58]) ++ bs (Lib.itoa (F.arcs.getD (0 + (k : Int).toNat) EK.arc.dflt).w)) ++ bs [58]) ++ bs (Lib.itoa (cls.getD (0 + (F.arcs.getD (0 + (k : Int).toNat) EK.arc.dflt).t.toNat) EK.int.dflt))) = _
          rw [hks2]
          simp only [bs_app]
        (conv => whnf)
        refine cF (itoa_c x hx (F.arcs.getD (0 + (k : Int).toNat) EK.arc.dflt).i (by omega) (by omega)) [3] Tryd.call97 ?_
        rintro _ _ ⟨rfl, rfl⟩
        repeat' (first | exact rfl | ((conv => whnf); first | (refine qX (fun h => ?_) fun h => ?_ <;> try exact absurd h (by omega)) | refine oN ?_ | refine oM ?_ ?_ | refine bM ?_ ?_ | refine dR ?_ | intro _))
        · show (bs [32]).size + (bs (Lib.itoa (F.arcs.getD (0 + (k : Int).toNat) EK.arc.dflt).i)).size ≤ 9223372036854775807
          simp only [bs_app, bs_size, List.length_append, List.length_cons, List.length_nil]
          omega
        · show (bs [32] ++ bs (Lib.itoa (F.arcs.getD (0 + (k : Int).toNat) EK.arc.dflt).i)).size + (bs [58]).size ≤ 9223372036854775807
          simp only [bs_app, bs_size, List.length_append, List.length_cons, List.length_nil]
          omega
        (conv => whnf)
        refine cF (itoa_c x hx (F.arcs.getD (0 + (k : Int).toNat) EK.arc.dflt).w (by omega) (by omega)) [3] Tryd.call97 ?_
        rintro _ _ ⟨rfl, rfl⟩
        repeat' (first | exact rfl | ((conv => whnf); first | (refine qX (fun h => ?_) fun h => ?_ <;> try exact absurd h (by omega)) | refine oN ?_ | refine oM ?_ ?_ | refine bM ?_ ?_ | refine dR ?_ | intro _))
        · show (bs [32] ++ bs (Lib.itoa (F.arcs.getD (0 + (k : Int).toNat) EK.arc.dflt).i) ++ bs [58]).size + (bs (Lib.itoa (F.arcs.getD (0 + (k : Int).toNat) EK.arc.dflt).w)).size ≤ 9223372036854775807
          simp only [bs_app, bs_size, List.length_append, List.length_cons, List.length_nil]
          omega
        · show (bs [32] ++ bs (Lib.itoa (F.arcs.getD (0 + (k : Int).toNat) EK.arc.dflt).i) ++ bs [58] ++ bs (Lib.itoa (F.arcs.getD (0 + (k : Int).toNat) EK.arc.dflt).w)).size + (bs [58]).size ≤ 9223372036854775807
          simp only [bs_app, bs_size, List.length_append, List.length_cons, List.length_nil]
          omega
        (conv => whnf)
        refine cF (itoa_c x hx (cls.getD (0 + (F.arcs.getD (0 + (k : Int).toNat) EK.arc.dflt).t.toNat) EK.int.dflt) (by omega) (by omega)) [3] Tryd.call97 ?_
        rintro _ _ ⟨rfl, rfl⟩
        repeat' (first | exact rfl | ((conv => whnf); first | (refine qX (fun h => ?_) fun h => ?_ <;> try exact absurd h (by omega)) | refine oN ?_ | refine oM ?_ ?_ | refine bM ?_ ?_ | refine dR ?_ | intro _))
        · show (bs [32] ++ bs (Lib.itoa (F.arcs.getD (0 + (k : Int).toNat) EK.arc.dflt).i) ++ bs [58] ++ bs (Lib.itoa (F.arcs.getD (0 + (k : Int).toNat) EK.arc.dflt).w) ++ bs [58]).size + (bs (Lib.itoa (cls.getD (0 + (F.arcs.getD (0 + (k : Int).toNat) EK.arc.dflt).t.toNat) EK.int.dflt))).size ≤ 9223372036854775807
          simp only [bs_app, bs_size, List.length_append, List.length_cons, List.length_nil]
          omega
        · show (bs sg).size + (bs [32] ++ bs (Lib.itoa (F.arcs.getD (0 + (k : Int).toNat) EK.arc.dflt).i) ++ bs [58] ++ bs (Lib.itoa (F.arcs.getD (0 + (k : Int).toNat) EK.arc.dflt).w) ++ bs [58] ++ bs (Lib.itoa (cls.getD (0 + (F.arcs.getD (0 + (k : Int).toNat) EK.arc.dflt).t.toNat) EK.int.dflt))).size ≤ 9223372036854775807
          simp only [bs_app, bs_size, List.length_append, List.length_cons, List.length_nil]
          omega
        · (conv => whnf)
          rw [hfin]
          refine ⟨k + 1, [], ⟨by rfl, ?_, ?_⟩, ⟨by omega, hko2⟩, by omega⟩
          · simp
          · simp [fCells, tabO]
    · have e : k = F.arcs.length := by omega
      subst e
      repeat' (first | exact rfl | ((conv => whnf); first | (refine qX (fun h => ?_) fun h => ?_ <;> try exact absurd h (by omega)) | refine oN ?_ | refine oM ?_ ?_ | refine bM ?_ ?_ | refine dR ?_))
      (conv => whnf)
      refine ⟨[], [(3, tabO x)], 4, .tup [.c (.v (.string (bs sg))), .c (.b true)], ⟨by rfl, trivial, by simp⟩, by simp, ?_, rfl⟩
      unfold signV
      rw [if_pos hok, hsg]
end Go.Fw
