/- Walks of the functions: what each computes. -/
import Derived.Test.YtlaenllbacalpaaDoorU15
import Derived.Test.YtlaenllbacalpaaDoorU16
import Derived.Test.YtlaenllbacalpaaDoorU11
import Derived.Test.YtlaenllbacalpaaDoorU07

set_option linter.unusedSimpArgs false
set_option linter.unusedVariables false

namespace Go.Fw
open Go Go.Proofs

/-- The number that a kept state has: those ahead of it. -/
def TrimTo (p : Nat → Bool) (k : Nat) (to : List Int) (n : Nat) : Prop := to.length = n ∧ ∀ j, j < k → p j = true → to.getD j 0 = (rkB p j : Nat)

set_option maxHeartbeats 16000000 in
set_option maxRecDepth 20000 in
theorem trimOf_c (F : TF) (hF : FRng F) (hs : 0 ≤ F.start ∧ F.start < F.st) (hfin : ∀ n ∈ F.fin, -1 ≤ n) :
    Ct Tryd.prog 39 [fV F] [] (hpF F) 2 (fun v s => ∃ p, UsOk F p ∧ OutPost (kT F p).st (kT F p).start (kT F p).fin (kT F p).arcs 2 v s) := by
  have hst := hF.st
  have hal := hF.arcl
  have hfl := hF.finl
  refine ctC Tryd.tyOk Tryd.func39 rfl (by simp [SV.lt, SA.lt, SC.lt, fV]) (by simp) (fr := [(0, fV F)]) rfl ?_
  refine SemC.cut Tryd.tyOk 14 [] (fun _ : Unit => ⟨[(1, .c (.ptr 2 0)), (2, .c (.ptr 3 0)), (3, .c (.sl 4 1 0 F.st.toNat F.st.toNat)), (4, .c (.sl 5 1 0 F.st.toNat F.st.toNat))], hpF F ++ [(2, .box 25 (fCells F)), (3, .box 25 zero25), (4, .arr true 4 .bool (List.replicate F.st.toNat false) 0), (5, .arr true 4 .bool (List.replicate F.st.toNat false) 0)], 6⟩) (fun _ => True) 2 _ _ ?_ ?_
  · repeat' (first | exact rfl | ((conv => whnf); first | ((first | refine qA (fun h => ?_) fun h => ?_ | refine qN (fun h => ?_) fun h => ?_ | refine qB (fun h => ?_) fun h => ?_ | refine qC (fun h => ?_) fun h => ?_) <;> try exact absurd h (by omega)) | refine qM (fun h => ?_) fun h => ?_ | refine oM (by (first | omega | (simp only [lenS, InI, nmin, EK.sz]; omega) | (simp only [lenS, InI, nmin, EK.sz] at *; omega))) ?_ | refine oM ?_ ?_ | refine bM ?_ ?_ | refine draw_of Tryd.mixed Tryd.tyOk 60 (by kernel_rfl) ?_))
    all_goals
      (conv => whnf)
      first
      | (refine ⟨(), [], ⟨by rfl, ?_, ?_⟩, trivial⟩; (focus (simp [eqFr, eqHp, eqV, eqA, eqC, eqO, eqCs, eqAs, look_cons, look, rn, EK.cast, EK.sz, eqCaps]; done)); (focus (simp [eqFr, eqHp, eqV, eqA, eqC, eqO, eqCs, eqAs, look_cons, look, rn, EK.cast, EK.sz, eqCaps, fCells, EK.dflt]; done)))
      | (refine ⟨(), [(4, some 5), (5, some 4)], ⟨by rfl, ?_, ?_⟩, trivial⟩; (focus (simp [eqFr, eqHp, eqV, eqA, eqC, eqO, eqCs, eqAs, look_cons, look, rn, EK.cast, EK.sz, eqCaps]; done)); (focus (simp [eqFr, eqHp, eqV, eqA, eqC, eqO, eqCs, eqAs, look_cons, look, rn, EK.cast, EK.sz, eqCaps, fCells, EK.dflt]; done)))
  rintro _ -
  refine SemC.of Tryd.tyOk 14 [] ?_
  repeat' (first | exact rfl | ((conv => whnf); first | ((first | refine qA (fun h => ?_) fun h => ?_ | refine qN (fun h => ?_) fun h => ?_ | refine qB (fun h => ?_) fun h => ?_ | refine qC (fun h => ?_) fun h => ?_) <;> try exact absurd h (by omega)) | refine qM (fun h => ?_) fun h => ?_ | refine oM (by (first | omega | (simp only [lenS, InI, nmin, EK.sz]; omega) | (simp only [lenS, InI, nmin, EK.sz] at *; omega))) ?_ | refine oM ?_ ?_ | refine bM ?_ ?_ | refine draw_of Tryd.mixed Tryd.tyOk 60 (by kernel_rfl) ?_))
  (conv => whnf)
  refine loopI (fun z : Nat × List Bool => ⟨[(1, .c (.ptr 2 0)), (2, .c (.ptr 3 0)), (3, .c (.sl 4 1 0 F.st.toNat F.st.toNat)), (4, .c (.sl 5 1 0 F.st.toNat F.st.toNat)), (5, .i z.1)], hpF F ++ [(2, .box 25 (fCells F)), (3, .box 25 zero25), (4, .arr true 4 .bool ((List.replicate F.st.toNat false).set F.start.toNat true) 0), (5, .arr true 4 .bool z.2 0)], 6⟩)
    (fun z => z.1 ≤ F.st.toNat ∧ z.2.length = F.st.toNat ∧ ∀ j, j < z.1 → (z.2.getD j false = true ↔ F.fin.getD j 0 ≠ -1)) (fun z => F.st.toNat - z.1) (0, List.replicate F.st.toNat false) [] ⟨by rfl, ?_, ?_⟩ ⟨Nat.zero_le _, by simp, fun j h => absurd h (Nat.not_lt_zero _)⟩ ?_
  · simp [eqFr, eqHp, eqV, eqA, eqC, eqO, eqCs, eqAs, look_cons, look, rn, EK.cast, EK.sz, eqCaps]
  · simp [eqFr, eqHp, eqV, eqA, eqC, eqO, eqCs, eqAs, look_cons, look, rn, EK.cast, EK.sz, eqCaps, fCells, EK.dflt]
  · rintro ⟨k, on⟩ ⟨hk, hol, ho⟩
    simp only at hk hol ho ⊢
    (conv => whnf)
    refine condP_dec (fun hk2 => ?_) (fun hk2 => ?_)
    · have e0 : 0 + (k : Int).toNat = k := by omega
      have hfk := hfin _ (getD_mem F.fin k 0 (by omega))
      repeat' (first | exact rfl | ((conv => whnf); first | ((first | refine qA (fun h => ?_) fun h => ?_ | refine qN (fun h => ?_) fun h => ?_ | refine qB (fun h => ?_) fun h => ?_ | refine qC (fun h => ?_) fun h => ?_) <;> try exact absurd h (by omega)) | refine qM (fun h => ?_) fun h => ?_ | refine oM (by (first | omega | (simp only [lenS, InI, nmin, EK.sz]; omega) | (simp only [lenS, InI, nmin, EK.sz] at *; omega))) ?_ | refine oM ?_ ?_ | refine bM ?_ ?_ | refine draw_of Tryd.mixed Tryd.tyOk 60 (by kernel_rfl) ?_))
      (conv => whnf)
      refine ⟨(k + 1, on.set (0 + (k : Int).toNat) (decide (F.fin.getD (0 + (k : Int).toNat) EK.int.dflt ≥ 0))), [], ⟨by rfl, ?_, ?_⟩, ⟨by simp only; omega, by simp [hol], fun j hj => ?_⟩, by simp only; omega⟩
      · simp [eqFr, eqHp, eqV, eqA, eqC, eqO, eqCs, eqAs, look_cons, look, rn, EK.cast, EK.sz, eqCaps]
      · simp [eqFr, eqHp, eqV, eqA, eqC, eqO, eqCs, eqAs, look_cons, look, rn, EK.cast, EK.sz, eqCaps, fCells]
      · simp only at hj ⊢
        rw [e0, setB_getD _ _ _ _ (by omega)]
        by_cases e : j = k
        · rw [if_pos e, e, decide_eq_true_eq]
          have : F.fin.getD k EK.int.dflt = F.fin.getD k 0 := rfl
          rw [this]
          omega
        · rw [if_neg e]; exact ho j (by omega)
    · have e : k = F.st.toNat := by omega
      subst e
      have hsrF := fun a ha => hF.src (bk := false) (a := a) ha
      have hsrT := fun a ha => hF.src (bk := true) (a := a) ha
      have hth0 : ((List.replicate F.st.toNat false).set F.start.toNat true).length = F.st.toNat := by simp
      have hthi : ∀ j : Nat, j < F.st.toNat → (((List.replicate F.st.toNat false).set F.start.toNat true).getD j false = true ↔ (j : Int) ∈ [F.start]) := by
        intro j hj
        rw [setB_getD _ _ _ _ (by simp; omega)]
        by_cases e : j = F.start.toNat
        · rw [if_pos e]; simp; omega
        · rw [if_neg e]
          simp [List.getD, hj]
          omega
      generalize hth : (List.replicate F.st.toNat false).set F.start.toNat true = th0 at *
      repeat' (first | exact rfl | ((conv => whnf); first | ((first | refine qA (fun h => ?_) fun h => ?_ | refine qN (fun h => ?_) fun h => ?_ | refine qB (fun h => ?_) fun h => ?_ | refine qC (fun h => ?_) fun h => ?_) <;> try exact absurd h (by omega)) | refine qM (fun h => ?_) fun h => ?_ | refine oM (by (first | omega | (simp only [lenS, InI, nmin, EK.sz]; omega) | (simp only [lenS, InI, nmin, EK.sz] at *; omega))) ?_ | refine oM ?_ ?_ | refine bM ?_ ?_ | refine draw_of Tryd.mixed Tryd.tyOk 60 (by kernel_rfl) ?_))
      (conv => whnf)
      refine loopI (fun n : Nat => ⟨[(1, .c (.ptr 2 0)), (2, .c (.ptr 3 0)), (3, .c (.sl 4 1 0 F.st.toNat F.st.toNat)), (4, .c (.sl 5 1 0 F.st.toNat F.st.toNat)), (6, .i n)], hpF F ++ [(2, .box 25 (fCells F)), (3, .box 25 zero25), (4, .arr true 4 .bool (itM F.arcs false th0 n) 0), (5, .arr true 4 .bool (itM F.arcs true on n) 0)], 6⟩)
        (fun n => n ≤ F.st.toNat) (fun n => F.st.toNat - n) 0 [] ⟨by rfl, ?_, ?_⟩ (Nat.zero_le _) ?_
      · simp [eqFr, eqHp, eqV, eqA, eqC, eqO, eqCs, eqAs, look_cons, look, rn, EK.cast, EK.sz, eqCaps]
      · simp [eqFr, eqHp, eqV, eqA, eqC, eqO, eqCs, eqAs, look_cons, look, rn, EK.cast, EK.sz, eqCaps, fCells, itM]
      · clear hk2
        intro n hn
        (conv => whnf)
        refine condP_dec (fun hn2 => ?_) (fun hn2 => ?_)
        · have hT1 : itM F.arcs false th0 (n + 1) = mkP F.arcs false (itM F.arcs false th0 n) F.arcs.length := rfl
          have hT2 : itM F.arcs true on (n + 1) = mkP F.arcs true (itM F.arcs true on n) F.arcs.length := rfl
          have hl1 : (itM F.arcs false th0 n).length = F.st.toNat := by rw [itM_len, hth0]
          have hl2 : (itM F.arcs true on n).length = F.st.toNat := by rw [itM_len, hol]
          generalize hg1 : itM F.arcs false th0 n = t1 at *
          generalize hg2 : itM F.arcs true on n = o1 at *
          repeat' (first | exact rfl | ((conv => whnf); first | ((first | refine qA (fun h => ?_) fun h => ?_ | refine qN (fun h => ?_) fun h => ?_ | refine qB (fun h => ?_) fun h => ?_ | refine qC (fun h => ?_) fun h => ?_) <;> try exact absurd h (by omega)) | refine qM (fun h => ?_) fun h => ?_ | refine oM (by (first | omega | (simp only [lenS, InI, nmin, EK.sz]; omega) | (simp only [lenS, InI, nmin, EK.sz] at *; omega))) ?_ | refine oM ?_ ?_ | refine bM ?_ ?_ | refine draw_of Tryd.mixed Tryd.tyOk 60 (by kernel_rfl) ?_))
          (conv => whnf)
          refine loopI (fun k : Nat => ⟨[(1, .c (.ptr 2 0)), (2, .c (.ptr 3 0)), (3, .c (.sl 4 1 0 F.st.toNat F.st.toNat)), (4, .c (.sl 5 1 0 F.st.toNat F.st.toNat)), (6, .i n), (7, .i k)], hpF F ++ [(2, .box 25 (fCells F)), (3, .box 25 zero25), (4, .arr true 4 .bool (mkP F.arcs false t1 k) 0), (5, .arr true 4 .bool (mkP F.arcs true o1 k) 0)], 6⟩)
            (fun k => k ≤ F.arcs.length) (fun k => F.arcs.length - k) 0 [] ⟨by rfl, ?_, ?_⟩ (Nat.zero_le _) ?_
          · simp [eqFr, eqHp, eqV, eqA, eqC, eqO, eqCs, eqAs, look_cons, look, rn, EK.cast, EK.sz, eqCaps]
          · simp [eqFr, eqHp, eqV, eqA, eqC, eqO, eqCs, eqAs, look_cons, look, rn, EK.cast, EK.sz, eqCaps, fCells, mkP]
          · intro k hk
            have hm1 : (mkP F.arcs false t1 k).length = F.st.toNat := by rw [mkP_len, hl1]
            have hm2 : (mkP F.arcs true o1 k).length = F.st.toNat := by rw [mkP_len, hl2]
            have hs1 : mkP F.arcs false t1 (k + 1) = (mkP F.arcs false t1 k).set (F.arcs.getD k aD).t.toNat ((mkP F.arcs false t1 k).getD (F.arcs.getD k aD).t.toNat false || (mkP F.arcs false t1 k).getD (F.arcs.getD k aD).f.toNat false) := rfl
            have hs2 : mkP F.arcs true o1 (k + 1) = (mkP F.arcs true o1 k).set (F.arcs.getD k aD).f.toNat ((mkP F.arcs true o1 k).getD (F.arcs.getD k aD).f.toNat false || (mkP F.arcs true o1 k).getD (F.arcs.getD k aD).t.toNat false) := rfl
            generalize hgm1 : mkP F.arcs false t1 k = m1 at *
            generalize hgm2 : mkP F.arcs true o1 k = m2 at *
            (conv => whnf)
            refine condP_dec (fun hk2 => ?_) (fun hk2 => ?_)
            · have e0 : 0 + (k : Int).toNat = k := by omega
              have hb := hF.arc _ (getD_mem F.arcs k aD (by omega))
              have hb1 : (0 ≤ (F.arcs.getD (0 + (k : Int).toNat) EK.arc.dflt).t ∧ (F.arcs.getD (0 + (k : Int).toNat) EK.arc.dflt).t < F.st) ∧ 0 ≤ (F.arcs.getD (0 + (k : Int).toNat) EK.arc.dflt).f ∧ (F.arcs.getD (0 + (k : Int).toNat) EK.arc.dflt).f < F.st := by rw [e0]; exact ⟨hb.2.2, hb.1, hb.2.1⟩
              have hs1 : mkP F.arcs false t1 (k + 1) = m1.set (0 + (F.arcs.getD (0 + (k : Int).toNat) EK.arc.dflt).t.toNat) (m1.getD (0 + (F.arcs.getD (0 + (k : Int).toNat) EK.arc.dflt).t.toNat) EK.bool.dflt || m1.getD (0 + (F.arcs.getD (0 + (k : Int).toNat) EK.arc.dflt).f.toNat) EK.bool.dflt) := by rw [e0, Nat.zero_add, Nat.zero_add]; exact hs1
              have hs2 : mkP F.arcs true o1 (k + 1) = m2.set (0 + (F.arcs.getD (0 + (k : Int).toNat) EK.arc.dflt).f.toNat) (m2.getD (0 + (F.arcs.getD (0 + (k : Int).toNat) EK.arc.dflt).f.toNat) EK.bool.dflt || m2.getD (0 + (F.arcs.getD (0 + (k : Int).toNat) EK.arc.dflt).t.toNat) EK.bool.dflt) := by rw [e0, Nat.zero_add, Nat.zero_add]; exact hs2
              repeat' (first | exact rfl | ((conv => whnf); first | ((first | refine qA (fun h => ?_) fun h => ?_ | refine qN (fun h => ?_) fun h => ?_ | refine qB (fun h => ?_) fun h => ?_ | refine qC (fun h => ?_) fun h => ?_) <;> try exact absurd h (by omega)) | refine qM (fun h => ?_) fun h => ?_ | refine oM (by (first | omega | (simp only [lenS, InI, nmin, EK.sz]; omega) | (simp only [lenS, InI, nmin, EK.sz] at *; omega))) ?_ | refine oM ?_ ?_ | refine bM ?_ ?_ | refine draw_of Tryd.mixed Tryd.tyOk 60 (by kernel_rfl) ?_))
              all_goals
                rename_i g
                rw [g] at hs1
                rw [h] at hs2
                simp only [Bool.true_or, Bool.false_or] at hs1 hs2
                (conv => whnf)
                refine ⟨k + 1, [], ⟨by rfl, ?_, ?_⟩, by omega, by omega⟩
                · simp [eqFr, eqHp, eqV, eqA, eqC, eqO, eqCs, eqAs, look_cons, look, rn, EK.cast, EK.sz, eqCaps]
                · simp [eqFr, eqHp, eqV, eqA, eqC, eqO, eqCs, eqAs, look_cons, look, rn, EK.cast, EK.sz, eqCaps, fCells, hs1, hs2]
            · have e : k = F.arcs.length := by omega
              subst e
              repeat' (first | exact rfl | ((conv => whnf); first | ((first | refine qA (fun h => ?_) fun h => ?_ | refine qN (fun h => ?_) fun h => ?_ | refine qB (fun h => ?_) fun h => ?_ | refine qC (fun h => ?_) fun h => ?_) <;> try exact absurd h (by omega)) | refine qM (fun h => ?_) fun h => ?_ | refine oM (by (first | omega | (simp only [lenS, InI, nmin, EK.sz]; omega) | (simp only [lenS, InI, nmin, EK.sz] at *; omega))) ?_ | refine oM ?_ ?_ | refine bM ?_ ?_ | refine draw_of Tryd.mixed Tryd.tyOk 60 (by kernel_rfl) ?_))
              (conv => whnf)
              refine ⟨n + 1, [], ⟨by rfl, ?_, ?_⟩, by omega, by omega⟩
              · simp [eqFr, eqHp, eqV, eqA, eqC, eqO, eqCs, eqAs, look_cons, look, rn, EK.cast, EK.sz, eqCaps]
              · simp [eqFr, eqHp, eqV, eqA, eqC, eqO, eqCs, eqAs, look_cons, look, rn, EK.cast, EK.sz, eqCaps, fCells, hT1, hT2, hgm1, hgm2]
        · have e : n = F.st.toNat := by omega
          subst e
          have hT := fun j (hj : j < F.st.toNat) => itM_iff (n := F.st.toNat) (first := [F.start]) hth0 hsrF (fun x hx => by rw [List.mem_singleton] at hx; omega) hthi hj
          have hO := fun j (hj : j < F.st.toNat) => itM_iff (n := F.st.toNat) (first := endL F.fin F.st.toNat) hol hsrT (fun x hx => by obtain ⟨e, h1, h2, rfl⟩ := (mem_endL _).1 hx; omega) (fun j hj => by
            rw [ho j hj, mem_endL]
            refine ⟨fun h => ⟨j, hj, h, rfl⟩, fun ⟨e, _, h, he⟩ => ?_⟩
            have : j = e := by omega
            rw [this]; exact h) hj
          have hl1 : (itM F.arcs false th0 F.st.toNat).length = F.st.toNat := by rw [itM_len, hth0]
          have hl2 : (itM F.arcs true on F.st.toNat).length = F.st.toNat := by rw [itM_len, hol]
          generalize itM F.arcs false th0 F.st.toNat = T at *
          generalize itM F.arcs true on F.st.toNat = O at *
          have hU : UsOk F (kpB T O) := ⟨fun j hj => by
            unfold kpB
            rw [Bool.and_eq_true, hT j hj, hO j hj]
            constructor
            · rintro ⟨h1, h2⟩
              obtain ⟨e, he, h2⟩ := rch_some.1 h2
              obtain ⟨i, hi, h3, rfl⟩ := (mem_endL _).1 he
              exact ⟨h1, i, hi, h3, h2⟩
            · rintro ⟨h1, i, hi, h3, h2⟩
              exact ⟨h1, rch_some.2 ⟨_, (mem_endL _).2 ⟨i, hi, h3, rfl⟩, h2⟩⟩⟩
          have hT0 : T.getD F.start.toNat false = true := (hT _ (by omega)).2 (.here (by rw [List.mem_singleton]; omega))
          clear hT hO hthi hth ho hsrF hsrT
          generalize hp : kpB T O = p at hU
          repeat' (first | exact rfl | ((conv => whnf); first | ((first | refine qA (fun h => ?_) fun h => ?_ | refine qN (fun h => ?_) fun h => ?_ | refine qB (fun h => ?_) fun h => ?_ | refine qC (fun h => ?_) fun h => ?_) <;> try exact absurd h (by omega)) | refine qM (fun h => ?_) fun h => ?_ | refine oM (by (first | omega | (simp only [lenS, InI, nmin, EK.sz]; omega) | (simp only [lenS, InI, nmin, EK.sz] at *; omega))) ?_ | refine oM ?_ ?_ | refine bM ?_ ?_ | refine draw_of Tryd.mixed Tryd.tyOk 60 (by kernel_rfl) ?_))
          · have hp0 : ¬ p F.start.toNat = true := by
              rw [← hp]; unfold kpB; rw [Nat.zero_add] at h; rw [hT0, Bool.true_and]
              simpa [EK.dflt] using h
            (conv => whnf)
            refine ⟨[(2, some 6), (3, none)], [(2, .arr true 3 .int [-1] 0), (3, .arr true 50 .arc [] 0)], 4, .a (.agg [.i 1, .i 0, .sl 2 1 0 1 1, .sl 3 5 0 0 0]), ⟨by rfl, trivial, by simp [eqFr, eqHp, eqV, eqA, eqC, eqO, eqCs, eqAs, look_cons, look, rn, EK.cast, EK.sz, eqCaps, nilO]⟩, by simp [eqV, eqA, eqAs, eqC, eqCs, rn, look, look_cons, EK.sz], p, hU, ?_⟩
            unfold kT
            rw [if_neg hp0]
            exact ⟨0, 0, rfl, rfl⟩
          · have hp0 : p F.start.toNat = true := by
              rw [← hp]; unfold kpB; rw [Nat.zero_add] at h; rw [hT0, Bool.true_and]
              simpa [EK.dflt] using h
            repeat' (first | exact rfl | ((conv => whnf); first | ((first | refine qA (fun h => ?_) fun h => ?_ | refine qN (fun h => ?_) fun h => ?_ | refine qB (fun h => ?_) fun h => ?_ | refine qC (fun h => ?_) fun h => ?_) <;> try exact absurd h (by omega)) | refine qM (fun h => ?_) fun h => ?_ | refine oM (by (first | omega | (simp only [lenS, InI, nmin, EK.sz]; omega) | (simp only [lenS, InI, nmin, EK.sz] at *; omega))) ?_ | refine oM ?_ ?_ | refine bM ?_ ?_ | refine draw_of Tryd.mixed Tryd.tyOk 60 (by kernel_rfl) ?_))
            (conv => whnf)
            refine loopI (fun z : Nat × List Int × Nat => ⟨[(1, .c (.ptr 2 0)), (2, .c (.ptr 3 0)), (3, .c (.sl 4 1 0 F.st.toNat F.st.toNat)), (4, .c (.sl 5 1 0 F.st.toNat F.st.toNat)), (9, .c (.ptr 6 0)), (10, .c (.sl 7 1 0 F.st.toNat F.st.toNat)), (11, .i z.1)],
              hpF F ++ [(2, .box 25 (fCells F)), (3, .box 25 zero25), (4, .arr true 4 .bool T 0), (5, .arr true 4 .bool O 0), (6, .box 25 [.i (rkB p z.1), .i 0, .sl 8 1 0 (kfin p F.fin z.1).length ((kfin p F.fin z.1).length + z.2.2), .v (.slice none 0 0)]), (7, .arr true 3 .int z.2.1 0), (8, .arr true 3 .int (kfin p F.fin z.1) z.2.2)], 9⟩)
              (fun z => z.1 ≤ F.st.toNat ∧ TrimTo p z.1 z.2.1 F.st.toNat) (fun z => F.st.toNat - z.1) (0, List.replicate F.st.toNat 0, 0) [(8, none)] ⟨by rfl, ?_, ?_⟩ ⟨Nat.zero_le _, by simp, fun j h => absurd h (Nat.not_lt_zero _)⟩ ?_
            · simp [eqFr, eqHp, eqV, eqA, eqC, eqO, eqCs, eqAs, look_cons, look, rn, EK.cast, EK.sz, eqCaps]
            · simp [eqFr, eqHp, eqV, eqA, eqC, eqO, eqCs, eqAs, look_cons, look, rn, EK.cast, EK.sz, eqCaps, fCells, nilO, rkB, kfin, EK.dflt]
            · rintro ⟨k, to, sp⟩ ⟨hk, htl, hto⟩
              simp only at hk htl hto ⊢
              have hkl := kfin_len p F.fin k
              have hrk := rkB_le p k
              have hkf0 : kfin p F.fin (k + 1) = if p k = true then kfin p F.fin k ++ [F.fin.getD k 0] else kfin p F.fin k := rfl
              have hr0 : rkB p (k + 1) = if p k = true then rkB p k + 1 else rkB p k := rfl
              generalize hpl : kfin p F.fin k = pl at *
              have e0 : 0 + (k : Int).toNat = k := by omega
              have hpk0 : p k = (T.getD (0 + (k : Int).toNat) EK.bool.dflt && O.getD (0 + (k : Int).toNat) EK.bool.dflt) := by rw [← hp, e0]; rfl
              (conv => whnf)
              refine condP_dec (fun hk2 => ?_) (fun hk2 => ?_)
              · repeat' (first | exact rfl | ((conv => whnf); first | ((first | refine qA (fun h => ?_) fun h => ?_ | refine qN (fun h => ?_) fun h => ?_ | refine qB (fun h => ?_) fun h => ?_ | refine qC (fun h => ?_) fun h => ?_) <;> try exact absurd h (by omega)) | refine qM (fun h => ?_) fun h => ?_ | refine oM (by (first | omega | (simp only [lenS, InI, nmin, EK.sz]; omega) | (simp only [lenS, InI, nmin, EK.sz] at *; omega))) ?_ | refine oM ?_ ?_ | refine bM ?_ ?_ | refine draw_of Tryd.mixed Tryd.tyOk 60 (by kernel_rfl) ?_))
                · rename_i hT1
                  rw [hT1, h] at hpk0
                  rw [if_pos (show p k = true from hpk0)] at hkf0 hr0
                  repeat' (first | exact rfl | ((conv => whnf); first | ((first | refine qA (fun h => ?_) fun h => ?_ | refine qN (fun h => ?_) fun h => ?_ | refine qB (fun h => ?_) fun h => ?_ | refine qC (fun h => ?_) fun h => ?_) <;> try exact absurd h (by omega)) | refine qM (fun h => ?_) fun h => ?_ | refine oM (by (first | omega | (simp only [lenS, InI, nmin, EK.sz]; omega) | (simp only [lenS, InI, nmin, EK.sz] at *; omega))) ?_ | refine oM ?_ ?_ | refine bM ?_ ?_ | refine draw_of Tryd.mixed Tryd.tyOk 60 (by kernel_rfl) ?_ | intro _))
                  (conv => whnf)
                  rename_i sp2
                  refine ⟨(k + 1, to.set (0 + (k : Int).toNat) (rkB p k : Nat), sp2), [(8, some 10)], ⟨by rfl, ?_, ?_⟩, ⟨by simp only; omega, by simp [htl], fun j hj hjp => ?_⟩, by simp only; omega⟩
                  · simp [eqFr, eqHp, eqV, eqA, eqC, eqO, eqCs, eqAs, look_cons, look, rn, EK.cast, EK.sz, eqCaps]
                  · simp [eqFr, eqHp, eqV, eqA, eqC, eqO, eqCs, eqAs, look_cons, look, rn, EK.cast, EK.sz, eqCaps, hkf0, hr0, EK.dflt, e0, fCells]
                    simp [app_one]
                  · rw [getD_setJ _ _ _ _ _ (by omega), e0]
                    by_cases ej : j = k
                    · rw [if_pos ej, ej]
                    · rw [if_neg ej]
                      exact hto j (by simp only at hj; omega) hjp
                · rename_i hT1
                  rw [hT1, h, Bool.and_false] at hpk0
                  rw [if_neg (by rw [hpk0]; simp)] at hkf0 hr0
                  (conv => whnf)
                  refine ⟨(k + 1, to, sp), [], ⟨by rfl, ?_, ?_⟩, ⟨by simp only; omega, htl, fun j hj hjp => ?_⟩, by simp only; omega⟩
                  · simp [eqFr, eqHp, eqV, eqA, eqC, eqO, eqCs, eqAs, look_cons, look, rn, EK.cast, EK.sz, eqCaps]
                  · simp [eqFr, eqHp, eqV, eqA, eqC, eqO, eqCs, eqAs, look_cons, look, rn, EK.cast, EK.sz, eqCaps, hkf0, hr0, fCells]
                  · by_cases ej : j = k
                    · rw [ej, hpk0] at hjp; cases hjp
                    · exact hto j (by simp only at hj; omega) hjp
                · rw [h] at hpk0
                  rw [Bool.false_and] at hpk0
                  rw [if_neg (by rw [hpk0]; simp)] at hkf0 hr0
                  (conv => whnf)
                  refine ⟨(k + 1, to, sp), [], ⟨by rfl, ?_, ?_⟩, ⟨by simp only; omega, htl, fun j hj hjp => ?_⟩, by simp only; omega⟩
                  · simp [eqFr, eqHp, eqV, eqA, eqC, eqO, eqCs, eqAs, look_cons, look, rn, EK.cast, EK.sz, eqCaps]
                  · simp [eqFr, eqHp, eqV, eqA, eqC, eqO, eqCs, eqAs, look_cons, look, rn, EK.cast, EK.sz, eqCaps, hkf0, hr0, fCells]
                  · by_cases ej : j = k
                    · rw [ej, hpk0] at hjp; cases hjp
                    · exact hto j (by simp only at hj; omega) hjp
              · have e : k = F.st.toNat := by omega
                subst e
                subst hpl
                have hl0 : to.getD (0 + F.start.toNat) EK.int.dflt = (rkB p F.start.toNat : Nat) := by rw [Nat.zero_add]; exact hto _ (by omega) hp0
                repeat' (first | exact rfl | ((conv => whnf); first | ((first | refine qA (fun h => ?_) fun h => ?_ | refine qN (fun h => ?_) fun h => ?_ | refine qB (fun h => ?_) fun h => ?_ | refine qC (fun h => ?_) fun h => ?_) <;> try exact absurd h (by omega)) | refine qM (fun h => ?_) fun h => ?_ | refine oM (by (first | omega | (simp only [lenS, InI, nmin, EK.sz]; omega) | (simp only [lenS, InI, nmin, EK.sz] at *; omega))) ?_ | refine oM ?_ ?_ | refine bM ?_ ?_ | refine draw_of Tryd.mixed Tryd.tyOk 60 (by kernel_rfl) ?_))
                (conv => whnf)
                refine loopI (fun z : Nat × Nat => ⟨[(1, .c (.ptr 2 0)), (2, .c (.ptr 3 0)), (3, .c (.sl 4 1 0 F.st.toNat F.st.toNat)), (4, .c (.sl 5 1 0 F.st.toNat F.st.toNat)), (9, .c (.ptr 6 0)), (10, .c (.sl 7 1 0 F.st.toNat F.st.toNat)), (12, .i z.1)],
                  hpF F ++ [(2, .box 25 (fCells F)), (3, .box 25 zero25), (4, .arr true 4 .bool T 0), (5, .arr true 4 .bool O 0), (6, .box 25 [.i (rkB p F.st.toNat), .i (rkB p F.start.toNat), .sl 8 1 0 (kfin p F.fin F.st.toNat).length ((kfin p F.fin F.st.toNat).length + sp), .sl 9 5 0 (karc p F.arcs z.1).length ((karc p F.arcs z.1).length + z.2)]), (7, .arr true 3 .int to 0), (8, .arr true 3 .int (kfin p F.fin F.st.toNat) sp), (9, .arr true 50 .arc (karc p F.arcs z.1) z.2)], 10⟩)
                  (fun z => z.1 ≤ F.arcs.length) (fun z => F.arcs.length - z.1) (0, 0) [(9, none)] ⟨by rfl, ?_, ?_⟩ (Nat.zero_le _) ?_
                · simp [eqFr, eqHp, eqV, eqA, eqC, eqO, eqCs, eqAs, look_cons, look, rn, EK.cast, EK.sz, eqCaps]
                · simp [eqFr, eqHp, eqV, eqA, eqC, eqO, eqCs, eqAs, look_cons, look, rn, EK.cast, EK.sz, eqCaps, fCells, nilO, karc]
                  exact (show to[F.start.toNat]?.getD 0 = _ from hto _ (by omega) hp0).symm
                · rintro ⟨k, sq⟩ hk2
                  simp only at hk2 ⊢
                  have hlen := karc_len p F.arcs k
                  have hks : karc p F.arcs (k + 1) = if kOk p (F.arcs.getD k aD) = true then karc p F.arcs k ++ [kArc p (F.arcs.getD k aD)] else karc p F.arcs k := rfl
                  (conv => whnf)
                  refine condP_dec (fun hk3 => ?_) (fun hk3 => ?_)
                  · have e0 : 0 + (k : Int).toNat = k := by omega
                    have hb := hF.arc _ (getD_mem F.arcs k aD (by omega))
                    rw [← e0] at hb
                    have hax : F.arcs.getD (0 + (k : Int).toNat) EK.arc.dflt = F.arcs.getD k aD := by rw [e0]; rfl
                    have hb : (0 ≤ (F.arcs.getD (0 + (k : Int).toNat) EK.arc.dflt).f ∧ (F.arcs.getD (0 + (k : Int).toNat) EK.arc.dflt).f < F.st) ∧ 0 ≤ (F.arcs.getD (0 + (k : Int).toNat) EK.arc.dflt).t ∧ (F.arcs.getD (0 + (k : Int).toNat) EK.arc.dflt).t < F.st := ⟨⟨hb.1, hb.2.1⟩, hb.2.2⟩
                    repeat' (first | exact rfl | ((conv => whnf); first | ((first | refine qA (fun h => ?_) fun h => ?_ | refine qN (fun h => ?_) fun h => ?_ | refine qB (fun h => ?_) fun h => ?_ | refine qC (fun h => ?_) fun h => ?_) <;> try exact absurd h (by omega)) | refine qM (fun h => ?_) fun h => ?_ | refine oM (by (first | omega | (simp only [lenS, InI, nmin, EK.sz]; omega) | (simp only [lenS, InI, nmin, EK.sz] at *; omega))) ?_ | refine oM ?_ ?_ | refine bM ?_ ?_ | refine draw_of Tryd.mixed Tryd.tyOk 60 (by kernel_rfl) ?_))
                    · rename_i g1 g2 g3
                      have hpf : p (F.arcs.getD k aD).f.toNat = true := by rw [← hp, ← hax]; rw [Nat.zero_add] at g1 g2; exact (congr (congrArg _ g1) g2)
                      have hpt : p (F.arcs.getD k aD).t.toNat = true := by rw [← hp, ← hax]; rw [Nat.zero_add] at g3 h; exact (congr (congrArg _ g3) h)
                      rw [if_pos (by unfold kOk; rw [hpf, hpt]; rfl)] at hks
                      have hl1 : to.getD (0 + (F.arcs.getD (0 + (k : Int).toNat) EK.arc.dflt).f.toNat) EK.int.dflt = (rkB p (F.arcs.getD k aD).f.toNat : Nat) := by rw [Nat.zero_add, hax]; exact hto _ (by rw [← hax]; omega) hpf
                      have hl2 : to.getD (0 + (F.arcs.getD (0 + (k : Int).toNat) EK.arc.dflt).t.toNat) EK.int.dflt = (rkB p (F.arcs.getD k aD).t.toNat : Nat) := by rw [Nat.zero_add, hax]; exact hto _ (by rw [← hax]; omega) hpt
                      repeat' (first | exact rfl | ((conv => whnf); first | ((first | refine qA (fun h => ?_) fun h => ?_ | refine qN (fun h => ?_) fun h => ?_ | refine qB (fun h => ?_) fun h => ?_ | refine qC (fun h => ?_) fun h => ?_) <;> try exact absurd h (by omega)) | refine qM (fun h => ?_) fun h => ?_ | refine oM (by (first | omega | (simp only [lenS, InI, nmin, EK.sz]; omega) | (simp only [lenS, InI, nmin, EK.sz] at *; omega))) ?_ | refine oM ?_ ?_ | refine bM ?_ ?_ | refine draw_of Tryd.mixed Tryd.tyOk 60 (by kernel_rfl) ?_ | intro _))
                      (conv => whnf)
                      rw [hl1, hl2, hax]
                      rename_i sp2
                      refine ⟨(k + 1, sp2), [(9, some 12)], ⟨by rfl, ?_, ?_⟩, by simp only; omega, by simp only; omega⟩
                      · simp [eqFr, eqHp, eqV, eqA, eqC, eqO, eqCs, eqAs, look_cons, look, rn, EK.cast, EK.sz, eqCaps]
                      · simp [eqFr, eqHp, eqV, eqA, eqC, eqO, eqCs, eqAs, look_cons, look, rn, EK.cast, EK.sz, eqCaps, hks, fCells]
                        exact (app_one (karc p F.arcs k) _ (kArc p (F.arcs.getD k aD)) rfl).symm
                    all_goals
                      have hno : kOk p (F.arcs.getD k aD) = false := by
                        rw [← hp]
                        unfold kOk kpB
                        rw [← hax]
                        simp only [Nat.zero_add] at *
                        simp_all [EK.dflt]
                      rw [hno, if_neg (by simp)] at hks
                      (conv => whnf)
                      refine ⟨(k + 1, sq), [], ⟨by rfl, ?_, ?_⟩, by simp only; omega, by simp only; omega⟩
                      · simp [eqFr, eqHp, eqV, eqA, eqC, eqO, eqCs, eqAs, look_cons, look, rn, EK.cast, EK.sz, eqCaps]
                      · simp [eqFr, eqHp, eqV, eqA, eqC, eqO, eqCs, eqAs, look_cons, look, rn, EK.cast, EK.sz, eqCaps, hks, fCells]
                  · have e : k = F.arcs.length := by omega
                    subst e
                    repeat' (first | exact rfl | ((conv => whnf); first | ((first | refine qA (fun h => ?_) fun h => ?_ | refine qN (fun h => ?_) fun h => ?_ | refine qB (fun h => ?_) fun h => ?_ | refine qC (fun h => ?_) fun h => ?_) <;> try exact absurd h (by omega)) | refine qM (fun h => ?_) fun h => ?_ | refine oM (by (first | omega | (simp only [lenS, InI, nmin, EK.sz]; omega) | (simp only [lenS, InI, nmin, EK.sz] at *; omega))) ?_ | refine oM ?_ ?_ | refine bM ?_ ?_ | refine draw_of Tryd.mixed Tryd.tyOk 60 (by kernel_rfl) ?_))
                    (conv => whnf)
                    refine ⟨[(2, some 8), (3, some 9)], [(2, .arr true 3 .int (kfin p F.fin F.st.toNat) sp), (3, .arr true 50 .arc (karc p F.arcs F.arcs.length) sq)], 4, .a (.agg [.i (rkB p F.st.toNat : Nat), .i (rkB p F.start.toNat : Nat), .sl 2 1 0 (kfin p F.fin F.st.toNat).length ((kfin p F.fin F.st.toNat).length + sp), .sl 3 5 0 (karc p F.arcs F.arcs.length).length ((karc p F.arcs F.arcs.length).length + sq)]), ⟨by rfl, trivial, by simp [eqFr, eqHp, eqV, eqA, eqC, eqO, eqCs, eqAs, look_cons, look, rn, EK.cast, EK.sz, eqCaps]⟩, by simp [eqV, eqA, eqAs, eqC, eqCs, rn, look, look_cons, EK.sz], p, hU, ?_⟩
                    unfold kT
                    rw [if_pos hp0]
                    exact ⟨sp, sq, rfl, rfl⟩
end Go.Fw

/-
  Words of an acceptor, breadth by breadth: each beginning with what states cost behind it.
-/
namespace Go.Fw

theorem setI_getD (l : List Int) (t : Nat) (m : Int) (n : Nat) (ht : t < l.length) : (l.set t m).getD n 0 = if n = t then m else l.getD n 0 := by
  simp only [List.getD, List.getElem?_set]
  by_cases e : t = n
  · subst e; simp [ht]
  · rw [if_neg e, if_neg (fun c => e c.symm)]

/-- Read on, from a state. -/
inductive RdW (L : List Arc) : Int → List Int → Int → Int → Prop
  | nil (s : Int) : RdW L s [] s 0
  | cons {a : Arc} {u : List Int} {t c : Int} (ha : a ∈ L) (h : RdW L a.t u t c) : RdW L a.f (a.i :: u) t (a.w + c)

theorem RdW.snoc {L : List Arc} {s t c : Int} {u : List Int} (h : RdW L s u t c) {a : Arc} (ha : a ∈ L) (he : a.f = t) : RdW L s (u ++ [a.i]) a.t (c + a.w) := by
  induction h with
  | nil s => subst he; have := RdW.cons ha (.nil a.t); rwa [Int.add_zero, ← Int.zero_add a.w] at this
  | cons hb h ih => rw [Int.add_assoc]; exact .cons hb (ih he)
theorem RdW.app {L : List Arc} {s t r c d : Int} {u v : List Int} (h : RdW L s u t c) (h' : RdW L t v r d) : RdW L s (u ++ v) r (c + d) := by
  induction h with
  | nil s => rwa [Int.zero_add]
  | cons hb h ih => rw [Int.add_assoc]; exact .cons hb (ih h')
theorem RdW.split {L : List Arc} {s t c : Int} {u v : List Int} (h : RdW L s (u ++ v) t c) : ∃ q d e, RdW L s u q d ∧ RdW L q v t e ∧ c = d + e := by
  induction u generalizing s c with
  | nil => exact ⟨s, 0, c, .nil s, h, by omega⟩
  | cons x u ih =>
    generalize hw : (x :: u) ++ v = w at h
    cases h with
    | nil => cases hw
    | cons ha h =>
      rename_i a w' c'
      have e := List.cons.inj hw
      rw [← e.2] at h
      obtain ⟨q, d, f, h1, h2, h3⟩ := ih h
      exact ⟨q, a.w + d, f, e.1 ▸ .cons ha h1, h2, by omega⟩
theorem RdW.none {L : List Arc} {s t c : Int} {u : List Int} (h : RdW L s u t c) (hu : u = []) : t = s ∧ c = 0 := by
  cases h with
  | nil => exact ⟨rfl, rfl⟩
  | cons => cases hu
theorem RdW.one {L : List Arc} {s t c x : Int} (h : RdW L s [x] t c) : ∃ a ∈ L, a.f = s ∧ a.i = x ∧ a.t = t ∧ c = a.w := by
  generalize hw : [x] = w at h
  cases h with
  | nil => cases hw
  | cons ha h =>
    have e := List.cons.inj hw
    obtain ⟨g1, g2⟩ := h.none e.2.symm
    exact ⟨_, ha, rfl, e.1.symm, g1.symm, by omega⟩
theorem RdW.unsnoc {L : List Arc} {s t c x : Int} {u : List Int} (h : RdW L s (u ++ [x]) t c) : ∃ a ∈ L, ∃ d, RdW L s u a.f d ∧ a.i = x ∧ a.t = t ∧ c = d + a.w := by
  obtain ⟨q, d, e, h1, h2, h3⟩ := h.split
  obtain ⟨a, ha, g1, g2, g3, g4⟩ := h2.one
  exact ⟨a, ha, d, g1 ▸ h1, g2, g3, by omega⟩
theorem RdW.pos {L : List Arc} (hL : ∀ a ∈ L, 0 ≤ a.w ∧ a.w ≤ 1000000000) {s t c : Int} {u : List Int} (h : RdW L s u t c) : 0 ≤ c ∧ c ≤ 1000000000 * u.length := by
  induction h with
  | nil s => simp
  | cons ha h ih =>
    have := hL _ ha
    rw [List.length_cons]
    omega
theorem RdW.rng {L : List Arc} {n : Int} (hL : ∀ a ∈ L, 0 ≤ a.t ∧ a.t < n) {s t c : Int} {u : List Int} (h : RdW L s u t c) (hs : 0 ≤ s ∧ s < n) : 0 ≤ t ∧ t < n := by
  induction h with
  | nil s => exact hs
  | cons ha h ih => exact ih (hL _ ha)

/-- A beginning of some word. -/
def Bg (U : TF) (w : List Int) : Prop := ∃ t c, RdW U.arcs U.start w t c
/-- What states cost behind a beginning. -/
structure VecOk (U : TF) (w V : List Int) : Prop where
  len : V.length = U.st.toNat
  min : ∀ q : Nat, q < U.st.toNat → MinOf (fun c => RdW U.arcs U.start w q c) (V.getD q 0)

def nvB (V : List Int) (c : Int) (a : Arc) : Bool := a.i == c && decide (0 ≤ V.getD a.f.toNat 0)
def nvL (l : List Arc) (V : List Int) (c : Int) (n : Nat) : Nat → List Int
  | 0 => List.replicate n (-1)
  | k + 1 => if nvB V c (l.getD k aD) = true then (nvL l V c n k).set (l.getD k aD).t.toNat (less ((nvL l V c n k).getD (l.getD k aD).t.toNat 0) (V.getD (l.getD k aD).f.toNat 0 + (l.getD k aD).w)) else nvL l V c n k
def nvA (l : List Arc) (V : List Int) (c : Int) : Nat → Bool
  | 0 => false
  | k + 1 => if nvB V c (l.getD k aD) = true then true else nvA l V c k

theorem nvL_len (l : List Arc) (V : List Int) (c : Int) (n : Nat) : ∀ k, (nvL l V c n k).length = n
  | 0 => by simp [nvL]
  | k + 1 => by
    have := nvL_len l V c n k
    unfold nvL
    split
    · rw [List.length_set]; exact this
    · exact this
theorem nvA_iff (l : List Arc) (V : List Int) (c : Int) : ∀ k, nvA l V c k = true ↔ ∃ j, j < k ∧ nvB V c (l.getD j aD) = true
  | 0 => by simp [nvA]
  | k + 1 => by
    have ih := nvA_iff l V c k
    unfold nvA
    by_cases h : nvB V c (l.getD k aD) = true
    · rw [if_pos h]
      exact ⟨fun _ => ⟨k, by omega, h⟩, fun _ => rfl⟩
    · rw [if_neg h, ih]
      constructor
      · rintro ⟨j, h1, h2⟩; exact ⟨j, by omega, h2⟩
      · rintro ⟨j, h1, h2⟩
        by_cases e : j = k
        · rw [e] at h2; exact absurd h2 h
        · exact ⟨j, by omega, h2⟩

theorem MinOf.one {v : Int} (h : 0 ≤ v) : MinOf (fun c => c = v) v := .inr ⟨h, rfl, fun c e => by omega⟩

theorem nvL_min {l : List Arc} {V : List Int} {c : Int} {n : Nat} (hl : ∀ a ∈ l, 0 ≤ a.t ∧ a.t < n ∧ 0 ≤ a.w) : ∀ k, k ≤ l.length → ∀ q : Nat, q < n →
    MinOf (fun x => ∃ j, j < k ∧ nvB V c (l.getD j aD) = true ∧ (l.getD j aD).t = q ∧ x = V.getD (l.getD j aD).f.toNat 0 + (l.getD j aD).w) ((nvL l V c n k).getD q 0)
  | 0, _, q, hq => by
    left
    refine ⟨by simp [nvL, List.getD, hq], fun x => ?_⟩
    rintro ⟨j, hj, _⟩
    omega
  | k + 1, hk, q, hq => by
    have ih := nvL_min (V := V) (c := c) hl k (by omega) q hq
    have ha := hl _ (getD_mem l k aD (by omega))
    have hlen := nvL_len l V c n k
    unfold nvL
    by_cases h : nvB V c (l.getD k aD) = true
    · rw [if_pos h, setI_getD _ _ _ _ (by omega)]
      have hb := h
      unfold nvB at hb
      rw [Bool.and_eq_true, decide_eq_true_eq] at hb
      by_cases e : q = (l.getD k aD).t.toNat
      · rw [if_pos e, ← e]
        refine (MinOf.or ih (MinOf.one (show 0 ≤ V.getD (l.getD k aD).f.toNat 0 + (l.getD k aD).w by omega))).cong fun x => ?_
        constructor
        · rintro (⟨j, h1, h2, h3, h4⟩ | rfl)
          · exact ⟨j, by omega, h2, h3, h4⟩
          · exact ⟨k, by omega, h, by omega, rfl⟩
        · rintro ⟨j, h1, h2, h3, h4⟩
          by_cases ej : j = k
          · subst ej; exact .inr h4
          · exact .inl ⟨j, by omega, h2, h3, h4⟩
      · rw [if_neg e]
        refine ih.cong fun x => ?_
        constructor
        · rintro ⟨j, h1, h2, h3, h4⟩
          exact ⟨j, by omega, h2, h3, h4⟩
        · rintro ⟨j, h1, h2, h3, h4⟩
          by_cases ej : j = k
          · subst ej; omega
          · exact ⟨j, by omega, h2, h3, h4⟩
    · rw [if_neg h]
      refine ih.cong fun x => ?_
      constructor
      · rintro ⟨j, h1, h2, h3, h4⟩
        exact ⟨j, by omega, h2, h3, h4⟩
      · rintro ⟨j, h1, h2, h3, h4⟩
        by_cases ej : j = k
        · subst ej; exact absurd h2 h
        · exact ⟨j, by omega, h2, h3, h4⟩

theorem getD_ix {l : List Arc} {a : Arc} (h : a ∈ l) : ∃ j, j < l.length ∧ l.getD j aD = a := by
  obtain ⟨j, hj, rfl⟩ := List.mem_iff_getElem.1 h
  exact ⟨j, hj, by simp [List.getD, hj]⟩

section
variable {U : TF} (hU : ∀ a ∈ U.arcs, (0 ≤ a.f ∧ a.f < U.st) ∧ (0 ≤ a.t ∧ a.t < U.st) ∧ 0 ≤ a.w ∧ a.w ≤ 1000000000)
include hU

/-- On from there, by a letter. -/
theorem VecOk.step {w V : List Int} (h : VecOk U w V) (c : Int) : VecOk U (w ++ [c]) (nvL U.arcs V c U.st.toNat U.arcs.length) := by
  refine ⟨nvL_len _ _ _ _ _, fun q hq => ?_⟩
  refine (nvL_min (fun a ha => by have := hU a ha; omega) U.arcs.length (Nat.le_refl _) q hq).dom ?_ ?_
  · rintro x ⟨j, hj, h1, h2, rfl⟩
    have hm := getD_mem U.arcs j aD hj
    have hr := hU _ hm
    unfold nvB at h1
    rw [Bool.and_eq_true, decide_eq_true_eq, beq_iff_eq] at h1
    have := (h.min _ (show (U.arcs.getD j aD).f.toNat < U.st.toNat by omega)).is (by omega)
    rw [← h1.1, ← h2]
    exact this.snoc hm (by omega)
  · intro x hx
    obtain ⟨a, ha, d, h1, h2, h3, h4⟩ := hx.unsnoc
    obtain ⟨j, hj, rfl⟩ := getD_ix ha
    have hr := hU _ ha
    have hv := (h.min _ (show (U.arcs.getD j aD).f.toNat < U.st.toNat by omega)).le (c := d) (by rw [show (((U.arcs.getD j aD).f.toNat : Nat) : Int) = (U.arcs.getD j aD).f by omega]; exact h1)
    have hl := (h.min _ (show (U.arcs.getD j aD).f.toNat < U.st.toNat by omega)).low
    refine ⟨V.getD (U.arcs.getD j aD).f.toNat 0 + (U.arcs.getD j aD).w, by omega, j, hj, ?_, h3, rfl⟩
    unfold nvB
    rw [Bool.and_eq_true, decide_eq_true_eq, beq_iff_eq]
    exact ⟨h2, by omega⟩
theorem VecOk.any {w V : List Int} (h : VecOk U w V) (c : Int) : nvA U.arcs V c U.arcs.length = true ↔ Bg U (w ++ [c]) := by
  rw [nvA_iff]
  constructor
  · rintro ⟨j, hj, h1⟩
    have hm := getD_mem U.arcs j aD hj
    have hr := hU _ hm
    unfold nvB at h1
    rw [Bool.and_eq_true, decide_eq_true_eq, beq_iff_eq] at h1
    have := (h.min _ (show (U.arcs.getD j aD).f.toNat < U.st.toNat by omega)).is (by omega)
    exact ⟨_, _, h1.1 ▸ this.snoc hm (by omega)⟩
  · rintro ⟨t, x, hx⟩
    obtain ⟨a, ha, d, h1, h2, h3, h4⟩ := hx.unsnoc
    obtain ⟨j, hj, rfl⟩ := getD_ix ha
    have hr := hU _ ha
    have hv := (h.min _ (show (U.arcs.getD j aD).f.toNat < U.st.toNat by omega)).le (c := d) (by rw [show (((U.arcs.getD j aD).f.toNat : Nat) : Int) = (U.arcs.getD j aD).f by omega]; exact h1)
    have hl := (h.min _ (show (U.arcs.getD j aD).f.toNat < U.st.toNat by omega)).low
    refine ⟨j, hj, ?_⟩
    unfold nvB
    rw [Bool.and_eq_true, decide_eq_true_eq, beq_iff_eq]
    exact ⟨h2, by omega⟩
theorem VecOk.bd {w V : List Int} (h : VecOk U w V) (q : Nat) : -1 ≤ V.getD q 0 ∧ V.getD q 0 ≤ 1000000000 * w.length := by
  by_cases hq : q < U.st.toNat
  · have hl := (h.min q hq).low
    by_cases e : V.getD q 0 = -1
    · omega
    · have := ((h.min q hq).is e).pos (fun a ha => by have := hU a ha; omega)
      omega
  · have := h.len
    simp only [List.getD, List.getElem?_eq_none (show V.length ≤ q by omega), Option.getD_none]
    omega
end

/-- All that the words are, so far: from beginning i on, letters from c on are still to come. -/
structure WSt (U : TF) (W vs : List (List Int)) (par sym : List Int) (i : Nat) (c : Int) : Prop where
  lv : vs.length = W.length
  lp : par.length = W.length
  ls : sym.length = W.length
  pos : 1 ≤ W.length
  w0 : W.getD 0 [] = []
  p0 : par.getD 0 0 = -1
  s0 : sym.getD 0 0 = 0
  vec : ∀ j, j < W.length → VecOk U (W.getD j []) (vs.getD j [])
  wl : ∀ j, j < W.length → (W.getD j []).length ≤ j
  bg : ∀ j, j < W.length → Bg U (W.getD j [])
  on : ∀ j, 1 ≤ j → j < W.length → ∃ k : Nat, k < j ∧ par.getD j 0 = k ∧ (1 ≤ sym.getD j 0 ∧ sym.getD j 0 ≤ 9) ∧ W.getD j [] = W.getD k [] ++ [sym.getD j 0] ∧ (k < i ∨ k = i ∧ sym.getD j 0 < c)
  nd : ∀ j k, j < W.length → k < W.length → W.getD j [] = W.getD k [] → j = k
  all : ∀ j x, j < W.length → 1 ≤ x → x ≤ 9 → (j < i ∨ j = i ∧ x < c) → Bg U (W.getD j [] ++ [x]) → ∃ k, k < W.length ∧ W.getD k [] = W.getD j [] ++ [x]

theorem snoc_getD {α : Type} (l : List α) (x d : α) (n : Nat) : (l ++ [x]).getD n d = if n = l.length then x else l.getD n d := by
  simp only [List.getD]
  by_cases h : n < l.length
  · rw [if_neg (by omega), List.getElem?_append_left h]
  · by_cases h2 : n = l.length
    · rw [if_pos h2, h2]; simp
    · rw [if_neg h2, List.getElem?_eq_none (by simp; omega), List.getElem?_eq_none (by omega)]

section
variable {U : TF} {W vs : List (List Int)} {par sym : List Int} {i : Nat} {c : Int}

theorem WSt.start {V : List Int} (hV : VecOk U [] V) : WSt U [[]] [V] [-1] [0] 0 1 := by
  have h1 : ∀ j, j < ([[]] : List (List Int)).length → j = 0 := fun j hj => by simpa using hj
  refine ⟨rfl, rfl, rfl, by simp, rfl, rfl, rfl, fun j hj => ?_, fun j hj => ?_, fun j hj => ?_, fun j h2 hj => ?_, fun j k hj hk _ => ?_, fun j x hj h2 h3 h4 => ?_⟩
  · rw [h1 j hj]; exact hV
  · rw [h1 j hj]; exact Nat.le_refl _
  · rw [h1 j hj]; exact ⟨_, _, .nil _⟩
  · have := h1 j hj; omega
  · rw [h1 j hj, h1 k hk]
  · have := h1 j hj; omega

theorem WSt.skip (h : WSt U W vs par sym i c) (hn : ¬ Bg U (W.getD i [] ++ [c])) : WSt U W vs par sym i (c + 1) :=
  { h with
    on := fun j h1 h2 => by
      obtain ⟨k, g1, g2, g3, g4, g5⟩ := h.on j h1 h2
      exact ⟨k, g1, g2, g3, g4, by omega⟩
    all := fun j x hj h1 h2 h3 hb => by
      by_cases e : j = i ∧ x = c
      · rw [e.1, e.2] at hb; exact absurd hb hn
      · exact h.all j x hj h1 h2 (by omega) hb }

theorem WSt.next (h : WSt U W vs par sym i 10) : WSt U W vs par sym (i + 1) 1 :=
  { h with
    on := fun j h1 h2 => by
      obtain ⟨k, g1, g2, g3, g4, g5⟩ := h.on j h1 h2
      exact ⟨k, g1, g2, g3, g4, by omega⟩
    all := fun j x hj h1 h2 h3 hb => h.all j x hj h1 h2 (by omega) hb }

theorem WSt.push (h : WSt U W vs par sym i c) (hi : i < W.length) (hc : 1 ≤ c ∧ c ≤ 9) {V : List Int} (hV : VecOk U (W.getD i [] ++ [c]) V) (hb : Bg U (W.getD i [] ++ [c])) :
    WSt U (W ++ [W.getD i [] ++ [c]]) (vs ++ [V]) (par ++ [(i : Int)]) (sym ++ [c]) i (c + 1) := by
  have hpos := h.pos
  have hlv := h.lv
  have hlp := h.lp
  have hls := h.ls
  have hnew : ∀ k, k < W.length → W.getD k [] ≠ W.getD i [] ++ [c] := by
    intro k hk e
    by_cases hk0 : k = 0
    · rw [hk0, h.w0] at e; simp at e
    · obtain ⟨j, g1, g2, g3, g4, g5⟩ := h.on k (by omega) hk
      rw [g4] at e
      have e2 := List.append_inj' e rfl
      have := h.nd j i (by omega) hi e2.1
      have := (List.cons.inj e2.2).1
      omega
  refine ⟨by simp [hlv], by simp [hlp], by simp [hls], by simp, ?_, ?_, ?_, fun j hj => ?_, fun j hj => ?_, fun j hj => ?_, fun j h1 hj => ?_, fun j k hj hk => ?_, fun j x hj h1 h2 h3 hbx => ?_⟩
  · rw [snoc_getD, if_neg (by omega)]; exact h.w0
  · rw [snoc_getD, if_neg (by omega)]; exact h.p0
  · rw [snoc_getD, if_neg (by omega)]; exact h.s0
  · rw [snoc_getD, snoc_getD, hlv]
    by_cases e : j = W.length
    · rw [if_pos e, if_pos e]; exact hV
    · rw [if_neg e, if_neg e]; exact h.vec j (by simp at hj; omega)
  · rw [snoc_getD]
    by_cases e : j = W.length
    · rw [if_pos e, List.length_append, List.length_singleton]; have := h.wl i hi; omega
    · rw [if_neg e]; exact h.wl j (by simp at hj; omega)
  · rw [snoc_getD]
    by_cases e : j = W.length
    · rw [if_pos e]; exact hb
    · rw [if_neg e]; exact h.bg j (by simp at hj; omega)
  · rw [snoc_getD, snoc_getD, snoc_getD, hlp, hls]
    by_cases e : j = W.length
    · rw [if_pos e, if_pos e, if_pos e]
      exact ⟨i, by omega, rfl, hc, by rw [snoc_getD, if_neg (by omega)], .inr ⟨rfl, by omega⟩⟩
    · rw [if_neg e, if_neg e, if_neg e]
      have hj2 : j < W.length := by simp at hj; omega
      obtain ⟨k, g1, g2, g3, g4, g5⟩ := h.on j h1 hj2
      exact ⟨k, g1, g2, g3, by rw [snoc_getD, if_neg (by omega)]; exact g4, by omega⟩
  · rw [snoc_getD, snoc_getD]
    simp only [List.length_append, List.length_singleton] at hj hk
    by_cases e : j = W.length <;> by_cases e2 : k = W.length
    · intro _; omega
    · rw [if_pos e, if_neg e2]; intro q; exact absurd q.symm (hnew k (by omega))
    · rw [if_neg e, if_pos e2]; intro q; exact absurd q (hnew j (by omega))
    · rw [if_neg e, if_neg e2]; exact h.nd j k (by omega) (by omega)
  · simp only [List.length_append, List.length_singleton] at hj ⊢
    have hj2 : j < W.length := by omega
    rw [snoc_getD, if_neg (by omega)] at hbx ⊢
    by_cases e : j = i ∧ x = c
    · refine ⟨W.length, by omega, ?_⟩
      rw [snoc_getD, if_pos rfl, e.1, e.2]
    · obtain ⟨k, g1, g2⟩ := h.all j x hj2 h1 h2 (by omega) hbx
      exact ⟨k, by omega, by rw [snoc_getD, if_neg (by omega)]; exact g2⟩
end
end Go.Fw

namespace Go.Fw
open Go Go.Proofs

/-- How the words lie. -/
abbrev cWo (U : TF) (fi ai ci pi si : Nat) (rn rc pn pc sn sc : Nat) : List SC := [.i U.st, .i U.start, .sl fi 1 0 U.fin.length U.capF, .sl ai 5 0 U.arcs.length U.capA, .sl ci 1 0 rn rc, .sl pi 1 0 pn pc, .sl si 1 0 sn sc]
abbrev zero36 : List SC := [.i 0, .i 0, .v (.slice none 0 0), .v (.slice none 0 0), .v (.slice none 0 0), .v (.slice none 0 0), .v (.slice none 0 0)]
abbrev hpWo (F U : TF) (spU sqU : Nat) (rows : List Sli) (m : List (Addr × List Int × Nat)) (par sym : List Int) (sr sp sy : Nat) : List (Nat × SO) := hpF F ++ [(2, .box 25 (fCells F)), (3, .box 36 zero36), (4, .box 36 (cWo U 5 6 7 9 10 rows.length (rows.length + sr) par.length (par.length + sp) sym.length (sym.length + sy))), (5, .arr true 3 .int U.fin spU), (6, .arr true 50 .arc U.arcs sqU), (7, .arr true 22 .sli rows sr), (8, .pool 3 .int m), (9, .arr true 3 .int par sp), (10, .arr true 3 .int sym sy)]

theorem Tab2.one {xs : List Int} {sp : Nat} {m : List (Addr × List Int × Nat)} {y : Sli} (h : Frz [] xs sp xs.length (xs.length + sp) m y) (hx : xs ≠ []) : Tab2 m [y] 1 (fun _ => xs) := by
  cases h with
  | nil h => exact absurd h hx
  | @own a h hb =>
    have hl : lkA [(a, xs, sp)] a = some (xs, sp) := by simp [lkA]
    refine ⟨rfl, fun j hj => ?_, fun j hj => ?_, fun s t b h1 h2 h3 => by omega⟩
    · have : j = 0 := by omega
      subst this
      exact Hd.of_some rfl hl rfl (Nat.le_refl _)
    · have : j = 0 := by omega
      subst this
      exact rowA_some hl

set_option maxHeartbeats 16000000 in
set_option maxRecDepth 20000 in
theorem wordsA (F : TF) (hF : WOk F) (hF2 : F.st ≤ 200) (hs : 0 ≤ F.start ∧ F.start < F.st) {kn kr : S → Prop} {ke : Nat → S → Prop}
    (h : ∀ U spU sqU rows m sr sp sy, IsUs F U → U.capF = U.fin.length + spU → U.capA = U.arcs.length + sqU → Tab2 m rows 1 (fun _ => begun U) → SemC Tryd.prog 136 2 (dropC 1 (dropC 2 (Tryd.f17.body.getD .skip))) kn kr ke ⟨[(1, .c (.ptr 2 0)), (2, .c (.ptr 3 0)), (4, .c (.ptr 4 0))], hpWo F U spU sqU rows m [-1] [0] sr sp sy, 11⟩) :
    SemC Tryd.prog 136 2 (Tryd.f17.body.getD .skip) kn kr ke ⟨[(0, fV F)], hpF F, 2⟩ := by
  refine SemC.cut Tryd.tyOk 12 [] (fun z : TF × Nat × Nat => ⟨[(1, .c (.ptr 2 0)), (2, .c (.ptr 3 0)), (4, .c (.ptr 4 0))], hpWo F z.1 z.2.1 z.2.2 [] [] [] [] 0 0 0, 11⟩)
    (fun z => IsUs F z.1 ∧ z.1.capF = z.1.fin.length + z.2.1 ∧ z.1.capA = z.1.arcs.length + z.2.2) 2 _ _ ?_ ?_
  · repeat' (first | exact rfl | ((conv => whnf); first | ((first | refine qA (fun h => ?_) fun h => ?_ | refine qN (fun h => ?_) fun h => ?_ | refine qB (fun h => ?_) fun h => ?_ | refine qC (fun h => ?_) fun h => ?_) <;> try exact absurd h (by omega)) | refine qM (fun h => ?_) fun h => ?_ | refine oM (by (first | omega | (simp only [lenS, InI, nmin, EK.sz]; omega) | (simp only [lenS, InI, nmin, EK.sz] at *; omega))) ?_ | refine oM ?_ ?_ | refine bM ?_ ?_ | refine draw_of Tryd.mixed Tryd.tyOk 60 (by kernel_rfl) ?_))
    (conv => whnf)
    refine callF (trimOf_c F hF.toFRng hs (fun n hn => (hF.fin n hn).1)) [0, 1] Tryd.call39 rfl (by simp [eqLs, eqL, eqO, eqC, eqCs, rn, renOf, look_cons, look, EK.cast]) (by simp [appN, ptrs, eqVL, eqV, eqA, eqC, eqCs, eqAs, eqCaps, EK.sz, rn, renOf, look_cons, look, arcV, fV]) (by simp [appN, ptrs, SV.lt, SA.lt, SC.lt, arcV, fV, lenN]) ?_
    rintro v s ⟨p, hus, hv⟩
    generalize hkT : kT F p = T at hv
    obtain ⟨tst, tstart, tfin, tarcs, tc1, tc2⟩ := T
    obtain ⟨sp3, sq3, rfl, rfl⟩ := hv
    repeat' (first | exact rfl | ((conv => whnf); first | ((first | refine qA (fun h => ?_) fun h => ?_ | refine qN (fun h => ?_) fun h => ?_ | refine qB (fun h => ?_) fun h => ?_ | refine qC (fun h => ?_) fun h => ?_) <;> try exact absurd h (by omega)) | refine qM (fun h => ?_) fun h => ?_ | refine oM (by (first | omega | (simp only [lenS, InI, nmin, EK.sz]; omega) | (simp only [lenS, InI, nmin, EK.sz] at *; omega))) ?_ | refine oM ?_ ?_ | refine bM ?_ ?_ | refine draw_of Tryd.mixed Tryd.tyOk 60 (by kernel_rfl) ?_))
    (conv => whnf)
    simp only [Nat.reduceAdd, Nat.reduceSub]
    refine ⟨(⟨tst, tstart, tfin, tarcs, tfin.length + sp3, tarcs.length + sq3⟩, sp3, sq3), [(4, some 6), (5, some 4), (6, some 5), (7, none), (8, none), (9, none), (10, none)], ⟨by rfl, ?_, ?_⟩, ⟨p, hus, by rw [hkT], by rw [hkT], by rw [hkT], by rw [hkT]⟩, rfl, rfl⟩
    · simp [eqFr, eqHp, eqV, eqA, eqC, eqO, eqCs, eqAs, look_cons, look, rn, EK.cast, EK.sz, eqCaps]
    · simp [eqFr, eqHp, eqV, eqA, eqC, eqO, eqCs, eqAs, look_cons, look, rn, EK.cast, EK.sz, eqCaps, nilO, fCells]
  · rintro ⟨U, spU, sqU⟩ ⟨hus, hcF, hcA⟩
    simp only at hus hcF hcA ⊢
    obtain ⟨hUw, hUs, hUst⟩ := hus.ok hF hs
    have hU0 := hUw.st
    have hUl := hUw.finl
    have hUa := hUw.arcl
    refine SemC.cut Tryd.tyOk 12 [] (fun z : List Sli × List (Addr × List Int × Nat) × Nat × Nat × Nat => ⟨[(1, .c (.ptr 2 0)), (2, .c (.ptr 3 0)), (4, .c (.ptr 4 0))], hpWo F U spU sqU z.1 z.2.1 [-1] [0] z.2.2.1 z.2.2.2.1 z.2.2.2.2, 11⟩)
      (fun z => Tab2 z.2.1 z.1 1 (fun _ => begun U)) 1 _ _ ?_ (fun z hz => h U spU sqU z.1 z.2.1 z.2.2.1 z.2.2.2.1 z.2.2.2.2 hus hcF hcA hz)
    have hbn : begun U ≠ [] := fun e => by
      have : (begun U).length = U.st.toNat := by simp [begun]
      rw [e] at this
      simp at this
      omega
    repeat' (first | exact rfl | ((conv => whnf); first | ((first | refine qA (fun h => ?_) fun h => ?_ | refine qN (fun h => ?_) fun h => ?_ | refine qB (fun h => ?_) fun h => ?_ | refine qC (fun h => ?_) fun h => ?_) <;> try exact absurd h (by omega)) | refine qM (fun h => ?_) fun h => ?_ | refine oM (by (first | omega | (simp only [lenS, InI, nmin, EK.sz]; omega) | (simp only [lenS, InI, nmin, EK.sz] at *; omega))) ?_ | refine oM ?_ ?_ | refine bM ?_ ?_ | refine draw_of Tryd.mixed Tryd.tyOk 60 (by kernel_rfl) ?_))
    all_goals
      (conv => whnf)
      refine callF (begun_c U (by omega)) [5, 6] Tryd.call40 rfl (by simp [eqLs, eqL, eqO, eqC, eqCs, rn, renOf, look_cons, look, EK.cast]) (by simp [appN, ptrs, eqVL, eqV, eqA, eqC, eqCs, eqAs, eqCaps, EK.sz, rn, renOf, look_cons, look, arcV, fV]) (by simp [appN, ptrs, SV.lt, SA.lt, SC.lt, arcV, fV, lenN]) ?_
      rintro _ _ ⟨sp0, rfl, rfl⟩
      (conv => whnf)
    all_goals
      first
      | exact trivial
      | (
        simp only [Nat.reduceAdd, Nat.reduceSub]
        repeat' (first | exact rfl | ((conv => whnf); first | ((first | refine qA (fun h => ?_) fun h => ?_ | refine qN (fun h => ?_) fun h => ?_ | refine qB (fun h => ?_) fun h => ?_ | refine qC (fun h => ?_) fun h => ?_) <;> try exact absurd h (by omega)) | refine qM (fun h => ?_) fun h => ?_ | refine oM (by (first | omega | (simp only [lenS, InI, nmin, EK.sz]; omega) | (simp only [lenS, InI, nmin, EK.sz] at *; omega))) ?_ | refine oM ?_ ?_ | refine bM ?_ ?_ | refine draw_of Tryd.mixed Tryd.tyOk 60 (by kernel_rfl) ?_ | intro _))
        all_goals
          first
          | exact trivial
          | (
            (conv => whnf)
            simp only [Nat.reduceAdd, Nat.reduceSub]
            rename_i m' y hfz q1 q2 q3
            have htab := Tab2.one hfz hbn
            first
            | (refine ⟨([y], m', q1, q2, q3), [(7, some 13), (9, some 15), (10, some 17)], ⟨by rfl, ?_, ?_⟩, htab⟩; (focus (simp [eqFr, eqHp, eqV, eqA, eqC, eqO, eqCs, eqAs, look_cons, look, rn, EK.cast, EK.sz, eqCaps]; done)); (focus (simp [eqFr, eqHp, eqV, eqA, eqC, eqO, eqCs, eqAs, look_cons, look, rn, EK.cast, EK.sz, eqCaps, fCells, lOp.appL, sub]; done)))
            | (refine ⟨([y], m', q1, q2, q3), [(7, some 13), (9, some 16), (10, some 17)], ⟨by rfl, ?_, ?_⟩, htab⟩; (focus (simp [eqFr, eqHp, eqV, eqA, eqC, eqO, eqCs, eqAs, look_cons, look, rn, EK.cast, EK.sz, eqCaps]; done)); (focus (simp [eqFr, eqHp, eqV, eqA, eqC, eqO, eqCs, eqAs, look_cons, look, rn, EK.cast, EK.sz, eqCaps, fCells, lOp.appL, sub]; done)))
            | (refine ⟨([y], m', q1, q2, q3), [(7, some 14), (9, some 15), (10, some 17)], ⟨by rfl, ?_, ?_⟩, htab⟩; (focus (simp [eqFr, eqHp, eqV, eqA, eqC, eqO, eqCs, eqAs, look_cons, look, rn, EK.cast, EK.sz, eqCaps]; done)); (focus (simp [eqFr, eqHp, eqV, eqA, eqC, eqO, eqCs, eqAs, look_cons, look, rn, EK.cast, EK.sz, eqCaps, fCells, lOp.appL, sub]; done)))
            | (refine ⟨([y], m', q1, q2, q3), [(7, some 14), (9, some 16), (10, some 17)], ⟨by rfl, ?_, ?_⟩, htab⟩; (focus (simp [eqFr, eqHp, eqV, eqA, eqC, eqO, eqCs, eqAs, look_cons, look, rn, EK.cast, EK.sz, eqCaps]; done)); (focus (simp [eqFr, eqHp, eqV, eqA, eqC, eqO, eqCs, eqAs, look_cons, look, rn, EK.cast, EK.sz, eqCaps, fCells, lOp.appL, sub]; done)))
            | (refine ⟨([y], m', q1, q2, q3), [(7, some 15), (9, some 16), (10, some 17)], ⟨by rfl, ?_, ?_⟩, htab⟩; (focus (simp [eqFr, eqHp, eqV, eqA, eqC, eqO, eqCs, eqAs, look_cons, look, rn, EK.cast, EK.sz, eqCaps]; done)); (focus (simp [eqFr, eqHp, eqV, eqA, eqC, eqO, eqCs, eqAs, look_cons, look, rn, EK.cast, EK.sz, eqCaps, fCells, lOp.appL, sub]; done)))))
end Go.Fw
