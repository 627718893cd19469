/- Walks of the functions: what each computes. -/
import Derived.Test.YtlpfbhmfddbgdaaS06
import Derived.Test.YtlpfbhmfddbgdaaS05

set_option linter.unusedSimpArgs false
set_option linter.unusedVariables false

namespace Go.Fw
open Go Go.Proofs

/-- What CheckFst keeps by it. -/
abbrev hpC (F : TF) : List (Nat × SO) := [(0, .arr false 3 .int F.fin 0), (1, .arr false 47 .arc F.arcs 0), (2, .box 25 [.i F.st, .i F.start, .sl 0 1 0 F.fin.length F.capF, .sl 1 5 0 F.arcs.length F.capA])]

set_option maxHeartbeats 4000000 in
set_option maxRecDepth 20000 in
theorem checkFst_c (F : TF) : Ct Try.prog 19 [fV F] [] (hpF F) 2 (Is 2 (.i (fstE F))) := by
  refine ctW Try.tyOk 6 [] Try.func19 rfl (by simp [SV.lt, SA.lt, SC.lt, arcV, fV]) (by simp) (fr := [(0, fV F)]) rfl ?_
  (conv => whnf)
  refine callI (between_c F.st 1 200) [] Try.call59 rfl trivial (by simp [appN, ptrs, eqVL, eqV, eqA, eqC, eqCs, eqAs, eqCaps, EK.sz, rn, renOf, look_cons, look, arcV, fV]) (by simp [appN, ptrs, SV.lt, SA.lt, SC.lt, arcV, fV]) ?_
  repeat' (first | exact rfl | ((conv => whnf); first | refine condP_mk (fun h => ?_) (fun h => ?_) | refine Ob.mk ?_ ?_ | refine Both.mk ?_ ?_))
  · refine Back.is ?_
    simp only [Bool.not_eq_true', decide_eq_false_iff_not] at h
    simp only [eqV, eqA, eqC, fstE, if_pos h]
  · simp only [Bool.not_eq_false', decide_eq_true_eq] at h
    unfold InI; omega
  simp only [Bool.not_eq_false', decide_eq_true_eq] at h
  have h1 := h
  clear h
  (conv => whnf)
  refine callI (between_c F.start 0 (F.st - 1)) [] Try.call59 rfl trivial (by simp [appN, ptrs, eqVL, eqV, eqA, eqC, eqCs, eqAs, eqCaps, EK.sz, rn, renOf, look_cons, look, arcV, fV]) (by simp [appN, ptrs, SV.lt, SA.lt, SC.lt, arcV, fV]) ?_
  repeat' (first | exact rfl | ((conv => whnf); first | refine condP_mk (fun h => ?_) (fun h => ?_) | refine Ob.mk ?_ ?_ | refine Both.mk ?_ ?_))
  · refine Back.is ?_
    simp only [Bool.not_eq_true', decide_eq_false_iff_not] at h
    simp only [eqV, eqA, eqC, fstE, if_neg (not_not_intro h1), if_pos h]
  · refine Back.is ?_
    rename_i h2
    simp only [Bool.not_eq_false', decide_eq_true_eq, bne_iff_ne] at h h2
    simp only [eqV, eqA, eqC, fstE, if_neg (not_not_intro h1), if_neg (not_not_intro h2), if_pos h]
  rename_i h2
  simp only [Bool.not_eq_false', decide_eq_true_eq, bne_eq_false_iff_eq] at h h2
  have h3 := h
  clear h
  (conv => whnf)
  refine loopI (fun k : Nat => ⟨[(1, .c (.ptr 2 0)), (2, .i 0), (3, .i k)], hpC F, 3⟩) (fun k => k ≤ F.fin.length ∧ ∀ n ∈ F.fin.take k, -1 ≤ n ∧ n ≤ 1000000000) (fun k => F.fin.length - k) 0 [] ⟨by rfl, ?_, ?_⟩ (by simp) ?_
  · simp [eqFr, eqHp, eqV, eqA, eqC, eqO, eqCs, eqAs, look_cons, look, rn, EK.cast, EK.sz, eqCaps]
  · simp [eqFr, eqHp, eqV, eqA, eqC, eqO, eqCs, eqAs, look_cons, look, rn, EK.cast, EK.sz, eqCaps]
  · intro k ⟨hk1, hk2⟩
    repeat' (first | exact rfl | ((conv => whnf); first | refine condP_mk (fun h => ?_) (fun h => ?_) | refine Ob.mk ?_ ?_ | refine Both.mk ?_ ?_))
    · simp only [decide_eq_true_eq] at h; omega
    · simp only [decide_eq_true_eq] at h; omega
    · simp only [decide_eq_true_eq] at h
      have hk : k < F.fin.length := by omega
      (conv => whnf)
      simp only [Nat.zero_add, Int.toNat_natCast, EK.dflt]
      refine callI (between_c (F.fin.getD k 0) (-1) 1000000000) [] Try.call59 rfl trivial (by simp [appN, ptrs, eqVL, eqV, eqA, eqC, eqCs, eqAs, eqCaps, EK.sz, rn, renOf, look_cons, look, arcV, fV]) (by simp [appN, ptrs, SV.lt, SA.lt, SC.lt, arcV, fV]) ?_
      repeat' (first | exact rfl | ((conv => whnf); first | refine condP_mk (fun h => ?_) (fun h => ?_) | refine Ob.mk ?_ ?_ | refine Both.mk ?_ ?_))
      · refine Back.is ?_
        have hm := getD_mem F.fin k 0 hk
        simp only [Bool.not_eq_true', decide_eq_false_iff_not] at h
        have : ¬ ∀ n ∈ F.fin, -1 ≤ n ∧ n ≤ 1000000000 := fun H => h (H _ hm)
        simp only [eqV, eqA, eqC, fstE, if_neg (not_not_intro h1), if_neg (not_not_intro h2), if_neg (not_not_intro h3), if_pos this]
      · unfold InI; omega
      · (conv => whnf)
        refine ⟨k + 1, [], ⟨by rfl, ?_, ?_⟩, ⟨hk, ?_⟩, by omega⟩
        · simp [eqFr, eqHp, eqV, eqA, eqC, eqO, eqCs, eqAs, look_cons, look, rn, EK.cast, EK.sz, eqCaps]
        · simp [eqFr, eqHp, eqV, eqA, eqC, eqO, eqCs, eqAs, look_cons, look, rn, EK.cast, EK.sz, eqCaps]
        · rw [take_succ_getD F.fin k 0 hk]
          simp only [Bool.not_eq_false', decide_eq_true_eq] at h
          intro n hn
          simp only [List.mem_append, List.mem_singleton] at hn
          rcases hn with hn | rfl
          · exact hk2 n hn
          · exact h
    · rename_i hf
      simp only [decide_eq_false_iff_not, decide_eq_true_eq] at h hf
      rw [List.take_of_length_le (by omega)] at hk2
      refine Back.is ?_
      simp only [eqV, eqA, eqC, fstE, if_neg (not_not_intro h1), if_neg (not_not_intro h2), if_neg (not_not_intro h3), if_neg (not_not_intro hk2), if_pos (show 3000 < F.arcs.length by omega)]
    · rename_i hf
      simp only [decide_eq_false_iff_not, decide_eq_true_eq] at h hf
      rw [List.take_of_length_le (by omega)] at hk2
      have h4 : fstE F = arcsE F.st none F.arcs := by
        simp only [fstE, if_neg (not_not_intro h1), if_neg (not_not_intro h2), if_neg (not_not_intro h3), if_neg (not_not_intro hk2), if_neg (show ¬ 3000 < F.arcs.length by omega)]
      have h5 : F.arcs.length ≤ 3000 := by omega
      clear hf h hk2 hk1
      (conv => whnf)
      refine loopI (fun k : Nat => ⟨[(1, .c (.ptr 2 0)), (2, .i 0), (4, .i k)], hpC F, 3⟩) (fun k => k ≤ F.arcs.length ∧ fstE F = arcsE F.st (if k = 0 then none else some (F.arcs.getD (k - 1) EK.arc.dflt)) (F.arcs.drop k)) (fun k => F.arcs.length - k) 0 [] ⟨by rfl, ?_, ?_⟩ (by simp [h4]) ?_
      · simp [eqFr, eqHp, eqV, eqA, eqC, eqO, eqCs, eqAs, look_cons, look, rn, EK.cast, EK.sz, eqCaps]
      · simp [eqFr, eqHp, eqV, eqA, eqC, eqO, eqCs, eqAs, look_cons, look, rn, EK.cast, EK.sz, eqCaps]
      · intro j ⟨hj1, hj2⟩
        repeat' (first | exact rfl | ((conv => whnf); first | refine condP_mk (fun h => ?_) (fun h => ?_) | refine Ob.mk ?_ ?_ | refine Both.mk ?_ ?_))
        · simp only [decide_eq_true_eq] at h; omega
        · simp only [decide_eq_true_eq] at h; omega
        · unfold InI; omega
        · simp only [decide_eq_true_eq] at h
          have hj : j < F.arcs.length := by omega
          clear h
          (conv => whnf)
          simp only [Nat.zero_add, Int.toNat_natCast]
          have hd : F.arcs.drop j = F.arcs.getD j EK.arc.dflt :: F.arcs.drop (j + 1) := by
            rw [List.drop_eq_getElem_cons hj]; simp [List.getD, hj]
          rw [hd, arcsE_cons] at hj2
          have hnext : ∀ v : Int, fstE F = v → v = fstE F := fun _ h => h.symm
          generalize hx : F.arcs.getD j EK.arc.dflt = x at hj2 ⊢
          refine callI (between_c x.f 0 (F.st - 1)) [] Try.call59 rfl trivial (by simp [appN, ptrs, eqVL, eqV, eqA, eqC, eqCs, eqAs, eqCaps, EK.sz, rn, renOf, look_cons, look, arcV, fV]) (by simp [appN, ptrs, SV.lt, SA.lt, SC.lt, arcV, fV]) ?_
          repeat' (first | exact rfl | ((conv => whnf); first | refine condP_mk (fun h => ?_) (fun h => ?_) | refine Ob.mk ?_ ?_ | refine Both.mk ?_ ?_))
          · refine Back.is ?_
            simp only [Bool.not_eq_true'] at h
            simp only [eqV, eqA, eqC, hj2, arcOk, h]
            rfl
          · unfold InI; omega
          simp only [Bool.not_eq_false'] at h
          have a1 := h
          clear h
          (conv => whnf)
          refine callI (between_c x.t 0 (F.st - 1)) [] Try.call59 rfl trivial (by simp [appN, ptrs, eqVL, eqV, eqA, eqC, eqCs, eqAs, eqCaps, EK.sz, rn, renOf, look_cons, look, arcV, fV]) (by simp [appN, ptrs, SV.lt, SA.lt, SC.lt, arcV, fV]) ?_
          repeat' (first | exact rfl | ((conv => whnf); first | refine condP_mk (fun h => ?_) (fun h => ?_) | refine Ob.mk ?_ ?_ | refine Both.mk ?_ ?_))
          · refine Back.is ?_
            simp only [Bool.not_eq_true'] at h
            simp only [eqV, eqA, eqC, hj2, arcOk, a1, h]
            rfl
          simp only [Bool.not_eq_false'] at h
          have a2 : arcOk F.st x = true := by simp only [arcOk, a1, h]; rfl
          clear h
          (conv => whnf)
          refine callI (between_c x.i 0 9) [] Try.call59 rfl trivial (by simp [appN, ptrs, eqVL, eqV, eqA, eqC, eqCs, eqAs, eqCaps, EK.sz, rn, renOf, look_cons, look, arcV, fV]) (by simp [appN, ptrs, SV.lt, SA.lt, SC.lt, arcV, fV]) ?_
          repeat' (first | exact rfl | ((conv => whnf); first | refine condP_mk (fun h => ?_) (fun h => ?_) | refine Ob.mk ?_ ?_ | refine Both.mk ?_ ?_))
          · refine Back.is ?_
            simp only [Bool.not_eq_true'] at h
            simp only [eqV, eqA, eqC, hj2, a2, arcIn, h]
            rfl
          simp only [Bool.not_eq_false'] at h
          have a3 := h
          clear h
          (conv => whnf)
          refine callI (between_c x.o 0 9) [] Try.call59 rfl trivial (by simp [appN, ptrs, eqVL, eqV, eqA, eqC, eqCs, eqAs, eqCaps, EK.sz, rn, renOf, look_cons, look, arcV, fV]) (by simp [appN, ptrs, SV.lt, SA.lt, SC.lt, arcV, fV]) ?_
          repeat' (first | exact rfl | ((conv => whnf); first | refine condP_mk (fun h => ?_) (fun h => ?_) | refine Ob.mk ?_ ?_ | refine Both.mk ?_ ?_))
          · refine Back.is ?_
            simp only [Bool.not_eq_true'] at h
            simp only [eqV, eqA, eqC, hj2, a2, arcIn, a3, h]
            rfl
          simp only [Bool.not_eq_false'] at h
          have a4 := h
          clear h
          (conv => whnf)
          refine callI (between_c x.w 0 1000000000) [] Try.call59 rfl trivial (by simp [appN, ptrs, eqVL, eqV, eqA, eqC, eqCs, eqAs, eqCaps, EK.sz, rn, renOf, look_cons, look, arcV, fV]) (by simp [appN, ptrs, SV.lt, SA.lt, SC.lt, arcV, fV]) ?_
          repeat' (first | exact rfl | ((conv => whnf); first | refine condP_mk (fun h => ?_) (fun h => ?_) | refine Ob.mk ?_ ?_ | refine Both.mk ?_ ?_))
          · refine Back.is ?_
            simp only [Bool.not_eq_true'] at h
            simp only [eqV, eqA, eqC, hj2, a2, arcIn, a3, a4, h]
            rfl
          simp only [Bool.not_eq_false'] at h
          have a5 : arcIn x = true := by simp only [arcIn, a3, a4, h]; rfl
          clear h
          (conv => whnf)
          refine draw_of Try.mixed Try.tyOk 60 (by kernel_rfl) ?_
          repeat' (first | exact rfl | ((conv => whnf); first | refine condP_mk (fun h => ?_) (fun h => ?_) | refine Ob.mk ?_ ?_ | refine Both.mk ?_ ?_))
          · unfold InI; omega
          · simp only [decide_eq_true_eq, gt_iff_lt] at h; omega
          · simp only [decide_eq_true_eq, gt_iff_lt] at h; omega
          · simp only [decide_eq_true_eq, gt_iff_lt] at h
            have hj0 : j ≠ 0 := by omega
            clear h
            have e : 0 + ((j : Int) - 1).toNat = j - 1 := by omega
            (conv => whnf)
            simp only [e, Nat.zero_add, Int.toNat_natCast]
            simp only [if_neg hj0] at hj2
            generalize hy : F.arcs.getD (j - 1) EK.arc.dflt = y at hj2 ⊢
            refine callI (ahead_c y x) [] Try.call66 rfl trivial (by simp [appN, ptrs, eqVL, eqV, eqA, eqC, eqCs, eqAs, eqCaps, EK.sz, rn, renOf, look_cons, look, arcV, fV]) (by simp [appN, ptrs, SV.lt, SA.lt, SC.lt, arcV, fV]) ?_
            repeat' (first | exact rfl | ((conv => whnf); first | refine condP_mk (fun h => ?_) (fun h => ?_) | refine Ob.mk ?_ ?_ | refine Both.mk ?_ ?_))
            · refine Back.is ?_
              simp only [eqV, eqA, eqC, hj2, a2, a5, h]
              rfl
            · unfold InI; omega
            · simp only [Bool.not_eq_false'] at h
              (conv => whnf)
              refine ⟨j + 1, [], ⟨by rfl, ?_, ?_⟩, ⟨hj, ?_⟩, by omega⟩
              · simp [eqFr, eqHp, eqV, eqA, eqC, eqO, eqCs, eqAs, look_cons, look, rn, EK.cast, EK.sz, eqCaps]
              · simp [eqFr, eqHp, eqV, eqA, eqC, eqO, eqCs, eqAs, look_cons, look, rn, EK.cast, EK.sz, eqCaps]
              · simp only [a2, a5, h, Bool.not_true, Bool.false_eq_true, if_false] at hj2
                rw [if_neg (Nat.succ_ne_zero j), Nat.add_sub_cancel, hx]
                exact hj2
          · unfold InI; omega
          · simp only [decide_eq_false_iff_not, gt_iff_lt] at h
            have hj0 : j = 0 := by omega
            simp only [if_pos hj0] at hj2
            (conv => whnf)
            refine ⟨j + 1, [], ⟨by rfl, ?_, ?_⟩, ⟨hj, ?_⟩, by omega⟩
            · simp [eqFr, eqHp, eqV, eqA, eqC, eqO, eqCs, eqAs, look_cons, look, rn, EK.cast, EK.sz, eqCaps]
            · simp [eqFr, eqHp, eqV, eqA, eqC, eqO, eqCs, eqAs, look_cons, look, rn, EK.cast, EK.sz, eqCaps]
            · simp only [a2, a5, Bool.not_true, Bool.false_eq_true, if_false] at hj2
              rw [if_neg (Nat.succ_ne_zero j), Nat.add_sub_cancel, hx]
              exact hj2
        · refine Back.is ?_
          simp only [decide_eq_false_iff_not] at h
          rw [List.drop_eq_nil_of_le (by omega), arcsE_nil] at hj2
          simp only [eqV, eqA, eqC, hj2]
end Go.Fw

namespace Go.Fw
open Go Go.Proofs

set_option maxHeartbeats 2000000 in
set_option maxRecDepth 20000 in
theorem indexFunc_c (l : List Int) (cap : Nat) (hl : l.length ≤ 9223372036854775807) (g : Nat) (p : Int → Bool) (hg : ∀ x, Ct Try.prog g [.i x] [] [] 0 (Is 0 (.b (p x)))) (hcf : ∀ args w, (callFunc g args).run Try.prog w = .ok (.enter g args) w) :
    Ct Try.prog 96 [.c (.sl 0 1 0 l.length cap), .c (.fn g [])] [] [(0, .arr false 3 .int l 0)] 1 (Is 1 (.i (idx p 0 l))) := by
  refine ctW Try.tyOk 6 [7, 8] Try.func96 rfl (by simp [SV.lt, SA.lt, SC.lt, arcV, fV]) (by simp) (fr := [(0, .c (.sl 0 1 0 l.length cap)), (1, .c (.fn g []))]) rfl ?_
  (conv => whnf)
  refine loopI (fun k : Nat => ⟨[(0, .c (.sl 0 1 0 l.length cap)), (1, .c (.fn g [])), (4, .i 0), (7, .i l.length), (8, .i k)], [(0, .arr false 3 .int l 0)], 1⟩) (fun k => k ≤ l.length ∧ idx p 0 l = idx p k (l.drop k)) (fun k => l.length - k) 0 [] ⟨by rfl, ?_, ?_⟩ (by simp) ?_
  · simp [eqFr, eqHp, eqV, eqA, eqC, eqO, eqCs, eqAs, eqCaps, look_cons, look, rn, EK.cast]
  · simp [eqFr, eqHp, eqV, eqA, eqC, eqO, eqCs, eqAs, look_cons, look, rn, EK.cast, EK.sz, eqCaps]
  · intro k ⟨hk1, hk2⟩
    repeat' (first | exact rfl | ((conv => whnf); first | refine condP_mk (fun h => ?_) (fun h => ?_) | refine Ob.mk ?_ ?_ | refine Both.mk ?_ ?_))
    · simp only [decide_eq_true_eq] at h; omega
    · simp only [decide_eq_true_eq] at h; omega
    · simp only [decide_eq_true_eq] at h
      have hk : k < l.length := by omega
      clear h
      (conv => whnf)
      simp only [Nat.zero_add, Int.toNat_natCast, EK.dflt]
      rw [idx_drop p l k 0 hk] at hk2
      refine callI (hg (l.getD k 0)) [] hcf rfl trivial (by simp [appN, ptrs, eqVL, eqV, eqA, eqC]) (by simp [appN, ptrs, SV.lt, SA.lt, SC.lt]) ?_
      repeat' (first | exact rfl | ((conv => whnf); first | refine condP_mk (fun h => ?_) (fun h => ?_) | refine Ob.mk ?_ ?_ | refine Both.mk ?_ ?_))
      · refine Back.is ?_
        simp only [eqV, eqA, eqC, hk2, h, if_pos]
      · unfold InI; omega
      · (conv => whnf)
        simp only [h, Bool.false_eq_true, if_false] at hk2
        refine ⟨k + 1, [], ⟨by rfl, ?_, ?_⟩, ⟨hk, hk2⟩, by omega⟩
        · simp [eqFr, eqHp, eqV, eqA, eqC, eqO, eqCs, eqAs, eqCaps, look_cons, look, rn, EK.cast]
        · simp [eqFr, eqHp, eqV, eqA, eqC, eqO, eqCs, eqAs, look_cons, look, rn, EK.cast, EK.sz, eqCaps]
    · refine Back.is ?_
      simp only [decide_eq_false_iff_not] at h
      rw [List.drop_eq_nil_of_le (by omega), idx] at hk2
      simp only [eqV, eqA, eqC, hk2]

theorem containsFunc_c (l : List Int) (cap : Nat) (hl : l.length ≤ 9223372036854775807) (g : Nat) (p : Int → Bool) (hg : ∀ x, Ct Try.prog g [.i x] [] [] 0 (Is 0 (.b (p x)))) (hcf : ∀ args w, (callFunc g args).run Try.prog w = .ok (.enter g args) w) :
    Ct Try.prog 57 [.c (.sl 0 1 0 l.length cap), .c (.fn g [])] [] [(0, .arr false 3 .int l 0)] 1 (Is 1 (.b (l.any p))) := by
  refine ctW Try.tyOk 5 [] Try.func57 rfl (by simp [SV.lt, SA.lt, SC.lt, arcV, fV]) (by simp) (fr := [(0, .c (.sl 0 1 0 l.length cap)), (1, .c (.fn g []))]) rfl ?_
  (conv => whnf)
  refine callI (indexFunc_c l cap hl g p hg hcf) [0] Try.call96 rfl (by simp [eqLs, eqL, eqO, eqC, eqCs, rn, renOf, look_cons, look, EK.cast]) (by simp [appN, ptrs, eqVL, eqV, eqA, eqC, eqCaps, rn, renOf, look_cons, look]) (by simp [appN, ptrs, SV.lt, SA.lt, SC.lt]) ?_
  repeat' (first | exact rfl | ((conv => whnf); first | refine condP_mk (fun h => ?_) (fun h => ?_) | refine Ob.mk ?_ ?_ | refine Both.mk ?_ ?_))
  refine Back.is ?_
  simp only [eqV, eqA, eqC]
  exact (idx_any p l 0).symm

end Go.Fw

namespace Go.Fw
open Go Go.Proofs

set_option maxHeartbeats 2000000 in
set_option maxRecDepth 20000 in
theorem or_c (l : List Int) (cap : Nat) (hl : l.length ≤ 9223372036854775807) : Ct Try.prog 116 [.c (.sl 0 1 0 l.length cap)] [] [(0, .arr true 3 .int l 0)] 1 (Is 1 (.i (orI l))) := by
  refine ctW Try.tyOk 6 [6, 7, 8] Try.func116 rfl (by simp [SV.lt, SA.lt, SC.lt, arcV, fV]) (by simp) (fr := [(0, .c (.sl 0 1 0 l.length cap))]) rfl ?_
  (conv => whnf)
  refine loopI (fun k : Nat => ⟨[(2, .i 0), (3, .i 0), (6, .c (.sl 0 1 0 l.length cap)), (7, .i l.length), (8, .i k)], [(0, .arr true 3 .int l 0)], 1⟩) (fun k => k ≤ l.length ∧ orI l = orI (l.drop k)) (fun k => l.length - k) 0 [] ⟨by rfl, ?_, ?_⟩ (by simp) ?_
  · simp [eqFr, eqHp, eqV, eqA, eqC, eqO, eqCs, eqAs, look_cons, look, rn, EK.cast, EK.sz, eqCaps]
  · simp [eqFr, eqHp, eqV, eqA, eqC, eqO, eqCs, eqAs, look_cons, look, rn, EK.cast, EK.sz, eqCaps]
  · intro k ⟨hk1, hk2⟩
    repeat' (first | exact rfl | ((conv => whnf); first | refine condP_mk (fun h => ?_) (fun h => ?_) | refine Ob.mk ?_ ?_ | refine Both.mk ?_ ?_))
    · simp only [decide_eq_true_eq] at h; omega
    · simp only [decide_eq_true_eq] at h; omega
    · simp only [bne_iff_ne, Nat.zero_add, Int.toNat_natCast, EK.dflt] at h
      rename_i hk
      simp only [decide_eq_true_eq] at hk
      rw [orI_drop l k (by omega), if_pos h] at hk2
      refine Back.is ?_
      simp only [eqV, eqA, eqC, hk2, Nat.zero_add, Int.toNat_natCast, EK.dflt]
    · rename_i hk
      simp only [decide_eq_true_eq] at hk
      unfold InI; omega
    · simp only [bne_eq_false_iff_eq, Nat.zero_add, Int.toNat_natCast, EK.dflt] at h
      rename_i hk
      simp only [decide_eq_true_eq] at hk
      rw [orI_drop l k (by omega), if_neg (by rw [h]; simp)] at hk2
      (conv => whnf)
      refine ⟨k + 1, [], ⟨by rfl, ?_, ?_⟩, ⟨by omega, hk2⟩, by omega⟩
      · simp [eqFr, eqHp, eqV, eqA, eqC, eqO, eqCs, eqAs, look_cons, look, rn, EK.cast, EK.sz, eqCaps]
      · simp [eqFr, eqHp, eqV, eqA, eqC, eqO, eqCs, eqAs, look_cons, look, rn, EK.cast, EK.sz, eqCaps]
    · refine Back.is ?_
      simp only [decide_eq_false_iff_not] at h
      rw [List.drop_eq_nil_of_le (by omega), orI] at hk2
      simp only [eqV, eqA, eqC, hk2]

set_option maxHeartbeats 4000000 in
set_option maxRecDepth 20000 in
theorem order_c (a b : Arc) : Ct Try.prog 100 [arcV a, arcV b] [] [] 0 (Is 0 (.i (orderI a b))) := by
  refine ctW Try.tyOk 5 [] Try.func100 rfl (by simp [SV.lt, SA.lt, SC.lt, arcV, fV]) (by simp) (fr := [(0, arcV a), (1, arcV b)]) rfl ?_
  (conv => whnf)
  refine draw_of Try.mixed Try.tyOk 60 (by kernel_rfl) ?_
  (conv => whnf)
  refine callI (compare_c a.f b.f) [] Try.call117 rfl trivial (by simp [appN, ptrs, eqVL, eqV, eqA, eqC, eqCs, eqAs, eqCaps, EK.sz, rn, renOf, look_cons, look, arcV, fV]) (by simp [appN, ptrs, SV.lt, SA.lt, SC.lt, arcV, fV]) ?_
  repeat' (first | exact rfl | ((conv => whnf); first | refine condP_mk (fun h => ?_) (fun h => ?_) | refine Ob.mk ?_ ?_ | refine Both.mk ?_ ?_))
  (conv => whnf)
  refine callI (compare_c a.i b.i) [] Try.call117 rfl trivial (by simp [appN, ptrs, eqVL, eqV, eqA, eqC, eqCs, eqAs, eqCaps, EK.sz, rn, renOf, look_cons, look, arcV, fV]) (by simp [appN, ptrs, SV.lt, SA.lt, SC.lt, arcV, fV]) ?_
  repeat' (first | exact rfl | ((conv => whnf); first | refine condP_mk (fun h => ?_) (fun h => ?_) | refine Ob.mk ?_ ?_ | refine Both.mk ?_ ?_))
  (conv => whnf)
  refine callI (compare_c a.o b.o) [] Try.call117 rfl trivial (by simp [appN, ptrs, eqVL, eqV, eqA, eqC, eqCs, eqAs, eqCaps, EK.sz, rn, renOf, look_cons, look, arcV, fV]) (by simp [appN, ptrs, SV.lt, SA.lt, SC.lt, arcV, fV]) ?_
  repeat' (first | exact rfl | ((conv => whnf); first | refine condP_mk (fun h => ?_) (fun h => ?_) | refine Ob.mk ?_ ?_ | refine Both.mk ?_ ?_))
  (conv => whnf)
  refine callI (compare_c a.t b.t) [] Try.call117 rfl trivial (by simp [appN, ptrs, eqVL, eqV, eqA, eqC, eqCs, eqAs, eqCaps, EK.sz, rn, renOf, look_cons, look, arcV, fV]) (by simp [appN, ptrs, SV.lt, SA.lt, SC.lt, arcV, fV]) ?_
  repeat' (first | exact rfl | ((conv => whnf); first | refine condP_mk (fun h => ?_) (fun h => ?_) | refine Ob.mk ?_ ?_ | refine Both.mk ?_ ?_))
  (conv => whnf)
  refine callI (or_c [cmpI a.f b.f, cmpI a.i b.i, cmpI a.o b.o, cmpI a.t b.t] 4 (by simp)) [2] Try.call116 rfl (by simp [eqLs, eqL, eqO, eqC, eqCs, rn, renOf, look_cons, look, EK.cast]) (by simp [appN, ptrs, eqVL, eqV, eqA, eqC, rn, renOf, look_cons, look, EK.sz]) (by simp [appN, ptrs, SV.lt, SA.lt, SC.lt]) ?_
  repeat' (first | exact rfl | ((conv => whnf); first | refine condP_mk (fun h => ?_) (fun h => ?_) | refine Ob.mk ?_ ?_ | refine Both.mk ?_ ?_))
  refine Back.is ?_
  simp only [eqV, eqA, eqC, orderI]
end Go.Fw

namespace Go.Fw
open Go Go.Proofs

theorem check1_c (F : TF) (n : Int) (hst : InI (F.st - 1)) : Ct Try.prog 97 [.i n, .c (.ptr 2 0)] [] (hpC F) 3 (fun v s => v = .b (decide (0 ≤ n ∧ n ≤ F.st - 1)) ∧ s = ⟨[], [(2, .box 25 [.i F.st, .i F.start, .sl 0 1 0 F.fin.length F.capF, .sl 1 5 0 F.arcs.length F.capA])], 3⟩) := by
  refine ctW Try.tyOk 4 [] Try.func97 rfl (by simp [SV.lt, SA.lt, SC.lt, arcV, fV]) (by simp) (fr := [(0, .i n), (1, .c (.ptr 2 0))]) rfl ?_
  repeat' (first | exact rfl | ((conv => whnf); first | refine condP_mk (fun h => ?_) (fun h => ?_) | refine Ob.mk ?_ ?_ | refine Both.mk ?_ ?_))
  · exact hst
  (conv => whnf)
  refine callI (within_c n 0 (F.st - 1)) [] Try.call98 rfl trivial (by simp [appN, ptrs, eqVL, eqV, eqA, eqC, eqCs, eqAs, eqCaps, EK.sz, rn, renOf, look_cons, look, arcV, fV]) (by simp [appN, ptrs, SV.lt, SA.lt, SC.lt, arcV, fV]) ?_
  repeat' (first | exact rfl | ((conv => whnf); first | refine condP_mk (fun h => ?_) (fun h => ?_) | refine Ob.mk ?_ ?_ | refine Both.mk ?_ ?_))
  (conv => whnf)
  exact ⟨[], [(2, .box 25 [.i F.st, .i F.start, .sl 0 1 0 F.fin.length F.capF, .sl 1 5 0 F.arcs.length F.capA])], 3, .b (decide (0 ≤ n ∧ n ≤ F.st - 1)), ⟨by rfl, trivial, by simp [eqFr, eqHp, eqV, eqA, eqC, eqO, eqCs, eqAs, look_cons, look, rn, EK.cast, EK.sz, eqCaps]⟩, by simp only [eqV, eqA, eqC], rfl, rfl⟩

/-- What Check keeps by it. -/
abbrev frC : List (Nat × SV) := [(1, .c (.ptr 2 0)), (2, .i 0), (3, .c (.fn 97 [(2, 0)]))]

set_option maxHeartbeats 4000000 in
set_option maxRecDepth 20000 in
theorem check_c (F : TF) (hl : F.fin.length ≤ 9223372036854775807) : Ct Try.prog 60 [fV F] [] (hpF F) 2 (Is 2 (.i (fstE F))) := by
  refine ctW Try.tyOk 6 [35, 36, 37] Try.func60 rfl (by simp [SV.lt, SA.lt, SC.lt, arcV, fV]) (by simp) (fr := [(0, fV F)]) rfl ?_
  (conv => whnf)
  refine callI (within_c F.st 1 200) [] Try.call98 rfl trivial (by simp [appN, ptrs, eqVL, eqV, eqA, eqC, eqCs, eqAs, eqCaps, EK.sz, rn, renOf, look_cons, look, arcV, fV]) (by simp [appN, ptrs, SV.lt, SA.lt, SC.lt, arcV, fV]) ?_
  repeat' (first | exact rfl | ((conv => whnf); first | refine condP_mk (fun h => ?_) (fun h => ?_) | refine Ob.mk ?_ ?_ | refine Both.mk ?_ ?_))
  · refine Back.is ?_
    simp only [Bool.not_eq_true', decide_eq_false_iff_not] at h
    simp only [eqV, eqA, eqC, fstE, if_pos h]
  simp only [Bool.not_eq_false', decide_eq_true_eq] at h
  have h1 := h
  clear h
  have hst : InI (F.st - 1) := by unfold InI; omega
  (conv => whnf)
  refine callF (check1_c F F.start hst) [0, 1, 2] Try.call97 rfl (by simp [eqLs, eqL, eqO, eqC, eqCs, rn, renOf, look_cons, look, EK.cast]) (by simp [appN, ptrs, eqVL, eqV, eqA, eqC, rn, renOf, look_cons, look]) (by simp [appN, ptrs, SV.lt, SA.lt, SC.lt]) ?_
  rintro _ _ ⟨rfl, rfl⟩
  repeat' (first | exact rfl | ((conv => whnf); first | refine condP_mk (fun h => ?_) (fun h => ?_) | refine Ob.mk ?_ ?_ | refine Both.mk ?_ ?_))
  · refine Back.is ?_
    simp only [Bool.not_eq_true', decide_eq_false_iff_not] at h
    simp only [eqV, eqA, eqC, fstE, if_neg (not_not_intro h1), if_pos h]
  · refine Back.is ?_
    rename_i h2
    simp only [Bool.not_eq_false', decide_eq_true_eq, bne_iff_ne] at h h2
    simp only [eqV, eqA, eqC, fstE, if_neg (not_not_intro h1), if_neg (not_not_intro h2), if_pos h]
  rename_i h2
  simp only [Bool.not_eq_false', decide_eq_true_eq, bne_eq_false_iff_eq] at h h2
  have h3 := h
  clear h
  (conv => whnf)
  refine callI (containsFunc_c F.fin F.capF hl 99 (fun a => !decide (-1 ≤ a ∧ a ≤ 1000000000)) check2_c Try.call99) [0] Try.call57 rfl (by simp [eqLs, eqL, eqO, eqC, eqCs, rn, renOf, look_cons, look, EK.cast]) (by simp [appN, ptrs, eqVL, eqV, eqA, eqC, eqCaps, rn, renOf, look_cons, look]) (by simp [appN, ptrs, SV.lt, SA.lt, SC.lt]) ?_
  have hany : (F.fin.any fun a => !decide (-1 ≤ a ∧ a ≤ 1000000000)) = true ↔ ¬ ∀ n ∈ F.fin, -1 ≤ n ∧ n ≤ 1000000000 := by
    rw [List.any_eq_true]
    constructor
    · rintro ⟨x, hx, h⟩ H
      rw [decide_eq_true (H x hx)] at h
      cases h
    · intro H
      refine Classical.byContradiction fun hc => H fun n hn => Classical.byContradiction fun hnn => hc ⟨n, hn, ?_⟩
      rw [decide_eq_false hnn]; rfl
  repeat' (first | exact rfl | ((conv => whnf); first | refine condP_mk (fun h => ?_) (fun h => ?_) | refine Ob.mk ?_ ?_ | refine Both.mk ?_ ?_))
  · refine Back.is ?_
    rw [hany] at h
    simp only [eqV, eqA, eqC, fstE, if_neg (not_not_intro h1), if_neg (not_not_intro h2), if_neg (not_not_intro h3), if_pos h]
  · refine Back.is ?_
    rename_i hk2
    have hk2 : ∀ n ∈ F.fin, -1 ≤ n ∧ n ≤ 1000000000 := Classical.not_not.1 fun hc => by rw [hany.2 hc] at hk2; cases hk2
    simp only [decide_eq_true_eq] at h
    simp only [eqV, eqA, eqC, fstE, if_neg (not_not_intro h1), if_neg (not_not_intro h2), if_neg (not_not_intro h3), if_neg (not_not_intro hk2), if_pos (show 3000 < F.arcs.length by omega)]
  rename_i hk2
  have hk2 : ∀ n ∈ F.fin, -1 ≤ n ∧ n ≤ 1000000000 := Classical.not_not.1 fun hc => by rw [hany.2 hc] at hk2; cases hk2
  simp only [decide_eq_false_iff_not] at h
  have h5 : F.arcs.length ≤ 3000 := by omega
  have h4 : fstE F = arcsE F.st none F.arcs := by
    simp only [fstE, if_neg (not_not_intro h1), if_neg (not_not_intro h2), if_neg (not_not_intro h3), if_neg (not_not_intro hk2), if_neg (show ¬ 3000 < F.arcs.length by omega)]
  clear hk2 h hany
  (conv => whnf)
  refine loopI (fun k : Nat => ⟨[(1, .c (.ptr 2 0)), (2, .i 0), (3, .c (.fn 97 [(2, 0)])), (35, .c (.sl 1 5 0 F.arcs.length F.capA)), (36, .i F.arcs.length), (37, .i k)], hpC F, 3⟩) (fun k => k ≤ F.arcs.length ∧ fstE F = arcsE F.st (if k = 0 then none else some (F.arcs.getD (k - 1) EK.arc.dflt)) (F.arcs.drop k)) (fun k => F.arcs.length - k) 0 [] ⟨by rfl, ?_, ?_⟩ (by simp [h4]) ?_
  · simp [eqFr, eqHp, eqV, eqA, eqC, eqO, eqCs, eqAs, look_cons, look, rn, EK.cast, EK.sz, eqCaps]
  · simp [eqFr, eqHp, eqV, eqA, eqC, eqO, eqCs, eqAs, look_cons, look, rn, EK.cast, EK.sz, eqCaps]
  · intro j ⟨hj1, hj2⟩
    repeat' (first | exact rfl | ((conv => whnf); first | refine condP_mk (fun h => ?_) (fun h => ?_) | refine Ob.mk ?_ ?_ | refine Both.mk ?_ ?_))
    · simp only [decide_eq_true_eq] at h; omega
    · simp only [decide_eq_true_eq] at h; omega
    · simp only [decide_eq_true_eq] at h
      have hj : j < F.arcs.length := by omega
      clear h
      (conv => whnf)
      simp only [Nat.zero_add, Int.toNat_natCast]
      have hd : F.arcs.drop j = F.arcs.getD j EK.arc.dflt :: F.arcs.drop (j + 1) := by
        rw [List.drop_eq_getElem_cons hj]; simp [List.getD, hj]
      rw [hd, arcsE_cons] at hj2
      generalize hx : F.arcs.getD j EK.arc.dflt = x at hj2 ⊢
      refine callF (check1_c F x.f hst) [0, 1, 2] Try.call97 rfl (by simp [eqLs, eqL, eqO, eqC, eqCs, rn, renOf, look_cons, look, EK.cast]) (by simp [appN, ptrs, eqVL, eqV, eqA, eqC, rn, renOf, look_cons, look]) (by simp [appN, ptrs, SV.lt, SA.lt, SC.lt]) ?_
      rintro _ _ ⟨rfl, rfl⟩
      repeat' (first | exact rfl | ((conv => whnf); first | refine condP_mk (fun h => ?_) (fun h => ?_) | refine Ob.mk ?_ ?_ | refine Both.mk ?_ ?_))
      · refine Back.is ?_
        simp only [Bool.not_eq_true'] at h
        simp only [eqV, eqA, eqC, hj2, arcOk, h]
        rfl
      simp only [Bool.not_eq_false'] at h
      have a1 := h
      clear h
      (conv => whnf)
      refine callF (check1_c F x.t hst) [0, 1, 2] Try.call97 rfl (by simp [eqLs, eqL, eqO, eqC, eqCs, rn, renOf, look_cons, look, EK.cast]) (by simp [appN, ptrs, eqVL, eqV, eqA, eqC, rn, renOf, look_cons, look]) (by simp [appN, ptrs, SV.lt, SA.lt, SC.lt]) ?_
      rintro _ _ ⟨rfl, rfl⟩
      repeat' (first | exact rfl | ((conv => whnf); first | refine condP_mk (fun h => ?_) (fun h => ?_) | refine Ob.mk ?_ ?_ | refine Both.mk ?_ ?_))
      · refine Back.is ?_
        simp only [Bool.not_eq_true'] at h
        simp only [eqV, eqA, eqC, hj2, arcOk, a1, h]
        rfl
      simp only [Bool.not_eq_false'] at h
      have a2 : arcOk F.st x = true := by simp only [arcOk, a1, h]; rfl
      clear h
      (conv => whnf)
      refine callI (within_c x.i 0 9) [] Try.call98 rfl trivial (by simp [appN, ptrs, eqVL, eqV, eqA, eqC, eqCs, eqAs, eqCaps, EK.sz, rn, renOf, look_cons, look, arcV, fV]) (by simp [appN, ptrs, SV.lt, SA.lt, SC.lt, arcV, fV]) ?_
      repeat' (first | exact rfl | ((conv => whnf); first | refine condP_mk (fun h => ?_) (fun h => ?_) | refine Ob.mk ?_ ?_ | refine Both.mk ?_ ?_))
      · refine Back.is ?_
        simp only [Bool.not_eq_true'] at h
        simp only [eqV, eqA, eqC, hj2, a2, arcIn, h]
        rfl
      simp only [Bool.not_eq_false'] at h
      have a3 := h
      clear h
      (conv => whnf)
      refine callI (within_c x.o 0 9) [] Try.call98 rfl trivial (by simp [appN, ptrs, eqVL, eqV, eqA, eqC, eqCs, eqAs, eqCaps, EK.sz, rn, renOf, look_cons, look, arcV, fV]) (by simp [appN, ptrs, SV.lt, SA.lt, SC.lt, arcV, fV]) ?_
      repeat' (first | exact rfl | ((conv => whnf); first | refine condP_mk (fun h => ?_) (fun h => ?_) | refine Ob.mk ?_ ?_ | refine Both.mk ?_ ?_))
      · refine Back.is ?_
        simp only [Bool.not_eq_true'] at h
        simp only [eqV, eqA, eqC, hj2, a2, arcIn, a3, h]
        rfl
      simp only [Bool.not_eq_false'] at h
      have a4 := h
      clear h
      (conv => whnf)
      refine callI (within_c x.w 0 1000000000) [] Try.call98 rfl trivial (by simp [appN, ptrs, eqVL, eqV, eqA, eqC, eqCs, eqAs, eqCaps, EK.sz, rn, renOf, look_cons, look, arcV, fV]) (by simp [appN, ptrs, SV.lt, SA.lt, SC.lt, arcV, fV]) ?_
      repeat' (first | exact rfl | ((conv => whnf); first | refine condP_mk (fun h => ?_) (fun h => ?_) | refine Ob.mk ?_ ?_ | refine Both.mk ?_ ?_))
      · refine Back.is ?_
        simp only [Bool.not_eq_true'] at h
        simp only [eqV, eqA, eqC, hj2, a2, arcIn, a3, a4, h]
        rfl
      simp only [Bool.not_eq_false'] at h
      have a5 : arcIn x = true := by simp only [arcIn, a3, a4, h]; rfl
      clear h
      (conv => whnf)
      refine draw_of Try.mixed Try.tyOk 60 (by kernel_rfl) ?_
      repeat' (first | exact rfl | ((conv => whnf); first | refine condP_mk (fun h => ?_) (fun h => ?_) | refine Ob.mk ?_ ?_ | refine Both.mk ?_ ?_))
      · unfold InI; omega
      · simp only [decide_eq_true_eq, gt_iff_lt] at h; omega
      · simp only [decide_eq_true_eq, gt_iff_lt] at h; omega
      · simp only [decide_eq_true_eq, gt_iff_lt] at h
        have hj0 : j ≠ 0 := by omega
        clear h
        have e : 0 + ((j : Int) - 1).toNat = j - 1 := by omega
        (conv => whnf)
        simp only [e, Nat.zero_add, Int.toNat_natCast]
        simp only [if_neg hj0] at hj2
        generalize hy : F.arcs.getD (j - 1) EK.arc.dflt = y at hj2 ⊢
        refine callI (order_c y x) [] Try.call100 rfl trivial (by simp [appN, ptrs, eqVL, eqV, eqA, eqC, eqCs, eqAs, eqCaps, EK.sz, rn, renOf, look_cons, look, arcV, fV]) (by simp [appN, ptrs, SV.lt, SA.lt, SC.lt, arcV, fV]) ?_
        repeat' (first | exact rfl | ((conv => whnf); first | refine condP_mk (fun h => ?_) (fun h => ?_) | refine Ob.mk ?_ ?_ | refine Both.mk ?_ ?_))
        · refine Back.is ?_
          rw [orderI_ahead] at h
          simp only [eqV, eqA, eqC, hj2, a2, a5, h]
          rfl
        · unfold InI; omega
        · rw [orderI_ahead] at h
          simp only [Bool.not_eq_false'] at h
          (conv => whnf)
          refine ⟨j + 1, [], ⟨by rfl, ?_, ?_⟩, ⟨hj, ?_⟩, by omega⟩
          · simp [eqFr, eqHp, eqV, eqA, eqC, eqO, eqCs, eqAs, look_cons, look, rn, EK.cast, EK.sz, eqCaps]
          · simp [eqFr, eqHp, eqV, eqA, eqC, eqO, eqCs, eqAs, look_cons, look, rn, EK.cast, EK.sz, eqCaps]
          · simp only [a2, a5, h, Bool.not_true, Bool.false_eq_true, if_false] at hj2
            rw [if_neg (Nat.succ_ne_zero j), Nat.add_sub_cancel, hx]
            exact hj2
      · unfold InI; omega
      · simp only [decide_eq_false_iff_not, gt_iff_lt] at h
        have hj0 : j = 0 := by omega
        simp only [if_pos hj0] at hj2
        (conv => whnf)
        refine ⟨j + 1, [], ⟨by rfl, ?_, ?_⟩, ⟨hj, ?_⟩, by omega⟩
        · simp [eqFr, eqHp, eqV, eqA, eqC, eqO, eqCs, eqAs, look_cons, look, rn, EK.cast, EK.sz, eqCaps]
        · simp [eqFr, eqHp, eqV, eqA, eqC, eqO, eqCs, eqAs, look_cons, look, rn, EK.cast, EK.sz, eqCaps]
        · simp only [a2, a5, Bool.not_true, Bool.false_eq_true, if_false] at hj2
          rw [if_neg (Nat.succ_ne_zero j), Nat.add_sub_cancel, hx]
          exact hj2
    · refine Back.is ?_
      simp only [decide_eq_false_iff_not] at h
      rw [List.drop_eq_nil_of_le (by omega), arcsE_nil] at hj2
      simp only [eqV, eqA, eqC, hj2]
end Go.Fw

namespace Go.Fw
open Go Go.Proofs

/-- The answer: a slice of its own, numbered m. -/
def Sl (m E : Nat) (k : EK) (xs : List k.ty) (v : SV) (s : S) : Prop := ∃ sp, v = .c (.sl m k.sz 0 xs.length (xs.length + sp)) ∧ s = ⟨[], [(m, .arr true E k xs sp)], m + 1⟩

end Go.Fw

namespace Go.Fw
open Go Go.Proofs

end Go.Fw

namespace Go.Fw
open Go Go.Proofs

end Go.Fw

namespace Go.Fw
open Go Go.Proofs

theorem clone_c (l : List Int) (cap : Nat) (hl : l.length ≤ 1000000) : Ct Try.prog 104 [.c (.sl 0 1 0 l.length cap)] [] [(0, .arr false 3 .int l 0)] 1 (Sl 1 3 .int l) := by
  refine ctW Try.tyOk 3 [] Try.func104 rfl (by simp [SV.lt, SA.lt, SC.lt, arcV, fV]) (by simp) (fr := [(0, .c (.sl 0 1 0 l.length cap))]) rfl ?_
  (conv => whnf)
  intro c hc
  repeat' (first | exact rfl | ((conv => whnf); first | refine condP_mk (fun h => ?_) (fun h => ?_) | refine Ob.mk ?_ ?_ | refine Both.mk ?_ ?_))
  · (conv => whnf)
    have hl0 := hc h
    subst hl0
    exact ⟨[(1, none)], [(1, .arr true 3 .int [] 0)], 2, .c (.sl 1 1 0 0 0), ⟨by rfl, trivial, by simp [eqHp, rn, look, nilO]⟩, by simp [eqV, eqA, eqC, rn, look], ⟨0, rfl, rfl⟩⟩
  · simp
  · simp
  · omega
  · intro sp
    (conv => whnf)
    exact ⟨[(1, some 2)], [(1, .arr true 3 .int l sp)], 2, .c (.sl 1 1 0 l.length (l.length + sp)), ⟨by rfl, trivial, by simp [eqFr, eqHp, eqV, eqA, eqC, eqO, eqCs, eqAs, look_cons, look, rn, EK.cast, EK.sz, eqCaps]; exact (app_nil _ _ rfl).symm⟩, by simp [eqV, eqA, eqC, rn, look, EK.sz], ⟨sp, rfl, rfl⟩⟩

end Go.Fw

namespace Go.Fw
open Go Go.Proofs

def oneV (i j : Nat) : SV := .a (.agg [.i 2, .i 0, .sl i 1 0 2 2, .sl j 5 0 1 1])

theorem one_c : Ct Try.prog 55 [] [] [] 0 (fun v s => v = oneV 0 1 ∧ s = ⟨[], [(0, .arr true 3 .int [-1, 1] 0), (1, .arr true 47 .arc [⟨0, 1, 2, 1, 5⟩] 0)], 2⟩) := by
  refine ctW Try.tyOk 1 [] Try.func55 rfl (by simp) (by simp) (fr := []) rfl ?_
  repeat' (first | exact rfl | ((conv => whnf); first | refine condP_mk (fun h => ?_) (fun h => ?_) | refine Ob.mk ?_ ?_ | refine Both.mk ?_ ?_))
  (conv => whnf)
  exact ⟨[(0, some 1), (1, some 2)], [(0, .arr true 3 .int [-1, 1] 0), (1, .arr true 47 .arc [⟨0, 1, 2, 1, 5⟩] 0)], 2, oneV 0 1, ⟨by rfl, trivial, by simp [eqFr, eqHp, eqV, eqA, eqC, eqO, eqCs, eqAs, look_cons, look, rn, EK.cast, EK.sz, eqCaps]⟩, by simp [oneV, eqV, eqA, eqC, eqCs, rn, look, EK.sz], rfl, rfl⟩

/-- A transducer's two slices, wherever. -/
abbrev hpO (F : TF) (oa ob : Bool) (sa sb : Nat) : List (Nat × SO) := [(0, .arr oa 3 .int F.fin sa), (1, .arr ob 47 .arc F.arcs sb)]

end Go.Fw

namespace Go.Fw
open Go Go.Proofs

def gV (F : TF) : SV := .a (.agg [.i F.st, .i F.start, .sl 2 1 0 F.fin.length F.capF, .sl 3 5 0 F.arcs.length F.capA])
abbrev hpG (F G : TF) : List (Nat × SO) := [(0, .arr false 3 .int F.fin 0), (1, .arr false 47 .arc F.arcs 0), (2, .arr false 3 .int G.fin 0), (3, .arr false 47 .arc G.arcs 0)]

end Go.Fw

namespace Go.Fw
open Go Go.Proofs

end Go.Fw

/-
  Shortest ways, in the plain: going over all arcs again and again, and settling one state after the other, come to the same.
-/
namespace Go.Fw
open Go

/-- a is no worse than b (-1: none). -/
def Le (a b : Int) : Prop := b ≠ -1 → a ≠ -1 ∧ a ≤ b
theorem Le.refl (a : Int) : Le a a := fun h => ⟨h, Int.le_refl _⟩
theorem Le.trans {a b c : Int} (h : Le a b) (h' : Le b c) : Le a c := fun hc => by
  have h1 := h' hc
  have h2 := h h1.1
  exact ⟨h2.1, Int.le_trans h2.2 h1.2⟩

/-- A way of k arcs to a state, and what it costs. -/
inductive RN (l : List Arc) (c0 : List Int) : Nat → Nat → Int → Prop
  | base {v : Nat} (h : v < c0.length) (hc : c0.getD v 0 ≠ -1) : RN l c0 0 v (c0.getD v 0)
  | step {k : Nat} {a : Arc} {c : Int} (h : RN l c0 k a.f.toNat c) (ha : a ∈ l) : RN l c0 (k + 1) a.t.toNat (c + a.w)

theorem getD_set {α : Type} (c : List α) (i v : Nat) (x d : α) : (c.set i x).getD v d = if i = v ∧ v < c.length then x else c.getD v d := by
  by_cases h : i = v
  · subst h
    by_cases h2 : i < c.length
    · simp [List.getD, h2]
    · simp [List.getD, h2]
  · simp [List.getD, List.getElem?_set_ne h, h]

theorem RN.lt {l : List Arc} {st : Int} {c0 : List Int} (hl : ∀ a ∈ l, ArcOk st a) (hn : (c0.length : Int) = st) {k v : Nat} {c : Int} (h : RN l c0 k v c) : v < c0.length := by
  cases h with
  | base h _ => exact h
  | step h ha => have h1 := (hl _ ha).t0; have h2 := (hl _ ha).t1; omega

theorem RN.pos {l : List Arc} {st : Int} {c0 : List Int} (hl : ∀ a ∈ l, ArcOk st a) (h0 : ∀ v ∈ c0, -1 ≤ v) {k v : Nat} {c : Int} (h : RN l c0 k v c) : 0 ≤ c := by
  induction h with
  | base h hc => have := h0 _ (getD_mem c0 _ 0 h); omega
  | step h ha ih => have h1 := (hl _ ha).w0; omega

/-! ### Over and over -/
structure RlxS (c c' : List Int) (a : Arc) : Prop where
  len : c'.length = c.length
  le : ∀ v, Le (c'.getD v 0) (c.getD v 0)
  to : c.getD a.f.toNat 0 ≠ -1 → Le (c'.getD a.t.toNat 0) (c.getD a.f.toNat 0 + a.w)
  eq : ∀ v, c'.getD v 0 = c.getD v 0 ∨ (v = a.t.toNat ∧ c.getD a.f.toNat 0 ≠ -1 ∧ c'.getD v 0 = c.getD a.f.toNat 0 + a.w)

theorem relax_spec {st : Int} {c : List Int} {B : Int} (hb : Bd st B c) {a : Arc} (ha : ArcOk st a) : RlxS c (relax c a) a := by
  have h1 := hb.at ha.t0 ha.t1
  have h2 := hb.at ha.f0 ha.f1
  have h3 := ha.w0
  have hlen := hb.len
  have hlt : a.t.toNat < c.length := by have := ha.t0; have := ha.t1; omega
  have key : (less (c.getD a.t.toNat 0) (plus (c.getD a.f.toNat 0) a.w) = c.getD a.t.toNat 0 ∧ (c.getD a.f.toNat 0 ≠ -1 → Le (c.getD a.t.toNat 0) (c.getD a.f.toNat 0 + a.w))) ∨
      (c.getD a.f.toNat 0 ≠ -1 ∧ less (c.getD a.t.toNat 0) (plus (c.getD a.f.toNat 0) a.w) = c.getD a.f.toNat 0 + a.w ∧ Le (c.getD a.f.toNat 0 + a.w) (c.getD a.t.toNat 0)) := by
    generalize c.getD a.t.toNat 0 = t at *
    generalize c.getD a.f.toNat 0 = f at *
    unfold less plus Le
    by_cases hf : f < 0
    · left
      have : f < 0 ∨ a.w < 0 := .inl hf
      simp only [if_pos this]
      refine ⟨?_, fun h => by omega⟩
      split
      · omega
      · simp
    · have : ¬ (f < 0 ∨ a.w < 0) := by omega
      simp only [if_neg this]
      by_cases ht : t < 0
      · right
        rw [if_pos ht]
        exact ⟨by omega, rfl, fun h => by omega⟩
      · rw [if_neg ht]
        by_cases hlt : f + a.w < 0 ∨ t < f + a.w
        · left
          rw [if_pos hlt]
          exact ⟨rfl, fun _ _ => by omega⟩
        · right
          rw [if_neg hlt]
          exact ⟨by omega, rfl, fun h => by omega⟩
  have hg : ∀ v, (relax c a).getD v 0 = if a.t.toNat = v ∧ v < c.length then less (c.getD a.t.toNat 0) (plus (c.getD a.f.toNat 0) a.w) else c.getD v 0 := fun v => getD_set _ _ _ _ _
  refine ⟨by simp [relax], fun v => ?_, fun hf => ?_, fun v => ?_⟩
  · rw [hg]
    split
    · rename_i h
      obtain ⟨rfl, _⟩ := h
      rcases key with ⟨e, _⟩ | ⟨_, e, h⟩
      · rw [e]; exact Le.refl _
      · rw [e]; exact h
    · exact Le.refl _
  · rw [hg, if_pos ⟨rfl, hlt⟩]
    rcases key with ⟨e, h⟩ | ⟨_, e, h⟩
    · rw [e]; exact h hf
    · rw [e]; exact Le.refl _
  · rw [hg]
    split
    · rename_i h
      obtain ⟨rfl, _⟩ := h
      rcases key with ⟨e, _⟩ | ⟨h1, e, _⟩
      · exact .inl e
      · exact .inr ⟨rfl, h1, e⟩
    · exact .inl rfl

structure FoldS (l : List Arc) (c c' : List Int) : Prop where
  len : c'.length = c.length
  le : ∀ v, Le (c'.getD v 0) (c.getD v 0)
  to : ∀ a ∈ l, c.getD a.f.toNat 0 ≠ -1 → Le (c'.getD a.t.toNat 0) (c.getD a.f.toNat 0 + a.w)

theorem fold_spec {st : Int} : ∀ (l : List Arc) {c : List Int} {B : Int}, Bd st B c → 0 ≤ B → (∀ a ∈ l, ArcOk st a) → FoldS l c (roundF l c)
  | [], c, B, hb, _, _ => ⟨rfl, fun v => Le.refl _, fun a h => by cases h⟩
  | a :: l, c, B, hb, hB, hl => by
    have ha := hl a (by simp)
    have h1 := relax_spec hb ha
    have h2 := fold_spec l (hb.rlx hB ha) (by omega) (fun x hx => hl x (by simp [hx]))
    have e : roundF (a :: l) c = roundF l (relax c a) := rfl
    rw [e]
    refine ⟨h2.len.trans h1.len, fun v => (h2.le v).trans (h1.le v), ?_⟩
    intro b hb' hf
    rcases List.mem_cons.1 hb' with rfl | hb'
    · exact (h2.le _).trans (h1.to hf)
    · have h3 := h1.le b.f.toNat hf
      have h4 := h2.to b hb' h3.1
      intro hne
      have hw := (hl b (by simp [hb'])).w0
      have h5 := hb.at (hl b (by simp [hb'])).f0 (hl b (by simp [hb'])).f1
      have h6 := (hb.rlx hB ha).at (hl b (by simp [hb'])).f0 (hl b (by simp [hb'])).f1
      have h7 := h4 (by omega)
      exact ⟨h7.1, by omega⟩

theorem fold_reach {st : Int} {L : List Arc} {c0 : List Int} : ∀ (l : List Arc) {c : List Int} {B : Int}, Bd st B c → 0 ≤ B → (∀ a ∈ l, ArcOk st a) → (∀ a ∈ l, a ∈ L) →
    (∀ v, v < c.length → c.getD v 0 ≠ -1 → ∃ k, RN L c0 k v (c.getD v 0)) → ∀ v, v < (roundF l c).length → (roundF l c).getD v 0 ≠ -1 → ∃ k, RN L c0 k v ((roundF l c).getD v 0)
  | [], c, B, hb, _, _, _, h => h
  | a :: l, c, B, hb, hB, hl, hL, h => by
    have ha := hl a (by simp)
    have h1 := relax_spec hb ha
    have e : roundF (a :: l) c = roundF l (relax c a) := rfl
    rw [e]
    refine fold_reach l (hb.rlx hB ha) (by omega) (fun x hx => hl x (by simp [hx])) (fun x hx => hL x (by simp [hx])) ?_
    intro v hv hne
    rcases h1.eq v with e1 | ⟨rfl, e1, e2⟩
    · rw [e1] at hne ⊢
      exact h v (by rw [h1.len] at hv; exact hv) hne
    · rw [e2]
      have hf : a.f.toNat < c.length := by have := ha.f0; have := ha.f1; have := hb.len; omega
      obtain ⟨k, hk⟩ := h _ hf e1
      exact ⟨k + 1, .step hk (hL a (by simp))⟩

/-- What is known of going over all arcs r times. -/
theorem bf_spec {st : Int} {l : List Arc} {c0 : List Int} {B : Int} (hb : Bd st B c0) (hB : 0 ≤ B) (hl : ∀ a ∈ l, ArcOk st a) : ∀ r : Nat,
    (∃ B', 0 ≤ B' ∧ Bd st B' (iterN (roundF l) r c0)) ∧ (∀ v, v < c0.length → (iterN (roundF l) r c0).getD v 0 ≠ -1 → ∃ k, RN l c0 k v ((iterN (roundF l) r c0).getD v 0)) ∧
      ∀ k v c, RN l c0 k v c → k ≤ r → Le ((iterN (roundF l) r c0).getD v 0) c
  | 0 => by
    refine ⟨⟨B, hB, hb⟩, fun v hv hc => ⟨0, .base hv hc⟩, ?_⟩
    intro k v c h hk
    cases h with
    | base h hc => exact Le.refl _
    | step h ha => omega
  | r + 1 => by
    obtain ⟨⟨B', hB', hb'⟩, h1, h2⟩ := bf_spec hb hB hl r
    have hlen : (iterN (roundF l) r c0).length = c0.length := by have := hb'.len; have := hb.len; omega
    have hf := fold_spec l hb' hB' hl
    have e : iterN (roundF l) (r + 1) c0 = roundF l (iterN (roundF l) r c0) := rfl
    rw [e]
    refine ⟨⟨_, by omega, Bd.fold l hb' hB' hl⟩, ?_, ?_⟩
    · intro v hv
      exact fold_reach l hb' hB' hl (fun _ h => h) (fun v hv => h1 v (by omega)) v (by rw [hf.len]; omega)
    · intro k v c h hk
      have hpos : ∀ v ∈ c0, -1 ≤ v := fun v hv => (hb.bd v hv).1
      cases h with
      | base h hc => exact (hf.le _).trans (h2 _ _ _ (.base h hc) (by omega))
      | step h ha =>
        rename_i k a c
        have h3 := h2 _ _ _ h (by omega)
        have hc := h.pos hl hpos
        have h4 := h3 (by omega)
        have h5 := hf.to a ha h4.1
        intro _
        have hw := (hl a ha).w0
        have h6 := hb'.at (hl a ha).f0 (hl a ha).f1
        have h7 := h5 (by omega)
        exact ⟨h7.1, by omega⟩

/-- The costs, told by what they are. -/
structure Sol (l : List Arc) (c0 D : List Int) : Prop where
  len : D.length = c0.length
  s1 : ∀ v, v < c0.length → Le (D.getD v 0) (c0.getD v 0)
  s2 : ∀ a ∈ l, D.getD a.f.toNat 0 ≠ -1 → Le (D.getD a.t.toNat 0) (D.getD a.f.toNat 0 + a.w)
  s3 : ∀ v, v < c0.length → D.getD v 0 ≠ -1 → ∃ k, k ≤ c0.length ∧ RN l c0 k v (D.getD v 0)

theorem Sol.le {st : Int} {l : List Arc} {c0 D : List Int} (h : Sol l c0 D) (hl : ∀ a ∈ l, ArcOk st a) (hn : (c0.length : Int) = st) (h0 : ∀ v ∈ c0, -1 ≤ v) (hD : ∀ v, v < c0.length → -1 ≤ D.getD v 0) {k v : Nat} {c : Int} (hr : RN l c0 k v c) : Le (D.getD v 0) c := by
  induction hr with
  | base hv hc => exact h.s1 _ hv
  | step hr ha ih =>
    rename_i k a c
    have hc := hr.pos hl h0
    have h1 := ih (by omega)
    have h2 := h.s2 a ha h1.1
    intro _
    have hw := (hl a ha).w0
    have h3 := hD a.f.toNat (hr.lt hl hn)
    have h4 := h2 (by omega)
    exact ⟨h4.1, by omega⟩

theorem RN.perm {l l' : List Arc} {c0 : List Int} (h : ∀ a ∈ l, a ∈ l') {k v : Nat} {c : Int} (hr : RN l c0 k v c) : RN l' c0 k v c := by
  induction hr with
  | base hv hc => exact .base hv hc
  | step hr ha ih => exact .step ih (h _ ha)

/-- A solution is what going over and over comes to, whatever the arcs' order. -/
theorem Sol.eq {st : Int} {l l' : List Arc} {c0 D : List Int} {B : Int} (h : Sol l c0 D) (hb : Bd st B c0) (hB : 0 ≤ B) (hl : ∀ a ∈ l, ArcOk st a) (hll : ∀ a, a ∈ l ↔ a ∈ l') : D = iterN (roundF l') c0.length c0 := by
  have hl' : ∀ a ∈ l', ArcOk st a := fun a ha => hl a ((hll a).2 ha)
  obtain ⟨⟨B', hB', hb'⟩, h1, h2⟩ := bf_spec hb hB hl' c0.length
  have h0 : ∀ v ∈ c0, -1 ≤ v := fun v hv => (hb.bd v hv).1
  have hlen : (iterN (roundF l') c0.length c0).length = c0.length := by have := hb'.len; have := hb.len; omega
  have hD : ∀ v, v < c0.length → -1 ≤ D.getD v 0 := by
    intro v hv
    by_cases e : D.getD v 0 = -1
    · omega
    · obtain ⟨k, _, hk⟩ := h.s3 v hv e
      have := hk.pos hl h0; omega
  refine List.ext_getElem (h.len.trans hlen.symm) fun v hv hv' => ?_
  have hv0 : v < c0.length := by rw [h.len] at hv; exact hv
  have e1 : D[v] = D.getD v 0 := by simp [List.getD, hv]
  have e2 : (iterN (roundF l') c0.length c0)[v] = (iterN (roundF l') c0.length c0).getD v 0 := by simp [List.getD, hv']
  rw [e1, e2]
  by_cases c1 : D.getD v 0 = -1
  · by_cases c2 : (iterN (roundF l') c0.length c0).getD v 0 = -1
    · rw [c1, c2]
    · obtain ⟨k, hk⟩ := h1 v hv0 c2
      have := h.le hl hb.len h0 hD (hk.perm fun a ha => (hll a).2 ha) c2
      exact absurd c1 this.1
  · obtain ⟨k, hk, hr⟩ := h.s3 v hv0 c1
    have h3 := h2 k v _ (hr.perm fun a ha => (hll a).1 ha) hk c1
    obtain ⟨k', hk'⟩ := h1 v hv0 h3.1
    have h4 := h.le hl hb.len h0 hD (hk'.perm fun a ha => (hll a).2 ha) h3.1
    omega

end Go.Fw

/-
  Settling one state after the other, in the plain.
-/
namespace Go.Fw
open Go

/-- The first of the best that are not done among the first k; -1: none. -/
def pick (c : List Int) (d : List Bool) : Nat → Int
  | 0 => -1
  | k + 1 => if d.getD k false = false ∧ c.getD k 0 ≠ -1 ∧ (pick c d k < 0 ∨ c.getD k 0 < c.getD (pick c d k).toNat 0) then (k : Int) else pick c d k

def setlS (u : Int) (r : List Int × List Int) (p : Arc × Nat) : List Int × List Int :=
  if p.1.f = u ∧ better (r.1.getD u.toNat 0 + p.1.w) (r.1.getD p.1.t.toNat 0) = true then (r.1.set p.1.t.toNat (r.1.getD u.toNat 0 + p.1.w), r.2.set p.1.t.toNat (p.2 : Int)) else r

def setlR (l : List (Arc × Nat)) (u : Int) (r : List Int × List Int) : List Int × List Int := l.foldl (setlS u) r

def setl (l : List (Arc × Nat)) : Nat → List Int → List Int → List Bool → List Int × List Int
  | 0, c, b, _ => (c, b)
  | k + 1, c, b, d => if pick c d c.length < 0 then (c, b) else
    let r := setlR l (pick c d c.length) (c, b)
    setl l k r.1 r.2 (d.set (pick c d c.length).toNat true)

/-- What the program's settle comes to. -/
def settled (l : List Arc) (n : Nat) (c : List Int) : List Int × List Int := setl l.zipIdx (n + 1) c (List.replicate n (-1)) (List.replicate n false)

theorem pick_spec (c : List Int) (d : List Bool) : ∀ k : Nat, k ≤ c.length → (pick c d k < 0 ∧ ∀ v, v < k → d.getD v false = false → c.getD v 0 = -1) ∨
    (0 ≤ pick c d k ∧ (pick c d k).toNat < k ∧ d.getD (pick c d k).toNat false = false ∧ c.getD (pick c d k).toNat 0 ≠ -1 ∧ ∀ v, v < k → d.getD v false = false → c.getD v 0 ≠ -1 → c.getD (pick c d k).toNat 0 ≤ c.getD v 0)
  | 0, _ => .inl ⟨by simp [pick], fun v h => by omega⟩
  | k + 1, hk => by
    have ih := pick_spec c d k (by omega)
    simp only [pick]
    by_cases h : d.getD k false = false ∧ c.getD k 0 ≠ -1 ∧ (pick c d k < 0 ∨ c.getD k 0 < c.getD (pick c d k).toNat 0)
    · rw [if_pos h]
      right
      refine ⟨by omega, by simp, by simpa using h.1, by simpa using h.2.1, ?_⟩
      intro v hv hd hc
      simp only [Int.toNat_natCast]
      by_cases e : v = k
      · subst e; omega
      · rcases ih with ⟨_, h1⟩ | ⟨h0, _, _, _, h1⟩
        · exact absurd (h1 v (by omega) hd) hc
        · have := h1 v (by omega) hd hc
          rcases h.2.2 with h2 | h2
          · omega
          · omega
    · rw [if_neg h]
      rcases ih with ⟨h0, h1⟩ | ⟨h0, h1, h2, h3, h4⟩
      · left
        refine ⟨h0, fun v hv hd => ?_⟩
        by_cases e : v = k
        · subst e
          exact Classical.byContradiction fun hc => h ⟨hd, hc, .inl h0⟩
        · exact h1 v (by omega) hd
      · right
        refine ⟨h0, by omega, h2, h3, fun v hv hd hc => ?_⟩
        by_cases e : v = k
        · subst e
          exact Classical.byContradiction fun hx => h ⟨hd, hc, .inr (by omega)⟩
        · exact h4 v (by omega) hd hc

/-- What holds between two rounds. n: how many are done. -/
structure DI (l : List Arc) (c0 : List Int) (c b : List Int) (d : List Bool) : Prop where
  len : c.length = c0.length
  lenb : b.length = c0.length
  lend : d.length = c0.length
  low : ∀ v, v < c0.length → -1 ≤ c.getD v 0
  s1 : ∀ v, v < c0.length → Le (c.getD v 0) (c0.getD v 0)
  fin : ∀ v, d.getD v false = true → c.getD v 0 ≠ -1
  out : ∀ a ∈ l, d.getD a.f.toNat false = true → Le (c.getD a.t.toNat 0) (c.getD a.f.toNat 0 + a.w)
  rn : ∀ v, v < c0.length → c.getD v 0 ≠ -1 → ∃ k, k ≤ d.count true ∧ RN l c0 k v (c.getD v 0)
  ord : ∀ u v, d.getD u false = true → v < c0.length → d.getD v false = false → c.getD v 0 ≠ -1 → c.getD u 0 ≤ c.getD v 0

/-- Inside a round: u is settled, the arcs of m are gone by. -/
structure DJ (l : List Arc) (c0 c b : List Int) (d : List Bool) (u : Nat) (m : List (Arc × Nat)) (c' b' : List Int) : Prop where
  len : c'.length = c0.length
  lenb : b'.length = c0.length
  at_ : c'.getD u 0 = c.getD u 0
  done : ∀ v, d.getD v false = true → c'.getD v 0 = c.getD v 0
  low : ∀ v, v < c0.length → -1 ≤ c'.getD v 0
  le : ∀ v, Le (c'.getD v 0) (c.getD v 0)
  ge : ∀ v, v < c0.length → d.getD v false = false → c'.getD v 0 ≠ -1 → c.getD u 0 ≤ c'.getD v 0
  out : ∀ p ∈ m, p.1.f.toNat = u → Le (c'.getD p.1.t.toNat 0) (c.getD u 0 + p.1.w)
  rn : ∀ v, v < c0.length → c'.getD v 0 ≠ -1 → ∃ k, k ≤ d.count true + 1 ∧ RN l c0 k v (c'.getD v 0)

theorem DJ.start {l : List Arc} {c0 c b : List Int} {d : List Bool} (h : DI l c0 c b d) {u : Nat} (hu : ∀ v, v < c.length → d.getD v false = false → c.getD v 0 ≠ -1 → c.getD u 0 ≤ c.getD v 0) : DJ l c0 c b d u [] c b where
  len := h.len
  lenb := h.lenb
  at_ := rfl
  done := fun _ _ => rfl
  low := h.low
  le := fun _ => Le.refl _
  ge := fun v hv hd hc => hu v (by rw [h.len]; exact hv) hd hc
  out := fun p hp => by cases hp
  rn := fun v hv hc => by obtain ⟨k, hk, hr⟩ := h.rn v hv hc; exact ⟨k, by omega, hr⟩

theorem better_iff {a b : Int} : better a b = true ↔ a ≠ -1 ∧ (b = -1 ∨ a < b) := by simp [better]

theorem DJ.step {l : List Arc} {st : Int} {c0 c b : List Int} {d : List Bool} {u : Nat} {m : List (Arc × Nat)} {c' b' : List Int} (h : DI l c0 c b d) (hl : ∀ a ∈ l, ArcOk st a) (hn : (c0.length : Int) = st)
    (hul : u < c0.length) (hud : d.getD u false = false) (huc : c.getD u 0 ≠ -1) (hj : DJ l c0 c b d u m c' b') {p : Arc × Nat} (hp : p.1 ∈ l) :
    DJ l c0 c b d u (m ++ [p]) (setlS (u : Int) (c', b') p).1 (setlS (u : Int) (c', b') p).2 := by
  have ha := hl p.1 hp
  have hu0 := h.low u hul
  have w0 := ha.w0
  have htl : p.1.t.toNat < c0.length := by have := ha.t0; have := ha.t1; omega
  have hat := hj.at_
  unfold setlS
  simp only [Int.toNat_natCast]
  by_cases hb : p.1.f = (u : Int) ∧ better (c'.getD u 0 + p.1.w) (c'.getD p.1.t.toNat 0) = true
  · rw [if_pos hb]
    obtain ⟨hf, hb⟩ := hb
    rw [better_iff, hat] at hb
    have htu : p.1.t.toNat ≠ u := by
      intro e
      rw [e, hat] at hb
      omega
    have htd : d.getD p.1.t.toNat false = false := by
      cases hx : d.getD p.1.t.toNat false with
      | false => rfl
      | true =>
        have h1 := h.ord _ u hx hul hud huc
        have h2 := hj.done _ hx
        have h3 := h.fin _ hx
        rw [h2] at hb
        omega
    have hg : ∀ v, (c'.set p.1.t.toNat (c'.getD u 0 + p.1.w)).getD v 0 = if p.1.t.toNat = v ∧ v < c'.length then c.getD u 0 + p.1.w else c'.getD v 0 := fun v => by rw [getD_set, hat]
    refine ⟨by simp [hj.len], by simp [hj.lenb], ?_, ?_, ?_, ?_, ?_, ?_, ?_⟩
    · rw [hg, if_neg (fun hh => htu hh.1)]; exact hat
    · intro v hv
      rw [hg, if_neg (fun hh => by rw [← hh.1, htd] at hv; cases hv)]
      exact hj.done v hv
    · intro v hv
      rw [hg]
      split
      · omega
      · exact hj.low v hv
    · intro v
      rw [hg]
      split
      · rename_i hh
        obtain ⟨rfl, _⟩ := hh
        intro hne
        have := hj.le _ hne
        exact ⟨hb.1, by rcases hb.2 with h1 | h1 <;> omega⟩
      · exact hj.le v
    · intro v hv hd hc
      rw [hg] at hc ⊢
      split
      · omega
      · rename_i hh
        rw [if_neg hh] at hc
        exact hj.ge v hv hd hc
    · intro q hq hqf
      rw [hg]
      rcases List.mem_append.1 hq with hq | hq
      · split
        · rename_i hh
          have h1 := hj.out q hq hqf
          intro hne
          have h2 := h1 hne
          rw [← hh.1] at h2
          exact ⟨hb.1, by rcases hb.2 with h3 | h3 <;> omega⟩
        · exact hj.out q hq hqf
      · rw [List.mem_singleton] at hq
        subst hq
        rw [if_pos ⟨rfl, by rw [hj.len]; exact htl⟩]
        exact Le.refl _
    · intro v hv hc
      rw [hg] at hc ⊢
      split
      · rename_i hh
        obtain ⟨rfl, _⟩ := hh
        obtain ⟨k, hk, hr⟩ := h.rn u hul huc
        have hfu : p.1.f.toNat = u := by omega
        exact ⟨k + 1, by omega, .step (hfu ▸ hr) hp⟩
      · rename_i hh
        rw [if_neg hh] at hc
        exact hj.rn v hv hc
  · rw [if_neg hb]
    refine ⟨hj.len, hj.lenb, hj.at_, hj.done, hj.low, hj.le, hj.ge, ?_, hj.rn⟩
    intro q hq hqf
    rcases List.mem_append.1 hq with hq | hq
    · exact hj.out q hq hqf
    · rw [List.mem_singleton] at hq
      subst hq
      have hf : q.1.f = (u : Int) := by have := ha.f0; omega
      have h1 : ¬ better (c'.getD u 0 + q.1.w) (c'.getD q.1.t.toNat 0) = true := fun hx => hb ⟨hf, hx⟩
      rw [better_iff, hat] at h1
      intro hne
      have h2 := hj.low _ htl
      show c'.getD q.1.t.toNat 0 ≠ -1 ∧ c'.getD q.1.t.toNat 0 ≤ c.getD u 0 + q.1.w
      omega

theorem DJ.fold {l : List Arc} {st : Int} {c0 c b : List Int} {d : List Bool} {u : Nat} (h : DI l c0 c b d) (hl : ∀ a ∈ l, ArcOk st a) (hn : (c0.length : Int) = st) (hul : u < c0.length) (hud : d.getD u false = false) (huc : c.getD u 0 ≠ -1) :
    ∀ (r m : List (Arc × Nat)) (c' b' : List Int), (∀ p ∈ r, p.1 ∈ l) → DJ l c0 c b d u m c' b' → DJ l c0 c b d u (m ++ r) (setlR r (u : Int) (c', b')).1 (setlR r (u : Int) (c', b')).2
  | [], m, c', b', _, hj => by simpa [setlR] using hj
  | p :: r, m, c', b', hr, hj => by
    have h1 := hj.step h hl hn hul hud huc (hr p (by simp))
    have h2 := DJ.fold h hl hn hul hud huc r _ _ _ (fun q hq => hr q (by simp [hq])) h1
    have e : m ++ p :: r = m ++ [p] ++ r := by simp
    rw [e]
    exact h2

theorem count_set : ∀ (d : List Bool) (u : Nat), u < d.length → d.getD u false = false → (d.set u true).count true = d.count true + 1 ∧ d.count true < d.length
  | [], u, h, _ => by simp at h
  | x :: d, 0, _, h => by
    simp only [List.getD_cons_zero] at h
    subst h
    simp only [List.set_cons_zero, List.count_cons, beq_self_eq_true, if_true, List.length_cons]
    have := List.count_le_length (a := true) (l := d)
    simp; omega
  | x :: d, u + 1, hl, h => by
    simp only [List.getD_cons_succ] at h
    have ih := count_set d u (by simpa using hl) h
    simp only [List.set_cons_succ, List.count_cons, List.length_cons]
    refine ⟨by omega, ?_⟩
    cases x <;> simp <;> omega

theorem DI.next {l : List Arc} {st : Int} {c0 c b : List Int} {d : List Bool} {u : Nat} (h : DI l c0 c b d) (hl : ∀ a ∈ l, ArcOk st a) (hn : (c0.length : Int) = st) (hul : u < c0.length) (hud : d.getD u false = false) (huc : c.getD u 0 ≠ -1)
    (hu : ∀ v, v < c.length → d.getD v false = false → c.getD v 0 ≠ -1 → c.getD u 0 ≤ c.getD v 0) {r : List (Arc × Nat)} (hr : ∀ a, a ∈ l ↔ ∃ i, (a, i) ∈ r) :
    DI l c0 (setlR r (u : Int) (c, b)).1 (setlR r (u : Int) (c, b)).2 (d.set u true) := by
  have hj := DJ.fold h hl hn hul hud huc r [] c b (fun p hp => (hr p.1).2 ⟨p.2, hp⟩) (DJ.start h hu)
  rw [List.nil_append] at hj
  have hdl := h.lend
  have hg : ∀ v, (d.set u true).getD v false = if u = v ∧ v < d.length then true else d.getD v false := fun v => getD_set _ _ _ _ _
  have hcnt := (count_set d u (by omega) hud).1
  have hset : ∀ v, (d.set u true).getD v false = true → v = u ∨ d.getD v false = true := by
    intro v hv
    rw [hg] at hv
    split at hv
    · rename_i hh; exact .inl hh.1.symm
    · exact .inr hv
  have hset' : ∀ v, (d.set u true).getD v false = false → v ≠ u ∧ d.getD v false = false := by
    intro v hv
    rw [hg] at hv
    split at hv
    · cases hv
    · rename_i hh; exact ⟨fun e => hh ⟨e.symm, by omega⟩, hv⟩
  refine ⟨hj.len, hj.lenb, by simp [hdl], hj.low, fun v hv => (hj.le v).trans (h.s1 v hv), ?_, ?_, ?_, ?_⟩
  · intro v hv
    rcases hset v hv with rfl | hv
    · rw [hj.at_]; exact huc
    · rw [hj.done v hv]; exact h.fin v hv
  · intro a ha hf
    rcases hset _ hf with hf | hf
    · obtain ⟨i, hi⟩ := (hr a).1 ha
      rw [hf, hj.at_]
      exact hj.out (a, i) hi hf
    · rw [hj.done _ hf]
      exact (hj.le _).trans (h.out a ha hf)
  · intro v hv hc
    obtain ⟨k, hk, hr'⟩ := hj.rn v hv hc
    exact ⟨k, by rw [hcnt]; exact hk, hr'⟩
  · intro x v hx hv hd hc
    obtain ⟨_, hd'⟩ := hset' v hd
    have h1 := hj.ge v hv hd' hc
    rcases hset x hx with rfl | hx
    · rw [hj.at_]; exact h1
    · rw [hj.done x hx]
      have := h.ord x u hx hul hud huc
      omega

end Go.Fw

/-
  Settling: bounds, one step of the walk.
-/
namespace Go.Fw
open Go

structure SB (st B : Int) (u : Int) (cu : Int) (r : List Int × List Int) : Prop where
  bd : Bd st (B + 1000000000) r.1
  at_ : r.1.getD u.toNat 0 = cu
  lenb : (r.2.length : Int) = st

theorem SB.step {st B u cu : Int} {r : List Int × List Int} (h : SB st B u cu r) (hu : 0 ≤ u) (hu1 : u < st) (hc : cu ≠ -1) (hB : cu ≤ B) {p : Arc × Nat} (ha : ArcOk st p.1) : SB st B u cu (setlS u r p) := by
  unfold setlS
  by_cases hb : p.1.f = u ∧ better (r.1.getD u.toNat 0 + p.1.w) (r.1.getD p.1.t.toNat 0) = true
  · rw [if_pos hb]
    obtain ⟨_, hb⟩ := hb
    rw [better_iff, h.at_] at hb
    have w0 := ha.w0
    have w1 := ha.w1
    have hlen := h.bd.len
    have hcu := h.bd.at hu hu1
    rw [h.at_] at hcu
    refine ⟨⟨by simp [hlen], fun v hv => ?_⟩, ?_, by simp [h.lenb]⟩
    · rcases List.mem_or_eq_of_mem_set hv with hv | rfl
      · exact h.bd.bd v hv
      · rw [h.at_]; omega
    · rw [getD_set]
      split
      · rename_i hh
        rw [hh.1, h.at_] at hb
        omega
      · exact h.at_
  · rw [if_neg hb]
    exact h

theorem SB.fold {st B u cu : Int} (hu : 0 ≤ u) (hu1 : u < st) (hc : cu ≠ -1) (hB : cu ≤ B) : ∀ (l : List (Arc × Nat)) {r : List Int × List Int}, SB st B u cu r → (∀ p ∈ l, ArcOk st p.1) → SB st B u cu (setlR l u r)
  | [], r, h, _ => h
  | p :: l, r, h, hl => SB.fold hu hu1 hc hB l (h.step hu hu1 hc hB (hl p (by simp))) (fun q hq => hl q (by simp [hq]))

/-- What is known at a round's head. -/
structure SI (st : Int) (l : List (Arc × Nat)) (R : List Int × List Int) (k : Nat) (c b : List Int) (d : List Bool) : Prop where
  kk : k ≤ st.toNat + 1
  bd : Bd st (1000000000 * (203 - k)) c
  lenb : (b.length : Int) = st
  lend : (d.length : Int) = st
  eq : setl l k c b d = R
  cnt : st.toNat < k + d.count true

theorem SI.k1 {st : Int} {l : List (Arc × Nat)} {R : List Int × List Int} {k : Nat} {c b : List Int} {d : List Bool} (h : SI st l R k c b d) : ∃ k', k = k' + 1 := by
  have := List.count_le_length (a := true) (l := d)
  have := h.cnt
  have := h.lend
  exact ⟨k - 1, by omega⟩

theorem SI.next {st : Int} (hst : 1 ≤ st ∧ st ≤ 200) {l : List (Arc × Nat)} {R : List Int × List Int} {k : Nat} {c b : List Int} {d : List Bool} (h : SI st l R k c b d) (hl : ∀ p ∈ l, ArcOk st p.1) (hp : ¬ pick c d c.length < 0) :
    SI st l R (k - 1) (setlR l (pick c d c.length) (c, b)).1 (setlR l (pick c d c.length) (c, b)).2 (d.set (pick c d c.length).toNat true) ∧ k - 1 < k ∧
      0 ≤ pick c d c.length ∧ pick c d c.length < st ∧ c.getD (pick c d c.length).toNat 0 ≠ -1 ∧ SB st (1000000000 * (203 - k)) (pick c d c.length) (c.getD (pick c d c.length).toNat 0) (c, b) ∧ c.getD (pick c d c.length).toNat 0 ≤ 1000000000 * (203 - k) := by
  obtain ⟨k', rfl⟩ := h.k1
  have hlen := h.bd.len
  have hlend := h.lend
  rcases pick_spec c d c.length (Nat.le_refl _) with ⟨h1, _⟩ | ⟨h1, h2, h3, h4, h5⟩
  · exact absurd h1 hp
  · have hlt : pick c d c.length < st := by omega
    have hb := h.bd.at h1 hlt
    have kk := h.kk
    have sb : SB st (1000000000 * (203 - (k' + 1 : Nat))) (pick c d c.length) (c.getD (pick c d c.length).toNat 0) (c, b) :=
      ⟨⟨hlen, fun v hv => by have := h.bd.bd v hv; omega⟩, rfl, h.lenb⟩
    have sb2 := sb.fold h1 hlt h4 hb.2 l hl
    have heq := h.eq
    simp only [setl, if_neg hp] at heq
    refine ⟨⟨by omega, ⟨sb2.bd.len, fun v hv => ?_⟩, sb2.lenb, by simp [hlend], ?_, ?_⟩, by omega, h1, hlt, h4, sb, hb.2⟩
    · have := sb2.bd.bd v hv
      simp only [Nat.add_sub_cancel]
      omega
    · simpa using heq
    · have := h.cnt
      rw [(count_set d _ (by omega) h3).1]
      omega

theorem SI.start {st : Int} (hst : 1 ≤ st ∧ st ≤ 200) {l : List Arc} {c : List Int} (hc : Bd st 1000000000 c) : SI st l.zipIdx (settled l c.length c) (c.length + 1) c (List.replicate c.length (-1)) (List.replicate c.length false) := by
  have := hc.len
  refine ⟨by omega, ⟨hc.len, fun v hv => ?_⟩, by simp [hc.len], by simp [hc.len], rfl, by omega⟩
  have := hc.bd v hv
  omega

end Go.Fw

namespace Go.Fw
open Go Go.Proofs

end Go.Fw

namespace Go.Fw
open Go Go.Proofs

def aheadS (F : TF) : List Int × List Int := settled (F.arcs.map id) F.st.toNat (begun F)
def onS (F : TF) : List Int × List Int := settled (F.arcs.map swap) F.st.toNat F.fin

end Go.Fw

/-
  Weights pushed ahead, in the plain.
-/
namespace Go.Fw
open Go

def pushA (D : List Int) (a : Arc) : Option Arc :=
  if D.getD a.f.toNat 0 = -1 ∨ D.getD a.t.toNat 0 = -1 then none else some ⟨a.f, a.i, a.o, a.t, a.w + (D.getD a.t.toNat 0 - D.getD a.f.toNat 0)⟩
def pushL (D : List Int) (l : List Arc) : List Arc := l.filterMap (pushA D)
def pushV (D fin : List Int) (k n : Nat) : Int := if n < k ∧ fin.getD n 0 ≠ -1 then fin.getD n 0 - D.getD n 0 else fin.getD n 0
def pushF (D fin : List Int) (k : Nat) : List Int := (List.range fin.length).map (pushV D fin k)
def pushBig (l : List Arc) : Bool := l.any fun a => decide (a.w > 1000000000)

theorem pushF_getD (D fin : List Int) (k n : Nat) (h : n < fin.length) : (pushF D fin k).getD n 0 = pushV D fin k n := by simp [pushF, List.getD, h]
end Go.Fw

namespace Go.Fw
open Go Go.Proofs

/-- A transducer's cells, its lists wherever. -/
def cellsF (F : TF) (i j : Nat) (lf cf la ca : Nat) : List SC := [.i F.st, .i F.start, .sl i 1 0 lf cf, .sl j 5 0 la ca]

end Go.Fw

namespace Go.Fw
open Go Go.Proofs

end Go.Fw

namespace Go.Fw
open Go Go.Proofs

/-- What pushing answers. -/
def PushPost (F : TF) (v : SV) (s : S) : Prop :=
  if (toOf F).getD F.start.toNat 0 = -1 then ∃ sp, v = .tup [.agg [.i F.st, .i F.start, .sl 2 1 0 F.fin.length (F.fin.length + sp), .v (.slice none 0 0)], .c (.i (-1)), .c (.i 0)] ∧ s = ⟨[], [(2, .arr true 3 .int F.fin sp)], 3⟩
  else if pushBig (pushL (toOf F) F.arcs) = true then v = .tup [.agg [.i 0, .i 0, .v (.slice none 0 0), .v (.slice none 0 0)], .c (.i 0), .c (.i 2)] ∧ s = ⟨[], [], 2⟩
  else ∃ sp sp', v = .tup [.agg [.i F.st, .i F.start, .sl 2 1 0 F.fin.length (F.fin.length + sp), .sl 3 5 0 (pushL (toOf F) F.arcs).length ((pushL (toOf F) F.arcs).length + sp')], .c (.i ((toOf F).getD F.start.toNat 0)), .c (.i 0)] ∧
      s = ⟨[], [(2, .arr true 3 .int (pushF (toOf F) F.fin F.fin.length) sp), (3, .arr true 47 .arc (pushL (toOf F) F.arcs) sp')], 4⟩

/-- A transducer of which nothing is told. -/
def zeroF : TF := ⟨0, 0, [], [], 0, 0⟩

end Go.Fw
