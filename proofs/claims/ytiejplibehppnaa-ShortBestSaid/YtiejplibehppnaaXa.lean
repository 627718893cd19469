/- Walks of the functions: what each computes. -/
import Derived.Test.YtiejplibehppnaaId
import Derived.Shelf.Bits.Mul64

set_option linter.unusedSimpArgs false
set_option linter.unusedVariables false

namespace Go.Fw
open Go Go.Proofs

def fCells (F : TF) : List SC := [.i F.st, .i F.start, .sl 0 1 0 F.fin.length F.capF, .sl 1 5 0 F.arcs.length F.capA]
def fV (F : TF) : SV := .a (.agg [.i F.st, .i F.start, .sl 0 1 0 F.fin.length F.capF, .sl 1 5 0 F.arcs.length F.capA])
abbrev hpF (F : TF) : List (Nat × SO) := [(0, .arr false 3 .int F.fin 0), (1, .arr false 47 .arc F.arcs 0)]

def arcV (a : Arc) : SV := .a (.agg [.i a.f, .i a.i, .i a.o, .i a.t, .i a.w])

theorem between_c (n l m : Int) : Ct Try.prog 59 [.i n, .i l, .i m] [] [] 0 (Is 0 (.b (decide (l ≤ n ∧ n ≤ m)))) := by
  refine ctW Try.tyOk 7 [] Try.func59 rfl (by simp [SV.lt, SA.lt, SC.lt]) (by simp) (fr := [(0, .i n), (1, .i l), (2, .i m)]) rfl ?_
  repeat' (first | exact rfl | ((conv => whnf); first | refine condP_mk (fun h => ?_) (fun h => ?_) | refine Ob.mk ?_ ?_ | refine Both.mk ?_ ?_))
  all_goals refine Back.is ?_
  all_goals simp only [eqV, eqA, eqC]
  all_goals simp only [decide_eq_true_eq, decide_eq_false_iff_not] at *
  all_goals simp [*]

theorem within_c (n l m : Int) : Ct Try.prog 98 [.i n, .i l, .i m] [] [] 0 (Is 0 (.b (decide (l ≤ n ∧ n ≤ m)))) := by
  refine ctW Try.tyOk 7 [] Try.func98 rfl (by simp [SV.lt, SA.lt, SC.lt]) (by simp) (fr := [(0, .i n), (1, .i l), (2, .i m)]) rfl ?_
  repeat' (first | exact rfl | ((conv => whnf); first | refine condP_mk (fun h => ?_) (fun h => ?_) | refine Ob.mk ?_ ?_ | refine Both.mk ?_ ?_))
  all_goals refine Back.is ?_
  all_goals simp only [eqV, eqA, eqC]
  all_goals simp only [decide_eq_true_eq, decide_eq_false_iff_not] at *
  all_goals simp [*]

theorem less_c (a b : Int) : Ct Try.prog 42 [.i a, .i b] [] [] 0 (Is 0 (.i (less a b))) := by
  refine ctW Try.tyOk 5 [] Try.func42 rfl (by simp [SV.lt, SA.lt, SC.lt]) (by simp) (fr := [(0, .i a), (1, .i b)]) rfl ?_
  repeat' (first | exact rfl | ((conv => whnf); first | refine condP_mk (fun h => ?_) (fun h => ?_) | refine Ob.mk ?_ ?_ | refine Both.mk ?_ ?_))
  all_goals refine Back.is ?_
  all_goals simp only [eqV, eqA, eqC]
  all_goals simp only [decide_eq_true_eq, decide_eq_false_iff_not] at *
  all_goals simp [less, *]

theorem plus_c (a b : Int) (h0 : InI (a + b)) : Ct Try.prog 67 [.i a, .i b] [] [] 0 (Is 0 (.i (plus a b))) := by
  refine ctW Try.tyOk 5 [] Try.func67 rfl (by simp [SV.lt, SA.lt, SC.lt]) (by simp) (fr := [(0, .i a), (1, .i b)]) rfl ?_
  repeat' ((conv => whnf); first | refine condP_mk (fun h => ?_) (fun h => ?_) | refine Ob.mk h0 ?_)
  all_goals refine Back.is ?_
  all_goals simp only [eqV, eqA, eqC]
  all_goals simp only [decide_eq_true_eq, decide_eq_false_iff_not] at *
  all_goals simp [plus, *]

theorem better_c (a b : Int) : Ct Try.prog 68 [.i a, .i b] [] [] 0 (Is 0 (.b (better a b))) := by
  refine ctW Try.tyOk 5 [] Try.func68 rfl (by simp [SV.lt, SA.lt, SC.lt]) (by simp) (fr := [(0, .i a), (1, .i b)]) rfl ?_
  repeat' (first | exact rfl | ((conv => whnf); first | refine condP_mk (fun h => ?_) (fun h => ?_) | refine Ob.mk ?_ ?_ | refine Both.mk ?_ ?_))
  all_goals refine Back.is ?_
  all_goals simp only [eqV, eqA, eqC]
  all_goals simp only [bne_iff_ne, beq_iff_eq, bne_eq_false_iff_eq, beq_eq_false_iff_ne, ne_eq] at *
  all_goals simp [better, *]

theorem isNaN_c (a : Int) : Ct Try.prog 127 [.i a] [] [] 0 (Is 0 (.b false)) := by
  refine ctW Try.tyOk 3 [] Try.func127 rfl (by simp [SV.lt, SA.lt, SC.lt]) (by simp) (fr := [(0, .i a)]) rfl ?_
  repeat' (first | exact rfl | ((conv => whnf); first | refine condP_mk (fun h => ?_) (fun h => ?_) | refine Ob.mk ?_ ?_ | refine Both.mk ?_ ?_))
  all_goals refine Back.is ?_
  all_goals simp only [eqV, eqA, eqC]
  all_goals simp

theorem compare_c (a b : Int) : Ct Try.prog 117 [.i a, .i b] [] [] 0 (Is 0 (.i (cmpI a b))) := by
  refine ctW Try.tyOk 7 [] Try.func117 rfl (by simp [SV.lt, SA.lt, SC.lt]) (by simp) (fr := [(0, .i a), (1, .i b)]) rfl ?_
  conv => whnf
  refine callI (isNaN_c a) [] Try.call127 rfl trivial (by simp [appN, ptrs, eqVL, eqV, eqA, eqC, eqCs, eqAs, eqCaps, EK.sz, rn, renOf, look_cons, look, arcV, fV]) (by simp [appN, ptrs, SV.lt, SA.lt, SC.lt, arcV, fV]) ?_
  conv => whnf
  refine callI (isNaN_c b) [] Try.call127 rfl trivial (by simp [appN, ptrs, eqVL, eqV, eqA, eqC, eqCs, eqAs, eqCaps, EK.sz, rn, renOf, look_cons, look, arcV, fV]) (by simp [appN, ptrs, SV.lt, SA.lt, SC.lt, arcV, fV]) ?_
  repeat' (first | exact rfl | ((conv => whnf); first | refine condP_mk (fun h => ?_) (fun h => ?_) | refine Ob.mk ?_ ?_ | refine Both.mk ?_ ?_))
  all_goals refine Back.is ?_
  all_goals simp only [eqV, eqA, eqC]
  all_goals simp only [decide_eq_true_eq, decide_eq_false_iff_not] at *
  all_goals simp [cmpI, *]

theorem check2_c (a : Int) : Ct Try.prog 99 [.i a] [] [] 0 (Is 0 (.b (!decide (-1 ≤ a ∧ a ≤ 1000000000)))) := by
  refine ctW Try.tyOk 3 [] Try.func99 rfl (by simp [SV.lt, SA.lt, SC.lt]) (by simp) (fr := [(0, .i a)]) rfl ?_
  conv => whnf
  refine callI (within_c a (-1) 1000000000) [] Try.call98 rfl trivial (by simp [appN, ptrs, eqVL, eqV, eqA, eqC, eqCs, eqAs, eqCaps, EK.sz, rn, renOf, look_cons, look, arcV, fV]) (by simp [appN, ptrs, SV.lt, SA.lt, SC.lt, arcV, fV]) ?_
  conv => whnf
  refine Back.is ?_
  simp only [eqV, eqA, eqC]

theorem push1_c (a : Arc) : Ct Try.prog 65 [arcV a] [] [] 0 (Is 0 (.b (decide (a.w > 1000000000)))) := by
  refine ctW Try.tyOk 3 [] Try.func65 rfl (by simp [SV.lt, SA.lt, SC.lt, arcV]) (by simp) (fr := [(0, arcV a)]) rfl ?_
  conv => whnf
  refine Back.is ?_
  simp only [eqV, eqA, eqC]

theorem ahead1_c (a : Arc) : Ct Try.prog 103 [arcV a] [] [] 0 (Is 0 (.tup [.c (.i a.f), .c (.i a.t)])) := by
  refine ctW Try.tyOk 4 [] Try.func103 rfl (by simp [SV.lt, SA.lt, SC.lt, arcV]) (by simp) (fr := [(0, arcV a)]) rfl ?_
  conv => whnf
  refine draw_of Try.mixed Try.tyOk 60 (by kernel_rfl) ?_
  repeat' (first | exact rfl | ((conv => whnf); first | refine condP_mk (fun h => ?_) (fun h => ?_) | refine Ob.mk ?_ ?_ | refine Both.mk ?_ ?_))
  all_goals refine Back.is ?_
  simp only [eqV, eqA, eqC, eqAs]
  simp

theorem on1_c (a : Arc) : Ct Try.prog 105 [arcV a] [] [] 0 (Is 0 (.tup [.c (.i a.t), .c (.i a.f)])) := by
  refine ctW Try.tyOk 4 [] Try.func105 rfl (by simp [SV.lt, SA.lt, SC.lt, arcV]) (by simp) (fr := [(0, arcV a)]) rfl ?_
  conv => whnf
  refine draw_of Try.mixed Try.tyOk 60 (by kernel_rfl) ?_
  repeat' (first | exact rfl | ((conv => whnf); first | refine condP_mk (fun h => ?_) (fun h => ?_) | refine Ob.mk ?_ ?_ | refine Both.mk ?_ ?_))
  all_goals refine Back.is ?_
  simp only [eqV, eqA, eqC, eqAs]
  simp

/-- A slice that is read: object 0. -/
abbrev rdI (l : List Int) (cap : Nat) : SV := .c (.sl 0 1 0 l.length cap)

theorem checkWord_c (l : List Int) (cap : Nat) : Ct Try.prog 15 [.c (.sl 0 1 0 l.length cap)] [] [(0, .arr false 3 .int l 0)] 1 (Is 1 (.i (wordE l))) := by
  refine ctW Try.tyOk 4 [] Try.func15 rfl (by simp [SV.lt, SA.lt, SC.lt]) (by simp) (fr := [(0, .c (.sl 0 1 0 l.length cap))]) rfl ?_
  repeat' (first | exact rfl | ((conv => whnf); first | refine condP_mk (fun h => ?_) (fun h => ?_) | refine Ob.mk ?_ ?_ | refine Both.mk ?_ ?_))
  all_goals (conv => whnf)
  · refine Back.is ?_
    simp only [decide_eq_true_eq] at h
    have : 40 < l.length := by omega
    simp [eqV, eqA, eqC, wordE, this]
  · simp only [decide_eq_false_iff_not] at h
    have h40 := h
    refine loopI (fun k : Nat => ⟨[(0, .c (.sl 0 1 0 l.length cap)), (2, .i 0), (3, .i k)], [(0, .arr false 3 .int l 0)], 1⟩) (fun k => k ≤ l.length ∧ ∀ n ∈ l.take k, 1 ≤ n ∧ n ≤ 9) (fun k => l.length - k) 0 [] ⟨by rfl, ?_, ?_⟩ (by simp) ?_
    · simp [eqFr, eqHp, eqV, eqA, eqC, eqO, eqCs, eqAs, look_cons, look, rn, EK.cast, EK.sz, eqCaps]
    · simp [eqFr, eqHp, eqV, eqA, eqC, eqO, eqCs, eqAs, look_cons, look, rn, EK.cast, EK.sz, eqCaps]
    · intro k ⟨hk1, hk2⟩
      repeat' (first | exact rfl | ((conv => whnf); first | refine condP_mk (fun h => ?_) (fun h => ?_) | refine Ob.mk ?_ ?_ | refine Both.mk ?_ ?_))
      · simp only [decide_eq_true_eq] at h; omega
      · simp only [decide_eq_true_eq] at h; omega
      · simp only [decide_eq_true_eq] at h
        have hk : k < l.length := by omega
        (conv => whnf)
        simp only [Nat.zero_add, Int.toNat_natCast, EK.dflt]
        refine callI (between_c (l.getD k 0) 1 9) [] Try.call59 rfl trivial (by simp [appN, ptrs, eqVL, eqV, eqA, eqC, eqCs, eqAs, eqCaps, EK.sz, rn, renOf, look_cons, look, arcV, fV]) (by simp [appN, ptrs, SV.lt, SA.lt, SC.lt, arcV, fV]) ?_
        repeat' (first | exact rfl | ((conv => whnf); first | refine condP_mk (fun h => ?_) (fun h => ?_) | refine Ob.mk ?_ ?_ | refine Both.mk ?_ ?_))
        · refine Back.is ?_
          have h2 := getD_mem l k 0 hk
          simp only [Bool.not_eq_true', decide_eq_false_iff_not] at h
          have : ¬ ∀ n ∈ l, 1 ≤ n ∧ n ≤ 9 := fun H => h (H _ h2)
          have h41 : ¬ 40 < l.length := by omega
          simp only [eqV, eqA, eqC, wordE, if_neg h41, if_neg this]
        · unfold InI; omega
        · refine ⟨k + 1, [], ⟨by rfl, ?_, ?_⟩, ⟨hk, ?_⟩, by omega⟩
          · simp [eqFr, eqHp, eqV, eqA, eqC, eqO, eqCs, eqAs, look_cons, look, rn, EK.cast, EK.sz, eqCaps]
          · simp [eqFr, eqHp, eqV, eqA, eqC, eqO, eqCs, eqAs, look_cons, look, rn, EK.cast, EK.sz, eqCaps]
          · rw [take_succ_getD l k 0 hk]
            simp only [Bool.not_eq_false', decide_eq_true_eq] at h
            intro n hn
            simp only [List.mem_append, List.mem_singleton] at hn
            rcases hn with hn | rfl
            · exact hk2 n hn
            · exact h
      · refine Back.is ?_
        simp only [decide_eq_false_iff_not] at h
        rw [List.take_of_length_le (by omega)] at hk2
        have h41 : ¬ 40 < l.length := by omega
        simp only [eqV, eqA, eqC, wordE, if_neg h41, if_pos hk2]
end Go.Fw

namespace Go.Fw
open Go Go.Proofs

set_option maxHeartbeats 2000000 in
set_option maxRecDepth 20000 in
theorem ahead_c (a b : Arc) : Ct Try.prog 66 [arcV a, arcV b] [] [] 0 (Is 0 (.b (aheadB a b))) := by
  refine ctW Try.tyOk 8 [] Try.func66 rfl (by simp [SV.lt, SA.lt, SC.lt, arcV, fV]) (by simp) (fr := [(0, arcV a), (1, arcV b)]) rfl ?_
  (conv => whnf)
  refine draw_of Try.mixed Try.tyOk 60 (by kernel_rfl) ?_
  repeat' (first | exact rfl | ((conv => whnf); first | refine condP_mk (fun h => ?_) (fun h => ?_) | refine Ob.mk ?_ ?_ | refine Both.mk ?_ ?_))
  all_goals (conv => whnf)
  all_goals first | (refine loopI (fun k : Nat => ⟨[(4, .b false), (5, .c (.sl 2 1 0 4 4)), (6, .c (.sl 3 1 0 4 4)), (7, .i k)], [(2, .arr true 3 .int [a.f, a.i, a.o, a.t] 0), (3, .arr true 3 .int [b.f, b.i, b.o, b.t] 0)], 4⟩) (fun k => k ≤ 4 ∧ ∀ j, j < k → [a.f, a.i, a.o, a.t].getD j 0 = [b.f, b.i, b.o, b.t].getD j 0) (fun k => 4 - k) 0 [] ⟨by rfl, ?_, ?_⟩ (by simp) ?_; (focus simp [eqFr, eqHp, eqV, eqA, eqC, eqO, eqCs, eqAs, look_cons, look, rn, EK.cast, EK.sz, eqCaps]); (focus simp [eqFr, eqHp, eqV, eqA, eqC, eqO, eqCs, eqAs, look_cons, look, rn, EK.cast, EK.sz, eqCaps])) | (refine loopI (fun k : Nat => ⟨[(4, .b false), (5, .c (.sl 2 1 0 4 4)), (6, .c (.sl 3 1 0 4 4)), (7, .i k)], [(2, .arr true 3 .int [a.f, a.i, a.o, a.t] 0), (3, .arr true 3 .int [b.f, b.i, b.o, b.t] 0)], 4⟩) (fun k => k ≤ 4 ∧ ∀ j, j < k → [a.f, a.i, a.o, a.t].getD j 0 = [b.f, b.i, b.o, b.t].getD j 0) (fun k => 4 - k) 0 [(2, some 3), (3, some 2)] ⟨by rfl, ?_, ?_⟩ (by simp) ?_; (focus simp [eqFr, eqHp, eqV, eqA, eqC, eqO, eqCs, eqAs, look_cons, look, rn, EK.cast, EK.sz, eqCaps]); (focus simp [eqFr, eqHp, eqV, eqA, eqC, eqO, eqCs, eqAs, look_cons, look, rn, EK.cast, EK.sz, eqCaps]))
  all_goals intro k hk
  all_goals obtain ⟨hk1, hk2⟩ := hk
  all_goals repeat' (first | exact rfl | ((conv => whnf); first | refine condP_mk (fun h => ?_) (fun h => ?_) | refine Ob.mk ?_ ?_ | refine Both.mk ?_ ?_))
  all_goals first | refine draw_of Try.mixed Try.tyOk 60 (by kernel_rfl) ?_ | skip
  all_goals repeat' (first | exact rfl | ((conv => whnf); first | refine condP_mk (fun h => ?_) (fun h => ?_) | refine Ob.mk ?_ ?_ | refine Both.mk ?_ ?_))
  all_goals simp only [decide_eq_true_eq, decide_eq_false_iff_not, bne_iff_ne, ne_eq, bne_eq_false_iff_eq, EK.dflt, Nat.zero_add, Int.toNat_natCast] at *
  all_goals first | (simp only [List.length_cons, List.length_nil]; omega) | (unfold InI; omega) | skip
  all_goals (conv => whnf)
  all_goals first | refine draw_of Try.mixed Try.tyOk 60 (by kernel_rfl) ?_ | skip
  all_goals repeat' (first | exact rfl | ((conv => whnf); first | refine condP_mk (fun h => ?_) (fun h => ?_) | refine Ob.mk ?_ ?_ | refine Both.mk ?_ ?_))
  all_goals first | (simp only [EK.dflt, Nat.zero_add, Int.toNat_natCast, List.length_cons, List.length_nil]; omega) | skip
  all_goals (conv => whnf)
  all_goals first | (refine Back.is ?_; have h4 : k = 4 := (by omega); subst h4; simp only [eqV, eqA, eqC]; exact aheadB_not a b hk2) | (refine Back.is ?_; simp only [eqV, eqA, eqC, EK.dflt, Nat.zero_add, Int.toNat_natCast]; exact aheadB_at a b k (by omega) hk2 h) | skip
  all_goals refine ⟨k + 1, [], ⟨by rfl, by simp [eqFr, eqHp, eqV, eqA, eqC, eqO, eqCs, eqAs, look_cons, look, rn, EK.cast, EK.sz, eqCaps], by simp [eqFr, eqHp, eqV, eqA, eqC, eqO, eqCs, eqAs, look_cons, look, rn, EK.cast, EK.sz, eqCaps]⟩, ⟨by omega, fun j hj => ?_⟩, by omega⟩
  all_goals exact if e : j = k then e ▸ h else hk2 j (by omega)
end Go.Fw

namespace Go.Fw
open Go Go.Proofs

/-- What CheckFst keeps by it. -/
abbrev hpC (F : TF) : List (Nat × SO) := [(0, .arr false 3 .int F.fin 0), (1, .arr false 47 .arc F.arcs 0), (2, .box 25 [.i F.st, .i F.start, .sl 0 1 0 F.fin.length F.capF, .sl 1 5 0 F.arcs.length F.capA])]

set_option maxHeartbeats 4000000 in
set_option maxRecDepth 20000 in
theorem checkFst_c (F : TF) : Ct Try.prog 19 [fV F] [] (hpF F) 2 (Is 2 (.i (fstE F))) := by
  refine ctW Try.tyOk 6 [] Try.func19 rfl (by simp [SV.lt, SA.lt, SC.lt, arcV, fV]) (by simp) (fr := [(0, fV F)]) rfl ?_
  (conv => whnf)
  refine callI (between_c F.st 1 200) [] Try.call59 rfl trivial (by simp [appN, ptrs, eqVL, eqV, eqA, eqC, eqCs, eqAs, eqCaps, EK.sz, rn, renOf, look_cons, look, arcV, fV]) (by simp [appN, ptrs, SV.lt, SA.lt, SC.lt, arcV, fV]) ?_
  repeat' (first | exact rfl | ((conv => whnf); first | refine condP_mk (fun h => ?_) (fun h => ?_) | refine Ob.mk ?_ ?_ | refine Both.mk ?_ ?_))
  · refine Back.is ?_
    simp only [Bool.not_eq_true', decide_eq_false_iff_not] at h
    simp only [eqV, eqA, eqC, fstE, if_pos h]
  · simp only [Bool.not_eq_false', decide_eq_true_eq] at h
    unfold InI; omega
  simp only [Bool.not_eq_false', decide_eq_true_eq] at h
  have h1 := h
  clear h
  (conv => whnf)
  refine callI (between_c F.start 0 (F.st - 1)) [] Try.call59 rfl trivial (by simp [appN, ptrs, eqVL, eqV, eqA, eqC, eqCs, eqAs, eqCaps, EK.sz, rn, renOf, look_cons, look, arcV, fV]) (by simp [appN, ptrs, SV.lt, SA.lt, SC.lt, arcV, fV]) ?_
  repeat' (first | exact rfl | ((conv => whnf); first | refine condP_mk (fun h => ?_) (fun h => ?_) | refine Ob.mk ?_ ?_ | refine Both.mk ?_ ?_))
  · refine Back.is ?_
    simp only [Bool.not_eq_true', decide_eq_false_iff_not] at h
    simp only [eqV, eqA, eqC, fstE, if_neg (not_not_intro h1), if_pos h]
  · refine Back.is ?_
    rename_i h2
    simp only [Bool.not_eq_false', decide_eq_true_eq, bne_iff_ne] at h h2
    simp only [eqV, eqA, eqC, fstE, if_neg (not_not_intro h1), if_neg (not_not_intro h2), if_pos h]
  rename_i h2
  simp only [Bool.not_eq_false', decide_eq_true_eq, bne_eq_false_iff_eq] at h h2
  have h3 := h
  clear h
  (conv => whnf)
  refine loopI (fun k : Nat => ⟨[(1, .c (.ptr 2 0)), (2, .i 0), (3, .i k)], hpC F, 3⟩) (fun k => k ≤ F.fin.length ∧ ∀ n ∈ F.fin.take k, -1 ≤ n ∧ n ≤ 1000000000) (fun k => F.fin.length - k) 0 [] ⟨by rfl, ?_, ?_⟩ (by simp) ?_
  · simp [eqFr, eqHp, eqV, eqA, eqC, eqO, eqCs, eqAs, look_cons, look, rn, EK.cast, EK.sz, eqCaps]
  · simp [eqFr, eqHp, eqV, eqA, eqC, eqO, eqCs, eqAs, look_cons, look, rn, EK.cast, EK.sz, eqCaps]
  · intro k ⟨hk1, hk2⟩
    repeat' (first | exact rfl | ((conv => whnf); first | refine condP_mk (fun h => ?_) (fun h => ?_) | refine Ob.mk ?_ ?_ | refine Both.mk ?_ ?_))
    · simp only [decide_eq_true_eq] at h; omega
    · simp only [decide_eq_true_eq] at h; omega
    · simp only [decide_eq_true_eq] at h
      have hk : k < F.fin.length := by omega
      (conv => whnf)
      simp only [Nat.zero_add, Int.toNat_natCast, EK.dflt]
      refine callI (between_c (F.fin.getD k 0) (-1) 1000000000) [] Try.call59 rfl trivial (by simp [appN, ptrs, eqVL, eqV, eqA, eqC, eqCs, eqAs, eqCaps, EK.sz, rn, renOf, look_cons, look, arcV, fV]) (by simp [appN, ptrs, SV.lt, SA.lt, SC.lt, arcV, fV]) ?_
      repeat' (first | exact rfl | ((conv => whnf); first | refine condP_mk (fun h => ?_) (fun h => ?_) | refine Ob.mk ?_ ?_ | refine Both.mk ?_ ?_))
      · refine Back.is ?_
        have hm := getD_mem F.fin k 0 hk
        simp only [Bool.not_eq_true', decide_eq_false_iff_not] at h
        have : ¬ ∀ n ∈ F.fin, -1 ≤ n ∧ n ≤ 1000000000 := fun H => h (H _ hm)
        simp only [eqV, eqA, eqC, fstE, if_neg (not_not_intro h1), if_neg (not_not_intro h2), if_neg (not_not_intro h3), if_pos this]
      · unfold InI; omega
      · (conv => whnf)
        refine ⟨k + 1, [], ⟨by rfl, ?_, ?_⟩, ⟨hk, ?_⟩, by omega⟩
        · simp [eqFr, eqHp, eqV, eqA, eqC, eqO, eqCs, eqAs, look_cons, look, rn, EK.cast, EK.sz, eqCaps]
        · simp [eqFr, eqHp, eqV, eqA, eqC, eqO, eqCs, eqAs, look_cons, look, rn, EK.cast, EK.sz, eqCaps]
        · rw [take_succ_getD F.fin k 0 hk]
          simp only [Bool.not_eq_false', decide_eq_true_eq] at h
          intro n hn
          simp only [List.mem_append, List.mem_singleton] at hn
          rcases hn with hn | rfl
          · exact hk2 n hn
          · exact h
    · rename_i hf
      simp only [decide_eq_false_iff_not, decide_eq_true_eq] at h hf
      rw [List.take_of_length_le (by omega)] at hk2
      refine Back.is ?_
      simp only [eqV, eqA, eqC, fstE, if_neg (not_not_intro h1), if_neg (not_not_intro h2), if_neg (not_not_intro h3), if_neg (not_not_intro hk2), if_pos (show 3000 < F.arcs.length by omega)]
    · rename_i hf
      simp only [decide_eq_false_iff_not, decide_eq_true_eq] at h hf
      rw [List.take_of_length_le (by omega)] at hk2
      have h4 : fstE F = arcsE F.st none F.arcs := by
        simp only [fstE, if_neg (not_not_intro h1), if_neg (not_not_intro h2), if_neg (not_not_intro h3), if_neg (not_not_intro hk2), if_neg (show ¬ 3000 < F.arcs.length by omega)]
      have h5 : F.arcs.length ≤ 3000 := by omega
      clear hf h hk2 hk1
      (conv => whnf)
      refine loopI (fun k : Nat => ⟨[(1, .c (.ptr 2 0)), (2, .i 0), (4, .i k)], hpC F, 3⟩) (fun k => k ≤ F.arcs.length ∧ fstE F = arcsE F.st (if k = 0 then none else some (F.arcs.getD (k - 1) EK.arc.dflt)) (F.arcs.drop k)) (fun k => F.arcs.length - k) 0 [] ⟨by rfl, ?_, ?_⟩ (by simp [h4]) ?_
      · simp [eqFr, eqHp, eqV, eqA, eqC, eqO, eqCs, eqAs, look_cons, look, rn, EK.cast, EK.sz, eqCaps]
      · simp [eqFr, eqHp, eqV, eqA, eqC, eqO, eqCs, eqAs, look_cons, look, rn, EK.cast, EK.sz, eqCaps]
      · intro j ⟨hj1, hj2⟩
        repeat' (first | exact rfl | ((conv => whnf); first | refine condP_mk (fun h => ?_) (fun h => ?_) | refine Ob.mk ?_ ?_ | refine Both.mk ?_ ?_))
        · simp only [decide_eq_true_eq] at h; omega
        · simp only [decide_eq_true_eq] at h; omega
        · unfold InI; omega
        · simp only [decide_eq_true_eq] at h
          have hj : j < F.arcs.length := by omega
          clear h
          (conv => whnf)
          simp only [Nat.zero_add, Int.toNat_natCast]
          have hd : F.arcs.drop j = F.arcs.getD j EK.arc.dflt :: F.arcs.drop (j + 1) := by
            rw [List.drop_eq_getElem_cons hj]; simp [List.getD, hj]
          rw [hd, arcsE_cons] at hj2
          have hnext : ∀ v : Int, fstE F = v → v = fstE F := fun _ h => h.symm
          generalize hx : F.arcs.getD j EK.arc.dflt = x at hj2 ⊢
          refine callI (between_c x.f 0 (F.st - 1)) [] Try.call59 rfl trivial (by simp [appN, ptrs, eqVL, eqV, eqA, eqC, eqCs, eqAs, eqCaps, EK.sz, rn, renOf, look_cons, look, arcV, fV]) (by simp [appN, ptrs, SV.lt, SA.lt, SC.lt, arcV, fV]) ?_
          repeat' (first | exact rfl | ((conv => whnf); first | refine condP_mk (fun h => ?_) (fun h => ?_) | refine Ob.mk ?_ ?_ | refine Both.mk ?_ ?_))
          · refine Back.is ?_
            simp only [Bool.not_eq_true'] at h
            simp only [eqV, eqA, eqC, hj2, arcOk, h]
            rfl
          · unfold InI; omega
          simp only [Bool.not_eq_false'] at h
          have a1 := h
          clear h
          (conv => whnf)
          refine callI (between_c x.t 0 (F.st - 1)) [] Try.call59 rfl trivial (by simp [appN, ptrs, eqVL, eqV, eqA, eqC, eqCs, eqAs, eqCaps, EK.sz, rn, renOf, look_cons, look, arcV, fV]) (by simp [appN, ptrs, SV.lt, SA.lt, SC.lt, arcV, fV]) ?_
          repeat' (first | exact rfl | ((conv => whnf); first | refine condP_mk (fun h => ?_) (fun h => ?_) | refine Ob.mk ?_ ?_ | refine Both.mk ?_ ?_))
          · refine Back.is ?_
            simp only [Bool.not_eq_true'] at h
            simp only [eqV, eqA, eqC, hj2, arcOk, a1, h]
            rfl
          simp only [Bool.not_eq_false'] at h
          have a2 : arcOk F.st x = true := by simp only [arcOk, a1, h]; rfl
          clear h
          (conv => whnf)
          refine callI (between_c x.i 0 9) [] Try.call59 rfl trivial (by simp [appN, ptrs, eqVL, eqV, eqA, eqC, eqCs, eqAs, eqCaps, EK.sz, rn, renOf, look_cons, look, arcV, fV]) (by simp [appN, ptrs, SV.lt, SA.lt, SC.lt, arcV, fV]) ?_
          repeat' (first | exact rfl | ((conv => whnf); first | refine condP_mk (fun h => ?_) (fun h => ?_) | refine Ob.mk ?_ ?_ | refine Both.mk ?_ ?_))
          · refine Back.is ?_
            simp only [Bool.not_eq_true'] at h
            simp only [eqV, eqA, eqC, hj2, a2, arcIn, h]
            rfl
          simp only [Bool.not_eq_false'] at h
          have a3 := h
          clear h
          (conv => whnf)
          refine callI (between_c x.o 0 9) [] Try.call59 rfl trivial (by simp [appN, ptrs, eqVL, eqV, eqA, eqC, eqCs, eqAs, eqCaps, EK.sz, rn, renOf, look_cons, look, arcV, fV]) (by simp [appN, ptrs, SV.lt, SA.lt, SC.lt, arcV, fV]) ?_
          repeat' (first | exact rfl | ((conv => whnf); first | refine condP_mk (fun h => ?_) (fun h => ?_) | refine Ob.mk ?_ ?_ | refine Both.mk ?_ ?_))
          · refine Back.is ?_
            simp only [Bool.not_eq_true'] at h
            simp only [eqV, eqA, eqC, hj2, a2, arcIn, a3, h]
            rfl
          simp only [Bool.not_eq_false'] at h
          have a4 := h
          clear h
          (conv => whnf)
          refine callI (between_c x.w 0 1000000000) [] Try.call59 rfl trivial (by simp [appN, ptrs, eqVL, eqV, eqA, eqC, eqCs, eqAs, eqCaps, EK.sz, rn, renOf, look_cons, look, arcV, fV]) (by simp [appN, ptrs, SV.lt, SA.lt, SC.lt, arcV, fV]) ?_
          repeat' (first | exact rfl | ((conv => whnf); first | refine condP_mk (fun h => ?_) (fun h => ?_) | refine Ob.mk ?_ ?_ | refine Both.mk ?_ ?_))
          · refine Back.is ?_
            simp only [Bool.not_eq_true'] at h
            simp only [eqV, eqA, eqC, hj2, a2, arcIn, a3, a4, h]
            rfl
          simp only [Bool.not_eq_false'] at h
          have a5 : arcIn x = true := by simp only [arcIn, a3, a4, h]; rfl
          clear h
          (conv => whnf)
          refine draw_of Try.mixed Try.tyOk 60 (by kernel_rfl) ?_
          repeat' (first | exact rfl | ((conv => whnf); first | refine condP_mk (fun h => ?_) (fun h => ?_) | refine Ob.mk ?_ ?_ | refine Both.mk ?_ ?_))
          · unfold InI; omega
          · simp only [decide_eq_true_eq, gt_iff_lt] at h; omega
          · simp only [decide_eq_true_eq, gt_iff_lt] at h; omega
          · simp only [decide_eq_true_eq, gt_iff_lt] at h
            have hj0 : j ≠ 0 := by omega
            clear h
            have e : 0 + ((j : Int) - 1).toNat = j - 1 := by omega
            (conv => whnf)
            simp only [e, Nat.zero_add, Int.toNat_natCast]
            simp only [if_neg hj0] at hj2
            generalize hy : F.arcs.getD (j - 1) EK.arc.dflt = y at hj2 ⊢
            refine callI (ahead_c y x) [] Try.call66 rfl trivial (by simp [appN, ptrs, eqVL, eqV, eqA, eqC, eqCs, eqAs, eqCaps, EK.sz, rn, renOf, look_cons, look, arcV, fV]) (by simp [appN, ptrs, SV.lt, SA.lt, SC.lt, arcV, fV]) ?_
            repeat' (first | exact rfl | ((conv => whnf); first | refine condP_mk (fun h => ?_) (fun h => ?_) | refine Ob.mk ?_ ?_ | refine Both.mk ?_ ?_))
            · refine Back.is ?_
              simp only [eqV, eqA, eqC, hj2, a2, a5, h]
              rfl
            · unfold InI; omega
            · simp only [Bool.not_eq_false'] at h
              (conv => whnf)
              refine ⟨j + 1, [], ⟨by rfl, ?_, ?_⟩, ⟨hj, ?_⟩, by omega⟩
              · simp [eqFr, eqHp, eqV, eqA, eqC, eqO, eqCs, eqAs, look_cons, look, rn, EK.cast, EK.sz, eqCaps]
              · simp [eqFr, eqHp, eqV, eqA, eqC, eqO, eqCs, eqAs, look_cons, look, rn, EK.cast, EK.sz, eqCaps]
              · simp only [a2, a5, h, Bool.not_true, Bool.false_eq_true, if_false] at hj2
                rw [if_neg (Nat.succ_ne_zero j), Nat.add_sub_cancel, hx]
                exact hj2
          · unfold InI; omega
          · simp only [decide_eq_false_iff_not, gt_iff_lt] at h
            have hj0 : j = 0 := by omega
            simp only [if_pos hj0] at hj2
            (conv => whnf)
            refine ⟨j + 1, [], ⟨by rfl, ?_, ?_⟩, ⟨hj, ?_⟩, by omega⟩
            · simp [eqFr, eqHp, eqV, eqA, eqC, eqO, eqCs, eqAs, look_cons, look, rn, EK.cast, EK.sz, eqCaps]
            · simp [eqFr, eqHp, eqV, eqA, eqC, eqO, eqCs, eqAs, look_cons, look, rn, EK.cast, EK.sz, eqCaps]
            · simp only [a2, a5, Bool.not_true, Bool.false_eq_true, if_false] at hj2
              rw [if_neg (Nat.succ_ne_zero j), Nat.add_sub_cancel, hx]
              exact hj2
        · refine Back.is ?_
          simp only [decide_eq_false_iff_not] at h
          rw [List.drop_eq_nil_of_le (by omega), arcsE_nil] at hj2
          simp only [eqV, eqA, eqC, hj2]
end Go.Fw

namespace Go.Fw
open Go Go.Proofs

set_option maxHeartbeats 2000000 in
set_option maxRecDepth 20000 in
theorem indexFunc_c (l : List Int) (cap : Nat) (hl : l.length ≤ 9223372036854775807) (g : Nat) (p : Int → Bool) (hg : ∀ x, Ct Try.prog g [.i x] [] [] 0 (Is 0 (.b (p x)))) (hcf : ∀ args w, (callFunc g args).run Try.prog w = .ok (.enter g args) w) :
    Ct Try.prog 96 [.c (.sl 0 1 0 l.length cap), .c (.fn g [])] [] [(0, .arr false 3 .int l 0)] 1 (Is 1 (.i (idx p 0 l))) := by
  refine ctW Try.tyOk 6 [7, 8] Try.func96 rfl (by simp [SV.lt, SA.lt, SC.lt, arcV, fV]) (by simp) (fr := [(0, .c (.sl 0 1 0 l.length cap)), (1, .c (.fn g []))]) rfl ?_
  (conv => whnf)
  refine loopI (fun k : Nat => ⟨[(0, .c (.sl 0 1 0 l.length cap)), (1, .c (.fn g [])), (4, .i 0), (7, .i l.length), (8, .i k)], [(0, .arr false 3 .int l 0)], 1⟩) (fun k => k ≤ l.length ∧ idx p 0 l = idx p k (l.drop k)) (fun k => l.length - k) 0 [] ⟨by rfl, ?_, ?_⟩ (by simp) ?_
  · simp [eqFr, eqHp, eqV, eqA, eqC, eqO, eqCs, eqAs, eqCaps, look_cons, look, rn, EK.cast]
  · simp [eqFr, eqHp, eqV, eqA, eqC, eqO, eqCs, eqAs, look_cons, look, rn, EK.cast, EK.sz, eqCaps]
  · intro k ⟨hk1, hk2⟩
    repeat' (first | exact rfl | ((conv => whnf); first | refine condP_mk (fun h => ?_) (fun h => ?_) | refine Ob.mk ?_ ?_ | refine Both.mk ?_ ?_))
    · simp only [decide_eq_true_eq] at h; omega
    · simp only [decide_eq_true_eq] at h; omega
    · simp only [decide_eq_true_eq] at h
      have hk : k < l.length := by omega
      clear h
      (conv => whnf)
      simp only [Nat.zero_add, Int.toNat_natCast, EK.dflt]
      rw [idx_drop p l k 0 hk] at hk2
      refine callI (hg (l.getD k 0)) [] hcf rfl trivial (by simp [appN, ptrs, eqVL, eqV, eqA, eqC]) (by simp [appN, ptrs, SV.lt, SA.lt, SC.lt]) ?_
      repeat' (first | exact rfl | ((conv => whnf); first | refine condP_mk (fun h => ?_) (fun h => ?_) | refine Ob.mk ?_ ?_ | refine Both.mk ?_ ?_))
      · refine Back.is ?_
        simp only [eqV, eqA, eqC, hk2, h, if_pos]
      · unfold InI; omega
      · (conv => whnf)
        simp only [h, Bool.false_eq_true, if_false] at hk2
        refine ⟨k + 1, [], ⟨by rfl, ?_, ?_⟩, ⟨hk, hk2⟩, by omega⟩
        · simp [eqFr, eqHp, eqV, eqA, eqC, eqO, eqCs, eqAs, eqCaps, look_cons, look, rn, EK.cast]
        · simp [eqFr, eqHp, eqV, eqA, eqC, eqO, eqCs, eqAs, look_cons, look, rn, EK.cast, EK.sz, eqCaps]
    · refine Back.is ?_
      simp only [decide_eq_false_iff_not] at h
      rw [List.drop_eq_nil_of_le (by omega), idx] at hk2
      simp only [eqV, eqA, eqC, hk2]

theorem containsFunc_c (l : List Int) (cap : Nat) (hl : l.length ≤ 9223372036854775807) (g : Nat) (p : Int → Bool) (hg : ∀ x, Ct Try.prog g [.i x] [] [] 0 (Is 0 (.b (p x)))) (hcf : ∀ args w, (callFunc g args).run Try.prog w = .ok (.enter g args) w) :
    Ct Try.prog 57 [.c (.sl 0 1 0 l.length cap), .c (.fn g [])] [] [(0, .arr false 3 .int l 0)] 1 (Is 1 (.b (l.any p))) := by
  refine ctW Try.tyOk 5 [] Try.func57 rfl (by simp [SV.lt, SA.lt, SC.lt, arcV, fV]) (by simp) (fr := [(0, .c (.sl 0 1 0 l.length cap)), (1, .c (.fn g []))]) rfl ?_
  (conv => whnf)
  refine callI (indexFunc_c l cap hl g p hg hcf) [0] Try.call96 rfl (by simp [eqLs, eqL, eqO, eqC, eqCs, rn, renOf, look_cons, look, EK.cast]) (by simp [appN, ptrs, eqVL, eqV, eqA, eqC, eqCaps, rn, renOf, look_cons, look]) (by simp [appN, ptrs, SV.lt, SA.lt, SC.lt]) ?_
  repeat' (first | exact rfl | ((conv => whnf); first | refine condP_mk (fun h => ?_) (fun h => ?_) | refine Ob.mk ?_ ?_ | refine Both.mk ?_ ?_))
  refine Back.is ?_
  simp only [eqV, eqA, eqC]
  exact (idx_any p l 0).symm

set_option maxHeartbeats 2000000 in
set_option maxRecDepth 20000 in
theorem indexFuncA_c (l : List Arc) (cap : Nat) (hl : l.length ≤ 9223372036854775807) (g : Nat) (p : Arc → Bool) (hg : ∀ x, Ct Try.prog g [arcV x] [] [] 0 (Is 0 (.b (p x)))) (hcf : ∀ args w, (callFunc g args).run Try.prog w = .ok (.enter g args) w) :
    Ct Try.prog 106 [.c (.sl 0 5 0 l.length cap), .c (.fn g [])] [] [(0, .arr false 47 .arc l 0)] 1 (Is 1 (.i (idx p 0 l))) := by
  refine ctW Try.tyOk 6 [7, 8] Try.func106 rfl (by simp [SV.lt, SA.lt, SC.lt, arcV, fV]) (by simp) (fr := [(0, .c (.sl 0 5 0 l.length cap)), (1, .c (.fn g []))]) rfl ?_
  (conv => whnf)
  refine loopI (fun k : Nat => ⟨[(0, .c (.sl 0 5 0 l.length cap)), (1, .c (.fn g [])), (4, .i 0), (7, .i l.length), (8, .i k)], [(0, .arr false 47 .arc l 0)], 1⟩) (fun k => k ≤ l.length ∧ idx p 0 l = idx p k (l.drop k)) (fun k => l.length - k) 0 [] ⟨by rfl, ?_, ?_⟩ (by simp) ?_
  · simp [eqFr, eqHp, eqV, eqA, eqC, eqO, eqCs, eqAs, eqCaps, look_cons, look, rn, EK.cast]
  · simp [eqFr, eqHp, eqV, eqA, eqC, eqO, eqCs, eqAs, look_cons, look, rn, EK.cast, EK.sz, eqCaps]
  · intro k ⟨hk1, hk2⟩
    repeat' (first | exact rfl | ((conv => whnf); first | refine condP_mk (fun h => ?_) (fun h => ?_) | refine Ob.mk ?_ ?_ | refine Both.mk ?_ ?_))
    · simp only [decide_eq_true_eq] at h; omega
    · simp only [decide_eq_true_eq] at h; omega
    · simp only [decide_eq_true_eq] at h
      have hk : k < l.length := by omega
      clear h
      (conv => whnf)
      simp only [Nat.zero_add, Int.toNat_natCast]
      rw [idx_drop p l k EK.arc.dflt hk] at hk2
      refine callI (hg (l.getD k EK.arc.dflt)) [] hcf rfl trivial (by simp [appN, ptrs, eqVL, eqV, eqA, eqC, eqCs, arcV]) (by simp [appN, ptrs, SV.lt, SA.lt, SC.lt]) ?_
      repeat' (first | exact rfl | ((conv => whnf); first | refine condP_mk (fun h => ?_) (fun h => ?_) | refine Ob.mk ?_ ?_ | refine Both.mk ?_ ?_))
      · refine Back.is ?_
        simp only [eqV, eqA, eqC, hk2, h, if_pos]
      · unfold InI; omega
      · (conv => whnf)
        simp only [h, Bool.false_eq_true, if_false] at hk2
        refine ⟨k + 1, [], ⟨by rfl, ?_, ?_⟩, ⟨hk, hk2⟩, by omega⟩
        · simp [eqFr, eqHp, eqV, eqA, eqC, eqO, eqCs, eqAs, eqCaps, look_cons, look, rn, EK.cast]
        · simp [eqFr, eqHp, eqV, eqA, eqC, eqO, eqCs, eqAs, look_cons, look, rn, EK.cast, EK.sz, eqCaps]
    · refine Back.is ?_
      simp only [decide_eq_false_iff_not] at h
      rw [List.drop_eq_nil_of_le (by omega), idx] at hk2
      simp only [eqV, eqA, eqC, hk2]

theorem containsFuncA_c (l : List Arc) (cap : Nat) (hl : l.length ≤ 9223372036854775807) (g : Nat) (p : Arc → Bool) (hg : ∀ x, Ct Try.prog g [arcV x] [] [] 0 (Is 0 (.b (p x)))) (hcf : ∀ args w, (callFunc g args).run Try.prog w = .ok (.enter g args) w) :
    Ct Try.prog 64 [.c (.sl 0 5 0 l.length cap), .c (.fn g [])] [] [(0, .arr false 47 .arc l 0)] 1 (Is 1 (.b (l.any p))) := by
  refine ctW Try.tyOk 5 [] Try.func64 rfl (by simp [SV.lt, SA.lt, SC.lt, arcV, fV]) (by simp) (fr := [(0, .c (.sl 0 5 0 l.length cap)), (1, .c (.fn g []))]) rfl ?_
  (conv => whnf)
  refine callI (indexFuncA_c l cap hl g p hg hcf) [0] Try.call106 rfl (by simp [eqLs, eqL, eqO, eqC, eqCs, rn, renOf, look_cons, look, EK.cast]) (by simp [appN, ptrs, eqVL, eqV, eqA, eqC, eqCaps, rn, renOf, look_cons, look]) (by simp [appN, ptrs, SV.lt, SA.lt, SC.lt]) ?_
  repeat' (first | exact rfl | ((conv => whnf); first | refine condP_mk (fun h => ?_) (fun h => ?_) | refine Ob.mk ?_ ?_ | refine Both.mk ?_ ?_))
  refine Back.is ?_
  simp only [eqV, eqA, eqC]
  exact (idx_any p l 0).symm

end Go.Fw

namespace Go.Fw
open Go Go.Proofs

set_option maxHeartbeats 2000000 in
set_option maxRecDepth 20000 in
theorem or_c (l : List Int) (cap : Nat) (hl : l.length ≤ 9223372036854775807) : Ct Try.prog 116 [.c (.sl 0 1 0 l.length cap)] [] [(0, .arr true 3 .int l 0)] 1 (Is 1 (.i (orI l))) := by
  refine ctW Try.tyOk 6 [6, 7, 8] Try.func116 rfl (by simp [SV.lt, SA.lt, SC.lt, arcV, fV]) (by simp) (fr := [(0, .c (.sl 0 1 0 l.length cap))]) rfl ?_
  (conv => whnf)
  refine loopI (fun k : Nat => ⟨[(2, .i 0), (3, .i 0), (6, .c (.sl 0 1 0 l.length cap)), (7, .i l.length), (8, .i k)], [(0, .arr true 3 .int l 0)], 1⟩) (fun k => k ≤ l.length ∧ orI l = orI (l.drop k)) (fun k => l.length - k) 0 [] ⟨by rfl, ?_, ?_⟩ (by simp) ?_
  · simp [eqFr, eqHp, eqV, eqA, eqC, eqO, eqCs, eqAs, look_cons, look, rn, EK.cast, EK.sz, eqCaps]
  · simp [eqFr, eqHp, eqV, eqA, eqC, eqO, eqCs, eqAs, look_cons, look, rn, EK.cast, EK.sz, eqCaps]
  · intro k ⟨hk1, hk2⟩
    repeat' (first | exact rfl | ((conv => whnf); first | refine condP_mk (fun h => ?_) (fun h => ?_) | refine Ob.mk ?_ ?_ | refine Both.mk ?_ ?_))
    · simp only [decide_eq_true_eq] at h; omega
    · simp only [decide_eq_true_eq] at h; omega
    · simp only [bne_iff_ne, Nat.zero_add, Int.toNat_natCast, EK.dflt] at h
      rename_i hk
      simp only [decide_eq_true_eq] at hk
      rw [orI_drop l k (by omega), if_pos h] at hk2
      refine Back.is ?_
      simp only [eqV, eqA, eqC, hk2, Nat.zero_add, Int.toNat_natCast, EK.dflt]
    · rename_i hk
      simp only [decide_eq_true_eq] at hk
      unfold InI; omega
    · simp only [bne_eq_false_iff_eq, Nat.zero_add, Int.toNat_natCast, EK.dflt] at h
      rename_i hk
      simp only [decide_eq_true_eq] at hk
      rw [orI_drop l k (by omega), if_neg (by rw [h]; simp)] at hk2
      (conv => whnf)
      refine ⟨k + 1, [], ⟨by rfl, ?_, ?_⟩, ⟨by omega, hk2⟩, by omega⟩
      · simp [eqFr, eqHp, eqV, eqA, eqC, eqO, eqCs, eqAs, look_cons, look, rn, EK.cast, EK.sz, eqCaps]
      · simp [eqFr, eqHp, eqV, eqA, eqC, eqO, eqCs, eqAs, look_cons, look, rn, EK.cast, EK.sz, eqCaps]
    · refine Back.is ?_
      simp only [decide_eq_false_iff_not] at h
      rw [List.drop_eq_nil_of_le (by omega), orI] at hk2
      simp only [eqV, eqA, eqC, hk2]

set_option maxHeartbeats 4000000 in
set_option maxRecDepth 20000 in
theorem order_c (a b : Arc) : Ct Try.prog 100 [arcV a, arcV b] [] [] 0 (Is 0 (.i (orderI a b))) := by
  refine ctW Try.tyOk 5 [] Try.func100 rfl (by simp [SV.lt, SA.lt, SC.lt, arcV, fV]) (by simp) (fr := [(0, arcV a), (1, arcV b)]) rfl ?_
  (conv => whnf)
  refine draw_of Try.mixed Try.tyOk 60 (by kernel_rfl) ?_
  (conv => whnf)
  refine callI (compare_c a.f b.f) [] Try.call117 rfl trivial (by simp [appN, ptrs, eqVL, eqV, eqA, eqC, eqCs, eqAs, eqCaps, EK.sz, rn, renOf, look_cons, look, arcV, fV]) (by simp [appN, ptrs, SV.lt, SA.lt, SC.lt, arcV, fV]) ?_
  repeat' (first | exact rfl | ((conv => whnf); first | refine condP_mk (fun h => ?_) (fun h => ?_) | refine Ob.mk ?_ ?_ | refine Both.mk ?_ ?_))
  (conv => whnf)
  refine callI (compare_c a.i b.i) [] Try.call117 rfl trivial (by simp [appN, ptrs, eqVL, eqV, eqA, eqC, eqCs, eqAs, eqCaps, EK.sz, rn, renOf, look_cons, look, arcV, fV]) (by simp [appN, ptrs, SV.lt, SA.lt, SC.lt, arcV, fV]) ?_
  repeat' (first | exact rfl | ((conv => whnf); first | refine condP_mk (fun h => ?_) (fun h => ?_) | refine Ob.mk ?_ ?_ | refine Both.mk ?_ ?_))
  (conv => whnf)
  refine callI (compare_c a.o b.o) [] Try.call117 rfl trivial (by simp [appN, ptrs, eqVL, eqV, eqA, eqC, eqCs, eqAs, eqCaps, EK.sz, rn, renOf, look_cons, look, arcV, fV]) (by simp [appN, ptrs, SV.lt, SA.lt, SC.lt, arcV, fV]) ?_
  repeat' (first | exact rfl | ((conv => whnf); first | refine condP_mk (fun h => ?_) (fun h => ?_) | refine Ob.mk ?_ ?_ | refine Both.mk ?_ ?_))
  (conv => whnf)
  refine callI (compare_c a.t b.t) [] Try.call117 rfl trivial (by simp [appN, ptrs, eqVL, eqV, eqA, eqC, eqCs, eqAs, eqCaps, EK.sz, rn, renOf, look_cons, look, arcV, fV]) (by simp [appN, ptrs, SV.lt, SA.lt, SC.lt, arcV, fV]) ?_
  repeat' (first | exact rfl | ((conv => whnf); first | refine condP_mk (fun h => ?_) (fun h => ?_) | refine Ob.mk ?_ ?_ | refine Both.mk ?_ ?_))
  (conv => whnf)
  refine callI (or_c [cmpI a.f b.f, cmpI a.i b.i, cmpI a.o b.o, cmpI a.t b.t] 4 (by simp)) [2] Try.call116 rfl (by simp [eqLs, eqL, eqO, eqC, eqCs, rn, renOf, look_cons, look, EK.cast]) (by simp [appN, ptrs, eqVL, eqV, eqA, eqC, rn, renOf, look_cons, look, EK.sz]) (by simp [appN, ptrs, SV.lt, SA.lt, SC.lt]) ?_
  repeat' (first | exact rfl | ((conv => whnf); first | refine condP_mk (fun h => ?_) (fun h => ?_) | refine Ob.mk ?_ ?_ | refine Both.mk ?_ ?_))
  refine Back.is ?_
  simp only [eqV, eqA, eqC, orderI]
end Go.Fw

namespace Go.Fw
open Go Go.Proofs

theorem check1_c (F : TF) (n : Int) (hst : InI (F.st - 1)) : Ct Try.prog 97 [.i n, .c (.ptr 2 0)] [] (hpC F) 3 (fun v s => v = .b (decide (0 ≤ n ∧ n ≤ F.st - 1)) ∧ s = ⟨[], [(2, .box 25 [.i F.st, .i F.start, .sl 0 1 0 F.fin.length F.capF, .sl 1 5 0 F.arcs.length F.capA])], 3⟩) := by
  refine ctW Try.tyOk 4 [] Try.func97 rfl (by simp [SV.lt, SA.lt, SC.lt, arcV, fV]) (by simp) (fr := [(0, .i n), (1, .c (.ptr 2 0))]) rfl ?_
  repeat' (first | exact rfl | ((conv => whnf); first | refine condP_mk (fun h => ?_) (fun h => ?_) | refine Ob.mk ?_ ?_ | refine Both.mk ?_ ?_))
  · exact hst
  (conv => whnf)
  refine callI (within_c n 0 (F.st - 1)) [] Try.call98 rfl trivial (by simp [appN, ptrs, eqVL, eqV, eqA, eqC, eqCs, eqAs, eqCaps, EK.sz, rn, renOf, look_cons, look, arcV, fV]) (by simp [appN, ptrs, SV.lt, SA.lt, SC.lt, arcV, fV]) ?_
  repeat' (first | exact rfl | ((conv => whnf); first | refine condP_mk (fun h => ?_) (fun h => ?_) | refine Ob.mk ?_ ?_ | refine Both.mk ?_ ?_))
  (conv => whnf)
  exact ⟨[], [(2, .box 25 [.i F.st, .i F.start, .sl 0 1 0 F.fin.length F.capF, .sl 1 5 0 F.arcs.length F.capA])], 3, .b (decide (0 ≤ n ∧ n ≤ F.st - 1)), ⟨by rfl, trivial, by simp [eqFr, eqHp, eqV, eqA, eqC, eqO, eqCs, eqAs, look_cons, look, rn, EK.cast, EK.sz, eqCaps]⟩, by simp only [eqV, eqA, eqC], rfl, rfl⟩

/-- What Check keeps by it. -/
abbrev frC : List (Nat × SV) := [(1, .c (.ptr 2 0)), (2, .i 0), (3, .c (.fn 97 [(2, 0)]))]

set_option maxHeartbeats 4000000 in
set_option maxRecDepth 20000 in
theorem check_c (F : TF) (hl : F.fin.length ≤ 9223372036854775807) : Ct Try.prog 60 [fV F] [] (hpF F) 2 (Is 2 (.i (fstE F))) := by
  refine ctW Try.tyOk 6 [35, 36, 37] Try.func60 rfl (by simp [SV.lt, SA.lt, SC.lt, arcV, fV]) (by simp) (fr := [(0, fV F)]) rfl ?_
  (conv => whnf)
  refine callI (within_c F.st 1 200) [] Try.call98 rfl trivial (by simp [appN, ptrs, eqVL, eqV, eqA, eqC, eqCs, eqAs, eqCaps, EK.sz, rn, renOf, look_cons, look, arcV, fV]) (by simp [appN, ptrs, SV.lt, SA.lt, SC.lt, arcV, fV]) ?_
  repeat' (first | exact rfl | ((conv => whnf); first | refine condP_mk (fun h => ?_) (fun h => ?_) | refine Ob.mk ?_ ?_ | refine Both.mk ?_ ?_))
  · refine Back.is ?_
    simp only [Bool.not_eq_true', decide_eq_false_iff_not] at h
    simp only [eqV, eqA, eqC, fstE, if_pos h]
  simp only [Bool.not_eq_false', decide_eq_true_eq] at h
  have h1 := h
  clear h
  have hst : InI (F.st - 1) := by unfold InI; omega
  (conv => whnf)
  refine callF (check1_c F F.start hst) [0, 1, 2] Try.call97 rfl (by simp [eqLs, eqL, eqO, eqC, eqCs, rn, renOf, look_cons, look, EK.cast]) (by simp [appN, ptrs, eqVL, eqV, eqA, eqC, rn, renOf, look_cons, look]) (by simp [appN, ptrs, SV.lt, SA.lt, SC.lt]) ?_
  rintro _ _ ⟨rfl, rfl⟩
  repeat' (first | exact rfl | ((conv => whnf); first | refine condP_mk (fun h => ?_) (fun h => ?_) | refine Ob.mk ?_ ?_ | refine Both.mk ?_ ?_))
  · refine Back.is ?_
    simp only [Bool.not_eq_true', decide_eq_false_iff_not] at h
    simp only [eqV, eqA, eqC, fstE, if_neg (not_not_intro h1), if_pos h]
  · refine Back.is ?_
    rename_i h2
    simp only [Bool.not_eq_false', decide_eq_true_eq, bne_iff_ne] at h h2
    simp only [eqV, eqA, eqC, fstE, if_neg (not_not_intro h1), if_neg (not_not_intro h2), if_pos h]
  rename_i h2
  simp only [Bool.not_eq_false', decide_eq_true_eq, bne_eq_false_iff_eq] at h h2
  have h3 := h
  clear h
  (conv => whnf)
  refine callI (containsFunc_c F.fin F.capF hl 99 (fun a => !decide (-1 ≤ a ∧ a ≤ 1000000000)) check2_c Try.call99) [0] Try.call57 rfl (by simp [eqLs, eqL, eqO, eqC, eqCs, rn, renOf, look_cons, look, EK.cast]) (by simp [appN, ptrs, eqVL, eqV, eqA, eqC, eqCaps, rn, renOf, look_cons, look]) (by simp [appN, ptrs, SV.lt, SA.lt, SC.lt]) ?_
  have hany : (F.fin.any fun a => !decide (-1 ≤ a ∧ a ≤ 1000000000)) = true ↔ ¬ ∀ n ∈ F.fin, -1 ≤ n ∧ n ≤ 1000000000 := by
    rw [List.any_eq_true]
    constructor
    · rintro ⟨x, hx, h⟩ H
      rw [decide_eq_true (H x hx)] at h
      cases h
    · intro H
      refine Classical.byContradiction fun hc => H fun n hn => Classical.byContradiction fun hnn => hc ⟨n, hn, ?_⟩
      rw [decide_eq_false hnn]; rfl
  repeat' (first | exact rfl | ((conv => whnf); first | refine condP_mk (fun h => ?_) (fun h => ?_) | refine Ob.mk ?_ ?_ | refine Both.mk ?_ ?_))
  · refine Back.is ?_
    rw [hany] at h
    simp only [eqV, eqA, eqC, fstE, if_neg (not_not_intro h1), if_neg (not_not_intro h2), if_neg (not_not_intro h3), if_pos h]
  · refine Back.is ?_
    rename_i hk2
    have hk2 : ∀ n ∈ F.fin, -1 ≤ n ∧ n ≤ 1000000000 := Classical.not_not.1 fun hc => by rw [hany.2 hc] at hk2; cases hk2
    simp only [decide_eq_true_eq] at h
    simp only [eqV, eqA, eqC, fstE, if_neg (not_not_intro h1), if_neg (not_not_intro h2), if_neg (not_not_intro h3), if_neg (not_not_intro hk2), if_pos (show 3000 < F.arcs.length by omega)]
  rename_i hk2
  have hk2 : ∀ n ∈ F.fin, -1 ≤ n ∧ n ≤ 1000000000 := Classical.not_not.1 fun hc => by rw [hany.2 hc] at hk2; cases hk2
  simp only [decide_eq_false_iff_not] at h
  have h5 : F.arcs.length ≤ 3000 := by omega
  have h4 : fstE F = arcsE F.st none F.arcs := by
    simp only [fstE, if_neg (not_not_intro h1), if_neg (not_not_intro h2), if_neg (not_not_intro h3), if_neg (not_not_intro hk2), if_neg (show ¬ 3000 < F.arcs.length by omega)]
  clear hk2 h hany
  (conv => whnf)
  refine loopI (fun k : Nat => ⟨[(1, .c (.ptr 2 0)), (2, .i 0), (3, .c (.fn 97 [(2, 0)])), (35, .c (.sl 1 5 0 F.arcs.length F.capA)), (36, .i F.arcs.length), (37, .i k)], hpC F, 3⟩) (fun k => k ≤ F.arcs.length ∧ fstE F = arcsE F.st (if k = 0 then none else some (F.arcs.getD (k - 1) EK.arc.dflt)) (F.arcs.drop k)) (fun k => F.arcs.length - k) 0 [] ⟨by rfl, ?_, ?_⟩ (by simp [h4]) ?_
  · simp [eqFr, eqHp, eqV, eqA, eqC, eqO, eqCs, eqAs, look_cons, look, rn, EK.cast, EK.sz, eqCaps]
  · simp [eqFr, eqHp, eqV, eqA, eqC, eqO, eqCs, eqAs, look_cons, look, rn, EK.cast, EK.sz, eqCaps]
  · intro j ⟨hj1, hj2⟩
    repeat' (first | exact rfl | ((conv => whnf); first | refine condP_mk (fun h => ?_) (fun h => ?_) | refine Ob.mk ?_ ?_ | refine Both.mk ?_ ?_))
    · simp only [decide_eq_true_eq] at h; omega
    · simp only [decide_eq_true_eq] at h; omega
    · simp only [decide_eq_true_eq] at h
      have hj : j < F.arcs.length := by omega
      clear h
      (conv => whnf)
      simp only [Nat.zero_add, Int.toNat_natCast]
      have hd : F.arcs.drop j = F.arcs.getD j EK.arc.dflt :: F.arcs.drop (j + 1) := by
        rw [List.drop_eq_getElem_cons hj]; simp [List.getD, hj]
      rw [hd, arcsE_cons] at hj2
      generalize hx : F.arcs.getD j EK.arc.dflt = x at hj2 ⊢
      refine callF (check1_c F x.f hst) [0, 1, 2] Try.call97 rfl (by simp [eqLs, eqL, eqO, eqC, eqCs, rn, renOf, look_cons, look, EK.cast]) (by simp [appN, ptrs, eqVL, eqV, eqA, eqC, rn, renOf, look_cons, look]) (by simp [appN, ptrs, SV.lt, SA.lt, SC.lt]) ?_
      rintro _ _ ⟨rfl, rfl⟩
      repeat' (first | exact rfl | ((conv => whnf); first | refine condP_mk (fun h => ?_) (fun h => ?_) | refine Ob.mk ?_ ?_ | refine Both.mk ?_ ?_))
      · refine Back.is ?_
        simp only [Bool.not_eq_true'] at h
        simp only [eqV, eqA, eqC, hj2, arcOk, h]
        rfl
      simp only [Bool.not_eq_false'] at h
      have a1 := h
      clear h
      (conv => whnf)
      refine callF (check1_c F x.t hst) [0, 1, 2] Try.call97 rfl (by simp [eqLs, eqL, eqO, eqC, eqCs, rn, renOf, look_cons, look, EK.cast]) (by simp [appN, ptrs, eqVL, eqV, eqA, eqC, rn, renOf, look_cons, look]) (by simp [appN, ptrs, SV.lt, SA.lt, SC.lt]) ?_
      rintro _ _ ⟨rfl, rfl⟩
      repeat' (first | exact rfl | ((conv => whnf); first | refine condP_mk (fun h => ?_) (fun h => ?_) | refine Ob.mk ?_ ?_ | refine Both.mk ?_ ?_))
      · refine Back.is ?_
        simp only [Bool.not_eq_true'] at h
        simp only [eqV, eqA, eqC, hj2, arcOk, a1, h]
        rfl
      simp only [Bool.not_eq_false'] at h
      have a2 : arcOk F.st x = true := by simp only [arcOk, a1, h]; rfl
      clear h
      (conv => whnf)
      refine callI (within_c x.i 0 9) [] Try.call98 rfl trivial (by simp [appN, ptrs, eqVL, eqV, eqA, eqC, eqCs, eqAs, eqCaps, EK.sz, rn, renOf, look_cons, look, arcV, fV]) (by simp [appN, ptrs, SV.lt, SA.lt, SC.lt, arcV, fV]) ?_
      repeat' (first | exact rfl | ((conv => whnf); first | refine condP_mk (fun h => ?_) (fun h => ?_) | refine Ob.mk ?_ ?_ | refine Both.mk ?_ ?_))
      · refine Back.is ?_
        simp only [Bool.not_eq_true'] at h
        simp only [eqV, eqA, eqC, hj2, a2, arcIn, h]
        rfl
      simp only [Bool.not_eq_false'] at h
      have a3 := h
      clear h
      (conv => whnf)
      refine callI (within_c x.o 0 9) [] Try.call98 rfl trivial (by simp [appN, ptrs, eqVL, eqV, eqA, eqC, eqCs, eqAs, eqCaps, EK.sz, rn, renOf, look_cons, look, arcV, fV]) (by simp [appN, ptrs, SV.lt, SA.lt, SC.lt, arcV, fV]) ?_
      repeat' (first | exact rfl | ((conv => whnf); first | refine condP_mk (fun h => ?_) (fun h => ?_) | refine Ob.mk ?_ ?_ | refine Both.mk ?_ ?_))
      · refine Back.is ?_
        simp only [Bool.not_eq_true'] at h
        simp only [eqV, eqA, eqC, hj2, a2, arcIn, a3, h]
        rfl
      simp only [Bool.not_eq_false'] at h
      have a4 := h
      clear h
      (conv => whnf)
      refine callI (within_c x.w 0 1000000000) [] Try.call98 rfl trivial (by simp [appN, ptrs, eqVL, eqV, eqA, eqC, eqCs, eqAs, eqCaps, EK.sz, rn, renOf, look_cons, look, arcV, fV]) (by simp [appN, ptrs, SV.lt, SA.lt, SC.lt, arcV, fV]) ?_
      repeat' (first | exact rfl | ((conv => whnf); first | refine condP_mk (fun h => ?_) (fun h => ?_) | refine Ob.mk ?_ ?_ | refine Both.mk ?_ ?_))
      · refine Back.is ?_
        simp only [Bool.not_eq_true'] at h
        simp only [eqV, eqA, eqC, hj2, a2, arcIn, a3, a4, h]
        rfl
      simp only [Bool.not_eq_false'] at h
      have a5 : arcIn x = true := by simp only [arcIn, a3, a4, h]; rfl
      clear h
      (conv => whnf)
      refine draw_of Try.mixed Try.tyOk 60 (by kernel_rfl) ?_
      repeat' (first | exact rfl | ((conv => whnf); first | refine condP_mk (fun h => ?_) (fun h => ?_) | refine Ob.mk ?_ ?_ | refine Both.mk ?_ ?_))
      · unfold InI; omega
      · simp only [decide_eq_true_eq, gt_iff_lt] at h; omega
      · simp only [decide_eq_true_eq, gt_iff_lt] at h; omega
      · simp only [decide_eq_true_eq, gt_iff_lt] at h
        have hj0 : j ≠ 0 := by omega
        clear h
        have e : 0 + ((j : Int) - 1).toNat = j - 1 := by omega
        (conv => whnf)
        simp only [e, Nat.zero_add, Int.toNat_natCast]
        simp only [if_neg hj0] at hj2
        generalize hy : F.arcs.getD (j - 1) EK.arc.dflt = y at hj2 ⊢
        refine callI (order_c y x) [] Try.call100 rfl trivial (by simp [appN, ptrs, eqVL, eqV, eqA, eqC, eqCs, eqAs, eqCaps, EK.sz, rn, renOf, look_cons, look, arcV, fV]) (by simp [appN, ptrs, SV.lt, SA.lt, SC.lt, arcV, fV]) ?_
        repeat' (first | exact rfl | ((conv => whnf); first | refine condP_mk (fun h => ?_) (fun h => ?_) | refine Ob.mk ?_ ?_ | refine Both.mk ?_ ?_))
        · refine Back.is ?_
          rw [orderI_ahead] at h
          simp only [eqV, eqA, eqC, hj2, a2, a5, h]
          rfl
        · unfold InI; omega
        · rw [orderI_ahead] at h
          simp only [Bool.not_eq_false'] at h
          (conv => whnf)
          refine ⟨j + 1, [], ⟨by rfl, ?_, ?_⟩, ⟨hj, ?_⟩, by omega⟩
          · simp [eqFr, eqHp, eqV, eqA, eqC, eqO, eqCs, eqAs, look_cons, look, rn, EK.cast, EK.sz, eqCaps]
          · simp [eqFr, eqHp, eqV, eqA, eqC, eqO, eqCs, eqAs, look_cons, look, rn, EK.cast, EK.sz, eqCaps]
          · simp only [a2, a5, h, Bool.not_true, Bool.false_eq_true, if_false] at hj2
            rw [if_neg (Nat.succ_ne_zero j), Nat.add_sub_cancel, hx]
            exact hj2
      · unfold InI; omega
      · simp only [decide_eq_false_iff_not, gt_iff_lt] at h
        have hj0 : j = 0 := by omega
        simp only [if_pos hj0] at hj2
        (conv => whnf)
        refine ⟨j + 1, [], ⟨by rfl, ?_, ?_⟩, ⟨hj, ?_⟩, by omega⟩
        · simp [eqFr, eqHp, eqV, eqA, eqC, eqO, eqCs, eqAs, look_cons, look, rn, EK.cast, EK.sz, eqCaps]
        · simp [eqFr, eqHp, eqV, eqA, eqC, eqO, eqCs, eqAs, look_cons, look, rn, EK.cast, EK.sz, eqCaps]
        · simp only [a2, a5, Bool.not_true, Bool.false_eq_true, if_false] at hj2
          rw [if_neg (Nat.succ_ne_zero j), Nat.add_sub_cancel, hx]
          exact hj2
    · refine Back.is ?_
      simp only [decide_eq_false_iff_not] at h
      rw [List.drop_eq_nil_of_le (by omega), arcsE_nil] at hj2
      simp only [eqV, eqA, eqC, hj2]
end Go.Fw

namespace Go.Fw
open Go Go.Proofs

/-- The answer: a slice of its own, numbered m. -/
def Sl (m E : Nat) (k : EK) (xs : List k.ty) (v : SV) (s : S) : Prop := ∃ sp, v = .c (.sl m k.sz 0 xs.length (xs.length + sp)) ∧ s = ⟨[], [(m, .arr true E k xs sp)], m + 1⟩

set_option maxHeartbeats 2000000 in
set_option maxRecDepth 20000 in
theorem begun_c (F : TF) (h1 : 1 ≤ F.st ∧ F.st ≤ 200) : Ct Try.prog 53 [fV F] [] (hpF F) 2 (Sl 2 3 .int (begun F)) := by
  refine ctW Try.tyOk 5 [] Try.func53 rfl (by simp [SV.lt, SA.lt, SC.lt, arcV, fV]) (by simp) (fr := [(0, fV F)]) rfl ?_
  (conv => whnf)
  refine loopI (fun x : Nat × Nat => ⟨[(1, .c (.ptr 2 0)), (2, .c (.v (.slice none 0 0))), (3, .c (.sl 3 1 0 x.1 (x.1 + x.2))), (4, .i x.1)], [(2, .box 25 (fCells F)), (3, .arr true 3 .int ((List.range x.1).map (begF F.start)) x.2)], 4⟩) (fun x => x.1 ≤ F.st.toNat) (fun x => F.st.toNat - x.1) (0, 0) [(3, none)] ⟨by rfl, ?_, ?_⟩ (by simp) ?_
  · simp [eqFr, eqHp, eqV, eqA, eqC, eqO, eqCs, eqAs, look_cons, look, rn, EK.cast, EK.sz, eqCaps]
  · simp [eqHp, eqC, eqO, eqCs, look_cons, look, rn, EK.cast, nilO, fCells]
  · rintro ⟨k, sp⟩ hk
    simp only at hk ⊢
    repeat' (first | exact rfl | ((conv => whnf); first | refine condP_mk (fun h => ?_) (fun h => ?_) | refine Ob.mk ?_ ?_ | refine Both.mk ?_ ?_))
    · simp
    · simp
    · omega
    · intro sp'
      rename_i hkk
      repeat' (first | exact rfl | ((conv => whnf); first | refine condP_mk (fun h => ?_) (fun h => ?_) | refine Ob.mk ?_ ?_ | refine Both.mk ?_ ?_))
      · unfold InI; omega
      · (conv => whnf)
        refine ⟨(k + 1, sp'), [(3, some 5)], ⟨by rfl, ?_, ?_⟩, ?_, ?_⟩
        · simp [eqFr, eqHp, eqV, eqA, eqC, eqO, eqCs, eqAs, look_cons, look, rn, EK.cast, EK.sz, eqCaps]
        · simp [eqHp, eqC, eqO, eqCs, look_cons, look, rn, EK.cast, nilO, fCells]
          exact ((app_one _ k _ (by simp)).trans (by rw [beg_succ, begF_eq h])).symm
        · simp only [decide_eq_true_eq] at hkk
          show k + 1 ≤ F.st.toNat
          omega
        · simp only [decide_eq_true_eq] at hkk
          show F.st.toNat - (k + 1) < F.st.toNat - k
          omega
    · simp
    · simp
    · omega
    · intro sp'
      rename_i hkk
      repeat' (first | exact rfl | ((conv => whnf); first | refine condP_mk (fun h => ?_) (fun h => ?_) | refine Ob.mk ?_ ?_ | refine Both.mk ?_ ?_))
      · unfold InI; omega
      · (conv => whnf)
        refine ⟨(k + 1, sp'), [(3, some 5)], ⟨by rfl, ?_, ?_⟩, ?_, ?_⟩
        · simp [eqFr, eqHp, eqV, eqA, eqC, eqO, eqCs, eqAs, look_cons, look, rn, EK.cast, EK.sz, eqCaps]
        · simp [eqHp, eqC, eqO, eqCs, look_cons, look, rn, EK.cast, nilO, fCells]
          exact ((app_one _ k _ (by simp)).trans (by rw [beg_succ, begF_ne h])).symm
        · simp only [decide_eq_true_eq] at hkk
          show k + 1 ≤ F.st.toNat
          omega
        · simp only [decide_eq_true_eq] at hkk
          show F.st.toNat - (k + 1) < F.st.toNat - k
          omega
    · (conv => whnf)
      simp only [decide_eq_false_iff_not] at h
      have hk : k = F.st.toNat := by omega
      subst hk
      exact ⟨[(2, some 3)], [(2, .arr true 3 .int (begun F) sp)], 3, .c (.sl 2 1 0 (begun F).length ((begun F).length + sp)), ⟨by rfl, trivial, by simp [eqFr, eqHp, eqV, eqA, eqC, eqO, eqCs, eqAs, look_cons, look, rn, EK.cast, EK.sz, eqCaps]; rfl⟩, by simp [eqV, eqA, eqC, rn, look, begun], ⟨sp, rfl, rfl⟩⟩
end Go.Fw

namespace Go.Fw
open Go Go.Proofs

set_option maxHeartbeats 4000000 in
set_option maxRecDepth 20000 in
theorem fromOf_c (F : TF) (hF : FOk F) : Ct Try.prog 20 [fV F] [] (hpF F) 2 (Sl 2 3 .int (fromOf F)) := by
  refine ctW Try.tyOk 7 [] Try.func20 rfl (by simp [SV.lt, SA.lt, SC.lt, arcV, fV]) (by simp) (fr := [(0, fV F)]) rfl ?_
  (conv => whnf)
  refine callF (begun_c F hF.st) [0, 1] Try.call53 rfl (by simp [eqLs, eqL, eqO, eqC, eqCs, rn, renOf, look_cons, look, EK.cast]) (by simp [appN, ptrs, eqVL, eqV, eqA, eqC, eqCs, rn, renOf, look_cons, look, fV]) (by simp [appN, ptrs, SV.lt, SA.lt, SC.lt]) ?_
  rintro _ _ ⟨sp, rfl, rfl⟩
  (conv => whnf)
  refine loopI (fun n : Nat => ⟨[(1, .c (.ptr 2 0)), (2, .c (.v (.slice none 0 0))), (3, .c (.sl 3 1 0 (begun F).length ((begun F).length + sp))), (4, .i n)], [(1, .arr false 47 .arc F.arcs 0), (2, .box 25 (fCells F)), (3, .arr true 3 .int (iterN (roundF F.arcs) n (begun F)) sp)], 4⟩) (fun n => n ≤ F.st.toNat) (fun n => F.st.toNat - n) 0 [] ⟨by rfl, ?_, ?_⟩ (by simp) ?_
  · simp [eqFr, eqHp, eqV, eqA, eqC, eqO, eqCs, eqAs, look_cons, look, rn, EK.cast, EK.sz, eqCaps]
  · simp [eqHp, eqC, eqO, eqCs, look_cons, look, rn, EK.cast, nilO, fCells, iterN]
  · intro n hn
    repeat' (first | exact rfl | ((conv => whnf); first | refine condP_mk (fun h => ?_) (fun h => ?_) | refine Ob.mk ?_ ?_ | refine Both.mk ?_ ?_))
    · simp only [decide_eq_true_eq] at h
      have hn2 : n + 1 ≤ F.st.toNat := by omega
      have hst := hF.st
      clear h
      have hb := Bd.iter hF n
      generalize hc : iterN (roundF F.arcs) n (begun F) = c at hb ⊢
      (conv => whnf)
      refine loopI (fun k : Nat => ⟨[(1, .c (.ptr 2 0)), (2, .c (.v (.slice none 0 0))), (3, .c (.sl 3 1 0 (begun F).length ((begun F).length + sp))), (4, .i n), (5, .i k)], [(1, .arr false 47 .arc F.arcs 0), (2, .box 25 (fCells F)), (3, .arr true 3 .int (roundF (F.arcs.take k) c) sp)], 4⟩) (fun k => k ≤ F.arcs.length) (fun k => F.arcs.length - k) 0 [] ⟨by rfl, ?_, ?_⟩ (by simp) ?_
      · simp [eqFr, eqHp, eqV, eqA, eqC, eqO, eqCs, eqAs, look_cons, look, rn, EK.cast, EK.sz, eqCaps]
      · simp [eqHp, eqC, eqO, eqCs, look_cons, look, rn, EK.cast, nilO, fCells, roundF]
      · intro k hk
        repeat' (first | exact rfl | ((conv => whnf); first | refine condP_mk (fun h => ?_) (fun h => ?_) | refine Ob.mk ?_ ?_ | refine Both.mk ?_ ?_))
        · simp only [decide_eq_true_eq] at h; omega
        · simp only [decide_eq_true_eq] at h; omega
        · simp only [decide_eq_true_eq] at h
          have hk2 : k < F.arcs.length := by omega
          clear h
          (conv => whnf)
          simp only [Nat.zero_add, Int.toNat_natCast]
          have ha := hF.arc _ (getD_mem F.arcs k EK.arc.dflt hk2)
          have hcb := Bd.fold (F.arcs.take k) hb (by omega) (fun x hx => hF.arc x (List.mem_of_mem_take hx))
          have hrt := roundF_take F.arcs k EK.arc.dflt hk2 c
          have hbl := (begun_bd hF).len
          generalize hx : F.arcs.getD k EK.arc.dflt = x at ha hrt ⊢
          generalize hcc : roundF (F.arcs.take k) c = cc at hcb hrt ⊢
          have hcl := hcb.len
          have t0 := ha.t0
          have t1 := ha.t1
          have f0 := ha.f0
          have f1 := ha.f1
          refine draw_of Try.mixed Try.tyOk 60 (by kernel_rfl) ?_
          repeat' (first | exact rfl | ((conv => whnf); first | refine condP_mk (fun h => ?_) (fun h => ?_) | refine Ob.mk ?_ ?_ | refine Both.mk ?_ ?_))
          · omega
          · show 0 + x.t.toNat < cc.length
            omega
          · omega
          · show 0 + x.f.toNat < cc.length
            omega
          · have bf := hcb.at f0 f1
            have bt := hcb.at t0 t1
            have w0 := ha.w0
            have w1 := ha.w1
            have hal := hF.arcl
            have htl : (F.arcs.take k).length ≤ 3000 := by rw [List.length_take]; omega
            (conv => whnf)
            simp only [Nat.zero_add, EK.dflt]
            have hI : InI (cc.getD x.f.toNat 0 + x.w) := by unfold InI; omega
            refine callI (plus_c (cc.getD x.f.toNat 0) x.w hI) [] Try.call67 rfl trivial (by simp [appN, ptrs, eqVL, eqV, eqA, eqC, eqCs, eqAs, eqCaps, EK.sz, rn, renOf, look_cons, look, arcV, fV]) (by simp [appN, ptrs, SV.lt, SA.lt, SC.lt, arcV, fV]) ?_
            repeat' (first | exact rfl | ((conv => whnf); first | refine condP_mk (fun h => ?_) (fun h => ?_) | refine Ob.mk ?_ ?_ | refine Both.mk ?_ ?_))
            · show x.t.toNat < cc.length
              omega
            · (conv => whnf)
              simp only [Nat.zero_add, EK.dflt]
              refine callI (less_c (cc.getD x.t.toNat 0) (plus (cc.getD x.f.toNat 0) x.w)) [] Try.call42 rfl trivial (by simp [appN, ptrs, eqVL, eqV, eqA, eqC, eqCs, eqAs, eqCaps, EK.sz, rn, renOf, look_cons, look, arcV, fV]) (by simp [appN, ptrs, SV.lt, SA.lt, SC.lt, arcV, fV]) ?_
              repeat' (first | exact rfl | ((conv => whnf); first | refine condP_mk (fun h => ?_) (fun h => ?_) | refine Ob.mk ?_ ?_ | refine Both.mk ?_ ?_))
              · omega
              · show 0 + x.t.toNat < cc.length
                omega
              · unfold InI; omega
              · (conv => whnf)
                refine ⟨k + 1, [], ⟨by rfl, ?_, ?_⟩, hk2, by omega⟩
                · simp [eqFr, eqHp, eqV, eqA, eqC, eqO, eqCs, eqAs, look_cons, look, rn, EK.cast, EK.sz, eqCaps]
                · simp [eqHp, eqC, eqO, eqCs, look_cons, look, rn, EK.cast, nilO, fCells, hrt, relax, less, plus]
        · unfold InI; omega
        · (conv => whnf)
          simp only [decide_eq_false_iff_not] at h
          rw [List.take_of_length_le (by omega)]
          refine ⟨n + 1, [], ⟨by rfl, ?_, ?_⟩, hn2, by omega⟩
          · simp [eqFr, eqHp, eqV, eqA, eqC, eqO, eqCs, eqAs, look_cons, look, rn, EK.cast, EK.sz, eqCaps]
          · simp [eqHp, eqC, eqO, eqCs, look_cons, look, rn, EK.cast, nilO, fCells, iterN, hc]
    · (conv => whnf)
      simp only [decide_eq_false_iff_not] at h
      have hst := hF.st
      have hn2 : n = F.st.toNat := by omega
      subst hn2
      have hl1 := (Bd.iter hF F.st.toNat).len
      have hl2 := (begun_bd hF).len
      have hl3 : (begun F).length = (fromOf F).length := by
        have : ((fromOf F).length : Int) = F.st := hl1
        omega
      exact ⟨[(2, some 3)], [(2, .arr true 3 .int (fromOf F) sp)], 3, .c (.sl 2 1 0 (fromOf F).length ((fromOf F).length + sp)), ⟨by rfl, trivial, by simp [eqFr, eqHp, eqV, eqA, eqC, eqO, eqCs, eqAs, look_cons, look, rn, EK.cast, EK.sz, eqCaps]; rfl⟩, by simp [eqV, eqA, eqC, rn, look, hl3], ⟨sp, rfl, rfl⟩⟩
end Go.Fw

namespace Go.Fw
open Go Go.Proofs

set_option maxHeartbeats 4000000 in
set_option maxRecDepth 20000 in
theorem toOf_c (F : TF) (hF : FOk F) : Ct Try.prog 21 [fV F] [] (hpF F) 2 (Sl 2 3 .int (toOf F)) := by
  refine ctW Try.tyOk 7 [] Try.func21 rfl (by simp [SV.lt, SA.lt, SC.lt, arcV, fV]) (by simp) (fr := [(0, fV F)]) rfl ?_
  (conv => whnf)
  repeat' (first | exact rfl | ((conv => whnf); first | refine condP_mk (fun h => ?_) (fun h => ?_) | refine Ob.mk ?_ ?_ | refine Both.mk ?_ ?_))
  · simp
  · simp
  · have := hF.finl; have := hF.st; omega
  intro sp
  (conv => whnf)
  refine loopI (fun n : Nat => ⟨[(1, .c (.ptr 2 0)), (2, .c (.v (.slice none 0 0))), (3, .c (.sl 3 1 0 F.fin.length (F.fin.length + sp))), (4, .i n)], [(1, .arr false 47 .arc F.arcs 0), (2, .box 25 (fCells F)), (3, .arr true 3 .int (iterN (roundF (backs F)) n F.fin) sp)], 4⟩) (fun n => n ≤ F.st.toNat) (fun n => F.st.toNat - n) 0 [(3, some 4)] ⟨by rfl, ?_, ?_⟩ (by simp) ?_
  · simp [eqFr, eqHp, eqV, eqA, eqC, eqO, eqCs, eqAs, look_cons, look, rn, EK.cast, EK.sz, eqCaps]
  · simp [eqHp, eqC, eqO, eqCs, look_cons, look, rn, EK.cast, nilO, fCells, iterN]
    exact (app_nil _ _ rfl).symm
  · intro n hn
    repeat' (first | exact rfl | ((conv => whnf); first | refine condP_mk (fun h => ?_) (fun h => ?_) | refine Ob.mk ?_ ?_ | refine Both.mk ?_ ?_))
    · have := hF.arcl
      unfold InI; omega
    · simp only [decide_eq_true_eq] at h
      have hn2 : n + 1 ≤ F.st.toNat := by omega
      have hst := hF.st
      clear h
      have hb := Bd.iterT hF n
      generalize hc : iterN (roundF (backs F)) n F.fin = c at hb ⊢
      (conv => whnf)
      refine loopI (fun k : Nat => ⟨[(1, .c (.ptr 2 0)), (2, .c (.v (.slice none 0 0))), (3, .c (.sl 3 1 0 F.fin.length (F.fin.length + sp))), (4, .i n), (5, .i ((F.arcs.length : Int) - 1 - k))], [(1, .arr false 47 .arc F.arcs 0), (2, .box 25 (fCells F)), (3, .arr true 3 .int (roundF ((backs F).take k) c) sp)], 4⟩) (fun k => k ≤ F.arcs.length) (fun k => F.arcs.length - k) 0 [] ⟨by rfl, ?_, ?_⟩ (by simp) ?_
      · simp [eqFr, eqHp, eqV, eqA, eqC, eqO, eqCs, eqAs, look_cons, look, rn, EK.cast, EK.sz, eqCaps]
      · simp [eqHp, eqC, eqO, eqCs, look_cons, look, rn, EK.cast, nilO, fCells, roundF]
      · intro k hk
        have hal := hF.arcl
        repeat' (first | exact rfl | ((conv => whnf); first | refine condP_mk (fun h => ?_) (fun h => ?_) | refine Ob.mk ?_ ?_ | refine Both.mk ?_ ?_))
        · simp only [decide_eq_true_eq] at h; omega
        · simp only [decide_eq_true_eq] at h; omega
        · simp only [decide_eq_true_eq] at h
          have hk2 : k < F.arcs.length := by omega
          clear h
          have e : 0 + ((F.arcs.length : Int) - 1 - k).toNat = F.arcs.length - 1 - k := by omega
          (conv => whnf)
          simp only [e]
          have ha := hF.arc _ (getD_mem F.arcs (F.arcs.length - 1 - k) EK.arc.dflt (by omega))
          have hcb := Bd.fold ((backs F).take k) hb (by omega) (fun x hx => backs_ok hF x (List.mem_of_mem_take hx))
          have hrt := roundF_take (backs F) k EK.arc.dflt (by rw [backs_len]; exact hk2) c
          rw [backs_at F k hk2] at hrt
          have hbl := hF.finl
          generalize hx : F.arcs.getD (F.arcs.length - 1 - k) EK.arc.dflt = x at ha hrt ⊢
          generalize hcc : roundF ((backs F).take k) c = cc at hcb hrt ⊢
          have hcl := hcb.len
          have t0 := ha.t0
          have t1 := ha.t1
          have f0 := ha.f0
          have f1 := ha.f1
          refine draw_of Try.mixed Try.tyOk 60 (by kernel_rfl) ?_
          repeat' (first | exact rfl | ((conv => whnf); first | refine condP_mk (fun h => ?_) (fun h => ?_) | refine Ob.mk ?_ ?_ | refine Both.mk ?_ ?_))
          · omega
          · show 0 + x.f.toNat < cc.length
            omega
          · omega
          · show 0 + x.t.toNat < cc.length
            omega
          · have bf := hcb.at f0 f1
            have bt := hcb.at t0 t1
            have w0 := ha.w0
            have w1 := ha.w1
            have htl : ((backs F).take k).length ≤ 3000 := by rw [List.length_take, backs_len]; omega
            (conv => whnf)
            simp only [Nat.zero_add, EK.dflt]
            have hI : InI (cc.getD x.t.toNat 0 + x.w) := by unfold InI; omega
            refine callI (plus_c (cc.getD x.t.toNat 0) x.w hI) [] Try.call67 rfl trivial (by simp [appN, ptrs, eqVL, eqV, eqA, eqC, eqCs, eqAs, eqCaps, EK.sz, rn, renOf, look_cons, look, arcV, fV]) (by simp [appN, ptrs, SV.lt, SA.lt, SC.lt, arcV, fV]) ?_
            repeat' (first | exact rfl | ((conv => whnf); first | refine condP_mk (fun h => ?_) (fun h => ?_) | refine Ob.mk ?_ ?_ | refine Both.mk ?_ ?_))
            · show x.f.toNat < cc.length
              omega
            · (conv => whnf)
              simp only [Nat.zero_add, EK.dflt]
              refine callI (less_c (cc.getD x.f.toNat 0) (plus (cc.getD x.t.toNat 0) x.w)) [] Try.call42 rfl trivial (by simp [appN, ptrs, eqVL, eqV, eqA, eqC, eqCs, eqAs, eqCaps, EK.sz, rn, renOf, look_cons, look, arcV, fV]) (by simp [appN, ptrs, SV.lt, SA.lt, SC.lt, arcV, fV]) ?_
              repeat' (first | exact rfl | ((conv => whnf); first | refine condP_mk (fun h => ?_) (fun h => ?_) | refine Ob.mk ?_ ?_ | refine Both.mk ?_ ?_))
              · omega
              · show 0 + x.f.toNat < cc.length
                omega
              · unfold InI; omega
              · (conv => whnf)
                have e2 : (F.arcs.length : Int) - 1 - k - 1 = (F.arcs.length : Int) - 1 - ((k + 1 : Nat) : Int) := by omega
                simp only [e2]
                refine ⟨k + 1, [], ⟨by rfl, ?_, ?_⟩, hk2, by omega⟩
                · simp [eqFr, eqHp, eqV, eqA, eqC, eqO, eqCs, eqAs, look_cons, look, rn, EK.cast, EK.sz, eqCaps]
                · simp [eqHp, eqC, eqO, eqCs, look_cons, look, rn, EK.cast, nilO, fCells, hrt, relax, less, plus, swap]
        · unfold InI; omega
        · (conv => whnf)
          simp only [decide_eq_false_iff_not] at h
          rw [List.take_of_length_le (by rw [backs_len]; omega)]
          refine ⟨n + 1, [], ⟨by rfl, ?_, ?_⟩, hn2, by omega⟩
          · simp [eqFr, eqHp, eqV, eqA, eqC, eqO, eqCs, eqAs, look_cons, look, rn, EK.cast, EK.sz, eqCaps]
          · simp [eqHp, eqC, eqO, eqCs, look_cons, look, rn, EK.cast, nilO, fCells, iterN, hc]
    · (conv => whnf)
      simp only [decide_eq_false_iff_not] at h
      have hst := hF.st
      have hn2 : n = F.st.toNat := by omega
      subst hn2
      have hl1 := (Bd.iterT hF F.st.toNat).len
      have hl2 := hF.finl
      have hl3 : F.fin.length = (toOf F).length := by
        have : ((toOf F).length : Int) = F.st := hl1
        omega
      exact ⟨[(2, some 3)], [(2, .arr true 3 .int (toOf F) sp)], 3, .c (.sl 2 1 0 (toOf F).length ((toOf F).length + sp)), ⟨by rfl, trivial, by simp [eqFr, eqHp, eqV, eqA, eqC, eqO, eqCs, eqAs, look_cons, look, rn, EK.cast, EK.sz, eqCaps]; rfl⟩, by simp [eqV, eqA, eqC, rn, look, hl3], ⟨sp, rfl, rfl⟩⟩
end Go.Fw

namespace Go.Fw
open Go Go.Proofs

theorem clone_c (l : List Int) (cap : Nat) (hl : l.length ≤ 1000000) : Ct Try.prog 104 [.c (.sl 0 1 0 l.length cap)] [] [(0, .arr false 3 .int l 0)] 1 (Sl 1 3 .int l) := by
  refine ctW Try.tyOk 3 [] Try.func104 rfl (by simp [SV.lt, SA.lt, SC.lt, arcV, fV]) (by simp) (fr := [(0, .c (.sl 0 1 0 l.length cap))]) rfl ?_
  (conv => whnf)
  intro c hc
  repeat' (first | exact rfl | ((conv => whnf); first | refine condP_mk (fun h => ?_) (fun h => ?_) | refine Ob.mk ?_ ?_ | refine Both.mk ?_ ?_))
  · (conv => whnf)
    have hl0 := hc h
    subst hl0
    exact ⟨[(1, none)], [(1, .arr true 3 .int [] 0)], 2, .c (.sl 1 1 0 0 0), ⟨by rfl, trivial, by simp [eqHp, rn, look, nilO]⟩, by simp [eqV, eqA, eqC, rn, look], ⟨0, rfl, rfl⟩⟩
  · simp
  · simp
  · omega
  · intro sp
    (conv => whnf)
    exact ⟨[(1, some 2)], [(1, .arr true 3 .int l sp)], 2, .c (.sl 1 1 0 l.length (l.length + sp)), ⟨by rfl, trivial, by simp [eqFr, eqHp, eqV, eqA, eqC, eqO, eqCs, eqAs, look_cons, look, rn, EK.cast, EK.sz, eqCaps]; exact (app_nil _ _ rfl).symm⟩, by simp [eqV, eqA, eqC, rn, look, EK.sz], ⟨sp, rfl, rfl⟩⟩

set_option maxHeartbeats 2000000 in
set_option maxRecDepth 20000 in
theorem sameInts_c (a b : List Int) (ca cb : Nat) (ha : a.length ≤ 9223372036854775807) (hl : b.length ≤ 9223372036854775807) :
    Ct Try.prog 24 [.c (.sl 0 1 0 a.length ca), .c (.sl 1 1 0 b.length cb)] [] [(0, .arr false 3 .int a 0), (1, .arr false 3 .int b 0)] 2 (Is 2 (.b (decide (a = b)))) := by
  refine ctW Try.tyOk 6 [] Try.func24 rfl (by simp [SV.lt, SA.lt, SC.lt, arcV, fV]) (by simp) (fr := [(0, .c (.sl 0 1 0 a.length ca)), (1, .c (.sl 1 1 0 b.length cb))]) rfl ?_
  repeat' (first | exact rfl | ((conv => whnf); first | refine condP_mk (fun h => ?_) (fun h => ?_) | refine Ob.mk ?_ ?_ | refine Both.mk ?_ ?_))
  · simp only [bne_iff_ne] at h
    have : a ≠ b := fun e => h (by rw [e])
    (conv => whnf)
    exact ⟨[], [], 2, .b (decide (a = b)), ⟨by rfl, trivial, trivial⟩, by simp [eqV, eqA, eqC, this], rfl, rfl⟩
  simp only [bne_eq_false_iff_eq] at h
  have hab : a.length = b.length := by omega
  clear h
  (conv => whnf)
  refine loopI (fun k : Nat => ⟨[(0, .c (.sl 0 1 0 a.length ca)), (1, .c (.sl 1 1 0 b.length cb)), (4, .b false), (5, .i k)], [(0, .arr false 3 .int a 0), (1, .arr false 3 .int b 0)], 2⟩) (fun k => k ≤ a.length ∧ ∀ j, j < k → a.getD j 0 = b.getD j 0) (fun k => a.length - k) 0 [] ⟨by rfl, ?_, ?_⟩ (by simp) ?_
  · simp [eqFr, eqHp, eqV, eqA, eqC, eqO, eqCs, eqAs, look_cons, look, rn, EK.cast, EK.sz, eqCaps]
  · simp [eqFr, eqHp, eqV, eqA, eqC, eqO, eqCs, eqAs, look_cons, look, rn, EK.cast, EK.sz, eqCaps]
  · intro k ⟨hk1, hk2⟩
    repeat' (first | exact rfl | ((conv => whnf); first | refine condP_mk (fun h => ?_) (fun h => ?_) | refine Ob.mk ?_ ?_ | refine Both.mk ?_ ?_))
    refine draw_of Try.mixed Try.tyOk 60 (by kernel_rfl) ?_
    repeat' (first | exact rfl | ((conv => whnf); first | refine condP_mk (fun h => ?_) (fun h => ?_) | refine Ob.mk ?_ ?_ | refine Both.mk ?_ ?_))
    · simp only [decide_eq_true_eq] at h; omega
    · simp only [decide_eq_true_eq] at h; omega
    · simp only [decide_eq_true_eq] at h; omega
    · simp only [decide_eq_true_eq] at h; omega
    · rename_i hk
      simp only [decide_eq_true_eq, bne_iff_ne, Nat.zero_add, Int.toNat_natCast, EK.dflt] at h hk
      have : a ≠ b := fun e => h (by rw [e])
      (conv => whnf)
      exact ⟨[], [], 2, .b (decide (a = b)), ⟨by rfl, trivial, trivial⟩, by simp [eqV, eqA, eqC, this], rfl, rfl⟩
    · rename_i hk
      simp only [decide_eq_true_eq] at hk
      unfold InI; omega
    · rename_i hk
      simp only [decide_eq_true_eq, bne_eq_false_iff_eq, Nat.zero_add, Int.toNat_natCast, EK.dflt] at h hk
      (conv => whnf)
      refine ⟨k + 1, [], ⟨by rfl, ?_, ?_⟩, ⟨by omega, fun j hj => ?_⟩, by omega⟩
      · simp [eqFr, eqHp, eqV, eqA, eqC, eqO, eqCs, eqAs, look_cons, look, rn, EK.cast, EK.sz, eqCaps]
      · simp [eqFr, eqHp, eqV, eqA, eqC, eqO, eqCs, eqAs, look_cons, look, rn, EK.cast, EK.sz, eqCaps]
      · exact if e : j = k then e ▸ h else hk2 j (by omega)
    · simp only [decide_eq_false_iff_not] at h
      have : a = b := sameTake a b hab fun j hj => hk2 j (by omega)
      (conv => whnf)
      exact ⟨[], [], 2, .b (decide (a = b)), ⟨by rfl, trivial, trivial⟩, by simp [eqV, eqA, eqC, this], rfl, rfl⟩
end Go.Fw

namespace Go.Fw
open Go Go.Proofs

def oneV (i j : Nat) : SV := .a (.agg [.i 2, .i 0, .sl i 1 0 2 2, .sl j 5 0 1 1])

theorem one_c : Ct Try.prog 55 [] [] [] 0 (fun v s => v = oneV 0 1 ∧ s = ⟨[], [(0, .arr true 3 .int [-1, 1] 0), (1, .arr true 47 .arc [⟨0, 1, 2, 1, 5⟩] 0)], 2⟩) := by
  refine ctW Try.tyOk 1 [] Try.func55 rfl (by simp) (by simp) (fr := []) rfl ?_
  repeat' (first | exact rfl | ((conv => whnf); first | refine condP_mk (fun h => ?_) (fun h => ?_) | refine Ob.mk ?_ ?_ | refine Both.mk ?_ ?_))
  (conv => whnf)
  exact ⟨[(0, some 1), (1, some 2)], [(0, .arr true 3 .int [-1, 1] 0), (1, .arr true 47 .arc [⟨0, 1, 2, 1, 5⟩] 0)], 2, oneV 0 1, ⟨by rfl, trivial, by simp [eqFr, eqHp, eqV, eqA, eqC, eqO, eqCs, eqAs, look_cons, look, rn, EK.cast, EK.sz, eqCaps]⟩, by simp [oneV, eqV, eqA, eqC, eqCs, rn, look, EK.sz], rfl, rfl⟩

/-- A transducer's two slices, wherever. -/
abbrev hpO (F : TF) (oa ob : Bool) (sa sb : Nat) : List (Nat × SO) := [(0, .arr oa 3 .int F.fin sa), (1, .arr ob 47 .arc F.arcs sb)]

end Go.Fw

namespace Go.Fw
open Go Go.Proofs

def gV (F : TF) : SV := .a (.agg [.i F.st, .i F.start, .sl 2 1 0 F.fin.length F.capF, .sl 3 5 0 F.arcs.length F.capA])
abbrev hpG (F G : TF) : List (Nat × SO) := [(0, .arr false 3 .int F.fin 0), (1, .arr false 47 .arc F.arcs 0), (2, .arr false 3 .int G.fin 0), (3, .arr false 47 .arc G.arcs 0)]

set_option maxHeartbeats 4000000 in
set_option maxRecDepth 20000 in
theorem sameFst_c (F G : TF) (h1 : F.fin.length ≤ 9223372036854775807) (h2 : G.fin.length ≤ 9223372036854775807) (h3 : F.arcs.length ≤ 9223372036854775807) : Ct Try.prog 31 [fV F, gV G] [] (hpG F G) 4 (Is 4 (.b (sameF F G))) := by
  refine ctW Try.tyOk 6 [] Try.func31 rfl (by simp [SV.lt, SA.lt, SC.lt, fV, gV]) (by simp) (fr := [(0, fV F), (1, gV G)]) rfl ?_
  repeat' (first | exact rfl | ((conv => whnf); first | refine condP_mk (fun h => ?_) (fun h => ?_) | refine Ob.mk ?_ ?_ | refine Both.mk ?_ ?_))
  · simp only [bne_iff_ne] at h
    refine Back.is ?_
    simp [eqV, eqA, eqC, sameF, h]
  · simp only [bne_iff_ne] at h
    refine Back.is ?_
    simp [eqV, eqA, eqC, sameF, h]
  rename_i e1
  simp only [bne_eq_false_iff_eq] at e1 h
  have e2 := h
  clear h
  (conv => whnf)
  refine callI (sameInts_c F.fin G.fin F.capF G.capF h1 h2) [0, 2] Try.call24 rfl (by simp [eqLs, eqL, eqO, eqC, eqCs, rn, renOf, look_cons, look, EK.cast]) (by simp [appN, ptrs, eqVL, eqV, eqA, eqC, rn, renOf, look_cons, look]) (by simp [appN, ptrs, SV.lt, SA.lt, SC.lt]) ?_
  repeat' (first | exact rfl | ((conv => whnf); first | refine condP_mk (fun h => ?_) (fun h => ?_) | refine Ob.mk ?_ ?_ | refine Both.mk ?_ ?_))
  · simp only [Bool.not_eq_true', decide_eq_false_iff_not] at h
    refine Back.is ?_
    simp [eqV, eqA, eqC, sameF, h]
  · simp only [bne_iff_ne] at h
    have : F.arcs ≠ G.arcs := fun e => h (by rw [e])
    refine Back.is ?_
    simp [eqV, eqA, eqC, sameF, this]
  rename_i e3
  simp only [Bool.not_eq_false', decide_eq_true_eq, bne_eq_false_iff_eq] at e3 h
  have e4 : F.arcs.length = G.arcs.length := by omega
  clear h
  (conv => whnf)
  refine loopI (fun k : Nat => ⟨[(2, .c (.ptr 4 0)), (3, .c (.ptr 5 0)), (4, .b false), (5, .i k)], [(1, .arr false 47 .arc F.arcs 0), (3, .arr false 47 .arc G.arcs 0), (4, .box 25 [.i F.st, .i F.start, .sl 0 1 0 F.fin.length F.capF, .sl 1 5 0 F.arcs.length F.capA]), (5, .box 25 [.i G.st, .i G.start, .sl 2 1 0 G.fin.length G.capF, .sl 3 5 0 G.arcs.length G.capA])], 6⟩) (fun k => k ≤ F.arcs.length ∧ ∀ j, j < k → F.arcs.getD j EK.arc.dflt = G.arcs.getD j EK.arc.dflt) (fun k => F.arcs.length - k) 0 [] ⟨by rfl, ?_, ?_⟩ (by simp) ?_
  · simp [eqFr, eqHp, eqV, eqA, eqC, eqO, eqCs, eqAs, look_cons, look, rn, EK.cast, EK.sz, eqCaps]
  · simp [eqFr, eqHp, eqV, eqA, eqC, eqO, eqCs, eqAs, look_cons, look, rn, EK.cast, EK.sz, eqCaps]
  · intro k ⟨hk1, hk2⟩
    repeat' (first | exact rfl | ((conv => whnf); first | refine condP_mk (fun h => ?_) (fun h => ?_) | refine Ob.mk ?_ ?_ | refine Both.mk ?_ ?_))
    refine draw_of Try.mixed Try.tyOk 60 (by kernel_rfl) ?_
    repeat' (first | exact rfl | ((conv => whnf); first | refine condP_mk (fun h => ?_) (fun h => ?_) | refine Ob.mk ?_ ?_ | refine Both.mk ?_ ?_))
    · simp only [decide_eq_true_eq] at h; omega
    · simp only [decide_eq_true_eq] at h; omega
    · simp only [decide_eq_true_eq] at h; omega
    · simp only [decide_eq_true_eq] at h; omega
    · rw [arcEq] at h
      simp only [Bool.not_eq_true', decide_eq_false_iff_not] at h
      have : F.arcs ≠ G.arcs := fun e => h (by rw [e])
      refine Back.is ?_
      simp [eqV, eqA, eqC, sameF, this]
    · rename_i hk
      simp only [decide_eq_true_eq] at hk
      unfold InI; omega
    · rename_i hk
      rw [arcEq] at h
      simp only [Bool.not_eq_false', decide_eq_true_eq, Nat.zero_add, Int.toNat_natCast] at h hk
      (conv => whnf)
      refine ⟨k + 1, [], ⟨by rfl, ?_, ?_⟩, ⟨by omega, fun j hj => ?_⟩, by omega⟩
      · simp [eqFr, eqHp, eqV, eqA, eqC, eqO, eqCs, eqAs, look_cons, look, rn, EK.cast, EK.sz, eqCaps]
      · simp [eqFr, eqHp, eqV, eqA, eqC, eqO, eqCs, eqAs, look_cons, look, rn, EK.cast, EK.sz, eqCaps]
      · exact if e : j = k then e ▸ h else hk2 j (by omega)
    · simp only [decide_eq_false_iff_not] at h
      have : F.arcs = G.arcs := sameTakeA _ _ e4 fun j hj => hk2 j (by omega)
      refine Back.is ?_
      simp [eqV, eqA, eqC, sameF, this, e1, e2, e3]
end Go.Fw

namespace Go.Fw
open Go Go.Proofs

def rhoM : Go.Shelf.Ren where
  f := fun n => if n = 212 then 125 else if n = 263 then 131 else if n = 264 then 132 else n
  t := fun n => if n = 46 then 142 else if n = 51 then 150 else if n = 53 then 153 else if n = 146 then 151 else if n = 148 then 154 else n
  g := fun n => n

set_option maxRecDepth 20000 in
theorem mulLays : Lays.n212 Try.prog rhoM where
  mixed := by kernel_rfl
  f212 := by kernel_rfl
  f263 := by kernel_rfl
  f264 := by kernel_rfl
  t46 := by kernel_rfl
  a46 := fun w => by kernel_rfl
  z46 := fun w => by kernel_rfl
  v46 := fun w => by kernel_rfl
  t51 := by kernel_rfl
  a51 := fun w => by kernel_rfl
  z51 := fun w => by kernel_rfl
  v51 := fun w => by kernel_rfl
  t53 := by kernel_rfl
  a53 := fun w => by kernel_rfl
  z53 := fun w => by kernel_rfl
  v53 := fun w => by kernel_rfl
  t146 := by kernel_rfl
  a146 := fun w => by kernel_rfl
  z146 := fun w => by kernel_rfl
  v146 := fun w => by kernel_rfl
  t148 := by kernel_rfl
  a148 := fun w => by kernel_rfl
  z148 := fun w => by kernel_rfl
  v148 := fun w => by kernel_rfl

theorem mul_c (x y : Nat) (hx : x < 18446744073709551616) (hy : y < 18446744073709551616) (h : x * y < 18446744073709551616) : Ct Try.prog 125 [.c (.u x), .c (.u y)] [] [] 0 (Is 0 (.tup [.c (.u 0), .c (.u (x * y : Nat))])) := by
  intro β Z fp w hs
  have key : Calls Try.prog 125 #[.int .u64 x, .int .u64 y] w _ := Any.bits_Mul mulLays x y hx hy w
  rw [Nat.div_eq_of_lt h, Nat.mod_eq_of_lt h] at key
  refine key.mono ?_
  rintro e w' ⟨rfl, rfl⟩
  exact ⟨.tup [.c (.u 0), .c (.u (x * y : Nat))], β, Z, fp, ⟨[], [], 0⟩, rfl, Nxt.refl hs (by simp [SV.lt, SA.lt, SC.lt]), rfl, rfl⟩

end Go.Fw
