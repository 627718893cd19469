/- Walks of the functions: what each computes. -/
import Derived.Test.YtiejplibehppnaaQ12

set_option linter.unusedSimpArgs false
set_option linter.unusedVariables false

namespace Go.Fw
open Go Go.Proofs

theorem stay_c (n : Int) : Ct Try.prog 81 [.i n] [] [] 0 (Is 0 (.i n)) := by
  refine ctW Try.tyOk 3 [] Try.func81 rfl (by simp [SV.lt, SA.lt, SC.lt, arcV, fV]) (by simp) (fr := [(0, .i n)]) rfl ?_
  repeat' (first | exact rfl | ((conv => whnf); first | refine condP_dec (fun h => absurd h (by omega)) (fun h => ?_) | refine condP_dec (fun h => ?_) (fun h => absurd h (by omega)) | refine condP_dec (fun h => ?_) (fun h => ?_) | refine condP_ndec (fun h => absurd h (by omega)) (fun h => ?_) | refine condP_ndec (fun h => ?_) (fun h => absurd h (by omega)) | refine condP_ndec (fun h => ?_) (fun h => ?_) | refine condP_beq (fun h => absurd h (by omega)) (fun h => ?_) | refine condP_beq (fun h => ?_) (fun h => absurd h (by omega)) | refine condP_beq (fun h => ?_) (fun h => ?_) | refine condP_bne (fun h => absurd h (by omega)) (fun h => ?_) | refine condP_bne (fun h => ?_) (fun h => absurd h (by omega)) | refine condP_bne (fun h => ?_) (fun h => ?_) | refine condP_mk (fun h => ?_) (fun h => ?_) | refine Ob.mk (by (first | omega | (simp only [InI, nmin, List.length_append, List.length_replicate, List.length_cons, List.length_nil, List.length_map, List.length_set, List.length_take, List.length_drop, List.length_reverse, List.length_range, Nat.zero_add, Nat.add_zero, Int.toNat_natCast, EK.sz]; omega) | (simp only [InI, nmin, List.length_append, List.length_replicate, List.length_cons, List.length_nil, List.length_map, List.length_set, List.length_take, List.length_drop, List.length_reverse, List.length_range, Nat.zero_add, Nat.add_zero, Int.toNat_natCast, EK.sz] at *; omega))) ?_ | refine Ob.mk ?_ ?_ | refine Both.mk ?_ ?_ | refine draw_of Try.mixed Try.tyOk 60 (by kernel_rfl) ?_))
  (conv => whnf)
  refine Back.is ?_
  simp [eqV, eqA, eqC]

theorem gone_c (n : Int) : Ct Try.prog 84 [.i n] [] [] 0 (Is 0 (.i (-1))) := by
  refine ctW Try.tyOk 3 [] Try.func84 rfl (by simp [SV.lt, SA.lt, SC.lt, arcV, fV]) (by simp) (fr := [(0, .i n)]) rfl ?_
  repeat' (first | exact rfl | ((conv => whnf); first | refine condP_dec (fun h => absurd h (by omega)) (fun h => ?_) | refine condP_dec (fun h => ?_) (fun h => absurd h (by omega)) | refine condP_dec (fun h => ?_) (fun h => ?_) | refine condP_ndec (fun h => absurd h (by omega)) (fun h => ?_) | refine condP_ndec (fun h => ?_) (fun h => absurd h (by omega)) | refine condP_ndec (fun h => ?_) (fun h => ?_) | refine condP_beq (fun h => absurd h (by omega)) (fun h => ?_) | refine condP_beq (fun h => ?_) (fun h => absurd h (by omega)) | refine condP_beq (fun h => ?_) (fun h => ?_) | refine condP_bne (fun h => absurd h (by omega)) (fun h => ?_) | refine condP_bne (fun h => ?_) (fun h => absurd h (by omega)) | refine condP_bne (fun h => ?_) (fun h => ?_) | refine condP_mk (fun h => ?_) (fun h => ?_) | refine Ob.mk (by (first | omega | (simp only [InI, nmin, List.length_append, List.length_replicate, List.length_cons, List.length_nil, List.length_map, List.length_set, List.length_take, List.length_drop, List.length_reverse, List.length_range, Nat.zero_add, Nat.add_zero, Int.toNat_natCast, EK.sz]; omega) | (simp only [InI, nmin, List.length_append, List.length_replicate, List.length_cons, List.length_nil, List.length_map, List.length_set, List.length_take, List.length_drop, List.length_reverse, List.length_range, Nat.zero_add, Nat.add_zero, Int.toNat_natCast, EK.sz] at *; omega))) ?_ | refine Ob.mk ?_ ?_ | refine Both.mk ?_ ?_ | refine draw_of Try.mixed Try.tyOk 60 (by kernel_rfl) ?_))
  (conv => whnf)
  refine Back.is ?_
  simp [eqV, eqA, eqC]

/-- The joiner's cells. -/
abbrev jCells (st : Int) (i j : Nat) (l : List Int) (ar : List Arc) (sp sq : Nat) : List SC := [.i st, .i 0, .sl i 1 0 l.length (l.length + sp), .sl j 5 0 ar.length (ar.length + sq)]

theorem begin_c (last : Int) : Ct Try.prog 79 [.i last] [] [] 0 (fun v s => v = .c (.ptr 0 0) ∧ s = ⟨[], [(0, .box 130 (jCells 1 1 2 [last] [] 0 0)), (1, .arr true 3 .int [last] 0), (2, .arr true 47 .arc [] 0)], 3⟩) := by
  refine ctW Try.tyOk 3 [] Try.func79 rfl (by simp [SV.lt, SA.lt, SC.lt, arcV, fV]) (by simp) (fr := [(0, .i last)]) rfl ?_
  repeat' (first | exact rfl | ((conv => whnf); first | refine condP_dec (fun h => absurd h (by omega)) (fun h => ?_) | refine condP_dec (fun h => ?_) (fun h => absurd h (by omega)) | refine condP_dec (fun h => ?_) (fun h => ?_) | refine condP_ndec (fun h => absurd h (by omega)) (fun h => ?_) | refine condP_ndec (fun h => ?_) (fun h => absurd h (by omega)) | refine condP_ndec (fun h => ?_) (fun h => ?_) | refine condP_beq (fun h => absurd h (by omega)) (fun h => ?_) | refine condP_beq (fun h => ?_) (fun h => absurd h (by omega)) | refine condP_beq (fun h => ?_) (fun h => ?_) | refine condP_bne (fun h => absurd h (by omega)) (fun h => ?_) | refine condP_bne (fun h => ?_) (fun h => absurd h (by omega)) | refine condP_bne (fun h => ?_) (fun h => ?_) | refine condP_mk (fun h => ?_) (fun h => ?_) | refine Ob.mk (by (first | omega | (simp only [InI, nmin, List.length_append, List.length_replicate, List.length_cons, List.length_nil, List.length_map, List.length_set, List.length_take, List.length_drop, List.length_reverse, List.length_range, Nat.zero_add, Nat.add_zero, Int.toNat_natCast, EK.sz]; omega) | (simp only [InI, nmin, List.length_append, List.length_replicate, List.length_cons, List.length_nil, List.length_map, List.length_set, List.length_take, List.length_drop, List.length_reverse, List.length_range, Nat.zero_add, Nat.add_zero, Int.toNat_natCast, EK.sz] at *; omega))) ?_ | refine Ob.mk ?_ ?_ | refine Both.mk ?_ ?_ | refine draw_of Try.mixed Try.tyOk 60 (by kernel_rfl) ?_))
  (conv => whnf)
  refine ⟨[(0, some 1), (1, some 0), (2, none)], [(0, .box 130 (jCells 1 1 2 [last] [] 0 0)), (1, .arr true 3 .int [last] 0), (2, .arr true 47 .arc [] 0)], 3, .c (.ptr 0 0), ⟨by rfl, trivial, ?_⟩, by simp [eqV, eqA, eqC, rn, look_cons, look], rfl, rfl⟩
  simp [eqFr, eqHp, eqV, eqA, eqC, eqO, eqCs, eqAs, look_cons, look, rn, EK.cast, EK.sz, eqCaps, nilO]

set_option maxHeartbeats 4000000 in
theorem silent_c (st : Int) (l : List Int) (ar : List Arc) (sp sq : Nat) (f t w : Int) (hl : ar.length ≤ 1000000) : Ct Try.prog 82 [.c (.ptr 0 0), .i f, .i t, .i w] [] [(0, .box 130 (jCells st 1 2 l ar sp sq)), (1, .arr true 3 .int l sp), (2, .arr true 47 .arc ar sq)] 3
    (fun v s => ∃ q, v = .u ∧ s = ⟨[], [(0, .box 130 (jCells st 1 3 l (ar ++ [silA f t w]) sp q)), (1, .arr true 3 .int l sp), (3, .arr true 47 .arc (ar ++ [silA f t w]) q)], 4⟩) := by
  refine ctW Try.tyOk 8 [] Try.func82 rfl (by simp [SV.lt, SA.lt, SC.lt, arcV, fV]) (by simp) (fr := [(0, .c (.ptr 0 0)), (1, .i f), (2, .i t), (3, .i w)]) rfl ?_
  repeat' (first | exact rfl | ((conv => whnf); first | refine condP_dec (fun h => absurd h (by omega)) (fun h => ?_) | refine condP_dec (fun h => ?_) (fun h => absurd h (by omega)) | refine condP_dec (fun h => ?_) (fun h => ?_) | refine condP_ndec (fun h => absurd h (by omega)) (fun h => ?_) | refine condP_ndec (fun h => ?_) (fun h => absurd h (by omega)) | refine condP_ndec (fun h => ?_) (fun h => ?_) | refine condP_beq (fun h => absurd h (by omega)) (fun h => ?_) | refine condP_beq (fun h => ?_) (fun h => absurd h (by omega)) | refine condP_beq (fun h => ?_) (fun h => ?_) | refine condP_bne (fun h => absurd h (by omega)) (fun h => ?_) | refine condP_bne (fun h => ?_) (fun h => absurd h (by omega)) | refine condP_bne (fun h => ?_) (fun h => ?_) | refine condP_mk (fun h => ?_) (fun h => ?_) | refine Ob.mk (by (first | omega | (simp only [InI, nmin, List.length_append, List.length_replicate, List.length_cons, List.length_nil, List.length_map, List.length_set, List.length_take, List.length_drop, List.length_reverse, List.length_range, Nat.zero_add, Nat.add_zero, Int.toNat_natCast, EK.sz]; omega) | (simp only [InI, nmin, List.length_append, List.length_replicate, List.length_cons, List.length_nil, List.length_map, List.length_set, List.length_take, List.length_drop, List.length_reverse, List.length_range, Nat.zero_add, Nat.add_zero, Int.toNat_natCast, EK.sz] at *; omega))) ?_ | refine Ob.mk ?_ ?_ | refine Both.mk ?_ ?_ | refine draw_of Try.mixed Try.tyOk 60 (by kernel_rfl) ?_ | intro _))
  all_goals (conv => whnf)
  rename_i q
  refine ⟨[(3, some 4)], [(0, .box 130 (jCells st 1 3 l (ar ++ [silA f t w]) sp q)), (1, .arr true 3 .int l sp), (3, .arr true 47 .arc (ar ++ [silA f t w]) q)], 4, .u, ⟨by rfl, trivial, ?_⟩, by simp [eqV, eqAs], q, rfl, rfl⟩
  simp [eqFr, eqHp, eqV, eqA, eqC, eqO, eqCs, eqAs, look_cons, look, rn, EK.cast, EK.sz, eqCaps, app_one ar _ _ rfl, silA]

set_option maxHeartbeats 4000000 in
theorem done_c (st : Int) (l : List Int) (ar : List Arc) (sp sq : Nat) (hl : ar.length ≤ 1000000) : Ct Try.prog 83 [.c (.ptr 0 0)] [] [(0, .box 130 (jCells st 1 2 l ar sp sq)), (1, .arr true 3 .int l sp), (2, .arr true 47 .arc ar sq)] 3
    (fun v s => ∃ zs sq', v = .a (.agg [.i st, .i 0, .sl 1 1 0 l.length (l.length + sp), .sl 2 5 0 zs.length (zs.length + sq')]) ∧ s = ⟨[], [(1, .arr true 3 .int l sp), (2, .arr true 47 .arc zs sq')], 3⟩ ∧ IsNorm ar zs) := by
  refine ctW Try.tyOk 3 [] Try.func83 rfl (by simp [SV.lt, SA.lt, SC.lt, arcV, fV]) (by simp) (fr := [(0, .c (.ptr 0 0))]) rfl ?_
  repeat' (first | exact rfl | ((conv => whnf); first | refine condP_dec (fun h => absurd h (by omega)) (fun h => ?_) | refine condP_dec (fun h => ?_) (fun h => absurd h (by omega)) | refine condP_dec (fun h => ?_) (fun h => ?_) | refine condP_ndec (fun h => absurd h (by omega)) (fun h => ?_) | refine condP_ndec (fun h => ?_) (fun h => absurd h (by omega)) | refine condP_ndec (fun h => ?_) (fun h => ?_) | refine condP_beq (fun h => absurd h (by omega)) (fun h => ?_) | refine condP_beq (fun h => ?_) (fun h => absurd h (by omega)) | refine condP_beq (fun h => ?_) (fun h => ?_) | refine condP_bne (fun h => absurd h (by omega)) (fun h => ?_) | refine condP_bne (fun h => ?_) (fun h => absurd h (by omega)) | refine condP_bne (fun h => ?_) (fun h => ?_) | refine condP_mk (fun h => ?_) (fun h => ?_) | refine Ob.mk (by (first | omega | (simp only [InI, nmin, List.length_append, List.length_replicate, List.length_cons, List.length_nil, List.length_map, List.length_set, List.length_take, List.length_drop, List.length_reverse, List.length_range, Nat.zero_add, Nat.add_zero, Int.toNat_natCast, EK.sz]; omega) | (simp only [InI, nmin, List.length_append, List.length_replicate, List.length_cons, List.length_nil, List.length_map, List.length_set, List.length_take, List.length_drop, List.length_reverse, List.length_range, Nat.zero_add, Nat.add_zero, Int.toNat_natCast, EK.sz] at *; omega))) ?_ | refine Ob.mk ?_ ?_ | refine Both.mk ?_ ?_ | refine draw_of Try.mixed Try.tyOk 60 (by kernel_rfl) ?_))
  (conv => whnf)
  refine callF (sorted_c ar (ar.length + sq) sq (by omega) (by omega)) [2] Try.call90 rfl (by simp [eqLs, eqL, eqO, eqC, eqCs, rn, renOf, look_cons, look, EK.cast]) (by simp [appN, ptrs, eqVL, eqV, eqA, eqC, eqCs, eqAs, eqCaps, EK.sz, rn, renOf, look_cons, look, arcV, fV]) (by simp [appN, ptrs, SV.lt, SA.lt, SC.lt, arcV, fV, lenN]) ?_
  rintro _ _ ⟨zs, sq', rfl, rfl, hzl, hso⟩
  repeat' (first | exact rfl | ((conv => whnf); first | refine condP_dec (fun h => absurd h (by omega)) (fun h => ?_) | refine condP_dec (fun h => ?_) (fun h => absurd h (by omega)) | refine condP_dec (fun h => ?_) (fun h => ?_) | refine condP_ndec (fun h => absurd h (by omega)) (fun h => ?_) | refine condP_ndec (fun h => ?_) (fun h => absurd h (by omega)) | refine condP_ndec (fun h => ?_) (fun h => ?_) | refine condP_beq (fun h => absurd h (by omega)) (fun h => ?_) | refine condP_beq (fun h => ?_) (fun h => absurd h (by omega)) | refine condP_beq (fun h => ?_) (fun h => ?_) | refine condP_bne (fun h => absurd h (by omega)) (fun h => ?_) | refine condP_bne (fun h => ?_) (fun h => absurd h (by omega)) | refine condP_bne (fun h => ?_) (fun h => ?_) | refine condP_mk (fun h => ?_) (fun h => ?_) | refine Ob.mk (by (first | omega | (simp only [InI, nmin, List.length_append, List.length_replicate, List.length_cons, List.length_nil, List.length_map, List.length_set, List.length_take, List.length_drop, List.length_reverse, List.length_range, Nat.zero_add, Nat.add_zero, Int.toNat_natCast, EK.sz]; omega) | (simp only [InI, nmin, List.length_append, List.length_replicate, List.length_cons, List.length_nil, List.length_map, List.length_set, List.length_take, List.length_drop, List.length_reverse, List.length_range, Nat.zero_add, Nat.add_zero, Int.toNat_natCast, EK.sz] at *; omega))) ?_ | refine Ob.mk ?_ ?_ | refine Both.mk ?_ ?_ | refine draw_of Try.mixed Try.tyOk 60 (by kernel_rfl) ?_))
  (conv => whnf)
  rw [hzl]
  exact ⟨[], [(1, .arr true 3 .int l sp), (2, .arr true 47 .arc zs sq')], 3, .a (.agg [.i st, .i 0, .sl 1 1 0 l.length (l.length + sp), .sl 2 5 0 zs.length (zs.length + sq')]), ⟨by rfl, trivial, by simp [eqFr, eqHp, eqV, eqA, eqC, eqO, eqCs, eqAs, look_cons, look, rn, EK.cast, EK.sz, eqCaps]⟩, by simp [eqV, eqA, eqAs, eqC, eqCs, rn, look, look_cons, EK.sz], zs, sq', rfl, rfl, hso.norm⟩

/-- The ends, the arcs taken so far. -/
def finT (d : Int → Int) (l fin : List Int) (k : Nat) : List Int := l ++ (fin.take k).map d
def arcT (st : Int) (ar arcs : List Arc) (k : Nat) : List Arc := ar ++ (arcs.take k).map (shA st)
theorem finT_zero (d : Int → Int) (l fin : List Int) : finT d l fin 0 = l := by simp [finT]
theorem arcT_zero (st : Int) (ar arcs : List Arc) : arcT st ar arcs 0 = ar := by simp [arcT]
theorem finT_succ (d : Int → Int) (l fin : List Int) (k : Nat) (h : k < fin.length) : finT d l fin (k + 1) = finT d l fin k ++ [d (fin.getD k 0)] := by
  unfold finT; rw [take_succ_getD fin k 0 h, List.map_append, List.append_assoc]; rfl
theorem arcT_succ (st : Int) (ar arcs : List Arc) (k : Nat) (h : k < arcs.length) : arcT st ar arcs (k + 1) = arcT st ar arcs k ++ [shA st (arcs.getD k aD)] := by
  unfold arcT; rw [take_succ_getD arcs k aD h, List.map_append, List.append_assoc]; rfl
theorem finT_len (d : Int → Int) (l fin : List Int) (k : Nat) (h : k ≤ fin.length) : (finT d l fin k).length = l.length + k := by
  unfold finT; rw [List.length_append, List.length_map, List.length_take]; omega
theorem arcT_len (st : Int) (ar arcs : List Arc) (k : Nat) (h : k ≤ arcs.length) : (arcT st ar arcs k).length = ar.length + k := by
  unfold arcT; rw [List.length_append, List.length_map, List.length_take]; omega
theorem finT_all (d : Int → Int) (l fin : List Int) (k : Nat) (h : fin.length ≤ k) : finT d l fin k = l ++ fin.map d := by
  unfold finT; rw [List.take_of_length_le h]
theorem arcT_all (st : Int) (ar arcs : List Arc) (k : Nat) (h : arcs.length ≤ k) : arcT st ar arcs k = ar ++ arcs.map (shA st) := by
  unfold arcT; rw [List.take_of_length_le h]

def stayF (x : Int) : Int := x
def goneF (_ : Int) : Int := -1

set_option maxHeartbeats 8000000 in
set_option maxRecDepth 20000 in
theorem take81_c (F : TF) (hF : FOk F) (st : Int) (l : List Int) (ar : List Arc) (sp sq : Nat) (hst : 0 ≤ st ∧ st ≤ 1000) (hl : l.length ≤ 1000000) (hr : ar.length ≤ 1000000) :
    Ct Try.prog 80 [.c (.ptr 2 0), fV F, .c (.fn 81 [])] [] ((2, .box 130 (jCells st 3 4 l ar sp sq)) :: (3, .arr true 3 .int l sp) :: (4, .arr true 47 .arc ar sq) :: hpF F) 5
    (fun v s => ∃ p q, v = .i st ∧ s = ⟨[], [(2, .box 130 (jCells (st + F.st) 5 6 (l ++ F.fin.map stayF) (ar ++ F.arcs.map (shA st)) p q)), (5, .arr true 3 .int (l ++ F.fin.map stayF) p), (6, .arr true 47 .arc (ar ++ F.arcs.map (shA st)) q)], 7⟩) := by
  have hfl := hF.finl
  have hal := hF.arcl
  have hfs := hF.st
  refine ctW Try.tyOk 12 [18, 19, 20, 43, 44, 45] Try.func80 rfl (by simp [SV.lt, SA.lt, SC.lt, arcV, fV]) (by simp) (fr := [(0, .c (.ptr 2 0)), (1, fV F), (2, .c (.fn 81 []))]) rfl ?_
  repeat' (first | exact rfl | ((conv => whnf); first | refine condP_dec (fun h => absurd h (by omega)) (fun h => ?_) | refine condP_dec (fun h => ?_) (fun h => absurd h (by omega)) | refine condP_dec (fun h => ?_) (fun h => ?_) | refine condP_ndec (fun h => absurd h (by omega)) (fun h => ?_) | refine condP_ndec (fun h => ?_) (fun h => absurd h (by omega)) | refine condP_ndec (fun h => ?_) (fun h => ?_) | refine condP_beq (fun h => absurd h (by omega)) (fun h => ?_) | refine condP_beq (fun h => ?_) (fun h => absurd h (by omega)) | refine condP_beq (fun h => ?_) (fun h => ?_) | refine condP_bne (fun h => absurd h (by omega)) (fun h => ?_) | refine condP_bne (fun h => ?_) (fun h => absurd h (by omega)) | refine condP_bne (fun h => ?_) (fun h => ?_) | refine condP_mk (fun h => ?_) (fun h => ?_) | refine Ob.mk (by (first | omega | (simp only [InI, nmin, List.length_append, List.length_replicate, List.length_cons, List.length_nil, List.length_map, List.length_set, List.length_take, List.length_drop, List.length_reverse, List.length_range, Nat.zero_add, Nat.add_zero, Int.toNat_natCast, EK.sz]; omega) | (simp only [InI, nmin, List.length_append, List.length_replicate, List.length_cons, List.length_nil, List.length_map, List.length_set, List.length_take, List.length_drop, List.length_reverse, List.length_range, Nat.zero_add, Nat.add_zero, Int.toNat_natCast, EK.sz] at *; omega))) ?_ | refine Ob.mk ?_ ?_ | refine Both.mk ?_ ?_ | refine draw_of Try.mixed Try.tyOk 60 (by kernel_rfl) ?_))
  (conv => whnf)
  refine loopI (fun x : Nat × Nat => ⟨[(0, .c (.ptr 2 0)), (2, .c (.fn 81 [])), (4, .c (.ptr 5 0)), (6, .i 0), (7, .i st), (18, .c (.sl 0 1 0 F.fin.length F.capF)), (19, .i F.fin.length), (20, .i x.1)],
      [(0, .arr false 3 .int F.fin 0), (1, .arr false 47 .arc F.arcs 0), (2, .box 130 (jCells st 6 4 (finT stayF l F.fin x.1) ar x.2 sq)), (4, .arr true 47 .arc ar sq), (5, .box 25 (fCells F)), (6, .arr true 3 .int (finT stayF l F.fin x.1) x.2)], 7⟩)
      (fun x => x.1 ≤ F.fin.length) (fun x => F.fin.length - x.1) (0, sp) [(6, some 3)] ⟨by rfl, ?_, ?_⟩ (Nat.zero_le _) ?_
  · simp [eqFr, eqHp, eqV, eqA, eqC, eqO, eqCs, eqAs, look_cons, look, rn, EK.cast, EK.sz, eqCaps]
  · simp [eqFr, eqHp, eqV, eqA, eqC, eqO, eqCs, eqAs, look_cons, look, rn, EK.cast, EK.sz, eqCaps, fCells, finT_zero]
  · rintro ⟨k, p⟩ hk
    simp only at hk ⊢
    have hln := finT_len stayF l F.fin k hk
    have hsn := finT_succ stayF l F.fin k
    generalize hpp : finT stayF l F.fin k = pl at hsn hln ⊢
    have e0 : 0 + (k : Int).toNat = k := by omega
    repeat' (first | exact rfl | ((conv => whnf); first | refine condP_dec (fun h => absurd h (by omega)) (fun h => ?_) | refine condP_dec (fun h => ?_) (fun h => absurd h (by omega)) | refine condP_dec (fun h => ?_) (fun h => ?_) | refine condP_ndec (fun h => absurd h (by omega)) (fun h => ?_) | refine condP_ndec (fun h => ?_) (fun h => absurd h (by omega)) | refine condP_ndec (fun h => ?_) (fun h => ?_) | refine condP_beq (fun h => absurd h (by omega)) (fun h => ?_) | refine condP_beq (fun h => ?_) (fun h => absurd h (by omega)) | refine condP_beq (fun h => ?_) (fun h => ?_) | refine condP_bne (fun h => absurd h (by omega)) (fun h => ?_) | refine condP_bne (fun h => ?_) (fun h => absurd h (by omega)) | refine condP_bne (fun h => ?_) (fun h => ?_) | refine condP_mk (fun h => ?_) (fun h => ?_) | refine Ob.mk (by (first | omega | (simp only [InI, nmin, List.length_append, List.length_replicate, List.length_cons, List.length_nil, List.length_map, List.length_set, List.length_take, List.length_drop, List.length_reverse, List.length_range, Nat.zero_add, Nat.add_zero, Int.toNat_natCast, EK.sz]; omega) | (simp only [InI, nmin, List.length_append, List.length_replicate, List.length_cons, List.length_nil, List.length_map, List.length_set, List.length_take, List.length_drop, List.length_reverse, List.length_range, Nat.zero_add, Nat.add_zero, Int.toNat_natCast, EK.sz] at *; omega))) ?_ | refine Ob.mk ?_ ?_ | refine Both.mk ?_ ?_ | refine draw_of Try.mixed Try.tyOk 60 (by kernel_rfl) ?_ | intro _))
    · (conv => whnf)
      refine callF (stay_c (F.fin.getD (0 + (k : Int).toNat) EK.int.dflt)) [] Try.call81 rfl (by simp [eqLs, eqL, eqO, eqC, eqCs, rn, renOf, look_cons, look, EK.cast]) (by simp [appN, ptrs, eqVL, eqV, eqA, eqC, eqCs, eqAs, eqCaps, EK.sz, rn, renOf, look_cons, look, arcV, fV]) (by simp [appN, ptrs, SV.lt, SA.lt, SC.lt, arcV, fV, lenN]) ?_
      rintro _ _ ⟨rfl, rfl⟩
      repeat' (first | exact rfl | ((conv => whnf); first | refine condP_dec (fun h => absurd h (by omega)) (fun h => ?_) | refine condP_dec (fun h => ?_) (fun h => absurd h (by omega)) | refine condP_dec (fun h => ?_) (fun h => ?_) | refine condP_ndec (fun h => absurd h (by omega)) (fun h => ?_) | refine condP_ndec (fun h => ?_) (fun h => absurd h (by omega)) | refine condP_ndec (fun h => ?_) (fun h => ?_) | refine condP_beq (fun h => absurd h (by omega)) (fun h => ?_) | refine condP_beq (fun h => ?_) (fun h => absurd h (by omega)) | refine condP_beq (fun h => ?_) (fun h => ?_) | refine condP_bne (fun h => absurd h (by omega)) (fun h => ?_) | refine condP_bne (fun h => ?_) (fun h => absurd h (by omega)) | refine condP_bne (fun h => ?_) (fun h => ?_) | refine condP_mk (fun h => ?_) (fun h => ?_) | refine Ob.mk (by (first | omega | (simp only [InI, nmin, List.length_append, List.length_replicate, List.length_cons, List.length_nil, List.length_map, List.length_set, List.length_take, List.length_drop, List.length_reverse, List.length_range, Nat.zero_add, Nat.add_zero, Int.toNat_natCast, EK.sz]; omega) | (simp only [InI, nmin, List.length_append, List.length_replicate, List.length_cons, List.length_nil, List.length_map, List.length_set, List.length_take, List.length_drop, List.length_reverse, List.length_range, Nat.zero_add, Nat.add_zero, Int.toNat_natCast, EK.sz] at *; omega))) ?_ | refine Ob.mk ?_ ?_ | refine Both.mk ?_ ?_ | refine draw_of Try.mixed Try.tyOk 60 (by kernel_rfl) ?_ | intro _))
      (conv => whnf)
      rename_i q
      replace hsn := hsn (by omega)
      have hT : stayF (F.fin.getD k 0) = F.fin.getD (0 + (k : Int).toNat) EK.int.dflt := by first | rfl | (rw [e0]; rfl)
      rw [hT] at hsn
      refine ⟨(k + 1, q), [(6, some 8)], ⟨by rfl, ?_, ?_⟩, by simp only; omega, by simp only; omega⟩
      · simp [eqFr, eqHp, eqV, eqA, eqC, eqO, eqCs, eqAs, look_cons, look, rn, EK.cast, EK.sz, eqCaps]
      · simp [eqFr, eqHp, eqV, eqA, eqC, eqO, eqCs, eqAs, look_cons, look, rn, EK.cast, EK.sz, eqCaps, fCells, hsn, app_one pl _ _ rfl]
    · (conv => whnf)
      rename_i q
      replace hsn := hsn (by omega)
      have hT : stayF (F.fin.getD k 0) = F.fin.getD (0 + (k : Int).toNat) EK.int.dflt := by first | (rw [e0]; rfl) | (rw [h]; rfl)
      rw [hT] at hsn
      refine ⟨(k + 1, q), [(6, some 8)], ⟨by rfl, ?_, ?_⟩, by simp only; omega, by simp only; omega⟩
      · simp [eqFr, eqHp, eqV, eqA, eqC, eqO, eqCs, eqAs, look_cons, look, rn, EK.cast, EK.sz, eqCaps]
      · simp [eqFr, eqHp, eqV, eqA, eqC, eqO, eqCs, eqAs, look_cons, look, rn, EK.cast, EK.sz, eqCaps, fCells, hsn, app_one pl _ _ rfl]
    · have e := finT_all stayF l F.fin k (by omega)
      rw [e] at hpp
      clear hsn
      rw [hpp]
      have hpl : pl.length ≤ 2000000 := by omega
      (conv => whnf)
      refine loopI (fun x : Nat × Nat => ⟨[(0, .c (.ptr 2 0)), (4, .c (.ptr 5 0)), (6, .i 0), (7, .i st), (43, .c (.sl 1 5 0 F.arcs.length F.capA)), (44, .i F.arcs.length), (45, .i x.1)],
        [(1, .arr false 47 .arc F.arcs 0), (2, .box 130 (jCells st 6 7 pl (arcT st ar F.arcs x.1) p x.2)), (5, .box 25 (fCells F)), (6, .arr true 3 .int pl p), (7, .arr true 47 .arc (arcT st ar F.arcs x.1) x.2)], 8⟩)
        (fun x => x.1 ≤ F.arcs.length) (fun x => F.arcs.length - x.1) (0, sq) [(7, some 4)] ⟨by rfl, ?_, ?_⟩ (Nat.zero_le _) ?_
      · simp [eqFr, eqHp, eqV, eqA, eqC, eqO, eqCs, eqAs, look_cons, look, rn, EK.cast, EK.sz, eqCaps]
      · simp [eqFr, eqHp, eqV, eqA, eqC, eqO, eqCs, eqAs, look_cons, look, rn, EK.cast, EK.sz, eqCaps, fCells, arcT_zero]
      · clear hln
        clear e0 e hk
        rintro ⟨k, q⟩ hk
        simp only at hk ⊢
        have hln := arcT_len st ar F.arcs k hk
        have hsn := arcT_succ st ar F.arcs k
        generalize hpq : arcT st ar F.arcs k = al at hsn hln ⊢
        have e0 : 0 + (k : Int).toNat = k := by omega
        (conv => whnf)
        refine condP_dec (fun hk2 => ?_) (fun hk2 => ?_)
        · have hx := hF.arc _ (getD_mem F.arcs k EK.arc.dflt (by omega))
          rw [← e0] at hx
          have f0 := hx.f0
          have f1 := hx.f1
          have t0 := hx.t0
          have t1 := hx.t1
          replace hsn := hsn (by omega)
          have hT : shA st (F.arcs.getD k aD) = ⟨(F.arcs.getD (0 + (k : Int).toNat) EK.arc.dflt).f + st, (F.arcs.getD (0 + (k : Int).toNat) EK.arc.dflt).i, (F.arcs.getD (0 + (k : Int).toNat) EK.arc.dflt).o, (F.arcs.getD (0 + (k : Int).toNat) EK.arc.dflt).t + st, (F.arcs.getD (0 + (k : Int).toNat) EK.arc.dflt).w⟩ := by rw [e0]; rfl
          rw [hT] at hsn
          repeat' (first | exact rfl | ((conv => whnf); first | refine condP_dec (fun h => absurd h (by omega)) (fun h => ?_) | refine condP_dec (fun h => ?_) (fun h => absurd h (by omega)) | refine condP_dec (fun h => ?_) (fun h => ?_) | refine condP_ndec (fun h => absurd h (by omega)) (fun h => ?_) | refine condP_ndec (fun h => ?_) (fun h => absurd h (by omega)) | refine condP_ndec (fun h => ?_) (fun h => ?_) | refine condP_beq (fun h => absurd h (by omega)) (fun h => ?_) | refine condP_beq (fun h => ?_) (fun h => absurd h (by omega)) | refine condP_beq (fun h => ?_) (fun h => ?_) | refine condP_bne (fun h => absurd h (by omega)) (fun h => ?_) | refine condP_bne (fun h => ?_) (fun h => absurd h (by omega)) | refine condP_bne (fun h => ?_) (fun h => ?_) | refine condP_mk (fun h => ?_) (fun h => ?_) | refine Ob.mk (by (first | omega | (simp only [InI, nmin, List.length_append, List.length_replicate, List.length_cons, List.length_nil, List.length_map, List.length_set, List.length_take, List.length_drop, List.length_reverse, List.length_range, Nat.zero_add, Nat.add_zero, Int.toNat_natCast, EK.sz]; omega) | (simp only [InI, nmin, List.length_append, List.length_replicate, List.length_cons, List.length_nil, List.length_map, List.length_set, List.length_take, List.length_drop, List.length_reverse, List.length_range, Nat.zero_add, Nat.add_zero, Int.toNat_natCast, EK.sz] at *; omega))) ?_ | refine Ob.mk ?_ ?_ | refine Both.mk ?_ ?_ | refine draw_of Try.mixed Try.tyOk 60 (by kernel_rfl) ?_ | intro _))
          (conv => whnf)
          rename_i q2
          refine ⟨(k + 1, q2), [(7, some 10)], ⟨by rfl, ?_, ?_⟩, by simp only; omega, by simp only; omega⟩
          · simp [eqFr, eqHp, eqV, eqA, eqC, eqO, eqCs, eqAs, look_cons, look, rn, EK.cast, EK.sz, eqCaps]
          · simp [eqFr, eqHp, eqV, eqA, eqC, eqO, eqCs, eqAs, look_cons, look, rn, EK.cast, EK.sz, eqCaps, fCells, hsn, app_one al _ _ rfl]
        · have e := arcT_all st ar F.arcs k (by omega)
          rw [e] at hpq
          clear hsn
          repeat' (first | exact rfl | ((conv => whnf); first | refine condP_dec (fun h => absurd h (by omega)) (fun h => ?_) | refine condP_dec (fun h => ?_) (fun h => absurd h (by omega)) | refine condP_dec (fun h => ?_) (fun h => ?_) | refine condP_ndec (fun h => absurd h (by omega)) (fun h => ?_) | refine condP_ndec (fun h => ?_) (fun h => absurd h (by omega)) | refine condP_ndec (fun h => ?_) (fun h => ?_) | refine condP_beq (fun h => absurd h (by omega)) (fun h => ?_) | refine condP_beq (fun h => ?_) (fun h => absurd h (by omega)) | refine condP_beq (fun h => ?_) (fun h => ?_) | refine condP_bne (fun h => absurd h (by omega)) (fun h => ?_) | refine condP_bne (fun h => ?_) (fun h => absurd h (by omega)) | refine condP_bne (fun h => ?_) (fun h => ?_) | refine condP_mk (fun h => ?_) (fun h => ?_) | refine Ob.mk (by (first | omega | (simp only [InI, nmin, List.length_append, List.length_replicate, List.length_cons, List.length_nil, List.length_map, List.length_set, List.length_take, List.length_drop, List.length_reverse, List.length_range, Nat.zero_add, Nat.add_zero, Int.toNat_natCast, EK.sz]; omega) | (simp only [InI, nmin, List.length_append, List.length_replicate, List.length_cons, List.length_nil, List.length_map, List.length_set, List.length_take, List.length_drop, List.length_reverse, List.length_range, Nat.zero_add, Nat.add_zero, Int.toNat_natCast, EK.sz] at *; omega))) ?_ | refine Ob.mk ?_ ?_ | refine Both.mk ?_ ?_ | refine draw_of Try.mixed Try.tyOk 60 (by kernel_rfl) ?_ | intro _))
          (conv => whnf)
          rw [hpq]
          exact ⟨[(5, some 6), (6, some 7)], [(2, .box 130 (jCells (st + F.st) 5 6 pl al p q)), (5, .arr true 3 .int pl p), (6, .arr true 47 .arc al q)], 7, .i st, ⟨by rfl, trivial, by simp [eqFr, eqHp, eqV, eqA, eqC, eqO, eqCs, eqAs, look_cons, look, rn, EK.cast, EK.sz, eqCaps]⟩, by simp [eqV, eqA, eqC], p, q, rfl, rfl⟩

set_option maxHeartbeats 8000000 in
set_option maxRecDepth 20000 in
theorem take84_c (F : TF) (hF : FOk F) (st : Int) (l : List Int) (ar : List Arc) (sp sq : Nat) (hst : 0 ≤ st ∧ st ≤ 1000) (hl : l.length ≤ 1000000) (hr : ar.length ≤ 1000000) :
    Ct Try.prog 80 [.c (.ptr 2 0), fV F, .c (.fn 84 [])] [] ((2, .box 130 (jCells st 3 4 l ar sp sq)) :: (3, .arr true 3 .int l sp) :: (4, .arr true 47 .arc ar sq) :: hpF F) 5
    (fun v s => ∃ p q, v = .i st ∧ s = ⟨[], [(2, .box 130 (jCells (st + F.st) 5 6 (l ++ F.fin.map goneF) (ar ++ F.arcs.map (shA st)) p q)), (5, .arr true 3 .int (l ++ F.fin.map goneF) p), (6, .arr true 47 .arc (ar ++ F.arcs.map (shA st)) q)], 7⟩) := by
  have hfl := hF.finl
  have hal := hF.arcl
  have hfs := hF.st
  refine ctW Try.tyOk 12 [18, 19, 20, 43, 44, 45] Try.func80 rfl (by simp [SV.lt, SA.lt, SC.lt, arcV, fV]) (by simp) (fr := [(0, .c (.ptr 2 0)), (1, fV F), (2, .c (.fn 84 []))]) rfl ?_
  repeat' (first | exact rfl | ((conv => whnf); first | refine condP_dec (fun h => absurd h (by omega)) (fun h => ?_) | refine condP_dec (fun h => ?_) (fun h => absurd h (by omega)) | refine condP_dec (fun h => ?_) (fun h => ?_) | refine condP_ndec (fun h => absurd h (by omega)) (fun h => ?_) | refine condP_ndec (fun h => ?_) (fun h => absurd h (by omega)) | refine condP_ndec (fun h => ?_) (fun h => ?_) | refine condP_beq (fun h => absurd h (by omega)) (fun h => ?_) | refine condP_beq (fun h => ?_) (fun h => absurd h (by omega)) | refine condP_beq (fun h => ?_) (fun h => ?_) | refine condP_bne (fun h => absurd h (by omega)) (fun h => ?_) | refine condP_bne (fun h => ?_) (fun h => absurd h (by omega)) | refine condP_bne (fun h => ?_) (fun h => ?_) | refine condP_mk (fun h => ?_) (fun h => ?_) | refine Ob.mk (by (first | omega | (simp only [InI, nmin, List.length_append, List.length_replicate, List.length_cons, List.length_nil, List.length_map, List.length_set, List.length_take, List.length_drop, List.length_reverse, List.length_range, Nat.zero_add, Nat.add_zero, Int.toNat_natCast, EK.sz]; omega) | (simp only [InI, nmin, List.length_append, List.length_replicate, List.length_cons, List.length_nil, List.length_map, List.length_set, List.length_take, List.length_drop, List.length_reverse, List.length_range, Nat.zero_add, Nat.add_zero, Int.toNat_natCast, EK.sz] at *; omega))) ?_ | refine Ob.mk ?_ ?_ | refine Both.mk ?_ ?_ | refine draw_of Try.mixed Try.tyOk 60 (by kernel_rfl) ?_))
  (conv => whnf)
  refine loopI (fun x : Nat × Nat => ⟨[(0, .c (.ptr 2 0)), (2, .c (.fn 84 [])), (4, .c (.ptr 5 0)), (6, .i 0), (7, .i st), (18, .c (.sl 0 1 0 F.fin.length F.capF)), (19, .i F.fin.length), (20, .i x.1)],
      [(0, .arr false 3 .int F.fin 0), (1, .arr false 47 .arc F.arcs 0), (2, .box 130 (jCells st 6 4 (finT goneF l F.fin x.1) ar x.2 sq)), (4, .arr true 47 .arc ar sq), (5, .box 25 (fCells F)), (6, .arr true 3 .int (finT goneF l F.fin x.1) x.2)], 7⟩)
      (fun x => x.1 ≤ F.fin.length) (fun x => F.fin.length - x.1) (0, sp) [(6, some 3)] ⟨by rfl, ?_, ?_⟩ (Nat.zero_le _) ?_
  · simp [eqFr, eqHp, eqV, eqA, eqC, eqO, eqCs, eqAs, look_cons, look, rn, EK.cast, EK.sz, eqCaps]
  · simp [eqFr, eqHp, eqV, eqA, eqC, eqO, eqCs, eqAs, look_cons, look, rn, EK.cast, EK.sz, eqCaps, fCells, finT_zero]
  · rintro ⟨k, p⟩ hk
    simp only at hk ⊢
    have hln := finT_len goneF l F.fin k hk
    have hsn := finT_succ goneF l F.fin k
    generalize hpp : finT goneF l F.fin k = pl at hsn hln ⊢
    have e0 : 0 + (k : Int).toNat = k := by omega
    repeat' (first | exact rfl | ((conv => whnf); first | refine condP_dec (fun h => absurd h (by omega)) (fun h => ?_) | refine condP_dec (fun h => ?_) (fun h => absurd h (by omega)) | refine condP_dec (fun h => ?_) (fun h => ?_) | refine condP_ndec (fun h => absurd h (by omega)) (fun h => ?_) | refine condP_ndec (fun h => ?_) (fun h => absurd h (by omega)) | refine condP_ndec (fun h => ?_) (fun h => ?_) | refine condP_beq (fun h => absurd h (by omega)) (fun h => ?_) | refine condP_beq (fun h => ?_) (fun h => absurd h (by omega)) | refine condP_beq (fun h => ?_) (fun h => ?_) | refine condP_bne (fun h => absurd h (by omega)) (fun h => ?_) | refine condP_bne (fun h => ?_) (fun h => absurd h (by omega)) | refine condP_bne (fun h => ?_) (fun h => ?_) | refine condP_mk (fun h => ?_) (fun h => ?_) | refine Ob.mk (by (first | omega | (simp only [InI, nmin, List.length_append, List.length_replicate, List.length_cons, List.length_nil, List.length_map, List.length_set, List.length_take, List.length_drop, List.length_reverse, List.length_range, Nat.zero_add, Nat.add_zero, Int.toNat_natCast, EK.sz]; omega) | (simp only [InI, nmin, List.length_append, List.length_replicate, List.length_cons, List.length_nil, List.length_map, List.length_set, List.length_take, List.length_drop, List.length_reverse, List.length_range, Nat.zero_add, Nat.add_zero, Int.toNat_natCast, EK.sz] at *; omega))) ?_ | refine Ob.mk ?_ ?_ | refine Both.mk ?_ ?_ | refine draw_of Try.mixed Try.tyOk 60 (by kernel_rfl) ?_ | intro _))
    · (conv => whnf)
      refine callF (gone_c (F.fin.getD (0 + (k : Int).toNat) EK.int.dflt)) [] Try.call84 rfl (by simp [eqLs, eqL, eqO, eqC, eqCs, rn, renOf, look_cons, look, EK.cast]) (by simp [appN, ptrs, eqVL, eqV, eqA, eqC, eqCs, eqAs, eqCaps, EK.sz, rn, renOf, look_cons, look, arcV, fV]) (by simp [appN, ptrs, SV.lt, SA.lt, SC.lt, arcV, fV, lenN]) ?_
      rintro _ _ ⟨rfl, rfl⟩
      repeat' (first | exact rfl | ((conv => whnf); first | refine condP_dec (fun h => absurd h (by omega)) (fun h => ?_) | refine condP_dec (fun h => ?_) (fun h => absurd h (by omega)) | refine condP_dec (fun h => ?_) (fun h => ?_) | refine condP_ndec (fun h => absurd h (by omega)) (fun h => ?_) | refine condP_ndec (fun h => ?_) (fun h => absurd h (by omega)) | refine condP_ndec (fun h => ?_) (fun h => ?_) | refine condP_beq (fun h => absurd h (by omega)) (fun h => ?_) | refine condP_beq (fun h => ?_) (fun h => absurd h (by omega)) | refine condP_beq (fun h => ?_) (fun h => ?_) | refine condP_bne (fun h => absurd h (by omega)) (fun h => ?_) | refine condP_bne (fun h => ?_) (fun h => absurd h (by omega)) | refine condP_bne (fun h => ?_) (fun h => ?_) | refine condP_mk (fun h => ?_) (fun h => ?_) | refine Ob.mk (by (first | omega | (simp only [InI, nmin, List.length_append, List.length_replicate, List.length_cons, List.length_nil, List.length_map, List.length_set, List.length_take, List.length_drop, List.length_reverse, List.length_range, Nat.zero_add, Nat.add_zero, Int.toNat_natCast, EK.sz]; omega) | (simp only [InI, nmin, List.length_append, List.length_replicate, List.length_cons, List.length_nil, List.length_map, List.length_set, List.length_take, List.length_drop, List.length_reverse, List.length_range, Nat.zero_add, Nat.add_zero, Int.toNat_natCast, EK.sz] at *; omega))) ?_ | refine Ob.mk ?_ ?_ | refine Both.mk ?_ ?_ | refine draw_of Try.mixed Try.tyOk 60 (by kernel_rfl) ?_ | intro _))
      (conv => whnf)
      rename_i q
      replace hsn := hsn (by omega)
      have hT : goneF (F.fin.getD k 0) = -1 := rfl
      rw [hT] at hsn
      refine ⟨(k + 1, q), [(6, some 8)], ⟨by rfl, ?_, ?_⟩, by simp only; omega, by simp only; omega⟩
      · simp [eqFr, eqHp, eqV, eqA, eqC, eqO, eqCs, eqAs, look_cons, look, rn, EK.cast, EK.sz, eqCaps]
      · simp [eqFr, eqHp, eqV, eqA, eqC, eqO, eqCs, eqAs, look_cons, look, rn, EK.cast, EK.sz, eqCaps, fCells, hsn, app_one pl _ _ rfl]
    · (conv => whnf)
      rename_i q
      replace hsn := hsn (by omega)
      have hT : goneF (F.fin.getD k 0) = F.fin.getD (0 + (k : Int).toNat) EK.int.dflt := by first | (rw [e0]; rfl) | (rw [h]; rfl)
      rw [hT] at hsn
      refine ⟨(k + 1, q), [(6, some 8)], ⟨by rfl, ?_, ?_⟩, by simp only; omega, by simp only; omega⟩
      · simp [eqFr, eqHp, eqV, eqA, eqC, eqO, eqCs, eqAs, look_cons, look, rn, EK.cast, EK.sz, eqCaps]
      · simp [eqFr, eqHp, eqV, eqA, eqC, eqO, eqCs, eqAs, look_cons, look, rn, EK.cast, EK.sz, eqCaps, fCells, hsn, app_one pl _ _ rfl]
    · have e := finT_all goneF l F.fin k (by omega)
      rw [e] at hpp
      clear hsn
      rw [hpp]
      have hpl : pl.length ≤ 2000000 := by omega
      (conv => whnf)
      refine loopI (fun x : Nat × Nat => ⟨[(0, .c (.ptr 2 0)), (4, .c (.ptr 5 0)), (6, .i 0), (7, .i st), (43, .c (.sl 1 5 0 F.arcs.length F.capA)), (44, .i F.arcs.length), (45, .i x.1)],
        [(1, .arr false 47 .arc F.arcs 0), (2, .box 130 (jCells st 6 7 pl (arcT st ar F.arcs x.1) p x.2)), (5, .box 25 (fCells F)), (6, .arr true 3 .int pl p), (7, .arr true 47 .arc (arcT st ar F.arcs x.1) x.2)], 8⟩)
        (fun x => x.1 ≤ F.arcs.length) (fun x => F.arcs.length - x.1) (0, sq) [(7, some 4)] ⟨by rfl, ?_, ?_⟩ (Nat.zero_le _) ?_
      · simp [eqFr, eqHp, eqV, eqA, eqC, eqO, eqCs, eqAs, look_cons, look, rn, EK.cast, EK.sz, eqCaps]
      · simp [eqFr, eqHp, eqV, eqA, eqC, eqO, eqCs, eqAs, look_cons, look, rn, EK.cast, EK.sz, eqCaps, fCells, arcT_zero]
      · clear hln
        clear e0 e hk
        rintro ⟨k, q⟩ hk
        simp only at hk ⊢
        have hln := arcT_len st ar F.arcs k hk
        have hsn := arcT_succ st ar F.arcs k
        generalize hpq : arcT st ar F.arcs k = al at hsn hln ⊢
        have e0 : 0 + (k : Int).toNat = k := by omega
        (conv => whnf)
        refine condP_dec (fun hk2 => ?_) (fun hk2 => ?_)
        · have hx := hF.arc _ (getD_mem F.arcs k EK.arc.dflt (by omega))
          rw [← e0] at hx
          have f0 := hx.f0
          have f1 := hx.f1
          have t0 := hx.t0
          have t1 := hx.t1
          replace hsn := hsn (by omega)
          have hT : shA st (F.arcs.getD k aD) = ⟨(F.arcs.getD (0 + (k : Int).toNat) EK.arc.dflt).f + st, (F.arcs.getD (0 + (k : Int).toNat) EK.arc.dflt).i, (F.arcs.getD (0 + (k : Int).toNat) EK.arc.dflt).o, (F.arcs.getD (0 + (k : Int).toNat) EK.arc.dflt).t + st, (F.arcs.getD (0 + (k : Int).toNat) EK.arc.dflt).w⟩ := by rw [e0]; rfl
          rw [hT] at hsn
          repeat' (first | exact rfl | ((conv => whnf); first | refine condP_dec (fun h => absurd h (by omega)) (fun h => ?_) | refine condP_dec (fun h => ?_) (fun h => absurd h (by omega)) | refine condP_dec (fun h => ?_) (fun h => ?_) | refine condP_ndec (fun h => absurd h (by omega)) (fun h => ?_) | refine condP_ndec (fun h => ?_) (fun h => absurd h (by omega)) | refine condP_ndec (fun h => ?_) (fun h => ?_) | refine condP_beq (fun h => absurd h (by omega)) (fun h => ?_) | refine condP_beq (fun h => ?_) (fun h => absurd h (by omega)) | refine condP_beq (fun h => ?_) (fun h => ?_) | refine condP_bne (fun h => absurd h (by omega)) (fun h => ?_) | refine condP_bne (fun h => ?_) (fun h => absurd h (by omega)) | refine condP_bne (fun h => ?_) (fun h => ?_) | refine condP_mk (fun h => ?_) (fun h => ?_) | refine Ob.mk (by (first | omega | (simp only [InI, nmin, List.length_append, List.length_replicate, List.length_cons, List.length_nil, List.length_map, List.length_set, List.length_take, List.length_drop, List.length_reverse, List.length_range, Nat.zero_add, Nat.add_zero, Int.toNat_natCast, EK.sz]; omega) | (simp only [InI, nmin, List.length_append, List.length_replicate, List.length_cons, List.length_nil, List.length_map, List.length_set, List.length_take, List.length_drop, List.length_reverse, List.length_range, Nat.zero_add, Nat.add_zero, Int.toNat_natCast, EK.sz] at *; omega))) ?_ | refine Ob.mk ?_ ?_ | refine Both.mk ?_ ?_ | refine draw_of Try.mixed Try.tyOk 60 (by kernel_rfl) ?_ | intro _))
          (conv => whnf)
          rename_i q2
          refine ⟨(k + 1, q2), [(7, some 10)], ⟨by rfl, ?_, ?_⟩, by simp only; omega, by simp only; omega⟩
          · simp [eqFr, eqHp, eqV, eqA, eqC, eqO, eqCs, eqAs, look_cons, look, rn, EK.cast, EK.sz, eqCaps]
          · simp [eqFr, eqHp, eqV, eqA, eqC, eqO, eqCs, eqAs, look_cons, look, rn, EK.cast, EK.sz, eqCaps, fCells, hsn, app_one al _ _ rfl]
        · have e := arcT_all st ar F.arcs k (by omega)
          rw [e] at hpq
          clear hsn
          repeat' (first | exact rfl | ((conv => whnf); first | refine condP_dec (fun h => absurd h (by omega)) (fun h => ?_) | refine condP_dec (fun h => ?_) (fun h => absurd h (by omega)) | refine condP_dec (fun h => ?_) (fun h => ?_) | refine condP_ndec (fun h => absurd h (by omega)) (fun h => ?_) | refine condP_ndec (fun h => ?_) (fun h => absurd h (by omega)) | refine condP_ndec (fun h => ?_) (fun h => ?_) | refine condP_beq (fun h => absurd h (by omega)) (fun h => ?_) | refine condP_beq (fun h => ?_) (fun h => absurd h (by omega)) | refine condP_beq (fun h => ?_) (fun h => ?_) | refine condP_bne (fun h => absurd h (by omega)) (fun h => ?_) | refine condP_bne (fun h => ?_) (fun h => absurd h (by omega)) | refine condP_bne (fun h => ?_) (fun h => ?_) | refine condP_mk (fun h => ?_) (fun h => ?_) | refine Ob.mk (by (first | omega | (simp only [InI, nmin, List.length_append, List.length_replicate, List.length_cons, List.length_nil, List.length_map, List.length_set, List.length_take, List.length_drop, List.length_reverse, List.length_range, Nat.zero_add, Nat.add_zero, Int.toNat_natCast, EK.sz]; omega) | (simp only [InI, nmin, List.length_append, List.length_replicate, List.length_cons, List.length_nil, List.length_map, List.length_set, List.length_take, List.length_drop, List.length_reverse, List.length_range, Nat.zero_add, Nat.add_zero, Int.toNat_natCast, EK.sz] at *; omega))) ?_ | refine Ob.mk ?_ ?_ | refine Both.mk ?_ ?_ | refine draw_of Try.mixed Try.tyOk 60 (by kernel_rfl) ?_ | intro _))
          (conv => whnf)
          rw [hpq]
          exact ⟨[(5, some 6), (6, some 7)], [(2, .box 130 (jCells (st + F.st) 5 6 pl al p q)), (5, .arr true 3 .int pl p), (6, .arr true 47 .arc al q)], 7, .i st, ⟨by rfl, trivial, by simp [eqFr, eqHp, eqV, eqA, eqC, eqO, eqCs, eqAs, look_cons, look, rn, EK.cast, EK.sz, eqCaps]⟩, by simp [eqV, eqA, eqC], p, q, rfl, rfl⟩
end Go.Fw
