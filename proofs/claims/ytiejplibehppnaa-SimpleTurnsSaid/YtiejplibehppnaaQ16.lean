/- Walks of the functions: what each computes. -/
import Derived.Test.YtiejplibehppnaaQ15
import Derived.Test.YtiejplibehppnaaQ11
import Derived.Test.YtiejplibehppnaaQ08

set_option linter.unusedSimpArgs false
set_option linter.unusedVariables false

namespace Go.Fw
open Go Go.Proofs

abbrev ready1E (F : TF) : Int := readyE (fstE F) F.st (F.arcs.length : Int)

def again0 (F : TF) : List Arc := F.arcs.map (shA 1) ++ [silA 0 (1 + F.start) 0]
def againF (F : TF) : List Int := 0 :: F.fin.map goneF

set_option maxHeartbeats 8000000 in
set_option maxRecDepth 20000 in
theorem again_ok (F : TF) (hF : F.fin.length ≤ 9223372036854775807) (h : ready1E F = 0) : Ct Try.prog 40 [fV F] [] (hpF F) 2 (JoinPost (1 + F.st) (againF F) (againL F) 2) := by
  have hr := readyE_ok h
  have oF := fstE_ok hr.1
  have f1 := oF.st
  have f2 := oF.finl
  have f3 := oF.start
  have f4 := oF.arcl
  have hBl : (again0 F).length ≤ 10000 := by simp [again0]; omega
  refine ctR2 Try.tyOk Try.func40 rfl (by simp [SV.lt, SA.lt, SC.lt, fV]) (by simp) (fr := [(0, fV F)]) rfl 9 [27] 5
    (fun x : Nat × Nat => ⟨[(2, .c (.ptr 3 0)), (5, .c (.ptr 7 0)), (6, .c (.ptr 8 0)), (27, .c (.fn 112 [(2, 0)]))],
      [(0, .arr false 3 .int F.fin 0), (1, .arr false 47 .arc F.arcs 0), (2, .box 25 (onF F)), (3, .box 25 [.i 0, .i 0, .v (.slice none 0 0), .v (.slice none 0 0)]),
        (4, .box 130 (jCells (1 + F.st) 5 6 (againF F) (again0 F) x.1 x.2)), (5, .arr true 3 .int (againF F) x.1), (6, .arr true 47 .arc (again0 F) x.2), (7, .box 95 [.ptr 4 0]), (8, .box 3 [.i 1])], 9⟩)
    (fun _ => True) rfl Try.func112 rfl Try.call112 (fun _ => rfl) (by decide) (by simp) 5 [6, 7, 8] ?_ ?_
  · repeat' (first | exact rfl | ((conv => whnf); first | refine condP_dec (fun h => absurd h (by omega)) (fun h => ?_) | refine condP_dec (fun h => ?_) (fun h => absurd h (by omega)) | refine condP_dec (fun h => ?_) (fun h => ?_) | refine condP_ndec (fun h => absurd h (by omega)) (fun h => ?_) | refine condP_ndec (fun h => ?_) (fun h => absurd h (by omega)) | refine condP_ndec (fun h => ?_) (fun h => ?_) | refine condP_beq (fun h => absurd h (by omega)) (fun h => ?_) | refine condP_beq (fun h => ?_) (fun h => absurd h (by omega)) | refine condP_beq (fun h => ?_) (fun h => ?_) | refine condP_bne (fun h => absurd h (by omega)) (fun h => ?_) | refine condP_bne (fun h => ?_) (fun h => absurd h (by omega)) | refine condP_bne (fun h => ?_) (fun h => ?_) | refine condP_mk (fun h => ?_) (fun h => ?_) | refine Ob.mk (by (first | omega | (simp only [InI, nmin, List.length_append, List.length_replicate, List.length_cons, List.length_nil, List.length_map, List.length_set, List.length_take, List.length_drop, List.length_reverse, List.length_range, Nat.zero_add, Nat.add_zero, Int.toNat_natCast, EK.sz]; omega) | (simp only [InI, nmin, List.length_append, List.length_replicate, List.length_cons, List.length_nil, List.length_map, List.length_set, List.length_take, List.length_drop, List.length_reverse, List.length_range, Nat.zero_add, Nat.add_zero, Int.toNat_natCast, EK.sz] at *; omega))) ?_ | refine Ob.mk ?_ ?_ | refine Both.mk ?_ ?_ | refine draw_of Try.mixed Try.tyOk 60 (by kernel_rfl) ?_))
    (conv => whnf)
    refine callF (ready1_c F hF) [0, 1, 4] Try.call78 rfl (by simp [eqLs, eqL, eqO, eqC, eqCs, rn, renOf, look_cons, look, EK.cast, appN]) (by simp [appN, ptrs, eqVL, eqV, eqA, eqC, eqCs, eqAs, eqCaps, EK.sz, rn, renOf, look_cons, look, arcV, fV, appN]) (by simp [appN, ptrs, SV.lt, SA.lt, SC.lt, arcV, fV, lenN]) ?_
    rintro _ _ ⟨rfl, rfl⟩
    rw [show readyE (fstE F) F.st (F.arcs.length : Int) = 0 from h]
    repeat' (first | exact rfl | ((conv => whnf); first | refine condP_dec (fun h => absurd h (by omega)) (fun h => ?_) | refine condP_dec (fun h => ?_) (fun h => absurd h (by omega)) | refine condP_dec (fun h => ?_) (fun h => ?_) | refine condP_ndec (fun h => absurd h (by omega)) (fun h => ?_) | refine condP_ndec (fun h => ?_) (fun h => absurd h (by omega)) | refine condP_ndec (fun h => ?_) (fun h => ?_) | refine condP_beq (fun h => absurd h (by omega)) (fun h => ?_) | refine condP_beq (fun h => ?_) (fun h => absurd h (by omega)) | refine condP_beq (fun h => ?_) (fun h => ?_) | refine condP_bne (fun h => absurd h (by omega)) (fun h => ?_) | refine condP_bne (fun h => ?_) (fun h => absurd h (by omega)) | refine condP_bne (fun h => ?_) (fun h => ?_) | refine condP_mk (fun h => ?_) (fun h => ?_) | refine Ob.mk (by (first | omega | (simp only [InI, nmin, List.length_append, List.length_replicate, List.length_cons, List.length_nil, List.length_map, List.length_set, List.length_take, List.length_drop, List.length_reverse, List.length_range, Nat.zero_add, Nat.add_zero, Int.toNat_natCast, EK.sz]; omega) | (simp only [InI, nmin, List.length_append, List.length_replicate, List.length_cons, List.length_nil, List.length_map, List.length_set, List.length_take, List.length_drop, List.length_reverse, List.length_range, Nat.zero_add, Nat.add_zero, Int.toNat_natCast, EK.sz] at *; omega))) ?_ | refine Ob.mk ?_ ?_ | refine Both.mk ?_ ?_ | refine draw_of Try.mixed Try.tyOk 60 (by kernel_rfl) ?_ | intro _))
    (conv => whnf)
    refine callF (begin_c 0) [] Try.call79 rfl (by simp [eqLs, eqL, eqO, eqC, eqCs, rn, renOf, look_cons, look, EK.cast]) (by simp [appN, ptrs, eqVL, eqV, eqA, eqC, eqCs, eqAs, eqCaps, EK.sz, rn, renOf, look_cons, look, arcV, fV]) (by simp [appN, ptrs, SV.lt, SA.lt, SC.lt, arcV, fV, lenN]) ?_
    rintro _ _ ⟨rfl, rfl⟩
    repeat' (first | exact rfl | ((conv => whnf); first | refine condP_dec (fun h => absurd h (by omega)) (fun h => ?_) | refine condP_dec (fun h => ?_) (fun h => absurd h (by omega)) | refine condP_dec (fun h => ?_) (fun h => ?_) | refine condP_ndec (fun h => absurd h (by omega)) (fun h => ?_) | refine condP_ndec (fun h => ?_) (fun h => absurd h (by omega)) | refine condP_ndec (fun h => ?_) (fun h => ?_) | refine condP_beq (fun h => absurd h (by omega)) (fun h => ?_) | refine condP_beq (fun h => ?_) (fun h => absurd h (by omega)) | refine condP_beq (fun h => ?_) (fun h => ?_) | refine condP_bne (fun h => absurd h (by omega)) (fun h => ?_) | refine condP_bne (fun h => ?_) (fun h => absurd h (by omega)) | refine condP_bne (fun h => ?_) (fun h => ?_) | refine condP_mk (fun h => ?_) (fun h => ?_) | refine Ob.mk (by (first | omega | (simp only [InI, nmin, List.length_append, List.length_replicate, List.length_cons, List.length_nil, List.length_map, List.length_set, List.length_take, List.length_drop, List.length_reverse, List.length_range, Nat.zero_add, Nat.add_zero, Int.toNat_natCast, EK.sz]; omega) | (simp only [InI, nmin, List.length_append, List.length_replicate, List.length_cons, List.length_nil, List.length_map, List.length_set, List.length_take, List.length_drop, List.length_reverse, List.length_range, Nat.zero_add, Nat.add_zero, Int.toNat_natCast, EK.sz] at *; omega))) ?_ | refine Ob.mk ?_ ?_ | refine Both.mk ?_ ?_ | refine draw_of Try.mixed Try.tyOk 60 (by kernel_rfl) ?_ | intro _))
    (conv => whnf)
    refine callF (take84_c F oF 1 [0] [] 0 0 (by omega) (by simp) (by simp)) [0, 1, 5, 6, 7] Try.call80 rfl (by simp [eqLs, eqL, eqO, eqC, eqCs, rn, renOf, look_cons, look, EK.cast]) (by simp [appN, ptrs, eqVL, eqV, eqA, eqC, eqCs, eqAs, eqCaps, EK.sz, rn, renOf, look_cons, look, arcV, fV]) (by simp [appN, ptrs, SV.lt, SA.lt, SC.lt, arcV, fV, lenN]) ?_
    rintro _ _ ⟨p, q, rfl, rfl⟩
    have z3 : (([] : List Arc) ++ F.arcs.map (shA 1)).length ≤ 1000000 := by simp; omega
    repeat' (first | exact rfl | ((conv => whnf); first | refine condP_dec (fun h => absurd h (by omega)) (fun h => ?_) | refine condP_dec (fun h => ?_) (fun h => absurd h (by omega)) | refine condP_dec (fun h => ?_) (fun h => ?_) | refine condP_ndec (fun h => absurd h (by omega)) (fun h => ?_) | refine condP_ndec (fun h => ?_) (fun h => absurd h (by omega)) | refine condP_ndec (fun h => ?_) (fun h => ?_) | refine condP_beq (fun h => absurd h (by omega)) (fun h => ?_) | refine condP_beq (fun h => ?_) (fun h => absurd h (by omega)) | refine condP_beq (fun h => ?_) (fun h => ?_) | refine condP_bne (fun h => absurd h (by omega)) (fun h => ?_) | refine condP_bne (fun h => ?_) (fun h => absurd h (by omega)) | refine condP_bne (fun h => ?_) (fun h => ?_) | refine condP_mk (fun h => ?_) (fun h => ?_) | refine Ob.mk (by (first | omega | (simp only [InI, nmin, List.length_append, List.length_replicate, List.length_cons, List.length_nil, List.length_map, List.length_set, List.length_take, List.length_drop, List.length_reverse, List.length_range, Nat.zero_add, Nat.add_zero, Int.toNat_natCast, EK.sz]; omega) | (simp only [InI, nmin, List.length_append, List.length_replicate, List.length_cons, List.length_nil, List.length_map, List.length_set, List.length_take, List.length_drop, List.length_reverse, List.length_range, Nat.zero_add, Nat.add_zero, Int.toNat_natCast, EK.sz] at *; omega))) ?_ | refine Ob.mk ?_ ?_ | refine Both.mk ?_ ?_ | refine draw_of Try.mixed Try.tyOk 60 (by kernel_rfl) ?_ | intro _))
    (conv => whnf)
    refine callF (silent_c (1 + F.st) ([0] ++ F.fin.map goneF) ([] ++ F.arcs.map (shA 1)) p q 0 (1 + F.start) 0 z3) [5, 9, 10] Try.call82 rfl (by simp [eqLs, eqL, eqO, eqC, eqCs, rn, renOf, look_cons, look, EK.cast]) (by simp [appN, ptrs, eqVL, eqV, eqA, eqC, eqCs, eqAs, eqCaps, EK.sz, rn, renOf, look_cons, look, arcV, fV]) (by simp [appN, ptrs, SV.lt, SA.lt, SC.lt, arcV, fV, lenN]) ?_
    rintro _ _ ⟨q3, rfl, rfl⟩
    repeat' (first | exact rfl | ((conv => whnf); first | refine condP_dec (fun h => absurd h (by omega)) (fun h => ?_) | refine condP_dec (fun h => ?_) (fun h => absurd h (by omega)) | refine condP_dec (fun h => ?_) (fun h => ?_) | refine condP_ndec (fun h => absurd h (by omega)) (fun h => ?_) | refine condP_ndec (fun h => ?_) (fun h => absurd h (by omega)) | refine condP_ndec (fun h => ?_) (fun h => ?_) | refine condP_beq (fun h => absurd h (by omega)) (fun h => ?_) | refine condP_beq (fun h => ?_) (fun h => absurd h (by omega)) | refine condP_beq (fun h => ?_) (fun h => ?_) | refine condP_bne (fun h => absurd h (by omega)) (fun h => ?_) | refine condP_bne (fun h => ?_) (fun h => absurd h (by omega)) | refine condP_bne (fun h => ?_) (fun h => ?_) | refine condP_mk (fun h => ?_) (fun h => ?_) | refine Ob.mk (by (first | omega | (simp only [InI, nmin, List.length_append, List.length_replicate, List.length_cons, List.length_nil, List.length_map, List.length_set, List.length_take, List.length_drop, List.length_reverse, List.length_range, Nat.zero_add, Nat.add_zero, Int.toNat_natCast, EK.sz]; omega) | (simp only [InI, nmin, List.length_append, List.length_replicate, List.length_cons, List.length_nil, List.length_map, List.length_set, List.length_take, List.length_drop, List.length_reverse, List.length_range, Nat.zero_add, Nat.add_zero, Int.toNat_natCast, EK.sz] at *; omega))) ?_ | refine Ob.mk ?_ ?_ | refine Both.mk ?_ ?_ | refine draw_of Try.mixed Try.tyOk 60 (by kernel_rfl) ?_ | intro _))
    (conv => whnf)
    refine callF (ends_c F) [0, 1] Try.call85 rfl (by simp [eqLs, eqL, eqO, eqC, eqCs, rn, renOf, look_cons, look, EK.cast]) (by simp [appN, ptrs, eqVL, eqV, eqA, eqC, eqCs, eqAs, eqCaps, EK.sz, rn, renOf, look_cons, look, arcV, fV]) (by simp [appN, ptrs, SV.lt, SA.lt, SC.lt, arcV, fV, lenN]) ?_
    rintro _ _ ⟨rfl, rfl⟩
    repeat' (first | exact rfl | ((conv => whnf); first | refine condP_dec (fun h => absurd h (by omega)) (fun h => ?_) | refine condP_dec (fun h => ?_) (fun h => absurd h (by omega)) | refine condP_dec (fun h => ?_) (fun h => ?_) | refine condP_ndec (fun h => absurd h (by omega)) (fun h => ?_) | refine condP_ndec (fun h => ?_) (fun h => absurd h (by omega)) | refine condP_ndec (fun h => ?_) (fun h => ?_) | refine condP_beq (fun h => absurd h (by omega)) (fun h => ?_) | refine condP_beq (fun h => ?_) (fun h => absurd h (by omega)) | refine condP_beq (fun h => ?_) (fun h => ?_) | refine condP_bne (fun h => absurd h (by omega)) (fun h => ?_) | refine condP_bne (fun h => ?_) (fun h => absurd h (by omega)) | refine condP_bne (fun h => ?_) (fun h => ?_) | refine condP_mk (fun h => ?_) (fun h => ?_) | refine Ob.mk (by (first | omega | (simp only [InI, nmin, List.length_append, List.length_replicate, List.length_cons, List.length_nil, List.length_map, List.length_set, List.length_take, List.length_drop, List.length_reverse, List.length_range, Nat.zero_add, Nat.add_zero, Int.toNat_natCast, EK.sz]; omega) | (simp only [InI, nmin, List.length_append, List.length_replicate, List.length_cons, List.length_nil, List.length_map, List.length_set, List.length_take, List.length_drop, List.length_reverse, List.length_range, Nat.zero_add, Nat.add_zero, Int.toNat_natCast, EK.sz] at *; omega))) ?_ | refine Ob.mk ?_ ?_ | refine Both.mk ?_ ?_ | refine draw_of Try.mixed Try.tyOk 60 (by kernel_rfl) ?_ | intro _))
    (conv => whnf)
    refine ⟨(p, q3), [(2, some 13), (4, some 5), (5, some 9), (6, some 12), (7, some 8), (8, some 11)], ⟨by rfl, ?_, ?_⟩, trivial⟩
    · simp [eqFr, eqHp, eqV, eqA, eqC, eqO, eqCs, eqAs, look_cons, look, rn, EK.cast, EK.sz, eqCaps]
    · simp [eqFr, eqHp, eqV, eqA, eqC, eqO, eqCs, eqAs, look_cons, look, rn, EK.cast, EK.sz, eqCaps, againF, again0]
  · rintro ⟨sp, sq⟩ _ l D r β1 hrec
    dsimp only at hrec ⊢
    repeat' (first | exact rfl | ((conv => whnf); first | refine condP_dec (fun h => absurd h (by omega)) (fun h => ?_) | refine condP_dec (fun h => ?_) (fun h => absurd h (by omega)) | refine condP_dec (fun h => ?_) (fun h => ?_) | refine condP_ndec (fun h => absurd h (by omega)) (fun h => ?_) | refine condP_ndec (fun h => ?_) (fun h => absurd h (by omega)) | refine condP_ndec (fun h => ?_) (fun h => ?_) | refine condP_beq (fun h => absurd h (by omega)) (fun h => ?_) | refine condP_beq (fun h => ?_) (fun h => absurd h (by omega)) | refine condP_beq (fun h => ?_) (fun h => ?_) | refine condP_bne (fun h => absurd h (by omega)) (fun h => ?_) | refine condP_bne (fun h => ?_) (fun h => absurd h (by omega)) | refine condP_bne (fun h => ?_) (fun h => ?_) | refine condP_mk (fun h => ?_) (fun h => ?_) | refine Ob.mk (by (first | omega | (simp only [InI, nmin, List.length_append, List.length_replicate, List.length_cons, List.length_nil, List.length_map, List.length_set, List.length_take, List.length_drop, List.length_reverse, List.length_range, Nat.zero_add, Nat.add_zero, Int.toNat_natCast, EK.sz]; omega) | (simp only [InI, nmin, List.length_append, List.length_replicate, List.length_cons, List.length_nil, List.length_map, List.length_set, List.length_take, List.length_drop, List.length_reverse, List.length_range, Nat.zero_add, Nat.add_zero, Int.toNat_natCast, EK.sz] at *; omega))) ?_ | refine Ob.mk ?_ ?_ | refine Both.mk ?_ ?_ | refine draw_of Try.mixed Try.tyOk 60 (by kernel_rfl) ?_ | intro _))
    (conv => whnf)
    refine loopI (fun y : Nat × Nat => ⟨[(0, .c (.v (.func (.yield l) #[] #[]))), (1, .c (.ptr 2 0)), (6, .c (.sl 0 1 0 F.fin.length F.capF)), (7, .i F.fin.length), (8, .i y.1)],
      [(0, .arr false 3 .int F.fin 0), (1, .arr false 47 .arc F.arcs 0), (2, .box 25 (onF F)), (3, .box 25 [.i 0, .i 0, .v (.slice none 0 0), .v (.slice none 0 0)]),
        (4, .box 130 (jCells (1 + F.st) 5 11 (againF F) (again0 F ++ endsL 1 0 F.fin y.1) sp y.2)), (5, .arr true 3 .int (againF F) sp), (11, .arr true 47 .arc (again0 F ++ endsL 1 0 F.fin y.1) y.2), (7, .box 95 [.ptr 4 0]), (8, .box 3 [.i 1]), (10, loopO l r), (9, markO D)], 12⟩)
      (fun y => y.1 ≤ F.fin.length) (fun y => F.fin.length - y.1) (0, sq) [(11, some 6)] ⟨by rfl, ?_, ?_⟩ (Nat.zero_le _) ?_
    · simp [eqFr, eqHp, eqV, eqA, eqC, eqO, eqCs, eqAs, look_cons, look, rn, EK.cast, EK.sz, eqCaps]
    · simp [eqFr, eqHp, eqV, eqA, eqC, eqO, eqCs, eqAs, look_cons, look, rn, EK.cast, EK.sz, eqCaps, endsL, loopO, markO]
    · rintro ⟨k, q⟩ hk
      simp only at hk ⊢
      have hel := endsL_len 1 0 F.fin k
      have hes : endsL 1 0 F.fin (k + 1) = endsL 1 0 F.fin k ++ (if F.fin.getD k 0 = -1 then [] else [silA (1 + k) 0 (F.fin.getD k 0)]) := rfl
      have hel2 : (again0 F ++ endsL 1 0 F.fin k).length ≤ 20000 := by simp; omega
      have e0 : 0 + (k : Int).toNat = k := by omega
      repeat' (first | exact rfl | ((conv => whnf); first | refine condP_dec (fun h => absurd h (by omega)) (fun h => ?_) | refine condP_dec (fun h => ?_) (fun h => absurd h (by omega)) | refine condP_dec (fun h => ?_) (fun h => ?_) | refine condP_ndec (fun h => absurd h (by omega)) (fun h => ?_) | refine condP_ndec (fun h => ?_) (fun h => absurd h (by omega)) | refine condP_ndec (fun h => ?_) (fun h => ?_) | refine condP_beq (fun h => absurd h (by omega)) (fun h => ?_) | refine condP_beq (fun h => ?_) (fun h => absurd h (by omega)) | refine condP_beq (fun h => ?_) (fun h => ?_) | refine condP_bne (fun h => absurd h (by omega)) (fun h => ?_) | refine condP_bne (fun h => ?_) (fun h => absurd h (by omega)) | refine condP_bne (fun h => ?_) (fun h => ?_) | refine condP_mk (fun h => ?_) (fun h => ?_) | refine Ob.mk (by (first | omega | (simp only [InI, nmin, List.length_append, List.length_replicate, List.length_cons, List.length_nil, List.length_map, List.length_set, List.length_take, List.length_drop, List.length_reverse, List.length_range, Nat.zero_add, Nat.add_zero, Int.toNat_natCast, EK.sz]; omega) | (simp only [InI, nmin, List.length_append, List.length_replicate, List.length_cons, List.length_nil, List.length_map, List.length_set, List.length_take, List.length_drop, List.length_reverse, List.length_range, Nat.zero_add, Nat.add_zero, Int.toNat_natCast, EK.sz] at *; omega))) ?_ | refine Ob.mk ?_ ?_ | refine Both.mk ?_ ?_ | refine draw_of Try.mixed Try.tyOk 60 (by kernel_rfl) ?_ | intro _))
      · (conv => whnf)
        refine yieldR (id := 10) Try.tyOk hrec rfl rfl rfl rfl rfl rfl rfl rfl ?_
        repeat' (first | exact rfl | ((conv => whnf); first | refine condP_dec (fun h => absurd h (by omega)) (fun h => ?_) | refine condP_dec (fun h => ?_) (fun h => absurd h (by omega)) | refine condP_dec (fun h => ?_) (fun h => ?_) | refine condP_ndec (fun h => absurd h (by omega)) (fun h => ?_) | refine condP_ndec (fun h => ?_) (fun h => absurd h (by omega)) | refine condP_ndec (fun h => ?_) (fun h => ?_) | refine condP_beq (fun h => absurd h (by omega)) (fun h => ?_) | refine condP_beq (fun h => ?_) (fun h => absurd h (by omega)) | refine condP_beq (fun h => ?_) (fun h => ?_) | refine condP_bne (fun h => absurd h (by omega)) (fun h => ?_) | refine condP_bne (fun h => ?_) (fun h => absurd h (by omega)) | refine condP_bne (fun h => ?_) (fun h => ?_) | refine condP_mk (fun h => ?_) (fun h => ?_) | refine Ob.mk (by (first | omega | (simp only [InI, nmin, List.length_append, List.length_replicate, List.length_cons, List.length_nil, List.length_map, List.length_set, List.length_take, List.length_drop, List.length_reverse, List.length_range, Nat.zero_add, Nat.add_zero, Int.toNat_natCast, EK.sz]; omega) | (simp only [InI, nmin, List.length_append, List.length_replicate, List.length_cons, List.length_nil, List.length_map, List.length_set, List.length_take, List.length_drop, List.length_reverse, List.length_range, Nat.zero_add, Nat.add_zero, Int.toNat_natCast, EK.sz] at *; omega))) ?_ | refine Ob.mk ?_ ?_ | refine Both.mk ?_ ?_ | refine draw_of Try.mixed Try.tyOk 60 (by kernel_rfl) ?_ | intro _))
        · exact ⟨rfl, rfl⟩
        (conv => whnf)
        refine callF (silent_c (1 + F.st) (againF F) (again0 F ++ endsL 1 0 F.fin k) sp q (1 + k) 0 (F.fin.getD (0 + (k : Int).toNat) EK.int.dflt) (by omega)) [4, 5, 11] Try.call82 rfl (by simp [eqLs, eqL, eqO, eqC, eqCs, rn, renOf, look_cons, look, EK.cast]) (by simp [appN, ptrs, eqVL, eqV, eqA, eqC, eqCs, eqAs, eqCaps, EK.sz, rn, renOf, look_cons, look, arcV, fV]) (by simp [appN, ptrs, SV.lt, SA.lt, SC.lt, arcV, fV, lenN]) ?_
        rintro _ _ ⟨q2, rfl, rfl⟩
        repeat' (first | exact rfl | ((conv => whnf); first | refine condP_dec (fun h => absurd h (by omega)) (fun h => ?_) | refine condP_dec (fun h => ?_) (fun h => absurd h (by omega)) | refine condP_dec (fun h => ?_) (fun h => ?_) | refine condP_ndec (fun h => absurd h (by omega)) (fun h => ?_) | refine condP_ndec (fun h => ?_) (fun h => absurd h (by omega)) | refine condP_ndec (fun h => ?_) (fun h => ?_) | refine condP_beq (fun h => absurd h (by omega)) (fun h => ?_) | refine condP_beq (fun h => ?_) (fun h => absurd h (by omega)) | refine condP_beq (fun h => ?_) (fun h => ?_) | refine condP_bne (fun h => absurd h (by omega)) (fun h => ?_) | refine condP_bne (fun h => ?_) (fun h => absurd h (by omega)) | refine condP_bne (fun h => ?_) (fun h => ?_) | refine condP_mk (fun h => ?_) (fun h => ?_) | refine Ob.mk (by (first | omega | (simp only [InI, nmin, List.length_append, List.length_replicate, List.length_cons, List.length_nil, List.length_map, List.length_set, List.length_take, List.length_drop, List.length_reverse, List.length_range, Nat.zero_add, Nat.add_zero, Int.toNat_natCast, EK.sz]; omega) | (simp only [InI, nmin, List.length_append, List.length_replicate, List.length_cons, List.length_nil, List.length_map, List.length_set, List.length_take, List.length_drop, List.length_reverse, List.length_range, Nat.zero_add, Nat.add_zero, Int.toNat_natCast, EK.sz] at *; omega))) ?_ | refine Ob.mk ?_ ?_ | refine Both.mk ?_ ?_ | refine draw_of Try.mixed Try.tyOk 60 (by kernel_rfl) ?_ | intro _))
        (conv => whnf)
        refine ⟨(k + 1, q2), [(11, some 12)], ⟨by rfl, ?_, ?_⟩, by simp only; omega, by simp only; omega⟩
        · simp [eqFr, eqHp, eqV, eqA, eqC, eqO, eqCs, eqAs, look_cons, look, rn, EK.cast, EK.sz, eqCaps]
        · have hes2 : again0 F ++ endsL 1 0 F.fin (k + 1) = again0 F ++ endsL 1 0 F.fin k ++ [silA (1 + k) 0 (F.fin.getD (0 + (k : Int).toNat) EK.int.dflt)] := by
            rw [hes, if_neg (by rw [← e0]; exact ‹¬F.fin.getD (0 + (k : Int).toNat) EK.int.dflt = -1›), List.append_assoc, e0]
            rfl
          simp [eqFr, eqHp, eqV, eqA, eqC, eqO, eqCs, eqAs, look_cons, look, rn, EK.cast, EK.sz, eqCaps, hes2, loopO, markO]
      · (conv => whnf)
        refine ⟨(k + 1, q), [], ⟨by rfl, ?_, ?_⟩, by simp only; omega, by simp only; omega⟩
        · simp [eqFr, eqHp, eqV, eqA, eqC, eqO, eqCs, eqAs, look_cons, look, rn, EK.cast, EK.sz, eqCaps]
        · have hes2 : endsL 1 0 F.fin (k + 1) = endsL 1 0 F.fin k := by
            rw [hes, if_pos (by rw [← e0]; exact ‹_›), List.append_nil]
          simp [eqFr, eqHp, eqV, eqA, eqC, eqO, eqCs, eqAs, look_cons, look, rn, EK.cast, EK.sz, eqCaps, hes2, loopO, markO]
      · have e : k = F.fin.length := by omega
        subst e
        have z1 : (again0 F ++ endsL 1 0 F.fin F.fin.length).length ≤ 1000000 := by omega
        (conv => whnf)
        refine callF (done_c (1 + F.st) (againF F) (again0 F ++ endsL 1 0 F.fin F.fin.length) sp q z1) [4, 5, 11] Try.call83 rfl (by simp [eqLs, eqL, eqO, eqC, eqCs, rn, renOf, look_cons, look, EK.cast]) (by simp [appN, ptrs, eqVL, eqV, eqA, eqC, eqCs, eqAs, eqCaps, EK.sz, rn, renOf, look_cons, look, arcV, fV]) (by simp [appN, ptrs, SV.lt, SA.lt, SC.lt, arcV, fV, lenN]) ?_
        rintro _ _ ⟨zs, sq', rfl, rfl, hz⟩
        repeat' (first | exact rfl | ((conv => whnf); first | refine condP_dec (fun h => absurd h (by omega)) (fun h => ?_) | refine condP_dec (fun h => ?_) (fun h => absurd h (by omega)) | refine condP_dec (fun h => ?_) (fun h => ?_) | refine condP_ndec (fun h => absurd h (by omega)) (fun h => ?_) | refine condP_ndec (fun h => ?_) (fun h => absurd h (by omega)) | refine condP_ndec (fun h => ?_) (fun h => ?_) | refine condP_beq (fun h => absurd h (by omega)) (fun h => ?_) | refine condP_beq (fun h => ?_) (fun h => absurd h (by omega)) | refine condP_beq (fun h => ?_) (fun h => ?_) | refine condP_bne (fun h => absurd h (by omega)) (fun h => ?_) | refine condP_bne (fun h => ?_) (fun h => absurd h (by omega)) | refine condP_bne (fun h => ?_) (fun h => ?_) | refine condP_mk (fun h => ?_) (fun h => ?_) | refine Ob.mk (by (first | omega | (simp only [InI, nmin, List.length_append, List.length_replicate, List.length_cons, List.length_nil, List.length_map, List.length_set, List.length_take, List.length_drop, List.length_reverse, List.length_range, Nat.zero_add, Nat.add_zero, Int.toNat_natCast, EK.sz]; omega) | (simp only [InI, nmin, List.length_append, List.length_replicate, List.length_cons, List.length_nil, List.length_map, List.length_set, List.length_take, List.length_drop, List.length_reverse, List.length_range, Nat.zero_add, Nat.add_zero, Int.toNat_natCast, EK.sz] at *; omega))) ?_ | refine Ob.mk ?_ ?_ | refine Both.mk ?_ ?_ | refine draw_of Try.mixed Try.tyOk 60 (by kernel_rfl) ?_ | intro _))
        (conv => whnf)
        refine ⟨[(2, some 5), (3, some 11)], [(2, .arr true 3 .int (againF F) sp), (3, .arr true 47 .arc zs sq')], 4, .tup [.agg [.i (1 + F.st), .i 0, .sl 2 1 0 (againF F).length ((againF F).length + sp), .sl 3 5 0 zs.length (zs.length + sq')], .c (.i 0)], ⟨by rfl, trivial, by simp [eqFr, eqHp, eqV, eqA, eqC, eqO, eqCs, eqAs, look_cons, look, rn, EK.cast, EK.sz, eqCaps]⟩, by simp [eqV, eqA, eqAs, eqC, eqCs, rn, look, look_cons, EK.sz], zs, sp, sq', rfl, rfl, hz⟩
end Go.Fw

/-
  What is joined is a transducer again.
-/
namespace Go.Fw
open Go

theorem join_fst {st : Int} {fin : List Int} {raw zs : List Arc} (hst : 1 ≤ st ∧ st ≤ 200) (hl : (fin.length : Int) = st) (hf : ∀ n ∈ fin, -1 ≤ n ∧ n ≤ 1000000000) (hr : ∀ a ∈ raw, ArcOk st a) (hrl : raw.length ≤ 3000) (h : IsNorm raw zs) (cf ca : Nat) : fstE ⟨st, 0, fin, zs, cf, ca⟩ = 0 := by
  refine fstE_iff.2 ⟨⟨hst, ⟨Int.le_refl _, by show (0 : Int) < st; omega⟩, hl, hf, Nat.le_trans h.len hrl, fun a ha => hr a (h.sub a ha)⟩, h.srt⟩

theorem shA_ok {st far to : Int} {a : Arc} (h : ArcOk st a) (h0 : 0 ≤ far) (h1 : far + st ≤ to) : ArcOk to (shA far a) := by
  have := h.f0; have := h.f1; have := h.t0; have := h.t1
  exact ⟨by show 0 ≤ a.f + far; omega, by show a.f + far < _; omega, by show 0 ≤ a.t + far; omega, by show a.t + far < _; omega, h.i0, h.o0, h.w0, h.w1⟩

theorem silA_ok {st f t w : Int} (hf : 0 ≤ f ∧ f < st) (ht : 0 ≤ t ∧ t < st) (hw : 0 ≤ w ∧ w ≤ 1000000000) : ArcOk st (silA f t w) :=
  ⟨hf.1, hf.2, ht.1, ht.2, by show (0 : Int) ≤ 0 ∧ (0 : Int) ≤ 9; omega, by show (0 : Int) ≤ 0 ∧ (0 : Int) ≤ 9; omega, hw.1, hw.2⟩

theorem either_fst {F G : TF} (hF : FOk F) (hG : FOk G) (hs : F.st + G.st ≤ 198) (ha : (F.arcs.length : Int) + G.arcs.length ≤ 2500) {zs : List Arc} (h : IsNorm (eitherL F G) zs) (cf ca : Nat) : fstE ⟨1 + F.st + G.st, 0, -1 :: (F.fin ++ G.fin), zs, cf, ca⟩ = 0 := by
  have f1 := hF.st
  have f2 := hF.finl
  have f3 := hF.start
  have g1 := hG.st
  have g2 := hG.finl
  have g3 := hG.start
  refine join_fst (by omega) (by simp; omega) (fun n hn => ?_) (fun a ha => ?_) (by simp [eitherL]; omega) h cf ca
  · rcases List.mem_cons.1 hn with rfl | hn
    · omega
    · rcases List.mem_append.1 hn with hn | hn
      · exact hF.fin n hn
      · exact hG.fin n hn
  · rcases eitherL_mem.1 ha with ⟨b, hb, rfl⟩ | rfl | ⟨b, hb, rfl⟩ | rfl
    · exact shA_ok (hF.arc b hb) (by omega) (by omega)
    · exact silA_ok (by omega) (by omega) (by omega)
    · exact shA_ok (hG.arc b hb) (by omega) (by omega)
    · exact silA_ok (by omega) (by omega) (by omega)

theorem behind_fst {F G : TF} (hF : FOk F) (hG : FOk G) (hs : F.st + G.st ≤ 198) (ha : (F.arcs.length : Int) + G.arcs.length ≤ 2500) {zs : List Arc} (h : IsNorm (behindL F G) zs) {l : List Int} (hl : l.length = F.fin.length) (hg : ∀ i, i < l.length → l.getD i 0 = -1) (cf ca : Nat) : fstE ⟨1 + F.st + G.st, 0, -1 :: (l ++ G.fin), zs, cf, ca⟩ = 0 := by
  have f1 := hF.st
  have f2 := hF.finl
  have f3 := hF.start
  have g1 := hG.st
  have g2 := hG.finl
  have g3 := hG.start
  have hel := endsL_len 1 (1 + F.st + G.start) F.fin F.fin.length
  refine join_fst (by omega) (by simp; omega) (fun n hn => ?_) (fun a ha => ?_) (by simp [behindL]; omega) h cf ca
  · rcases List.mem_cons.1 hn with rfl | hn
    · omega
    · rcases List.mem_append.1 hn with hn | hn
      · obtain ⟨i, hi, e⟩ := List.getElem_of_mem hn
        have := hg i hi
        simp [List.getD, hi] at this
        omega
      · exact hG.fin n hn
  · rcases behindL_mem.1 ha with ⟨b, hb, rfl⟩ | ⟨b, hb, rfl⟩ | rfl | ⟨n, hn, hnf, rfl⟩
    · exact shA_ok (hF.arc b hb) (by omega) (by omega)
    · exact shA_ok (hG.arc b hb) (by omega) (by omega)
    · exact silA_ok (by omega) (by omega) (by omega)
    · have := hF.fin _ (getD_mem F.fin n 0 hn)
      exact silA_ok (by omega) (by omega) (by omega)

theorem again_fst {F : TF} (hF : FOk F) (hs : F.st ≤ 198) (ha : (F.arcs.length : Int) ≤ 2500) {zs : List Arc} (h : IsNorm (againL F) zs) {l : List Int} (hl : l.length = F.fin.length) (hg : ∀ i, i < l.length → l.getD i 0 = -1) (cf ca : Nat) : fstE ⟨1 + F.st, 0, 0 :: l, zs, cf, ca⟩ = 0 := by
  have f1 := hF.st
  have f2 := hF.finl
  have f3 := hF.start
  have hel := endsL_len 1 0 F.fin F.fin.length
  refine join_fst (by omega) (by simp; omega) (fun n hn => ?_) (fun a ha => ?_) (by simp [againL]; omega) h cf ca
  · rcases List.mem_cons.1 hn with rfl | hn
    · omega
    · obtain ⟨i, hi, e⟩ := List.getElem_of_mem hn
      have := hg i hi
      simp [List.getD, hi] at this
      omega
  · rcases againL_mem.1 ha with ⟨b, hb, rfl⟩ | rfl | ⟨n, hn, hnf, rfl⟩
    · exact shA_ok (hF.arc b hb) (by omega) (by omega)
    · exact silA_ok (by omega) (by omega) (by omega)
    · have := hF.fin _ (getD_mem F.fin n 0 hn)
      exact silA_ok (by omega) (by omega) (by omega)

/-! ### One arc -/
theorem norm_one {a : Arc} {zs : List Arc} (h : IsNorm [a] zs) : zs = [a] := h.uniq ⟨List.pairwise_singleton _ _, fun z hz => hz, fun x hx => ⟨x, hx, Key.refl x, Int.le_refl _⟩⟩

/-- Two states, one arc. -/
theorem one_wt {i o : Int} {cf ca : Nat} {u v : List Int} {c : Int} : Wt ⟨2, 0, [-1, 1], [⟨0, i, o, 1, 5⟩], cf, ca⟩ u v c ↔ u = lab i ∧ v = lab o ∧ c = 6 := by
  constructor
  · rintro ⟨t, d, hw, hf, rfl⟩
    have key2 : ∀ s u v t d, Way [⟨0, i, o, 1, 5⟩] s u v t d → s ≠ 0 → s = t ∧ u = [] ∧ v = [] ∧ d = 0 := by
      intro s u v t d h hs
      cases h with
      | nil => exact ⟨rfl, rfl, rfl, rfl⟩
      | @cons a u v t c ha h =>
        rw [List.mem_singleton] at ha
        subst ha
        exact absurd rfl hs
    have key : ∀ s, Way [⟨0, i, o, 1, 5⟩] s u v t d → (s = t ∧ u = [] ∧ v = [] ∧ d = 0) ∨ (s = 0 ∧ t = 1 ∧ u = lab i ∧ v = lab o ∧ d = 5) := by
      intro s h
      cases h with
      | nil => exact .inl ⟨rfl, rfl, rfl, rfl⟩
      | @cons a u v t c ha h =>
        rw [List.mem_singleton] at ha
        subst ha
        obtain ⟨e1, rfl, rfl, rfl⟩ := key2 _ _ _ _ _ h (by show (1 : Int) ≠ 0; omega)
        exact .inr ⟨rfl, e1.symm, by simp, by simp, rfl⟩
    rcases key 0 hw with ⟨rfl, _, _, _⟩ | ⟨_, rfl, rfl, rfl, rfl⟩
    · exact absurd rfl hf
    · exact ⟨rfl, rfl, rfl⟩
  · rintro ⟨rfl, rfl, rfl⟩
    exact ⟨1, 5, by simpa using Way.one (L := [⟨0, i, o, 1, 5⟩]) (a := ⟨0, i, o, 1, 5⟩) (by simp), by simp, by simp⟩
end Go.Fw

namespace Go.Fw
open Go Go.Proofs

theorem word1_c (x : Int) : Ct Try.prog 58 [.i x] [] [] 0 (Is 0 (.b (!decide (1 ≤ x ∧ x ≤ 9)))) := by
  refine ctW Try.tyOk 9 [] Try.func58 rfl (by simp [SV.lt, SA.lt, SC.lt, arcV, fV]) (by simp) (fr := [(0, .i x)]) rfl ?_
  repeat' (first | exact rfl | ((conv => whnf); first | refine condP_dec (fun h => absurd h (by omega)) (fun h => ?_) | refine condP_dec (fun h => ?_) (fun h => absurd h (by omega)) | refine condP_dec (fun h => ?_) (fun h => ?_) | refine condP_ndec (fun h => absurd h (by omega)) (fun h => ?_) | refine condP_ndec (fun h => ?_) (fun h => absurd h (by omega)) | refine condP_ndec (fun h => ?_) (fun h => ?_) | refine condP_beq (fun h => absurd h (by omega)) (fun h => ?_) | refine condP_beq (fun h => ?_) (fun h => absurd h (by omega)) | refine condP_beq (fun h => ?_) (fun h => ?_) | refine condP_bne (fun h => absurd h (by omega)) (fun h => ?_) | refine condP_bne (fun h => ?_) (fun h => absurd h (by omega)) | refine condP_bne (fun h => ?_) (fun h => ?_) | refine condP_mk (fun h => ?_) (fun h => ?_) | refine Ob.mk (by (first | omega | (simp only [InI, nmin, List.length_append, List.length_replicate, List.length_cons, List.length_nil, List.length_map, List.length_set, List.length_take, List.length_drop, List.length_reverse, List.length_range, Nat.zero_add, Nat.add_zero, Int.toNat_natCast, EK.sz]; omega) | (simp only [InI, nmin, List.length_append, List.length_replicate, List.length_cons, List.length_nil, List.length_map, List.length_set, List.length_take, List.length_drop, List.length_reverse, List.length_range, Nat.zero_add, Nat.add_zero, Int.toNat_natCast, EK.sz] at *; omega))) ?_ | refine Ob.mk ?_ ?_ | refine Both.mk ?_ ?_ | refine draw_of Try.mixed Try.tyOk 60 (by kernel_rfl) ?_))
  all_goals refine Back.is ?_
  all_goals simp only [eqV, eqA, eqC]
  · simp; omega
  · have e : decide (1 ≤ x ∧ x ≤ 9) = decide (x ≤ 9) := by simp; omega
    rw [e]
    by_cases h9 : x ≤ 9
    · rw [decide_eq_true h9]; simp; omega
    · rw [decide_eq_false h9]; simp; omega

theorem wordE_any (l : List Int) (h : l.length ≤ 40) : wordE l = if l.any (fun x => !decide (1 ≤ x ∧ x ≤ 9)) = true then 3 else 0 := by
  unfold wordE
  rw [if_neg (by omega)]
  by_cases e : ∀ n ∈ l, 1 ≤ n ∧ n ≤ 9
  · rw [if_pos e, if_neg]
    simp only [List.any_eq_true, not_exists, not_and]
    intro x hx
    simp [e x hx]
  · rw [if_neg e, if_pos]
    simp only [List.any_eq_true]
    obtain ⟨n, h1, h2⟩ : ∃ n, n ∈ l ∧ ¬(1 ≤ n ∧ n ≤ 9) := by
      apply Classical.byContradiction
      intro c
      exact e (fun n hn => Classical.byContradiction fun c2 => c ⟨n, hn, c2⟩)
    exact ⟨n, h1, by rw [decide_eq_false h2]; rfl⟩

theorem word_c (l : List Int) (cap : Nat) : Ct Try.prog 14 [.c (.sl 0 1 0 l.length cap)] [] [(0, .arr false 3 .int l 0)] 1 (Is 1 (.i (wordE l))) := by
  refine ctW Try.tyOk 10 [] Try.func14 rfl (by simp [SV.lt, SA.lt, SC.lt, arcV, fV]) (by simp) (fr := [(0, .c (.sl 0 1 0 l.length cap))]) rfl ?_
  repeat' (first | exact rfl | ((conv => whnf); first | refine condP_dec (fun h => absurd h (by omega)) (fun h => ?_) | refine condP_dec (fun h => ?_) (fun h => absurd h (by omega)) | refine condP_dec (fun h => ?_) (fun h => ?_) | refine condP_ndec (fun h => absurd h (by omega)) (fun h => ?_) | refine condP_ndec (fun h => ?_) (fun h => absurd h (by omega)) | refine condP_ndec (fun h => ?_) (fun h => ?_) | refine condP_beq (fun h => absurd h (by omega)) (fun h => ?_) | refine condP_beq (fun h => ?_) (fun h => absurd h (by omega)) | refine condP_beq (fun h => ?_) (fun h => ?_) | refine condP_bne (fun h => absurd h (by omega)) (fun h => ?_) | refine condP_bne (fun h => ?_) (fun h => absurd h (by omega)) | refine condP_bne (fun h => ?_) (fun h => ?_) | refine condP_mk (fun h => ?_) (fun h => ?_) | refine Ob.mk (by (first | omega | (simp only [InI, nmin, List.length_append, List.length_replicate, List.length_cons, List.length_nil, List.length_map, List.length_set, List.length_take, List.length_drop, List.length_reverse, List.length_range, Nat.zero_add, Nat.add_zero, Int.toNat_natCast, EK.sz]; omega) | (simp only [InI, nmin, List.length_append, List.length_replicate, List.length_cons, List.length_nil, List.length_map, List.length_set, List.length_take, List.length_drop, List.length_reverse, List.length_range, Nat.zero_add, Nat.add_zero, Int.toNat_natCast, EK.sz] at *; omega))) ?_ | refine Ob.mk ?_ ?_ | refine Both.mk ?_ ?_ | refine draw_of Try.mixed Try.tyOk 60 (by kernel_rfl) ?_))
  · refine Back.is ?_
    simp only [eqV, eqA, eqC, wordE]
    rw [if_pos (by omega)]
  · refine callI (containsFunc_c l cap (by omega) 58 _ word1_c Try.call58) [0] Try.call57 rfl (by simp [eqLs, eqL, eqO, eqC, eqCs, rn, renOf, look_cons, look, EK.cast]) (by simp [appN, ptrs, eqVL, eqV, eqA, eqC, eqCs, eqAs, eqCaps, EK.sz, rn, renOf, look_cons, look, arcV, fV]) (by simp [appN, ptrs, SV.lt, SA.lt, SC.lt, arcV, fV]) ?_
    rw [wordE_any l (by omega)]
    repeat' (first | exact rfl | ((conv => whnf); first | refine condP_dec (fun h => absurd h (by omega)) (fun h => ?_) | refine condP_dec (fun h => ?_) (fun h => absurd h (by omega)) | refine condP_dec (fun h => ?_) (fun h => ?_) | refine condP_ndec (fun h => absurd h (by omega)) (fun h => ?_) | refine condP_ndec (fun h => ?_) (fun h => absurd h (by omega)) | refine condP_ndec (fun h => ?_) (fun h => ?_) | refine condP_beq (fun h => absurd h (by omega)) (fun h => ?_) | refine condP_beq (fun h => ?_) (fun h => absurd h (by omega)) | refine condP_beq (fun h => ?_) (fun h => ?_) | refine condP_bne (fun h => absurd h (by omega)) (fun h => ?_) | refine condP_bne (fun h => ?_) (fun h => absurd h (by omega)) | refine condP_bne (fun h => ?_) (fun h => ?_) | refine condP_mk (fun h => ?_) (fun h => ?_) | refine Ob.mk (by (first | omega | (simp only [InI, nmin, List.length_append, List.length_replicate, List.length_cons, List.length_nil, List.length_map, List.length_set, List.length_take, List.length_drop, List.length_reverse, List.length_range, Nat.zero_add, Nat.add_zero, Int.toNat_natCast, EK.sz]; omega) | (simp only [InI, nmin, List.length_append, List.length_replicate, List.length_cons, List.length_nil, List.length_map, List.length_set, List.length_take, List.length_drop, List.length_reverse, List.length_range, Nat.zero_add, Nat.add_zero, Int.toNat_natCast, EK.sz] at *; omega))) ?_ | refine Ob.mk ?_ ?_ | refine Both.mk ?_ ?_ | refine draw_of Try.mixed Try.tyOk 60 (by kernel_rfl) ?_))
    · refine Back.is ?_
      simp only [eqV, eqA, eqC]
      rw [if_pos h]
    · refine Back.is ?_
      simp only [eqV, eqA, eqC]
      rw [h]
      rfl

/-- Does a letter stand there, and how far does it go? -/
def fitE (l : List Int) (p x : Int) : Int × Bool := if x = 0 then (p, true) else (p + 1, decide (p < l.length ∧ l.getD p.toNat 0 = x))

set_option maxRecDepth 20000 in
theorem fits_c (l : List Int) (cap : Nat) (p x : Int) (hl : l.length ≤ 40) (hp : 0 ≤ p ∧ p ≤ l.length) : Ct Try.prog 130 [.c (.sl 0 1 0 l.length cap), .i p, .i x] [] [(0, .arr false 3 .int l 0)] 1 (Is 1 (.tup [.c (.i (fitE l p x).1), .c (.b (fitE l p x).2)])) := by
  have e1 : l.getD (0 + p.toNat) EK.int.dflt = l.getD p.toNat 0 := by rw [Nat.zero_add]; rfl
  refine ctW Try.tyOk 8 [] Try.func130 rfl (by simp [SV.lt, SA.lt, SC.lt, arcV, fV]) (by simp) (fr := [(0, .c (.sl 0 1 0 l.length cap)), (1, .i p), (2, .i x)]) rfl ?_
  repeat' (first | exact rfl | ((conv => whnf); first | refine condP_dec (fun h => absurd h (by omega)) (fun h => ?_) | refine condP_dec (fun h => ?_) (fun h => absurd h (by omega)) | refine condP_dec (fun h => ?_) (fun h => ?_) | refine condP_ndec (fun h => absurd h (by omega)) (fun h => ?_) | refine condP_ndec (fun h => ?_) (fun h => absurd h (by omega)) | refine condP_ndec (fun h => ?_) (fun h => ?_) | refine condP_beq (fun h => absurd h (by omega)) (fun h => ?_) | refine condP_beq (fun h => ?_) (fun h => absurd h (by omega)) | refine condP_beq (fun h => ?_) (fun h => ?_) | refine condP_bne (fun h => absurd h (by omega)) (fun h => ?_) | refine condP_bne (fun h => ?_) (fun h => absurd h (by omega)) | refine condP_bne (fun h => ?_) (fun h => ?_) | refine condP_mk (fun h => ?_) (fun h => ?_) | refine Ob.mk (by (first | omega | (simp only [InI, nmin, List.length_append, List.length_replicate, List.length_cons, List.length_nil, List.length_map, List.length_set, List.length_take, List.length_drop, List.length_reverse, List.length_range, Nat.zero_add, Nat.add_zero, Int.toNat_natCast, EK.sz]; omega) | (simp only [InI, nmin, List.length_append, List.length_replicate, List.length_cons, List.length_nil, List.length_map, List.length_set, List.length_take, List.length_drop, List.length_reverse, List.length_range, Nat.zero_add, Nat.add_zero, Int.toNat_natCast, EK.sz] at *; omega))) ?_ | refine Ob.mk ?_ ?_ | refine Both.mk ?_ ?_ | refine draw_of Try.mixed Try.tyOk 60 (by kernel_rfl) ?_))
  all_goals refine Back.is ?_
  all_goals simp only [eqV, eqA, eqAs, eqC, fitE]
  · simp [h]
  · rename_i hx
    rw [if_neg hx, e1]
    refine ⟨rfl, ?_, trivial⟩
    by_cases e : l.getD p.toNat 0 = x
    · rw [decide_eq_true ⟨h, e⟩, e]; simp
    · rw [decide_eq_false (fun c => e c.2)]
      exact (beq_eq_false_iff_ne.2 e).symm
  · rename_i hx
    rw [if_neg hx]
    refine ⟨rfl, ?_, trivial⟩
    exact decide_eq_false (fun c => h c.1)

/-- Two lists by their first difference. -/
def cmpL : List Int → List Int → Int
  | [], [] => 0
  | [], _ => -1
  | _ :: _, [] => 1
  | a :: l, b :: m => if cmpI a b ≠ 0 then cmpI a b else cmpL l m

theorem drop_getD (l : List Int) (k : Nat) (h : k < l.length) : l.drop k = l.getD k 0 :: l.drop (k + 1) := by
  rw [List.drop_eq_getElem_cons h]
  simp [List.getD, h]

set_option maxHeartbeats 2000000 in
set_option maxRecDepth 20000 in
theorem compareL_c (a b : List Int) (ca cb : Nat) (ha : a.length ≤ 9223372036854775807) : Ct Try.prog 135 [.c (.sl 0 1 0 a.length ca), .c (.sl 1 1 0 b.length cb)] [] [(0, .arr false 3 .int a 0), (1, .arr false 3 .int b 0)] 2 (Is 2 (.i (cmpL a b))) := by
  refine ctW Try.tyOk 9 [9, 10, 11] Try.func135 rfl (by simp [SV.lt, SA.lt, SC.lt, arcV, fV]) (by simp) (fr := [(0, .c (.sl 0 1 0 a.length ca)), (1, .c (.sl 1 1 0 b.length cb))]) rfl ?_
  repeat' (first | exact rfl | ((conv => whnf); first | refine condP_dec (fun h => absurd h (by omega)) (fun h => ?_) | refine condP_dec (fun h => ?_) (fun h => absurd h (by omega)) | refine condP_dec (fun h => ?_) (fun h => ?_) | refine condP_ndec (fun h => absurd h (by omega)) (fun h => ?_) | refine condP_ndec (fun h => ?_) (fun h => absurd h (by omega)) | refine condP_ndec (fun h => ?_) (fun h => ?_) | refine condP_beq (fun h => absurd h (by omega)) (fun h => ?_) | refine condP_beq (fun h => ?_) (fun h => absurd h (by omega)) | refine condP_beq (fun h => ?_) (fun h => ?_) | refine condP_bne (fun h => absurd h (by omega)) (fun h => ?_) | refine condP_bne (fun h => ?_) (fun h => absurd h (by omega)) | refine condP_bne (fun h => ?_) (fun h => ?_) | refine condP_mk (fun h => ?_) (fun h => ?_) | refine Ob.mk (by (first | omega | (simp only [InI, nmin, List.length_append, List.length_replicate, List.length_cons, List.length_nil, List.length_map, List.length_set, List.length_take, List.length_drop, List.length_reverse, List.length_range, Nat.zero_add, Nat.add_zero, Int.toNat_natCast, EK.sz]; omega) | (simp only [InI, nmin, List.length_append, List.length_replicate, List.length_cons, List.length_nil, List.length_map, List.length_set, List.length_take, List.length_drop, List.length_reverse, List.length_range, Nat.zero_add, Nat.add_zero, Int.toNat_natCast, EK.sz] at *; omega))) ?_ | refine Ob.mk ?_ ?_ | refine Both.mk ?_ ?_ | refine draw_of Try.mixed Try.tyOk 60 (by kernel_rfl) ?_))
  (conv => whnf)
  refine loopI (fun k : Nat => ⟨[(0, .c (.sl 0 1 0 a.length ca)), (1, .c (.sl 1 1 0 b.length cb)), (4, .i 0), (9, .c (.sl 0 1 0 a.length ca)), (10, .i a.length), (11, .i k)], [(0, .arr false 3 .int a 0), (1, .arr false 3 .int b 0)], 2⟩) (fun k => k ≤ a.length ∧ k ≤ b.length ∧ cmpL a b = cmpL (a.drop k) (b.drop k)) (fun k => a.length - k) 0 [] ⟨by rfl, ?_, ?_⟩ (by simp) ?_
  · simp [eqFr, eqHp, eqV, eqA, eqC, eqO, eqCs, eqAs, look_cons, look, rn, EK.cast, EK.sz, eqCaps]
  · simp [eqFr, eqHp, eqV, eqA, eqC, eqO, eqCs, eqAs, look_cons, look, rn, EK.cast, EK.sz, eqCaps]
  · intro k ⟨hk1, hk2, hk3⟩
    have e1 : a.getD (0 + (k : Int).toNat) EK.int.dflt = a.getD k 0 := by rw [Nat.zero_add, Int.toNat_natCast]; rfl
    have e2 : b.getD (0 + (k : Int).toNat) EK.int.dflt = b.getD k 0 := by rw [Nat.zero_add, Int.toNat_natCast]; rfl
    repeat' (first | exact rfl | ((conv => whnf); first | refine condP_dec (fun h => absurd h (by omega)) (fun h => ?_) | refine condP_dec (fun h => ?_) (fun h => absurd h (by omega)) | refine condP_dec (fun h => ?_) (fun h => ?_) | refine condP_ndec (fun h => absurd h (by omega)) (fun h => ?_) | refine condP_ndec (fun h => ?_) (fun h => absurd h (by omega)) | refine condP_ndec (fun h => ?_) (fun h => ?_) | refine condP_beq (fun h => absurd h (by omega)) (fun h => ?_) | refine condP_beq (fun h => ?_) (fun h => absurd h (by omega)) | refine condP_beq (fun h => ?_) (fun h => ?_) | refine condP_bne (fun h => absurd h (by omega)) (fun h => ?_) | refine condP_bne (fun h => ?_) (fun h => absurd h (by omega)) | refine condP_bne (fun h => ?_) (fun h => ?_) | refine condP_mk (fun h => ?_) (fun h => ?_) | refine Ob.mk (by (first | omega | (simp only [InI, nmin, List.length_append, List.length_replicate, List.length_cons, List.length_nil, List.length_map, List.length_set, List.length_take, List.length_drop, List.length_reverse, List.length_range, Nat.zero_add, Nat.add_zero, Int.toNat_natCast, EK.sz]; omega) | (simp only [InI, nmin, List.length_append, List.length_replicate, List.length_cons, List.length_nil, List.length_map, List.length_set, List.length_take, List.length_drop, List.length_reverse, List.length_range, Nat.zero_add, Nat.add_zero, Int.toNat_natCast, EK.sz] at *; omega))) ?_ | refine Ob.mk ?_ ?_ | refine Both.mk ?_ ?_ | refine draw_of Try.mixed Try.tyOk 60 (by kernel_rfl) ?_))
    · refine Back.is ?_
      simp only [eqV, eqA, eqC]
      have : b.length ≤ k := by omega
      rw [hk3, drop_getD a k (by omega), List.drop_eq_nil_of_le this]
      rfl
    · (conv => whnf)
      refine callI (compare_c (a.getD (0 + (k : Int).toNat) EK.int.dflt) (b.getD (0 + (k : Int).toNat) EK.int.dflt)) [] Try.call117 rfl trivial (by simp [appN, ptrs, eqVL, eqV, eqA, eqC, eqCs, eqAs, eqCaps, EK.sz, rn, renOf, look_cons, look, arcV, fV]) (by simp [appN, ptrs, SV.lt, SA.lt, SC.lt, arcV, fV]) ?_
      rw [e1, e2]
      rw [drop_getD a k (by omega), drop_getD b k (by omega), cmpL] at hk3
      generalize hc : cmpI (a.getD k 0) (b.getD k 0) = c at *
      repeat' (first | exact rfl | ((conv => whnf); first | refine condP_dec (fun h => absurd h (by omega)) (fun h => ?_) | refine condP_dec (fun h => ?_) (fun h => absurd h (by omega)) | refine condP_dec (fun h => ?_) (fun h => ?_) | refine condP_ndec (fun h => absurd h (by omega)) (fun h => ?_) | refine condP_ndec (fun h => ?_) (fun h => absurd h (by omega)) | refine condP_ndec (fun h => ?_) (fun h => ?_) | refine condP_beq (fun h => absurd h (by omega)) (fun h => ?_) | refine condP_beq (fun h => ?_) (fun h => absurd h (by omega)) | refine condP_beq (fun h => ?_) (fun h => ?_) | refine condP_bne (fun h => absurd h (by omega)) (fun h => ?_) | refine condP_bne (fun h => ?_) (fun h => absurd h (by omega)) | refine condP_bne (fun h => ?_) (fun h => ?_) | refine condP_mk (fun h => ?_) (fun h => ?_) | refine Ob.mk (by (first | omega | (simp only [InI, nmin, List.length_append, List.length_replicate, List.length_cons, List.length_nil, List.length_map, List.length_set, List.length_take, List.length_drop, List.length_reverse, List.length_range, Nat.zero_add, Nat.add_zero, Int.toNat_natCast, EK.sz]; omega) | (simp only [InI, nmin, List.length_append, List.length_replicate, List.length_cons, List.length_nil, List.length_map, List.length_set, List.length_take, List.length_drop, List.length_reverse, List.length_range, Nat.zero_add, Nat.add_zero, Int.toNat_natCast, EK.sz] at *; omega))) ?_ | refine Ob.mk ?_ ?_ | refine Both.mk ?_ ?_ | refine draw_of Try.mixed Try.tyOk 60 (by kernel_rfl) ?_))
      · refine Back.is ?_
        simp only [eqV, eqA, eqC]
        rw [hk3, if_pos (by omega)]
      · (conv => whnf)
        rw [if_neg (by omega)] at hk3
        refine ⟨k + 1, [], ⟨by rfl, ?_, ?_⟩, ⟨by omega, by omega, hk3⟩, by omega⟩
        · simp [eqFr, eqHp, eqV, eqA, eqC, eqO, eqCs, eqAs, look_cons, look, rn, EK.cast, EK.sz, eqCaps]
        · simp [eqFr, eqHp, eqV, eqA, eqC, eqO, eqCs, eqAs, look_cons, look, rn, EK.cast, EK.sz, eqCaps]
    · refine Back.is ?_
      simp only [eqV, eqA, eqC]
      rw [hk3, List.drop_eq_nil_of_le (by omega), drop_getD b k (by omega)]
      rfl
    · refine Back.is ?_
      simp only [eqV, eqA, eqC]
      rw [hk3, List.drop_eq_nil_of_le (by omega), List.drop_eq_nil_of_le (by omega)]
      rfl

/-- An order of spots: how much was read, how much was written, the state. -/
def spotLt (x y : Trip) : Bool := decide (cmpL [x.b, x.c, x.a] [y.b, y.c, y.a] < 0)

set_option maxHeartbeats 2000000 in
set_option maxRecDepth 20000 in
theorem spot_c (x y : Trip) : Ct Try.prog 129 [SV.a (SA.agg [SC.i (Trip.a x), SC.i (Trip.b x), SC.i (Trip.c x)]), SV.a (SA.agg [SC.i (Trip.a y), SC.i (Trip.b y), SC.i (Trip.c y)])] [] [] 0 (Is 0 (.b (spotLt x y))) := by
  refine ctW Try.tyOk 5 [] Try.func129 rfl (by simp [SV.lt, SA.lt, SC.lt, arcV, fV]) (by simp) (fr := [(0, SV.a (SA.agg [SC.i (Trip.a x), SC.i (Trip.b x), SC.i (Trip.c x)])), (1, SV.a (SA.agg [SC.i (Trip.a y), SC.i (Trip.b y), SC.i (Trip.c y)]))]) rfl ?_
  (conv => whnf)
  refine callI (compareL_c [x.b, x.c, x.a] [y.b, y.c, y.a] 3 3 (by simp)) [2, 3] Try.call135 rfl (by simp [eqLs, eqL, eqO, eqC, eqCs, rn, renOf, look_cons, look, EK.cast]) (by simp [appN, ptrs, eqVL, eqV, eqA, eqC, eqCs, eqAs, eqCaps, EK.sz, rn, renOf, look_cons, look, arcV, fV]) (by simp [appN, ptrs, SV.lt, SA.lt, SC.lt, arcV, fV]) ?_
  repeat' (first | exact rfl | ((conv => whnf); first | refine condP_dec (fun h => absurd h (by omega)) (fun h => ?_) | refine condP_dec (fun h => ?_) (fun h => absurd h (by omega)) | refine condP_dec (fun h => ?_) (fun h => ?_) | refine condP_ndec (fun h => absurd h (by omega)) (fun h => ?_) | refine condP_ndec (fun h => ?_) (fun h => absurd h (by omega)) | refine condP_ndec (fun h => ?_) (fun h => ?_) | refine condP_beq (fun h => absurd h (by omega)) (fun h => ?_) | refine condP_beq (fun h => ?_) (fun h => absurd h (by omega)) | refine condP_beq (fun h => ?_) (fun h => ?_) | refine condP_bne (fun h => absurd h (by omega)) (fun h => ?_) | refine condP_bne (fun h => ?_) (fun h => absurd h (by omega)) | refine condP_bne (fun h => ?_) (fun h => ?_) | refine condP_mk (fun h => ?_) (fun h => ?_) | refine Ob.mk (by (first | omega | (simp only [InI, nmin, List.length_append, List.length_replicate, List.length_cons, List.length_nil, List.length_map, List.length_set, List.length_take, List.length_drop, List.length_reverse, List.length_range, Nat.zero_add, Nat.add_zero, Int.toNat_natCast, EK.sz]; omega) | (simp only [InI, nmin, List.length_append, List.length_replicate, List.length_cons, List.length_nil, List.length_map, List.length_set, List.length_take, List.length_drop, List.length_reverse, List.length_range, Nat.zero_add, Nat.add_zero, Int.toNat_natCast, EK.sz] at *; omega))) ?_ | refine Ob.mk ?_ ?_ | refine Both.mk ?_ ?_ | refine draw_of Try.mixed Try.tyOk 60 (by kernel_rfl) ?_))
  refine Back.is ?_
  simp only [eqV, eqA, eqC, spotLt]
end Go.Fw

namespace Go.Fw
open Go Go.Proofs

/-- The walker as it stands: 0 itself, 1 final, 2 arcs, 3 in, 4 out, 5 numbers of arcs, 6 their rows, 7 the map, 8 what it holds. -/
structure Wk where
  F : TF
  u : List Int
  v : List Int
  cu : Nat
  cv : Nat
  rows : List Sli
  pi : List (Addr × List Int × Nat)
  es : List (Trip × Option Addr × Nat)
  clk : Nat
  pf : List (Addr × List Fnd × Nat)

def wkCells (W : Wk) : List SC := [.i W.F.st, .i W.F.start, .sl 1 1 0 W.F.fin.length W.F.capF, .sl 2 5 0 W.F.arcs.length W.F.capA, .sl 3 1 0 W.u.length W.cu, .sl 4 1 0 W.v.length W.cv, .sl 5 1 0 W.rows.length W.rows.length, .mp 7]

abbrev hpL (W : Wk) (es : List (Trip × Option Addr × Nat)) (clk : Nat) (pf : List (Addr × List Fnd × Nat)) : List (Nat × SO) := [(0, .box 115 [.i W.F.st, .i W.F.start, .sl 1 1 0 W.F.fin.length W.F.capF, .sl 2 5 0 W.F.arcs.length W.F.capA, .sl 3 1 0 W.u.length W.cu, .sl 4 1 0 W.v.length W.cv, .sl 5 1 0 W.rows.length W.rows.length, .mp 7]), (1, .arr false 3 .int W.F.fin 0), (2, .arr false 47 .arc W.F.arcs 0), (3, .arr false 3 .int W.u 0), (4, .arr false 3 .int W.v 0),
  (5, .arr true 22 .sli W.rows 0), (6, .pool 3 .int W.pi), (7, .map .trip .adr es clk), (8, .pool 120 .fnd pf)]
abbrev hpW (W : Wk) : List (Nat × SO) := hpL W W.es W.clk W.pf

/-- The map is in order. -/
structure MetOk (es : List (Trip × Option Addr × Nat)) (clk : Nat) (pf : List (Addr × List Fnd × Nat)) : Prop where
  born : BornOk es clk
  keys : (es.map (·.1)).Nodup
  adrs : (es.map (·.2.1)).Nodup
  row : ∀ e ∈ es, ∃ a f, e.2.1 = some a ∧ lkA pf a = some ([f], 0)

/-- What the map holds at a spot. -/
def metOf (es : List (Trip × Option Addr × Nat)) (pf : List (Addr × List Fnd × Nat)) (x : Trip) : Option Fnd := (lkM es x).bind fun oa => (rowA pf oa).head?

theorem lkM_mem {es : List (Trip × Option Addr × Nat)} (hk : (es.map (·.1)).Nodup) {e : Trip × Option Addr × Nat} (he : e ∈ es) : lkM es e.1 = some e.2.1 := by
  induction es with
  | nil => cases he
  | cons c es ih =>
    obtain ⟨x, y, n⟩ := c
    simp only [lkM]
    rcases List.mem_cons.1 he with rfl | h
    · simp
    · simp only [List.map_cons, List.nodup_cons] at hk
      rw [if_neg (fun c => hk.1 (by rw [c]; exact List.mem_map_of_mem h)), ih hk.2 h]

theorem lkM_some {es : List (Trip × Option Addr × Nat)} {x : Trip} {oa : Option Addr} (h : lkM es x = some oa) : ∃ n, (x, oa, n) ∈ es := by
  induction es with
  | nil => cases h
  | cons c es ih =>
    obtain ⟨y, b, n⟩ := c
    simp only [lkM] at h
    split at h
    · rename_i e
      cases h
      exact ⟨n, by rw [e]; exact List.mem_cons_self ..⟩
    · obtain ⟨n, h⟩ := ih h
      exact ⟨n, List.mem_cons_of_mem _ h⟩

theorem MetOk.at {es : List (Trip × Option Addr × Nat)} {clk : Nat} {pf : List (Addr × List Fnd × Nat)} (h : MetOk es clk pf) {e : Trip × Option Addr × Nat} (he : e ∈ es) : ∃ a f, e.2.1 = some a ∧ lkA pf a = some ([f], 0) ∧ lkM es e.1 = some (some a) ∧ rowA pf (some a) = [f] ∧ metOf es pf e.1 = some f := by
  obtain ⟨a, f, h1, h2⟩ := h.row e he
  have h3 := lkM_mem h.keys he
  rw [h1] at h3
  have h4 : rowA pf (some a) = [f] := by simp [rowA, h2]
  exact ⟨a, f, h1, h2, h3, h4, by simp [metOf, h3, h4]⟩

theorem MetOk.of {es : List (Trip × Option Addr × Nat)} {clk : Nat} {pf : List (Addr × List Fnd × Nat)} (h : MetOk es clk pf) {x : Trip} {f : Fnd} (hx : metOf es pf x = some f) : ∃ a n, (x, some a, n) ∈ es ∧ lkA pf a = some ([f], 0) ∧ lkM es x = some (some a) ∧ rowA pf (some a) = [f] := by
  unfold metOf at hx
  cases hl : lkM es x with
  | none => rw [hl] at hx; cases hx
  | some oa =>
    obtain ⟨n, hn⟩ := lkM_some hl
    obtain ⟨a, g, h1, h2, h3, h4, h5⟩ := h.at hn
    simp only at h1
    subst h1
    rw [hl] at hx
    simp only [Option.bind_some, h4, List.head?_cons, Option.some.injEq] at hx
    subst hx
    exact ⟨a, n, hn, h2, rfl, h4⟩

/-- The best so far of those that were seen. -/
def Nst (es : List (Trip × Option Addr × Nat)) (pf : List (Addr × List Fnd × Nat)) (seen : List Nat) (best : Trip) (any : Bool) : Prop :=
  (any = false ∧ ∀ e ∈ es, e.2.2 ∈ seen → ∀ f, metOf es pf e.1 = some f → f.dn = true) ∨
  (any = true ∧ ∃ g, metOf es pf best = some g ∧ g.dn = false ∧ ∀ e ∈ es, e.2.2 ∈ seen → ∀ f, metOf es pf e.1 = some f → f.dn = false → g.cost ≤ f.cost)

/-- What is left to be seen. -/
def left (es : List (Trip × Option Addr × Nat)) (seen : List Nat) : Nat := (es.filter fun e => !seen.contains e.2.2).length

theorem left_lt {es : List (Trip × Option Addr × Nat)} {seen : List Nat} {e : Trip × Option Addr × Nat} (he : e ∈ es) (hn : e.2.2 ∉ seen) : left es (seen ++ [e.2.2]) < left es seen := by
  unfold left
  have h : (es.filter fun c => !(seen ++ [e.2.2]).contains c.2.2) = (es.filter fun c => !seen.contains c.2.2).filter fun c => c.2.2 != e.2.2 := by
    rw [List.filter_filter]
    congr 1
    funext c
    by_cases h1 : c.2.2 ∈ seen <;> by_cases h2 : c.2.2 = e.2.2 <;> simp [h1, h2]
  rw [h]
  refine Nat.lt_of_le_of_ne (List.length_filter_le _ _) (fun c => ?_)
  have := (List.length_filter_eq_length_iff.1 c) e (List.mem_filter.2 ⟨he, by simpa using hn⟩)
  simp at this

theorem born_inj {es : List (Trip × Option Addr × Nat)} (h : (es.map (·.2.2)).Nodup) {e c : Trip × Option Addr × Nat} (he : e ∈ es) (hc : c ∈ es) (h2 : c.2.2 = e.2.2) : c = e := by
  induction es with
  | nil => cases he
  | cons d es ih =>
    simp only [List.map_cons, List.nodup_cons, List.mem_map] at h
    rcases List.mem_cons.1 he with rfl | he <;> rcases List.mem_cons.1 hc with rfl | hc
    · rfl
    · exact absurd ⟨c, by assumption, h2⟩ h.1
    · exact absurd ⟨e, by assumption, h2.symm⟩ h.1
    · exact ih h.2 (by assumption) (by assumption)

section
variable {es : List (Trip × Option Addr × Nat)} {clk : Nat} {pf : List (Addr × List Fnd × Nat)} {seen : List Nat} {best : Trip} {e : Trip × Option Addr × Nat} {f : Fnd}

theorem Nst.skip (hm : MetOk es clk pf) {any : Bool} (h : Nst es pf seen best any) (he : e ∈ es) (hf : metOf es pf e.1 = some f) (hd : f.dn = true) : Nst es pf (seen ++ [e.2.2]) best any := by
  have key : ∀ c ∈ es, c.2.2 ∈ seen ++ [e.2.2] → c.2.2 ∈ seen ∨ c = e := by
    intro c hc h
    rcases List.mem_append.1 h with h | h
    · exact .inl h
    · exact .inr (born_inj hm.born.1 he hc (List.mem_singleton.1 h))
  rcases h with ⟨q1, q2⟩ | ⟨q1, g, q2, q3, q4⟩
  · refine .inl ⟨q1, fun c hc hs f' hf' => ?_⟩
    rcases key c hc hs with h | rfl
    · exact q2 c hc h f' hf'
    · rw [hf] at hf'; cases hf'; exact hd
  · refine .inr ⟨q1, g, q2, q3, fun c hc hs f' hf' hd' => ?_⟩
    rcases key c hc hs with h | rfl
    · exact q4 c hc h f' hf' hd'
    · rw [hf] at hf'; cases hf'; rw [hd] at hd'; cases hd'

theorem Nst.new (hm : MetOk es clk pf) (h : Nst es pf seen best false) (he : e ∈ es) (hf : metOf es pf e.1 = some f) (hd : f.dn = false) : Nst es pf (seen ++ [e.2.2]) e.1 true := by
  rcases h with ⟨q1, q2⟩ | ⟨q1, g, q2, q3, q4⟩
  · refine .inr ⟨rfl, f, hf, hd, fun c hc hs f' hf' hd' => ?_⟩
    rcases List.mem_append.1 hs with h | h
    · have := q2 c hc h f' hf'
      rw [hd'] at this
      cases this
    · have := born_inj hm.born.1 he hc (List.mem_singleton.1 h)
      subst this
      rw [hf] at hf'
      cases hf'
      exact Int.le_refl _
  · cases q1

theorem Nst.better {g : Fnd} (hm : MetOk es clk pf) (h : Nst es pf seen best true) (he : e ∈ es) (hf : metOf es pf e.1 = some f) (hd : f.dn = false) (hg : metOf es pf best = some g) (hc : f.cost ≤ g.cost) : Nst es pf (seen ++ [e.2.2]) e.1 true := by
  rcases h with ⟨q1, q2⟩ | ⟨q1, g', q2, q3, q4⟩
  · cases q1
  · rw [hg] at q2
    cases q2
    refine .inr ⟨rfl, f, hf, hd, fun c hc' hs f' hf' hd' => ?_⟩
    rcases List.mem_append.1 hs with h | h
    · exact Int.le_trans hc (q4 c hc' h f' hf' hd')
    · have := born_inj hm.born.1 he hc' (List.mem_singleton.1 h)
      subst this
      rw [hf] at hf'
      cases hf'
      exact Int.le_refl _

theorem Nst.keep {g : Fnd} (hm : MetOk es clk pf) (h : Nst es pf seen best true) (he : e ∈ es) (hf : metOf es pf e.1 = some f) (hg : metOf es pf best = some g) (hc : g.cost ≤ f.cost) : Nst es pf (seen ++ [e.2.2]) best true := by
  rcases h with ⟨q1, q2⟩ | ⟨q1, g', q2, q3, q4⟩
  · cases q1
  · rw [hg] at q2
    cases q2
    refine .inr ⟨rfl, g, hg, q3, fun c hc' hs f' hf' hd' => ?_⟩
    rcases List.mem_append.1 hs with h | h
    · exact q4 c hc' h f' hf' hd'
    · have := born_inj hm.born.1 he hc' (List.mem_singleton.1 h)
      subst this
      rw [hf] at hf'
      cases hf'
      exact hc
end

set_option maxHeartbeats 4000000 in
set_option maxRecDepth 20000 in
theorem nearest_c (W : Wk) (hm : MetOk W.es W.clk W.pf) : Ct Try.prog 123 [.c (.ptr 0 0)] [] (hpW W) 9 (fun v s => ∃ best any, v = .tup [.agg [.i best.a, .i best.b, .i best.c], .c (.b any)] ∧ s = ⟨[], [(0, .box 115 (wkCells W)), (5, .arr true 22 .sli W.rows 0), (6, .pool 3 .int W.pi), (7, .map .trip .adr W.es W.clk), (8, .pool 120 .fnd W.pf)], 9⟩ ∧ Nst W.es W.pf (W.es.map (·.2.2)) best any) := by
  refine ctW Try.tyOk 9 [13] Try.func123 rfl (by simp [SV.lt, SA.lt, SC.lt, arcV, fV]) (by simp) (fr := [(0, .c (.ptr 0 0))]) rfl ?_
  repeat' (first | exact rfl | ((conv => whnf); first | refine condP_dec (fun h => absurd h (by omega)) (fun h => ?_) | refine condP_dec (fun h => ?_) (fun h => absurd h (by omega)) | refine condP_dec (fun h => ?_) (fun h => ?_) | refine condP_ndec (fun h => absurd h (by omega)) (fun h => ?_) | refine condP_ndec (fun h => ?_) (fun h => absurd h (by omega)) | refine condP_ndec (fun h => ?_) (fun h => ?_) | refine condP_beq (fun h => absurd h (by omega)) (fun h => ?_) | refine condP_beq (fun h => ?_) (fun h => absurd h (by omega)) | refine condP_beq (fun h => ?_) (fun h => ?_) | refine condP_bne (fun h => absurd h (by omega)) (fun h => ?_) | refine condP_bne (fun h => ?_) (fun h => absurd h (by omega)) | refine condP_bne (fun h => ?_) (fun h => ?_) | refine condP_mk (fun h => ?_) (fun h => ?_) | refine Ob.mk (by (first | omega | (simp only [InI, nmin, List.length_append, List.length_replicate, List.length_cons, List.length_nil, List.length_map, List.length_set, List.length_take, List.length_drop, List.length_reverse, List.length_range, Nat.zero_add, Nat.add_zero, Int.toNat_natCast, EK.sz]; omega) | (simp only [InI, nmin, List.length_append, List.length_replicate, List.length_cons, List.length_nil, List.length_map, List.length_set, List.length_take, List.length_drop, List.length_reverse, List.length_range, Nat.zero_add, Nat.add_zero, Int.toNat_natCast, EK.sz] at *; omega))) ?_ | refine Ob.mk ?_ ?_ | refine Both.mk ?_ ?_ | refine draw_of Try.mixed Try.tyOk 60 (by kernel_rfl) ?_))
  (conv => whnf)
  refine loopI (fun x : List Nat × Nat × Trip × Bool => ⟨[(0, .c (.ptr 0 0)), (2, .c (.ptr 9 0)), (3, .b false), (4, .c (.ptr 10 0)), (5, .b x.2.2.2), (13, .c (.ptr 11 0))], (9, .box 69 [.i 0, .i 0, .i 0]) :: (10, .box 69 [.i x.2.2.1.a, .i x.2.2.1.b, .i x.2.2.1.c]) :: (11, .iter 7 W.clk x.1 W.clk x.2.1) :: hpW W, 12⟩) (fun x => Nst W.es W.pf x.1 x.2.2.1 x.2.2.2) (fun x => left W.es x.1) ([], 0, ⟨0, 0, 0⟩, false) [] ⟨by rfl, ?_, ?_⟩ (.inl ⟨rfl, by simp⟩) ?_
  · simp [eqFr, eqHp, eqV, eqA, eqC, eqO, eqCs, eqAs, look_cons, look, rn, EK.cast, EK.sz, eqCaps]
  · simp [eqFr, eqHp, eqV, eqA, eqC, eqO, eqCs, eqAs, look_cons, look, rn, EK.cast, EK.sz, eqCaps]
  · rintro ⟨seen, cur, ⟨b1, b2, b3⟩, any⟩ hN
    simp only at hN ⊢
    (conv => whnf)
    refine Ob.mk ⟨hm.born, rfl, rfl⟩ ?_
    (conv => whnf)
    refine Both.mk (fun hall => ?_) (fun i hi hns => ?_)
    · repeat' (first | exact rfl | ((conv => whnf); first | refine condP_dec (fun h => absurd h (by omega)) (fun h => ?_) | refine condP_dec (fun h => ?_) (fun h => absurd h (by omega)) | refine condP_dec (fun h => ?_) (fun h => ?_) | refine condP_ndec (fun h => absurd h (by omega)) (fun h => ?_) | refine condP_ndec (fun h => ?_) (fun h => absurd h (by omega)) | refine condP_ndec (fun h => ?_) (fun h => ?_) | refine condP_beq (fun h => absurd h (by omega)) (fun h => ?_) | refine condP_beq (fun h => ?_) (fun h => absurd h (by omega)) | refine condP_beq (fun h => ?_) (fun h => ?_) | refine condP_bne (fun h => absurd h (by omega)) (fun h => ?_) | refine condP_bne (fun h => ?_) (fun h => absurd h (by omega)) | refine condP_bne (fun h => ?_) (fun h => ?_) | refine condP_mk (fun h => ?_) (fun h => ?_) | refine Ob.mk (by (first | omega | (simp only [InI, nmin, List.length_append, List.length_replicate, List.length_cons, List.length_nil, List.length_map, List.length_set, List.length_take, List.length_drop, List.length_reverse, List.length_range, Nat.zero_add, Nat.add_zero, Int.toNat_natCast, EK.sz]; omega) | (simp only [InI, nmin, List.length_append, List.length_replicate, List.length_cons, List.length_nil, List.length_map, List.length_set, List.length_take, List.length_drop, List.length_reverse, List.length_range, Nat.zero_add, Nat.add_zero, Int.toNat_natCast, EK.sz] at *; omega))) ?_ | refine Ob.mk ?_ ?_ | refine Both.mk ?_ ?_ | refine draw_of Try.mixed Try.tyOk 60 (by kernel_rfl) ?_))
      (conv => whnf)
      refine ⟨[], [(0, .box 115 (wkCells W)), (5, .arr true 22 .sli W.rows 0), (6, .pool 3 .int W.pi), (7, .map .trip .adr W.es W.clk), (8, .pool 120 .fnd W.pf)], 9, .tup [.agg [.i b1, .i b2, .i b3], .c (.b any)], ⟨by rfl, trivial, by simp [eqFr, eqHp, eqV, eqA, eqC, eqO, eqCs, eqAs, look_cons, look, rn, EK.cast, EK.sz, eqCaps, wkCells]⟩, by simp [eqV, eqA, eqAs, eqC, eqCs], ⟨b1, b2, b3⟩, any, rfl, rfl, ?_⟩
      unfold Nst at hN ⊢
      simp only [List.mem_map]
      rcases hN with ⟨q1, q2⟩ | ⟨q1, g, q2, q3, q4⟩
      · exact .inl ⟨q1, fun e he _ => q2 e he (hall e he)⟩
      · exact .inr ⟨q1, g, q2, q3, fun e he _ => q4 e he (hall e he)⟩
    · have hmem := List.getElem_mem hi
      generalize he : W.es[i] = e at *
      obtain ⟨a, f, h1, h2, h3, h4, h5⟩ := hm.at hmem
      obtain ⟨⟨x1, x2, x3⟩, oa, n⟩ := e
      simp only at h1 h3 h5 hns
      subst h1
      have h4l : 0 < (rowA W.pf (some a)).length := by rw [h4]; exact Nat.one_pos
      (conv => whnf)
      refine Ob.mk ⟨hm.born, rfl, hi, by rw [he]; simp⟩ (fun _ => ?_)
      rw [he]
      dsimp only
      have ef : (rowA W.pf (some a)).getD 0 EK.fnd.dflt = f := by rw [h4]; rfl
      have hlt := left_lt hmem hns
      cases any with
      | false =>
        repeat' (first | exact rfl | ((conv => whnf); first | refine condP_dec (fun h => absurd h (by omega)) (fun h => ?_) | refine condP_dec (fun h => ?_) (fun h => absurd h (by omega)) | refine condP_dec (fun h => ?_) (fun h => ?_) | refine condP_ndec (fun h => absurd h (by omega)) (fun h => ?_) | refine condP_ndec (fun h => ?_) (fun h => absurd h (by omega)) | refine condP_ndec (fun h => ?_) (fun h => ?_) | refine condP_beq (fun h => absurd h (by omega)) (fun h => ?_) | refine condP_beq (fun h => ?_) (fun h => absurd h (by omega)) | refine condP_beq (fun h => ?_) (fun h => ?_) | refine condP_bne (fun h => absurd h (by omega)) (fun h => ?_) | refine condP_bne (fun h => ?_) (fun h => absurd h (by omega)) | refine condP_bne (fun h => ?_) (fun h => ?_) | refine condP_mk (fun h => ?_) (fun h => ?_) | refine Ob.mk (by (first | omega | (simp only [InI, nmin, List.length_append, List.length_replicate, List.length_cons, List.length_nil, List.length_map, List.length_set, List.length_take, List.length_drop, List.length_reverse, List.length_range, Nat.zero_add, Nat.add_zero, Int.toNat_natCast, EK.sz]; omega) | (simp only [InI, nmin, List.length_append, List.length_replicate, List.length_cons, List.length_nil, List.length_map, List.length_set, List.length_take, List.length_drop, List.length_reverse, List.length_range, Nat.zero_add, Nat.add_zero, Int.toNat_natCast, EK.sz] at *; omega))) ?_ | refine Ob.mk ?_ ?_ | refine Both.mk ?_ ?_ | refine draw_of Try.mixed Try.tyOk 60 (by kernel_rfl) ?_))
        · rw [ef] at h
          (conv => whnf)
          refine ⟨(seen ++ [n], i, ⟨b1, b2, b3⟩, false), [], ⟨by rfl, ?_, ?_⟩, hN.skip hm hmem h5 h, hlt⟩
          · simp [eqFr, eqHp, eqV, eqA, eqC, eqO, eqCs, eqAs, look_cons, look, rn, EK.cast, EK.sz, eqCaps]
          · simp [eqFr, eqHp, eqV, eqA, eqC, eqO, eqCs, eqAs, look_cons, look, rn, EK.cast, EK.sz, eqCaps]
        · rw [ef] at h
          (conv => whnf)
          refine ⟨(seen ++ [n], i, ⟨x1, x2, x3⟩, true), [], ⟨by rfl, ?_, ?_⟩, hN.new hm hmem h5 h, hlt⟩
          · simp [eqFr, eqHp, eqV, eqA, eqC, eqO, eqCs, eqAs, look_cons, look, rn, EK.cast, EK.sz, eqCaps]
          · simp [eqFr, eqHp, eqV, eqA, eqC, eqO, eqCs, eqAs, look_cons, look, rn, EK.cast, EK.sz, eqCaps]
      | true =>
        have hN0 := hN
        rcases hN with ⟨q1, q2⟩ | ⟨q1, g, q2, q3, q4⟩
        · cases q1
        obtain ⟨b, nb, r1, r2, r3, r4⟩ := hm.of q2
        have e1 : (@lkM EK.trip.ty EK.adr.ty (EK.instDeq .trip) W.es (⟨b1, b2, b3⟩ : Trip)).getD EK.adr.dflt = some b := congrArg (fun x => Option.getD x none) r3
        have eg : (rowA W.pf (some b)).getD 0 EK.fnd.dflt = g := by rw [r4]; rfl
        repeat' (first | exact rfl | ((conv => whnf); first | refine condP_dec (fun h => absurd h (by omega)) (fun h => ?_) | refine condP_dec (fun h => ?_) (fun h => absurd h (by omega)) | refine condP_dec (fun h => ?_) (fun h => ?_) | refine condP_ndec (fun h => absurd h (by omega)) (fun h => ?_) | refine condP_ndec (fun h => ?_) (fun h => absurd h (by omega)) | refine condP_ndec (fun h => ?_) (fun h => ?_) | refine condP_beq (fun h => absurd h (by omega)) (fun h => ?_) | refine condP_beq (fun h => ?_) (fun h => absurd h (by omega)) | refine condP_beq (fun h => ?_) (fun h => ?_) | refine condP_bne (fun h => absurd h (by omega)) (fun h => ?_) | refine condP_bne (fun h => ?_) (fun h => absurd h (by omega)) | refine condP_bne (fun h => ?_) (fun h => ?_) | refine condP_mk (fun h => ?_) (fun h => ?_) | refine Ob.mk (by (first | omega | (simp only [InI, nmin, List.length_append, List.length_replicate, List.length_cons, List.length_nil, List.length_map, List.length_set, List.length_take, List.length_drop, List.length_reverse, List.length_range, Nat.zero_add, Nat.add_zero, Int.toNat_natCast, EK.sz]; omega) | (simp only [InI, nmin, List.length_append, List.length_replicate, List.length_cons, List.length_nil, List.length_map, List.length_set, List.length_take, List.length_drop, List.length_reverse, List.length_range, Nat.zero_add, Nat.add_zero, Int.toNat_natCast, EK.sz] at *; omega))) ?_ | refine Ob.mk ?_ ?_ | refine Both.mk ?_ ?_ | refine draw_of Try.mixed Try.tyOk 60 (by kernel_rfl) ?_))
        · rw [ef] at h
          (conv => whnf)
          refine ⟨(seen ++ [n], i, ⟨b1, b2, b3⟩, true), [], ⟨by rfl, ?_, ?_⟩, hN0.skip hm hmem h5 h, hlt⟩
          · simp [eqFr, eqHp, eqV, eqA, eqC, eqO, eqCs, eqAs, look_cons, look, rn, EK.cast, EK.sz, eqCaps]
          · simp [eqFr, eqHp, eqV, eqA, eqC, eqO, eqCs, eqAs, look_cons, look, rn, EK.cast, EK.sz, eqCaps]
        · rw [e1]; rfl
        · rw [e1, r4]; exact Nat.one_pos
        · rw [ef] at *
          rw [e1, eg] at h
          (conv => whnf)
          refine ⟨(seen ++ [n], i, ⟨x1, x2, x3⟩, true), [], ⟨by rfl, ?_, ?_⟩, hN0.better hm hmem h5 (by assumption) q2 (Int.le_of_lt h), hlt⟩
          · simp [eqFr, eqHp, eqV, eqA, eqC, eqO, eqCs, eqAs, look_cons, look, rn, EK.cast, EK.sz, eqCaps]
          · simp [eqFr, eqHp, eqV, eqA, eqC, eqO, eqCs, eqAs, look_cons, look, rn, EK.cast, EK.sz, eqCaps]
        · rw [ef] at *
          rw [e1, eg] at *
          (conv => whnf)
          refine callI (spot_c ⟨x1, x2, x3⟩ ⟨b1, b2, b3⟩) [] Try.call129 rfl trivial (by simp [appN, ptrs, eqVL, eqV, eqA, eqC, eqCs, eqAs, eqCaps, EK.sz, rn, renOf, look_cons, look, arcV, fV]) (by simp [appN, ptrs, SV.lt, SA.lt, SC.lt, arcV, fV]) ?_
          repeat' (first | exact rfl | ((conv => whnf); first | refine condP_dec (fun h => absurd h (by omega)) (fun h => ?_) | refine condP_dec (fun h => ?_) (fun h => absurd h (by omega)) | refine condP_dec (fun h => ?_) (fun h => ?_) | refine condP_ndec (fun h => absurd h (by omega)) (fun h => ?_) | refine condP_ndec (fun h => ?_) (fun h => absurd h (by omega)) | refine condP_ndec (fun h => ?_) (fun h => ?_) | refine condP_beq (fun h => absurd h (by omega)) (fun h => ?_) | refine condP_beq (fun h => ?_) (fun h => absurd h (by omega)) | refine condP_beq (fun h => ?_) (fun h => ?_) | refine condP_bne (fun h => absurd h (by omega)) (fun h => ?_) | refine condP_bne (fun h => ?_) (fun h => absurd h (by omega)) | refine condP_bne (fun h => ?_) (fun h => ?_) | refine condP_mk (fun h => ?_) (fun h => ?_) | refine Ob.mk (by (first | omega | (simp only [InI, nmin, List.length_append, List.length_replicate, List.length_cons, List.length_nil, List.length_map, List.length_set, List.length_take, List.length_drop, List.length_reverse, List.length_range, Nat.zero_add, Nat.add_zero, Int.toNat_natCast, EK.sz]; omega) | (simp only [InI, nmin, List.length_append, List.length_replicate, List.length_cons, List.length_nil, List.length_map, List.length_set, List.length_take, List.length_drop, List.length_reverse, List.length_range, Nat.zero_add, Nat.add_zero, Int.toNat_natCast, EK.sz] at *; omega))) ?_ | refine Ob.mk ?_ ?_ | refine Both.mk ?_ ?_ | refine draw_of Try.mixed Try.tyOk 60 (by kernel_rfl) ?_))
          · (conv => whnf)
            refine ⟨(seen ++ [n], i, ⟨x1, x2, x3⟩, true), [], ⟨by rfl, ?_, ?_⟩, hN0.better hm hmem h5 (by assumption) q2 (by omega), hlt⟩
            · simp [eqFr, eqHp, eqV, eqA, eqC, eqO, eqCs, eqAs, look_cons, look, rn, EK.cast, EK.sz, eqCaps]
            · simp [eqFr, eqHp, eqV, eqA, eqC, eqO, eqCs, eqAs, look_cons, look, rn, EK.cast, EK.sz, eqCaps]
          · (conv => whnf)
            refine ⟨(seen ++ [n], i, ⟨b1, b2, b3⟩, true), [], ⟨by rfl, ?_, ?_⟩, hN0.keep hm hmem h5 q2 (by omega), hlt⟩
            · simp [eqFr, eqHp, eqV, eqA, eqC, eqO, eqCs, eqAs, look_cons, look, rn, EK.cast, EK.sz, eqCaps]
            · simp [eqFr, eqHp, eqV, eqA, eqC, eqO, eqCs, eqAs, look_cons, look, rn, EK.cast, EK.sz, eqCaps]
        · rw [ef] at *
          rw [e1, eg] at *
          (conv => whnf)
          refine ⟨(seen ++ [n], i, ⟨b1, b2, b3⟩, true), [], ⟨by rfl, ?_, ?_⟩, hN0.keep hm hmem h5 q2 (by omega), hlt⟩
          · simp [eqFr, eqHp, eqV, eqA, eqC, eqO, eqCs, eqAs, look_cons, look, rn, EK.cast, EK.sz, eqCaps]
          · simp [eqFr, eqHp, eqV, eqA, eqC, eqO, eqCs, eqAs, look_cons, look, rn, EK.cast, EK.sz, eqCaps]
end Go.Fw
