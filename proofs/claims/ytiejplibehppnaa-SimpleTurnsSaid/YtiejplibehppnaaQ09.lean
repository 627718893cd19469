/- Walks of the functions: what each computes. -/
import Derived.Test.YtiejplibehppnaaQ08

set_option linter.unusedSimpArgs false
set_option linter.unusedVariables false

namespace Go.Fw
open Go Go.Proofs

set_option maxHeartbeats 4000000 in
set_option maxRecDepth 20000 in
theorem symA_c (xs : List Arc) (cap sp a m b : Nat) (hm : m = a + 1) (hmb : m < b) (hb : b ≤ xs.length) (hl : xs.length ≤ 1000000) (hs : SrtOn aD ltW m b xs) : Ct Try.prog 134 [.c (.sl 0 5 0 xs.length cap), .i a, .i m, .i b, .c (.fn 115 [])] [] [(0, .arr true 47 .arc xs sp)] 1
    (fun v s => ∃ ys, v = .u ∧ s = ⟨[], [(0, .arr true 47 .arc ys sp)], 1⟩ ∧ Mv aD a b xs ys ∧ SrtOn aD ltW a b ys) := by
  subst hm
  refine ctW Try.tyOk 25 [] Try.func134 rfl (by simp [SV.lt, SA.lt, SC.lt, arcV, fV]) (by simp) (fr := [(0, .c (.sl 0 5 0 xs.length cap)), (1, .i a), (2, .i (a + 1 : Nat)), (3, .i b), (4, .c (.fn 115 []))]) rfl ?_
  repeat' (first | exact rfl | ((conv => whnf); first | refine condP_dec (fun h => absurd h (by omega)) (fun h => ?_) | refine condP_dec (fun h => ?_) (fun h => absurd h (by omega)) | refine condP_dec (fun h => ?_) (fun h => ?_) | refine condP_ndec (fun h => absurd h (by omega)) (fun h => ?_) | refine condP_ndec (fun h => ?_) (fun h => absurd h (by omega)) | refine condP_ndec (fun h => ?_) (fun h => ?_) | refine condP_beq (fun h => absurd h (by omega)) (fun h => ?_) | refine condP_beq (fun h => ?_) (fun h => absurd h (by omega)) | refine condP_beq (fun h => ?_) (fun h => ?_) | refine condP_bne (fun h => absurd h (by omega)) (fun h => ?_) | refine condP_bne (fun h => ?_) (fun h => absurd h (by omega)) | refine condP_bne (fun h => ?_) (fun h => ?_) | refine condP_mk (fun h => ?_) (fun h => ?_) | refine Ob.mk (by (first | omega | (simp only [InI, nmin, List.length_append, List.length_replicate, List.length_cons, List.length_nil, List.length_map, List.length_set, List.length_take, List.length_drop, List.length_reverse, List.length_range, Nat.zero_add, Nat.add_zero, Int.toNat_natCast, EK.sz]; omega) | (simp only [InI, nmin, List.length_append, List.length_replicate, List.length_cons, List.length_nil, List.length_map, List.length_set, List.length_take, List.length_drop, List.length_reverse, List.length_range, Nat.zero_add, Nat.add_zero, Int.toNat_natCast, EK.sz] at *; omega))) ?_ | refine Ob.mk ?_ ?_ | refine Both.mk ?_ ?_ | refine draw_of Try.mixed Try.tyOk 60 (by kernel_rfl) ?_))
  (conv => whnf)
  refine loopI (fun y : Nat × Nat => ⟨[(0, .c (.sl 0 5 0 xs.length cap)), (1, .i a), (2, .i (a + 1 : Nat)), (3, .i b), (4, .c (.fn 115 [])), (10, .i y.1), (11, .i y.2)], [(0, .arr true 47 .arc xs sp)], 1⟩)
    (fun y => SeaA aD ltW a b y.1 y.2 xs) (fun y => y.2 - y.1) (a + 1, b) [] ⟨by rfl, ?_, ?_⟩ (SeaA.start (by omega)) ?_
  · simp [eqFr, eqHp, eqV, eqA, eqC, eqO, eqCs, eqAs, look_cons, look, rn, EK.cast, EK.sz, eqCaps]
  · simp [eqFr, eqHp, eqV, eqA, eqC, eqO, eqCs, eqAs, look_cons, look, rn, EK.cast, EK.sz, eqCaps]
  · rintro ⟨i, j⟩ hi
    have hil := hi.l
    have him := hi.ij
    have hih := hi.h
    simp only at hil him hih ⊢
    have e0 : 0 + (((i : Int) + j) / 2).toNat = (i + j) / 2 := by omega
    have e1 : 0 + (a : Int).toNat = a := by omega
    have e2 : ((i : Int) + j) / 2 = ((i + j) / 2 : Nat) := by omega
    have e3 : ((i : Int) + j) / 2 + 1 = ((i + j) / 2 + 1 : Nat) := by omega
    repeat' (first | exact rfl | ((conv => whnf); first | refine condP_dec (fun h => absurd h (by omega)) (fun h => ?_) | refine condP_dec (fun h => ?_) (fun h => absurd h (by omega)) | refine condP_dec (fun h => ?_) (fun h => ?_) | refine condP_ndec (fun h => absurd h (by omega)) (fun h => ?_) | refine condP_ndec (fun h => ?_) (fun h => absurd h (by omega)) | refine condP_ndec (fun h => ?_) (fun h => ?_) | refine condP_beq (fun h => absurd h (by omega)) (fun h => ?_) | refine condP_beq (fun h => ?_) (fun h => absurd h (by omega)) | refine condP_beq (fun h => ?_) (fun h => ?_) | refine condP_bne (fun h => absurd h (by omega)) (fun h => ?_) | refine condP_bne (fun h => ?_) (fun h => absurd h (by omega)) | refine condP_bne (fun h => ?_) (fun h => ?_) | refine condP_mk (fun h => ?_) (fun h => ?_) | refine Ob.mk (by (first | omega | (simp only [InI, nmin, List.length_append, List.length_replicate, List.length_cons, List.length_nil, List.length_map, List.length_set, List.length_take, List.length_drop, List.length_reverse, List.length_range, Nat.zero_add, Nat.add_zero, Int.toNat_natCast, EK.sz]; omega) | (simp only [InI, nmin, List.length_append, List.length_replicate, List.length_cons, List.length_nil, List.length_map, List.length_set, List.length_take, List.length_drop, List.length_reverse, List.length_range, Nat.zero_add, Nat.add_zero, Int.toNat_natCast, EK.sz] at *; omega))) ?_ | refine Ob.mk ?_ ?_ | refine Both.mk ?_ ?_ | refine draw_of Try.mixed Try.tyOk 60 (by kernel_rfl) ?_))
    · (conv => whnf)
      have ecm : ltW (xs.getD ((i + j) / 2) aD) (xs.getD a aD) = decide (cmpW (xs.getD (0 + (((i : Int) + j) / 2).toNat) EK.arc.dflt) (xs.getD (0 + (a : Int).toNat) EK.arc.dflt) < 0) := by rw [e0, e1]; rfl
      refine callF (sorted1_c (xs.getD (0 + (((i : Int) + j) / 2).toNat) EK.arc.dflt) (xs.getD (0 + (a : Int).toNat) EK.arc.dflt)) [] Try.call115 rfl (by simp [eqLs, eqL, eqO, eqC, eqCs, rn, renOf, look_cons, look, EK.cast]) (by simp [appN, ptrs, eqVL, eqV, eqA, eqC, eqCs, eqAs, eqCaps, EK.sz, rn, renOf, look_cons, look, arcV, fV]) (by simp [appN, ptrs, SV.lt, SA.lt, SC.lt, arcV, fV, lenN]) ?_
      rintro _ _ ⟨rfl, rfl⟩
      repeat' (first | exact rfl | ((conv => whnf); first | refine condP_dec (fun h => absurd h (by omega)) (fun h => ?_) | refine condP_dec (fun h => ?_) (fun h => absurd h (by omega)) | refine condP_dec (fun h => ?_) (fun h => ?_) | refine condP_ndec (fun h => absurd h (by omega)) (fun h => ?_) | refine condP_ndec (fun h => ?_) (fun h => absurd h (by omega)) | refine condP_ndec (fun h => ?_) (fun h => ?_) | refine condP_beq (fun h => absurd h (by omega)) (fun h => ?_) | refine condP_beq (fun h => ?_) (fun h => absurd h (by omega)) | refine condP_beq (fun h => ?_) (fun h => ?_) | refine condP_bne (fun h => absurd h (by omega)) (fun h => ?_) | refine condP_bne (fun h => ?_) (fun h => absurd h (by omega)) | refine condP_bne (fun h => ?_) (fun h => ?_) | refine condP_mk (fun h => ?_) (fun h => ?_) | refine Ob.mk (by (first | omega | (simp only [InI, nmin, List.length_append, List.length_replicate, List.length_cons, List.length_nil, List.length_map, List.length_set, List.length_take, List.length_drop, List.length_reverse, List.length_range, Nat.zero_add, Nat.add_zero, Int.toNat_natCast, EK.sz]; omega) | (simp only [InI, nmin, List.length_append, List.length_replicate, List.length_cons, List.length_nil, List.length_map, List.length_set, List.length_take, List.length_drop, List.length_reverse, List.length_range, Nat.zero_add, Nat.add_zero, Int.toNat_natCast, EK.sz] at *; omega))) ?_ | refine Ob.mk ?_ ?_ | refine Both.mk ?_ ?_ | refine draw_of Try.mixed Try.tyOk 60 (by kernel_rfl) ?_))
      · rw [decide_eq_true (by assumption)] at ecm
        (conv => whnf)
        refine ⟨((i + j) / 2 + 1, j), [], ⟨by rfl, ?_, ?_⟩, hi.up ltW_ok hs (by omega) ecm, by simp only; omega⟩
        · simp [eqFr, eqHp, eqV, eqA, eqC, eqO, eqCs, eqAs, look_cons, look, rn, EK.cast, EK.sz, eqCaps]
        · simp [eqFr, eqHp, eqV, eqA, eqC, eqO, eqCs, eqAs, look_cons, look, rn, EK.cast, EK.sz, eqCaps]
      · rw [decide_eq_false (by assumption)] at ecm
        (conv => whnf)
        refine ⟨(i, (i + j) / 2), [], ⟨by rfl, ?_, ?_⟩, hi.down ltW_ok hs (by omega) ecm, by simp only; omega⟩
        · simp [eqFr, eqHp, eqV, eqA, eqC, eqO, eqCs, eqAs, look_cons, look, rn, EK.cast, EK.sz, eqCaps]
        · simp [eqFr, eqHp, eqV, eqA, eqC, eqO, eqCs, eqAs, look_cons, look, rn, EK.cast, EK.sz, eqCaps]
    · have e : i = j := by omega
      subst e
      (conv => whnf)
      refine loopI (fun y : Nat × List Arc => ⟨[(0, .c (.sl 0 5 0 xs.length cap)), (1, .i a), (2, .i (a + 1 : Nat)), (3, .i b), (4, .c (.fn 115 [])), (10, .i i), (13, .i y.1)], [(0, .arr true 47 .arc y.2 sp)], 1⟩)
        (fun y => a ≤ y.1 ∧ y.1 + 1 ≤ i ∧ Mv aD a b xs y.2 ∧ RotOn aD a (a + 1) (y.1 + 1) xs y.2) (fun y => i - y.1) (a, xs) [] ⟨by rfl, ?_, ?_⟩ ⟨Nat.le_refl _, hil, Mv.refl _ _ _, RotOn.none (.inr rfl)⟩ ?_
      · simp [eqFr, eqHp, eqV, eqA, eqC, eqO, eqCs, eqAs, look_cons, look, rn, EK.cast, EK.sz, eqCaps]
      · simp [eqFr, eqHp, eqV, eqA, eqC, eqO, eqCs, eqAs, look_cons, look, rn, EK.cast, EK.sz, eqCaps]
      · rintro ⟨k, ys⟩ ⟨hk, hki, hmv, hr⟩
        simp only at hk hki hmv hr ⊢
        have hyl := hmv.len
        have f0 : 0 + ((k : Int) + 1).toNat = k + 1 := by omega
        have f1 : 0 + (k : Int).toNat = k := by omega
        repeat' (first | exact rfl | ((conv => whnf); first | refine condP_dec (fun h => absurd h (by omega)) (fun h => ?_) | refine condP_dec (fun h => ?_) (fun h => absurd h (by omega)) | refine condP_dec (fun h => ?_) (fun h => ?_) | refine condP_ndec (fun h => absurd h (by omega)) (fun h => ?_) | refine condP_ndec (fun h => ?_) (fun h => absurd h (by omega)) | refine condP_ndec (fun h => ?_) (fun h => ?_) | refine condP_beq (fun h => absurd h (by omega)) (fun h => ?_) | refine condP_beq (fun h => ?_) (fun h => absurd h (by omega)) | refine condP_beq (fun h => ?_) (fun h => ?_) | refine condP_bne (fun h => absurd h (by omega)) (fun h => ?_) | refine condP_bne (fun h => ?_) (fun h => absurd h (by omega)) | refine condP_bne (fun h => ?_) (fun h => ?_) | refine condP_mk (fun h => ?_) (fun h => ?_) | refine Ob.mk (by (first | omega | (simp only [InI, nmin, List.length_append, List.length_replicate, List.length_cons, List.length_nil, List.length_map, List.length_set, List.length_take, List.length_drop, List.length_reverse, List.length_range, Nat.zero_add, Nat.add_zero, Int.toNat_natCast, EK.sz]; omega) | (simp only [InI, nmin, List.length_append, List.length_replicate, List.length_cons, List.length_nil, List.length_map, List.length_set, List.length_take, List.length_drop, List.length_reverse, List.length_range, Nat.zero_add, Nat.add_zero, Int.toNat_natCast, EK.sz] at *; omega))) ?_ | refine Ob.mk ?_ ?_ | refine Both.mk ?_ ?_ | refine draw_of Try.mixed Try.tyOk 60 (by kernel_rfl) ?_))
        · (conv => whnf)
          refine ⟨(k + 1, swapL aD ys k (k + 1)), [], ⟨by rfl, ?_, ?_⟩, ⟨by simp only; omega, by simp only; omega, hmv.trans (swapL_mv (by omega) (by omega) (by omega)), hr.fwd hyl hk (by omega)⟩, by simp only; omega⟩
          · simp [eqFr, eqHp, eqV, eqA, eqC, eqO, eqCs, eqAs, look_cons, look, rn, EK.cast, EK.sz, eqCaps]
          · simp [eqFr, eqHp, eqV, eqA, eqC, eqO, eqCs, eqAs, look_cons, look, rn, EK.cast, EK.sz, eqCaps, swapL, f0, f1, EK.dflt]
        · (conv => whnf)
          have e : i = k + 1 := by omega
          subst e
          exact ⟨[], [(0, .arr true 47 .arc ys sp)], 1, .u, ⟨by rfl, trivial, by simp [eqFr, eqHp, eqV, eqA, eqC, eqO, eqCs, eqAs, look_cons, look, rn, EK.cast, EK.sz, eqCaps]⟩, by simp [eqV, eqAs], ys, rfl, rfl, hmv, ins_first ltW_ok hs hil hih hi.lo hi.hi hr⟩
set_option maxHeartbeats 4000000 in
set_option maxRecDepth 20000 in
theorem symB_c (xs : List Arc) (cap sp a m b : Nat) (ham : a + 1 < m) (hbm : b = m + 1) (hb : b ≤ xs.length) (hl : xs.length ≤ 1000000) (hs : SrtOn aD ltW a m xs) : Ct Try.prog 134 [.c (.sl 0 5 0 xs.length cap), .i a, .i m, .i b, .c (.fn 115 [])] [] [(0, .arr true 47 .arc xs sp)] 1
    (fun v s => ∃ ys, v = .u ∧ s = ⟨[], [(0, .arr true 47 .arc ys sp)], 1⟩ ∧ Mv aD a b xs ys ∧ SrtOn aD ltW a b ys) := by
  subst hbm
  refine ctW Try.tyOk 25 [] Try.func134 rfl (by simp [SV.lt, SA.lt, SC.lt, arcV, fV]) (by simp) (fr := [(0, .c (.sl 0 5 0 xs.length cap)), (1, .i a), (2, .i m), (3, .i (m + 1 : Nat)), (4, .c (.fn 115 []))]) rfl ?_
  repeat' (first | exact rfl | ((conv => whnf); first | refine condP_dec (fun h => absurd h (by omega)) (fun h => ?_) | refine condP_dec (fun h => ?_) (fun h => absurd h (by omega)) | refine condP_dec (fun h => ?_) (fun h => ?_) | refine condP_ndec (fun h => absurd h (by omega)) (fun h => ?_) | refine condP_ndec (fun h => ?_) (fun h => absurd h (by omega)) | refine condP_ndec (fun h => ?_) (fun h => ?_) | refine condP_beq (fun h => absurd h (by omega)) (fun h => ?_) | refine condP_beq (fun h => ?_) (fun h => absurd h (by omega)) | refine condP_beq (fun h => ?_) (fun h => ?_) | refine condP_bne (fun h => absurd h (by omega)) (fun h => ?_) | refine condP_bne (fun h => ?_) (fun h => absurd h (by omega)) | refine condP_bne (fun h => ?_) (fun h => ?_) | refine condP_mk (fun h => ?_) (fun h => ?_) | refine Ob.mk (by (first | omega | (simp only [InI, nmin, List.length_append, List.length_replicate, List.length_cons, List.length_nil, List.length_map, List.length_set, List.length_take, List.length_drop, List.length_reverse, List.length_range, Nat.zero_add, Nat.add_zero, Int.toNat_natCast, EK.sz]; omega) | (simp only [InI, nmin, List.length_append, List.length_replicate, List.length_cons, List.length_nil, List.length_map, List.length_set, List.length_take, List.length_drop, List.length_reverse, List.length_range, Nat.zero_add, Nat.add_zero, Int.toNat_natCast, EK.sz] at *; omega))) ?_ | refine Ob.mk ?_ ?_ | refine Both.mk ?_ ?_ | refine draw_of Try.mixed Try.tyOk 60 (by kernel_rfl) ?_))
  (conv => whnf)
  refine loopI (fun y : Nat × Nat => ⟨[(0, .c (.sl 0 5 0 xs.length cap)), (1, .i a), (2, .i m), (3, .i (m + 1 : Nat)), (4, .c (.fn 115 [])), (14, .i y.1), (15, .i y.2)], [(0, .arr true 47 .arc xs sp)], 1⟩)
    (fun y => SeaB aD ltW a m y.1 y.2 xs) (fun y => y.2 - y.1) (a, m) [] ⟨by rfl, ?_, ?_⟩ (SeaB.start (by omega)) ?_
  · simp [eqFr, eqHp, eqV, eqA, eqC, eqO, eqCs, eqAs, look_cons, look, rn, EK.cast, EK.sz, eqCaps]
  · simp [eqFr, eqHp, eqV, eqA, eqC, eqO, eqCs, eqAs, look_cons, look, rn, EK.cast, EK.sz, eqCaps]
  · rintro ⟨i, j⟩ hi
    have hil := hi.l
    have him := hi.ij
    have hih := hi.h
    simp only at hil him hih ⊢
    have e0 : 0 + (((i : Int) + j) / 2).toNat = (i + j) / 2 := by omega
    have e1 : 0 + (m : Int).toNat = m := by omega
    repeat' (first | exact rfl | ((conv => whnf); first | refine condP_dec (fun h => absurd h (by omega)) (fun h => ?_) | refine condP_dec (fun h => ?_) (fun h => absurd h (by omega)) | refine condP_dec (fun h => ?_) (fun h => ?_) | refine condP_ndec (fun h => absurd h (by omega)) (fun h => ?_) | refine condP_ndec (fun h => ?_) (fun h => absurd h (by omega)) | refine condP_ndec (fun h => ?_) (fun h => ?_) | refine condP_beq (fun h => absurd h (by omega)) (fun h => ?_) | refine condP_beq (fun h => ?_) (fun h => absurd h (by omega)) | refine condP_beq (fun h => ?_) (fun h => ?_) | refine condP_bne (fun h => absurd h (by omega)) (fun h => ?_) | refine condP_bne (fun h => ?_) (fun h => absurd h (by omega)) | refine condP_bne (fun h => ?_) (fun h => ?_) | refine condP_mk (fun h => ?_) (fun h => ?_) | refine Ob.mk (by (first | omega | (simp only [InI, nmin, List.length_append, List.length_replicate, List.length_cons, List.length_nil, List.length_map, List.length_set, List.length_take, List.length_drop, List.length_reverse, List.length_range, Nat.zero_add, Nat.add_zero, Int.toNat_natCast, EK.sz]; omega) | (simp only [InI, nmin, List.length_append, List.length_replicate, List.length_cons, List.length_nil, List.length_map, List.length_set, List.length_take, List.length_drop, List.length_reverse, List.length_range, Nat.zero_add, Nat.add_zero, Int.toNat_natCast, EK.sz] at *; omega))) ?_ | refine Ob.mk ?_ ?_ | refine Both.mk ?_ ?_ | refine draw_of Try.mixed Try.tyOk 60 (by kernel_rfl) ?_))
    · (conv => whnf)
      have ecm : ltW (xs.getD m aD) (xs.getD ((i + j) / 2) aD) = decide (cmpW (xs.getD (0 + (m : Int).toNat) EK.arc.dflt) (xs.getD (0 + (((i : Int) + j) / 2).toNat) EK.arc.dflt) < 0) := by rw [e0, e1]; rfl
      refine callF (sorted1_c (xs.getD (0 + (m : Int).toNat) EK.arc.dflt) (xs.getD (0 + (((i : Int) + j) / 2).toNat) EK.arc.dflt)) [] Try.call115 rfl (by simp [eqLs, eqL, eqO, eqC, eqCs, rn, renOf, look_cons, look, EK.cast]) (by simp [appN, ptrs, eqVL, eqV, eqA, eqC, eqCs, eqAs, eqCaps, EK.sz, rn, renOf, look_cons, look, arcV, fV]) (by simp [appN, ptrs, SV.lt, SA.lt, SC.lt, arcV, fV, lenN]) ?_
      rintro _ _ ⟨rfl, rfl⟩
      repeat' (first | exact rfl | ((conv => whnf); first | refine condP_dec (fun h => absurd h (by omega)) (fun h => ?_) | refine condP_dec (fun h => ?_) (fun h => absurd h (by omega)) | refine condP_dec (fun h => ?_) (fun h => ?_) | refine condP_ndec (fun h => absurd h (by omega)) (fun h => ?_) | refine condP_ndec (fun h => ?_) (fun h => absurd h (by omega)) | refine condP_ndec (fun h => ?_) (fun h => ?_) | refine condP_beq (fun h => absurd h (by omega)) (fun h => ?_) | refine condP_beq (fun h => ?_) (fun h => absurd h (by omega)) | refine condP_beq (fun h => ?_) (fun h => ?_) | refine condP_bne (fun h => absurd h (by omega)) (fun h => ?_) | refine condP_bne (fun h => ?_) (fun h => absurd h (by omega)) | refine condP_bne (fun h => ?_) (fun h => ?_) | refine condP_mk (fun h => ?_) (fun h => ?_) | refine Ob.mk (by (first | omega | (simp only [InI, nmin, List.length_append, List.length_replicate, List.length_cons, List.length_nil, List.length_map, List.length_set, List.length_take, List.length_drop, List.length_reverse, List.length_range, Nat.zero_add, Nat.add_zero, Int.toNat_natCast, EK.sz]; omega) | (simp only [InI, nmin, List.length_append, List.length_replicate, List.length_cons, List.length_nil, List.length_map, List.length_set, List.length_take, List.length_drop, List.length_reverse, List.length_range, Nat.zero_add, Nat.add_zero, Int.toNat_natCast, EK.sz] at *; omega))) ?_ | refine Ob.mk ?_ ?_ | refine Both.mk ?_ ?_ | refine draw_of Try.mixed Try.tyOk 60 (by kernel_rfl) ?_))
      · rw [decide_eq_false (by assumption)] at ecm
        (conv => whnf)
        refine ⟨((i + j) / 2 + 1, j), [], ⟨by rfl, ?_, ?_⟩, hi.up ltW_ok hs (by omega) ecm, by simp only; omega⟩
        · simp [eqFr, eqHp, eqV, eqA, eqC, eqO, eqCs, eqAs, look_cons, look, rn, EK.cast, EK.sz, eqCaps]
        · simp [eqFr, eqHp, eqV, eqA, eqC, eqO, eqCs, eqAs, look_cons, look, rn, EK.cast, EK.sz, eqCaps]
      · rw [decide_eq_true (by assumption)] at ecm
        (conv => whnf)
        refine ⟨(i, (i + j) / 2), [], ⟨by rfl, ?_, ?_⟩, hi.down ltW_ok hs (by omega) ecm, by simp only; omega⟩
        · simp [eqFr, eqHp, eqV, eqA, eqC, eqO, eqCs, eqAs, look_cons, look, rn, EK.cast, EK.sz, eqCaps]
        · simp [eqFr, eqHp, eqV, eqA, eqC, eqO, eqCs, eqAs, look_cons, look, rn, EK.cast, EK.sz, eqCaps]
    · have e : i = j := by omega
      subst e
      (conv => whnf)
      refine loopI (fun y : Nat × List Arc => ⟨[(0, .c (.sl 0 5 0 xs.length cap)), (1, .i a), (2, .i m), (3, .i (m + 1 : Nat)), (4, .c (.fn 115 [])), (14, .i i), (17, .i y.1)], [(0, .arr true 47 .arc y.2 sp)], 1⟩)
        (fun y => y.1 ≤ m ∧ i ≤ y.1 ∧ Mv aD a (m + 1) xs y.2 ∧ RotOn aD y.1 m (m + 1) xs y.2) (fun y => y.1) (m, xs) [] ⟨by rfl, ?_, ?_⟩ ⟨Nat.le_refl _, hih, Mv.refl _ _ _, RotOn.none (.inl rfl)⟩ ?_
      · simp [eqFr, eqHp, eqV, eqA, eqC, eqO, eqCs, eqAs, look_cons, look, rn, EK.cast, EK.sz, eqCaps]
      · simp [eqFr, eqHp, eqV, eqA, eqC, eqO, eqCs, eqAs, look_cons, look, rn, EK.cast, EK.sz, eqCaps]
      · rintro ⟨k, ys⟩ ⟨hk, hki, hmv, hr⟩
        simp only at hk hki hmv hr ⊢
        have hyl := hmv.len
        have f0 : 0 + ((k : Int) - 1).toNat = k - 1 := by omega
        have f1 : 0 + (k : Int).toNat = k := by omega
        repeat' (first | exact rfl | ((conv => whnf); first | refine condP_dec (fun h => absurd h (by omega)) (fun h => ?_) | refine condP_dec (fun h => ?_) (fun h => absurd h (by omega)) | refine condP_dec (fun h => ?_) (fun h => ?_) | refine condP_ndec (fun h => absurd h (by omega)) (fun h => ?_) | refine condP_ndec (fun h => ?_) (fun h => absurd h (by omega)) | refine condP_ndec (fun h => ?_) (fun h => ?_) | refine condP_beq (fun h => absurd h (by omega)) (fun h => ?_) | refine condP_beq (fun h => ?_) (fun h => absurd h (by omega)) | refine condP_beq (fun h => ?_) (fun h => ?_) | refine condP_bne (fun h => absurd h (by omega)) (fun h => ?_) | refine condP_bne (fun h => ?_) (fun h => absurd h (by omega)) | refine condP_bne (fun h => ?_) (fun h => ?_) | refine condP_mk (fun h => ?_) (fun h => ?_) | refine Ob.mk (by (first | omega | (simp only [InI, nmin, List.length_append, List.length_replicate, List.length_cons, List.length_nil, List.length_map, List.length_set, List.length_take, List.length_drop, List.length_reverse, List.length_range, Nat.zero_add, Nat.add_zero, Int.toNat_natCast, EK.sz]; omega) | (simp only [InI, nmin, List.length_append, List.length_replicate, List.length_cons, List.length_nil, List.length_map, List.length_set, List.length_take, List.length_drop, List.length_reverse, List.length_range, Nat.zero_add, Nat.add_zero, Int.toNat_natCast, EK.sz] at *; omega))) ?_ | refine Ob.mk ?_ ?_ | refine Both.mk ?_ ?_ | refine draw_of Try.mixed Try.tyOk 60 (by kernel_rfl) ?_))
        · (conv => whnf)
          refine ⟨(k - 1, swapL aD ys k (k - 1)), [], ⟨by rfl, ?_, ?_⟩, ⟨by simp only; omega, by simp only; omega, hmv.trans (swapL_mv (by omega) (by omega) (by omega)), hr.bwd hyl (by omega) hk (by omega)⟩, by simp only; omega⟩
          · simp [eqFr, eqHp, eqV, eqA, eqC, eqO, eqCs, eqAs, look_cons, look, rn, EK.cast, EK.sz, eqCaps]
            omega
          · simp [eqFr, eqHp, eqV, eqA, eqC, eqO, eqCs, eqAs, look_cons, look, rn, EK.cast, EK.sz, eqCaps, swapL, f0, f1, EK.dflt]
        · (conv => whnf)
          have e : i = k := by omega
          subst e
          exact ⟨[], [(0, .arr true 47 .arc ys sp)], 1, .u, ⟨by rfl, trivial, by simp [eqFr, eqHp, eqV, eqA, eqC, eqO, eqCs, eqAs, look_cons, look, rn, EK.cast, EK.sz, eqCaps]⟩, by simp [eqV, eqAs], ys, rfl, rfl, hmv, ins_last ltW_ok hs hil hih hi.lo hi.hi hr⟩
end Go.Fw

namespace Go.Fw
open Go Go.Proofs

theorem SrtOn.kept {a b c e : Nat} {xs ys : List Arc} (h : SrtOn aD ltW a b xs) (hm : Mv aD c e xs ys) (hk : b ≤ c ∨ e ≤ a) : SrtOn aD ltW a b ys := h.cong fun k h1 h2 => hm.out k (by omega)

set_option maxHeartbeats 8000000 in
set_option maxRecDepth 20000 in
theorem symMerge_c : ∀ (N : Nat) (xs : List Arc) (cap sp a m b : Nat), b - a ≤ N → a < m → m < b → b ≤ xs.length → xs.length ≤ 1000000 → SrtOn aD ltW a m xs → SrtOn aD ltW m b xs →
    Ct Try.prog 134 [.c (.sl 0 5 0 xs.length cap), .i a, .i m, .i b, .c (.fn 115 [])] [] [(0, .arr true 47 .arc xs sp)] 1
      (fun v s => ∃ ys, v = .u ∧ s = ⟨[], [(0, .arr true 47 .arc ys sp)], 1⟩ ∧ Mv aD a b xs ys ∧ SrtOn aD ltW a b ys)
  | 0, xs, cap, sp, a, m, b, hN, ham, hmb, hb, hl, h1, h2 => by omega
  | N + 1, xs, cap, sp, a, m, b, hN, ham, hmb, hb, hl, h1, h2 => by
    by_cases hA : m = a + 1
    · exact symA_c xs cap sp a m b hA hmb hb hl h2
    by_cases hB : b = m + 1
    · exact symB_c xs cap sp a m b (by omega) hB hb hl h1
    have ih := symMerge_c N
    obtain ⟨mid, hmid⟩ : ∃ mid, mid = (a + b) / 2 := ⟨_, rfl⟩
    refine ctC Try.tyOk Try.func134 rfl (by simp [SV.lt, SA.lt, SC.lt, arcV, fV]) (by simp) (fr := [(0, .c (.sl 0 5 0 xs.length cap)), (1, .i a), (2, .i m), (3, .i b), (4, .c (.fn 115 []))]) rfl ?_
    refine SemC.cut Try.tyOk 25 [] (fun y : Nat × Nat => ⟨[(0, .c (.sl 0 5 0 xs.length cap)), (1, .i a), (2, .i m), (3, .i b), (4, .c (.fn 115 [])), (18, .i mid), (19, .i (mid + m : Nat)), (20, .i y.1), (21, .i y.2), (22, .i (mid + m - 1 : Nat))], [(0, .arr true 47 .arc xs sp)], 1⟩)
      (fun y => (mid < m ∧ y.1 = mid + m - b ∧ y.2 = mid) ∨ (m ≤ mid ∧ y.1 = a ∧ y.2 = m)) 7 _ _ ?_ ?_
    · repeat' (first | exact rfl | ((conv => whnf); first | refine condP_dec (fun h => absurd h (by omega)) (fun h => ?_) | refine condP_dec (fun h => ?_) (fun h => absurd h (by omega)) | refine condP_dec (fun h => ?_) (fun h => ?_) | refine condP_ndec (fun h => absurd h (by omega)) (fun h => ?_) | refine condP_ndec (fun h => ?_) (fun h => absurd h (by omega)) | refine condP_ndec (fun h => ?_) (fun h => ?_) | refine condP_beq (fun h => absurd h (by omega)) (fun h => ?_) | refine condP_beq (fun h => ?_) (fun h => absurd h (by omega)) | refine condP_beq (fun h => ?_) (fun h => ?_) | refine condP_bne (fun h => absurd h (by omega)) (fun h => ?_) | refine condP_bne (fun h => ?_) (fun h => absurd h (by omega)) | refine condP_bne (fun h => ?_) (fun h => ?_) | refine condP_mk (fun h => ?_) (fun h => ?_) | refine Ob.mk (by (first | omega | (simp only [InI, nmin, List.length_append, List.length_replicate, List.length_cons, List.length_nil, List.length_map, List.length_set, List.length_take, List.length_drop, List.length_reverse, List.length_range, Nat.zero_add, Nat.add_zero, Int.toNat_natCast, EK.sz]; omega) | (simp only [InI, nmin, List.length_append, List.length_replicate, List.length_cons, List.length_nil, List.length_map, List.length_set, List.length_take, List.length_drop, List.length_reverse, List.length_range, Nat.zero_add, Nat.add_zero, Int.toNat_natCast, EK.sz] at *; omega))) ?_ | refine Ob.mk ?_ ?_ | refine Both.mk ?_ ?_ | refine draw_of Try.mixed Try.tyOk 60 (by kernel_rfl) ?_))
      · (conv => whnf)
        refine ⟨(mid + m - b, mid), [], ⟨by rfl, ?_, ?_⟩, .inl ⟨by omega, rfl, rfl⟩⟩
        · simp [eqFr, eqHp, eqV, eqA, eqC, eqO, eqCs, eqAs, look_cons, look, rn, EK.cast, EK.sz, eqCaps]
          omega
        · simp [eqFr, eqHp, eqV, eqA, eqC, eqO, eqCs, eqAs, look_cons, look, rn, EK.cast, EK.sz, eqCaps]
      · (conv => whnf)
        refine ⟨(a, m), [], ⟨by rfl, ?_, ?_⟩, .inr ⟨by omega, rfl, rfl⟩⟩
        · simp [eqFr, eqHp, eqV, eqA, eqC, eqO, eqCs, eqAs, look_cons, look, rn, EK.cast, EK.sz, eqCaps]
          omega
        · simp [eqFr, eqHp, eqV, eqA, eqC, eqO, eqCs, eqAs, look_cons, look, rn, EK.cast, EK.sz, eqCaps]
    · rintro ⟨lo, hi⟩ hlh
      simp only at hlh ⊢
      refine SemC.cut Try.tyOk 25 [] (fun y : Nat × List Arc => ⟨[(0, .c (.sl 0 5 0 xs.length cap)), (1, .i a), (2, .i m), (3, .i b), (4, .c (.fn 115 [])), (18, .i mid), (20, .i y.1), (24, .i (mid + m - y.1 : Nat))], [(0, .arr true 47 .arc y.2 sp)], 1⟩)
        (fun y => a ≤ y.1 ∧ y.1 ≤ mid ∧ mid ≤ mid + m - y.1 ∧ mid + m - y.1 ≤ b ∧ Mv aD a b xs y.2 ∧ Cross aD ltW a mid b y.2 ∧ SrtOn aD ltW a y.1 y.2 ∧ SrtOn aD ltW y.1 mid y.2 ∧ SrtOn aD ltW mid (mid + m - y.1) y.2 ∧ SrtOn aD ltW (mid + m - y.1) b y.2) 3 _ _ ?_ ?_
      · repeat' (first | exact rfl | ((conv => whnf); first | refine condP_dec (fun h => absurd h (by omega)) (fun h => ?_) | refine condP_dec (fun h => ?_) (fun h => absurd h (by omega)) | refine condP_dec (fun h => ?_) (fun h => ?_) | refine condP_ndec (fun h => absurd h (by omega)) (fun h => ?_) | refine condP_ndec (fun h => ?_) (fun h => absurd h (by omega)) | refine condP_ndec (fun h => ?_) (fun h => ?_) | refine condP_beq (fun h => absurd h (by omega)) (fun h => ?_) | refine condP_beq (fun h => ?_) (fun h => absurd h (by omega)) | refine condP_beq (fun h => ?_) (fun h => ?_) | refine condP_bne (fun h => absurd h (by omega)) (fun h => ?_) | refine condP_bne (fun h => ?_) (fun h => absurd h (by omega)) | refine condP_bne (fun h => ?_) (fun h => ?_) | refine condP_mk (fun h => ?_) (fun h => ?_) | refine Ob.mk (by (first | omega | (simp only [InI, nmin, List.length_append, List.length_replicate, List.length_cons, List.length_nil, List.length_map, List.length_set, List.length_take, List.length_drop, List.length_reverse, List.length_range, Nat.zero_add, Nat.add_zero, Int.toNat_natCast, EK.sz]; omega) | (simp only [InI, nmin, List.length_append, List.length_replicate, List.length_cons, List.length_nil, List.length_map, List.length_set, List.length_take, List.length_drop, List.length_reverse, List.length_range, Nat.zero_add, Nat.add_zero, Int.toNat_natCast, EK.sz] at *; omega))) ?_ | refine Ob.mk ?_ ?_ | refine Both.mk ?_ ?_ | refine draw_of Try.mixed Try.tyOk 60 (by kernel_rfl) ?_))
        (conv => whnf)
        refine loopI (fun y : Nat × Nat => ⟨[(0, .c (.sl 0 5 0 xs.length cap)), (1, .i a), (2, .i m), (3, .i b), (4, .c (.fn 115 [])), (18, .i mid), (19, .i (mid + m : Nat)), (20, .i y.1), (21, .i y.2), (22, .i (mid + m - 1 : Nat))], [(0, .arr true 47 .arc xs sp)], 1⟩)
          (fun y => SymS aD ltW lo hi (mid + m - 1) y.1 y.2 xs) (fun y => y.2 - y.1) (lo, hi) [] ⟨by rfl, ?_, ?_⟩ ⟨Nat.le_refl _, by simp only; omega, Nat.le_refl _, .inl rfl, .inl rfl⟩ ?_
        · simp [eqFr, eqHp, eqV, eqA, eqC, eqO, eqCs, eqAs, look_cons, look, rn, EK.cast, EK.sz, eqCaps]
        · simp [eqFr, eqHp, eqV, eqA, eqC, eqO, eqCs, eqAs, look_cons, look, rn, EK.cast, EK.sz, eqCaps]
        · rintro ⟨s, r⟩ hs
          have hsl := hs.l
          have hsm := hs.m
          have hsh := hs.h
          simp only at hsl hsm hsh ⊢
          have e0 : 0 + (((s : Int) + r) / 2).toNat = (s + r) / 2 := by omega
          have e1 : 0 + (((mid + m - 1 : Nat) : Int) - ((s : Int) + r) / 2).toNat = mid + m - 1 - (s + r) / 2 := by omega
          repeat' (first | exact rfl | ((conv => whnf); first | refine condP_dec (fun h => absurd h (by omega)) (fun h => ?_) | refine condP_dec (fun h => ?_) (fun h => absurd h (by omega)) | refine condP_dec (fun h => ?_) (fun h => ?_) | refine condP_ndec (fun h => absurd h (by omega)) (fun h => ?_) | refine condP_ndec (fun h => ?_) (fun h => absurd h (by omega)) | refine condP_ndec (fun h => ?_) (fun h => ?_) | refine condP_beq (fun h => absurd h (by omega)) (fun h => ?_) | refine condP_beq (fun h => ?_) (fun h => absurd h (by omega)) | refine condP_beq (fun h => ?_) (fun h => ?_) | refine condP_bne (fun h => absurd h (by omega)) (fun h => ?_) | refine condP_bne (fun h => ?_) (fun h => absurd h (by omega)) | refine condP_bne (fun h => ?_) (fun h => ?_) | refine condP_mk (fun h => ?_) (fun h => ?_) | refine Ob.mk (by (first | omega | (simp only [InI, nmin, List.length_append, List.length_replicate, List.length_cons, List.length_nil, List.length_map, List.length_set, List.length_take, List.length_drop, List.length_reverse, List.length_range, Nat.zero_add, Nat.add_zero, Int.toNat_natCast, EK.sz]; omega) | (simp only [InI, nmin, List.length_append, List.length_replicate, List.length_cons, List.length_nil, List.length_map, List.length_set, List.length_take, List.length_drop, List.length_reverse, List.length_range, Nat.zero_add, Nat.add_zero, Int.toNat_natCast, EK.sz] at *; omega))) ?_ | refine Ob.mk ?_ ?_ | refine Both.mk ?_ ?_ | refine draw_of Try.mixed Try.tyOk 60 (by kernel_rfl) ?_))
          · (conv => whnf)
            have ecm : ltW (xs.getD (mid + m - 1 - (s + r) / 2) aD) (xs.getD ((s + r) / 2) aD) = decide (cmpW (xs.getD (0 + (((mid + m - 1 : Nat) : Int) - ((s : Int) + r) / 2).toNat) EK.arc.dflt) (xs.getD (0 + (((s : Int) + r) / 2).toNat) EK.arc.dflt) < 0) := by rw [e0, e1]; rfl
            refine callF (sorted1_c (xs.getD (0 + (((mid + m - 1 : Nat) : Int) - ((s : Int) + r) / 2).toNat) EK.arc.dflt) (xs.getD (0 + (((s : Int) + r) / 2).toNat) EK.arc.dflt)) [] Try.call115 rfl (by simp [eqLs, eqL, eqO, eqC, eqCs, rn, renOf, look_cons, look, EK.cast]) (by simp [appN, ptrs, eqVL, eqV, eqA, eqC, eqCs, eqAs, eqCaps, EK.sz, rn, renOf, look_cons, look, arcV, fV]) (by simp [appN, ptrs, SV.lt, SA.lt, SC.lt, arcV, fV, lenN]) ?_
            rintro _ _ ⟨rfl, rfl⟩
            repeat' (first | exact rfl | ((conv => whnf); first | refine condP_dec (fun h => absurd h (by omega)) (fun h => ?_) | refine condP_dec (fun h => ?_) (fun h => absurd h (by omega)) | refine condP_dec (fun h => ?_) (fun h => ?_) | refine condP_ndec (fun h => absurd h (by omega)) (fun h => ?_) | refine condP_ndec (fun h => ?_) (fun h => absurd h (by omega)) | refine condP_ndec (fun h => ?_) (fun h => ?_) | refine condP_beq (fun h => absurd h (by omega)) (fun h => ?_) | refine condP_beq (fun h => ?_) (fun h => absurd h (by omega)) | refine condP_beq (fun h => ?_) (fun h => ?_) | refine condP_bne (fun h => absurd h (by omega)) (fun h => ?_) | refine condP_bne (fun h => ?_) (fun h => absurd h (by omega)) | refine condP_bne (fun h => ?_) (fun h => ?_) | refine condP_mk (fun h => ?_) (fun h => ?_) | refine Ob.mk (by (first | omega | (simp only [InI, nmin, List.length_append, List.length_replicate, List.length_cons, List.length_nil, List.length_map, List.length_set, List.length_take, List.length_drop, List.length_reverse, List.length_range, Nat.zero_add, Nat.add_zero, Int.toNat_natCast, EK.sz]; omega) | (simp only [InI, nmin, List.length_append, List.length_replicate, List.length_cons, List.length_nil, List.length_map, List.length_set, List.length_take, List.length_drop, List.length_reverse, List.length_range, Nat.zero_add, Nat.add_zero, Int.toNat_natCast, EK.sz] at *; omega))) ?_ | refine Ob.mk ?_ ?_ | refine Both.mk ?_ ?_ | refine draw_of Try.mixed Try.tyOk 60 (by kernel_rfl) ?_))
            · rw [decide_eq_false (by assumption)] at ecm
              (conv => whnf)
              refine ⟨((s + r) / 2 + 1, r), [], ⟨by rfl, ?_, ?_⟩, hs.up (by omega) ecm, by simp only; omega⟩
              · simp [eqFr, eqHp, eqV, eqA, eqC, eqO, eqCs, eqAs, look_cons, look, rn, EK.cast, EK.sz, eqCaps]
              · simp [eqFr, eqHp, eqV, eqA, eqC, eqO, eqCs, eqAs, look_cons, look, rn, EK.cast, EK.sz, eqCaps]
            · rw [decide_eq_true (by assumption)] at ecm
              (conv => whnf)
              refine ⟨(s, (s + r) / 2), [], ⟨by rfl, ?_, ?_⟩, hs.down (by omega) ecm, by simp only; omega⟩
              · simp [eqFr, eqHp, eqV, eqA, eqC, eqO, eqCs, eqAs, look_cons, look, rn, EK.cast, EK.sz, eqCaps]
              · simp [eqFr, eqHp, eqV, eqA, eqC, eqO, eqCs, eqAs, look_cons, look, rn, EK.cast, EK.sz, eqCaps]
          · have e : s = r := by omega
            subst e
            have e2 : ((mid + m : Nat) : Int) - s = (mid + m - s : Nat) := by omega
            (conv => whnf)
            rw [e2]
            refine callF (rotate_c xs cap sp s m (mid + m - s) (by omega) (by omega) (by omega) hl) [0] Try.call136 rfl (by simp [eqLs, eqL, eqO, eqC, eqCs, rn, renOf, look_cons, look, EK.cast]) (by simp [appN, ptrs, eqVL, eqV, eqA, eqC, eqCs, eqAs, eqCaps, EK.sz, rn, renOf, look_cons, look, arcV, fV]) (by simp [appN, ptrs, SV.lt, SA.lt, SC.lt, arcV, fV, lenN]) ?_
            rintro _ _ ⟨ys, rfl, rfl, hm, hr⟩
            repeat' (first | exact rfl | ((conv => whnf); first | refine condP_dec (fun h => absurd h (by omega)) (fun h => ?_) | refine condP_dec (fun h => ?_) (fun h => absurd h (by omega)) | refine condP_dec (fun h => ?_) (fun h => ?_) | refine condP_ndec (fun h => absurd h (by omega)) (fun h => ?_) | refine condP_ndec (fun h => ?_) (fun h => absurd h (by omega)) | refine condP_ndec (fun h => ?_) (fun h => ?_) | refine condP_beq (fun h => absurd h (by omega)) (fun h => ?_) | refine condP_beq (fun h => ?_) (fun h => absurd h (by omega)) | refine condP_beq (fun h => ?_) (fun h => ?_) | refine condP_bne (fun h => absurd h (by omega)) (fun h => ?_) | refine condP_bne (fun h => ?_) (fun h => absurd h (by omega)) | refine condP_bne (fun h => ?_) (fun h => ?_) | refine condP_mk (fun h => ?_) (fun h => ?_) | refine Ob.mk (by (first | omega | (simp only [InI, nmin, List.length_append, List.length_replicate, List.length_cons, List.length_nil, List.length_map, List.length_set, List.length_take, List.length_drop, List.length_reverse, List.length_range, Nat.zero_add, Nat.add_zero, Int.toNat_natCast, EK.sz]; omega) | (simp only [InI, nmin, List.length_append, List.length_replicate, List.length_cons, List.length_nil, List.length_map, List.length_set, List.length_take, List.length_drop, List.length_reverse, List.length_range, Nat.zero_add, Nat.add_zero, Int.toNat_natCast, EK.sz] at *; omega))) ?_ | refine Ob.mk ?_ ?_ | refine Both.mk ?_ ?_ | refine draw_of Try.mixed Try.tyOk 60 (by kernel_rfl) ?_))
            (conv => whnf)
            refine ⟨(s, ys), [], ⟨by rfl, ?_, ?_⟩, ⟨by simp only; omega, by simp only; omega, by simp only; omega, by simp only; omega, hm.wide (by omega) (by omega), sym_cross ltW_ok h1 h2 ham hmb hmid hlh hs hr⟩⟩
            · simp [eqFr, eqHp, eqV, eqA, eqC, eqO, eqCs, eqAs, look_cons, look, rn, EK.cast, EK.sz, eqCaps]
            · simp [eqFr, eqHp, eqV, eqA, eqC, eqO, eqCs, eqAs, look_cons, look, rn, EK.cast, EK.sz, eqCaps]
          all_goals
            have e : s = r := by omega
            subst e
            (conv => whnf)
            refine ⟨(s, xs), [], ⟨by rfl, ?_, ?_⟩, ⟨by simp only; omega, by simp only; omega, by simp only; omega, by simp only; omega, Mv.refl _ _ _, sym_cross ltW_ok h1 h2 ham hmb hmid hlh hs (RotOn.none (by omega))⟩⟩
            · simp [eqFr, eqHp, eqV, eqA, eqC, eqO, eqCs, eqAs, look_cons, look, rn, EK.cast, EK.sz, eqCaps]
              omega
            · simp [eqFr, eqHp, eqV, eqA, eqC, eqO, eqCs, eqAs, look_cons, look, rn, EK.cast, EK.sz, eqCaps]
      · rintro ⟨s, ys⟩ ⟨g1, g2, g3, g4, hm, hc, s1, s2, s3, s4⟩
        simp only at g1 g2 g3 g4 hm hc s1 s2 s3 s4 ⊢
        have hyl := hm.len
        refine SemC.cut Try.tyOk 25 [] (fun zs : List Arc => ⟨[(0, .c (.sl 0 5 0 xs.length cap)), (1, .i a), (2, .i m), (3, .i b), (4, .c (.fn 115 [])), (18, .i mid), (20, .i s), (24, .i (mid + m - s : Nat))], [(0, .arr true 47 .arc zs sp)], 1⟩)
          (fun zs => Mv aD a mid ys zs ∧ SrtOn aD ltW a mid zs) 1 _ _ ?_ ?_
        · repeat' (first | exact rfl | ((conv => whnf); first | refine condP_dec (fun h => absurd h (by omega)) (fun h => ?_) | refine condP_dec (fun h => ?_) (fun h => absurd h (by omega)) | refine condP_dec (fun h => ?_) (fun h => ?_) | refine condP_ndec (fun h => absurd h (by omega)) (fun h => ?_) | refine condP_ndec (fun h => ?_) (fun h => absurd h (by omega)) | refine condP_ndec (fun h => ?_) (fun h => ?_) | refine condP_beq (fun h => absurd h (by omega)) (fun h => ?_) | refine condP_beq (fun h => ?_) (fun h => absurd h (by omega)) | refine condP_beq (fun h => ?_) (fun h => ?_) | refine condP_bne (fun h => absurd h (by omega)) (fun h => ?_) | refine condP_bne (fun h => ?_) (fun h => absurd h (by omega)) | refine condP_bne (fun h => ?_) (fun h => ?_) | refine condP_mk (fun h => ?_) (fun h => ?_) | refine Ob.mk (by (first | omega | (simp only [InI, nmin, List.length_append, List.length_replicate, List.length_cons, List.length_nil, List.length_map, List.length_set, List.length_take, List.length_drop, List.length_reverse, List.length_range, Nat.zero_add, Nat.add_zero, Int.toNat_natCast, EK.sz]; omega) | (simp only [InI, nmin, List.length_append, List.length_replicate, List.length_cons, List.length_nil, List.length_map, List.length_set, List.length_take, List.length_drop, List.length_reverse, List.length_range, Nat.zero_add, Nat.add_zero, Int.toNat_natCast, EK.sz] at *; omega))) ?_ | refine Ob.mk ?_ ?_ | refine Both.mk ?_ ?_ | refine draw_of Try.mixed Try.tyOk 60 (by kernel_rfl) ?_))
          · (conv => whnf)
            refine callF (ih ys cap sp a s mid (by omega) (by omega) (by omega) (by omega) (by omega) s1 s2) [0] Try.call134 rfl (by simp [eqLs, eqL, eqO, eqC, eqCs, rn, renOf, look_cons, look, EK.cast, hyl]) (by simp [appN, ptrs, eqVL, eqV, eqA, eqC, eqCs, eqAs, eqCaps, EK.sz, rn, renOf, look_cons, look, arcV, fV, hyl]) (by simp [appN, ptrs, SV.lt, SA.lt, SC.lt, arcV, fV, lenN]) ?_
            rintro _ _ ⟨zs, rfl, rfl, hm2, hs2⟩
            repeat' (first | exact rfl | ((conv => whnf); first | refine condP_dec (fun h => absurd h (by omega)) (fun h => ?_) | refine condP_dec (fun h => ?_) (fun h => absurd h (by omega)) | refine condP_dec (fun h => ?_) (fun h => ?_) | refine condP_ndec (fun h => absurd h (by omega)) (fun h => ?_) | refine condP_ndec (fun h => ?_) (fun h => absurd h (by omega)) | refine condP_ndec (fun h => ?_) (fun h => ?_) | refine condP_beq (fun h => absurd h (by omega)) (fun h => ?_) | refine condP_beq (fun h => ?_) (fun h => absurd h (by omega)) | refine condP_beq (fun h => ?_) (fun h => ?_) | refine condP_bne (fun h => absurd h (by omega)) (fun h => ?_) | refine condP_bne (fun h => ?_) (fun h => absurd h (by omega)) | refine condP_bne (fun h => ?_) (fun h => ?_) | refine condP_mk (fun h => ?_) (fun h => ?_) | refine Ob.mk (by (first | omega | (simp only [InI, nmin, List.length_append, List.length_replicate, List.length_cons, List.length_nil, List.length_map, List.length_set, List.length_take, List.length_drop, List.length_reverse, List.length_range, Nat.zero_add, Nat.add_zero, Int.toNat_natCast, EK.sz]; omega) | (simp only [InI, nmin, List.length_append, List.length_replicate, List.length_cons, List.length_nil, List.length_map, List.length_set, List.length_take, List.length_drop, List.length_reverse, List.length_range, Nat.zero_add, Nat.add_zero, Int.toNat_natCast, EK.sz] at *; omega))) ?_ | refine Ob.mk ?_ ?_ | refine Both.mk ?_ ?_ | refine draw_of Try.mixed Try.tyOk 60 (by kernel_rfl) ?_))
            (conv => whnf)
            refine ⟨zs, [], ⟨by rfl, ?_, ?_⟩, hm2, hs2⟩
            · simp [eqFr, eqHp, eqV, eqA, eqC, eqO, eqCs, eqAs, look_cons, look, rn, EK.cast, EK.sz, eqCaps]
            · simp [eqFr, eqHp, eqV, eqA, eqC, eqO, eqCs, eqAs, look_cons, look, rn, EK.cast, EK.sz, eqCaps]
          · (conv => whnf)
            have e : s = mid := by omega
            refine ⟨ys, [], ⟨by rfl, ?_, ?_⟩, Mv.refl _ _ _, e ▸ s1⟩
            · simp [eqFr, eqHp, eqV, eqA, eqC, eqO, eqCs, eqAs, look_cons, look, rn, EK.cast, EK.sz, eqCaps]
            · simp [eqFr, eqHp, eqV, eqA, eqC, eqO, eqCs, eqAs, look_cons, look, rn, EK.cast, EK.sz, eqCaps]
          · (conv => whnf)
            have e : s = a := by omega
            refine ⟨ys, [], ⟨by rfl, ?_, ?_⟩, Mv.refl _ _ _, e ▸ s2⟩
            · simp [eqFr, eqHp, eqV, eqA, eqC, eqO, eqCs, eqAs, look_cons, look, rn, EK.cast, EK.sz, eqCaps]
            · simp [eqFr, eqHp, eqV, eqA, eqC, eqO, eqCs, eqAs, look_cons, look, rn, EK.cast, EK.sz, eqCaps]
        · rintro zs ⟨hm2, hs2⟩
          have hzl := hm2.len
          have s3' := s3.kept hm2 (.inr (Nat.le_refl _))
          have s4' := s4.kept hm2 (.inr g3)
          refine SemC.of Try.tyOk 25 [] ?_
          repeat' (first | exact rfl | ((conv => whnf); first | refine condP_dec (fun h => absurd h (by omega)) (fun h => ?_) | refine condP_dec (fun h => ?_) (fun h => absurd h (by omega)) | refine condP_dec (fun h => ?_) (fun h => ?_) | refine condP_ndec (fun h => absurd h (by omega)) (fun h => ?_) | refine condP_ndec (fun h => ?_) (fun h => absurd h (by omega)) | refine condP_ndec (fun h => ?_) (fun h => ?_) | refine condP_beq (fun h => absurd h (by omega)) (fun h => ?_) | refine condP_beq (fun h => ?_) (fun h => absurd h (by omega)) | refine condP_beq (fun h => ?_) (fun h => ?_) | refine condP_bne (fun h => absurd h (by omega)) (fun h => ?_) | refine condP_bne (fun h => ?_) (fun h => absurd h (by omega)) | refine condP_bne (fun h => ?_) (fun h => ?_) | refine condP_mk (fun h => ?_) (fun h => ?_) | refine Ob.mk (by (first | omega | (simp only [InI, nmin, List.length_append, List.length_replicate, List.length_cons, List.length_nil, List.length_map, List.length_set, List.length_take, List.length_drop, List.length_reverse, List.length_range, Nat.zero_add, Nat.add_zero, Int.toNat_natCast, EK.sz]; omega) | (simp only [InI, nmin, List.length_append, List.length_replicate, List.length_cons, List.length_nil, List.length_map, List.length_set, List.length_take, List.length_drop, List.length_reverse, List.length_range, Nat.zero_add, Nat.add_zero, Int.toNat_natCast, EK.sz] at *; omega))) ?_ | refine Ob.mk ?_ ?_ | refine Both.mk ?_ ?_ | refine draw_of Try.mixed Try.tyOk 60 (by kernel_rfl) ?_))
          · (conv => whnf)
            refine callF (ih zs cap sp mid (mid + m - s) b (by omega) (by omega) (by omega) (by omega) (by omega) s3' s4') [0] Try.call134 rfl (by simp [eqLs, eqL, eqO, eqC, eqCs, rn, renOf, look_cons, look, EK.cast, hyl, hzl]) (by simp [appN, ptrs, eqVL, eqV, eqA, eqC, eqCs, eqAs, eqCaps, EK.sz, rn, renOf, look_cons, look, arcV, fV, hyl, hzl]) (by simp [appN, ptrs, SV.lt, SA.lt, SC.lt, arcV, fV, lenN]) ?_
            rintro _ _ ⟨us, rfl, rfl, hm3, hs3⟩
            repeat' (first | exact rfl | ((conv => whnf); first | refine condP_dec (fun h => absurd h (by omega)) (fun h => ?_) | refine condP_dec (fun h => ?_) (fun h => absurd h (by omega)) | refine condP_dec (fun h => ?_) (fun h => ?_) | refine condP_ndec (fun h => absurd h (by omega)) (fun h => ?_) | refine condP_ndec (fun h => ?_) (fun h => absurd h (by omega)) | refine condP_ndec (fun h => ?_) (fun h => ?_) | refine condP_beq (fun h => absurd h (by omega)) (fun h => ?_) | refine condP_beq (fun h => ?_) (fun h => absurd h (by omega)) | refine condP_beq (fun h => ?_) (fun h => ?_) | refine condP_bne (fun h => absurd h (by omega)) (fun h => ?_) | refine condP_bne (fun h => ?_) (fun h => absurd h (by omega)) | refine condP_bne (fun h => ?_) (fun h => ?_) | refine condP_mk (fun h => ?_) (fun h => ?_) | refine Ob.mk (by (first | omega | (simp only [InI, nmin, List.length_append, List.length_replicate, List.length_cons, List.length_nil, List.length_map, List.length_set, List.length_take, List.length_drop, List.length_reverse, List.length_range, Nat.zero_add, Nat.add_zero, Int.toNat_natCast, EK.sz]; omega) | (simp only [InI, nmin, List.length_append, List.length_replicate, List.length_cons, List.length_nil, List.length_map, List.length_set, List.length_take, List.length_drop, List.length_reverse, List.length_range, Nat.zero_add, Nat.add_zero, Int.toNat_natCast, EK.sz] at *; omega))) ?_ | refine Ob.mk ?_ ?_ | refine Both.mk ?_ ?_ | refine draw_of Try.mixed Try.tyOk 60 (by kernel_rfl) ?_))
            (conv => whnf)
            exact ⟨[], [(0, .arr true 47 .arc us sp)], 1, .u, ⟨by rfl, trivial, by simp [eqFr, eqHp, eqV, eqA, eqC, eqO, eqCs, eqAs, look_cons, look, rn, EK.cast, EK.sz, eqCaps]⟩, by simp [eqV, eqAs], us, rfl, rfl, hm.trans ((hm2.wide (Nat.le_refl _) (by omega)).trans (hm3.wide (by omega) (Nat.le_refl _))), cross_merge hc hm2 hs2 hm3 hs3⟩
          · (conv => whnf)
            have e : mid + m - s = b := by omega
            exact ⟨[], [(0, .arr true 47 .arc zs sp)], 1, .u, ⟨by rfl, trivial, by simp [eqFr, eqHp, eqV, eqA, eqC, eqO, eqCs, eqAs, look_cons, look, rn, EK.cast, EK.sz, eqCaps]⟩, by simp [eqV, eqAs], zs, rfl, rfl, hm.trans (hm2.wide (Nat.le_refl _) (by omega)), cross_merge hc hm2 hs2 (Mv.refl _ _ _) (e ▸ s3')⟩
          · (conv => whnf)
            have e : mid + m - s = mid := by omega
            exact ⟨[], [(0, .arr true 47 .arc zs sp)], 1, .u, ⟨by rfl, trivial, by simp [eqFr, eqHp, eqV, eqA, eqC, eqO, eqCs, eqAs, look_cons, look, rn, EK.cast, EK.sz, eqCaps]⟩, by simp [eqV, eqAs], zs, rfl, rfl, hm.trans (hm2.wide (Nat.le_refl _) (by omega)), cross_merge hc hm2 hs2 (Mv.refl _ _ _) (e ▸ s4')⟩
end Go.Fw

namespace Go.Fw
open Go Go.Proofs

set_option maxHeartbeats 8000000 in
set_option maxRecDepth 20000 in
theorem stable_c (xs : List Arc) (cap sp : Nat) (hl : xs.length ≤ 1000000) : Ct Try.prog 126 [.c (.sl 0 5 0 xs.length cap), .i xs.length, .c (.fn 115 [])] [] [(0, .arr true 47 .arc xs sp)] 1
    (fun v s => ∃ ys, v = .u ∧ s = ⟨[], [(0, .arr true 47 .arc ys sp)], 1⟩ ∧ Mv aD 0 xs.length xs ys ∧ SrtOn aD ltW 0 xs.length ys) := by
  obtain ⟨n, hn⟩ : ∃ n, n = xs.length := ⟨_, rfl⟩
  rw [← hn] at hl ⊢
  refine ctW Try.tyOk 10 [] Try.func126 rfl (by simp [SV.lt, SA.lt, SC.lt, arcV, fV]) (by simp) (fr := [(0, .c (.sl 0 5 0 n cap)), (1, .i n), (2, .c (.fn 115 []))]) rfl ?_
  repeat' (first | exact rfl | ((conv => whnf); first | refine condP_dec (fun h => absurd h (by omega)) (fun h => ?_) | refine condP_dec (fun h => ?_) (fun h => absurd h (by omega)) | refine condP_dec (fun h => ?_) (fun h => ?_) | refine condP_ndec (fun h => absurd h (by omega)) (fun h => ?_) | refine condP_ndec (fun h => ?_) (fun h => absurd h (by omega)) | refine condP_ndec (fun h => ?_) (fun h => ?_) | refine condP_beq (fun h => absurd h (by omega)) (fun h => ?_) | refine condP_beq (fun h => ?_) (fun h => absurd h (by omega)) | refine condP_beq (fun h => ?_) (fun h => ?_) | refine condP_bne (fun h => absurd h (by omega)) (fun h => ?_) | refine condP_bne (fun h => ?_) (fun h => absurd h (by omega)) | refine condP_bne (fun h => ?_) (fun h => ?_) | refine condP_mk (fun h => ?_) (fun h => ?_) | refine Ob.mk (by (first | omega | (simp only [InI, nmin, List.length_append, List.length_replicate, List.length_cons, List.length_nil, List.length_map, List.length_set, List.length_take, List.length_drop, List.length_reverse, List.length_range, Nat.zero_add, Nat.add_zero, Int.toNat_natCast, EK.sz]; omega) | (simp only [InI, nmin, List.length_append, List.length_replicate, List.length_cons, List.length_nil, List.length_map, List.length_set, List.length_take, List.length_drop, List.length_reverse, List.length_range, Nat.zero_add, Nat.add_zero, Int.toNat_natCast, EK.sz] at *; omega))) ?_ | refine Ob.mk ?_ ?_ | refine Both.mk ?_ ?_ | refine draw_of Try.mixed Try.tyOk 60 (by kernel_rfl) ?_))
  (conv => whnf)
  refine loopI (fun y : Nat × List Arc => ⟨[(0, .c (.sl 0 5 0 n cap)), (1, .i n), (2, .c (.fn 115 [])), (6, .i 20), (7, .i y.1), (8, .i (y.1 + 20 : Nat))], [(0, .arr true 47 .arc y.2 sp)], 1⟩)
    (fun y => y.1 ≤ n ∧ UpTo aD ltW 20 y.1 y.2 ∧ Mv aD 0 n xs y.2) (fun y => n - y.1) (0, xs) [] ⟨by rfl, ?_, ?_⟩ ⟨Nat.zero_le _, UpTo.zero _ _, Mv.refl _ _ _⟩ ?_
  · simp [eqFr, eqHp, eqV, eqA, eqC, eqO, eqCs, eqAs, look_cons, look, rn, EK.cast, EK.sz, eqCaps]
  · simp [eqFr, eqHp, eqV, eqA, eqC, eqO, eqCs, eqAs, look_cons, look, rn, EK.cast, EK.sz, eqCaps]
  · rintro ⟨a, ys⟩ ⟨ha, hu, hm⟩
    simp only at ha hu hm ⊢
    have hyl := hm.len
    repeat' (first | exact rfl | ((conv => whnf); first | refine condP_dec (fun h => absurd h (by omega)) (fun h => ?_) | refine condP_dec (fun h => ?_) (fun h => absurd h (by omega)) | refine condP_dec (fun h => ?_) (fun h => ?_) | refine condP_ndec (fun h => absurd h (by omega)) (fun h => ?_) | refine condP_ndec (fun h => ?_) (fun h => absurd h (by omega)) | refine condP_ndec (fun h => ?_) (fun h => ?_) | refine condP_beq (fun h => absurd h (by omega)) (fun h => ?_) | refine condP_beq (fun h => ?_) (fun h => absurd h (by omega)) | refine condP_beq (fun h => ?_) (fun h => ?_) | refine condP_bne (fun h => absurd h (by omega)) (fun h => ?_) | refine condP_bne (fun h => ?_) (fun h => absurd h (by omega)) | refine condP_bne (fun h => ?_) (fun h => ?_) | refine condP_mk (fun h => ?_) (fun h => ?_) | refine Ob.mk (by (first | omega | (simp only [InI, nmin, List.length_append, List.length_replicate, List.length_cons, List.length_nil, List.length_map, List.length_set, List.length_take, List.length_drop, List.length_reverse, List.length_range, Nat.zero_add, Nat.add_zero, Int.toNat_natCast, EK.sz]; omega) | (simp only [InI, nmin, List.length_append, List.length_replicate, List.length_cons, List.length_nil, List.length_map, List.length_set, List.length_take, List.length_drop, List.length_reverse, List.length_range, Nat.zero_add, Nat.add_zero, Int.toNat_natCast, EK.sz] at *; omega))) ?_ | refine Ob.mk ?_ ?_ | refine Both.mk ?_ ?_ | refine draw_of Try.mixed Try.tyOk 60 (by kernel_rfl) ?_))
    · (conv => whnf)
      refine callF (insertion_c ys cap sp a (a + 20) (by omega) (by omega) (by omega)) [0] Try.call133 rfl (by simp [eqLs, eqL, eqO, eqC, eqCs, rn, renOf, look_cons, look, EK.cast, hyl, hn]) (by simp [appN, ptrs, eqVL, eqV, eqA, eqC, eqCs, eqAs, eqCaps, EK.sz, rn, renOf, look_cons, look, arcV, fV, hyl, hn]) (by simp [appN, ptrs, SV.lt, SA.lt, SC.lt, arcV, fV, lenN]) ?_
      rintro _ _ ⟨zs, rfl, rfl, hm2, hs2⟩
      repeat' (first | exact rfl | ((conv => whnf); first | refine condP_dec (fun h => absurd h (by omega)) (fun h => ?_) | refine condP_dec (fun h => ?_) (fun h => absurd h (by omega)) | refine condP_dec (fun h => ?_) (fun h => ?_) | refine condP_ndec (fun h => absurd h (by omega)) (fun h => ?_) | refine condP_ndec (fun h => ?_) (fun h => absurd h (by omega)) | refine condP_ndec (fun h => ?_) (fun h => ?_) | refine condP_beq (fun h => absurd h (by omega)) (fun h => ?_) | refine condP_beq (fun h => ?_) (fun h => absurd h (by omega)) | refine condP_beq (fun h => ?_) (fun h => ?_) | refine condP_bne (fun h => absurd h (by omega)) (fun h => ?_) | refine condP_bne (fun h => ?_) (fun h => absurd h (by omega)) | refine condP_bne (fun h => ?_) (fun h => ?_) | refine condP_mk (fun h => ?_) (fun h => ?_) | refine Ob.mk (by (first | omega | (simp only [InI, nmin, List.length_append, List.length_replicate, List.length_cons, List.length_nil, List.length_map, List.length_set, List.length_take, List.length_drop, List.length_reverse, List.length_range, Nat.zero_add, Nat.add_zero, Int.toNat_natCast, EK.sz]; omega) | (simp only [InI, nmin, List.length_append, List.length_replicate, List.length_cons, List.length_nil, List.length_map, List.length_set, List.length_take, List.length_drop, List.length_reverse, List.length_range, Nat.zero_add, Nat.add_zero, Int.toNat_natCast, EK.sz] at *; omega))) ?_ | refine Ob.mk ?_ ?_ | refine Both.mk ?_ ?_ | refine draw_of Try.mixed Try.tyOk 60 (by kernel_rfl) ?_))
      (conv => whnf)
      refine ⟨(a + 20, zs), [], ⟨by rfl, ?_, ?_⟩, ⟨by simp only; omega, hu.next hm2 hs2, hm.trans (hm2.wide (Nat.zero_le _) (by omega))⟩, by simp only; omega⟩
      · simp [eqFr, eqHp, eqV, eqA, eqC, eqO, eqCs, eqAs, look_cons, look, rn, EK.cast, EK.sz, eqCaps]
      · simp [eqFr, eqHp, eqV, eqA, eqC, eqO, eqCs, eqAs, look_cons, look, rn, EK.cast, EK.sz, eqCaps]
    · (conv => whnf)
      refine callF (insertion_c ys cap sp a n (by omega) (by omega) (by omega)) [0] Try.call133 rfl (by simp [eqLs, eqL, eqO, eqC, eqCs, rn, renOf, look_cons, look, EK.cast, hyl, hn]) (by simp [appN, ptrs, eqVL, eqV, eqA, eqC, eqCs, eqAs, eqCaps, EK.sz, rn, renOf, look_cons, look, arcV, fV, hyl, hn]) (by simp [appN, ptrs, SV.lt, SA.lt, SC.lt, arcV, fV, lenN]) ?_
      rintro _ _ ⟨zs, rfl, rfl, hm2, hs2⟩
      have hal := hu.done ha (by omega) hm2 hs2
      have hm3 := hm.trans (hm2.wide (Nat.zero_le _) (Nat.le_refl _))
      clear hm2 hs2 hu hm
      repeat' (first | exact rfl | ((conv => whnf); first | refine condP_dec (fun h => absurd h (by omega)) (fun h => ?_) | refine condP_dec (fun h => ?_) (fun h => absurd h (by omega)) | refine condP_dec (fun h => ?_) (fun h => ?_) | refine condP_ndec (fun h => absurd h (by omega)) (fun h => ?_) | refine condP_ndec (fun h => ?_) (fun h => absurd h (by omega)) | refine condP_ndec (fun h => ?_) (fun h => ?_) | refine condP_beq (fun h => absurd h (by omega)) (fun h => ?_) | refine condP_beq (fun h => ?_) (fun h => absurd h (by omega)) | refine condP_beq (fun h => ?_) (fun h => ?_) | refine condP_bne (fun h => absurd h (by omega)) (fun h => ?_) | refine condP_bne (fun h => ?_) (fun h => absurd h (by omega)) | refine condP_bne (fun h => ?_) (fun h => ?_) | refine condP_mk (fun h => ?_) (fun h => ?_) | refine Ob.mk (by (first | omega | (simp only [InI, nmin, List.length_append, List.length_replicate, List.length_cons, List.length_nil, List.length_map, List.length_set, List.length_take, List.length_drop, List.length_reverse, List.length_range, Nat.zero_add, Nat.add_zero, Int.toNat_natCast, EK.sz]; omega) | (simp only [InI, nmin, List.length_append, List.length_replicate, List.length_cons, List.length_nil, List.length_map, List.length_set, List.length_take, List.length_drop, List.length_reverse, List.length_range, Nat.zero_add, Nat.add_zero, Int.toNat_natCast, EK.sz] at *; omega))) ?_ | refine Ob.mk ?_ ?_ | refine Both.mk ?_ ?_ | refine draw_of Try.mixed Try.tyOk 60 (by kernel_rfl) ?_))
      (conv => whnf)
      refine loopI (fun y : Nat × List Arc => ⟨[(0, .c (.sl 0 5 0 n cap)), (1, .i n), (2, .c (.fn 115 [])), (6, .i y.1)], [(0, .arr true 47 .arc y.2 sp)], 1⟩)
        (fun y => 1 ≤ y.1 ∧ y.1 ≤ 2 * n + 20 ∧ AllBl aD ltW y.1 n y.2 ∧ Mv aD 0 n xs y.2) (fun y => n - y.1) (20, zs) [] ⟨by rfl, ?_, ?_⟩ ⟨by simp only; omega, by simp only; omega, hal, hm3⟩ ?_
      · simp [eqFr, eqHp, eqV, eqA, eqC, eqO, eqCs, eqAs, look_cons, look, rn, EK.cast, EK.sz, eqCaps]
      · simp [eqFr, eqHp, eqV, eqA, eqC, eqO, eqCs, eqAs, look_cons, look, rn, EK.cast, EK.sz, eqCaps]
      · clear hal hm3
        rintro ⟨bs, ys⟩ ⟨hb1, hb2, hal, hm⟩
        simp only at hb1 hb2 hal hm ⊢
        repeat' (first | exact rfl | ((conv => whnf); first | refine condP_dec (fun h => absurd h (by omega)) (fun h => ?_) | refine condP_dec (fun h => ?_) (fun h => absurd h (by omega)) | refine condP_dec (fun h => ?_) (fun h => ?_) | refine condP_ndec (fun h => absurd h (by omega)) (fun h => ?_) | refine condP_ndec (fun h => ?_) (fun h => absurd h (by omega)) | refine condP_ndec (fun h => ?_) (fun h => ?_) | refine condP_beq (fun h => absurd h (by omega)) (fun h => ?_) | refine condP_beq (fun h => ?_) (fun h => absurd h (by omega)) | refine condP_beq (fun h => ?_) (fun h => ?_) | refine condP_bne (fun h => absurd h (by omega)) (fun h => ?_) | refine condP_bne (fun h => ?_) (fun h => absurd h (by omega)) | refine condP_bne (fun h => ?_) (fun h => ?_) | refine condP_mk (fun h => ?_) (fun h => ?_) | refine Ob.mk (by (first | omega | (simp only [InI, nmin, List.length_append, List.length_replicate, List.length_cons, List.length_nil, List.length_map, List.length_set, List.length_take, List.length_drop, List.length_reverse, List.length_range, Nat.zero_add, Nat.add_zero, Int.toNat_natCast, EK.sz]; omega) | (simp only [InI, nmin, List.length_append, List.length_replicate, List.length_cons, List.length_nil, List.length_map, List.length_set, List.length_take, List.length_drop, List.length_reverse, List.length_range, Nat.zero_add, Nat.add_zero, Int.toNat_natCast, EK.sz] at *; omega))) ?_ | refine Ob.mk ?_ ?_ | refine Both.mk ?_ ?_ | refine draw_of Try.mixed Try.tyOk 60 (by kernel_rfl) ?_))
        · (conv => whnf)
          refine loopI (fun y : Nat × List Arc => ⟨[(0, .c (.sl 0 5 0 n cap)), (1, .i n), (2, .c (.fn 115 [])), (6, .i bs), (7, .i y.1), (8, .i (y.1 + 2 * bs : Nat))], [(0, .arr true 47 .arc y.2 sp)], 1⟩)
            (fun y => y.1 ≤ n ∧ Half aD ltW bs n y.1 y.2 ∧ Mv aD 0 n xs y.2) (fun y => n - y.1) (0, ys) [] ⟨by rfl, ?_, ?_⟩ ⟨Nat.zero_le _, Half.zero hal, hm⟩ ?_
          · simp [eqFr, eqHp, eqV, eqA, eqC, eqO, eqCs, eqAs, look_cons, look, rn, EK.cast, EK.sz, eqCaps]
          · simp [eqFr, eqHp, eqV, eqA, eqC, eqO, eqCs, eqAs, look_cons, look, rn, EK.cast, EK.sz, eqCaps]
          · clear hal hm
            rintro ⟨a, ys⟩ ⟨ha, hh, hm⟩
            simp only at ha hh hm ⊢
            have hyl := hm.len
            have e1 : (a : Int) + bs = (a + bs : Nat) := by omega
            repeat' (first | exact rfl | ((conv => whnf); first | refine condP_dec (fun h => absurd h (by omega)) (fun h => ?_) | refine condP_dec (fun h => ?_) (fun h => absurd h (by omega)) | refine condP_dec (fun h => ?_) (fun h => ?_) | refine condP_ndec (fun h => absurd h (by omega)) (fun h => ?_) | refine condP_ndec (fun h => ?_) (fun h => absurd h (by omega)) | refine condP_ndec (fun h => ?_) (fun h => ?_) | refine condP_beq (fun h => absurd h (by omega)) (fun h => ?_) | refine condP_beq (fun h => ?_) (fun h => absurd h (by omega)) | refine condP_beq (fun h => ?_) (fun h => ?_) | refine condP_bne (fun h => absurd h (by omega)) (fun h => ?_) | refine condP_bne (fun h => ?_) (fun h => absurd h (by omega)) | refine condP_bne (fun h => ?_) (fun h => ?_) | refine condP_mk (fun h => ?_) (fun h => ?_) | refine Ob.mk (by (first | omega | (simp only [InI, nmin, List.length_append, List.length_replicate, List.length_cons, List.length_nil, List.length_map, List.length_set, List.length_take, List.length_drop, List.length_reverse, List.length_range, Nat.zero_add, Nat.add_zero, Int.toNat_natCast, EK.sz]; omega) | (simp only [InI, nmin, List.length_append, List.length_replicate, List.length_cons, List.length_nil, List.length_map, List.length_set, List.length_take, List.length_drop, List.length_reverse, List.length_range, Nat.zero_add, Nat.add_zero, Int.toNat_natCast, EK.sz] at *; omega))) ?_ | refine Ob.mk ?_ ?_ | refine Both.mk ?_ ?_ | refine draw_of Try.mixed Try.tyOk 60 (by kernel_rfl) ?_))
            · (conv => whnf)
              rw [e1]
              obtain ⟨s1, s2⟩ := hh.two (by omega)
              rw [Nat.min_eq_left (by omega)] at s2
              refine callF (symMerge_c n ys cap sp a (a + bs) (a + 2 * bs) (by omega) (by omega) (by omega) (by omega) (by omega) s1 s2) [0] Try.call134 rfl (by simp [eqLs, eqL, eqO, eqC, eqCs, rn, renOf, look_cons, look, EK.cast, hyl, hn]) (by simp [appN, ptrs, eqVL, eqV, eqA, eqC, eqCs, eqAs, eqCaps, EK.sz, rn, renOf, look_cons, look, arcV, fV, hyl, hn]) (by simp [appN, ptrs, SV.lt, SA.lt, SC.lt, arcV, fV, lenN]) ?_
              rintro _ _ ⟨zs, rfl, rfl, hm2, hs2⟩
              repeat' (first | exact rfl | ((conv => whnf); first | refine condP_dec (fun h => absurd h (by omega)) (fun h => ?_) | refine condP_dec (fun h => ?_) (fun h => absurd h (by omega)) | refine condP_dec (fun h => ?_) (fun h => ?_) | refine condP_ndec (fun h => absurd h (by omega)) (fun h => ?_) | refine condP_ndec (fun h => ?_) (fun h => absurd h (by omega)) | refine condP_ndec (fun h => ?_) (fun h => ?_) | refine condP_beq (fun h => absurd h (by omega)) (fun h => ?_) | refine condP_beq (fun h => ?_) (fun h => absurd h (by omega)) | refine condP_beq (fun h => ?_) (fun h => ?_) | refine condP_bne (fun h => absurd h (by omega)) (fun h => ?_) | refine condP_bne (fun h => ?_) (fun h => absurd h (by omega)) | refine condP_bne (fun h => ?_) (fun h => ?_) | refine condP_mk (fun h => ?_) (fun h => ?_) | refine Ob.mk (by (first | omega | (simp only [InI, nmin, List.length_append, List.length_replicate, List.length_cons, List.length_nil, List.length_map, List.length_set, List.length_take, List.length_drop, List.length_reverse, List.length_range, Nat.zero_add, Nat.add_zero, Int.toNat_natCast, EK.sz]; omega) | (simp only [InI, nmin, List.length_append, List.length_replicate, List.length_cons, List.length_nil, List.length_map, List.length_set, List.length_take, List.length_drop, List.length_reverse, List.length_range, Nat.zero_add, Nat.add_zero, Int.toNat_natCast, EK.sz] at *; omega))) ?_ | refine Ob.mk ?_ ?_ | refine Both.mk ?_ ?_ | refine draw_of Try.mixed Try.tyOk 60 (by kernel_rfl) ?_))
              (conv => whnf)
              refine ⟨(a + 2 * bs, zs), [], ⟨by rfl, ?_, ?_⟩, ⟨by simp only; omega, hh.next hm2 hs2, hm.trans (hm2.wide (Nat.zero_le _) (by omega))⟩, by simp only; omega⟩
              · simp [eqFr, eqHp, eqV, eqA, eqC, eqO, eqCs, eqAs, look_cons, look, rn, EK.cast, EK.sz, eqCaps]
              · simp [eqFr, eqHp, eqV, eqA, eqC, eqO, eqCs, eqAs, look_cons, look, rn, EK.cast, EK.sz, eqCaps]
            · (conv => whnf)
              rw [e1]
              obtain ⟨s1, s2⟩ := hh.two (by omega)
              rw [Nat.min_eq_right (by omega)] at s2
              refine callF (symMerge_c n ys cap sp a (a + bs) n (by omega) (by omega) (by omega) (by omega) (by omega) s1 s2) [0] Try.call134 rfl (by simp [eqLs, eqL, eqO, eqC, eqCs, rn, renOf, look_cons, look, EK.cast, hyl, hn]) (by simp [appN, ptrs, eqVL, eqV, eqA, eqC, eqCs, eqAs, eqCaps, EK.sz, rn, renOf, look_cons, look, arcV, fV, hyl, hn]) (by simp [appN, ptrs, SV.lt, SA.lt, SC.lt, arcV, fV, lenN]) ?_
              rintro _ _ ⟨zs, rfl, rfl, hm2, hs2⟩
              repeat' (first | exact rfl | ((conv => whnf); first | refine condP_dec (fun h => absurd h (by omega)) (fun h => ?_) | refine condP_dec (fun h => ?_) (fun h => absurd h (by omega)) | refine condP_dec (fun h => ?_) (fun h => ?_) | refine condP_ndec (fun h => absurd h (by omega)) (fun h => ?_) | refine condP_ndec (fun h => ?_) (fun h => absurd h (by omega)) | refine condP_ndec (fun h => ?_) (fun h => ?_) | refine condP_beq (fun h => absurd h (by omega)) (fun h => ?_) | refine condP_beq (fun h => ?_) (fun h => absurd h (by omega)) | refine condP_beq (fun h => ?_) (fun h => ?_) | refine condP_bne (fun h => absurd h (by omega)) (fun h => ?_) | refine condP_bne (fun h => ?_) (fun h => absurd h (by omega)) | refine condP_bne (fun h => ?_) (fun h => ?_) | refine condP_mk (fun h => ?_) (fun h => ?_) | refine Ob.mk (by (first | omega | (simp only [InI, nmin, List.length_append, List.length_replicate, List.length_cons, List.length_nil, List.length_map, List.length_set, List.length_take, List.length_drop, List.length_reverse, List.length_range, Nat.zero_add, Nat.add_zero, Int.toNat_natCast, EK.sz]; omega) | (simp only [InI, nmin, List.length_append, List.length_replicate, List.length_cons, List.length_nil, List.length_map, List.length_set, List.length_take, List.length_drop, List.length_reverse, List.length_range, Nat.zero_add, Nat.add_zero, Int.toNat_natCast, EK.sz] at *; omega))) ?_ | refine Ob.mk ?_ ?_ | refine Both.mk ?_ ?_ | refine draw_of Try.mixed Try.tyOk 60 (by kernel_rfl) ?_))
              (conv => whnf)
              refine ⟨(2 * bs, zs), [], ⟨by rfl, ?_, ?_⟩, ⟨by simp only; omega, by simp only; omega, hh.done ha (by omega) hm2 hs2, hm.trans (hm2.wide (Nat.zero_le _) (Nat.le_refl _))⟩, by simp only; omega⟩
              · simp [eqFr, eqHp, eqV, eqA, eqC, eqO, eqCs, eqAs, look_cons, look, rn, EK.cast, EK.sz, eqCaps]
                omega
              · simp [eqFr, eqHp, eqV, eqA, eqC, eqO, eqCs, eqAs, look_cons, look, rn, EK.cast, EK.sz, eqCaps]
            · (conv => whnf)
              refine ⟨(2 * bs, ys), [], ⟨by rfl, ?_, ?_⟩, ⟨by simp only; omega, by simp only; omega, hh.done ha (by omega) (Mv.refl _ _ _) (hh.low (by omega)), hm⟩, by simp only; omega⟩
              · simp [eqFr, eqHp, eqV, eqA, eqC, eqO, eqCs, eqAs, look_cons, look, rn, EK.cast, EK.sz, eqCaps]
                omega
              · simp [eqFr, eqHp, eqV, eqA, eqC, eqO, eqCs, eqAs, look_cons, look, rn, EK.cast, EK.sz, eqCaps]
        · (conv => whnf)
          exact ⟨[], [(0, .arr true 47 .arc ys sp)], 1, .u, ⟨by rfl, trivial, by simp [eqFr, eqHp, eqV, eqA, eqC, eqO, eqCs, eqAs, look_cons, look, rn, EK.cast, EK.sz, eqCaps]⟩, by simp [eqV, eqAs], ys, rfl, rfl, hm, hal.all (by omega)⟩

set_option maxHeartbeats 8000000 in
set_option maxRecDepth 20000 in
theorem sortStable_c (xs : List Arc) (cap sp : Nat) (hl : xs.length ≤ 1000000) : Ct Try.prog 114 [.c (.sl 0 5 0 xs.length cap), .c (.fn 115 [])] [] [(0, .arr true 47 .arc xs sp)] 1
    (fun v s => ∃ ys, v = .u ∧ s = ⟨[], [(0, .arr true 47 .arc ys sp)], 1⟩ ∧ Mv aD 0 xs.length xs ys ∧ SrtOn aD ltW 0 xs.length ys) := by
  refine ctW Try.tyOk 4 [] Try.func114 rfl (by simp [SV.lt, SA.lt, SC.lt, arcV, fV]) (by simp) (fr := [(0, .c (.sl 0 5 0 xs.length cap)), (1, .c (.fn 115 []))]) rfl ?_
  repeat' (first | exact rfl | ((conv => whnf); first | refine condP_dec (fun h => absurd h (by omega)) (fun h => ?_) | refine condP_dec (fun h => ?_) (fun h => absurd h (by omega)) | refine condP_dec (fun h => ?_) (fun h => ?_) | refine condP_ndec (fun h => absurd h (by omega)) (fun h => ?_) | refine condP_ndec (fun h => ?_) (fun h => absurd h (by omega)) | refine condP_ndec (fun h => ?_) (fun h => ?_) | refine condP_beq (fun h => absurd h (by omega)) (fun h => ?_) | refine condP_beq (fun h => ?_) (fun h => absurd h (by omega)) | refine condP_beq (fun h => ?_) (fun h => ?_) | refine condP_bne (fun h => absurd h (by omega)) (fun h => ?_) | refine condP_bne (fun h => ?_) (fun h => absurd h (by omega)) | refine condP_bne (fun h => ?_) (fun h => ?_) | refine condP_mk (fun h => ?_) (fun h => ?_) | refine Ob.mk (by (first | omega | (simp only [InI, nmin, List.length_append, List.length_replicate, List.length_cons, List.length_nil, List.length_map, List.length_set, List.length_take, List.length_drop, List.length_reverse, List.length_range, Nat.zero_add, Nat.add_zero, Int.toNat_natCast, EK.sz]; omega) | (simp only [InI, nmin, List.length_append, List.length_replicate, List.length_cons, List.length_nil, List.length_map, List.length_set, List.length_take, List.length_drop, List.length_reverse, List.length_range, Nat.zero_add, Nat.add_zero, Int.toNat_natCast, EK.sz] at *; omega))) ?_ | refine Ob.mk ?_ ?_ | refine Both.mk ?_ ?_ | refine draw_of Try.mixed Try.tyOk 60 (by kernel_rfl) ?_))
  (conv => whnf)
  refine callF (stable_c xs cap sp hl) [0] Try.call126 rfl (by simp [eqLs, eqL, eqO, eqC, eqCs, rn, renOf, look_cons, look, EK.cast]) (by simp [appN, ptrs, eqVL, eqV, eqA, eqC, eqCs, eqAs, eqCaps, EK.sz, rn, renOf, look_cons, look, arcV, fV]) (by simp [appN, ptrs, SV.lt, SA.lt, SC.lt, arcV, fV, lenN]) ?_
  rintro _ _ ⟨ys, rfl, rfl, hm, hs⟩
  repeat' (first | exact rfl | ((conv => whnf); first | refine condP_dec (fun h => absurd h (by omega)) (fun h => ?_) | refine condP_dec (fun h => ?_) (fun h => absurd h (by omega)) | refine condP_dec (fun h => ?_) (fun h => ?_) | refine condP_ndec (fun h => absurd h (by omega)) (fun h => ?_) | refine condP_ndec (fun h => ?_) (fun h => absurd h (by omega)) | refine condP_ndec (fun h => ?_) (fun h => ?_) | refine condP_beq (fun h => absurd h (by omega)) (fun h => ?_) | refine condP_beq (fun h => ?_) (fun h => absurd h (by omega)) | refine condP_beq (fun h => ?_) (fun h => ?_) | refine condP_bne (fun h => absurd h (by omega)) (fun h => ?_) | refine condP_bne (fun h => ?_) (fun h => absurd h (by omega)) | refine condP_bne (fun h => ?_) (fun h => ?_) | refine condP_mk (fun h => ?_) (fun h => ?_) | refine Ob.mk (by (first | omega | (simp only [InI, nmin, List.length_append, List.length_replicate, List.length_cons, List.length_nil, List.length_map, List.length_set, List.length_take, List.length_drop, List.length_reverse, List.length_range, Nat.zero_add, Nat.add_zero, Int.toNat_natCast, EK.sz]; omega) | (simp only [InI, nmin, List.length_append, List.length_replicate, List.length_cons, List.length_nil, List.length_map, List.length_set, List.length_take, List.length_drop, List.length_reverse, List.length_range, Nat.zero_add, Nat.add_zero, Int.toNat_natCast, EK.sz] at *; omega))) ?_ | refine Ob.mk ?_ ?_ | refine Both.mk ?_ ?_ | refine draw_of Try.mixed Try.tyOk 60 (by kernel_rfl) ?_))
  (conv => whnf)
  exact ⟨[], [(0, .arr true 47 .arc ys sp)], 1, .u, ⟨by rfl, trivial, by simp [eqFr, eqHp, eqV, eqA, eqC, eqO, eqCs, eqAs, look_cons, look, rn, EK.cast, EK.sz, eqCaps]⟩, by simp [eqV, eqAs], ys, rfl, rfl, hm, hs⟩
end Go.Fw
