/- Walks of the functions: what each computes. -/
import Derived.Test.YtiejplibehppnaaR15
import Derived.Test.YtiejplibehppnaaR06

set_option linter.unusedSimpArgs false
set_option linter.unusedVariables false

namespace Go.Fw
open Go Go.Proofs

def cellsAt (F : TF) (i j : Nat) : List SC := [.i F.st, .i F.start, .sl i 1 0 F.fin.length F.capF, .sl j 5 0 F.arcs.length F.capA]
abbrev hp2 (F G : TF) : List (Nat × SO) := [(0, .arr false 3 .int F.fin 0), (1, .arr false 47 .arc F.arcs 0), (2, .arr false 3 .int G.fin 0), (3, .arr false 47 .arc G.arcs 0)]
abbrev two (F G : TF) : List SC := [.i F.st, .i F.start, .sl 0 1 0 F.fin.length F.capF, .sl 1 5 0 F.arcs.length F.capA, .i G.st, .i G.start, .sl 2 1 0 G.fin.length G.capF, .sl 3 5 0 G.arcs.length G.capA]
abbrev onF (F : TF) : List SC := [.i F.st, .i F.start, .sl 0 1 0 F.fin.length F.capF, .sl 1 5 0 F.arcs.length F.capA]
def allE (F G : TF) : Int := if fstE F = 0 then fstE G else fstE F

set_option maxHeartbeats 4000000 in
set_option maxRecDepth 20000 in
theorem all2_c (F G : TF) (hF : F.fin.length ≤ 9223372036854775807) (hG : G.fin.length ≤ 9223372036854775807) : Ct Try.prog 87 [.c (.sl 4 4 0 2 2)] [] ((4, .box 25 (two F G)) :: hp2 F G) 5
    (fun v s => v = .i (allE F G) ∧ s = ⟨[], [(4, .box 25 (two F G))], 5⟩) := by
  refine ctW Try.tyOk 6 [6, 7, 8] Try.func87 rfl (by simp [SV.lt, SA.lt, SC.lt, arcV, fV]) (by simp) (fr := [(0, .c (.sl 4 4 0 2 2))]) rfl ?_
  repeat' (first | exact rfl | ((conv => whnf); first | ((first | refine qA (fun h => ?_) fun h => ?_ | refine qN (fun h => ?_) fun h => ?_ | refine qB (fun h => ?_) fun h => ?_ | refine qC (fun h => ?_) fun h => ?_) <;> try exact absurd h (by omega)) | refine qM (fun h => ?_) fun h => ?_ | refine oM (by (first | omega | (simp only [lenS, InI, nmin, EK.sz]; omega) | (simp only [lenS, InI, nmin, EK.sz] at *; omega))) ?_ | refine oM ?_ ?_ | refine bM ?_ ?_ | refine draw_of Try.mixed Try.tyOk 60 (by kernel_rfl) ?_))
  (conv => whnf)
  refine loopI (fun k : Nat => ⟨[(0, .c (.sl 4 4 0 2 2)), (2, .i 0), (6, .c (.sl 4 4 0 2 2)), (7, .i 2), (8, .i k)], (4, .box 25 (two F G)) :: hp2 F G, 5⟩)
    (fun k => k ≤ 2 ∧ (1 ≤ k → fstE F = 0) ∧ (2 ≤ k → fstE G = 0)) (fun k => 2 - k) 0 [] ⟨by rfl, ?_, ?_⟩ ⟨by omega, by omega, by omega⟩ ?_
  · simp [eqFr, eqHp, eqV, eqA, eqC, eqO, eqCs, eqAs, look_cons, look, rn, EK.cast, EK.sz, eqCaps]
  · simp [eqFr, eqHp, eqV, eqA, eqC, eqO, eqCs, eqAs, look_cons, look, rn, EK.cast, EK.sz, eqCaps]
  · rintro k ⟨hk, h1, h2⟩
    rcases (by omega : k = 0 ∨ k = 1 ∨ k = 2) with rfl | rfl | rfl
    · repeat' (first | exact rfl | ((conv => whnf); first | ((first | refine qA (fun h => ?_) fun h => ?_ | refine qN (fun h => ?_) fun h => ?_ | refine qB (fun h => ?_) fun h => ?_ | refine qC (fun h => ?_) fun h => ?_) <;> try exact absurd h (by omega)) | refine qM (fun h => ?_) fun h => ?_ | refine oM (by (first | omega | (simp only [lenS, InI, nmin, EK.sz]; omega) | (simp only [lenS, InI, nmin, EK.sz] at *; omega))) ?_ | refine oM ?_ ?_ | refine bM ?_ ?_ | refine draw_of Try.mixed Try.tyOk 60 (by kernel_rfl) ?_ | intro _))
      (conv => whnf)
      refine callF (check_c F hF) [0, 1] Try.call60 rfl (by simp [eqLs, eqL, eqO, eqC, eqCs, rn, renOf, look_cons, look, EK.cast]) (by simp [appN, ptrs, eqVL, eqV, eqA, eqC, eqCs, eqAs, eqCaps, EK.sz, rn, renOf, look_cons, look, arcV, fV]) (by simp [appN, ptrs, SV.lt, SA.lt, SC.lt, arcV, fV, lenN]) ?_
      rintro _ _ ⟨rfl, rfl⟩
      repeat' (first | exact rfl | ((conv => whnf); first | ((first | refine qA (fun h => ?_) fun h => ?_ | refine qN (fun h => ?_) fun h => ?_ | refine qB (fun h => ?_) fun h => ?_ | refine qC (fun h => ?_) fun h => ?_) <;> try exact absurd h (by omega)) | refine qM (fun h => ?_) fun h => ?_ | refine oM (by (first | omega | (simp only [lenS, InI, nmin, EK.sz]; omega) | (simp only [lenS, InI, nmin, EK.sz] at *; omega))) ?_ | refine oM ?_ ?_ | refine bM ?_ ?_ | refine draw_of Try.mixed Try.tyOk 60 (by kernel_rfl) ?_ | intro _))
      · (conv => whnf)
        refine ⟨[], [(4, .box 25 (two F G))], 5, .i (allE F G), ⟨by rfl, trivial, by simp [eqFr, eqHp, eqV, eqA, eqC, eqO, eqCs, eqAs, look_cons, look, rn, EK.cast, EK.sz, eqCaps]⟩, ?_, rfl, rfl⟩
        simp [eqV, eqA, eqC, allE, h]
      · (conv => whnf)
        refine ⟨1, [], ⟨by rfl, ?_, ?_⟩, ⟨by omega, fun _ => h, fun _ => absurd ‹_› (by omega)⟩, by omega⟩
        · simp [eqFr, eqHp, eqV, eqA, eqC, eqO, eqCs, eqAs, look_cons, look, rn, EK.cast, EK.sz, eqCaps]
        · simp [eqFr, eqHp, eqV, eqA, eqC, eqO, eqCs, eqAs, look_cons, look, rn, EK.cast, EK.sz, eqCaps]
    · have g1 := h1 (by omega)
      repeat' (first | exact rfl | ((conv => whnf); first | ((first | refine qA (fun h => ?_) fun h => ?_ | refine qN (fun h => ?_) fun h => ?_ | refine qB (fun h => ?_) fun h => ?_ | refine qC (fun h => ?_) fun h => ?_) <;> try exact absurd h (by omega)) | refine qM (fun h => ?_) fun h => ?_ | refine oM (by (first | omega | (simp only [lenS, InI, nmin, EK.sz]; omega) | (simp only [lenS, InI, nmin, EK.sz] at *; omega))) ?_ | refine oM ?_ ?_ | refine bM ?_ ?_ | refine draw_of Try.mixed Try.tyOk 60 (by kernel_rfl) ?_ | intro _))
      (conv => whnf)
      refine callF (check_c G hG) [2, 3] Try.call60 rfl (by simp [eqLs, eqL, eqO, eqC, eqCs, rn, renOf, look_cons, look, EK.cast]) (by simp [appN, ptrs, eqVL, eqV, eqA, eqC, eqCs, eqAs, eqCaps, EK.sz, rn, renOf, look_cons, look, arcV, fV]) (by simp [appN, ptrs, SV.lt, SA.lt, SC.lt, arcV, fV, lenN]) ?_
      rintro _ _ ⟨rfl, rfl⟩
      repeat' (first | exact rfl | ((conv => whnf); first | ((first | refine qA (fun h => ?_) fun h => ?_ | refine qN (fun h => ?_) fun h => ?_ | refine qB (fun h => ?_) fun h => ?_ | refine qC (fun h => ?_) fun h => ?_) <;> try exact absurd h (by omega)) | refine qM (fun h => ?_) fun h => ?_ | refine oM (by (first | omega | (simp only [lenS, InI, nmin, EK.sz]; omega) | (simp only [lenS, InI, nmin, EK.sz] at *; omega))) ?_ | refine oM ?_ ?_ | refine bM ?_ ?_ | refine draw_of Try.mixed Try.tyOk 60 (by kernel_rfl) ?_ | intro _))
      · (conv => whnf)
        refine ⟨[], [(4, .box 25 (two F G))], 5, .i (allE F G), ⟨by rfl, trivial, by simp [eqFr, eqHp, eqV, eqA, eqC, eqO, eqCs, eqAs, look_cons, look, rn, EK.cast, EK.sz, eqCaps]⟩, ?_, rfl, rfl⟩
        simp [eqV, eqA, eqC, allE, g1, h]
      · (conv => whnf)
        refine ⟨2, [], ⟨by rfl, ?_, ?_⟩, ⟨by omega, fun _ => g1, fun _ => h⟩, by omega⟩
        · simp [eqFr, eqHp, eqV, eqA, eqC, eqO, eqCs, eqAs, look_cons, look, rn, EK.cast, EK.sz, eqCaps]
        · simp [eqFr, eqHp, eqV, eqA, eqC, eqO, eqCs, eqAs, look_cons, look, rn, EK.cast, EK.sz, eqCaps]
    · have g1 := h1 (by omega)
      have g2 := h2 (by omega)
      repeat' (first | exact rfl | ((conv => whnf); first | ((first | refine qA (fun h => ?_) fun h => ?_ | refine qN (fun h => ?_) fun h => ?_ | refine qB (fun h => ?_) fun h => ?_ | refine qC (fun h => ?_) fun h => ?_) <;> try exact absurd h (by omega)) | refine qM (fun h => ?_) fun h => ?_ | refine oM (by (first | omega | (simp only [lenS, InI, nmin, EK.sz]; omega) | (simp only [lenS, InI, nmin, EK.sz] at *; omega))) ?_ | refine oM ?_ ?_ | refine bM ?_ ?_ | refine draw_of Try.mixed Try.tyOk 60 (by kernel_rfl) ?_ | intro _))
      (conv => whnf)
      refine ⟨[], [(4, .box 25 (two F G))], 5, .i (allE F G), ⟨by rfl, trivial, by simp [eqFr, eqHp, eqV, eqA, eqC, eqO, eqCs, eqAs, look_cons, look, rn, EK.cast, EK.sz, eqCaps]⟩, ?_, rfl, rfl⟩
      simp [eqV, eqA, eqC, allE, g1, g2]

set_option maxHeartbeats 4000000 in
set_option maxRecDepth 20000 in
theorem all1_c (F : TF) (hF : F.fin.length ≤ 9223372036854775807) : Ct Try.prog 87 [.c (.sl 2 4 0 1 1)] [] ((2, .box 25 (onF F)) :: hpF F) 3
    (fun v s => v = .i (fstE F) ∧ s = ⟨[], [(2, .box 25 (onF F))], 3⟩) := by
  refine ctW Try.tyOk 6 [6, 7, 8] Try.func87 rfl (by simp [SV.lt, SA.lt, SC.lt, arcV, fV]) (by simp) (fr := [(0, .c (.sl 2 4 0 1 1))]) rfl ?_
  repeat' (first | exact rfl | ((conv => whnf); first | ((first | refine qA (fun h => ?_) fun h => ?_ | refine qN (fun h => ?_) fun h => ?_ | refine qB (fun h => ?_) fun h => ?_ | refine qC (fun h => ?_) fun h => ?_) <;> try exact absurd h (by omega)) | refine qM (fun h => ?_) fun h => ?_ | refine oM (by (first | omega | (simp only [lenS, InI, nmin, EK.sz]; omega) | (simp only [lenS, InI, nmin, EK.sz] at *; omega))) ?_ | refine oM ?_ ?_ | refine bM ?_ ?_ | refine draw_of Try.mixed Try.tyOk 60 (by kernel_rfl) ?_))
  (conv => whnf)
  refine loopI (fun k : Nat => ⟨[(0, .c (.sl 2 4 0 1 1)), (2, .i 0), (6, .c (.sl 2 4 0 1 1)), (7, .i 1), (8, .i k)], (2, .box 25 (onF F)) :: hpF F, 3⟩)
    (fun k => k ≤ 1 ∧ (1 ≤ k → fstE F = 0)) (fun k => 1 - k) 0 [] ⟨by rfl, ?_, ?_⟩ ⟨by omega, by omega⟩ ?_
  · simp [eqFr, eqHp, eqV, eqA, eqC, eqO, eqCs, eqAs, look_cons, look, rn, EK.cast, EK.sz, eqCaps]
  · simp [eqFr, eqHp, eqV, eqA, eqC, eqO, eqCs, eqAs, look_cons, look, rn, EK.cast, EK.sz, eqCaps]
  · rintro k ⟨hk, h1⟩
    rcases (by omega : k = 0 ∨ k = 1) with rfl | rfl
    · repeat' (first | exact rfl | ((conv => whnf); first | ((first | refine qA (fun h => ?_) fun h => ?_ | refine qN (fun h => ?_) fun h => ?_ | refine qB (fun h => ?_) fun h => ?_ | refine qC (fun h => ?_) fun h => ?_) <;> try exact absurd h (by omega)) | refine qM (fun h => ?_) fun h => ?_ | refine oM (by (first | omega | (simp only [lenS, InI, nmin, EK.sz]; omega) | (simp only [lenS, InI, nmin, EK.sz] at *; omega))) ?_ | refine oM ?_ ?_ | refine bM ?_ ?_ | refine draw_of Try.mixed Try.tyOk 60 (by kernel_rfl) ?_ | intro _))
      (conv => whnf)
      refine callF (check_c F hF) [0, 1] Try.call60 rfl (by simp [eqLs, eqL, eqO, eqC, eqCs, rn, renOf, look_cons, look, EK.cast]) (by simp [appN, ptrs, eqVL, eqV, eqA, eqC, eqCs, eqAs, eqCaps, EK.sz, rn, renOf, look_cons, look, arcV, fV]) (by simp [appN, ptrs, SV.lt, SA.lt, SC.lt, arcV, fV, lenN]) ?_
      rintro _ _ ⟨rfl, rfl⟩
      repeat' (first | exact rfl | ((conv => whnf); first | ((first | refine qA (fun h => ?_) fun h => ?_ | refine qN (fun h => ?_) fun h => ?_ | refine qB (fun h => ?_) fun h => ?_ | refine qC (fun h => ?_) fun h => ?_) <;> try exact absurd h (by omega)) | refine qM (fun h => ?_) fun h => ?_ | refine oM (by (first | omega | (simp only [lenS, InI, nmin, EK.sz]; omega) | (simp only [lenS, InI, nmin, EK.sz] at *; omega))) ?_ | refine oM ?_ ?_ | refine bM ?_ ?_ | refine draw_of Try.mixed Try.tyOk 60 (by kernel_rfl) ?_ | intro _))
      · (conv => whnf)
        refine ⟨[], [(2, .box 25 (onF F))], 3, .i (fstE F), ⟨by rfl, trivial, by simp [eqFr, eqHp, eqV, eqA, eqC, eqO, eqCs, eqAs, look_cons, look, rn, EK.cast, EK.sz, eqCaps]⟩, ?_, rfl, rfl⟩
        simp [eqV, eqA, eqC, allE, h]
      · (conv => whnf)
        refine ⟨1, [], ⟨by rfl, ?_, ?_⟩, ⟨by omega, fun _ => h⟩, by omega⟩
        · simp [eqFr, eqHp, eqV, eqA, eqC, eqO, eqCs, eqAs, look_cons, look, rn, EK.cast, EK.sz, eqCaps]
        · simp [eqFr, eqHp, eqV, eqA, eqC, eqO, eqCs, eqAs, look_cons, look, rn, EK.cast, EK.sz, eqCaps]
    · have g1 := h1 (by omega)
      repeat' (first | exact rfl | ((conv => whnf); first | ((first | refine qA (fun h => ?_) fun h => ?_ | refine qN (fun h => ?_) fun h => ?_ | refine qB (fun h => ?_) fun h => ?_ | refine qC (fun h => ?_) fun h => ?_) <;> try exact absurd h (by omega)) | refine qM (fun h => ?_) fun h => ?_ | refine oM (by (first | omega | (simp only [lenS, InI, nmin, EK.sz]; omega) | (simp only [lenS, InI, nmin, EK.sz] at *; omega))) ?_ | refine oM ?_ ?_ | refine bM ?_ ?_ | refine draw_of Try.mixed Try.tyOk 60 (by kernel_rfl) ?_ | intro _))
      (conv => whnf)
      refine ⟨[], [(2, .box 25 (onF F))], 3, .i (fstE F), ⟨by rfl, trivial, by simp [eqFr, eqHp, eqV, eqA, eqC, eqO, eqCs, eqAs, look_cons, look, rn, EK.cast, EK.sz, eqCaps]⟩, ?_, rfl, rfl⟩
      simp [eqV, eqA, eqC, allE, g1]

def readyE (e st ar : Int) : Int := if e ≠ 0 then e else if 198 < st ∨ 2500 < ar then 2 else 0
theorem allE_ok {F G : TF} (h : allE F G = 0) : fstE F = 0 ∧ fstE G = 0 := by
  unfold allE at h
  split at h
  · exact ⟨by assumption, h⟩
  · exact absurd h (by assumption)

set_option maxHeartbeats 4000000 in
set_option maxRecDepth 20000 in
theorem ready2_c (F G : TF) (hF : F.fin.length ≤ 9223372036854775807) (hG : G.fin.length ≤ 9223372036854775807) : Ct Try.prog 78 [.c (.sl 4 4 0 2 2)] [] ((4, .box 25 (two F G)) :: hp2 F G) 5 (Is 5 (.i (readyE (allE F G) (F.st + G.st) ((F.arcs.length : Int) + (G.arcs.length : Int))))) := by
  refine ctW Try.tyOk 8 [13, 14, 15] Try.func78 rfl (by simp [SV.lt, SA.lt, SC.lt, arcV, fV]) (by simp) (fr := [(0, .c (.sl 4 4 0 2 2))]) rfl ?_
  repeat' (first | exact rfl | ((conv => whnf); first | ((first | refine qA (fun h => ?_) fun h => ?_ | refine qN (fun h => ?_) fun h => ?_ | refine qB (fun h => ?_) fun h => ?_ | refine qC (fun h => ?_) fun h => ?_) <;> try exact absurd h (by omega)) | refine qM (fun h => ?_) fun h => ?_ | refine oM (by (first | omega | (simp only [lenS, InI, nmin, EK.sz]; omega) | (simp only [lenS, InI, nmin, EK.sz] at *; omega))) ?_ | refine oM ?_ ?_ | refine bM ?_ ?_ | refine draw_of Try.mixed Try.tyOk 60 (by kernel_rfl) ?_))
  (conv => whnf)
  refine callF (all2_c F G hF hG) [0, 1, 2, 3, 4] Try.call87 rfl (by simp [eqLs, eqL, eqO, eqC, eqCs, rn, renOf, look_cons, look, EK.cast]) (by simp [appN, ptrs, eqVL, eqV, eqA, eqC, eqCs, eqAs, eqCaps, EK.sz, rn, renOf, look_cons, look, arcV, fV]) (by simp [appN, ptrs, SV.lt, SA.lt, SC.lt, arcV, fV, lenN]) ?_
  rintro _ _ ⟨rfl, rfl⟩
  repeat' (first | exact rfl | ((conv => whnf); first | ((first | refine qA (fun h => ?_) fun h => ?_ | refine qN (fun h => ?_) fun h => ?_ | refine qB (fun h => ?_) fun h => ?_ | refine qC (fun h => ?_) fun h => ?_) <;> try exact absurd h (by omega)) | refine qM (fun h => ?_) fun h => ?_ | refine oM (by (first | omega | (simp only [lenS, InI, nmin, EK.sz]; omega) | (simp only [lenS, InI, nmin, EK.sz] at *; omega))) ?_ | refine oM ?_ ?_ | refine bM ?_ ?_ | refine draw_of Try.mixed Try.tyOk 60 (by kernel_rfl) ?_ | intro _))
  · (conv => whnf)
    refine Back.is ?_
    simp [eqV, eqA, eqC, readyE, h]
  · obtain ⟨hF0, hG0⟩ := allE_ok h
    have Fst := (fstE_ok hF0).st
    have Fal := (fstE_ok hF0).arcl
    have Gst := (fstE_ok hG0).st
    have Gal := (fstE_ok hG0).arcl
    (conv => whnf)
    refine loopI (fun x : Nat × Int × Int => ⟨[(0, .c (.sl 4 4 0 2 2)), (2, .i 0), (4, .i x.2.1), (5, .i x.2.2), (13, .c (.sl 4 4 0 2 2)), (14, .i 2), (15, .i x.1)], (4, .box 25 (two F G)) :: hp2 F G, 5⟩)
      (fun x => x.1 ≤ 2 ∧ (x.1 = 0 → x.2.1 = 0 ∧ x.2.2 = 0) ∧ (x.1 = 1 → x.2.1 = F.st ∧ x.2.2 = (F.arcs.length : Int)) ∧ (x.1 = 2 → x.2.1 = F.st + G.st ∧ x.2.2 = (F.arcs.length : Int) + (G.arcs.length : Int))) (fun x => 2 - x.1) (0, 0, 0) [] ⟨by rfl, ?_, ?_⟩ (by simp) ?_
    · simp [eqFr, eqHp, eqV, eqA, eqC, eqO, eqCs, eqAs, look_cons, look, rn, EK.cast, EK.sz, eqCaps]
    · simp [eqFr, eqHp, eqV, eqA, eqC, eqO, eqCs, eqAs, look_cons, look, rn, EK.cast, EK.sz, eqCaps]
    · rintro ⟨k, u, w⟩ ⟨hk, h0, h1, h2⟩
      simp only at hk h0 h1 h2 ⊢
      rcases (by omega : k = 0 ∨ k = 1 ∨ k = 2) with rfl | rfl | rfl
      · obtain ⟨rfl, rfl⟩ := h0 rfl
        repeat' (first | exact rfl | ((conv => whnf); first | ((first | refine qA (fun h => ?_) fun h => ?_ | refine qN (fun h => ?_) fun h => ?_ | refine qB (fun h => ?_) fun h => ?_ | refine qC (fun h => ?_) fun h => ?_) <;> try exact absurd h (by omega)) | refine qM (fun h => ?_) fun h => ?_ | refine oM (by (first | omega | (simp only [lenS, InI, nmin, EK.sz]; omega) | (simp only [lenS, InI, nmin, EK.sz] at *; omega))) ?_ | refine oM ?_ ?_ | refine bM ?_ ?_ | refine draw_of Try.mixed Try.tyOk 60 (by kernel_rfl) ?_ | intro _))
        (conv => whnf)
        refine ⟨(1, F.st, (F.arcs.length : Int)), [], ⟨by rfl, ?_, ?_⟩, by simp, by simp⟩
        · simp [eqFr, eqHp, eqV, eqA, eqC, eqO, eqCs, eqAs, look_cons, look, rn, EK.cast, EK.sz, eqCaps]
        · simp [eqFr, eqHp, eqV, eqA, eqC, eqO, eqCs, eqAs, look_cons, look, rn, EK.cast, EK.sz, eqCaps]
      · obtain ⟨rfl, rfl⟩ := h1 rfl
        repeat' (first | exact rfl | ((conv => whnf); first | ((first | refine qA (fun h => ?_) fun h => ?_ | refine qN (fun h => ?_) fun h => ?_ | refine qB (fun h => ?_) fun h => ?_ | refine qC (fun h => ?_) fun h => ?_) <;> try exact absurd h (by omega)) | refine qM (fun h => ?_) fun h => ?_ | refine oM (by (first | omega | (simp only [lenS, InI, nmin, EK.sz]; omega) | (simp only [lenS, InI, nmin, EK.sz] at *; omega))) ?_ | refine oM ?_ ?_ | refine bM ?_ ?_ | refine draw_of Try.mixed Try.tyOk 60 (by kernel_rfl) ?_ | intro _))
        (conv => whnf)
        refine ⟨(2, F.st + G.st, (F.arcs.length : Int) + (G.arcs.length : Int)), [], ⟨by rfl, ?_, ?_⟩, by simp, by simp⟩
        · simp [eqFr, eqHp, eqV, eqA, eqC, eqO, eqCs, eqAs, look_cons, look, rn, EK.cast, EK.sz, eqCaps]
        · simp [eqFr, eqHp, eqV, eqA, eqC, eqO, eqCs, eqAs, look_cons, look, rn, EK.cast, EK.sz, eqCaps]
      · obtain ⟨rfl, rfl⟩ := h2 rfl
        repeat' (first | exact rfl | ((conv => whnf); first | ((first | refine qA (fun h => ?_) fun h => ?_ | refine qN (fun h => ?_) fun h => ?_ | refine qB (fun h => ?_) fun h => ?_ | refine qC (fun h => ?_) fun h => ?_) <;> try exact absurd h (by omega)) | refine qM (fun h => ?_) fun h => ?_ | refine oM (by (first | omega | (simp only [lenS, InI, nmin, EK.sz]; omega) | (simp only [lenS, InI, nmin, EK.sz] at *; omega))) ?_ | refine oM ?_ ?_ | refine bM ?_ ?_ | refine draw_of Try.mixed Try.tyOk 60 (by kernel_rfl) ?_ | intro _))
        all_goals
          (conv => whnf)
          refine Back.is ?_
          simp [eqV, eqA, eqC, readyE]
          omega

set_option maxHeartbeats 4000000 in
set_option maxRecDepth 20000 in
theorem ready1_c (F : TF) (hF : F.fin.length ≤ 9223372036854775807) : Ct Try.prog 78 [.c (.sl 2 4 0 1 1)] [] ((2, .box 25 (onF F)) :: hpF F) 3 (Is 3 (.i (readyE (fstE F) (F.st) ((F.arcs.length : Int))))) := by
  refine ctW Try.tyOk 8 [13, 14, 15] Try.func78 rfl (by simp [SV.lt, SA.lt, SC.lt, arcV, fV]) (by simp) (fr := [(0, .c (.sl 2 4 0 1 1))]) rfl ?_
  repeat' (first | exact rfl | ((conv => whnf); first | ((first | refine qA (fun h => ?_) fun h => ?_ | refine qN (fun h => ?_) fun h => ?_ | refine qB (fun h => ?_) fun h => ?_ | refine qC (fun h => ?_) fun h => ?_) <;> try exact absurd h (by omega)) | refine qM (fun h => ?_) fun h => ?_ | refine oM (by (first | omega | (simp only [lenS, InI, nmin, EK.sz]; omega) | (simp only [lenS, InI, nmin, EK.sz] at *; omega))) ?_ | refine oM ?_ ?_ | refine bM ?_ ?_ | refine draw_of Try.mixed Try.tyOk 60 (by kernel_rfl) ?_))
  (conv => whnf)
  refine callF (all1_c F hF) [0, 1, 2] Try.call87 rfl (by simp [eqLs, eqL, eqO, eqC, eqCs, rn, renOf, look_cons, look, EK.cast]) (by simp [appN, ptrs, eqVL, eqV, eqA, eqC, eqCs, eqAs, eqCaps, EK.sz, rn, renOf, look_cons, look, arcV, fV]) (by simp [appN, ptrs, SV.lt, SA.lt, SC.lt, arcV, fV, lenN]) ?_
  rintro _ _ ⟨rfl, rfl⟩
  repeat' (first | exact rfl | ((conv => whnf); first | ((first | refine qA (fun h => ?_) fun h => ?_ | refine qN (fun h => ?_) fun h => ?_ | refine qB (fun h => ?_) fun h => ?_ | refine qC (fun h => ?_) fun h => ?_) <;> try exact absurd h (by omega)) | refine qM (fun h => ?_) fun h => ?_ | refine oM (by (first | omega | (simp only [lenS, InI, nmin, EK.sz]; omega) | (simp only [lenS, InI, nmin, EK.sz] at *; omega))) ?_ | refine oM ?_ ?_ | refine bM ?_ ?_ | refine draw_of Try.mixed Try.tyOk 60 (by kernel_rfl) ?_ | intro _))
  · (conv => whnf)
    refine Back.is ?_
    simp [eqV, eqA, eqC, readyE, h]
  · have hF0 := h
    have Fst := (fstE_ok hF0).st
    have Fal := (fstE_ok hF0).arcl
    (conv => whnf)
    refine loopI (fun x : Nat × Int × Int => ⟨[(0, .c (.sl 2 4 0 1 1)), (2, .i 0), (4, .i x.2.1), (5, .i x.2.2), (13, .c (.sl 2 4 0 1 1)), (14, .i 1), (15, .i x.1)], (2, .box 25 (onF F)) :: hpF F, 3⟩)
      (fun x => x.1 ≤ 1 ∧ (x.1 = 0 → x.2.1 = 0 ∧ x.2.2 = 0) ∧ (x.1 = 1 → x.2.1 = F.st ∧ x.2.2 = (F.arcs.length : Int))) (fun x => 1 - x.1) (0, 0, 0) [] ⟨by rfl, ?_, ?_⟩ (by simp) ?_
    · simp [eqFr, eqHp, eqV, eqA, eqC, eqO, eqCs, eqAs, look_cons, look, rn, EK.cast, EK.sz, eqCaps]
    · simp [eqFr, eqHp, eqV, eqA, eqC, eqO, eqCs, eqAs, look_cons, look, rn, EK.cast, EK.sz, eqCaps]
    · rintro ⟨k, u, w⟩ ⟨hk, h0, h1⟩
      simp only at hk h0 h1 ⊢
      rcases (by omega : k = 0 ∨ k = 1) with rfl | rfl
      · obtain ⟨rfl, rfl⟩ := h0 rfl
        repeat' (first | exact rfl | ((conv => whnf); first | ((first | refine qA (fun h => ?_) fun h => ?_ | refine qN (fun h => ?_) fun h => ?_ | refine qB (fun h => ?_) fun h => ?_ | refine qC (fun h => ?_) fun h => ?_) <;> try exact absurd h (by omega)) | refine qM (fun h => ?_) fun h => ?_ | refine oM (by (first | omega | (simp only [lenS, InI, nmin, EK.sz]; omega) | (simp only [lenS, InI, nmin, EK.sz] at *; omega))) ?_ | refine oM ?_ ?_ | refine bM ?_ ?_ | refine draw_of Try.mixed Try.tyOk 60 (by kernel_rfl) ?_ | intro _))
        (conv => whnf)
        refine ⟨(1, F.st, (F.arcs.length : Int)), [], ⟨by rfl, ?_, ?_⟩, by simp, by simp⟩
        · simp [eqFr, eqHp, eqV, eqA, eqC, eqO, eqCs, eqAs, look_cons, look, rn, EK.cast, EK.sz, eqCaps]
        · simp [eqFr, eqHp, eqV, eqA, eqC, eqO, eqCs, eqAs, look_cons, look, rn, EK.cast, EK.sz, eqCaps]
      · obtain ⟨rfl, rfl⟩ := h1 rfl
        repeat' (first | exact rfl | ((conv => whnf); first | ((first | refine qA (fun h => ?_) fun h => ?_ | refine qN (fun h => ?_) fun h => ?_ | refine qB (fun h => ?_) fun h => ?_ | refine qC (fun h => ?_) fun h => ?_) <;> try exact absurd h (by omega)) | refine qM (fun h => ?_) fun h => ?_ | refine oM (by (first | omega | (simp only [lenS, InI, nmin, EK.sz]; omega) | (simp only [lenS, InI, nmin, EK.sz] at *; omega))) ?_ | refine oM ?_ ?_ | refine bM ?_ ?_ | refine draw_of Try.mixed Try.tyOk 60 (by kernel_rfl) ?_ | intro _))
        all_goals
          (conv => whnf)
          refine Back.is ?_
          simp [eqV, eqA, eqC, readyE]
          omega

end Go.Fw

namespace Go.Fw
open Go Go.Proofs

/-- Is either, both ready? -/
abbrev ready2E (F G : TF) : Int := readyE (allE F G) (F.st + G.st) ((F.arcs.length : Int) + (G.arcs.length : Int))

theorem readyE_ok {e st ar : Int} (h : readyE e st ar = 0) : e = 0 ∧ st ≤ 198 ∧ ar ≤ 2500 := by
  unfold readyE at h
  split at h
  · exact absurd h (by assumption)
  · split at h
    · cases h
    · omega

theorem map_stay (l : List Int) : l.map stayF = l := by
  have : stayF = id := rfl
  rw [this, List.map_id]

/-- The joined one. -/
def JoinPost (st : Int) (fin : List Int) (raw : List Arc) (n : Nat) (v : SV) (s : S) : Prop := ∃ zs sp sq, v = .tup [.agg [.i st, .i 0, .sl n 1 0 fin.length (fin.length + sp), .sl (n + 1) 5 0 zs.length (zs.length + sq)], .c (.i 0)] ∧ s = ⟨[], [(n, .arr true 3 .int fin sp), (n + 1, .arr true 47 .arc zs sq)], n + 2⟩ ∧ IsNorm raw zs

set_option maxHeartbeats 4000000 in
set_option maxRecDepth 20000 in
theorem either_no (F G : TF) (hF : F.fin.length ≤ 9223372036854775807) (hG : G.fin.length ≤ 9223372036854775807) (h : ready2E F G ≠ 0) : Ct Try.prog 38 [fV F, gV G] [] (hpG F G) 4 (Is 4 (noT (ready2E F G))) := by
  refine ctW Try.tyOk 11 [22, 23, 24] Try.func38 rfl (by simp [SV.lt, SA.lt, SC.lt, fV, gV]) (by simp) (fr := [(0, fV F), (1, gV G)]) rfl ?_
  repeat' (first | exact rfl | ((conv => whnf); first | ((first | refine qA (fun h => ?_) fun h => ?_ | refine qN (fun h => ?_) fun h => ?_ | refine qB (fun h => ?_) fun h => ?_ | refine qC (fun h => ?_) fun h => ?_) <;> try exact absurd h (by omega)) | refine qM (fun h => ?_) fun h => ?_ | refine oM (by (first | omega | (simp only [lenS, InI, nmin, EK.sz]; omega) | (simp only [lenS, InI, nmin, EK.sz] at *; omega))) ?_ | refine oM ?_ ?_ | refine bM ?_ ?_ | refine draw_of Try.mixed Try.tyOk 60 (by kernel_rfl) ?_))
  (conv => whnf)
  refine callF (ready2_c F G hF hG) [0, 1, 2, 3, 7] Try.call78 rfl (by simp [eqLs, eqL, eqO, eqC, eqCs, rn, renOf, look_cons, look, EK.cast, gV, two, appN]) (by simp [appN, ptrs, eqVL, eqV, eqA, eqC, eqCs, eqAs, eqCaps, EK.sz, rn, renOf, look_cons, look, arcV, fV, gV, two, appN]) (by simp [appN, ptrs, SV.lt, SA.lt, SC.lt, arcV, fV, lenN]) ?_
  rintro _ _ ⟨rfl, rfl⟩
  repeat' (first | exact rfl | ((conv => whnf); first | ((first | refine qA (fun h => ?_) fun h => ?_ | refine qN (fun h => ?_) fun h => ?_ | refine qB (fun h => ?_) fun h => ?_ | refine qC (fun h => ?_) fun h => ?_) <;> try exact absurd h (by omega)) | refine qM (fun h => ?_) fun h => ?_ | refine oM (by (first | omega | (simp only [lenS, InI, nmin, EK.sz]; omega) | (simp only [lenS, InI, nmin, EK.sz] at *; omega))) ?_ | refine oM ?_ ?_ | refine bM ?_ ?_ | refine draw_of Try.mixed Try.tyOk 60 (by kernel_rfl) ?_))
  (conv => whnf)
  refine Back.is ?_
  simp [eqV, eqA, eqAs, eqC, eqCs]

set_option maxHeartbeats 8000000 in
set_option maxRecDepth 20000 in
theorem either_ok (F G : TF) (hF : F.fin.length ≤ 9223372036854775807) (hG : G.fin.length ≤ 9223372036854775807) (h : ready2E F G = 0) : Ct Try.prog 38 [fV F, gV G] [] (hpG F G) 4 (JoinPost (1 + F.st + G.st) (-1 :: (F.fin ++ G.fin)) (eitherL F G) 4) := by
  have hr := readyE_ok h
  have hFG := allE_ok hr.1
  have oF := fstE_ok hFG.1
  have oG := fstE_ok hFG.2
  have f1 := oF.st
  have f2 := oF.finl
  have f3 := oF.start
  have f4 := oF.arcl
  have g1 := oG.st
  have g2 := oG.finl
  have g3 := oG.start
  have g4 := oG.arcl
  refine ctW Try.tyOk 11 [22, 23, 24] Try.func38 rfl (by simp [SV.lt, SA.lt, SC.lt, fV, gV]) (by simp) (fr := [(0, fV F), (1, gV G)]) rfl ?_
  repeat' (first | exact rfl | ((conv => whnf); first | ((first | refine qA (fun h => ?_) fun h => ?_ | refine qN (fun h => ?_) fun h => ?_ | refine qB (fun h => ?_) fun h => ?_ | refine qC (fun h => ?_) fun h => ?_) <;> try exact absurd h (by omega)) | refine qM (fun h => ?_) fun h => ?_ | refine oM (by (first | omega | (simp only [lenS, InI, nmin, EK.sz]; omega) | (simp only [lenS, InI, nmin, EK.sz] at *; omega))) ?_ | refine oM ?_ ?_ | refine bM ?_ ?_ | refine draw_of Try.mixed Try.tyOk 60 (by kernel_rfl) ?_))
  (conv => whnf)
  refine callF (ready2_c F G hF hG) [0, 1, 2, 3, 7] Try.call78 rfl (by simp [eqLs, eqL, eqO, eqC, eqCs, rn, renOf, look_cons, look, EK.cast, gV, two, appN]) (by simp [appN, ptrs, eqVL, eqV, eqA, eqC, eqCs, eqAs, eqCaps, EK.sz, rn, renOf, look_cons, look, arcV, fV, gV, two, appN]) (by simp [appN, ptrs, SV.lt, SA.lt, SC.lt, arcV, fV, lenN]) ?_
  rintro _ _ ⟨rfl, rfl⟩
  rw [show readyE (allE F G) (F.st + G.st) ((F.arcs.length : Int) + (G.arcs.length : Int)) = 0 from h]
  repeat' (first | exact rfl | ((conv => whnf); first | ((first | refine qA (fun h => ?_) fun h => ?_ | refine qN (fun h => ?_) fun h => ?_ | refine qB (fun h => ?_) fun h => ?_ | refine qC (fun h => ?_) fun h => ?_) <;> try exact absurd h (by omega)) | refine qM (fun h => ?_) fun h => ?_ | refine oM (by (first | omega | (simp only [lenS, InI, nmin, EK.sz]; omega) | (simp only [lenS, InI, nmin, EK.sz] at *; omega))) ?_ | refine oM ?_ ?_ | refine bM ?_ ?_ | refine draw_of Try.mixed Try.tyOk 60 (by kernel_rfl) ?_))
  (conv => whnf)
  refine callF (begin_c (-1)) [] Try.call79 rfl (by simp [eqLs, eqL, eqO, eqC, eqCs, rn, renOf, look_cons, look, EK.cast]) (by simp [appN, ptrs, eqVL, eqV, eqA, eqC, eqCs, eqAs, eqCaps, EK.sz, rn, renOf, look_cons, look, arcV, fV]) (by simp [appN, ptrs, SV.lt, SA.lt, SC.lt, arcV, fV, lenN]) ?_
  rintro _ _ ⟨rfl, rfl⟩
  repeat' (first | exact rfl | ((conv => whnf); first | ((first | refine qA (fun h => ?_) fun h => ?_ | refine qN (fun h => ?_) fun h => ?_ | refine qB (fun h => ?_) fun h => ?_ | refine qC (fun h => ?_) fun h => ?_) <;> try exact absurd h (by omega)) | refine qM (fun h => ?_) fun h => ?_ | refine oM (by (first | omega | (simp only [lenS, InI, nmin, EK.sz]; omega) | (simp only [lenS, InI, nmin, EK.sz] at *; omega))) ?_ | refine oM ?_ ?_ | refine bM ?_ ?_ | refine draw_of Try.mixed Try.tyOk 60 (by kernel_rfl) ?_))
  (conv => whnf)
  refine loopI (fun x : Nat × Int × List Int × List Arc × Nat × Nat => ⟨[(4, .c (.ptr 6 0)), (5, .i 0), (7, .c (.ptr 8 0)), (22, .c (.sl 11 4 0 2 2)), (23, .i 2), (24, .i x.1)],
      [(0, .arr false 3 .int F.fin 0), (1, .arr false 47 .arc F.arcs 0), (2, .arr false 3 .int G.fin 0), (3, .arr false 47 .arc G.arcs 0), (6, .box 25 [.i 0, .i 0, .v (.slice none 0 0), .v (.slice none 0 0)]), (8, .box 130 (jCells x.2.1 9 10 x.2.2.1 x.2.2.2.1 x.2.2.2.2.1 x.2.2.2.2.2)), (9, .arr true 3 .int x.2.2.1 x.2.2.2.2.1), (10, .arr true 47 .arc x.2.2.2.1 x.2.2.2.2.2), (11, .box 25 (two F G))], 12⟩)
    (fun x => x.1 ≤ 2 ∧ (x.1 = 0 → x.2.1 = 1 ∧ x.2.2.1 = [-1] ∧ x.2.2.2.1 = []) ∧ (x.1 = 1 → x.2.1 = 1 + F.st ∧ x.2.2.1 = -1 :: F.fin ∧ x.2.2.2.1 = F.arcs.map (shA 1) ++ [silA 0 (1 + F.start) 0]) ∧ (x.1 = 2 → x.2.1 = 1 + F.st + G.st ∧ x.2.2.1 = -1 :: (F.fin ++ G.fin) ∧ x.2.2.2.1 = eitherL F G))
    (fun x => 2 - x.1) (0, 1, [-1], [], 0, 0) [] ⟨by rfl, ?_, ?_⟩ ⟨by simp, by simp, by simp, by simp⟩ ?_
  · simp [eqFr, eqHp, eqV, eqA, eqC, eqO, eqCs, eqAs, look_cons, look, rn, EK.cast, EK.sz, eqCaps]
  · simp [eqFr, eqHp, eqV, eqA, eqC, eqO, eqCs, eqAs, look_cons, look, rn, EK.cast, EK.sz, eqCaps, two, appN, gV, fV]
  · rintro ⟨k, st, l, ar, sp, sq⟩ ⟨hk, h0, h1, h2⟩
    simp only at hk h0 h1 h2 ⊢
    rcases (by omega : k = 0 ∨ k = 1 ∨ k = 2) with rfl | rfl | rfl
    · obtain ⟨rfl, rfl, rfl⟩ := h0 rfl
      repeat' (first | exact rfl | ((conv => whnf); first | ((first | refine qA (fun h => ?_) fun h => ?_ | refine qN (fun h => ?_) fun h => ?_ | refine qB (fun h => ?_) fun h => ?_ | refine qC (fun h => ?_) fun h => ?_) <;> try exact absurd h (by omega)) | refine qM (fun h => ?_) fun h => ?_ | refine oM (by (first | omega | (simp only [lenS, InI, nmin, EK.sz]; omega) | (simp only [lenS, InI, nmin, EK.sz] at *; omega))) ?_ | refine oM ?_ ?_ | refine bM ?_ ?_ | refine draw_of Try.mixed Try.tyOk 60 (by kernel_rfl) ?_ | intro _))
      (conv => whnf)
      refine callF (take81_c F oF 1 [-1] [] sp sq (by omega) (by simp) (by simp)) [0, 1, 8, 9, 10] Try.call80 rfl (by simp [eqLs, eqL, eqO, eqC, eqCs, rn, renOf, look_cons, look, EK.cast]) (by simp [appN, ptrs, eqVL, eqV, eqA, eqC, eqCs, eqAs, eqCaps, EK.sz, rn, renOf, look_cons, look, arcV, fV]) (by simp [appN, ptrs, SV.lt, SA.lt, SC.lt, arcV, fV, lenN]) ?_
      rintro _ _ ⟨p, q, rfl, rfl⟩
      rw [map_stay]
      repeat' (first | exact rfl | ((conv => whnf); first | ((first | refine qA (fun h => ?_) fun h => ?_ | refine qN (fun h => ?_) fun h => ?_ | refine qB (fun h => ?_) fun h => ?_ | refine qC (fun h => ?_) fun h => ?_) <;> try exact absurd h (by omega)) | refine qM (fun h => ?_) fun h => ?_ | refine oM (by (first | omega | (simp only [lenS, InI, nmin, EK.sz]; omega) | (simp only [lenS, InI, nmin, EK.sz] at *; omega))) ?_ | refine oM ?_ ?_ | refine bM ?_ ?_ | refine draw_of Try.mixed Try.tyOk 60 (by kernel_rfl) ?_ | intro _))
      (conv => whnf)
      have z1 : (([] : List Arc) ++ F.arcs.map (shA 1)).length ≤ 1000000 := by simp; omega
      refine callF (silent_c (1 + F.st) ([-1] ++ F.fin) ([] ++ F.arcs.map (shA 1)) p q 0 (1 + F.start) 0 z1) [8, 13, 14] Try.call82 rfl (by simp [eqLs, eqL, eqO, eqC, eqCs, rn, renOf, look_cons, look, EK.cast]) (by simp [appN, ptrs, eqVL, eqV, eqA, eqC, eqCs, eqAs, eqCaps, EK.sz, rn, renOf, look_cons, look, arcV, fV]) (by simp [appN, ptrs, SV.lt, SA.lt, SC.lt, arcV, fV, lenN]) ?_
      rintro _ _ ⟨q2, rfl, rfl⟩
      repeat' (first | exact rfl | ((conv => whnf); first | ((first | refine qA (fun h => ?_) fun h => ?_ | refine qN (fun h => ?_) fun h => ?_ | refine qB (fun h => ?_) fun h => ?_ | refine qC (fun h => ?_) fun h => ?_) <;> try exact absurd h (by omega)) | refine qM (fun h => ?_) fun h => ?_ | refine oM (by (first | omega | (simp only [lenS, InI, nmin, EK.sz]; omega) | (simp only [lenS, InI, nmin, EK.sz] at *; omega))) ?_ | refine oM ?_ ?_ | refine bM ?_ ?_ | refine draw_of Try.mixed Try.tyOk 60 (by kernel_rfl) ?_ | intro _))
      (conv => whnf)
      refine ⟨(1, 1 + F.st, -1 :: F.fin, F.arcs.map (shA 1) ++ [silA 0 (1 + F.start) 0], p, q2), [(9, some 13), (10, some 15)], ⟨by rfl, ?_, ?_⟩, ⟨by simp, by simp, by simp, by simp⟩, by simp⟩
      · simp [eqFr, eqHp, eqV, eqA, eqC, eqO, eqCs, eqAs, look_cons, look, rn, EK.cast, EK.sz, eqCaps]
      · simp [eqFr, eqHp, eqV, eqA, eqC, eqO, eqCs, eqAs, look_cons, look, rn, EK.cast, EK.sz, eqCaps]
    · obtain ⟨rfl, rfl, rfl⟩ := h1 rfl
      repeat' (first | exact rfl | ((conv => whnf); first | ((first | refine qA (fun h => ?_) fun h => ?_ | refine qN (fun h => ?_) fun h => ?_ | refine qB (fun h => ?_) fun h => ?_ | refine qC (fun h => ?_) fun h => ?_) <;> try exact absurd h (by omega)) | refine qM (fun h => ?_) fun h => ?_ | refine oM (by (first | omega | (simp only [lenS, InI, nmin, EK.sz]; omega) | (simp only [lenS, InI, nmin, EK.sz] at *; omega))) ?_ | refine oM ?_ ?_ | refine bM ?_ ?_ | refine draw_of Try.mixed Try.tyOk 60 (by kernel_rfl) ?_ | intro _))
      (conv => whnf)
      have z1 : (-1 :: F.fin).length ≤ 1000000 := by simp; omega
      have z2 : (F.arcs.map (shA 1) ++ [silA 0 (1 + F.start) 0]).length ≤ 1000000 := by simp; omega
      refine callF (take81_c G oG (1 + F.st) (-1 :: F.fin) (F.arcs.map (shA 1) ++ [silA 0 (1 + F.start) 0]) sp sq (by omega) z1 z2) [2, 3, 8, 9, 10] Try.call80 rfl (by simp [eqLs, eqL, eqO, eqC, eqCs, rn, renOf, look_cons, look, EK.cast]) (by simp [appN, ptrs, eqVL, eqV, eqA, eqC, eqCs, eqAs, eqCaps, EK.sz, rn, renOf, look_cons, look, arcV, fV]) (by simp [appN, ptrs, SV.lt, SA.lt, SC.lt, arcV, fV, lenN]) ?_
      rintro _ _ ⟨p, q, rfl, rfl⟩
      rw [map_stay]
      repeat' (first | exact rfl | ((conv => whnf); first | ((first | refine qA (fun h => ?_) fun h => ?_ | refine qN (fun h => ?_) fun h => ?_ | refine qB (fun h => ?_) fun h => ?_ | refine qC (fun h => ?_) fun h => ?_) <;> try exact absurd h (by omega)) | refine qM (fun h => ?_) fun h => ?_ | refine oM (by (first | omega | (simp only [lenS, InI, nmin, EK.sz]; omega) | (simp only [lenS, InI, nmin, EK.sz] at *; omega))) ?_ | refine oM ?_ ?_ | refine bM ?_ ?_ | refine draw_of Try.mixed Try.tyOk 60 (by kernel_rfl) ?_ | intro _))
      (conv => whnf)
      have z3 : (F.arcs.map (shA 1) ++ [silA 0 (1 + F.start) 0] ++ G.arcs.map (shA (1 + F.st))).length ≤ 1000000 := by simp; omega
      refine callF (silent_c (1 + F.st + G.st) ((-1 :: F.fin) ++ G.fin) (F.arcs.map (shA 1) ++ [silA 0 (1 + F.start) 0] ++ G.arcs.map (shA (1 + F.st))) p q 0 (1 + F.st + G.start) 0 z3) [8, 13, 14] Try.call82 rfl (by simp [eqLs, eqL, eqO, eqC, eqCs, rn, renOf, look_cons, look, EK.cast]) (by simp [appN, ptrs, eqVL, eqV, eqA, eqC, eqCs, eqAs, eqCaps, EK.sz, rn, renOf, look_cons, look, arcV, fV]) (by simp [appN, ptrs, SV.lt, SA.lt, SC.lt, arcV, fV, lenN]) ?_
      rintro _ _ ⟨q2, rfl, rfl⟩
      repeat' (first | exact rfl | ((conv => whnf); first | ((first | refine qA (fun h => ?_) fun h => ?_ | refine qN (fun h => ?_) fun h => ?_ | refine qB (fun h => ?_) fun h => ?_ | refine qC (fun h => ?_) fun h => ?_) <;> try exact absurd h (by omega)) | refine qM (fun h => ?_) fun h => ?_ | refine oM (by (first | omega | (simp only [lenS, InI, nmin, EK.sz]; omega) | (simp only [lenS, InI, nmin, EK.sz] at *; omega))) ?_ | refine oM ?_ ?_ | refine bM ?_ ?_ | refine draw_of Try.mixed Try.tyOk 60 (by kernel_rfl) ?_ | intro _))
      (conv => whnf)
      refine ⟨(2, 1 + F.st + G.st, -1 :: (F.fin ++ G.fin), eitherL F G, p, q2), [(9, some 13), (10, some 15)], ⟨by rfl, ?_, ?_⟩, ⟨by simp, by simp, by simp, by simp⟩, by simp⟩
      · simp [eqFr, eqHp, eqV, eqA, eqC, eqO, eqCs, eqAs, look_cons, look, rn, EK.cast, EK.sz, eqCaps]
      · simp [eqFr, eqHp, eqV, eqA, eqC, eqO, eqCs, eqAs, look_cons, look, rn, EK.cast, EK.sz, eqCaps, eitherL]
    · obtain ⟨rfl, rfl, rfl⟩ := h2 rfl
      repeat' (first | exact rfl | ((conv => whnf); first | ((first | refine qA (fun h => ?_) fun h => ?_ | refine qN (fun h => ?_) fun h => ?_ | refine qB (fun h => ?_) fun h => ?_ | refine qC (fun h => ?_) fun h => ?_) <;> try exact absurd h (by omega)) | refine qM (fun h => ?_) fun h => ?_ | refine oM (by (first | omega | (simp only [lenS, InI, nmin, EK.sz]; omega) | (simp only [lenS, InI, nmin, EK.sz] at *; omega))) ?_ | refine oM ?_ ?_ | refine bM ?_ ?_ | refine draw_of Try.mixed Try.tyOk 60 (by kernel_rfl) ?_ | intro _))
      (conv => whnf)
      have z1 : (eitherL F G).length ≤ 1000000 := by simp [eitherL]; omega
      refine callF (done_c (1 + F.st + G.st) (-1 :: (F.fin ++ G.fin)) (eitherL F G) sp sq z1) [8, 9, 10] Try.call83 rfl (by simp [eqLs, eqL, eqO, eqC, eqCs, rn, renOf, look_cons, look, EK.cast]) (by simp [appN, ptrs, eqVL, eqV, eqA, eqC, eqCs, eqAs, eqCaps, EK.sz, rn, renOf, look_cons, look, arcV, fV]) (by simp [appN, ptrs, SV.lt, SA.lt, SC.lt, arcV, fV, lenN]) ?_
      rintro _ _ ⟨zs, sq', rfl, rfl, hz⟩
      repeat' (first | exact rfl | ((conv => whnf); first | ((first | refine qA (fun h => ?_) fun h => ?_ | refine qN (fun h => ?_) fun h => ?_ | refine qB (fun h => ?_) fun h => ?_ | refine qC (fun h => ?_) fun h => ?_) <;> try exact absurd h (by omega)) | refine qM (fun h => ?_) fun h => ?_ | refine oM (by (first | omega | (simp only [lenS, InI, nmin, EK.sz]; omega) | (simp only [lenS, InI, nmin, EK.sz] at *; omega))) ?_ | refine oM ?_ ?_ | refine bM ?_ ?_ | refine draw_of Try.mixed Try.tyOk 60 (by kernel_rfl) ?_ | intro _))
      (conv => whnf)
      refine ⟨[(4, some 9), (5, some 10)], [(4, .arr true 3 .int (-1 :: (F.fin ++ G.fin)) sp), (5, .arr true 47 .arc zs sq')], 6, .tup [.agg [.i (1 + F.st + G.st), .i 0, .sl 4 1 0 (-1 :: (F.fin ++ G.fin)).length ((-1 :: (F.fin ++ G.fin)).length + sp), .sl 5 5 0 zs.length (zs.length + sq')], .c (.i 0)], ⟨by rfl, trivial, by simp [eqFr, eqHp, eqV, eqA, eqC, eqO, eqCs, eqAs, look_cons, look, rn, EK.cast, EK.sz, eqCaps]⟩, by simp [eqV, eqA, eqAs, eqC, eqCs, rn, look, look_cons, EK.sz], zs, sp, sq', rfl, rfl, hz⟩
end Go.Fw

/-
  One behind the other, again and again: the ways of what is joined.
-/
namespace Go.Fw
open Go

def behindL (F G : TF) : List Arc := F.arcs.map (shA 1) ++ G.arcs.map (shA (1 + F.st)) ++ [silA 0 (1 + F.start) 0] ++ endsL 1 (1 + F.st + G.start) F.fin F.fin.length
def againL (F : TF) : List Arc := F.arcs.map (shA 1) ++ [silA 0 (1 + F.start) 0] ++ endsL 1 0 F.fin F.fin.length

theorem behindL_mem {F G : TF} {a : Arc} : a ∈ behindL F G ↔ (∃ b ∈ F.arcs, a = shA 1 b) ∨ (∃ b ∈ G.arcs, a = shA (1 + F.st) b) ∨ a = silA 0 (1 + F.start) 0 ∨ ∃ n, n < F.fin.length ∧ F.fin.getD n 0 ≠ -1 ∧ a = silA (1 + n) (1 + F.st + G.start) (F.fin.getD n 0) := by
  unfold behindL
  rw [List.mem_append, List.mem_append, List.mem_append, List.mem_map, List.mem_map, List.mem_singleton, endsL_mem]
  constructor
  · rintro (((⟨b, hb, rfl⟩ | ⟨b, hb, rfl⟩) | rfl) | h)
    · exact .inl ⟨b, hb, rfl⟩
    · exact .inr (.inl ⟨b, hb, rfl⟩)
    · exact .inr (.inr (.inl rfl))
    · exact .inr (.inr (.inr h))
  · rintro (⟨b, hb, rfl⟩ | ⟨b, hb, rfl⟩ | rfl | h)
    · exact .inl (.inl (.inl ⟨b, hb, rfl⟩))
    · exact .inl (.inl (.inr ⟨b, hb, rfl⟩))
    · exact .inl (.inr rfl)
    · exact .inr h

theorem againL_mem {F : TF} {a : Arc} : a ∈ againL F ↔ (∃ b ∈ F.arcs, a = shA 1 b) ∨ a = silA 0 (1 + F.start) 0 ∨ ∃ n, n < F.fin.length ∧ F.fin.getD n 0 ≠ -1 ∧ a = silA (1 + n) 0 (F.fin.getD n 0) := by
  unfold againL
  rw [List.mem_append, List.mem_append, List.mem_map, List.mem_singleton, endsL_mem]
  constructor
  · rintro ((⟨b, hb, rfl⟩ | rfl) | h)
    · exact .inl ⟨b, hb, rfl⟩
    · exact .inr (.inl rfl)
    · exact .inr (.inr h)
  · rintro (⟨b, hb, rfl⟩ | rfl | h)
    · exact .inl (.inl ⟨b, hb, rfl⟩)
    · exact .inl (.inr rfl)
    · exact .inr h

theorem behind_f {F G : TF} (hF : FOk F) (hG : FOk G) {s t : Int} {u v : List Int} {c : Int} (h : Way (behindL F G) s u v t c) :
    (∀ x, s = x + (1 + F.st) → 0 ≤ x → ∃ y, t = y + (1 + F.st) ∧ Way G.arcs x u v y c) ∧
    (∀ x, s = x + 1 → 0 ≤ x → x < F.st → (∃ y, t = y + 1 ∧ Way F.arcs x u v y c) ∨ ∃ u1 u2 v1 v2 y c1 c2, u = u1 ++ u2 ∧ v = v1 ++ v2 ∧ Way F.arcs x u1 v1 y c1 ∧ F.fin.getD y.toNat 0 ≠ -1 ∧ (∃ z, t = z + (1 + F.st) ∧ Way G.arcs G.start u2 v2 z c2) ∧ c = c1 + F.fin.getD y.toNat 0 + c2) := by
  have hst := hF.st
  have hfl := hF.finl
  induction h with
  | nil s => exact ⟨fun x hx _ => ⟨x, hx, .nil x⟩, fun x hx _ _ => .inl ⟨x, hx, .nil x⟩⟩
  | @cons a u v t c ha h ih =>
    rcases behindL_mem.1 ha with ⟨b, hb, rfl⟩ | ⟨b, hb, rfl⟩ | rfl | ⟨n, hn, hnf, rfl⟩
    · have hbo := hF.arc b hb
      have := hbo.f1
      have := hbo.t0
      have := hbo.t1
      refine ⟨fun x hx h0 => ?_, fun x hx h0 h1 => ?_⟩
      · unfold shA at hx; simp only at hx; omega
      · have ex : b.f = x := by unfold shA at hx; simp only at hx; omega
        subst ex
        rcases ih.2 b.t rfl (by omega) (by omega) with ⟨y, e, hw⟩ | ⟨u1, u2, v1, v2, y, c1, c2, rfl, rfl, hw, hf, hz, rfl⟩
        · exact .inl ⟨y, e, .cons hb hw⟩
        · refine .inr ⟨lab b.i ++ u1, u2, lab b.o ++ v1, v2, y, b.w + c1, c2, by simp [shA], by simp [shA], .cons hb hw, hf, hz, ?_⟩
          show b.w + _ = _
          omega
    · have hbo := hG.arc b hb
      have := hbo.f0
      have := hbo.t0
      refine ⟨fun x hx h0 => ?_, fun x hx h0 h1 => ?_⟩
      · obtain ⟨y, e, hw⟩ := ih.1 b.t rfl (by omega)
        have ex : b.f = x := by unfold shA at hx; simp only at hx; omega
        subst ex
        exact ⟨y, e, .cons hb hw⟩
      · unfold shA at hx; simp only at hx; omega
    · refine ⟨fun x hx h0 => ?_, fun x hx h0 h1 => ?_⟩
      · unfold silA at hx; simp only at hx; omega
      · unfold silA at hx; simp only at hx; omega
    · refine ⟨fun x hx h0 => ?_, fun x hx h0 h1 => ?_⟩
      · unfold silA at hx; simp only at hx; omega
      · have ex : (n : Int) = x := by unfold silA at hx; simp only at hx; omega
        subst ex
        obtain ⟨z, e, hw⟩ := ih.1 G.start (by show (1 + F.st + G.start) = _; omega) hG.start.1
        refine .inr ⟨[], u, [], v, n, 0, c, by simp [silA, lab], by simp [silA, lab], .nil _, by simpa using hnf, ⟨z, e, hw⟩, ?_⟩
        show F.fin.getD n 0 + c = 0 + F.fin.getD ((n : Int).toNat) 0 + c
        simp

theorem getD_neg {l : List Int} {i : Int} (hg : ∀ i, i < l.length → l.getD i 0 = -1) (h0 : 0 ≤ i) (h1 : i < l.length) : l.getD i.toNat 0 = -1 := hg _ (by omega)

/-- Two words cut in two: the first part by the one, the rest by the other. -/
def Cut2 (P Q : List Int → List Int → Int → Prop) (u v : List Int) (c : Int) : Prop := ∃ u1 u2 v1 v2 c1 c2, u = u1 ++ u2 ∧ v = v1 ++ v2 ∧ P u1 v1 c1 ∧ Q u2 v2 c2 ∧ c = c1 + c2

theorem behind_wt {F G : TF} (hF : FOk F) (hG : FOk G) {l : List Int} (hl : l.length = F.fin.length) (hg : ∀ i, i < l.length → l.getD i 0 = -1) {u v : List Int} {c : Int} : WtL (behindL F G) 0 (-1 :: (l ++ G.fin)) u v c ↔ Cut2 (Wt F) (Wt G) u v c := by
  have hfl := hF.finl
  have hgl := hG.finl
  have hfs := hF.start
  have hgs := hG.start
  have hst := hF.st
  constructor
  · rintro ⟨t, d, hw, hf, rfl⟩
    have key : ∀ s, s = 0 → Way (behindL F G) s u v t d → t = 0 ∨ Way (behindL F G) (1 + F.start) u v t d := by
      intro s hs h
      cases h with
      | nil => exact .inl hs
      | @cons a u v t c ha h =>
        rcases behindL_mem.1 ha with ⟨b, hb, rfl⟩ | ⟨b, hb, rfl⟩ | rfl | ⟨n, hn, hnf, rfl⟩
        · have := (hF.arc b hb).f0
          unfold shA at hs; simp only at hs; omega
        · have := (hG.arc b hb).f0
          unfold shA at hs; simp only at hs; omega
        · right; simpa [silA, lab] using h
        · unfold silA at hs; simp only at hs; omega
    rcases key 0 rfl hw with rfl | h
    · exact absurd rfl hf
    · rcases (behind_f hF hG h).2 F.start (by omega) hfs.1 hfs.2 with ⟨y, rfl, hy⟩ | ⟨u1, u2, v1, v2, y, c1, c2, rfl, rfl, hy, hyf, ⟨z, rfl, hz⟩, rfl⟩
      · have hr := hy.rng hF.arc hfs
        rw [fin_low hr.1 (by omega), getD_neg hg hr.1 (by omega)] at hf
        exact absurd rfl hf
      · have hr := hz.rng hG.arc hgs
        rw [fin_at (by omega) hr.1] at hf ⊢
        exact ⟨u1, u2, v1, v2, _, _, rfl, rfl, ⟨y, c1, hy, hyf, rfl⟩, ⟨z, c2, hz, hf, rfl⟩, by omega⟩
  · rintro ⟨u1, u2, v1, v2, c1, c2, rfl, rfl, ⟨y, d1, hy, hyf, rfl⟩, ⟨z, d2, hz, hzf, rfl⟩, rfl⟩
    have hry := hy.rng hF.arc hfs
    have hrz := hz.rng hG.arc hgs
    have w1 := hy.sh (M := behindL F G) (k := 1) fun a ha => behindL_mem.2 (.inl ⟨a, ha, rfl⟩)
    have w2 := hz.sh (M := behindL F G) (k := 1 + F.st) fun a ha => behindL_mem.2 (.inr (.inl ⟨a, ha, rfl⟩))
    have w3 : Way (behindL F G) (y + 1) u2 v2 (z + (1 + F.st)) (F.fin.getD y.toNat 0 + d2) := by
      refine Way.sil (t := 1 + F.st + G.start) (behindL_mem.2 (.inr (.inr (.inr ⟨y.toNat, by omega, hyf, ?_⟩)))) (by rw [Int.add_comm (1 + F.st)]; exact w2)
      rw [show (1 : Int) + (y.toNat : Int) = y + 1 by omega]
    have w4 := w1.app w3
    have w5 : Way (behindL F G) 0 (u1 ++ u2) (v1 ++ v2) (z + (1 + F.st)) (0 + (d1 + (F.fin.getD y.toNat 0 + d2))) := Way.sil (t := 1 + F.start) (behindL_mem.2 (.inr (.inr (.inl rfl)))) (by rw [Int.add_comm 1]; exact w4)
    refine ⟨z + (1 + F.st), _, w5, ?_⟩
    rw [fin_at (by omega) hrz.1]
    exact ⟨hzf, by omega⟩

/-! ### Again -/
inductive Star (P : List Int → List Int → Int → Prop) : List Int → List Int → Int → Prop
  | nil : Star P [] [] 0
  | cons {u1 v1 u2 v2 : List Int} {c1 c2 : Int} (h1 : P u1 v1 c1) (h2 : Star P u2 v2 c2) : Star P (u1 ++ u2) (v1 ++ v2) (c1 + c2)

theorem again_f {F : TF} (hF : FOk F) {s t : Int} {u v : List Int} {c : Int} (h : Way (againL F) s u v t c) (ht : t = 0) :
    (s = 0 → Star (Wt F) u v c) ∧
    (∀ x, s = x + 1 → 0 ≤ x → x < F.st → ∃ u1 u2 v1 v2 y c1 c2, u = u1 ++ u2 ∧ v = v1 ++ v2 ∧ Way F.arcs x u1 v1 y c1 ∧ F.fin.getD y.toNat 0 ≠ -1 ∧ Star (Wt F) u2 v2 c2 ∧ c = c1 + F.fin.getD y.toNat 0 + c2) := by
  have hst := hF.st
  have hfl := hF.finl
  have hfs := hF.start
  induction h with
  | nil s => exact ⟨fun _ => .nil, fun x hx _ _ => absurd hx (by omega)⟩
  | @cons a u v t c ha h ih =>
    have ih := ih ht
    rcases againL_mem.1 ha with ⟨b, hb, rfl⟩ | rfl | ⟨n, hn, hnf, rfl⟩
    · have hbo := hF.arc b hb
      have := hbo.f0
      have := hbo.t0
      have := hbo.t1
      refine ⟨fun hx => ?_, fun x hx h0 h1 => ?_⟩
      · unfold shA at hx; simp only at hx; omega
      · have ex : b.f = x := by unfold shA at hx; simp only at hx; omega
        subst ex
        obtain ⟨u1, u2, v1, v2, y, c1, c2, rfl, rfl, hw, hf, hz, rfl⟩ := ih.2 b.t rfl (by omega) (by omega)
        refine ⟨lab b.i ++ u1, u2, lab b.o ++ v1, v2, y, b.w + c1, c2, by simp [shA], by simp [shA], .cons hb hw, hf, hz, ?_⟩
        show b.w + _ = _
        omega
    · refine ⟨fun hx => ?_, fun x hx h0 h1 => ?_⟩
      · obtain ⟨u1, u2, v1, v2, y, c1, c2, rfl, rfl, hw, hf, hz, rfl⟩ := ih.2 F.start (by show 1 + F.start = _; omega) hfs.1 hfs.2
        have := Star.cons (P := Wt F) ⟨y, c1, hw, hf, rfl⟩ hz
        simpa [silA, lab] using this
      · unfold silA at hx; simp only at hx; omega
    · refine ⟨fun hx => ?_, fun x hx h0 h1 => ?_⟩
      · unfold silA at hx; simp only at hx; omega
      · have ex : (n : Int) = x := by unfold silA at hx; simp only at hx; omega
        subst ex
        refine ⟨[], u, [], v, n, 0, c, by simp [silA, lab], by simp [silA, lab], .nil _, by simpa using hnf, ih.1 rfl, ?_⟩
        show F.fin.getD n 0 + c = 0 + F.fin.getD ((n : Int).toNat) 0 + c
        simp

theorem again_wt {F : TF} (hF : FOk F) {l : List Int} (hl : l.length = F.fin.length) (hg : ∀ i, i < l.length → l.getD i 0 = -1) {u v : List Int} {c : Int} : WtL (againL F) 0 (0 :: l) u v c ↔ Star (Wt F) u v c := by
  have hfl := hF.finl
  have hfs := hF.start
  have hst := hF.st
  constructor
  · rintro ⟨t, d, hw, hf, rfl⟩
    have hr : 0 ≤ t ∧ t < 1 + F.st := by
      refine hw.rng (st := 1 + F.st) (fun a ha => ?_) (by omega)
      rcases againL_mem.1 ha with ⟨b, hb, rfl⟩ | rfl | ⟨n, hn, hnf, rfl⟩
      · have h := hF.arc b hb
        have := h.f0; have := h.f1; have := h.t0; have := h.t1
        exact ⟨by show 0 ≤ b.f + 1; omega, by show b.f + 1 < _; omega, by show 0 ≤ b.t + 1; omega, by show b.t + 1 < _; omega, h.i0, h.o0, h.w0, h.w1⟩
      · exact ⟨by show (0 : Int) ≤ 0; omega, by show (0 : Int) < _; omega, by show 0 ≤ 1 + F.start; omega, by show 1 + F.start < _; omega, by show (0 : Int) ≤ 0 ∧ (0 : Int) ≤ 9; omega, by show (0 : Int) ≤ 0 ∧ (0 : Int) ≤ 9; omega, by show (0 : Int) ≤ 0; omega, by show (0 : Int) ≤ 1000000000; omega⟩
      · have h := hF.fin _ (getD_mem F.fin n 0 hn)
        exact ⟨by show 0 ≤ 1 + (n : Int); omega, by show 1 + (n : Int) < _; omega, by show (0 : Int) ≤ 0; omega, by show (0 : Int) < _; omega, by show (0 : Int) ≤ 0 ∧ (0 : Int) ≤ 9; omega, by show (0 : Int) ≤ 0 ∧ (0 : Int) ≤ 9; omega, by show 0 ≤ F.fin.getD n 0; omega, by show F.fin.getD n 0 ≤ _; omega⟩
    have ht : t = 0 := by
      by_cases e : t = 0
      · exact e
      · have e2 : t.toNat = (t - 1).toNat + 1 := by omega
        rw [e2, List.getD_cons_succ, getD_neg hg (by omega) (by omega)] at hf
        exact absurd rfl hf
    subst ht
    have := (again_f hF hw rfl).1 rfl
    simpa using this
  · intro h
    suffices H : Way (againL F) 0 u v 0 c by exact ⟨0, c, H, by simp, by simp⟩
    induction h with
    | nil => exact .nil 0
    | @cons u1 v1 u2 v2 c1 c2 h1 h2 ih =>
      obtain ⟨y, d1, hy, hyf, rfl⟩ := h1
      have hry := hy.rng hF.arc hfs
      have w1 := hy.sh (M := againL F) (k := 1) fun a ha => againL_mem.2 (.inl ⟨a, ha, rfl⟩)
      have w3 : Way (againL F) (y + 1) u2 v2 0 (F.fin.getD y.toNat 0 + c2) := by
        refine Way.sil (t := 0) (againL_mem.2 (.inr (.inr ⟨y.toNat, by omega, hyf, ?_⟩))) ih
        rw [show (1 : Int) + (y.toNat : Int) = y + 1 by omega]
      have w5 : Way (againL F) 0 (u1 ++ u2) (v1 ++ v2) 0 (0 + (d1 + (F.fin.getD y.toNat 0 + c2))) := Way.sil (t := 1 + F.start) (againL_mem.2 (.inr (.inl rfl))) (by rw [Int.add_comm 1]; exact w1.app w3)
      rw [show d1 + F.fin.getD y.toNat 0 + c2 = 0 + (d1 + (F.fin.getD y.toNat 0 + c2)) by omega]
      exact w5

end Go.Fw

namespace Go.Fw
open Go Go.Proofs

theorem ends_c (F : TF) : Ct Try.prog 85 [fV F] [] (hpF F) 2 (fun v s => v = .c (.fn 112 [(2, 0)]) ∧ s = ⟨[], [(2, .box 25 (onF F))], 3⟩) := by
  refine ctW Try.tyOk 3 [] Try.func85 rfl (by simp [SV.lt, SA.lt, SC.lt, arcV, fV]) (by simp) (fr := [(0, fV F)]) rfl ?_
  repeat' (first | exact rfl | ((conv => whnf); first | ((first | refine qA (fun h => ?_) fun h => ?_ | refine qN (fun h => ?_) fun h => ?_ | refine qB (fun h => ?_) fun h => ?_ | refine qC (fun h => ?_) fun h => ?_) <;> try exact absurd h (by omega)) | refine qM (fun h => ?_) fun h => ?_ | refine oM (by (first | omega | (simp only [lenS, InI, nmin, EK.sz]; omega) | (simp only [lenS, InI, nmin, EK.sz] at *; omega))) ?_ | refine oM ?_ ?_ | refine bM ?_ ?_ | refine draw_of Try.mixed Try.tyOk 60 (by kernel_rfl) ?_))
  (conv => whnf)
  refine ⟨[], [(2, .box 25 (onF F))], 3, .c (.fn 112 [(2, 0)]), ⟨by rfl, trivial, by simp [eqFr, eqHp, eqV, eqA, eqC, eqO, eqCs, eqAs, look_cons, look, rn, EK.cast, EK.sz, eqCaps]⟩, by simp [eqV, eqA, eqC, eqCaps, rn, look], rfl, rfl⟩

set_option maxHeartbeats 4000000 in
set_option maxRecDepth 20000 in
theorem behind_no (F G : TF) (hF : F.fin.length ≤ 9223372036854775807) (hG : G.fin.length ≤ 9223372036854775807) (h : ready2E F G ≠ 0) : Ct Try.prog 39 [fV F, gV G] [] (hpG F G) 4 (Is 4 (noT (ready2E F G))) := by
  refine ctW Try.tyOk 12 [35, 36] Try.func39 rfl (by simp [SV.lt, SA.lt, SC.lt, fV, gV]) (by simp) (fr := [(0, fV F), (1, gV G)]) rfl ?_
  repeat' (first | exact rfl | ((conv => whnf); first | ((first | refine qA (fun h => ?_) fun h => ?_ | refine qN (fun h => ?_) fun h => ?_ | refine qB (fun h => ?_) fun h => ?_ | refine qC (fun h => ?_) fun h => ?_) <;> try exact absurd h (by omega)) | refine qM (fun h => ?_) fun h => ?_ | refine oM (by (first | omega | (simp only [lenS, InI, nmin, EK.sz]; omega) | (simp only [lenS, InI, nmin, EK.sz] at *; omega))) ?_ | refine oM ?_ ?_ | refine bM ?_ ?_ | refine draw_of Try.mixed Try.tyOk 60 (by kernel_rfl) ?_))
  (conv => whnf)
  refine callF (ready2_c F G hF hG) [0, 1, 2, 3, 7] Try.call78 rfl (by simp [eqLs, eqL, eqO, eqC, eqCs, rn, renOf, look_cons, look, EK.cast, gV, two, appN]) (by simp [appN, ptrs, eqVL, eqV, eqA, eqC, eqCs, eqAs, eqCaps, EK.sz, rn, renOf, look_cons, look, arcV, fV, gV, two, appN]) (by simp [appN, ptrs, SV.lt, SA.lt, SC.lt, arcV, fV, lenN]) ?_
  rintro _ _ ⟨rfl, rfl⟩
  repeat' (first | exact rfl | ((conv => whnf); first | ((first | refine qA (fun h => ?_) fun h => ?_ | refine qN (fun h => ?_) fun h => ?_ | refine qB (fun h => ?_) fun h => ?_ | refine qC (fun h => ?_) fun h => ?_) <;> try exact absurd h (by omega)) | refine qM (fun h => ?_) fun h => ?_ | refine oM (by (first | omega | (simp only [lenS, InI, nmin, EK.sz]; omega) | (simp only [lenS, InI, nmin, EK.sz] at *; omega))) ?_ | refine oM ?_ ?_ | refine bM ?_ ?_ | refine draw_of Try.mixed Try.tyOk 60 (by kernel_rfl) ?_))
  (conv => whnf)
  refine Back.is ?_
  simp [eqV, eqA, eqAs, eqC, eqCs]

/-- Raw arcs of Behind before the silent arcs of the ends. -/
def behind0 (F G : TF) : List Arc := F.arcs.map (shA 1) ++ G.arcs.map (shA (1 + F.st)) ++ [silA 0 (1 + F.start) 0]
def behindF (F G : TF) : List Int := -1 :: (F.fin.map goneF ++ G.fin)

set_option maxHeartbeats 8000000 in
set_option maxRecDepth 20000 in
theorem behind_ok (F G : TF) (hF : F.fin.length ≤ 9223372036854775807) (hG : G.fin.length ≤ 9223372036854775807) (h : ready2E F G = 0) : Ct Try.prog 39 [fV F, gV G] [] (hpG F G) 4 (JoinPost (1 + F.st + G.st) (behindF F G) (behindL F G) 4) := by
  have hr := readyE_ok h
  have hFG := allE_ok hr.1
  have oF := fstE_ok hFG.1
  have oG := fstE_ok hFG.2
  have f1 := oF.st
  have f2 := oF.finl
  have f3 := oF.start
  have f4 := oF.arcl
  have g1 := oG.st
  have g2 := oG.finl
  have g3 := oG.start
  have g4 := oG.arcl
  have hBl : (behind0 F G).length ≤ 10000 := by simp [behind0]; omega
  refine ctR2 Try.tyOk Try.func39 rfl (by simp [SV.lt, SA.lt, SC.lt, fV, gV]) (by simp) (fr := [(0, fV F), (1, gV G)]) rfl 12 [34] 6
    (fun x : Nat × Nat => ⟨[(3, .c (.ptr 5 0)), (4, .c (.ptr 6 0)), (7, .c (.ptr 10 0)), (8, .c (.ptr 11 0)), (9, .c (.ptr 12 0)), (34, .c (.fn 112 [(4, 0)]))],
      [(0, .arr false 3 .int F.fin 0), (1, .arr false 47 .arc F.arcs 0), (2, .arr false 3 .int G.fin 0), (3, .arr false 47 .arc G.arcs 0), (4, .box 25 (onF F)), (5, .box 25 [.i G.st, .i G.start, .sl 2 1 0 G.fin.length G.capF, .sl 3 5 0 G.arcs.length G.capA]), (6, .box 25 [.i 0, .i 0, .v (.slice none 0 0), .v (.slice none 0 0)]),
        (7, .box 130 (jCells (1 + F.st + G.st) 8 9 (behindF F G) (behind0 F G) x.1 x.2)), (8, .arr true 3 .int (behindF F G) x.1), (9, .arr true 47 .arc (behind0 F G) x.2), (10, .box 95 [.ptr 7 0]), (11, .box 3 [.i 1]), (12, .box 3 [.i (1 + F.st)])], 13⟩)
    (fun _ => True) rfl Try.func112 rfl Try.call112 (fun _ => rfl) (by decide) (by simp) 5 [6, 7, 8] ?_ ?_
  · repeat' (first | exact rfl | ((conv => whnf); first | ((first | refine qA (fun h => ?_) fun h => ?_ | refine qN (fun h => ?_) fun h => ?_ | refine qB (fun h => ?_) fun h => ?_ | refine qC (fun h => ?_) fun h => ?_) <;> try exact absurd h (by omega)) | refine qM (fun h => ?_) fun h => ?_ | refine oM (by (first | omega | (simp only [lenS, InI, nmin, EK.sz]; omega) | (simp only [lenS, InI, nmin, EK.sz] at *; omega))) ?_ | refine oM ?_ ?_ | refine bM ?_ ?_ | refine draw_of Try.mixed Try.tyOk 60 (by kernel_rfl) ?_))
    (conv => whnf)
    refine callF (ready2_c F G hF hG) [0, 1, 2, 3, 7] Try.call78 rfl (by simp [eqLs, eqL, eqO, eqC, eqCs, rn, renOf, look_cons, look, EK.cast, gV, two, appN]) (by simp [appN, ptrs, eqVL, eqV, eqA, eqC, eqCs, eqAs, eqCaps, EK.sz, rn, renOf, look_cons, look, arcV, fV, gV, two, appN]) (by simp [appN, ptrs, SV.lt, SA.lt, SC.lt, arcV, fV, lenN]) ?_
    rintro _ _ ⟨rfl, rfl⟩
    rw [show readyE (allE F G) (F.st + G.st) ((F.arcs.length : Int) + (G.arcs.length : Int)) = 0 from h]
    repeat' (first | exact rfl | ((conv => whnf); first | ((first | refine qA (fun h => ?_) fun h => ?_ | refine qN (fun h => ?_) fun h => ?_ | refine qB (fun h => ?_) fun h => ?_ | refine qC (fun h => ?_) fun h => ?_) <;> try exact absurd h (by omega)) | refine qM (fun h => ?_) fun h => ?_ | refine oM (by (first | omega | (simp only [lenS, InI, nmin, EK.sz]; omega) | (simp only [lenS, InI, nmin, EK.sz] at *; omega))) ?_ | refine oM ?_ ?_ | refine bM ?_ ?_ | refine draw_of Try.mixed Try.tyOk 60 (by kernel_rfl) ?_ | intro _))
    (conv => whnf)
    refine callF (begin_c (-1)) [] Try.call79 rfl (by simp [eqLs, eqL, eqO, eqC, eqCs, rn, renOf, look_cons, look, EK.cast]) (by simp [appN, ptrs, eqVL, eqV, eqA, eqC, eqCs, eqAs, eqCaps, EK.sz, rn, renOf, look_cons, look, arcV, fV]) (by simp [appN, ptrs, SV.lt, SA.lt, SC.lt, arcV, fV, lenN]) ?_
    rintro _ _ ⟨rfl, rfl⟩
    repeat' (first | exact rfl | ((conv => whnf); first | ((first | refine qA (fun h => ?_) fun h => ?_ | refine qN (fun h => ?_) fun h => ?_ | refine qB (fun h => ?_) fun h => ?_ | refine qC (fun h => ?_) fun h => ?_) <;> try exact absurd h (by omega)) | refine qM (fun h => ?_) fun h => ?_ | refine oM (by (first | omega | (simp only [lenS, InI, nmin, EK.sz]; omega) | (simp only [lenS, InI, nmin, EK.sz] at *; omega))) ?_ | refine oM ?_ ?_ | refine bM ?_ ?_ | refine draw_of Try.mixed Try.tyOk 60 (by kernel_rfl) ?_ | intro _))
    (conv => whnf)
    refine callF (take84_c F oF 1 [-1] [] 0 0 (by omega) (by simp) (by simp)) [0, 1, 8, 9, 10] Try.call80 rfl (by simp [eqLs, eqL, eqO, eqC, eqCs, rn, renOf, look_cons, look, EK.cast]) (by simp [appN, ptrs, eqVL, eqV, eqA, eqC, eqCs, eqAs, eqCaps, EK.sz, rn, renOf, look_cons, look, arcV, fV]) (by simp [appN, ptrs, SV.lt, SA.lt, SC.lt, arcV, fV, lenN]) ?_
    rintro _ _ ⟨p, q, rfl, rfl⟩
    have z1 : ([-1] ++ F.fin.map goneF).length ≤ 1000000 := by simp; omega
    have z2 : (([] : List Arc) ++ F.arcs.map (shA 1)).length ≤ 1000000 := by simp; omega
    repeat' (first | exact rfl | ((conv => whnf); first | ((first | refine qA (fun h => ?_) fun h => ?_ | refine qN (fun h => ?_) fun h => ?_ | refine qB (fun h => ?_) fun h => ?_ | refine qC (fun h => ?_) fun h => ?_) <;> try exact absurd h (by omega)) | refine qM (fun h => ?_) fun h => ?_ | refine oM (by (first | omega | (simp only [lenS, InI, nmin, EK.sz]; omega) | (simp only [lenS, InI, nmin, EK.sz] at *; omega))) ?_ | refine oM ?_ ?_ | refine bM ?_ ?_ | refine draw_of Try.mixed Try.tyOk 60 (by kernel_rfl) ?_ | intro _))
    (conv => whnf)
    refine callF (take81_c G oG (1 + F.st) ([-1] ++ F.fin.map goneF) ([] ++ F.arcs.map (shA 1)) p q (by omega) z1 z2) [2, 3, 8, 12, 13] Try.call80 rfl (by simp [eqLs, eqL, eqO, eqC, eqCs, rn, renOf, look_cons, look, EK.cast, gV]) (by simp [appN, ptrs, eqVL, eqV, eqA, eqC, eqCs, eqAs, eqCaps, EK.sz, rn, renOf, look_cons, look, arcV, fV, gV]) (by simp [appN, ptrs, SV.lt, SA.lt, SC.lt, arcV, fV, lenN]) ?_
    rintro _ _ ⟨p2, q2, rfl, rfl⟩
    rw [map_stay]
    have z3 : (([] : List Arc) ++ F.arcs.map (shA 1) ++ G.arcs.map (shA (1 + F.st))).length ≤ 1000000 := by simp; omega
    repeat' (first | exact rfl | ((conv => whnf); first | ((first | refine qA (fun h => ?_) fun h => ?_ | refine qN (fun h => ?_) fun h => ?_ | refine qB (fun h => ?_) fun h => ?_ | refine qC (fun h => ?_) fun h => ?_) <;> try exact absurd h (by omega)) | refine qM (fun h => ?_) fun h => ?_ | refine oM (by (first | omega | (simp only [lenS, InI, nmin, EK.sz]; omega) | (simp only [lenS, InI, nmin, EK.sz] at *; omega))) ?_ | refine oM ?_ ?_ | refine bM ?_ ?_ | refine draw_of Try.mixed Try.tyOk 60 (by kernel_rfl) ?_ | intro _))
    (conv => whnf)
    refine callF (silent_c (1 + F.st + G.st) ([-1] ++ F.fin.map goneF ++ G.fin) ([] ++ F.arcs.map (shA 1) ++ G.arcs.map (shA (1 + F.st))) p2 q2 0 (1 + F.start) 0 z3) [8, 15, 16] Try.call82 rfl (by simp [eqLs, eqL, eqO, eqC, eqCs, rn, renOf, look_cons, look, EK.cast]) (by simp [appN, ptrs, eqVL, eqV, eqA, eqC, eqCs, eqAs, eqCaps, EK.sz, rn, renOf, look_cons, look, arcV, fV]) (by simp [appN, ptrs, SV.lt, SA.lt, SC.lt, arcV, fV, lenN]) ?_
    rintro _ _ ⟨q3, rfl, rfl⟩
    repeat' (first | exact rfl | ((conv => whnf); first | ((first | refine qA (fun h => ?_) fun h => ?_ | refine qN (fun h => ?_) fun h => ?_ | refine qB (fun h => ?_) fun h => ?_ | refine qC (fun h => ?_) fun h => ?_) <;> try exact absurd h (by omega)) | refine qM (fun h => ?_) fun h => ?_ | refine oM (by (first | omega | (simp only [lenS, InI, nmin, EK.sz]; omega) | (simp only [lenS, InI, nmin, EK.sz] at *; omega))) ?_ | refine oM ?_ ?_ | refine bM ?_ ?_ | refine draw_of Try.mixed Try.tyOk 60 (by kernel_rfl) ?_ | intro _))
    (conv => whnf)
    refine callF (ends_c F) [0, 1] Try.call85 rfl (by simp [eqLs, eqL, eqO, eqC, eqCs, rn, renOf, look_cons, look, EK.cast]) (by simp [appN, ptrs, eqVL, eqV, eqA, eqC, eqCs, eqAs, eqCaps, EK.sz, rn, renOf, look_cons, look, arcV, fV]) (by simp [appN, ptrs, SV.lt, SA.lt, SC.lt, arcV, fV, lenN]) ?_
    rintro _ _ ⟨rfl, rfl⟩
    repeat' (first | exact rfl | ((conv => whnf); first | ((first | refine qA (fun h => ?_) fun h => ?_ | refine qN (fun h => ?_) fun h => ?_ | refine qB (fun h => ?_) fun h => ?_ | refine qC (fun h => ?_) fun h => ?_) <;> try exact absurd h (by omega)) | refine qM (fun h => ?_) fun h => ?_ | refine oM (by (first | omega | (simp only [lenS, InI, nmin, EK.sz]; omega) | (simp only [lenS, InI, nmin, EK.sz] at *; omega))) ?_ | refine oM ?_ ?_ | refine bM ?_ ?_ | refine draw_of Try.mixed Try.tyOk 60 (by kernel_rfl) ?_ | intro _))
    (conv => whnf)
    refine ⟨(p2, q3), [(4, some 19), (7, some 8), (8, some 15), (9, some 18), (10, some 11), (11, some 14), (12, some 17)], ⟨by rfl, ?_, ?_⟩, trivial⟩
    · simp [eqFr, eqHp, eqV, eqA, eqC, eqO, eqCs, eqAs, look_cons, look, rn, EK.cast, EK.sz, eqCaps]
    · simp [eqFr, eqHp, eqV, eqA, eqC, eqO, eqCs, eqAs, look_cons, look, rn, EK.cast, EK.sz, eqCaps, gV, behindF, behind0]
  · rintro ⟨sp, sq⟩ _ l D r β1 hrec
    dsimp only at hrec ⊢
    repeat' (first | exact rfl | ((conv => whnf); first | ((first | refine qA (fun h => ?_) fun h => ?_ | refine qN (fun h => ?_) fun h => ?_ | refine qB (fun h => ?_) fun h => ?_ | refine qC (fun h => ?_) fun h => ?_) <;> try exact absurd h (by omega)) | refine qM (fun h => ?_) fun h => ?_ | refine oM (by (first | omega | (simp only [lenS, InI, nmin, EK.sz]; omega) | (simp only [lenS, InI, nmin, EK.sz] at *; omega))) ?_ | refine oM ?_ ?_ | refine bM ?_ ?_ | refine draw_of Try.mixed Try.tyOk 60 (by kernel_rfl) ?_ | intro _))
    (conv => whnf)
    refine loopI (fun y : Nat × Nat => ⟨[(0, .c (.v (.func (.yield l) #[] #[]))), (1, .c (.ptr 4 0)), (6, .c (.sl 0 1 0 F.fin.length F.capF)), (7, .i F.fin.length), (8, .i y.1)],
      [(0, .arr false 3 .int F.fin 0), (1, .arr false 47 .arc F.arcs 0), (2, .arr false 3 .int G.fin 0), (3, .arr false 47 .arc G.arcs 0), (4, .box 25 (onF F)), (5, .box 25 [.i G.st, .i G.start, .sl 2 1 0 G.fin.length G.capF, .sl 3 5 0 G.arcs.length G.capA]), (6, .box 25 [.i 0, .i 0, .v (.slice none 0 0), .v (.slice none 0 0)]),
        (7, .box 130 (jCells (1 + F.st + G.st) 8 15 (behindF F G) (behind0 F G ++ endsL 1 (1 + F.st + G.start) F.fin y.1) sp y.2)), (8, .arr true 3 .int (behindF F G) sp), (15, .arr true 47 .arc (behind0 F G ++ endsL 1 (1 + F.st + G.start) F.fin y.1) y.2), (10, .box 95 [.ptr 7 0]), (11, .box 3 [.i 1]), (12, .box 3 [.i (1 + F.st)]), (14, loopO l r), (13, markO D)], 16⟩)
      (fun y => y.1 ≤ F.fin.length) (fun y => F.fin.length - y.1) (0, sq) [(15, some 9)] ⟨by rfl, ?_, ?_⟩ (Nat.zero_le _) ?_
    · simp [eqFr, eqHp, eqV, eqA, eqC, eqO, eqCs, eqAs, look_cons, look, rn, EK.cast, EK.sz, eqCaps]
    · simp [eqFr, eqHp, eqV, eqA, eqC, eqO, eqCs, eqAs, look_cons, look, rn, EK.cast, EK.sz, eqCaps, endsL, loopO, markO]
    · rintro ⟨k, q⟩ hk
      simp only at hk ⊢
      have hel := endsL_len 1 (1 + F.st + G.start) F.fin k
      have hes : endsL 1 (1 + F.st + G.start) F.fin (k + 1) = endsL 1 (1 + F.st + G.start) F.fin k ++ (if F.fin.getD k 0 = -1 then [] else [silA (1 + k) (1 + F.st + G.start) (F.fin.getD k 0)]) := rfl
      have hel2 : (behind0 F G ++ endsL 1 (1 + F.st + G.start) F.fin k).length ≤ 20000 := by simp; omega
      have e0 : 0 + (k : Int).toNat = k := by omega
      repeat' (first | exact rfl | ((conv => whnf); first | ((first | refine qA (fun h => ?_) fun h => ?_ | refine qN (fun h => ?_) fun h => ?_ | refine qB (fun h => ?_) fun h => ?_ | refine qC (fun h => ?_) fun h => ?_) <;> try exact absurd h (by omega)) | refine qM (fun h => ?_) fun h => ?_ | refine oM (by (first | omega | (simp only [lenS, InI, nmin, EK.sz]; omega) | (simp only [lenS, InI, nmin, EK.sz] at *; omega))) ?_ | refine oM ?_ ?_ | refine bM ?_ ?_ | refine draw_of Try.mixed Try.tyOk 60 (by kernel_rfl) ?_ | intro _))
      · (conv => whnf)
        refine yieldR (id := 14) Try.tyOk hrec rfl rfl rfl rfl rfl rfl rfl rfl ?_
        repeat' (first | exact rfl | ((conv => whnf); first | ((first | refine qA (fun h => ?_) fun h => ?_ | refine qN (fun h => ?_) fun h => ?_ | refine qB (fun h => ?_) fun h => ?_ | refine qC (fun h => ?_) fun h => ?_) <;> try exact absurd h (by omega)) | refine qM (fun h => ?_) fun h => ?_ | refine oM (by (first | omega | (simp only [lenS, InI, nmin, EK.sz]; omega) | (simp only [lenS, InI, nmin, EK.sz] at *; omega))) ?_ | refine oM ?_ ?_ | refine bM ?_ ?_ | refine draw_of Try.mixed Try.tyOk 60 (by kernel_rfl) ?_ | intro _))
        · exact ⟨rfl, rfl⟩
        (conv => whnf)
        refine callF (silent_c (1 + F.st + G.st) (behindF F G) (behind0 F G ++ endsL 1 (1 + F.st + G.start) F.fin k) sp q (1 + k) (1 + F.st + G.start) (F.fin.getD (0 + (k : Int).toNat) EK.int.dflt) (by omega)) [7, 8, 15] Try.call82 rfl (by simp [eqLs, eqL, eqO, eqC, eqCs, rn, renOf, look_cons, look, EK.cast]) (by simp [appN, ptrs, eqVL, eqV, eqA, eqC, eqCs, eqAs, eqCaps, EK.sz, rn, renOf, look_cons, look, arcV, fV]) (by simp [appN, ptrs, SV.lt, SA.lt, SC.lt, arcV, fV, lenN]) ?_
        rintro _ _ ⟨q2, rfl, rfl⟩
        repeat' (first | exact rfl | ((conv => whnf); first | ((first | refine qA (fun h => ?_) fun h => ?_ | refine qN (fun h => ?_) fun h => ?_ | refine qB (fun h => ?_) fun h => ?_ | refine qC (fun h => ?_) fun h => ?_) <;> try exact absurd h (by omega)) | refine qM (fun h => ?_) fun h => ?_ | refine oM (by (first | omega | (simp only [lenS, InI, nmin, EK.sz]; omega) | (simp only [lenS, InI, nmin, EK.sz] at *; omega))) ?_ | refine oM ?_ ?_ | refine bM ?_ ?_ | refine draw_of Try.mixed Try.tyOk 60 (by kernel_rfl) ?_ | intro _))
        (conv => whnf)
        refine ⟨(k + 1, q2), [(15, some 16)], ⟨by rfl, ?_, ?_⟩, by simp only; omega, by simp only; omega⟩
        · simp [eqFr, eqHp, eqV, eqA, eqC, eqO, eqCs, eqAs, look_cons, look, rn, EK.cast, EK.sz, eqCaps]
        · have hes2 : behind0 F G ++ endsL 1 (1 + F.st + G.start) F.fin (k + 1) = behind0 F G ++ endsL 1 (1 + F.st + G.start) F.fin k ++ [silA (1 + k) (1 + F.st + G.start) (F.fin.getD (0 + (k : Int).toNat) EK.int.dflt)] := by
            rw [hes, if_neg (by rw [← e0]; exact ‹¬F.fin.getD (0 + (k : Int).toNat) EK.int.dflt = -1›), List.append_assoc, e0]
            rfl
          simp [eqFr, eqHp, eqV, eqA, eqC, eqO, eqCs, eqAs, look_cons, look, rn, EK.cast, EK.sz, eqCaps, hes2, loopO, markO]
      · (conv => whnf)
        refine ⟨(k + 1, q), [], ⟨by rfl, ?_, ?_⟩, by simp only; omega, by simp only; omega⟩
        · simp [eqFr, eqHp, eqV, eqA, eqC, eqO, eqCs, eqAs, look_cons, look, rn, EK.cast, EK.sz, eqCaps]
        · have hes2 : endsL 1 (1 + F.st + G.start) F.fin (k + 1) = endsL 1 (1 + F.st + G.start) F.fin k := by
            rw [hes, if_pos (by rw [← e0]; exact ‹_›), List.append_nil]
          simp [eqFr, eqHp, eqV, eqA, eqC, eqO, eqCs, eqAs, look_cons, look, rn, EK.cast, EK.sz, eqCaps, hes2, loopO, markO]
      · have e : k = F.fin.length := by omega
        subst e
        have z1 : (behind0 F G ++ endsL 1 (1 + F.st + G.start) F.fin F.fin.length).length ≤ 1000000 := by omega
        (conv => whnf)
        refine callF (done_c (1 + F.st + G.st) (behindF F G) (behind0 F G ++ endsL 1 (1 + F.st + G.start) F.fin F.fin.length) sp q z1) [7, 8, 15] Try.call83 rfl (by simp [eqLs, eqL, eqO, eqC, eqCs, rn, renOf, look_cons, look, EK.cast]) (by simp [appN, ptrs, eqVL, eqV, eqA, eqC, eqCs, eqAs, eqCaps, EK.sz, rn, renOf, look_cons, look, arcV, fV]) (by simp [appN, ptrs, SV.lt, SA.lt, SC.lt, arcV, fV, lenN]) ?_
        rintro _ _ ⟨zs, sq', rfl, rfl, hz⟩
        repeat' (first | exact rfl | ((conv => whnf); first | ((first | refine qA (fun h => ?_) fun h => ?_ | refine qN (fun h => ?_) fun h => ?_ | refine qB (fun h => ?_) fun h => ?_ | refine qC (fun h => ?_) fun h => ?_) <;> try exact absurd h (by omega)) | refine qM (fun h => ?_) fun h => ?_ | refine oM (by (first | omega | (simp only [lenS, InI, nmin, EK.sz]; omega) | (simp only [lenS, InI, nmin, EK.sz] at *; omega))) ?_ | refine oM ?_ ?_ | refine bM ?_ ?_ | refine draw_of Try.mixed Try.tyOk 60 (by kernel_rfl) ?_ | intro _))
        (conv => whnf)
        refine ⟨[(4, some 8), (5, some 15)], [(4, .arr true 3 .int (behindF F G) sp), (5, .arr true 47 .arc zs sq')], 6, .tup [.agg [.i (1 + F.st + G.st), .i 0, .sl 4 1 0 (behindF F G).length ((behindF F G).length + sp), .sl 5 5 0 zs.length (zs.length + sq')], .c (.i 0)], ⟨by rfl, trivial, by simp [eqFr, eqHp, eqV, eqA, eqC, eqO, eqCs, eqAs, look_cons, look, rn, EK.cast, EK.sz, eqCaps]⟩, by simp [eqV, eqA, eqAs, eqC, eqCs, rn, look, look_cons, EK.sz], zs, sp, sq', rfl, rfl, hz⟩
end Go.Fw
