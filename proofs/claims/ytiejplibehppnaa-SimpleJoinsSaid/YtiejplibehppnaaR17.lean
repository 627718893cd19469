/- Walks of the functions: what each computes. -/
import Derived.Test.YtiejplibehppnaaR16
import Derived.Test.YtiejplibehppnaaR13
import Derived.Test.YtiejplibehppnaaR10
import Derived.Test.YtiejplibehppnaaR06

set_option linter.unusedSimpArgs false
set_option linter.unusedVariables false

namespace Go.Fw
open Go Go.Proofs

abbrev ready1E (F : TF) : Int := readyE (fstE F) F.st (F.arcs.length : Int)

set_option maxHeartbeats 4000000 in
set_option maxRecDepth 20000 in
theorem again_no (F : TF) (hF : F.fin.length ≤ 9223372036854775807) (h : ready1E F ≠ 0) : Ct Try.prog 40 [fV F] [] (hpF F) 2 (Is 2 (noT (ready1E F))) := by
  refine ctW Try.tyOk 9 [28, 29] Try.func40 rfl (by simp [SV.lt, SA.lt, SC.lt, arcV, fV]) (by simp) (fr := [(0, fV F)]) rfl ?_
  repeat' (first | exact rfl | ((conv => whnf); first | ((first | refine qA (fun h => ?_) fun h => ?_ | refine qN (fun h => ?_) fun h => ?_ | refine qB (fun h => ?_) fun h => ?_ | refine qC (fun h => ?_) fun h => ?_) <;> try exact absurd h (by omega)) | refine qM (fun h => ?_) fun h => ?_ | refine oM (by (first | omega | (simp only [lenS, InI, nmin, EK.sz]; omega) | (simp only [lenS, InI, nmin, EK.sz] at *; omega))) ?_ | refine oM ?_ ?_ | refine bM ?_ ?_ | refine draw_of Try.mixed Try.tyOk 60 (by kernel_rfl) ?_))
  (conv => whnf)
  refine callF (ready1_c F hF) [0, 1, 4] Try.call78 rfl (by simp [eqLs, eqL, eqO, eqC, eqCs, rn, renOf, look_cons, look, EK.cast, appN]) (by simp [appN, ptrs, eqVL, eqV, eqA, eqC, eqCs, eqAs, eqCaps, EK.sz, rn, renOf, look_cons, look, arcV, fV, appN]) (by simp [appN, ptrs, SV.lt, SA.lt, SC.lt, arcV, fV, lenN]) ?_
  rintro _ _ ⟨rfl, rfl⟩
  repeat' (first | exact rfl | ((conv => whnf); first | ((first | refine qA (fun h => ?_) fun h => ?_ | refine qN (fun h => ?_) fun h => ?_ | refine qB (fun h => ?_) fun h => ?_ | refine qC (fun h => ?_) fun h => ?_) <;> try exact absurd h (by omega)) | refine qM (fun h => ?_) fun h => ?_ | refine oM (by (first | omega | (simp only [lenS, InI, nmin, EK.sz]; omega) | (simp only [lenS, InI, nmin, EK.sz] at *; omega))) ?_ | refine oM ?_ ?_ | refine bM ?_ ?_ | refine draw_of Try.mixed Try.tyOk 60 (by kernel_rfl) ?_))
  (conv => whnf)
  refine Back.is ?_
  simp [eqV, eqA, eqAs, eqC, eqCs]

def again0 (F : TF) : List Arc := F.arcs.map (shA 1) ++ [silA 0 (1 + F.start) 0]
def againF (F : TF) : List Int := 0 :: F.fin.map goneF

set_option maxHeartbeats 8000000 in
set_option maxRecDepth 20000 in
theorem again_ok (F : TF) (hF : F.fin.length ≤ 9223372036854775807) (h : ready1E F = 0) : Ct Try.prog 40 [fV F] [] (hpF F) 2 (JoinPost (1 + F.st) (againF F) (againL F) 2) := by
  have hr := readyE_ok h
  have oF := fstE_ok hr.1
  have f1 := oF.st
  have f2 := oF.finl
  have f3 := oF.start
  have f4 := oF.arcl
  have hBl : (again0 F).length ≤ 10000 := by simp [again0]; omega
  refine ctR2 Try.tyOk Try.func40 rfl (by simp [SV.lt, SA.lt, SC.lt, fV]) (by simp) (fr := [(0, fV F)]) rfl 9 [27] 5
    (fun x : Nat × Nat => ⟨[(2, .c (.ptr 3 0)), (5, .c (.ptr 7 0)), (6, .c (.ptr 8 0)), (27, .c (.fn 112 [(2, 0)]))],
      [(0, .arr false 3 .int F.fin 0), (1, .arr false 47 .arc F.arcs 0), (2, .box 25 (onF F)), (3, .box 25 [.i 0, .i 0, .v (.slice none 0 0), .v (.slice none 0 0)]),
        (4, .box 130 (jCells (1 + F.st) 5 6 (againF F) (again0 F) x.1 x.2)), (5, .arr true 3 .int (againF F) x.1), (6, .arr true 47 .arc (again0 F) x.2), (7, .box 95 [.ptr 4 0]), (8, .box 3 [.i 1])], 9⟩)
    (fun _ => True) rfl Try.func112 rfl Try.call112 (fun _ => rfl) (by decide) (by simp) 5 [6, 7, 8] ?_ ?_
  · repeat' (first | exact rfl | ((conv => whnf); first | ((first | refine qA (fun h => ?_) fun h => ?_ | refine qN (fun h => ?_) fun h => ?_ | refine qB (fun h => ?_) fun h => ?_ | refine qC (fun h => ?_) fun h => ?_) <;> try exact absurd h (by omega)) | refine qM (fun h => ?_) fun h => ?_ | refine oM (by (first | omega | (simp only [lenS, InI, nmin, EK.sz]; omega) | (simp only [lenS, InI, nmin, EK.sz] at *; omega))) ?_ | refine oM ?_ ?_ | refine bM ?_ ?_ | refine draw_of Try.mixed Try.tyOk 60 (by kernel_rfl) ?_))
    (conv => whnf)
    refine callF (ready1_c F hF) [0, 1, 4] Try.call78 rfl (by simp [eqLs, eqL, eqO, eqC, eqCs, rn, renOf, look_cons, look, EK.cast, appN]) (by simp [appN, ptrs, eqVL, eqV, eqA, eqC, eqCs, eqAs, eqCaps, EK.sz, rn, renOf, look_cons, look, arcV, fV, appN]) (by simp [appN, ptrs, SV.lt, SA.lt, SC.lt, arcV, fV, lenN]) ?_
    rintro _ _ ⟨rfl, rfl⟩
    rw [show readyE (fstE F) F.st (F.arcs.length : Int) = 0 from h]
    repeat' (first | exact rfl | ((conv => whnf); first | ((first | refine qA (fun h => ?_) fun h => ?_ | refine qN (fun h => ?_) fun h => ?_ | refine qB (fun h => ?_) fun h => ?_ | refine qC (fun h => ?_) fun h => ?_) <;> try exact absurd h (by omega)) | refine qM (fun h => ?_) fun h => ?_ | refine oM (by (first | omega | (simp only [lenS, InI, nmin, EK.sz]; omega) | (simp only [lenS, InI, nmin, EK.sz] at *; omega))) ?_ | refine oM ?_ ?_ | refine bM ?_ ?_ | refine draw_of Try.mixed Try.tyOk 60 (by kernel_rfl) ?_ | intro _))
    (conv => whnf)
    refine callF (begin_c 0) [] Try.call79 rfl (by simp [eqLs, eqL, eqO, eqC, eqCs, rn, renOf, look_cons, look, EK.cast]) (by simp [appN, ptrs, eqVL, eqV, eqA, eqC, eqCs, eqAs, eqCaps, EK.sz, rn, renOf, look_cons, look, arcV, fV]) (by simp [appN, ptrs, SV.lt, SA.lt, SC.lt, arcV, fV, lenN]) ?_
    rintro _ _ ⟨rfl, rfl⟩
    repeat' (first | exact rfl | ((conv => whnf); first | ((first | refine qA (fun h => ?_) fun h => ?_ | refine qN (fun h => ?_) fun h => ?_ | refine qB (fun h => ?_) fun h => ?_ | refine qC (fun h => ?_) fun h => ?_) <;> try exact absurd h (by omega)) | refine qM (fun h => ?_) fun h => ?_ | refine oM (by (first | omega | (simp only [lenS, InI, nmin, EK.sz]; omega) | (simp only [lenS, InI, nmin, EK.sz] at *; omega))) ?_ | refine oM ?_ ?_ | refine bM ?_ ?_ | refine draw_of Try.mixed Try.tyOk 60 (by kernel_rfl) ?_ | intro _))
    (conv => whnf)
    refine callF (take84_c F oF 1 [0] [] 0 0 (by omega) (by simp) (by simp)) [0, 1, 5, 6, 7] Try.call80 rfl (by simp [eqLs, eqL, eqO, eqC, eqCs, rn, renOf, look_cons, look, EK.cast]) (by simp [appN, ptrs, eqVL, eqV, eqA, eqC, eqCs, eqAs, eqCaps, EK.sz, rn, renOf, look_cons, look, arcV, fV]) (by simp [appN, ptrs, SV.lt, SA.lt, SC.lt, arcV, fV, lenN]) ?_
    rintro _ _ ⟨p, q, rfl, rfl⟩
    have z3 : (([] : List Arc) ++ F.arcs.map (shA 1)).length ≤ 1000000 := by simp; omega
    repeat' (first | exact rfl | ((conv => whnf); first | ((first | refine qA (fun h => ?_) fun h => ?_ | refine qN (fun h => ?_) fun h => ?_ | refine qB (fun h => ?_) fun h => ?_ | refine qC (fun h => ?_) fun h => ?_) <;> try exact absurd h (by omega)) | refine qM (fun h => ?_) fun h => ?_ | refine oM (by (first | omega | (simp only [lenS, InI, nmin, EK.sz]; omega) | (simp only [lenS, InI, nmin, EK.sz] at *; omega))) ?_ | refine oM ?_ ?_ | refine bM ?_ ?_ | refine draw_of Try.mixed Try.tyOk 60 (by kernel_rfl) ?_ | intro _))
    (conv => whnf)
    refine callF (silent_c (1 + F.st) ([0] ++ F.fin.map goneF) ([] ++ F.arcs.map (shA 1)) p q 0 (1 + F.start) 0 z3) [5, 9, 10] Try.call82 rfl (by simp [eqLs, eqL, eqO, eqC, eqCs, rn, renOf, look_cons, look, EK.cast]) (by simp [appN, ptrs, eqVL, eqV, eqA, eqC, eqCs, eqAs, eqCaps, EK.sz, rn, renOf, look_cons, look, arcV, fV]) (by simp [appN, ptrs, SV.lt, SA.lt, SC.lt, arcV, fV, lenN]) ?_
    rintro _ _ ⟨q3, rfl, rfl⟩
    repeat' (first | exact rfl | ((conv => whnf); first | ((first | refine qA (fun h => ?_) fun h => ?_ | refine qN (fun h => ?_) fun h => ?_ | refine qB (fun h => ?_) fun h => ?_ | refine qC (fun h => ?_) fun h => ?_) <;> try exact absurd h (by omega)) | refine qM (fun h => ?_) fun h => ?_ | refine oM (by (first | omega | (simp only [lenS, InI, nmin, EK.sz]; omega) | (simp only [lenS, InI, nmin, EK.sz] at *; omega))) ?_ | refine oM ?_ ?_ | refine bM ?_ ?_ | refine draw_of Try.mixed Try.tyOk 60 (by kernel_rfl) ?_ | intro _))
    (conv => whnf)
    refine callF (ends_c F) [0, 1] Try.call85 rfl (by simp [eqLs, eqL, eqO, eqC, eqCs, rn, renOf, look_cons, look, EK.cast]) (by simp [appN, ptrs, eqVL, eqV, eqA, eqC, eqCs, eqAs, eqCaps, EK.sz, rn, renOf, look_cons, look, arcV, fV]) (by simp [appN, ptrs, SV.lt, SA.lt, SC.lt, arcV, fV, lenN]) ?_
    rintro _ _ ⟨rfl, rfl⟩
    repeat' (first | exact rfl | ((conv => whnf); first | ((first | refine qA (fun h => ?_) fun h => ?_ | refine qN (fun h => ?_) fun h => ?_ | refine qB (fun h => ?_) fun h => ?_ | refine qC (fun h => ?_) fun h => ?_) <;> try exact absurd h (by omega)) | refine qM (fun h => ?_) fun h => ?_ | refine oM (by (first | omega | (simp only [lenS, InI, nmin, EK.sz]; omega) | (simp only [lenS, InI, nmin, EK.sz] at *; omega))) ?_ | refine oM ?_ ?_ | refine bM ?_ ?_ | refine draw_of Try.mixed Try.tyOk 60 (by kernel_rfl) ?_ | intro _))
    (conv => whnf)
    refine ⟨(p, q3), [(2, some 13), (4, some 5), (5, some 9), (6, some 12), (7, some 8), (8, some 11)], ⟨by rfl, ?_, ?_⟩, trivial⟩
    · simp [eqFr, eqHp, eqV, eqA, eqC, eqO, eqCs, eqAs, look_cons, look, rn, EK.cast, EK.sz, eqCaps]
    · simp [eqFr, eqHp, eqV, eqA, eqC, eqO, eqCs, eqAs, look_cons, look, rn, EK.cast, EK.sz, eqCaps, againF, again0]
  · rintro ⟨sp, sq⟩ _ l D r β1 hrec
    dsimp only at hrec ⊢
    repeat' (first | exact rfl | ((conv => whnf); first | ((first | refine qA (fun h => ?_) fun h => ?_ | refine qN (fun h => ?_) fun h => ?_ | refine qB (fun h => ?_) fun h => ?_ | refine qC (fun h => ?_) fun h => ?_) <;> try exact absurd h (by omega)) | refine qM (fun h => ?_) fun h => ?_ | refine oM (by (first | omega | (simp only [lenS, InI, nmin, EK.sz]; omega) | (simp only [lenS, InI, nmin, EK.sz] at *; omega))) ?_ | refine oM ?_ ?_ | refine bM ?_ ?_ | refine draw_of Try.mixed Try.tyOk 60 (by kernel_rfl) ?_ | intro _))
    (conv => whnf)
    refine loopI (fun y : Nat × Nat => ⟨[(0, .c (.v (.func (.yield l) #[] #[]))), (1, .c (.ptr 2 0)), (6, .c (.sl 0 1 0 F.fin.length F.capF)), (7, .i F.fin.length), (8, .i y.1)],
      [(0, .arr false 3 .int F.fin 0), (1, .arr false 47 .arc F.arcs 0), (2, .box 25 (onF F)), (3, .box 25 [.i 0, .i 0, .v (.slice none 0 0), .v (.slice none 0 0)]),
        (4, .box 130 (jCells (1 + F.st) 5 11 (againF F) (again0 F ++ endsL 1 0 F.fin y.1) sp y.2)), (5, .arr true 3 .int (againF F) sp), (11, .arr true 47 .arc (again0 F ++ endsL 1 0 F.fin y.1) y.2), (7, .box 95 [.ptr 4 0]), (8, .box 3 [.i 1]), (10, loopO l r), (9, markO D)], 12⟩)
      (fun y => y.1 ≤ F.fin.length) (fun y => F.fin.length - y.1) (0, sq) [(11, some 6)] ⟨by rfl, ?_, ?_⟩ (Nat.zero_le _) ?_
    · simp [eqFr, eqHp, eqV, eqA, eqC, eqO, eqCs, eqAs, look_cons, look, rn, EK.cast, EK.sz, eqCaps]
    · simp [eqFr, eqHp, eqV, eqA, eqC, eqO, eqCs, eqAs, look_cons, look, rn, EK.cast, EK.sz, eqCaps, endsL, loopO, markO]
    · rintro ⟨k, q⟩ hk
      simp only at hk ⊢
      have hel := endsL_len 1 0 F.fin k
      have hes : endsL 1 0 F.fin (k + 1) = endsL 1 0 F.fin k ++ (if F.fin.getD k 0 = -1 then [] else [silA (1 + k) 0 (F.fin.getD k 0)]) := rfl
      have hel2 : (again0 F ++ endsL 1 0 F.fin k).length ≤ 20000 := by simp; omega
      have e0 : 0 + (k : Int).toNat = k := by omega
      repeat' (first | exact rfl | ((conv => whnf); first | ((first | refine qA (fun h => ?_) fun h => ?_ | refine qN (fun h => ?_) fun h => ?_ | refine qB (fun h => ?_) fun h => ?_ | refine qC (fun h => ?_) fun h => ?_) <;> try exact absurd h (by omega)) | refine qM (fun h => ?_) fun h => ?_ | refine oM (by (first | omega | (simp only [lenS, InI, nmin, EK.sz]; omega) | (simp only [lenS, InI, nmin, EK.sz] at *; omega))) ?_ | refine oM ?_ ?_ | refine bM ?_ ?_ | refine draw_of Try.mixed Try.tyOk 60 (by kernel_rfl) ?_ | intro _))
      · (conv => whnf)
        refine yieldR (id := 10) Try.tyOk hrec rfl rfl rfl rfl rfl rfl rfl rfl ?_
        repeat' (first | exact rfl | ((conv => whnf); first | ((first | refine qA (fun h => ?_) fun h => ?_ | refine qN (fun h => ?_) fun h => ?_ | refine qB (fun h => ?_) fun h => ?_ | refine qC (fun h => ?_) fun h => ?_) <;> try exact absurd h (by omega)) | refine qM (fun h => ?_) fun h => ?_ | refine oM (by (first | omega | (simp only [lenS, InI, nmin, EK.sz]; omega) | (simp only [lenS, InI, nmin, EK.sz] at *; omega))) ?_ | refine oM ?_ ?_ | refine bM ?_ ?_ | refine draw_of Try.mixed Try.tyOk 60 (by kernel_rfl) ?_ | intro _))
        · exact ⟨rfl, rfl⟩
        (conv => whnf)
        refine callF (silent_c (1 + F.st) (againF F) (again0 F ++ endsL 1 0 F.fin k) sp q (1 + k) 0 (F.fin.getD (0 + (k : Int).toNat) EK.int.dflt) (by omega)) [4, 5, 11] Try.call82 rfl (by simp [eqLs, eqL, eqO, eqC, eqCs, rn, renOf, look_cons, look, EK.cast]) (by simp [appN, ptrs, eqVL, eqV, eqA, eqC, eqCs, eqAs, eqCaps, EK.sz, rn, renOf, look_cons, look, arcV, fV]) (by simp [appN, ptrs, SV.lt, SA.lt, SC.lt, arcV, fV, lenN]) ?_
        rintro _ _ ⟨q2, rfl, rfl⟩
        repeat' (first | exact rfl | ((conv => whnf); first | ((first | refine qA (fun h => ?_) fun h => ?_ | refine qN (fun h => ?_) fun h => ?_ | refine qB (fun h => ?_) fun h => ?_ | refine qC (fun h => ?_) fun h => ?_) <;> try exact absurd h (by omega)) | refine qM (fun h => ?_) fun h => ?_ | refine oM (by (first | omega | (simp only [lenS, InI, nmin, EK.sz]; omega) | (simp only [lenS, InI, nmin, EK.sz] at *; omega))) ?_ | refine oM ?_ ?_ | refine bM ?_ ?_ | refine draw_of Try.mixed Try.tyOk 60 (by kernel_rfl) ?_ | intro _))
        (conv => whnf)
        refine ⟨(k + 1, q2), [(11, some 12)], ⟨by rfl, ?_, ?_⟩, by simp only; omega, by simp only; omega⟩
        · simp [eqFr, eqHp, eqV, eqA, eqC, eqO, eqCs, eqAs, look_cons, look, rn, EK.cast, EK.sz, eqCaps]
        · have hes2 : again0 F ++ endsL 1 0 F.fin (k + 1) = again0 F ++ endsL 1 0 F.fin k ++ [silA (1 + k) 0 (F.fin.getD (0 + (k : Int).toNat) EK.int.dflt)] := by
            rw [hes, if_neg (by rw [← e0]; exact ‹¬F.fin.getD (0 + (k : Int).toNat) EK.int.dflt = -1›), List.append_assoc, e0]
            rfl
          simp [eqFr, eqHp, eqV, eqA, eqC, eqO, eqCs, eqAs, look_cons, look, rn, EK.cast, EK.sz, eqCaps, hes2, loopO, markO]
      · (conv => whnf)
        refine ⟨(k + 1, q), [], ⟨by rfl, ?_, ?_⟩, by simp only; omega, by simp only; omega⟩
        · simp [eqFr, eqHp, eqV, eqA, eqC, eqO, eqCs, eqAs, look_cons, look, rn, EK.cast, EK.sz, eqCaps]
        · have hes2 : endsL 1 0 F.fin (k + 1) = endsL 1 0 F.fin k := by
            rw [hes, if_pos (by rw [← e0]; exact ‹_›), List.append_nil]
          simp [eqFr, eqHp, eqV, eqA, eqC, eqO, eqCs, eqAs, look_cons, look, rn, EK.cast, EK.sz, eqCaps, hes2, loopO, markO]
      · have e : k = F.fin.length := by omega
        subst e
        have z1 : (again0 F ++ endsL 1 0 F.fin F.fin.length).length ≤ 1000000 := by omega
        (conv => whnf)
        refine callF (done_c (1 + F.st) (againF F) (again0 F ++ endsL 1 0 F.fin F.fin.length) sp q z1) [4, 5, 11] Try.call83 rfl (by simp [eqLs, eqL, eqO, eqC, eqCs, rn, renOf, look_cons, look, EK.cast]) (by simp [appN, ptrs, eqVL, eqV, eqA, eqC, eqCs, eqAs, eqCaps, EK.sz, rn, renOf, look_cons, look, arcV, fV]) (by simp [appN, ptrs, SV.lt, SA.lt, SC.lt, arcV, fV, lenN]) ?_
        rintro _ _ ⟨zs, sq', rfl, rfl, hz⟩
        repeat' (first | exact rfl | ((conv => whnf); first | ((first | refine qA (fun h => ?_) fun h => ?_ | refine qN (fun h => ?_) fun h => ?_ | refine qB (fun h => ?_) fun h => ?_ | refine qC (fun h => ?_) fun h => ?_) <;> try exact absurd h (by omega)) | refine qM (fun h => ?_) fun h => ?_ | refine oM (by (first | omega | (simp only [lenS, InI, nmin, EK.sz]; omega) | (simp only [lenS, InI, nmin, EK.sz] at *; omega))) ?_ | refine oM ?_ ?_ | refine bM ?_ ?_ | refine draw_of Try.mixed Try.tyOk 60 (by kernel_rfl) ?_ | intro _))
        (conv => whnf)
        refine ⟨[(2, some 5), (3, some 11)], [(2, .arr true 3 .int (againF F) sp), (3, .arr true 47 .arc zs sq')], 4, .tup [.agg [.i (1 + F.st), .i 0, .sl 2 1 0 (againF F).length ((againF F).length + sp), .sl 3 5 0 zs.length (zs.length + sq')], .c (.i 0)], ⟨by rfl, trivial, by simp [eqFr, eqHp, eqV, eqA, eqC, eqO, eqCs, eqAs, look_cons, look, rn, EK.cast, EK.sz, eqCaps]⟩, by simp [eqV, eqA, eqAs, eqC, eqCs, rn, look, look_cons, EK.sz], zs, sp, sq', rfl, rfl, hz⟩
end Go.Fw

/-
  What is joined is a transducer again.
-/
namespace Go.Fw
open Go

theorem join_fst {st : Int} {fin : List Int} {raw zs : List Arc} (hst : 1 ≤ st ∧ st ≤ 200) (hl : (fin.length : Int) = st) (hf : ∀ n ∈ fin, -1 ≤ n ∧ n ≤ 1000000000) (hr : ∀ a ∈ raw, ArcOk st a) (hrl : raw.length ≤ 3000) (h : IsNorm raw zs) (cf ca : Nat) : fstE ⟨st, 0, fin, zs, cf, ca⟩ = 0 := by
  refine fstE_iff.2 ⟨⟨hst, ⟨Int.le_refl _, by show (0 : Int) < st; omega⟩, hl, hf, Nat.le_trans h.len hrl, fun a ha => hr a (h.sub a ha)⟩, h.srt⟩

theorem shA_ok {st far to : Int} {a : Arc} (h : ArcOk st a) (h0 : 0 ≤ far) (h1 : far + st ≤ to) : ArcOk to (shA far a) := by
  have := h.f0; have := h.f1; have := h.t0; have := h.t1
  exact ⟨by show 0 ≤ a.f + far; omega, by show a.f + far < _; omega, by show 0 ≤ a.t + far; omega, by show a.t + far < _; omega, h.i0, h.o0, h.w0, h.w1⟩

theorem silA_ok {st f t w : Int} (hf : 0 ≤ f ∧ f < st) (ht : 0 ≤ t ∧ t < st) (hw : 0 ≤ w ∧ w ≤ 1000000000) : ArcOk st (silA f t w) :=
  ⟨hf.1, hf.2, ht.1, ht.2, by show (0 : Int) ≤ 0 ∧ (0 : Int) ≤ 9; omega, by show (0 : Int) ≤ 0 ∧ (0 : Int) ≤ 9; omega, hw.1, hw.2⟩

theorem either_fst {F G : TF} (hF : FOk F) (hG : FOk G) (hs : F.st + G.st ≤ 198) (ha : (F.arcs.length : Int) + G.arcs.length ≤ 2500) {zs : List Arc} (h : IsNorm (eitherL F G) zs) (cf ca : Nat) : fstE ⟨1 + F.st + G.st, 0, -1 :: (F.fin ++ G.fin), zs, cf, ca⟩ = 0 := by
  have f1 := hF.st
  have f2 := hF.finl
  have f3 := hF.start
  have g1 := hG.st
  have g2 := hG.finl
  have g3 := hG.start
  refine join_fst (by omega) (by simp; omega) (fun n hn => ?_) (fun a ha => ?_) (by simp [eitherL]; omega) h cf ca
  · rcases List.mem_cons.1 hn with rfl | hn
    · omega
    · rcases List.mem_append.1 hn with hn | hn
      · exact hF.fin n hn
      · exact hG.fin n hn
  · rcases eitherL_mem.1 ha with ⟨b, hb, rfl⟩ | rfl | ⟨b, hb, rfl⟩ | rfl
    · exact shA_ok (hF.arc b hb) (by omega) (by omega)
    · exact silA_ok (by omega) (by omega) (by omega)
    · exact shA_ok (hG.arc b hb) (by omega) (by omega)
    · exact silA_ok (by omega) (by omega) (by omega)

theorem behind_fst {F G : TF} (hF : FOk F) (hG : FOk G) (hs : F.st + G.st ≤ 198) (ha : (F.arcs.length : Int) + G.arcs.length ≤ 2500) {zs : List Arc} (h : IsNorm (behindL F G) zs) {l : List Int} (hl : l.length = F.fin.length) (hg : ∀ i, i < l.length → l.getD i 0 = -1) (cf ca : Nat) : fstE ⟨1 + F.st + G.st, 0, -1 :: (l ++ G.fin), zs, cf, ca⟩ = 0 := by
  have f1 := hF.st
  have f2 := hF.finl
  have f3 := hF.start
  have g1 := hG.st
  have g2 := hG.finl
  have g3 := hG.start
  have hel := endsL_len 1 (1 + F.st + G.start) F.fin F.fin.length
  refine join_fst (by omega) (by simp; omega) (fun n hn => ?_) (fun a ha => ?_) (by simp [behindL]; omega) h cf ca
  · rcases List.mem_cons.1 hn with rfl | hn
    · omega
    · rcases List.mem_append.1 hn with hn | hn
      · obtain ⟨i, hi, e⟩ := List.getElem_of_mem hn
        have := hg i hi
        simp [List.getD, hi] at this
        omega
      · exact hG.fin n hn
  · rcases behindL_mem.1 ha with ⟨b, hb, rfl⟩ | ⟨b, hb, rfl⟩ | rfl | ⟨n, hn, hnf, rfl⟩
    · exact shA_ok (hF.arc b hb) (by omega) (by omega)
    · exact shA_ok (hG.arc b hb) (by omega) (by omega)
    · exact silA_ok (by omega) (by omega) (by omega)
    · have := hF.fin _ (getD_mem F.fin n 0 hn)
      exact silA_ok (by omega) (by omega) (by omega)

theorem again_fst {F : TF} (hF : FOk F) (hs : F.st ≤ 198) (ha : (F.arcs.length : Int) ≤ 2500) {zs : List Arc} (h : IsNorm (againL F) zs) {l : List Int} (hl : l.length = F.fin.length) (hg : ∀ i, i < l.length → l.getD i 0 = -1) (cf ca : Nat) : fstE ⟨1 + F.st, 0, 0 :: l, zs, cf, ca⟩ = 0 := by
  have f1 := hF.st
  have f2 := hF.finl
  have f3 := hF.start
  have hel := endsL_len 1 0 F.fin F.fin.length
  refine join_fst (by omega) (by simp; omega) (fun n hn => ?_) (fun a ha => ?_) (by simp [againL]; omega) h cf ca
  · rcases List.mem_cons.1 hn with rfl | hn
    · omega
    · obtain ⟨i, hi, e⟩ := List.getElem_of_mem hn
      have := hg i hi
      simp [List.getD, hi] at this
      omega
  · rcases againL_mem.1 ha with ⟨b, hb, rfl⟩ | rfl | ⟨n, hn, hnf, rfl⟩
    · exact shA_ok (hF.arc b hb) (by omega) (by omega)
    · exact silA_ok (by omega) (by omega) (by omega)
    · have := hF.fin _ (getD_mem F.fin n 0 hn)
      exact silA_ok (by omega) (by omega) (by omega)

/-! ### One arc -/
theorem norm_one {a : Arc} {zs : List Arc} (h : IsNorm [a] zs) : zs = [a] := h.uniq ⟨List.pairwise_singleton _ _, fun z hz => hz, fun x hx => ⟨x, hx, Key.refl x, Int.le_refl _⟩⟩

/-- Two states, one arc. -/
theorem one_wt {i o : Int} {cf ca : Nat} {u v : List Int} {c : Int} : Wt ⟨2, 0, [-1, 1], [⟨0, i, o, 1, 5⟩], cf, ca⟩ u v c ↔ u = lab i ∧ v = lab o ∧ c = 6 := by
  constructor
  · rintro ⟨t, d, hw, hf, rfl⟩
    have key2 : ∀ s u v t d, Way [⟨0, i, o, 1, 5⟩] s u v t d → s ≠ 0 → s = t ∧ u = [] ∧ v = [] ∧ d = 0 := by
      intro s u v t d h hs
      cases h with
      | nil => exact ⟨rfl, rfl, rfl, rfl⟩
      | @cons a u v t c ha h =>
        rw [List.mem_singleton] at ha
        subst ha
        exact absurd rfl hs
    have key : ∀ s, Way [⟨0, i, o, 1, 5⟩] s u v t d → (s = t ∧ u = [] ∧ v = [] ∧ d = 0) ∨ (s = 0 ∧ t = 1 ∧ u = lab i ∧ v = lab o ∧ d = 5) := by
      intro s h
      cases h with
      | nil => exact .inl ⟨rfl, rfl, rfl, rfl⟩
      | @cons a u v t c ha h =>
        rw [List.mem_singleton] at ha
        subst ha
        obtain ⟨e1, rfl, rfl, rfl⟩ := key2 _ _ _ _ _ h (by show (1 : Int) ≠ 0; omega)
        exact .inr ⟨rfl, e1.symm, by simp, by simp, rfl⟩
    rcases key 0 hw with ⟨rfl, _, _, _⟩ | ⟨_, rfl, rfl, rfl, rfl⟩
    · exact absurd rfl hf
    · exact ⟨rfl, rfl, rfl⟩
  · rintro ⟨rfl, rfl, rfl⟩
    exact ⟨1, 5, by simpa using Way.one (L := [⟨0, i, o, 1, 5⟩]) (a := ⟨0, i, o, 1, 5⟩) (by simp), by simp, by simp⟩
end Go.Fw

/-
  The best way of all; what is pushed costs the same but for what is told; in the plain.
-/
namespace Go.Fw
open Go

theorem begun_getD {F : TF} {n : Nat} (h : n < F.st.toNat) : (begun F).getD n 0 = begF F.start n := by
  simp [begun, List.getD, h]
theorem begun_ln (F : TF) : (begun F).length = F.st.toNat := by simp [begun]

theorem RN.way {F : TF} (hF : FOk F) {k v : Nat} {c : Int} (h : RN F.arcs (begun F) k v c) : ∃ u w, Way F.arcs F.start u w (v : Int) c := by
  induction h with
  | base h hc =>
    rename_i v
    rw [begun_ln] at h
    rw [begun_getD h] at hc ⊢
    unfold begF at hc ⊢
    split at hc
    · rename_i e
      rw [if_pos e, e]
      exact ⟨[], [], .nil _⟩
    · exact absurd rfl hc
  | step h ha ih =>
    rename_i k a c
    obtain ⟨u, w, ih⟩ := ih
    have h1 := (hF.arc a ha).f0
    have h2 := (hF.arc a ha).t0
    have e1 : (a.f.toNat : Int) = a.f := by omega
    have e2 : (a.t.toNat : Int) = a.t := by omega
    rw [e1] at ih
    rw [e2]
    exact ⟨_, _, ih.snoc ha⟩

theorem Way.rnOf {L : List Arc} {c0 : List Int} {s t : Int} {u v : List Int} {d : Int} (h : Way L s u v t d) : ∀ {k : Nat} {c : Int}, RN L c0 k s.toNat c → ∃ k', RN L c0 k' t.toNat (c + d) := by
  induction h with
  | nil s => intro k c h; exact ⟨k, by simpa using h⟩
  | cons ha h ih =>
    intro k c hr
    obtain ⟨k', h'⟩ := ih (.step hr ha)
    exact ⟨k', by rw [← Int.add_assoc]; exact h'⟩

theorem Way.rn {F : TF} (hF : FOk F) {t : Int} {u v : List Int} {d : Int} (h : Way F.arcs F.start u v t d) : ∃ k, RN F.arcs (begun F) k t.toNat d := by
  have hs := hF.start
  have h1 : F.start.toNat < F.st.toNat := by omega
  have h2 : (begun F).getD F.start.toNat 0 = 0 := by
    rw [begun_getD h1]
    unfold begF
    exact if_pos (by omega)
  have h3 : RN F.arcs (begun F) 0 F.start.toNat 0 := by
    have := RN.base (l := F.arcs) (c0 := begun F) (v := F.start.toNat) (by rw [begun_ln]; exact h1) (by rw [h2]; decide)
    rwa [h2] at this
  obtain ⟨k, hk⟩ := h.rnOf h3
  exact ⟨k, by simpa using hk⟩

theorem Sol.low {F : TF} (hF : FOk F) {D : List Int} (h : Sol F.arcs (begun F) D) : ∀ v, v < (begun F).length → -1 ≤ D.getD v 0 := by
  intro v hv
  by_cases e : D.getD v 0 = -1
  · omega
  · obtain ⟨k, _, hk⟩ := h.s3 v hv e
    have := hk.pos hF.arc (fun v hv => ((begun_bd hF).bd v hv).1)
    omega

/-! ### Pushed -/
structure Pot (F : TF) (D : List Int) : Prop where
  len : D.length = F.fin.length
  low : ∀ v, v < F.fin.length → -1 ≤ D.getD v 0
  fin : ∀ v, v < F.fin.length → Le (D.getD v 0) (F.fin.getD v 0)
  arc : ∀ a ∈ F.arcs, D.getD a.t.toNat 0 ≠ -1 → Le (D.getD a.f.toNat 0) (D.getD a.t.toNat 0 + a.w)

/-- A transducer that was pushed. -/
structure PushIs (F : TF) (D : List Int) (X : TF) : Prop where
  st : X.st = F.st
  start : X.start = F.start
  fin : X.fin = pushF D F.fin F.fin.length
  arcs : X.arcs = pushL D F.arcs

theorem pushL_mem {D : List Int} {l : List Arc} {b : Arc} : b ∈ pushL D l ↔ ∃ a ∈ l, D.getD a.f.toNat 0 ≠ -1 ∧ D.getD a.t.toNat 0 ≠ -1 ∧ b = ⟨a.f, a.i, a.o, a.t, a.w + (D.getD a.t.toNat 0 - D.getD a.f.toNat 0)⟩ := by
  unfold pushL
  rw [List.mem_filterMap]
  constructor
  · rintro ⟨a, ha, h⟩
    unfold pushA at h
    split at h
    · cases h
    · rename_i hh
      cases h
      exact ⟨a, ha, fun c => hh (.inl c), fun c => hh (.inr c), rfl⟩
  · rintro ⟨a, ha, h1, h2, rfl⟩
    refine ⟨a, ha, ?_⟩
    unfold pushA
    rw [if_neg (fun c => by rcases c with c | c; exact h1 c; exact h2 c)]

theorem push_way {F : TF} (hF : FOk F) {D : List Int} (hP : Pot F D) {s t : Int} {u v : List Int} {d : Int} (h : Way F.arcs s u v t d) (ht : D.getD t.toNat 0 ≠ -1) : D.getD s.toNat 0 ≠ -1 ∧ Way (pushL D F.arcs) s u v t (d + D.getD t.toNat 0 - D.getD s.toNat 0) := by
  induction h with
  | nil s => exact ⟨ht, by have : (0 + D.getD s.toNat 0 - D.getD s.toNat 0) = 0 := by omega
                           rw [this]; exact .nil s⟩
  | cons ha h ih =>
    rename_i a u v t c
    obtain ⟨h1, h2⟩ := ih ht
    have hx := hF.arc a ha
    have hn := hF.finl
    have h4 := hP.low a.t.toNat (by have := hx.t0; have := hx.t1; omega)
    have h5 := hP.arc a ha h1 (by have := hx.w0; omega)
    refine ⟨h5.1, ?_⟩
    have h6 : (⟨a.f, a.i, a.o, a.t, a.w + (D.getD a.t.toNat 0 - D.getD a.f.toNat 0)⟩ : Arc) ∈ pushL D F.arcs := pushL_mem.2 ⟨a, ha, h5.1, h1, rfl⟩
    have h7 := Way.cons h6 h2
    have e : (a.w + c + D.getD t.toNat 0 - D.getD a.f.toNat 0) = (a.w + (D.getD a.t.toNat 0 - D.getD a.f.toNat 0)) + (c + D.getD t.toNat 0 - D.getD a.t.toNat 0) := by omega
    rw [e]
    exact h7

theorem push_way' {F : TF} {D : List Int} {s t : Int} {u v : List Int} {d : Int} (h : Way (pushL D F.arcs) s u v t d) (ht : D.getD t.toNat 0 ≠ -1) : D.getD s.toNat 0 ≠ -1 ∧ Way F.arcs s u v t (d - D.getD t.toNat 0 + D.getD s.toNat 0) := by
  induction h with
  | nil s => exact ⟨ht, by have : (0 - D.getD s.toNat 0 + D.getD s.toNat 0) = 0 := by omega
                           rw [this]; exact .nil s⟩
  | cons ha h ih =>
    rename_i b u v t c
    obtain ⟨h1, h2⟩ := ih ht
    obtain ⟨a, ha', h3, h4, rfl⟩ := pushL_mem.1 ha
    refine ⟨h3, ?_⟩
    simp only at h2 h1 ⊢
    have h7 := Way.cons ha' h2
    have e : (a.w + (D.getD a.t.toNat 0 - D.getD a.f.toNat 0)) + c - D.getD t.toNat 0 + D.getD a.f.toNat 0 = a.w + (c - D.getD t.toNat 0 + D.getD a.t.toNat 0) := by omega
    rw [e]
    exact h7

/-- What is pushed costs less by what is told. -/
theorem PushIs.wt {F : TF} {D : List Int} {X : TF} (h : PushIs F D X) (hF : FOk F) (hP : Pot F D) {u v : List Int} {c : Int} : Wt X u v c ↔ Wt F u v (c + D.getD F.start.toNat 0) ∧ D.getD F.start.toNat 0 ≠ -1 := by
  have hs := hF.start
  have hn := hF.finl
  unfold Wt
  rw [h.start, h.arcs, h.fin]
  constructor
  · rintro ⟨t, d, h1, h2, rfl⟩
    have hr : 0 ≤ t ∧ t < F.st := by
      have : ∀ {s t : Int} {u v : List Int} {c : Int}, Way (pushL D F.arcs) s u v t c → 0 ≤ s ∧ s < F.st → 0 ≤ t ∧ t < F.st := by
        intro s t u v c hw
        induction hw with
        | nil s => exact id
        | cons ha h ih =>
          obtain ⟨a, ha', _, _, rfl⟩ := pushL_mem.1 ha
          exact fun _ => ih ⟨(hF.arc a ha').t0, (hF.arc a ha').t1⟩
      exact this h1 hs
    have ht : t.toNat < F.fin.length := by omega
    rw [pushF_getD _ _ _ _ ht] at h2 ⊢
    unfold pushV at h2 ⊢
    by_cases e : F.fin.getD t.toNat 0 = -1
    · rw [if_neg (fun hh => hh.2 e)] at h2; exact absurd e h2
    · rw [if_pos ⟨ht, e⟩]
      have h3 := hP.fin _ ht e
      obtain ⟨h4, h5⟩ := push_way' h1 h3.1
      exact ⟨⟨t, _, h5, e, by omega⟩, h4⟩
  · rintro ⟨⟨t, d, h1, h2, h3⟩, _⟩
    have hr := h1.rng hF.arc hs
    have ht : t.toNat < F.fin.length := by omega
    have h4 := hP.fin _ ht h2
    have h5 := hP.low _ ht
    obtain ⟨h6, h7⟩ := push_way hF hP h1 h4.1
    refine ⟨t, _, h7, ?_, ?_⟩
    · rw [pushF_getD _ _ _ _ ht]
      unfold pushV
      rw [if_pos ⟨ht, h2⟩]
      omega
    · rw [pushF_getD _ _ _ _ ht]
      unfold pushV
      rw [if_pos ⟨ht, h2⟩]
      omega

/-! ### The way itself -/
inductive GW (arcs : List Arc) (rk : Nat → Nat) (x : Int) : Int → List Int → Int → Prop
  | nil : GW arcs rk x x [] 0
  | cons {n : Nat} {a : Arc} {l : List Int} {c : Int} (hn : arcs[n]? = some a) (hr : rk a.f.toNat < rk a.t.toNat) (h : GW arcs rk x a.t l c) : GW arcs rk x a.f ((n : Int) :: l) (a.w + c)

theorem GW.snoc {arcs : List Arc} {rk : Nat → Nat} {x s : Int} {l : List Int} {c : Int} (h : GW arcs rk x s l c) : ∀ {n : Nat} {a : Arc}, arcs[n]? = some a → a.f = x → rk a.f.toNat < rk a.t.toNat → GW arcs rk a.t s (l ++ [(n : Int)]) (c + a.w) := by
  induction h with
  | nil =>
    intro n a h1 h2 h3
    subst h2
    have := GW.cons h1 h3 (.nil (arcs := arcs) (rk := rk) (x := a.t))
    simpa using this
  | cons h1 h2 h ih =>
    intro n a g1 g2 g3
    rw [Int.add_assoc]
    exact .cons h1 h2 (ih g1 g2 g3)

end Go.Fw

/-
  What score tells is the least of all ways.
-/
namespace Go.Fw
open Go Go.Proofs

theorem fitE_take {l : List Int} {p x : Int} (hp : 0 ≤ p ∧ p ≤ l.length) (h : (fitE l p x).2 = true) : l.take (fitE l p x).1.toNat = l.take p.toNat ++ lab x := by
  unfold fitE lab at *
  by_cases e : x = 0
  · simp [if_pos e]
  · rw [if_neg e] at h ⊢
    rw [if_neg e]
    simp only [decide_eq_true_eq] at h ⊢
    have h1 : (p + 1).toNat = p.toNat + 1 := by omega
    rw [h1, take_succ_getD l p.toNat 0 (by omega), h.2]

section
variable {F : TF} {u v : List Int}

theorem Reach.way (hF : FOk F) {c : Int} {y : Trip} (h : Reach F u v (fromSt F) c y) : InBox F u v y ∧ Way F.arcs F.start (u.take y.b.toNat) (v.take y.c.toNat) y.a c := by
  induction h with
  | here h =>
    obtain ⟨rfl, rfl⟩ := h
    have := hF.start
    refine ⟨⟨this, ⟨Int.le_refl _, ?_⟩, ⟨Int.le_refl _, ?_⟩⟩, .nil _⟩ <;> (show (0 : Int) ≤ _; omega)
  | on h he ih =>
    obtain ⟨hx, hw⟩ := ih
    have hb := he.box hF hx
    refine ⟨hb, ?_⟩
    obtain ⟨a, h1, h2, h3, h4, rfl, rfl⟩ := he
    have ha := List.mem_of_getElem? h1
    rw [← h2] at hw
    simp only
    rw [fitE_take hx.2.1 h3, fitE_take hx.2.2 h4]
    exact hw.snoc ha

theorem fitE_of {u1 u2 : List Int} {x : Int} : (fitE (u1 ++ (lab x ++ u2)) u1.length x).2 = true ∧ (fitE (u1 ++ (lab x ++ u2)) u1.length x).1 = ((u1 ++ lab x).length : Int) := by
  unfold fitE lab
  by_cases e : x = 0
  · simp [if_pos e]
  · rw [if_neg e, if_neg e]
    refine ⟨?_, by simp⟩
    simp only [decide_eq_true_eq, Int.toNat_natCast]
    refine ⟨by simp; omega, ?_⟩
    simp [List.getD]

theorem Way.reach {S : Trip → Int → Prop} {s t : Int} {p q : List Int} {c : Int} (h : Way F.arcs s p q t c) : ∀ {u1 u2 v1 v2 : List Int} {c0 : Int}, u = u1 ++ (p ++ u2) → v = v1 ++ (q ++ v2) → Reach F u v S c0 ⟨s, u1.length, v1.length⟩ →
    Reach F u v S (c0 + c) ⟨t, (u1 ++ p).length, (v1 ++ q).length⟩ := by
  induction h with
  | nil s => intro u1 u2 v1 v2 c0 _ _ h; simpa using h
  | cons ha h ih =>
    rename_i a p q t c
    intro u1 u2 v1 v2 c0 hu hv hr
    obtain ⟨n, hn, he⟩ := List.getElem_of_mem ha
    have f1 := fitE_of (u1 := u1) (u2 := p ++ u2) (x := a.i)
    have f2 := fitE_of (u1 := v1) (u2 := q ++ v2) (x := a.o)
    rw [List.append_assoc] at hu hv
    rw [← hu] at f1
    rw [← hv] at f2
    have hedge : Edge F u v ⟨a.f, u1.length, v1.length⟩ n ⟨a.t, (u1 ++ lab a.i).length, (v1 ++ lab a.o).length⟩ a.w :=
      ⟨a, by rw [List.getElem?_eq_getElem hn, he], rfl, f1.1, f2.1, by rw [f1.2, f2.2], rfl⟩
    have := ih (u1 := u1 ++ lab a.i) (u2 := u2) (v1 := v1 ++ lab a.o) (v2 := v2) (by simp [hu]) (by simp [hv]) (.on hr hedge)
    rw [← Int.add_assoc, ← List.append_assoc, ← List.append_assoc]
    exact this

theorem reach_way (hF : FOk F) {c t : Int} : Reach F u v (fromSt F) c ⟨t, u.length, v.length⟩ ↔ Way F.arcs F.start u v t c := by
  constructor
  · intro h
    have := (h.way hF).2
    simpa using this
  · intro h
    have := h.reach (u := u) (v := v) (S := fromSt F) (u1 := []) (u2 := []) (v1 := []) (v2 := []) (c0 := 0) (by simp) (by simp) (.here ⟨rfl, rfl⟩)
    simpa using this

theorem endF_min {A : Trip → Option Int} {fin : List Int} {p q : Int} (hf : ∀ x ∈ fin, -1 ≤ x) (hA : ∀ y d, A y = some d → 0 ≤ d) : ∀ k, k ≤ fin.length → MinOf (fun c => ∃ (n : Nat) (d : Int), n < k ∧ A ⟨n, p, q⟩ = some d ∧ fin.getD n 0 ≠ -1 ∧ c = d + fin.getD n 0) (endF A fin p q k).2
  | 0, _ => .inl ⟨rfl, fun c h => by obtain ⟨n, d, h, _⟩ := h; omega⟩
  | k + 1, hk => by
    have ih := endF_min (p := p) (q := q) hf hA k (by omega)
    have hfk := hf _ (getD_mem fin k 0 (by omega))
    cases hd : A ⟨k, p, q⟩ with
    | none =>
      rw [endF_none hd]
      rcases ih with ⟨h1, h2⟩ | ⟨h0, ⟨n, d, h1, h2⟩, h3⟩
      · left
        refine ⟨h1, ?_⟩
        rintro c ⟨n, d, g1, g2, g3⟩
        by_cases e : n = k
        · subst e; rw [hd] at g2; cases g2
        · exact h2 c ⟨n, d, by omega, g2, g3⟩
      · right
        refine ⟨h0, ⟨n, d, by omega, h2⟩, ?_⟩
        rintro c ⟨n, d, g1, g2, g3⟩
        by_cases e : n = k
        · subst e; rw [hd] at g2; cases g2
        · exact h3 c ⟨n, d, by omega, g2, g3⟩
    | some d =>
      have hd0 := hA _ _ hd
      by_cases q1 : fin.getD k 0 = -1
      · rw [endF_no hd (.inl q1)]
        rcases ih with ⟨h1, h2⟩ | ⟨h0, ⟨n, d, h1, h2⟩, h3⟩
        · left
          refine ⟨h1, ?_⟩
          rintro c ⟨n, d, g1, g2, g3, g4⟩
          by_cases e : n = k
          · subst e; exact g3 q1
          · exact h2 c ⟨n, d, by omega, g2, g3, g4⟩
        · right
          refine ⟨h0, ⟨n, d, by omega, h2⟩, ?_⟩
          rintro c ⟨n, d, g1, g2, g3, g4⟩
          by_cases e : n = k
          · subst e; exact absurd q1 g3
          · exact h3 c ⟨n, d, by omega, g2, g3, g4⟩
      · by_cases q2 : (endF A fin p q k).2 = -1 ∨ d + fin.getD k 0 < (endF A fin p q k).2
        · rw [endF_yes hd q1 q2]
          right
          refine ⟨by show 0 ≤ d + fin.getD k 0; omega, ⟨k, d, by omega, hd, q1, rfl⟩, ?_⟩
          rintro c ⟨n, d', g1, g2, g3, g4⟩
          by_cases e : n = k
          · subst e; rw [hd] at g2; cases g2; simp only; omega
          · rcases ih with ⟨h1, h2⟩ | ⟨h0, _, h3⟩
            · exact absurd ⟨n, d', by omega, g2, g3, g4⟩ (h2 c)
            · have := h3 c ⟨n, d', by omega, g2, g3, g4⟩
              simp only
              omega
        · rw [endF_no hd (.inr ⟨fun c => q2 (.inl c), fun c => q2 (.inr c)⟩)]
          rcases ih with ⟨h1, h2⟩ | ⟨h0, ⟨n, d', h1, h2⟩, h3⟩
          · exact absurd (.inl h1) q2
          · right
            refine ⟨h0, ⟨n, d', by omega, h2⟩, ?_⟩
            rintro c ⟨n, d', g1, g2, g3, g4⟩
            by_cases e : n = k
            · subst e; rw [hd] at g2; cases g2; omega
            · exact h3 c ⟨n, d', by omega, g2, g3, g4⟩

/-- What score tells. -/
theorem score_min (hF : FOk F) {A : Trip → Option Int} (hA : IsLeast F u v (fromSt F) A) : MinOf (Wt F u v) (endF A F.fin u.length v.length F.fin.length).2 := by
  have hfl := hF.finl
  have hpos : ∀ y d, A y = some d → 0 ≤ d := fun y d h => ((hA.path y d h).way hF).2.pos hF.arc
  have := endF_min (p := u.length) (q := v.length) (fun x hx => (hF.fin x hx).1) hpos F.fin.length (Nat.le_refl _)
  rcases this with ⟨h1, h2⟩ | ⟨h0, ⟨n, d, h1, h2, h3, h4⟩, h5⟩
  · left
    refine ⟨h1, ?_⟩
    rintro c ⟨t, d, g1, g2, g3⟩
    obtain ⟨c', g4, g5⟩ := hA.least _ _ ((reach_way hF).2 g1)
    have hr := g1.rng hF.arc hF.start
    have e : (t.toNat : Int) = t := by omega
    exact h2 _ ⟨t.toNat, c', by omega, by rw [e]; exact g4, g2, rfl⟩
  · right
    refine ⟨h0, ⟨n, d, (reach_way hF).1 (hA.path _ _ h2), by rw [Int.toNat_natCast]; exact h3, by rw [Int.toNat_natCast]; exact h4⟩, ?_⟩
    rintro c ⟨t, d, g1, g2, g3⟩
    obtain ⟨c', g4, g5⟩ := hA.least _ _ ((reach_way hF).2 g1)
    have hr := g1.rng hF.arc hF.start
    have e : (t.toNat : Int) = t := by omega
    have := h5 _ ⟨t.toNat, c', by omega, by rw [e]; exact g4, g2, rfl⟩
    omega
end

theorem endF_bd {A : Trip → Option Int} {fin : List Int} {p q : Int} (hf : ∀ x ∈ fin, x ≤ 1000000000) (hA : ∀ y d, A y = some d → d ≤ 1000000000000000) : ∀ k, k ≤ fin.length → (endF A fin p q k).2 ≤ 1000001000000000
  | 0, _ => by simp [endF]
  | k + 1, hk => by
    have ih := endF_bd (p := p) (q := q) hf hA k (by omega)
    have hfk := hf _ (getD_mem fin k 0 (by omega))
    cases hd : A ⟨k, p, q⟩ with
    | none => rw [endF_none hd]; exact ih
    | some d =>
      have := hA _ _ hd
      by_cases c : fin.getD k 0 ≠ -1 ∧ ((endF A fin p q k).2 = -1 ∨ d + fin.getD k 0 < (endF A fin p q k).2)
      · rw [endF_yes hd c.1 c.2]; show d + fin.getD k 0 ≤ _; omega
      · rw [endF_no hd]
        · exact ih
        · by_cases c1 : fin.getD k 0 = -1
          · exact .inl c1
          · exact .inr ⟨fun e => c ⟨c1, .inl e⟩, fun e => c ⟨c1, .inr e⟩⟩

end Go.Fw

namespace Go.Fw
open Go Go.Proofs

/-- What score answers, whatever it is handed. -/
def ScoreP (F : TF) (u v : List Int) (n : Int) : Prop := (scoreE F u v = 0 → MinOf (Wt F u v) n ∧ n ≤ 1000001000000000) ∧ (scoreE F u v ≠ 0 → n = 0)

set_option maxHeartbeats 4000000 in
set_option maxRecDepth 20000 in
theorem score_b (F : TF) (u v : List Int) (cu cv : Nat) (hl : F.fin.length ≤ 9223372036854775807) (hsc : scoreE F u v = 0) :
    Ct Try.prog 10 [fV F, .c (.sl 2 1 0 u.length cu), .c (.sl 3 1 0 v.length cv)] [] (hpQ F u v) 4 (fun x s => ∃ n, ScoreP F u v n ∧ x = .tup [.c (.i n), .c (.i 0)] ∧ s = ⟨[], [], 4⟩) := by
  have hF : FOk F := by
    refine fstE_ok ?_
    unfold scoreE at hsc
    by_cases h : fstE F = 0
    · exact h
    · rw [if_pos h] at hsc; exact absurd hsc h
  refine ctW Try.tyOk 12 [] Try.func10 rfl (by simp [SV.lt, SA.lt, SC.lt, arcV, fV]) (by simp) (fr := [(0, fV F), (1, .c (.sl 2 1 0 u.length cu)), (2, .c (.sl 3 1 0 v.length cv))]) rfl ?_
  repeat' (first | exact rfl | ((conv => whnf); first | ((first | refine qA (fun h => ?_) fun h => ?_ | refine qN (fun h => ?_) fun h => ?_ | refine qB (fun h => ?_) fun h => ?_ | refine qC (fun h => ?_) fun h => ?_) <;> try exact absurd h (by omega)) | refine qM (fun h => ?_) fun h => ?_ | refine oM (by (first | omega | (simp only [lenS, InI, nmin, EK.sz]; omega) | (simp only [lenS, InI, nmin, EK.sz] at *; omega))) ?_ | refine oM ?_ ?_ | refine bM ?_ ?_ | refine draw_of Try.mixed Try.tyOk 60 (by kernel_rfl) ?_))
  (conv => whnf)
  refine callF (walk_ok F u v cu cv hl hsc) [0, 1, 2, 3] Try.call51 rfl (by simp [eqLs, eqL, eqO, eqC, eqCs, rn, renOf, look_cons, look, EK.cast]) (by simp [appN, ptrs, eqVL, eqV, eqA, eqC, eqCs, eqAs, eqCaps, EK.sz, rn, renOf, look_cons, look, arcV, fV]) (by simp [appN, ptrs, SV.lt, SA.lt, SC.lt, arcV, fV, lenN]) ?_
  rintro _ _ ⟨rows, pi, es, clk, pf, ⟨hm, ord, rk, B, hol, hD, hB, hall⟩, rfl, rfl⟩
  repeat' (first | exact rfl | ((conv => whnf); first | ((first | refine qA (fun h => ?_) fun h => ?_ | refine qN (fun h => ?_) fun h => ?_ | refine qB (fun h => ?_) fun h => ?_ | refine qC (fun h => ?_) fun h => ?_) <;> try exact absurd h (by omega)) | refine qM (fun h => ?_) fun h => ?_ | refine oM (by (first | omega | (simp only [lenS, InI, nmin, EK.sz]; omega) | (simp only [lenS, InI, nmin, EK.sz] at *; omega))) ?_ | refine oM ?_ ?_ | refine bM ?_ ?_ | refine draw_of Try.mixed Try.tyOk 60 (by kernel_rfl) ?_))
  (conv => whnf)
  refine ⟨[], [], 4, .tup [.c (.i (endF (costOf es pf) F.fin u.length v.length F.fin.length).2), .c (.i 0)], ⟨by rfl, trivial, trivial⟩, by simp [eqV, eqA, eqAs, eqC, eqCs], _, ⟨fun _ => ⟨score_min hF (hD.least hall), ?_⟩, fun c => absurd hsc c⟩, rfl, rfl⟩
  refine endF_bd (fun x hx => (hF.fin x hx).2) (fun y d h => ?_) _ (Nat.le_refl _)
  obtain ⟨e, h1, rfl⟩ := Option.map_eq_some_iff.1 h
  have := (hD.cost y e h1).2
  omega

end Go.Fw

namespace Go.Fw
open Go Go.Proofs

theorem min_is {P : Int → Prop} {n k : Int} (h : MinOf P n) (hp : ∀ c, P c ↔ c = k) : n = k := by
  rcases h with ⟨_, h⟩ | ⟨_, h, _⟩
  · exact absurd ((hp k).2 rfl) (h k)
  · exact (hp n).1 h

theorem scoreE_same {X F : TF} (u v : List Int) (h : fstE X = 0) (h2 : fstE F = 0) : scoreE X u v = scoreE F u v := by unfold scoreE; rw [h, h2]

def invT (sp sq : Nat) : TF := ⟨2, 0, [-1, 1], [⟨0, 2, 1, 1, 5⟩], 2 + sp, 1 + sq⟩
def prjT (sp sq : Nat) : TF := ⟨2, 0, [-1, 1], [⟨0, 2, 2, 1, 5⟩], 2 + sp, 1 + sq⟩
theorem inv_fst (sp sq : Nat) : fstE (invT sp sq) = 0 := by
  show fstE (invT 0 0) = 0
  decide
theorem prj_fst (sp sq : Nat) : fstE (prjT sp sq) = 0 := by
  show fstE (prjT 0 0) = 0
  decide

theorem goneF_neg (l : List Int) : ∀ i, i < (l.map goneF).length → (l.map goneF).getD i 0 = -1 := by
  intro i hi
  simp only [List.length_map] at hi
  simp [List.getD, hi, goneF]

theorem one_score {u v : List Int} {raw : List Arc} {X : TF} {n k : Int} (hX : fstE X = 0) (h : IsNorm raw X.arcs) (hs : X.start = 0) (hp : ScoreP X u v n) (hsc : scoreE oneT u v = 0) (hw : ∀ c, WtL raw 0 X.fin u v c ↔ c = k) : n = k := by
  have h1 := (hp.1 ((scoreE_same u v hX one_fst).trans hsc)).1
  have h2 := h.min h1
  rw [hs] at h2
  exact min_is h2 hw

theorem either_one {sp sq : Nat} {n : Int} {zs : List Arc} {cf ca : Nat} (h : IsNorm (eitherL oneT (prjT sp sq)) zs) (hp : ScoreP ⟨1 + 2 + 2, 0, -1 :: ([-1, 1] ++ [-1, 1]), zs, cf, ca⟩ [2] [2] n) : n = 6 := by
  refine one_score (either_fst (fstE_ok one_fst) (fstE_ok (prj_fst sp sq)) (show (2 : Int) + 2 ≤ 198 by decide) (show ((1 : Nat) : Int) + ((1 : Nat) : Int) ≤ 2500 by decide) h cf ca) h rfl hp (by decide) fun c => ?_
  refine (either_wt (F := oneT) (G := prjT sp sq) (fstE_ok one_fst) (fstE_ok (prj_fst sp sq))).trans ?_
  unfold oneT prjT
  rw [one_wt, one_wt]
  simp [lab]

theorem behind_one {sp sq : Nat} {n : Int} {zs : List Arc} {cf ca : Nat} (h : IsNorm (behindL oneT (invT sp sq)) zs) (hp : ScoreP ⟨1 + 2 + 2, 0, -1 :: ([-1, 1].map goneF ++ [-1, 1]), zs, cf, ca⟩ [1, 2] [2, 1] n) : n = 12 := by
  refine one_score (behind_fst (fstE_ok one_fst) (fstE_ok (inv_fst sp sq)) (show (2 : Int) + 2 ≤ 198 by decide) (show ((1 : Nat) : Int) + ((1 : Nat) : Int) ≤ 2500 by decide) h (by simp [oneT]) (goneF_neg _) cf ca) h rfl hp (by decide) fun c => ?_
  refine (behind_wt (F := oneT) (G := invT sp sq) (fstE_ok one_fst) (fstE_ok (inv_fst sp sq)) (by simp [oneT]) (goneF_neg _)).trans ?_
  constructor
  · rintro ⟨u1, u2, v1, v2, c1, c2, _, _, h1, h2, rfl⟩
    unfold oneT at h1
    unfold invT at h2
    rw [one_wt] at h1 h2
    omega
  · rintro rfl
    refine ⟨[1], [2], [2], [1], 6, 6, rfl, rfl, ?_, ?_, rfl⟩
    · unfold oneT; rw [one_wt]; simp [lab]
    · unfold invT; rw [one_wt]; simp [lab]

theorem again_one {n : Int} {zs : List Arc} {cf ca : Nat} (h : IsNorm (againL oneT) zs) (hp : ScoreP ⟨1 + 2, 0, 0 :: [-1, 1].map goneF, zs, cf, ca⟩ [1, 1] [2, 2] n) : n = 12 := by
  refine one_score (again_fst (fstE_ok one_fst) (by decide) (by decide) h (by simp [oneT]) (goneF_neg _) cf ca) h rfl hp (by decide) fun c => ?_
  refine (again_wt (F := oneT) (fstE_ok one_fst) (by simp [oneT]) (goneF_neg _)).trans ?_
  have key : ∀ u v c, Star (Wt oneT) u v c → c = 6 * u.length := by
    intro u v c h
    induction h with
    | nil => rfl
    | cons h1 h2 ih =>
      unfold oneT at h1
      rw [one_wt] at h1
      obtain ⟨rfl, rfl, rfl⟩ := h1
      rw [ih, List.length_append]
      simp [lab]
      omega
  constructor
  · intro h
    have := key _ _ _ h
    simpa using this
  · rintro rfl
    have w : Wt oneT [1] [2] 6 := by unfold oneT; rw [one_wt]; simp [lab]
    exact .cons w (.cons w .nil)
end Go.Fw

/-
  The best of all ways to cut two words; the best of any number of pieces.
-/
namespace Go.Fw
open Go

theorem MinOf.dom {P Q : Int → Prop} {n : Int} (h : MinOf P n) (hs : ∀ c, P c → Q c) (hc : ∀ c, Q c → ∃ d, d ≤ c ∧ P d) : MinOf Q n := by
  rcases h with ⟨rfl, h1⟩ | ⟨h0, h1, h2⟩
  · refine .inl ⟨rfl, fun c hq => ?_⟩
    obtain ⟨d, _, hd⟩ := hc c hq
    exact h1 d hd
  · refine .inr ⟨h0, hs n h1, fun c hq => ?_⟩
    obtain ⟨d, hd, hp⟩ := hc c hq
    have := h2 d hp
    omega

theorem MinOf.none : MinOf (fun _ => False) (-1) := .inl ⟨rfl, fun _ h => h⟩

/-! ### Cuts, one after the other -/
section
variable (P Q : List Int → List Int → Int → Prop) (u v : List Int)

def LexP (i o : Nat) (c : Int) : Prop := ∃ i' o' a b, (i' < i ∧ o' ≤ v.length ∨ i' = i ∧ o' < o) ∧ P (u.take i') (v.take o') a ∧ Q (u.drop i') (v.drop o') b ∧ c = a + b

variable {P Q u v}

theorem lexP_zero {c : Int} : ¬ LexP P Q u v 0 0 c := by
  rintro ⟨i', o', a, b, h, _⟩
  omega

theorem lexP_row {i : Nat} {c : Int} : LexP P Q u v i (v.length + 1) c ↔ LexP P Q u v (i + 1) 0 c := by
  constructor
  · rintro ⟨i', o', a, b, h, hp⟩
    exact ⟨i', o', a, b, by omega, hp⟩
  · rintro ⟨i', o', a, b, h, hp⟩
    exact ⟨i', o', a, b, by omega, hp⟩

theorem lexP_step {i o : Nat} {best p q : Int} (h : MinOf (LexP P Q u v i o) best) (hp : MinOf (P (u.take i) (v.take o)) p) (hq : MinOf (Q (u.drop i) (v.drop o)) q) : MinOf (LexP P Q u v i (o + 1)) (less best (plus p q)) := by
  refine (h.or (hp.add hq)).cong fun c => ⟨?_, ?_⟩
  · rintro (⟨i', o', a, b, h, hh⟩ | ⟨a, b, ha, hb, rfl⟩)
    · exact ⟨i', o', a, b, by omega, hh⟩
    · exact ⟨i, o, a, b, by omega, ha, hb, rfl⟩
  · rintro ⟨i', o', a, b, h, hh⟩
    by_cases e : i' = i ∧ o' = o
    · obtain ⟨rfl, rfl⟩ := e
      exact .inr ⟨a, b, hh⟩
    · exact .inl ⟨i', o', a, b, by omega, hh⟩

theorem lexP_skip {i o : Nat} {best p : Int} (h : MinOf (LexP P Q u v i o) best) (hp : MinOf (P (u.take i) (v.take o)) p) (h0 : p < 0) : MinOf (LexP P Q u v i (o + 1)) best := by
  refine h.cong fun c => ⟨?_, ?_⟩
  · rintro ⟨i', o', a, b, h, hh⟩
    exact ⟨i', o', a, b, by omega, hh⟩
  · rintro ⟨i', o', a, b, h, hh⟩
    by_cases e : i' = i ∧ o' = o
    · obtain ⟨rfl, rfl⟩ := e
      rcases hp with ⟨_, h1⟩ | ⟨h1, _⟩
      · exact absurd hh.1 (h1 a)
      · omega
    · exact ⟨i', o', a, b, by omega, hh⟩

theorem lexP_all {c : Int} : LexP P Q u v (u.length + 1) 0 c ↔ Cut2 P Q u v c := by
  constructor
  · rintro ⟨i', o', a, b, h, h1, h2, rfl⟩
    exact ⟨_, _, _, _, a, b, (List.take_append_drop i' u).symm, (List.take_append_drop o' v).symm, h1, h2, rfl⟩
  · rintro ⟨u1, u2, v1, v2, a, b, rfl, rfl, h1, h2, rfl⟩
    refine ⟨u1.length, v1.length, a, b, .inl ⟨by simp; omega, by simp⟩, ?_, ?_, rfl⟩
    · simpa using h1
    · simpa using h2
end

/-! ### Any number of pieces -/
inductive StarR (P : List Int → List Int → Int → Prop) : List Int → List Int → Int → Prop
  | nil : StarR P [] [] 0
  | snoc {u1 v1 u2 v2 : List Int} {c1 c2 : Int} (h1 : StarR P u1 v1 c1) (h2 : P u2 v2 c2) : StarR P (u1 ++ u2) (v1 ++ v2) (c1 + c2)

theorem StarR.app {P : List Int → List Int → Int → Prop} {u v u' v' : List Int} {c d : Int} (h : StarR P u v c) (h' : Star P u' v' d) : StarR P (u ++ u') (v ++ v') (c + d) := by
  induction h' generalizing u v c with
  | nil => simpa using h
  | @cons u1 v1 u2 v2 c1 c2 h1 h2 ih =>
    have := ih (h.snoc h1)
    rw [← List.append_assoc, ← List.append_assoc, ← Int.add_assoc]
    exact this

theorem Star.app {P : List Int → List Int → Int → Prop} {u v u' v' : List Int} {c d : Int} (h : Star P u v c) (h' : P u' v' d) : Star P (u ++ u') (v ++ v') (c + d) := by
  induction h with
  | nil => simpa using Star.cons h' .nil
  | @cons u1 v1 u2 v2 c1 c2 h1 h2 ih =>
    rw [List.append_assoc, List.append_assoc, Int.add_assoc]
    exact .cons h1 ih

theorem starR_iff {P : List Int → List Int → Int → Prop} {u v : List Int} {c : Int} : StarR P u v c ↔ Star P u v c := by
  constructor
  · intro h
    induction h with
    | nil => exact .nil
    | snoc h1 h2 ih => exact ih.app h2
  · intro h
    simpa using StarR.app .nil h

theorem StarR.pos {P : List Int → List Int → Int → Prop} (hP : ∀ u v c, P u v c → 0 ≤ c) {u v : List Int} {c : Int} (h : StarR P u v c) : 0 ≤ c := by
  induction h with
  | nil => exact Int.le_refl _
  | snoc h1 h2 ih => have := hP _ _ _ h2; omega

/-- The part of a word from a place to a place. -/
def seg (u : List Int) (a b : Nat) : List Int := (u.drop a).take (b - a)

theorem take_seg {u : List Int} {a b : Nat} (h : a ≤ b) : u.take a ++ seg u a b = u.take b := by
  unfold seg
  rw [← List.take_append_drop a (u.take b), List.take_take, Nat.min_eq_left h, List.drop_take]

/-- The table, the cells before a place done. -/
structure AgT (P : List Int → List Int → Int → Prop) (u v : List Int) (B : Int) (i o : Nat) (T : Nat → Nat → Int) : Prop where
  low : ∀ a b, a ≤ u.length → b ≤ v.length → -1 ≤ T a b ∧ T a b ≤ (a + b : Nat) * B
  snd : ∀ a b, a ≤ u.length → b ≤ v.length → 0 ≤ T a b → StarR P (u.take a) (v.take b) (T a b)
  org : T 0 0 = 0
  cpl : ∀ a b a' b' c1 c2, (a' < i ∧ b' ≤ v.length ∨ a' = i ∧ b' < o) → a' ≤ a → b' ≤ b → a ≤ u.length → b ≤ v.length → StarR P (u.take a') (v.take b') c1 → P (seg u a' a) (seg v b' b) c2 → 0 ≤ T a b ∧ T a b ≤ c1 + c2

section
variable {P : List Int → List Int → Int → Prop} {u v : List Int} {B : Int} {i o : Nat} {T : Nat → Nat → Int}

/-- What stands in a cell whose forerunners are done is the best. -/
theorem AgT.fin (h : AgT P u v B i o T) (hP : ∀ u v c, P u v c → 0 ≤ c) (hi : i ≤ u.length) (ho : o ≤ v.length) : MinOf (StarR P (u.take i) (v.take o)) (T i o) := by
  have key : ∀ x y c, StarR P x y c → x = u.take i → y = v.take o → 0 ≤ T i o ∧ T i o ≤ c := by
    intro x y c hs
    induction hs with
    | nil =>
      intro hx hy
      have h1 : i = 0 := by
        have := congrArg List.length hx
        rw [List.length_take] at this
        simp only [List.length_nil] at this
        omega
      have h2 : o = 0 := by
        have := congrArg List.length hy
        rw [List.length_take] at this
        simp only [List.length_nil] at this
        omega
      subst h1 h2
      rw [h.org]
      omega
    | @snoc u1 v1 u2 v2 c1 c2 h1 h2 ih =>
      intro hx hy
      have l1 : u1.length + u2.length = i := by
        have := congrArg List.length hx
        rw [List.length_take, List.length_append] at this
        omega
      have l2 : v1.length + v2.length = o := by
        have := congrArg List.length hy
        rw [List.length_take, List.length_append] at this
        omega
      have e1 : u1 = u.take u1.length := by
        have := congrArg (List.take u1.length) hx
        rw [List.take_left, List.take_take, Nat.min_eq_left (by omega)] at this
        exact this
      have e2 : v1 = v.take v1.length := by
        have := congrArg (List.take v1.length) hy
        rw [List.take_left, List.take_take, Nat.min_eq_left (by omega)] at this
        exact this
      have e3 : u2 = seg u u1.length i := by
        have := congrArg (List.drop u1.length) hx
        rw [List.drop_left, List.drop_take] at this
        exact this
      have e4 : v2 = seg v v1.length o := by
        have := congrArg (List.drop v1.length) hy
        rw [List.drop_left, List.drop_take] at this
        exact this
      have hc2 := hP _ _ _ h2
      by_cases q : u1.length = i ∧ v1.length = o
      · have g := ih (by rw [e1, q.1]) (by rw [e2, q.2])
        omega
      · rw [e1, e2] at h1
        rw [e3, e4] at h2
        exact h.cpl i o u1.length v1.length c1 c2 (by omega) (by omega) (by omega) hi ho h1 h2
  by_cases hn : 0 ≤ T i o
  · exact .inr ⟨hn, h.snd i o hi ho hn, fun c hc => (key _ _ c hc rfl rfl).2⟩
  · have := (h.low i o hi ho).1
    exact .inl ⟨by omega, fun c hc => hn (key _ _ c hc rfl rfl).1⟩

/-- A cell that none comes to is done with. -/
theorem AgT.skip (h : AgT P u v B i o T) (hP : ∀ u v c, P u v c → 0 ≤ c) (hi : i ≤ u.length) (ho : o ≤ v.length) (hn : T i o < 0) : AgT P u v B i (o + 1) T := by
  refine ⟨h.low, h.snd, h.org, fun a b a' b' c1 c2 hl h1 h2 h3 h4 h5 h6 => ?_⟩
  by_cases q : a' = i ∧ b' = o
  · obtain ⟨rfl, rfl⟩ := q
    rcases h.fin hP hi ho with ⟨_, g⟩ | ⟨g, _⟩
    · exact absurd h5 (g c1)
    · omega
  · exact h.cpl a b a' b' c1 c2 (by omega) h1 h2 h3 h4 h5 h6

theorem AgT.row (h : AgT P u v B i (v.length + 1) T) : AgT P u v B (i + 1) 0 T :=
  ⟨h.low, h.snd, h.org, fun a b a' b' c1 c2 hl h1 h2 h3 h4 h5 h6 => h.cpl a b a' b' c1 c2 (by omega) h1 h2 h3 h4 h5 h6⟩

/-- A cell on its way: the cells behind it, up to a place, are told. -/
structure AgW (P : List Int → List Int → Int → Prop) (u v : List Int) (B : Int) (i o x y : Nat) (t : Int) (T : Nat → Nat → Int) : Prop where
  tab : AgT P u v B i o T
  at_ : T i o = t
  don : ∀ x' y' c1 c2, (x' < x ∧ o + y' ≤ v.length ∨ x' = x ∧ y' < y) → i + x' ≤ u.length → o + y' ≤ v.length → StarR P (u.take i) (v.take o) c1 → P (seg u i (i + x')) (seg v o (o + y')) c2 → 0 ≤ T (i + x') (o + y') ∧ T (i + x') (o + y') ≤ c1 + c2

def up2 (T : Nat → Nat → Int) (a b : Nat) (n : Int) : Nat → Nat → Int := fun x y => if x = a ∧ y = b then n else T x y

theorem AgT.start (h : AgT P u v B i o T) : AgW P u v B i o 0 0 (T i o) T := ⟨h, rfl, fun x' y' c1 c2 h => by omega⟩

theorem AgW.rowx {x : Nat} {t : Int} (h : AgW P u v B i o x (v.length - o + 1) t T) : AgW P u v B i o (x + 1) 0 t T :=
  ⟨h.tab, h.at_, fun x' y' c1 c2 hl => h.don x' y' c1 c2 (by omega)⟩

theorem AgW.done {t : Int} (h : AgW P u v B i o (u.length - i + 1) 0 t T) : AgT P u v B i (o + 1) T := by
  refine ⟨h.tab.low, h.tab.snd, h.tab.org, fun a b a' b' c1 c2 hl h1 h2 h3 h4 h5 h6 => ?_⟩
  by_cases q : a' = i ∧ b' = o
  · obtain ⟨rfl, rfl⟩ := q
    have e1 : a' + (a - a') = a := by omega
    have e2 : b' + (b - b') = b := by omega
    have := h.don (a - a') (b - b') c1 c2 (.inl ⟨by omega, by omega⟩) (by omega) (by omega) h5 (by rw [e1, e2]; exact h6)
    rw [e1, e2] at this
    exact this
  · exact h.tab.cpl a b a' b' c1 c2 (by omega) h1 h2 h3 h4 h5 h6

/-- One more is told. -/
theorem AgW.step {x y : Nat} {t p : Int} (h : AgW P u v B i o x y t T) (hP : ∀ u v c, P u v c → 0 ≤ c) (hB : 0 ≤ B) (ht : 0 ≤ t) (hx : i + x ≤ u.length) (hy : o + y ≤ v.length)
    (hp : MinOf (P (seg u i (i + x)) (seg v o (o + y))) p) (hpB : p ≤ B) (h00 : x = 0 → y = 0 → True) : AgW P u v B i o x (y + 1) t (up2 T (i + x) (o + y) (less (T (i + x) (o + y)) (plus t p))) := by
  have hi : i ≤ u.length := by omega
  have ho : o ≤ v.length := by omega
  have hpl := hp.low
  have hfin := h.tab.fin hP hi ho
  rw [h.at_] at hfin
  obtain ⟨hts, htl⟩ : StarR P (u.take i) (v.take o) t ∧ ∀ c, StarR P (u.take i) (v.take o) c → t ≤ c := by
    rcases hfin with ⟨g, _⟩ | ⟨_, g1, g2⟩
    · omega
    · exact ⟨g1, g2⟩
  have hTl := h.tab.low (i + x) (o + y) hx hy
  have hti := h.tab.low i o hi ho
  rw [h.at_] at hti
  -- the new value
  have hpv : (p < 0 ∧ plus t p = -1) ∨ (0 ≤ p ∧ plus t p = t + p) := by
    unfold plus
    by_cases q : p < 0
    · exact .inl ⟨q, if_pos (.inr q)⟩
    · exact .inr ⟨by omega, if_neg (by omega)⟩
  have hnew : less (T (i + x) (o + y)) (plus t p) = T (i + x) (o + y) ∨ (less (T (i + x) (o + y)) (plus t p) = t + p ∧ 0 ≤ p) := by
    rcases hpv with ⟨q, e⟩ | ⟨q, e⟩ <;> rw [e] <;> unfold less <;> (repeat' split) <;> omega
  have hle : (0 ≤ T (i + x) (o + y) → 0 ≤ less (T (i + x) (o + y)) (plus t p) ∧ less (T (i + x) (o + y)) (plus t p) ≤ T (i + x) (o + y)) ∧ (0 ≤ p → 0 ≤ less (T (i + x) (o + y)) (plus t p) ∧ less (T (i + x) (o + y)) (plus t p) ≤ t + p) := by
    rcases hpv with ⟨q, e⟩ | ⟨q, e⟩ <;> rw [e] <;> unfold less <;> (repeat' split) <;> omega
  have hat : ∀ a b, up2 T (i + x) (o + y) (less (T (i + x) (o + y)) (plus t p)) a b = if a = i + x ∧ b = o + y then less (T (i + x) (o + y)) (plus t p) else T a b := fun a b => rfl
  have hself : x = 0 → y = 0 → less (T (i + x) (o + y)) (plus t p) = t := by
    rintro rfl rfl
    rw [Nat.add_zero, Nat.add_zero, h.at_]
    rcases hpv with ⟨q, e⟩ | ⟨q, e⟩ <;> rw [e] <;> unfold less <;> (repeat' split) <;> omega
  generalize hn : less (T (i + x) (o + y)) (plus t p) = n at *
  refine ⟨⟨fun a b h1 h2 => ?_, fun a b h1 h2 h3 => ?_, ?_, fun a b a' b' c1 c2 hl h1 h2 h3 h4 h5 h6 => ?_⟩, ?_, fun x' y' c1 c2 hl h1 h2 h3 h4 => ?_⟩
  · rw [hat]
    split
    · rename_i e
      rw [e.1, e.2]
      rcases hnew with g | ⟨g, g0⟩
      · rw [g]; exact hTl
      · rw [g]
        refine ⟨by omega, ?_⟩
        by_cases q : x = 0 ∧ y = 0
        · have := hself q.1 q.2
          rw [q.1, q.2]
          simp only [Nat.add_zero]
          omega
        · have e1 : ((i + o : Nat) : Int) * B + B ≤ ((i + x + (o + y) : Nat) : Int) * B := by
            have : ((i + o : Nat) : Int) * B + B = ((i + o : Nat) + 1 : Int) * B := by rw [Int.add_mul, Int.one_mul]
            rw [this]
            exact Int.mul_le_mul_of_nonneg_right (by omega) hB
          omega
    · exact h.tab.low a b h1 h2
  · rw [hat] at h3 ⊢
    split at h3
    · rename_i e
      rw [if_pos e, e.1, e.2]
      rcases hnew with g | ⟨g, g0⟩
      · rw [g] at h3 ⊢; exact h.tab.snd _ _ hx hy h3
      · rw [g]
        have hpp : P (seg u i (i + x)) (seg v o (o + y)) p := hp.is (by omega)
        have := hts.snoc hpp
        rw [take_seg (by omega), take_seg (by omega)] at this
        exact this
    · rename_i e
      rw [if_neg e]
      exact h.tab.snd a b h1 h2 h3
  · rw [hat]
    split
    · rename_i e
      have e1 : x = 0 := by omega
      have e2 : y = 0 := by omega
      have e3 : i = 0 := by omega
      have e4 : o = 0 := by omega
      rw [hself e1 e2, ← h.at_, e3, e4]
      exact h.tab.org
    · exact h.tab.org
  · have g := h.tab.cpl a b a' b' c1 c2 hl h1 h2 h3 h4 h5 h6
    rw [hat]
    split
    · rename_i e
      rw [e.1, e.2] at g
      have := hle.1 g.1
      omega
    · exact g
  · rw [hat]
    split
    · rename_i e
      exact hself (by omega) (by omega)
    · exact h.at_
  · rw [hat]
    split
    · rename_i e
      have e1 : x' = x := by omega
      have e2 : y' = y := by omega
      subst e1 e2
      have g := hp.le h4
      have := hle.2 (by omega)
      have := htl c1 h3
      omega
    · rename_i e
      exact h.don x' y' c1 c2 (by omega) h1 h2 h3 h4
end
end Go.Fw

namespace Go.Fw
open Go Go.Proofs

section
variable {F : TF} {u v : List Int}

theorem reach_at (hF : FOk F) {i o : Nat} (hi : i ≤ u.length) (ho : o ≤ v.length) {c t : Int} : Reach F u v (fromSt F) c ⟨t, i, o⟩ ↔ Way F.arcs F.start (u.take i) (v.take o) t c := by
  constructor
  · intro h
    have := (h.way hF).2
    simpa using this
  · intro h
    have := h.reach (u := u) (v := v) (S := fromSt F) (u1 := []) (u2 := u.drop i) (v1 := []) (v2 := v.drop o) (c0 := 0) (by simp) (by simp) (.here ⟨rfl, rfl⟩)
    simpa [List.length_take, Nat.min_eq_left hi, Nat.min_eq_left ho] using this

theorem plus_min (p q : Int) (hq : -1 ≤ q) : MinOf (fun c => 0 ≤ p ∧ q ≠ -1 ∧ c = p + q) (plus p q) := by
  unfold plus
  by_cases h : p < 0 ∨ q < 0
  · rw [if_pos h]
    refine .inl ⟨rfl, fun c ⟨h1, h2, _⟩ => ?_⟩
    omega
  · rw [if_neg h]
    exact .inr ⟨by omega, ⟨by omega, by omega, rfl⟩, fun c ⟨_, _, e⟩ => by omega⟩

theorem endG_min {l fin : List Int} (hf : ∀ x ∈ fin, -1 ≤ x) : ∀ k, k ≤ fin.length → MinOf (fun c => ∃ n : Nat, n < k ∧ 0 ≤ l.getD n 0 ∧ fin.getD n 0 ≠ -1 ∧ c = l.getD n 0 + fin.getD n 0) (endG l fin k)
  | 0, _ => .inl ⟨rfl, fun c ⟨n, h, _⟩ => by omega⟩
  | k + 1, hk => by
    have ih := endG_min (l := l) hf k (by omega)
    have hq := hf _ (getD_mem fin k 0 (by omega))
    refine (ih.or (plus_min (l.getD k 0) (fin.getD k 0) hq)).cong fun c => ⟨?_, ?_⟩
    · rintro (⟨n, h, hh⟩ | hh)
      · exact ⟨n, by omega, hh⟩
      · exact ⟨k, by omega, hh⟩
    · rintro ⟨n, h, hh⟩
      by_cases e : n = k
      · subst e; exact .inr hh
      · exact .inl ⟨n, by omega, hh⟩

/-- What is told of a cell is the least of all that cost these words. -/
theorem cell_min (hF : FOk F) {i o : Nat} (hi : i ≤ u.length) (ho : o ≤ v.length) {B : Int} {l : List Int} (h : CellOk F u v (fromSt F) B i o l) : MinOf (Wt F (u.take i) (v.take o)) (endG l F.fin F.st.toNat) := by
  have hfl := hF.finl
  have hst := hF.st
  have hln := h.len
  refine (endG_min (l := l) (fun x hx => (hF.fin x hx).1) F.st.toNat (by omega)).dom ?_ ?_
  · rintro c ⟨n, hn, h0, hf, rfl⟩
    exact ⟨n, _, (reach_at hF hi ho).1 (h.snd n hn h0), by simpa using hf, by simp⟩
  · rintro c ⟨t, d, hw, hf, rfl⟩
    have hr := hw.rng hF.arc hF.start
    have e : ((t.toNat : Nat) : Int) = t := by omega
    have g := h.cpl t.toNat d (by rw [e]; exact (reach_at hF hi ho).2 hw)
    exact ⟨l.getD t.toNat 0 + F.fin.getD t.toNat 0, by omega, t.toNat, by omega, g.1, hf, rfl⟩

theorem endG_bd {l fin : List Int} {B : Int} (hB : 0 ≤ B) (hl : ∀ x ∈ l, x ≤ B) (hf : ∀ x ∈ fin, x ≤ 1000000000) : ∀ k, endG l fin k ≤ B + 1000000000
  | 0 => by unfold endG; omega
  | k + 1 => by
    have ih := endG_bd hB hl hf k
    have h1 : l.getD k 0 ≤ B := by
      by_cases h : k < l.length
      · exact hl _ (getD_mem l k 0 h)
      · simp [List.getD, List.getElem?_eq_none (by omega : l.length ≤ k), hB]
    have h2 : fin.getD k 0 ≤ 1000000000 := by
      by_cases h : k < fin.length
      · exact hf _ (getD_mem fin k 0 h)
      · simp [List.getD, List.getElem?_eq_none (by omega : fin.length ≤ k)]
    have h3 : plus (l.getD k 0) (fin.getD k 0) ≤ B + 1000000000 := by unfold plus; split <;> omega
    unfold endG
    rcases (less_spec (endG l fin k) (plus (l.getD k 0) (fin.getD k 0))).2.2 with e | e <;> rw [e] <;> omega
end

/-- What ScoreOf answers. -/
theorem scoreOf_m (F : TF) (u v : List Int) (cu cv : Nat) (hF : FOk F) (hu : u.length ≤ 40) (hv : v.length ≤ 40) :
    Ct Try.prog 12 [fV F, .c (.sl 2 1 0 u.length cu), .c (.sl 3 1 0 v.length cv)] [] (hpQ F u v) 4 (fun x s => ∃ n, MinOf (Wt F u v) n ∧ n ≤ 1000000000000000 ∧ x = .i n ∧ s = ⟨[], [], 4⟩) := by
  refine (scoreOf_c F u v cu cv hF hu hv).to ?_
  rintro x s ⟨l, hl, rfl, rfl⟩
  have h1 := cell_min hF (Nat.le_refl _) (Nat.le_refl _) hl
  rw [List.take_length, List.take_length] at h1
  refine ⟨_, h1, ?_, rfl, rfl⟩
  have h2 := endG_bd (B := bndC u.length v.length) (by unfold bndC; omega) (fun x hx => (hl.bd x hx).2) (fun x hx => (hF.fin x hx).2) F.st.toNat
  unfold bndC at h2
  omega
end Go.Fw
