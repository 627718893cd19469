/- Walks of the functions: what each computes. -/
import Derived.Test.YtiejplibehppnaaR14
import Derived.Test.YtiejplibehppnaaR08

set_option linter.unusedSimpArgs false
set_option linter.unusedVariables false

namespace Go.Fw
open Go Go.Proofs

theorem invert1_c (a : Arc) : Ct Try.prog 71 [arcV a] [] [] 0 (Is 0 (arcV (invA a))) := by
  refine ctW Try.tyOk 3 [] Try.func71 rfl (by simp [SV.lt, SA.lt, SC.lt, arcV, fV]) (by simp) (fr := [(0, arcV a)]) rfl ?_
  repeat' (first | exact rfl | ((conv => whnf); first | ((first | refine qA (fun h => ?_) fun h => ?_ | refine qN (fun h => ?_) fun h => ?_ | refine qB (fun h => ?_) fun h => ?_ | refine qC (fun h => ?_) fun h => ?_) <;> try exact absurd h (by omega)) | refine qM (fun h => ?_) fun h => ?_ | refine oM (by (first | omega | (simp only [lenS, InI, nmin, EK.sz]; omega) | (simp only [lenS, InI, nmin, EK.sz] at *; omega))) ?_ | refine oM ?_ ?_ | refine bM ?_ ?_ | refine draw_of Try.mixed Try.tyOk 60 (by kernel_rfl) ?_))
  (conv => whnf)
  refine Back.is ?_
  simp [eqV, eqA, eqC, eqCs, eqAs, arcV, invA]

theorem project1_c (a : Arc) (side : Int) : Ct Try.prog 72 [arcV a, .c (.ptr 0 0)] [] [(0, .box 3 [.i side])] 1 (fun v s => v = arcV (prjA side a) ∧ s = ⟨[], [(0, .box 3 [.i side])], 1⟩) := by
  refine ctW Try.tyOk 4 [] Try.func72 rfl (by simp [SV.lt, SA.lt, SC.lt, arcV, fV]) (by simp) (fr := [(0, arcV a), (1, .c (.ptr 0 0))]) rfl ?_
  repeat' (first | exact rfl | ((conv => whnf); first | ((first | refine qA (fun h => ?_) fun h => ?_ | refine qN (fun h => ?_) fun h => ?_ | refine qB (fun h => ?_) fun h => ?_ | refine qC (fun h => ?_) fun h => ?_) <;> try exact absurd h (by omega)) | refine qM (fun h => ?_) fun h => ?_ | refine oM (by (first | omega | (simp only [lenS, InI, nmin, EK.sz]; omega) | (simp only [lenS, InI, nmin, EK.sz] at *; omega))) ?_ | refine oM ?_ ?_ | refine bM ?_ ?_ | refine draw_of Try.mixed Try.tyOk 60 (by kernel_rfl) ?_))
  · (conv => whnf)
    refine ⟨[], [(0, .box 3 [.i side])], 1, arcV (prjA side a), ⟨by rfl, trivial, by simp [eqFr, eqHp, eqV, eqA, eqC, eqO, eqCs, eqAs, look_cons, look, rn, EK.cast, EK.sz, eqCaps]⟩, ?_, rfl, rfl⟩
    simp [eqV, eqA, eqC, eqCs, eqAs, arcV, prjA, h]
  · (conv => whnf)
    refine ⟨[], [(0, .box 3 [.i side])], 1, arcV (prjA side a), ⟨by rfl, trivial, by simp [eqFr, eqHp, eqV, eqA, eqC, eqO, eqCs, eqAs, look_cons, look, rn, EK.cast, EK.sz, eqCaps]⟩, ?_, rfl, rfl⟩
    simp [eqV, eqA, eqC, eqCs, eqAs, arcV, prjA, h]

/-- What is mapped and sorted. -/
def MapPost (F : TF) (f : Arc → Arc) (hp : List (Nat × SO)) (n : Nat) (v : SV) (s : S) : Prop := ∃ zs sp sq, v = .a (.agg [.i F.st, .i F.start, .sl n 1 0 F.fin.length (F.fin.length + sp), .sl (n + 1) 5 0 zs.length (zs.length + sq)]) ∧ s = ⟨[], hp ++ [(n, .arr true 3 .int F.fin sp), (n + 1, .arr true 47 .arc zs sq)], n + 2⟩ ∧ IsNorm (F.arcs.map f) zs

set_option maxHeartbeats 8000000 in
set_option maxRecDepth 20000 in
theorem mappedI_c (F : TF) (hF : FOk F) : Ct Try.prog 70 [fV F, .c (.fn 71 [])] [] (hpF F) 2 (MapPost F invA [] 2) := by
  have hfl := hF.finl
  have hal := hF.arcl
  have hst := hF.st
  refine ctW Try.tyOk 8 [17, 18, 19] Try.func70 rfl (by simp [SV.lt, SA.lt, SC.lt, arcV, fV]) (by simp) (fr := [(0, fV F), (1, .c (.fn 71 []))]) rfl ?_
  repeat' (first | exact rfl | ((conv => whnf); first | ((first | refine qA (fun h => ?_) fun h => ?_ | refine qN (fun h => ?_) fun h => ?_ | refine qB (fun h => ?_) fun h => ?_ | refine qC (fun h => ?_) fun h => ?_) <;> try exact absurd h (by omega)) | refine qM (fun h => ?_) fun h => ?_ | refine oM (by (first | omega | (simp only [lenS, InI, nmin, EK.sz]; omega) | (simp only [lenS, InI, nmin, EK.sz] at *; omega))) ?_ | refine oM ?_ ?_ | refine bM ?_ ?_))
  (conv => whnf)
  refine drawCut (fun sp : Nat => ⟨[(1, .c (.fn 71 [])), (2, .c (.ptr 2 0)), (4, .c (.ptr 3 0)), (5, .c (.ptr 5 0))],
    [(0, .arr false 3 .int F.fin 0), (1, .arr false 47 .arc F.arcs 0), (2, .box 25 (fCells F)), (3, .box 25 [.i 0, .i 0, .v (.slice none 0 0), .v (.slice none 0 0)]), (4, .arr true 3 .int F.fin sp), (5, .box 25 [.i F.st, .i F.start, .sl 4 1 0 F.fin.length (F.fin.length + sp), .v (.slice none 0 0)])], 6⟩) (fun _ => True) ?_ ?_
  · repeat' (first | exact rfl | ((conv => whnf); first | ((first | refine qA (fun h => ?_) fun h => ?_ | refine qN (fun h => ?_) fun h => ?_ | refine qB (fun h => ?_) fun h => ?_ | refine qC (fun h => ?_) fun h => ?_) <;> try exact absurd h (by omega)) | refine qM (fun h => ?_) fun h => ?_ | refine oM (by (first | omega | (simp only [lenS, InI, nmin, EK.sz]; omega) | (simp only [lenS, InI, nmin, EK.sz] at *; omega))) ?_ | refine oM ?_ ?_ | refine bM ?_ ?_ | refine draw_of Try.mixed Try.tyOk 60 (by kernel_rfl) ?_))
    all_goals
      (conv => whnf)
      refine callF (clone_c F.fin F.capF (by omega)) [0] Try.call104 rfl (by simp [eqLs, eqL, eqO, eqC, eqCs, rn, renOf, look_cons, look, EK.cast]) (by simp [appN, ptrs, eqVL, eqV, eqA, eqC, eqCs, eqAs, eqCaps, EK.sz, rn, renOf, look_cons, look, arcV, fV]) (by simp [appN, ptrs, SV.lt, SA.lt, SC.lt, arcV, fV, lenN]) ?_
      rintro _ _ ⟨sp, rfl, rfl⟩
      repeat' (first | exact rfl | ((conv => whnf); first | ((first | refine qA (fun h => ?_) fun h => ?_ | refine qN (fun h => ?_) fun h => ?_ | refine qB (fun h => ?_) fun h => ?_ | refine qC (fun h => ?_) fun h => ?_) <;> try exact absurd h (by omega)) | refine qM (fun h => ?_) fun h => ?_ | refine oM (by (first | omega | (simp only [lenS, InI, nmin, EK.sz]; omega) | (simp only [lenS, InI, nmin, EK.sz] at *; omega))) ?_ | refine oM ?_ ?_ | refine bM ?_ ?_ | refine draw_of Try.mixed Try.tyOk 60 (by kernel_rfl) ?_))
      (conv => whnf)
    · refine ⟨sp, [], ⟨by rfl, ?_, ?_⟩, trivial⟩
      · simp [eqFr, eqHp, eqV, eqA, eqC, eqO, eqCs, eqAs, look_cons, look, rn, EK.cast, EK.sz, eqCaps]
      · simp [eqFr, eqHp, eqV, eqA, eqC, eqO, eqCs, eqAs, look_cons, look, rn, EK.cast, EK.sz, eqCaps, fCells]
    · refine ⟨sp, [(4, some 5), (5, some 4)], ⟨by rfl, ?_, ?_⟩, trivial⟩
      · simp [eqFr, eqHp, eqV, eqA, eqC, eqO, eqCs, eqAs, look_cons, look, rn, EK.cast, EK.sz, eqCaps]
      · simp [eqFr, eqHp, eqV, eqA, eqC, eqO, eqCs, eqAs, look_cons, look, rn, EK.cast, EK.sz, eqCaps, fCells]
  · intro sp _
    repeat' (first | exact rfl | ((conv => whnf); first | ((first | refine qA (fun h => ?_) fun h => ?_ | refine qN (fun h => ?_) fun h => ?_ | refine qB (fun h => ?_) fun h => ?_ | refine qC (fun h => ?_) fun h => ?_) <;> try exact absurd h (by omega)) | refine qM (fun h => ?_) fun h => ?_ | refine oM (by (first | omega | (simp only [lenS, InI, nmin, EK.sz]; omega) | (simp only [lenS, InI, nmin, EK.sz] at *; omega))) ?_ | refine oM ?_ ?_ | refine bM ?_ ?_ | refine draw_of Try.mixed Try.tyOk 60 (by kernel_rfl) ?_))
    (conv => whnf)
    refine loopI (fun x : Nat × Nat => ⟨[(1, .c (.fn 71 [])), (2, .c (.ptr 2 0)), (4, .c (.ptr 3 0)), (5, .c (.ptr 5 0)), (17, .c (.sl 1 5 0 F.arcs.length F.capA)), (18, .i F.arcs.length), (19, .i x.1)],
      [(0, .arr false 3 .int F.fin 0), (1, .arr false 47 .arc F.arcs 0), (2, .box 25 (fCells F)), (3, .box 25 [.i 0, .i 0, .v (.slice none 0 0), .v (.slice none 0 0)]), (4, .arr true 3 .int F.fin sp), (5, .box 25 [.i F.st, .i F.start, .sl 4 1 0 F.fin.length (F.fin.length + sp), .sl 6 5 0 ((F.arcs.take x.1).map invA).length (((F.arcs.take x.1).map invA).length + x.2)]), (6, .arr true 47 .arc ((F.arcs.take x.1).map invA) x.2)], 7⟩)
      (fun x => x.1 ≤ F.arcs.length) (fun x => F.arcs.length - x.1) (0, 0) [(6, none)] ⟨by rfl, ?_, ?_⟩ (Nat.zero_le _) ?_
    · simp [eqFr, eqHp, eqV, eqA, eqC, eqO, eqCs, eqAs, look_cons, look, rn, EK.cast, EK.sz, eqCaps]
    · simp [eqFr, eqHp, eqV, eqA, eqC, eqO, eqCs, eqAs, look_cons, look, rn, EK.cast, EK.sz, eqCaps, fCells, nilO]
    · rintro ⟨k, sq⟩ hk
      simp only at hk ⊢
      have hln : ((F.arcs.take k).map invA).length = k := by rw [List.length_map, List.length_take]; omega
      have hsn : k < F.arcs.length → (F.arcs.take (k + 1)).map invA = (F.arcs.take k).map invA ++ [invA (F.arcs.getD k aD)] := fun h => by
        rw [take_succ_getD F.arcs k aD h, List.map_append]; rfl
      generalize hpp : (F.arcs.take k).map invA = pl at hsn hln ⊢
      have e0 : 0 + (k : Int).toNat = k := by omega
      repeat' (first | exact rfl | ((conv => whnf); first | ((first | refine qA (fun h => ?_) fun h => ?_ | refine qN (fun h => ?_) fun h => ?_ | refine qB (fun h => ?_) fun h => ?_ | refine qC (fun h => ?_) fun h => ?_) <;> try exact absurd h (by omega)) | refine qM (fun h => ?_) fun h => ?_ | refine oM (by (first | omega | (simp only [lenS, InI, nmin, EK.sz]; omega) | (simp only [lenS, InI, nmin, EK.sz] at *; omega))) ?_ | refine oM ?_ ?_ | refine bM ?_ ?_ | refine draw_of Try.mixed Try.tyOk 60 (by kernel_rfl) ?_))
      · (conv => whnf)
        refine callF (invert1_c (F.arcs.getD (0 + (k : Int).toNat) EK.arc.dflt)) [] Try.call71 rfl (by simp [eqLs, eqL, eqO, eqC, eqCs, rn, renOf, look_cons, look, EK.cast]) (by simp [appN, ptrs, eqVL, eqV, eqA, eqC, eqCs, eqAs, eqCaps, EK.sz, rn, renOf, look_cons, look, arcV, fV]) (by simp [appN, ptrs, SV.lt, SA.lt, SC.lt, arcV, fV, lenN]) ?_
        rintro _ _ ⟨rfl, rfl⟩
        repeat' (first | exact rfl | ((conv => whnf); first | ((first | refine qA (fun h => ?_) fun h => ?_ | refine qN (fun h => ?_) fun h => ?_ | refine qB (fun h => ?_) fun h => ?_ | refine qC (fun h => ?_) fun h => ?_) <;> try exact absurd h (by omega)) | refine qM (fun h => ?_) fun h => ?_ | refine oM (by (first | omega | (simp only [lenS, InI, nmin, EK.sz]; omega) | (simp only [lenS, InI, nmin, EK.sz] at *; omega))) ?_ | refine oM ?_ ?_ | refine bM ?_ ?_ | refine draw_of Try.mixed Try.tyOk 60 (by kernel_rfl) ?_ | intro _))
        (conv => whnf)
        rename_i q
        replace hsn := hsn (by omega)
        rw [← e0] at hsn
        refine ⟨(k + 1, q), [(6, some 9)], ⟨by rfl, ?_, ?_⟩, by simp only; omega, by simp only; omega⟩
        · simp [eqFr, eqHp, eqV, eqA, eqC, eqO, eqCs, eqAs, look_cons, look, rn, EK.cast, EK.sz, eqCaps]
        · rw [e0] at hsn
          simp [eqFr, eqHp, eqV, eqA, eqC, eqO, eqCs, eqAs, look_cons, look, rn, EK.cast, EK.sz, eqCaps, fCells, hsn, EK.dflt]
          exact (app_one pl _ _ rfl).symm
      · have e : F.arcs.take k = F.arcs := List.take_of_length_le (by omega)
        rw [e] at hpp
        subst hpp
        clear hsn
        repeat' (first | exact rfl | ((conv => whnf); first | ((first | refine qA (fun h => ?_) fun h => ?_ | refine qN (fun h => ?_) fun h => ?_ | refine qB (fun h => ?_) fun h => ?_ | refine qC (fun h => ?_) fun h => ?_) <;> try exact absurd h (by omega)) | refine qM (fun h => ?_) fun h => ?_ | refine oM (by (first | omega | (simp only [lenS, InI, nmin, EK.sz]; omega) | (simp only [lenS, InI, nmin, EK.sz] at *; omega))) ?_ | refine oM ?_ ?_ | refine bM ?_ ?_ | refine draw_of Try.mixed Try.tyOk 60 (by kernel_rfl) ?_))
        (conv => whnf)
        refine callF (sorted_c (F.arcs.map invA) ((F.arcs.map invA).length + sq) sq (by omega) (by omega)) [6] Try.call90 rfl (by simp [eqLs, eqL, eqO, eqC, eqCs, rn, renOf, look_cons, look, EK.cast]) (by simp [appN, ptrs, eqVL, eqV, eqA, eqC, eqCs, eqAs, eqCaps, EK.sz, rn, renOf, look_cons, look, arcV, fV]) (by simp [appN, ptrs, SV.lt, SA.lt, SC.lt, arcV, fV, lenN]) ?_
        rintro _ _ ⟨zs, sq', rfl, rfl, hzl, hso⟩
        repeat' (first | exact rfl | ((conv => whnf); first | ((first | refine qA (fun h => ?_) fun h => ?_ | refine qN (fun h => ?_) fun h => ?_ | refine qB (fun h => ?_) fun h => ?_ | refine qC (fun h => ?_) fun h => ?_) <;> try exact absurd h (by omega)) | refine qM (fun h => ?_) fun h => ?_ | refine oM (by (first | omega | (simp only [lenS, InI, nmin, EK.sz]; omega) | (simp only [lenS, InI, nmin, EK.sz] at *; omega))) ?_ | refine oM ?_ ?_ | refine bM ?_ ?_ | refine draw_of Try.mixed Try.tyOk 60 (by kernel_rfl) ?_))
        (conv => whnf)
        rw [hzl]
        exact ⟨[(2, some 4), (3, some 6)], [(2, .arr true 3 .int F.fin sp), (3, .arr true 47 .arc zs sq')], 4, .a (.agg [.i F.st, .i F.start, .sl 2 1 0 F.fin.length (F.fin.length + sp), .sl 3 5 0 zs.length (zs.length + sq')]), ⟨by rfl, trivial, by simp [eqFr, eqHp, eqV, eqA, eqC, eqO, eqCs, eqAs, look_cons, look, rn, EK.cast, EK.sz, eqCaps]⟩, by simp [eqV, eqA, eqAs, eqC, eqCs, rn, look, look_cons, EK.sz], zs, sp, sq', rfl, rfl, hso.norm⟩
set_option maxHeartbeats 8000000 in
set_option maxRecDepth 20000 in
theorem mappedP_c (F : TF) (hF : FOk F) (side : Int) : Ct Try.prog 70 [fV F, .c (.fn 72 [(2, 0)])] [] ((2, .box 3 [.i side]) :: hpF F) 3 (MapPost F (prjA side) [(2, .box 3 [.i side])] 3) := by
  have hfl := hF.finl
  have hal := hF.arcl
  have hst := hF.st
  refine ctW Try.tyOk 8 [17, 18, 19] Try.func70 rfl (by simp [SV.lt, SA.lt, SC.lt, arcV, fV]) (by simp) (fr := [(0, fV F), (1, .c (.fn 72 [(2, 0)]))]) rfl ?_
  repeat' (first | exact rfl | ((conv => whnf); first | ((first | refine qA (fun h => ?_) fun h => ?_ | refine qN (fun h => ?_) fun h => ?_ | refine qB (fun h => ?_) fun h => ?_ | refine qC (fun h => ?_) fun h => ?_) <;> try exact absurd h (by omega)) | refine qM (fun h => ?_) fun h => ?_ | refine oM (by (first | omega | (simp only [lenS, InI, nmin, EK.sz]; omega) | (simp only [lenS, InI, nmin, EK.sz] at *; omega))) ?_ | refine oM ?_ ?_ | refine bM ?_ ?_))
  (conv => whnf)
  refine drawCut (fun sp : Nat => ⟨[(1, .c (.fn 72 [(2, 0)])), (2, .c (.ptr 3 0)), (4, .c (.ptr 4 0)), (5, .c (.ptr 6 0))],
    [(0, .arr false 3 .int F.fin 0), (1, .arr false 47 .arc F.arcs 0), (2, .box 3 [.i side]), (3, .box 25 (fCells F)), (4, .box 25 [.i 0, .i 0, .v (.slice none 0 0), .v (.slice none 0 0)]), (5, .arr true 3 .int F.fin sp), (6, .box 25 [.i F.st, .i F.start, .sl 5 1 0 F.fin.length (F.fin.length + sp), .v (.slice none 0 0)])], 7⟩) (fun _ => True) ?_ ?_
  · repeat' (first | exact rfl | ((conv => whnf); first | ((first | refine qA (fun h => ?_) fun h => ?_ | refine qN (fun h => ?_) fun h => ?_ | refine qB (fun h => ?_) fun h => ?_ | refine qC (fun h => ?_) fun h => ?_) <;> try exact absurd h (by omega)) | refine qM (fun h => ?_) fun h => ?_ | refine oM (by (first | omega | (simp only [lenS, InI, nmin, EK.sz]; omega) | (simp only [lenS, InI, nmin, EK.sz] at *; omega))) ?_ | refine oM ?_ ?_ | refine bM ?_ ?_ | refine draw_of Try.mixed Try.tyOk 60 (by kernel_rfl) ?_))
    all_goals
      (conv => whnf)
      refine callF (clone_c F.fin F.capF (by omega)) [0] Try.call104 rfl (by simp [eqLs, eqL, eqO, eqC, eqCs, rn, renOf, look_cons, look, EK.cast]) (by simp [appN, ptrs, eqVL, eqV, eqA, eqC, eqCs, eqAs, eqCaps, EK.sz, rn, renOf, look_cons, look, arcV, fV]) (by simp [appN, ptrs, SV.lt, SA.lt, SC.lt, arcV, fV, lenN]) ?_
      rintro _ _ ⟨sp, rfl, rfl⟩
      repeat' (first | exact rfl | ((conv => whnf); first | ((first | refine qA (fun h => ?_) fun h => ?_ | refine qN (fun h => ?_) fun h => ?_ | refine qB (fun h => ?_) fun h => ?_ | refine qC (fun h => ?_) fun h => ?_) <;> try exact absurd h (by omega)) | refine qM (fun h => ?_) fun h => ?_ | refine oM (by (first | omega | (simp only [lenS, InI, nmin, EK.sz]; omega) | (simp only [lenS, InI, nmin, EK.sz] at *; omega))) ?_ | refine oM ?_ ?_ | refine bM ?_ ?_ | refine draw_of Try.mixed Try.tyOk 60 (by kernel_rfl) ?_))
      (conv => whnf)
    · refine ⟨sp, [], ⟨by rfl, ?_, ?_⟩, trivial⟩
      · simp [eqFr, eqHp, eqV, eqA, eqC, eqO, eqCs, eqAs, look_cons, look, rn, EK.cast, EK.sz, eqCaps]
      · simp [eqFr, eqHp, eqV, eqA, eqC, eqO, eqCs, eqAs, look_cons, look, rn, EK.cast, EK.sz, eqCaps, fCells]
    · refine ⟨sp, [(5, some 6), (6, some 5)], ⟨by rfl, ?_, ?_⟩, trivial⟩
      · simp [eqFr, eqHp, eqV, eqA, eqC, eqO, eqCs, eqAs, look_cons, look, rn, EK.cast, EK.sz, eqCaps]
      · simp [eqFr, eqHp, eqV, eqA, eqC, eqO, eqCs, eqAs, look_cons, look, rn, EK.cast, EK.sz, eqCaps, fCells]
  · intro sp _
    repeat' (first | exact rfl | ((conv => whnf); first | ((first | refine qA (fun h => ?_) fun h => ?_ | refine qN (fun h => ?_) fun h => ?_ | refine qB (fun h => ?_) fun h => ?_ | refine qC (fun h => ?_) fun h => ?_) <;> try exact absurd h (by omega)) | refine qM (fun h => ?_) fun h => ?_ | refine oM (by (first | omega | (simp only [lenS, InI, nmin, EK.sz]; omega) | (simp only [lenS, InI, nmin, EK.sz] at *; omega))) ?_ | refine oM ?_ ?_ | refine bM ?_ ?_ | refine draw_of Try.mixed Try.tyOk 60 (by kernel_rfl) ?_))
    (conv => whnf)
    refine loopI (fun x : Nat × Nat => ⟨[(1, .c (.fn 72 [(2, 0)])), (2, .c (.ptr 3 0)), (4, .c (.ptr 4 0)), (5, .c (.ptr 6 0)), (17, .c (.sl 1 5 0 F.arcs.length F.capA)), (18, .i F.arcs.length), (19, .i x.1)],
      [(0, .arr false 3 .int F.fin 0), (1, .arr false 47 .arc F.arcs 0), (2, .box 3 [.i side]), (3, .box 25 (fCells F)), (4, .box 25 [.i 0, .i 0, .v (.slice none 0 0), .v (.slice none 0 0)]), (5, .arr true 3 .int F.fin sp), (6, .box 25 [.i F.st, .i F.start, .sl 5 1 0 F.fin.length (F.fin.length + sp), .sl 7 5 0 ((F.arcs.take x.1).map (prjA side)).length (((F.arcs.take x.1).map (prjA side)).length + x.2)]), (7, .arr true 47 .arc ((F.arcs.take x.1).map (prjA side)) x.2)], 8⟩)
      (fun x => x.1 ≤ F.arcs.length) (fun x => F.arcs.length - x.1) (0, 0) [(7, none)] ⟨by rfl, ?_, ?_⟩ (Nat.zero_le _) ?_
    · simp [eqFr, eqHp, eqV, eqA, eqC, eqO, eqCs, eqAs, look_cons, look, rn, EK.cast, EK.sz, eqCaps]
    · simp [eqFr, eqHp, eqV, eqA, eqC, eqO, eqCs, eqAs, look_cons, look, rn, EK.cast, EK.sz, eqCaps, fCells, nilO]
    · rintro ⟨k, sq⟩ hk
      simp only at hk ⊢
      have hln : ((F.arcs.take k).map (prjA side)).length = k := by rw [List.length_map, List.length_take]; omega
      have hsn : k < F.arcs.length → (F.arcs.take (k + 1)).map (prjA side) = (F.arcs.take k).map (prjA side) ++ [(prjA side) (F.arcs.getD k aD)] := fun h => by
        rw [take_succ_getD F.arcs k aD h, List.map_append]; rfl
      generalize hpp : (F.arcs.take k).map (prjA side) = pl at hsn hln ⊢
      have e0 : 0 + (k : Int).toNat = k := by omega
      repeat' (first | exact rfl | ((conv => whnf); first | ((first | refine qA (fun h => ?_) fun h => ?_ | refine qN (fun h => ?_) fun h => ?_ | refine qB (fun h => ?_) fun h => ?_ | refine qC (fun h => ?_) fun h => ?_) <;> try exact absurd h (by omega)) | refine qM (fun h => ?_) fun h => ?_ | refine oM (by (first | omega | (simp only [lenS, InI, nmin, EK.sz]; omega) | (simp only [lenS, InI, nmin, EK.sz] at *; omega))) ?_ | refine oM ?_ ?_ | refine bM ?_ ?_ | refine draw_of Try.mixed Try.tyOk 60 (by kernel_rfl) ?_))
      · (conv => whnf)
        refine callF (project1_c (F.arcs.getD (0 + (k : Int).toNat) EK.arc.dflt) side) [2] Try.call72 rfl (by simp [eqLs, eqL, eqO, eqC, eqCs, rn, renOf, look_cons, look, EK.cast]) (by simp [appN, ptrs, eqVL, eqV, eqA, eqC, eqCs, eqAs, eqCaps, EK.sz, rn, renOf, look_cons, look, arcV, fV]) (by simp [appN, ptrs, SV.lt, SA.lt, SC.lt, arcV, fV, lenN]) ?_
        rintro _ _ ⟨rfl, rfl⟩
        repeat' (first | exact rfl | ((conv => whnf); first | ((first | refine qA (fun h => ?_) fun h => ?_ | refine qN (fun h => ?_) fun h => ?_ | refine qB (fun h => ?_) fun h => ?_ | refine qC (fun h => ?_) fun h => ?_) <;> try exact absurd h (by omega)) | refine qM (fun h => ?_) fun h => ?_ | refine oM (by (first | omega | (simp only [lenS, InI, nmin, EK.sz]; omega) | (simp only [lenS, InI, nmin, EK.sz] at *; omega))) ?_ | refine oM ?_ ?_ | refine bM ?_ ?_ | refine draw_of Try.mixed Try.tyOk 60 (by kernel_rfl) ?_ | intro _))
        (conv => whnf)
        rename_i q
        replace hsn := hsn (by omega)
        rw [← e0] at hsn
        refine ⟨(k + 1, q), [(7, some 10)], ⟨by rfl, ?_, ?_⟩, by simp only; omega, by simp only; omega⟩
        · simp [eqFr, eqHp, eqV, eqA, eqC, eqO, eqCs, eqAs, look_cons, look, rn, EK.cast, EK.sz, eqCaps]
        · rw [e0] at hsn
          simp [eqFr, eqHp, eqV, eqA, eqC, eqO, eqCs, eqAs, look_cons, look, rn, EK.cast, EK.sz, eqCaps, fCells, hsn, EK.dflt]
          exact (app_one pl _ _ rfl).symm
      · have e : F.arcs.take k = F.arcs := List.take_of_length_le (by omega)
        rw [e] at hpp
        subst hpp
        clear hsn
        repeat' (first | exact rfl | ((conv => whnf); first | ((first | refine qA (fun h => ?_) fun h => ?_ | refine qN (fun h => ?_) fun h => ?_ | refine qB (fun h => ?_) fun h => ?_ | refine qC (fun h => ?_) fun h => ?_) <;> try exact absurd h (by omega)) | refine qM (fun h => ?_) fun h => ?_ | refine oM (by (first | omega | (simp only [lenS, InI, nmin, EK.sz]; omega) | (simp only [lenS, InI, nmin, EK.sz] at *; omega))) ?_ | refine oM ?_ ?_ | refine bM ?_ ?_ | refine draw_of Try.mixed Try.tyOk 60 (by kernel_rfl) ?_))
        (conv => whnf)
        refine callF (sorted_c (F.arcs.map (prjA side)) ((F.arcs.map (prjA side)).length + sq) sq (by omega) (by omega)) [7] Try.call90 rfl (by simp [eqLs, eqL, eqO, eqC, eqCs, rn, renOf, look_cons, look, EK.cast]) (by simp [appN, ptrs, eqVL, eqV, eqA, eqC, eqCs, eqAs, eqCaps, EK.sz, rn, renOf, look_cons, look, arcV, fV]) (by simp [appN, ptrs, SV.lt, SA.lt, SC.lt, arcV, fV, lenN]) ?_
        rintro _ _ ⟨zs, sq', rfl, rfl, hzl, hso⟩
        repeat' (first | exact rfl | ((conv => whnf); first | ((first | refine qA (fun h => ?_) fun h => ?_ | refine qN (fun h => ?_) fun h => ?_ | refine qB (fun h => ?_) fun h => ?_ | refine qC (fun h => ?_) fun h => ?_) <;> try exact absurd h (by omega)) | refine qM (fun h => ?_) fun h => ?_ | refine oM (by (first | omega | (simp only [lenS, InI, nmin, EK.sz]; omega) | (simp only [lenS, InI, nmin, EK.sz] at *; omega))) ?_ | refine oM ?_ ?_ | refine bM ?_ ?_ | refine draw_of Try.mixed Try.tyOk 60 (by kernel_rfl) ?_))
        (conv => whnf)
        rw [hzl]
        exact ⟨[(3, some 5), (4, some 7)], [(2, .box 3 [.i side]), (3, .arr true 3 .int F.fin sp), (4, .arr true 47 .arc zs sq')], 5, .a (.agg [.i F.st, .i F.start, .sl 3 1 0 F.fin.length (F.fin.length + sp), .sl 4 5 0 zs.length (zs.length + sq')]), ⟨by rfl, trivial, by simp [eqFr, eqHp, eqV, eqA, eqC, eqO, eqCs, eqAs, look_cons, look, rn, EK.cast, EK.sz, eqCaps]⟩, by simp [eqV, eqA, eqAs, eqC, eqCs, rn, look, look_cons, EK.sz], zs, sp, sq', rfl, rfl, hso.norm⟩
end Go.Fw

namespace Go.Fw
open Go Go.Proofs

/-- Turned, and no error. -/
def TurnPost (F : TF) (f : Arc → Arc) (v : SV) (s : S) : Prop := ∃ zs sp sq, v = .tup [.agg [.i F.st, .i F.start, .sl 2 1 0 F.fin.length (F.fin.length + sp), .sl 3 5 0 zs.length (zs.length + sq)], .c (.i 0)] ∧ s = ⟨[], [(2, .arr true 3 .int F.fin sp), (3, .arr true 47 .arc zs sq)], 4⟩ ∧ IsNorm (F.arcs.map f) zs
/-- No transducer, and an error. -/
abbrev noT (e : Int) : SV := .tup [.agg [.i 0, .i 0, .v (.slice none 0 0), .v (.slice none 0 0)], .c (.i e)]

set_option maxHeartbeats 4000000 in
set_option maxRecDepth 20000 in
theorem invert_ok (F : TF) (hl : F.fin.length ≤ 9223372036854775807) (h : fstE F = 0) : Ct Try.prog 27 [fV F] [] (hpF F) 2 (TurnPost F invA) := by
  have hF := fstE_ok h
  refine ctW Try.tyOk 5 [] Try.func27 rfl (by simp [SV.lt, SA.lt, SC.lt, arcV, fV]) (by simp) (fr := [(0, fV F)]) rfl ?_
  repeat' (first | exact rfl | ((conv => whnf); first | ((first | refine qA (fun h => ?_) fun h => ?_ | refine qN (fun h => ?_) fun h => ?_ | refine qB (fun h => ?_) fun h => ?_ | refine qC (fun h => ?_) fun h => ?_) <;> try exact absurd h (by omega)) | refine qM (fun h => ?_) fun h => ?_ | refine oM (by (first | omega | (simp only [lenS, InI, nmin, EK.sz]; omega) | (simp only [lenS, InI, nmin, EK.sz] at *; omega))) ?_ | refine oM ?_ ?_ | refine bM ?_ ?_ | refine draw_of Try.mixed Try.tyOk 60 (by kernel_rfl) ?_))
  refine callI (check_c F hl) [0, 1] Try.call60 rfl (by simp [eqLs, eqL, eqO, eqC, eqCs, rn, renOf, look_cons, look, EK.cast]) (by simp [appN, ptrs, eqVL, eqV, eqA, eqC, eqCs, eqAs, eqCaps, EK.sz, rn, renOf, look_cons, look, arcV, fV]) (by simp [appN, ptrs, SV.lt, SA.lt, SC.lt, arcV, fV]) ?_
  repeat' (first | exact rfl | ((conv => whnf); first | ((first | refine qA (fun h => ?_) fun h => ?_ | refine qN (fun h => ?_) fun h => ?_ | refine qB (fun h => ?_) fun h => ?_ | refine qC (fun h => ?_) fun h => ?_) <;> try exact absurd h (by omega)) | refine qM (fun h => ?_) fun h => ?_ | refine oM (by (first | omega | (simp only [lenS, InI, nmin, EK.sz]; omega) | (simp only [lenS, InI, nmin, EK.sz] at *; omega))) ?_ | refine oM ?_ ?_ | refine bM ?_ ?_ | refine draw_of Try.mixed Try.tyOk 60 (by kernel_rfl) ?_))
  (conv => whnf)
  refine callF (mappedI_c F hF) [0, 1] Try.call70 rfl (by simp [eqLs, eqL, eqO, eqC, eqCs, rn, renOf, look_cons, look, EK.cast]) (by simp [appN, ptrs, eqVL, eqV, eqA, eqC, eqCs, eqAs, eqCaps, EK.sz, rn, renOf, look_cons, look, arcV, fV]) (by simp [appN, ptrs, SV.lt, SA.lt, SC.lt, arcV, fV, lenN]) ?_
  rintro _ _ ⟨zs, sp, sq, rfl, rfl, hz⟩
  repeat' (first | exact rfl | ((conv => whnf); first | ((first | refine qA (fun h => ?_) fun h => ?_ | refine qN (fun h => ?_) fun h => ?_ | refine qB (fun h => ?_) fun h => ?_ | refine qC (fun h => ?_) fun h => ?_) <;> try exact absurd h (by omega)) | refine qM (fun h => ?_) fun h => ?_ | refine oM (by (first | omega | (simp only [lenS, InI, nmin, EK.sz]; omega) | (simp only [lenS, InI, nmin, EK.sz] at *; omega))) ?_ | refine oM ?_ ?_ | refine bM ?_ ?_ | refine draw_of Try.mixed Try.tyOk 60 (by kernel_rfl) ?_))
  (conv => whnf)
  exact ⟨[(2, some 4), (3, some 5)], [(2, .arr true 3 .int F.fin sp), (3, .arr true 47 .arc zs sq)], 4, .tup [.agg [.i F.st, .i F.start, .sl 2 1 0 F.fin.length (F.fin.length + sp), .sl 3 5 0 zs.length (zs.length + sq)], .c (.i 0)], ⟨by rfl, trivial, by simp [eqFr, eqHp, eqV, eqA, eqC, eqO, eqCs, eqAs, look_cons, look, rn, EK.cast, EK.sz, eqCaps]⟩, by simp [eqV, eqA, eqAs, eqC, eqCs, rn, look, look_cons, EK.sz], zs, sp, sq, rfl, rfl, hz⟩

set_option maxHeartbeats 4000000 in
set_option maxRecDepth 20000 in
theorem project_ok (F : TF) (side : Int) (hl : F.fin.length ≤ 9223372036854775807) (h : fstE F = 0) (hs : side = 1 ∨ side = 2) : Ct Try.prog 28 [fV F, .i side] [] (hpF F) 2 (TurnPost F (turnA side)) := by
  have hF := fstE_ok h
  rw [turnA_prj hs]
  refine ctW Try.tyOk 7 [] Try.func28 rfl (by simp [SV.lt, SA.lt, SC.lt, arcV, fV]) (by simp) (fr := [(0, fV F), (1, .i side)]) rfl ?_
  repeat' (first | exact rfl | ((conv => whnf); first | ((first | refine qA (fun h => ?_) fun h => ?_ | refine qN (fun h => ?_) fun h => ?_ | refine qB (fun h => ?_) fun h => ?_ | refine qC (fun h => ?_) fun h => ?_) <;> try exact absurd h (by omega)) | refine qM (fun h => ?_) fun h => ?_ | refine oM (by (first | omega | (simp only [lenS, InI, nmin, EK.sz]; omega) | (simp only [lenS, InI, nmin, EK.sz] at *; omega))) ?_ | refine oM ?_ ?_ | refine bM ?_ ?_ | refine draw_of Try.mixed Try.tyOk 60 (by kernel_rfl) ?_))
  refine callI (check_c F hl) [0, 1] Try.call60 rfl (by simp [eqLs, eqL, eqO, eqC, eqCs, rn, renOf, look_cons, look, EK.cast]) (by simp [appN, ptrs, eqVL, eqV, eqA, eqC, eqCs, eqAs, eqCaps, EK.sz, rn, renOf, look_cons, look, arcV, fV]) (by simp [appN, ptrs, SV.lt, SA.lt, SC.lt, arcV, fV]) ?_
  repeat' (first | exact rfl | ((conv => whnf); first | ((first | refine qA (fun h => ?_) fun h => ?_ | refine qN (fun h => ?_) fun h => ?_ | refine qB (fun h => ?_) fun h => ?_ | refine qC (fun h => ?_) fun h => ?_) <;> try exact absurd h (by omega)) | refine qM (fun h => ?_) fun h => ?_ | refine oM (by (first | omega | (simp only [lenS, InI, nmin, EK.sz]; omega) | (simp only [lenS, InI, nmin, EK.sz] at *; omega))) ?_ | refine oM ?_ ?_ | refine bM ?_ ?_ | refine draw_of Try.mixed Try.tyOk 60 (by kernel_rfl) ?_))
  all_goals
    (conv => whnf)
    refine callF (mappedP_c F hF side) [0, 1, 3] Try.call70 rfl (by simp [eqLs, eqL, eqO, eqC, eqCs, rn, renOf, look_cons, look, EK.cast]) (by simp [appN, ptrs, eqVL, eqV, eqA, eqC, eqCs, eqAs, eqCaps, EK.sz, rn, renOf, look_cons, look, arcV, fV]) (by simp [appN, ptrs, SV.lt, SA.lt, SC.lt, arcV, fV, lenN]) ?_
    rintro _ _ ⟨zs, sp, sq, rfl, rfl, hz⟩
    repeat' (first | exact rfl | ((conv => whnf); first | ((first | refine qA (fun h => ?_) fun h => ?_ | refine qN (fun h => ?_) fun h => ?_ | refine qB (fun h => ?_) fun h => ?_ | refine qC (fun h => ?_) fun h => ?_) <;> try exact absurd h (by omega)) | refine qM (fun h => ?_) fun h => ?_ | refine oM (by (first | omega | (simp only [lenS, InI, nmin, EK.sz]; omega) | (simp only [lenS, InI, nmin, EK.sz] at *; omega))) ?_ | refine oM ?_ ?_ | refine bM ?_ ?_ | refine draw_of Try.mixed Try.tyOk 60 (by kernel_rfl) ?_))
    (conv => whnf)
    exact ⟨[(2, some 5), (3, some 6)], [(2, .arr true 3 .int F.fin sp), (3, .arr true 47 .arc zs sq)], 4, .tup [.agg [.i F.st, .i F.start, .sl 2 1 0 F.fin.length (F.fin.length + sp), .sl 3 5 0 zs.length (zs.length + sq)], .c (.i 0)], ⟨by rfl, trivial, by simp [eqFr, eqHp, eqV, eqA, eqC, eqO, eqCs, eqAs, look_cons, look, rn, EK.cast, EK.sz, eqCaps]⟩, by simp [eqV, eqA, eqAs, eqC, eqCs, rn, look, look_cons, EK.sz], zs, sp, sq, rfl, rfl, hz⟩
end Go.Fw

namespace Go.Fw
open Go Go.Proofs

end Go.Fw

/-
  Joined: either of two, one behind the other, again and again: the ways of what is joined.
-/
namespace Go.Fw
open Go

def shA (k : Int) (a : Arc) : Arc := ⟨a.f + k, a.i, a.o, a.t + k, a.w⟩
def silA (f t w : Int) : Arc := ⟨f, 0, 0, t, w⟩
/-- Silent arcs from the ends to a state. -/
def endsL (far to : Int) (fin : List Int) : Nat → List Arc
  | 0 => []
  | k + 1 => endsL far to fin k ++ (if fin.getD k 0 = -1 then [] else [silA (far + k) to (fin.getD k 0)])

theorem endsL_mem {far to : Int} {fin : List Int} {a : Arc} : ∀ (k : Nat), a ∈ endsL far to fin k ↔ ∃ n, n < k ∧ fin.getD n 0 ≠ -1 ∧ a = silA (far + n) to (fin.getD n 0)
  | 0 => by simp [endsL]
  | k + 1 => by
    rw [endsL, List.mem_append, endsL_mem k]
    constructor
    · rintro (⟨n, h1, h2, h3⟩ | h)
      · exact ⟨n, by omega, h2, h3⟩
      · split at h
        · cases h
        · rw [List.mem_singleton] at h
          exact ⟨k, by omega, by assumption, h⟩
    · rintro ⟨n, h1, h2, h3⟩
      by_cases e : n = k
      · subst e
        right
        rw [if_neg h2, h3]
        simp
      · exact .inl ⟨n, by omega, h2, h3⟩

theorem endsL_len (far to : Int) (fin : List Int) : ∀ k, (endsL far to fin k).length ≤ k
  | 0 => Nat.le_refl _
  | k + 1 => by
    have := endsL_len far to fin k
    rw [endsL, List.length_append]
    split <;> simp <;> omega

/-- A step ahead by a silent arc. -/
theorem Way.sil {L : List Arc} {f t w : Int} (h : silA f t w ∈ L) {u v : List Int} {r c : Int} (h2 : Way L t u v r c) : Way L f u v r (w + c) := by
  have := Way.cons h h2
  simpa [silA, lab] using this

theorem Way.sh {L M : List Arc} {k : Int} (hL : ∀ a ∈ L, shA k a ∈ M) {s t : Int} {u v : List Int} {c : Int} (h : Way L s u v t c) : Way M (s + k) u v (t + k) c := by
  induction h with
  | nil s => exact .nil _
  | cons ha h ih => exact .cons (hL _ ha) ih

/-- Normal: the ways are the same, but for what weighs more. -/
theorem IsNorm.way {xs zs : List Arc} (h : IsNorm xs zs) {s t : Int} {u v : List Int} {c : Int} (hw : Way xs s u v t c) : ∃ d, d ≤ c ∧ Way zs s u v t d := by
  induction hw with
  | nil s => exact ⟨0, Int.le_refl _, .nil s⟩
  | @cons a u v t c ha h2 ih =>
    obtain ⟨d, hd, hw⟩ := ih
    obtain ⟨z, hz, ⟨k1, k2, k3, k4⟩, hwz⟩ := h.cov a ha
    refine ⟨z.w + d, by omega, ?_⟩
    rw [← k1, ← k2, ← k3]
    rw [← k4] at hw
    exact .cons hz hw

/-- Costs of words over raw arcs. -/
def WtL (L : List Arc) (start : Int) (fin : List Int) (u v : List Int) (c : Int) : Prop := ∃ t d, Way L start u v t d ∧ fin.getD t.toNat 0 ≠ -1 ∧ c = d + fin.getD t.toNat 0

theorem IsNorm.min {xs : List Arc} {X : TF} (h : IsNorm xs X.arcs) {u v : List Int} {n : Int} (hn : MinOf (Wt X u v) n) : MinOf (WtL xs X.start X.fin u v) n := by
  have hup : ∀ c, WtL xs X.start X.fin u v c → ∃ d, d ≤ c ∧ Wt X u v d := by
    rintro c ⟨t, d, h1, h2, rfl⟩
    obtain ⟨e, he, hw⟩ := h.way h1
    exact ⟨e + X.fin.getD t.toNat 0, by omega, t, e, hw, h2, rfl⟩
  have hdn : ∀ c, Wt X u v c → WtL xs X.start X.fin u v c := by
    rintro c ⟨t, d, h1, h2, rfl⟩
    exact ⟨t, d, h1.mono h.sub, h2, rfl⟩
  rcases hn with ⟨rfl, h1⟩ | ⟨h0, h1, h2⟩
  · refine .inl ⟨rfl, fun c hc => ?_⟩
    obtain ⟨d, _, hd⟩ := hup c hc
    exact h1 d hd
  · refine .inr ⟨h0, hdn n h1, fun c hc => ?_⟩
    obtain ⟨d, hd, hw⟩ := hup c hc
    have := h2 d hw
    omega

theorem MinOf.cong {P Q : Int → Prop} {n : Int} (h : MinOf P n) (hpq : ∀ c, P c ↔ Q c) : MinOf Q n := by
  rcases h with ⟨rfl, h1⟩ | ⟨h0, h1, h2⟩
  · exact .inl ⟨rfl, fun c hc => h1 c ((hpq c).2 hc)⟩
  · exact .inr ⟨h0, (hpq n).1 h1, fun c hc => h2 c ((hpq c).2 hc)⟩

/-- The less of two. -/
theorem MinOf.or {P Q : Int → Prop} {m n : Int} (hm : MinOf P m) (hn : MinOf Q n) : MinOf (fun c => P c ∨ Q c) (less m n) := by
  unfold less
  rcases hm with ⟨rfl, h1⟩ | ⟨h0, h1, h2⟩
  · rw [if_pos (by omega)]
    exact hn.cong fun c => ⟨.inr, fun h => h.elim (fun h => absurd h (h1 c)) id⟩
  · rw [if_neg (by omega)]
    rcases hn with ⟨rfl, g1⟩ | ⟨g0, g1, g2⟩
    · rw [if_pos (.inl (by omega))]
      exact .inr ⟨h0, .inl h1, fun c hc => hc.elim (h2 c) fun h => absurd h (g1 c)⟩
    · split
      · refine .inr ⟨h0, .inl h1, fun c hc => hc.elim (h2 c) fun h => ?_⟩
        have := g2 c h
        omega
      · refine .inr ⟨g0, .inr g1, fun c hc => hc.elim (fun h => ?_) (g2 c)⟩
        have := h2 c h
        omega

/-- One and then the other. -/
theorem MinOf.add {P Q : Int → Prop} {m n : Int} (hm : MinOf P m) (hn : MinOf Q n) : MinOf (fun c => ∃ a b, P a ∧ Q b ∧ c = a + b) (plus m n) := by
  unfold plus
  rcases hm with ⟨rfl, h1⟩ | ⟨h0, h1, h2⟩
  · rw [if_pos (.inl (by omega))]
    exact .inl ⟨rfl, fun c ⟨a, b, ha, _⟩ => h1 a ha⟩
  · rcases hn with ⟨rfl, g1⟩ | ⟨g0, g1, g2⟩
    · rw [if_pos (.inr (by omega))]
      exact .inl ⟨rfl, fun c ⟨a, b, _, hb, _⟩ => g1 b hb⟩
    · rw [if_neg (by omega)]
      refine .inr ⟨by omega, ⟨m, n, h1, g1, rfl⟩, ?_⟩
      rintro c ⟨a, b, ha, hb, rfl⟩
      have := h2 a ha
      have := g2 b hb
      omega

/-! ### Either -/
def eitherL (F G : TF) : List Arc := F.arcs.map (shA 1) ++ [silA 0 (1 + F.start) 0] ++ G.arcs.map (shA (1 + F.st)) ++ [silA 0 (1 + F.st + G.start) 0]

theorem eitherL_mem {F G : TF} {a : Arc} : a ∈ eitherL F G ↔ (∃ b ∈ F.arcs, a = shA 1 b) ∨ a = silA 0 (1 + F.start) 0 ∨ (∃ b ∈ G.arcs, a = shA (1 + F.st) b) ∨ a = silA 0 (1 + F.st + G.start) 0 := by
  simp only [eitherL, List.mem_append, List.mem_map, List.mem_singleton]
  constructor
  · rintro (((⟨b, hb, rfl⟩ | rfl) | ⟨b, hb, rfl⟩) | rfl)
    · exact .inl ⟨b, hb, rfl⟩
    · exact .inr (.inl rfl)
    · exact .inr (.inr (.inl ⟨b, hb, rfl⟩))
    · exact .inr (.inr (.inr rfl))
  · rintro (⟨b, hb, rfl⟩ | rfl | ⟨b, hb, rfl⟩ | rfl)
    · exact .inl (.inl (.inl ⟨b, hb, rfl⟩))
    · exact .inl (.inl (.inr rfl))
    · exact .inl (.inr ⟨b, hb, rfl⟩)
    · exact .inr rfl

theorem fin_at {l m : List Int} {x : Int} {y k : Int} (hk : k = 1 + (l.length : Int)) (h0 : 0 ≤ y) : (x :: (l ++ m)).getD (y + k).toNat 0 = m.getD y.toNat 0 := by
  have e : (y + k).toNat = (l.length + y.toNat) + 1 := by omega
  rw [e, List.getD_cons_succ]
  simp [List.getD, List.getElem?_append_right]

theorem fin_low {l m : List Int} {x : Int} {y : Int} (h0 : 0 ≤ y) (h : y < l.length) : (x :: (l ++ m)).getD (y + 1).toNat 0 = l.getD y.toNat 0 := by
  have e : (y + 1).toNat = y.toNat + 1 := by omega
  rw [e, List.getD_cons_succ]
  have : y.toNat < l.length := by omega
  simp [List.getD, List.getElem?_append_left this]

theorem either_f {F G : TF} (hF : FOk F) (hG : FOk G) {s t : Int} {u v : List Int} {c : Int} (h : Way (eitherL F G) s u v t c) : (∀ x, s = x + 1 → 0 ≤ x → x < F.st → ∃ y, t = y + 1 ∧ Way F.arcs x u v y c) ∧ (∀ x, s = x + (1 + F.st) → 0 ≤ x → ∃ y, t = y + (1 + F.st) ∧ Way G.arcs x u v y c) := by
  induction h with
  | nil s => exact ⟨fun x hx _ _ => ⟨x, hx, .nil x⟩, fun x hx _ => ⟨x, hx, .nil x⟩⟩
  | @cons a u v t c ha h ih =>
    rcases eitherL_mem.1 ha with ⟨b, hb, rfl⟩ | rfl | ⟨b, hb, rfl⟩ | rfl
    · have hbo := hF.arc b hb
      have := hbo.f1
      have := hbo.t0
      have := hbo.t1
      refine ⟨fun x hx h0 h1 => ?_, fun x hx h0 => ?_⟩
      · obtain ⟨y, e, hw⟩ := ih.1 b.t rfl (by omega) (by omega)
        have ex : b.f = x := by unfold shA at hx; simp only at hx; omega
        subst ex
        exact ⟨y, e, .cons hb hw⟩
      · unfold shA at hx
        simp only at hx
        omega
    · refine ⟨fun x hx h0 h1 => ?_, fun x hx h0 => ?_⟩
      · unfold silA at hx; simp only at hx; omega
      · unfold silA at hx; simp only at hx; have := hF.st; omega
    · have hbo := hG.arc b hb
      have := hbo.f0
      have := hbo.t0
      refine ⟨fun x hx h0 h1 => ?_, fun x hx h0 => ?_⟩
      · unfold shA at hx
        simp only at hx
        omega
      · obtain ⟨y, e, hw⟩ := ih.2 b.t rfl (by omega)
        have ex : b.f = x := by unfold shA at hx; simp only at hx; omega
        subst ex
        exact ⟨y, e, .cons hb hw⟩
    · refine ⟨fun x hx h0 h1 => ?_, fun x hx h0 => ?_⟩
      · unfold silA at hx; simp only at hx; omega
      · unfold silA at hx; simp only at hx; have := hF.st; omega

theorem either_wt {F G : TF} (hF : FOk F) (hG : FOk G) {u v : List Int} {c : Int} : WtL (eitherL F G) 0 (-1 :: (F.fin ++ G.fin)) u v c ↔ Wt F u v c ∨ Wt G u v c := by
  have hfl := hF.finl
  have hgl := hG.finl
  have hfs := hF.start
  have hgs := hG.start
  constructor
  · rintro ⟨t, d, hw, hf, rfl⟩
    have key : ∀ s, s = 0 → Way (eitherL F G) s u v t d → t = 0 ∨ Way (eitherL F G) (1 + F.start) u v t d ∨ Way (eitherL F G) (1 + F.st + G.start) u v t d := by
      intro s hs h
      cases h with
      | nil => exact .inl hs
      | @cons a u v t c ha h =>
        rcases eitherL_mem.1 ha with ⟨b, hb, rfl⟩ | rfl | ⟨b, hb, rfl⟩ | rfl
        · have := (hF.arc b hb).f0
          unfold shA at hs; simp only at hs; omega
        · right; left; simpa [silA, lab] using h
        · have := (hG.arc b hb).f0
          have := hF.st
          unfold shA at hs; simp only at hs; omega
        · right; right; simpa [silA, lab] using h
    rcases key 0 rfl hw with rfl | h | h
    · exact absurd rfl hf
    · obtain ⟨y, rfl, hy⟩ := (either_f hF hG h).1 F.start (by omega) hfs.1 hfs.2
      have hr := hy.rng hF.arc hfs
      rw [fin_low hr.1 (by omega)] at hf ⊢
      exact .inl ⟨y, d, hy, hf, rfl⟩
    · obtain ⟨y, rfl, hy⟩ := (either_f hF hG h).2 G.start (by omega) hgs.1
      have hr := hy.rng hG.arc hgs
      rw [fin_at (by omega) hr.1] at hf ⊢
      exact .inr ⟨y, d, hy, hf, rfl⟩
  · rintro (⟨t, d, hw, hf, rfl⟩ | ⟨t, d, hw, hf, rfl⟩)
    · have hr := hw.rng hF.arc hfs
      have h1 := hw.sh (M := eitherL F G) (k := 1) fun a ha => eitherL_mem.2 (.inl ⟨a, ha, rfl⟩)
      have h2 : Way (eitherL F G) 0 u v (t + 1) (0 + d) := Way.sil (t := 1 + F.start) (eitherL_mem.2 (.inr (.inl rfl))) (by rw [Int.add_comm 1]; exact h1)
      rw [Int.zero_add] at h2
      refine ⟨t + 1, d, h2, ?_⟩
      rw [fin_low hr.1 (by omega)]
      exact ⟨hf, rfl⟩
    · have hr := hw.rng hG.arc hgs
      have h1 := hw.sh (M := eitherL F G) (k := 1 + F.st) fun a ha => eitherL_mem.2 (.inr (.inr (.inl ⟨a, ha, rfl⟩)))
      have h2 : Way (eitherL F G) 0 u v (t + (1 + F.st)) (0 + d) := Way.sil (t := 1 + F.st + G.start) (eitherL_mem.2 (.inr (.inr (.inr rfl)))) (by rw [Int.add_comm (1 + F.st)]; exact h1)
      rw [Int.zero_add] at h2
      refine ⟨t + (1 + F.st), d, h2, ?_⟩
      rw [fin_at (by omega) hr.1]
      exact ⟨hf, rfl⟩
end Go.Fw

namespace Go.Fw
open Go Go.Proofs

theorem stay_c (n : Int) : Ct Try.prog 81 [.i n] [] [] 0 (Is 0 (.i n)) := by
  refine ctW Try.tyOk 3 [] Try.func81 rfl (by simp [SV.lt, SA.lt, SC.lt, arcV, fV]) (by simp) (fr := [(0, .i n)]) rfl ?_
  repeat' (first | exact rfl | ((conv => whnf); first | ((first | refine qA (fun h => ?_) fun h => ?_ | refine qN (fun h => ?_) fun h => ?_ | refine qB (fun h => ?_) fun h => ?_ | refine qC (fun h => ?_) fun h => ?_) <;> try exact absurd h (by omega)) | refine qM (fun h => ?_) fun h => ?_ | refine oM (by (first | omega | (simp only [lenS, InI, nmin, EK.sz]; omega) | (simp only [lenS, InI, nmin, EK.sz] at *; omega))) ?_ | refine oM ?_ ?_ | refine bM ?_ ?_ | refine draw_of Try.mixed Try.tyOk 60 (by kernel_rfl) ?_))
  (conv => whnf)
  refine Back.is ?_
  simp [eqV, eqA, eqC]

theorem gone_c (n : Int) : Ct Try.prog 84 [.i n] [] [] 0 (Is 0 (.i (-1))) := by
  refine ctW Try.tyOk 3 [] Try.func84 rfl (by simp [SV.lt, SA.lt, SC.lt, arcV, fV]) (by simp) (fr := [(0, .i n)]) rfl ?_
  repeat' (first | exact rfl | ((conv => whnf); first | ((first | refine qA (fun h => ?_) fun h => ?_ | refine qN (fun h => ?_) fun h => ?_ | refine qB (fun h => ?_) fun h => ?_ | refine qC (fun h => ?_) fun h => ?_) <;> try exact absurd h (by omega)) | refine qM (fun h => ?_) fun h => ?_ | refine oM (by (first | omega | (simp only [lenS, InI, nmin, EK.sz]; omega) | (simp only [lenS, InI, nmin, EK.sz] at *; omega))) ?_ | refine oM ?_ ?_ | refine bM ?_ ?_ | refine draw_of Try.mixed Try.tyOk 60 (by kernel_rfl) ?_))
  (conv => whnf)
  refine Back.is ?_
  simp [eqV, eqA, eqC]

/-- The joiner's cells. -/
abbrev jCells (st : Int) (i j : Nat) (l : List Int) (ar : List Arc) (sp sq : Nat) : List SC := [.i st, .i 0, .sl i 1 0 l.length (l.length + sp), .sl j 5 0 ar.length (ar.length + sq)]

theorem begin_c (last : Int) : Ct Try.prog 79 [.i last] [] [] 0 (fun v s => v = .c (.ptr 0 0) ∧ s = ⟨[], [(0, .box 130 (jCells 1 1 2 [last] [] 0 0)), (1, .arr true 3 .int [last] 0), (2, .arr true 47 .arc [] 0)], 3⟩) := by
  refine ctW Try.tyOk 3 [] Try.func79 rfl (by simp [SV.lt, SA.lt, SC.lt, arcV, fV]) (by simp) (fr := [(0, .i last)]) rfl ?_
  repeat' (first | exact rfl | ((conv => whnf); first | ((first | refine qA (fun h => ?_) fun h => ?_ | refine qN (fun h => ?_) fun h => ?_ | refine qB (fun h => ?_) fun h => ?_ | refine qC (fun h => ?_) fun h => ?_) <;> try exact absurd h (by omega)) | refine qM (fun h => ?_) fun h => ?_ | refine oM (by (first | omega | (simp only [lenS, InI, nmin, EK.sz]; omega) | (simp only [lenS, InI, nmin, EK.sz] at *; omega))) ?_ | refine oM ?_ ?_ | refine bM ?_ ?_ | refine draw_of Try.mixed Try.tyOk 60 (by kernel_rfl) ?_))
  (conv => whnf)
  refine ⟨[(0, some 1), (1, some 0), (2, none)], [(0, .box 130 (jCells 1 1 2 [last] [] 0 0)), (1, .arr true 3 .int [last] 0), (2, .arr true 47 .arc [] 0)], 3, .c (.ptr 0 0), ⟨by rfl, trivial, ?_⟩, by simp [eqV, eqA, eqC, rn, look_cons, look], rfl, rfl⟩
  simp [eqFr, eqHp, eqV, eqA, eqC, eqO, eqCs, eqAs, look_cons, look, rn, EK.cast, EK.sz, eqCaps, nilO]

set_option maxHeartbeats 4000000 in
theorem silent_c (st : Int) (l : List Int) (ar : List Arc) (sp sq : Nat) (f t w : Int) (hl : ar.length ≤ 1000000) : Ct Try.prog 82 [.c (.ptr 0 0), .i f, .i t, .i w] [] [(0, .box 130 (jCells st 1 2 l ar sp sq)), (1, .arr true 3 .int l sp), (2, .arr true 47 .arc ar sq)] 3
    (fun v s => ∃ q, v = .u ∧ s = ⟨[], [(0, .box 130 (jCells st 1 3 l (ar ++ [silA f t w]) sp q)), (1, .arr true 3 .int l sp), (3, .arr true 47 .arc (ar ++ [silA f t w]) q)], 4⟩) := by
  refine ctW Try.tyOk 8 [] Try.func82 rfl (by simp [SV.lt, SA.lt, SC.lt, arcV, fV]) (by simp) (fr := [(0, .c (.ptr 0 0)), (1, .i f), (2, .i t), (3, .i w)]) rfl ?_
  repeat' (first | exact rfl | ((conv => whnf); first | ((first | refine qA (fun h => ?_) fun h => ?_ | refine qN (fun h => ?_) fun h => ?_ | refine qB (fun h => ?_) fun h => ?_ | refine qC (fun h => ?_) fun h => ?_) <;> try exact absurd h (by omega)) | refine qM (fun h => ?_) fun h => ?_ | refine oM (by (first | omega | (simp only [lenS, InI, nmin, EK.sz]; omega) | (simp only [lenS, InI, nmin, EK.sz] at *; omega))) ?_ | refine oM ?_ ?_ | refine bM ?_ ?_ | refine draw_of Try.mixed Try.tyOk 60 (by kernel_rfl) ?_ | intro _))
  all_goals (conv => whnf)
  rename_i q
  refine ⟨[(3, some 4)], [(0, .box 130 (jCells st 1 3 l (ar ++ [silA f t w]) sp q)), (1, .arr true 3 .int l sp), (3, .arr true 47 .arc (ar ++ [silA f t w]) q)], 4, .u, ⟨by rfl, trivial, ?_⟩, by simp [eqV, eqAs], q, rfl, rfl⟩
  simp [eqFr, eqHp, eqV, eqA, eqC, eqO, eqCs, eqAs, look_cons, look, rn, EK.cast, EK.sz, eqCaps, app_one ar _ _ rfl, silA]

set_option maxHeartbeats 4000000 in
theorem done_c (st : Int) (l : List Int) (ar : List Arc) (sp sq : Nat) (hl : ar.length ≤ 1000000) : Ct Try.prog 83 [.c (.ptr 0 0)] [] [(0, .box 130 (jCells st 1 2 l ar sp sq)), (1, .arr true 3 .int l sp), (2, .arr true 47 .arc ar sq)] 3
    (fun v s => ∃ zs sq', v = .a (.agg [.i st, .i 0, .sl 1 1 0 l.length (l.length + sp), .sl 2 5 0 zs.length (zs.length + sq')]) ∧ s = ⟨[], [(1, .arr true 3 .int l sp), (2, .arr true 47 .arc zs sq')], 3⟩ ∧ IsNorm ar zs) := by
  refine ctW Try.tyOk 3 [] Try.func83 rfl (by simp [SV.lt, SA.lt, SC.lt, arcV, fV]) (by simp) (fr := [(0, .c (.ptr 0 0))]) rfl ?_
  repeat' (first | exact rfl | ((conv => whnf); first | ((first | refine qA (fun h => ?_) fun h => ?_ | refine qN (fun h => ?_) fun h => ?_ | refine qB (fun h => ?_) fun h => ?_ | refine qC (fun h => ?_) fun h => ?_) <;> try exact absurd h (by omega)) | refine qM (fun h => ?_) fun h => ?_ | refine oM (by (first | omega | (simp only [lenS, InI, nmin, EK.sz]; omega) | (simp only [lenS, InI, nmin, EK.sz] at *; omega))) ?_ | refine oM ?_ ?_ | refine bM ?_ ?_ | refine draw_of Try.mixed Try.tyOk 60 (by kernel_rfl) ?_))
  (conv => whnf)
  refine callF (sorted_c ar (ar.length + sq) sq (by omega) (by omega)) [2] Try.call90 rfl (by simp [eqLs, eqL, eqO, eqC, eqCs, rn, renOf, look_cons, look, EK.cast]) (by simp [appN, ptrs, eqVL, eqV, eqA, eqC, eqCs, eqAs, eqCaps, EK.sz, rn, renOf, look_cons, look, arcV, fV]) (by simp [appN, ptrs, SV.lt, SA.lt, SC.lt, arcV, fV, lenN]) ?_
  rintro _ _ ⟨zs, sq', rfl, rfl, hzl, hso⟩
  repeat' (first | exact rfl | ((conv => whnf); first | ((first | refine qA (fun h => ?_) fun h => ?_ | refine qN (fun h => ?_) fun h => ?_ | refine qB (fun h => ?_) fun h => ?_ | refine qC (fun h => ?_) fun h => ?_) <;> try exact absurd h (by omega)) | refine qM (fun h => ?_) fun h => ?_ | refine oM (by (first | omega | (simp only [lenS, InI, nmin, EK.sz]; omega) | (simp only [lenS, InI, nmin, EK.sz] at *; omega))) ?_ | refine oM ?_ ?_ | refine bM ?_ ?_ | refine draw_of Try.mixed Try.tyOk 60 (by kernel_rfl) ?_))
  (conv => whnf)
  rw [hzl]
  exact ⟨[], [(1, .arr true 3 .int l sp), (2, .arr true 47 .arc zs sq')], 3, .a (.agg [.i st, .i 0, .sl 1 1 0 l.length (l.length + sp), .sl 2 5 0 zs.length (zs.length + sq')]), ⟨by rfl, trivial, by simp [eqFr, eqHp, eqV, eqA, eqC, eqO, eqCs, eqAs, look_cons, look, rn, EK.cast, EK.sz, eqCaps]⟩, by simp [eqV, eqA, eqAs, eqC, eqCs, rn, look, look_cons, EK.sz], zs, sq', rfl, rfl, hso.norm⟩

/-- The ends, the arcs taken so far. -/
def finT (d : Int → Int) (l fin : List Int) (k : Nat) : List Int := l ++ (fin.take k).map d
def arcT (st : Int) (ar arcs : List Arc) (k : Nat) : List Arc := ar ++ (arcs.take k).map (shA st)
theorem finT_zero (d : Int → Int) (l fin : List Int) : finT d l fin 0 = l := by simp [finT]
theorem arcT_zero (st : Int) (ar arcs : List Arc) : arcT st ar arcs 0 = ar := by simp [arcT]
theorem finT_succ (d : Int → Int) (l fin : List Int) (k : Nat) (h : k < fin.length) : finT d l fin (k + 1) = finT d l fin k ++ [d (fin.getD k 0)] := by
  unfold finT; rw [take_succ_getD fin k 0 h, List.map_append, List.append_assoc]; rfl
theorem arcT_succ (st : Int) (ar arcs : List Arc) (k : Nat) (h : k < arcs.length) : arcT st ar arcs (k + 1) = arcT st ar arcs k ++ [shA st (arcs.getD k aD)] := by
  unfold arcT; rw [take_succ_getD arcs k aD h, List.map_append, List.append_assoc]; rfl
theorem finT_len (d : Int → Int) (l fin : List Int) (k : Nat) (h : k ≤ fin.length) : (finT d l fin k).length = l.length + k := by
  unfold finT; rw [List.length_append, List.length_map, List.length_take]; omega
theorem arcT_len (st : Int) (ar arcs : List Arc) (k : Nat) (h : k ≤ arcs.length) : (arcT st ar arcs k).length = ar.length + k := by
  unfold arcT; rw [List.length_append, List.length_map, List.length_take]; omega
theorem finT_all (d : Int → Int) (l fin : List Int) (k : Nat) (h : fin.length ≤ k) : finT d l fin k = l ++ fin.map d := by
  unfold finT; rw [List.take_of_length_le h]
theorem arcT_all (st : Int) (ar arcs : List Arc) (k : Nat) (h : arcs.length ≤ k) : arcT st ar arcs k = ar ++ arcs.map (shA st) := by
  unfold arcT; rw [List.take_of_length_le h]

def stayF (x : Int) : Int := x
def goneF (_ : Int) : Int := -1

set_option maxHeartbeats 8000000 in
set_option maxRecDepth 20000 in
theorem take81_c (F : TF) (hF : FOk F) (st : Int) (l : List Int) (ar : List Arc) (sp sq : Nat) (hst : 0 ≤ st ∧ st ≤ 1000) (hl : l.length ≤ 1000000) (hr : ar.length ≤ 1000000) :
    Ct Try.prog 80 [.c (.ptr 2 0), fV F, .c (.fn 81 [])] [] ((2, .box 130 (jCells st 3 4 l ar sp sq)) :: (3, .arr true 3 .int l sp) :: (4, .arr true 47 .arc ar sq) :: hpF F) 5
    (fun v s => ∃ p q, v = .i st ∧ s = ⟨[], [(2, .box 130 (jCells (st + F.st) 5 6 (l ++ F.fin.map stayF) (ar ++ F.arcs.map (shA st)) p q)), (5, .arr true 3 .int (l ++ F.fin.map stayF) p), (6, .arr true 47 .arc (ar ++ F.arcs.map (shA st)) q)], 7⟩) := by
  have hfl := hF.finl
  have hal := hF.arcl
  have hfs := hF.st
  refine ctW Try.tyOk 12 [18, 19, 20, 43, 44, 45] Try.func80 rfl (by simp [SV.lt, SA.lt, SC.lt, arcV, fV]) (by simp) (fr := [(0, .c (.ptr 2 0)), (1, fV F), (2, .c (.fn 81 []))]) rfl ?_
  repeat' (first | exact rfl | ((conv => whnf); first | ((first | refine qA (fun h => ?_) fun h => ?_ | refine qN (fun h => ?_) fun h => ?_ | refine qB (fun h => ?_) fun h => ?_ | refine qC (fun h => ?_) fun h => ?_) <;> try exact absurd h (by omega)) | refine qM (fun h => ?_) fun h => ?_ | refine oM (by (first | omega | (simp only [lenS, InI, nmin, EK.sz]; omega) | (simp only [lenS, InI, nmin, EK.sz] at *; omega))) ?_ | refine oM ?_ ?_ | refine bM ?_ ?_ | refine draw_of Try.mixed Try.tyOk 60 (by kernel_rfl) ?_))
  (conv => whnf)
  refine loopI (fun x : Nat × Nat => ⟨[(0, .c (.ptr 2 0)), (2, .c (.fn 81 [])), (4, .c (.ptr 5 0)), (6, .i 0), (7, .i st), (18, .c (.sl 0 1 0 F.fin.length F.capF)), (19, .i F.fin.length), (20, .i x.1)],
      [(0, .arr false 3 .int F.fin 0), (1, .arr false 47 .arc F.arcs 0), (2, .box 130 (jCells st 6 4 (finT stayF l F.fin x.1) ar x.2 sq)), (4, .arr true 47 .arc ar sq), (5, .box 25 (fCells F)), (6, .arr true 3 .int (finT stayF l F.fin x.1) x.2)], 7⟩)
      (fun x => x.1 ≤ F.fin.length) (fun x => F.fin.length - x.1) (0, sp) [(6, some 3)] ⟨by rfl, ?_, ?_⟩ (Nat.zero_le _) ?_
  · simp [eqFr, eqHp, eqV, eqA, eqC, eqO, eqCs, eqAs, look_cons, look, rn, EK.cast, EK.sz, eqCaps]
  · simp [eqFr, eqHp, eqV, eqA, eqC, eqO, eqCs, eqAs, look_cons, look, rn, EK.cast, EK.sz, eqCaps, fCells, finT_zero]
  · rintro ⟨k, p⟩ hk
    simp only at hk ⊢
    have hln := finT_len stayF l F.fin k hk
    have hsn := finT_succ stayF l F.fin k
    generalize hpp : finT stayF l F.fin k = pl at hsn hln ⊢
    have e0 : 0 + (k : Int).toNat = k := by omega
    repeat' (first | exact rfl | ((conv => whnf); first | ((first | refine qA (fun h => ?_) fun h => ?_ | refine qN (fun h => ?_) fun h => ?_ | refine qB (fun h => ?_) fun h => ?_ | refine qC (fun h => ?_) fun h => ?_) <;> try exact absurd h (by omega)) | refine qM (fun h => ?_) fun h => ?_ | refine oM (by (first | omega | (simp only [lenS, InI, nmin, EK.sz]; omega) | (simp only [lenS, InI, nmin, EK.sz] at *; omega))) ?_ | refine oM ?_ ?_ | refine bM ?_ ?_ | refine draw_of Try.mixed Try.tyOk 60 (by kernel_rfl) ?_ | intro _))
    · (conv => whnf)
      refine callF (stay_c (F.fin.getD (0 + (k : Int).toNat) EK.int.dflt)) [] Try.call81 rfl (by simp [eqLs, eqL, eqO, eqC, eqCs, rn, renOf, look_cons, look, EK.cast]) (by simp [appN, ptrs, eqVL, eqV, eqA, eqC, eqCs, eqAs, eqCaps, EK.sz, rn, renOf, look_cons, look, arcV, fV]) (by simp [appN, ptrs, SV.lt, SA.lt, SC.lt, arcV, fV, lenN]) ?_
      rintro _ _ ⟨rfl, rfl⟩
      repeat' (first | exact rfl | ((conv => whnf); first | ((first | refine qA (fun h => ?_) fun h => ?_ | refine qN (fun h => ?_) fun h => ?_ | refine qB (fun h => ?_) fun h => ?_ | refine qC (fun h => ?_) fun h => ?_) <;> try exact absurd h (by omega)) | refine qM (fun h => ?_) fun h => ?_ | refine oM (by (first | omega | (simp only [lenS, InI, nmin, EK.sz]; omega) | (simp only [lenS, InI, nmin, EK.sz] at *; omega))) ?_ | refine oM ?_ ?_ | refine bM ?_ ?_ | refine draw_of Try.mixed Try.tyOk 60 (by kernel_rfl) ?_ | intro _))
      (conv => whnf)
      rename_i q
      replace hsn := hsn (by omega)
      have hT : stayF (F.fin.getD k 0) = F.fin.getD (0 + (k : Int).toNat) EK.int.dflt := by first | rfl | (rw [e0]; rfl)
      rw [hT] at hsn
      refine ⟨(k + 1, q), [(6, some 8)], ⟨by rfl, ?_, ?_⟩, by simp only; omega, by simp only; omega⟩
      · simp [eqFr, eqHp, eqV, eqA, eqC, eqO, eqCs, eqAs, look_cons, look, rn, EK.cast, EK.sz, eqCaps]
      · simp [eqFr, eqHp, eqV, eqA, eqC, eqO, eqCs, eqAs, look_cons, look, rn, EK.cast, EK.sz, eqCaps, fCells, hsn, app_one pl _ _ rfl]
    · (conv => whnf)
      rename_i q
      replace hsn := hsn (by omega)
      have hT : stayF (F.fin.getD k 0) = F.fin.getD (0 + (k : Int).toNat) EK.int.dflt := by first | (rw [e0]; rfl) | (rw [h]; rfl)
      rw [hT] at hsn
      refine ⟨(k + 1, q), [(6, some 8)], ⟨by rfl, ?_, ?_⟩, by simp only; omega, by simp only; omega⟩
      · simp [eqFr, eqHp, eqV, eqA, eqC, eqO, eqCs, eqAs, look_cons, look, rn, EK.cast, EK.sz, eqCaps]
      · simp [eqFr, eqHp, eqV, eqA, eqC, eqO, eqCs, eqAs, look_cons, look, rn, EK.cast, EK.sz, eqCaps, fCells, hsn, app_one pl _ _ rfl]
    · have e := finT_all stayF l F.fin k (by omega)
      rw [e] at hpp
      clear hsn
      rw [hpp]
      have hpl : pl.length ≤ 2000000 := by omega
      (conv => whnf)
      refine loopI (fun x : Nat × Nat => ⟨[(0, .c (.ptr 2 0)), (4, .c (.ptr 5 0)), (6, .i 0), (7, .i st), (43, .c (.sl 1 5 0 F.arcs.length F.capA)), (44, .i F.arcs.length), (45, .i x.1)],
        [(1, .arr false 47 .arc F.arcs 0), (2, .box 130 (jCells st 6 7 pl (arcT st ar F.arcs x.1) p x.2)), (5, .box 25 (fCells F)), (6, .arr true 3 .int pl p), (7, .arr true 47 .arc (arcT st ar F.arcs x.1) x.2)], 8⟩)
        (fun x => x.1 ≤ F.arcs.length) (fun x => F.arcs.length - x.1) (0, sq) [(7, some 4)] ⟨by rfl, ?_, ?_⟩ (Nat.zero_le _) ?_
      · simp [eqFr, eqHp, eqV, eqA, eqC, eqO, eqCs, eqAs, look_cons, look, rn, EK.cast, EK.sz, eqCaps]
      · simp [eqFr, eqHp, eqV, eqA, eqC, eqO, eqCs, eqAs, look_cons, look, rn, EK.cast, EK.sz, eqCaps, fCells, arcT_zero]
      · clear hln
        clear e0 e hk
        rintro ⟨k, q⟩ hk
        simp only at hk ⊢
        have hln := arcT_len st ar F.arcs k hk
        have hsn := arcT_succ st ar F.arcs k
        generalize hpq : arcT st ar F.arcs k = al at hsn hln ⊢
        have e0 : 0 + (k : Int).toNat = k := by omega
        (conv => whnf)
        refine condP_dec (fun hk2 => ?_) (fun hk2 => ?_)
        · have hx := hF.arc _ (getD_mem F.arcs k EK.arc.dflt (by omega))
          rw [← e0] at hx
          have f0 := hx.f0
          have f1 := hx.f1
          have t0 := hx.t0
          have t1 := hx.t1
          replace hsn := hsn (by omega)
          have hT : shA st (F.arcs.getD k aD) = ⟨(F.arcs.getD (0 + (k : Int).toNat) EK.arc.dflt).f + st, (F.arcs.getD (0 + (k : Int).toNat) EK.arc.dflt).i, (F.arcs.getD (0 + (k : Int).toNat) EK.arc.dflt).o, (F.arcs.getD (0 + (k : Int).toNat) EK.arc.dflt).t + st, (F.arcs.getD (0 + (k : Int).toNat) EK.arc.dflt).w⟩ := by rw [e0]; rfl
          rw [hT] at hsn
          repeat' (first | exact rfl | ((conv => whnf); first | ((first | refine qA (fun h => ?_) fun h => ?_ | refine qN (fun h => ?_) fun h => ?_ | refine qB (fun h => ?_) fun h => ?_ | refine qC (fun h => ?_) fun h => ?_) <;> try exact absurd h (by omega)) | refine qM (fun h => ?_) fun h => ?_ | refine oM (by (first | omega | (simp only [lenS, InI, nmin, EK.sz]; omega) | (simp only [lenS, InI, nmin, EK.sz] at *; omega))) ?_ | refine oM ?_ ?_ | refine bM ?_ ?_ | refine draw_of Try.mixed Try.tyOk 60 (by kernel_rfl) ?_ | intro _))
          (conv => whnf)
          rename_i q2
          refine ⟨(k + 1, q2), [(7, some 10)], ⟨by rfl, ?_, ?_⟩, by simp only; omega, by simp only; omega⟩
          · simp [eqFr, eqHp, eqV, eqA, eqC, eqO, eqCs, eqAs, look_cons, look, rn, EK.cast, EK.sz, eqCaps]
          · simp [eqFr, eqHp, eqV, eqA, eqC, eqO, eqCs, eqAs, look_cons, look, rn, EK.cast, EK.sz, eqCaps, fCells, hsn, app_one al _ _ rfl]
        · have e := arcT_all st ar F.arcs k (by omega)
          rw [e] at hpq
          clear hsn
          repeat' (first | exact rfl | ((conv => whnf); first | ((first | refine qA (fun h => ?_) fun h => ?_ | refine qN (fun h => ?_) fun h => ?_ | refine qB (fun h => ?_) fun h => ?_ | refine qC (fun h => ?_) fun h => ?_) <;> try exact absurd h (by omega)) | refine qM (fun h => ?_) fun h => ?_ | refine oM (by (first | omega | (simp only [lenS, InI, nmin, EK.sz]; omega) | (simp only [lenS, InI, nmin, EK.sz] at *; omega))) ?_ | refine oM ?_ ?_ | refine bM ?_ ?_ | refine draw_of Try.mixed Try.tyOk 60 (by kernel_rfl) ?_ | intro _))
          (conv => whnf)
          rw [hpq]
          exact ⟨[(5, some 6), (6, some 7)], [(2, .box 130 (jCells (st + F.st) 5 6 pl al p q)), (5, .arr true 3 .int pl p), (6, .arr true 47 .arc al q)], 7, .i st, ⟨by rfl, trivial, by simp [eqFr, eqHp, eqV, eqA, eqC, eqO, eqCs, eqAs, look_cons, look, rn, EK.cast, EK.sz, eqCaps]⟩, by simp [eqV, eqA, eqC], p, q, rfl, rfl⟩

set_option maxHeartbeats 8000000 in
set_option maxRecDepth 20000 in
theorem take84_c (F : TF) (hF : FOk F) (st : Int) (l : List Int) (ar : List Arc) (sp sq : Nat) (hst : 0 ≤ st ∧ st ≤ 1000) (hl : l.length ≤ 1000000) (hr : ar.length ≤ 1000000) :
    Ct Try.prog 80 [.c (.ptr 2 0), fV F, .c (.fn 84 [])] [] ((2, .box 130 (jCells st 3 4 l ar sp sq)) :: (3, .arr true 3 .int l sp) :: (4, .arr true 47 .arc ar sq) :: hpF F) 5
    (fun v s => ∃ p q, v = .i st ∧ s = ⟨[], [(2, .box 130 (jCells (st + F.st) 5 6 (l ++ F.fin.map goneF) (ar ++ F.arcs.map (shA st)) p q)), (5, .arr true 3 .int (l ++ F.fin.map goneF) p), (6, .arr true 47 .arc (ar ++ F.arcs.map (shA st)) q)], 7⟩) := by
  have hfl := hF.finl
  have hal := hF.arcl
  have hfs := hF.st
  refine ctW Try.tyOk 12 [18, 19, 20, 43, 44, 45] Try.func80 rfl (by simp [SV.lt, SA.lt, SC.lt, arcV, fV]) (by simp) (fr := [(0, .c (.ptr 2 0)), (1, fV F), (2, .c (.fn 84 []))]) rfl ?_
  repeat' (first | exact rfl | ((conv => whnf); first | ((first | refine qA (fun h => ?_) fun h => ?_ | refine qN (fun h => ?_) fun h => ?_ | refine qB (fun h => ?_) fun h => ?_ | refine qC (fun h => ?_) fun h => ?_) <;> try exact absurd h (by omega)) | refine qM (fun h => ?_) fun h => ?_ | refine oM (by (first | omega | (simp only [lenS, InI, nmin, EK.sz]; omega) | (simp only [lenS, InI, nmin, EK.sz] at *; omega))) ?_ | refine oM ?_ ?_ | refine bM ?_ ?_ | refine draw_of Try.mixed Try.tyOk 60 (by kernel_rfl) ?_))
  (conv => whnf)
  refine loopI (fun x : Nat × Nat => ⟨[(0, .c (.ptr 2 0)), (2, .c (.fn 84 [])), (4, .c (.ptr 5 0)), (6, .i 0), (7, .i st), (18, .c (.sl 0 1 0 F.fin.length F.capF)), (19, .i F.fin.length), (20, .i x.1)],
      [(0, .arr false 3 .int F.fin 0), (1, .arr false 47 .arc F.arcs 0), (2, .box 130 (jCells st 6 4 (finT goneF l F.fin x.1) ar x.2 sq)), (4, .arr true 47 .arc ar sq), (5, .box 25 (fCells F)), (6, .arr true 3 .int (finT goneF l F.fin x.1) x.2)], 7⟩)
      (fun x => x.1 ≤ F.fin.length) (fun x => F.fin.length - x.1) (0, sp) [(6, some 3)] ⟨by rfl, ?_, ?_⟩ (Nat.zero_le _) ?_
  · simp [eqFr, eqHp, eqV, eqA, eqC, eqO, eqCs, eqAs, look_cons, look, rn, EK.cast, EK.sz, eqCaps]
  · simp [eqFr, eqHp, eqV, eqA, eqC, eqO, eqCs, eqAs, look_cons, look, rn, EK.cast, EK.sz, eqCaps, fCells, finT_zero]
  · rintro ⟨k, p⟩ hk
    simp only at hk ⊢
    have hln := finT_len goneF l F.fin k hk
    have hsn := finT_succ goneF l F.fin k
    generalize hpp : finT goneF l F.fin k = pl at hsn hln ⊢
    have e0 : 0 + (k : Int).toNat = k := by omega
    repeat' (first | exact rfl | ((conv => whnf); first | ((first | refine qA (fun h => ?_) fun h => ?_ | refine qN (fun h => ?_) fun h => ?_ | refine qB (fun h => ?_) fun h => ?_ | refine qC (fun h => ?_) fun h => ?_) <;> try exact absurd h (by omega)) | refine qM (fun h => ?_) fun h => ?_ | refine oM (by (first | omega | (simp only [lenS, InI, nmin, EK.sz]; omega) | (simp only [lenS, InI, nmin, EK.sz] at *; omega))) ?_ | refine oM ?_ ?_ | refine bM ?_ ?_ | refine draw_of Try.mixed Try.tyOk 60 (by kernel_rfl) ?_ | intro _))
    · (conv => whnf)
      refine callF (gone_c (F.fin.getD (0 + (k : Int).toNat) EK.int.dflt)) [] Try.call84 rfl (by simp [eqLs, eqL, eqO, eqC, eqCs, rn, renOf, look_cons, look, EK.cast]) (by simp [appN, ptrs, eqVL, eqV, eqA, eqC, eqCs, eqAs, eqCaps, EK.sz, rn, renOf, look_cons, look, arcV, fV]) (by simp [appN, ptrs, SV.lt, SA.lt, SC.lt, arcV, fV, lenN]) ?_
      rintro _ _ ⟨rfl, rfl⟩
      repeat' (first | exact rfl | ((conv => whnf); first | ((first | refine qA (fun h => ?_) fun h => ?_ | refine qN (fun h => ?_) fun h => ?_ | refine qB (fun h => ?_) fun h => ?_ | refine qC (fun h => ?_) fun h => ?_) <;> try exact absurd h (by omega)) | refine qM (fun h => ?_) fun h => ?_ | refine oM (by (first | omega | (simp only [lenS, InI, nmin, EK.sz]; omega) | (simp only [lenS, InI, nmin, EK.sz] at *; omega))) ?_ | refine oM ?_ ?_ | refine bM ?_ ?_ | refine draw_of Try.mixed Try.tyOk 60 (by kernel_rfl) ?_ | intro _))
      (conv => whnf)
      rename_i q
      replace hsn := hsn (by omega)
      have hT : goneF (F.fin.getD k 0) = -1 := rfl
      rw [hT] at hsn
      refine ⟨(k + 1, q), [(6, some 8)], ⟨by rfl, ?_, ?_⟩, by simp only; omega, by simp only; omega⟩
      · simp [eqFr, eqHp, eqV, eqA, eqC, eqO, eqCs, eqAs, look_cons, look, rn, EK.cast, EK.sz, eqCaps]
      · simp [eqFr, eqHp, eqV, eqA, eqC, eqO, eqCs, eqAs, look_cons, look, rn, EK.cast, EK.sz, eqCaps, fCells, hsn, app_one pl _ _ rfl]
    · (conv => whnf)
      rename_i q
      replace hsn := hsn (by omega)
      have hT : goneF (F.fin.getD k 0) = F.fin.getD (0 + (k : Int).toNat) EK.int.dflt := by first | (rw [e0]; rfl) | (rw [h]; rfl)
      rw [hT] at hsn
      refine ⟨(k + 1, q), [(6, some 8)], ⟨by rfl, ?_, ?_⟩, by simp only; omega, by simp only; omega⟩
      · simp [eqFr, eqHp, eqV, eqA, eqC, eqO, eqCs, eqAs, look_cons, look, rn, EK.cast, EK.sz, eqCaps]
      · simp [eqFr, eqHp, eqV, eqA, eqC, eqO, eqCs, eqAs, look_cons, look, rn, EK.cast, EK.sz, eqCaps, fCells, hsn, app_one pl _ _ rfl]
    · have e := finT_all goneF l F.fin k (by omega)
      rw [e] at hpp
      clear hsn
      rw [hpp]
      have hpl : pl.length ≤ 2000000 := by omega
      (conv => whnf)
      refine loopI (fun x : Nat × Nat => ⟨[(0, .c (.ptr 2 0)), (4, .c (.ptr 5 0)), (6, .i 0), (7, .i st), (43, .c (.sl 1 5 0 F.arcs.length F.capA)), (44, .i F.arcs.length), (45, .i x.1)],
        [(1, .arr false 47 .arc F.arcs 0), (2, .box 130 (jCells st 6 7 pl (arcT st ar F.arcs x.1) p x.2)), (5, .box 25 (fCells F)), (6, .arr true 3 .int pl p), (7, .arr true 47 .arc (arcT st ar F.arcs x.1) x.2)], 8⟩)
        (fun x => x.1 ≤ F.arcs.length) (fun x => F.arcs.length - x.1) (0, sq) [(7, some 4)] ⟨by rfl, ?_, ?_⟩ (Nat.zero_le _) ?_
      · simp [eqFr, eqHp, eqV, eqA, eqC, eqO, eqCs, eqAs, look_cons, look, rn, EK.cast, EK.sz, eqCaps]
      · simp [eqFr, eqHp, eqV, eqA, eqC, eqO, eqCs, eqAs, look_cons, look, rn, EK.cast, EK.sz, eqCaps, fCells, arcT_zero]
      · clear hln
        clear e0 e hk
        rintro ⟨k, q⟩ hk
        simp only at hk ⊢
        have hln := arcT_len st ar F.arcs k hk
        have hsn := arcT_succ st ar F.arcs k
        generalize hpq : arcT st ar F.arcs k = al at hsn hln ⊢
        have e0 : 0 + (k : Int).toNat = k := by omega
        (conv => whnf)
        refine condP_dec (fun hk2 => ?_) (fun hk2 => ?_)
        · have hx := hF.arc _ (getD_mem F.arcs k EK.arc.dflt (by omega))
          rw [← e0] at hx
          have f0 := hx.f0
          have f1 := hx.f1
          have t0 := hx.t0
          have t1 := hx.t1
          replace hsn := hsn (by omega)
          have hT : shA st (F.arcs.getD k aD) = ⟨(F.arcs.getD (0 + (k : Int).toNat) EK.arc.dflt).f + st, (F.arcs.getD (0 + (k : Int).toNat) EK.arc.dflt).i, (F.arcs.getD (0 + (k : Int).toNat) EK.arc.dflt).o, (F.arcs.getD (0 + (k : Int).toNat) EK.arc.dflt).t + st, (F.arcs.getD (0 + (k : Int).toNat) EK.arc.dflt).w⟩ := by rw [e0]; rfl
          rw [hT] at hsn
          repeat' (first | exact rfl | ((conv => whnf); first | ((first | refine qA (fun h => ?_) fun h => ?_ | refine qN (fun h => ?_) fun h => ?_ | refine qB (fun h => ?_) fun h => ?_ | refine qC (fun h => ?_) fun h => ?_) <;> try exact absurd h (by omega)) | refine qM (fun h => ?_) fun h => ?_ | refine oM (by (first | omega | (simp only [lenS, InI, nmin, EK.sz]; omega) | (simp only [lenS, InI, nmin, EK.sz] at *; omega))) ?_ | refine oM ?_ ?_ | refine bM ?_ ?_ | refine draw_of Try.mixed Try.tyOk 60 (by kernel_rfl) ?_ | intro _))
          (conv => whnf)
          rename_i q2
          refine ⟨(k + 1, q2), [(7, some 10)], ⟨by rfl, ?_, ?_⟩, by simp only; omega, by simp only; omega⟩
          · simp [eqFr, eqHp, eqV, eqA, eqC, eqO, eqCs, eqAs, look_cons, look, rn, EK.cast, EK.sz, eqCaps]
          · simp [eqFr, eqHp, eqV, eqA, eqC, eqO, eqCs, eqAs, look_cons, look, rn, EK.cast, EK.sz, eqCaps, fCells, hsn, app_one al _ _ rfl]
        · have e := arcT_all st ar F.arcs k (by omega)
          rw [e] at hpq
          clear hsn
          repeat' (first | exact rfl | ((conv => whnf); first | ((first | refine qA (fun h => ?_) fun h => ?_ | refine qN (fun h => ?_) fun h => ?_ | refine qB (fun h => ?_) fun h => ?_ | refine qC (fun h => ?_) fun h => ?_) <;> try exact absurd h (by omega)) | refine qM (fun h => ?_) fun h => ?_ | refine oM (by (first | omega | (simp only [lenS, InI, nmin, EK.sz]; omega) | (simp only [lenS, InI, nmin, EK.sz] at *; omega))) ?_ | refine oM ?_ ?_ | refine bM ?_ ?_ | refine draw_of Try.mixed Try.tyOk 60 (by kernel_rfl) ?_ | intro _))
          (conv => whnf)
          rw [hpq]
          exact ⟨[(5, some 6), (6, some 7)], [(2, .box 130 (jCells (st + F.st) 5 6 pl al p q)), (5, .arr true 3 .int pl p), (6, .arr true 47 .arc al q)], 7, .i st, ⟨by rfl, trivial, by simp [eqFr, eqHp, eqV, eqA, eqC, eqO, eqCs, eqAs, look_cons, look, rn, EK.cast, EK.sz, eqCaps]⟩, by simp [eqV, eqA, eqC], p, q, rfl, rfl⟩
end Go.Fw
