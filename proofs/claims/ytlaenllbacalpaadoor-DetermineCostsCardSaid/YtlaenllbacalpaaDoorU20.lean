/- Walks of the functions: what each computes. -/
import Derived.Test.YtlaenllbacalpaaDoorU19

set_option linter.unusedSimpArgs false
set_option linter.unusedVariables false

namespace Go.Fw
open Go Go.Proofs

set_option maxHeartbeats 8000000 in
set_option maxRecDepth 20000 in
/-- Determine says: too many, or too dear. -/
theorem costs_many (F : TF) (l : List Int) (cl : Nat) (x : Obj) (hx : TabX x) (h : fstE F = 0) (hf : fineB F = true)
    (hdet : Ct Tryd.prog 15 [fV F] [] (hpF F ++ [(2, tabO x)]) 3 (fun v s => v = .tup [.agg zero25, .c (.i 2)] ∧ s = ⟨[], [(2, tabO x)], 3⟩))
    (hg : ∀ U, IsUs F U → bgnF U 201 200 [⟨U.start, 0⟩] ≤ 200 → 1000000000 < allW F) : Ct Tryd.prog 4 [fV F, .c (.sl 2 1 0 l.length cl)] [] (hpLw F l x) 4 (LawPost x) := by
  have hF := fstE_ok h
  have hal := hF.arcl
  have hst := hF.st
  have c1 := isBoth_c F (by omega)
  have c2 := hasSilent_c F (by omega)
  have c3 := isRound_c F (FRng.of hF)
  have hf2 := hf
  unfold fineB at hf2
  rw [Bool.and_eq_true, Bool.and_eq_true, Bool.not_eq_true', Bool.not_eq_true'] at hf2
  rw [hf2.1.1] at c1
  rw [hf2.1.2] at c2
  rw [hf2.2] at c3
  have hwd := wordsOf_c F (WOk.of hF) hst.2 hF.start
  have haw := allWeights_c F (WOk.of hF)
  refine ctW Tryd.tyOk 13 [] Tryd.func4 rfl (by simp [SV.lt, SA.lt, SC.lt, arcV, fV]) (by simp) (fr := [(0, fV F), (1, .c (.sl 2 1 0 l.length cl))]) rfl ?_
  repeat' (first | exact rfl | ((conv => whnf); first | ((first | refine qA (fun h => ?_) fun h => ?_ | refine qN (fun h => ?_) fun h => ?_ | refine qB (fun h => ?_) fun h => ?_ | refine qC (fun h => ?_) fun h => ?_) <;> try exact absurd h (by omega)) | refine qM (fun h => ?_) fun h => ?_ | refine oM (by (first | omega | (simp only [lenS, InI, nmin, EK.sz]; omega) | (simp only [lenS, InI, nmin, EK.sz] at *; omega))) ?_ | refine oM ?_ ?_ | refine bM ?_ ?_ | refine draw_of Tryd.mixed Tryd.tyOk 60 (by kernel_rfl) ?_))
  (conv => whnf)
  refine callF (hdet) [0, 1, 3] Tryd.call15 rfl (by simp [eqLs, eqL, eqO, eqC, eqCs, rn, renOf, look_cons, look, EK.cast]) (by simp [appN, ptrs, eqVL, eqV, eqA, eqC, eqCs, eqAs, eqCaps, EK.sz, rn, renOf, look_cons, look, arcV, fV]) (by simp [appN, ptrs, SV.lt, SA.lt, SC.lt, arcV, fV, lenN]) ?_
  rintro _ _ ⟨rfl, rfl⟩
  simp only [Nat.reduceAdd, Nat.reduceSub]
  repeat' (first | exact rfl | ((conv => whnf); first | ((first | refine qA (fun h => ?_) fun h => ?_ | refine qN (fun h => ?_) fun h => ?_ | refine qB (fun h => ?_) fun h => ?_ | refine qC (fun h => ?_) fun h => ?_) <;> try exact absurd h (by omega)) | refine qM (fun h => ?_) fun h => ?_ | refine oM (by (first | omega | (simp only [lenS, InI, nmin, EK.sz]; omega) | (simp only [lenS, InI, nmin, EK.sz] at *; omega))) ?_ | refine oM ?_ ?_ | refine bM ?_ ?_ | refine draw_of Tryd.mixed Tryd.tyOk 60 (by kernel_rfl) ?_))
  (conv => whnf)
  refine callI (checkFst_c F) [0, 1] Tryd.call10 rfl (by simp [eqLs, eqL, eqO, eqC, eqCs, rn, renOf, look_cons, look, EK.cast]) (by simp [appN, ptrs, eqVL, eqV, eqA, eqC, eqCs, eqAs, eqCaps, EK.sz, rn, renOf, look_cons, look, arcV, fV]) (by simp [appN, ptrs, SV.lt, SA.lt, SC.lt, arcV, fV]) ?_
  rw [h]
  repeat' (first | exact rfl | ((conv => whnf); first | ((first | refine qA (fun h => ?_) fun h => ?_ | refine qN (fun h => ?_) fun h => ?_ | refine qB (fun h => ?_) fun h => ?_ | refine qC (fun h => ?_) fun h => ?_) <;> try exact absurd h (by omega)) | refine qM (fun h => ?_) fun h => ?_ | refine oM (by (first | omega | (simp only [lenS, InI, nmin, EK.sz]; omega) | (simp only [lenS, InI, nmin, EK.sz] at *; omega))) ?_ | refine oM ?_ ?_ | refine bM ?_ ?_ | refine draw_of Tryd.mixed Tryd.tyOk 60 (by kernel_rfl) ?_))
  (conv => whnf)
  refine callI (c1) [0, 1] Tryd.call11 rfl (by simp [eqLs, eqL, eqO, eqC, eqCs, rn, renOf, look_cons, look, EK.cast]) (by simp [appN, ptrs, eqVL, eqV, eqA, eqC, eqCs, eqAs, eqCaps, EK.sz, rn, renOf, look_cons, look, arcV, fV]) (by simp [appN, ptrs, SV.lt, SA.lt, SC.lt, arcV, fV]) ?_
  repeat' (first | exact rfl | ((conv => whnf); first | ((first | refine qA (fun h => ?_) fun h => ?_ | refine qN (fun h => ?_) fun h => ?_ | refine qB (fun h => ?_) fun h => ?_ | refine qC (fun h => ?_) fun h => ?_) <;> try exact absurd h (by omega)) | refine qM (fun h => ?_) fun h => ?_ | refine oM (by (first | omega | (simp only [lenS, InI, nmin, EK.sz]; omega) | (simp only [lenS, InI, nmin, EK.sz] at *; omega))) ?_ | refine oM ?_ ?_ | refine bM ?_ ?_ | refine draw_of Tryd.mixed Tryd.tyOk 60 (by kernel_rfl) ?_))
  (conv => whnf)
  refine callI (c2) [0, 1] Tryd.call16 rfl (by simp [eqLs, eqL, eqO, eqC, eqCs, rn, renOf, look_cons, look, EK.cast]) (by simp [appN, ptrs, eqVL, eqV, eqA, eqC, eqCs, eqAs, eqCaps, EK.sz, rn, renOf, look_cons, look, arcV, fV]) (by simp [appN, ptrs, SV.lt, SA.lt, SC.lt, arcV, fV]) ?_
  repeat' (first | exact rfl | ((conv => whnf); first | ((first | refine qA (fun h => ?_) fun h => ?_ | refine qN (fun h => ?_) fun h => ?_ | refine qB (fun h => ?_) fun h => ?_ | refine qC (fun h => ?_) fun h => ?_) <;> try exact absurd h (by omega)) | refine qM (fun h => ?_) fun h => ?_ | refine oM (by (first | omega | (simp only [lenS, InI, nmin, EK.sz]; omega) | (simp only [lenS, InI, nmin, EK.sz] at *; omega))) ?_ | refine oM ?_ ?_ | refine bM ?_ ?_ | refine draw_of Tryd.mixed Tryd.tyOk 60 (by kernel_rfl) ?_))
  (conv => whnf)
  refine callI (c3) [0, 1] Tryd.call13 rfl (by simp [eqLs, eqL, eqO, eqC, eqCs, rn, renOf, look_cons, look, EK.cast]) (by simp [appN, ptrs, eqVL, eqV, eqA, eqC, eqCs, eqAs, eqCaps, EK.sz, rn, renOf, look_cons, look, arcV, fV]) (by simp [appN, ptrs, SV.lt, SA.lt, SC.lt, arcV, fV]) ?_
  repeat' (first | exact rfl | ((conv => whnf); first | ((first | refine qA (fun h => ?_) fun h => ?_ | refine qN (fun h => ?_) fun h => ?_ | refine qB (fun h => ?_) fun h => ?_ | refine qC (fun h => ?_) fun h => ?_) <;> try exact absurd h (by omega)) | refine qM (fun h => ?_) fun h => ?_ | refine oM (by (first | omega | (simp only [lenS, InI, nmin, EK.sz]; omega) | (simp only [lenS, InI, nmin, EK.sz] at *; omega))) ?_ | refine oM ?_ ?_ | refine bM ?_ ?_ | refine draw_of Tryd.mixed Tryd.tyOk 60 (by kernel_rfl) ?_))
  (conv => whnf)
  refine callF (hwd) [0, 1] Tryd.call17 rfl (by simp [eqLs, eqL, eqO, eqC, eqCs, rn, renOf, look_cons, look, EK.cast]) (by simp [appN, ptrs, eqVL, eqV, eqA, eqC, eqCs, eqAs, eqCaps, EK.sz, rn, renOf, look_cons, look, arcV, fV]) (by simp [appN, ptrs, SV.lt, SA.lt, SC.lt, arcV, fV, lenN]) ?_
  rintro _ _ ⟨V, W, vs, par, sym, i, c, ok, rows, m, spU, sqU, sr, sp, sy, hV, hcF, hcA, hW, htab, hcase, rfl, rfl⟩
  simp only [Nat.reduceAdd, Nat.reduceSub]
  rcases hcase with ⟨rfl, h1, rfl, rfl⟩ | ⟨rfl, h1⟩
  · have hgw := hg V hV (bgn_yes hF hf hV hV hW h1)
    generalize allW F = aw at *
    repeat' (first | exact rfl | ((conv => whnf); first | ((first | refine qA (fun h => ?_) fun h => ?_ | refine qN (fun h => ?_) fun h => ?_ | refine qB (fun h => ?_) fun h => ?_ | refine qC (fun h => ?_) fun h => ?_) <;> try exact absurd h (by omega)) | refine qM (fun h => ?_) fun h => ?_ | refine oM (by (first | omega | (simp only [lenS, InI, nmin, EK.sz]; omega) | (simp only [lenS, InI, nmin, EK.sz] at *; omega))) ?_ | refine oM ?_ ?_ | refine bM ?_ ?_ | refine draw_of Tryd.mixed Tryd.tyOk 60 (by kernel_rfl) ?_))
    (conv => whnf)
    refine callF (determineBegun_c x hx) [3] Tryd.call14 rfl (by simp [eqLs, eqL, eqO, eqC, eqCs, rn, renOf, look_cons, look, EK.cast]) (by simp [appN, ptrs, eqVL, eqV, eqA, eqC, eqCs, eqAs, eqCaps, EK.sz, rn, renOf, look_cons, look, arcV, fV]) (by simp [appN, ptrs, SV.lt, SA.lt, SC.lt, arcV, fV, lenN]) ?_
    rintro _ _ ⟨rfl, rfl⟩
    simp only [Nat.reduceAdd, Nat.reduceSub]
    repeat' (first | exact rfl | ((conv => whnf); first | ((first | refine qA (fun h => ?_) fun h => ?_ | refine qN (fun h => ?_) fun h => ?_ | refine qB (fun h => ?_) fun h => ?_ | refine qC (fun h => ?_) fun h => ?_) <;> try exact absurd h (by omega)) | refine qM (fun h => ?_) fun h => ?_ | refine oM (by (first | omega | (simp only [lenS, InI, nmin, EK.sz]; omega) | (simp only [lenS, InI, nmin, EK.sz] at *; omega))) ?_ | refine oM ?_ ?_ | refine bM ?_ ?_ | refine draw_of Tryd.mixed Tryd.tyOk 60 (by kernel_rfl) ?_))
    (conv => whnf)
    refine callI (scoreBegun_c) [] Tryd.call18 rfl trivial (by simp [appN, ptrs, eqVL, eqV, eqA, eqC, eqCs, eqAs, eqCaps, EK.sz, rn, renOf, look_cons, look, arcV, fV]) (by simp [appN, ptrs, SV.lt, SA.lt, SC.lt, arcV, fV]) ?_
    repeat' (first | exact rfl | ((conv => whnf); first | ((first | refine qA (fun h => ?_) fun h => ?_ | refine qN (fun h => ?_) fun h => ?_ | refine qB (fun h => ?_) fun h => ?_ | refine qC (fun h => ?_) fun h => ?_) <;> try exact absurd h (by omega)) | refine qM (fun h => ?_) fun h => ?_ | refine oM (by (first | omega | (simp only [lenS, InI, nmin, EK.sz]; omega) | (simp only [lenS, InI, nmin, EK.sz] at *; omega))) ?_ | refine oM ?_ ?_ | refine bM ?_ ?_ | refine draw_of Tryd.mixed Tryd.tyOk 60 (by kernel_rfl) ?_))
    (conv => whnf)
    refine callI (haw) [0, 1] Tryd.call19 rfl (by simp [eqLs, eqL, eqO, eqC, eqCs, rn, renOf, look_cons, look, EK.cast]) (by simp [appN, ptrs, eqVL, eqV, eqA, eqC, eqCs, eqAs, eqCaps, EK.sz, rn, renOf, look_cons, look, arcV, fV]) (by simp [appN, ptrs, SV.lt, SA.lt, SC.lt, arcV, fV]) ?_
    repeat' (first | exact rfl | ((conv => whnf); first | ((first | refine qA (fun h => ?_) fun h => ?_ | refine qN (fun h => ?_) fun h => ?_ | refine qB (fun h => ?_) fun h => ?_ | refine qC (fun h => ?_) fun h => ?_) <;> try exact absurd h (by omega)) | refine qM (fun h => ?_) fun h => ?_ | refine oM (by (first | omega | (simp only [lenS, InI, nmin, EK.sz]; omega) | (simp only [lenS, InI, nmin, EK.sz] at *; omega))) ?_ | refine oM ?_ ?_ | refine bM ?_ ?_ | refine draw_of Tryd.mixed Tryd.tyOk 60 (by kernel_rfl) ?_))
    (conv => whnf)
    exact ⟨[], [(3, tabO x)], 4, .b true, ⟨by rfl, trivial, by simp [eqFr, eqHp, eqV, eqA, eqC, eqO, eqCs, eqAs, look_cons, look, rn, EK.cast, EK.sz, eqCaps]⟩, by simp [eqV, eqA, eqC]; exact hgw, rfl, rfl⟩
  · repeat' (first | exact rfl | ((conv => whnf); first | ((first | refine qA (fun h => ?_) fun h => ?_ | refine qN (fun h => ?_) fun h => ?_ | refine qB (fun h => ?_) fun h => ?_ | refine qC (fun h => ?_) fun h => ?_) <;> try exact absurd h (by omega)) | refine qM (fun h => ?_) fun h => ?_ | refine oM (by (first | omega | (simp only [lenS, InI, nmin, EK.sz]; omega) | (simp only [lenS, InI, nmin, EK.sz] at *; omega))) ?_ | refine oM ?_ ?_ | refine bM ?_ ?_ | refine draw_of Tryd.mixed Tryd.tyOk 60 (by kernel_rfl) ?_))
    (conv => whnf)
    refine callF (determineBegun_c x hx) [3] Tryd.call14 rfl (by simp [eqLs, eqL, eqO, eqC, eqCs, rn, renOf, look_cons, look, EK.cast]) (by simp [appN, ptrs, eqVL, eqV, eqA, eqC, eqCs, eqAs, eqCaps, EK.sz, rn, renOf, look_cons, look, arcV, fV]) (by simp [appN, ptrs, SV.lt, SA.lt, SC.lt, arcV, fV, lenN]) ?_
    rintro _ _ ⟨rfl, rfl⟩
    simp only [Nat.reduceAdd, Nat.reduceSub]
    repeat' (first | exact rfl | ((conv => whnf); first | ((first | refine qA (fun h => ?_) fun h => ?_ | refine qN (fun h => ?_) fun h => ?_ | refine qB (fun h => ?_) fun h => ?_ | refine qC (fun h => ?_) fun h => ?_) <;> try exact absurd h (by omega)) | refine qM (fun h => ?_) fun h => ?_ | refine oM (by (first | omega | (simp only [lenS, InI, nmin, EK.sz]; omega) | (simp only [lenS, InI, nmin, EK.sz] at *; omega))) ?_ | refine oM ?_ ?_ | refine bM ?_ ?_ | refine draw_of Tryd.mixed Tryd.tyOk 60 (by kernel_rfl) ?_))
    (conv => whnf)
    refine callI (scoreBegun_c) [] Tryd.call18 rfl trivial (by simp [appN, ptrs, eqVL, eqV, eqA, eqC, eqCs, eqAs, eqCaps, EK.sz, rn, renOf, look_cons, look, arcV, fV]) (by simp [appN, ptrs, SV.lt, SA.lt, SC.lt, arcV, fV]) ?_
    repeat' (first | exact rfl | ((conv => whnf); first | ((first | refine qA (fun h => ?_) fun h => ?_ | refine qN (fun h => ?_) fun h => ?_ | refine qB (fun h => ?_) fun h => ?_ | refine qC (fun h => ?_) fun h => ?_) <;> try exact absurd h (by omega)) | refine qM (fun h => ?_) fun h => ?_ | refine oM (by (first | omega | (simp only [lenS, InI, nmin, EK.sz]; omega) | (simp only [lenS, InI, nmin, EK.sz] at *; omega))) ?_ | refine oM ?_ ?_ | refine bM ?_ ?_ | refine draw_of Tryd.mixed Tryd.tyOk 60 (by kernel_rfl) ?_))
    (conv => whnf)
    exact ⟨[], [(3, tabO x)], 4, .b true, ⟨by rfl, trivial, by simp [eqFr, eqHp, eqV, eqA, eqC, eqO, eqCs, eqAs, look_cons, look, rn, EK.cast, EK.sz, eqCaps]⟩, by simp [eqV, eqA, eqC], rfl, rfl⟩

theorem scoreE_same {F : TF} {l : List Int} (h : fstE F = 0) : scoreE F l l = wordE l := by
  unfold scoreE
  rw [if_neg (fun c => c h)]
  by_cases e : wordE l = 0
  · rw [if_neg (fun c => c e)]
  · rw [if_pos e]

set_option maxHeartbeats 8000000 in
set_option maxRecDepth 20000 in
/-- Determine answers. -/
theorem costs_ok (F : TF) (l : List Int) (cl : Nat) (hl : F.fin.length ≤ 9223372036854775807) (x : Obj) (hx : TabX x) (h : fstE F = 0) (hf : fineB F = true)
    (U : TF) (st : DS) (hD : DetH F U st) (hgr : greatB st.2 (st.1.map (finD U)) = false)
    (hdet : Ct Tryd.prog 15 [fV F] [] (hpF F ++ [(2, tabO x)]) 3 (fun v s => ∃ sp sq, v = .tup [.agg [.i (st.1.length : Nat), .i 0, .sl 3 1 0 (st.1.map (finD U)).length ((st.1.map (finD U)).length + sp), .sl 4 5 0 st.2.length (st.2.length + sq)], .c (.i 0)] ∧
       s = ⟨[], [(2, tabO x), (3, .arr true 3 .int (st.1.map (finD U)) sp), (4, .arr true 50 .arc st.2 sq)], 5⟩)) : Ct Tryd.prog 4 [fV F, .c (.sl 2 1 0 l.length cl)] [] (hpLw F l x) 4 (LawPost x) := by
  have hF := fstE_ok h
  have hal := hF.arcl
  have hst := hF.st
  have c1 := isBoth_c F (by omega)
  have c2 := hasSilent_c F (by omega)
  have c3 := isRound_c F (FRng.of hF)
  have hf2 := hf
  unfold fineB at hf2
  rw [Bool.and_eq_true, Bool.and_eq_true, Bool.not_eq_true', Bool.not_eq_true'] at hf2
  rw [hf2.1.1] at c1
  rw [hf2.1.2] at c2
  rw [hf2.2] at c3
  have hwd := wordsOf_c F (WOk.of hF) hst.2 hF.start
  have hbg := hD.bgn
  have hus := hD.us
  obtain ⟨_, _, hsm⟩ := hD.small
  have g0 : ∀ cf ca, Ct Tryd.prog 10 [.a (.agg [.i (st.1.length : Nat), .i 0, .sl 0 1 0 (st.1.map (finD U)).length cf, .sl 1 5 0 st.2.length ca])] [] [(0, .arr false 3 .int (st.1.map (finD U)) 0), (1, .arr false 50 .arc st.2 0)] 2 (Is 2 (.i 0)) := fun cf ca => by
    have := checkFst_c (mkD U st cf ca)
    rw [hD.fst hgr cf ca] at this
    exact this
  have g1 : ∀ cf ca, Ct Tryd.prog 11 [.a (.agg [.i (st.1.length : Nat), .i 0, .sl 0 1 0 (st.1.map (finD U)).length cf, .sl 1 5 0 st.2.length ca])] [] [(0, .arr false 3 .int (st.1.map (finD U)) 0), (1, .arr false 50 .arc st.2 0)] 2 (Is 2 (.b true)) := fun cf ca => by
    have := isBoth_c (mkD U st cf ca) (show st.2.length ≤ _ by omega)
    rw [(hD.both cf ca).1] at this
    exact this
  have g2 : ∀ cf ca, Ct Tryd.prog 12 [.a (.agg [.i (st.1.length : Nat), .i 0, .sl 0 1 0 (st.1.map (finD U)).length cf, .sl 1 5 0 st.2.length ca])] [] [(0, .arr false 3 .int (st.1.map (finD U)) 0), (1, .arr false 50 .arc st.2 0)] 2 (Is 2 (.b true)) := fun cf ca => by
    have := isSingle_c (mkD U st cf ca) (show st.2.length ≤ _ by omega)
    rw [(hD.both cf ca).2, hD.single cf ca] at this
    exact this
  have g3 : ∀ cf ca, Ct Tryd.prog 13 [.a (.agg [.i (st.1.length : Nat), .i 0, .sl 0 1 0 (st.1.map (finD U)).length cf, .sl 1 5 0 st.2.length ca])] [] [(0, .arr false 3 .int (st.1.map (finD U)) 0), (1, .arr false 50 .arc st.2 0)] 2 (Is 2 (.b false)) := fun cf ca => by
    have := isRound_c (mkD U st cf ca) (FRng.of (fstE_ok (hD.fst hgr cf ca)))
    rw [hD.round cf ca] at this
    exact this
  have g4 : ∀ cf ca, Ct Tryd.prog 20 [.a (.agg [.i (st.1.length : Nat), .i 0, .sl 0 1 0 (st.1.map (finD U)).length cf, .sl 1 5 0 st.2.length ca]), .c (.sl 2 1 0 l.length cl), .c (.sl 3 1 0 l.length cl)] [] [(0, .arr false 3 .int (st.1.map (finD U)) 0), (1, .arr false 50 .arc st.2 0), (2, .arr false 3 .int l 0), (3, .arr false 3 .int l 0)] 4
      (fun x s => ∃ n, (wordE l = 0 → MinOf (Wt F l l) n) ∧ (wordE l ≠ 0 → n = 0) ∧ x = .tup [.c (.i n), .c (.i (wordE l))] ∧ s = ⟨[], [], 4⟩) := fun cf ca => by
    have h0 := hD.fst hgr cf ca
    have hX := fstE_ok h0
    have hl2 : (mkD U st cf ca).fin.length ≤ 9223372036854775807 := by have := hX.finl; have := hX.st; omega
    have := score_a (mkD U st cf ca) l l cl cl hl2
    rw [scoreE_same h0] at this
    refine this.to ?_
    rintro v s ⟨n, hp, h1, h2⟩
    refine ⟨n, fun hw => hD.cost (hp.1 (by rw [scoreE_same h0]; exact hw)).1, fun hw => hp.2 (by rw [scoreE_same h0]; exact hw), h1, h2⟩
  have g5 : Ct Tryd.prog 20 [fV F, .c (.sl 2 1 0 l.length cl), .c (.sl 3 1 0 l.length cl)] [] (hpQ F l l) 4
      (fun x s => ∃ n, (wordE l = 0 → MinOf (Wt F l l) n) ∧ (wordE l ≠ 0 → n = 0) ∧ x = .tup [.c (.i n), .c (.i (wordE l))] ∧ s = ⟨[], [], 4⟩) := by
    have := score_a F l l cl cl hl
    rw [scoreE_same h] at this
    refine this.to ?_
    rintro v s ⟨n, hp, h1, h2⟩
    exact ⟨n, fun hw => (hp.1 (by rw [scoreE_same h]; exact hw)).1, fun hw => hp.2 (by rw [scoreE_same h]; exact hw), h1, h2⟩
  clear hD hgr
  generalize st.1.map (finD U) = fins at *
  generalize ((st.1.length : Nat) : Int) = nst at *
  generalize st.2 = raw at *
  refine ctW Tryd.tyOk 13 [] Tryd.func4 rfl (by simp [SV.lt, SA.lt, SC.lt, arcV, fV]) (by simp) (fr := [(0, fV F), (1, .c (.sl 2 1 0 l.length cl))]) rfl ?_
  repeat' (first | exact rfl | ((conv => whnf); first | ((first | refine qA (fun h => ?_) fun h => ?_ | refine qN (fun h => ?_) fun h => ?_ | refine qB (fun h => ?_) fun h => ?_ | refine qC (fun h => ?_) fun h => ?_) <;> try exact absurd h (by omega)) | refine qM (fun h => ?_) fun h => ?_ | refine oM (by (first | omega | (simp only [lenS, InI, nmin, EK.sz]; omega) | (simp only [lenS, InI, nmin, EK.sz] at *; omega))) ?_ | refine oM ?_ ?_ | refine bM ?_ ?_ | refine draw_of Tryd.mixed Tryd.tyOk 60 (by kernel_rfl) ?_))
  (conv => whnf)
  refine callF (hdet) [0, 1, 3] Tryd.call15 rfl (by simp [eqLs, eqL, eqO, eqC, eqCs, rn, renOf, look_cons, look, EK.cast]) (by simp [appN, ptrs, eqVL, eqV, eqA, eqC, eqCs, eqAs, eqCaps, EK.sz, rn, renOf, look_cons, look, arcV, fV]) (by simp [appN, ptrs, SV.lt, SA.lt, SC.lt, arcV, fV, lenN]) ?_
  rintro _ _ ⟨xp, xq, rfl, rfl⟩
  simp only [Nat.reduceAdd, Nat.reduceSub]
  repeat' (first | exact rfl | ((conv => whnf); first | ((first | refine qA (fun h => ?_) fun h => ?_ | refine qN (fun h => ?_) fun h => ?_ | refine qB (fun h => ?_) fun h => ?_ | refine qC (fun h => ?_) fun h => ?_) <;> try exact absurd h (by omega)) | refine qM (fun h => ?_) fun h => ?_ | refine oM (by (first | omega | (simp only [lenS, InI, nmin, EK.sz]; omega) | (simp only [lenS, InI, nmin, EK.sz] at *; omega))) ?_ | refine oM ?_ ?_ | refine bM ?_ ?_ | refine draw_of Tryd.mixed Tryd.tyOk 60 (by kernel_rfl) ?_))
  (conv => whnf)
  refine callI (checkFst_c F) [0, 1] Tryd.call10 rfl (by simp [eqLs, eqL, eqO, eqC, eqCs, rn, renOf, look_cons, look, EK.cast]) (by simp [appN, ptrs, eqVL, eqV, eqA, eqC, eqCs, eqAs, eqCaps, EK.sz, rn, renOf, look_cons, look, arcV, fV]) (by simp [appN, ptrs, SV.lt, SA.lt, SC.lt, arcV, fV]) ?_
  rw [h]
  repeat' (first | exact rfl | ((conv => whnf); first | ((first | refine qA (fun h => ?_) fun h => ?_ | refine qN (fun h => ?_) fun h => ?_ | refine qB (fun h => ?_) fun h => ?_ | refine qC (fun h => ?_) fun h => ?_) <;> try exact absurd h (by omega)) | refine qM (fun h => ?_) fun h => ?_ | refine oM (by (first | omega | (simp only [lenS, InI, nmin, EK.sz]; omega) | (simp only [lenS, InI, nmin, EK.sz] at *; omega))) ?_ | refine oM ?_ ?_ | refine bM ?_ ?_ | refine draw_of Tryd.mixed Tryd.tyOk 60 (by kernel_rfl) ?_))
  (conv => whnf)
  refine callI (c1) [0, 1] Tryd.call11 rfl (by simp [eqLs, eqL, eqO, eqC, eqCs, rn, renOf, look_cons, look, EK.cast]) (by simp [appN, ptrs, eqVL, eqV, eqA, eqC, eqCs, eqAs, eqCaps, EK.sz, rn, renOf, look_cons, look, arcV, fV]) (by simp [appN, ptrs, SV.lt, SA.lt, SC.lt, arcV, fV]) ?_
  repeat' (first | exact rfl | ((conv => whnf); first | ((first | refine qA (fun h => ?_) fun h => ?_ | refine qN (fun h => ?_) fun h => ?_ | refine qB (fun h => ?_) fun h => ?_ | refine qC (fun h => ?_) fun h => ?_) <;> try exact absurd h (by omega)) | refine qM (fun h => ?_) fun h => ?_ | refine oM (by (first | omega | (simp only [lenS, InI, nmin, EK.sz]; omega) | (simp only [lenS, InI, nmin, EK.sz] at *; omega))) ?_ | refine oM ?_ ?_ | refine bM ?_ ?_ | refine draw_of Tryd.mixed Tryd.tyOk 60 (by kernel_rfl) ?_))
  (conv => whnf)
  refine callI (c2) [0, 1] Tryd.call16 rfl (by simp [eqLs, eqL, eqO, eqC, eqCs, rn, renOf, look_cons, look, EK.cast]) (by simp [appN, ptrs, eqVL, eqV, eqA, eqC, eqCs, eqAs, eqCaps, EK.sz, rn, renOf, look_cons, look, arcV, fV]) (by simp [appN, ptrs, SV.lt, SA.lt, SC.lt, arcV, fV]) ?_
  repeat' (first | exact rfl | ((conv => whnf); first | ((first | refine qA (fun h => ?_) fun h => ?_ | refine qN (fun h => ?_) fun h => ?_ | refine qB (fun h => ?_) fun h => ?_ | refine qC (fun h => ?_) fun h => ?_) <;> try exact absurd h (by omega)) | refine qM (fun h => ?_) fun h => ?_ | refine oM (by (first | omega | (simp only [lenS, InI, nmin, EK.sz]; omega) | (simp only [lenS, InI, nmin, EK.sz] at *; omega))) ?_ | refine oM ?_ ?_ | refine bM ?_ ?_ | refine draw_of Tryd.mixed Tryd.tyOk 60 (by kernel_rfl) ?_))
  (conv => whnf)
  refine callI (c3) [0, 1] Tryd.call13 rfl (by simp [eqLs, eqL, eqO, eqC, eqCs, rn, renOf, look_cons, look, EK.cast]) (by simp [appN, ptrs, eqVL, eqV, eqA, eqC, eqCs, eqAs, eqCaps, EK.sz, rn, renOf, look_cons, look, arcV, fV]) (by simp [appN, ptrs, SV.lt, SA.lt, SC.lt, arcV, fV]) ?_
  repeat' (first | exact rfl | ((conv => whnf); first | ((first | refine qA (fun h => ?_) fun h => ?_ | refine qN (fun h => ?_) fun h => ?_ | refine qB (fun h => ?_) fun h => ?_ | refine qC (fun h => ?_) fun h => ?_) <;> try exact absurd h (by omega)) | refine qM (fun h => ?_) fun h => ?_ | refine oM (by (first | omega | (simp only [lenS, InI, nmin, EK.sz]; omega) | (simp only [lenS, InI, nmin, EK.sz] at *; omega))) ?_ | refine oM ?_ ?_ | refine bM ?_ ?_ | refine draw_of Tryd.mixed Tryd.tyOk 60 (by kernel_rfl) ?_))
  (conv => whnf)
  refine callF (hwd) [0, 1] Tryd.call17 rfl (by simp [eqLs, eqL, eqO, eqC, eqCs, rn, renOf, look_cons, look, EK.cast]) (by simp [appN, ptrs, eqVL, eqV, eqA, eqC, eqCs, eqAs, eqCaps, EK.sz, rn, renOf, look_cons, look, arcV, fV]) (by simp [appN, ptrs, SV.lt, SA.lt, SC.lt, arcV, fV, lenN]) ?_
  rintro _ _ ⟨V, W, vs, par, sym, i, c, ok, rows, m, spU, sqU, sr, sp, sy, hV, hcF, hcA, hW, htab, hcase, rfl, rfl⟩
  simp only [Nat.reduceAdd, Nat.reduceSub]
  rcases hcase with ⟨rfl, h1, rfl, rfl⟩ | ⟨rfl, h1⟩
  · repeat' (first | exact rfl | ((conv => whnf); first | ((first | refine qA (fun h => ?_) fun h => ?_ | refine qN (fun h => ?_) fun h => ?_ | refine qB (fun h => ?_) fun h => ?_ | refine qC (fun h => ?_) fun h => ?_) <;> try exact absurd h (by omega)) | refine qM (fun h => ?_) fun h => ?_ | refine oM (by (first | omega | (simp only [lenS, InI, nmin, EK.sz]; omega) | (simp only [lenS, InI, nmin, EK.sz] at *; omega))) ?_ | refine oM ?_ ?_ | refine bM ?_ ?_ | refine draw_of Tryd.mixed Tryd.tyOk 60 (by kernel_rfl) ?_))
    (conv => whnf)
    refine callF (determineBegun_c x hx) [3] Tryd.call14 rfl (by simp [eqLs, eqL, eqO, eqC, eqCs, rn, renOf, look_cons, look, EK.cast]) (by simp [appN, ptrs, eqVL, eqV, eqA, eqC, eqCs, eqAs, eqCaps, EK.sz, rn, renOf, look_cons, look, arcV, fV]) (by simp [appN, ptrs, SV.lt, SA.lt, SC.lt, arcV, fV, lenN]) ?_
    rintro _ _ ⟨rfl, rfl⟩
    simp only [Nat.reduceAdd, Nat.reduceSub]
    repeat' (first | exact rfl | ((conv => whnf); first | ((first | refine qA (fun h => ?_) fun h => ?_ | refine qN (fun h => ?_) fun h => ?_ | refine qB (fun h => ?_) fun h => ?_ | refine qC (fun h => ?_) fun h => ?_) <;> try exact absurd h (by omega)) | refine qM (fun h => ?_) fun h => ?_ | refine oM (by (first | omega | (simp only [lenS, InI, nmin, EK.sz]; omega) | (simp only [lenS, InI, nmin, EK.sz] at *; omega))) ?_ | refine oM ?_ ?_ | refine bM ?_ ?_ | refine draw_of Tryd.mixed Tryd.tyOk 60 (by kernel_rfl) ?_))
    (conv => whnf)
    refine callI (scoreBegun_c) [] Tryd.call18 rfl trivial (by simp [appN, ptrs, eqVL, eqV, eqA, eqC, eqCs, eqAs, eqCaps, EK.sz, rn, renOf, look_cons, look, arcV, fV]) (by simp [appN, ptrs, SV.lt, SA.lt, SC.lt, arcV, fV]) ?_
    repeat' (first | exact rfl | ((conv => whnf); first | ((first | refine qA (fun h => ?_) fun h => ?_ | refine qN (fun h => ?_) fun h => ?_ | refine qB (fun h => ?_) fun h => ?_ | refine qC (fun h => ?_) fun h => ?_) <;> try exact absurd h (by omega)) | refine qM (fun h => ?_) fun h => ?_ | refine oM (by (first | omega | (simp only [lenS, InI, nmin, EK.sz]; omega) | (simp only [lenS, InI, nmin, EK.sz] at *; omega))) ?_ | refine oM ?_ ?_ | refine bM ?_ ?_ | refine draw_of Tryd.mixed Tryd.tyOk 60 (by kernel_rfl) ?_))
    (conv => whnf)
    simp only [Nat.reduceAdd, Nat.reduceSub]
    refine callI (g0 (fins.length + xp) (raw.length + xq)) [5, 6] Tryd.call10 rfl (by simp [eqLs, eqL, eqO, eqC, eqCs, rn, renOf, look_cons, look, EK.cast]) (by simp [appN, ptrs, eqVL, eqV, eqA, eqC, eqCs, eqAs, eqCaps, EK.sz, rn, renOf, look_cons, look, arcV, fV]) (by simp [appN, ptrs, SV.lt, SA.lt, SC.lt, arcV, fV]) ?_
    repeat' (first | exact rfl | ((conv => whnf); first | ((first | refine qA (fun h => ?_) fun h => ?_ | refine qN (fun h => ?_) fun h => ?_ | refine qB (fun h => ?_) fun h => ?_ | refine qC (fun h => ?_) fun h => ?_) <;> try exact absurd h (by omega)) | refine qM (fun h => ?_) fun h => ?_ | refine oM (by (first | omega | (simp only [lenS, InI, nmin, EK.sz]; omega) | (simp only [lenS, InI, nmin, EK.sz] at *; omega))) ?_ | refine oM ?_ ?_ | refine bM ?_ ?_ | refine draw_of Tryd.mixed Tryd.tyOk 60 (by kernel_rfl) ?_))
    (conv => whnf)
    refine callI (g1 (fins.length + xp) (raw.length + xq)) [5, 6] Tryd.call11 rfl (by simp [eqLs, eqL, eqO, eqC, eqCs, rn, renOf, look_cons, look, EK.cast]) (by simp [appN, ptrs, eqVL, eqV, eqA, eqC, eqCs, eqAs, eqCaps, EK.sz, rn, renOf, look_cons, look, arcV, fV]) (by simp [appN, ptrs, SV.lt, SA.lt, SC.lt, arcV, fV]) ?_
    repeat' (first | exact rfl | ((conv => whnf); first | ((first | refine qA (fun h => ?_) fun h => ?_ | refine qN (fun h => ?_) fun h => ?_ | refine qB (fun h => ?_) fun h => ?_ | refine qC (fun h => ?_) fun h => ?_) <;> try exact absurd h (by omega)) | refine qM (fun h => ?_) fun h => ?_ | refine oM (by (first | omega | (simp only [lenS, InI, nmin, EK.sz]; omega) | (simp only [lenS, InI, nmin, EK.sz] at *; omega))) ?_ | refine oM ?_ ?_ | refine bM ?_ ?_ | refine draw_of Tryd.mixed Tryd.tyOk 60 (by kernel_rfl) ?_))
    (conv => whnf)
    refine callI (g2 (fins.length + xp) (raw.length + xq)) [5, 6] Tryd.call12 rfl (by simp [eqLs, eqL, eqO, eqC, eqCs, rn, renOf, look_cons, look, EK.cast]) (by simp [appN, ptrs, eqVL, eqV, eqA, eqC, eqCs, eqAs, eqCaps, EK.sz, rn, renOf, look_cons, look, arcV, fV]) (by simp [appN, ptrs, SV.lt, SA.lt, SC.lt, arcV, fV]) ?_
    repeat' (first | exact rfl | ((conv => whnf); first | ((first | refine qA (fun h => ?_) fun h => ?_ | refine qN (fun h => ?_) fun h => ?_ | refine qB (fun h => ?_) fun h => ?_ | refine qC (fun h => ?_) fun h => ?_) <;> try exact absurd h (by omega)) | refine qM (fun h => ?_) fun h => ?_ | refine oM (by (first | omega | (simp only [lenS, InI, nmin, EK.sz]; omega) | (simp only [lenS, InI, nmin, EK.sz] at *; omega))) ?_ | refine oM ?_ ?_ | refine bM ?_ ?_ | refine draw_of Tryd.mixed Tryd.tyOk 60 (by kernel_rfl) ?_))
    (conv => whnf)
    refine callI (g3 (fins.length + xp) (raw.length + xq)) [5, 6] Tryd.call13 rfl (by simp [eqLs, eqL, eqO, eqC, eqCs, rn, renOf, look_cons, look, EK.cast]) (by simp [appN, ptrs, eqVL, eqV, eqA, eqC, eqCs, eqAs, eqCaps, EK.sz, rn, renOf, look_cons, look, arcV, fV]) (by simp [appN, ptrs, SV.lt, SA.lt, SC.lt, arcV, fV]) ?_
    repeat' (first | exact rfl | ((conv => whnf); first | ((first | refine qA (fun h => ?_) fun h => ?_ | refine qN (fun h => ?_) fun h => ?_ | refine qB (fun h => ?_) fun h => ?_ | refine qC (fun h => ?_) fun h => ?_) <;> try exact absurd h (by omega)) | refine qM (fun h => ?_) fun h => ?_ | refine oM (by (first | omega | (simp only [lenS, InI, nmin, EK.sz]; omega) | (simp only [lenS, InI, nmin, EK.sz] at *; omega))) ?_ | refine oM ?_ ?_ | refine bM ?_ ?_ | refine draw_of Tryd.mixed Tryd.tyOk 60 (by kernel_rfl) ?_))
    (conv => whnf)
    simp only [Nat.reduceAdd, Nat.reduceSub]
    refine callSub 2 0 l.length rfl (by omega) (args' := [.a (.agg [.i nst, .i 0, .sl 5 1 0 fins.length (fins.length + xp), .sl 6 5 0 raw.length (raw.length + xq)]), .c (.sl 2 1 0 l.length cl), .c (.sl 15 1 0 l.length cl)]) (fun β => by simp [SV.den, SA.den, SC.den, Env.add, appN, ptrs, EK.sz, adr_zero, Option.map_map, Function.comp_def]) ?_
    (conv => whnf)
    rw [sub_all]
    refine callF (g4 (fins.length + xp) (raw.length + xq)) [5, 6, 2, 15] Tryd.call20 rfl (by simp [eqLs, eqL, eqO, eqC, eqCs, rn, renOf, look_cons, look, EK.cast]) (by simp [appN, ptrs, eqVL, eqV, eqA, eqC, eqCs, eqAs, eqCaps, EK.sz, rn, renOf, look_cons, look, arcV, fV]) (by simp [appN, ptrs, SV.lt, SA.lt, SC.lt, arcV, fV, lenN]) ?_
    rintro _ _ ⟨n1, h11, h12, rfl, rfl⟩
    simp only [Nat.reduceAdd, Nat.reduceSub]
    repeat' (first | exact rfl | ((conv => whnf); first | ((first | refine qA (fun h => ?_) fun h => ?_ | refine qN (fun h => ?_) fun h => ?_ | refine qB (fun h => ?_) fun h => ?_ | refine qC (fun h => ?_) fun h => ?_) <;> try exact absurd h (by omega)) | refine qM (fun h => ?_) fun h => ?_ | refine oM (by (first | omega | (simp only [lenS, InI, nmin, EK.sz]; omega) | (simp only [lenS, InI, nmin, EK.sz] at *; omega))) ?_ | refine oM ?_ ?_ | refine bM ?_ ?_ | refine draw_of Tryd.mixed Tryd.tyOk 60 (by kernel_rfl) ?_))
    (conv => whnf)
    simp only [Nat.reduceAdd, Nat.reduceSub]
    refine callSub 2 0 l.length rfl (by omega) (args' := [fV F, .c (.sl 2 1 0 l.length cl), .c (.sl 16 1 0 l.length cl)]) (fun β => by simp [fV, SV.den, SA.den, SC.den, Env.add, appN, ptrs, EK.sz, adr_zero, Option.map_map, Function.comp_def]) ?_
    (conv => whnf)
    rw [sub_all]
    refine callF (g5) [0, 1, 2, 16] Tryd.call20 rfl (by simp [eqLs, eqL, eqO, eqC, eqCs, rn, renOf, look_cons, look, EK.cast]) (by simp [appN, ptrs, eqVL, eqV, eqA, eqC, eqCs, eqAs, eqCaps, EK.sz, rn, renOf, look_cons, look, arcV, fV]) (by simp [appN, ptrs, SV.lt, SA.lt, SC.lt, arcV, fV, lenN]) ?_
    rintro _ _ ⟨n2, h21, h22, rfl, rfl⟩
    have hnn : n1 = n2 := by
      by_cases hw : wordE l = 0
      · exact (h11 hw).eq (h21 hw) fun c => Iff.rfl
      · rw [h12 hw, h22 hw]
    subst hnn
    repeat' (first | exact rfl | ((conv => whnf); first | ((first | refine qA (fun h => ?_) fun h => ?_ | refine qN (fun h => ?_) fun h => ?_ | refine qB (fun h => ?_) fun h => ?_ | refine qC (fun h => ?_) fun h => ?_) <;> try exact absurd h (by omega)) | refine qM (fun h => ?_) fun h => ?_ | refine oM (by (first | omega | (simp only [lenS, InI, nmin, EK.sz]; omega) | (simp only [lenS, InI, nmin, EK.sz] at *; omega))) ?_ | refine oM ?_ ?_ | refine bM ?_ ?_ | refine draw_of Tryd.mixed Tryd.tyOk 60 (by kernel_rfl) ?_))
    all_goals
      first
      | (exfalso; omega)
      | ((conv => whnf)
         exact ⟨[], [(3, tabO x)], 4, .b true, ⟨by rfl, trivial, by simp [eqFr, eqHp, eqV, eqA, eqC, eqO, eqCs, eqAs, look_cons, look, rn, EK.cast, EK.sz, eqCaps]⟩, by simp [eqV, eqA, eqC], rfl, rfl⟩)
  · have := bgn_no hF hf hus hV hW h1
    omega

/-- The law: it costs the same for each word twice, has one way for each, and does not go round; errors too. -/
theorem determineCosts_c (F : TF) (l : List Int) (cl : Nat) (hl : F.fin.length ≤ 9223372036854775807) (x : Obj) (hx : TabX x) : Ct Tryd.prog 4 [fV F, .c (.sl 2 1 0 l.length cl)] [] (hpLw F l x) 4 (LawPost x) := by
  by_cases h : fstE F = 0
  · cases hf : fineB F with
    | false => exact costs_st F l cl hl x hx h hf
    | true =>
      have hF := fstE_ok h
      have hw := WOk.of hF
      have hd : detE F = 0 := by unfold detE; rw [if_neg (fun c => c h), if_pos hf]
      have hdet := determine_c F hl x hx
      obtain ⟨U, hU⟩ := IsUs.some F
      obtain ⟨hUw, hUs, _⟩ := hU.ok hw hF.start
      have hcap := fun V (hV : IsUs F V) => hU.uniq hw.toFRng hF.start hV
      have hbg := fun V (hV : IsUs F V) => hU.bgn hw.toFRng hF.start hV
      by_cases hb : bgnF U 201 200 [⟨U.start, 0⟩] ≤ 200
      · obtain ⟨st, hst⟩ := MDone.some hUw.st.1 hUw.w (fun a ha => (hUw.arc a ha).2.2) hUs hb
        have hD : DetH F U st := ⟨hF, hf, hU, hb, hst⟩
        have hun : ∀ V st', IsUs F V → MDone V st' → st' = st ∧ finD V = finD U := fun V st' hV hm => by
          obtain ⟨e1, e2, e3, e4⟩ := hcap V hV
          exact ⟨(hm.cap e1.symm e4.symm e2.symm).uniq hst, finD_cap e3.symm⟩
        cases hg : greatB st.2 (st.1.map (finD U)) with
        | true =>
          refine costs_many F l cl x hx h hf (hdet.to ?_) fun V hV _ => hD.great hg
          rintro v s (⟨h1, _⟩ | ⟨_, V, hV, ⟨_, h1, h2⟩ | ⟨_, st', hm, h1, _⟩⟩)
          · exact absurd hd h1
          · exact ⟨h1, h2⟩
          · obtain ⟨rfl, e⟩ := hun V st' hV hm
            rw [e, hg] at h1
            cases h1
        | false =>
          refine costs_ok F l cl hl x hx h hf U st hD hg (hdet.to ?_)
          rintro v s (⟨h1, _⟩ | ⟨_, V, hV, ⟨h1 | ⟨_, st', hm, h1⟩, _⟩ | ⟨_, st', hm, _, sp, sq, h1, h2⟩⟩)
          · exact absurd hd h1
          · have := hbg V hV; omega
          · obtain ⟨rfl, e⟩ := hun V st' hV hm
            rw [e, hg] at h1
            cases h1
          · obtain ⟨rfl, e⟩ := hun V st' hV hm
            rw [e] at h1 h2
            exact ⟨sp, sq, h1, h2⟩
      · refine costs_many F l cl x hx h hf (hdet.to ?_) fun V hV h1 => by have := hbg V hV; omega
        rintro v s (⟨h1, _⟩ | ⟨_, V, hV, ⟨_, h1, h2⟩ | ⟨h1, _⟩⟩)
        · exact absurd hd h1
        · exact ⟨h1, h2⟩
        · have := hbg V hV; omega
  · exact costs_no F l cl hl x hx h
end Go.Fw
