/- Walks of the functions: what each computes. -/
import Derived.Test.YtlaenllbacalpaaDoorT14
import Derived.Test.YtlaenllbacalpaaDoorT10

set_option linter.unusedSimpArgs false
set_option linter.unusedVariables false

namespace Go.Fw
open Go Go.Proofs

theorem numberD_c (F : TF) (hF : WOk F) (hst1 : F.st ≤ 1000) (x : Obj) (hx : TabX x) (L : List (List Duo)) (es : List (ByteArray × Int × Nat)) (clk : Nat) (rows : List Sli) (m : List (Addr × List Duo × Nat)) (spr spf nr cr : Nat) (s : List Duo) (ya : Option Addr) (yc : Nat) (B : Int) (hB : 0 ≤ B ∧ B ≤ 1000000000000) (hs : SOk F B s) (hnum : NumD es L) (htab : TabD m rows L) (hy : Hd m ⟨ya, s.length, yc⟩) (hr : rowA m ya = s) (hL : L.length ≤ 100000) :
    Ct Tryd.prog 65 [.c (.ptr 2 0), .c (.h ⟨ya, s.length, yc⟩)] [] ((0, .arr false 3 .int F.fin 0) :: hpDo F L es clk rows m spr spf nr cr 5 7 8 x) 10
    (fun v t => ∃ es' clk' rows' spr' spf', NumD es' (numL L s) ∧ TabD m rows' (numL L s) ∧ v = .i (((numL L s).idxOf s : Nat) : Int) ∧ t = ⟨[], hpDo F (numL L s) es' clk' rows' m spr' spf' nr cr 10 11 8 x, 12⟩) := by
  unfold numL
  by_cases h : s ∈ L
  · rw [if_pos h]
    exact numberD_in F hF hst1 x hx L es clk rows m spr spf nr cr s ya yc B hB hs hnum htab hr h
  · rw [if_neg h]
    exact numberD_new F hF hst1 x hx L es clk rows m spr spf nr cr s ya yc B hB hs hnum htab hy hr hL h

abbrev zero25 : List SC := [.i 0, .i 0, .v (.slice none 0 0), .v (.slice none 0 0)]

/-- How the determiner lies in Made. -/
abbrev dM (U : TF) (il nl cl : Nat) (ost : Int) (jf nf cf ir nr cr : Nat) : List SC := [.i U.st, .i U.start, .sl 6 1 0 U.fin.length U.capF, .sl 7 5 0 U.arcs.length U.capA, .mp 8, .sl il 1 0 nl cl, .i ost, .i 0, .sl jf 1 0 nf cf, .sl ir 5 0 nr cr]
abbrev hpM (U : TF) (spU sqU : Nat) (L : List (List Duo)) (raw : List Arc) (es : List (ByteArray × Int × Nat)) (clk : Nat) (rows : List Sli) (m : List (Addr × List Duo × Nat)) (spr spf sra : Nat) (x : Obj) : List (Nat × SO) := [(2, tabO x), (3, .box 25 zero25), (4, .box 79 (dM U 9 rows.length (rows.length + spr) 0 11 (L.map (finD U)).length ((L.map (finD U)).length + spf) 12 raw.length (raw.length + sra))), (6, .arr true 3 .int U.fin spU), (7, .arr true 50 .arc U.arcs sqU), (8, .map .str .int es clk), (9, .arr true 82 .sli rows spr), (10, .pool 80 .duo m), (11, .arr true 3 .int (L.map (finD U)) spf), (12, .arr true 50 .arc raw sra)]

theorem fr_kT {F : TF} (hF : FRng F) (hs : 0 ≤ F.start ∧ F.start < F.st) (p : Nat → Bool) (c1 c2 : Nat) : FRng ⟨(kT F p).st, (kT F p).start, (kT F p).fin, (kT F p).arcs, c1, c2⟩ ∧ (0 ≤ (kT F p).start ∧ (kT F p).start < (kT F p).st) ∧ (kT F p).st ≤ F.st := by
  unfold kT
  have hst := hF.st
  split
  · rename_i h
    have h1 := rkB_le p F.st.toNat
    have hlt := rkB_lt (p := p) (show F.start.toNat < F.st.toNat by omega) h
    have hkl := kfin_len p F.fin F.st.toNat
    have hal := hF.arcl
    have hkr := karc_len p F.arcs F.arcs.length
    refine ⟨⟨⟨by simp only; omega, by simp only; omega⟩, by simp only; omega, by simp only; omega, fun a ha => ?_⟩, ⟨by simp only; omega, by simp only; omega⟩, by simp only; omega⟩
    simp only at ha
    obtain ⟨b, hb, q1, q2, rfl⟩ := mem_karcs.1 ha
    have hr := hF.arc b hb
    have l1 := rkB_lt (p := p) (show b.f.toNat < F.st.toNat by omega) q1
    have l2 := rkB_lt (p := p) (show b.t.toNat < F.st.toNat by omega) q2
    simp only [kArc]
    omega
  · exact ⟨⟨⟨by simp, by simp⟩, by simp, by simp, by simp⟩, ⟨by simp, by simp⟩, by simp only; omega⟩
theorem wk_kT {F : TF} (hF : WOk F) (hs : 0 ≤ F.start ∧ F.start < F.st) (p : Nat → Bool) (c1 c2 : Nat) : WOk ⟨(kT F p).st, (kT F p).start, (kT F p).fin, (kT F p).arcs, c1, c2⟩ := by
  refine ⟨(fr_kT hF.toFRng hs p c1 c2).1, ?_, ?_⟩
  · simp only
    unfold kT
    split
    · intro a ha
      obtain ⟨b, hb, q1, q2, rfl⟩ := mem_karcs.1 ha
      exact hF.w b hb
    · simp
  · simp only
    unfold kT
    split
    · intro n hn
      obtain ⟨j, hj, rfl⟩ := kfin_mem F.fin hn
      exact hF.fin _ (getD_mem F.fin j 0 (by have := hF.finl; omega))
    · simp

/-- What is useful of one. -/
def IsUs (F U : TF) : Prop := ∃ p, UsOk F p ∧ U.st = (kT F p).st ∧ U.start = (kT F p).start ∧ U.fin = (kT F p).fin ∧ U.arcs = (kT F p).arcs
theorem IsUs.ok {F U : TF} (h : IsUs F U) (hF : WOk F) (hs : 0 ≤ F.start ∧ F.start < F.st) : WOk U ∧ (0 ≤ U.start ∧ U.start < U.st) ∧ U.st ≤ F.st := by
  obtain ⟨p, hp, h1, h2, h3, h4⟩ := h
  obtain ⟨a, b, c, d, e, f⟩ := U
  simp only at h1 h2 h3 h4
  subst h1 h2 h3 h4
  exact ⟨wk_kT hF hs p e f, (fr_kT hF.toFRng hs p e f).2⟩

theorem slDen (β : Env) (id sz n c : Nat) : SC.den β (.sl id sz 0 n c) = .slice (β id) n c := by
  have hid : ∀ o : Option Addr, o.map (fun x => x.add (0 * sz)) = o := fun o => by cases o <;> simp [Addr.add]
  simp only [SC.den, hid]

/-- What Made answers. -/
def MadePost (F : TF) (x : Obj) (v : SV) (s : S) : Prop := ∃ U, IsUs F U ∧
  ((200 < bgnF U 201 200 [⟨U.start, 0⟩] ∧ v = .tup [.agg zero25, .c (.b false)] ∧ s = ⟨[], [(2, tabO x)], 3⟩) ∨
   (bgnF U 201 200 [⟨U.start, 0⟩] ≤ 200 ∧ ∃ st : DS, MDone U st ∧ ∃ sp sq, v = .tup [.agg [.i (st.1.length : Nat), .i 0, .sl 3 1 0 (st.1.map (finD U)).length ((st.1.map (finD U)).length + sp), .sl 4 5 0 st.2.length (st.2.length + sq)], .c (.b true)] ∧
     s = ⟨[], [(2, tabO x), (3, .arr true 3 .int (st.1.map (finD U)) sp), (4, .arr true 50 .arc st.2 sq)], 5⟩))

set_option maxHeartbeats 16000000 in
set_option maxRecDepth 20000 in
theorem made_c (F : TF) (hF : WOk F) (hs : 0 ≤ F.start ∧ F.start < F.st) (hst1 : F.st ≤ 1000) (x : Obj) (hx : TabX x) : Ct Tryd.prog 37 [fV F] [] (hpF F ++ [(2, tabO x)]) 3 (MadePost F x) := by
  refine ctC Tryd.tyOk Tryd.func37 rfl (by simp [SV.lt, SA.lt, SC.lt, fV]) (by simp) (fr := [(0, fV F)]) rfl ?_
  refine SemC.cut Tryd.tyOk 10 [] (fun z : TF × Nat × Nat => ⟨[(2, .c (.ptr 3 0)), (4, .c (.ptr 4 0)), (5, .c (.sl 5 2 0 1 1))], (5, .arr true 80 .duo [⟨z.1.start, 0⟩] 0) :: hpM z.1 z.2.1 z.2.2 [] [] [] 0 [] [] 0 0 0 x, 13⟩)
    (fun z => IsUs F z.1 ∧ z.1.capF = z.1.fin.length + z.2.1 ∧ z.1.capA = z.1.arcs.length + z.2.2) 4 _ _ ?_ ?_
  · repeat' (first | exact rfl | ((conv => whnf); first | ((first | refine qA (fun h => ?_) fun h => ?_ | refine qN (fun h => ?_) fun h => ?_ | refine qB (fun h => ?_) fun h => ?_ | refine qC (fun h => ?_) fun h => ?_) <;> try exact absurd h (by omega)) | refine qM (fun h => ?_) fun h => ?_ | refine oM (by (first | omega | (simp only [lenS, InI, nmin, EK.sz]; omega) | (simp only [lenS, InI, nmin, EK.sz] at *; omega))) ?_ | refine oM ?_ ?_ | refine bM ?_ ?_ | refine draw_of Tryd.mixed Tryd.tyOk 60 (by kernel_rfl) ?_))
    (conv => whnf)
    refine callF (useful_c F hF.toFRng hs) [0, 1] Tryd.call63 rfl (by simp [eqLs, eqL, eqO, eqC, eqCs, rn, renOf, look_cons, look, EK.cast]) (by simp [appN, ptrs, eqVL, eqV, eqA, eqC, eqCs, eqAs, eqCaps, EK.sz, rn, renOf, look_cons, look, arcV, fV]) (by simp [appN, ptrs, SV.lt, SA.lt, SC.lt, arcV, fV, lenN]) ?_
    rintro v s ⟨p, hus, hv⟩
    generalize hkT : kT F p = T at hv
    obtain ⟨tst, tstart, tfin, tarcs, tc1, tc2⟩ := T
    obtain ⟨sp3, sq3, rfl, rfl⟩ := hv
    repeat' (first | exact rfl | ((conv => whnf); first | ((first | refine qA (fun h => ?_) fun h => ?_ | refine qN (fun h => ?_) fun h => ?_ | refine qB (fun h => ?_) fun h => ?_ | refine qC (fun h => ?_) fun h => ?_) <;> try exact absurd h (by omega)) | refine qM (fun h => ?_) fun h => ?_ | refine oM (by (first | omega | (simp only [lenS, InI, nmin, EK.sz]; omega) | (simp only [lenS, InI, nmin, EK.sz] at *; omega))) ?_ | refine oM ?_ ?_ | refine bM ?_ ?_ | refine draw_of Tryd.mixed Tryd.tyOk 60 (by kernel_rfl) ?_))
    (conv => whnf)
    simp only [Nat.reduceAdd, Nat.reduceSub]
    refine ⟨(⟨tst, tstart, tfin, tarcs, tfin.length + sp3, tarcs.length + sq3⟩, sp3, sq3), [(3, some 4), (4, some 8), (5, some 9), (6, some 5), (7, some 6), (8, some 7), (9, none), (10, none), (11, none), (12, none)], ⟨by rfl, ?_, ?_⟩, ⟨p, hus, by rw [hkT], by rw [hkT], by rw [hkT], by rw [hkT]⟩, rfl, rfl⟩
    · simp [eqFr, eqHp, eqV, eqA, eqC, eqO, eqCs, eqAs, look_cons, look, rn, EK.cast, EK.sz, eqCaps]
    · simp [eqFr, eqHp, eqV, eqA, eqC, eqO, eqCs, eqAs, look_cons, look, rn, EK.cast, EK.sz, eqCaps, nilO]
  · rintro ⟨U, spU, sqU⟩ ⟨hus, hcF, hcA⟩
    simp only at hus hcF hcA ⊢
    obtain ⟨hUw, hUs, hUst⟩ := hus.ok hF hs
    have hU0 := hUw.st
    have hUl := hUw.finl
    have hUa := hUw.arcl
    have hU1 : U.st ≤ 1000 := by omega
    have hs0 : SOk U 0 [⟨U.start, 0⟩] := ⟨by simp only [List.length_cons, List.length_nil]; omega, fun e he => by rw [List.mem_singleton] at he; subst he; simp only; omega⟩
    refine SemC.of Tryd.tyOk 10 [] ?_
    repeat' (first | exact rfl | ((conv => whnf); first | ((first | refine qA (fun h => ?_) fun h => ?_ | refine qN (fun h => ?_) fun h => ?_ | refine qB (fun h => ?_) fun h => ?_ | refine qC (fun h => ?_) fun h => ?_) <;> try exact absurd h (by omega)) | refine qM (fun h => ?_) fun h => ?_ | refine oM (by (first | omega | (simp only [lenS, InI, nmin, EK.sz]; omega) | (simp only [lenS, InI, nmin, EK.sz] at *; omega))) ?_ | refine oM ?_ ?_ | refine bM ?_ ?_ | refine draw_of Tryd.mixed Tryd.tyOk 60 (by kernel_rfl) ?_))
    (conv => whnf)
    refine callF (beg_c U hUw 0 0 0 0 0 0 0 0 201 200 [⟨U.start, 0⟩] 0 1 (by omega) (by omega) (by omega) (by omega) hs0) [6, 7, 4, 5, 8, 9, 10, 11, 12] Tryd.call64 rfl (by simp [eqLs, eqL, eqO, eqC, eqCs, rn, renOf, look_cons, look, EK.cast]) (by simp [appN, ptrs, eqVL, eqV, eqA, eqC, eqCs, eqAs, eqCaps, EK.sz, rn, renOf, look_cons, look, arcV, fV]) (by simp [appN, ptrs, SV.lt, SA.lt, SC.lt, arcV, fV, lenN]) ?_
    rintro _ _ ⟨rfl, rfl⟩
    have hble := bgnF_le U 201 200 [⟨U.start, 0⟩]
    have hTT := tree_ok U 201 200 [⟨U.start, 0⟩] (by omega)
    have hT0 := tree_self U 201 [⟨U.start, 0⟩]
    generalize hTe : treeL U 201 [⟨U.start, 0⟩] = T at *
    clear hTe
    generalize hbg : bgnF U 201 200 [⟨U.start, 0⟩] = bg at *
    by_cases hbig : 200 < bg
    · repeat' (first | exact rfl | ((conv => whnf); first | ((first | refine qA (fun h => ?_) fun h => ?_ | refine qN (fun h => ?_) fun h => ?_ | refine qB (fun h => ?_) fun h => ?_ | refine qC (fun h => ?_) fun h => ?_) <;> try exact absurd h (by omega)) | refine qM (fun h => ?_) fun h => ?_ | refine oM (by (first | omega | (simp only [lenS, InI, nmin, EK.sz]; omega) | (simp only [lenS, InI, nmin, EK.sz] at *; omega))) ?_ | refine oM ?_ ?_ | refine bM ?_ ?_ | refine draw_of Tryd.mixed Tryd.tyOk 60 (by kernel_rfl) ?_ | intro _))
      · (conv => whnf)
        exact ⟨[], [(2, tabO x)], 3, .tup [.agg zero25, .c (.b false)], ⟨by rfl, trivial, by simp [eqFr, eqHp, eqV, eqA, eqC, eqO, eqCs, eqAs, look_cons, look, rn, EK.cast, EK.sz, eqCaps]⟩, by simp [eqV, eqA, eqAs, eqC, eqCs], U, hus, .inl ⟨by omega, rfl, rfl⟩⟩
    · obtain ⟨hTl, hTc⟩ := hTT (by omega)
      have hT1 : T.length ≤ 200 := by omega
      simp only [Nat.reduceAdd, Nat.reduceSub]
      refine condP_dec (fun hc => absurd hc (by omega)) (fun _ => ?_)
      repeat' (first | exact rfl | ((conv => whnf); first | ((first | refine qA (fun h => ?_) fun h => ?_ | refine qN (fun h => ?_) fun h => ?_ | refine qB (fun h => ?_) fun h => ?_ | refine qC (fun h => ?_) fun h => ?_) <;> try exact absurd h (by omega)) | refine qM (fun h => ?_) fun h => ?_ | refine oM (by (first | omega | (simp only [lenS, InI, nmin, EK.sz]; omega) | (simp only [lenS, InI, nmin, EK.sz] at *; omega))) ?_ | refine oM ?_ ?_ | refine bM ?_ ?_ | refine draw_of Tryd.mixed Tryd.tyOk 60 (by kernel_rfl) ?_ | intro _))
      (conv => whnf)
      refine callFrz 5 10 1 1 (fun y => [.c (.ptr 4 0), .c (.h y)]) Tryd.call65 (fun β y hy => by simp only [appN, ptrs, List.map_cons, List.map_nil, SV.den, SA.den, hy, slDen]) ?_
      (conv => whnf)
      refine Ob.mk ⟨rfl, Nat.le_refl _⟩ ?_
      intro m1 y hfz
      obtain ⟨q1, q2, q3, q4⟩ := frz_hd (s := [(⟨U.start, 0⟩ : Duo)]) hfz (Nat.le_refl _) (by simp)
      obtain ⟨ya, yn, yc⟩ := y
      simp only at q2 q3 q4
      subst q3 q4
      have hnum0 : NumD [] [] := ⟨rfl, fun s _ => by rw [if_neg (by simp)]; rfl⟩
      (conv => whnf)
      refine callF (numberD_c U hUw hU1 x hx [] [] 0 [] m1 0 0 0 0 [⟨U.start, 0⟩] ya 1 0 (by omega) hs0 hnum0 ⟨rfl, fun j h => absurd h (Nat.not_lt_zero _), fun j h => absurd h (Nat.not_lt_zero _)⟩ q1 q2 (by simp)) [6, 7, 4, 3, 8, 9, 10, 11, 12, 2] Tryd.call65 rfl (by simp [eqLs, eqL, eqO, eqC, eqCs, rn, renOf, look_cons, look, EK.cast]) (by simp [appN, ptrs, eqVL, eqV, eqA, eqC, eqCs, eqAs, eqCaps, EK.sz, rn, renOf, look_cons, look, arcV, fV]) (by simp [appN, ptrs, SV.lt, SA.lt, SC.lt, arcV, fV, lenN]) ?_
      rintro _ _ ⟨es, clk, rows, spr, spf, hnum, htab, rfl, rfl⟩
      have hL0 : numL [] [(⟨U.start, 0⟩ : Duo)] = (rowsD U 0).1 := rfl
      rw [hL0] at hnum htab ⊢
      simp only [Nat.reduceAdd, Nat.reduceSub]
      repeat' (first | exact rfl | ((conv => whnf); first | ((first | refine qA (fun h => ?_) fun h => ?_ | refine qN (fun h => ?_) fun h => ?_ | refine qB (fun h => ?_) fun h => ?_ | refine qC (fun h => ?_) fun h => ?_) <;> try exact absurd h (by omega)) | refine qM (fun h => ?_) fun h => ?_ | refine oM (by (first | omega | (simp only [lenS, InI, nmin, EK.sz]; omega) | (simp only [lenS, InI, nmin, EK.sz] at *; omega))) ?_ | refine oM ?_ ?_ | refine bM ?_ ?_ | refine draw_of Tryd.mixed Tryd.tyOk 60 (by kernel_rfl) ?_ | intro _))
      (conv => whnf)
      refine loopI (fun z : Nat × List (ByteArray × Int × Nat) × Nat × List Sli × List (Addr × List Duo × Nat) × Nat × Nat × Nat => ⟨[(2, .c (.ptr 3 0)), (4, .c (.ptr 4 0)), (6, .i z.1)], hpM U spU sqU (rowsD U z.1).1 (rowsD U z.1).2 z.2.1 z.2.2.1 z.2.2.2.1 z.2.2.2.2.1 z.2.2.2.2.2.1 z.2.2.2.2.2.2.1 z.2.2.2.2.2.2.2 x, 13⟩)
        (fun z => MInv U T z.1 (rowsD U z.1) ∧ NumD z.2.1 (rowsD U z.1).1 ∧ TabD z.2.2.2.2.1 z.2.2.2.1 (rowsD U z.1).1 ∧ (rowsD U z.1).2.length ≤ 9 * z.1) (fun z => 200 - z.1) (0, es, clk, rows, m1, spr, spf, 0) [(9, some 13), (11, some 14)] ⟨by rfl, ?_, ?_⟩ ⟨MInv.start hUs hT0, hnum, htab, by simp [rowsD]⟩ ?_
      · simp [eqFr, eqHp, eqV, eqA, eqC, eqO, eqCs, eqAs, look_cons, look, rn, EK.cast, EK.sz, eqCaps]
      · simp [eqFr, eqHp, eqV, eqA, eqC, eqO, eqCs, eqAs, look_cons, look, rn, EK.cast, EK.sz, eqCaps, rowsD]
      · clear hnum htab hfz q1 q2
        rintro ⟨i, es, clk, rows, m, spr, spf, sra⟩ ⟨hM, hnum, htab, hra⟩
        simp only at hM hnum htab hra ⊢
        have hLT := nd_le hM.nd hM.sub
        have htl := htab.len
        have hil := hM.len.1
        generalize hst : rowsD U i = st at *
        (conv => whnf)
        refine condP_dec (fun hi => ?_) (fun hi => ?_)
        · have hi2 : i < st.1.length := by omega
          have hst1l : st.1.length ≤ 200 := by omega
          repeat' (first | exact rfl | ((conv => whnf); first | ((first | refine qA (fun h => ?_) fun h => ?_ | refine qN (fun h => ?_) fun h => ?_ | refine qB (fun h => ?_) fun h => ?_ | refine qC (fun h => ?_) fun h => ?_) <;> try exact absurd h (by omega)) | refine qM (fun h => ?_) fun h => ?_ | refine oM (by (first | omega | (simp only [lenS, InI, nmin, EK.sz]; omega) | (simp only [lenS, InI, nmin, EK.sz] at *; omega))) ?_ | refine oM ?_ ?_ | refine bM ?_ ?_ | refine draw_of Tryd.mixed Tryd.tyOk 60 (by kernel_rfl) ?_))
          (conv => whnf)
          refine loopI (fun z : Nat × List (ByteArray × Int × Nat) × Nat × List Sli × List (Addr × List Duo × Nat) × Nat × Nat × Nat => ⟨[(2, .c (.ptr 3 0)), (4, .c (.ptr 4 0)), (6, .i i), (7, .i ((z.1 : Int) + 1))], hpM U spU sqU (rowP U i st z.1).1 (rowP U i st z.1).2 z.2.1 z.2.2.1 z.2.2.2.1 z.2.2.2.2.1 z.2.2.2.2.2.1 z.2.2.2.2.2.2.1 z.2.2.2.2.2.2.2 x, 13⟩)
            (fun z => z.1 ≤ 9 ∧ MInv U T i (rowP U i st z.1) ∧ i < (rowP U i st z.1).1.length ∧ NumD z.2.1 (rowP U i st z.1).1 ∧ TabD z.2.2.2.2.1 z.2.2.2.1 (rowP U i st z.1).1 ∧ (rowP U i st z.1).2.length ≤ 9 * i + z.1) (fun z => 9 - z.1) (0, es, clk, rows, m, spr, spf, sra) [] ⟨by rfl, ?_, ?_⟩ ⟨Nat.zero_le _, hM, hi2, hnum, htab, hra⟩ ?_
          · simp [eqFr, eqHp, eqV, eqA, eqC, eqO, eqCs, eqAs, look_cons, look, rn, EK.cast, EK.sz, eqCaps]
          · simp [eqFr, eqHp, eqV, eqA, eqC, eqO, eqCs, eqAs, look_cons, look, rn, EK.cast, EK.sz, eqCaps, rowP]
          · clear hnum htab hra hLT htl hi
            rintro ⟨k, es, clk, rows, m, spr, spf, sra⟩ ⟨hk, hM2, hi3, hnum, htab, hra⟩
            simp only at hk hM2 hi3 hnum htab hra ⊢
            have hLT := nd_le hM2.nd hM2.sub
            have htl := htab.len
            have hks := rowP_succ U i st k
            have hstp := fun hc => hM2.step hi3 hU0.1 hUw.w (fun a ha => (hUw.arc a ha).2.2) hTc (c := k) hc
            have h9 : k = 9 → rowP U i st k = rowsD U (i + 1) := fun e => by rw [e]; show _ = rowP U i (rowsD U i) 9; rw [hst]
            generalize hst2 : rowP U i st k = st2 at *
            (conv => whnf)
            refine condP_dec (fun hk2 => ?_) (fun hk2 => ?_)
            · have e0 : 0 + (i : Int).toNat = i := by omega
              have hyh := htab.hd i hi3
              have hyr := htab.row i hi3
              have hok := hM2.ok i hi3
              have hyn : (rows.getD i EK.sli.dflt).n = (st2.1.getD i []).length := by rw [hyh.len, hyr]
              obtain ⟨hM3, hl3, hr3⟩ := hstp (by omega)
              rw [← hks] at hM3 hl3 hr3
              repeat' (first | exact rfl | ((conv => whnf); first | ((first | refine qA (fun h => ?_) fun h => ?_ | refine qN (fun h => ?_) fun h => ?_ | refine qB (fun h => ?_) fun h => ?_ | refine qC (fun h => ?_) fun h => ?_) <;> try exact absurd h (by omega)) | refine qM (fun h => ?_) fun h => ?_ | refine oM (by (first | omega | (simp only [lenS, InI, nmin, EK.sz]; omega) | (simp only [lenS, InI, nmin, EK.sz] at *; omega))) ?_ | refine oM ?_ ?_ | refine bM ?_ ?_ | refine draw_of Tryd.mixed Tryd.tyOk 60 (by kernel_rfl) ?_))
              (conv => whnf)
              refine callRow 10 [false, true, false] Tryd.call66 (by simp [appN, ptrs, SV.lt, SA.lt, SC.lt, fV]) ?_
              (conv => whnf)
              rw [e0]
              have hsbO := sbS_ok (c := (k : Int) + 1) hok (by omega) hU0.1 hUw.w
              have hsbN := fun h => sbS_ne (c := (k : Int) + 1) hok (by omega) hUw.w (fun a ha => (hUw.arc a ha).2.2) h
              have hstD : stD U i st2 ((k : Int) + 1) = if sbB U (st2.1.getD i []) ((k : Int) + 1) = -1 then st2 else (numL st2.1 (sbS U (st2.1.getD i []) ((k : Int) + 1)), st2.2 ++ [⟨(i : Nat), (k : Int) + 1, (k : Int) + 1, ((numL st2.1 (sbS U (st2.1.getD i []) ((k : Int) + 1))).idxOf (sbS U (st2.1.getD i []) ((k : Int) + 1)) : Nat), sbB U (st2.1.getD i []) ((k : Int) + 1)⟩]) := rfl
              rw [hstD] at hks
              clear hstD
              generalize rows.getD i EK.sli.dflt = yy at *
              generalize st2.1.getD i [] = s at *
              obtain ⟨ya2, yn2, yc2⟩ := yy
              simp only at hyn hyr
              subst hyn
              refine callF (on2_c U hUw s ((i : Int) * 1000000000) (by omega) hok yc2 ((k : Int) + 1) rows.length (rows.length + spr) (st2.1.map (finD U)).length ((st2.1.map (finD U)).length + spf) st2.2.length (st2.2.length + sra) 0 0) [6, 7, 4, 13, 8, 9, 10, 11, 12] Tryd.call66 rfl (by simp [eqLs, eqL, eqO, eqC, eqCs, rn, renOf, look_cons, look, EK.cast, rowsO, appN, lenN, hyr]) (by simp [appN, ptrs, eqVL, eqV, eqA, eqC, eqCs, eqAs, eqCaps, EK.sz, rn, renOf, look_cons, look, arcV, fV, rowsO, appN, lenN, hyr]) (by simp [appN, ptrs, SV.lt, SA.lt, SC.lt, arcV, fV, lenN]) ?_
              rintro _ _ ⟨sp, rfl, rfl⟩
              simp only [lenN, Nat.reduceAdd, Nat.reduceSub]
              generalize hsb : sbS U s ((k : Int) + 1) = sb at *
              generalize hbb : sbB U s ((k : Int) + 1) = bb at *
              repeat' (first | exact rfl | ((conv => whnf); first | ((first | refine qA (fun h => ?_) fun h => ?_ | refine qN (fun h => ?_) fun h => ?_ | refine qB (fun h => ?_) fun h => ?_ | refine qC (fun h => ?_) fun h => ?_) <;> try exact absurd h (by omega)) | refine qM (fun h => ?_) fun h => ?_ | refine oM (by (first | omega | (simp only [lenS, InI, nmin, EK.sz]; omega) | (simp only [lenS, InI, nmin, EK.sz] at *; omega))) ?_ | refine oM ?_ ?_ | refine bM ?_ ?_ | refine draw_of Tryd.mixed Tryd.tyOk 60 (by kernel_rfl) ?_ | intro _))
              · have hsn := hsbN h
                rw [if_neg h] at hks
                (conv => whnf)
                simp only [Nat.reduceAdd, Nat.reduceSub]
                refine callFrz 14 10 sb.length (sb.length + sp) (fun y => [.c (.ptr 4 0), .c (.h y)]) Tryd.call65 (fun β y hy => by simp only [appN, ptrs, List.map_cons, List.map_nil, SV.den, SA.den, hy, slDen]) ?_
                (conv => whnf)
                refine Ob.mk ⟨rfl, Nat.le_refl _⟩ ?_
                intro m1 y hfz
                obtain ⟨q1, q2, q3, q4⟩ := frz_hd hfz (Nat.le_refl _) hsn
                have htab1 := htab.frz hfz
                obtain ⟨ya3, yn3, yc3⟩ := y
                simp only at q2 q3 q4
                subst q3 q4
                (conv => whnf)
                refine callF (numberD_c U hUw hU1 x hx st2.1 es clk rows m1 spr spf st2.2.length (st2.2.length + sra) sb ya3 (sb.length + sp) ((i : Int) * 1000000000 + 1000000000) (by omega) hsbO.1 hnum htab1 q1 q2 (by omega)) [6, 7, 4, 3, 8, 9, 10, 11, 12, 2] Tryd.call65 rfl (by simp [eqLs, eqL, eqO, eqC, eqCs, rn, renOf, look_cons, look, EK.cast]) (by simp [appN, ptrs, eqVL, eqV, eqA, eqC, eqCs, eqAs, eqCaps, EK.sz, rn, renOf, look_cons, look, arcV, fV]) (by simp [appN, ptrs, SV.lt, SA.lt, SC.lt, arcV, fV, lenN]) ?_
                rintro _ _ ⟨es2, clk2, rows2, spr2, spf2, hnum2, htab2, rfl, rfl⟩
                repeat' (first | exact rfl | ((conv => whnf); first | ((first | refine qA (fun h => ?_) fun h => ?_ | refine qN (fun h => ?_) fun h => ?_ | refine qB (fun h => ?_) fun h => ?_ | refine qC (fun h => ?_) fun h => ?_) <;> try exact absurd h (by omega)) | refine qM (fun h => ?_) fun h => ?_ | refine oM (by (first | omega | (simp only [lenS, InI, nmin, EK.sz]; omega) | (simp only [lenS, InI, nmin, EK.sz] at *; omega))) ?_ | refine oM ?_ ?_ | refine bM ?_ ?_ | refine draw_of Tryd.mixed Tryd.tyOk 60 (by kernel_rfl) ?_ | intro _))
                (conv => whnf)
                simp only [Nat.reduceAdd, Nat.reduceSub]
                rename_i sra2
                have hap : lOp.appL (sub st2.2 0 st2.2.length) (sub [(⟨(i : Nat), (k : Int) + 1, (k : Int) + 1, ((numL st2.1 sb).idxOf sb : Nat), bb⟩ : Arc)] 0 1) = st2.2 ++ [⟨(i : Nat), (k : Int) + 1, (k : Int) + 1, ((numL st2.1 sb).idxOf sb : Nat), bb⟩] := app_one _ _ _ rfl
                have hnl := numL_len st2.1 sb
                refine ⟨(k + 1, es2, clk2, rows2, m1, spr2, spf2, sra2), [(9, some 15), (11, some 16), (12, some 18)], ⟨by rfl, ?_, ?_⟩, ⟨by simp only; omega, hM3, by simp only [hks]; omega, by simp only [hks]; exact hnum2, by simp only [hks]; exact htab2, by simp only [hks, List.length_append, List.length_cons, List.length_nil]; omega⟩, by simp only; omega⟩
                · simp [eqFr, eqHp, eqV, eqA, eqC, eqO, eqCs, eqAs, look_cons, look, rn, EK.cast, EK.sz, eqCaps, hks]
                · simp [eqFr, eqHp, eqV, eqA, eqC, eqO, eqCs, eqAs, look_cons, look, rn, EK.cast, EK.sz, eqCaps, hks, hap]
              · rw [if_pos h] at hks
                (conv => whnf)
                refine ⟨(k + 1, es, clk, rows, m, spr, spf, sra), [], ⟨by rfl, ?_, ?_⟩, ⟨by simp only; omega, hM3, by simp only [hks]; exact hi3, by simp only [hks]; exact hnum, by simp only [hks]; exact htab, by simp only [hks]; omega⟩, by simp only; omega⟩
                · simp [eqFr, eqHp, eqV, eqA, eqC, eqO, eqCs, eqAs, look_cons, look, rn, EK.cast, EK.sz, eqCaps, hks]
                · simp [eqFr, eqHp, eqV, eqA, eqC, eqO, eqCs, eqAs, look_cons, look, rn, EK.cast, EK.sz, eqCaps, hks, appN]
            · have e : k = 9 := by omega
              subst e
              have h10 := h9 rfl
              rw [h10] at hM2 hi3 hnum htab hra
              rw [h10]
              repeat' (first | exact rfl | ((conv => whnf); first | ((first | refine qA (fun h => ?_) fun h => ?_ | refine qN (fun h => ?_) fun h => ?_ | refine qB (fun h => ?_) fun h => ?_ | refine qC (fun h => ?_) fun h => ?_) <;> try exact absurd h (by omega)) | refine qM (fun h => ?_) fun h => ?_ | refine oM (by (first | omega | (simp only [lenS, InI, nmin, EK.sz]; omega) | (simp only [lenS, InI, nmin, EK.sz] at *; omega))) ?_ | refine oM ?_ ?_ | refine bM ?_ ?_ | refine draw_of Tryd.mixed Tryd.tyOk 60 (by kernel_rfl) ?_))
              (conv => whnf)
              refine ⟨(i + 1, es, clk, rows, m, spr, spf, sra), [], ⟨by rfl, ?_, ?_⟩, ⟨⟨hM2.sub, hM2.nd, hM2.ok, hM2.ne, ⟨hi3, hM2.len.2⟩, hM2.raw⟩, hnum, htab, by simp only; omega⟩, by simp only; omega⟩
              · simp [eqFr, eqHp, eqV, eqA, eqC, eqO, eqCs, eqAs, look_cons, look, rn, EK.cast, EK.sz, eqCaps]
              · simp [eqFr, eqHp, eqV, eqA, eqC, eqO, eqCs, eqAs, look_cons, look, rn, EK.cast, EK.sz, eqCaps]
        · have hid : i = st.1.length := by omega
          have hel := hnum.len
          repeat' (first | exact rfl | ((conv => whnf); first | ((first | refine qA (fun h => ?_) fun h => ?_ | refine qN (fun h => ?_) fun h => ?_ | refine qB (fun h => ?_) fun h => ?_ | refine qC (fun h => ?_) fun h => ?_) <;> try exact absurd h (by omega)) | refine qM (fun h => ?_) fun h => ?_ | refine oM (by (first | omega | (simp only [lenS, InI, nmin, EK.sz]; omega) | (simp only [lenS, InI, nmin, EK.sz] at *; omega))) ?_ | refine oM ?_ ?_ | refine bM ?_ ?_ | refine draw_of Tryd.mixed Tryd.tyOk 60 (by kernel_rfl) ?_))
          (conv => whnf)
          exact ⟨[(3, some 11), (4, some 12)], [(2, tabO x), (3, .arr true 3 .int (st.1.map (finD U)) spf), (4, .arr true 50 .arc st.2 sra)], 5, .tup [.agg [.i (st.1.length : Nat), .i 0, .sl 3 1 0 (st.1.map (finD U)).length ((st.1.map (finD U)).length + spf), .sl 4 5 0 st.2.length (st.2.length + sra)], .c (.b true)], ⟨by rfl, trivial, by simp [eqFr, eqHp, eqV, eqA, eqC, eqO, eqCs, eqAs, look_cons, look, rn, EK.cast, EK.sz, eqCaps]⟩, by simp [eqV, eqA, eqAs, eqC, eqCs, rn, look, look_cons, hel], U, hus, .inr ⟨by omega, st, ⟨i, hst, hid⟩, spf, sra, rfl, rfl⟩⟩
end Go.Fw

namespace Go.Fw
open Go Go.Proofs

theorem sgl_eq {l : List Arc} (h : Srt l) : sglB l = (!dblB l && !(l.any fun a => a.i == 0)) := by
  have e1 : sglB l = true ↔ (dblB l = false ∧ (l.any fun a => a.i == 0) = false) := by
    unfold sglB
    rw [Bool.not_eq_true', List.any_eq_false]
    constructor
    · intro hs
      have hs1 : ∀ k, k < l.length → (l.getD k aD).i ≠ 0 ∧ (0 < k → ¬((l.getD (k - 1) aD).f = (l.getD k aD).f ∧ (l.getD (k - 1) aD).i = (l.getD k aD).i)) := by
        intro k hk
        have := hs k (List.mem_range.2 hk)
        simp only [sg1, Bool.or_eq_true, Bool.and_eq_true, beq_iff_eq, decide_eq_true_eq] at this
        exact ⟨fun c => this (.inl c), fun c d => this (.inr ⟨c, d⟩)⟩
      refine ⟨?_, any_no (d := aD) fun j hj => beq_eq_false_iff_ne.2 (hs1 j hj).1⟩
      unfold dblB
      refine range_no fun i hi => range_no fun k hk => ?_
      cases hq : sg2 l i k with
      | false => rfl
      | true =>
        simp only [sg2, Bool.and_eq_true, beq_iff_eq] at hq
        have h3 := (hs1 i hi).2 (by omega)
        have h4 : (l.getD (i - 1) aD).f = (l.getD i aD).f ∧ (l.getD (i - 1) aD).i = (l.getD i aD).i := by
          have h5 := aheadB_iff.1 (h.at (show i - 1 < i by omega) hi)
          by_cases e : k = i - 1
          · rw [← e]; exact hq
          · have h6 := aheadB_iff.1 (h.at (show k < i - 1 by omega) (by omega))
            omega
        exact absurd h4 h3
    · rintro ⟨h1, h2⟩ k hk hc
      have hk := List.mem_range.1 hk
      simp only [sg1, Bool.or_eq_true, Bool.and_eq_true, beq_iff_eq, decide_eq_true_eq] at hc
      rcases hc with hc | ⟨h0, hc⟩
      · rw [any_hit (p := fun a => a.i == 0) (d := aD) hk (beq_iff_eq.2 hc)] at h2; cases h2
      · have : dblB l = true := range_any hk (range_any (k := k - 1) (by omega) (by simp only [sg2, hc.1, hc.2, beq_self_eq_true, Bool.and_self]))
        rw [this] at h1; cases h1
  cases hq : sglB l with
  | true => obtain ⟨a, b⟩ := e1.1 hq; rw [a, b]; rfl
  | false =>
    cases h1 : dblB l with
    | true => rfl
    | false =>
      cases h2 : l.any fun a => a.i == 0 with
      | true => rfl
      | false => rw [e1.2 ⟨h1, h2⟩] at hq; cases hq

def fineB (F : TF) : Bool := bothB F && !silB F && !roundB F.arcs F.st.toNat
def greatB (arcs : List Arc) (fin : List Int) : Bool := (arcs.any fun a => decide (a.w > 1000000000)) || fin.any fun x => decide (x > 1000000000)

theorem FRng.of {F : TF} (h : FOk F) : FRng F := by
  have := h.st
  have := h.arcl
  refine ⟨by omega, h.finl, by omega, fun a ha => ?_⟩
  obtain ⟨q1, q2, q3, q4, _⟩ := h.arc a ha
  exact ⟨q1, q2, q3, q4⟩

set_option maxHeartbeats 4000000 in
set_option maxRecDepth 20000 in
theorem great_c (F : TF) (h1 : F.arcs.length ≤ 9223372036854775807) (h2 : F.fin.length ≤ 9223372036854775807) : Ct Tryd.prog 38 [fV F] [] (hpF F) 2 (Is 2 (.b (greatB F.arcs F.fin))) := by
  refine ctW Tryd.tyOk 3 [] Tryd.func38 rfl (by simp [SV.lt, SA.lt, SC.lt, arcV, fV]) (by simp) (fr := [(0, fV F)]) rfl ?_
  repeat' (first | exact rfl | ((conv => whnf); first | ((first | refine qA (fun h => ?_) fun h => ?_ | refine qN (fun h => ?_) fun h => ?_ | refine qB (fun h => ?_) fun h => ?_ | refine qC (fun h => ?_) fun h => ?_) <;> try exact absurd h (by omega)) | refine qM (fun h => ?_) fun h => ?_ | refine oM (by (first | omega | (simp only [lenS, InI, nmin, EK.sz]; omega) | (simp only [lenS, InI, nmin, EK.sz] at *; omega))) ?_ | refine oM ?_ ?_ | refine bM ?_ ?_ | refine draw_of Tryd.mixed Tryd.tyOk 60 (by kernel_rfl) ?_))
  (conv => whnf)
  refine callI (containsFuncA_c F.arcs F.capA (by omega) 67 (fun a => decide (a.w > 1000000000)) great1_c Tryd.call67) [1] Tryd.call60 rfl (by simp [eqLs, eqL, eqO, eqC, eqCs, rn, renOf, look_cons, look, EK.cast]) (by simp [appN, ptrs, eqVL, eqV, eqA, eqC, eqCs, eqAs, eqCaps, EK.sz, rn, renOf, look_cons, look, arcV, fV]) (by simp [appN, ptrs, SV.lt, SA.lt, SC.lt, arcV, fV]) ?_
  unfold greatB
  generalize (F.arcs.any fun a => decide (a.w > 1000000000)) = x
  cases x with
  | true =>
    repeat' (first | exact rfl | ((conv => whnf); first | ((first | refine qA (fun h => ?_) fun h => ?_ | refine qN (fun h => ?_) fun h => ?_ | refine qB (fun h => ?_) fun h => ?_ | refine qC (fun h => ?_) fun h => ?_) <;> try exact absurd h (by omega)) | refine qM (fun h => ?_) fun h => ?_ | refine oM (by (first | omega | (simp only [lenS, InI, nmin, EK.sz]; omega) | (simp only [lenS, InI, nmin, EK.sz] at *; omega))) ?_ | refine oM ?_ ?_ | refine bM ?_ ?_ | refine draw_of Tryd.mixed Tryd.tyOk 60 (by kernel_rfl) ?_))
    (conv => whnf)
    refine Back.is ?_
    simp [eqV, eqA, eqC]
  | false =>
    repeat' (first | exact rfl | ((conv => whnf); first | ((first | refine qA (fun h => ?_) fun h => ?_ | refine qN (fun h => ?_) fun h => ?_ | refine qB (fun h => ?_) fun h => ?_ | refine qC (fun h => ?_) fun h => ?_) <;> try exact absurd h (by omega)) | refine qM (fun h => ?_) fun h => ?_ | refine oM (by (first | omega | (simp only [lenS, InI, nmin, EK.sz]; omega) | (simp only [lenS, InI, nmin, EK.sz] at *; omega))) ?_ | refine oM ?_ ?_ | refine bM ?_ ?_ | refine draw_of Tryd.mixed Tryd.tyOk 60 (by kernel_rfl) ?_))
    (conv => whnf)
    refine callI (containsFunc_c F.fin F.capF (by omega) 68 (fun a => decide (a > 1000000000)) great2_c Tryd.call68) [0] Tryd.call57 rfl (by simp [eqLs, eqL, eqO, eqC, eqCs, rn, renOf, look_cons, look, EK.cast]) (by simp [appN, ptrs, eqVL, eqV, eqA, eqC, eqCs, eqAs, eqCaps, EK.sz, rn, renOf, look_cons, look, arcV, fV]) (by simp [appN, ptrs, SV.lt, SA.lt, SC.lt, arcV, fV]) ?_
    repeat' (first | exact rfl | ((conv => whnf); first | ((first | refine qA (fun h => ?_) fun h => ?_ | refine qN (fun h => ?_) fun h => ?_ | refine qB (fun h => ?_) fun h => ?_ | refine qC (fun h => ?_) fun h => ?_) <;> try exact absurd h (by omega)) | refine qM (fun h => ?_) fun h => ?_ | refine oM (by (first | omega | (simp only [lenS, InI, nmin, EK.sz]; omega) | (simp only [lenS, InI, nmin, EK.sz] at *; omega))) ?_ | refine oM ?_ ?_ | refine bM ?_ ?_ | refine draw_of Tryd.mixed Tryd.tyOk 60 (by kernel_rfl) ?_))
    (conv => whnf)
    refine Back.is ?_
    simp [eqV, eqA, eqC]

set_option maxHeartbeats 4000000 in
set_option maxRecDepth 20000 in
theorem fine_c (F : TF) (hF : FRng F) : Ct Tryd.prog 36 [fV F] [] (hpF F) 2 (Is 2 (.b (fineB F))) := by
  have hal := hF.arcl
  refine ctW Tryd.tyOk 3 [] Tryd.func36 rfl (by simp [SV.lt, SA.lt, SC.lt, arcV, fV]) (by simp) (fr := [(0, fV F)]) rfl ?_
  repeat' (first | exact rfl | ((conv => whnf); first | ((first | refine qA (fun h => ?_) fun h => ?_ | refine qN (fun h => ?_) fun h => ?_ | refine qB (fun h => ?_) fun h => ?_ | refine qC (fun h => ?_) fun h => ?_) <;> try exact absurd h (by omega)) | refine qM (fun h => ?_) fun h => ?_ | refine oM (by (first | omega | (simp only [lenS, InI, nmin, EK.sz]; omega) | (simp only [lenS, InI, nmin, EK.sz] at *; omega))) ?_ | refine oM ?_ ?_ | refine bM ?_ ?_ | refine draw_of Tryd.mixed Tryd.tyOk 60 (by kernel_rfl) ?_))
  (conv => whnf)
  refine callI (both_c F (by omega)) [0, 1] Tryd.call30 rfl (by simp [eqLs, eqL, eqO, eqC, eqCs, rn, renOf, look_cons, look, EK.cast]) (by simp [appN, ptrs, eqVL, eqV, eqA, eqC, eqCs, eqAs, eqCaps, EK.sz, rn, renOf, look_cons, look, arcV, fV]) (by simp [appN, ptrs, SV.lt, SA.lt, SC.lt, arcV, fV]) ?_
  unfold fineB
  generalize bothB F = x
  cases x with
  | false =>
    repeat' (first | exact rfl | ((conv => whnf); first | ((first | refine qA (fun h => ?_) fun h => ?_ | refine qN (fun h => ?_) fun h => ?_ | refine qB (fun h => ?_) fun h => ?_ | refine qC (fun h => ?_) fun h => ?_) <;> try exact absurd h (by omega)) | refine qM (fun h => ?_) fun h => ?_ | refine oM (by (first | omega | (simp only [lenS, InI, nmin, EK.sz]; omega) | (simp only [lenS, InI, nmin, EK.sz] at *; omega))) ?_ | refine oM ?_ ?_ | refine bM ?_ ?_ | refine draw_of Tryd.mixed Tryd.tyOk 60 (by kernel_rfl) ?_))
    (conv => whnf)
    refine Back.is ?_
    simp [eqV, eqA, eqC]
  | true =>
    repeat' (first | exact rfl | ((conv => whnf); first | ((first | refine qA (fun h => ?_) fun h => ?_ | refine qN (fun h => ?_) fun h => ?_ | refine qB (fun h => ?_) fun h => ?_ | refine qC (fun h => ?_) fun h => ?_) <;> try exact absurd h (by omega)) | refine qM (fun h => ?_) fun h => ?_ | refine oM (by (first | omega | (simp only [lenS, InI, nmin, EK.sz]; omega) | (simp only [lenS, InI, nmin, EK.sz] at *; omega))) ?_ | refine oM ?_ ?_ | refine bM ?_ ?_ | refine draw_of Tryd.mixed Tryd.tyOk 60 (by kernel_rfl) ?_))
    (conv => whnf)
    refine callI (containsFuncA_c F.arcs F.capA (by omega) 62 (fun a => a.i == 0) fine1_c Tryd.call62) [1] Tryd.call60 rfl (by simp [eqLs, eqL, eqO, eqC, eqCs, rn, renOf, look_cons, look, EK.cast]) (by simp [appN, ptrs, eqVL, eqV, eqA, eqC, eqCs, eqAs, eqCaps, EK.sz, rn, renOf, look_cons, look, arcV, fV]) (by simp [appN, ptrs, SV.lt, SA.lt, SC.lt, arcV, fV]) ?_
    have e : (F.arcs.any fun a => a.i == 0) = silB F := rfl
    rw [e]
    generalize silB F = y
    cases y with
    | true =>
      repeat' (first | exact rfl | ((conv => whnf); first | ((first | refine qA (fun h => ?_) fun h => ?_ | refine qN (fun h => ?_) fun h => ?_ | refine qB (fun h => ?_) fun h => ?_ | refine qC (fun h => ?_) fun h => ?_) <;> try exact absurd h (by omega)) | refine qM (fun h => ?_) fun h => ?_ | refine oM (by (first | omega | (simp only [lenS, InI, nmin, EK.sz]; omega) | (simp only [lenS, InI, nmin, EK.sz] at *; omega))) ?_ | refine oM ?_ ?_ | refine bM ?_ ?_ | refine draw_of Tryd.mixed Tryd.tyOk 60 (by kernel_rfl) ?_))
      (conv => whnf)
      refine Back.is ?_
      simp [eqV, eqA, eqC]
    | false =>
      repeat' (first | exact rfl | ((conv => whnf); first | ((first | refine qA (fun h => ?_) fun h => ?_ | refine qN (fun h => ?_) fun h => ?_ | refine qB (fun h => ?_) fun h => ?_ | refine qC (fun h => ?_) fun h => ?_) <;> try exact absurd h (by omega)) | refine qM (fun h => ?_) fun h => ?_ | refine oM (by (first | omega | (simp only [lenS, InI, nmin, EK.sz]; omega) | (simp only [lenS, InI, nmin, EK.sz] at *; omega))) ?_ | refine oM ?_ ?_ | refine bM ?_ ?_ | refine draw_of Tryd.mixed Tryd.tyOk 60 (by kernel_rfl) ?_))
      (conv => whnf)
      refine callI (circles_c F hF) [0, 1] Tryd.call32 rfl (by simp [eqLs, eqL, eqO, eqC, eqCs, rn, renOf, look_cons, look, EK.cast]) (by simp [appN, ptrs, eqVL, eqV, eqA, eqC, eqCs, eqAs, eqCaps, EK.sz, rn, renOf, look_cons, look, arcV, fV]) (by simp [appN, ptrs, SV.lt, SA.lt, SC.lt, arcV, fV]) ?_
      repeat' (first | exact rfl | ((conv => whnf); first | ((first | refine qA (fun h => ?_) fun h => ?_ | refine qN (fun h => ?_) fun h => ?_ | refine qB (fun h => ?_) fun h => ?_ | refine qC (fun h => ?_) fun h => ?_) <;> try exact absurd h (by omega)) | refine qM (fun h => ?_) fun h => ?_ | refine oM (by (first | omega | (simp only [lenS, InI, nmin, EK.sz]; omega) | (simp only [lenS, InI, nmin, EK.sz] at *; omega))) ?_ | refine oM ?_ ?_ | refine bM ?_ ?_ | refine draw_of Tryd.mixed Tryd.tyOk 60 (by kernel_rfl) ?_))
      (conv => whnf)
      refine Back.is ?_
      simp [eqV, eqA, eqC]

/-- What Is answers, and Round. -/
def isV (F : TF) : SV := if fstE F = 0 then .tup [.c (.b (bothB F && sglB F.arcs)), .c (.i 0)] else .tup [.c (.b false), .c (.i (fstE F))]
def roundV (F : TF) : SV := if fstE F = 0 then .tup [.c (.b (roundB F.arcs F.st.toNat)), .c (.i 0)] else .tup [.c (.b false), .c (.i (fstE F))]

set_option maxHeartbeats 4000000 in
set_option maxRecDepth 20000 in
theorem is_c (F : TF) (hl : F.fin.length ≤ 9223372036854775807) : Ct Tryd.prog 8 [fV F] [] (hpF F) 2 (Is 2 (isV F)) := by
  by_cases h : fstE F = 0
  · have hF := fstE_ok h
    have hal := hF.arcl
    unfold isV
    rw [if_pos h]
    refine ctW Tryd.tyOk 5 [] Tryd.func8 rfl (by simp [SV.lt, SA.lt, SC.lt, arcV, fV]) (by simp) (fr := [(0, fV F)]) rfl ?_
    repeat' (first | exact rfl | ((conv => whnf); first | ((first | refine qA (fun h => ?_) fun h => ?_ | refine qN (fun h => ?_) fun h => ?_ | refine qB (fun h => ?_) fun h => ?_ | refine qC (fun h => ?_) fun h => ?_) <;> try exact absurd h (by omega)) | refine qM (fun h => ?_) fun h => ?_ | refine oM (by (first | omega | (simp only [lenS, InI, nmin, EK.sz]; omega) | (simp only [lenS, InI, nmin, EK.sz] at *; omega))) ?_ | refine oM ?_ ?_ | refine bM ?_ ?_ | refine draw_of Tryd.mixed Tryd.tyOk 60 (by kernel_rfl) ?_))
    refine callI (check_c F hl) [0, 1] Tryd.call29 rfl (by simp [eqLs, eqL, eqO, eqC, eqCs, rn, renOf, look_cons, look, EK.cast]) (by simp [appN, ptrs, eqVL, eqV, eqA, eqC, eqCs, eqAs, eqCaps, EK.sz, rn, renOf, look_cons, look, arcV, fV]) (by simp [appN, ptrs, SV.lt, SA.lt, SC.lt, arcV, fV]) ?_
    rw [h]
    repeat' (first | exact rfl | ((conv => whnf); first | ((first | refine qA (fun h => ?_) fun h => ?_ | refine qN (fun h => ?_) fun h => ?_ | refine qB (fun h => ?_) fun h => ?_ | refine qC (fun h => ?_) fun h => ?_) <;> try exact absurd h (by omega)) | refine qM (fun h => ?_) fun h => ?_ | refine oM (by (first | omega | (simp only [lenS, InI, nmin, EK.sz]; omega) | (simp only [lenS, InI, nmin, EK.sz] at *; omega))) ?_ | refine oM ?_ ?_ | refine bM ?_ ?_ | refine draw_of Tryd.mixed Tryd.tyOk 60 (by kernel_rfl) ?_))
    (conv => whnf)
    refine callI (both_c F (by omega)) [0, 1] Tryd.call30 rfl (by simp [eqLs, eqL, eqO, eqC, eqCs, rn, renOf, look_cons, look, EK.cast]) (by simp [appN, ptrs, eqVL, eqV, eqA, eqC, eqCs, eqAs, eqCaps, EK.sz, rn, renOf, look_cons, look, arcV, fV]) (by simp [appN, ptrs, SV.lt, SA.lt, SC.lt, arcV, fV]) ?_
    generalize bothB F = x
    cases x with
    | false =>
      repeat' (first | exact rfl | ((conv => whnf); first | ((first | refine qA (fun h => ?_) fun h => ?_ | refine qN (fun h => ?_) fun h => ?_ | refine qB (fun h => ?_) fun h => ?_ | refine qC (fun h => ?_) fun h => ?_) <;> try exact absurd h (by omega)) | refine qM (fun h => ?_) fun h => ?_ | refine oM (by (first | omega | (simp only [lenS, InI, nmin, EK.sz]; omega) | (simp only [lenS, InI, nmin, EK.sz] at *; omega))) ?_ | refine oM ?_ ?_ | refine bM ?_ ?_ | refine draw_of Tryd.mixed Tryd.tyOk 60 (by kernel_rfl) ?_))
      (conv => whnf)
      refine Back.is ?_
      simp [eqV, eqA, eqAs, eqC]
    | true =>
      repeat' (first | exact rfl | ((conv => whnf); first | ((first | refine qA (fun h => ?_) fun h => ?_ | refine qN (fun h => ?_) fun h => ?_ | refine qB (fun h => ?_) fun h => ?_ | refine qC (fun h => ?_) fun h => ?_) <;> try exact absurd h (by omega)) | refine qM (fun h => ?_) fun h => ?_ | refine oM (by (first | omega | (simp only [lenS, InI, nmin, EK.sz]; omega) | (simp only [lenS, InI, nmin, EK.sz] at *; omega))) ?_ | refine oM ?_ ?_ | refine bM ?_ ?_ | refine draw_of Tryd.mixed Tryd.tyOk 60 (by kernel_rfl) ?_))
      (conv => whnf)
      refine callI (single_c F (by omega)) [0, 1] Tryd.call31 rfl (by simp [eqLs, eqL, eqO, eqC, eqCs, rn, renOf, look_cons, look, EK.cast]) (by simp [appN, ptrs, eqVL, eqV, eqA, eqC, eqCs, eqAs, eqCaps, EK.sz, rn, renOf, look_cons, look, arcV, fV]) (by simp [appN, ptrs, SV.lt, SA.lt, SC.lt, arcV, fV]) ?_
      repeat' (first | exact rfl | ((conv => whnf); first | ((first | refine qA (fun h => ?_) fun h => ?_ | refine qN (fun h => ?_) fun h => ?_ | refine qB (fun h => ?_) fun h => ?_ | refine qC (fun h => ?_) fun h => ?_) <;> try exact absurd h (by omega)) | refine qM (fun h => ?_) fun h => ?_ | refine oM (by (first | omega | (simp only [lenS, InI, nmin, EK.sz]; omega) | (simp only [lenS, InI, nmin, EK.sz] at *; omega))) ?_ | refine oM ?_ ?_ | refine bM ?_ ?_ | refine draw_of Tryd.mixed Tryd.tyOk 60 (by kernel_rfl) ?_))
      (conv => whnf)
      refine Back.is ?_
      simp [eqV, eqA, eqAs, eqC]
  · unfold isV
    rw [if_neg h]
    refine ctW Tryd.tyOk 5 [] Tryd.func8 rfl (by simp [SV.lt, SA.lt, SC.lt, arcV, fV]) (by simp) (fr := [(0, fV F)]) rfl ?_
    repeat' (first | exact rfl | ((conv => whnf); first | ((first | refine qA (fun h => ?_) fun h => ?_ | refine qN (fun h => ?_) fun h => ?_ | refine qB (fun h => ?_) fun h => ?_ | refine qC (fun h => ?_) fun h => ?_) <;> try exact absurd h (by omega)) | refine qM (fun h => ?_) fun h => ?_ | refine oM (by (first | omega | (simp only [lenS, InI, nmin, EK.sz]; omega) | (simp only [lenS, InI, nmin, EK.sz] at *; omega))) ?_ | refine oM ?_ ?_ | refine bM ?_ ?_ | refine draw_of Tryd.mixed Tryd.tyOk 60 (by kernel_rfl) ?_))
    refine callI (check_c F hl) [0, 1] Tryd.call29 rfl (by simp [eqLs, eqL, eqO, eqC, eqCs, rn, renOf, look_cons, look, EK.cast]) (by simp [appN, ptrs, eqVL, eqV, eqA, eqC, eqCs, eqAs, eqCaps, EK.sz, rn, renOf, look_cons, look, arcV, fV]) (by simp [appN, ptrs, SV.lt, SA.lt, SC.lt, arcV, fV]) ?_
    repeat' (first | exact rfl | ((conv => whnf); first | ((first | refine qA (fun h => ?_) fun h => ?_ | refine qN (fun h => ?_) fun h => ?_ | refine qB (fun h => ?_) fun h => ?_ | refine qC (fun h => ?_) fun h => ?_) <;> try exact absurd h (by omega)) | refine qM (fun h => ?_) fun h => ?_ | refine oM (by (first | omega | (simp only [lenS, InI, nmin, EK.sz]; omega) | (simp only [lenS, InI, nmin, EK.sz] at *; omega))) ?_ | refine oM ?_ ?_ | refine bM ?_ ?_ | refine draw_of Tryd.mixed Tryd.tyOk 60 (by kernel_rfl) ?_))
    (conv => whnf)
    refine Back.is ?_
    simp [eqV, eqA, eqAs, eqC]

set_option maxHeartbeats 4000000 in
set_option maxRecDepth 20000 in
theorem round_c (F : TF) (hl : F.fin.length ≤ 9223372036854775807) : Ct Tryd.prog 9 [fV F] [] (hpF F) 2 (Is 2 (roundV F)) := by
  by_cases h : fstE F = 0
  · have hF := fstE_ok h
    unfold roundV
    rw [if_pos h]
    refine ctW Tryd.tyOk 5 [] Tryd.func9 rfl (by simp [SV.lt, SA.lt, SC.lt, arcV, fV]) (by simp) (fr := [(0, fV F)]) rfl ?_
    repeat' (first | exact rfl | ((conv => whnf); first | ((first | refine qA (fun h => ?_) fun h => ?_ | refine qN (fun h => ?_) fun h => ?_ | refine qB (fun h => ?_) fun h => ?_ | refine qC (fun h => ?_) fun h => ?_) <;> try exact absurd h (by omega)) | refine qM (fun h => ?_) fun h => ?_ | refine oM (by (first | omega | (simp only [lenS, InI, nmin, EK.sz]; omega) | (simp only [lenS, InI, nmin, EK.sz] at *; omega))) ?_ | refine oM ?_ ?_ | refine bM ?_ ?_ | refine draw_of Tryd.mixed Tryd.tyOk 60 (by kernel_rfl) ?_))
    refine callI (check_c F hl) [0, 1] Tryd.call29 rfl (by simp [eqLs, eqL, eqO, eqC, eqCs, rn, renOf, look_cons, look, EK.cast]) (by simp [appN, ptrs, eqVL, eqV, eqA, eqC, eqCs, eqAs, eqCaps, EK.sz, rn, renOf, look_cons, look, arcV, fV]) (by simp [appN, ptrs, SV.lt, SA.lt, SC.lt, arcV, fV]) ?_
    rw [h]
    repeat' (first | exact rfl | ((conv => whnf); first | ((first | refine qA (fun h => ?_) fun h => ?_ | refine qN (fun h => ?_) fun h => ?_ | refine qB (fun h => ?_) fun h => ?_ | refine qC (fun h => ?_) fun h => ?_) <;> try exact absurd h (by omega)) | refine qM (fun h => ?_) fun h => ?_ | refine oM (by (first | omega | (simp only [lenS, InI, nmin, EK.sz]; omega) | (simp only [lenS, InI, nmin, EK.sz] at *; omega))) ?_ | refine oM ?_ ?_ | refine bM ?_ ?_ | refine draw_of Tryd.mixed Tryd.tyOk 60 (by kernel_rfl) ?_))
    (conv => whnf)
    refine callI (circles_c F (FRng.of hF)) [0, 1] Tryd.call32 rfl (by simp [eqLs, eqL, eqO, eqC, eqCs, rn, renOf, look_cons, look, EK.cast]) (by simp [appN, ptrs, eqVL, eqV, eqA, eqC, eqCs, eqAs, eqCaps, EK.sz, rn, renOf, look_cons, look, arcV, fV]) (by simp [appN, ptrs, SV.lt, SA.lt, SC.lt, arcV, fV]) ?_
    repeat' (first | exact rfl | ((conv => whnf); first | ((first | refine qA (fun h => ?_) fun h => ?_ | refine qN (fun h => ?_) fun h => ?_ | refine qB (fun h => ?_) fun h => ?_ | refine qC (fun h => ?_) fun h => ?_) <;> try exact absurd h (by omega)) | refine qM (fun h => ?_) fun h => ?_ | refine oM (by (first | omega | (simp only [lenS, InI, nmin, EK.sz]; omega) | (simp only [lenS, InI, nmin, EK.sz] at *; omega))) ?_ | refine oM ?_ ?_ | refine bM ?_ ?_ | refine draw_of Tryd.mixed Tryd.tyOk 60 (by kernel_rfl) ?_))
    (conv => whnf)
    refine Back.is ?_
    simp [eqV, eqA, eqAs, eqC]
  · unfold roundV
    rw [if_neg h]
    refine ctW Tryd.tyOk 5 [] Tryd.func9 rfl (by simp [SV.lt, SA.lt, SC.lt, arcV, fV]) (by simp) (fr := [(0, fV F)]) rfl ?_
    repeat' (first | exact rfl | ((conv => whnf); first | ((first | refine qA (fun h => ?_) fun h => ?_ | refine qN (fun h => ?_) fun h => ?_ | refine qB (fun h => ?_) fun h => ?_ | refine qC (fun h => ?_) fun h => ?_) <;> try exact absurd h (by omega)) | refine qM (fun h => ?_) fun h => ?_ | refine oM (by (first | omega | (simp only [lenS, InI, nmin, EK.sz]; omega) | (simp only [lenS, InI, nmin, EK.sz] at *; omega))) ?_ | refine oM ?_ ?_ | refine bM ?_ ?_ | refine draw_of Tryd.mixed Tryd.tyOk 60 (by kernel_rfl) ?_))
    refine callI (check_c F hl) [0, 1] Tryd.call29 rfl (by simp [eqLs, eqL, eqO, eqC, eqCs, rn, renOf, look_cons, look, EK.cast]) (by simp [appN, ptrs, eqVL, eqV, eqA, eqC, eqCs, eqAs, eqCaps, EK.sz, rn, renOf, look_cons, look, arcV, fV]) (by simp [appN, ptrs, SV.lt, SA.lt, SC.lt, arcV, fV]) ?_
    repeat' (first | exact rfl | ((conv => whnf); first | ((first | refine qA (fun h => ?_) fun h => ?_ | refine qN (fun h => ?_) fun h => ?_ | refine qB (fun h => ?_) fun h => ?_ | refine qC (fun h => ?_) fun h => ?_) <;> try exact absurd h (by omega)) | refine qM (fun h => ?_) fun h => ?_ | refine oM (by (first | omega | (simp only [lenS, InI, nmin, EK.sz]; omega) | (simp only [lenS, InI, nmin, EK.sz] at *; omega))) ?_ | refine oM ?_ ?_ | refine bM ?_ ?_ | refine draw_of Tryd.mixed Tryd.tyOk 60 (by kernel_rfl) ?_))
    (conv => whnf)
    refine Back.is ?_
    simp [eqV, eqA, eqAs, eqC]
end Go.Fw

/-
  When all is made, nothing more comes; what is made is one thing alone.
-/
namespace Go.Fw
open Go Go.Proofs

theorem stD_stop {U : TF} {i : Nat} {st : DS} (h : st.1.length ≤ i) (c : Int) : stD U i st c = st := by
  have e : st.1.getD i [] = [] := by simp only [List.getD, List.getElem?_eq_none h]; rfl
  unfold stD
  rw [e, if_pos (show sbB U [] c = -1 from rfl)]
theorem rowP_stop {U : TF} {i : Nat} {st : DS} (h : st.1.length ≤ i) (k : Nat) : rowP U i st k = st := by
  induction k with
  | zero => rfl
  | succ k ih => rw [rowP_succ, ih, stD_stop h]
theorem rows_stop {U : TF} {j : Nat} (h : (rowsD U j).1.length ≤ j) (d : Nat) : rowsD U (j + d) = rowsD U j := by
  induction d with
  | zero => rfl
  | succ d ih =>
    show rowP U (j + d) (rowsD U (j + d)) 9 = _
    rw [ih, rowP_stop (by omega)]
theorem MDone.uniq {U : TF} {st st' : DS} (h : MDone U st) (h' : MDone U st') : st = st' := by
  obtain ⟨k, e, hk⟩ := h
  obtain ⟨k', e', hk'⟩ := h'
  rcases Nat.le_total k k' with hle | hle
  · have := rows_stop (U := U) (j := k) (by rw [e, hk]; exact Nat.le_refl _) (k' - k)
    rw [show k + (k' - k) = k' by omega, e, e'] at this
    exact this.symm
  · have := rows_stop (U := U) (j := k') (by rw [e', hk']; exact Nat.le_refl _) (k - k')
    rw [show k' + (k - k') = k by omega, e, e'] at this
    exact this

section
variable {U : TF} {T : List (List Duo)} (hU : 0 ≤ U.st) (hw : ∀ a ∈ U.arcs, 0 ≤ a.w ∧ a.w ≤ 1000000000) (hr : ∀ a ∈ U.arcs, 0 ≤ a.t ∧ a.t < U.st) (hs : 0 ≤ U.start ∧ U.start < U.st)
    (hT0 : [⟨U.start, 0⟩] ∈ T) (hT : ∀ t ∈ T, ∀ c : Nat, c < 9 → sbB U t ((c : Int) + 1) ≠ -1 → sbS U t ((c : Int) + 1) ∈ T)
include hU hw hr hT

theorem MInv.row {i : Nat} {st : DS} (h : MInv U T i st) (hi : i < st.1.length) (k : Nat) (hk : k ≤ 9) : MInv U T i (rowP U i st k) ∧ st.1.length ≤ (rowP U i st k).1.length ∧ (rowP U i st k).2.length ≤ st.2.length + k := by
  induction k with
  | zero => exact ⟨h, Nat.le_refl _, Nat.le_refl _⟩
  | succ k ih =>
    obtain ⟨h1, h2, h3⟩ := ih (by omega)
    obtain ⟨g1, g2, g3⟩ := h1.step (by omega) hU hw hr hT (c := k) (by omega)
    rw [rowP_succ]
    exact ⟨g1, by omega, by omega⟩
include hs hT0
theorem MDone.inv {st : DS} (h : MDone U st) : MInv U T st.1.length st ∧ st.2.length ≤ 9 * st.1.length := by
  obtain ⟨k, e, hk⟩ := h
  have hlt : ∀ j, j < k → j < (rowsD U j).1.length := by
    intro j hj
    refine Classical.byContradiction fun hc => ?_
    have := rows_stop (U := U) (j := j) (by omega) (k - j)
    rw [show j + (k - j) = k by omega, e] at this
    rw [← this] at hc
    omega
  have : ∀ j, j ≤ k → MInv U T j (rowsD U j) ∧ (rowsD U j).2.length ≤ 9 * j := by
    intro j
    induction j with
    | zero => intro _; exact ⟨MInv.start hs hT0, by simp [rowsD]⟩
    | succ j ih =>
      intro hj
      obtain ⟨h1, h2⟩ := ih (by omega)
      have h3 := hlt j (by omega)
      obtain ⟨g1, g2, g3⟩ := h1.row hU hw hr hT h3 9 (Nat.le_refl _)
      refine ⟨⟨g1.sub, g1.nd, g1.ok, g1.ne, ⟨?_, g1.len.2⟩, g1.raw⟩, ?_⟩
      · show j + 1 ≤ (rowP U j (rowsD U j) 9).1.length
        omega
      · show (rowP U j (rowsD U j) 9).2.length ≤ _
        omega
  have h := this k (Nat.le_refl _)
  rw [e, hk] at h
  exact h
end
theorem MDone.small {U : TF} (hU : 0 ≤ U.st) (hw : ∀ a ∈ U.arcs, 0 ≤ a.w ∧ a.w ≤ 1000000000) (hr : ∀ a ∈ U.arcs, 0 ≤ a.t ∧ a.t < U.st) (hs : 0 ≤ U.start ∧ U.start < U.st) (hb : bgnF U 201 200 [⟨U.start, 0⟩] ≤ 200) {st : DS} (h : MDone U st) :
    MInv U (treeL U 201 [⟨U.start, 0⟩]) st.1.length st ∧ st.1.length ≤ 200 ∧ st.2.length ≤ 1800 := by
  obtain ⟨g1, g2⟩ := tree_ok U 201 200 [⟨U.start, 0⟩] (by omega) hb
  obtain ⟨h1, h2⟩ := h.inv hU hw hr hs (tree_self _ _ _) g2
  have := nd_le h1.nd h1.sub
  exact ⟨h1, by omega, by omega⟩
end Go.Fw

namespace Go.Fw
open Go Go.Proofs

/-- What Determine says is wrong before it begins. -/
def detE (F : TF) : Int := if fstE F ≠ 0 then fstE F else if fineB F = true then 0 else 4

theorem WOk.of {F : TF} (h : FOk F) : WOk F := ⟨FRng.of h, fun a ha => ⟨(h.arc a ha).w0, (h.arc a ha).w1⟩, h.fin⟩

/-- What Determine answers. -/
def DetPost (F : TF) (x : Obj) (v : SV) (s : S) : Prop :=
  (detE F ≠ 0 ∧ v = .tup [.agg zero25, .c (.i (detE F))] ∧ s = ⟨[], [(2, tabO x)], 3⟩) ∨
  (detE F = 0 ∧ ∃ U, IsUs F U ∧
    (((200 < bgnF U 201 200 [⟨U.start, 0⟩] ∨ bgnF U 201 200 [⟨U.start, 0⟩] ≤ 200 ∧ ∃ st : DS, MDone U st ∧ greatB st.2 (st.1.map (finD U)) = true) ∧ v = .tup [.agg zero25, .c (.i 2)] ∧ s = ⟨[], [(2, tabO x)], 3⟩) ∨
     (bgnF U 201 200 [⟨U.start, 0⟩] ≤ 200 ∧ ∃ st : DS, MDone U st ∧ greatB st.2 (st.1.map (finD U)) = false ∧ ∃ sp sq, v = .tup [.agg [.i (st.1.length : Nat), .i 0, .sl 3 1 0 (st.1.map (finD U)).length ((st.1.map (finD U)).length + sp), .sl 4 5 0 st.2.length (st.2.length + sq)], .c (.i 0)] ∧
       s = ⟨[], [(2, tabO x), (3, .arr true 3 .int (st.1.map (finD U)) sp), (4, .arr true 50 .arc st.2 sq)], 5⟩)))

set_option maxHeartbeats 4000000 in
set_option maxRecDepth 20000 in
theorem determine_c (F : TF) (hl : F.fin.length ≤ 9223372036854775807) (x : Obj) (hx : TabX x) : Ct Tryd.prog 15 [fV F] [] (hpF F ++ [(2, tabO x)]) 3 (DetPost F x) := by
  by_cases h : fstE F = 0
  · have hF := fstE_ok h
    have hst := hF.st
    have hss := hF.start
    by_cases hf : fineB F = true
    · have hd : detE F = 0 := by unfold detE; rw [if_neg (fun c => c h), if_pos hf]
      refine ctW Tryd.tyOk 7 [] Tryd.func15 rfl (by simp [SV.lt, SA.lt, SC.lt, arcV, fV]) (by simp) (fr := [(0, fV F)]) rfl ?_
      repeat' (first | exact rfl | ((conv => whnf); first | ((first | refine qA (fun h => ?_) fun h => ?_ | refine qN (fun h => ?_) fun h => ?_ | refine qB (fun h => ?_) fun h => ?_ | refine qC (fun h => ?_) fun h => ?_) <;> try exact absurd h (by omega)) | refine qM (fun h => ?_) fun h => ?_ | refine oM (by (first | omega | (simp only [lenS, InI, nmin, EK.sz]; omega) | (simp only [lenS, InI, nmin, EK.sz] at *; omega))) ?_ | refine oM ?_ ?_ | refine bM ?_ ?_ | refine draw_of Tryd.mixed Tryd.tyOk 60 (by kernel_rfl) ?_))
      refine callI (check_c F hl) [0, 1] Tryd.call29 rfl (by simp [eqLs, eqL, eqO, eqC, eqCs, rn, renOf, look_cons, look, EK.cast]) (by simp [appN, ptrs, eqVL, eqV, eqA, eqC, eqCs, eqAs, eqCaps, EK.sz, rn, renOf, look_cons, look, arcV, fV]) (by simp [appN, ptrs, SV.lt, SA.lt, SC.lt, arcV, fV]) ?_
      rw [h]
      repeat' (first | exact rfl | ((conv => whnf); first | ((first | refine qA (fun h => ?_) fun h => ?_ | refine qN (fun h => ?_) fun h => ?_ | refine qB (fun h => ?_) fun h => ?_ | refine qC (fun h => ?_) fun h => ?_) <;> try exact absurd h (by omega)) | refine qM (fun h => ?_) fun h => ?_ | refine oM (by (first | omega | (simp only [lenS, InI, nmin, EK.sz]; omega) | (simp only [lenS, InI, nmin, EK.sz] at *; omega))) ?_ | refine oM ?_ ?_ | refine bM ?_ ?_ | refine draw_of Tryd.mixed Tryd.tyOk 60 (by kernel_rfl) ?_))
      (conv => whnf)
      refine callI (fine_c F (FRng.of hF)) [0, 1] Tryd.call36 rfl (by simp [eqLs, eqL, eqO, eqC, eqCs, rn, renOf, look_cons, look, EK.cast]) (by simp [appN, ptrs, eqVL, eqV, eqA, eqC, eqCs, eqAs, eqCaps, EK.sz, rn, renOf, look_cons, look, arcV, fV]) (by simp [appN, ptrs, SV.lt, SA.lt, SC.lt, arcV, fV]) ?_
      rw [hf]
      repeat' (first | exact rfl | ((conv => whnf); first | ((first | refine qA (fun h => ?_) fun h => ?_ | refine qN (fun h => ?_) fun h => ?_ | refine qB (fun h => ?_) fun h => ?_ | refine qC (fun h => ?_) fun h => ?_) <;> try exact absurd h (by omega)) | refine qM (fun h => ?_) fun h => ?_ | refine oM (by (first | omega | (simp only [lenS, InI, nmin, EK.sz]; omega) | (simp only [lenS, InI, nmin, EK.sz] at *; omega))) ?_ | refine oM ?_ ?_ | refine bM ?_ ?_ | refine draw_of Tryd.mixed Tryd.tyOk 60 (by kernel_rfl) ?_))
      (conv => whnf)
      refine callF (made_c F (WOk.of hF) (by omega) (by omega) x hx) [0, 1, 2] Tryd.call37 rfl (by simp [eqLs, eqL, eqO, eqC, eqCs, rn, renOf, look_cons, look, EK.cast]) (by simp [appN, ptrs, eqVL, eqV, eqA, eqC, eqCs, eqAs, eqCaps, EK.sz, rn, renOf, look_cons, look, arcV, fV]) (by simp [appN, ptrs, SV.lt, SA.lt, SC.lt, arcV, fV, lenN]) ?_
      rintro v s ⟨U, hus, ⟨h1, rfl, rfl⟩ | ⟨h1, st, hmd, sp, sq, rfl, rfl⟩⟩
      · simp only [Nat.reduceAdd, Nat.reduceSub]
        repeat' (first | exact rfl | ((conv => whnf); first | ((first | refine qA (fun h => ?_) fun h => ?_ | refine qN (fun h => ?_) fun h => ?_ | refine qB (fun h => ?_) fun h => ?_ | refine qC (fun h => ?_) fun h => ?_) <;> try exact absurd h (by omega)) | refine qM (fun h => ?_) fun h => ?_ | refine oM (by (first | omega | (simp only [lenS, InI, nmin, EK.sz]; omega) | (simp only [lenS, InI, nmin, EK.sz] at *; omega))) ?_ | refine oM ?_ ?_ | refine bM ?_ ?_ | refine draw_of Tryd.mixed Tryd.tyOk 60 (by kernel_rfl) ?_ | intro _))
        (conv => whnf)
        exact ⟨[], [(2, tabO x)], 3, .tup [.agg zero25, .c (.i 2)], ⟨by rfl, trivial, by simp [eqFr, eqHp, eqV, eqA, eqC, eqO, eqCs, eqAs, look_cons, look, rn, EK.cast, EK.sz, eqCaps]⟩, by simp [eqV, eqA, eqAs, eqC, eqCs], .inr ⟨hd, U, hus, .inl ⟨.inl h1, rfl, rfl⟩⟩⟩
      · simp only [Nat.reduceAdd, Nat.reduceSub]
        repeat' (first | exact rfl | ((conv => whnf); first | ((first | refine qA (fun h => ?_) fun h => ?_ | refine qN (fun h => ?_) fun h => ?_ | refine qB (fun h => ?_) fun h => ?_ | refine qC (fun h => ?_) fun h => ?_) <;> try exact absurd h (by omega)) | refine qM (fun h => ?_) fun h => ?_ | refine oM (by (first | omega | (simp only [lenS, InI, nmin, EK.sz]; omega) | (simp only [lenS, InI, nmin, EK.sz] at *; omega))) ?_ | refine oM ?_ ?_ | refine bM ?_ ?_ | refine draw_of Tryd.mixed Tryd.tyOk 60 (by kernel_rfl) ?_ | intro _))
        (conv => whnf)
        simp only [Nat.reduceAdd, Nat.reduceSub]
        obtain ⟨hUw, hUs, _⟩ := hus.ok (WOk.of hF) hss
        obtain ⟨_, hs1, hs2⟩ := hmd.small hUw.st.1 hUw.w (fun a ha => (hUw.arc a ha).2.2) hUs h1
        have hgc := great_c ⟨(st.1.length : Nat), 0, st.1.map (finD U), st.2, (st.1.map (finD U)).length + sp, st.2.length + sq⟩ (by simp only; omega) (by simp only [List.length_map]; omega)
        refine callI (hgc) [5, 6] Tryd.call38 rfl (by simp [eqLs, eqL, eqO, eqC, eqCs, rn, renOf, look_cons, look, EK.cast]) (by simp [appN, ptrs, eqVL, eqV, eqA, eqC, eqCs, eqAs, eqCaps, EK.sz, rn, renOf, look_cons, look, arcV, fV]) (by simp [appN, ptrs, SV.lt, SA.lt, SC.lt, arcV, fV]) ?_
        simp only
        cases hg : greatB st.2 (st.1.map (finD U)) with
        | true =>
          repeat' (first | exact rfl | ((conv => whnf); first | ((first | refine qA (fun h => ?_) fun h => ?_ | refine qN (fun h => ?_) fun h => ?_ | refine qB (fun h => ?_) fun h => ?_ | refine qC (fun h => ?_) fun h => ?_) <;> try exact absurd h (by omega)) | refine qM (fun h => ?_) fun h => ?_ | refine oM (by (first | omega | (simp only [lenS, InI, nmin, EK.sz]; omega) | (simp only [lenS, InI, nmin, EK.sz] at *; omega))) ?_ | refine oM ?_ ?_ | refine bM ?_ ?_ | refine draw_of Tryd.mixed Tryd.tyOk 60 (by kernel_rfl) ?_))
          (conv => whnf)
          exact ⟨[], [(2, tabO x)], 3, .tup [.agg zero25, .c (.i 2)], ⟨by rfl, trivial, by simp [eqFr, eqHp, eqV, eqA, eqC, eqO, eqCs, eqAs, look_cons, look, rn, EK.cast, EK.sz, eqCaps]⟩, by simp [eqV, eqA, eqAs, eqC, eqCs], .inr ⟨hd, U, hus, .inl ⟨.inr ⟨h1, st, hmd, hg⟩, rfl, rfl⟩⟩⟩
        | false =>
          repeat' (first | exact rfl | ((conv => whnf); first | ((first | refine qA (fun h => ?_) fun h => ?_ | refine qN (fun h => ?_) fun h => ?_ | refine qB (fun h => ?_) fun h => ?_ | refine qC (fun h => ?_) fun h => ?_) <;> try exact absurd h (by omega)) | refine qM (fun h => ?_) fun h => ?_ | refine oM (by (first | omega | (simp only [lenS, InI, nmin, EK.sz]; omega) | (simp only [lenS, InI, nmin, EK.sz] at *; omega))) ?_ | refine oM ?_ ?_ | refine bM ?_ ?_ | refine draw_of Tryd.mixed Tryd.tyOk 60 (by kernel_rfl) ?_))
          (conv => whnf)
          exact ⟨[(3, some 5), (4, some 6)], [(2, tabO x), (3, .arr true 3 .int (st.1.map (finD U)) sp), (4, .arr true 50 .arc st.2 sq)], 5, .tup [.agg [.i (st.1.length : Nat), .i 0, .sl 3 1 0 (st.1.map (finD U)).length ((st.1.map (finD U)).length + sp), .sl 4 5 0 st.2.length (st.2.length + sq)], .c (.i 0)], ⟨by rfl, trivial, by simp [eqFr, eqHp, eqV, eqA, eqC, eqO, eqCs, eqAs, look_cons, look, rn, EK.cast, EK.sz, eqCaps]⟩, by simp [eqV, eqA, eqAs, eqC, eqCs, rn, look, look_cons], .inr ⟨hd, U, hus, .inr ⟨h1, st, hmd, hg, sp, sq, rfl, rfl⟩⟩⟩
    · have hd : detE F = 4 := by unfold detE; rw [if_neg (fun c => c h), if_neg hf]
      have hf2 : fineB F = false := by simpa using hf
      refine ctW Tryd.tyOk 7 [] Tryd.func15 rfl (by simp [SV.lt, SA.lt, SC.lt, arcV, fV]) (by simp) (fr := [(0, fV F)]) rfl ?_
      repeat' (first | exact rfl | ((conv => whnf); first | ((first | refine qA (fun h => ?_) fun h => ?_ | refine qN (fun h => ?_) fun h => ?_ | refine qB (fun h => ?_) fun h => ?_ | refine qC (fun h => ?_) fun h => ?_) <;> try exact absurd h (by omega)) | refine qM (fun h => ?_) fun h => ?_ | refine oM (by (first | omega | (simp only [lenS, InI, nmin, EK.sz]; omega) | (simp only [lenS, InI, nmin, EK.sz] at *; omega))) ?_ | refine oM ?_ ?_ | refine bM ?_ ?_ | refine draw_of Tryd.mixed Tryd.tyOk 60 (by kernel_rfl) ?_))
      refine callI (check_c F hl) [0, 1] Tryd.call29 rfl (by simp [eqLs, eqL, eqO, eqC, eqCs, rn, renOf, look_cons, look, EK.cast]) (by simp [appN, ptrs, eqVL, eqV, eqA, eqC, eqCs, eqAs, eqCaps, EK.sz, rn, renOf, look_cons, look, arcV, fV]) (by simp [appN, ptrs, SV.lt, SA.lt, SC.lt, arcV, fV]) ?_
      rw [h]
      repeat' (first | exact rfl | ((conv => whnf); first | ((first | refine qA (fun h => ?_) fun h => ?_ | refine qN (fun h => ?_) fun h => ?_ | refine qB (fun h => ?_) fun h => ?_ | refine qC (fun h => ?_) fun h => ?_) <;> try exact absurd h (by omega)) | refine qM (fun h => ?_) fun h => ?_ | refine oM (by (first | omega | (simp only [lenS, InI, nmin, EK.sz]; omega) | (simp only [lenS, InI, nmin, EK.sz] at *; omega))) ?_ | refine oM ?_ ?_ | refine bM ?_ ?_ | refine draw_of Tryd.mixed Tryd.tyOk 60 (by kernel_rfl) ?_))
      (conv => whnf)
      refine callI (fine_c F (FRng.of hF)) [0, 1] Tryd.call36 rfl (by simp [eqLs, eqL, eqO, eqC, eqCs, rn, renOf, look_cons, look, EK.cast]) (by simp [appN, ptrs, eqVL, eqV, eqA, eqC, eqCs, eqAs, eqCaps, EK.sz, rn, renOf, look_cons, look, arcV, fV]) (by simp [appN, ptrs, SV.lt, SA.lt, SC.lt, arcV, fV]) ?_
      rw [hf2]
      repeat' (first | exact rfl | ((conv => whnf); first | ((first | refine qA (fun h => ?_) fun h => ?_ | refine qN (fun h => ?_) fun h => ?_ | refine qB (fun h => ?_) fun h => ?_ | refine qC (fun h => ?_) fun h => ?_) <;> try exact absurd h (by omega)) | refine qM (fun h => ?_) fun h => ?_ | refine oM (by (first | omega | (simp only [lenS, InI, nmin, EK.sz]; omega) | (simp only [lenS, InI, nmin, EK.sz] at *; omega))) ?_ | refine oM ?_ ?_ | refine bM ?_ ?_ | refine draw_of Tryd.mixed Tryd.tyOk 60 (by kernel_rfl) ?_))
      (conv => whnf)
      exact ⟨[], [(2, tabO x)], 3, .tup [.agg zero25, .c (.i 4)], ⟨by rfl, trivial, by simp [eqFr, eqHp, eqV, eqA, eqC, eqO, eqCs, eqAs, look_cons, look, rn, EK.cast, EK.sz, eqCaps]⟩, by simp [eqV, eqA, eqAs, eqC, eqCs], .inl ⟨by rw [hd]; decide, by rw [hd], rfl⟩⟩
  · have hd : detE F = fstE F := by unfold detE; rw [if_pos h]
    refine ctW Tryd.tyOk 7 [] Tryd.func15 rfl (by simp [SV.lt, SA.lt, SC.lt, arcV, fV]) (by simp) (fr := [(0, fV F)]) rfl ?_
    repeat' (first | exact rfl | ((conv => whnf); first | ((first | refine qA (fun h => ?_) fun h => ?_ | refine qN (fun h => ?_) fun h => ?_ | refine qB (fun h => ?_) fun h => ?_ | refine qC (fun h => ?_) fun h => ?_) <;> try exact absurd h (by omega)) | refine qM (fun h => ?_) fun h => ?_ | refine oM (by (first | omega | (simp only [lenS, InI, nmin, EK.sz]; omega) | (simp only [lenS, InI, nmin, EK.sz] at *; omega))) ?_ | refine oM ?_ ?_ | refine bM ?_ ?_ | refine draw_of Tryd.mixed Tryd.tyOk 60 (by kernel_rfl) ?_))
    refine callI (check_c F hl) [0, 1] Tryd.call29 rfl (by simp [eqLs, eqL, eqO, eqC, eqCs, rn, renOf, look_cons, look, EK.cast]) (by simp [appN, ptrs, eqVL, eqV, eqA, eqC, eqCs, eqAs, eqCaps, EK.sz, rn, renOf, look_cons, look, arcV, fV]) (by simp [appN, ptrs, SV.lt, SA.lt, SC.lt, arcV, fV]) ?_
    repeat' (first | exact rfl | ((conv => whnf); first | ((first | refine qA (fun h => ?_) fun h => ?_ | refine qN (fun h => ?_) fun h => ?_ | refine qB (fun h => ?_) fun h => ?_ | refine qC (fun h => ?_) fun h => ?_) <;> try exact absurd h (by omega)) | refine qM (fun h => ?_) fun h => ?_ | refine oM (by (first | omega | (simp only [lenS, InI, nmin, EK.sz]; omega) | (simp only [lenS, InI, nmin, EK.sz] at *; omega))) ?_ | refine oM ?_ ?_ | refine bM ?_ ?_ | refine draw_of Tryd.mixed Tryd.tyOk 60 (by kernel_rfl) ?_))
    (conv => whnf)
    exact ⟨[], [(2, tabO x)], 3, .tup [.agg zero25, .c (.i (fstE F))], ⟨by rfl, trivial, by simp [eqFr, eqHp, eqV, eqA, eqC, eqO, eqCs, eqAs, look_cons, look, rn, EK.cast, EK.sz, eqCaps]⟩, by simp [eqV, eqA, eqAs, eqC, eqCs], .inl ⟨by rw [hd]; exact h, by rw [hd], rfl⟩⟩
end Go.Fw

namespace Go.Fw
open Go Go.Proofs

/-- Back along the arcs. -/
def chain (D : Trip → Option Fnd) : Nat → Trip → List Int
  | 0, _ => []
  | n + 1, y => match D y with
    | none => []
    | some c => if 0 ≤ c.arc then c.arc :: chain D n ⟨c.s, c.i, c.o⟩ else []

/-- What Walk tells. -/
def WalkIs (F : TF) (u v : List Int) (E : Trip × Int) (l : List Int) : Prop :=
  ∃ D ord rk B n, Dj F u v D ord rk B (fun _ _ => True) ∧ (∀ y d, D y = some d → d.dn = true) ∧ E = endF (fun y => (D y).map (·.cost)) F.fin u.length v.length F.fin.length ∧ rk E.1 < n ∧ l.reverse = chain D n E.1

end Go.Fw

namespace Go.Fw
open Go Go.Proofs

end Go.Fw

namespace Go.Fw
open Go Go.Proofs

end Go.Fw

/-
  The best way of all; what is pushed costs the same but for what is told; in the plain.
-/
namespace Go.Fw
open Go

theorem begun_getD {F : TF} {n : Nat} (h : n < F.st.toNat) : (begun F).getD n 0 = begF F.start n := by
  simp [begun, List.getD, h]
theorem begun_ln (F : TF) : (begun F).length = F.st.toNat := by simp [begun]

theorem RN.way {F : TF} (hF : FOk F) {k v : Nat} {c : Int} (h : RN F.arcs (begun F) k v c) : ∃ u w, Way F.arcs F.start u w (v : Int) c := by
  induction h with
  | base h hc =>
    rename_i v
    rw [begun_ln] at h
    rw [begun_getD h] at hc ⊢
    unfold begF at hc ⊢
    split at hc
    · rename_i e
      rw [if_pos e, e]
      exact ⟨[], [], .nil _⟩
    · exact absurd rfl hc
  | step h ha ih =>
    rename_i k a c
    obtain ⟨u, w, ih⟩ := ih
    have h1 := (hF.arc a ha).f0
    have h2 := (hF.arc a ha).t0
    have e1 : (a.f.toNat : Int) = a.f := by omega
    have e2 : (a.t.toNat : Int) = a.t := by omega
    rw [e1] at ih
    rw [e2]
    exact ⟨_, _, ih.snoc ha⟩

theorem Way.rnOf {L : List Arc} {c0 : List Int} {s t : Int} {u v : List Int} {d : Int} (h : Way L s u v t d) : ∀ {k : Nat} {c : Int}, RN L c0 k s.toNat c → ∃ k', RN L c0 k' t.toNat (c + d) := by
  induction h with
  | nil s => intro k c h; exact ⟨k, by simpa using h⟩
  | cons ha h ih =>
    intro k c hr
    obtain ⟨k', h'⟩ := ih (.step hr ha)
    exact ⟨k', by rw [← Int.add_assoc]; exact h'⟩

theorem Way.rn {F : TF} (hF : FOk F) {t : Int} {u v : List Int} {d : Int} (h : Way F.arcs F.start u v t d) : ∃ k, RN F.arcs (begun F) k t.toNat d := by
  have hs := hF.start
  have h1 : F.start.toNat < F.st.toNat := by omega
  have h2 : (begun F).getD F.start.toNat 0 = 0 := by
    rw [begun_getD h1]
    unfold begF
    exact if_pos (by omega)
  have h3 : RN F.arcs (begun F) 0 F.start.toNat 0 := by
    have := RN.base (l := F.arcs) (c0 := begun F) (v := F.start.toNat) (by rw [begun_ln]; exact h1) (by rw [h2]; decide)
    rwa [h2] at this
  obtain ⟨k, hk⟩ := h.rnOf h3
  exact ⟨k, by simpa using hk⟩

theorem Sol.low {F : TF} (hF : FOk F) {D : List Int} (h : Sol F.arcs (begun F) D) : ∀ v, v < (begun F).length → -1 ≤ D.getD v 0 := by
  intro v hv
  by_cases e : D.getD v 0 = -1
  · omega
  · obtain ⟨k, _, hk⟩ := h.s3 v hv e
    have := hk.pos hF.arc (fun v hv => ((begun_bd hF).bd v hv).1)
    omega

/-! ### Pushed -/
structure Pot (F : TF) (D : List Int) : Prop where
  len : D.length = F.fin.length
  low : ∀ v, v < F.fin.length → -1 ≤ D.getD v 0
  fin : ∀ v, v < F.fin.length → Le (D.getD v 0) (F.fin.getD v 0)
  arc : ∀ a ∈ F.arcs, D.getD a.t.toNat 0 ≠ -1 → Le (D.getD a.f.toNat 0) (D.getD a.t.toNat 0 + a.w)

/-- A transducer that was pushed. -/
structure PushIs (F : TF) (D : List Int) (X : TF) : Prop where
  st : X.st = F.st
  start : X.start = F.start
  fin : X.fin = pushF D F.fin F.fin.length
  arcs : X.arcs = pushL D F.arcs

theorem pushL_mem {D : List Int} {l : List Arc} {b : Arc} : b ∈ pushL D l ↔ ∃ a ∈ l, D.getD a.f.toNat 0 ≠ -1 ∧ D.getD a.t.toNat 0 ≠ -1 ∧ b = ⟨a.f, a.i, a.o, a.t, a.w + (D.getD a.t.toNat 0 - D.getD a.f.toNat 0)⟩ := by
  unfold pushL
  rw [List.mem_filterMap]
  constructor
  · rintro ⟨a, ha, h⟩
    unfold pushA at h
    split at h
    · cases h
    · rename_i hh
      cases h
      exact ⟨a, ha, fun c => hh (.inl c), fun c => hh (.inr c), rfl⟩
  · rintro ⟨a, ha, h1, h2, rfl⟩
    refine ⟨a, ha, ?_⟩
    unfold pushA
    rw [if_neg (fun c => by rcases c with c | c; exact h1 c; exact h2 c)]

theorem push_way {F : TF} (hF : FOk F) {D : List Int} (hP : Pot F D) {s t : Int} {u v : List Int} {d : Int} (h : Way F.arcs s u v t d) (ht : D.getD t.toNat 0 ≠ -1) : D.getD s.toNat 0 ≠ -1 ∧ Way (pushL D F.arcs) s u v t (d + D.getD t.toNat 0 - D.getD s.toNat 0) := by
  induction h with
  | nil s => exact ⟨ht, by have : (0 + D.getD s.toNat 0 - D.getD s.toNat 0) = 0 := by omega
                           rw [this]; exact .nil s⟩
  | cons ha h ih =>
    rename_i a u v t c
    obtain ⟨h1, h2⟩ := ih ht
    have hx := hF.arc a ha
    have hn := hF.finl
    have h4 := hP.low a.t.toNat (by have := hx.t0; have := hx.t1; omega)
    have h5 := hP.arc a ha h1 (by have := hx.w0; omega)
    refine ⟨h5.1, ?_⟩
    have h6 : (⟨a.f, a.i, a.o, a.t, a.w + (D.getD a.t.toNat 0 - D.getD a.f.toNat 0)⟩ : Arc) ∈ pushL D F.arcs := pushL_mem.2 ⟨a, ha, h5.1, h1, rfl⟩
    have h7 := Way.cons h6 h2
    have e : (a.w + c + D.getD t.toNat 0 - D.getD a.f.toNat 0) = (a.w + (D.getD a.t.toNat 0 - D.getD a.f.toNat 0)) + (c + D.getD t.toNat 0 - D.getD a.t.toNat 0) := by omega
    rw [e]
    exact h7

theorem push_way' {F : TF} {D : List Int} {s t : Int} {u v : List Int} {d : Int} (h : Way (pushL D F.arcs) s u v t d) (ht : D.getD t.toNat 0 ≠ -1) : D.getD s.toNat 0 ≠ -1 ∧ Way F.arcs s u v t (d - D.getD t.toNat 0 + D.getD s.toNat 0) := by
  induction h with
  | nil s => exact ⟨ht, by have : (0 - D.getD s.toNat 0 + D.getD s.toNat 0) = 0 := by omega
                           rw [this]; exact .nil s⟩
  | cons ha h ih =>
    rename_i b u v t c
    obtain ⟨h1, h2⟩ := ih ht
    obtain ⟨a, ha', h3, h4, rfl⟩ := pushL_mem.1 ha
    refine ⟨h3, ?_⟩
    simp only at h2 h1 ⊢
    have h7 := Way.cons ha' h2
    have e : (a.w + (D.getD a.t.toNat 0 - D.getD a.f.toNat 0)) + c - D.getD t.toNat 0 + D.getD a.f.toNat 0 = a.w + (c - D.getD t.toNat 0 + D.getD a.t.toNat 0) := by omega
    rw [e]
    exact h7

/-- What is pushed costs less by what is told. -/
theorem PushIs.wt {F : TF} {D : List Int} {X : TF} (h : PushIs F D X) (hF : FOk F) (hP : Pot F D) {u v : List Int} {c : Int} : Wt X u v c ↔ Wt F u v (c + D.getD F.start.toNat 0) ∧ D.getD F.start.toNat 0 ≠ -1 := by
  have hs := hF.start
  have hn := hF.finl
  unfold Wt
  rw [h.start, h.arcs, h.fin]
  constructor
  · rintro ⟨t, d, h1, h2, rfl⟩
    have hr : 0 ≤ t ∧ t < F.st := by
      have : ∀ {s t : Int} {u v : List Int} {c : Int}, Way (pushL D F.arcs) s u v t c → 0 ≤ s ∧ s < F.st → 0 ≤ t ∧ t < F.st := by
        intro s t u v c hw
        induction hw with
        | nil s => exact id
        | cons ha h ih =>
          obtain ⟨a, ha', _, _, rfl⟩ := pushL_mem.1 ha
          exact fun _ => ih ⟨(hF.arc a ha').t0, (hF.arc a ha').t1⟩
      exact this h1 hs
    have ht : t.toNat < F.fin.length := by omega
    rw [pushF_getD _ _ _ _ ht] at h2 ⊢
    unfold pushV at h2 ⊢
    by_cases e : F.fin.getD t.toNat 0 = -1
    · rw [if_neg (fun hh => hh.2 e)] at h2; exact absurd e h2
    · rw [if_pos ⟨ht, e⟩]
      have h3 := hP.fin _ ht e
      obtain ⟨h4, h5⟩ := push_way' h1 h3.1
      exact ⟨⟨t, _, h5, e, by omega⟩, h4⟩
  · rintro ⟨⟨t, d, h1, h2, h3⟩, _⟩
    have hr := h1.rng hF.arc hs
    have ht : t.toNat < F.fin.length := by omega
    have h4 := hP.fin _ ht h2
    have h5 := hP.low _ ht
    obtain ⟨h6, h7⟩ := push_way hF hP h1 h4.1
    refine ⟨t, _, h7, ?_, ?_⟩
    · rw [pushF_getD _ _ _ _ ht]
      unfold pushV
      rw [if_pos ⟨ht, h2⟩]
      omega
    · rw [pushF_getD _ _ _ _ ht]
      unfold pushV
      rw [if_pos ⟨ht, h2⟩]
      omega

/-! ### The way itself -/
inductive GW (arcs : List Arc) (rk : Nat → Nat) (x : Int) : Int → List Int → Int → Prop
  | nil : GW arcs rk x x [] 0
  | cons {n : Nat} {a : Arc} {l : List Int} {c : Int} (hn : arcs[n]? = some a) (hr : rk a.f.toNat < rk a.t.toNat) (h : GW arcs rk x a.t l c) : GW arcs rk x a.f ((n : Int) :: l) (a.w + c)

theorem GW.snoc {arcs : List Arc} {rk : Nat → Nat} {x s : Int} {l : List Int} {c : Int} (h : GW arcs rk x s l c) : ∀ {n : Nat} {a : Arc}, arcs[n]? = some a → a.f = x → rk a.f.toNat < rk a.t.toNat → GW arcs rk a.t s (l ++ [(n : Int)]) (c + a.w) := by
  induction h with
  | nil =>
    intro n a h1 h2 h3
    subst h2
    have := GW.cons h1 h3 (.nil (arcs := arcs) (rk := rk) (x := a.t))
    simpa using this
  | cons h1 h2 h ih =>
    intro n a g1 g2 g3
    rw [Int.add_assoc]
    exact .cons h1 h2 (ih g1 g2 g3)

end Go.Fw
