/- Walks of the functions: what each computes. -/
import Derived.Test.YtlaenllbacalpaaDoorU14
import Derived.Test.YtlaenllbacalpaaDoorU11
import Derived.Test.YtlaenllbacalpaaDoorU10

set_option linter.unusedSimpArgs false
set_option linter.unusedVariables false

namespace Go.Fw
open Go Go.Proofs

theorem numberD_c (F : TF) (hF : WOk F) (hst1 : F.st ≤ 1000) (x : Obj) (hx : TabX x) (L : List (List Duo)) (es : List (ByteArray × Int × Nat)) (clk : Nat) (rows : List Sli) (m : List (Addr × List Duo × Nat)) (spr spf nr cr : Nat) (s : List Duo) (ya : Option Addr) (yc : Nat) (B : Int) (hB : 0 ≤ B ∧ B ≤ 1000000000000) (hs : SOk F B s) (hnum : NumD es L) (htab : TabD m rows L) (hy : Hd m ⟨ya, s.length, yc⟩) (hr : rowA m ya = s) (hL : L.length ≤ 100000) :
    Ct Tryd.prog 65 [.c (.ptr 2 0), .c (.h ⟨ya, s.length, yc⟩)] [] ((0, .arr false 3 .int F.fin 0) :: hpDo F L es clk rows m spr spf nr cr 5 7 8 x) 10
    (fun v t => ∃ es' clk' rows' spr' spf', NumD es' (numL L s) ∧ TabD m rows' (numL L s) ∧ v = .i (((numL L s).idxOf s : Nat) : Int) ∧ t = ⟨[], hpDo F (numL L s) es' clk' rows' m spr' spf' nr cr 10 11 8 x, 12⟩) := by
  unfold numL
  by_cases h : s ∈ L
  · rw [if_pos h]
    exact numberD_in F hF hst1 x hx L es clk rows m spr spf nr cr s ya yc B hB hs hnum htab hr h
  · rw [if_neg h]
    exact numberD_new F hF hst1 x hx L es clk rows m spr spf nr cr s ya yc B hB hs hnum htab hy hr hL h

abbrev zero25 : List SC := [.i 0, .i 0, .v (.slice none 0 0), .v (.slice none 0 0)]

/-- How the determiner lies in Made. -/
abbrev dM (U : TF) (il nl cl : Nat) (ost : Int) (jf nf cf ir nr cr : Nat) : List SC := [.i U.st, .i U.start, .sl 6 1 0 U.fin.length U.capF, .sl 7 5 0 U.arcs.length U.capA, .mp 8, .sl il 1 0 nl cl, .i ost, .i 0, .sl jf 1 0 nf cf, .sl ir 5 0 nr cr]
abbrev hpM (U : TF) (spU sqU : Nat) (L : List (List Duo)) (raw : List Arc) (es : List (ByteArray × Int × Nat)) (clk : Nat) (rows : List Sli) (m : List (Addr × List Duo × Nat)) (spr spf sra : Nat) (x : Obj) : List (Nat × SO) := [(2, tabO x), (3, .box 25 zero25), (4, .box 79 (dM U 9 rows.length (rows.length + spr) 0 11 (L.map (finD U)).length ((L.map (finD U)).length + spf) 12 raw.length (raw.length + sra))), (6, .arr true 3 .int U.fin spU), (7, .arr true 50 .arc U.arcs sqU), (8, .map .str .int es clk), (9, .arr true 82 .sli rows spr), (10, .pool 80 .duo m), (11, .arr true 3 .int (L.map (finD U)) spf), (12, .arr true 50 .arc raw sra)]

theorem fr_kT {F : TF} (hF : FRng F) (hs : 0 ≤ F.start ∧ F.start < F.st) (p : Nat → Bool) (c1 c2 : Nat) : FRng ⟨(kT F p).st, (kT F p).start, (kT F p).fin, (kT F p).arcs, c1, c2⟩ ∧ (0 ≤ (kT F p).start ∧ (kT F p).start < (kT F p).st) ∧ (kT F p).st ≤ F.st := by
  unfold kT
  have hst := hF.st
  split
  · rename_i h
    have h1 := rkB_le p F.st.toNat
    have hlt := rkB_lt (p := p) (show F.start.toNat < F.st.toNat by omega) h
    have hkl := kfin_len p F.fin F.st.toNat
    have hal := hF.arcl
    have hkr := karc_len p F.arcs F.arcs.length
    refine ⟨⟨⟨by simp only; omega, by simp only; omega⟩, by simp only; omega, by simp only; omega, fun a ha => ?_⟩, ⟨by simp only; omega, by simp only; omega⟩, by simp only; omega⟩
    simp only at ha
    obtain ⟨b, hb, q1, q2, rfl⟩ := mem_karcs.1 ha
    have hr := hF.arc b hb
    have l1 := rkB_lt (p := p) (show b.f.toNat < F.st.toNat by omega) q1
    have l2 := rkB_lt (p := p) (show b.t.toNat < F.st.toNat by omega) q2
    simp only [kArc]
    omega
  · exact ⟨⟨⟨by simp, by simp⟩, by simp, by simp, by simp⟩, ⟨by simp, by simp⟩, by simp only; omega⟩
theorem wk_kT {F : TF} (hF : WOk F) (hs : 0 ≤ F.start ∧ F.start < F.st) (p : Nat → Bool) (c1 c2 : Nat) : WOk ⟨(kT F p).st, (kT F p).start, (kT F p).fin, (kT F p).arcs, c1, c2⟩ := by
  refine ⟨(fr_kT hF.toFRng hs p c1 c2).1, ?_, ?_⟩
  · simp only
    unfold kT
    split
    · intro a ha
      obtain ⟨b, hb, q1, q2, rfl⟩ := mem_karcs.1 ha
      exact hF.w b hb
    · simp
  · simp only
    unfold kT
    split
    · intro n hn
      obtain ⟨j, hj, rfl⟩ := kfin_mem F.fin hn
      exact hF.fin _ (getD_mem F.fin j 0 (by have := hF.finl; omega))
    · simp

/-- What is useful of one. -/
def IsUs (F U : TF) : Prop := ∃ p, UsOk F p ∧ U.st = (kT F p).st ∧ U.start = (kT F p).start ∧ U.fin = (kT F p).fin ∧ U.arcs = (kT F p).arcs
theorem IsUs.ok {F U : TF} (h : IsUs F U) (hF : WOk F) (hs : 0 ≤ F.start ∧ F.start < F.st) : WOk U ∧ (0 ≤ U.start ∧ U.start < U.st) ∧ U.st ≤ F.st := by
  obtain ⟨p, hp, h1, h2, h3, h4⟩ := h
  obtain ⟨a, b, c, d, e, f⟩ := U
  simp only at h1 h2 h3 h4
  subst h1 h2 h3 h4
  exact ⟨wk_kT hF hs p e f, (fr_kT hF.toFRng hs p e f).2⟩

theorem slDen (β : Env) (id sz n c : Nat) : SC.den β (.sl id sz 0 n c) = .slice (β id) n c := by
  have hid : ∀ o : Option Addr, o.map (fun x => x.add (0 * sz)) = o := fun o => by cases o <;> simp [Addr.add]
  simp only [SC.den, hid]

/-- What Made answers. -/
def MadePost (F : TF) (x : Obj) (v : SV) (s : S) : Prop := ∃ U, IsUs F U ∧
  ((200 < bgnF U 201 200 [⟨U.start, 0⟩] ∧ v = .tup [.agg zero25, .c (.b false)] ∧ s = ⟨[], [(2, tabO x)], 3⟩) ∨
   (bgnF U 201 200 [⟨U.start, 0⟩] ≤ 200 ∧ ∃ st : DS, MDone U st ∧ ∃ sp sq, v = .tup [.agg [.i (st.1.length : Nat), .i 0, .sl 3 1 0 (st.1.map (finD U)).length ((st.1.map (finD U)).length + sp), .sl 4 5 0 st.2.length (st.2.length + sq)], .c (.b true)] ∧
     s = ⟨[], [(2, tabO x), (3, .arr true 3 .int (st.1.map (finD U)) sp), (4, .arr true 50 .arc st.2 sq)], 5⟩))

set_option maxHeartbeats 16000000 in
set_option maxRecDepth 20000 in
theorem made_c (F : TF) (hF : WOk F) (hs : 0 ≤ F.start ∧ F.start < F.st) (hst1 : F.st ≤ 1000) (x : Obj) (hx : TabX x) : Ct Tryd.prog 37 [fV F] [] (hpF F ++ [(2, tabO x)]) 3 (MadePost F x) := by
  refine ctC Tryd.tyOk Tryd.func37 rfl (by simp [SV.lt, SA.lt, SC.lt, fV]) (by simp) (fr := [(0, fV F)]) rfl ?_
  refine SemC.cut Tryd.tyOk 10 [] (fun z : TF × Nat × Nat => ⟨[(2, .c (.ptr 3 0)), (4, .c (.ptr 4 0)), (5, .c (.sl 5 2 0 1 1))], (5, .arr true 80 .duo [⟨z.1.start, 0⟩] 0) :: hpM z.1 z.2.1 z.2.2 [] [] [] 0 [] [] 0 0 0 x, 13⟩)
    (fun z => IsUs F z.1 ∧ z.1.capF = z.1.fin.length + z.2.1 ∧ z.1.capA = z.1.arcs.length + z.2.2) 4 _ _ ?_ ?_
  · repeat' (first | exact rfl | ((conv => whnf); first | ((first | refine qA (fun h => ?_) fun h => ?_ | refine qN (fun h => ?_) fun h => ?_ | refine qB (fun h => ?_) fun h => ?_ | refine qC (fun h => ?_) fun h => ?_) <;> try exact absurd h (by omega)) | refine qM (fun h => ?_) fun h => ?_ | refine oM (by (first | omega | (simp only [lenS, InI, nmin, EK.sz]; omega) | (simp only [lenS, InI, nmin, EK.sz] at *; omega))) ?_ | refine oM ?_ ?_ | refine bM ?_ ?_ | refine draw_of Tryd.mixed Tryd.tyOk 60 (by kernel_rfl) ?_))
    (conv => whnf)
    refine callF (useful_c F hF.toFRng hs) [0, 1] Tryd.call63 rfl (by simp [eqLs, eqL, eqO, eqC, eqCs, rn, renOf, look_cons, look, EK.cast]) (by simp [appN, ptrs, eqVL, eqV, eqA, eqC, eqCs, eqAs, eqCaps, EK.sz, rn, renOf, look_cons, look, arcV, fV]) (by simp [appN, ptrs, SV.lt, SA.lt, SC.lt, arcV, fV, lenN]) ?_
    rintro v s ⟨p, hus, hv⟩
    generalize hkT : kT F p = T at hv
    obtain ⟨tst, tstart, tfin, tarcs, tc1, tc2⟩ := T
    obtain ⟨sp3, sq3, rfl, rfl⟩ := hv
    repeat' (first | exact rfl | ((conv => whnf); first | ((first | refine qA (fun h => ?_) fun h => ?_ | refine qN (fun h => ?_) fun h => ?_ | refine qB (fun h => ?_) fun h => ?_ | refine qC (fun h => ?_) fun h => ?_) <;> try exact absurd h (by omega)) | refine qM (fun h => ?_) fun h => ?_ | refine oM (by (first | omega | (simp only [lenS, InI, nmin, EK.sz]; omega) | (simp only [lenS, InI, nmin, EK.sz] at *; omega))) ?_ | refine oM ?_ ?_ | refine bM ?_ ?_ | refine draw_of Tryd.mixed Tryd.tyOk 60 (by kernel_rfl) ?_))
    (conv => whnf)
    simp only [Nat.reduceAdd, Nat.reduceSub]
    refine ⟨(⟨tst, tstart, tfin, tarcs, tfin.length + sp3, tarcs.length + sq3⟩, sp3, sq3), [(3, some 4), (4, some 8), (5, some 9), (6, some 5), (7, some 6), (8, some 7), (9, none), (10, none), (11, none), (12, none)], ⟨by rfl, ?_, ?_⟩, ⟨p, hus, by rw [hkT], by rw [hkT], by rw [hkT], by rw [hkT]⟩, rfl, rfl⟩
    · simp [eqFr, eqHp, eqV, eqA, eqC, eqO, eqCs, eqAs, look_cons, look, rn, EK.cast, EK.sz, eqCaps]
    · simp [eqFr, eqHp, eqV, eqA, eqC, eqO, eqCs, eqAs, look_cons, look, rn, EK.cast, EK.sz, eqCaps, nilO]
  · rintro ⟨U, spU, sqU⟩ ⟨hus, hcF, hcA⟩
    simp only at hus hcF hcA ⊢
    obtain ⟨hUw, hUs, hUst⟩ := hus.ok hF hs
    have hU0 := hUw.st
    have hUl := hUw.finl
    have hUa := hUw.arcl
    have hU1 : U.st ≤ 1000 := by omega
    have hs0 : SOk U 0 [⟨U.start, 0⟩] := ⟨by simp only [List.length_cons, List.length_nil]; omega, fun e he => by rw [List.mem_singleton] at he; subst he; simp only; omega⟩
    refine SemC.of Tryd.tyOk 10 [] ?_
    repeat' (first | exact rfl | ((conv => whnf); first | ((first | refine qA (fun h => ?_) fun h => ?_ | refine qN (fun h => ?_) fun h => ?_ | refine qB (fun h => ?_) fun h => ?_ | refine qC (fun h => ?_) fun h => ?_) <;> try exact absurd h (by omega)) | refine qM (fun h => ?_) fun h => ?_ | refine oM (by (first | omega | (simp only [lenS, InI, nmin, EK.sz]; omega) | (simp only [lenS, InI, nmin, EK.sz] at *; omega))) ?_ | refine oM ?_ ?_ | refine bM ?_ ?_ | refine draw_of Tryd.mixed Tryd.tyOk 60 (by kernel_rfl) ?_))
    (conv => whnf)
    refine callF (beg_c U hUw 0 0 0 0 0 0 0 0 201 200 [⟨U.start, 0⟩] 0 1 (by omega) (by omega) (by omega) (by omega) hs0) [6, 7, 4, 5, 8, 9, 10, 11, 12] Tryd.call64 rfl (by simp [eqLs, eqL, eqO, eqC, eqCs, rn, renOf, look_cons, look, EK.cast]) (by simp [appN, ptrs, eqVL, eqV, eqA, eqC, eqCs, eqAs, eqCaps, EK.sz, rn, renOf, look_cons, look, arcV, fV]) (by simp [appN, ptrs, SV.lt, SA.lt, SC.lt, arcV, fV, lenN]) ?_
    rintro _ _ ⟨rfl, rfl⟩
    have hble := bgnF_le U 201 200 [⟨U.start, 0⟩]
    have hTT := tree_ok U 201 200 [⟨U.start, 0⟩] (by omega)
    have hT0 := tree_self U 201 [⟨U.start, 0⟩]
    generalize hTe : treeL U 201 [⟨U.start, 0⟩] = T at *
    clear hTe
    generalize hbg : bgnF U 201 200 [⟨U.start, 0⟩] = bg at *
    by_cases hbig : 200 < bg
    · repeat' (first | exact rfl | ((conv => whnf); first | ((first | refine qA (fun h => ?_) fun h => ?_ | refine qN (fun h => ?_) fun h => ?_ | refine qB (fun h => ?_) fun h => ?_ | refine qC (fun h => ?_) fun h => ?_) <;> try exact absurd h (by omega)) | refine qM (fun h => ?_) fun h => ?_ | refine oM (by (first | omega | (simp only [lenS, InI, nmin, EK.sz]; omega) | (simp only [lenS, InI, nmin, EK.sz] at *; omega))) ?_ | refine oM ?_ ?_ | refine bM ?_ ?_ | refine draw_of Tryd.mixed Tryd.tyOk 60 (by kernel_rfl) ?_ | intro _))
      · (conv => whnf)
        exact ⟨[], [(2, tabO x)], 3, .tup [.agg zero25, .c (.b false)], ⟨by rfl, trivial, by simp [eqFr, eqHp, eqV, eqA, eqC, eqO, eqCs, eqAs, look_cons, look, rn, EK.cast, EK.sz, eqCaps]⟩, by simp [eqV, eqA, eqAs, eqC, eqCs], U, hus, .inl ⟨by omega, rfl, rfl⟩⟩
    · obtain ⟨hTl, hTc⟩ := hTT (by omega)
      have hT1 : T.length ≤ 200 := by omega
      simp only [Nat.reduceAdd, Nat.reduceSub]
      refine condP_dec (fun hc => absurd hc (by omega)) (fun _ => ?_)
      repeat' (first | exact rfl | ((conv => whnf); first | ((first | refine qA (fun h => ?_) fun h => ?_ | refine qN (fun h => ?_) fun h => ?_ | refine qB (fun h => ?_) fun h => ?_ | refine qC (fun h => ?_) fun h => ?_) <;> try exact absurd h (by omega)) | refine qM (fun h => ?_) fun h => ?_ | refine oM (by (first | omega | (simp only [lenS, InI, nmin, EK.sz]; omega) | (simp only [lenS, InI, nmin, EK.sz] at *; omega))) ?_ | refine oM ?_ ?_ | refine bM ?_ ?_ | refine draw_of Tryd.mixed Tryd.tyOk 60 (by kernel_rfl) ?_ | intro _))
      (conv => whnf)
      refine callFrz 5 10 1 1 (fun y => [.c (.ptr 4 0), .c (.h y)]) Tryd.call65 (fun β y hy => by simp only [appN, ptrs, List.map_cons, List.map_nil, SV.den, SA.den, hy, slDen]) ?_
      (conv => whnf)
      refine Ob.mk ⟨rfl, Nat.le_refl _⟩ ?_
      intro m1 y hfz
      obtain ⟨q1, q2, q3, q4⟩ := frz_hd (s := [(⟨U.start, 0⟩ : Duo)]) hfz (Nat.le_refl _) (by simp)
      obtain ⟨ya, yn, yc⟩ := y
      simp only at q2 q3 q4
      subst q3 q4
      have hnum0 : NumD [] [] := ⟨rfl, fun s _ => by rw [if_neg (by simp)]; rfl⟩
      (conv => whnf)
      refine callF (numberD_c U hUw hU1 x hx [] [] 0 [] m1 0 0 0 0 [⟨U.start, 0⟩] ya 1 0 (by omega) hs0 hnum0 ⟨rfl, fun j h => absurd h (Nat.not_lt_zero _), fun j h => absurd h (Nat.not_lt_zero _)⟩ q1 q2 (by simp)) [6, 7, 4, 3, 8, 9, 10, 11, 12, 2] Tryd.call65 rfl (by simp [eqLs, eqL, eqO, eqC, eqCs, rn, renOf, look_cons, look, EK.cast]) (by simp [appN, ptrs, eqVL, eqV, eqA, eqC, eqCs, eqAs, eqCaps, EK.sz, rn, renOf, look_cons, look, arcV, fV]) (by simp [appN, ptrs, SV.lt, SA.lt, SC.lt, arcV, fV, lenN]) ?_
      rintro _ _ ⟨es, clk, rows, spr, spf, hnum, htab, rfl, rfl⟩
      have hL0 : numL [] [(⟨U.start, 0⟩ : Duo)] = (rowsD U 0).1 := rfl
      rw [hL0] at hnum htab ⊢
      simp only [Nat.reduceAdd, Nat.reduceSub]
      repeat' (first | exact rfl | ((conv => whnf); first | ((first | refine qA (fun h => ?_) fun h => ?_ | refine qN (fun h => ?_) fun h => ?_ | refine qB (fun h => ?_) fun h => ?_ | refine qC (fun h => ?_) fun h => ?_) <;> try exact absurd h (by omega)) | refine qM (fun h => ?_) fun h => ?_ | refine oM (by (first | omega | (simp only [lenS, InI, nmin, EK.sz]; omega) | (simp only [lenS, InI, nmin, EK.sz] at *; omega))) ?_ | refine oM ?_ ?_ | refine bM ?_ ?_ | refine draw_of Tryd.mixed Tryd.tyOk 60 (by kernel_rfl) ?_ | intro _))
      (conv => whnf)
      refine loopI (fun z : Nat × List (ByteArray × Int × Nat) × Nat × List Sli × List (Addr × List Duo × Nat) × Nat × Nat × Nat => ⟨[(2, .c (.ptr 3 0)), (4, .c (.ptr 4 0)), (6, .i z.1)], hpM U spU sqU (rowsD U z.1).1 (rowsD U z.1).2 z.2.1 z.2.2.1 z.2.2.2.1 z.2.2.2.2.1 z.2.2.2.2.2.1 z.2.2.2.2.2.2.1 z.2.2.2.2.2.2.2 x, 13⟩)
        (fun z => MInv U T z.1 (rowsD U z.1) ∧ NumD z.2.1 (rowsD U z.1).1 ∧ TabD z.2.2.2.2.1 z.2.2.2.1 (rowsD U z.1).1 ∧ (rowsD U z.1).2.length ≤ 9 * z.1) (fun z => 200 - z.1) (0, es, clk, rows, m1, spr, spf, 0) [(9, some 13), (11, some 14)] ⟨by rfl, ?_, ?_⟩ ⟨MInv.start hUs hT0, hnum, htab, by simp [rowsD]⟩ ?_
      · simp [eqFr, eqHp, eqV, eqA, eqC, eqO, eqCs, eqAs, look_cons, look, rn, EK.cast, EK.sz, eqCaps]
      · simp [eqFr, eqHp, eqV, eqA, eqC, eqO, eqCs, eqAs, look_cons, look, rn, EK.cast, EK.sz, eqCaps, rowsD]
      · clear hnum htab hfz q1 q2
        rintro ⟨i, es, clk, rows, m, spr, spf, sra⟩ ⟨hM, hnum, htab, hra⟩
        simp only at hM hnum htab hra ⊢
        have hLT := nd_le hM.nd hM.sub
        have htl := htab.len
        have hil := hM.len.1
        generalize hst : rowsD U i = st at *
        (conv => whnf)
        refine condP_dec (fun hi => ?_) (fun hi => ?_)
        · have hi2 : i < st.1.length := by omega
          have hst1l : st.1.length ≤ 200 := by omega
          repeat' (first | exact rfl | ((conv => whnf); first | ((first | refine qA (fun h => ?_) fun h => ?_ | refine qN (fun h => ?_) fun h => ?_ | refine qB (fun h => ?_) fun h => ?_ | refine qC (fun h => ?_) fun h => ?_) <;> try exact absurd h (by omega)) | refine qM (fun h => ?_) fun h => ?_ | refine oM (by (first | omega | (simp only [lenS, InI, nmin, EK.sz]; omega) | (simp only [lenS, InI, nmin, EK.sz] at *; omega))) ?_ | refine oM ?_ ?_ | refine bM ?_ ?_ | refine draw_of Tryd.mixed Tryd.tyOk 60 (by kernel_rfl) ?_))
          (conv => whnf)
          refine loopI (fun z : Nat × List (ByteArray × Int × Nat) × Nat × List Sli × List (Addr × List Duo × Nat) × Nat × Nat × Nat => ⟨[(2, .c (.ptr 3 0)), (4, .c (.ptr 4 0)), (6, .i i), (7, .i ((z.1 : Int) + 1))], hpM U spU sqU (rowP U i st z.1).1 (rowP U i st z.1).2 z.2.1 z.2.2.1 z.2.2.2.1 z.2.2.2.2.1 z.2.2.2.2.2.1 z.2.2.2.2.2.2.1 z.2.2.2.2.2.2.2 x, 13⟩)
            (fun z => z.1 ≤ 9 ∧ MInv U T i (rowP U i st z.1) ∧ i < (rowP U i st z.1).1.length ∧ NumD z.2.1 (rowP U i st z.1).1 ∧ TabD z.2.2.2.2.1 z.2.2.2.1 (rowP U i st z.1).1 ∧ (rowP U i st z.1).2.length ≤ 9 * i + z.1) (fun z => 9 - z.1) (0, es, clk, rows, m, spr, spf, sra) [] ⟨by rfl, ?_, ?_⟩ ⟨Nat.zero_le _, hM, hi2, hnum, htab, hra⟩ ?_
          · simp [eqFr, eqHp, eqV, eqA, eqC, eqO, eqCs, eqAs, look_cons, look, rn, EK.cast, EK.sz, eqCaps]
          · simp [eqFr, eqHp, eqV, eqA, eqC, eqO, eqCs, eqAs, look_cons, look, rn, EK.cast, EK.sz, eqCaps, rowP]
          · clear hnum htab hra hLT htl hi
            rintro ⟨k, es, clk, rows, m, spr, spf, sra⟩ ⟨hk, hM2, hi3, hnum, htab, hra⟩
            simp only at hk hM2 hi3 hnum htab hra ⊢
            have hLT := nd_le hM2.nd hM2.sub
            have htl := htab.len
            have hks := rowP_succ U i st k
            have hstp := fun hc => hM2.step hi3 hU0.1 hUw.w (fun a ha => (hUw.arc a ha).2.2) hTc (c := k) hc
            have h9 : k = 9 → rowP U i st k = rowsD U (i + 1) := fun e => by rw [e]; show _ = rowP U i (rowsD U i) 9; rw [hst]
            generalize hst2 : rowP U i st k = st2 at *
            (conv => whnf)
            refine condP_dec (fun hk2 => ?_) (fun hk2 => ?_)
            · have e0 : 0 + (i : Int).toNat = i := by omega
              have hyh := htab.hd i hi3
              have hyr := htab.row i hi3
              have hok := hM2.ok i hi3
              have hyn : (rows.getD i EK.sli.dflt).n = (st2.1.getD i []).length := by rw [hyh.len, hyr]
              obtain ⟨hM3, hl3, hr3⟩ := hstp (by omega)
              rw [← hks] at hM3 hl3 hr3
              repeat' (first | exact rfl | ((conv => whnf); first | ((first | refine qA (fun h => ?_) fun h => ?_ | refine qN (fun h => ?_) fun h => ?_ | refine qB (fun h => ?_) fun h => ?_ | refine qC (fun h => ?_) fun h => ?_) <;> try exact absurd h (by omega)) | refine qM (fun h => ?_) fun h => ?_ | refine oM (by (first | omega | (simp only [lenS, InI, nmin, EK.sz]; omega) | (simp only [lenS, InI, nmin, EK.sz] at *; omega))) ?_ | refine oM ?_ ?_ | refine bM ?_ ?_ | refine draw_of Tryd.mixed Tryd.tyOk 60 (by kernel_rfl) ?_))
              (conv => whnf)
              refine callRow 10 [false, true, false] Tryd.call66 (by simp [appN, ptrs, SV.lt, SA.lt, SC.lt, fV]) ?_
              (conv => whnf)
              rw [e0]
              have hsbO := sbS_ok (c := (k : Int) + 1) hok (by omega) hU0.1 hUw.w
              have hsbN := fun h => sbS_ne (c := (k : Int) + 1) hok (by omega) hUw.w (fun a ha => (hUw.arc a ha).2.2) h
              have hstD : stD U i st2 ((k : Int) + 1) = if sbB U (st2.1.getD i []) ((k : Int) + 1) = -1 then st2 else (numL st2.1 (sbS U (st2.1.getD i []) ((k : Int) + 1)), st2.2 ++ [⟨(i : Nat), (k : Int) + 1, (k : Int) + 1, ((numL st2.1 (sbS U (st2.1.getD i []) ((k : Int) + 1))).idxOf (sbS U (st2.1.getD i []) ((k : Int) + 1)) : Nat), sbB U (st2.1.getD i []) ((k : Int) + 1)⟩]) := rfl
              rw [hstD] at hks
              clear hstD
              generalize rows.getD i EK.sli.dflt = yy at *
              generalize st2.1.getD i [] = s at *
              obtain ⟨ya2, yn2, yc2⟩ := yy
              simp only at hyn hyr
              subst hyn
              refine callF (on2_c U hUw s ((i : Int) * 1000000000) (by omega) hok yc2 ((k : Int) + 1) rows.length (rows.length + spr) (st2.1.map (finD U)).length ((st2.1.map (finD U)).length + spf) st2.2.length (st2.2.length + sra) 0 0) [6, 7, 4, 13, 8, 9, 10, 11, 12] Tryd.call66 rfl (by simp [eqLs, eqL, eqO, eqC, eqCs, rn, renOf, look_cons, look, EK.cast, rowsO, appN, lenN, hyr]) (by simp [appN, ptrs, eqVL, eqV, eqA, eqC, eqCs, eqAs, eqCaps, EK.sz, rn, renOf, look_cons, look, arcV, fV, rowsO, appN, lenN, hyr]) (by simp [appN, ptrs, SV.lt, SA.lt, SC.lt, arcV, fV, lenN]) ?_
              rintro _ _ ⟨sp, rfl, rfl⟩
              simp only [lenN, Nat.reduceAdd, Nat.reduceSub]
              generalize hsb : sbS U s ((k : Int) + 1) = sb at *
              generalize hbb : sbB U s ((k : Int) + 1) = bb at *
              repeat' (first | exact rfl | ((conv => whnf); first | ((first | refine qA (fun h => ?_) fun h => ?_ | refine qN (fun h => ?_) fun h => ?_ | refine qB (fun h => ?_) fun h => ?_ | refine qC (fun h => ?_) fun h => ?_) <;> try exact absurd h (by omega)) | refine qM (fun h => ?_) fun h => ?_ | refine oM (by (first | omega | (simp only [lenS, InI, nmin, EK.sz]; omega) | (simp only [lenS, InI, nmin, EK.sz] at *; omega))) ?_ | refine oM ?_ ?_ | refine bM ?_ ?_ | refine draw_of Tryd.mixed Tryd.tyOk 60 (by kernel_rfl) ?_ | intro _))
              · have hsn := hsbN h
                rw [if_neg h] at hks
                (conv => whnf)
                simp only [Nat.reduceAdd, Nat.reduceSub]
                refine callFrz 14 10 sb.length (sb.length + sp) (fun y => [.c (.ptr 4 0), .c (.h y)]) Tryd.call65 (fun β y hy => by simp only [appN, ptrs, List.map_cons, List.map_nil, SV.den, SA.den, hy, slDen]) ?_
                (conv => whnf)
                refine Ob.mk ⟨rfl, Nat.le_refl _⟩ ?_
                intro m1 y hfz
                obtain ⟨q1, q2, q3, q4⟩ := frz_hd hfz (Nat.le_refl _) hsn
                have htab1 := htab.frz hfz
                obtain ⟨ya3, yn3, yc3⟩ := y
                simp only at q2 q3 q4
                subst q3 q4
                (conv => whnf)
                refine callF (numberD_c U hUw hU1 x hx st2.1 es clk rows m1 spr spf st2.2.length (st2.2.length + sra) sb ya3 (sb.length + sp) ((i : Int) * 1000000000 + 1000000000) (by omega) hsbO.1 hnum htab1 q1 q2 (by omega)) [6, 7, 4, 3, 8, 9, 10, 11, 12, 2] Tryd.call65 rfl (by simp [eqLs, eqL, eqO, eqC, eqCs, rn, renOf, look_cons, look, EK.cast]) (by simp [appN, ptrs, eqVL, eqV, eqA, eqC, eqCs, eqAs, eqCaps, EK.sz, rn, renOf, look_cons, look, arcV, fV]) (by simp [appN, ptrs, SV.lt, SA.lt, SC.lt, arcV, fV, lenN]) ?_
                rintro _ _ ⟨es2, clk2, rows2, spr2, spf2, hnum2, htab2, rfl, rfl⟩
                repeat' (first | exact rfl | ((conv => whnf); first | ((first | refine qA (fun h => ?_) fun h => ?_ | refine qN (fun h => ?_) fun h => ?_ | refine qB (fun h => ?_) fun h => ?_ | refine qC (fun h => ?_) fun h => ?_) <;> try exact absurd h (by omega)) | refine qM (fun h => ?_) fun h => ?_ | refine oM (by (first | omega | (simp only [lenS, InI, nmin, EK.sz]; omega) | (simp only [lenS, InI, nmin, EK.sz] at *; omega))) ?_ | refine oM ?_ ?_ | refine bM ?_ ?_ | refine draw_of Tryd.mixed Tryd.tyOk 60 (by kernel_rfl) ?_ | intro _))
                (conv => whnf)
                simp only [Nat.reduceAdd, Nat.reduceSub]
                rename_i sra2
                have hap : lOp.appL (sub st2.2 0 st2.2.length) (sub [(⟨(i : Nat), (k : Int) + 1, (k : Int) + 1, ((numL st2.1 sb).idxOf sb : Nat), bb⟩ : Arc)] 0 1) = st2.2 ++ [⟨(i : Nat), (k : Int) + 1, (k : Int) + 1, ((numL st2.1 sb).idxOf sb : Nat), bb⟩] := app_one _ _ _ rfl
                have hnl := numL_len st2.1 sb
                refine ⟨(k + 1, es2, clk2, rows2, m1, spr2, spf2, sra2), [(9, some 15), (11, some 16), (12, some 18)], ⟨by rfl, ?_, ?_⟩, ⟨by simp only; omega, hM3, by simp only [hks]; omega, by simp only [hks]; exact hnum2, by simp only [hks]; exact htab2, by simp only [hks, List.length_append, List.length_cons, List.length_nil]; omega⟩, by simp only; omega⟩
                · simp [eqFr, eqHp, eqV, eqA, eqC, eqO, eqCs, eqAs, look_cons, look, rn, EK.cast, EK.sz, eqCaps, hks]
                · simp [eqFr, eqHp, eqV, eqA, eqC, eqO, eqCs, eqAs, look_cons, look, rn, EK.cast, EK.sz, eqCaps, hks, hap]
              · rw [if_pos h] at hks
                (conv => whnf)
                refine ⟨(k + 1, es, clk, rows, m, spr, spf, sra), [], ⟨by rfl, ?_, ?_⟩, ⟨by simp only; omega, hM3, by simp only [hks]; exact hi3, by simp only [hks]; exact hnum, by simp only [hks]; exact htab, by simp only [hks]; omega⟩, by simp only; omega⟩
                · simp [eqFr, eqHp, eqV, eqA, eqC, eqO, eqCs, eqAs, look_cons, look, rn, EK.cast, EK.sz, eqCaps, hks]
                · simp [eqFr, eqHp, eqV, eqA, eqC, eqO, eqCs, eqAs, look_cons, look, rn, EK.cast, EK.sz, eqCaps, hks, appN]
            · have e : k = 9 := by omega
              subst e
              have h10 := h9 rfl
              rw [h10] at hM2 hi3 hnum htab hra
              rw [h10]
              repeat' (first | exact rfl | ((conv => whnf); first | ((first | refine qA (fun h => ?_) fun h => ?_ | refine qN (fun h => ?_) fun h => ?_ | refine qB (fun h => ?_) fun h => ?_ | refine qC (fun h => ?_) fun h => ?_) <;> try exact absurd h (by omega)) | refine qM (fun h => ?_) fun h => ?_ | refine oM (by (first | omega | (simp only [lenS, InI, nmin, EK.sz]; omega) | (simp only [lenS, InI, nmin, EK.sz] at *; omega))) ?_ | refine oM ?_ ?_ | refine bM ?_ ?_ | refine draw_of Tryd.mixed Tryd.tyOk 60 (by kernel_rfl) ?_))
              (conv => whnf)
              refine ⟨(i + 1, es, clk, rows, m, spr, spf, sra), [], ⟨by rfl, ?_, ?_⟩, ⟨⟨hM2.sub, hM2.nd, hM2.ok, hM2.ne, ⟨hi3, hM2.len.2⟩, hM2.raw⟩, hnum, htab, by simp only; omega⟩, by simp only; omega⟩
              · simp [eqFr, eqHp, eqV, eqA, eqC, eqO, eqCs, eqAs, look_cons, look, rn, EK.cast, EK.sz, eqCaps]
              · simp [eqFr, eqHp, eqV, eqA, eqC, eqO, eqCs, eqAs, look_cons, look, rn, EK.cast, EK.sz, eqCaps]
        · have hid : i = st.1.length := by omega
          have hel := hnum.len
          repeat' (first | exact rfl | ((conv => whnf); first | ((first | refine qA (fun h => ?_) fun h => ?_ | refine qN (fun h => ?_) fun h => ?_ | refine qB (fun h => ?_) fun h => ?_ | refine qC (fun h => ?_) fun h => ?_) <;> try exact absurd h (by omega)) | refine qM (fun h => ?_) fun h => ?_ | refine oM (by (first | omega | (simp only [lenS, InI, nmin, EK.sz]; omega) | (simp only [lenS, InI, nmin, EK.sz] at *; omega))) ?_ | refine oM ?_ ?_ | refine bM ?_ ?_ | refine draw_of Tryd.mixed Tryd.tyOk 60 (by kernel_rfl) ?_))
          (conv => whnf)
          exact ⟨[(3, some 11), (4, some 12)], [(2, tabO x), (3, .arr true 3 .int (st.1.map (finD U)) spf), (4, .arr true 50 .arc st.2 sra)], 5, .tup [.agg [.i (st.1.length : Nat), .i 0, .sl 3 1 0 (st.1.map (finD U)).length ((st.1.map (finD U)).length + spf), .sl 4 5 0 st.2.length (st.2.length + sra)], .c (.b true)], ⟨by rfl, trivial, by simp [eqFr, eqHp, eqV, eqA, eqC, eqO, eqCs, eqAs, look_cons, look, rn, EK.cast, EK.sz, eqCaps]⟩, by simp [eqV, eqA, eqAs, eqC, eqCs, rn, look, look_cons, hel], U, hus, .inr ⟨by omega, st, ⟨i, hst, hid⟩, spf, sra, rfl, rfl⟩⟩
end Go.Fw

namespace Go.Fw
open Go Go.Proofs

def fineB (F : TF) : Bool := bothB F && !silB F && !roundB F.arcs F.st.toNat
def greatB (arcs : List Arc) (fin : List Int) : Bool := (arcs.any fun a => decide (a.w > 1000000000)) || fin.any fun x => decide (x > 1000000000)

theorem FRng.of {F : TF} (h : FOk F) : FRng F := by
  have := h.st
  have := h.arcl
  refine ⟨by omega, h.finl, by omega, fun a ha => ?_⟩
  obtain ⟨q1, q2, q3, q4, _⟩ := h.arc a ha
  exact ⟨q1, q2, q3, q4⟩

set_option maxHeartbeats 4000000 in
set_option maxRecDepth 20000 in
theorem great_c (F : TF) (h1 : F.arcs.length ≤ 9223372036854775807) (h2 : F.fin.length ≤ 9223372036854775807) : Ct Tryd.prog 38 [fV F] [] (hpF F) 2 (Is 2 (.b (greatB F.arcs F.fin))) := by
  refine ctW Tryd.tyOk 3 [] Tryd.func38 rfl (by simp [SV.lt, SA.lt, SC.lt, arcV, fV]) (by simp) (fr := [(0, fV F)]) rfl ?_
  repeat' (first | exact rfl | ((conv => whnf); first | ((first | refine qA (fun h => ?_) fun h => ?_ | refine qN (fun h => ?_) fun h => ?_ | refine qB (fun h => ?_) fun h => ?_ | refine qC (fun h => ?_) fun h => ?_) <;> try exact absurd h (by omega)) | refine qM (fun h => ?_) fun h => ?_ | refine oM (by (first | omega | (simp only [lenS, InI, nmin, EK.sz]; omega) | (simp only [lenS, InI, nmin, EK.sz] at *; omega))) ?_ | refine oM ?_ ?_ | refine bM ?_ ?_ | refine draw_of Tryd.mixed Tryd.tyOk 60 (by kernel_rfl) ?_))
  (conv => whnf)
  refine callI (containsFuncA_c F.arcs F.capA (by omega) 67 (fun a => decide (a.w > 1000000000)) great1_c Tryd.call67) [1] Tryd.call60 rfl (by simp [eqLs, eqL, eqO, eqC, eqCs, rn, renOf, look_cons, look, EK.cast]) (by simp [appN, ptrs, eqVL, eqV, eqA, eqC, eqCs, eqAs, eqCaps, EK.sz, rn, renOf, look_cons, look, arcV, fV]) (by simp [appN, ptrs, SV.lt, SA.lt, SC.lt, arcV, fV]) ?_
  unfold greatB
  generalize (F.arcs.any fun a => decide (a.w > 1000000000)) = x
  cases x with
  | true =>
    repeat' (first | exact rfl | ((conv => whnf); first | ((first | refine qA (fun h => ?_) fun h => ?_ | refine qN (fun h => ?_) fun h => ?_ | refine qB (fun h => ?_) fun h => ?_ | refine qC (fun h => ?_) fun h => ?_) <;> try exact absurd h (by omega)) | refine qM (fun h => ?_) fun h => ?_ | refine oM (by (first | omega | (simp only [lenS, InI, nmin, EK.sz]; omega) | (simp only [lenS, InI, nmin, EK.sz] at *; omega))) ?_ | refine oM ?_ ?_ | refine bM ?_ ?_ | refine draw_of Tryd.mixed Tryd.tyOk 60 (by kernel_rfl) ?_))
    (conv => whnf)
    refine Back.is ?_
    simp [eqV, eqA, eqC]
  | false =>
    repeat' (first | exact rfl | ((conv => whnf); first | ((first | refine qA (fun h => ?_) fun h => ?_ | refine qN (fun h => ?_) fun h => ?_ | refine qB (fun h => ?_) fun h => ?_ | refine qC (fun h => ?_) fun h => ?_) <;> try exact absurd h (by omega)) | refine qM (fun h => ?_) fun h => ?_ | refine oM (by (first | omega | (simp only [lenS, InI, nmin, EK.sz]; omega) | (simp only [lenS, InI, nmin, EK.sz] at *; omega))) ?_ | refine oM ?_ ?_ | refine bM ?_ ?_ | refine draw_of Tryd.mixed Tryd.tyOk 60 (by kernel_rfl) ?_))
    (conv => whnf)
    refine callI (containsFunc_c F.fin F.capF (by omega) 68 (fun a => decide (a > 1000000000)) great2_c Tryd.call68) [0] Tryd.call57 rfl (by simp [eqLs, eqL, eqO, eqC, eqCs, rn, renOf, look_cons, look, EK.cast]) (by simp [appN, ptrs, eqVL, eqV, eqA, eqC, eqCs, eqAs, eqCaps, EK.sz, rn, renOf, look_cons, look, arcV, fV]) (by simp [appN, ptrs, SV.lt, SA.lt, SC.lt, arcV, fV]) ?_
    repeat' (first | exact rfl | ((conv => whnf); first | ((first | refine qA (fun h => ?_) fun h => ?_ | refine qN (fun h => ?_) fun h => ?_ | refine qB (fun h => ?_) fun h => ?_ | refine qC (fun h => ?_) fun h => ?_) <;> try exact absurd h (by omega)) | refine qM (fun h => ?_) fun h => ?_ | refine oM (by (first | omega | (simp only [lenS, InI, nmin, EK.sz]; omega) | (simp only [lenS, InI, nmin, EK.sz] at *; omega))) ?_ | refine oM ?_ ?_ | refine bM ?_ ?_ | refine draw_of Tryd.mixed Tryd.tyOk 60 (by kernel_rfl) ?_))
    (conv => whnf)
    refine Back.is ?_
    simp [eqV, eqA, eqC]

set_option maxHeartbeats 4000000 in
set_option maxRecDepth 20000 in
theorem fine_c (F : TF) (hF : FRng F) : Ct Tryd.prog 36 [fV F] [] (hpF F) 2 (Is 2 (.b (fineB F))) := by
  have hal := hF.arcl
  refine ctW Tryd.tyOk 3 [] Tryd.func36 rfl (by simp [SV.lt, SA.lt, SC.lt, arcV, fV]) (by simp) (fr := [(0, fV F)]) rfl ?_
  repeat' (first | exact rfl | ((conv => whnf); first | ((first | refine qA (fun h => ?_) fun h => ?_ | refine qN (fun h => ?_) fun h => ?_ | refine qB (fun h => ?_) fun h => ?_ | refine qC (fun h => ?_) fun h => ?_) <;> try exact absurd h (by omega)) | refine qM (fun h => ?_) fun h => ?_ | refine oM (by (first | omega | (simp only [lenS, InI, nmin, EK.sz]; omega) | (simp only [lenS, InI, nmin, EK.sz] at *; omega))) ?_ | refine oM ?_ ?_ | refine bM ?_ ?_ | refine draw_of Tryd.mixed Tryd.tyOk 60 (by kernel_rfl) ?_))
  (conv => whnf)
  refine callI (both_c F (by omega)) [0, 1] Tryd.call30 rfl (by simp [eqLs, eqL, eqO, eqC, eqCs, rn, renOf, look_cons, look, EK.cast]) (by simp [appN, ptrs, eqVL, eqV, eqA, eqC, eqCs, eqAs, eqCaps, EK.sz, rn, renOf, look_cons, look, arcV, fV]) (by simp [appN, ptrs, SV.lt, SA.lt, SC.lt, arcV, fV]) ?_
  unfold fineB
  generalize bothB F = x
  cases x with
  | false =>
    repeat' (first | exact rfl | ((conv => whnf); first | ((first | refine qA (fun h => ?_) fun h => ?_ | refine qN (fun h => ?_) fun h => ?_ | refine qB (fun h => ?_) fun h => ?_ | refine qC (fun h => ?_) fun h => ?_) <;> try exact absurd h (by omega)) | refine qM (fun h => ?_) fun h => ?_ | refine oM (by (first | omega | (simp only [lenS, InI, nmin, EK.sz]; omega) | (simp only [lenS, InI, nmin, EK.sz] at *; omega))) ?_ | refine oM ?_ ?_ | refine bM ?_ ?_ | refine draw_of Tryd.mixed Tryd.tyOk 60 (by kernel_rfl) ?_))
    (conv => whnf)
    refine Back.is ?_
    simp [eqV, eqA, eqC]
  | true =>
    repeat' (first | exact rfl | ((conv => whnf); first | ((first | refine qA (fun h => ?_) fun h => ?_ | refine qN (fun h => ?_) fun h => ?_ | refine qB (fun h => ?_) fun h => ?_ | refine qC (fun h => ?_) fun h => ?_) <;> try exact absurd h (by omega)) | refine qM (fun h => ?_) fun h => ?_ | refine oM (by (first | omega | (simp only [lenS, InI, nmin, EK.sz]; omega) | (simp only [lenS, InI, nmin, EK.sz] at *; omega))) ?_ | refine oM ?_ ?_ | refine bM ?_ ?_ | refine draw_of Tryd.mixed Tryd.tyOk 60 (by kernel_rfl) ?_))
    (conv => whnf)
    refine callI (containsFuncA_c F.arcs F.capA (by omega) 62 (fun a => a.i == 0) fine1_c Tryd.call62) [1] Tryd.call60 rfl (by simp [eqLs, eqL, eqO, eqC, eqCs, rn, renOf, look_cons, look, EK.cast]) (by simp [appN, ptrs, eqVL, eqV, eqA, eqC, eqCs, eqAs, eqCaps, EK.sz, rn, renOf, look_cons, look, arcV, fV]) (by simp [appN, ptrs, SV.lt, SA.lt, SC.lt, arcV, fV]) ?_
    have e : (F.arcs.any fun a => a.i == 0) = silB F := rfl
    rw [e]
    generalize silB F = y
    cases y with
    | true =>
      repeat' (first | exact rfl | ((conv => whnf); first | ((first | refine qA (fun h => ?_) fun h => ?_ | refine qN (fun h => ?_) fun h => ?_ | refine qB (fun h => ?_) fun h => ?_ | refine qC (fun h => ?_) fun h => ?_) <;> try exact absurd h (by omega)) | refine qM (fun h => ?_) fun h => ?_ | refine oM (by (first | omega | (simp only [lenS, InI, nmin, EK.sz]; omega) | (simp only [lenS, InI, nmin, EK.sz] at *; omega))) ?_ | refine oM ?_ ?_ | refine bM ?_ ?_ | refine draw_of Tryd.mixed Tryd.tyOk 60 (by kernel_rfl) ?_))
      (conv => whnf)
      refine Back.is ?_
      simp [eqV, eqA, eqC]
    | false =>
      repeat' (first | exact rfl | ((conv => whnf); first | ((first | refine qA (fun h => ?_) fun h => ?_ | refine qN (fun h => ?_) fun h => ?_ | refine qB (fun h => ?_) fun h => ?_ | refine qC (fun h => ?_) fun h => ?_) <;> try exact absurd h (by omega)) | refine qM (fun h => ?_) fun h => ?_ | refine oM (by (first | omega | (simp only [lenS, InI, nmin, EK.sz]; omega) | (simp only [lenS, InI, nmin, EK.sz] at *; omega))) ?_ | refine oM ?_ ?_ | refine bM ?_ ?_ | refine draw_of Tryd.mixed Tryd.tyOk 60 (by kernel_rfl) ?_))
      (conv => whnf)
      refine callI (circles_c F hF) [0, 1] Tryd.call32 rfl (by simp [eqLs, eqL, eqO, eqC, eqCs, rn, renOf, look_cons, look, EK.cast]) (by simp [appN, ptrs, eqVL, eqV, eqA, eqC, eqCs, eqAs, eqCaps, EK.sz, rn, renOf, look_cons, look, arcV, fV]) (by simp [appN, ptrs, SV.lt, SA.lt, SC.lt, arcV, fV]) ?_
      repeat' (first | exact rfl | ((conv => whnf); first | ((first | refine qA (fun h => ?_) fun h => ?_ | refine qN (fun h => ?_) fun h => ?_ | refine qB (fun h => ?_) fun h => ?_ | refine qC (fun h => ?_) fun h => ?_) <;> try exact absurd h (by omega)) | refine qM (fun h => ?_) fun h => ?_ | refine oM (by (first | omega | (simp only [lenS, InI, nmin, EK.sz]; omega) | (simp only [lenS, InI, nmin, EK.sz] at *; omega))) ?_ | refine oM ?_ ?_ | refine bM ?_ ?_ | refine draw_of Tryd.mixed Tryd.tyOk 60 (by kernel_rfl) ?_))
      (conv => whnf)
      refine Back.is ?_
      simp [eqV, eqA, eqC]

/-- What Is answers, and Round. -/
def isV (F : TF) : SV := if fstE F = 0 then .tup [.c (.b (bothB F && sglB F.arcs)), .c (.i 0)] else .tup [.c (.b false), .c (.i (fstE F))]
def roundV (F : TF) : SV := if fstE F = 0 then .tup [.c (.b (roundB F.arcs F.st.toNat)), .c (.i 0)] else .tup [.c (.b false), .c (.i (fstE F))]

set_option maxHeartbeats 4000000 in
set_option maxRecDepth 20000 in
theorem is_c (F : TF) (hl : F.fin.length ≤ 9223372036854775807) : Ct Tryd.prog 8 [fV F] [] (hpF F) 2 (Is 2 (isV F)) := by
  by_cases h : fstE F = 0
  · have hF := fstE_ok h
    have hal := hF.arcl
    unfold isV
    rw [if_pos h]
    refine ctW Tryd.tyOk 5 [] Tryd.func8 rfl (by simp [SV.lt, SA.lt, SC.lt, arcV, fV]) (by simp) (fr := [(0, fV F)]) rfl ?_
    repeat' (first | exact rfl | ((conv => whnf); first | ((first | refine qA (fun h => ?_) fun h => ?_ | refine qN (fun h => ?_) fun h => ?_ | refine qB (fun h => ?_) fun h => ?_ | refine qC (fun h => ?_) fun h => ?_) <;> try exact absurd h (by omega)) | refine qM (fun h => ?_) fun h => ?_ | refine oM (by (first | omega | (simp only [lenS, InI, nmin, EK.sz]; omega) | (simp only [lenS, InI, nmin, EK.sz] at *; omega))) ?_ | refine oM ?_ ?_ | refine bM ?_ ?_ | refine draw_of Tryd.mixed Tryd.tyOk 60 (by kernel_rfl) ?_))
    refine callI (check_c F hl) [0, 1] Tryd.call29 rfl (by simp [eqLs, eqL, eqO, eqC, eqCs, rn, renOf, look_cons, look, EK.cast]) (by simp [appN, ptrs, eqVL, eqV, eqA, eqC, eqCs, eqAs, eqCaps, EK.sz, rn, renOf, look_cons, look, arcV, fV]) (by simp [appN, ptrs, SV.lt, SA.lt, SC.lt, arcV, fV]) ?_
    rw [h]
    repeat' (first | exact rfl | ((conv => whnf); first | ((first | refine qA (fun h => ?_) fun h => ?_ | refine qN (fun h => ?_) fun h => ?_ | refine qB (fun h => ?_) fun h => ?_ | refine qC (fun h => ?_) fun h => ?_) <;> try exact absurd h (by omega)) | refine qM (fun h => ?_) fun h => ?_ | refine oM (by (first | omega | (simp only [lenS, InI, nmin, EK.sz]; omega) | (simp only [lenS, InI, nmin, EK.sz] at *; omega))) ?_ | refine oM ?_ ?_ | refine bM ?_ ?_ | refine draw_of Tryd.mixed Tryd.tyOk 60 (by kernel_rfl) ?_))
    (conv => whnf)
    refine callI (both_c F (by omega)) [0, 1] Tryd.call30 rfl (by simp [eqLs, eqL, eqO, eqC, eqCs, rn, renOf, look_cons, look, EK.cast]) (by simp [appN, ptrs, eqVL, eqV, eqA, eqC, eqCs, eqAs, eqCaps, EK.sz, rn, renOf, look_cons, look, arcV, fV]) (by simp [appN, ptrs, SV.lt, SA.lt, SC.lt, arcV, fV]) ?_
    generalize bothB F = x
    cases x with
    | false =>
      repeat' (first | exact rfl | ((conv => whnf); first | ((first | refine qA (fun h => ?_) fun h => ?_ | refine qN (fun h => ?_) fun h => ?_ | refine qB (fun h => ?_) fun h => ?_ | refine qC (fun h => ?_) fun h => ?_) <;> try exact absurd h (by omega)) | refine qM (fun h => ?_) fun h => ?_ | refine oM (by (first | omega | (simp only [lenS, InI, nmin, EK.sz]; omega) | (simp only [lenS, InI, nmin, EK.sz] at *; omega))) ?_ | refine oM ?_ ?_ | refine bM ?_ ?_ | refine draw_of Tryd.mixed Tryd.tyOk 60 (by kernel_rfl) ?_))
      (conv => whnf)
      refine Back.is ?_
      simp [eqV, eqA, eqAs, eqC]
    | true =>
      repeat' (first | exact rfl | ((conv => whnf); first | ((first | refine qA (fun h => ?_) fun h => ?_ | refine qN (fun h => ?_) fun h => ?_ | refine qB (fun h => ?_) fun h => ?_ | refine qC (fun h => ?_) fun h => ?_) <;> try exact absurd h (by omega)) | refine qM (fun h => ?_) fun h => ?_ | refine oM (by (first | omega | (simp only [lenS, InI, nmin, EK.sz]; omega) | (simp only [lenS, InI, nmin, EK.sz] at *; omega))) ?_ | refine oM ?_ ?_ | refine bM ?_ ?_ | refine draw_of Tryd.mixed Tryd.tyOk 60 (by kernel_rfl) ?_))
      (conv => whnf)
      refine callI (single_c F (by omega)) [0, 1] Tryd.call31 rfl (by simp [eqLs, eqL, eqO, eqC, eqCs, rn, renOf, look_cons, look, EK.cast]) (by simp [appN, ptrs, eqVL, eqV, eqA, eqC, eqCs, eqAs, eqCaps, EK.sz, rn, renOf, look_cons, look, arcV, fV]) (by simp [appN, ptrs, SV.lt, SA.lt, SC.lt, arcV, fV]) ?_
      repeat' (first | exact rfl | ((conv => whnf); first | ((first | refine qA (fun h => ?_) fun h => ?_ | refine qN (fun h => ?_) fun h => ?_ | refine qB (fun h => ?_) fun h => ?_ | refine qC (fun h => ?_) fun h => ?_) <;> try exact absurd h (by omega)) | refine qM (fun h => ?_) fun h => ?_ | refine oM (by (first | omega | (simp only [lenS, InI, nmin, EK.sz]; omega) | (simp only [lenS, InI, nmin, EK.sz] at *; omega))) ?_ | refine oM ?_ ?_ | refine bM ?_ ?_ | refine draw_of Tryd.mixed Tryd.tyOk 60 (by kernel_rfl) ?_))
      (conv => whnf)
      refine Back.is ?_
      simp [eqV, eqA, eqAs, eqC]
  · unfold isV
    rw [if_neg h]
    refine ctW Tryd.tyOk 5 [] Tryd.func8 rfl (by simp [SV.lt, SA.lt, SC.lt, arcV, fV]) (by simp) (fr := [(0, fV F)]) rfl ?_
    repeat' (first | exact rfl | ((conv => whnf); first | ((first | refine qA (fun h => ?_) fun h => ?_ | refine qN (fun h => ?_) fun h => ?_ | refine qB (fun h => ?_) fun h => ?_ | refine qC (fun h => ?_) fun h => ?_) <;> try exact absurd h (by omega)) | refine qM (fun h => ?_) fun h => ?_ | refine oM (by (first | omega | (simp only [lenS, InI, nmin, EK.sz]; omega) | (simp only [lenS, InI, nmin, EK.sz] at *; omega))) ?_ | refine oM ?_ ?_ | refine bM ?_ ?_ | refine draw_of Tryd.mixed Tryd.tyOk 60 (by kernel_rfl) ?_))
    refine callI (check_c F hl) [0, 1] Tryd.call29 rfl (by simp [eqLs, eqL, eqO, eqC, eqCs, rn, renOf, look_cons, look, EK.cast]) (by simp [appN, ptrs, eqVL, eqV, eqA, eqC, eqCs, eqAs, eqCaps, EK.sz, rn, renOf, look_cons, look, arcV, fV]) (by simp [appN, ptrs, SV.lt, SA.lt, SC.lt, arcV, fV]) ?_
    repeat' (first | exact rfl | ((conv => whnf); first | ((first | refine qA (fun h => ?_) fun h => ?_ | refine qN (fun h => ?_) fun h => ?_ | refine qB (fun h => ?_) fun h => ?_ | refine qC (fun h => ?_) fun h => ?_) <;> try exact absurd h (by omega)) | refine qM (fun h => ?_) fun h => ?_ | refine oM (by (first | omega | (simp only [lenS, InI, nmin, EK.sz]; omega) | (simp only [lenS, InI, nmin, EK.sz] at *; omega))) ?_ | refine oM ?_ ?_ | refine bM ?_ ?_ | refine draw_of Tryd.mixed Tryd.tyOk 60 (by kernel_rfl) ?_))
    (conv => whnf)
    refine Back.is ?_
    simp [eqV, eqA, eqAs, eqC]

set_option maxHeartbeats 4000000 in
set_option maxRecDepth 20000 in
theorem round_c (F : TF) (hl : F.fin.length ≤ 9223372036854775807) : Ct Tryd.prog 9 [fV F] [] (hpF F) 2 (Is 2 (roundV F)) := by
  by_cases h : fstE F = 0
  · have hF := fstE_ok h
    unfold roundV
    rw [if_pos h]
    refine ctW Tryd.tyOk 5 [] Tryd.func9 rfl (by simp [SV.lt, SA.lt, SC.lt, arcV, fV]) (by simp) (fr := [(0, fV F)]) rfl ?_
    repeat' (first | exact rfl | ((conv => whnf); first | ((first | refine qA (fun h => ?_) fun h => ?_ | refine qN (fun h => ?_) fun h => ?_ | refine qB (fun h => ?_) fun h => ?_ | refine qC (fun h => ?_) fun h => ?_) <;> try exact absurd h (by omega)) | refine qM (fun h => ?_) fun h => ?_ | refine oM (by (first | omega | (simp only [lenS, InI, nmin, EK.sz]; omega) | (simp only [lenS, InI, nmin, EK.sz] at *; omega))) ?_ | refine oM ?_ ?_ | refine bM ?_ ?_ | refine draw_of Tryd.mixed Tryd.tyOk 60 (by kernel_rfl) ?_))
    refine callI (check_c F hl) [0, 1] Tryd.call29 rfl (by simp [eqLs, eqL, eqO, eqC, eqCs, rn, renOf, look_cons, look, EK.cast]) (by simp [appN, ptrs, eqVL, eqV, eqA, eqC, eqCs, eqAs, eqCaps, EK.sz, rn, renOf, look_cons, look, arcV, fV]) (by simp [appN, ptrs, SV.lt, SA.lt, SC.lt, arcV, fV]) ?_
    rw [h]
    repeat' (first | exact rfl | ((conv => whnf); first | ((first | refine qA (fun h => ?_) fun h => ?_ | refine qN (fun h => ?_) fun h => ?_ | refine qB (fun h => ?_) fun h => ?_ | refine qC (fun h => ?_) fun h => ?_) <;> try exact absurd h (by omega)) | refine qM (fun h => ?_) fun h => ?_ | refine oM (by (first | omega | (simp only [lenS, InI, nmin, EK.sz]; omega) | (simp only [lenS, InI, nmin, EK.sz] at *; omega))) ?_ | refine oM ?_ ?_ | refine bM ?_ ?_ | refine draw_of Tryd.mixed Tryd.tyOk 60 (by kernel_rfl) ?_))
    (conv => whnf)
    refine callI (circles_c F (FRng.of hF)) [0, 1] Tryd.call32 rfl (by simp [eqLs, eqL, eqO, eqC, eqCs, rn, renOf, look_cons, look, EK.cast]) (by simp [appN, ptrs, eqVL, eqV, eqA, eqC, eqCs, eqAs, eqCaps, EK.sz, rn, renOf, look_cons, look, arcV, fV]) (by simp [appN, ptrs, SV.lt, SA.lt, SC.lt, arcV, fV]) ?_
    repeat' (first | exact rfl | ((conv => whnf); first | ((first | refine qA (fun h => ?_) fun h => ?_ | refine qN (fun h => ?_) fun h => ?_ | refine qB (fun h => ?_) fun h => ?_ | refine qC (fun h => ?_) fun h => ?_) <;> try exact absurd h (by omega)) | refine qM (fun h => ?_) fun h => ?_ | refine oM (by (first | omega | (simp only [lenS, InI, nmin, EK.sz]; omega) | (simp only [lenS, InI, nmin, EK.sz] at *; omega))) ?_ | refine oM ?_ ?_ | refine bM ?_ ?_ | refine draw_of Tryd.mixed Tryd.tyOk 60 (by kernel_rfl) ?_))
    (conv => whnf)
    refine Back.is ?_
    simp [eqV, eqA, eqAs, eqC]
  · unfold roundV
    rw [if_neg h]
    refine ctW Tryd.tyOk 5 [] Tryd.func9 rfl (by simp [SV.lt, SA.lt, SC.lt, arcV, fV]) (by simp) (fr := [(0, fV F)]) rfl ?_
    repeat' (first | exact rfl | ((conv => whnf); first | ((first | refine qA (fun h => ?_) fun h => ?_ | refine qN (fun h => ?_) fun h => ?_ | refine qB (fun h => ?_) fun h => ?_ | refine qC (fun h => ?_) fun h => ?_) <;> try exact absurd h (by omega)) | refine qM (fun h => ?_) fun h => ?_ | refine oM (by (first | omega | (simp only [lenS, InI, nmin, EK.sz]; omega) | (simp only [lenS, InI, nmin, EK.sz] at *; omega))) ?_ | refine oM ?_ ?_ | refine bM ?_ ?_ | refine draw_of Tryd.mixed Tryd.tyOk 60 (by kernel_rfl) ?_))
    refine callI (check_c F hl) [0, 1] Tryd.call29 rfl (by simp [eqLs, eqL, eqO, eqC, eqCs, rn, renOf, look_cons, look, EK.cast]) (by simp [appN, ptrs, eqVL, eqV, eqA, eqC, eqCs, eqAs, eqCaps, EK.sz, rn, renOf, look_cons, look, arcV, fV]) (by simp [appN, ptrs, SV.lt, SA.lt, SC.lt, arcV, fV]) ?_
    repeat' (first | exact rfl | ((conv => whnf); first | ((first | refine qA (fun h => ?_) fun h => ?_ | refine qN (fun h => ?_) fun h => ?_ | refine qB (fun h => ?_) fun h => ?_ | refine qC (fun h => ?_) fun h => ?_) <;> try exact absurd h (by omega)) | refine qM (fun h => ?_) fun h => ?_ | refine oM (by (first | omega | (simp only [lenS, InI, nmin, EK.sz]; omega) | (simp only [lenS, InI, nmin, EK.sz] at *; omega))) ?_ | refine oM ?_ ?_ | refine bM ?_ ?_ | refine draw_of Tryd.mixed Tryd.tyOk 60 (by kernel_rfl) ?_))
    (conv => whnf)
    refine Back.is ?_
    simp [eqV, eqA, eqAs, eqC]
end Go.Fw

/-
  When all is made, nothing more comes; what is made is one thing alone.
-/
namespace Go.Fw
open Go Go.Proofs

theorem stD_stop {U : TF} {i : Nat} {st : DS} (h : st.1.length ≤ i) (c : Int) : stD U i st c = st := by
  have e : st.1.getD i [] = [] := by simp only [List.getD, List.getElem?_eq_none h]; rfl
  unfold stD
  rw [e, if_pos (show sbB U [] c = -1 from rfl)]
theorem rowP_stop {U : TF} {i : Nat} {st : DS} (h : st.1.length ≤ i) (k : Nat) : rowP U i st k = st := by
  induction k with
  | zero => rfl
  | succ k ih => rw [rowP_succ, ih, stD_stop h]
theorem rows_stop {U : TF} {j : Nat} (h : (rowsD U j).1.length ≤ j) (d : Nat) : rowsD U (j + d) = rowsD U j := by
  induction d with
  | zero => rfl
  | succ d ih =>
    show rowP U (j + d) (rowsD U (j + d)) 9 = _
    rw [ih, rowP_stop (by omega)]
theorem MDone.uniq {U : TF} {st st' : DS} (h : MDone U st) (h' : MDone U st') : st = st' := by
  obtain ⟨k, e, hk⟩ := h
  obtain ⟨k', e', hk'⟩ := h'
  rcases Nat.le_total k k' with hle | hle
  · have := rows_stop (U := U) (j := k) (by rw [e, hk]; exact Nat.le_refl _) (k' - k)
    rw [show k + (k' - k) = k' by omega, e, e'] at this
    exact this.symm
  · have := rows_stop (U := U) (j := k') (by rw [e', hk']; exact Nat.le_refl _) (k - k')
    rw [show k' + (k - k') = k by omega, e, e'] at this
    exact this

section
variable {U : TF} {T : List (List Duo)} (hU : 0 ≤ U.st) (hw : ∀ a ∈ U.arcs, 0 ≤ a.w ∧ a.w ≤ 1000000000) (hr : ∀ a ∈ U.arcs, 0 ≤ a.t ∧ a.t < U.st) (hs : 0 ≤ U.start ∧ U.start < U.st)
    (hT0 : [⟨U.start, 0⟩] ∈ T) (hT : ∀ t ∈ T, ∀ c : Nat, c < 9 → sbB U t ((c : Int) + 1) ≠ -1 → sbS U t ((c : Int) + 1) ∈ T)
include hU hw hr hT

theorem MInv.row {i : Nat} {st : DS} (h : MInv U T i st) (hi : i < st.1.length) (k : Nat) (hk : k ≤ 9) : MInv U T i (rowP U i st k) ∧ st.1.length ≤ (rowP U i st k).1.length ∧ (rowP U i st k).2.length ≤ st.2.length + k := by
  induction k with
  | zero => exact ⟨h, Nat.le_refl _, Nat.le_refl _⟩
  | succ k ih =>
    obtain ⟨h1, h2, h3⟩ := ih (by omega)
    obtain ⟨g1, g2, g3⟩ := h1.step (by omega) hU hw hr hT (c := k) (by omega)
    rw [rowP_succ]
    exact ⟨g1, by omega, by omega⟩
include hs hT0
theorem MDone.inv {st : DS} (h : MDone U st) : MInv U T st.1.length st ∧ st.2.length ≤ 9 * st.1.length := by
  obtain ⟨k, e, hk⟩ := h
  have hlt : ∀ j, j < k → j < (rowsD U j).1.length := by
    intro j hj
    refine Classical.byContradiction fun hc => ?_
    have := rows_stop (U := U) (j := j) (by omega) (k - j)
    rw [show j + (k - j) = k by omega, e] at this
    rw [← this] at hc
    omega
  have : ∀ j, j ≤ k → MInv U T j (rowsD U j) ∧ (rowsD U j).2.length ≤ 9 * j := by
    intro j
    induction j with
    | zero => intro _; exact ⟨MInv.start hs hT0, by simp [rowsD]⟩
    | succ j ih =>
      intro hj
      obtain ⟨h1, h2⟩ := ih (by omega)
      have h3 := hlt j (by omega)
      obtain ⟨g1, g2, g3⟩ := h1.row hU hw hr hT h3 9 (Nat.le_refl _)
      refine ⟨⟨g1.sub, g1.nd, g1.ok, g1.ne, ⟨?_, g1.len.2⟩, g1.raw⟩, ?_⟩
      · show j + 1 ≤ (rowP U j (rowsD U j) 9).1.length
        omega
      · show (rowP U j (rowsD U j) 9).2.length ≤ _
        omega
  have h := this k (Nat.le_refl _)
  rw [e, hk] at h
  exact h
end
theorem MDone.small {U : TF} (hU : 0 ≤ U.st) (hw : ∀ a ∈ U.arcs, 0 ≤ a.w ∧ a.w ≤ 1000000000) (hr : ∀ a ∈ U.arcs, 0 ≤ a.t ∧ a.t < U.st) (hs : 0 ≤ U.start ∧ U.start < U.st) (hb : bgnF U 201 200 [⟨U.start, 0⟩] ≤ 200) {st : DS} (h : MDone U st) :
    MInv U (treeL U 201 [⟨U.start, 0⟩]) st.1.length st ∧ st.1.length ≤ 200 ∧ st.2.length ≤ 1800 := by
  obtain ⟨g1, g2⟩ := tree_ok U 201 200 [⟨U.start, 0⟩] (by omega) hb
  obtain ⟨h1, h2⟩ := h.inv hU hw hr hs (tree_self _ _ _) g2
  have := nd_le h1.nd h1.sub
  exact ⟨h1, by omega, by omega⟩
end Go.Fw

namespace Go.Fw
open Go Go.Proofs

/-- What Determine says is wrong before it begins. -/
def detE (F : TF) : Int := if fstE F ≠ 0 then fstE F else if fineB F = true then 0 else 4

theorem WOk.of {F : TF} (h : FOk F) : WOk F := ⟨FRng.of h, fun a ha => ⟨(h.arc a ha).w0, (h.arc a ha).w1⟩, h.fin⟩

/-- What Determine answers. -/
def DetPost (F : TF) (x : Obj) (v : SV) (s : S) : Prop :=
  (detE F ≠ 0 ∧ v = .tup [.agg zero25, .c (.i (detE F))] ∧ s = ⟨[], [(2, tabO x)], 3⟩) ∨
  (detE F = 0 ∧ ∃ U, IsUs F U ∧
    (((200 < bgnF U 201 200 [⟨U.start, 0⟩] ∨ bgnF U 201 200 [⟨U.start, 0⟩] ≤ 200 ∧ ∃ st : DS, MDone U st ∧ greatB st.2 (st.1.map (finD U)) = true) ∧ v = .tup [.agg zero25, .c (.i 2)] ∧ s = ⟨[], [(2, tabO x)], 3⟩) ∨
     (bgnF U 201 200 [⟨U.start, 0⟩] ≤ 200 ∧ ∃ st : DS, MDone U st ∧ greatB st.2 (st.1.map (finD U)) = false ∧ ∃ sp sq, v = .tup [.agg [.i (st.1.length : Nat), .i 0, .sl 3 1 0 (st.1.map (finD U)).length ((st.1.map (finD U)).length + sp), .sl 4 5 0 st.2.length (st.2.length + sq)], .c (.i 0)] ∧
       s = ⟨[], [(2, tabO x), (3, .arr true 3 .int (st.1.map (finD U)) sp), (4, .arr true 50 .arc st.2 sq)], 5⟩)))

set_option maxHeartbeats 4000000 in
set_option maxRecDepth 20000 in
theorem determine_c (F : TF) (hl : F.fin.length ≤ 9223372036854775807) (x : Obj) (hx : TabX x) : Ct Tryd.prog 15 [fV F] [] (hpF F ++ [(2, tabO x)]) 3 (DetPost F x) := by
  by_cases h : fstE F = 0
  · have hF := fstE_ok h
    have hst := hF.st
    have hss := hF.start
    by_cases hf : fineB F = true
    · have hd : detE F = 0 := by unfold detE; rw [if_neg (fun c => c h), if_pos hf]
      refine ctW Tryd.tyOk 7 [] Tryd.func15 rfl (by simp [SV.lt, SA.lt, SC.lt, arcV, fV]) (by simp) (fr := [(0, fV F)]) rfl ?_
      repeat' (first | exact rfl | ((conv => whnf); first | ((first | refine qA (fun h => ?_) fun h => ?_ | refine qN (fun h => ?_) fun h => ?_ | refine qB (fun h => ?_) fun h => ?_ | refine qC (fun h => ?_) fun h => ?_) <;> try exact absurd h (by omega)) | refine qM (fun h => ?_) fun h => ?_ | refine oM (by (first | omega | (simp only [lenS, InI, nmin, EK.sz]; omega) | (simp only [lenS, InI, nmin, EK.sz] at *; omega))) ?_ | refine oM ?_ ?_ | refine bM ?_ ?_ | refine draw_of Tryd.mixed Tryd.tyOk 60 (by kernel_rfl) ?_))
      refine callI (check_c F hl) [0, 1] Tryd.call29 rfl (by simp [eqLs, eqL, eqO, eqC, eqCs, rn, renOf, look_cons, look, EK.cast]) (by simp [appN, ptrs, eqVL, eqV, eqA, eqC, eqCs, eqAs, eqCaps, EK.sz, rn, renOf, look_cons, look, arcV, fV]) (by simp [appN, ptrs, SV.lt, SA.lt, SC.lt, arcV, fV]) ?_
      rw [h]
      repeat' (first | exact rfl | ((conv => whnf); first | ((first | refine qA (fun h => ?_) fun h => ?_ | refine qN (fun h => ?_) fun h => ?_ | refine qB (fun h => ?_) fun h => ?_ | refine qC (fun h => ?_) fun h => ?_) <;> try exact absurd h (by omega)) | refine qM (fun h => ?_) fun h => ?_ | refine oM (by (first | omega | (simp only [lenS, InI, nmin, EK.sz]; omega) | (simp only [lenS, InI, nmin, EK.sz] at *; omega))) ?_ | refine oM ?_ ?_ | refine bM ?_ ?_ | refine draw_of Tryd.mixed Tryd.tyOk 60 (by kernel_rfl) ?_))
      (conv => whnf)
      refine callI (fine_c F (FRng.of hF)) [0, 1] Tryd.call36 rfl (by simp [eqLs, eqL, eqO, eqC, eqCs, rn, renOf, look_cons, look, EK.cast]) (by simp [appN, ptrs, eqVL, eqV, eqA, eqC, eqCs, eqAs, eqCaps, EK.sz, rn, renOf, look_cons, look, arcV, fV]) (by simp [appN, ptrs, SV.lt, SA.lt, SC.lt, arcV, fV]) ?_
      rw [hf]
      repeat' (first | exact rfl | ((conv => whnf); first | ((first | refine qA (fun h => ?_) fun h => ?_ | refine qN (fun h => ?_) fun h => ?_ | refine qB (fun h => ?_) fun h => ?_ | refine qC (fun h => ?_) fun h => ?_) <;> try exact absurd h (by omega)) | refine qM (fun h => ?_) fun h => ?_ | refine oM (by (first | omega | (simp only [lenS, InI, nmin, EK.sz]; omega) | (simp only [lenS, InI, nmin, EK.sz] at *; omega))) ?_ | refine oM ?_ ?_ | refine bM ?_ ?_ | refine draw_of Tryd.mixed Tryd.tyOk 60 (by kernel_rfl) ?_))
      (conv => whnf)
      refine callF (made_c F (WOk.of hF) (by omega) (by omega) x hx) [0, 1, 2] Tryd.call37 rfl (by simp [eqLs, eqL, eqO, eqC, eqCs, rn, renOf, look_cons, look, EK.cast]) (by simp [appN, ptrs, eqVL, eqV, eqA, eqC, eqCs, eqAs, eqCaps, EK.sz, rn, renOf, look_cons, look, arcV, fV]) (by simp [appN, ptrs, SV.lt, SA.lt, SC.lt, arcV, fV, lenN]) ?_
      rintro v s ⟨U, hus, ⟨h1, rfl, rfl⟩ | ⟨h1, st, hmd, sp, sq, rfl, rfl⟩⟩
      · simp only [Nat.reduceAdd, Nat.reduceSub]
        repeat' (first | exact rfl | ((conv => whnf); first | ((first | refine qA (fun h => ?_) fun h => ?_ | refine qN (fun h => ?_) fun h => ?_ | refine qB (fun h => ?_) fun h => ?_ | refine qC (fun h => ?_) fun h => ?_) <;> try exact absurd h (by omega)) | refine qM (fun h => ?_) fun h => ?_ | refine oM (by (first | omega | (simp only [lenS, InI, nmin, EK.sz]; omega) | (simp only [lenS, InI, nmin, EK.sz] at *; omega))) ?_ | refine oM ?_ ?_ | refine bM ?_ ?_ | refine draw_of Tryd.mixed Tryd.tyOk 60 (by kernel_rfl) ?_ | intro _))
        (conv => whnf)
        exact ⟨[], [(2, tabO x)], 3, .tup [.agg zero25, .c (.i 2)], ⟨by rfl, trivial, by simp [eqFr, eqHp, eqV, eqA, eqC, eqO, eqCs, eqAs, look_cons, look, rn, EK.cast, EK.sz, eqCaps]⟩, by simp [eqV, eqA, eqAs, eqC, eqCs], .inr ⟨hd, U, hus, .inl ⟨.inl h1, rfl, rfl⟩⟩⟩
      · simp only [Nat.reduceAdd, Nat.reduceSub]
        repeat' (first | exact rfl | ((conv => whnf); first | ((first | refine qA (fun h => ?_) fun h => ?_ | refine qN (fun h => ?_) fun h => ?_ | refine qB (fun h => ?_) fun h => ?_ | refine qC (fun h => ?_) fun h => ?_) <;> try exact absurd h (by omega)) | refine qM (fun h => ?_) fun h => ?_ | refine oM (by (first | omega | (simp only [lenS, InI, nmin, EK.sz]; omega) | (simp only [lenS, InI, nmin, EK.sz] at *; omega))) ?_ | refine oM ?_ ?_ | refine bM ?_ ?_ | refine draw_of Tryd.mixed Tryd.tyOk 60 (by kernel_rfl) ?_ | intro _))
        (conv => whnf)
        simp only [Nat.reduceAdd, Nat.reduceSub]
        obtain ⟨hUw, hUs, _⟩ := hus.ok (WOk.of hF) hss
        obtain ⟨_, hs1, hs2⟩ := hmd.small hUw.st.1 hUw.w (fun a ha => (hUw.arc a ha).2.2) hUs h1
        have hgc := great_c ⟨(st.1.length : Nat), 0, st.1.map (finD U), st.2, (st.1.map (finD U)).length + sp, st.2.length + sq⟩ (by simp only; omega) (by simp only [List.length_map]; omega)
        refine callI (hgc) [5, 6] Tryd.call38 rfl (by simp [eqLs, eqL, eqO, eqC, eqCs, rn, renOf, look_cons, look, EK.cast]) (by simp [appN, ptrs, eqVL, eqV, eqA, eqC, eqCs, eqAs, eqCaps, EK.sz, rn, renOf, look_cons, look, arcV, fV]) (by simp [appN, ptrs, SV.lt, SA.lt, SC.lt, arcV, fV]) ?_
        simp only
        cases hg : greatB st.2 (st.1.map (finD U)) with
        | true =>
          repeat' (first | exact rfl | ((conv => whnf); first | ((first | refine qA (fun h => ?_) fun h => ?_ | refine qN (fun h => ?_) fun h => ?_ | refine qB (fun h => ?_) fun h => ?_ | refine qC (fun h => ?_) fun h => ?_) <;> try exact absurd h (by omega)) | refine qM (fun h => ?_) fun h => ?_ | refine oM (by (first | omega | (simp only [lenS, InI, nmin, EK.sz]; omega) | (simp only [lenS, InI, nmin, EK.sz] at *; omega))) ?_ | refine oM ?_ ?_ | refine bM ?_ ?_ | refine draw_of Tryd.mixed Tryd.tyOk 60 (by kernel_rfl) ?_))
          (conv => whnf)
          exact ⟨[], [(2, tabO x)], 3, .tup [.agg zero25, .c (.i 2)], ⟨by rfl, trivial, by simp [eqFr, eqHp, eqV, eqA, eqC, eqO, eqCs, eqAs, look_cons, look, rn, EK.cast, EK.sz, eqCaps]⟩, by simp [eqV, eqA, eqAs, eqC, eqCs], .inr ⟨hd, U, hus, .inl ⟨.inr ⟨h1, st, hmd, hg⟩, rfl, rfl⟩⟩⟩
        | false =>
          repeat' (first | exact rfl | ((conv => whnf); first | ((first | refine qA (fun h => ?_) fun h => ?_ | refine qN (fun h => ?_) fun h => ?_ | refine qB (fun h => ?_) fun h => ?_ | refine qC (fun h => ?_) fun h => ?_) <;> try exact absurd h (by omega)) | refine qM (fun h => ?_) fun h => ?_ | refine oM (by (first | omega | (simp only [lenS, InI, nmin, EK.sz]; omega) | (simp only [lenS, InI, nmin, EK.sz] at *; omega))) ?_ | refine oM ?_ ?_ | refine bM ?_ ?_ | refine draw_of Tryd.mixed Tryd.tyOk 60 (by kernel_rfl) ?_))
          (conv => whnf)
          exact ⟨[(3, some 5), (4, some 6)], [(2, tabO x), (3, .arr true 3 .int (st.1.map (finD U)) sp), (4, .arr true 50 .arc st.2 sq)], 5, .tup [.agg [.i (st.1.length : Nat), .i 0, .sl 3 1 0 (st.1.map (finD U)).length ((st.1.map (finD U)).length + sp), .sl 4 5 0 st.2.length (st.2.length + sq)], .c (.i 0)], ⟨by rfl, trivial, by simp [eqFr, eqHp, eqV, eqA, eqC, eqO, eqCs, eqAs, look_cons, look, rn, EK.cast, EK.sz, eqCaps]⟩, by simp [eqV, eqA, eqAs, eqC, eqCs, rn, look, look_cons], .inr ⟨hd, U, hus, .inr ⟨h1, st, hmd, hg, sp, sq, rfl, rfl⟩⟩⟩
    · have hd : detE F = 4 := by unfold detE; rw [if_neg (fun c => c h), if_neg hf]
      have hf2 : fineB F = false := by simpa using hf
      refine ctW Tryd.tyOk 7 [] Tryd.func15 rfl (by simp [SV.lt, SA.lt, SC.lt, arcV, fV]) (by simp) (fr := [(0, fV F)]) rfl ?_
      repeat' (first | exact rfl | ((conv => whnf); first | ((first | refine qA (fun h => ?_) fun h => ?_ | refine qN (fun h => ?_) fun h => ?_ | refine qB (fun h => ?_) fun h => ?_ | refine qC (fun h => ?_) fun h => ?_) <;> try exact absurd h (by omega)) | refine qM (fun h => ?_) fun h => ?_ | refine oM (by (first | omega | (simp only [lenS, InI, nmin, EK.sz]; omega) | (simp only [lenS, InI, nmin, EK.sz] at *; omega))) ?_ | refine oM ?_ ?_ | refine bM ?_ ?_ | refine draw_of Tryd.mixed Tryd.tyOk 60 (by kernel_rfl) ?_))
      refine callI (check_c F hl) [0, 1] Tryd.call29 rfl (by simp [eqLs, eqL, eqO, eqC, eqCs, rn, renOf, look_cons, look, EK.cast]) (by simp [appN, ptrs, eqVL, eqV, eqA, eqC, eqCs, eqAs, eqCaps, EK.sz, rn, renOf, look_cons, look, arcV, fV]) (by simp [appN, ptrs, SV.lt, SA.lt, SC.lt, arcV, fV]) ?_
      rw [h]
      repeat' (first | exact rfl | ((conv => whnf); first | ((first | refine qA (fun h => ?_) fun h => ?_ | refine qN (fun h => ?_) fun h => ?_ | refine qB (fun h => ?_) fun h => ?_ | refine qC (fun h => ?_) fun h => ?_) <;> try exact absurd h (by omega)) | refine qM (fun h => ?_) fun h => ?_ | refine oM (by (first | omega | (simp only [lenS, InI, nmin, EK.sz]; omega) | (simp only [lenS, InI, nmin, EK.sz] at *; omega))) ?_ | refine oM ?_ ?_ | refine bM ?_ ?_ | refine draw_of Tryd.mixed Tryd.tyOk 60 (by kernel_rfl) ?_))
      (conv => whnf)
      refine callI (fine_c F (FRng.of hF)) [0, 1] Tryd.call36 rfl (by simp [eqLs, eqL, eqO, eqC, eqCs, rn, renOf, look_cons, look, EK.cast]) (by simp [appN, ptrs, eqVL, eqV, eqA, eqC, eqCs, eqAs, eqCaps, EK.sz, rn, renOf, look_cons, look, arcV, fV]) (by simp [appN, ptrs, SV.lt, SA.lt, SC.lt, arcV, fV]) ?_
      rw [hf2]
      repeat' (first | exact rfl | ((conv => whnf); first | ((first | refine qA (fun h => ?_) fun h => ?_ | refine qN (fun h => ?_) fun h => ?_ | refine qB (fun h => ?_) fun h => ?_ | refine qC (fun h => ?_) fun h => ?_) <;> try exact absurd h (by omega)) | refine qM (fun h => ?_) fun h => ?_ | refine oM (by (first | omega | (simp only [lenS, InI, nmin, EK.sz]; omega) | (simp only [lenS, InI, nmin, EK.sz] at *; omega))) ?_ | refine oM ?_ ?_ | refine bM ?_ ?_ | refine draw_of Tryd.mixed Tryd.tyOk 60 (by kernel_rfl) ?_))
      (conv => whnf)
      exact ⟨[], [(2, tabO x)], 3, .tup [.agg zero25, .c (.i 4)], ⟨by rfl, trivial, by simp [eqFr, eqHp, eqV, eqA, eqC, eqO, eqCs, eqAs, look_cons, look, rn, EK.cast, EK.sz, eqCaps]⟩, by simp [eqV, eqA, eqAs, eqC, eqCs], .inl ⟨by rw [hd]; decide, by rw [hd], rfl⟩⟩
  · have hd : detE F = fstE F := by unfold detE; rw [if_pos h]
    refine ctW Tryd.tyOk 7 [] Tryd.func15 rfl (by simp [SV.lt, SA.lt, SC.lt, arcV, fV]) (by simp) (fr := [(0, fV F)]) rfl ?_
    repeat' (first | exact rfl | ((conv => whnf); first | ((first | refine qA (fun h => ?_) fun h => ?_ | refine qN (fun h => ?_) fun h => ?_ | refine qB (fun h => ?_) fun h => ?_ | refine qC (fun h => ?_) fun h => ?_) <;> try exact absurd h (by omega)) | refine qM (fun h => ?_) fun h => ?_ | refine oM (by (first | omega | (simp only [lenS, InI, nmin, EK.sz]; omega) | (simp only [lenS, InI, nmin, EK.sz] at *; omega))) ?_ | refine oM ?_ ?_ | refine bM ?_ ?_ | refine draw_of Tryd.mixed Tryd.tyOk 60 (by kernel_rfl) ?_))
    refine callI (check_c F hl) [0, 1] Tryd.call29 rfl (by simp [eqLs, eqL, eqO, eqC, eqCs, rn, renOf, look_cons, look, EK.cast]) (by simp [appN, ptrs, eqVL, eqV, eqA, eqC, eqCs, eqAs, eqCaps, EK.sz, rn, renOf, look_cons, look, arcV, fV]) (by simp [appN, ptrs, SV.lt, SA.lt, SC.lt, arcV, fV]) ?_
    repeat' (first | exact rfl | ((conv => whnf); first | ((first | refine qA (fun h => ?_) fun h => ?_ | refine qN (fun h => ?_) fun h => ?_ | refine qB (fun h => ?_) fun h => ?_ | refine qC (fun h => ?_) fun h => ?_) <;> try exact absurd h (by omega)) | refine qM (fun h => ?_) fun h => ?_ | refine oM (by (first | omega | (simp only [lenS, InI, nmin, EK.sz]; omega) | (simp only [lenS, InI, nmin, EK.sz] at *; omega))) ?_ | refine oM ?_ ?_ | refine bM ?_ ?_ | refine draw_of Tryd.mixed Tryd.tyOk 60 (by kernel_rfl) ?_))
    (conv => whnf)
    exact ⟨[], [(2, tabO x)], 3, .tup [.agg zero25, .c (.i (fstE F))], ⟨by rfl, trivial, by simp [eqFr, eqHp, eqV, eqA, eqC, eqO, eqCs, eqAs, look_cons, look, rn, EK.cast, EK.sz, eqCaps]⟩, by simp [eqV, eqA, eqAs, eqC, eqCs], .inl ⟨by rw [hd]; exact h, by rw [hd], rfl⟩⟩
end Go.Fw

namespace Go.Fw
open Go Go.Proofs

/-- Back along the arcs. -/
def chain (D : Trip → Option Fnd) : Nat → Trip → List Int
  | 0, _ => []
  | n + 1, y => match D y with
    | none => []
    | some c => if 0 ≤ c.arc then c.arc :: chain D n ⟨c.s, c.i, c.o⟩ else []

theorem chain_stop {D : Trip → Option Fnd} {y : Trip} {c : Fnd} (h : D y = some c) (ha : ¬ c.arc ≥ 0) (n : Nat) : chain D n y = [] := by
  cases n with
  | zero => rfl
  | succ n => simp only [chain, h]; exact if_neg ha

theorem chain_on {D : Trip → Option Fnd} {y : Trip} {c : Fnd} (h : D y = some c) (ha : c.arc ≥ 0) (n : Nat) : chain D (n + 1) y = c.arc :: chain D n ⟨c.s, c.i, c.o⟩ := by
  simp only [chain, h]; exact if_pos ha

theorem endF_D {D : Trip → Option Int} {fin : List Int} {p q : Int} : ∀ k, (endF D fin p q k).2 ≠ -1 → ∃ d, D (endF D fin p q k).1 = some d
  | 0, h => absurd rfl h
  | k + 1, h => by
    cases hd : D ⟨k, p, q⟩ with
    | none => rw [endF_none hd] at h ⊢; exact endF_D k h
    | some d =>
      by_cases c : fin.getD k 0 ≠ -1 ∧ ((endF D fin p q k).2 = -1 ∨ d + fin.getD k 0 < (endF D fin p q k).2)
      · rw [endF_yes hd c.1 c.2]; exact ⟨d, hd⟩
      · have e : endF D fin p q (k + 1) = endF D fin p q k := by simp only [endF, hd]; exact if_neg c
        rw [e] at h ⊢
        exact endF_D k h

/-- What Walk tells. -/
def WalkIs (F : TF) (u v : List Int) (E : Trip × Int) (l : List Int) : Prop :=
  ∃ D ord rk B n, Dj F u v D ord rk B (fun _ _ => True) ∧ (∀ y d, D y = some d → d.dn = true) ∧ E = endF (fun y => (D y).map (·.cost)) F.fin u.length v.length F.fin.length ∧ rk E.1 < n ∧ l.reverse = chain D n E.1

set_option maxHeartbeats 8000000 in
set_option maxRecDepth 20000 in
theorem walkP_c (F : TF) (u v : List Int) (cu cv : Nat) (hl : F.fin.length ≤ 9223372036854775807) (hsc : scoreE F u v = 0) :
    Ct Tryd.prog 43 [fV F, .c (.sl 2 1 0 u.length cu), .c (.sl 3 1 0 v.length cv)] [] (hpQ F u v) 4 (fun x s =>
      (∃ A, IsLeast F u v (fromSt F) A ∧ (endF A F.fin u.length v.length F.fin.length).2 = -1 ∧ x = .tup [.c (.v (.slice none 0 0)), .c (.i (-1)), .c (.i 0)] ∧ s = ⟨[], [], 4⟩) ∨
      ∃ E l sp, WalkIs F u v E l ∧ E.2 ≠ -1 ∧ x = .tup [.c (.sl 4 1 0 l.length (l.length + sp)), .c (.i E.2), .c (.i 0)] ∧ s = ⟨[], [(4, .arr true 3 .int l sp)], 5⟩) := by
  refine ctW Tryd.tyOk 15 [] Tryd.func43 rfl (by simp [SV.lt, SA.lt, SC.lt, arcV, fV]) (by simp) (fr := [(0, fV F), (1, .c (.sl 2 1 0 u.length cu)), (2, .c (.sl 3 1 0 v.length cv))]) rfl ?_
  repeat' (first | exact rfl | ((conv => whnf); first | ((first | refine qA (fun h => ?_) fun h => ?_ | refine qN (fun h => ?_) fun h => ?_ | refine qB (fun h => ?_) fun h => ?_ | refine qC (fun h => ?_) fun h => ?_) <;> try exact absurd h (by omega)) | refine qM (fun h => ?_) fun h => ?_ | refine oM (by (first | omega | (simp only [lenS, InI, nmin, EK.sz]; omega) | (simp only [lenS, InI, nmin, EK.sz] at *; omega))) ?_ | refine oM ?_ ?_ | refine bM ?_ ?_ | refine draw_of Tryd.mixed Tryd.tyOk 60 (by kernel_rfl) ?_))
  (conv => whnf)
  refine callF (walk_ok F u v cu cv hl hsc) [0, 1, 2, 3] Tryd.call45 rfl (by simp [eqLs, eqL, eqO, eqC, eqCs, rn, renOf, look_cons, look, EK.cast]) (by simp [appN, ptrs, eqVL, eqV, eqA, eqC, eqCs, eqAs, eqCaps, EK.sz, rn, renOf, look_cons, look, arcV, fV]) (by simp [appN, ptrs, SV.lt, SA.lt, SC.lt, arcV, fV, lenN]) ?_
  rintro _ _ ⟨rows, pi, es, clk, pf, ⟨hm, ord, rk, B, hol, hD, hB, hall⟩, rfl, rfl⟩
  have hL := hD.least hall
  have hed := endF_D (D := costOf es pf) (fin := F.fin) (p := u.length) (q := v.length) F.fin.length
  generalize hE : endF (costOf es pf) F.fin u.length v.length F.fin.length = E at *
  obtain ⟨⟨E1, E2, E3⟩, Ec⟩ := E
  simp only at hed ⊢
  repeat' (first | exact rfl | ((conv => whnf); first | ((first | refine qA (fun h => ?_) fun h => ?_ | refine qN (fun h => ?_) fun h => ?_ | refine qB (fun h => ?_) fun h => ?_ | refine qC (fun h => ?_) fun h => ?_) <;> try exact absurd h (by omega)) | refine qM (fun h => ?_) fun h => ?_ | refine oM (by (first | omega | (simp only [lenS, InI, nmin, EK.sz]; omega) | (simp only [lenS, InI, nmin, EK.sz] at *; omega))) ?_ | refine oM ?_ ?_ | refine bM ?_ ?_ | refine draw_of Tryd.mixed Tryd.tyOk 60 (by kernel_rfl) ?_))
  · (conv => whnf)
    refine ⟨[], [], 4, .tup [.c (.v (.slice none 0 0)), .c (.i (-1)), .c (.i 0)], ⟨by rfl, trivial, trivial⟩, by simp [eqV, eqA, eqAs, eqC, eqCs, h], .inl ⟨costOf es pf, hL, ?_, rfl, rfl⟩⟩
    rw [hE]
    exact h
  obtain ⟨d0, hd0⟩ := hed h
  obtain ⟨d, hd, -⟩ := Option.map_eq_some_iff.1 hd0
  obtain ⟨a, nn, r1, r2, r3, r4⟩ := hm.of hd
  have e1 : (@lkM EK.trip.ty EK.adr.ty (EK.instDeq .trip) es (⟨E1, E2, E3⟩ : Trip)).getD EK.adr.dflt = some a := congrArg (fun x => Option.getD x none) r3
  have hmem : ∀ y d, metOf es pf y = some d → y ∈ ord := fun y d hy => (hD.dn y d hy).1 (hall y d hy)
  repeat' (first | exact rfl | ((conv => whnf); first | ((first | refine qA (fun h => ?_) fun h => ?_ | refine qN (fun h => ?_) fun h => ?_ | refine qB (fun h => ?_) fun h => ?_ | refine qC (fun h => ?_) fun h => ?_) <;> try exact absurd h (by omega)) | refine qM (fun h => ?_) fun h => ?_ | refine oM (by (first | omega | (simp only [lenS, InI, nmin, EK.sz]; omega) | (simp only [lenS, InI, nmin, EK.sz] at *; omega))) ?_ | refine oM ?_ ?_ | refine bM ?_ ?_ | refine draw_of Tryd.mixed Tryd.tyOk 60 (by kernel_rfl) ?_))
  (conv => whnf)
  rw [e1]
  refine loopI (fun y : List Int × Nat × Addr × Trip × Nat => ⟨[(6, .c (.v (.slice none 0 0))), (7, .i 0), (8, .i 0), (9, .c (.ptr 5 0)), (10, .c (.ptr 10 0)), (11, .i Ec), (12, .i 0), (13, .c (.sl 11 1 0 y.1.length (y.1.length + y.2.1))), (14, .c (.q (some y.2.2.1)))],
    (4, .box 25 (fCells F)) :: (5, .box 90 [.i F.st, .i F.start, .sl 0 1 0 F.fin.length F.capF, .sl 1 5 0 F.arcs.length F.capA, .sl 2 1 0 u.length cu, .sl 3 1 0 v.length cv, .sl 6 1 0 rows.length rows.length, .mp 9]) :: (8, .pool 92 .fnd pf) :: (9, .map .trip .adr es clk) :: (10, .box 64 [.i E1, .i E2, .i E3]) :: (11, .arr true 3 .int y.1 y.2.1) :: hpQ F u v, 12⟩)
    (fun y => (∃ c, metOf es pf y.2.2.2.1 = some c ∧ rowA pf (some y.2.2.1) = [c]) ∧ rk y.2.2.2.1 < y.2.2.2.2 ∧ y.1 ++ chain (metOf es pf) y.2.2.2.2 y.2.2.2.1 = chain (metOf es pf) (rk ⟨E1, E2, E3⟩ + 1) ⟨E1, E2, E3⟩ ∧ y.1.length + y.2.2.2.2 ≤ 336200) (fun y => y.2.2.2.2) ([], 0, a, ⟨E1, E2, E3⟩, rk ⟨E1, E2, E3⟩ + 1) [(11, none)] ⟨by rfl, ?_, ?_⟩ ⟨⟨d, hd, r4⟩, Nat.lt_succ_self _, rfl, ?_⟩ ?_
  · simp [eqFr, eqHp, eqV, eqA, eqC, eqO, eqCs, eqAs, look_cons, look, rn, EK.cast, EK.sz, eqCaps]
  · simp [eqFr, eqHp, eqV, eqA, eqC, eqO, eqCs, eqAs, look_cons, look, rn, EK.cast, EK.sz, eqCaps, fCells, nilO]
  · have := hD.rkl _ (hmem _ _ hd)
    simp only [List.length_nil]
    omega
  · rintro ⟨l, sp, b, y, fu⟩ ⟨⟨c, hc, hrow⟩, hfu, hch, hlen⟩
    simp only at hc hrow hfu hch hlen ⊢
    have hcl : 0 < (rowA pf (some b)).length := by rw [hrow]; exact Nat.one_pos
    have ec : (rowA pf (some b)).getD 0 EK.fnd.dflt = c := by rw [hrow]; rfl
    have hby := hD.by' y c hc
    repeat' (first | exact rfl | ((conv => whnf); first | ((first | refine qA (fun h => ?_) fun h => ?_ | refine qN (fun h => ?_) fun h => ?_ | refine qB (fun h => ?_) fun h => ?_ | refine qC (fun h => ?_) fun h => ?_) <;> try exact absurd h (by omega)) | refine qM (fun h => ?_) fun h => ?_ | refine oM (by (first | omega | (simp only [lenS, InI, nmin, EK.sz]; omega) | (simp only [lenS, InI, nmin, EK.sz] at *; omega))) ?_ | refine oM ?_ ?_ | refine bM ?_ ?_ | refine draw_of Tryd.mixed Tryd.tyOk 60 (by kernel_rfl) ?_))
    · intro sp2
      repeat' (first | exact rfl | ((conv => whnf); first | ((first | refine qA (fun h => ?_) fun h => ?_ | refine qN (fun h => ?_) fun h => ?_ | refine qB (fun h => ?_) fun h => ?_ | refine qC (fun h => ?_) fun h => ?_) <;> try exact absurd h (by omega)) | refine qM (fun h => ?_) fun h => ?_ | refine oM (by (first | omega | (simp only [lenS, InI, nmin, EK.sz]; omega) | (simp only [lenS, InI, nmin, EK.sz] at *; omega))) ?_ | refine oM ?_ ?_ | refine bM ?_ ?_ | refine draw_of Tryd.mixed Tryd.tyOk 60 (by kernel_rfl) ?_))
      rw [ec] at h
      obtain ⟨n, z, cz, w, g1, g2, g3, g4, g5, g6, g7, g8, g9⟩ : ∃ (n : Nat) (z : Trip) (cz : Fnd) (w : Int), c.arc = (n : Int) ∧ c.s = z.a ∧ c.i = z.b ∧ c.o = z.c ∧ z ∈ ord ∧ metOf es pf z = some cz ∧ Edge F u v z n y w ∧ c.cost = cz.cost + w ∧ (y ∈ ord → rk z < rk y) := by
        rcases hby with ⟨_, _, q⟩ | q
        · omega
        · exact q
      have hz : z = ⟨c.s, c.i, c.o⟩ := by rw [g2, g3, g4]
      subst hz
      obtain ⟨b', nb, s1, s2, s3, s4⟩ := hm.of g6
      have e2 : (@lkM EK.trip.ty EK.adr.ty (EK.instDeq .trip) es (⟨c.s, c.i, c.o⟩ : Trip)).getD EK.adr.dflt = some b' := congrArg (fun x => Option.getD x none) s3
      have hrk := g9 (hmem y c hc)
      obtain ⟨fu', rfl⟩ : ∃ fu', fu = fu' + 1 := ⟨fu - 1, by omega⟩
      rw [chain_on hc h] at hch
      (conv => whnf)
      rw [ec, e2]
      refine ⟨(l ++ [c.arc], sp2, b', ⟨c.s, c.i, c.o⟩, fu'), [(11, some 13)], ⟨by rfl, ?_, ?_⟩, ⟨⟨cz, g6, s4⟩, by simp only; omega, by simpa using hch, by simp only [List.length_append, List.length_cons, List.length_nil]; omega⟩, by simp only; omega⟩
      · simp [eqFr, eqHp, eqV, eqA, eqC, eqO, eqCs, eqAs, look_cons, look, rn, EK.cast, EK.sz, eqCaps]
      · simp [eqFr, eqHp, eqV, eqA, eqC, eqO, eqCs, eqAs, look_cons, look, rn, EK.cast, EK.sz, eqCaps, fCells]
        exact (app_one l _ _ rfl).symm
    · rw [ec] at h
      rw [chain_stop hc h, List.append_nil] at hch
      (conv => whnf)
      refine callF (reverse_c l (l.length + sp) sp (by omega)) [11] Tryd.call69 rfl (by simp [eqLs, eqL, eqO, eqC, eqCs, rn, renOf, look_cons, look, EK.cast]) (by simp [appN, ptrs, eqVL, eqV, eqA, eqC, eqCs, eqAs, eqCaps, EK.sz, rn, renOf, look_cons, look, arcV, fV]) (by simp [appN, ptrs, SV.lt, SA.lt, SC.lt, arcV, fV, lenN]) ?_
      rintro _ _ ⟨rfl, rfl⟩
      repeat' (first | exact rfl | ((conv => whnf); first | ((first | refine qA (fun h => ?_) fun h => ?_ | refine qN (fun h => ?_) fun h => ?_ | refine qB (fun h => ?_) fun h => ?_ | refine qC (fun h => ?_) fun h => ?_) <;> try exact absurd h (by omega)) | refine qM (fun h => ?_) fun h => ?_ | refine oM (by (first | omega | (simp only [lenS, InI, nmin, EK.sz]; omega) | (simp only [lenS, InI, nmin, EK.sz] at *; omega))) ?_ | refine oM ?_ ?_ | refine bM ?_ ?_ | refine draw_of Tryd.mixed Tryd.tyOk 60 (by kernel_rfl) ?_))
      (conv => whnf)
      refine ⟨[(4, some 11)], [(4, .arr true 3 .int l.reverse sp)], 5, .tup [.c (.sl 4 1 0 l.reverse.length (l.reverse.length + sp)), .c (.i Ec), .c (.i 0)], ⟨by rfl, trivial, by simp [eqFr, eqHp, eqV, eqA, eqC, eqO, eqCs, eqAs, look_cons, look, rn, EK.cast, EK.sz, eqCaps]⟩, by simp [eqV, eqA, eqAs, eqC, eqCs, rn, look, look_cons, EK.sz], .inr ⟨(⟨E1, E2, E3⟩, Ec), l.reverse, sp, ⟨metOf es pf, ord, rk, B, rk ⟨E1, E2, E3⟩ + 1, hD, hall, hE.symm, Nat.lt_succ_self _, ?_⟩, by assumption, rfl, rfl⟩⟩
      rw [List.reverse_reverse]
      exact hch

end Go.Fw
