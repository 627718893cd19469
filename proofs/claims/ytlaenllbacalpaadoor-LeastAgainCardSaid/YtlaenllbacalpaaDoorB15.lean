/- Walks of the functions: what each computes. -/
import Derived.Test.YtlaenllbacalpaaDoorB13
import Derived.Test.YtlaenllbacalpaaDoorB14
import Derived.Test.YtlaenllbacalpaaDoorB12
import Derived.Test.YtlaenllbacalpaaDoorB07

set_option linter.unusedSimpArgs false
set_option linter.unusedVariables false

namespace Go.Fw
open Go Go.Proofs
theorem numberD_c (F : TF) (hF : WOk F) (hst1 : F.st ≤ 1000) (x : Obj) (hx : TabX x) (L : List (List Duo)) (es : List (ByteArray × Int × Nat)) (clk : Nat) (rows : List Sli) (m : List (Addr × List Duo × Nat)) (spr spf nr cr : Nat) (s : List Duo) (ya : Option Addr) (yc : Nat) (B : Int) (hB : 0 ≤ B ∧ B ≤ 1000000000000) (hs : SOk F B s) (hnum : NumD es L) (htab : TabD m rows L) (hy : Hd m ⟨ya, s.length, yc⟩) (hr : rowA m ya = s) (hL : L.length ≤ 100000) :
    Ct Tryd.prog 65 [.c (.ptr 2 0), .c (.h ⟨ya, s.length, yc⟩)] [] ((0, .arr false 3 .int F.fin 0) :: hpDo F L es clk rows m spr spf nr cr 5 7 8 x) 10
    (fun v t => ∃ es' clk' rows' spr' spf', NumD es' (numL L s) ∧ TabD m rows' (numL L s) ∧ v = .i (((numL L s).idxOf s : Nat) : Int) ∧ t = ⟨[], hpDo F (numL L s) es' clk' rows' m spr' spf' nr cr 10 11 8 x, 12⟩) := by
  unfold numL
  by_cases h : s ∈ L
  · rw [if_pos h]
    exact numberD_in F hF hst1 x hx L es clk rows m spr spf nr cr s ya yc B hB hs hnum htab hr h
  · rw [if_neg h]
    exact numberD_new F hF hst1 x hx L es clk rows m spr spf nr cr s ya yc B hB hs hnum htab hy hr hL h
abbrev zero25 : List SC := [.i 0, .i 0, .v (.slice none 0 0), .v (.slice none 0 0)]
abbrev dM (U : TF) (il nl cl : Nat) (ost : Int) (jf nf cf ir nr cr : Nat) : List SC := [.i U.st, .i U.start, .sl 6 1 0 U.fin.length U.capF, .sl 7 5 0 U.arcs.length U.capA, .mp 8, .sl il 1 0 nl cl, .i ost, .i 0, .sl jf 1 0 nf cf, .sl ir 5 0 nr cr]
abbrev hpM (U : TF) (spU sqU : Nat) (L : List (List Duo)) (raw : List Arc) (es : List (ByteArray × Int × Nat)) (clk : Nat) (rows : List Sli) (m : List (Addr × List Duo × Nat)) (spr spf sra : Nat) (x : Obj) : List (Nat × SO) := [(2, tabO x), (3, .box 25 zero25), (4, .box 79 (dM U 9 rows.length (rows.length + spr) 0 11 (L.map (finD U)).length ((L.map (finD U)).length + spf) 12 raw.length (raw.length + sra))), (6, .arr true 3 .int U.fin spU), (7, .arr true 50 .arc U.arcs sqU), (8, .map .str .int es clk), (9, .arr true 82 .sli rows spr), (10, .pool 80 .duo m), (11, .arr true 3 .int (L.map (finD U)) spf), (12, .arr true 50 .arc raw sra)]
theorem fr_kT {F : TF} (hF : FRng F) (hs : 0 ≤ F.start ∧ F.start < F.st) (p : Nat → Bool) (c1 c2 : Nat) : FRng ⟨(kT F p).st, (kT F p).start, (kT F p).fin, (kT F p).arcs, c1, c2⟩ ∧ (0 ≤ (kT F p).start ∧ (kT F p).start < (kT F p).st) ∧ (kT F p).st ≤ F.st := by
  unfold kT
  have hst := hF.st
  split
  · rename_i h
    have h1 := rkB_le p F.st.toNat
    have hlt := rkB_lt (p := p) (show F.start.toNat < F.st.toNat by omega) h
    have hkl := kfin_len p F.fin F.st.toNat
    have hal := hF.arcl
    have hkr := karc_len p F.arcs F.arcs.length
    refine ⟨⟨⟨by simp only; omega, by simp only; omega⟩, by simp only; omega, by simp only; omega, fun a ha => ?_⟩, ⟨by simp only; omega, by simp only; omega⟩, by simp only; omega⟩
    simp only at ha
    obtain ⟨b, hb, q1, q2, rfl⟩ := mem_karcs.1 ha
    have hr := hF.arc b hb
    have l1 := rkB_lt (p := p) (show b.f.toNat < F.st.toNat by omega) q1
    have l2 := rkB_lt (p := p) (show b.t.toNat < F.st.toNat by omega) q2
    simp only [kArc]
    omega
  · exact ⟨⟨⟨by simp, by simp⟩, by simp, by simp, by simp⟩, ⟨by simp, by simp⟩, by simp only; omega⟩
theorem wk_kT {F : TF} (hF : WOk F) (hs : 0 ≤ F.start ∧ F.start < F.st) (p : Nat → Bool) (c1 c2 : Nat) : WOk ⟨(kT F p).st, (kT F p).start, (kT F p).fin, (kT F p).arcs, c1, c2⟩ := by
  refine ⟨(fr_kT hF.toFRng hs p c1 c2).1, ?_, ?_⟩
  · simp only
    unfold kT
    split
    · intro a ha
      obtain ⟨b, hb, q1, q2, rfl⟩ := mem_karcs.1 ha
      exact hF.w b hb
    · simp
  · simp only
    unfold kT
    split
    · intro n hn
      obtain ⟨j, hj, rfl⟩ := kfin_mem F.fin hn
      exact hF.fin _ (getD_mem F.fin j 0 (by have := hF.finl; omega))
    · simp
def IsUs (F U : TF) : Prop := ∃ p, UsOk F p ∧ U.st = (kT F p).st ∧ U.start = (kT F p).start ∧ U.fin = (kT F p).fin ∧ U.arcs = (kT F p).arcs
theorem IsUs.ok {F U : TF} (h : IsUs F U) (hF : WOk F) (hs : 0 ≤ F.start ∧ F.start < F.st) : WOk U ∧ (0 ≤ U.start ∧ U.start < U.st) ∧ U.st ≤ F.st := by
  obtain ⟨p, hp, h1, h2, h3, h4⟩ := h
  obtain ⟨a, b, c, d, e, f⟩ := U
  simp only at h1 h2 h3 h4
  subst h1 h2 h3 h4
  exact ⟨wk_kT hF hs p e f, (fr_kT hF.toFRng hs p e f).2⟩
theorem slDen (β : Env) (id sz n c : Nat) : SC.den β (.sl id sz 0 n c) = .slice (β id) n c := by
  have hid : ∀ o : Option Addr, o.map (fun x => x.add (0 * sz)) = o := fun o => by cases o <;> simp [Addr.add]
  simp only [SC.den, hid]
def MadePost (F : TF) (x : Obj) (v : SV) (s : S) : Prop := ∃ U, IsUs F U ∧
  ((200 < bgnF U 201 200 [⟨U.start, 0⟩] ∧ v = .tup [.agg zero25, .c (.b false)] ∧ s = ⟨[], [(2, tabO x)], 3⟩) ∨
   (bgnF U 201 200 [⟨U.start, 0⟩] ≤ 200 ∧ ∃ st : DS, MDone U st ∧ ∃ sp sq, v = .tup [.agg [.i (st.1.length : Nat), .i 0, .sl 3 1 0 (st.1.map (finD U)).length ((st.1.map (finD U)).length + sp), .sl 4 5 0 st.2.length (st.2.length + sq)], .c (.b true)] ∧
     s = ⟨[], [(2, tabO x), (3, .arr true 3 .int (st.1.map (finD U)) sp), (4, .arr true 50 .arc st.2 sq)], 5⟩))
set_option maxHeartbeats 16000000 in
set_option maxRecDepth 20000 in
theorem made_c (F : TF) (hF : WOk F) (hs : 0 ≤ F.start ∧ F.start < F.st) (hst1 : F.st ≤ 1000) (x : Obj) (hx : TabX x) : Ct Tryd.prog 37 [fV F] [] (hpF F ++ [(2, tabO x)]) 3 (MadePost F x) := by
  refine ctC Tryd.tyOk Tryd.func37 rfl (by simp) (by simp) (fr := [(0, fV F)]) rfl ?_
  refine SemC.cut Tryd.tyOk 10 [] (fun z : TF × Nat × Nat => ⟨[(2, .c (.ptr 3 0)), (4, .c (.ptr 4 0)), (5, .c (.sl 5 2 0 1 1))], (5, .arr true 80 .duo [⟨z.1.start, 0⟩] 0) :: hpM z.1 z.2.1 z.2.2 [] [] [] 0 [] [] 0 0 0 x, 13⟩)
    (fun z => IsUs F z.1 ∧ z.1.capF = z.1.fin.length + z.2.1 ∧ z.1.capA = z.1.arcs.length + z.2.2) 4 _ _ ?_ ?_
  · repeat' (first | exact rfl | ((conv => whnf); first | (refine qX (fun h => ?_) fun h => ?_ <;> try exact absurd h (by omega)) | refine oN ?_ | refine oM ?_ ?_ | refine bM ?_ ?_ | refine dR ?_))
    (conv => whnf)
    refine cF (useful_c F hF.toFRng hs) [0, 1] Tryd.call63 ?_
    rintro v s ⟨p, hus, hv⟩
    generalize hkT : kT F p = T at hv
    obtain ⟨tst, tstart, tfin, tarcs, tc1, tc2⟩ := T
    obtain ⟨sp3, sq3, rfl, rfl⟩ := hv
    repeat' (first | exact rfl | ((conv => whnf); first | (refine qX (fun h => ?_) fun h => ?_ <;> try exact absurd h (by omega)) | refine oN ?_ | refine oM ?_ ?_ | refine bM ?_ ?_ | refine dR ?_))
    (conv => whnf)
    simp only [Nat.reduceAdd, Nat.reduceSub]
    refine ⟨(⟨tst, tstart, tfin, tarcs, tfin.length + sp3, tarcs.length + sq3⟩, sp3, sq3), [(3, some 4), (4, some 8), (5, some 9), (6, some 5), (7, some 6), (8, some 7), (9, none), (10, none), (11, none), (12, none)], ⟨by rfl, ?_, ?_⟩, ⟨p, hus, by rw [hkT], by rw [hkT], by rw [hkT], by rw [hkT]⟩, rfl, rfl⟩
    · simp
    · simp [nilO]
  · rintro ⟨U, spU, sqU⟩ ⟨hus, hcF, hcA⟩
    simp only at hus hcF hcA ⊢
    obtain ⟨hUw, hUs, hUst⟩ := hus.ok hF hs
    have hU0 := hUw.st
    have hUl := hUw.finl
    have hUa := hUw.arcl
    have hU1 : U.st ≤ 1000 := by omega
    have hs0 : SOk U 0 [⟨U.start, 0⟩] := ⟨by simp only [List.length_cons, List.length_nil]; omega, fun e he => by rw [List.mem_singleton] at he; subst he; simp only; omega⟩
    refine SemC.of Tryd.tyOk 10 [] ?_
    repeat' (first | exact rfl | ((conv => whnf); first | (refine qX (fun h => ?_) fun h => ?_ <;> try exact absurd h (by omega)) | refine oN ?_ | refine oM ?_ ?_ | refine bM ?_ ?_ | refine dR ?_))
    (conv => whnf)
    refine cF (beg_c U hUw 0 0 0 0 0 0 0 0 201 200 [⟨U.start, 0⟩] 0 1 (by omega) (by omega) (by omega) (by omega) hs0) [6, 7, 4, 5, 8, 9, 10, 11, 12] Tryd.call64 ?_
    rintro _ _ ⟨rfl, rfl⟩
    have hble := bgnF_le U 201 200 [⟨U.start, 0⟩]
    have hTT := tree_ok U 201 200 [⟨U.start, 0⟩] (by omega)
    have hT0 := tree_self U 201 [⟨U.start, 0⟩]
    generalize hTe : treeL U 201 [⟨U.start, 0⟩] = T at *
    clear hTe
    generalize hbg : bgnF U 201 200 [⟨U.start, 0⟩] = bg at *
    by_cases hbig : 200 < bg
    · repeat' (first | exact rfl | ((conv => whnf); first | (refine qX (fun h => ?_) fun h => ?_ <;> try exact absurd h (by omega)) | refine oN ?_ | refine oM ?_ ?_ | refine bM ?_ ?_ | refine dR ?_ | intro _))
      · (conv => whnf)
        exact ⟨[], [(2, tabO x)], 3, .tup [.agg zero25, .c (.b false)], ⟨by rfl, trivial, by simp⟩, by simp, U, hus, .inl ⟨by omega, rfl, rfl⟩⟩
    · obtain ⟨hTl, hTc⟩ := hTT (by omega)
      have hT1 : T.length ≤ 200 := by omega
      simp only [Nat.reduceAdd, Nat.reduceSub]
      refine condP_dec (fun hc => absurd hc (by omega)) (fun _ => ?_)
      repeat' (first | exact rfl | ((conv => whnf); first | (refine qX (fun h => ?_) fun h => ?_ <;> try exact absurd h (by omega)) | refine oN ?_ | refine oM ?_ ?_ | refine bM ?_ ?_ | refine dR ?_ | intro _))
      (conv => whnf)
      refine callFrz 5 10 1 1 (fun y => [.c (.ptr 4 0), .c (.h y)]) Tryd.call65 (fun β y hy => by simp only [appN, ptrs, List.map_cons, List.map_nil, SV.den, SA.den, hy, slDen]) ?_
      (conv => whnf)
      refine Ob.mk ⟨rfl, Nat.le_refl _⟩ ?_
      intro m1 y hfz
      obtain ⟨q1, q2, q3, q4⟩ := frz_hd (s := [(⟨U.start, 0⟩ : Duo)]) hfz (Nat.le_refl _) (by simp)
      obtain ⟨ya, yn, yc⟩ := y
      simp only at q2 q3 q4
      subst q3 q4
      have hnum0 : NumD [] [] := ⟨rfl, fun s _ => by rw [if_neg (by simp)]; rfl⟩
      (conv => whnf)
      refine cF (numberD_c U hUw hU1 x hx [] [] 0 [] m1 0 0 0 0 [⟨U.start, 0⟩] ya 1 0 (by omega) hs0 hnum0 ⟨rfl, fun j h => absurd h (Nat.not_lt_zero _), fun j h => absurd h (Nat.not_lt_zero _)⟩ q1 q2 (by simp)) [6, 7, 4, 3, 8, 9, 10, 11, 12, 2] Tryd.call65 ?_
      rintro _ _ ⟨es, clk, rows, spr, spf, hnum, htab, rfl, rfl⟩
      have hL0 : numL [] [(⟨U.start, 0⟩ : Duo)] = (rowsD U 0).1 := rfl
      rw [hL0] at hnum htab ⊢
      simp only [Nat.reduceAdd, Nat.reduceSub]
      repeat' (first | exact rfl | ((conv => whnf); first | (refine qX (fun h => ?_) fun h => ?_ <;> try exact absurd h (by omega)) | refine oN ?_ | refine oM ?_ ?_ | refine bM ?_ ?_ | refine dR ?_ | intro _))
      (conv => whnf)
      refine loopI (fun z : Nat × List (ByteArray × Int × Nat) × Nat × List Sli × List (Addr × List Duo × Nat) × Nat × Nat × Nat => ⟨[(2, .c (.ptr 3 0)), (4, .c (.ptr 4 0)), (6, .i z.1)], hpM U spU sqU (rowsD U z.1).1 (rowsD U z.1).2 z.2.1 z.2.2.1 z.2.2.2.1 z.2.2.2.2.1 z.2.2.2.2.2.1 z.2.2.2.2.2.2.1 z.2.2.2.2.2.2.2 x, 13⟩)
        (fun z => MInv U T z.1 (rowsD U z.1) ∧ NumD z.2.1 (rowsD U z.1).1 ∧ TabD z.2.2.2.2.1 z.2.2.2.1 (rowsD U z.1).1 ∧ (rowsD U z.1).2.length ≤ 9 * z.1) (fun z => 200 - z.1) (0, es, clk, rows, m1, spr, spf, 0) [(9, some 13), (11, some 14)] ⟨by rfl, ?_, ?_⟩ ⟨MInv.start hUs hT0, hnum, htab, by simp [rowsD]⟩ ?_
      · simp
      · simp [rowsD]
      · clear hnum htab hfz q1 q2
        rintro ⟨i, es, clk, rows, m, spr, spf, sra⟩ ⟨hM, hnum, htab, hra⟩
        simp only at hM hnum htab hra ⊢
        have hLT := nd_le hM.nd hM.sub
        have htl := htab.len
        have hil := hM.len.1
        generalize hst : rowsD U i = st at *
        (conv => whnf)
        refine condP_dec (fun hi => ?_) (fun hi => ?_)
        · have hi2 : i < st.1.length := by omega
          have hst1l : st.1.length ≤ 200 := by omega
          repeat' (first | exact rfl | ((conv => whnf); first | (refine qX (fun h => ?_) fun h => ?_ <;> try exact absurd h (by omega)) | refine oN ?_ | refine oM ?_ ?_ | refine bM ?_ ?_ | refine dR ?_))
          (conv => whnf)
          refine loopI (fun z : Nat × List (ByteArray × Int × Nat) × Nat × List Sli × List (Addr × List Duo × Nat) × Nat × Nat × Nat => ⟨[(2, .c (.ptr 3 0)), (4, .c (.ptr 4 0)), (6, .i i), (7, .i ((z.1 : Int) + 1))], hpM U spU sqU (rowP U i st z.1).1 (rowP U i st z.1).2 z.2.1 z.2.2.1 z.2.2.2.1 z.2.2.2.2.1 z.2.2.2.2.2.1 z.2.2.2.2.2.2.1 z.2.2.2.2.2.2.2 x, 13⟩)
            (fun z => z.1 ≤ 9 ∧ MInv U T i (rowP U i st z.1) ∧ i < (rowP U i st z.1).1.length ∧ NumD z.2.1 (rowP U i st z.1).1 ∧ TabD z.2.2.2.2.1 z.2.2.2.1 (rowP U i st z.1).1 ∧ (rowP U i st z.1).2.length ≤ 9 * i + z.1) (fun z => 9 - z.1) (0, es, clk, rows, m, spr, spf, sra) [] ⟨by rfl, ?_, ?_⟩ ⟨Nat.zero_le _, hM, hi2, hnum, htab, hra⟩ ?_
          · simp
          · simp [rowP]
          · clear hnum htab hra hLT htl hi
            rintro ⟨k, es, clk, rows, m, spr, spf, sra⟩ ⟨hk, hM2, hi3, hnum, htab, hra⟩
            simp only at hk hM2 hi3 hnum htab hra ⊢
            have hLT := nd_le hM2.nd hM2.sub
            have htl := htab.len
            have hks := rowP_succ U i st k
            have hstp := fun hc => hM2.step hi3 hU0.1 hUw.w (fun a ha => (hUw.arc a ha).2.2) hTc (c := k) hc
            have h9 : k = 9 → rowP U i st k = rowsD U (i + 1) := fun e => by rw [e]; show _ = rowP U i (rowsD U i) 9; rw [hst]
            generalize hst2 : rowP U i st k = st2 at *
            (conv => whnf)
            refine condP_dec (fun hk2 => ?_) (fun hk2 => ?_)
            · have e0 : 0 + (i : Int).toNat = i := by omega
              have hyh := htab.hd i hi3
              have hyr := htab.row i hi3
              have hok := hM2.ok i hi3
              have hyn : (rows.getD i EK.sli.dflt).n = (st2.1.getD i []).length := by rw [hyh.len, hyr]
              obtain ⟨hM3, hl3, hr3⟩ := hstp (by omega)
              rw [← hks] at hM3 hl3 hr3
              repeat' (first | exact rfl | ((conv => whnf); first | (refine qX (fun h => ?_) fun h => ?_ <;> try exact absurd h (by omega)) | refine oN ?_ | refine oM ?_ ?_ | refine bM ?_ ?_ | refine dR ?_))
              (conv => whnf)
              refine callRow 10 [false, true, false] Tryd.call66 (by simp) ?_
              (conv => whnf)
              rw [e0]
              have hsbO := sbS_ok (c := (k : Int) + 1) hok (by omega) hU0.1 hUw.w
              have hsbN := fun h => sbS_ne (c := (k : Int) + 1) hok (by omega) hUw.w (fun a ha => (hUw.arc a ha).2.2) h
              have hstD : stD U i st2 ((k : Int) + 1) = if sbB U (st2.1.getD i []) ((k : Int) + 1) = -1 then st2 else (numL st2.1 (sbS U (st2.1.getD i []) ((k : Int) + 1)), st2.2 ++ [⟨(i : Nat), (k : Int) + 1, (k : Int) + 1, ((numL st2.1 (sbS U (st2.1.getD i []) ((k : Int) + 1))).idxOf (sbS U (st2.1.getD i []) ((k : Int) + 1)) : Nat), sbB U (st2.1.getD i []) ((k : Int) + 1)⟩]) := rfl
              rw [hstD] at hks
              clear hstD
              generalize rows.getD i EK.sli.dflt = yy at *
              generalize st2.1.getD i [] = s at *
              obtain ⟨ya2, yn2, yc2⟩ := yy
              simp only at hyn hyr
              subst hyn
              refine callF (on2_c U hUw s ((i : Int) * 1000000000) (by omega) hok yc2 ((k : Int) + 1) rows.length (rows.length + spr) (st2.1.map (finD U)).length ((st2.1.map (finD U)).length + spf) st2.2.length (st2.2.length + sra) 0 0) [6, 7, 4, 13, 8, 9, 10, 11, 12] Tryd.call66 rfl (by simp [rowsO, hyr]) (by simp [rowsO, hyr]) (by simp) ?_
              rintro _ _ ⟨sp, rfl, rfl⟩
              simp only [lenN, Nat.reduceAdd, Nat.reduceSub]
              generalize hsb : sbS U s ((k : Int) + 1) = sb at *
              generalize hbb : sbB U s ((k : Int) + 1) = bb at *
              repeat' (first | exact rfl | ((conv => whnf); first | (refine qX (fun h => ?_) fun h => ?_ <;> try exact absurd h (by omega)) | refine oN ?_ | refine oM ?_ ?_ | refine bM ?_ ?_ | refine dR ?_ | intro _))
              · have hsn := hsbN h
                rw [if_neg h] at hks
                (conv => whnf)
                simp only [Nat.reduceAdd, Nat.reduceSub]
                refine callFrz 14 10 sb.length (sb.length + sp) (fun y => [.c (.ptr 4 0), .c (.h y)]) Tryd.call65 (fun β y hy => by simp only [appN, ptrs, List.map_cons, List.map_nil, SV.den, SA.den, hy, slDen]) ?_
                (conv => whnf)
                refine Ob.mk ⟨rfl, Nat.le_refl _⟩ ?_
                intro m1 y hfz
                obtain ⟨q1, q2, q3, q4⟩ := frz_hd hfz (Nat.le_refl _) hsn
                have htab1 := htab.frz hfz
                obtain ⟨ya3, yn3, yc3⟩ := y
                simp only at q2 q3 q4
                subst q3 q4
                (conv => whnf)
                refine cF (numberD_c U hUw hU1 x hx st2.1 es clk rows m1 spr spf st2.2.length (st2.2.length + sra) sb ya3 (sb.length + sp) ((i : Int) * 1000000000 + 1000000000) (by omega) hsbO.1 hnum htab1 q1 q2 (by omega)) [6, 7, 4, 3, 8, 9, 10, 11, 12, 2] Tryd.call65 ?_
                rintro _ _ ⟨es2, clk2, rows2, spr2, spf2, hnum2, htab2, rfl, rfl⟩
                repeat' (first | exact rfl | ((conv => whnf); first | (refine qX (fun h => ?_) fun h => ?_ <;> try exact absurd h (by omega)) | refine oN ?_ | refine oM ?_ ?_ | refine bM ?_ ?_ | refine dR ?_ | intro _))
                (conv => whnf)
                simp only [Nat.reduceAdd, Nat.reduceSub]
                rename_i sra2
                have hap : lOp.appL (sub st2.2 0 st2.2.length) (sub [(⟨(i : Nat), (k : Int) + 1, (k : Int) + 1, ((numL st2.1 sb).idxOf sb : Nat), bb⟩ : Arc)] 0 1) = st2.2 ++ [⟨(i : Nat), (k : Int) + 1, (k : Int) + 1, ((numL st2.1 sb).idxOf sb : Nat), bb⟩] := app_one _ _ _ rfl
                have hnl := numL_len st2.1 sb
                refine ⟨(k + 1, es2, clk2, rows2, m1, spr2, spf2, sra2), [(9, some 15), (11, some 16), (12, some 18)], ⟨by rfl, ?_, ?_⟩, ⟨by simp only; omega, hM3, by simp only [hks]; omega, by simp only [hks]; exact hnum2, by simp only [hks]; exact htab2, by simp only [hks, List.length_append, List.length_cons, List.length_nil]; omega⟩, by simp only; omega⟩
                · simp [hks]
                · simp [hks, hap]
              · rw [if_pos h] at hks
                (conv => whnf)
                refine ⟨(k + 1, es, clk, rows, m, spr, spf, sra), [], ⟨by rfl, ?_, ?_⟩, ⟨by simp only; omega, hM3, by simp only [hks]; exact hi3, by simp only [hks]; exact hnum, by simp only [hks]; exact htab, by simp only [hks]; omega⟩, by simp only; omega⟩
                · simp [hks]
                · simp [hks]
            · have e : k = 9 := by omega
              subst e
              have h10 := h9 rfl
              rw [h10] at hM2 hi3 hnum htab hra
              rw [h10]
              repeat' (first | exact rfl | ((conv => whnf); first | (refine qX (fun h => ?_) fun h => ?_ <;> try exact absurd h (by omega)) | refine oN ?_ | refine oM ?_ ?_ | refine bM ?_ ?_ | refine dR ?_))
              (conv => whnf)
              refine ⟨(i + 1, es, clk, rows, m, spr, spf, sra), [], ⟨by rfl, ?_, ?_⟩, ⟨⟨hM2.sub, hM2.nd, hM2.ok, hM2.ne, ⟨hi3, hM2.len.2⟩, hM2.raw⟩, hnum, htab, by simp only; omega⟩, by simp only; omega⟩
              · simp
              · simp
        · have hid : i = st.1.length := by omega
          have hel := hnum.len
          repeat' (first | exact rfl | ((conv => whnf); first | (refine qX (fun h => ?_) fun h => ?_ <;> try exact absurd h (by omega)) | refine oN ?_ | refine oM ?_ ?_ | refine bM ?_ ?_ | refine dR ?_))
          (conv => whnf)
          exact ⟨[(3, some 11), (4, some 12)], [(2, tabO x), (3, .arr true 3 .int (st.1.map (finD U)) spf), (4, .arr true 50 .arc st.2 sra)], 5, .tup [.agg [.i (st.1.length : Nat), .i 0, .sl 3 1 0 (st.1.map (finD U)).length ((st.1.map (finD U)).length + spf), .sl 4 5 0 st.2.length (st.2.length + sra)], .c (.b true)], ⟨by rfl, trivial, by simp⟩, by simp [hel], U, hus, .inr ⟨by omega, st, ⟨i, hst, hid⟩, spf, sra, rfl, rfl⟩⟩
end Go.Fw

namespace Go.Fw
open Go Go.Proofs
def wsumL (l : List Arc) : Nat → Int
  | 0 => 0
  | k + 1 => wsumL l k + (l.getD k aD).w
def fmaxL (l : List Int) : Nat → Int
  | 0 => 0
  | k + 1 => if fmaxL l k < l.getD k 0 then l.getD k 0 else fmaxL l k
def allW (F : TF) : Int := wsumL F.arcs F.arcs.length + fmaxL F.fin F.fin.length
end Go.Fw

/-
  What is made does not go round, and is no dearer than all that there is.
-/
namespace Go.Fw
theorem nowB_iff {l : List Arc} {k : Nat} {v : Int} : nowB l (k + 1) v = true ↔ ∃ a ∈ l, a.t = v ∧ nowB l k a.f = true := by
  show (l.any fun a => a.t == v && nowB l k a.f) = true ↔ _
  rw [List.any_eq_true]
  constructor
  · rintro ⟨a, ha, h⟩
    rw [Bool.and_eq_true, beq_iff_eq] at h
    exact ⟨a, ha, h⟩
  · rintro ⟨a, ha, h⟩
    exact ⟨a, ha, by rw [Bool.and_eq_true, beq_iff_eq]; exact h⟩
theorem nowB_down {l : List Arc} : ∀ {k : Nat} {v : Int}, nowB l (k + 1) v = true → nowB l k v = true
  | 0, _, _ => rfl
  | k + 1, v, h => by
    obtain ⟨a, ha, h1, h2⟩ := nowB_iff.1 h
    exact nowB_iff.2 ⟨a, ha, h1, nowB_down h2⟩
theorem nowB_le {l : List Arc} {k : Nat} {v : Int} {j : Nat} (hj : j ≤ k) (h : nowB l k v = true) : nowB l j v = true := by
  obtain ⟨d, rfl⟩ := Nat.exists_eq_add_of_le hj
  induction d with
  | zero => exact h
  | succ d ih => exact ih (by omega) (nowB_down h)
theorem rd_nowB {l : List Arc} {s t c : Int} : ∀ {w : List Int}, RdW l s w t c → nowB l w.length t = true := by
  have : ∀ (n : Nat) (w : List Int) (t c : Int), w.length = n → RdW l s w t c → nowB l n t = true := by
    intro n
    induction n with
    | zero => intro w t c _ _; rfl
    | succ n ih =>
      intro w t c hw hr
      obtain ⟨v, x, rfl⟩ : ∃ v x, w = v ++ [x] := ⟨w.dropLast, w.getLast (by intro e; rw [e] at hw; cases hw), (List.dropLast_concat_getLast _).symm⟩
      rw [List.length_append, List.length_singleton] at hw
      obtain ⟨a, ha, d, h1, h2, h3, h4⟩ := hr.unsnoc
      exact nowB_iff.2 ⟨a, ha, h3, ih v a.f d (by omega) h1⟩
  intro w h
  exact this _ _ _ _ rfl h
theorem nowB_rd {l : List Arc} {n : Int} (hl : ∀ a ∈ l, 0 ≤ a.f ∧ a.f < n) : ∀ {k : Nat} {v : Int}, 0 ≤ v ∧ v < n → nowB l k v = true → ∃ s w c, (0 ≤ s ∧ s < n) ∧ w.length = k ∧ RdW l s w v c
  | 0, v, hv, _ => ⟨v, [], 0, hv, rfl, .nil _⟩
  | k + 1, v, hv, h => by
    obtain ⟨a, ha, h1, h2⟩ := nowB_iff.1 h
    obtain ⟨s, w, c, g1, g2, g3⟩ := nowB_rd hl (hl a ha) h2
    exact ⟨s, w ++ [a.i], c + a.w, g1, by simp [g2], h1 ▸ g3.snoc ha rfl⟩
theorem round_all {l : List Arc} {n : Nat} (hl : ∀ a ∈ l, 0 ≤ a.f ∧ a.f < n) (h : roundB l n = true) (M : Nat) : ∃ v : Nat, v < n ∧ nowB l M v = true := by
  have key : ∀ k, (∃ j, j < k ∧ ∀ v : Nat, v < n → nowB l j v = nowB l (j + 1) v) ∨ cin n (fun v => nowB l k v) + k ≤ n := by
    intro k
    induction k with
    | zero => exact .inr (cin_le _ _)
    | succ k ih =>
      rcases ih with ⟨j, h1, h2⟩ | ih
      · exact .inl ⟨j, by omega, h2⟩
      · by_cases hs : ∀ v : Nat, v < n → nowB l k v = nowB l (k + 1) v
        · exact .inl ⟨k, by omega, hs⟩
        · right
          obtain ⟨v, hv⟩ := Classical.not_forall.1 hs
          obtain ⟨hv, hne⟩ := Classical.not_imp.1 hv
          have h1 : nowB l (k + 1) v = false := by
            cases e : nowB l (k + 1) v with
            | false => rfl
            | true => exact absurd ((nowB_down e).trans e.symm) hne
          have h2 : nowB l k v = true := by
            cases e : nowB l k v with
            | true => rfl
            | false => exact absurd (e.trans h1.symm) hne
          have := cin_lt (p := fun v : Nat => nowB l (k + 1) v) (q := fun v : Nat => nowB l k v) (n := n) (fun i _ h => nowB_down h) hv h1 h2
          omega
  unfold roundB at h
  rw [List.any_eq_true] at h
  obtain ⟨v, hv, h⟩ := h
  have hv := List.mem_range.1 hv
  refine ⟨v, hv, ?_⟩
  rcases key n with ⟨j, hj, hs⟩ | hk
  · have hst : ∀ d (v : Nat), v < n → nowB l (j + d) v = nowB l j v := by
      intro d
      induction d with
      | zero => intro v _; rfl
      | succ d ih =>
        intro v hv
        rw [hs v hv, Bool.eq_iff_iff, nowB_iff, ← Nat.add_assoc, nowB_iff]
        constructor
        · rintro ⟨a, ha, h1, h2⟩
          have hr := hl a ha
          have := ih a.f.toNat (by omega)
          rw [show ((a.f.toNat : Nat) : Int) = a.f by omega] at this
          exact ⟨a, ha, h1, this ▸ h2⟩
        · rintro ⟨a, ha, h1, h2⟩
          have hr := hl a ha
          have := ih a.f.toNat (by omega)
          rw [show ((a.f.toNat : Nat) : Int) = a.f by omega] at this
          exact ⟨a, ha, h1, this.symm ▸ h2⟩
    by_cases hM : M ≤ j
    · exact nowB_le (by omega : M ≤ n) h
    · have e1 := hst (M - j) v hv
      rw [show j + (M - j) = M by omega] at e1
      rw [e1]
      exact nowB_le (by omega : j ≤ n) h
  · exfalso
    have := cin_lt (p := fun _ => false) (q := fun v : Nat => nowB l n v) (n := n) (fun i _ h => by cases h) hv rfl h
    omega
def rankA (l : List Arc) (n : Nat) (v : Int) : Nat := cin (n + 1) fun k => nowB l k v
def wsP (l : List Arc) (q : Arc → Bool) : Nat → Int
  | 0 => 0
  | k + 1 => wsP l q k + (if q (l.getD k aD) = true then (l.getD k aD).w else 0)
theorem fmaxL_ge {l : List Int} : ∀ k, ∀ j, j < k → l.getD j 0 ≤ fmaxL l k
  | 0, j, h => by omega
  | k + 1, j, h => by
    unfold fmaxL
    by_cases e : j = k
    · subst e
      split <;> omega
    · have := fmaxL_ge (l := l) k j (by omega)
      split <;> omega
end Go.Fw

/-
  Classes of states: those that are the same from there on have the same number.
-/
namespace Go.Fw
open Go Go.Proofs
structure NumT (es : List (ByteArray × Int × Nat)) (L : List (List UInt8)) : Prop where
  len : es.length = L.length
  lk : ∀ t, @lkM EK.str.ty EK.int.ty (EK.instDeq .str) es (bs t) = if t ∈ L then some ((L.idxOf t : Nat) : Int) else none
theorem NumT.nil : NumT [] [] := ⟨rfl, fun t => by simp [lkM]⟩
theorem NumT.new {es : List (ByteArray × Int × Nat)} {L : List (List UInt8)} (h : NumT es L) {s : List UInt8} (hs : s ∉ L) (clk : Nat) : NumT (@insM EK.str.ty EK.int.ty (EK.instDeq .str) es clk (bs s) ((L.length : Nat) : Int)).1 (L ++ [s]) := by
  have hn : ¬ (@lkM EK.str.ty EK.int.ty (EK.instDeq .str) es (bs s)).isSome = true := by rw [h.lk s, if_neg hs]; simp
  refine ⟨?_, fun t => ?_⟩
  · unfold insM
    rw [if_neg hn]
    simp [h.len]
  · rw [lkM_insM]
    by_cases e : bs t = bs s
    · have e2 := bs_inj e
      subst e2
      rw [if_pos rfl, if_pos (by simp), idxOf_out hs]
      simp
    · have e2 : t ≠ s := fun c => e (by rw [c])
      rw [if_neg e, h.lk t]
      by_cases hx : t ∈ L
      · rw [if_pos hx, if_pos (by simp [hx]), idxOf_in hx]
      · rw [if_neg hx, if_neg (by simp [hx, e2])]
theorem sg_cong {F : TF} {cls cls' : List Int} {n : Int} (h : ∀ a ∈ F.arcs, 0 ≤ cls.getD a.t.toNat 0 → cls'.getD a.t.toNat 0 = cls.getD a.t.toNat 0) : ∀ k, k ≤ F.arcs.length → sgOk F cls n k = true → sgOk F cls' n k = true ∧ sgB F cls' n k = sgB F cls n k
  | 0, _, _ => ⟨rfl, rfl⟩
  | k + 1, hk, hok => by
    unfold sgOk at hok
    rw [Bool.and_eq_true] at hok
    obtain ⟨h1, h2⟩ := sg_cong h k (by omega) hok.1
    have hm := getD_mem F.arcs k aD (by omega)
    unfold sgOk sgB
    by_cases e : (F.arcs.getD k aD).f = n
    · have hc : 0 ≤ cls.getD (F.arcs.getD k aD).t.toNat 0 := by
        have := hok.2
        rw [decide_eq_true e, Bool.true_and, Bool.not_eq_true', decide_eq_false_iff_not] at this
        omega
      have e2 := h _ hm hc
      rw [h1, if_pos e, if_pos e, h2]
      unfold sgA
      rw [e2]
      refine ⟨?_, rfl⟩
      rw [decide_eq_true e, Bool.true_and, Bool.true_and, Bool.not_eq_true', decide_eq_false_iff_not]
      omega
    · rw [h1, if_neg e, if_neg e, h2, decide_eq_false e]
      exact ⟨rfl, rfl⟩
theorem sgOk_iff {F : TF} {cls : List Int} {n : Int} : ∀ {k : Nat}, sgOk F cls n k = true ↔ ∀ j, j < k → (F.arcs.getD j aD).f = n → 0 ≤ cls.getD (F.arcs.getD j aD).t.toNat 0
  | 0 => ⟨fun _ j h => by omega, fun _ => rfl⟩
  | k + 1 => by
    unfold sgOk
    rw [Bool.and_eq_true, sgOk_iff (k := k)]
    constructor
    · rintro ⟨h1, h2⟩ j hj e
      by_cases ej : j = k
      · subst ej
        rw [decide_eq_true e, Bool.true_and, Bool.not_eq_true', decide_eq_false_iff_not] at h2
        omega
      · exact h1 j (by omega) e
    · intro h
      refine ⟨fun j hj => h j (by omega), ?_⟩
      by_cases e : (F.arcs.getD k aD).f = n
      · have := h k (by omega) e
        rw [decide_eq_true e, Bool.true_and, Bool.not_eq_true', decide_eq_false_iff_not]
        omega
      · rw [decide_eq_false e]; rfl
structure ClI (F : TF) (cls : List Int) (L : List (List UInt8)) : Prop where
  len : (cls.length : Int) = F.st
  bd : ∀ j, -1 ≤ cls.getD j 0 ∧ (j < F.st.toNat → cls.getD j 0 < L.length)
  txt : ∀ j : Nat, j < F.st.toNat → 0 ≤ cls.getD j 0 → sgOk F cls j F.arcs.length = true ∧ sgB F cls j F.arcs.length ∈ L ∧ cls.getD j 0 = ((L.idxOf (sgB F cls j F.arcs.length) : Nat) : Int)
  cnt : L.length ≤ cin F.st.toNat fun j => decide (0 ≤ cls.getD j 0)
theorem ClI.start {F : TF} (h : 0 ≤ F.st) : ClI F (List.replicate F.st.toNat (-1)) [] := by
  have hg : ∀ j, j < F.st.toNat → (List.replicate F.st.toNat (-1 : Int)).getD j 0 = -1 := fun j hj => by simp [List.getD, hj]
  refine ⟨by simp; omega, fun j => ?_, fun j hj h0 => ?_, Nat.zero_le _⟩
  · by_cases hj : j < F.st.toNat
    · rw [hg j hj]; exact ⟨Int.le_refl _, fun _ => by simp⟩
    · have : (List.replicate F.st.toNat (-1 : Int)).getD j 0 = 0 := by simp [List.getD, List.getElem?_eq_none (show (List.replicate F.st.toNat (-1 : Int)).length ≤ j by simp; omega)]
      rw [this]
      exact ⟨by omega, fun c => absurd c hj⟩
  · rw [hg j hj] at h0; omega
theorem ClI.le {F : TF} {cls : List Int} {L : List (List UInt8)} (h : ClI F cls L) : L.length ≤ F.st.toNat := Nat.le_trans h.cnt (cin_le _ _)
theorem ClI.put {F : TF} {cls : List Int} {L : List (List UInt8)} (h : ClI F cls L) {n : Nat} (hn : n < F.st.toNat) (hr : ∀ a ∈ F.arcs, 0 ≤ a.t ∧ a.t < F.st) (h1 : cls.getD n 0 < 0) (hok : sgOk F cls n F.arcs.length = true) {L' : List (List UInt8)} (hL : sgB F cls n F.arcs.length ∈ L ∧ L' = L ∨ sgB F cls n F.arcs.length ∉ L ∧ L' = L ++ [sgB F cls n F.arcs.length]) :
    ClI F (cls.set n ((L'.idxOf (sgB F cls n F.arcs.length) : Nat) : Int)) L' := by
  have hlen := h.len
  have hmem : sgB F cls n F.arcs.length ∈ L' := by rcases hL with ⟨h, rfl⟩ | ⟨_, rfl⟩ <;> simp [*]
  have hix := List.idxOf_lt_length_of_mem hmem
  have hsub : ∃ M, L' = L ++ M := by rcases hL with ⟨_, rfl⟩ | ⟨_, rfl⟩; exact ⟨[], by simp⟩; exact ⟨_, rfl⟩
  obtain ⟨M, hM⟩ := hsub
  have hset : ∀ j, (cls.set n ((L'.idxOf (sgB F cls n F.arcs.length) : Nat) : Int)).getD j 0 = if j = n then ((L'.idxOf (sgB F cls n F.arcs.length) : Nat) : Int) else cls.getD j 0 := fun j => setI_getD _ _ _ _ (by omega)
  have hcg : ∀ j : Int, sgOk F cls j F.arcs.length = true → sgOk F (cls.set n ((L'.idxOf (sgB F cls n F.arcs.length) : Nat) : Int)) j F.arcs.length = true ∧ sgB F (cls.set n ((L'.idxOf (sgB F cls n F.arcs.length) : Nat) : Int)) j F.arcs.length = sgB F cls j F.arcs.length := fun j hj =>
    sg_cong (fun a ha h0 => by
      rw [hset]
      by_cases e : a.t.toNat = n
      · rw [e] at h0; omega
      · rw [if_neg e]) _ (Nat.le_refl _) hj
  have hLL : L.length ≤ L'.length := by rw [hM]; simp
  refine ⟨by rw [List.length_set]; exact hlen, fun j => ?_, fun j hj h0 => ?_, ?_⟩
  · rw [hset]
    by_cases e : j = n
    · rw [if_pos e]; exact ⟨by omega, fun _ => by omega⟩
    · rw [if_neg e]
      have := h.bd j
      exact ⟨this.1, fun hj => by have := this.2 hj; omega⟩
  · rw [hset] at h0 ⊢
    by_cases e : j = n
    · subst e
      obtain ⟨g1, g2⟩ := hcg _ hok
      rw [if_pos rfl, g2]
      exact ⟨g1, hmem, rfl⟩
    · rw [if_neg e] at h0 ⊢
      obtain ⟨g1, g2, g3⟩ := h.txt j hj h0
      obtain ⟨p1, p2⟩ := hcg _ g1
      rw [p2]
      refine ⟨p1, by rw [hM]; exact List.mem_append.2 (.inl g2), ?_⟩
      rw [g3, hM, idxOf_in g2]
  · have h2 := cin_lt (p := fun j => decide (0 ≤ cls.getD j 0)) (q := fun j => decide (0 ≤ (cls.set n ((L'.idxOf (sgB F cls n F.arcs.length) : Nat) : Int)).getD j 0)) (n := F.st.toNat) (fun i hi hp => by
      rw [decide_eq_true_eq] at hp ⊢
      rw [hset]
      split
      · omega
      · exact hp) hn (decide_eq_false (by omega)) (decide_eq_true (by rw [hset, if_pos rfl]; omega))
    have h3 := h.cnt
    rcases hL with ⟨_, rfl⟩ | ⟨_, rfl⟩
    · omega
    · rw [List.length_append, List.length_singleton]; omega
def LvA (l : List Arc) (r : Nat) (j : Int) : Prop := ∀ w t c, RdW l j w t c → w.length < r
theorem LvA.on {l : List Arc} {r : Nat} {a : Arc} (ha : a ∈ l) (h : LvA l (r + 1) a.f) : LvA l r a.t := fun w t c hw => by
  have := h _ _ _ (.cons ha hw)
  rw [List.length_cons] at this
  omega
theorem LvA.all {l : List Arc} {n : Nat} (hl : ∀ a ∈ l, 0 ≤ a.t ∧ a.t < n) (h : roundB l n = false) {j : Int} (hj : 0 ≤ j ∧ j < n) : LvA l n j := fun w t c hw => by
  refine Classical.byContradiction fun hc => ?_
  have h1 := nowB_le (j := n) (by omega) (rd_nowB hw)
  have h2 := hw.rng hl hj
  unfold roundB at h
  rw [List.any_eq_false] at h
  have := h t.toNat (List.mem_range.2 (by omega))
  rw [show ((t.toNat : Nat) : Int) = t by omega] at this
  exact this h1
def ClD (F : TF) (cls : List Int) (r n : Nat) : Prop := ∀ j : Nat, j < F.st.toNat → (LvA F.arcs r j ∨ j < n ∧ LvA F.arcs (r + 1) j) → 0 ≤ cls.getD j 0
structure ClsOk (F : TF) (cls : List Int) : Prop where
  len : (cls.length : Int) = F.st
  bd : ∀ j, j < F.st.toNat → 0 ≤ cls.getD j 0 ∧ cls.getD j 0 < F.st
  eq : ∀ i j : Nat, i < F.st.toNat → j < F.st.toNat → (cls.getD i 0 = cls.getD j 0 ↔ sgB F cls i F.arcs.length = sgB F cls j F.arcs.length)
theorem idxOf_inj {α : Type} [BEq α] [LawfulBEq α] {l : List α} {x y : α} (hx : x ∈ l) (hy : y ∈ l) (h : l.idxOf x = l.idxOf y) : x = y := by
  have h1 := List.getElem_idxOf (List.idxOf_lt_length_of_mem hx)
  have h2 := List.getElem_idxOf (List.idxOf_lt_length_of_mem hy)
  rw [← h1, ← h2]
  simp only [h]
theorem ClI.done {F : TF} {cls : List Int} {L : List (List UInt8)} (h : ClI F cls L) (hst : 0 ≤ F.st) (hl : ∀ a ∈ F.arcs, 0 ≤ a.t ∧ a.t < F.st) (hr : roundB F.arcs F.st.toNat = false) (hd : ClD F cls F.st.toNat 0) : ClsOk F cls := by
  have hall : ∀ j : Nat, j < F.st.toNat → 0 ≤ cls.getD j 0 := fun j hj => hd j hj (.inl (LvA.all (fun a ha => by have := hl a ha; omega) hr ⟨by omega, by omega⟩))
  have hle := h.le
  refine ⟨h.len, fun j hj => ⟨hall j hj, by have := (h.bd j).2 hj; omega⟩, fun i j hi hj => ?_⟩
  obtain ⟨_, a2, a3⟩ := h.txt i hi (hall i hi)
  obtain ⟨_, b2, b3⟩ := h.txt j hj (hall j hj)
  rw [a3, b3]
  constructor
  · intro e; exact idxOf_inj a2 b2 (by omega)
  · intro e; rw [e]
end Go.Fw

namespace Go.Fw
open Go Go.Proofs
abbrev hpCl (F : TF) (x : Obj) (cls : List Int) (es : List (ByteArray × Int × Nat)) (clk : Nat) : List (Nat × SO) := hpF F ++ [(2, tabO x), (3, .box 25 (fCells F)), (4, .arr true 3 .int cls 0), (5, .map .str .int es clk)]
theorem ClD.put {F : TF} {cls : List Int} {r n : Nat} (h : ClD F cls r n) {v : Int} (hv : 0 ≤ v) (hn : n < cls.length) : ClD F (cls.set n v) r (n + 1) := by
  intro j hj hl
  rw [setI_getD _ _ _ _ hn]
  by_cases e : j = n
  · rw [if_pos e]; exact hv
  · rw [if_neg e]
    exact h j hj (by rcases hl with h | ⟨h1, h2⟩; exact .inl h; exact .inr ⟨by omega, h2⟩)
set_option maxHeartbeats 16000000 in
set_option maxRecDepth 20000 in
theorem classes_c (F : TF) (hF : DFst F) (hr : roundB F.arcs F.st.toNat = false) (x : Obj) (hx : TabX x) : Ct Tryd.prog 75 [fV F] [] (hpF F ++ [(2, tabO x)]) 3
    (fun v s => ∃ cls, ClsOk F cls ∧ v = .c (.sl 3 1 0 cls.length cls.length) ∧ s = ⟨[], [(2, tabO x), (3, .arr true 3 .int cls 0)], 4⟩) := by
  have hst := hF.st
  have hst1 := hF.st1
  have hrg : ∀ a ∈ F.arcs, 0 ≤ a.t ∧ a.t < F.st := fun a ha => (hF.arc a ha).2.2
  refine ctW Tryd.tyOk 10 [16, 17, 20, 21] Tryd.func75 rfl (by simp) (by simp) (fr := [(0, fV F)]) rfl ?_
  repeat' (first | exact rfl | ((conv => whnf); first | (refine qX (fun h => ?_) fun h => ?_ <;> try exact absurd h (by omega)) | refine oN ?_ | refine oM ?_ ?_ | refine bM ?_ ?_ | refine dR ?_))
  (conv => whnf)
  refine cF (repeat_c (-1) F.st 1 (by omega) (by omega)) [4] Tryd.call92 ?_
  rintro _ _ ⟨rfl, rfl⟩
  simp only [Nat.reduceAdd, Nat.reduceSub]
  repeat' (first | exact rfl | ((conv => whnf); first | (refine qX (fun h => ?_) fun h => ?_ <;> try exact absurd h (by omega)) | refine oN ?_ | refine oM ?_ ?_ | refine bM ?_ ?_ | refine dR ?_))
  (conv => whnf)
  simp only [Nat.reduceAdd, Nat.reduceSub]
  refine loopI (fun z : Nat × List Int × List (List UInt8) × List (ByteArray × Int × Nat) × Nat => ⟨[(1, .c (.ptr 3 0)), (3, .c (.sl 4 1 0 z.2.1.length z.2.1.length)), (4, .c (.mp 5)), (16, .i F.st), (17, .i z.1)], hpCl F x z.2.1 z.2.2.2.1 z.2.2.2.2, 6⟩)
    (fun z => z.1 ≤ F.st.toNat ∧ ClI F z.2.1 z.2.2.1 ∧ NumT z.2.2.2.1 z.2.2.1 ∧ ClD F z.2.1 z.1 0) (fun z => F.st.toNat - z.1) (0, List.replicate F.st.toNat (-1), [], [], 0) [(4, some 5), (5, some 6)] ⟨by rfl, ?_, ?_⟩ ⟨Nat.zero_le _, ClI.start hst.1, NumT.nil, fun j hj h => (by
      rcases h with h | h
      · have := h [] _ _ (.nil _); simp at this
      · omega)⟩ ?_
  · simp
  · simp [fCells, tabO]
  · rintro ⟨r, cls, L, es, clk⟩ ⟨hrr, hcl, hnt, hcd⟩
    simp only at hrr hcl hnt hcd ⊢
    (conv => whnf)
    refine condP_dec (fun hr2 => ?_) (fun hr2 => ?_)
    · repeat' (first | exact rfl | ((conv => whnf); first | (refine qX (fun h => ?_) fun h => ?_ <;> try exact absurd h (by omega)) | refine oN ?_ | refine oM ?_ ?_ | refine bM ?_ ?_ | refine dR ?_))
      (conv => whnf)
      refine loopI (fun z : Nat × List Int × List (List UInt8) × List (ByteArray × Int × Nat) × Nat => ⟨[(1, .c (.ptr 3 0)), (3, .c (.sl 4 1 0 z.2.1.length z.2.1.length)), (4, .c (.mp 5)), (16, .i F.st), (17, .i r), (20, .i F.st), (21, .i z.1)], hpCl F x z.2.1 z.2.2.2.1 z.2.2.2.2, 6⟩)
        (fun z => z.1 ≤ F.st.toNat ∧ ClI F z.2.1 z.2.2.1 ∧ NumT z.2.2.2.1 z.2.2.1 ∧ ClD F z.2.1 r z.1) (fun z => F.st.toNat - z.1) (0, cls, L, es, clk) [] ⟨by rfl, ?_, ?_⟩ ⟨Nat.zero_le _, hcl, hnt, hcd⟩ ?_
      · simp
      · simp [fCells, tabO]
      · clear hcl hnt hcd cls L es clk
        rintro ⟨n, cls, L, es, clk⟩ ⟨hn, hcl, hnt, hcd⟩
        simp only at hn hcl hnt hcd ⊢
        (conv => whnf)
        refine condP_dec (fun hn2 => ?_) (fun hn2 => ?_)
        · have e0 : 0 + (n : Int).toNat = n := by omega
          have hlen := hcl.len
          have hle := hcl.le
          have hcb : ∀ c ∈ cls, -1 ≤ c ∧ c ≤ 1000 := fun c hc => by
            obtain ⟨j, hj, rfl⟩ := List.mem_iff_getElem.1 hc
            have := hcl.bd j
            have e : cls.getD j 0 = cls[j] := by simp [List.getD, hj]
            rw [e] at this
            have := this.2 (by omega)
            omega
          repeat' (first | exact rfl | ((conv => whnf); first | (refine qX (fun h => ?_) fun h => ?_ <;> try exact absurd h (by omega)) | refine oN ?_ | refine oM ?_ ?_ | refine bM ?_ ?_ | refine dR ?_))
          (conv => whnf)
          refine cF (sign_c F hF cls cls.length hcb (n : Int) (by omega) hlen x hx) [0, 1, 4, 2] Tryd.call93 ?_
          rintro _ _ ⟨rfl, rfl⟩
          unfold signV
          by_cases hok : sgOk F cls n F.arcs.length = true
          · rw [if_pos hok]
            have hlk := hnt.lk (sgB F cls n F.arcs.length)
            have hput := fun L' => hcl.put (n := n) (L' := L') (by omega) hrg
            generalize hsg : sgB F cls n F.arcs.length = sg at *
            simp only [Nat.reduceAdd, Nat.reduceSub]
            repeat' (first | exact rfl | ((conv => whnf); first | (refine qX (fun h => ?_) fun h => ?_ <;> try exact absurd h (by omega)) | refine oN ?_ | refine oM ?_ ?_ | refine bM ?_ ?_ | refine dR ?_ | intro _))
            · rename_i g
              rw [e0] at g
              have g : cls.getD n 0 < 0 := g
              have hno : sg ∉ L := fun c => by
                rw [hlk, if_pos c] at h
                simp at h
              have hnew := hnt.new hno clk
              rw [← hnt.len] at hnew
              have hcl2 := hput (L ++ [sg]) g hok (.inr ⟨hno, rfl⟩)
              have hix : (L ++ [sg]).idxOf sg = es.length := by rw [idxOf_out hno, hnt.len]; simp
              have hlk2 : (@lkM EK.str.ty EK.int.ty (EK.instDeq .str) (@insM EK.str.ty EK.int.ty (EK.instDeq .str) es clk (bs sg) ((es.length : Nat) : Int)).1 (bs sg)) = some ((es.length : Nat) : Int) := by rw [lkM_insM, if_pos rfl]
              (conv => whnf)
              rw [hlk2]
              refine ⟨(n + 1, cls.set n ((L ++ [sg]).idxOf sg : Nat), L ++ [sg], (@insM EK.str.ty EK.int.ty (EK.instDeq .str) es clk (bs sg) ((es.length : Nat) : Int)).1, (@insM EK.str.ty EK.int.ty (EK.instDeq .str) es clk (bs sg) ((es.length : Nat) : Int)).2), [], ⟨by rfl, ?_, ?_⟩, ⟨by simp only; omega, hcl2, hnew, hcd.put (by omega) (by omega)⟩, by simp only; omega⟩
              · simp
              · simp [fCells, tabO, hix, e0]
            · rename_i g
              rw [e0] at g
              have g : cls.getD n 0 < 0 := g
              have hin : sg ∈ L := Classical.byContradiction fun c => by
                rw [hlk, if_neg c] at h
                simp at h
              rw [if_pos hin] at hlk
              have hcl2 := hput L g hok (.inl ⟨hin, rfl⟩)
              (conv => whnf)
              rw [hlk]
              refine ⟨(n + 1, cls.set n (L.idxOf sg : Nat), L, es, clk), [], ⟨by rfl, ?_, ?_⟩, ⟨by simp only; omega, hcl2, hnt, hcd.put (by omega) (by omega)⟩, by simp only; omega⟩
              · simp
              · simp [fCells, tabO, e0]
            · rw [e0] at h
              have g : ¬ cls.getD n 0 < 0 := h
              (conv => whnf)
              refine ⟨(n + 1, cls, L, es, clk), [], ⟨by rfl, ?_, ?_⟩, ⟨by simp only; omega, hcl, hnt, fun j hj h => ?_⟩, by simp only; omega⟩
              · simp
              · simp [fCells, tabO]
              · by_cases e : j = n
                · rw [e]; show 0 ≤ cls.getD n 0; omega
                · simp only at h
                  exact hcd j hj (by rcases h with h | ⟨h1, h2⟩; exact .inl h; exact .inr ⟨by omega, h2⟩)
          · rw [if_neg hok]
            simp only [Nat.reduceAdd, Nat.reduceSub]
            repeat' (first | exact rfl | ((conv => whnf); first | (refine qX (fun h => ?_) fun h => ?_ <;> try exact absurd h (by omega)) | refine oN ?_ | refine oM ?_ ?_ | refine bM ?_ ?_ | refine dR ?_))
            (conv => whnf)
            refine ⟨(n + 1, cls, L, es, clk), [], ⟨by rfl, ?_, ?_⟩, ⟨by simp only; omega, hcl, hnt, fun j hj h => ?_⟩, by simp only; omega⟩
            · simp
            · simp [fCells, tabO]
            · by_cases e : j = n
              · subst e
                rcases h with h | ⟨_, h⟩
                · exact hcd j hj (.inl h)
                · exact absurd (sgOk_iff.2 fun i hi he => by
                    have hm := getD_mem F.arcs i aD hi
                    have hb := hF.arc _ hm
                    have := LvA.on hm (he ▸ h)
                    exact hcd _ (by omega) (.inl (by rw [show ((((F.arcs.getD i aD).t.toNat : Nat)) : Int) = (F.arcs.getD i aD).t by omega]; exact this))) hok
              · simp only at h
                exact hcd j hj (by rcases h with h | ⟨h1, h2⟩; exact .inl h; exact .inr ⟨by omega, h2⟩)
        · have e : n = F.st.toNat := by omega
          subst e
          repeat' (first | exact rfl | ((conv => whnf); first | (refine qX (fun h => ?_) fun h => ?_ <;> try exact absurd h (by omega)) | refine oN ?_ | refine oM ?_ ?_ | refine bM ?_ ?_ | refine dR ?_))
          (conv => whnf)
          refine ⟨(r + 1, cls, L, es, clk), [], ⟨by rfl, ?_, ?_⟩, ⟨by simp only; omega, hcl, hnt, fun j hj h => ?_⟩, by simp only; omega⟩
          · simp
          · simp [fCells, tabO]
          · simp only at h
            rcases h with h | h
            · exact hcd j hj (.inr ⟨hj, h⟩)
            · omega
    · have e : r = F.st.toNat := by omega
      subst e
      repeat' (first | exact rfl | ((conv => whnf); first | (refine qX (fun h => ?_) fun h => ?_ <;> try exact absurd h (by omega)) | refine oN ?_ | refine oM ?_ ?_ | refine bM ?_ ?_ | refine dR ?_))
      (conv => whnf)
      refine ⟨[(3, some 4)], [(2, tabO x), (3, .arr true 3 .int cls 0)], 4, .c (.sl 3 1 0 cls.length cls.length), ⟨by rfl, trivial, by simp [tabO]⟩, by simp, cls, hcl.done hst.1 hrg hr hcd, rfl, rfl⟩
end Go.Fw

namespace Go.Fw
open Go Go.Proofs
abbrev cMg (D : TF) (cn cc li ln lc : Nat) (ost osr : Int) (fi fn fc ai an ac : Nat) : List SC := [.i D.st, .i D.start, .sl 0 1 0 D.fin.length D.capF, .sl 1 5 0 D.arcs.length D.capA, .sl 3 1 0 cn cc, .mp 4, .sl li 1 0 ln lc, .i ost, .i osr, .sl fi 1 0 fn fc, .sl ai 5 0 an ac]
structure NumI (es : List (Int × Int × Nat)) (C : List Int) : Prop where
  len : es.length = C.length
  lk : ∀ c, @lkM EK.int.ty EK.int.ty (EK.instDeq .int) es c = if c ∈ C then some ((C.idxOf c : Nat) : Int) else none
theorem NumI.nil : NumI [] [] := ⟨rfl, fun t => by simp [lkM]⟩
theorem NumI.new {es : List (Int × Int × Nat)} {C : List Int} (h : NumI es C) {c : Int} (hs : c ∉ C) (clk : Nat) : NumI (@insM EK.int.ty EK.int.ty (EK.instDeq .int) es clk c ((C.length : Nat) : Int)).1 (C ++ [c]) := by
  have hn : ¬ (@lkM EK.int.ty EK.int.ty (EK.instDeq .int) es c).isSome = true := by rw [h.lk c, if_neg hs]; simp
  refine ⟨?_, fun t => ?_⟩
  · unfold insM
    rw [if_neg hn]
    simp [h.len]
  · rw [lkM_insM]
    by_cases e : t = c
    · subst e
      rw [if_pos rfl, if_pos (by simp), idxOf_out hs]
      simp
    · rw [if_neg e, h.lk t]
      by_cases hx : t ∈ C
      · rw [if_pos hx, if_pos (by simp [hx]), idxOf_in hx]
      · rw [if_neg hx, if_neg (by simp [hx, e])]
def clA (cls : List Int) (s : Int) : Int := cls.getD s.toNat 0
def mgL (cls : List Int) (left : List Int) (s : Int) : List Int := if clA cls s ∈ left.map (clA cls) then left else left ++ [s]
def mgN (cls : List Int) (left : List Int) (s : Int) : Int := (((mgL cls left s).map (clA cls)).idxOf (clA cls s) : Nat)
def fiA (D : TF) (s : Int) : Int := D.fin.getD s.toNat 0
abbrev hpMg (D : TF) (cls left : List Int) (es : List (Int × Int × Nat)) (clk : Nat) (lsp fsp : Nat) (ost osr : Int) (li fi ai an ac : Nat) (cc : Nat) : List (Nat × SO) :=
  [(2, .box 101 (cMg D cls.length cc li left.length (left.length + lsp) ost osr fi (left.map (fiA D)).length ((left.map (fiA D)).length + fsp) ai an ac)), (4, .map .int .int es clk), (li, .arr true 3 .int left lsp), (fi, .arr true 3 .int (left.map (fiA D)) fsp)]
set_option maxHeartbeats 16000000 in
set_option maxRecDepth 20000 in
theorem numberM_c (D : TF) (hD : FRng D) (cls left : List Int) (hcl : (cls.length : Int) = D.st) (hll : left.length ≤ 100000) (es : List (Int × Int × Nat)) (clk lsp fsp : Nat) (ost osr : Int) (an ac cc : Nat) (s : Int) (hs : 0 ≤ s ∧ s < D.st) (hn : NumI es (left.map (clA cls))) :
    Ct Tryd.prog 94 [.c (.ptr 2 0), .i s] [] ([(0, .arr false 3 .int D.fin 0), (3, .arr false 3 .int cls 0)] ++ hpMg D cls left es clk lsp fsp ost osr 5 6 7 an ac cc) 8
      (fun v t => ∃ es' clk' lsp' fsp', NumI es' ((mgL cls left s).map (clA cls)) ∧ v = .i (mgN cls left s) ∧ t = ⟨[], hpMg D cls (mgL cls left s) es' clk' lsp' fsp' ost osr 8 9 7 an ac cc, 10⟩) := by
  have hst := hD.st
  have hfl := hD.finl
  have hlk := hn.lk (clA cls s)
  have hes := hn.len
  rw [List.length_map] at hes
  have ec : cls.getD (0 + s.toNat) EK.int.dflt = clA cls s := by rw [Nat.zero_add]; rfl
  refine ctW Tryd.tyOk 9 [] Tryd.func94 rfl (by simp) (by simp) (fr := [(0, .c (.ptr 2 0)), (1, .i s)]) rfl ?_
  repeat' (first | exact rfl | ((conv => whnf); first | (refine qX (fun h => ?_) fun h => ?_ <;> try exact absurd h (by omega)) | refine oN ?_ | refine oM ?_ ?_ | refine bM ?_ ?_ | refine dR ?_))
  · rw [ec] at h
    have hin : clA cls s ∈ left.map (clA cls) := Classical.byContradiction fun c => by
      rw [hlk, if_neg c] at h
      simp at h
    rw [if_pos hin] at hlk
    have e1 : mgL cls left s = left := by unfold mgL; rw [if_pos hin]
    have e2 : mgN cls left s = ((left.map (clA cls)).idxOf (clA cls s) : Nat) := by unfold mgN; rw [e1]
    repeat' (first | exact rfl | ((conv => whnf); first | (refine qX (fun h => ?_) fun h => ?_ <;> try exact absurd h (by omega)) | refine oN ?_ | refine oM ?_ ?_ | refine bM ?_ ?_ | refine dR ?_))
    (conv => whnf)
    rw [ec, hlk]
    refine ⟨[(8, some 5), (9, some 6)], hpMg D cls left es clk lsp fsp ost osr 8 9 7 an ac cc, 10, .i (mgN cls left s), ⟨by rfl, trivial, by simp⟩, ?_, es, clk, lsp, fsp, by rw [e1]; exact hn, rfl, by rw [e1]⟩
    simp only [eqV, eqA, eqC, Option.getD_some, e2]
  · rw [ec] at h
    have hno : clA cls s ∉ left.map (clA cls) := fun c => by
      rw [hlk, if_pos c] at h
      simp at h
    have hnew := hn.new hno clk
    rw [List.length_map, ← hes] at hnew
    have e1 : mgL cls left s = left ++ [s] := by unfold mgL; rw [if_neg hno]
    have e3 : (mgL cls left s).map (clA cls) = left.map (clA cls) ++ [clA cls s] := by rw [e1, List.map_append]; rfl
    have e2 : mgN cls left s = es.length := by unfold mgN; rw [e3, idxOf_out hno, List.length_map, hes]; simp
    have e4 : (mgL cls left s).map (fiA D) = left.map (fiA D) ++ [fiA D s] := by rw [e1, List.map_append]; rfl
    have ef : D.fin.getD (0 + s.toNat) EK.int.dflt = fiA D s := by rw [Nat.zero_add]; rfl
    repeat' (first | exact rfl | ((conv => whnf); first | (refine qX (fun h => ?_) fun h => ?_ <;> try exact absurd h (by omega)) | refine oN ?_ | refine oM ?_ ?_ | refine bM ?_ ?_ | refine dR ?_ | intro _))
    (conv => whnf)
    rename_i sp1 sp2
    rw [ec, ef]
    rw [← e3] at hnew
    refine ⟨[(8, some 9), (9, some 11)], hpMg D cls (mgL cls left s) (@insM EK.int.ty EK.int.ty (EK.instDeq .int) es clk (clA cls s) ((es.length : Nat) : Int)).1 (@insM EK.int.ty EK.int.ty (EK.instDeq .int) es clk (clA cls s) ((es.length : Nat) : Int)).2 sp1 sp2 ost osr 8 9 7 an ac cc, 10, .i (mgN cls left s), ⟨by rfl, trivial, ?_⟩, ?_, _, _, sp1, sp2, hnew, rfl, rfl⟩
    · rw [e1]
      simp [app_one]
    · simp only [eqV, eqA, eqC, e2]
end Go.Fw

namespace Go.Fw
open Go Go.Proofs
def mgStep (cls : List Int) (i : Nat) (s : Int) (st : List Int × List Arc) (a : Arc) : List Int × List Arc := if a.f = s then (mgL cls st.1 a.t, st.2 ++ [⟨(i : Nat), a.i, a.o, mgN cls st.1 a.t, a.w⟩]) else st
def mgP (D : TF) (cls : List Int) (i : Nat) (s : Int) (st : List Int × List Arc) : Nat → List Int × List Arc
  | 0 => st
  | k + 1 => mgStep cls i s (mgP D cls i s st k) (D.arcs.getD k aD)
def mgRows (D : TF) (cls : List Int) : Nat → List Int × List Arc
  | 0 => ([D.start], [])
  | i + 1 => mgP D cls i ((mgRows D cls i).1.getD i 0) (mgRows D cls i) D.arcs.length
structure MgI (D : TF) (cls : List Int) (st : List Int × List Arc) : Prop where
  rng : ∀ s ∈ st.1, 0 ≤ s ∧ s < D.st
  nd : (st.1.map (clA cls)).Nodup
  pos : 1 ≤ st.1.length
  w : ∀ a ∈ st.2, 0 ≤ a.w ∧ a.w ≤ 10000000000000
theorem mgL_app (cls left : List Int) (s : Int) : ∃ M, mgL cls left s = left ++ M := by
  unfold mgL
  split
  · exact ⟨[], by simp⟩
  · exact ⟨[s], rfl⟩
theorem MgI.le {D : TF} {cls : List Int} {st : List Int × List Arc} (h : MgI D cls st) (hst : 0 ≤ D.st) (hc : ∀ j, j < D.st.toNat → 0 ≤ cls.getD j 0 ∧ cls.getD j 0 < D.st) : st.1.length ≤ D.st.toNat := by
  have := nd_le h.nd (m := (List.range D.st.toNat).map fun j : Nat => (j : Int)) fun c hcm => by
    obtain ⟨s, hs, rfl⟩ := List.mem_map.1 hcm
    have h1 := h.rng s hs
    have h2 := hc s.toNat (by omega)
    rw [List.mem_map]
    exact ⟨(clA cls s).toNat, List.mem_range.2 (by unfold clA; omega), by unfold clA; omega⟩
  simpa using this
theorem MgI.num {D : TF} {cls : List Int} {st : List Int × List Arc} (h : MgI D cls st) {s : Int} (hs : 0 ≤ s ∧ s < D.st) : MgI D cls (mgL cls st.1 s, st.2) := by
  refine ⟨fun x hx => ?_, ?_, ?_, h.w⟩
  · simp only [mgL] at hx
    split at hx
    · exact h.rng x hx
    · rcases List.mem_append.1 hx with hx | hx
      · exact h.rng x hx
      · rw [List.mem_singleton] at hx; rw [hx]; exact hs
  · simp only [mgL]
    split
    · exact h.nd
    · rename_i hn
      rw [List.map_append, List.nodup_append]
      refine ⟨h.nd, by simp, fun a ha b hb => ?_⟩
      simp only [List.map_cons, List.map_nil, List.mem_singleton] at hb
      exact fun e => hn (by rw [← hb, ← e]; exact ha)
  · obtain ⟨M, hM⟩ := mgL_app cls st.1 s
    simp only [hM, List.length_append]
    have := h.pos
    omega
theorem MgI.step {D : TF} {cls : List Int} {st : List Int × List Arc} (h : MgI D cls st) {i : Nat} {s : Int} {a : Arc} (ha : 0 ≤ a.t ∧ a.t < D.st) (hw : 0 ≤ a.w ∧ a.w ≤ 10000000000000) : MgI D cls (mgStep cls i s st a) := by
  unfold mgStep
  split
  · have := h.num ha
    refine ⟨this.rng, this.nd, this.pos, fun b hb => ?_⟩
    rcases List.mem_append.1 hb with hb | hb
    · exact h.w b hb
    · rw [List.mem_singleton] at hb; rw [hb]; exact hw
  · exact h
theorem mgP_len {D : TF} {cls : List Int} {i : Nat} {s : Int} {st : List Int × List Arc} : ∀ k, (mgP D cls i s st k).2.length ≤ st.2.length + k ∧ ∃ M, (mgP D cls i s st k).1 = st.1 ++ M
  | 0 => ⟨Nat.le_refl _, [], by simp [mgP]⟩
  | k + 1 => by
    obtain ⟨h1, M, h2⟩ := mgP_len (D := D) (cls := cls) (i := i) (s := s) (st := st) k
    unfold mgP mgStep
    split
    · obtain ⟨N, hN⟩ := mgL_app cls (mgP D cls i s st k).1 (D.arcs.getD k aD).t
      simp only [List.length_append, List.length_singleton]
      exact ⟨by omega, M ++ N, by rw [hN, h2, List.append_assoc]⟩
    · exact ⟨by omega, M, h2⟩
def adA (more : Int) (a : Arc) : Arc := if a.f = 0 then ⟨a.f, a.i, a.o, a.t, a.w + more⟩ else a
def adK (more : Int) (l : List Arc) (k : Nat) : List Arc := (l.take k).map (adA more) ++ l.drop k
def adF (more : Int) (l : List Int) : List Int := if l.getD 0 0 = -1 then l else l.set 0 (l.getD 0 0 + more)
theorem adK_len (more : Int) (l : List Arc) (k : Nat) : (adK more l k).length = l.length := by simp [adK]; omega
theorem adK_get {more : Int} {l : List Arc} {k : Nat} (h : k < l.length) : (adK more l k).getD k aD = l.getD k aD := by
  unfold adK
  simp only [List.getD]
  rw [List.getElem?_append_right (by simp; omega)]
  simp [Nat.min_eq_left (Nat.le_of_lt h)]
theorem adK_set {more : Int} {l : List Arc} {k : Nat} (h : k < l.length) : (adK more l k).set k (adA more (l.getD k aD)) = adK more l (k + 1) := by
  have e : l.drop k = l.getD k aD :: l.drop (k + 1) := by
    rw [List.drop_eq_getElem_cons h]
    simp [List.getD, h]
  have e2 : l.take (k + 1) = l.take k ++ [l.getD k aD] := by
    rw [List.take_add_one]
    simp [List.getD, h]
  have hl : ((l.take k).map (adA more)).length = k := by simp; omega
  unfold adK
  rw [e, e2, List.map_append, List.append_assoc, List.set_append_right _ _ (by omega), hl, Nat.sub_self]
  rfl
theorem adK_all (more : Int) (l : List Arc) : adK more l l.length = l.map (adA more) := by simp [adK]
abbrev hpMs (D : TF) (cls left : List Int) (outs : List Arc) (es : List (Int × Int × Nat)) (clk lsp fsp asp cc : Nat) (n : Nat) : List (Nat × SO) :=
  hpF D ++ [(3, .arr false 3 .int cls 0), (8, .box 25 zero25), (7, .arr true 50 .arc outs asp)] ++ hpMg D cls left es clk lsp fsp (n : Int) 0 5 6 7 outs.length (outs.length + asp) cc
abbrev hpMr (D : TF) (cls left : List Int) (outs : List Arc) (es : List (Int × Int × Nat)) (clk lsp fsp asp cc : Nat) : List (Nat × SO) :=
  hpF D ++ [(3, .arr false 3 .int cls 0), (8, .box 25 zero25), (7, .arr true 50 .arc outs asp)] ++ hpMg D cls left es clk lsp fsp 0 0 5 6 7 outs.length (outs.length + asp) cc
def MergePost (D : TF) (cls : List Int) (more : Int) (v : SV) (s : S) : Prop := ∃ (left : List Int) (outs : List Arc) (fsp asp : Nat), mgRows D cls left.length = (left, outs) ∧ (∀ j, j < left.length → j < (mgRows D cls j).1.length) ∧ MgI D cls (left, outs) ∧
  v = .a (.agg [.i (left.length : Nat), .i 0, .sl 5 1 0 (adF more (left.map (fiA D))).length ((adF more (left.map (fiA D))).length + fsp), .sl 6 5 0 (outs.map (adA more)).length ((outs.map (adA more)).length + asp)]) ∧
  s = ⟨[], [(5, .arr true 3 .int (adF more (left.map (fiA D))) fsp), (6, .arr true 50 .arc (outs.map (adA more)) asp)], 7⟩
structure MZ where
  left : List Int
  outs : List Arc
  es : List (Int × Int × Nat)
  clk : Nat
  lsp : Nat
  fsp : Nat
  asp : Nat
set_option maxHeartbeats 16000000 in
set_option maxRecDepth 20000 in
theorem merge_c (D : TF) (hD : DFst D) (hs : 0 ≤ D.start ∧ D.start < D.st) (cls : List Int) (cc : Nat) (hcl : (cls.length : Int) = D.st) (hcb : ∀ j, j < D.st.toNat → 0 ≤ cls.getD j 0 ∧ cls.getD j 0 < D.st) (more : Int) (hm : 0 ≤ more ∧ more ≤ 10000000000000) :
    Ct Tryd.prog 76 [.c (.ptr 2 0), .i more] [] (hpF D ++ [(2, .box 101 [.i D.st, .i D.start, .sl 0 1 0 D.fin.length D.capF, .sl 1 5 0 D.arcs.length D.capA, .sl 3 1 0 cls.length cc, .mp 4, .v (.slice none 0 0), .i 0, .i 0, .v (.slice none 0 0), .v (.slice none 0 0)]), (3, .arr false 3 .int cls 0), (4, .map .int .int [] 0)]) 5 (MergePost D cls more) := by
  have hst := hD.st
  have hst1 := hD.st1
  have hal := hD.arc1
  have hfl := hD.finl
  refine ctC Tryd.tyOk Tryd.func76 rfl (by simp) (by simp) (fr := [(0, .c (.ptr 2 0)), (1, .i more)]) rfl ?_
  refine SemC.cut Tryd.tyOk 10 [30, 31, 32, 84, 85] (fun _ : Unit => ⟨[(0, .c (.ptr 2 0)), (1, .i more), (4, .c (.ptr 8 0))], hpMr D cls [] [] [] 0 0 0 0 cc, 9⟩) (fun _ => True) 1 _ _ ?_ ?_
  · repeat' (first | exact rfl | ((conv => whnf); first | (refine qX (fun h => ?_) fun h => ?_ <;> try exact absurd h (by omega)) | refine oN ?_ | refine oM ?_ ?_ | refine bM ?_ ?_ | refine dR ?_))
    (conv => whnf)
    refine ⟨(), [(8, some 5), (5, none), (6, none), (7, none)], ⟨by rfl, ?_, ?_⟩, trivial⟩
    · simp
    · simp [nilO, fCells]
  rintro _ -
  refine SemC.of Tryd.tyOk 10 [30, 31, 32, 84, 85] ?_
  repeat' (first | exact rfl | ((conv => whnf); first | (refine qX (fun h => ?_) fun h => ?_ <;> try exact absurd h (by omega)) | refine oN ?_ | refine oM ?_ ?_ | refine bM ?_ ?_ | refine dR ?_))
  (conv => whnf)
  refine cF (numberM_c D hD.toFRng cls [] hcl (by simp) [] 0 0 0 0 0 0 0 cc D.start hs NumI.nil) [0, 1, 2, 3, 4, 5, 6, 7] Tryd.call94 ?_
  have e1 : mgL cls [] D.start = [D.start] := by simp [mgL]
  rw [e1]
  rintro _ _ ⟨es, clk, lsp, fsp, hni, rfl, rfl⟩
  have hi0 : MgI D cls (mgRows D cls 0) := ⟨fun s h => by simp only [mgRows, List.mem_singleton] at h; rw [h]; exact hs, by simp [mgRows], by simp [mgRows], fun a h => by simp [mgRows] at h⟩
  repeat' (first | exact rfl | ((conv => whnf); first | (refine qX (fun h => ?_) fun h => ?_ <;> try exact absurd h (by omega)) | refine oN ?_ | refine oM ?_ ?_ | refine bM ?_ ?_ | refine dR ?_))
  (conv => whnf)
  refine loopI (fun z : Nat × MZ => ⟨[(0, .c (.ptr 2 0)), (1, .i more), (4, .c (.ptr 8 0)), (5, .i z.1)], hpMr D cls z.2.left z.2.outs z.2.es z.2.clk z.2.lsp z.2.fsp z.2.asp cc, 9⟩)
    (fun z => z.1 ≤ z.2.left.length ∧ mgRows D cls z.1 = (z.2.left, z.2.outs) ∧ MgI D cls (z.2.left, z.2.outs) ∧ NumI z.2.es (z.2.left.map (clA cls)) ∧ z.2.outs.length ≤ z.1 * 10000 ∧ ∀ j, j < z.1 → j < (mgRows D cls j).1.length) (fun z => 1000 - z.1) (0, ⟨[D.start], [], es, clk, lsp, fsp, 0⟩) [(5, some 9), (6, some 10)] ⟨by rfl, ?_, ?_⟩ ⟨Nat.zero_le _, rfl, hi0, hni, Nat.zero_le _, fun j h => absurd h (Nat.not_lt_zero _)⟩ ?_
  · simp
  · simp [fCells]
  · clear hni es clk lsp fsp
    rintro ⟨i, ⟨left, outs, es, clk, lsp, fsp, asp⟩⟩ ⟨hi, hrow, hinv, hni, hol, hml⟩
    simp only at hi hrow hinv hni hol hml ⊢
    have hle := hinv.le hst.1 hcb
    simp only at hle
    (conv => whnf)
    refine condP_dec (fun hi2 => ?_) (fun hi2 => ?_)
    · repeat' (first | exact rfl | ((conv => whnf); first | (refine qX (fun h => ?_) fun h => ?_ <;> try exact absurd h (by omega)) | refine oN ?_ | refine oM ?_ ?_ | refine bM ?_ ?_ | refine dR ?_))
      (conv => whnf)
      have hnx : mgRows D cls (i + 1) = mgP D cls i (left.getD i 0) (left, outs) D.arcs.length := by
        show mgP D cls i ((mgRows D cls i).1.getD i 0) (mgRows D cls i) D.arcs.length = _
        rw [hrow]
      refine loopI (fun z : Nat × MZ => ⟨[(0, .c (.ptr 2 0)), (1, .i more), (4, .c (.ptr 8 0)), (5, .i i), (30, .c (.sl 1 5 0 D.arcs.length D.capA)), (31, .i D.arcs.length), (32, .i z.1)], hpMr D cls z.2.left z.2.outs z.2.es z.2.clk z.2.lsp z.2.fsp z.2.asp cc, 9⟩)
        (fun z => z.1 ≤ D.arcs.length ∧ mgP D cls i (left.getD i 0) (left, outs) z.1 = (z.2.left, z.2.outs) ∧ MgI D cls (z.2.left, z.2.outs) ∧ NumI z.2.es (z.2.left.map (clA cls))) (fun z => D.arcs.length - z.1) (0, ⟨left, outs, es, clk, lsp, fsp, asp⟩) [] ⟨by rfl, ?_, ?_⟩ ⟨Nat.zero_le _, rfl, hinv, hni⟩ ?_
      · simp
      · simp [fCells]
      · clear hni hinv es clk lsp fsp asp
        rintro ⟨k, ⟨lk, ok, es, clk, lsp, fsp, asp⟩⟩ ⟨hk, hrk, hinv, hni⟩
        simp only at hk hrk hinv hni ⊢
        have hlk := hinv.le hst.1 hcb
        obtain ⟨hpl, M, hM⟩ := mgP_len (D := D) (cls := cls) (i := i) (s := left.getD i 0) (st := (left, outs)) k
        have hks : mgP D cls i (left.getD i 0) (left, outs) (k + 1) = mgStep cls i (left.getD i 0) (mgP D cls i (left.getD i 0) (left, outs) k) (D.arcs.getD k aD) := rfl
        rw [hrk] at hpl hM hks
        simp only at hpl hM hlk
        have hgi : lk.getD (0 + (i : Int).toNat) EK.int.dflt = left.getD i 0 := by
          rw [show 0 + (i : Int).toNat = i by omega, hM]
          simp only [List.getD]
          rw [List.getElem?_append_left (by omega)]
          rfl
        have hll : i < lk.length := by rw [hM, List.length_append]; omega
        (conv => whnf)
        refine condP_dec (fun hk2 => ?_) (fun hk2 => ?_)
        · have ek : 0 + (k : Int).toNat = k := by omega
          have hax : D.arcs.getD (0 + (k : Int).toNat) EK.arc.dflt = D.arcs.getD k aD := by rw [ek]; rfl
          have hma := getD_mem D.arcs k aD (by omega)
          have hb1 := hD.arc _ hma
          have hb2 := hD.w _ hma
          rw [← hax] at hb1 hb2 hks
          have hstep := hinv.step (i := i) (s := left.getD i 0) ⟨hb1.2.2.1, hb1.2.2.2⟩ hb2
          generalize hsv : left.getD i 0 = sv at *
          rw [← hgi] at hks hstep
          repeat' (first | exact rfl | ((conv => whnf); first | (refine qX (fun h => ?_) fun h => ?_ <;> try exact absurd h (by omega)) | refine oN ?_ | refine oM ?_ ?_ | refine bM ?_ ?_ | refine dR ?_))
          · unfold mgStep at hks hstep
            rw [if_pos h] at hks hstep
            simp only at hks hstep
            (conv => whnf)
            refine cF (numberM_c D hD.toFRng cls lk hcl (by omega) es clk lsp fsp 0 0 ok.length (ok.length + asp) cc (D.arcs.getD (0 + (k : Int).toNat) EK.arc.dflt).t hb1.2.2 hni) [0, 1, 2, 3, 4, 5, 6, 7] Tryd.call94 ?_
            rintro _ _ ⟨es2, clk2, lsp2, fsp2, hni2, rfl, rfl⟩
            generalize hmn : mgN cls lk (D.arcs.getD (0 + (k : Int).toNat) EK.arc.dflt).t = mn at *
            simp only [Nat.reduceAdd, Nat.reduceSub]
            repeat' (first | exact rfl | ((conv => whnf); first | (refine qX (fun h => ?_) fun h => ?_ <;> try exact absurd h (by omega)) | refine oN ?_ | refine oM ?_ ?_ | refine bM ?_ ?_ | refine dR ?_ | intro _))
            (conv => whnf)
            rename_i sp2
            refine ⟨(k + 1, ⟨mgL cls lk (D.arcs.getD (0 + (k : Int).toNat) EK.arc.dflt).t, ok ++ [⟨(i : Nat), (D.arcs.getD (0 + (k : Int).toNat) EK.arc.dflt).i, (D.arcs.getD (0 + (k : Int).toNat) EK.arc.dflt).o, mn, (D.arcs.getD (0 + (k : Int).toNat) EK.arc.dflt).w⟩], es2, clk2, lsp2, fsp2, sp2⟩), [(5, some 10), (6, some 11), (7, some 13)], ⟨by rfl, ?_, ?_⟩, ⟨by simp only; omega, by rw [← hgi]; exact hks, hstep, hni2⟩, by simp only; omega⟩
            · simp
            · simp [fCells, app_one]
          · unfold mgStep at hks hstep
            rw [if_neg h] at hks hstep
            (conv => whnf)
            refine ⟨(k + 1, ⟨lk, ok, es, clk, lsp, fsp, asp⟩), [], ⟨by rfl, ?_, ?_⟩, ⟨by simp only; omega, by rw [← hks, hgi], hinv, hni⟩, by simp only; omega⟩
            · simp
            · simp [fCells]
        · have e : k = D.arcs.length := by omega
          subst e
          rw [hrk] at hnx
          repeat' (first | exact rfl | ((conv => whnf); first | (refine qX (fun h => ?_) fun h => ?_ <;> try exact absurd h (by omega)) | refine oN ?_ | refine oM ?_ ?_ | refine bM ?_ ?_ | refine dR ?_))
          (conv => whnf)
          refine ⟨(i + 1, ⟨lk, ok, es, clk, lsp, fsp, asp⟩), [], ⟨by rfl, ?_, ?_⟩, ⟨by simp only; omega, hnx, hinv, hni, by simp only; omega, fun j hj => by
            by_cases ej : j = i
            · rw [ej, hrow]; exact (show i < left.length by omega)
            · exact hml j (by simp only at hj; omega)⟩, by simp only; omega⟩
          · simp
          · simp [fCells]
    · have e : i = left.length := by omega
      subst e
      have hel := hni.len
      rw [List.length_map] at hel
      have hpo := hinv.pos
      simp only at hpo
      have hll : outs.length ≤ 10000000 := by omega
      repeat' (first | exact rfl | ((conv => whnf); first | (refine qX (fun h => ?_) fun h => ?_ <;> try exact absurd h (by omega)) | refine oN ?_ | refine oM ?_ ?_ | refine bM ?_ ?_ | refine dR ?_))
      (conv => whnf)
      refine loopI (fun k : Nat => ⟨[(0, .c (.ptr 2 0)), (1, .i more), (4, .c (.ptr 8 0)), (84, .i outs.length), (85, .i k)], hpMs D cls left (adK more outs k) es clk lsp fsp asp cc left.length, 9⟩)
        (fun k => k ≤ outs.length) (fun k => outs.length - k) 0 [] ⟨by rfl, ?_, ?_⟩ (Nat.zero_le _) ?_
      · simp
      · simp [fCells, adK, hel]
      · intro k hk
        have hal2 := adK_len more outs k
        (conv => whnf)
        refine condP_dec (fun hk2 => ?_) (fun hk2 => ?_)
        · have ek : 0 + (k : Int).toNat = k := by omega
          have hset := adK_set (more := more) (l := outs) (show k < outs.length by omega)
          have hget := adK_get (more := more) (l := outs) (show k < outs.length by omega)
          have hwb := hinv.w _ (getD_mem outs k aD (by omega))
          rw [← hget] at hset hwb
          rw [← adK_len more outs k] at hk2
          generalize hgk : adK more outs k = ak at *
          have hax : ak.getD (0 + (k : Int).toNat) EK.arc.dflt = ak.getD k aD := by rw [ek]; rfl
          rw [← hax] at hset hwb
          repeat' (first | exact rfl | ((conv => whnf); first | (refine qX (fun h => ?_) fun h => ?_ <;> try exact absurd h (by omega)) | refine oN ?_ | refine oM ?_ ?_ | refine bM ?_ ?_ | refine dR ?_))
          · have hs2 : ak.set (0 + (k : Int).toNat) ⟨(ak.getD (0 + (k : Int).toNat) EK.arc.dflt).f, (ak.getD (0 + (k : Int).toNat) EK.arc.dflt).i, (ak.getD (0 + (k : Int).toNat) EK.arc.dflt).o, (ak.getD (0 + (k : Int).toNat) EK.arc.dflt).t, (ak.getD (0 + (k : Int).toNat) EK.arc.dflt).w + more⟩ = adK more outs (k + 1) := by
              rw [← hset, show 0 + (k : Int).toNat = k from ek]
              rw [show 0 + (k : Int).toNat = k from ek] at h
              unfold adA
              rw [if_pos h]
            have hl2 := adK_len more outs (k + 1)
            (conv => whnf)
            rw [hs2]
            refine ⟨k + 1, [], ⟨by rfl, ?_, ?_⟩, by omega, by omega⟩
            · simp
            · simp [fCells, hl2, hal2]
          · have hs2 : ak = adK more outs (k + 1) := by
              rw [← hset, show 0 + (k : Int).toNat = k from ek]
              rw [show 0 + (k : Int).toNat = k from ek] at h
              unfold adA
              rw [if_neg h]
              have hk3 : k < ak.length := by omega
              simp only [List.getD, List.getElem?_eq_getElem hk3, Option.getD_some]
              exact (List.set_getElem_self hk3).symm
            (conv => whnf)
            refine ⟨k + 1, [], ⟨by rfl, ?_, ?_⟩, by omega, by omega⟩
            · simp
            · rw [← hs2]
              simp [fCells]
        · have e : k = outs.length := by omega
          subst e
          rw [adK_all]
          have hlf : (left.map (fiA D)).length = left.length := List.length_map _
          have hlo : (outs.map (adA more)).length = outs.length := List.length_map _
          have hfv : -1 ≤ (left.map (fiA D)).getD 0 0 ∧ (left.map (fiA D)).getD 0 0 ≤ 10000000000000 := by
            have h0 := hinv.rng _ (getD_mem left 0 0 hpo)
            have e : (left.map (fiA D)).getD 0 0 = fiA D (left.getD 0 0) := by
              have : 0 < left.length := hpo
              simp [List.getD, this]
            rw [e]
            exact hD.fin _ (getD_mem D.fin _ 0 (by omega))
          have hfv2 : -1 ≤ (left.map (fiA D)).getD (0 + Int.toNat 0) EK.int.dflt ∧ (left.map (fiA D)).getD (0 + Int.toNat 0) EK.int.dflt ≤ 10000000000000 := hfv
          have hal1 : (adF more (left.map (fiA D))).length = left.length := by unfold adF; split <;> simp
          generalize hos : outs.map (adA more) = os at *
          repeat' (first | exact rfl | ((conv => whnf); first | (refine qX (fun h => ?_) fun h => ?_ <;> try exact absurd h (by omega)) | refine oN ?_ | refine oM ?_ ?_ | refine bM ?_ ?_ | refine dR ?_))
          · have haf : (left.map (fiA D)).set (0 + Int.toNat 0) ((left.map (fiA D)).getD (0 + Int.toNat 0) EK.int.dflt + more) = adF more (left.map (fiA D)) := by
              have h : ¬ (left.map (fiA D)).getD 0 0 = -1 := h
              unfold adF
              rw [if_neg h]
              rfl
            (conv => whnf)
            rw [haf]
            refine ⟨[(5, some 6), (6, some 7)], [(5, .arr true 3 .int (adF more (left.map (fiA D))) fsp), (6, .arr true 50 .arc os asp)], 7, .a (.agg [.i (left.length : Nat), .i 0, .sl 5 1 0 (adF more (left.map (fiA D))).length ((adF more (left.map (fiA D))).length + fsp), .sl 6 5 0 os.length (os.length + asp)]), ⟨by rfl, trivial, by simp⟩, by simp [hal1], left, outs, fsp, asp, hrow, hml, hinv, by rw [hos], by rw [hos]⟩
          · have haf : left.map (fiA D) = adF more (left.map (fiA D)) := by
              have h : (left.map (fiA D)).getD 0 0 = -1 := h
              unfold adF
              rw [if_pos h]
            (conv => whnf)
            refine ⟨[(5, some 6), (6, some 7)], [(5, .arr true 3 .int (adF more (left.map (fiA D))) fsp), (6, .arr true 50 .arc os asp)], 7, .a (.agg [.i (left.length : Nat), .i 0, .sl 5 1 0 (adF more (left.map (fiA D))).length ((adF more (left.map (fiA D))).length + fsp), .sl 6 5 0 os.length (os.length + asp)]), ⟨by rfl, trivial, ?_⟩, by simp [hal1], left, outs, fsp, asp, hrow, hml, hinv, by rw [hos], by rw [hos]⟩
            rw [← haf]
            simp
end Go.Fw
