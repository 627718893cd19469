/- Walks of the functions: what each computes. -/
import Derived.Test.YtlaenllbacalpaaDoorV19
import Derived.Test.YtlaenllbacalpaaDoorV16
import Derived.Test.YtlaenllbacalpaaDoorV18
import Derived.Test.YtlaenllbacalpaaDoorV08
import Derived.Test.YtlaenllbacalpaaDoorV09

set_option linter.unusedSimpArgs false
set_option linter.unusedVariables false

namespace Go.Fw
open Go Go.Proofs

/-- What the document answers. -/
def LeastOfPost (F : TF) (v : SV) (s : S) : Prop := ∃ (U : TF) (W vs : List (List Int)) (par sym : List Int), IsUs F U ∧
  ((∃ i c, WSt U W vs par sym i c ∧ W.length = 201 ∧ v = .tup [.agg zero25, .c (.i 2)] ∧ s = ⟨[], [], 2⟩) ∨
   (WSt U W vs par sym W.length 1 ∧ W.length ≤ 200 ∧ ∃ (n : Nat) (ff : List Int) (oo : List Arc),
     ((¬ (∃ w c, CW U U.start w c) ∧ n = 1 ∧ ff = [-1] ∧ oo = []) ∨
      ((∃ w c, CW U U.start w c) ∧ ∃ first, lrRows U W vs first.length = (first, oo) ∧ (∀ j, j < first.length → j < (lrRows U W vs j).1.length) ∧ n = first.length ∧ ff = lrF U W vs first first.length)) ∧
     ((greatB oo ff = true ∧ v = .tup [.agg zero25, .c (.i 2)] ∧ s = ⟨[], [], 2⟩) ∨
      (greatB oo ff = false ∧ ∃ sp sq, v = .tup [.agg [.i (n : Nat), .i 0, .sl 2 1 0 ff.length (ff.length + sp), .sl 3 5 0 oo.length (oo.length + sq)], .c (.i 0)] ∧
        s = ⟨[], [(2, .arr true 3 .int ff sp), (3, .arr true 50 .arc oo sq)], 4⟩))))

theorem IsUs.fok {F U : TF} (h : IsUs F U) (hF : FOk F) : FOk U := by
  have hw := WOk.of hF
  obtain ⟨h1, h2, h3⟩ := h.ok hw hF.start
  have hst := hF.st
  have hal := hF.arcl
  have hu1 : 1 ≤ U.st := by omega
  refine ⟨⟨hu1, by omega⟩, h2, h1.finl, h1.fin, ?_, fun a ha => ?_⟩
  · obtain ⟨p, hp, _, _, _, e⟩ := h
    rw [e]
    unfold kT
    split
    · have := karc_len p F.arcs F.arcs.length
      show (karc p F.arcs F.arcs.length).length ≤ 3000
      omega
    · simp
  · obtain ⟨b, hb, e1, e2, e3⟩ := h.arcs ha
    have hb := hF.arc b hb
    have hr := h1.arc a ha
    exact ⟨hr.1, hr.2.1, hr.2.2.1, hr.2.2.2, e1 ▸ hb.i0, e2 ▸ hb.o0, by rw [e3]; exact hb.w0, by rw [e3]; exact hb.w1⟩

structure LZ where
  U : TF
  W : List (List Int)
  vs : List (List Int)
  par : List Int
  sym : List Int
  rows : List Sli
  m : List (Addr × List Int × Nat)
  spU : Nat
  sqU : Nat
  sr : Nat
  sp : Nat
  sy : Nat

/-- The words, and the beginnings that speak for states. -/
abbrev hpLs (U : TF) (W vs : List (List Int)) (rows : List Sli) (m : List (Addr × List Int × Nat)) (par sym : List Int) (spU sqU sr sp sy : Nat) (first : List Nat) (sf sb : Nat) : List (Nat × SO) :=
  [(2, .arr true 3 .int U.fin spU), (3, .arr true 50 .arc U.arcs sqU), (4, .arr true 22 .sli rows sr), (5, .pool 3 .int m), (6, .arr true 3 .int par sp), (7, .arr true 3 .int sym sy),
   (8, .box 36 (cWo U 2 3 4 6 7 rows.length (rows.length + sr) par.length (par.length + sp) sym.length (sym.length + sy))), (9, .box 22 [.sl 11 1 0 first.length (first.length + sf)]), (10, .box 22 [.sl 12 1 0 first.length (first.length + sb)]),
   (11, .arr true 3 .int (first.map fun j : Nat => (j : Int)) sf), (12, .arr true 3 .int (first.map fun j => bstW U W vs W.length j) sb), (13, .box 25 zero25)]
abbrev frLs : List (Nat × SV) := [(2, .c (.ptr 13 0)), (4, .c (.ptr 8 0)), (6, .c (.ptr 9 0)), (7, .c (.ptr 10 0)), (8, .c (.fn 48 [(8, 0), (9, 0), (10, 0)]))]

structure LY where
  first : List Nat
  outs : List Arc
  fi : List Int
  sf : Nat
  sb : Nat
  si : Nat
  so : Nat

/-- .. and what is made so far. -/
abbrev hpLo (U : TF) (W vs : List (List Int)) (rows : List Sli) (m : List (Addr × List Int × Nat)) (par sym : List Int) (spU sqU sr sp sy : Nat) (first : List Nat) (outs : List Arc) (fi : List Int) (sf sb si so : Nat) : List (Nat × SO) :=
  hpLs U W vs rows m par sym spU sqU sr sp sy first sf sb ++ [(14, .box 25 [.i 0, .i 0, .sl 15 1 0 fi.length (fi.length + si), .sl 16 5 0 outs.length (outs.length + so)]), (15, .arr true 3 .int fi si), (16, .arr true 50 .arc outs so)]

set_option maxHeartbeats 16000000 in
set_option maxRecDepth 20000 in
theorem leastOf_c (F : TF) (hF : FOk F) (hf : fineB F = true) (h12 : F.st ≤ 12) : Ct Tryd.prog 23 [fV F] [] (hpF F) 2 (LeastOfPost F) := by
  have hst := hF.st
  refine ctC Tryd.tyOk Tryd.func23 rfl (by simp) (by simp) (fr := [(0, fV F)]) rfl ?_
  refine SemC.cut Tryd.tyOk 16 [] (fun z : LZ => ⟨frLs, hpLs z.U z.W z.vs z.rows z.m z.par z.sym z.spU z.sqU z.sr z.sp z.sy [] 0 0, 14⟩)
    (fun z => IsUs F z.U ∧ z.U.capF = z.U.fin.length + z.spU ∧ z.U.capA = z.U.arcs.length + z.sqU ∧ WSt z.U z.W z.vs z.par z.sym z.W.length 1 ∧ Tab2 z.m z.rows z.vs.length (fun j => z.vs.getD j []) ∧ z.W.length ≤ 200 ∧ ∃ w c, CW z.U z.U.start w c) 7 _ _ ?_ ?_
  · repeat' (first | exact rfl | ((conv => whnf); first | (refine qX (fun h => ?_) fun h => ?_ <;> try exact absurd h (by omega)) | refine oN ?_ | refine oM ?_ ?_ | refine bM ?_ ?_ | refine dR ?_))
    (conv => whnf)
    refine cF (wordsOf_c F (WOk.of hF) hst.2 hF.start) [0, 1] Tryd.call17 ?_
    rintro _ _ ⟨U, W, vs, par, sym, i, c, ok, rows, m, spU, sqU, sr, sp, sy, hus, hcF, hcA, hW, htab, hcase, rfl, rfl⟩
    try simp only [Nat.reduceAdd, Nat.reduceSub]
    rcases hcase with ⟨rfl, h1, rfl, rfl⟩ | ⟨rfl, h1⟩
    · repeat' (first | exact rfl | ((conv => whnf); first | (refine qX (fun h => ?_) fun h => ?_ <;> try exact absurd h (by omega)) | refine oN ?_ | refine oM ?_ ?_ | refine bM ?_ ?_ | refine dR ?_ | intro _))
      (conv => whnf)
      try simp only [Nat.reduceAdd, Nat.reduceSub]
      obtain ⟨hUw, hUs, _⟩ := hus.ok (WOk.of hF) hF.start
      have hb := bgn_yes hF hf hus hus hW h1
      obtain ⟨st, hst2⟩ := MDone.some hUw.st.1 hUw.w (fun a ha => (hUw.arc a ha).2.2) hUs hb
      have hD : DetH F U st := ⟨hF, hf, hus, hb, hst2⟩
      have hUf := hus.fok hF
      have h0 := bst0_iff hD hW
      have hpos := hW.pos
      have cB := wBest_c U hUf hD.hU W vs rows m par sym (rows.length + sr) (par.length + sp) (sym.length + sy) hW (by omega) htab W.length 0 hpos (by omega)
      clear hUw hUs hb hst2 hD hUf
      generalize bstW U W vs W.length 0 = b0 at *
      refine cF (cB) [4, 5, 6, 7, 8, 9] Tryd.call47 ?_
      rintro _ _ ⟨rfl, rfl⟩
      try simp only [Nat.reduceAdd, Nat.reduceSub]
      repeat' (first | exact rfl | ((conv => whnf); first | (refine qX (fun h => ?_) fun h => ?_ <;> try exact absurd h (by omega)) | refine oN ?_ | refine oM ?_ ?_ | refine bM ?_ ?_ | refine dR ?_ | intro _))
      · (conv => whnf)
        try simp only [Nat.reduceAdd, Nat.reduceSub]
        exact ⟨[(2, some 11), (3, none)], [(2, .arr true 3 .int [-1] 0), (3, .arr true 50 .arc [] 0)], 4, .tup [.agg [.i ((1 : Nat) : Int), .i 0, .sl 2 1 0 ([-1] : List Int).length (([-1] : List Int).length + 0), .sl 3 5 0 ([] : List Arc).length (([] : List Arc).length + 0)], .c (.i 0)], ⟨by rfl, trivial, by simp [nilO]⟩, by simp,
          U, W, vs, par, sym, hus, .inr ⟨hW, h1, 1, [-1], [], .inl ⟨h0.1 (by assumption), rfl, rfl, rfl⟩, .inr ⟨by decide, 0, 0, rfl, rfl⟩⟩⟩
      · (conv => whnf)
        try simp only [Nat.reduceAdd, Nat.reduceSub]
        refine ⟨⟨U, W, vs, par, sym, rows, m, spU, sqU, sr, sp, sy⟩, [(2, some 4), (3, some 5), (4, some 6), (5, some 7), (6, some 8), (7, some 9), (8, some 10), (9, some 11), (10, some 12), (11, none), (12, none), (13, some 3)], ⟨by rfl, ?_, ?_⟩, hus, hcF, hcA, hW, htab, h1, ?_⟩
        · simp
        · simp [nilO]
        · exact Classical.byContradiction fun hc => by have := h0.2 hc; omega
    · repeat' (first | exact rfl | ((conv => whnf); first | (refine qX (fun h => ?_) fun h => ?_ <;> try exact absurd h (by omega)) | refine oN ?_ | refine oM ?_ ?_ | refine bM ?_ ?_ | refine dR ?_ | intro _))
      (conv => whnf)
      exact ⟨[], [], 2, .tup [.agg zero25, .c (.i 2)], ⟨by rfl, trivial, by simp⟩, by simp, U, W, vs, par, sym, hus, .inl ⟨i, c, hW, h1, rfl, rfl⟩⟩
  · rintro ⟨U, W, vs, par, sym, rows, m, spU, sqU, sr, sp, sy⟩ ⟨hus, hcF, hcA, hW, htab, hl, hn⟩
    simp only at hus hcF hcA hW htab hl hn ⊢
    obtain ⟨hUw, hUs, _⟩ := hus.ok (WOk.of hF) hF.start
    have hb := bgn_yes hF hf hus hus hW hl
    obtain ⟨st, hst2⟩ := MDone.some hUw.st.1 hUw.w (fun a ha => (hUw.arc a ha).2.2) hUs hb
    have hD : DetH F U st := ⟨hF, hf, hus, hb, hst2⟩
    have hUf := hus.fok hF
    have hpos := hW.pos
    have hend := fun j (hj : j < W.length) => end_bd hD h12 hW hj
    have hbst := fun j (hj : j < W.length) => bst_bd hD h12 hW hj
    have cE := fun i (hi : i < W.length) => wEnd_c U hUf hD.hU W vs rows m par sym (rows.length + sr) (par.length + sp) (sym.length + sy) hW (by omega) htab i hi
    have cO := fun i (hi : i < W.length) c => wOn_c U W vs rows m par sym (rows.length + sr) (par.length + sp) (sym.length + sy) hW (by omega) i hi c
    have cB := fun i (hi : i < W.length) => wBest_c U hUf hD.hU W vs rows m par sym (rows.length + sr) (par.length + sp) (sym.length + sy) hW (by omega) htab W.length i hi (by omega)
    have cS := fun first (hf : ∀ j ∈ first, j < W.length) (hfl : first.length ≤ 1000) sf sb i (hi : i < W.length) => wState_c U hUf hD.hU W vs rows m par sym (rows.length + sr) (par.length + sp) (sym.length + sy) hW (by omega) htab (fun j hj => by have := hend j hj; omega) (fun j hj => by have := hbst j hj; omega) first hf hfl sf sb i hi
    have hor := fun i (hi : i < W.length) c => hW.onI_rng (c := c) hi
    clear hUw hUs hb hst2 hD hUf hst
    refine SemC.of Tryd.tyOk 16 [] ?_
    repeat' (first | exact rfl | ((conv => whnf); first | (refine qX (fun h => ?_) fun h => ?_ <;> try exact absurd h (by omega)) | refine oN ?_ | refine oM ?_ ?_ | refine bM ?_ ?_ | refine dR ?_))
    (conv => whnf)
    have cS0 := cS [] (by simp) (by simp) 0 0 0 hpos
    rw [LrI.lsF0] at cS0
    refine cF (cS0) [2, 3, 4, 5, 6, 7, 8, 9, 10, 11, 12] Tryd.call48 ?_
    rintro _ _ ⟨sf0, sb0, rfl, rfl⟩
    try simp only [Nat.reduceAdd, Nat.reduceSub]
    repeat' (first | exact rfl | ((conv => whnf); first | (refine qX (fun h => ?_) fun h => ?_ <;> try exact absurd h (by omega)) | refine oN ?_ | refine oM ?_ ?_ | refine bM ?_ ?_ | refine dR ?_ | intro _))
    (conv => whnf)
    try simp only [Nat.reduceAdd, Nat.reduceSub]
    refine loopI (fun z : Nat × LY => ⟨frLs ++ [(9, .c (.ptr 14 0)), (10, .i z.1)], hpLo U W vs rows m par sym spU sqU sr sp sy z.2.first z.2.outs z.2.fi z.2.sf z.2.sb z.2.si z.2.so, 17⟩)
      (fun z => z.1 ≤ z.2.first.length ∧ lrRows U W vs z.1 = (z.2.first, z.2.outs) ∧ LrI W z.2.first ∧ z.2.fi = lrF U W vs z.2.first z.1 ∧ (∀ j, j < z.1 → j < (lrRows U W vs j).1.length) ∧ z.2.outs.length ≤ 9 * z.1) (fun z => 201 - z.1)
      (0, ⟨[0], [], [], sf0, sb0, 0, 0⟩) [(11, some 14), (12, some 15), (14, some 16), (15, none), (16, none)] ⟨by rfl, ?_, ?_⟩ ⟨by simp, rfl, LrI.start hpos, rfl, fun j h => absurd h (Nat.not_lt_zero _), Nat.le_refl _⟩ ?_
    · simp
    · simp [nilO]
    · rintro ⟨n, ⟨first, outs, fi, sf, sb, si, so⟩⟩ ⟨hnl, hrow, hI, hfi, hml, hol⟩
      simp only at hnl hrow hI hfi hml hol ⊢
      have hIl := hI.le
      have hlm1 : (first.map fun j : Nat => (j : Int)).length = first.length := List.length_map _
      have hlm2 : (first.map fun j => bstW U W vs W.length j).length = first.length := List.length_map _
      (conv => whnf)
      refine condP_dec (fun hn2 => ?_) (fun hn2 => ?_)
      · have hn3 : n < first.length := by omega
        have hj := hI.rng _ (getD_mem first n 0 hn3)
        have e0 : 0 + (n : Int).toNat = n := by omega
        have ef : (first.map fun j : Nat => (j : Int)).getD (0 + (n : Int).toNat) EK.int.dflt = (first.getD n 0 : Nat) := by rw [e0]; simp [List.getD, hn3]
        have eb : (first.map fun j => bstW U W vs W.length j).getD (0 + (n : Int).toNat) EK.int.dflt = bstW U W vs W.length (first.getD n 0) := by rw [e0]; simp [List.getD, hn3]
        have hbj := hbst _ hj
        have hej := hend _ hj
        have cEj := cE _ hj
        have hfs : lrF U W vs first (n + 1) = fi ++ [lrE U W vs n (first.getD n 0)] := by rw [lrF_succ, ← hfi]
        have hfl : fi.length = n := by rw [hfi, lrF_len]
        generalize hjj : first.getD n 0 = j at *
        have hb0 : n = 0 → lrBase U W vs n j = 0 := fun e => by unfold lrBase; rw [if_pos e]
        have hb1 : n ≠ 0 → lrBase U W vs n j = bstW U W vs W.length j := fun e => by unfold lrBase; rw [if_neg e]
        have hbb : 0 ≤ n → -1 ≤ lrBase U W vs n j ∧ lrBase U W vs n j ≤ 13000000000 := fun _ => by
          by_cases e : n = 0
          · rw [hb0 e]; omega
          · rw [hb1 e]; exact hbj
        have hlE : lrE U W vs n j = if 0 ≤ endW U vs j then endW U vs j - lrBase U W vs n j else endW U vs j := rfl
        have hnx : lrRows U W vs (n + 1) = lrL U W vs n j (first, outs) 9 := by
          show lrL U W vs n ((lrRows U W vs n).1.getD n 0) (lrRows U W vs n) 9 = _
          rw [hrow, hjj]
        have hLs : ∀ k, lrL U W vs n j (first, outs) (k + 1) = if 0 ≤ onI W j ((k : Int) + 1) then
            (lsF U W vs (lrL U W vs n j (first, outs) k).1 (onI W j ((k : Int) + 1)).toNat, (lrL U W vs n j (first, outs) k).2 ++ [⟨(n : Nat), (k : Int) + 1, (k : Int) + 1, (lsN U W vs (lrL U W vs n j (first, outs) k).1 (onI W j ((k : Int) + 1)).toNat : Nat), bstW U W vs W.length (onI W j ((k : Int) + 1)).toNat - lrBase U W vs n j⟩])
            else lrL U W vs n j (first, outs) k := fun k => rfl
        have hLa := fun k => lrL_app (U := U) (W := W) (vs := vs) n j (first, outs) k
        generalize hbs : lrBase U W vs n j = base at *
        generalize hle : lrE U W vs n j = lst at *
        repeat' (first | exact rfl | ((conv => whnf); first | (refine qX (fun h => ?_) fun h => ?_ <;> try exact absurd h (by omega)) | refine oN ?_ | refine oM ?_ ?_ | refine bM ?_ ?_ | refine dR ?_))
        all_goals
          (conv => whnf)
          try rw [eb]
          try rw [ef]
          refine cF (cEj) [2, 3, 4, 5, 6, 7] Tryd.call50 ?_
          rintro _ _ ⟨rfl, rfl⟩
          generalize hee : endW U vs j = ee at *
          repeat' (first | exact rfl | ((conv => whnf); first | (refine qX (fun h => ?_) fun h => ?_ <;> try exact absurd h (by omega)) | refine oN ?_ | refine oM ?_ ?_ | refine bM ?_ ?_ | refine dR ?_ | intro _))
          all_goals (conv => whnf)
        all_goals
          rename_i si2
          have hbv : base = 0 ∧ n = 0 ∨ base = bstW U W vs W.length j ∧ n ≠ 0 := by
            by_cases e : n = 0
            · exact .inl ⟨hb0 e, e⟩
            · exact .inr ⟨hb1 e, e⟩
          rcases hbv with ⟨hbv, hn0⟩ | ⟨hbv, hn0⟩ <;> try (exfalso; omega)
        all_goals
          have hlv := hlE
          split at hlv <;> try (exfalso; omega)
        all_goals
          try rw [hbv] at hlv
          refine loopI (fun z : Nat × LY => ⟨frLs ++ [(9, .c (.ptr 14 0)), (10, .i n), (11, .i base), (13, .i ((z.1 : Int) + 1))], hpLo U W vs rows m par sym spU sqU sr sp sy z.2.first z.2.outs z.2.fi z.2.sf z.2.sb z.2.si z.2.so, 17⟩)
            (fun z => z.1 ≤ 9 ∧ lrL U W vs n j (first, outs) z.1 = (z.2.first, z.2.outs) ∧ LrI W z.2.first ∧ z.2.fi = fi ++ [lst]) (fun z => 9 - z.1) (0, ⟨first, outs, fi ++ [lst], sf, sb, si2, so⟩) [(15, some 18)] ⟨by rfl, ?_, ?_⟩ ⟨Nat.zero_le _, rfl, hI, rfl⟩ ?_
          · simp [hbv]
          · simp [app_one, hlv]
          · clear hlv
            rintro ⟨k, ⟨f, o, fi2, sf3, sb3, si3, so3⟩⟩ ⟨hk, hrk, hI2, hf2⟩
            simp only at hk hrk hI2 hf2 ⊢
            obtain ⟨⟨M, hM⟩, hol2⟩ := hLa k
            rw [hrk] at hM hol2
            simp only at hM hol2
            have hI2l := hI2.le
            have hfn : f.getD n 0 = j := by
              rw [hM, ← hjj]
              simp only [List.getD]
              rw [List.getElem?_append_left hn3]
            have hfnl : n < f.length := by rw [hM, List.length_append]; omega
            have hgj : (f.map fun j : Nat => (j : Int)).getD (0 + (n : Int).toNat) EK.int.dflt = (j : Nat) := by rw [e0, ← hfn]; simp [List.getD, hfnl]
            have hlm3 : (f.map fun j : Nat => (j : Int)).length = f.length := List.length_map _
            have hlm4 : (f.map fun j => bstW U W vs W.length j).length = f.length := List.length_map _
            (conv => whnf)
            refine condP_dec (fun hk2 => ?_) (fun hk2 => ?_)
            · have hks := hLs k
              rw [hrk] at hks
              simp only at hks
              have hor2 := hor j hj ((k : Int) + 1)
              have cOj := cO j hj ((k : Int) + 1)
              generalize hon : onI W j ((k : Int) + 1) = on at *
              repeat' (first | exact rfl | ((conv => whnf); first | (refine qX (fun h => ?_) fun h => ?_ <;> try exact absurd h (by omega)) | refine oN ?_ | refine oM ?_ ?_ | refine bM ?_ ?_ | refine dR ?_))
              (conv => whnf)
              rw [hgj]
              refine cF (cOj) [2, 3, 4, 5, 6, 7] Tryd.call51 ?_
              rintro _ _ ⟨rfl, rfl⟩
              repeat' (first | exact rfl | ((conv => whnf); first | (refine qX (fun h => ?_) fun h => ?_ <;> try exact absurd h (by omega)) | refine oN ?_ | refine oM ?_ ?_ | refine bM ?_ ?_ | refine dR ?_))
              · rw [if_pos (by omega)] at hks
                obtain ⟨q, rfl⟩ := Int.eq_ofNat_of_zero_le (show 0 ≤ on by omega)
                rw [Int.toNat_natCast] at hks
                have hq : q < W.length := by omega
                have hbq := hbst q hq
                have cBq := cB q hq
                have hI3 := hI2.step (U := U) (vs := vs) hq
                have hI3l := hI3.le
                (conv => whnf)
                refine cF (cS f hI2.rng (by omega) sf3 sb3 q hq) [2, 3, 4, 5, 6, 7, 8, 9, 10, 11, 12] Tryd.call48 ?_
                rintro _ _ ⟨sf4, sb4, rfl, rfl⟩
                try simp only [Nat.reduceAdd, Nat.reduceSub]
                generalize lsN U W vs f q = ln at *
                generalize lsF U W vs f q = lf at *
                generalize bstW U W vs W.length q = bq at *
                repeat' (first | exact rfl | ((conv => whnf); first | (refine qX (fun h => ?_) fun h => ?_ <;> try exact absurd h (by omega)) | refine oN ?_ | refine oM ?_ ?_ | refine bM ?_ ?_ | refine dR ?_ | intro _))
                (conv => whnf)
                try simp only [Nat.reduceAdd, Nat.reduceSub]
                refine cF (cBq) [2, 3, 4, 5, 6, 7] Tryd.call47 ?_
                rintro _ _ ⟨rfl, rfl⟩
                try simp only [Nat.reduceAdd, Nat.reduceSub]
                repeat' (first | exact rfl | ((conv => whnf); first | (refine qX (fun h => ?_) fun h => ?_ <;> try exact absurd h (by omega)) | refine oN ?_ | refine oM ?_ ?_ | refine bM ?_ ?_ | refine dR ?_ | intro _))
                (conv => whnf)
                try simp only [Nat.reduceAdd, Nat.reduceSub]
                rename_i so4
                refine ⟨(k + 1, ⟨lf, o ++ [⟨(n : Nat), (k : Int) + 1, (k : Int) + 1, (ln : Nat), bq - base⟩], fi2, sf4, sb4, si3, so4⟩), [(11, some 17), (12, some 18), (16, some 20)], ⟨by rfl, ?_, ?_⟩, ⟨by simp only; omega, hks, hI3, hf2⟩, by simp only; omega⟩
                · simp
                · simp [app_one]
              · rw [if_neg (by omega)] at hks
                (conv => whnf)
                refine ⟨(k + 1, ⟨f, o, fi2, sf3, sb3, si3, so3⟩), [], ⟨by rfl, ?_, ?_⟩, ⟨by simp only; omega, hks, hI2, hf2⟩, by simp only; omega⟩
                · simp
                · simp
            · have e : k = 9 := by omega
              subst e
              rw [hrk] at hnx
              repeat' (first | exact rfl | ((conv => whnf); first | (refine qX (fun h => ?_) fun h => ?_ <;> try exact absurd h (by omega)) | refine oN ?_ | refine oM ?_ ?_ | refine bM ?_ ?_ | refine dR ?_))
              (conv => whnf)
              refine ⟨(n + 1, ⟨f, o, fi2, sf3, sb3, si3, so3⟩), [], ⟨by rfl, ?_, ?_⟩, ⟨by simp only; omega, hnx, hI2, ?_, fun i hi => ?_, by simp only; omega⟩, by simp only; omega⟩
              · simp
              · simp
              · simp only
                rw [hf2, ← hfs, hM, lrF_app first M (by omega)]
              · by_cases ei : i = n
                · rw [ei, hrow]; exact hn3
                · exact hml i (by simp only at hi; omega)
      · have e : n = first.length := by omega
        subst e
        have hfl : fi.length = first.length := by rw [hfi, lrF_len]
        have cM := mostWeight_c ⟨(first.length : Nat), 0, fi, outs, fi.length + si, outs.length + so⟩ (by simp only; omega) (by simp only; omega)
        have hgr := mostW_great ⟨(first.length : Nat), 0, fi, outs, fi.length + si, outs.length + so⟩
        generalize mostW ⟨(first.length : Nat), 0, fi, outs, fi.length + si, outs.length + so⟩ = mw at *
        simp only at hgr
        repeat' (first | exact rfl | ((conv => whnf); first | (refine qX (fun h => ?_) fun h => ?_ <;> try exact absurd h (by omega)) | refine oN ?_ | refine oM ?_ ?_ | refine bM ?_ ?_ | refine dR ?_))
        (conv => whnf)
        refine cI (cM) [15, 16] Tryd.call52 ?_
        repeat' (first | exact rfl | ((conv => whnf); first | (refine qX (fun h => ?_) fun h => ?_ <;> try exact absurd h (by omega)) | refine oN ?_ | refine oM ?_ ?_ | refine bM ?_ ?_ | refine dR ?_))
        · (conv => whnf)
          exact ⟨[], [], 2, .tup [.agg zero25, .c (.i 2)], ⟨by rfl, trivial, by simp⟩, by simp, U, W, vs, par, sym, hus, .inr ⟨hW, hl, first.length, fi, outs, .inr ⟨hn, first, hrow, hml, rfl, hfi⟩, .inl ⟨hgr.1 (by assumption), rfl, rfl⟩⟩⟩
        · have hg2 : greatB outs fi = false := by
            cases hg : greatB outs fi with
            | false => rfl
            | true => have := hgr.2 hg; omega
          (conv => whnf)
          exact ⟨[(2, some 15), (3, some 16)], [(2, .arr true 3 .int fi si), (3, .arr true 50 .arc outs so)], 4, .tup [.agg [.i (first.length : Nat), .i 0, .sl 2 1 0 fi.length (fi.length + si), .sl 3 5 0 outs.length (outs.length + so)], .c (.i 0)], ⟨by rfl, trivial, by simp⟩, by simp,
            U, W, vs, par, sym, hus, .inr ⟨hW, hl, first.length, fi, outs, .inr ⟨hn, first, hrow, hml, rfl, hfi⟩, .inr ⟨hg2, si, so, rfl, rfl⟩⟩⟩
end Go.Fw

namespace Go.Fw
open Go Go.Proofs

set_option maxHeartbeats 4000000 in
set_option maxRecDepth 20000 in
theorem equalI_c (a b : List Int) (ca cb : Nat) (ha : a.length ≤ 9223372036854775807) (hl : b.length ≤ 9223372036854775807) :
    Ct Tryd.prog 78 [.c (.sl 0 1 0 a.length ca), .c (.sl 1 1 0 b.length cb)] [] [(0, .arr false 3 .int a 0), (1, .arr false 3 .int b 0)] 2 (fun v s => v = .b (decide (a = b)) ∧ s = ⟨[], [], 2⟩) := by
  refine ctW Tryd.tyOk 6 [12, 13] Tryd.func78 rfl (by simp) (by simp) (fr := [(0, .c (.sl 0 1 0 a.length ca)), (1, .c (.sl 1 1 0 b.length cb))]) rfl ?_
  repeat' (first | exact rfl | ((conv => whnf); first | (refine qX (fun h => ?_) fun h => ?_ <;> try exact absurd h (by omega)) | refine oN ?_ | refine oM ?_ ?_ | refine bM ?_ ?_ | refine dR ?_))
  · have : a ≠ b := fun e => by rw [e] at h; omega
    (conv => whnf)
    exact ⟨[], [], 2, .b (decide (a = b)), ⟨by rfl, trivial, trivial⟩, by simp [this], rfl, rfl⟩
  have hab : a.length = b.length := by omega
  clear h
  (conv => whnf)
  refine loopI (fun k : Nat => ⟨[(0, .c (.sl 0 1 0 a.length ca)), (1, .c (.sl 1 1 0 b.length cb)), (12, .i a.length), (13, .i k)], [(0, .arr false 3 .int a 0), (1, .arr false 3 .int b 0)], 2⟩) (fun k => k ≤ a.length ∧ ∀ j, j < k → a.getD j 0 = b.getD j 0) (fun k => a.length - k) 0 [] ⟨by rfl, ?_, ?_⟩ ⟨Nat.zero_le _, fun j h => absurd h (Nat.not_lt_zero _)⟩ ?_
  · simp
  · simp
  · intro k ⟨hk1, hk2⟩
    (conv => whnf)
    refine condP_dec (fun hk => ?_) (fun hk => ?_)
    · have e0 : 0 + (k : Int).toNat = k := by omega
      repeat' (first | exact rfl | ((conv => whnf); first | (refine qX (fun h => ?_) fun h => ?_ <;> try exact absurd h (by omega)) | refine oN ?_ | refine oM ?_ ?_ | refine bM ?_ ?_ | refine dR ?_))
      · simp only [Nat.zero_add, Int.toNat_natCast, EK.dflt] at h
        have : a ≠ b := fun e => h (by rw [e])
        (conv => whnf)
        exact ⟨[], [], 2, .b (decide (a = b)), ⟨by rfl, trivial, trivial⟩, by simp [this], rfl, rfl⟩
      · simp only [Nat.zero_add, Int.toNat_natCast, EK.dflt] at h
        (conv => whnf)
        refine ⟨k + 1, [], ⟨by rfl, ?_, ?_⟩, ⟨by omega, fun j hj => ?_⟩, by omega⟩
        · simp
        · simp
        · exact if e : j = k then e ▸ (by omega) else hk2 j (by omega)
    · have : a = b := sameTake a b hab fun j hj => hk2 j (by omega)
      repeat' (first | exact rfl | ((conv => whnf); first | (refine qX (fun h => ?_) fun h => ?_ <;> try exact absurd h (by omega)) | refine oN ?_ | refine oM ?_ ?_ | refine bM ?_ ?_ | refine dR ?_))
      (conv => whnf)
      exact ⟨[], [], 2, .b (decide (a = b)), ⟨by rfl, trivial, trivial⟩, by simp [this], rfl, rfl⟩

set_option maxHeartbeats 4000000 in
set_option maxRecDepth 20000 in
theorem equalA_c (a b : List Arc) (ca cb : Nat) (ha : a.length ≤ 9223372036854775807) (hl : b.length ≤ 9223372036854775807) :
    Ct Tryd.prog 79 [.c (.sl 0 5 0 a.length ca), .c (.sl 1 5 0 b.length cb)] [] [(0, .arr false 50 .arc a 0), (1, .arr false 50 .arc b 0)] 2 (fun v s => v = .b (decide (a = b)) ∧ s = ⟨[], [], 2⟩) := by
  refine ctW Tryd.tyOk 6 [12, 13] Tryd.func79 rfl (by simp) (by simp) (fr := [(0, .c (.sl 0 5 0 a.length ca)), (1, .c (.sl 1 5 0 b.length cb))]) rfl ?_
  repeat' (first | exact rfl | ((conv => whnf); first | (refine qX (fun h => ?_) fun h => ?_ <;> try exact absurd h (by omega)) | refine oN ?_ | refine oM ?_ ?_ | refine bM ?_ ?_ | refine dR ?_))
  · have : a ≠ b := fun e => by rw [e] at h; omega
    (conv => whnf)
    exact ⟨[], [], 2, .b (decide (a = b)), ⟨by rfl, trivial, trivial⟩, by simp [this], rfl, rfl⟩
  have hab : a.length = b.length := by omega
  clear h
  (conv => whnf)
  refine loopI (fun k : Nat => ⟨[(0, .c (.sl 0 5 0 a.length ca)), (1, .c (.sl 1 5 0 b.length cb)), (12, .i a.length), (13, .i k)], [(0, .arr false 50 .arc a 0), (1, .arr false 50 .arc b 0)], 2⟩) (fun k => k ≤ a.length ∧ ∀ j, j < k → a.getD j EK.arc.dflt = b.getD j EK.arc.dflt) (fun k => a.length - k) 0 [] ⟨by rfl, ?_, ?_⟩ ⟨Nat.zero_le _, fun j h => absurd h (Nat.not_lt_zero _)⟩ ?_
  · simp
  · simp
  · intro k ⟨hk1, hk2⟩
    (conv => whnf)
    refine condP_dec (fun hk => ?_) (fun hk => ?_)
    · have e0 : 0 + (k : Int).toNat = k := by omega
      repeat' (first | exact rfl | ((conv => whnf); first | (refine qX (fun h => ?_) fun h => ?_ <;> try exact absurd h (by omega)) | refine oN ?_ | refine oM ?_ ?_ | refine bM ?_ ?_ | refine dR ?_))
      · rw [arcEq] at h
        simp only [Nat.zero_add, Int.toNat_natCast, Bool.not_eq_true', decide_eq_false_iff_not] at h
        have : a ≠ b := fun e => h (by rw [e])
        (conv => whnf)
        exact ⟨[], [], 2, .b (decide (a = b)), ⟨by rfl, trivial, trivial⟩, by simp [this], rfl, rfl⟩
      · rw [arcEq] at h
        simp only [Nat.zero_add, Int.toNat_natCast, Bool.not_eq_false', decide_eq_true_eq, Bool.not_eq_true', Bool.not_eq_false, decide_eq_false_iff_not, Decidable.not_not] at h
        (conv => whnf)
        refine ⟨k + 1, [], ⟨by rfl, ?_, ?_⟩, ⟨by omega, fun j hj => ?_⟩, by omega⟩
        · simp
        · simp
        · exact if e : j = k then e ▸ h else hk2 j (by omega)
    · have : a = b := sameTakeA a b hab fun j hj => hk2 j (by omega)
      repeat' (first | exact rfl | ((conv => whnf); first | (refine qX (fun h => ?_) fun h => ?_ <;> try exact absurd h (by omega)) | refine oN ?_ | refine oM ?_ ?_ | refine bM ?_ ?_ | refine dR ?_))
      (conv => whnf)
      exact ⟨[], [], 2, .b (decide (a = b)), ⟨by rfl, trivial, trivial⟩, by simp [this], rfl, rfl⟩

set_option maxHeartbeats 4000000 in
set_option maxRecDepth 20000 in
/-- What the document says is wrong. -/
theorem checkLeast_c (F : TF) : Ct Tryd.prog 22 [fV F] [] (hpF F) 2 (fun v s => v = .i (leastE F) ∧ s = ⟨[], [], 2⟩) := by
  by_cases h : fstE F = 0
  · have hF := fstE_ok h
    have hal := hF.arcl
    have hst := hF.st
    have c1 := isBoth_c F (by omega)
    have c2 := hasSilent_c F (by omega)
    have c3 := isRound_c F (FRng.of hF)
    by_cases h12 : 12 < F.st
    · have hd : leastE F = 2 := by unfold leastE; rw [if_neg (fun c => c h), if_pos h12]
      refine ctW Tryd.tyOk 4 [] Tryd.func22 rfl (by simp) (by simp) (fr := [(0, fV F)]) rfl ?_
      repeat' (first | exact rfl | ((conv => whnf); first | (refine qX (fun h => ?_) fun h => ?_ <;> try exact absurd h (by omega)) | refine oN ?_ | refine oM ?_ ?_ | refine bM ?_ ?_ | refine dR ?_))
      (conv => whnf)
      refine cI (checkFst_c F) [0, 1] Tryd.call10 ?_
      rw [h]
      repeat' (first | exact rfl | ((conv => whnf); first | (refine qX (fun h => ?_) fun h => ?_ <;> try exact absurd h (by omega)) | refine oN ?_ | refine oM ?_ ?_ | refine bM ?_ ?_ | refine dR ?_))
      all_goals
        first
        | (exfalso; omega)
        | ((conv => whnf)
           exact ⟨[], [], 2, .i 2, ⟨by rfl, trivial, by simp⟩, by simp, by rw [hd], rfl⟩)
    · have hd : leastE F = if fineB F = true then 0 else 4 := by unfold leastE; rw [if_neg (fun c => c h), if_neg h12]
      unfold fineB at hd
      rw [hd]
      clear hd
      generalize bothB F = b1 at *
      generalize silB F = b2 at *
      generalize roundB F.arcs F.st.toNat = b3 at *
      refine ctW Tryd.tyOk 4 [] Tryd.func22 rfl (by simp) (by simp) (fr := [(0, fV F)]) rfl ?_
      repeat' (first | exact rfl | ((conv => whnf); first | (refine qX (fun h => ?_) fun h => ?_ <;> try exact absurd h (by omega)) | refine oN ?_ | refine oM ?_ ?_ | refine bM ?_ ?_ | refine dR ?_))
      (conv => whnf)
      refine cI (checkFst_c F) [0, 1] Tryd.call10 ?_
      rw [h]
      repeat' (first | exact rfl | ((conv => whnf); first | (refine qX (fun h => ?_) fun h => ?_ <;> try exact absurd h (by omega)) | refine oN ?_ | refine oM ?_ ?_ | refine bM ?_ ?_ | refine dR ?_))
      all_goals try (exfalso; omega)
      (conv => whnf)
      refine cI (c1) [0, 1] Tryd.call11 ?_
      cases b1 with
      | false =>
        repeat' (first | exact rfl | ((conv => whnf); first | (refine qX (fun h => ?_) fun h => ?_ <;> try exact absurd h (by omega)) | refine oN ?_ | refine oM ?_ ?_ | refine bM ?_ ?_ | refine dR ?_))
        (conv => whnf)
        exact ⟨[], [], 2, .i 4, ⟨by rfl, trivial, by simp⟩, by simp, by simp, rfl⟩
      | true =>
        repeat' (first | exact rfl | ((conv => whnf); first | (refine qX (fun h => ?_) fun h => ?_ <;> try exact absurd h (by omega)) | refine oN ?_ | refine oM ?_ ?_ | refine bM ?_ ?_ | refine dR ?_))
        (conv => whnf)
        refine cI (c2) [0, 1] Tryd.call16 ?_
        cases b2 with
        | true =>
          repeat' (first | exact rfl | ((conv => whnf); first | (refine qX (fun h => ?_) fun h => ?_ <;> try exact absurd h (by omega)) | refine oN ?_ | refine oM ?_ ?_ | refine bM ?_ ?_ | refine dR ?_))
          (conv => whnf)
          exact ⟨[], [], 2, .i 4, ⟨by rfl, trivial, by simp⟩, by simp, by simp, rfl⟩
        | false =>
          repeat' (first | exact rfl | ((conv => whnf); first | (refine qX (fun h => ?_) fun h => ?_ <;> try exact absurd h (by omega)) | refine oN ?_ | refine oM ?_ ?_ | refine bM ?_ ?_ | refine dR ?_))
          (conv => whnf)
          refine cI (c3) [0, 1] Tryd.call13 ?_
          cases b3 with
          | true =>
            repeat' (first | exact rfl | ((conv => whnf); first | (refine qX (fun h => ?_) fun h => ?_ <;> try exact absurd h (by omega)) | refine oN ?_ | refine oM ?_ ?_ | refine bM ?_ ?_ | refine dR ?_))
            (conv => whnf)
            exact ⟨[], [], 2, .i 4, ⟨by rfl, trivial, by simp⟩, by simp, by simp, rfl⟩
          | false =>
            repeat' (first | exact rfl | ((conv => whnf); first | (refine qX (fun h => ?_) fun h => ?_ <;> try exact absurd h (by omega)) | refine oN ?_ | refine oM ?_ ?_ | refine bM ?_ ?_ | refine dR ?_))
            (conv => whnf)
            exact ⟨[], [], 2, .i 0, ⟨by rfl, trivial, by simp⟩, by simp, by simp, rfl⟩
  · have hd : leastE F = fstE F := by unfold leastE; rw [if_pos h]
    refine ctW Tryd.tyOk 4 [] Tryd.func22 rfl (by simp) (by simp) (fr := [(0, fV F)]) rfl ?_
    repeat' (first | exact rfl | ((conv => whnf); first | (refine qX (fun h => ?_) fun h => ?_ <;> try exact absurd h (by omega)) | refine oN ?_ | refine oM ?_ ?_ | refine bM ?_ ?_ | refine dR ?_))
    (conv => whnf)
    refine cI (checkFst_c F) [0, 1] Tryd.call10 ?_
    repeat' (first | exact rfl | ((conv => whnf); first | (refine qX (fun h => ?_) fun h => ?_ <;> try exact absurd h (by omega)) | refine oN ?_ | refine oM ?_ ?_ | refine bM ?_ ?_ | refine dR ?_))
    all_goals
      first
      | (exfalso; omega)
      | ((conv => whnf)
         exact ⟨[], [], 2, .i (fstE F), ⟨by rfl, trivial, by simp⟩, by simp, by rw [hd], rfl⟩)

set_option maxHeartbeats 4000000 in
set_option maxRecDepth 20000 in
theorem same2_c (F G : TF) (h1 : F.fin.length ≤ 9223372036854775807) (h2 : G.fin.length ≤ 9223372036854775807) (h3 : F.arcs.length ≤ 9223372036854775807) (h4 : G.arcs.length ≤ 9223372036854775807) :
    Ct Tryd.prog 54 [fV F, gV G] [] (hpG F G) 4 (fun v s => v = .b (sameF F G) ∧ s = ⟨[], [], 4⟩) := by
  have hs : sameF F G = (decide (F.st = G.st) && (decide (F.start = G.start) && (decide (F.fin = G.fin) && decide (F.arcs = G.arcs)))) := by
    unfold sameF
    simp only [Bool.decide_and]
  have cI := equalI_c F.fin G.fin F.capF G.capF h1 h2
  have cA := equalA_c F.arcs G.arcs F.capA G.capA h3 h4
  generalize decide (F.fin = G.fin) = bf at *
  generalize decide (F.arcs = G.arcs) = ba at *
  refine ctC Tryd.tyOk Tryd.func54 rfl (by simp [gV]) (by simp) (fr := [(0, fV F), (1, gV G)]) rfl ?_
  refine SemC.of Tryd.tyOk 5 [] ?_
  by_cases e1 : F.st = G.st
  · by_cases e2 : F.start = G.start
    · rw [decide_eq_true e1, decide_eq_true e2, Bool.true_and, Bool.true_and] at hs
      repeat' (first | exact rfl | ((conv => whnf); first | (refine qX (fun h => ?_) fun h => ?_ <;> try exact absurd h (by omega)) | refine oN ?_ | refine oM ?_ ?_ | refine bM ?_ ?_ | refine dR ?_))
      all_goals try (exfalso; omega)
      all_goals (conv => whnf)
      refine cF (cI) [0, 2] Tryd.call78 ?_
      rintro _ _ ⟨rfl, rfl⟩
      cases bf with
      | false =>
        repeat' (first | exact rfl | ((conv => whnf); first | (refine qX (fun h => ?_) fun h => ?_ <;> try exact absurd h (by omega)) | refine oN ?_ | refine oM ?_ ?_ | refine bM ?_ ?_ | refine dR ?_ | intro _))
        (conv => whnf)
        exact ⟨[], [], 4, .b (sameF F G), ⟨by rfl, trivial, by simp⟩, by simp [hs], rfl, rfl⟩
      | true =>
        repeat' (first | exact rfl | ((conv => whnf); first | (refine qX (fun h => ?_) fun h => ?_ <;> try exact absurd h (by omega)) | refine oN ?_ | refine oM ?_ ?_ | refine bM ?_ ?_ | refine dR ?_ | intro _))
        (conv => whnf)
        refine cF (cA) [1, 3] Tryd.call79 ?_
        rintro _ _ ⟨rfl, rfl⟩
        repeat' (first | exact rfl | ((conv => whnf); first | (refine qX (fun h => ?_) fun h => ?_ <;> try exact absurd h (by omega)) | refine oN ?_ | refine oM ?_ ?_ | refine bM ?_ ?_ | refine dR ?_ | intro _))
        (conv => whnf)
        exact ⟨[], [], 4, .b (sameF F G), ⟨by rfl, trivial, by simp⟩, by simp [hs], rfl, rfl⟩
    · rw [decide_eq_true e1, decide_eq_false e2, Bool.true_and, Bool.false_and] at hs
      repeat' (first | exact rfl | ((conv => whnf); first | (refine qX (fun h => ?_) fun h => ?_ <;> try exact absurd h (by omega)) | refine oN ?_ | refine oM ?_ ?_ | refine bM ?_ ?_ | refine dR ?_))
      all_goals try (exfalso; omega)
      all_goals
        (conv => whnf)
        exact ⟨[], [], 4, .b (sameF F G), ⟨by rfl, trivial, by simp⟩, by simp [hs, e1, e2], rfl, rfl⟩
  · rw [decide_eq_false e1, Bool.false_and] at hs
    repeat' (first | exact rfl | ((conv => whnf); first | (refine qX (fun h => ?_) fun h => ?_ <;> try exact absurd h (by omega)) | refine oN ?_ | refine oM ?_ ?_ | refine bM ?_ ?_ | refine dR ?_))
    all_goals try (exfalso; omega)
    all_goals
      (conv => whnf)
      exact ⟨[], [], 4, .b (sameF F G), ⟨by rfl, trivial, by simp⟩, by simp [hs, e1], rfl, rfl⟩

set_option maxHeartbeats 4000000 in
set_option maxRecDepth 20000 in
/-- Least. -/
theorem Least_c (F : TF) (hl : F.fin.length ≤ 9223372036854775807) (x : Obj) (hx : TabX x) : Ct Tryd.prog 21 [fV F] [] (hpF F ++ [(2, tabO x)]) 3 (LeastPost F x) := by
  refine ctW Tryd.tyOk 4 [] Tryd.func21 rfl (by simp) (by simp) (fr := [(0, fV F)]) rfl ?_
  repeat' (first | exact rfl | ((conv => whnf); first | (refine qX (fun h => ?_) fun h => ?_ <;> try exact absurd h (by omega)) | refine oN ?_ | refine oM ?_ ?_ | refine bM ?_ ?_ | refine dR ?_))
  (conv => whnf)
  refine cF (least_c F hl x hx) [0, 1, 2] Tryd.call46 ?_
  rintro v s (⟨h1, rfl, rfl⟩ | ⟨h1, U, hus, ⟨h2, rfl, rfl⟩ | ⟨h2, st, hmd, n, ff, oo, hls, ⟨hg, rfl, rfl⟩ | ⟨hg, sp, sq, rfl, rfl⟩⟩⟩)
  · repeat' (first | exact rfl | ((conv => whnf); first | (refine qX (fun h => ?_) fun h => ?_ <;> try exact absurd h (by omega)) | refine oN ?_ | refine oM ?_ ?_ | refine bM ?_ ?_ | refine dR ?_ | intro _))
    (conv => whnf)
    exact ⟨[], [(2, tabO x)], 3, .tup [.agg zero25, .c (.i (leastE F))], ⟨by rfl, trivial, by simp⟩, by simp, .inl ⟨h1, rfl, rfl⟩⟩
  · repeat' (first | exact rfl | ((conv => whnf); first | (refine qX (fun h => ?_) fun h => ?_ <;> try exact absurd h (by omega)) | refine oN ?_ | refine oM ?_ ?_ | refine bM ?_ ?_ | refine dR ?_ | intro _))
    (conv => whnf)
    exact ⟨[], [(2, tabO x)], 3, .tup [.agg zero25, .c (.i 2)], ⟨by rfl, trivial, by simp⟩, by simp, .inr ⟨h1, U, hus, .inl ⟨h2, rfl, rfl⟩⟩⟩
  · repeat' (first | exact rfl | ((conv => whnf); first | (refine qX (fun h => ?_) fun h => ?_ <;> try exact absurd h (by omega)) | refine oN ?_ | refine oM ?_ ?_ | refine bM ?_ ?_ | refine dR ?_ | intro _))
    (conv => whnf)
    exact ⟨[], [(2, tabO x)], 3, .tup [.agg zero25, .c (.i 2)], ⟨by rfl, trivial, by simp⟩, by simp, .inr ⟨h1, U, hus, .inr ⟨h2, st, hmd, n, ff, oo, hls, .inl ⟨hg, rfl, rfl⟩⟩⟩⟩
  · repeat' (first | exact rfl | ((conv => whnf); first | (refine qX (fun h => ?_) fun h => ?_ <;> try exact absurd h (by omega)) | refine oN ?_ | refine oM ?_ ?_ | refine bM ?_ ?_ | refine dR ?_ | intro _))
    (conv => whnf)
    try simp only [Nat.reduceAdd, Nat.reduceSub]
    exact ⟨[(3, some 5), (4, some 6)], [(2, tabO x), (3, .arr true 3 .int ff sp), (4, .arr true 50 .arc oo sq)], 5, .tup [.agg [.i (n : Nat), .i 0, .sl 3 1 0 ff.length (ff.length + sp), .sl 4 5 0 oo.length (oo.length + sq)], .c (.i 0)], ⟨by rfl, trivial, by simp⟩, by simp, .inr ⟨h1, U, hus, .inr ⟨h2, st, hmd, n, ff, oo, hls, .inr ⟨hg, sp, sq, rfl, rfl⟩⟩⟩⟩
end Go.Fw

namespace Go.Fw
open Go Go.Proofs

/-- Back along the arcs. -/
def chain (D : Trip → Option Fnd) : Nat → Trip → List Int
  | 0, _ => []
  | n + 1, y => match D y with
    | none => []
    | some c => if 0 ≤ c.arc then c.arc :: chain D n ⟨c.s, c.i, c.o⟩ else []

/-- What Walk tells. -/
def WalkIs (F : TF) (u v : List Int) (E : Trip × Int) (l : List Int) : Prop :=
  ∃ D ord rk B n, Dj F u v D ord rk B (fun _ _ => True) ∧ (∀ y d, D y = some d → d.dn = true) ∧ E = endF (fun y => (D y).map (·.cost)) F.fin u.length v.length F.fin.length ∧ rk E.1 < n ∧ l.reverse = chain D n E.1

end Go.Fw

namespace Go.Fw
open Go Go.Proofs

end Go.Fw

namespace Go.Fw
open Go Go.Proofs

end Go.Fw

namespace Go.Fw
open Go Go.Proofs

abbrev samT : TF := ⟨2, 0, [-1, 1], [⟨0, 1, 1, 1, 5⟩], 2, 1⟩
abbrev samV (i j : Nat) : SV := .a (.agg [.i 2, .i 0, .sl i 1 0 2 2, .sl j 5 0 1 1])

theorem same_c : Ct Tryd.prog 35 [] [] [] 0 (fun v s => v = samV 0 1 ∧ s = ⟨[], [(0, .arr true 3 .int [-1, 1] 0), (1, .arr true 50 .arc [⟨0, 1, 1, 1, 5⟩] 0)], 2⟩) := by
  refine ctW Tryd.tyOk 2 [] Tryd.func35 rfl (by simp) (by simp) (fr := []) rfl ?_
  repeat' (first | exact rfl | ((conv => whnf); first | (refine qX (fun h => ?_) fun h => ?_ <;> try exact absurd h (by omega)) | refine oN ?_ | refine oM ?_ ?_ | refine bM ?_ ?_ | refine dR ?_))
  (conv => whnf)
  refine cF (one_c) [] Tryd.call42 ?_
  rintro _ _ ⟨rfl, rfl⟩
  repeat' (first | exact rfl | ((conv => whnf); first | (refine qX (fun h => ?_) fun h => ?_ <;> try exact absurd h (by omega)) | refine oN ?_ | refine oM ?_ ?_ | refine bM ?_ ?_ | refine dR ?_ | intro _))
  (conv => whnf)
  try simp only [Nat.reduceAdd, Nat.reduceSub]
  exact ⟨[(0, some 1), (1, some 4)], [(0, .arr true 3 .int [-1, 1] 0), (1, .arr true 50 .arc [⟨0, 1, 1, 1, 5⟩] 0)], 2, samV 0 1, ⟨by rfl, trivial, by simp⟩, by simp, rfl, rfl⟩

/-! ### What Determine makes of it -/
abbrev sam2T : TF := ⟨2, 0, [-1, 1], [⟨0, 1, 1, 0, 2⟩, ⟨0, 1, 1, 1, 5⟩], 2, 2⟩
end Go.Fw

namespace Go.Fw
open Go Go.Proofs

/-- What is answered, in short. -/
def LAns (F : TF) (e : Int) (n : Nat) (ff : List Int) (oo : List Arc) : Prop :=
  (leastE F ≠ 0 ∧ e = leastE F) ∨
  (leastE F = 0 ∧ ∃ U, IsUs F U ∧ ((200 < bgnF U 201 200 [⟨U.start, 0⟩] ∧ e = 2) ∨
    (bgnF U 201 200 [⟨U.start, 0⟩] ≤ 200 ∧ ∃ st : DS, MDone U st ∧ IsLs U st n ff oo ∧ (greatB oo ff = true ∧ e = 2 ∨ greatB oo ff = false ∧ e = 0))))
/-- .. as it lies. -/
def LOut (x : Obj) (e : Int) (n : Nat) (ff : List Int) (oo : List Arc) (v : SV) (s : S) : Prop :=
  (e ≠ 0 ∧ v = .tup [.agg zero25, .c (.i e)] ∧ s = ⟨[], [(2, tabO x)], 3⟩) ∨
  (e = 0 ∧ ∃ sp sq, v = .tup [.agg [.i (n : Nat), .i 0, .sl 3 1 0 ff.length (ff.length + sp), .sl 4 5 0 oo.length (oo.length + sq)], .c (.i 0)] ∧
    s = ⟨[], [(2, tabO x), (3, .arr true 3 .int ff sp), (4, .arr true 50 .arc oo sq)], 5⟩)
theorem LeastPost.split {F : TF} {x : Obj} {v : SV} {s : S} (h : LeastPost F x v s) : ∃ e n ff oo, LAns F e n ff oo ∧ LOut x e n ff oo v s := by
  rcases h with ⟨h1, h2, h3⟩ | ⟨h1, U, hus, ⟨h2, h3, h4⟩ | ⟨h2, st, hmd, n, ff, oo, hls, ⟨hg, h3, h4⟩ | ⟨hg, sp, sq, h3, h4⟩⟩⟩
  · exact ⟨leastE F, 0, [], [], .inl ⟨h1, rfl⟩, .inl ⟨h1, h2, h3⟩⟩
  · exact ⟨2, 0, [], [], .inr ⟨h1, U, hus, .inl ⟨h2, rfl⟩⟩, .inl ⟨by decide, h3, h4⟩⟩
  · exact ⟨2, n, ff, oo, .inr ⟨h1, U, hus, .inr ⟨h2, st, hmd, hls, .inl ⟨hg, rfl⟩⟩⟩, .inl ⟨by decide, h3, h4⟩⟩
  · exact ⟨0, n, ff, oo, .inr ⟨h1, U, hus, .inr ⟨h2, st, hmd, hls, .inr ⟨hg, rfl⟩⟩⟩, .inr ⟨rfl, sp, sq, h3, h4⟩⟩
/-- Lengths are bounded. -/
theorem LAns.len {F : TF} {n : Nat} {ff : List Int} {oo : List Arc} (h : LAns F 0 n ff oo) (hF : FOk F) (h12 : F.st ≤ 12) (hf : fineB F = true) : ff.length = n ∧ n ≤ 200 ∧ oo.length ≤ 9223372036854775807 := by
  rcases h with ⟨h1, h2⟩ | ⟨_, U, hus, ⟨_, h2⟩ | ⟨h2, st, hmd, hls, _⟩⟩
  · exact absurd h2.symm h1
  · cases h2
  · have hD : DetH F U st := ⟨hF, hf, hus, h2, hmd⟩
    rcases hls with ⟨_, rfl, rfl, rfl⟩ | ⟨hn, c1, c2, cls, left, outs, hc, m1, m2, m3, rfl, rfl, rfl⟩
    · simp
    · have hB := (hD.fokB h12 0 0).1
      have hX := ph_dfst hB (c1 := c1) (c2 := c2) fun q hq => by
        have hq : q < ((st.1.length : Nat) : Int).toNat := hq
        have := dsD_is hD h12 hn (q := q) (by omega)
        unfold dsD at this
        omega
      have hs := hD.small.2.1
      have e : (phT (mkD U st 0 0) c1 c2).st = ((st.1.length : Nat) : Int) := rfl
      have e2 : (adF (dsD U st 0) (left.map (fiA (phT (mkD U st 0 0) c1 c2)))).length = left.length := by unfold adF; split <;> simp
      have hl := m3.le hX.st.1 hc.bd
      simp only at hl
      have hk : ∀ k, (mgRows (phT (mkD U st 0 0) c1 c2) cls k).2.length ≤ k * (phT (mkD U st 0 0) c1 c2).arcs.length := fun k => by
        induction k with
        | zero => simp [mgRows]
        | succ k ih =>
          have := (mgP_len (D := phT (mkD U st 0 0) c1 c2) (cls := cls) (i := k) (s := (mgRows (phT (mkD U st 0 0) c1 c2) cls k).1.getD k 0) (st := mgRows (phT (mkD U st 0 0) c1 c2) cls k) (phT (mkD U st 0 0) c1 c2).arcs.length).1
          show (mgP _ _ _ _ _ _).2.length ≤ _
          rw [Nat.succ_mul]
          omega
      have h2 := hk left.length
      rw [m1] at h2
      have h4 : left.length * (phT (mkD U st 0 0) c1 c2).arcs.length ≤ 200 * (phT (mkD U st 0 0) c1 c2).arcs.length := Nat.mul_le_mul_right _ (by omega)
      have h5 := hX.arc1
      refine ⟨e2, by omega, ?_⟩
      rw [List.length_map]
      simp only at h2
      omega

theorem LAns.len2 {F : TF} {n : Nat} {ff : List Int} {oo : List Arc} (h : LAns F 0 n ff oo) : ff.length = n ∧ n ≤ 200 ∧ oo.length ≤ 9223372036854775807 := by
  by_cases h0 : fstE F = 0
  · by_cases h12 : F.st ≤ 12
    · by_cases hf : fineB F = true
      · exact h.len (fstE_ok h0) h12 hf
      · exfalso
        have hd : leastE F = 4 := by unfold leastE; rw [if_neg (fun c => c h0), if_neg (by omega), if_neg hf]
        rcases h with ⟨h1, h2⟩ | ⟨h1, _⟩ <;> omega
    · exfalso
      have hd : leastE F = 2 := by unfold leastE; rw [if_neg (fun c => c h0), if_pos (by omega)]
      rcases h with ⟨h1, h2⟩ | ⟨h1, _⟩ <;> omega
  · exfalso
    have hd : leastE F = fstE F := by unfold leastE; rw [if_pos h0]
    rcases h with ⟨h1, h2⟩ | ⟨h1, _⟩ <;> omega

/-- What Same answers. -/
def SamePost (F G : TF) (x : Obj) (v : SV) (s : S) : Prop := ∃ e n ff oo, LAns F e n ff oo ∧
  ((e ≠ 0 ∧ v = .tup [.c (.b false), .c (.i e)]) ∨
   (e = 0 ∧ ∃ e' n' ff' oo', LAns G e' n' ff' oo' ∧ ((e' ≠ 0 ∧ v = .tup [.c (.b false), .c (.i e')]) ∨ (e' = 0 ∧ v = .tup [.c (.b (decide (n = n' ∧ ff = ff' ∧ oo = oo'))), .c (.i 0)])))) ∧
  s = ⟨[], [(4, tabO x)], 5⟩

set_option maxHeartbeats 8000000 in
set_option maxRecDepth 20000 in
theorem Same_c (F G : TF) (h1 : F.fin.length ≤ 9223372036854775807) (h2 : G.fin.length ≤ 9223372036854775807) (x : Obj) (hx : TabX x) : Ct Tryd.prog 26 [fV F, gV G] [] (hpG F G ++ [(4, tabO x)]) 5 (SamePost F G x) := by
  refine ctC Tryd.tyOk Tryd.func26 rfl (by simp [gV]) (by simp) (fr := [(0, fV F), (1, gV G)]) rfl ?_
  refine SemC.of Tryd.tyOk 9 [] ?_
  repeat' (first | exact rfl | ((conv => whnf); first | (refine qX (fun h => ?_) fun h => ?_ <;> try exact absurd h (by omega)) | refine oN ?_ | refine oM ?_ ?_ | refine bM ?_ ?_ | refine dR ?_))
  (conv => whnf)
  refine cF (least_c F h1 x hx) [0, 1, 4] Tryd.call46 ?_
  rintro v s hp
  obtain ⟨e, n, ff, oo, hA, hO⟩ := hp.split
  clear hp
  rcases hO with ⟨h0, rfl, rfl⟩ | ⟨rfl, sp, sq, rfl, rfl⟩
  · repeat' (first | exact rfl | ((conv => whnf); first | (refine qX (fun h => ?_) fun h => ?_ <;> try exact absurd h (by omega)) | refine oN ?_ | refine oM ?_ ?_ | refine bM ?_ ?_ | refine dR ?_ | intro _))
    all_goals try (exfalso; omega)
    (conv => whnf)
    try simp only [Nat.reduceAdd, Nat.reduceSub]
    exact ⟨[], [(4, tabO x)], 5, .tup [.c (.b false), .c (.i e)], ⟨by rfl, trivial, by simp⟩, by simp, e, n, ff, oo, hA, .inl ⟨h0, rfl⟩, rfl⟩
  · have hlen := hA.len2
    repeat' (first | exact rfl | ((conv => whnf); first | (refine qX (fun h => ?_) fun h => ?_ <;> try exact absurd h (by omega)) | refine oN ?_ | refine oM ?_ ?_ | refine bM ?_ ?_ | refine dR ?_ | intro _))
    (conv => whnf)
    try simp only [Nat.reduceAdd, Nat.reduceSub]
    refine callF (least_c G h2 x hx) [2, 3, 4] Tryd.call46 rfl (by simp [gV]) (by simp [gV]) (by simp) ?_
    rintro v s hp
    obtain ⟨e', n', ff', oo', hA', hO⟩ := hp.split
    clear hp
    rcases hO with ⟨h0, rfl, rfl⟩ | ⟨rfl, sp', sq', rfl, rfl⟩
    · repeat' (first | exact rfl | ((conv => whnf); first | (refine qX (fun h => ?_) fun h => ?_ <;> try exact absurd h (by omega)) | refine oN ?_ | refine oM ?_ ?_ | refine bM ?_ ?_ | refine dR ?_ | intro _))
      all_goals try (exfalso; omega)
      (conv => whnf)
      try simp only [Nat.reduceAdd, Nat.reduceSub]
      exact ⟨[], [(4, tabO x)], 5, .tup [.c (.b false), .c (.i e')], ⟨by rfl, trivial, by simp⟩, by simp, 0, n, ff, oo, hA, .inr ⟨rfl, e', n', ff', oo', hA', .inl ⟨h0, rfl⟩⟩, rfl⟩
    · have hlen' := hA'.len2
      repeat' (first | exact rfl | ((conv => whnf); first | (refine qX (fun h => ?_) fun h => ?_ <;> try exact absurd h (by omega)) | refine oN ?_ | refine oM ?_ ?_ | refine bM ?_ ?_ | refine dR ?_ | intro _))
      (conv => whnf)
      try simp only [Nat.reduceAdd, Nat.reduceSub]
      have cS := same2_c ⟨(n : Nat), 0, ff, oo, ff.length + sp, oo.length + sq⟩ ⟨(n' : Nat), 0, ff', oo', ff'.length + sp', oo'.length + sq'⟩ (by simp only; omega) (by simp only; omega) hlen.2.2 hlen'.2.2
      have hse : sameF ⟨(n : Nat), 0, ff, oo, ff.length + sp, oo.length + sq⟩ ⟨(n' : Nat), 0, ff', oo', ff'.length + sp', oo'.length + sq'⟩ = decide (n = n' ∧ ff = ff' ∧ oo = oo') := by
        unfold sameF
        refine decide_eq_decide.2 ⟨fun ⟨a, _, b, c⟩ => ⟨by simp only at a; omega, b, c⟩, fun ⟨a, b, c⟩ => ⟨by rw [a], rfl, b, c⟩⟩
      rw [hse] at cS
      have hpo : SamePost F G x (.tup [.c (.b (decide (n = n' ∧ ff = ff' ∧ oo = oo'))), .c (.i 0)]) ⟨[], [(4, tabO x)], 5⟩ := ⟨0, n, ff, oo, hA, .inr ⟨rfl, 0, n', ff', oo', hA', .inr ⟨rfl, rfl⟩⟩, rfl⟩
      generalize decide (n = n' ∧ ff = ff' ∧ oo = oo') = r at *
      clear hA hA' hse
      refine callF (cS) [7, 8, 10, 11] Tryd.call54 rfl (by simp [gV]) (by simp [gV]) (by simp) ?_
      rintro _ _ ⟨rfl, rfl⟩
      repeat' (first | exact rfl | ((conv => whnf); first | (refine qX (fun h => ?_) fun h => ?_ <;> try exact absurd h (by omega)) | refine oN ?_ | refine oM ?_ ?_ | refine bM ?_ ?_ | refine dR ?_ | intro _))
      (conv => whnf)
      exact ⟨[], [(4, tabO x)], 5, .tup [.c (.b r), .c (.i 0)], ⟨by rfl, trivial, by simp⟩, by simp, hpo⟩

/-! ### The sample -/
theorem smp_p {F : TF} {a b : Int} (hb : b ≠ -1) (c d : Nat) (hF : F = ⟨2, 0, [-1, b], [⟨0, 1, 1, 1, a⟩], c, d⟩) {p : Nat → Bool} (h : UsOk F p) : p 0 = true ∧ p 1 = true := by
  subst hF
  have ha : (⟨0, 1, 1, 1, a⟩ : Arc) ∈ ([⟨0, 1, 1, 1, a⟩] : List Arc) := by simp
  have r0 : Rch ([⟨0, 1, 1, 1, a⟩] : List Arc) false [0] 0 := .here (by simp)
  have r1 : Rch ([⟨0, 1, 1, 1, a⟩] : List Arc) false [0] 1 := Rch.on r0 ha rfl
  have b1 : Rch ([⟨0, 1, 1, 1, a⟩] : List Arc) true [((1 : Nat) : Int)] 1 := .here (by simp)
  have b0 : Rch ([⟨0, 1, 1, 1, a⟩] : List Arc) true [((1 : Nat) : Int)] 0 := Rch.on b1 ha rfl
  exact ⟨(h.iff 0 (by simp)).2 ⟨r0, 1, by simp, by simpa using hb, b0⟩, (h.iff 1 (by simp)).2 ⟨r1, 1, by simp, by simpa using hb, b1⟩⟩
theorem smp_us {F U : TF} {a b : Int} (hb : b ≠ -1) {c d : Nat} (hF : F = ⟨2, 0, [-1, b], [⟨0, 1, 1, 1, a⟩], c, d⟩) (h : IsUs F U) : U = ⟨2, 0, [-1, b], [⟨0, 1, 1, 1, a⟩], U.capF, U.capA⟩ := by
  obtain ⟨p, hp, h1, h2, h3, h4⟩ := h
  obtain ⟨p0, p1⟩ := smp_p hb c d hF hp
  have hk : kT F p = ⟨2, 0, [-1, b], [⟨0, 1, 1, 1, a⟩], 0, 0⟩ := by
    rw [hF]
    simp [kT, rkB, kfin, karc, kOk, kArc, p0, p1, List.getD, aD]
  rw [hk] at h1 h2 h3 h4
  obtain ⟨a, b, c, d, e, f⟩ := U
  simp only at h1 h2 h3 h4 ⊢
  rw [h1, h2, h3, h4]

/-- What least makes of a transducer of one arc. -/
theorem smp_ls {F : TF} {a b : Int} (hb : 0 ≤ b) {c d : Nat} (hF : F = ⟨2, 0, [-1, b], [⟨0, 1, 1, 1, a⟩], c, d⟩) (h0 : leastE F = 0)
    (h1 : ∀ c d, bgnF ⟨2, 0, [-1, b], [⟨0, 1, 1, 1, a⟩], c, d⟩ 201 200 [⟨0, 0⟩] = 2) (h2 : ∀ c d, rowsD ⟨2, 0, [-1, b], [⟨0, 1, 1, 1, a⟩], c, d⟩ 2 = ([[⟨0, 0⟩], [⟨1, 0⟩]], [⟨0, 1, 1, 1, a⟩]))
    (h3 : ∀ c d, ([[⟨0, 0⟩], [⟨1, 0⟩]] : List (List Duo)).map (finD ⟨2, 0, [-1, b], [⟨0, 1, 1, 1, a⟩], c, d⟩) = [-1, b]) (h4 : (onS ⟨2, 0, [-1, b], [⟨0, 1, 1, 1, a⟩], 0, 0⟩).1 = [a + b, b])
    (h5 : a + b = 6) (ha : a ≠ -1)
    {e : Int} {n : Nat} {ff : List Int} {oo : List Arc} (h : LAns F e n ff oo) : e = 0 ∧ n = 2 ∧ ff = [-1, 0] ∧ oo = [⟨0, 1, 1, 1, 6⟩] := by
  rcases h with ⟨h, _⟩ | ⟨_, U, hus, ⟨h, _⟩ | ⟨h, st, hmd, hls, hg⟩⟩
  · exact absurd h0 h
  · have hU := smp_us (by omega) hF hus
    rw [hU] at h
    have := h1 U.capF U.capA
    simp only at h
    omega
  · have hU := smp_us (by omega) hF hus
    generalize U.capF = cu at hU
    generalize U.capA = du at hU
    subst hU
    have hst := hmd.uniq ⟨2, h2 cu du, rfl⟩
    subst hst
    have hD : mkD ⟨2, 0, [-1, b], [⟨0, 1, 1, 1, a⟩], cu, du⟩ ([[⟨0, 0⟩], [⟨1, 0⟩]], [⟨0, 1, 1, 1, a⟩]) 0 0 = ⟨2, 0, [-1, b], [⟨0, 1, 1, 1, a⟩], 0, 0⟩ := by
      unfold mkD
      simp only [h3]
      rfl
    have hX : ∀ c1 c2, phT ⟨2, 0, [-1, b], [⟨0, 1, 1, 1, a⟩], 0, 0⟩ c1 c2 = ⟨2, 0, [-1, 0], [⟨0, 1, 1, 1, 0⟩], c1, c2⟩ := fun c1 c2 => by
      unfold phT
      simp only [h4]
      have hbn : ¬ b = -1 := by omega
      have hb6 : ¬ a + b = -1 := by omega
      simp [pushF, pushV, pushL, pushA, hbn, hb6, List.range_succ]
      omega
    rcases hls with ⟨hn, _⟩ | ⟨_, c1, c2, cls, left, outs, hc, m1, m2, m3, rfl, rfl, rfl⟩
    · exfalso
      refine hn ⟨[1], a + b, 1, a, ?_, ?_, ?_⟩
      · have := RdW.cons (L := [⟨0, 1, 1, 1, a⟩]) (a := ⟨0, 1, 1, 1, a⟩) (by simp) (.nil _)
        simpa using this
      · simp; omega
      · simp
    · have hds : dsD ⟨2, 0, [-1, b], [⟨0, 1, 1, 1, a⟩], cu, du⟩ ([[⟨0, 0⟩], [⟨1, 0⟩]], [⟨0, 1, 1, 1, a⟩]) 0 = 6 := by
        unfold dsD
        rw [hD, h4]
        simpa using h5
      rw [hD, hX] at hc m1 m2 m3
      rw [hds, hD, hX]
      have hne : cls.getD 0 0 ≠ cls.getD 1 0 := fun he => by
        have hDF : DFst ⟨2, 0, [-1, 0], [⟨0, 1, 1, 1, 0⟩], c1, c2⟩ := ⟨⟨by simp, by simp, by simp, by simp⟩, by simp, by simp, by simp, by simp, by simp⟩
        have := ((hc.iff hDF (i := 0) (j := 1) (by simp) (by simp)).1 he).1
        simp at this
      have k1 : clA cls 1 ≠ clA cls 0 := fun he => hne he.symm
      have g1 : mgRows ⟨2, 0, [-1, 0], [⟨0, 1, 1, 1, 0⟩], c1, c2⟩ cls 1 = ([0, 1], [⟨0, 1, 1, 1, 0⟩]) := by
        simp [mgRows, mgP, mgStep, mgL, mgN, k1, List.getD, List.idxOf_cons, show (clA cls 0 == clA cls 1) = false by simpa using fun h => k1 h.symm]
      have g2 : mgRows ⟨2, 0, [-1, 0], [⟨0, 1, 1, 1, 0⟩], c1, c2⟩ cls 2 = ([0, 1], [⟨0, 1, 1, 1, 0⟩]) := by
        show mgP _ cls 1 ((mgRows _ cls 1).1.getD 1 0) (mgRows _ cls 1) 1 = _
        rw [g1]
        simp [mgP, mgStep, List.getD]
      have hL : left.length = 2 := by
        rcases Nat.lt_trichotomy left.length 2 with g | g | g
        · exfalso
          rcases (show left.length = 0 ∨ left.length = 1 by omega) with e | e
          · rw [e] at m1
            have : (mgRows ⟨2, 0, [-1, 0], [⟨0, 1, 1, 1, 0⟩], c1, c2⟩ cls 0).1.length = 1 := rfl
            rw [m1] at this
            simp only at this
            omega
          · rw [e, g1] at m1
            have := congrArg (fun p : List Int × List Arc => p.1.length) m1
            simp only [List.length_cons, List.length_nil] at this
            omega
        · exact g
        · exfalso
          have := m2 2 g
          rw [g2] at this
          simp at this
      rw [hL, g2] at m1
      simp only [Prod.mk.injEq] at m1
      obtain ⟨rfl, rfl⟩ := m1
      have hff : adF 6 (([0, 1] : List Int).map (fiA ⟨2, 0, [-1, 0], [⟨0, 1, 1, 1, 0⟩], c1, c2⟩)) = [-1, 0] := by simp [adF, fiA, List.getD]
      have hoo : ([⟨0, 1, 1, 1, 0⟩] : List Arc).map (adA 6) = [⟨0, 1, 1, 1, 6⟩] := by simp [adA]
      rw [hds, hD, hX] at hg
      rw [hff, hoo] at hg
      refine ⟨?_, hL, hff, hoo⟩
      rcases hg with ⟨hg, _⟩ | ⟨_, hg⟩
      · exact absurd hg (by decide)
      · exact hg

theorem sam_ls {e : Int} {n : Nat} {ff : List Int} {oo : List Arc} (h : LAns samT e n ff oo) : e = 0 ∧ n = 2 ∧ ff = [-1, 0] ∧ oo = [⟨0, 1, 1, 1, 6⟩] :=
  smp_ls (a := 5) (b := 1) (by omega) rfl (by decide) (fun c d => by kernel_rfl) (fun c d => by kernel_rfl) (fun c d => by kernel_rfl) (by kernel_rfl) (by omega) (by omega) h
theorem sam_ls2 {c d : Nat} {e : Int} {n : Nat} {ff : List Int} {oo : List Arc} (h : LAns ⟨2, 0, [-1, 0], [⟨0, 1, 1, 1, 6⟩], c, d⟩ e n ff oo) : e = 0 ∧ n = 2 ∧ ff = [-1, 0] ∧ oo = [⟨0, 1, 1, 1, 6⟩] :=
  smp_ls (a := 6) (b := 0) (by omega) rfl (by kernel_rfl) (fun c d => by kernel_rfl) (fun c d => by kernel_rfl) (fun c d => by kernel_rfl) (by kernel_rfl) (by omega) (by omega) h

set_option maxHeartbeats 8000000 in
set_option maxRecDepth 20000 in
theorem leastBegun_c (x : Obj) (hx : TabX x) : Ct Tryd.prog 24 [] [] [(0, tabO x)] 1 (fun v s => v = .b true ∧ s = ⟨[], [(0, tabO x)], 1⟩) := by
  refine ctW Tryd.tyOk 5 [] Tryd.func24 rfl (by simp) (by simp) (fr := []) rfl ?_
  repeat' (first | exact rfl | ((conv => whnf); first | (refine qX (fun h => ?_) fun h => ?_ <;> try exact absurd h (by omega)) | refine oN ?_ | refine oM ?_ ?_ | refine bM ?_ ?_ | refine dR ?_))
  (conv => whnf)
  refine cF (same_c) [] Tryd.call35 ?_
  rintro _ _ ⟨rfl, rfl⟩
  repeat' (first | exact rfl | ((conv => whnf); first | (refine qX (fun h => ?_) fun h => ?_ <;> try exact absurd h (by omega)) | refine oN ?_ | refine oM ?_ ?_ | refine bM ?_ ?_ | refine dR ?_ | intro _))
  (conv => whnf)
  try simp only [Nat.reduceAdd, Nat.reduceSub]
  refine cF (Least_c samT (by decide) x hx) [1, 2, 0] Tryd.call21 ?_
  rintro v s hp
  obtain ⟨e, n, ff, oo, hA, hO⟩ := hp.split
  obtain ⟨rfl, rfl, rfl, rfl⟩ := sam_ls hA
  clear hp hA
  rcases hO with ⟨h0, _⟩ | ⟨_, sp, sq, rfl, rfl⟩
  · exact absurd rfl h0
  repeat' (first | exact rfl | ((conv => whnf); first | (refine qX (fun h => ?_) fun h => ?_ <;> try exact absurd h (by omega)) | refine oN ?_ | refine oM ?_ ?_ | refine bM ?_ ?_ | refine dR ?_ | intro _))
  (conv => whnf)
  try simp only [Nat.reduceAdd, Nat.reduceSub]
  refine cF (same_c) [] Tryd.call35 ?_
  rintro _ _ ⟨rfl, rfl⟩
  repeat' (first | exact rfl | ((conv => whnf); first | (refine qX (fun h => ?_) fun h => ?_ <;> try exact absurd h (by omega)) | refine oN ?_ | refine oM ?_ ?_ | refine bM ?_ ?_ | refine dR ?_ | intro _))
  (conv => whnf)
  try simp only [Nat.reduceAdd, Nat.reduceSub]
  refine callF (Same_c samT ⟨2, 0, [-1, 0], [⟨0, 1, 1, 1, 6⟩], 2 + sp, 1 + sq⟩ (by decide) (by simp) x hx) [6, 7, 3, 4, 0] Tryd.call26 rfl (by simp [gV]) (by simp [gV]) (by simp) ?_
  rintro v s ⟨e, n, ff, oo, hA, hR, rfl⟩
  obtain ⟨rfl, rfl, rfl, rfl⟩ := sam_ls hA
  rcases hR with ⟨h0, _⟩ | ⟨_, e', n', ff', oo', hA', hR'⟩
  · exact absurd rfl h0
  obtain ⟨rfl, rfl, rfl, rfl⟩ := sam_ls2 hA'
  rcases hR' with ⟨h0, _⟩ | ⟨_, rfl⟩
  · exact absurd rfl h0
  rw [decide_eq_true (show 2 = 2 ∧ ([-1, 0] : List Int) = [-1, 0] ∧ ([⟨0, 1, 1, 1, 6⟩] : List Arc) = [⟨0, 1, 1, 1, 6⟩] from ⟨rfl, rfl, rfl⟩)]
  clear hA hA'
  repeat' (first | exact rfl | ((conv => whnf); first | (refine qX (fun h => ?_) fun h => ?_ <;> try exact absurd h (by omega)) | refine oN ?_ | refine oM ?_ ?_ | refine bM ?_ ?_ | refine dR ?_ | intro _))
  (conv => whnf)
  try simp only [Nat.reduceAdd, Nat.reduceSub]
  refine cF (sameInts_c [-1, 0] [-1, 0] (2 + sp) 2 (by decide) (by decide)) [3, 8] Tryd.call53 ?_
  rintro _ _ ⟨rfl, rfl⟩
  repeat' (first | exact rfl | ((conv => whnf); first | (refine qX (fun h => ?_) fun h => ?_ <;> try exact absurd h (by omega)) | refine oN ?_ | refine oM ?_ ?_ | refine bM ?_ ?_ | refine dR ?_ | intro _))
  all_goals
    (conv => whnf)
    exact ⟨[], [(0, tabO x)], 1, .b true, ⟨by rfl, trivial, by simp⟩, by simp, rfl, rfl⟩
end Go.Fw

namespace Go.Fw
open Go Go.Proofs

/-- What the document answers, in short. -/
def RAns (F : TF) (e : Int) (n : Nat) (ff : List Int) (oo : List Arc) : Prop := ∃ (U : TF) (W vs : List (List Int)) (par sym : List Int), IsUs F U ∧
  ((∃ i c, WSt U W vs par sym i c ∧ W.length = 201 ∧ e = 2) ∨
   (WSt U W vs par sym W.length 1 ∧ W.length ≤ 200 ∧
     ((¬ (∃ w c, CW U U.start w c) ∧ n = 1 ∧ ff = [-1] ∧ oo = []) ∨
      ((∃ w c, CW U U.start w c) ∧ ∃ first, lrRows U W vs first.length = (first, oo) ∧ (∀ j, j < first.length → j < (lrRows U W vs j).1.length) ∧ n = first.length ∧ ff = lrF U W vs first first.length)) ∧
     (greatB oo ff = true ∧ e = 2 ∨ greatB oo ff = false ∧ e = 0)))
def ROut (e : Int) (n : Nat) (ff : List Int) (oo : List Arc) (v : SV) (s : S) : Prop :=
  (e ≠ 0 ∧ v = .tup [.agg zero25, .c (.i e)] ∧ s = ⟨[], [], 2⟩) ∨
  (e = 0 ∧ ∃ sp sq, v = .tup [.agg [.i (n : Nat), .i 0, .sl 2 1 0 ff.length (ff.length + sp), .sl 3 5 0 oo.length (oo.length + sq)], .c (.i 0)] ∧
    s = ⟨[], [(2, .arr true 3 .int ff sp), (3, .arr true 50 .arc oo sq)], 4⟩)
theorem LeastOfPost.split {F : TF} {v : SV} {s : S} (h : LeastOfPost F v s) : ∃ e n ff oo, RAns F e n ff oo ∧ ROut e n ff oo v s := by
  obtain ⟨U, W, vs, par, sym, hus, ⟨i, c, h1, h2, h3, h4⟩ | ⟨h1, h2, n, ff, oo, h3, ⟨hg, h4, h5⟩ | ⟨hg, sp, sq, h4, h5⟩⟩⟩ := h
  · exact ⟨2, 0, [], [], ⟨U, W, vs, par, sym, hus, .inl ⟨i, c, h1, h2, rfl⟩⟩, .inl ⟨by decide, h3, h4⟩⟩
  · exact ⟨2, n, ff, oo, ⟨U, W, vs, par, sym, hus, .inr ⟨h1, h2, h3, .inl ⟨hg, rfl⟩⟩⟩, .inl ⟨by decide, h4, h5⟩⟩
  · exact ⟨0, n, ff, oo, ⟨U, W, vs, par, sym, hus, .inr ⟨h1, h2, h3, .inr ⟨hg, rfl⟩⟩⟩, .inr ⟨rfl, sp, sq, h4, h5⟩⟩

theorem IsLs.cap {U V : TF} {st : DS} {n : Nat} {ff : List Int} {oo : List Arc} (h : IsLs U st n ff oo) (h1 : U.st = V.st) (h2 : U.start = V.start) (h3 : U.fin = V.fin) (h4 : U.arcs = V.arcs) : IsLs V st n ff oo := by
  obtain ⟨a, b, c, d, e, f⟩ := U
  obtain ⟨a', b', c', d', e', f'⟩ := V
  simp only at h1 h2 h3 h4
  subst h1 h2 h3 h4
  exact h

/-- Both answer the same. -/
theorem ans_same {F : TF} (hF : FOk F) (hf : fineB F = true) (h12 : F.st ≤ 12) (h0 : leastE F = 0) {e e' : Int} {n n' : Nat} {ff ff' : List Int} {oo oo' : List Arc} (h : LAns F e n ff oo) (h' : RAns F e' n' ff' oo') :
    e = e' ∧ (e = 0 → n = n' ∧ ff = ff' ∧ oo = oo') := by
  rcases h with ⟨h, _⟩ | ⟨_, U, hus, h⟩
  · exact absurd h0 h
  obtain ⟨V, W, vs, par, sym, hV, h'⟩ := h'
  have hw := WOk.of hF
  obtain ⟨e1, e2, e3, e4⟩ := hus.uniq hw.toFRng hF.start hV
  have hbg := hus.bgn hw.toFRng hF.start hV
  rcases h with ⟨hb, rfl⟩ | ⟨hb, st, hmd, hls, hg⟩
  · rcases h' with ⟨i, c, h1, h2, rfl⟩ | ⟨h1, h2, _⟩
    · exact ⟨rfl, fun h => by omega⟩
    · have := bgn_yes hF hf hus hV h1 h2
      omega
  · rcases h' with ⟨i, c, h1, h2, rfl⟩ | ⟨h1, h2, h3, hg'⟩
    · have := bgn_no hF hf hus hV h1 h2
      omega
    · have hD : DetH F V st := ⟨hF, hf, hV, by omega, hmd.cap e1 e4 e2⟩
      have hls := hls.cap e1 e2 e3 e4
      have key : n = n' ∧ ff = ff' ∧ oo = oo' := by
        rcases hls with ⟨hn, rfl, rfl, rfl⟩ | ⟨hn, c1, c2, cls, left, outs, hc, m1, m2, m3, rfl, rfl, rfl⟩
        · rcases h3 with ⟨_, rfl, rfl, rfl⟩ | ⟨hn', _⟩
          · exact ⟨rfl, rfl, rfl⟩
          · exact absurd hn' hn
        · rcases h3 with ⟨hn', _⟩ | ⟨_, first, g1, g2, rfl, rfl⟩
          · exact absurd hn hn'
          · obtain ⟨k1, k2, k3⟩ := rows_same hD h12 hn h1 hc m1 m2 g1 g2
            exact ⟨k1.symm, k3.symm, k2.symm⟩
      obtain ⟨rfl, rfl, rfl⟩ := key
      refine ⟨?_, fun _ => ⟨rfl, rfl, rfl⟩⟩
      rcases hg with ⟨hg, rfl⟩ | ⟨hg, rfl⟩ <;> rcases hg' with ⟨hg', rfl⟩ | ⟨hg', rfl⟩
      · rfl
      · rw [hg] at hg'; cases hg'
      · rw [hg] at hg'; cases hg'
      · rfl

set_option maxHeartbeats 8000000 in
set_option maxRecDepth 20000 in
/-- The law: Least answers just what the document says. -/
theorem leastTells_c (F : TF) (hl : F.fin.length ≤ 9223372036854775807) (x : Obj) (hx : TabX x) : Ct Tryd.prog 5 [fV F] [] (hpF F ++ [(2, tabO x)]) 3 (fun v s => v = .b true ∧ s = ⟨[], [(2, tabO x)], 3⟩) := by
  by_cases h0 : leastE F = 0
  · have hfst : fstE F = 0 := Classical.byContradiction fun h => by
      have hd : leastE F = fstE F := by unfold leastE; rw [if_pos h]
      omega
    have hF := fstE_ok hfst
    have h12 : F.st ≤ 12 := Classical.byContradiction fun h => by
      have hd : leastE F = 2 := by unfold leastE; rw [if_neg (fun c => c hfst), if_pos (by omega)]
      omega
    have hf : fineB F = true := Classical.byContradiction fun h => by
      have hd : leastE F = 4 := by unfold leastE; rw [if_neg (fun c => c hfst), if_neg (by omega), if_neg h]
      omega
    refine ctW Tryd.tyOk 7 [] Tryd.func5 rfl (by simp) (by simp) (fr := [(0, fV F)]) rfl ?_
    repeat' (first | exact rfl | ((conv => whnf); first | (refine qX (fun h => ?_) fun h => ?_ <;> try exact absurd h (by omega)) | refine oN ?_ | refine oM ?_ ?_ | refine bM ?_ ?_ | refine dR ?_))
    (conv => whnf)
    refine cF (Least_c F hl x hx) [0, 1, 2] Tryd.call21 ?_
    rintro v s hp
    obtain ⟨e, n, ff, oo, hA, hO⟩ := hp.split
    clear hp
    rcases hO with ⟨he, rfl, rfl⟩ | ⟨rfl, sp, sq, rfl, rfl⟩
    · repeat' (first | exact rfl | ((conv => whnf); first | (refine qX (fun h => ?_) fun h => ?_ <;> try exact absurd h (by omega)) | refine oN ?_ | refine oM ?_ ?_ | refine bM ?_ ?_ | refine dR ?_ | intro _))
      (conv => whnf)
      try simp only [Nat.reduceAdd, Nat.reduceSub]
      refine cF (checkLeast_c F) [0, 1] Tryd.call22 ?_
      rw [h0]
      rintro _ _ ⟨rfl, rfl⟩
      repeat' (first | exact rfl | ((conv => whnf); first | (refine qX (fun h => ?_) fun h => ?_ <;> try exact absurd h (by omega)) | refine oN ?_ | refine oM ?_ ?_ | refine bM ?_ ?_ | refine dR ?_ | intro _))
      (conv => whnf)
      try simp only [Nat.reduceAdd, Nat.reduceSub]
      refine cF (leastOf_c F hF hf h12) [0, 1] Tryd.call23 ?_
      rintro v s hp
      obtain ⟨e', n', ff', oo', hA', hO'⟩ := hp.split
      clear hp
      obtain ⟨rfl, _⟩ := ans_same hF hf h12 h0 hA hA'
      rcases hO' with ⟨_, rfl, rfl⟩ | ⟨h, _⟩
      · repeat' (first | exact rfl | ((conv => whnf); first | (refine qX (fun h => ?_) fun h => ?_ <;> try exact absurd h (by omega)) | refine oN ?_ | refine oM ?_ ?_ | refine bM ?_ ?_ | refine dR ?_ | intro _))
        (conv => whnf)
        try simp only [Nat.reduceAdd, Nat.reduceSub]
        refine cF (leastBegun_c x hx) [2] Tryd.call24 ?_
        rintro _ _ ⟨rfl, rfl⟩
        repeat' (first | exact rfl | ((conv => whnf); first | (refine qX (fun h => ?_) fun h => ?_ <;> try exact absurd h (by omega)) | refine oN ?_ | refine oM ?_ ?_ | refine bM ?_ ?_ | refine dR ?_ | intro _))
        (conv => whnf)
        try simp only [Nat.reduceAdd, Nat.reduceSub]
        refine callNil 3 .int (args' := [.a (.agg [.i 0, .i 0, .sl 6 1 0 0 0, .v (.slice none 0 0)]), .i e, .i e, .a (.agg [.i 0, .i 0, .v (.slice none 0 0), .v (.slice none 0 0)])]) (fun β => by simp [SV.den, SA.den, SC.den, Env.add]) ?_; (conv => whnf)
        refine callNil 50 .arc (args' := [.a (.agg [.i 0, .i 0, .sl 6 1 0 0 0, .sl 7 5 0 0 0]), .i e, .i e, .a (.agg [.i 0, .i 0, .v (.slice none 0 0), .v (.slice none 0 0)])]) (fun β => by simp [SV.den, SA.den, SC.den, Env.add]) ?_; (conv => whnf)
        refine callNil 3 .int (args' := [.a (.agg [.i 0, .i 0, .sl 6 1 0 0 0, .sl 7 5 0 0 0]), .i e, .i e, .a (.agg [.i 0, .i 0, .sl 8 1 0 0 0, .v (.slice none 0 0)])]) (fun β => by simp [SV.den, SA.den, SC.den, Env.add]) ?_; (conv => whnf)
        refine callNil 50 .arc (args' := [.a (.agg [.i 0, .i 0, .sl 6 1 0 0 0, .sl 7 5 0 0 0]), .i e, .i e, .a (.agg [.i 0, .i 0, .sl 8 1 0 0 0, .sl 9 5 0 0 0])]) (fun β => by simp [SV.den, SA.den, SC.den, Env.add]) ?_; (conv => whnf)
        refine callF (fstIs_c zeroF zeroF e e (by simp [zeroF]) (by simp [zeroF]) (by simp [zeroF])) [6, 7, 8, 9] Tryd.call25 rfl (by simp [zeroF, gV]) (by simp [zeroF, gV]) (by simp) ?_
        rintro _ _ ⟨rfl, rfl⟩
        rw [show (decide (e = e) && sameF zeroF (if e = 0 then zeroF else zeroF)) = true by simp [sameF]]
        repeat' (first | exact rfl | ((conv => whnf); first | (refine qX (fun h => ?_) fun h => ?_ <;> try exact absurd h (by omega)) | refine oN ?_ | refine oM ?_ ?_ | refine bM ?_ ?_ | refine dR ?_ | intro _))
        (conv => whnf)
        exact ⟨[], [(2, tabO x)], 3, .b true, ⟨by rfl, trivial, by simp⟩, by simp, rfl, rfl⟩
      · exact absurd h he
    · have hlen := hA.len2
      repeat' (first | exact rfl | ((conv => whnf); first | (refine qX (fun h => ?_) fun h => ?_ <;> try exact absurd h (by omega)) | refine oN ?_ | refine oM ?_ ?_ | refine bM ?_ ?_ | refine dR ?_ | intro _))
      (conv => whnf)
      try simp only [Nat.reduceAdd, Nat.reduceSub]
      refine cF (checkLeast_c F) [0, 1] Tryd.call22 ?_
      rw [h0]
      rintro _ _ ⟨rfl, rfl⟩
      repeat' (first | exact rfl | ((conv => whnf); first | (refine qX (fun h => ?_) fun h => ?_ <;> try exact absurd h (by omega)) | refine oN ?_ | refine oM ?_ ?_ | refine bM ?_ ?_ | refine dR ?_ | intro _))
      (conv => whnf)
      try simp only [Nat.reduceAdd, Nat.reduceSub]
      refine cF (leastOf_c F hF hf h12) [0, 1] Tryd.call23 ?_
      rintro v s hp
      obtain ⟨e', n', ff', oo', hA', hO'⟩ := hp.split
      clear hp
      obtain ⟨rfl, hq⟩ := ans_same hF hf h12 h0 hA hA'
      obtain ⟨rfl, rfl, rfl⟩ := hq rfl
      rcases hO' with ⟨h, _⟩ | ⟨_, sp', sq', rfl, rfl⟩
      · exact absurd rfl h
      · repeat' (first | exact rfl | ((conv => whnf); first | (refine qX (fun h => ?_) fun h => ?_ <;> try exact absurd h (by omega)) | refine oN ?_ | refine oM ?_ ?_ | refine bM ?_ ?_ | refine dR ?_ | intro _))
        (conv => whnf)
        try simp only [Nat.reduceAdd, Nat.reduceSub]
        refine cF (leastBegun_c x hx) [2] Tryd.call24 ?_
        rintro _ _ ⟨rfl, rfl⟩
        repeat' (first | exact rfl | ((conv => whnf); first | (refine qX (fun h => ?_) fun h => ?_ <;> try exact absurd h (by omega)) | refine oN ?_ | refine oM ?_ ?_ | refine bM ?_ ?_ | refine dR ?_ | intro _))
        (conv => whnf)
        try simp only [Nat.reduceAdd, Nat.reduceSub]
        have cI := fstIs_c ⟨(n : Nat), 0, ff, oo, ff.length + sp, oo.length + sq⟩ ⟨(n : Nat), 0, ff, oo, ff.length + sp', oo.length + sq'⟩ 0 0 (by simp only; omega) (by simp only; omega) hlen.2.2
        rw [show (decide ((0 : Int) = 0) && sameF ⟨(n : Nat), 0, ff, oo, ff.length + sp, oo.length + sq⟩ (if (0 : Int) = 0 then ⟨(n : Nat), 0, ff, oo, ff.length + sp', oo.length + sq'⟩ else zeroF)) = true by simp [sameF]] at cI
        refine callF (cI) [4, 5, 8, 9] Tryd.call25 rfl (by simp [gV]) (by simp [gV]) (by simp) ?_
        rintro _ _ ⟨rfl, rfl⟩
        repeat' (first | exact rfl | ((conv => whnf); first | (refine qX (fun h => ?_) fun h => ?_ <;> try exact absurd h (by omega)) | refine oN ?_ | refine oM ?_ ?_ | refine bM ?_ ?_ | refine dR ?_ | intro _))
        (conv => whnf)
        exact ⟨[], [(2, tabO x)], 3, .b true, ⟨by rfl, trivial, by simp⟩, by simp, rfl, rfl⟩
  · refine ctW Tryd.tyOk 7 [] Tryd.func5 rfl (by simp) (by simp) (fr := [(0, fV F)]) rfl ?_
    repeat' (first | exact rfl | ((conv => whnf); first | (refine qX (fun h => ?_) fun h => ?_ <;> try exact absurd h (by omega)) | refine oN ?_ | refine oM ?_ ?_ | refine bM ?_ ?_ | refine dR ?_))
    (conv => whnf)
    refine cF (Least_c F hl x hx) [0, 1, 2] Tryd.call21 ?_
    rintro v s (⟨_, rfl, rfl⟩ | ⟨h1, _⟩)
    · repeat' (first | exact rfl | ((conv => whnf); first | (refine qX (fun h => ?_) fun h => ?_ <;> try exact absurd h (by omega)) | refine oN ?_ | refine oM ?_ ?_ | refine bM ?_ ?_ | refine dR ?_ | intro _))
      (conv => whnf)
      try simp only [Nat.reduceAdd, Nat.reduceSub]
      refine cF (checkLeast_c F) [0, 1] Tryd.call22 ?_
      rintro _ _ ⟨rfl, rfl⟩
      repeat' (first | exact rfl | ((conv => whnf); first | (refine qX (fun h => ?_) fun h => ?_ <;> try exact absurd h (by omega)) | refine oN ?_ | refine oM ?_ ?_ | refine bM ?_ ?_ | refine dR ?_ | intro _))
      all_goals try (exfalso; omega)
      (conv => whnf)
      try simp only [Nat.reduceAdd, Nat.reduceSub]
      refine cF (leastBegun_c x hx) [2] Tryd.call24 ?_
      rintro _ _ ⟨rfl, rfl⟩
      repeat' (first | exact rfl | ((conv => whnf); first | (refine qX (fun h => ?_) fun h => ?_ <;> try exact absurd h (by omega)) | refine oN ?_ | refine oM ?_ ?_ | refine bM ?_ ?_ | refine dR ?_ | intro _))
      (conv => whnf)
      try simp only [Nat.reduceAdd, Nat.reduceSub]
      refine callNil 3 .int (args' := [.a (.agg [.i 0, .i 0, .sl 6 1 0 0 0, .v (.slice none 0 0)]), .i (leastE F), .i (leastE F), .a (.agg [.i 0, .i 0, .v (.slice none 0 0), .v (.slice none 0 0)])]) (fun β => by simp [SV.den, SA.den, SC.den, Env.add]) ?_; (conv => whnf)
      refine callNil 50 .arc (args' := [.a (.agg [.i 0, .i 0, .sl 6 1 0 0 0, .sl 7 5 0 0 0]), .i (leastE F), .i (leastE F), .a (.agg [.i 0, .i 0, .v (.slice none 0 0), .v (.slice none 0 0)])]) (fun β => by simp [SV.den, SA.den, SC.den, Env.add]) ?_; (conv => whnf)
      refine callNil 3 .int (args' := [.a (.agg [.i 0, .i 0, .sl 6 1 0 0 0, .sl 7 5 0 0 0]), .i (leastE F), .i (leastE F), .a (.agg [.i 0, .i 0, .sl 8 1 0 0 0, .v (.slice none 0 0)])]) (fun β => by simp [SV.den, SA.den, SC.den, Env.add]) ?_; (conv => whnf)
      refine callNil 50 .arc (args' := [.a (.agg [.i 0, .i 0, .sl 6 1 0 0 0, .sl 7 5 0 0 0]), .i (leastE F), .i (leastE F), .a (.agg [.i 0, .i 0, .sl 8 1 0 0 0, .sl 9 5 0 0 0])]) (fun β => by simp [SV.den, SA.den, SC.den, Env.add]) ?_; (conv => whnf)
      refine callF (fstIs_c zeroF zeroF (leastE F) (leastE F) (by simp [zeroF]) (by simp [zeroF]) (by simp [zeroF])) [6, 7, 8, 9] Tryd.call25 rfl (by simp [zeroF, gV]) (by simp [zeroF, gV]) (by simp) ?_
      rintro _ _ ⟨rfl, rfl⟩
      rw [show (decide ((leastE F) = (leastE F)) && sameF zeroF (if (leastE F) = 0 then zeroF else zeroF)) = true by simp [sameF]]
      repeat' (first | exact rfl | ((conv => whnf); first | (refine qX (fun h => ?_) fun h => ?_ <;> try exact absurd h (by omega)) | refine oN ?_ | refine oM ?_ ?_ | refine bM ?_ ?_ | refine dR ?_ | intro _))
      (conv => whnf)
      exact ⟨[], [(2, tabO x)], 3, .b true, ⟨by rfl, trivial, by simp⟩, by simp, rfl, rfl⟩
    · exact absurd h1 h0
end Go.Fw
