/- Walks of the functions: what each computes. -/
import Derived.Test.YtlaenllbacalpaaDoorA20

set_option linter.unusedSimpArgs false
set_option linter.unusedVariables false

namespace Go.Fw
open Go Go.Proofs
theorem leastE_ok {F : TF} (h0 : leastE F = 0) : FOk F ∧ fineB F = true ∧ F.st ≤ 12 := by
  have hfst : fstE F = 0 := Classical.byContradiction fun h => by
    have hd : leastE F = fstE F := by unfold leastE; rw [if_pos h]
    omega
  have h12 : F.st ≤ 12 := Classical.byContradiction fun h => by
    have hd : leastE F = 2 := by unfold leastE; rw [if_neg (fun c => c hfst), if_pos (by omega)]
    omega
  have hf : fineB F = true := Classical.byContradiction fun h => by
    have hd : leastE F = 4 := by unfold leastE; rw [if_neg (fun c => c hfst), if_neg (by omega), if_neg h]
    omega
  exact ⟨fstE_ok hfst, hf, h12⟩
theorem LAns.to {F V : TF} {n : Nat} {ff : List Int} {oo : List Arc} (h : LAns F 0 n ff oo) (h0 : leastE F = 0) (hV : IsUs F V) : ∃ st, DetH F V st ∧ IsLs V st n ff oo := by
  obtain ⟨hF, hf, h12⟩ := leastE_ok h0
  rcases h with ⟨h1, _⟩ | ⟨_, U, hus, ⟨_, h2⟩ | ⟨h2, st, hmd, hls, _⟩⟩
  · exact absurd h0 h1
  · cases h2
  · have hw := WOk.of hF
    obtain ⟨e1, e2, e3, e4⟩ := hus.uniq hw.toFRng hF.start hV
    have hbg := hus.bgn hw.toFRng hF.start hV
    exact ⟨st, ⟨hF, hf, hV, by omega, hmd.cap e1 e4 e2⟩, hls.cap e1 e2 e3 e4⟩
theorem same_words {F G V V' : TF} {n n' : Nat} {ff ff' : List Int} {oo oo' : List Arc} (h : LAns F 0 n ff oo) (h0 : leastE F = 0) (h' : LAns G 0 n' ff' oo') (h0' : leastE G = 0) (hV : IsUs F V) (hV' : IsUs G V')
    {W vs : List (List Int)} {par sym : List Int} (hw : WSt V W vs par sym W.length 1) {Y ys : List (List Int)} {par' sym' : List Int} (hw' : WSt V' Y ys par' sym' Y.length 1) :
    alkW2 V W vs V' Y ys W.length 0 0 0 0 = decide (n = n' ∧ ff = ff' ∧ oo = oo') := by
  obtain ⟨st, hD, hls⟩ := h.to h0 hV
  obtain ⟨st', hD', hls'⟩ := h'.to h0' hV'
  obtain ⟨_, _, h12⟩ := leastE_ok h0
  obtain ⟨_, _, h12'⟩ := leastE_ok h0'
  have hr : RdW st.2 0 (W.getD 0 []) ((0 : Nat) : Int) 0 := by rw [hw.w0]; exact .nil _
  have hr' : RdW st'.2 0 (Y.getD 0 []) ((0 : Nat) : Int) 0 := by rw [hw'.w0]; exact .nil _
  rw [Bool.eq_iff_iff, decide_eq_true_eq, ls_iff hD h12 hD' h12' hls hls', alk2_iff hD h12 hw hD' h12' hw' W.length 0 0 0 0 0 0 0 0 hw.pos hw'.pos (by omega) hD.ri.len hD'.ri.len hr hr']
  simp only [Int.sub_zero, Int.add_zero]
  exact Iff.rfl
theorem LAns.many {F V : TF} {n : Nat} {ff : List Int} {oo : List Arc} (h : LAns F 0 n ff oo) (h0 : leastE F = 0) (hV : IsUs F V) {W vs : List (List Int)} {par sym : List Int} {i : Nat} {c : Int} (hw : WSt V W vs par sym i c) : W.length ≠ 201 := fun hl => by
  obtain ⟨st, hD, _⟩ := h.to h0 hV
  have := bgn_no hD.fok hD.fine hV hV hw hl
  have := hD.bgn
  omega
abbrev hpSm (F G : TF) (x : Obj) : List (Nat × SO) := hpG F G ++ [(4, tabO x)]
set_option maxHeartbeats 8000000 in
set_option maxRecDepth 20000 in
theorem leastSame_c (F G : TF) (hl : F.fin.length ≤ 9223372036854775807) (hl' : G.fin.length ≤ 9223372036854775807) (x : Obj) (hx : TabX x) : Ct Tryd.prog 6 [fV F, gV G] [] (hpSm F G x) 5 (fun v s => v = .b true ∧ s = ⟨[], [(4, tabO x)], 5⟩) := by
  have cB := leastBegun_c x hx
  have hfin : (SV.b true = .b true ∧ (⟨[], [(4, tabO x)], 5⟩ : S) = ⟨[], [(4, tabO x)], 5⟩) := ⟨rfl, rfl⟩
  refine ctC Tryd.tyOk Tryd.func6 rfl (by simp [gV]) (by simp) (fr := [(0, fV F), (1, gV G)]) rfl ?_
  refine SemC.of Tryd.tyOk 13 [] ?_
  repeat' (first | exact rfl | ((conv => whnf); first | (refine qX (fun h => ?_) fun h => ?_ <;> try exact absurd h (by omega)) | refine oN ?_ | refine oM ?_ ?_ | refine bM ?_ ?_ | refine dR ?_))
  (conv => whnf)
  try simp only [Nat.reduceAdd, Nat.reduceSub]
  refine callF (Same_c F G hl hl' x hx) [0, 1, 2, 3, 4] Tryd.call26 rfl (by simp [gV]) (by simp [gV]) (by simp) ?_
  rintro v s ⟨e, n, ff, oo, hA, hR, rfl⟩
  by_cases h0 : leastE F = 0
  · obtain ⟨hF, hf, h12⟩ := leastE_ok h0
    rcases hR with ⟨he, rfl⟩ | ⟨rfl, e', n', ff', oo', hA', hR⟩
    · repeat' (first | exact rfl | ((conv => whnf); first | (refine qX (fun h => ?_) fun h => ?_ <;> try exact absurd h (by omega)) | refine oN ?_ | refine oM ?_ ?_ | refine bM ?_ ?_ | refine dR ?_ | intro _))
      (conv => whnf)
      try simp only [Nat.reduceAdd, Nat.reduceSub]
      refine cF (checkLeast_c F) [0, 1] Tryd.call22 ?_
      rw [h0]
      rintro _ _ ⟨rfl, rfl⟩
      repeat' (first | exact rfl | ((conv => whnf); first | (refine qX (fun h => ?_) fun h => ?_ <;> try exact absurd h (by omega)) | refine oN ?_ | refine oM ?_ ?_ | refine bM ?_ ?_ | refine dR ?_ | intro _))
      (conv => whnf)
      try simp only [Nat.reduceAdd, Nat.reduceSub]
      refine cF (leastOf_c F hF hf h12) [0, 1] Tryd.call23 ?_
      rintro v s hp
      obtain ⟨e1, n1, ff1, oo1, hA1, hO1⟩ := hp.split
      clear hp
      obtain ⟨rfl, _⟩ := ans_same hF hf h12 h0 hA hA1
      rcases hO1 with ⟨_, rfl, rfl⟩ | ⟨h, _⟩
      · repeat' (first | exact rfl | ((conv => whnf); first | (refine qX (fun h => ?_) fun h => ?_ <;> try exact absurd h (by omega)) | refine oN ?_ | refine oM ?_ ?_ | refine bM ?_ ?_ | refine dR ?_ | intro _))
        all_goals try (exfalso; omega)
        (conv => whnf)
        try simp only [Nat.reduceAdd, Nat.reduceSub]
        refine cF (cB) [4] Tryd.call24 ?_
        rintro _ _ ⟨rfl, rfl⟩
        repeat' (first | exact rfl | ((conv => whnf); first | (refine qX (fun h => ?_) fun h => ?_ <;> try exact absurd h (by omega)) | refine oN ?_ | refine oM ?_ ?_ | refine bM ?_ ?_ | refine dR ?_ | intro _))
        (conv => whnf)
        exact ⟨[], [(4, tabO x)], 5, .b true, ⟨by rfl, trivial, by simp⟩, by simp, hfin⟩
      · exact absurd h he
    · by_cases h0' : leastE G = 0
      · obtain ⟨hG, hf', h12'⟩ := leastE_ok h0'
        rcases hR with ⟨he', rfl⟩ | ⟨rfl, rfl⟩
        · repeat' (first | exact rfl | ((conv => whnf); first | (refine qX (fun h => ?_) fun h => ?_ <;> try exact absurd h (by omega)) | refine oN ?_ | refine oM ?_ ?_ | refine bM ?_ ?_ | refine dR ?_ | intro _))
          (conv => whnf)
          try simp only [Nat.reduceAdd, Nat.reduceSub]
          refine cF (checkLeast_c F) [0, 1] Tryd.call22 ?_
          rw [h0]
          rintro _ _ ⟨rfl, rfl⟩
          repeat' (first | exact rfl | ((conv => whnf); first | (refine qX (fun h => ?_) fun h => ?_ <;> try exact absurd h (by omega)) | refine oN ?_ | refine oM ?_ ?_ | refine bM ?_ ?_ | refine dR ?_ | intro _))
          (conv => whnf)
          try simp only [Nat.reduceAdd, Nat.reduceSub]
          refine cF (leastOf_c F hF hf h12) [0, 1] Tryd.call23 ?_
          rintro v s hp
          obtain ⟨e1, n1, ff1, oo1, hA1, hO1⟩ := hp.split
          clear hp
          obtain ⟨rfl, _⟩ := ans_same hF hf h12 h0 hA hA1
          rcases hO1 with ⟨h, _⟩ | ⟨_, sp1, sq1, rfl, rfl⟩
          · exact absurd rfl h
          repeat' (first | exact rfl | ((conv => whnf); first | (refine qX (fun h => ?_) fun h => ?_ <;> try exact absurd h (by omega)) | refine oN ?_ | refine oM ?_ ?_ | refine bM ?_ ?_ | refine dR ?_ | intro _))
          (conv => whnf)
          try simp only [Nat.reduceAdd, Nat.reduceSub]
          refine callF (checkLeast_c G) [2, 3] Tryd.call22 rfl (by simp [gV]) (by simp [gV]) (by simp) ?_
          rw [h0']
          rintro _ _ ⟨rfl, rfl⟩
          repeat' (first | exact rfl | ((conv => whnf); first | (refine qX (fun h => ?_) fun h => ?_ <;> try exact absurd h (by omega)) | refine oN ?_ | refine oM ?_ ?_ | refine bM ?_ ?_ | refine dR ?_ | intro _))
          (conv => whnf)
          try simp only [Nat.reduceAdd, Nat.reduceSub]
          refine callF (leastOf_c G hG hf' h12') [2, 3] Tryd.call23 rfl (by simp [gV]) (by simp [gV]) (by simp) ?_
          rintro v s hp
          obtain ⟨e2, n2, ff2, oo2, hA2, hO2⟩ := hp.split
          clear hp
          obtain ⟨rfl, _⟩ := ans_same hG hf' h12' h0' hA' hA2
          rcases hO2 with ⟨_, rfl, rfl⟩ | ⟨h, _⟩
          · repeat' (first | exact rfl | ((conv => whnf); first | (refine qX (fun h => ?_) fun h => ?_ <;> try exact absurd h (by omega)) | refine oN ?_ | refine oM ?_ ?_ | refine bM ?_ ?_ | refine dR ?_ | intro _))
            all_goals try (exfalso; omega)
            (conv => whnf)
            try simp only [Nat.reduceAdd, Nat.reduceSub]
            refine cF (cB) [4] Tryd.call24 ?_
            rintro _ _ ⟨rfl, rfl⟩
            repeat' (first | exact rfl | ((conv => whnf); first | (refine qX (fun h => ?_) fun h => ?_ <;> try exact absurd h (by omega)) | refine oN ?_ | refine oM ?_ ?_ | refine bM ?_ ?_ | refine dR ?_ | intro _))
            (conv => whnf)
            exact ⟨[], [(4, tabO x)], 5, .b true, ⟨by rfl, trivial, by simp⟩, by simp, hfin⟩
          · exact absurd h he'
        · repeat' (first | exact rfl | ((conv => whnf); first | (refine qX (fun h => ?_) fun h => ?_ <;> try exact absurd h (by omega)) | refine oN ?_ | refine oM ?_ ?_ | refine bM ?_ ?_ | refine dR ?_ | intro _))
          (conv => whnf)
          try simp only [Nat.reduceAdd, Nat.reduceSub]
          refine cF (checkLeast_c F) [0, 1] Tryd.call22 ?_
          rw [h0]
          rintro _ _ ⟨rfl, rfl⟩
          repeat' (first | exact rfl | ((conv => whnf); first | (refine qX (fun h => ?_) fun h => ?_ <;> try exact absurd h (by omega)) | refine oN ?_ | refine oM ?_ ?_ | refine bM ?_ ?_ | refine dR ?_ | intro _))
          (conv => whnf)
          try simp only [Nat.reduceAdd, Nat.reduceSub]
          refine cF (leastOf_c F hF hf h12) [0, 1] Tryd.call23 ?_
          rintro v s hp
          obtain ⟨e1, n1, ff1, oo1, hA1, hO1⟩ := hp.split
          clear hp
          obtain ⟨rfl, _⟩ := ans_same hF hf h12 h0 hA hA1
          rcases hO1 with ⟨h, _⟩ | ⟨_, sp1, sq1, rfl, rfl⟩
          · exact absurd rfl h
          repeat' (first | exact rfl | ((conv => whnf); first | (refine qX (fun h => ?_) fun h => ?_ <;> try exact absurd h (by omega)) | refine oN ?_ | refine oM ?_ ?_ | refine bM ?_ ?_ | refine dR ?_ | intro _))
          (conv => whnf)
          try simp only [Nat.reduceAdd, Nat.reduceSub]
          refine callF (checkLeast_c G) [2, 3] Tryd.call22 rfl (by simp [gV]) (by simp [gV]) (by simp) ?_
          rw [h0']
          rintro _ _ ⟨rfl, rfl⟩
          repeat' (first | exact rfl | ((conv => whnf); first | (refine qX (fun h => ?_) fun h => ?_ <;> try exact absurd h (by omega)) | refine oN ?_ | refine oM ?_ ?_ | refine bM ?_ ?_ | refine dR ?_ | intro _))
          (conv => whnf)
          try simp only [Nat.reduceAdd, Nat.reduceSub]
          refine callF (leastOf_c G hG hf' h12') [2, 3] Tryd.call23 rfl (by simp [gV]) (by simp [gV]) (by simp) ?_
          rintro v s hp
          obtain ⟨e2, n2, ff2, oo2, hA2, hO2⟩ := hp.split
          clear hp
          obtain ⟨rfl, _⟩ := ans_same hG hf' h12' h0' hA' hA2
          rcases hO2 with ⟨h, _⟩ | ⟨_, sp2, sq2, rfl, rfl⟩
          · exact absurd rfl h
          have hsw := fun V V' hV hV' W vs par sym (hw : WSt V W vs par sym W.length 1) Y ys par' sym' (hw' : WSt V' Y ys par' sym' Y.length 1) => same_words hA h0 hA' h0' hV hV' hw hw'
          have hDF := fun V (hV : IsUs F V) => (show ∃ st, DetH F V st from let ⟨st, hD, _⟩ := hA.to h0 hV; ⟨st, hD⟩)
          have hDG := fun V (hV : IsUs G V) => (show ∃ st, DetH G V st from let ⟨st, hD, _⟩ := hA'.to h0' hV; ⟨st, hD⟩)
          have hmF := fun V (hV : IsUs F V) W vs par sym i c (hw : WSt V W vs par sym i c) => hA.many h0 hV hw
          have hmG := fun V (hV : IsUs G V) W vs par sym i c (hw : WSt V W vs par sym i c) => hA'.many h0' hV hw
          generalize decide (n = n' ∧ ff = ff' ∧ oo = oo') = r at *
          clear hA hA' hA1 hA2
          repeat' (first | exact rfl | ((conv => whnf); first | (refine qX (fun h => ?_) fun h => ?_ <;> try exact absurd h (by omega)) | refine oN ?_ | refine oM ?_ ?_ | refine bM ?_ ?_ | refine dR ?_ | intro _))
          (conv => whnf)
          try simp only [Nat.reduceAdd, Nat.reduceSub]
          refine cF (wordsOf_c F (WOk.of hF) hF.st.2 hF.start) [0, 1] Tryd.call17 ?_
          rintro _ _ ⟨V, W, vs, par, sym, i, c, ok, rows, m, spU, sqU, sr, sp, sy, hV, hcF, hcA, hW, htab, hcase, rfl, rfl⟩
          rcases hcase with ⟨rfl, hWl, rfl, rfl⟩ | ⟨rfl, h1⟩
          · repeat' (first | exact rfl | ((conv => whnf); first | (refine qX (fun h => ?_) fun h => ?_ <;> try exact absurd h (by omega)) | refine oN ?_ | refine oM ?_ ?_ | refine bM ?_ ?_ | refine dR ?_ | intro _))
            (conv => whnf)
            try simp only [Nat.reduceAdd, Nat.reduceSub]
            refine callF (wordsOf_c G (WOk.of hG) hG.st.2 hG.start) [2, 3] Tryd.call17 rfl (by simp [gV]) (by simp [gV]) (by simp) ?_
            rintro _ _ ⟨V', Y, ys, par', sym', i', c', ok', rows', m', spV, sqV, sr', sp', sy', hV', hcF', hcA', hY, htab', hcase, rfl, rfl⟩
            rcases hcase with ⟨rfl, hYl, rfl, rfl⟩ | ⟨rfl, h1⟩
            · repeat' (first | exact rfl | ((conv => whnf); first | (refine qX (fun h => ?_) fun h => ?_ <;> try exact absurd h (by omega)) | refine oN ?_ | refine oM ?_ ?_ | refine bM ?_ ?_ | refine dR ?_ | intro _))
              (conv => whnf)
              try simp only [Nat.reduceAdd, Nat.reduceSub]
              obtain ⟨st, hD⟩ := hDF V hV
              obtain ⟨st', hD'⟩ := hDG V' hV'
              have hr := hsw V V' hV hV' W vs par sym hW Y ys par' sym' hY
              have cS := sameWords_c V (hV.fok hF) hD.hU W vs rows m par sym (rows.length + sr) (par.length + sp) (sym.length + sy) hW (by omega) htab V' (hV'.fok hG) hD'.hU Y ys rows' m' par' sym' (rows'.length + sr') (par'.length + sp') (sym'.length + sy') hY (by omega) htab'
                (fun j hj => by have := end_bd hD h12 hW hj; omega) (fun j hj => by have := end_bd hD' h12' hY hj; omega)
              rw [hr] at cS
              clear hsw hmF hmG hDF hDG hr hD hD'
              refine cF (cS) [11, 12, 13, 14, 15, 16, 18, 19, 20, 21, 22, 23] Tryd.call27 ?_
              rintro _ _ ⟨rfl, rfl⟩
              repeat' (first | exact rfl | ((conv => whnf); first | (refine qX (fun h => ?_) fun h => ?_ <;> try exact absurd h (by omega)) | refine oN ?_ | refine oM ?_ ?_ | refine bM ?_ ?_ | refine dR ?_ | intro _))
              (conv => whnf)
              try simp only [Nat.reduceAdd, Nat.reduceSub]
              refine cF (cB) [4] Tryd.call24 ?_
              rintro _ _ ⟨rfl, rfl⟩
              cases r
              all_goals
                repeat' (first | exact rfl | ((conv => whnf); first | (refine qX (fun h => ?_) fun h => ?_ <;> try exact absurd h (by omega)) | refine oN ?_ | refine oM ?_ ?_ | refine bM ?_ ?_ | refine dR ?_ | intro _))
                (conv => whnf)
                exact ⟨[], [(4, tabO x)], 5, .b true, ⟨by rfl, trivial, by simp⟩, by simp, hfin⟩
            · exact absurd h1 (hmG V' hV' Y ys par' sym' i' c' hY)
          · exact absurd h1 (hmF V hV W vs par sym i c hW)
      · rcases hA' with ⟨_, rfl⟩ | ⟨h, _⟩
        · rcases hR with ⟨_, rfl⟩ | ⟨h, _⟩
          · repeat' (first | exact rfl | ((conv => whnf); first | (refine qX (fun h => ?_) fun h => ?_ <;> try exact absurd h (by omega)) | refine oN ?_ | refine oM ?_ ?_ | refine bM ?_ ?_ | refine dR ?_ | intro _))
            (conv => whnf)
            try simp only [Nat.reduceAdd, Nat.reduceSub]
            refine cF (checkLeast_c F) [0, 1] Tryd.call22 ?_
            rw [h0]
            rintro _ _ ⟨rfl, rfl⟩
            repeat' (first | exact rfl | ((conv => whnf); first | (refine qX (fun h => ?_) fun h => ?_ <;> try exact absurd h (by omega)) | refine oN ?_ | refine oM ?_ ?_ | refine bM ?_ ?_ | refine dR ?_ | intro _))
            (conv => whnf)
            try simp only [Nat.reduceAdd, Nat.reduceSub]
            refine cF (leastOf_c F hF hf h12) [0, 1] Tryd.call23 ?_
            rintro v s hp
            obtain ⟨e1, n1, ff1, oo1, hA1, hO1⟩ := hp.split
            clear hp
            obtain ⟨rfl, _⟩ := ans_same hF hf h12 h0 hA hA1
            rcases hO1 with ⟨h, _⟩ | ⟨_, sp1, sq1, rfl, rfl⟩
            · exact absurd rfl h
            repeat' (first | exact rfl | ((conv => whnf); first | (refine qX (fun h => ?_) fun h => ?_ <;> try exact absurd h (by omega)) | refine oN ?_ | refine oM ?_ ?_ | refine bM ?_ ?_ | refine dR ?_ | intro _))
            (conv => whnf)
            try simp only [Nat.reduceAdd, Nat.reduceSub]
            refine callF (checkLeast_c G) [2, 3] Tryd.call22 rfl (by simp [gV]) (by simp [gV]) (by simp) ?_
            rintro _ _ ⟨rfl, rfl⟩
            repeat' (first | exact rfl | ((conv => whnf); first | (refine qX (fun h => ?_) fun h => ?_ <;> try exact absurd h (by omega)) | refine oN ?_ | refine oM ?_ ?_ | refine bM ?_ ?_ | refine dR ?_ | intro _))
            all_goals try (exfalso; omega)
            (conv => whnf)
            try simp only [Nat.reduceAdd, Nat.reduceSub]
            refine cF (cB) [4] Tryd.call24 ?_
            rintro _ _ ⟨rfl, rfl⟩
            repeat' (first | exact rfl | ((conv => whnf); first | (refine qX (fun h => ?_) fun h => ?_ <;> try exact absurd h (by omega)) | refine oN ?_ | refine oM ?_ ?_ | refine bM ?_ ?_ | refine dR ?_ | intro _))
            (conv => whnf)
            exact ⟨[], [(4, tabO x)], 5, .b true, ⟨by rfl, trivial, by simp⟩, by simp, hfin⟩
          · exact absurd h h0'
        · exact absurd h h0'
  · rcases hA with ⟨_, rfl⟩ | ⟨h, _⟩
    · rcases hR with ⟨_, rfl⟩ | ⟨h, _⟩
      · repeat' (first | exact rfl | ((conv => whnf); first | (refine qX (fun h => ?_) fun h => ?_ <;> try exact absurd h (by omega)) | refine oN ?_ | refine oM ?_ ?_ | refine bM ?_ ?_ | refine dR ?_ | intro _))
        (conv => whnf)
        try simp only [Nat.reduceAdd, Nat.reduceSub]
        refine cF (checkLeast_c F) [0, 1] Tryd.call22 ?_
        rintro _ _ ⟨rfl, rfl⟩
        repeat' (first | exact rfl | ((conv => whnf); first | (refine qX (fun h => ?_) fun h => ?_ <;> try exact absurd h (by omega)) | refine oN ?_ | refine oM ?_ ?_ | refine bM ?_ ?_ | refine dR ?_ | intro _))
        all_goals try (exfalso; omega)
        (conv => whnf)
        try simp only [Nat.reduceAdd, Nat.reduceSub]
        refine cF (cB) [4] Tryd.call24 ?_
        rintro _ _ ⟨rfl, rfl⟩
        repeat' (first | exact rfl | ((conv => whnf); first | (refine qX (fun h => ?_) fun h => ?_ <;> try exact absurd h (by omega)) | refine oN ?_ | refine oM ?_ ?_ | refine bM ?_ ?_ | refine dR ?_ | intro _))
        (conv => whnf)
        exact ⟨[], [(4, tabO x)], 5, .b true, ⟨by rfl, trivial, by simp⟩, by simp, hfin⟩
      · exact absurd h h0
    · exact absurd h h0
end Go.Fw
