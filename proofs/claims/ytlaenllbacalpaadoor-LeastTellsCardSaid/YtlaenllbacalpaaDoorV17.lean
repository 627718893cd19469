/- Walks of the functions: what each computes. -/
import Derived.Test.YtlaenllbacalpaaDoorV16
import Derived.Test.YtlaenllbacalpaaDoorV09
import Derived.Test.YtlaenllbacalpaaDoorV13
import Derived.Test.YtlaenllbacalpaaDoorV14
import Derived.Test.YtlaenllbacalpaaDoorV15

set_option linter.unusedSimpArgs false
set_option linter.unusedVariables false

namespace Go.Fw
open Go Go.Proofs

theorem Tab2.congr {m : List (Addr × List Int × Nat)} {rows : List Sli} {N : Nat} {L L' : Nat → List Int} (h : Tab2 m rows N L) (he : ∀ j, j < N → L j = L' j) : Tab2 m rows N L' :=
  ⟨h.len, h.hd, fun j hj => by rw [← he j hj]; exact h.row j hj, h.dist⟩
theorem Tab2.push {m m' : List (Addr × List Int × Nat)} {rows : List Sli} {vs : List (List Int)} {xs : List Int} {sp : Nat} {y : Sli} (h : Tab2 m rows vs.length (fun j => vs.getD j [])) (hf : Frz m xs sp xs.length (xs.length + sp) m' y) (hx : xs ≠ []) :
    Tab2 m' (rows ++ [y]) (vs ++ [xs]).length (fun j => (vs ++ [xs]).getD j []) := by
  cases hf with
  | nil h => exact absurd h hx
  | @own a ha hb =>
    have hlen := h.len
    have hl : lkA ((a, xs, sp) :: m) a = some (xs, sp) := by simp [lkA]
    have hko : ∀ b, b ≠ a → lkA ((a, xs, sp) :: m) b = lkA m b := fun b hb => by simp only [lkA, if_neg (fun e => hb (e.symm) : ¬ a = b)]
    have hna : ∀ j, j < vs.length → (rows.getD j EK.sli.dflt).a ≠ some a := fun j hj e => by
      obtain ⟨y, g1, _⟩ := (h.hd j hj).some e
      rw [ha] at g1; cases g1
    have hkeep := h.keep (m' := (a, xs, sp) :: m) fun j b hj hb => hko b fun e => hna j hj (e ▸ hb)
    refine ⟨by simp [hlen], fun j hj => ?_, fun j hj => ?_, fun s t b h1 h2 h3 => ?_⟩
    · rw [snoc_getD]
      by_cases e : j = rows.length
      · rw [if_pos e]; exact Hd.of_some rfl hl rfl (Nat.le_refl _)
      · rw [if_neg e]; exact hkeep.hd j (by simp at hj; omega)
    · rw [snoc_getD, snoc_getD]
      by_cases e : j = rows.length
      · rw [if_pos e, if_pos (by omega)]; exact rowA_some hl
      · rw [if_neg e, if_neg (by omega)]; exact hkeep.row j (by simp at hj; omega)
    · rw [snoc_getD, snoc_getD]
      simp only [List.length_append, List.length_singleton] at h1 h2
      by_cases e : s = rows.length <;> by_cases e2 : t = rows.length
      · omega
      · rw [if_pos e, if_neg e2]
        intro q
        cases q
        exact hna t (by omega)
      · rw [if_neg e, if_pos e2]
        intro q1 q2
        cases q2
        exact hna s (by omega) q1
      · rw [if_neg e, if_neg e2]; exact h.dist s t b (by omega) (by omega) h3

/-- Where all is to be -1. -/
def iniV (n k : Nat) : List Int := List.replicate k (-1) ++ List.replicate (n - k) 0
theorem iniV_len {n k : Nat} (h : k ≤ n) : (iniV n k).length = n := by simp [iniV]; omega
theorem iniV_set {n k : Nat} (h : k < n) : (iniV n k).set k (-1) = iniV n (k + 1) := by
  unfold iniV
  rw [List.set_append_right _ _ (by simp), List.length_replicate, Nat.sub_self]
  obtain ⟨m, hm⟩ : ∃ m, n - k = m + 1 := ⟨n - k - 1, by omega⟩
  rw [hm, show n - (k + 1) = m by omega, List.replicate_succ, List.set_cons_zero, List.replicate_succ', List.append_assoc]
  rfl
theorem iniV_end (n : Nat) : iniV n n = List.replicate n (-1) := by simp [iniV]

theorem begun_vec {U : TF} (hs : 0 ≤ U.start ∧ U.start < U.st) : VecOk U [] (begun U) := by
  refine ⟨by simp [begun], fun q hq => ?_⟩
  have e : (begun U).getD q 0 = if (q : Int) = U.start then 0 else -1 := by
    simp [begun, List.getD, hq, begF]
  rw [e]
  by_cases h : (q : Int) = U.start
  · rw [if_pos h]
    refine .inr ⟨Int.le_refl _, by rw [h]; exact .nil _, fun c hc => ?_⟩
    have := (hc.none rfl).2
    omega
  · rw [if_neg h]
    refine .inl ⟨rfl, fun c hc => h ?_⟩
    exact (hc.none rfl).1

/-- The words, told. -/
def WordsPost (F : TF) (v : SV) (s : S) : Prop := ∃ (U : TF) (W vs : List (List Int)) (par sym : List Int) (i : Nat) (c : Int) (ok : Bool) (rows : List Sli) (m : List (Addr × List Int × Nat)) (spU sqU sr sp sy : Nat),
  IsUs F U ∧ U.capF = U.fin.length + spU ∧ U.capA = U.arcs.length + sqU ∧ WSt U W vs par sym i c ∧ Tab2 m rows vs.length (fun j => vs.getD j []) ∧ (ok = true ∧ W.length ≤ 200 ∧ i = W.length ∧ c = 1 ∨ ok = false ∧ W.length = 201) ∧
  v = .tup [.agg (cWo U 2 3 4 6 7 rows.length (rows.length + sr) par.length (par.length + sp) sym.length (sym.length + sy)), .c (.b ok)] ∧
  s = ⟨[], [(2, .arr true 3 .int U.fin spU), (3, .arr true 50 .arc U.arcs sqU), (4, .arr true 22 .sli rows sr), (5, .pool 3 .int m), (6, .arr true 3 .int par sp), (7, .arr true 3 .int sym sy)], 8⟩

/-- What goes round. -/
structure WZ where
  W : List (List Int)
  vs : List (List Int)
  par : List Int
  sym : List Int
  rows : List Sli
  m : List (Addr × List Int × Nat)
  sr : Nat
  sp : Nat
  sy : Nat
structure WOkZ (U : TF) (z : WZ) (i : Nat) (c : Int) : Prop where
  st : WSt U z.W z.vs z.par z.sym i c
  tab : Tab2 z.m z.rows z.vs.length (fun j => z.vs.getD j [])
  len : z.W.length ≤ 200

set_option maxHeartbeats 16000000 in
set_option maxRecDepth 20000 in
theorem wordsOf_c (F : TF) (hF : WOk F) (hF2 : F.st ≤ 200) (hs : 0 ≤ F.start ∧ F.start < F.st) :
    Ct Tryd.prog 17 [fV F] [] (hpF F) 2 (WordsPost F) := by
  refine ctC Tryd.tyOk Tryd.func17 (c := Tryd.f17.body.getD .skip) rfl (by simp) (by simp) (fr := [(0, fV F)]) rfl ?_
  refine wordsA F hF hF2 hs fun U spU sqU rows m sr sp sy hus hcF hcA htab => ?_
  obtain ⟨hUw, hUs, hUst⟩ := hus.ok hF hs
  have hU0 := hUw.st
  have hUl := hUw.finl
  have hUa := hUw.arcl
  have hV0 := begun_vec hUs
  have hUr : ∀ a ∈ U.arcs, (0 ≤ a.f ∧ a.f < U.st) ∧ (0 ≤ a.t ∧ a.t < U.st) ∧ 0 ≤ a.w ∧ a.w ≤ 1000000000 := fun a ha => by
    have := hUw.arc a ha
    have := hUw.w a ha
    omega
  have hz0 : WOkZ U ⟨[[]], [begun U], [-1], [0], rows, m, sr, sp, sy⟩ 0 1 := ⟨WSt.start hV0, htab.congr fun j hj => by rw [show j = 0 by omega]; rfl, by simp⟩
  refine SemC.of Tryd.tyOk 12 [] ?_
  repeat' (first | exact rfl | ((conv => whnf); first | (refine qX (fun h => ?_) fun h => ?_ <;> try exact absurd h (by omega)) | refine oN ?_ | refine oM ?_ ?_ | refine bM ?_ ?_ | refine dR ?_))
  (conv => whnf)
  refine loopI (fun z : Nat × WZ => ⟨[(1, .c (.ptr 2 0)), (2, .c (.ptr 3 0)), (4, .c (.ptr 4 0)), (5, .i z.1)], hpWo F U spU sqU z.2.rows z.2.m z.2.par z.2.sym z.2.sr z.2.sp z.2.sy, 11⟩)
    (fun z => z.1 ≤ z.2.W.length ∧ WOkZ U z.2 z.1 1) (fun z => 200 - z.1) (0, ⟨[[]], [begun U], [-1], [0], rows, m, sr, sp, sy⟩) [] ⟨by rfl, ?_, ?_⟩ ⟨Nat.zero_le _, hz0⟩ ?_
  · simp
  · simp [fCells]
  · clear hz0 htab rows m sr sp sy
    rintro ⟨i, z⟩ ⟨hi, hz⟩
    simp only at hi hz ⊢
    have hrl := hz.tab.len
    have hlv := hz.st.lv
    have hlp := hz.st.lp
    have hls := hz.st.ls
    have hle := hz.len
    obtain ⟨W, vs, par, sym, rows, m, sr, sp, sy⟩ := z
    simp only at hi hrl hlv hlp hls hle ⊢
    (conv => whnf)
    refine condP_dec (fun hi2 => ?_) (fun hi2 => ?_)
    · repeat' (first | exact rfl | ((conv => whnf); first | (refine qX (fun h => ?_) fun h => ?_ <;> try exact absurd h (by omega)) | refine oN ?_ | refine oM ?_ ?_ | refine bM ?_ ?_ | refine dR ?_))
      (conv => whnf)
      refine loopI (fun z : Nat × WZ => ⟨[(1, .c (.ptr 2 0)), (2, .c (.ptr 3 0)), (4, .c (.ptr 4 0)), (5, .i i), (6, .i z.1)], hpWo F U spU sqU z.2.rows z.2.m z.2.par z.2.sym z.2.sr z.2.sp z.2.sy, 11⟩)
        (fun z => (1 ≤ z.1 ∧ z.1 ≤ 10) ∧ i < z.2.W.length ∧ WOkZ U z.2 i (z.1 : Nat)) (fun z => 10 - z.1) (1, ⟨W, vs, par, sym, rows, m, sr, sp, sy⟩) [] ⟨by rfl, ?_, ?_⟩ ⟨by simp, by simp only; omega, hz⟩ ?_
      · simp
      · simp [fCells]
      · clear hz hi hrl hlv hlp hls hle hi2 W vs par sym rows m sr sp sy
        rintro ⟨c, z⟩ ⟨hc, hi, hz⟩
        simp only at hc hi hz ⊢
        have hrl := hz.tab.len
        have hlv := hz.st.lv
        have hlp := hz.st.lp
        have hls := hz.st.ls
        have hle := hz.len
        obtain ⟨W, vs, par, sym, rows, m, sr, sp, sy⟩ := z
        simp only at hi hrl hlv hlp hls hle ⊢
        (conv => whnf)
        refine condP_dec (fun hc2 => ?_) (fun hc2 => ?_)
        · repeat' (first | exact rfl | ((conv => whnf); first | (refine qX (fun h => ?_) fun h => ?_ <;> try exact absurd h (by omega)) | refine oN ?_ | refine oM ?_ ?_ | refine bM ?_ ?_ | refine dR ?_))
          (conv => whnf)
          refine loopI (fun n : Nat => ⟨[(1, .c (.ptr 2 0)), (2, .c (.ptr 3 0)), (4, .c (.ptr 4 0)), (5, .i i), (6, .i c), (7, .c (.sl 11 1 0 U.st.toNat U.st.toNat)), (8, .b false), (9, .i n)], hpWo F U spU sqU rows m par sym sr sp sy ++ [(11, .arr true 3 .int (iniV U.st.toNat n) 0)], 12⟩)
            (fun n => n ≤ U.st.toNat) (fun n => U.st.toNat - n) 0 [] ⟨by rfl, ?_, ?_⟩ (Nat.zero_le _) ?_
          · simp
          · simp [fCells, iniV, EK.dflt]
          · intro n hn
            have hnl := iniV_len hn
            (conv => whnf)
            refine condP_dec (fun hn2 => ?_) (fun hn2 => ?_)
            · have hns := iniV_set (show n < U.st.toNat by omega)
              repeat' (first | exact rfl | ((conv => whnf); first | (refine qX (fun h => ?_) fun h => ?_ <;> try exact absurd h (by omega)) | refine oN ?_ | refine oM ?_ ?_ | refine bM ?_ ?_ | refine dR ?_))
              (conv => whnf)
              refine ⟨n + 1, [], ⟨by rfl, ?_, ?_⟩, by omega, by omega⟩
              · simp
              · simp [fCells, hns]
            · have e : n = U.st.toNat := by omega
              subst e
              rw [iniV_end]
              have hvi := hz.st.vec i hi
              have hrow := hz.tab.row i (by simp only; omega)
              have hvd := hvi.bd hUr
              have hwl := hz.st.wl i hi
              have hin := (hz.tab.hd i (by simp only; omega)).len
              have hvl := hvi.len
              have e0 : 0 + (i : Int).toNat = i := by omega
              simp only at hrow hin hvi hvl hvd hwl
              rw [hrow] at hin
              generalize hVe : vs.getD i [] = V at *
              rw [hvl, ← e0] at hin
              rw [← e0] at hrow
              have hr1 : (rowA m (rows.getD (0 + (i : Int).toNat) EK.sli.dflt).a).length = U.st.toNat := by rw [hrow, hvl]
              repeat' (first | exact rfl | ((conv => whnf); first | (refine qX (fun h => ?_) fun h => ?_ <;> try exact absurd h (by omega)) | refine oN ?_ | refine oM ?_ ?_ | refine bM ?_ ?_ | refine dR ?_))
              (conv => whnf)
              refine loopI (fun k : Nat => ⟨[(1, .c (.ptr 2 0)), (2, .c (.ptr 3 0)), (4, .c (.ptr 4 0)), (5, .i i), (6, .i c), (7, .c (.sl 11 1 0 U.st.toNat U.st.toNat)), (8, .b (nvA U.arcs V c k)), (10, .i k)], hpWo F U spU sqU rows m par sym sr sp sy ++ [(11, .arr true 3 .int (nvL U.arcs V c U.st.toNat k) 0)], 12⟩)
                (fun k => k ≤ U.arcs.length) (fun k => U.arcs.length - k) 0 [] ⟨by rfl, ?_, ?_⟩ (Nat.zero_le _) ?_
              · simp [nvA]
              · simp [fCells, nvL]
              · intro k hk
                have hnl := nvL_len U.arcs V c U.st.toNat k
                have hks : nvL U.arcs V c U.st.toNat (k + 1) = if nvB V c (U.arcs.getD k aD) = true then (nvL U.arcs V c U.st.toNat k).set (U.arcs.getD k aD).t.toNat (less ((nvL U.arcs V c U.st.toNat k).getD (U.arcs.getD k aD).t.toNat 0) (V.getD (U.arcs.getD k aD).f.toNat 0 + (U.arcs.getD k aD).w)) else nvL U.arcs V c U.st.toNat k := rfl
                have hka : nvA U.arcs V c (k + 1) = if nvB V c (U.arcs.getD k aD) = true then true else nvA U.arcs V c k := rfl
                (conv => whnf)
                refine condP_dec (fun hk2 => ?_) (fun hk2 => ?_)
                · have ek : 0 + (k : Int).toNat = k := by omega
                  have hb := hUr _ (getD_mem U.arcs k aD (by omega))
                  have hbb : nvB V c (U.arcs.getD k aD) = ((U.arcs.getD k aD).i == c && decide (0 ≤ V.getD (U.arcs.getD k aD).f.toNat 0)) := rfl
                  generalize hax : U.arcs.getD k aD = ax at *
                  have hax2 : U.arcs.getD (0 + (k : Int).toNat) EK.arc.dflt = ax := by rw [← hax, ek]; rfl
                  generalize hnv : nvL U.arcs V c U.st.toNat k = nv at *
                  rw [← hax2] at hb
                  have hv3 : -1 ≤ (rowA m (rows.getD (0 + (i : Int).toNat) EK.sli.dflt).a).getD (U.arcs.getD (0 + (k : Int).toNat) EK.arc.dflt).f.toNat EK.int.dflt ∧ (rowA m (rows.getD (0 + (i : Int).toNat) EK.sli.dflt).a).getD (U.arcs.getD (0 + (k : Int).toNat) EK.arc.dflt).f.toNat EK.int.dflt ≤ 1000000000 * 200 := by
                    rw [hrow]
                    have h9 : -1 ≤ V.getD (U.arcs.getD (0 + (k : Int).toNat) EK.arc.dflt).f.toNat 0 ∧ V.getD (U.arcs.getD (0 + (k : Int).toNat) EK.arc.dflt).f.toNat 0 ≤ 1000000000 * 200 := by
                      have := hvd (U.arcs.getD (0 + (k : Int).toNat) EK.arc.dflt).f.toNat
                      omega
                    exact h9
                  repeat' (first | exact rfl | ((conv => whnf); first | (refine qX (fun h => ?_) fun h => ?_ <;> try exact absurd h (by omega)) | refine oN ?_ | refine oM ?_ ?_ | refine bM ?_ ?_ | refine dR ?_))
                  · have hy : nvB V c ax = true := by
                      rename_i g
                      rw [hbb, ← hax2, g, beq_self_eq_true, Bool.true_and, decide_eq_true_eq]
                      rw [hrow] at h
                      exact h
                    rw [if_pos hy] at hks hka
                    (conv => whnf)
                    refine cF (less_c (nv.getD (0 + (U.arcs.getD (0 + (k : Int).toNat) EK.arc.dflt).t.toNat) EK.int.dflt) ((rowA m (rows.getD (0 + (i : Int).toNat) EK.sli.dflt).a).getD (U.arcs.getD (0 + (k : Int).toNat) EK.arc.dflt).f.toNat EK.int.dflt + (U.arcs.getD (0 + (k : Int).toNat) EK.arc.dflt).w)) [] Tryd.call41 ?_
                    rintro _ _ ⟨rfl, rfl⟩
                    repeat' (first | exact rfl | ((conv => whnf); first | (refine qX (fun h => ?_) fun h => ?_ <;> try exact absurd h (by omega)) | refine oN ?_ | refine oM ?_ ?_ | refine bM ?_ ?_ | refine dR ?_))
                    (conv => whnf)
                    refine ⟨k + 1, [], ⟨by rfl, ?_, ?_⟩, by omega, by omega⟩
                    · simp [hka]
                    · simp [fCells]
                      rw [hks, ← hax2, ← hrow]
                      simp [e0, ek, EK.dflt]
                  · have hy : nvB V c ax = false := by
                      rename_i g
                      rw [hbb, ← hax2, g, beq_self_eq_true, Bool.true_and, decide_eq_false_iff_not]
                      rw [hrow] at h
                      exact h
                    rw [hy, if_neg (by simp)] at hks hka
                    (conv => whnf)
                    refine ⟨k + 1, [], ⟨by rfl, ?_, ?_⟩, by omega, by omega⟩
                    · simp [hka]
                    · simp [fCells, hks]
                  · have hy : nvB V c ax = false := by
                      rw [hbb, ← hax2, beq_eq_false_iff_ne.2 h, Bool.false_and]
                    rw [hy, if_neg (by simp)] at hks hka
                    (conv => whnf)
                    refine ⟨k + 1, [], ⟨by rfl, ?_, ?_⟩, by omega, by omega⟩
                    · simp [hka]
                    · simp [fCells, hks]
                · have e : k = U.arcs.length := by omega
                  subst e
                  have hstep := hvi.step hUr c
                  have hany := hvi.any hUr c
                  have hne : nvL U.arcs V c U.st.toNat U.arcs.length ≠ [] := fun e => by
                    rw [e] at hnl
                    simp at hnl
                    omega
                  generalize nvL U.arcs V c U.st.toNat U.arcs.length = nv at *
                  generalize nvA U.arcs V c U.arcs.length = na at *
                  cases na with
                  | false =>
                    repeat' (first | exact rfl | ((conv => whnf); first | (refine qX (fun h => ?_) fun h => ?_ <;> try exact absurd h (by omega)) | refine oN ?_ | refine oM ?_ ?_ | refine bM ?_ ?_ | refine dR ?_))
                    (conv => whnf)
                    refine ⟨(c + 1, ⟨W, vs, par, sym, rows, m, sr, sp, sy⟩), [], ⟨by rfl, ?_, ?_⟩, ⟨by simp only; omega, hi, ⟨hz.st.skip (fun hb => (by have := hany.2 hb; cases this)), hz.tab, hz.len⟩⟩, by simp only; omega⟩
                    · simp
                    · simp [fCells]
                  | true =>
                    have hpu : WSt U (W ++ [W.getD i [] ++ [(c : Int)]]) (vs ++ [nv]) (par ++ [(i : Int)]) (sym ++ [(c : Int)]) i ((c : Int) + 1) := hz.st.push hi (by omega) hstep (hany.1 rfl)
                    repeat' (first | exact rfl | ((conv => whnf); first | (refine qX (fun h => ?_) fun h => ?_ <;> try exact absurd h (by omega)) | refine oN ?_ | refine oM ?_ ?_ | refine bM ?_ ?_))
                    (conv => whnf)
                    refine drawCut (fun z : List Sli × List (Addr × List Int × Nat) × Nat × Nat × Nat => ⟨[(1, .c (.ptr 2 0)), (2, .c (.ptr 3 0)), (4, .c (.ptr 4 0)), (5, .i i), (6, .i c)], hpWo F U spU sqU z.1 z.2.1 (par ++ [(i : Int)]) (sym ++ [(c : Int)]) z.2.2.1 z.2.2.2.1 z.2.2.2.2, 11⟩)
                      (fun z => Tab2 z.2.1 z.1 (vs ++ [nv]).length (fun j => (vs ++ [nv]).getD j [])) ?_ ?_
                    · repeat' (first | exact rfl | ((conv => whnf); first | (refine qX (fun h => ?_) fun h => ?_ <;> try exact absurd h (by omega)) | refine oN ?_ | refine oM ?_ ?_ | refine bM ?_ ?_ | refine dR ?_ | intro _))
                      all_goals
                        first
                        | exact trivial
                        | (
                          (conv => whnf)
                          simp only [Nat.reduceAdd, Nat.reduceSub]
                          rename_i m' y hfz q1 q2 q3
                          have htab := hz.tab.push (by rw [hnl]; exact hfz) hne
                          first
                          | (refine ⟨(rows ++ [y], m', q1, q2, q3), [(7, some 13), (9, some 15), (10, some 17)], ⟨by rfl, ?_, ?_⟩, htab⟩; (focus (simp; done)); (focus (simp [fCells, app_one]; done)))
                          | (refine ⟨(rows ++ [y], m', q1, q2, q3), [(7, some 13), (9, some 16), (10, some 17)], ⟨by rfl, ?_, ?_⟩, htab⟩; (focus (simp; done)); (focus (simp [fCells, app_one]; done)))
                          | (refine ⟨(rows ++ [y], m', q1, q2, q3), [(7, some 14), (9, some 15), (10, some 17)], ⟨by rfl, ?_, ?_⟩, htab⟩; (focus (simp; done)); (focus (simp [fCells, app_one]; done)))
                          | (refine ⟨(rows ++ [y], m', q1, q2, q3), [(7, some 14), (9, some 16), (10, some 17)], ⟨by rfl, ?_, ?_⟩, htab⟩; (focus (simp; done)); (focus (simp [fCells, app_one]; done)))
                          | (refine ⟨(rows ++ [y], m', q1, q2, q3), [(7, some 15), (9, some 16), (10, some 17)], ⟨by rfl, ?_, ?_⟩, htab⟩; (focus (simp; done)); (focus (simp [fCells, app_one]; done))))
                    · rintro ⟨rows2, m2, sr2, sp2, sy2⟩ htab2
                      simp only at htab2 ⊢
                      have hr2 := htab2.len
                      simp only [List.length_append, List.length_singleton] at hr2
                      repeat' (first | exact rfl | ((conv => whnf); first | (refine qX (fun h => ?_) fun h => ?_ <;> try exact absurd h (by omega)) | refine oN ?_ | refine oM ?_ ?_ | refine bM ?_ ?_ | refine dR ?_))
                      · (conv => whnf)
                        refine ⟨[(2, some 5), (3, some 6), (4, some 7), (5, some 8), (6, some 9), (7, some 10)], [(2, .arr true 3 .int U.fin spU), (3, .arr true 50 .arc U.arcs sqU), (4, .arr true 22 .sli rows2 sr2), (5, .pool 3 .int m2), (6, .arr true 3 .int (par ++ [(i : Int)]) sp2), (7, .arr true 3 .int (sym ++ [(c : Int)]) sy2)], 8, .tup [.agg (cWo U 2 3 4 6 7 rows2.length (rows2.length + sr2) (par ++ [(i : Int)]).length ((par ++ [(i : Int)]).length + sp2) (sym ++ [(c : Int)]).length ((sym ++ [(c : Int)]).length + sy2)), .c (.b false)], ⟨by rfl, trivial, by simp⟩, by simp, U, W ++ [W.getD i [] ++ [(c : Int)]], vs ++ [nv], par ++ [(i : Int)], sym ++ [(c : Int)], i, (c : Int) + 1, false, rows2, m2, spU, sqU, sr2, sp2, sy2, hus, hcF, hcA, hpu, htab2, .inr ⟨rfl, by rw [List.length_append, List.length_singleton]; omega⟩, rfl, rfl⟩
                      · (conv => whnf)
                        refine ⟨(c + 1, ⟨W ++ [W.getD i [] ++ [(c : Int)]], vs ++ [nv], par ++ [(i : Int)], sym ++ [(c : Int)], rows2, m2, sr2, sp2, sy2⟩), [], ⟨by rfl, ?_, ?_⟩, ⟨by simp only; omega, by simp only [List.length_append, List.length_singleton]; omega, ⟨hpu, htab2, by simp only [List.length_append, List.length_singleton]; omega⟩⟩, by simp only; omega⟩
                        · simp
                        · simp [fCells]
        · have e : c = 10 := by omega
          subst e
          repeat' (first | exact rfl | ((conv => whnf); first | (refine qX (fun h => ?_) fun h => ?_ <;> try exact absurd h (by omega)) | refine oN ?_ | refine oM ?_ ?_ | refine bM ?_ ?_ | refine dR ?_))
          (conv => whnf)
          refine ⟨(i + 1, ⟨W, vs, par, sym, rows, m, sr, sp, sy⟩), [], ⟨by rfl, ?_, ?_⟩, ⟨by simp only; omega, ⟨hz.st.next, hz.tab, hz.len⟩⟩, by simp only; omega⟩
          · simp
          · simp [fCells]
    · have e : i = W.length := by omega
      subst e
      repeat' (first | exact rfl | ((conv => whnf); first | (refine qX (fun h => ?_) fun h => ?_ <;> try exact absurd h (by omega)) | refine oN ?_ | refine oM ?_ ?_ | refine bM ?_ ?_ | refine dR ?_))
      (conv => whnf)
      refine ⟨[(2, some 5), (3, some 6), (4, some 7), (5, some 8), (6, some 9), (7, some 10)], [(2, .arr true 3 .int U.fin spU), (3, .arr true 50 .arc U.arcs sqU), (4, .arr true 22 .sli rows sr), (5, .pool 3 .int m), (6, .arr true 3 .int par sp), (7, .arr true 3 .int sym sy)], 8, .tup [.agg (cWo U 2 3 4 6 7 rows.length (rows.length + sr) par.length (par.length + sp) sym.length (sym.length + sy)), .c (.b true)], ⟨by rfl, trivial, by simp⟩, by simp, U, W, vs, par, sym, W.length, 1, true, rows, m, spU, sqU, sr, sp, sy, hus, hcF, hcA, hz.st, hz.tab, .inl ⟨rfl, hle, rfl, rfl⟩, rfl, rfl⟩
end Go.Fw

namespace Go.Fw
open Go Go.Proofs

/-- What it costs at least to end. -/
def endG (l fin : List Int) : Nat → Int
  | 0 => -1
  | k + 1 => less (endG l fin k) (plus (l.getD k 0) (fin.getD k 0))

set_option maxHeartbeats 4000000 in
set_option maxRecDepth 20000 in
theorem ended_c (F : TF) (hF : FOk F) (l : List Int) (cap : Nat) (hl : l.length = F.st.toNat) (hb : ∀ x ∈ l, -1 ≤ x ∧ x ≤ 1000000000000000) :
    Ct Tryd.prog 77 [fV F, .c (.sl 2 1 0 l.length cap)] [] ((2, .arr false 3 .int l 0) :: hpF F) 3 (Is 3 (.i (endG l F.fin F.st.toNat))) := by
  have hst := hF.st
  have hfl := hF.finl
  refine ctW Tryd.tyOk 7 [] Tryd.func77 rfl (by simp) (by simp) (fr := [(0, fV F), (1, .c (.sl 2 1 0 l.length cap))]) rfl ?_
  repeat' (first | exact rfl | ((conv => whnf); first | (refine qX (fun h => ?_) fun h => ?_ <;> try exact absurd h (by omega)) | refine oN ?_ | refine oM ?_ ?_ | refine bM ?_ ?_ | refine dR ?_))
  (conv => whnf)
  refine loopI (fun k : Nat => ⟨[(1, .c (.sl 2 1 0 l.length cap)), (2, .c (.ptr 3 0)), (4, .i 0), (5, .i (endG l F.fin k)), (6, .i k)], (3, .box 25 (fCells F)) :: (2, .arr false 3 .int l 0) :: hpF F, 4⟩) (fun k => k ≤ F.st.toNat) (fun k => F.st.toNat - k) 0 [] ⟨by rfl, ?_, ?_⟩ (by omega) ?_
  · simp [endG]
  · simp [fCells]
  · intro k hk
    (conv => whnf)
    refine condP_dec (fun hk2 => ?_) (fun hk2 => ?_)
    · have e0 : 0 + (k : Int).toNat = k := by omega
      have b1 := hb _ (getD_mem l k 0 (by omega))
      have b2 := hF.fin _ (getD_mem F.fin k 0 (by omega))
      have e1 : l.getD (0 + (k : Int).toNat) EK.int.dflt = l.getD k 0 := by rw [e0]; rfl
      have e2 : F.fin.getD (0 + (k : Int).toNat) EK.int.dflt = F.fin.getD k 0 := by rw [e0]; rfl
      have hpi : InI (l.getD k 0 + F.fin.getD k 0) := by unfold InI; omega
      repeat' (first | exact rfl | ((conv => whnf); first | (refine qX (fun h => ?_) fun h => ?_ <;> try exact absurd h (by omega)) | refine oN ?_ | refine oM ?_ ?_ | refine bM ?_ ?_ | refine dR ?_))
      (conv => whnf)
      rw [e1, e2]
      refine cI (plus_c (l.getD k 0) (F.fin.getD k 0) hpi) [] Tryd.call95 ?_
      repeat' (first | exact rfl | ((conv => whnf); first | (refine qX (fun h => ?_) fun h => ?_ <;> try exact absurd h (by omega)) | refine oN ?_ | refine oM ?_ ?_ | refine bM ?_ ?_ | refine dR ?_))
      (conv => whnf)
      refine cI (less_c (endG l F.fin k) (plus (l.getD k 0) (F.fin.getD k 0))) [] Tryd.call41 ?_
      repeat' (first | exact rfl | ((conv => whnf); first | (refine qX (fun h => ?_) fun h => ?_ <;> try exact absurd h (by omega)) | refine oN ?_ | refine oM ?_ ?_ | refine bM ?_ ?_ | refine dR ?_))
      (conv => whnf)
      refine ⟨k + 1, [], ⟨by rfl, ?_, ?_⟩, by omega, by omega⟩
      · simp [endG]
      · simp [fCells]
    · have hkn : k = F.st.toNat := by omega
      subst hkn
      repeat' (first | exact rfl | ((conv => whnf); first | (refine qX (fun h => ?_) fun h => ?_ <;> try exact absurd h (by omega)) | refine oN ?_ | refine oM ?_ ?_ | refine bM ?_ ?_ | refine dR ?_))
      refine Back.is ?_
      simp

end Go.Fw

namespace Go.Fw
open Go Go.Proofs

/-- The words, handed on to be read: 0 final, 1 arcs, 2 rows, 3 pool, 4 parents, 5 letters. -/
abbrev wV (U : TF) (rows : List Sli) (par sym : List Int) (rc pc sc : Nat) : SV := .a (.agg (cWo U 0 1 2 4 5 rows.length rc par.length pc sym.length sc))
abbrev hpWd (U : TF) (rows : List Sli) (m : List (Addr × List Int × Nat)) (par sym : List Int) : List (Nat × SO) := [(0, .arr false 3 .int U.fin 0), (1, .arr false 50 .arc U.arcs 0), (2, .arr false 22 .sli rows 0), (3, .pool 3 .int m), (4, .arr false 3 .int par 0), (5, .arr false 3 .int sym 0)]

theorem getD_idxW {W : List (List Int)} {w : List Int} (h : w ∈ W) : W.getD (W.idxOf w) [] = w := by
  have h1 := List.idxOf_lt_length_of_mem h
  simp only [List.getD, List.getElem?_eq_getElem h1, Option.getD_some]
  exact List.getElem_idxOf h1
/-- Where a beginning goes on by a letter. -/
def onI (W : List (List Int)) (i : Nat) (c : Int) : Int := if W.getD i [] ++ [c] ∈ W then ((W.idxOf (W.getD i [] ++ [c]) : Nat) : Int) else -1

section
variable {U : TF} {W vs : List (List Int)} {par sym : List Int} {i : Nat} {c : Int}
theorem WSt.at_on (h : WSt U W vs par sym W.length 1) (hi : i < W.length) {k : Nat} (hk : k < W.length) : (par.getD k 0 = i ∧ sym.getD k 0 = c) ↔ (W.getD k [] = W.getD i [] ++ [c]) := by
  by_cases h0 : k = 0
  · subst h0
    rw [h.p0, h.w0]
    constructor
    · rintro ⟨e, _⟩; omega
    · intro e; simp at e
  · obtain ⟨j, g1, g2, g3, g4, g5⟩ := h.on k (by omega) hk
    rw [g2, g4]
    constructor
    · rintro ⟨e1, e2⟩
      have : j = i := by omega
      rw [this, e2]
    · intro e
      have e2 := List.append_inj' e rfl
      have := h.nd j i (by omega) hi e2.1
      exact ⟨by omega, (List.cons.inj e2.2).1⟩
theorem WSt.gt (h : WSt U W vs par sym W.length 1) (hi : i < W.length) {k : Nat} (hk : k < W.length) (e : W.getD k [] = W.getD i [] ++ [c]) : i < k := by
  have h0 : k ≠ 0 := fun h0 => by rw [h0, h.w0] at e; simp at e
  obtain ⟨j, g1, g2, g3, g4, g5⟩ := h.on k (by omega) hk
  have e1 := (h.at_on hi hk).2 e
  omega
theorem WSt.onI_yes (h : WSt U W vs par sym W.length 1) {k : Nat} (hk : k < W.length) (e : W.getD k [] = W.getD i [] ++ [c]) : onI W i c = k := by
  have hm : W.getD i [] ++ [c] ∈ W := getD_mem2.2 ⟨k, hk, e⟩
  have h1 := List.idxOf_lt_length_of_mem hm
  have h2 : W.getD (W.idxOf (W.getD i [] ++ [c])) [] = W.getD i [] ++ [c] := getD_idxW hm
  unfold onI
  rw [if_pos hm]
  have := h.nd _ _ h1 hk (h2.trans e.symm)
  omega
theorem onI_no (h : ∀ k, k < W.length → W.getD k [] ≠ W.getD i [] ++ [c]) : onI W i c = -1 := by
  unfold onI
  rw [if_neg fun hm => by
    obtain ⟨k, hk, e⟩ := getD_mem2.1 hm
    exact h k hk e]
end

set_option maxHeartbeats 8000000 in
set_option maxRecDepth 20000 in
theorem wOn_c (U : TF) (W vs : List (List Int)) (rows : List Sli) (m : List (Addr × List Int × Nat)) (par sym : List Int) (rc pc sc : Nat) (hw : WSt U W vs par sym W.length 1) (hl : W.length ≤ 201) (i : Nat) (hi : i < W.length) (c : Int) :
    Ct Tryd.prog 51 [wV U rows par sym rc pc sc, .i i, .i c] [] (hpWd U rows m par sym) 6 (fun v s => v = .i (onI W i c) ∧ s = ⟨[], [(3, .pool 3 .int m)], 6⟩) := by
  have hlp := hw.lp
  have hls := hw.ls
  refine ctW Tryd.tyOk 8 [] Tryd.func51 rfl (by simp) (by simp) (fr := [(0, wV U rows par sym rc pc sc), (1, .i i), (2, .i c)]) rfl ?_
  repeat' (first | exact rfl | ((conv => whnf); first | (refine qX (fun h => ?_) fun h => ?_ <;> try exact absurd h (by omega)) | refine oN ?_ | refine oM ?_ ?_ | refine bM ?_ ?_ | refine dR ?_))
  (conv => whnf)
  refine loopI (fun k : Nat => ⟨[(1, .i i), (2, .i c), (3, .c (.ptr 6 0)), (7, .i k)], hpWd U rows m par sym ++ [(6, .box 36 (cWo U 0 1 2 4 5 rows.length rc par.length pc sym.length sc))], 7⟩)
    (fun k => k ≤ W.length ∧ ∀ j, j < k → W.getD j [] ≠ W.getD i [] ++ [c]) (fun k => W.length - k) (i + 1) [] ⟨by rfl, ?_, ?_⟩ ⟨by omega, fun j hj e => ?_⟩ ?_
  · simp
  · simp
  · have := hw.gt hi (by omega) e
    omega
  · rintro k ⟨hk, hno⟩
    (conv => whnf)
    refine condP_dec (fun hk2 => ?_) (fun hk2 => ?_)
    · have e0 : 0 + (k : Int).toNat = k := by omega
      have hat := hw.at_on (c := c) hi (show k < W.length by omega)
      have hp : par.getD (0 + (k : Int).toNat) EK.int.dflt = par.getD k 0 := by rw [e0]; rfl
      have hs : sym.getD (0 + (k : Int).toNat) EK.int.dflt = sym.getD k 0 := by rw [e0]; rfl
      rw [← hp, ← hs] at hat
      repeat' (first | exact rfl | ((conv => whnf); first | (refine qX (fun h => ?_) fun h => ?_ <;> try exact absurd h (by omega)) | refine oN ?_ | refine oM ?_ ?_ | refine bM ?_ ?_ | refine dR ?_))
      · rename_i g
        have he := hat.1 ⟨g, h⟩
        have hon := WSt.onI_yes hw (show k < W.length by omega) he
        (conv => whnf)
        refine ⟨[], [(3, .pool 3 .int m)], 6, .i (onI W i c), ⟨by rfl, trivial, by simp⟩, by simp [hon], rfl, rfl⟩
      all_goals
        have hne : W.getD k [] ≠ W.getD i [] ++ [c] := fun e => by
          have := hat.2 e
          simp_all
        (conv => whnf)
        refine ⟨k + 1, [], ⟨by rfl, ?_, ?_⟩, ⟨by omega, fun j hj => ?_⟩, by omega⟩
        · simp
        · simp
        · by_cases e : j = k
          · rw [e]; exact hne
          · exact hno j (by omega)
    · have e : k = W.length := by omega
      subst e
      have hon := onI_no hno
      repeat' (first | exact rfl | ((conv => whnf); first | (refine qX (fun h => ?_) fun h => ?_ <;> try exact absurd h (by omega)) | refine oN ?_ | refine oM ?_ ?_ | refine bM ?_ ?_ | refine dR ?_))
      (conv => whnf)
      refine ⟨[], [(3, .pool 3 .int m)], 6, .i (onI W i c), ⟨by rfl, trivial, by simp⟩, by simp [hon], rfl, rfl⟩

/-- What a beginning costs as a word. -/
def endW (U : TF) (vs : List (List Int)) (i : Nat) : Int := endG (vs.getD i []) U.fin U.st.toNat

set_option maxHeartbeats 8000000 in
set_option maxRecDepth 20000 in
theorem wEnd_c (U : TF) (hUf : FOk U) (hU : ∀ a ∈ U.arcs, (0 ≤ a.f ∧ a.f < U.st) ∧ (0 ≤ a.t ∧ a.t < U.st) ∧ 0 ≤ a.w ∧ a.w ≤ 1000000000) (W vs : List (List Int)) (rows : List Sli) (m : List (Addr × List Int × Nat)) (par sym : List Int) (rc pc sc : Nat) (hw : WSt U W vs par sym W.length 1) (hl : W.length ≤ 201) (htab : Tab2 m rows vs.length (fun j => vs.getD j [])) (i : Nat) (hi : i < W.length) :
    Ct Tryd.prog 50 [wV U rows par sym rc pc sc, .i i] [] (hpWd U rows m par sym) 6 (fun v s => v = .i (endW U vs i) ∧ s = ⟨[], [(3, .pool 3 .int m)], 6⟩) := by
  have hlv := hw.lv
  have hrl := htab.len
  have hrow := htab.row i (by omega)
  have hin := (htab.hd i (by omega)).len
  have e0 : 0 + (i : Int).toNat = i := by omega
  rw [hrow] at hin
  have hvl := (hw.vec i hi).len
  have hvb := (hw.vec i hi).bd hU
  have hwl := hw.wl i hi
  have hend := ended_c U hUf (vs.getD i []) (vs.getD i []).length
  generalize hVe : vs.getD i [] = V at *
  rw [← e0] at hrow hin
  refine ctW Tryd.tyOk 5 [] Tryd.func50 rfl (by simp) (by simp) (fr := [(0, wV U rows par sym rc pc sc), (1, .i i)]) rfl ?_
  have hbV : ∀ x ∈ V, -1 ≤ x ∧ x ≤ 1000000000000000 := fun x hx => by
    obtain ⟨j, hj, rfl⟩ := List.mem_iff_getElem.1 hx
    have := hvb j
    have e : V.getD j 0 = V[j] := by simp [List.getD, hj]
    rw [e] at this
    omega
  have hew : endG V U.fin U.st.toNat = endW U vs i := by unfold endW; rw [hVe]
  repeat' (first | exact rfl | ((conv => whnf); first | (refine qX (fun h => ?_) fun h => ?_ <;> try exact absurd h (by omega)) | refine oN ?_ | refine oM ?_ ?_ | refine bM ?_ ?_ | refine dR ?_))
  (conv => whnf)
  refine callRow 3 [false, true] Tryd.call77 (by simp) ?_
  (conv => whnf)
  generalize hY : rows.getD (0 + (i : Int).toNat) EK.sli.dflt = yy at *
  have hks := ended_c U hUf (rowA m yy.a) yy.c (by rw [hrow, hvl]) (by rw [hrow]; exact hbV)
  have hyl : (rowA m yy.a).length = yy.n := by rw [hrow, hin]
  refine callF (hks) [0, 1, 7] Tryd.call77 rfl (by simp [hyl, rowsO]) (by simp [hyl, rowsO]) (by simp) ?_
  rintro _ _ ⟨rfl, rfl⟩
  repeat' (first | exact rfl | ((conv => whnf); first | (refine qX (fun h => ?_) fun h => ?_ <;> try exact absurd h (by omega)) | refine oN ?_ | refine oM ?_ ?_ | refine bM ?_ ?_ | refine dR ?_))
  (conv => whnf)
  refine ⟨[], [(3, .pool 3 .int m)], 6, .i (endW U vs i), ⟨by rfl, trivial, by simp⟩, by simp [hrow, hew], rfl, rfl⟩
end Go.Fw

/-
  What a beginning costs as a word.
-/
namespace Go.Fw

theorem endG_min {l fin : List Int} {P : Nat → Int → Prop} {n : Nat} (hl : ∀ q, q < n → MinOf (P q) (l.getD q 0)) (hf : ∀ q : Nat, -1 ≤ fin.getD q 0) : ∀ k, k ≤ n → MinOf (fun c => ∃ q, q < k ∧ ∃ d, P q d ∧ fin.getD q 0 ≠ -1 ∧ c = d + fin.getD q 0) (endG l fin k)
  | 0, _ => .inl ⟨rfl, fun c ⟨q, h, _⟩ => by omega⟩
  | k + 1, hk => by
    have ih := endG_min hl hf k (by omega)
    have hq : MinOf (fun c => fin.getD k 0 ≠ -1 ∧ c = fin.getD k 0) (fin.getD k 0) := by
      by_cases e : fin.getD k 0 = -1
      · exact .inl ⟨e, fun c h => h.1 e⟩
      · have := hf k
        exact .inr ⟨by omega, ⟨e, rfl⟩, fun c h => by omega⟩
    unfold endG
    refine (MinOf.or ih ((hl k (by omega)).add hq)).cong fun c => ?_
    constructor
    · rintro (⟨q, h1, h2⟩ | ⟨a, b, h1, ⟨h2, h3⟩, h4⟩)
      · exact ⟨q, by omega, h2⟩
      · exact ⟨k, by omega, a, h1, h2, by omega⟩
    · rintro ⟨q, h1, d, h2, h3, h4⟩
      by_cases e : q = k
      · subst e; exact .inr ⟨d, _, h2, ⟨h3, rfl⟩, h4⟩
      · exact .inl ⟨q, by omega, d, h2, h3, h4⟩

/-- .. the least of its ways to an end. -/
theorem endW_min {U : TF} {W vs : List (List Int)} {par sym : List Int} {i : Nat} {c : Int} (hU : ∀ a ∈ U.arcs, 0 ≤ a.t ∧ a.t < U.st) (hs : 0 ≤ U.start ∧ U.start < U.st) (hf : ∀ q : Nat, -1 ≤ U.fin.getD q 0) (h : WSt U W vs par sym i c) {j : Nat} (hj : j < W.length) : MinOf (CW U U.start (W.getD j [])) (endW U vs j) := by
  have hv := h.vec j hj
  unfold endW
  refine (endG_min (P := fun q c => RdW U.arcs U.start (W.getD j []) q c) (n := U.st.toNat) hv.min hf U.st.toNat (Nat.le_refl _)).cong fun x => ?_
  constructor
  · rintro ⟨q, h1, d, h2, h3, h4⟩
    exact ⟨q, d, h2, by rw [Int.toNat_natCast]; exact h3, by rw [Int.toNat_natCast]; exact h4⟩
  · rintro ⟨t, d, h1, h2, h3⟩
    have hr := h1.rng hU hs
    exact ⟨t.toNat, by omega, d, by rw [show ((t.toNat : Nat) : Int) = t by omega]; exact h1, h2, h3⟩
end Go.Fw

/-
  What words cost, told by the states that are made.
-/
namespace Go.Fw

section
variable {U : TF} (hU : ∀ a ∈ U.arcs, (0 ≤ a.f ∧ a.f < U.st) ∧ (0 ≤ a.t ∧ a.t < U.st) ∧ 0 ≤ a.w ∧ a.w ≤ 1000000000)
  (hlet : ∀ a ∈ U.arcs, 1 ≤ a.i ∧ a.i ≤ 9) (hfin : ∀ j : Nat, -1 ≤ U.fin.getD j 0) {st : DS} (h : RI U st.1.length 1 st)
include hU hfin h

theorem RI.endm {w : List Int} {q d : Int} (hr : RdW st.2 0 w q d) : MinOf (CW U U.start w) (if finD U (st.1.getD q.toNat []) = -1 then -1 else d + finD U (st.1.getD q.toNat [])) := by
  have hs := h.sub hU hr
  have hm := finD_min hs.b0 hfin
  have hr0 := hs.r0
  by_cases e : finD U (st.1.getD q.toNat []) = -1
  · rw [if_pos e]
    refine .inl ⟨rfl, fun c hc => ?_⟩
    obtain ⟨t, d', h1, h2, rfl⟩ := hc
    obtain ⟨f, hf, rfl⟩ := hs.all _ _ h1
    exact (hm.le (c := _) ⟨f, hf, h2, rfl⟩).1 e
  · rw [if_neg e]
    have hlow := hm.low
    obtain ⟨f, hf, h2, h3⟩ := hm.is e
    refine .inr ⟨by omega, ⟨f.a, d + f.b, (hs.min f hf).is (by have := hs.b0 f hf; omega), h2, by omega⟩, fun c hc => ?_⟩
    obtain ⟨t, d', h1, h2, rfl⟩ := hc
    obtain ⟨g, hg, rfl⟩ := hs.all _ _ h1
    have := (hm.le (c := _) ⟨g, hg, h2, rfl⟩).2
    have := ((hs.min g hg).le h1).2
    omega

/-- A beginning's cost as a word: what its way costs and what its state tells. -/
theorem RI.endW {W vs : List (List Int)} {par sym : List Int} {i : Nat} {c : Int} (hs : 0 ≤ U.start ∧ U.start < U.st) (hw : WSt U W vs par sym i c) {j : Nat} (hj : j < W.length) {q d : Int} (hr : RdW st.2 0 (W.getD j []) q d) :
    endW U vs j = if finD U (st.1.getD q.toNat []) = -1 then -1 else d + finD U (st.1.getD q.toNat []) :=
  (endW_min (fun a ha => (hU a ha).2.1) hs hfin hw hj).eq (h.endm hU hfin hr) fun c => Iff.rfl
end
end Go.Fw

/-
  The best way of all; what is pushed costs the same but for what is told; in the plain.
-/
namespace Go.Fw
open Go

theorem begun_getD {F : TF} {n : Nat} (h : n < F.st.toNat) : (begun F).getD n 0 = begF F.start n := by
  simp [begun, List.getD, h]
theorem begun_ln (F : TF) : (begun F).length = F.st.toNat := by simp [begun]

theorem RN.way {F : TF} (hF : FOk F) {k v : Nat} {c : Int} (h : RN F.arcs (begun F) k v c) : ∃ u w, Way F.arcs F.start u w (v : Int) c := by
  induction h with
  | base h hc =>
    rename_i v
    rw [begun_ln] at h
    rw [begun_getD h] at hc ⊢
    unfold begF at hc ⊢
    split at hc
    · rename_i e
      rw [if_pos e, e]
      exact ⟨[], [], .nil _⟩
    · exact absurd rfl hc
  | step h ha ih =>
    rename_i k a c
    obtain ⟨u, w, ih⟩ := ih
    have h1 := (hF.arc a ha).f0
    have h2 := (hF.arc a ha).t0
    have e1 : (a.f.toNat : Int) = a.f := by omega
    have e2 : (a.t.toNat : Int) = a.t := by omega
    rw [e1] at ih
    rw [e2]
    exact ⟨_, _, ih.snoc ha⟩

theorem Way.rnOf {L : List Arc} {c0 : List Int} {s t : Int} {u v : List Int} {d : Int} (h : Way L s u v t d) : ∀ {k : Nat} {c : Int}, RN L c0 k s.toNat c → ∃ k', RN L c0 k' t.toNat (c + d) := by
  induction h with
  | nil s => intro k c h; exact ⟨k, by simpa using h⟩
  | cons ha h ih =>
    intro k c hr
    obtain ⟨k', h'⟩ := ih (.step hr ha)
    exact ⟨k', by rw [← Int.add_assoc]; exact h'⟩

theorem Way.rn {F : TF} (hF : FOk F) {t : Int} {u v : List Int} {d : Int} (h : Way F.arcs F.start u v t d) : ∃ k, RN F.arcs (begun F) k t.toNat d := by
  have hs := hF.start
  have h1 : F.start.toNat < F.st.toNat := by omega
  have h2 : (begun F).getD F.start.toNat 0 = 0 := by
    rw [begun_getD h1]
    unfold begF
    exact if_pos (by omega)
  have h3 : RN F.arcs (begun F) 0 F.start.toNat 0 := by
    have := RN.base (l := F.arcs) (c0 := begun F) (v := F.start.toNat) (by rw [begun_ln]; exact h1) (by rw [h2]; decide)
    rwa [h2] at this
  obtain ⟨k, hk⟩ := h.rnOf h3
  exact ⟨k, by simpa using hk⟩

theorem Sol.low {F : TF} (hF : FOk F) {D : List Int} (h : Sol F.arcs (begun F) D) : ∀ v, v < (begun F).length → -1 ≤ D.getD v 0 := by
  intro v hv
  by_cases e : D.getD v 0 = -1
  · omega
  · obtain ⟨k, _, hk⟩ := h.s3 v hv e
    have := hk.pos hF.arc (fun v hv => ((begun_bd hF).bd v hv).1)
    omega

/-! ### Pushed -/
structure Pot (F : TF) (D : List Int) : Prop where
  len : D.length = F.fin.length
  low : ∀ v, v < F.fin.length → -1 ≤ D.getD v 0
  fin : ∀ v, v < F.fin.length → Le (D.getD v 0) (F.fin.getD v 0)
  arc : ∀ a ∈ F.arcs, D.getD a.t.toNat 0 ≠ -1 → Le (D.getD a.f.toNat 0) (D.getD a.t.toNat 0 + a.w)

/-- A transducer that was pushed. -/
structure PushIs (F : TF) (D : List Int) (X : TF) : Prop where
  st : X.st = F.st
  start : X.start = F.start
  fin : X.fin = pushF D F.fin F.fin.length
  arcs : X.arcs = pushL D F.arcs

theorem pushL_mem {D : List Int} {l : List Arc} {b : Arc} : b ∈ pushL D l ↔ ∃ a ∈ l, D.getD a.f.toNat 0 ≠ -1 ∧ D.getD a.t.toNat 0 ≠ -1 ∧ b = ⟨a.f, a.i, a.o, a.t, a.w + (D.getD a.t.toNat 0 - D.getD a.f.toNat 0)⟩ := by
  unfold pushL
  rw [List.mem_filterMap]
  constructor
  · rintro ⟨a, ha, h⟩
    unfold pushA at h
    split at h
    · cases h
    · rename_i hh
      cases h
      exact ⟨a, ha, fun c => hh (.inl c), fun c => hh (.inr c), rfl⟩
  · rintro ⟨a, ha, h1, h2, rfl⟩
    refine ⟨a, ha, ?_⟩
    unfold pushA
    rw [if_neg (fun c => by rcases c with c | c; exact h1 c; exact h2 c)]

theorem push_srt {D : List Int} {l : List Arc} (h : Srt l) : Srt (pushL D l) := by
  unfold Srt pushL at *
  refine List.Pairwise.filterMap _ ?_ h
  intro a a' haa' b hb b' hb'
  unfold pushA at hb hb'
  split at hb
  · cases hb
  · split at hb'
    · cases hb'
    · cases hb; cases hb'; exact haa'

theorem PushIs.fok {F : TF} {D : List Int} {X : TF} (h : PushIs F D X) (hF : fstE F = 0) (hP : Pot F D) (hb : pushBig (pushL D F.arcs) = false) : fstE X = 0 := by
  obtain ⟨hF, hs⟩ := fstE_iff.1 hF
  refine fstE_iff.2 ⟨⟨?_, ?_, ?_, ?_, ?_, ?_⟩, ?_⟩
  · rw [h.st]; exact hF.st
  · rw [h.st, h.start]; exact hF.start
  · rw [h.fin, pushF_len, h.st]; exact hF.finl
  · intro n hn
    rw [h.fin] at hn
    obtain ⟨i, hi, rfl⟩ := List.getElem_of_mem hn
    rw [pushF_len] at hi
    have e : (pushF D F.fin F.fin.length)[i]'(by rw [pushF_len]; exact hi) = (pushF D F.fin F.fin.length).getD i 0 := by simp [List.getD, pushF_len, hi]
    rw [e, pushF_getD _ _ _ _ hi]
    unfold pushV
    have h1 := hF.fin _ (getD_mem F.fin i 0 hi)
    split
    · rename_i hh
      have h2 := hP.fin i hi hh.2
      have h3 := hP.low i hi
      omega
    · exact h1
  · rw [h.arcs]; have := pushL_len D F.arcs; have := hF.arcl; omega
  · intro b hb'
    rw [h.arcs] at hb'
    have hw : b.w ≤ 1000000000 := by
      unfold pushBig at hb
      rw [List.any_eq_false] at hb
      have := hb b hb'
      simp only [decide_eq_true_eq] at this
      omega
    obtain ⟨a, ha, h1, h2, rfl⟩ := pushL_mem.1 hb'
    have hx := hF.arc a ha
    have hn := hF.finl
    have h3 := hP.low a.f.toNat (by have := hx.f0; have := hx.f1; omega)
    have h4 := hP.low a.t.toNat (by have := hx.t0; have := hx.t1; omega)
    have h5 := hP.arc a ha h2 (by have := hx.w0; omega)
    rw [h.st]
    exact ⟨hx.f0, hx.f1, hx.t0, hx.t1, hx.i0, hx.o0, by show 0 ≤ a.w + _; omega, hw⟩
  · rw [h.arcs]; exact push_srt hs

theorem push_way {F : TF} (hF : FOk F) {D : List Int} (hP : Pot F D) {s t : Int} {u v : List Int} {d : Int} (h : Way F.arcs s u v t d) (ht : D.getD t.toNat 0 ≠ -1) : D.getD s.toNat 0 ≠ -1 ∧ Way (pushL D F.arcs) s u v t (d + D.getD t.toNat 0 - D.getD s.toNat 0) := by
  induction h with
  | nil s => exact ⟨ht, by have : (0 + D.getD s.toNat 0 - D.getD s.toNat 0) = 0 := by omega
                           rw [this]; exact .nil s⟩
  | cons ha h ih =>
    rename_i a u v t c
    obtain ⟨h1, h2⟩ := ih ht
    have hx := hF.arc a ha
    have hn := hF.finl
    have h4 := hP.low a.t.toNat (by have := hx.t0; have := hx.t1; omega)
    have h5 := hP.arc a ha h1 (by have := hx.w0; omega)
    refine ⟨h5.1, ?_⟩
    have h6 : (⟨a.f, a.i, a.o, a.t, a.w + (D.getD a.t.toNat 0 - D.getD a.f.toNat 0)⟩ : Arc) ∈ pushL D F.arcs := pushL_mem.2 ⟨a, ha, h5.1, h1, rfl⟩
    have h7 := Way.cons h6 h2
    have e : (a.w + c + D.getD t.toNat 0 - D.getD a.f.toNat 0) = (a.w + (D.getD a.t.toNat 0 - D.getD a.f.toNat 0)) + (c + D.getD t.toNat 0 - D.getD a.t.toNat 0) := by omega
    rw [e]
    exact h7

theorem push_way' {F : TF} {D : List Int} {s t : Int} {u v : List Int} {d : Int} (h : Way (pushL D F.arcs) s u v t d) (ht : D.getD t.toNat 0 ≠ -1) : D.getD s.toNat 0 ≠ -1 ∧ Way F.arcs s u v t (d - D.getD t.toNat 0 + D.getD s.toNat 0) := by
  induction h with
  | nil s => exact ⟨ht, by have : (0 - D.getD s.toNat 0 + D.getD s.toNat 0) = 0 := by omega
                           rw [this]; exact .nil s⟩
  | cons ha h ih =>
    rename_i b u v t c
    obtain ⟨h1, h2⟩ := ih ht
    obtain ⟨a, ha', h3, h4, rfl⟩ := pushL_mem.1 ha
    refine ⟨h3, ?_⟩
    simp only at h2 h1 ⊢
    have h7 := Way.cons ha' h2
    have e : (a.w + (D.getD a.t.toNat 0 - D.getD a.f.toNat 0)) + c - D.getD t.toNat 0 + D.getD a.f.toNat 0 = a.w + (c - D.getD t.toNat 0 + D.getD a.t.toNat 0) := by omega
    rw [e]
    exact h7

/-- What is pushed costs less by what is told. -/
theorem PushIs.wt {F : TF} {D : List Int} {X : TF} (h : PushIs F D X) (hF : FOk F) (hP : Pot F D) {u v : List Int} {c : Int} : Wt X u v c ↔ Wt F u v (c + D.getD F.start.toNat 0) ∧ D.getD F.start.toNat 0 ≠ -1 := by
  have hs := hF.start
  have hn := hF.finl
  unfold Wt
  rw [h.start, h.arcs, h.fin]
  constructor
  · rintro ⟨t, d, h1, h2, rfl⟩
    have hr : 0 ≤ t ∧ t < F.st := by
      have : ∀ {s t : Int} {u v : List Int} {c : Int}, Way (pushL D F.arcs) s u v t c → 0 ≤ s ∧ s < F.st → 0 ≤ t ∧ t < F.st := by
        intro s t u v c hw
        induction hw with
        | nil s => exact id
        | cons ha h ih =>
          obtain ⟨a, ha', _, _, rfl⟩ := pushL_mem.1 ha
          exact fun _ => ih ⟨(hF.arc a ha').t0, (hF.arc a ha').t1⟩
      exact this h1 hs
    have ht : t.toNat < F.fin.length := by omega
    rw [pushF_getD _ _ _ _ ht] at h2 ⊢
    unfold pushV at h2 ⊢
    by_cases e : F.fin.getD t.toNat 0 = -1
    · rw [if_neg (fun hh => hh.2 e)] at h2; exact absurd e h2
    · rw [if_pos ⟨ht, e⟩]
      have h3 := hP.fin _ ht e
      obtain ⟨h4, h5⟩ := push_way' h1 h3.1
      exact ⟨⟨t, _, h5, e, by omega⟩, h4⟩
  · rintro ⟨⟨t, d, h1, h2, h3⟩, _⟩
    have hr := h1.rng hF.arc hs
    have ht : t.toNat < F.fin.length := by omega
    have h4 := hP.fin _ ht h2
    have h5 := hP.low _ ht
    obtain ⟨h6, h7⟩ := push_way hF hP h1 h4.1
    refine ⟨t, _, h7, ?_, ?_⟩
    · rw [pushF_getD _ _ _ _ ht]
      unfold pushV
      rw [if_pos ⟨ht, h2⟩]
      omega
    · rw [pushF_getD _ _ _ _ ht]
      unfold pushV
      rw [if_pos ⟨ht, h2⟩]
      omega

/-! ### The way itself -/
inductive GW (arcs : List Arc) (rk : Nat → Nat) (x : Int) : Int → List Int → Int → Prop
  | nil : GW arcs rk x x [] 0
  | cons {n : Nat} {a : Arc} {l : List Int} {c : Int} (hn : arcs[n]? = some a) (hr : rk a.f.toNat < rk a.t.toNat) (h : GW arcs rk x a.t l c) : GW arcs rk x a.f ((n : Int) :: l) (a.w + c)

theorem GW.snoc {arcs : List Arc} {rk : Nat → Nat} {x s : Int} {l : List Int} {c : Int} (h : GW arcs rk x s l c) : ∀ {n : Nat} {a : Arc}, arcs[n]? = some a → a.f = x → rk a.f.toNat < rk a.t.toNat → GW arcs rk a.t s (l ++ [(n : Int)]) (c + a.w) := by
  induction h with
  | nil =>
    intro n a h1 h2 h3
    subst h2
    have := GW.cons h1 h3 (.nil (arcs := arcs) (rk := rk) (x := a.t))
    simpa using this
  | cons h1 h2 h ih =>
    intro n a g1 g2 g3
    rw [Int.add_assoc]
    exact .cons h1 h2 (ih g1 g2 g3)

end Go.Fw

/-
  One way for each word: all that the law asks.
-/
namespace Go.Fw

theorem IsUs.arcs {F U : TF} (h : IsUs F U) {a : Arc} (ha : a ∈ U.arcs) : ∃ b ∈ F.arcs, a.i = b.i ∧ a.o = b.o ∧ a.w = b.w := by
  obtain ⟨p, hp, h1, h2, h3, h4⟩ := h
  rw [h4] at ha
  unfold kT at ha
  split at ha
  · obtain ⟨b, hb, _, _, rfl⟩ := mem_karcs.1 ha
    exact ⟨b, hb, rfl, rfl, rfl⟩
  · cases ha
theorem IsUs.fin {F U : TF} (h : IsUs F U) (j : Nat) : U.fin.getD j 0 ≤ fmaxL F.fin F.fin.length := by
  obtain ⟨p, hp, h1, h2, h3, h4⟩ := h
  have h0 : 0 ≤ fmaxL F.fin F.fin.length := by
    have : ∀ k, 0 ≤ fmaxL F.fin k := by
      intro k
      induction k with
      | zero => exact Int.le_refl _
      | succ k ih => unfold fmaxL; split <;> omega
    exact this _
  by_cases hj : j < U.fin.length
  · have hm := getD_mem U.fin j 0 hj
    generalize U.fin.getD j 0 = n at *
    rw [h3] at hm
    unfold kT at hm
    split at hm
    · obtain ⟨i, hi, rfl⟩ := kfin_mem F.fin hm
      by_cases hi2 : i < F.fin.length
      · exact fmaxL_ge _ i hi2
      · simp only [List.getD, List.getElem?_eq_none (show F.fin.length ≤ i by omega), Option.getD_none]; exact h0
    · rw [List.mem_singleton] at hm
      omega
  · simp only [List.getD, List.getElem?_eq_none (show U.fin.length ≤ j by omega), Option.getD_none]; exact h0

theorem RdW.empty {L : List Arc} {s t c : Int} {w : List Int} (h : RdW L s w t c) (hL : L = []) : w = [] ∧ t = s ∧ c = 0 := by
  cases h with
  | nil => exact ⟨rfl, rfl, rfl⟩
  | cons ha _ => rw [hL] at ha; cases ha

theorem IsUs.rd {F U : TF} (h : IsUs F U) (hF : FRng F) (hs : 0 ≤ F.start ∧ F.start < F.st) (hL : ∀ a ∈ F.arcs, a.i = a.o ∧ a.i ≠ 0) {w : List Int} {t c : Int} (hr : RdW U.arcs U.start w t c) : ∃ t', (0 ≤ t' ∧ t' < F.st) ∧ RdW F.arcs F.start w t' c := by
  have hLU : ∀ a ∈ U.arcs, a.i = a.o ∧ a.i ≠ 0 := fun a ha => by
    obtain ⟨b, hb, e1, e2, _⟩ := h.arcs ha
    rw [e1, e2]; exact hL b hb
  obtain ⟨p, hp, h1, h2, h3, h4⟩ := h
  rw [h4] at hLU
  rw [h4, h2] at hr
  by_cases hps : p F.start.toNat = true
  · have e1 : (kT F p).arcs = karc p F.arcs F.arcs.length := by unfold kT; rw [if_pos hps]
    have e2 : (kT F p).start = (rkB p F.start.toNat : Nat) := by unfold kT; rw [if_pos hps]
    rw [e1] at hLU
    rw [e1, e2] at hr
    obtain ⟨j, q1, q2, q3, q4, q5⟩ := kept_way hF (rd_way hLU hr) F.start hs hps rfl
    exact ⟨j, ⟨q1, q2⟩, (way_rd hL q5).2⟩
  · have e1 : (kT F p).arcs = [] := by unfold kT; rw [if_neg hps]
    rw [e1] at hr
    obtain ⟨rfl, _, rfl⟩ := hr.empty rfl
    exact ⟨F.start, hs, .nil _⟩

theorem fineB_iff {F : TF} : fineB F = true ↔ (∀ a ∈ F.arcs, a.i = a.o ∧ a.i ≠ 0) ∧ roundB F.arcs F.st.toNat = false := by
  unfold fineB bothB silB
  rw [Bool.and_eq_true, Bool.and_eq_true, Bool.not_eq_true', Bool.not_eq_true', Bool.not_eq_true', List.any_eq_false, List.any_eq_false]
  constructor
  · rintro ⟨⟨h1, h2⟩, h3⟩
    exact ⟨fun a ha => ⟨by simpa using h1 a ha, by simpa using h2 a ha⟩, h3⟩
  · rintro ⟨h1, h2⟩
    exact ⟨⟨fun a ha => by simpa using (h1 a ha).1, fun a ha => by simpa using (h1 a ha).2⟩, h2⟩

/-- What there is to begin with. -/
structure DetH (F U : TF) (st : DS) : Prop where
  fok : FOk F
  fine : fineB F = true
  us : IsUs F U
  bgn : bgnF U 201 200 [⟨U.start, 0⟩] ≤ 200
  done : MDone U st

section
variable {F U : TF} {st : DS} (h : DetH F U st)
include h

theorem DetH.wok : WOk F := ⟨FRng.of h.fok, fun a ha => ⟨(h.fok.arc a ha).w0, (h.fok.arc a ha).w1⟩, h.fok.fin⟩
theorem DetH.lets : ∀ a ∈ F.arcs, a.i = a.o ∧ a.i ≠ 0 := (fineB_iff.1 h.fine).1
theorem DetH.uok : WOk U ∧ (0 ≤ U.start ∧ U.start < U.st) ∧ U.st ≤ F.st := h.us.ok h.wok h.fok.start
theorem DetH.hU : ∀ a ∈ U.arcs, (0 ≤ a.f ∧ a.f < U.st) ∧ (0 ≤ a.t ∧ a.t < U.st) ∧ 0 ≤ a.w ∧ a.w ≤ 1000000000 := fun a ha => by
  have := h.uok.1.arc a ha
  have := h.uok.1.w a ha
  omega
theorem DetH.hlet : ∀ a ∈ U.arcs, (1 ≤ a.i ∧ a.i ≤ 9) ∧ a.i = a.o := fun a ha => by
  obtain ⟨b, hb, e1, e2, _⟩ := h.us.arcs ha
  have := h.lets b hb
  have := (h.fok.arc b hb).i0
  omega
theorem DetH.hfin : ∀ j : Nat, -1 ≤ U.fin.getD j 0 := fun j => by
  by_cases hj : j < U.fin.length
  · exact (h.uok.1.fin _ (getD_mem U.fin j 0 hj)).1
  · simp only [List.getD, List.getElem?_eq_none (show U.fin.length ≤ j by omega), Option.getD_none]; omega
theorem DetH.ri : RI U st.1.length 1 st := h.done.ri
theorem DetH.small : MInv U (treeL U 201 [⟨U.start, 0⟩]) st.1.length st ∧ st.1.length ≤ 200 ∧ st.2.length ≤ 1800 :=
  h.done.small h.uok.1.st.1 h.uok.1.w (fun a ha => (h.hU a ha).2.1) h.uok.2.1 h.bgn

theorem DetH.fst (hg : greatB st.2 (st.1.map (finD U)) = false) (cf ca : Nat) : fstE (mkD U st cf ca) = 0 := by
  have hr := h.ri
  obtain ⟨h1, h2, h3⟩ := h.small
  have hl := hr.len
  unfold greatB at hg
  rw [Bool.or_eq_false_iff, List.any_eq_false, List.any_eq_false] at hg
  refine fstE_iff.2 ⟨⟨?_, ?_, ?_, ?_, ?_, ?_⟩, hr.srt⟩
  · show 1 ≤ ((st.1.length : Nat) : Int) ∧ ((st.1.length : Nat) : Int) ≤ 200
    omega
  · show 0 ≤ (0 : Int) ∧ (0 : Int) < ((st.1.length : Nat) : Int)
    omega
  · show ((st.1.map (finD U)).length : Int) = ((st.1.length : Nat) : Int)
    rw [List.length_map]
  · intro n hn
    have g1 := hg.2 n hn
    have hn : n ∈ st.1.map (finD U) := hn
    obtain ⟨s, hs, rfl⟩ := List.mem_map.1 hn
    obtain ⟨j, hj, rfl⟩ := List.mem_iff_getElem.1 hs
    have hok := h1.ok j hj
    have e : st.1.getD j [] = st.1[j] := by simp [List.getD, hj]
    rw [e] at hok
    have := (finD_min (U := U) (fun e he => ((hok.rng e he).2).1) h.hfin).low
    exact ⟨this, by simpa using g1⟩
  · show st.2.length ≤ 3000
    omega
  · intro a ha
    have ha : a ∈ st.2 := ha
    have g1 := hg.1 a ha
    obtain ⟨j, x, q1, q2, q3, q4, q5, q6, q7, q8, q9, q10⟩ := hr.arc ha
    have hok := h1.ok j q2
    have hb := (sbR_spec (U := U) (fun e he => ((hok.rng e he).2).1) (fun a ha => (h.hU a ha).2.2.1) x).b.low
    change -1 ≤ sbB U _ x at hb
    have g2 : a.w ≤ 1000000000 := by simpa using g1
    exact ⟨by omega, by show a.f < ((st.1.length : Nat) : Int); omega, by omega, by show a.t < ((st.1.length : Nat) : Int); omega, by omega, by omega, by omega, g2⟩

theorem DetH.both (cf ca : Nat) : bothB (mkD U st cf ca) = true ∧ silB (mkD U st cf ca) = false := by
  unfold bothB silB
  rw [Bool.not_eq_true', List.any_eq_false, List.any_eq_false]
  have key : ∀ a ∈ (mkD U st cf ca).arcs, a.i = a.o ∧ a.i ≠ 0 := fun a ha => by
    obtain ⟨j, x, q1, q2, q3, q4, q5, q6, q7, q8, q9, q10⟩ := h.ri.arc ha
    omega
  exact ⟨fun a ha => by simpa using (key a ha).1, fun a ha => by simpa using (key a ha).2⟩

theorem DetH.round (cf ca : Nat) : roundB (mkD U st cf ca).arcs (mkD U st cf ca).st.toNat = false := by
  show roundB st.2 ((st.1.length : Nat) : Int).toNat = false
  rw [Int.toNat_natCast]
  have hr := h.ri
  obtain ⟨h1, h2, h3⟩ := h.small
  cases hc : roundB st.2 st.1.length with
  | false => rfl
  | true =>
    exfalso
    have hf : ∀ a ∈ st.2, 0 ≤ a.f ∧ a.f < (st.1.length : Nat) := fun a ha => by
      obtain ⟨j, x, q1, q2, q3, q4, q5, q6, q7, q8, q9, q10⟩ := hr.arc ha
      omega
    obtain ⟨v, hv, hn⟩ := round_all hf hc F.st.toNat
    obtain ⟨s, w, c, hs, hw, hrd⟩ := nowB_rd hf (v := (v : Int)) ⟨by omega, by omega⟩ hn
    obtain ⟨w0, d, hr0⟩ := hr.rch s.toNat (by omega)
    rw [show ((s.toNat : Nat) : Int) = s by omega] at hr0
    have hall := hr0.app hrd
    have hsub := hr.sub h.hU hall
    rw [Int.toNat_natCast] at hsub
    have hne := h1.ne _ (getD_mem st.1 v [] hv)
    obtain ⟨e, he⟩ := List.exists_mem_of_ne_nil _ hne
    have hp := (hsub.min e he).is (by have := hsub.r0; have := hsub.b0 e he; omega)
    obtain ⟨t', ht, hF⟩ := h.us.rd h.wok.toFRng h.fok.start h.lets hp
    have hnb := nowB_le (k := (w0 ++ w).length) (j := F.st.toNat) (by rw [List.length_append, hw]; omega) (rd_nowB hF)
    have hrf := (fineB_iff.1 h.fine).2
    unfold roundB at hrf
    rw [List.any_eq_false] at hrf
    have := hrf t'.toNat (List.mem_range.2 (by omega))
    rw [show ((t'.toNat : Nat) : Int) = t' by omega] at this
    exact this hnb

theorem DetH.cost {cf ca : Nat} {l : List Int} {n : Int} (hn : MinOf (Wt (mkD U st cf ca) l l) n) : MinOf (Wt F l l) n := by
  have h1 := mkD_wt h.hU h.hlet h.hfin h.ri hn
  obtain ⟨p, hp, g1, g2, g3, g4⟩ := h.us
  refine h1.cong fun c => ?_
  rw [← useful_wt h.wok.toFRng h.fok.start hp]
  unfold Wt
  rw [g2, g3, g4]

end
end Go.Fw

/-
  What is useful is one thing alone; so the beginnings are as many, whoever counts.
-/
namespace Go.Fw

theorem rkB_cong {p q : Nat → Bool} : ∀ k, (∀ j, j < k → p j = q j) → rkB p k = rkB q k
  | 0, _ => rfl
  | k + 1, h => by
    have := rkB_cong k fun j hj => h j (by omega)
    unfold rkB
    rw [h k (by omega), this]
theorem kfin_cong {p q : Nat → Bool} (fin : List Int) : ∀ k, (∀ j, j < k → p j = q j) → kfin p fin k = kfin q fin k
  | 0, _ => rfl
  | k + 1, h => by
    have := kfin_cong fin k fun j hj => h j (by omega)
    unfold kfin
    rw [h k (by omega), this]
theorem karc_cong {p q : Nat → Bool} {n : Nat} (hpq : ∀ j, j < n → p j = q j) {l : List Arc} (hl : ∀ a ∈ l, a.f.toNat < n ∧ a.t.toNat < n) : ∀ k, k ≤ l.length → karc p l k = karc q l k
  | 0, _ => rfl
  | k + 1, hk => by
    have ih := karc_cong hpq hl k (by omega)
    have ha := hl _ (getD_mem l k aD (by omega))
    unfold karc kOk kArc
    rw [ih, hpq _ ha.1, hpq _ ha.2, rkB_cong _ fun j hj => hpq j (by omega), rkB_cong (q := q) _ fun j hj => hpq j (by omega)]

theorem kT_cong {F : TF} (hF : FRng F) (hs : 0 ≤ F.start ∧ F.start < F.st) {p q : Nat → Bool} (hp : UsOk F p) (hq : UsOk F q) : kT F p = kT F q := by
  have hpq : ∀ j, j < F.st.toNat → p j = q j := fun j hj => by
    rw [Bool.eq_iff_iff, hp.iff j hj, hq.iff j hj]
  have h1 := rkB_cong F.st.toNat hpq
  have h2 := kfin_cong F.fin F.st.toNat hpq
  have h3 := karc_cong hpq (l := F.arcs) (fun a ha => by have := hF.arc a ha; omega) F.arcs.length (Nat.le_refl _)
  have h4 := rkB_cong (p := p) (q := q) F.start.toNat fun j hj => hpq j (by omega)
  unfold kT
  rw [hpq _ (by omega), h1, h2, h3, h4]

theorem IsUs.uniq {F U V : TF} (hF : FRng F) (hs : 0 ≤ F.start ∧ F.start < F.st) (hU : IsUs F U) (hV : IsUs F V) : U.st = V.st ∧ U.start = V.start ∧ U.fin = V.fin ∧ U.arcs = V.arcs := by
  obtain ⟨p, hp, a1, a2, a3, a4⟩ := hU
  obtain ⟨q, hq, b1, b2, b3, b4⟩ := hV
  rw [kT_cong hF hs hp hq] at a1 a2 a3 a4
  exact ⟨a1.trans b1.symm, a2.trans b2.symm, a3.trans b3.symm, a4.trans b4.symm⟩

theorem sbX_cap {U V : TF} (h2 : U.arcs = V.arcs) (c : Int) : sbX U c = sbX V c := by
  funext st x
  unfold sbX
  rw [h2]
theorem sbR_cap {U V : TF} (h2 : U.arcs = V.arcs) (s : List Duo) (c : Int) : sbR U s c = sbR V s c := by
  unfold sbR
  rw [sbX_cap h2]
theorem bgn_cap {U V : TF} (h1 : U.st = V.st) (h2 : U.arcs = V.arcs) : ∀ (f m : Nat) (s : List Duo), bgnF U f m s = bgnF V f m s
  | 0, _, _ => rfl
  | f + 1, m, s => by
    unfold bgnF sbB sbS
    simp only [sbR_cap h2, h1, bgn_cap h1 h2 f]
theorem IsUs.bgn {F U V : TF} (hF : FRng F) (hs : 0 ≤ F.start ∧ F.start < F.st) (hU : IsUs F U) (hV : IsUs F V) : bgnF U 201 200 [⟨U.start, 0⟩] = bgnF V 201 200 [⟨V.start, 0⟩] := by
  obtain ⟨h1, h2, h3, h4⟩ := hU.uniq hF hs hV
  rw [h2]
  exact bgn_cap h1 h4 _ _ _

section
variable {F U V : TF} (hF : FOk F) (hf : fineB F = true) (hU : IsUs F U) (hV : IsUs F V) {W vs : List (List Int)} {par sym : List Int} {i : Nat} {c : Int}
include hF hf hV
theorem us_ok : (∀ a ∈ V.arcs, (0 ≤ a.f ∧ a.f < V.st) ∧ (0 ≤ a.t ∧ a.t < V.st) ∧ 0 ≤ a.w ∧ a.w ≤ 1000000000) ∧ ∀ a ∈ V.arcs, 1 ≤ a.i ∧ a.i ≤ 9 := by
  have hw : WOk F := ⟨FRng.of hF, fun a ha => ⟨(hF.arc a ha).w0, (hF.arc a ha).w1⟩, hF.fin⟩
  have hv := hV.ok hw hF.start
  refine ⟨fun a ha => ?_, fun a ha => ?_⟩
  · have := hv.1.arc a ha
    have := hv.1.w a ha
    omega
  · obtain ⟨b, hb, e1, e2, _⟩ := hV.arcs ha
    have := (fineB_iff.1 hf).1 b hb
    have := (hF.arc b hb).i0
    omega
include hU
theorem bgn_yes (h : WSt V W vs par sym W.length 1) (hl : W.length ≤ 200) : bgnF U 201 200 [⟨U.start, 0⟩] ≤ 200 := by
  rw [hU.bgn (FRng.of hF) hF.start hV]
  obtain ⟨h1, h2⟩ := us_ok hF hf hV
  exact words_ok h1 h2 h hl
theorem bgn_no (h : WSt V W vs par sym i c) (hl : W.length = 201) : 200 < bgnF U 201 200 [⟨U.start, 0⟩] := by
  rw [hU.bgn (FRng.of hF) hF.start hV]
  obtain ⟨h1, h2⟩ := us_ok hF hf hV
  exact words_many h1 h2 h hl
end
end Go.Fw

/-
  What is made comes to an end, and is one thing alone.
-/
namespace Go.Fw

theorem IsUs.some (F : TF) : ∃ U, IsUs F U := by
  classical
  refine ⟨kT F fun j => decide (Rch F.arcs false [F.start] j ∧ ∃ e : Nat, e < F.st.toNat ∧ F.fin.getD e 0 ≠ -1 ∧ Rch F.arcs true [(e : Int)] j), _, ⟨fun j _ => ?_⟩, rfl, rfl, rfl, rfl⟩
  rw [decide_eq_true_eq]

theorem stD_cap {U V : TF} (h1 : U.st = V.st) (h2 : U.arcs = V.arcs) (i : Nat) (st : DS) (c : Int) : stD U i st c = stD V i st c := by
  unfold stD sbB sbS
  simp only [sbR_cap h2, h1]
theorem rowP_cap {U V : TF} (h1 : U.st = V.st) (h2 : U.arcs = V.arcs) (i : Nat) (st : DS) : ∀ k, rowP U i st k = rowP V i st k
  | 0 => rfl
  | k + 1 => by rw [rowP_succ, rowP_succ, rowP_cap h1 h2 i st k, stD_cap h1 h2]
theorem rowsD_cap {U V : TF} (h1 : U.st = V.st) (h2 : U.arcs = V.arcs) (h3 : U.start = V.start) : ∀ k, rowsD U k = rowsD V k
  | 0 => by unfold rowsD; rw [h3]
  | k + 1 => by
    show rowP U k (rowsD U k) 9 = rowP V k (rowsD V k) 9
    rw [rowsD_cap h1 h2 h3 k, rowP_cap h1 h2]
theorem MDone.cap {U V : TF} (h1 : U.st = V.st) (h2 : U.arcs = V.arcs) (h3 : U.start = V.start) {st : DS} (h : MDone U st) : MDone V st := by
  obtain ⟨k, e, hk⟩ := h
  exact ⟨k, by rw [← rowsD_cap h1 h2 h3]; exact e, hk⟩
theorem MDone.some {U : TF} (hU : 0 ≤ U.st) (hw : ∀ a ∈ U.arcs, 0 ≤ a.w ∧ a.w ≤ 1000000000) (hr : ∀ a ∈ U.arcs, 0 ≤ a.t ∧ a.t < U.st) (hs : 0 ≤ U.start ∧ U.start < U.st) (hb : bgnF U 201 200 [⟨U.start, 0⟩] ≤ 200) : ∃ st, MDone U st := by
  obtain ⟨g1, g2⟩ := tree_ok U 201 200 [⟨U.start, 0⟩] (by omega) hb
  have : ∀ k, (∃ st, MDone U st) ∨ MInv U (treeL U 201 [⟨U.start, 0⟩]) k (rowsD U k) ∧ k < (rowsD U k).1.length := by
    intro k
    induction k with
    | zero => exact .inr ⟨MInv.start hs (tree_self _ _ _), by simp [rowsD]⟩
    | succ k ih =>
      rcases ih with ih | ⟨h1, h2⟩
      · exact .inl ih
      · obtain ⟨p1, p2, p3⟩ := h1.row hU hw hr g2 h2 9 (Nat.le_refl _)
        have e : rowsD U (k + 1) = rowP U k (rowsD U k) 9 := rfl
        by_cases hk : k + 1 = (rowsD U (k + 1)).1.length
        · exact .inl ⟨_, k + 1, rfl, hk⟩
        · right
          rw [e] at hk ⊢
          exact ⟨⟨p1.sub, p1.nd, p1.ok, p1.ne, ⟨by omega, p1.len.2⟩, p1.raw⟩, by omega⟩
  rcases this 200 with h | ⟨h1, h2⟩
  · exact h
  · have := nd_le h1.nd h1.sub
    omega
end Go.Fw

/-
  What is made, before it is made least: bounds.
-/
namespace Go.Fw

section
variable {F U : TF} {st : DS} (h : DetH F U st) (h12 : F.st ≤ 12)
include h h12

theorem DetH.short {w : List Int} {t c : Int} (hr : RdW U.arcs U.start w t c) : w.length < 12 ∧ c ≤ 12000000000 := by
  obtain ⟨t', ht, hF⟩ := h.us.rd h.wok.toFRng h.fok.start h.lets hr
  have h1 := LvA.all (l := F.arcs) (n := F.st.toNat) (fun a ha => by
    have := h.fok.arc a ha
    have := this.t0
    have := (h.fok.arc a ha).t1
    omega) (fineB_iff.1 h.fine).2 (j := F.start) (by have := h.fok.start; omega) _ _ _ hF
  have h2 := hr.pos (fun a ha => (h.hU a ha).2.2)
  have h3 := h.fok.st
  omega

theorem DetH.wbd : ∀ a ∈ st.2, 0 ≤ a.w ∧ a.w ≤ 12000000000 := fun a ha => by
  have hr := h.ri
  obtain ⟨j, x, q1, q2, q3, q4, q5, q6, q7, q8, q9, q10⟩ := hr.arc ha
  obtain ⟨w, d, hrd⟩ := hr.rch j q2
  have hs := hr.sub h.hU hrd
  rw [Int.toNat_natCast] at hs
  have hlow := (sbR_spec (U := U) hs.b0 (fun a ha => (h.hU a ha).2.2.1) x).b.low
  change -1 ≤ sbB U _ x at hlow
  obtain ⟨t, c, hb⟩ := hs.yes h.hU q3
  have hs2 := hs.step h.hU q3
  obtain ⟨e, he, _⟩ := hs2.all _ _ hb
  have hp := (hs2.min e he).is (by have := hs2.r0; have := hs2.b0 e he; omega)
  have := (h.short h12 hp).2
  have := hs2.b0 e he
  have := hs.r0
  omega

theorem DetH.fbd : ∀ n ∈ st.1.map (finD U), -1 ≤ n ∧ n ≤ 13000000000 := fun n hn => by
  have hr := h.ri
  obtain ⟨s, hs, rfl⟩ := List.mem_map.1 hn
  obtain ⟨j, hj, rfl⟩ := List.mem_iff_getElem.1 hs
  have e : st.1.getD j [] = st.1[j] := by simp [List.getD, hj]
  rw [← e]
  obtain ⟨w, d, hrd⟩ := hr.rch j hj
  have hs := hr.sub h.hU hrd
  rw [Int.toNat_natCast] at hs
  have hm := finD_min (U := U) hs.b0 h.hfin
  refine ⟨hm.low, ?_⟩
  by_cases hn : finD U (st.1.getD j []) = -1
  · omega
  · obtain ⟨e, he, g1, g2⟩ := hm.is hn
    have hp := (hs.min e he).is (by have := hs.r0; have := hs.b0 e he; omega)
    have := (h.short h12 hp).2
    have := hs.r0
    have hfu : U.fin.getD e.a.toNat 0 ≤ 1000000000 := by
      by_cases hj : e.a.toNat < U.fin.length
      · exact (h.uok.1.fin _ (getD_mem U.fin _ 0 hj)).2
      · simp only [List.getD, List.getElem?_eq_none (show U.fin.length ≤ e.a.toNat by omega), Option.getD_none]; omega
    omega

/-- It is a transducer, but for greater weights. -/
theorem DetH.fokB (cf ca : Nat) : FOkB (mkD U st cf ca) ∧ Srt st.2 := by
  have hr := h.ri
  obtain ⟨h1, h2, h3⟩ := h.small
  have hl := hr.len
  refine ⟨⟨?_, ?_, ?_, ?_, ?_, ?_⟩, hr.srt⟩
  · show 1 ≤ ((st.1.length : Nat) : Int) ∧ ((st.1.length : Nat) : Int) ≤ 200
    omega
  · show 0 ≤ (0 : Int) ∧ (0 : Int) < ((st.1.length : Nat) : Int)
    omega
  · show ((st.1.map (finD U)).length : Int) = ((st.1.length : Nat) : Int)
    rw [List.length_map]
  · intro n hn
    have := h.fbd h12 n hn
    omega
  · show st.2.length ≤ 3000
    omega
  · intro a ha
    have ha : a ∈ st.2 := ha
    obtain ⟨j, x, q1, q2, q3, q4, q5, q6, q7, q8, q9, q10⟩ := hr.arc ha
    have := h.wbd h12 a ha
    exact ⟨by omega, by show a.f < ((st.1.length : Nat) : Int); omega, by omega, by show a.t < ((st.1.length : Nat) : Int); omega, by omega, by omega, by omega, by omega⟩
end
end Go.Fw
