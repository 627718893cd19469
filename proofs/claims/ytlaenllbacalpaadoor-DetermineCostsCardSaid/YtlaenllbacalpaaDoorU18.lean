/- Walks of the functions: what each computes. -/
import Derived.Test.YtlaenllbacalpaaDoorU17
import Derived.Test.YtlaenllbacalpaaDoorU13
import Derived.Test.YtlaenllbacalpaaDoorU10

set_option linter.unusedSimpArgs false
set_option linter.unusedVariables false

namespace Go.Fw
open Go Go.Proofs

theorem Tab2.congr {m : List (Addr × List Int × Nat)} {rows : List Sli} {N : Nat} {L L' : Nat → List Int} (h : Tab2 m rows N L) (he : ∀ j, j < N → L j = L' j) : Tab2 m rows N L' :=
  ⟨h.len, h.hd, fun j hj => by rw [← he j hj]; exact h.row j hj, h.dist⟩
theorem Tab2.push {m m' : List (Addr × List Int × Nat)} {rows : List Sli} {vs : List (List Int)} {xs : List Int} {sp : Nat} {y : Sli} (h : Tab2 m rows vs.length (fun j => vs.getD j [])) (hf : Frz m xs sp xs.length (xs.length + sp) m' y) (hx : xs ≠ []) :
    Tab2 m' (rows ++ [y]) (vs ++ [xs]).length (fun j => (vs ++ [xs]).getD j []) := by
  cases hf with
  | nil h => exact absurd h hx
  | @own a ha hb =>
    have hlen := h.len
    have hl : lkA ((a, xs, sp) :: m) a = some (xs, sp) := by simp [lkA]
    have hko : ∀ b, b ≠ a → lkA ((a, xs, sp) :: m) b = lkA m b := fun b hb => by simp only [lkA, if_neg (fun e => hb (e.symm) : ¬ a = b)]
    have hna : ∀ j, j < vs.length → (rows.getD j EK.sli.dflt).a ≠ some a := fun j hj e => by
      obtain ⟨y, g1, _⟩ := (h.hd j hj).some e
      rw [ha] at g1; cases g1
    have hkeep := h.keep (m' := (a, xs, sp) :: m) fun j b hj hb => hko b fun e => hna j hj (e ▸ hb)
    refine ⟨by simp [hlen], fun j hj => ?_, fun j hj => ?_, fun s t b h1 h2 h3 => ?_⟩
    · rw [snoc_getD]
      by_cases e : j = rows.length
      · rw [if_pos e]; exact Hd.of_some rfl hl rfl (Nat.le_refl _)
      · rw [if_neg e]; exact hkeep.hd j (by simp at hj; omega)
    · rw [snoc_getD, snoc_getD]
      by_cases e : j = rows.length
      · rw [if_pos e, if_pos (by omega)]; exact rowA_some hl
      · rw [if_neg e, if_neg (by omega)]; exact hkeep.row j (by simp at hj; omega)
    · rw [snoc_getD, snoc_getD]
      simp only [List.length_append, List.length_singleton] at h1 h2
      by_cases e : s = rows.length <;> by_cases e2 : t = rows.length
      · omega
      · rw [if_pos e, if_neg e2]
        intro q
        cases q
        exact hna t (by omega)
      · rw [if_neg e, if_pos e2]
        intro q1 q2
        cases q2
        exact hna s (by omega) q1
      · rw [if_neg e, if_neg e2]; exact h.dist s t b (by omega) (by omega) h3

/-- Where all is to be -1. -/
def iniV (n k : Nat) : List Int := List.replicate k (-1) ++ List.replicate (n - k) 0
theorem iniV_len {n k : Nat} (h : k ≤ n) : (iniV n k).length = n := by simp [iniV]; omega
theorem iniV_set {n k : Nat} (h : k < n) : (iniV n k).set k (-1) = iniV n (k + 1) := by
  unfold iniV
  rw [List.set_append_right _ _ (by simp), List.length_replicate, Nat.sub_self]
  obtain ⟨m, hm⟩ : ∃ m, n - k = m + 1 := ⟨n - k - 1, by omega⟩
  rw [hm, show n - (k + 1) = m by omega, List.replicate_succ, List.set_cons_zero, List.replicate_succ', List.append_assoc]
  rfl
theorem iniV_end (n : Nat) : iniV n n = List.replicate n (-1) := by simp [iniV]

theorem begun_vec {U : TF} (hs : 0 ≤ U.start ∧ U.start < U.st) : VecOk U [] (begun U) := by
  refine ⟨by simp [begun], fun q hq => ?_⟩
  have e : (begun U).getD q 0 = if (q : Int) = U.start then 0 else -1 := by
    simp [begun, List.getD, hq, begF]
  rw [e]
  by_cases h : (q : Int) = U.start
  · rw [if_pos h]
    refine .inr ⟨Int.le_refl _, by rw [h]; exact .nil _, fun c hc => ?_⟩
    have := (hc.none rfl).2
    omega
  · rw [if_neg h]
    refine .inl ⟨rfl, fun c hc => h ?_⟩
    exact (hc.none rfl).1

/-- The words, told. -/
def WordsPost (F : TF) (v : SV) (s : S) : Prop := ∃ (U : TF) (W vs : List (List Int)) (par sym : List Int) (i : Nat) (c : Int) (ok : Bool) (rows : List Sli) (m : List (Addr × List Int × Nat)) (spU sqU sr sp sy : Nat),
  IsUs F U ∧ U.capF = U.fin.length + spU ∧ U.capA = U.arcs.length + sqU ∧ WSt U W vs par sym i c ∧ Tab2 m rows vs.length (fun j => vs.getD j []) ∧ (ok = true ∧ W.length ≤ 200 ∧ i = W.length ∧ c = 1 ∨ ok = false ∧ W.length = 201) ∧
  v = .tup [.agg (cWo U 2 3 4 6 7 rows.length (rows.length + sr) par.length (par.length + sp) sym.length (sym.length + sy)), .c (.b ok)] ∧
  s = ⟨[], [(2, .arr true 3 .int U.fin spU), (3, .arr true 50 .arc U.arcs sqU), (4, .arr true 22 .sli rows sr), (5, .pool 3 .int m), (6, .arr true 3 .int par sp), (7, .arr true 3 .int sym sy)], 8⟩

/-- What goes round. -/
structure WZ where
  W : List (List Int)
  vs : List (List Int)
  par : List Int
  sym : List Int
  rows : List Sli
  m : List (Addr × List Int × Nat)
  sr : Nat
  sp : Nat
  sy : Nat
structure WOkZ (U : TF) (z : WZ) (i : Nat) (c : Int) : Prop where
  st : WSt U z.W z.vs z.par z.sym i c
  tab : Tab2 z.m z.rows z.vs.length (fun j => z.vs.getD j [])
  len : z.W.length ≤ 200

set_option maxHeartbeats 16000000 in
set_option maxRecDepth 20000 in
theorem wordsOf_c (F : TF) (hF : WOk F) (hF2 : F.st ≤ 200) (hs : 0 ≤ F.start ∧ F.start < F.st) :
    Ct Tryd.prog 17 [fV F] [] (hpF F) 2 (WordsPost F) := by
  refine ctC Tryd.tyOk Tryd.func17 (c := Tryd.f17.body.getD .skip) rfl (by simp [SV.lt, SA.lt, SC.lt, fV]) (by simp) (fr := [(0, fV F)]) rfl ?_
  refine wordsA F hF hF2 hs fun U spU sqU rows m sr sp sy hus hcF hcA htab => ?_
  obtain ⟨hUw, hUs, hUst⟩ := hus.ok hF hs
  have hU0 := hUw.st
  have hUl := hUw.finl
  have hUa := hUw.arcl
  have hV0 := begun_vec hUs
  have hUr : ∀ a ∈ U.arcs, (0 ≤ a.f ∧ a.f < U.st) ∧ (0 ≤ a.t ∧ a.t < U.st) ∧ 0 ≤ a.w ∧ a.w ≤ 1000000000 := fun a ha => by
    have := hUw.arc a ha
    have := hUw.w a ha
    omega
  have hz0 : WOkZ U ⟨[[]], [begun U], [-1], [0], rows, m, sr, sp, sy⟩ 0 1 := ⟨WSt.start hV0, htab.congr fun j hj => by rw [show j = 0 by omega]; rfl, by simp⟩
  refine SemC.of Tryd.tyOk 12 [] ?_
  repeat' (first | exact rfl | ((conv => whnf); first | ((first | refine qA (fun h => ?_) fun h => ?_ | refine qN (fun h => ?_) fun h => ?_ | refine qB (fun h => ?_) fun h => ?_ | refine qC (fun h => ?_) fun h => ?_) <;> try exact absurd h (by omega)) | refine qM (fun h => ?_) fun h => ?_ | refine oM (by (first | omega | (simp only [lenS, InI, nmin, EK.sz]; omega) | (simp only [lenS, InI, nmin, EK.sz] at *; omega))) ?_ | refine oM ?_ ?_ | refine bM ?_ ?_ | refine draw_of Tryd.mixed Tryd.tyOk 60 (by kernel_rfl) ?_))
  (conv => whnf)
  refine loopI (fun z : Nat × WZ => ⟨[(1, .c (.ptr 2 0)), (2, .c (.ptr 3 0)), (4, .c (.ptr 4 0)), (5, .i z.1)], hpWo F U spU sqU z.2.rows z.2.m z.2.par z.2.sym z.2.sr z.2.sp z.2.sy, 11⟩)
    (fun z => z.1 ≤ z.2.W.length ∧ WOkZ U z.2 z.1 1) (fun z => 200 - z.1) (0, ⟨[[]], [begun U], [-1], [0], rows, m, sr, sp, sy⟩) [] ⟨by rfl, ?_, ?_⟩ ⟨Nat.zero_le _, hz0⟩ ?_
  · simp [eqFr, eqHp, eqV, eqA, eqC, eqO, eqCs, eqAs, look_cons, look, rn, EK.cast, EK.sz, eqCaps]
  · simp [eqFr, eqHp, eqV, eqA, eqC, eqO, eqCs, eqAs, look_cons, look, rn, EK.cast, EK.sz, eqCaps, fCells]
  · clear hz0 htab rows m sr sp sy
    rintro ⟨i, z⟩ ⟨hi, hz⟩
    simp only at hi hz ⊢
    have hrl := hz.tab.len
    have hlv := hz.st.lv
    have hlp := hz.st.lp
    have hls := hz.st.ls
    have hle := hz.len
    obtain ⟨W, vs, par, sym, rows, m, sr, sp, sy⟩ := z
    simp only at hi hrl hlv hlp hls hle ⊢
    (conv => whnf)
    refine condP_dec (fun hi2 => ?_) (fun hi2 => ?_)
    · repeat' (first | exact rfl | ((conv => whnf); first | ((first | refine qA (fun h => ?_) fun h => ?_ | refine qN (fun h => ?_) fun h => ?_ | refine qB (fun h => ?_) fun h => ?_ | refine qC (fun h => ?_) fun h => ?_) <;> try exact absurd h (by omega)) | refine qM (fun h => ?_) fun h => ?_ | refine oM (by (first | omega | (simp only [lenS, InI, nmin, EK.sz]; omega) | (simp only [lenS, InI, nmin, EK.sz] at *; omega))) ?_ | refine oM ?_ ?_ | refine bM ?_ ?_ | refine draw_of Tryd.mixed Tryd.tyOk 60 (by kernel_rfl) ?_))
      (conv => whnf)
      refine loopI (fun z : Nat × WZ => ⟨[(1, .c (.ptr 2 0)), (2, .c (.ptr 3 0)), (4, .c (.ptr 4 0)), (5, .i i), (6, .i z.1)], hpWo F U spU sqU z.2.rows z.2.m z.2.par z.2.sym z.2.sr z.2.sp z.2.sy, 11⟩)
        (fun z => (1 ≤ z.1 ∧ z.1 ≤ 10) ∧ i < z.2.W.length ∧ WOkZ U z.2 i (z.1 : Nat)) (fun z => 10 - z.1) (1, ⟨W, vs, par, sym, rows, m, sr, sp, sy⟩) [] ⟨by rfl, ?_, ?_⟩ ⟨by simp, by simp only; omega, hz⟩ ?_
      · simp [eqFr, eqHp, eqV, eqA, eqC, eqO, eqCs, eqAs, look_cons, look, rn, EK.cast, EK.sz, eqCaps]
      · simp [eqFr, eqHp, eqV, eqA, eqC, eqO, eqCs, eqAs, look_cons, look, rn, EK.cast, EK.sz, eqCaps, fCells]
      · clear hz hi hrl hlv hlp hls hle hi2 W vs par sym rows m sr sp sy
        rintro ⟨c, z⟩ ⟨hc, hi, hz⟩
        simp only at hc hi hz ⊢
        have hrl := hz.tab.len
        have hlv := hz.st.lv
        have hlp := hz.st.lp
        have hls := hz.st.ls
        have hle := hz.len
        obtain ⟨W, vs, par, sym, rows, m, sr, sp, sy⟩ := z
        simp only at hi hrl hlv hlp hls hle ⊢
        (conv => whnf)
        refine condP_dec (fun hc2 => ?_) (fun hc2 => ?_)
        · repeat' (first | exact rfl | ((conv => whnf); first | ((first | refine qA (fun h => ?_) fun h => ?_ | refine qN (fun h => ?_) fun h => ?_ | refine qB (fun h => ?_) fun h => ?_ | refine qC (fun h => ?_) fun h => ?_) <;> try exact absurd h (by omega)) | refine qM (fun h => ?_) fun h => ?_ | refine oM (by (first | omega | (simp only [lenS, InI, nmin, EK.sz]; omega) | (simp only [lenS, InI, nmin, EK.sz] at *; omega))) ?_ | refine oM ?_ ?_ | refine bM ?_ ?_ | refine draw_of Tryd.mixed Tryd.tyOk 60 (by kernel_rfl) ?_))
          (conv => whnf)
          refine loopI (fun n : Nat => ⟨[(1, .c (.ptr 2 0)), (2, .c (.ptr 3 0)), (4, .c (.ptr 4 0)), (5, .i i), (6, .i c), (7, .c (.sl 11 1 0 U.st.toNat U.st.toNat)), (8, .b false), (9, .i n)], hpWo F U spU sqU rows m par sym sr sp sy ++ [(11, .arr true 3 .int (iniV U.st.toNat n) 0)], 12⟩)
            (fun n => n ≤ U.st.toNat) (fun n => U.st.toNat - n) 0 [] ⟨by rfl, ?_, ?_⟩ (Nat.zero_le _) ?_
          · simp [eqFr, eqHp, eqV, eqA, eqC, eqO, eqCs, eqAs, look_cons, look, rn, EK.cast, EK.sz, eqCaps]
          · simp [eqFr, eqHp, eqV, eqA, eqC, eqO, eqCs, eqAs, look_cons, look, rn, EK.cast, EK.sz, eqCaps, fCells, iniV, EK.dflt]
          · intro n hn
            have hnl := iniV_len hn
            (conv => whnf)
            refine condP_dec (fun hn2 => ?_) (fun hn2 => ?_)
            · have hns := iniV_set (show n < U.st.toNat by omega)
              repeat' (first | exact rfl | ((conv => whnf); first | ((first | refine qA (fun h => ?_) fun h => ?_ | refine qN (fun h => ?_) fun h => ?_ | refine qB (fun h => ?_) fun h => ?_ | refine qC (fun h => ?_) fun h => ?_) <;> try exact absurd h (by omega)) | refine qM (fun h => ?_) fun h => ?_ | refine oM (by (first | omega | (simp only [lenS, InI, nmin, EK.sz]; omega) | (simp only [lenS, InI, nmin, EK.sz] at *; omega))) ?_ | refine oM ?_ ?_ | refine bM ?_ ?_ | refine draw_of Tryd.mixed Tryd.tyOk 60 (by kernel_rfl) ?_))
              (conv => whnf)
              refine ⟨n + 1, [], ⟨by rfl, ?_, ?_⟩, by omega, by omega⟩
              · simp [eqFr, eqHp, eqV, eqA, eqC, eqO, eqCs, eqAs, look_cons, look, rn, EK.cast, EK.sz, eqCaps]
              · simp [eqFr, eqHp, eqV, eqA, eqC, eqO, eqCs, eqAs, look_cons, look, rn, EK.cast, EK.sz, eqCaps, fCells, hns]
            · have e : n = U.st.toNat := by omega
              subst e
              rw [iniV_end]
              have hvi := hz.st.vec i hi
              have hrow := hz.tab.row i (by simp only; omega)
              have hvd := hvi.bd hUr
              have hwl := hz.st.wl i hi
              have hin := (hz.tab.hd i (by simp only; omega)).len
              have hvl := hvi.len
              have e0 : 0 + (i : Int).toNat = i := by omega
              simp only at hrow hin hvi hvl hvd hwl
              rw [hrow] at hin
              generalize hVe : vs.getD i [] = V at *
              rw [hvl, ← e0] at hin
              rw [← e0] at hrow
              have hr1 : (rowA m (rows.getD (0 + (i : Int).toNat) EK.sli.dflt).a).length = U.st.toNat := by rw [hrow, hvl]
              repeat' (first | exact rfl | ((conv => whnf); first | ((first | refine qA (fun h => ?_) fun h => ?_ | refine qN (fun h => ?_) fun h => ?_ | refine qB (fun h => ?_) fun h => ?_ | refine qC (fun h => ?_) fun h => ?_) <;> try exact absurd h (by omega)) | refine qM (fun h => ?_) fun h => ?_ | refine oM (by (first | omega | (simp only [lenS, InI, nmin, EK.sz]; omega) | (simp only [lenS, InI, nmin, EK.sz] at *; omega))) ?_ | refine oM ?_ ?_ | refine bM ?_ ?_ | refine draw_of Tryd.mixed Tryd.tyOk 60 (by kernel_rfl) ?_))
              (conv => whnf)
              refine loopI (fun k : Nat => ⟨[(1, .c (.ptr 2 0)), (2, .c (.ptr 3 0)), (4, .c (.ptr 4 0)), (5, .i i), (6, .i c), (7, .c (.sl 11 1 0 U.st.toNat U.st.toNat)), (8, .b (nvA U.arcs V c k)), (10, .i k)], hpWo F U spU sqU rows m par sym sr sp sy ++ [(11, .arr true 3 .int (nvL U.arcs V c U.st.toNat k) 0)], 12⟩)
                (fun k => k ≤ U.arcs.length) (fun k => U.arcs.length - k) 0 [] ⟨by rfl, ?_, ?_⟩ (Nat.zero_le _) ?_
              · simp [eqFr, eqHp, eqV, eqA, eqC, eqO, eqCs, eqAs, look_cons, look, rn, EK.cast, EK.sz, eqCaps, nvA]
              · simp [eqFr, eqHp, eqV, eqA, eqC, eqO, eqCs, eqAs, look_cons, look, rn, EK.cast, EK.sz, eqCaps, fCells, nvL]
              · intro k hk
                have hnl := nvL_len U.arcs V c U.st.toNat k
                have hks : nvL U.arcs V c U.st.toNat (k + 1) = if nvB V c (U.arcs.getD k aD) = true then (nvL U.arcs V c U.st.toNat k).set (U.arcs.getD k aD).t.toNat (less ((nvL U.arcs V c U.st.toNat k).getD (U.arcs.getD k aD).t.toNat 0) (V.getD (U.arcs.getD k aD).f.toNat 0 + (U.arcs.getD k aD).w)) else nvL U.arcs V c U.st.toNat k := rfl
                have hka : nvA U.arcs V c (k + 1) = if nvB V c (U.arcs.getD k aD) = true then true else nvA U.arcs V c k := rfl
                (conv => whnf)
                refine condP_dec (fun hk2 => ?_) (fun hk2 => ?_)
                · have ek : 0 + (k : Int).toNat = k := by omega
                  have hb := hUr _ (getD_mem U.arcs k aD (by omega))
                  have hbb : nvB V c (U.arcs.getD k aD) = ((U.arcs.getD k aD).i == c && decide (0 ≤ V.getD (U.arcs.getD k aD).f.toNat 0)) := rfl
                  generalize hax : U.arcs.getD k aD = ax at *
                  have hax2 : U.arcs.getD (0 + (k : Int).toNat) EK.arc.dflt = ax := by rw [← hax, ek]; rfl
                  generalize hnv : nvL U.arcs V c U.st.toNat k = nv at *
                  rw [← hax2] at hb
                  have hv3 : -1 ≤ (rowA m (rows.getD (0 + (i : Int).toNat) EK.sli.dflt).a).getD (U.arcs.getD (0 + (k : Int).toNat) EK.arc.dflt).f.toNat EK.int.dflt ∧ (rowA m (rows.getD (0 + (i : Int).toNat) EK.sli.dflt).a).getD (U.arcs.getD (0 + (k : Int).toNat) EK.arc.dflt).f.toNat EK.int.dflt ≤ 1000000000 * 200 := by
                    rw [hrow]
                    have h9 : -1 ≤ V.getD (U.arcs.getD (0 + (k : Int).toNat) EK.arc.dflt).f.toNat 0 ∧ V.getD (U.arcs.getD (0 + (k : Int).toNat) EK.arc.dflt).f.toNat 0 ≤ 1000000000 * 200 := by
                      have := hvd (U.arcs.getD (0 + (k : Int).toNat) EK.arc.dflt).f.toNat
                      omega
                    exact h9
                  repeat' (first | exact rfl | ((conv => whnf); first | ((first | refine qA (fun h => ?_) fun h => ?_ | refine qN (fun h => ?_) fun h => ?_ | refine qB (fun h => ?_) fun h => ?_ | refine qC (fun h => ?_) fun h => ?_) <;> try exact absurd h (by omega)) | refine qM (fun h => ?_) fun h => ?_ | refine oM (by (first | omega | (simp only [lenS, InI, nmin, EK.sz]; omega) | (simp only [lenS, InI, nmin, EK.sz] at *; omega))) ?_ | refine oM ?_ ?_ | refine bM ?_ ?_ | refine draw_of Tryd.mixed Tryd.tyOk 60 (by kernel_rfl) ?_))
                  · have hy : nvB V c ax = true := by
                      rename_i g
                      rw [hbb, ← hax2, g, beq_self_eq_true, Bool.true_and, decide_eq_true_eq]
                      rw [hrow] at h
                      exact h
                    rw [if_pos hy] at hks hka
                    (conv => whnf)
                    refine callF (less_c (nv.getD (0 + (U.arcs.getD (0 + (k : Int).toNat) EK.arc.dflt).t.toNat) EK.int.dflt) ((rowA m (rows.getD (0 + (i : Int).toNat) EK.sli.dflt).a).getD (U.arcs.getD (0 + (k : Int).toNat) EK.arc.dflt).f.toNat EK.int.dflt + (U.arcs.getD (0 + (k : Int).toNat) EK.arc.dflt).w)) [] Tryd.call41 rfl (by simp [eqLs, eqL, eqO, eqC, eqCs, rn, renOf, look_cons, look, EK.cast]) (by simp [appN, ptrs, eqVL, eqV, eqA, eqC, eqCs, eqAs, eqCaps, EK.sz, rn, renOf, look_cons, look, arcV, fV]) (by simp [appN, ptrs, SV.lt, SA.lt, SC.lt, arcV, fV, lenN]) ?_
                    rintro _ _ ⟨rfl, rfl⟩
                    repeat' (first | exact rfl | ((conv => whnf); first | ((first | refine qA (fun h => ?_) fun h => ?_ | refine qN (fun h => ?_) fun h => ?_ | refine qB (fun h => ?_) fun h => ?_ | refine qC (fun h => ?_) fun h => ?_) <;> try exact absurd h (by omega)) | refine qM (fun h => ?_) fun h => ?_ | refine oM (by (first | omega | (simp only [lenS, InI, nmin, EK.sz]; omega) | (simp only [lenS, InI, nmin, EK.sz] at *; omega))) ?_ | refine oM ?_ ?_ | refine bM ?_ ?_ | refine draw_of Tryd.mixed Tryd.tyOk 60 (by kernel_rfl) ?_))
                    (conv => whnf)
                    refine ⟨k + 1, [], ⟨by rfl, ?_, ?_⟩, by omega, by omega⟩
                    · simp [eqFr, eqHp, eqV, eqA, eqC, eqO, eqCs, eqAs, look_cons, look, rn, EK.cast, EK.sz, eqCaps, hka]
                    · simp [eqFr, eqHp, eqV, eqA, eqC, eqO, eqCs, eqAs, look_cons, look, rn, EK.cast, EK.sz, eqCaps, fCells]
                      rw [hks, ← hax2, ← hrow]
                      simp [e0, ek, EK.dflt]
                  · have hy : nvB V c ax = false := by
                      rename_i g
                      rw [hbb, ← hax2, g, beq_self_eq_true, Bool.true_and, decide_eq_false_iff_not]
                      rw [hrow] at h
                      exact h
                    rw [hy, if_neg (by simp)] at hks hka
                    (conv => whnf)
                    refine ⟨k + 1, [], ⟨by rfl, ?_, ?_⟩, by omega, by omega⟩
                    · simp [eqFr, eqHp, eqV, eqA, eqC, eqO, eqCs, eqAs, look_cons, look, rn, EK.cast, EK.sz, eqCaps, hka]
                    · simp [eqFr, eqHp, eqV, eqA, eqC, eqO, eqCs, eqAs, look_cons, look, rn, EK.cast, EK.sz, eqCaps, fCells, hks]
                  · have hy : nvB V c ax = false := by
                      rw [hbb, ← hax2, beq_eq_false_iff_ne.2 h, Bool.false_and]
                    rw [hy, if_neg (by simp)] at hks hka
                    (conv => whnf)
                    refine ⟨k + 1, [], ⟨by rfl, ?_, ?_⟩, by omega, by omega⟩
                    · simp [eqFr, eqHp, eqV, eqA, eqC, eqO, eqCs, eqAs, look_cons, look, rn, EK.cast, EK.sz, eqCaps, hka]
                    · simp [eqFr, eqHp, eqV, eqA, eqC, eqO, eqCs, eqAs, look_cons, look, rn, EK.cast, EK.sz, eqCaps, fCells, hks]
                · have e : k = U.arcs.length := by omega
                  subst e
                  have hstep := hvi.step hUr c
                  have hany := hvi.any hUr c
                  have hne : nvL U.arcs V c U.st.toNat U.arcs.length ≠ [] := fun e => by
                    rw [e] at hnl
                    simp at hnl
                    omega
                  generalize nvL U.arcs V c U.st.toNat U.arcs.length = nv at *
                  generalize nvA U.arcs V c U.arcs.length = na at *
                  cases na with
                  | false =>
                    repeat' (first | exact rfl | ((conv => whnf); first | ((first | refine qA (fun h => ?_) fun h => ?_ | refine qN (fun h => ?_) fun h => ?_ | refine qB (fun h => ?_) fun h => ?_ | refine qC (fun h => ?_) fun h => ?_) <;> try exact absurd h (by omega)) | refine qM (fun h => ?_) fun h => ?_ | refine oM (by (first | omega | (simp only [lenS, InI, nmin, EK.sz]; omega) | (simp only [lenS, InI, nmin, EK.sz] at *; omega))) ?_ | refine oM ?_ ?_ | refine bM ?_ ?_ | refine draw_of Tryd.mixed Tryd.tyOk 60 (by kernel_rfl) ?_))
                    (conv => whnf)
                    refine ⟨(c + 1, ⟨W, vs, par, sym, rows, m, sr, sp, sy⟩), [], ⟨by rfl, ?_, ?_⟩, ⟨by simp only; omega, hi, ⟨hz.st.skip (fun hb => (by have := hany.2 hb; cases this)), hz.tab, hz.len⟩⟩, by simp only; omega⟩
                    · simp [eqFr, eqHp, eqV, eqA, eqC, eqO, eqCs, eqAs, look_cons, look, rn, EK.cast, EK.sz, eqCaps]
                    · simp [eqFr, eqHp, eqV, eqA, eqC, eqO, eqCs, eqAs, look_cons, look, rn, EK.cast, EK.sz, eqCaps, fCells]
                  | true =>
                    have hpu : WSt U (W ++ [W.getD i [] ++ [(c : Int)]]) (vs ++ [nv]) (par ++ [(i : Int)]) (sym ++ [(c : Int)]) i ((c : Int) + 1) := hz.st.push hi (by omega) hstep (hany.1 rfl)
                    repeat' (first | exact rfl | ((conv => whnf); first | ((first | refine qA (fun h => ?_) fun h => ?_ | refine qN (fun h => ?_) fun h => ?_ | refine qB (fun h => ?_) fun h => ?_ | refine qC (fun h => ?_) fun h => ?_) <;> try exact absurd h (by omega)) | refine qM (fun h => ?_) fun h => ?_ | refine oM (by (first | omega | (simp only [lenS, InI, nmin, EK.sz]; omega) | (simp only [lenS, InI, nmin, EK.sz] at *; omega))) ?_ | refine oM ?_ ?_ | refine bM ?_ ?_))
                    (conv => whnf)
                    refine drawCut (fun z : List Sli × List (Addr × List Int × Nat) × Nat × Nat × Nat => ⟨[(1, .c (.ptr 2 0)), (2, .c (.ptr 3 0)), (4, .c (.ptr 4 0)), (5, .i i), (6, .i c)], hpWo F U spU sqU z.1 z.2.1 (par ++ [(i : Int)]) (sym ++ [(c : Int)]) z.2.2.1 z.2.2.2.1 z.2.2.2.2, 11⟩)
                      (fun z => Tab2 z.2.1 z.1 (vs ++ [nv]).length (fun j => (vs ++ [nv]).getD j [])) ?_ ?_
                    · repeat' (first | exact rfl | ((conv => whnf); first | ((first | refine qA (fun h => ?_) fun h => ?_ | refine qN (fun h => ?_) fun h => ?_ | refine qB (fun h => ?_) fun h => ?_ | refine qC (fun h => ?_) fun h => ?_) <;> try exact absurd h (by omega)) | refine qM (fun h => ?_) fun h => ?_ | refine oM (by (first | omega | (simp only [lenS, InI, nmin, EK.sz]; omega) | (simp only [lenS, InI, nmin, EK.sz] at *; omega))) ?_ | refine oM ?_ ?_ | refine bM ?_ ?_ | refine draw_of Tryd.mixed Tryd.tyOk 60 (by kernel_rfl) ?_ | intro _))
                      all_goals
                        first
                        | exact trivial
                        | (
                          (conv => whnf)
                          simp only [Nat.reduceAdd, Nat.reduceSub]
                          rename_i m' y hfz q1 q2 q3
                          have htab := hz.tab.push (by rw [hnl]; exact hfz) hne
                          first
                          | (refine ⟨(rows ++ [y], m', q1, q2, q3), [(7, some 13), (9, some 15), (10, some 17)], ⟨by rfl, ?_, ?_⟩, htab⟩; (focus (simp [eqFr, eqHp, eqV, eqA, eqC, eqO, eqCs, eqAs, look_cons, look, rn, EK.cast, EK.sz, eqCaps]; done)); (focus (simp [eqFr, eqHp, eqV, eqA, eqC, eqO, eqCs, eqAs, look_cons, look, rn, EK.cast, EK.sz, eqCaps, fCells, app_one]; done)))
                          | (refine ⟨(rows ++ [y], m', q1, q2, q3), [(7, some 13), (9, some 16), (10, some 17)], ⟨by rfl, ?_, ?_⟩, htab⟩; (focus (simp [eqFr, eqHp, eqV, eqA, eqC, eqO, eqCs, eqAs, look_cons, look, rn, EK.cast, EK.sz, eqCaps]; done)); (focus (simp [eqFr, eqHp, eqV, eqA, eqC, eqO, eqCs, eqAs, look_cons, look, rn, EK.cast, EK.sz, eqCaps, fCells, app_one]; done)))
                          | (refine ⟨(rows ++ [y], m', q1, q2, q3), [(7, some 14), (9, some 15), (10, some 17)], ⟨by rfl, ?_, ?_⟩, htab⟩; (focus (simp [eqFr, eqHp, eqV, eqA, eqC, eqO, eqCs, eqAs, look_cons, look, rn, EK.cast, EK.sz, eqCaps]; done)); (focus (simp [eqFr, eqHp, eqV, eqA, eqC, eqO, eqCs, eqAs, look_cons, look, rn, EK.cast, EK.sz, eqCaps, fCells, app_one]; done)))
                          | (refine ⟨(rows ++ [y], m', q1, q2, q3), [(7, some 14), (9, some 16), (10, some 17)], ⟨by rfl, ?_, ?_⟩, htab⟩; (focus (simp [eqFr, eqHp, eqV, eqA, eqC, eqO, eqCs, eqAs, look_cons, look, rn, EK.cast, EK.sz, eqCaps]; done)); (focus (simp [eqFr, eqHp, eqV, eqA, eqC, eqO, eqCs, eqAs, look_cons, look, rn, EK.cast, EK.sz, eqCaps, fCells, app_one]; done)))
                          | (refine ⟨(rows ++ [y], m', q1, q2, q3), [(7, some 15), (9, some 16), (10, some 17)], ⟨by rfl, ?_, ?_⟩, htab⟩; (focus (simp [eqFr, eqHp, eqV, eqA, eqC, eqO, eqCs, eqAs, look_cons, look, rn, EK.cast, EK.sz, eqCaps]; done)); (focus (simp [eqFr, eqHp, eqV, eqA, eqC, eqO, eqCs, eqAs, look_cons, look, rn, EK.cast, EK.sz, eqCaps, fCells, app_one]; done))))
                    · rintro ⟨rows2, m2, sr2, sp2, sy2⟩ htab2
                      simp only at htab2 ⊢
                      have hr2 := htab2.len
                      simp only [List.length_append, List.length_singleton] at hr2
                      repeat' (first | exact rfl | ((conv => whnf); first | ((first | refine qA (fun h => ?_) fun h => ?_ | refine qN (fun h => ?_) fun h => ?_ | refine qB (fun h => ?_) fun h => ?_ | refine qC (fun h => ?_) fun h => ?_) <;> try exact absurd h (by omega)) | refine qM (fun h => ?_) fun h => ?_ | refine oM (by (first | omega | (simp only [lenS, InI, nmin, EK.sz]; omega) | (simp only [lenS, InI, nmin, EK.sz] at *; omega))) ?_ | refine oM ?_ ?_ | refine bM ?_ ?_ | refine draw_of Tryd.mixed Tryd.tyOk 60 (by kernel_rfl) ?_))
                      · (conv => whnf)
                        refine ⟨[(2, some 5), (3, some 6), (4, some 7), (5, some 8), (6, some 9), (7, some 10)], [(2, .arr true 3 .int U.fin spU), (3, .arr true 50 .arc U.arcs sqU), (4, .arr true 22 .sli rows2 sr2), (5, .pool 3 .int m2), (6, .arr true 3 .int (par ++ [(i : Int)]) sp2), (7, .arr true 3 .int (sym ++ [(c : Int)]) sy2)], 8, .tup [.agg (cWo U 2 3 4 6 7 rows2.length (rows2.length + sr2) (par ++ [(i : Int)]).length ((par ++ [(i : Int)]).length + sp2) (sym ++ [(c : Int)]).length ((sym ++ [(c : Int)]).length + sy2)), .c (.b false)], ⟨by rfl, trivial, by simp [eqFr, eqHp, eqV, eqA, eqC, eqO, eqCs, eqAs, look_cons, look, rn, EK.cast, EK.sz, eqCaps]⟩, by simp [eqV, eqA, eqAs, eqC, eqCs, rn, look, look_cons, EK.sz], U, W ++ [W.getD i [] ++ [(c : Int)]], vs ++ [nv], par ++ [(i : Int)], sym ++ [(c : Int)], i, (c : Int) + 1, false, rows2, m2, spU, sqU, sr2, sp2, sy2, hus, hcF, hcA, hpu, htab2, .inr ⟨rfl, by rw [List.length_append, List.length_singleton]; omega⟩, rfl, rfl⟩
                      · (conv => whnf)
                        refine ⟨(c + 1, ⟨W ++ [W.getD i [] ++ [(c : Int)]], vs ++ [nv], par ++ [(i : Int)], sym ++ [(c : Int)], rows2, m2, sr2, sp2, sy2⟩), [], ⟨by rfl, ?_, ?_⟩, ⟨by simp only; omega, by simp only [List.length_append, List.length_singleton]; omega, ⟨hpu, htab2, by simp only [List.length_append, List.length_singleton]; omega⟩⟩, by simp only; omega⟩
                        · simp [eqFr, eqHp, eqV, eqA, eqC, eqO, eqCs, eqAs, look_cons, look, rn, EK.cast, EK.sz, eqCaps]
                        · simp [eqFr, eqHp, eqV, eqA, eqC, eqO, eqCs, eqAs, look_cons, look, rn, EK.cast, EK.sz, eqCaps, fCells]
        · have e : c = 10 := by omega
          subst e
          repeat' (first | exact rfl | ((conv => whnf); first | ((first | refine qA (fun h => ?_) fun h => ?_ | refine qN (fun h => ?_) fun h => ?_ | refine qB (fun h => ?_) fun h => ?_ | refine qC (fun h => ?_) fun h => ?_) <;> try exact absurd h (by omega)) | refine qM (fun h => ?_) fun h => ?_ | refine oM (by (first | omega | (simp only [lenS, InI, nmin, EK.sz]; omega) | (simp only [lenS, InI, nmin, EK.sz] at *; omega))) ?_ | refine oM ?_ ?_ | refine bM ?_ ?_ | refine draw_of Tryd.mixed Tryd.tyOk 60 (by kernel_rfl) ?_))
          (conv => whnf)
          refine ⟨(i + 1, ⟨W, vs, par, sym, rows, m, sr, sp, sy⟩), [], ⟨by rfl, ?_, ?_⟩, ⟨by simp only; omega, ⟨hz.st.next, hz.tab, hz.len⟩⟩, by simp only; omega⟩
          · simp [eqFr, eqHp, eqV, eqA, eqC, eqO, eqCs, eqAs, look_cons, look, rn, EK.cast, EK.sz, eqCaps]
          · simp [eqFr, eqHp, eqV, eqA, eqC, eqO, eqCs, eqAs, look_cons, look, rn, EK.cast, EK.sz, eqCaps, fCells]
    · have e : i = W.length := by omega
      subst e
      repeat' (first | exact rfl | ((conv => whnf); first | ((first | refine qA (fun h => ?_) fun h => ?_ | refine qN (fun h => ?_) fun h => ?_ | refine qB (fun h => ?_) fun h => ?_ | refine qC (fun h => ?_) fun h => ?_) <;> try exact absurd h (by omega)) | refine qM (fun h => ?_) fun h => ?_ | refine oM (by (first | omega | (simp only [lenS, InI, nmin, EK.sz]; omega) | (simp only [lenS, InI, nmin, EK.sz] at *; omega))) ?_ | refine oM ?_ ?_ | refine bM ?_ ?_ | refine draw_of Tryd.mixed Tryd.tyOk 60 (by kernel_rfl) ?_))
      (conv => whnf)
      refine ⟨[(2, some 5), (3, some 6), (4, some 7), (5, some 8), (6, some 9), (7, some 10)], [(2, .arr true 3 .int U.fin spU), (3, .arr true 50 .arc U.arcs sqU), (4, .arr true 22 .sli rows sr), (5, .pool 3 .int m), (6, .arr true 3 .int par sp), (7, .arr true 3 .int sym sy)], 8, .tup [.agg (cWo U 2 3 4 6 7 rows.length (rows.length + sr) par.length (par.length + sp) sym.length (sym.length + sy)), .c (.b true)], ⟨by rfl, trivial, by simp [eqFr, eqHp, eqV, eqA, eqC, eqO, eqCs, eqAs, look_cons, look, rn, EK.cast, EK.sz, eqCaps]⟩, by simp [eqV, eqA, eqAs, eqC, eqCs, rn, look, look_cons, EK.sz], U, W, vs, par, sym, W.length, 1, true, rows, m, spU, sqU, sr, sp, sy, hus, hcF, hcA, hz.st, hz.tab, .inl ⟨rfl, hle, rfl, rfl⟩, rfl, rfl⟩
end Go.Fw

namespace Go.Fw
open Go Go.Proofs

def wsumL (l : List Arc) : Nat → Int
  | 0 => 0
  | k + 1 => wsumL l k + (l.getD k aD).w
def fmaxL (l : List Int) : Nat → Int
  | 0 => 0
  | k + 1 => if fmaxL l k < l.getD k 0 then l.getD k 0 else fmaxL l k
def allW (F : TF) : Int := wsumL F.arcs F.arcs.length + fmaxL F.fin F.fin.length

theorem wsumL_bd {l : List Arc} (h : ∀ a ∈ l, 0 ≤ a.w ∧ a.w ≤ 1000000000) : ∀ k, k ≤ l.length → 0 ≤ wsumL l k ∧ wsumL l k ≤ 1000000000 * k
  | 0, _ => by simp [wsumL]
  | k + 1, hk => by
    have := wsumL_bd h k (by omega)
    have := h _ (getD_mem l k aD (by omega))
    unfold wsumL
    omega
theorem fmaxL_bd {l : List Int} (h : ∀ n ∈ l, -1 ≤ n ∧ n ≤ 1000000000) : ∀ k, k ≤ l.length → 0 ≤ fmaxL l k ∧ fmaxL l k ≤ 1000000000
  | 0, _ => by simp [fmaxL]
  | k + 1, hk => by
    have := fmaxL_bd h k (by omega)
    have := h _ (getD_mem l k 0 (by omega))
    unfold fmaxL
    split <;> omega

set_option maxHeartbeats 4000000 in
set_option maxRecDepth 20000 in
theorem allWeights_c (F : TF) (hF : WOk F) : Ct Tryd.prog 19 [fV F] [] (hpF F) 2 (Is 2 (.i (allW F))) := by
  have hst := hF.st
  have hal := hF.arcl
  have hfl := hF.finl
  refine ctW Tryd.tyOk 7 [] Tryd.func19 rfl (by simp [SV.lt, SA.lt, SC.lt, arcV, fV]) (by simp) (fr := [(0, fV F)]) rfl ?_
  repeat' (first | exact rfl | ((conv => whnf); first | ((first | refine qA (fun h => ?_) fun h => ?_ | refine qN (fun h => ?_) fun h => ?_ | refine qB (fun h => ?_) fun h => ?_ | refine qC (fun h => ?_) fun h => ?_) <;> try exact absurd h (by omega)) | refine qM (fun h => ?_) fun h => ?_ | refine oM (by (first | omega | (simp only [lenS, InI, nmin, EK.sz]; omega) | (simp only [lenS, InI, nmin, EK.sz] at *; omega))) ?_ | refine oM ?_ ?_ | refine bM ?_ ?_ | refine draw_of Tryd.mixed Tryd.tyOk 60 (by kernel_rfl) ?_))
  (conv => whnf)
  refine loopI (fun k : Nat => ⟨[(1, .c (.ptr 2 0)), (3, .i (wsumL F.arcs k)), (4, .c (.i 0)), (5, .i k)], hpF F ++ [(2, .box 25 (fCells F))], 3⟩)
    (fun k => k ≤ F.arcs.length) (fun k => F.arcs.length - k) 0 [] ⟨by rfl, ?_, ?_⟩ (Nat.zero_le _) ?_
  · simp [eqFr, eqHp, eqV, eqA, eqC, eqO, eqCs, eqAs, look_cons, look, rn, EK.cast, EK.sz, eqCaps, wsumL]
  · simp [eqFr, eqHp, eqV, eqA, eqC, eqO, eqCs, eqAs, look_cons, look, rn, EK.cast, EK.sz, eqCaps, fCells]
  · intro k hk
    have hb := wsumL_bd hF.w k hk
    have hks : wsumL F.arcs (k + 1) = wsumL F.arcs k + (F.arcs.getD k aD).w := rfl
    generalize hx : wsumL F.arcs k = x at *
    (conv => whnf)
    refine condP_dec (fun hk2 => ?_) (fun hk2 => ?_)
    · have e0 : 0 + (k : Int).toNat = k := by omega
      have hb2 := hF.w _ (getD_mem F.arcs k aD (by omega))
      have hw : F.arcs.getD (0 + (k : Int).toNat) EK.arc.dflt = F.arcs.getD k aD := by rw [e0]; rfl
      rw [← hw] at hb2 hks
      repeat' (first | exact rfl | ((conv => whnf); first | ((first | refine qA (fun h => ?_) fun h => ?_ | refine qN (fun h => ?_) fun h => ?_ | refine qB (fun h => ?_) fun h => ?_ | refine qC (fun h => ?_) fun h => ?_) <;> try exact absurd h (by omega)) | refine qM (fun h => ?_) fun h => ?_ | refine oM (by (first | omega | (simp only [lenS, InI, nmin, EK.sz]; omega) | (simp only [lenS, InI, nmin, EK.sz] at *; omega))) ?_ | refine oM ?_ ?_ | refine bM ?_ ?_ | refine draw_of Tryd.mixed Tryd.tyOk 60 (by kernel_rfl) ?_))
      (conv => whnf)
      refine ⟨k + 1, [], ⟨by rfl, ?_, ?_⟩, by omega, by omega⟩
      · simp [eqFr, eqHp, eqV, eqA, eqC, eqO, eqCs, eqAs, look_cons, look, rn, EK.cast, EK.sz, eqCaps, hks]
      · simp [eqFr, eqHp, eqV, eqA, eqC, eqO, eqCs, eqAs, look_cons, look, rn, EK.cast, EK.sz, eqCaps, fCells]
    · have e : k = F.arcs.length := by omega
      subst e
      repeat' (first | exact rfl | ((conv => whnf); first | ((first | refine qA (fun h => ?_) fun h => ?_ | refine qN (fun h => ?_) fun h => ?_ | refine qB (fun h => ?_) fun h => ?_ | refine qC (fun h => ?_) fun h => ?_) <;> try exact absurd h (by omega)) | refine qM (fun h => ?_) fun h => ?_ | refine oM (by (first | omega | (simp only [lenS, InI, nmin, EK.sz]; omega) | (simp only [lenS, InI, nmin, EK.sz] at *; omega))) ?_ | refine oM ?_ ?_ | refine bM ?_ ?_ | refine draw_of Tryd.mixed Tryd.tyOk 60 (by kernel_rfl) ?_))
      (conv => whnf)
      refine loopI (fun k : Nat => ⟨[(1, .c (.ptr 2 0)), (3, .i x), (4, .i (fmaxL F.fin k)), (6, .i k)], hpF F ++ [(2, .box 25 (fCells F))], 3⟩)
        (fun k => k ≤ F.fin.length) (fun k => F.fin.length - k) 0 [] ⟨by rfl, ?_, ?_⟩ (Nat.zero_le _) ?_
      · simp [eqFr, eqHp, eqV, eqA, eqC, eqO, eqCs, eqAs, look_cons, look, rn, EK.cast, EK.sz, eqCaps, fmaxL]
      · simp [eqFr, eqHp, eqV, eqA, eqC, eqO, eqCs, eqAs, look_cons, look, rn, EK.cast, EK.sz, eqCaps, fCells]
      · intro k hk
        have hb3 := fmaxL_bd hF.fin k hk
        have hks3 : fmaxL F.fin (k + 1) = if fmaxL F.fin k < F.fin.getD k 0 then F.fin.getD k 0 else fmaxL F.fin k := rfl
        generalize hy : fmaxL F.fin k = y at *
        (conv => whnf)
        refine condP_dec (fun hk2 => ?_) (fun hk2 => ?_)
        · have e0 : 0 + (k : Int).toNat = k := by omega
          have hw : F.fin.getD (0 + (k : Int).toNat) EK.int.dflt = F.fin.getD k 0 := by rw [e0]; rfl
          rw [← hw] at hks3
          repeat' (first | exact rfl | ((conv => whnf); first | ((first | refine qA (fun h => ?_) fun h => ?_ | refine qN (fun h => ?_) fun h => ?_ | refine qB (fun h => ?_) fun h => ?_ | refine qC (fun h => ?_) fun h => ?_) <;> try exact absurd h (by omega)) | refine qM (fun h => ?_) fun h => ?_ | refine oM (by (first | omega | (simp only [lenS, InI, nmin, EK.sz]; omega) | (simp only [lenS, InI, nmin, EK.sz] at *; omega))) ?_ | refine oM ?_ ?_ | refine bM ?_ ?_ | refine draw_of Tryd.mixed Tryd.tyOk 60 (by kernel_rfl) ?_))
          · rw [if_pos (by omega)] at hks3
            (conv => whnf)
            refine ⟨k + 1, [], ⟨by rfl, ?_, ?_⟩, by omega, by omega⟩
            · simp [eqFr, eqHp, eqV, eqA, eqC, eqO, eqCs, eqAs, look_cons, look, rn, EK.cast, EK.sz, eqCaps, hks3]
            · simp [eqFr, eqHp, eqV, eqA, eqC, eqO, eqCs, eqAs, look_cons, look, rn, EK.cast, EK.sz, eqCaps, fCells]
          · rw [if_neg (by omega)] at hks3
            (conv => whnf)
            refine ⟨k + 1, [], ⟨by rfl, ?_, ?_⟩, by omega, by omega⟩
            · simp [eqFr, eqHp, eqV, eqA, eqC, eqO, eqCs, eqAs, look_cons, look, rn, EK.cast, EK.sz, eqCaps, hks3]
            · simp [eqFr, eqHp, eqV, eqA, eqC, eqO, eqCs, eqAs, look_cons, look, rn, EK.cast, EK.sz, eqCaps, fCells]
        · have e : k = F.fin.length := by omega
          subst e
          repeat' (first | exact rfl | ((conv => whnf); first | ((first | refine qA (fun h => ?_) fun h => ?_ | refine qN (fun h => ?_) fun h => ?_ | refine qB (fun h => ?_) fun h => ?_ | refine qC (fun h => ?_) fun h => ?_) <;> try exact absurd h (by omega)) | refine qM (fun h => ?_) fun h => ?_ | refine oM (by (first | omega | (simp only [lenS, InI, nmin, EK.sz]; omega) | (simp only [lenS, InI, nmin, EK.sz] at *; omega))) ?_ | refine oM ?_ ?_ | refine bM ?_ ?_ | refine draw_of Tryd.mixed Tryd.tyOk 60 (by kernel_rfl) ?_))
          (conv => whnf)
          refine Back.is ?_
          simp only [eqV, eqA, eqC, allW, hx, hy]
end Go.Fw

/-
  One way for each word: what a subset is, told by the ways of words.
-/
namespace Go.Fw

/-- The least of some costs, or none. -/
def OptMin (P : Int → Prop) (o : Option Int) : Prop := (o = none ∧ ∀ x, ¬ P x) ∨ ∃ v, o = some v ∧ P v ∧ ∀ x, P x → v ≤ x

theorem OptMin.cong {P Q : Int → Prop} {o : Option Int} (h : OptMin P o) (hpq : ∀ c, P c ↔ Q c) : OptMin Q o := by
  rcases h with ⟨h1, h2⟩ | ⟨v, h1, h2, h3⟩
  · exact .inl ⟨h1, fun x hx => h2 x ((hpq x).2 hx)⟩
  · exact .inr ⟨v, h1, (hpq v).1 h2, fun x hx => h3 x ((hpq x).2 hx)⟩

structure SbI (P : Int → Int → Prop) (st : CM × Int) : Prop where
  c : ∀ t, OptMin (P t) (st.1 t)
  b : MinOf (fun v => ∃ t, P t v) st.2
  pos : ∀ t v, P t v → 0 ≤ v

theorem SbI.cong {P Q : Int → Int → Prop} {st : CM × Int} (h : SbI P st) (hpq : ∀ t v, P t v ↔ Q t v) : SbI Q st :=
  ⟨fun t => (h.c t).cong (hpq t), h.b.cong fun v => ⟨fun ⟨t, ht⟩ => ⟨t, (hpq t v).1 ht⟩, fun ⟨t, ht⟩ => ⟨t, (hpq t v).2 ht⟩⟩, fun t v hv => h.pos t v ((hpq t v).2 hv)⟩

theorem SbI.step {P : Int → Int → Prop} {st : CM × Int} (h : SbI P st) {c : Int} {x : Duo} {a : Arc} (h0 : 0 ≤ x.b + a.w) :
    SbI (fun t v => P t v ∨ a.f = x.a ∧ a.i = c ∧ a.t = t ∧ v = x.b + a.w) (sbA c x st a) := by
  unfold sbA
  by_cases hc : a.f = x.a ∧ a.i = c
  · rw [if_pos hc]
    generalize x.b + a.w = n at *
    refine ⟨fun t => ?_, ?_, ?_⟩
    · simp only [updC]
      by_cases e : t = a.t
      · rw [if_pos e, ← e]
        rcases h.c t with ⟨h1, h2⟩ | ⟨o, h1, h2, h3⟩
        · rw [h1]
          exact .inr ⟨n, rfl, .inr ⟨hc.1, hc.2, by simp, rfl⟩, fun y hy => by
            rcases hy with hy | hy
            · exact absurd hy (h2 y)
            · omega⟩
        · rw [h1]
          simp only
          split
          · rename_i hlt
            exact .inr ⟨n, rfl, .inr ⟨hc.1, hc.2, by simp, rfl⟩, fun y hy => by
              rcases hy with hy | hy
              · have := h3 y hy; omega
              · omega⟩
          · rename_i hlt
            exact .inr ⟨o, rfl, .inl h2, fun y hy => by
              rcases hy with hy | hy
              · exact h3 y hy
              · omega⟩
      · rw [if_neg e]
        exact (h.c t).cong fun v => ⟨fun g => .inl g, fun g => g.elim id fun g => absurd g.2.2.1.symm e⟩
    · have hb := h.b
      simp only [updB]
      rcases hb with ⟨h1, h2⟩ | ⟨h1, ⟨t, h2⟩, h3⟩
      · rw [if_pos (.inl h1)]
        exact .inr ⟨h0, ⟨a.t, .inr ⟨hc.1, hc.2, by simp, rfl⟩⟩, fun y ⟨t, hy⟩ => by
          rcases hy with hy | hy
          · exact absurd ⟨t, hy⟩ (h2 y)
          · omega⟩
      · by_cases hlt : n < st.2
        · rw [if_pos (.inr hlt)]
          exact .inr ⟨h0, ⟨a.t, .inr ⟨hc.1, hc.2, by simp, rfl⟩⟩, fun y ⟨t, hy⟩ => by
            rcases hy with hy | hy
            · have := h3 y ⟨t, hy⟩; omega
            · omega⟩
        · rw [if_neg (by omega)]
          exact .inr ⟨h1, ⟨t, .inl h2⟩, fun y ⟨t, hy⟩ => by
            rcases hy with hy | hy
            · exact h3 y ⟨t, hy⟩
            · omega⟩
    · rintro t v (hv | hv)
      · exact h.pos t v hv
      · omega
  · rw [if_neg hc]
    exact h.cong fun t v => ⟨fun g => .inl g, fun g => g.elim id fun g => absurd ⟨g.1, g.2.1⟩ hc⟩

theorem SbI.arcs {c : Int} {x : Duo} (hx : 0 ≤ x.b) : ∀ (l : List Arc), (∀ a ∈ l, 0 ≤ a.w) → ∀ {P : Int → Int → Prop} {st : CM × Int}, SbI P st →
    SbI (fun t v => P t v ∨ ∃ a ∈ l, a.f = x.a ∧ a.i = c ∧ a.t = t ∧ v = x.b + a.w) (l.foldl (sbA c x) st)
  | [], _, P, st, h => h.cong fun t v => ⟨fun g => .inl g, fun g => g.elim id fun ⟨a, ha, _⟩ => by cases ha⟩
  | a :: l, hl, P, st, h => by
    have h1 := h.step (c := c) (x := x) (a := a) (by have := hl a (by simp); omega)
    refine (SbI.arcs hx l (fun a ha => hl a (by simp [ha])) h1).cong fun t v => ?_
    constructor
    · rintro ((g | g) | ⟨b, hb, g⟩)
      · exact .inl g
      · exact .inr ⟨a, by simp, g⟩
      · exact .inr ⟨b, by simp [hb], g⟩
    · rintro (g | ⟨b, hb, g⟩)
      · exact .inl (.inl g)
      · rcases List.mem_cons.1 hb with rfl | hb
        · exact .inl (.inr g)
        · exact .inr ⟨b, hb, g⟩

/-- What comes to be asked. -/
def Cand (U : TF) (s : List Duo) (c t v : Int) : Prop := ∃ e ∈ s, ∃ a ∈ U.arcs, a.f = e.a ∧ a.i = c ∧ a.t = t ∧ v = e.b + a.w

theorem sbR_spec {U : TF} {s : List Duo} (hs : ∀ e ∈ s, 0 ≤ e.b) (hw : ∀ a ∈ U.arcs, 0 ≤ a.w) (c : Int) : SbI (Cand U s c) (sbR U s c) := by
  have : ∀ (l : List Duo), (∀ e ∈ l, 0 ≤ e.b) → ∀ {P : Int → Int → Prop} {st : CM × Int}, SbI P st → SbI (fun t v => P t v ∨ Cand U l c t v) (l.foldl (sbX U c) st) := by
    intro l
    induction l with
    | nil => intro _ P st h; exact h.cong fun t v => ⟨fun g => .inl g, fun g => g.elim id fun ⟨e, he, _⟩ => by cases he⟩
    | cons e l ih =>
      intro hl P st h
      refine (ih (fun e he => hl e (by simp [he])) (SbI.arcs (c := c) (x := e) (hl e (by simp)) U.arcs hw h)).cong fun t v => ?_
      constructor
      · rintro ((g | ⟨a, ha, g⟩) | ⟨d, hd, g⟩)
        · exact .inl g
        · exact .inr ⟨e, by simp, a, ha, g⟩
        · exact .inr ⟨d, by simp [hd], g⟩
      · rintro (g | ⟨d, hd, a, ha, g⟩)
        · exact .inl (.inl g)
        · rcases List.mem_cons.1 hd with rfl | hd
          · exact .inl (.inr ⟨a, ha, g⟩)
          · exact .inr ⟨d, hd, a, ha, g⟩
  refine (this s hs (P := fun _ _ => False) (st := (fun _ => none, -1)) ⟨fun t => .inl ⟨rfl, fun x h => h⟩, .inl ⟨rfl, fun x ⟨_, h⟩ => h⟩, fun t v h => h.elim⟩).cong fun t v => ⟨fun g => g.elim (fun h => h.elim) id, fun g => .inr g⟩

/-- A subset, told by a word: what it costs at least, and what each state costs more. -/
structure SubOk (U : TF) (w : List Int) (r : Int) (s : List Duo) : Prop where
  r0 : 0 ≤ r
  b0 : ∀ e ∈ s, 0 ≤ e.b
  min : ∀ e ∈ s, MinOf (fun c => RdW U.arcs U.start w e.a c) (r + e.b)
  all : ∀ q c, RdW U.arcs U.start w q c → ∃ e ∈ s, e.a = q

theorem SubOk.start (U : TF) : SubOk U [] 0 [⟨U.start, 0⟩] := by
  refine ⟨Int.le_refl _, fun e he => ?_, fun e he => ?_, fun q c h => ?_⟩
  · rw [List.mem_singleton] at he; subst he; exact Int.le_refl _
  · rw [List.mem_singleton] at he
    subst he
    exact .inr ⟨by simp, .nil _, fun c hc => by have := (hc.none rfl).2; simp only; omega⟩
  · exact ⟨_, List.mem_singleton.2 rfl, ((h.none rfl).1).symm⟩

section
variable {U : TF} (hU : ∀ a ∈ U.arcs, (0 ≤ a.f ∧ a.f < U.st) ∧ (0 ≤ a.t ∧ a.t < U.st) ∧ 0 ≤ a.w ∧ a.w ≤ 1000000000)
include hU

theorem sbS_mem {s : List Duo} (hs : ∀ e ∈ s, 0 ≤ e.b) {c : Int} {e : Duo} : e ∈ sbS U s c ↔ Cand U s c e.a (e.b + sbB U s c) ∧ ∀ x, Cand U s c e.a x → e.b + sbB U s c ≤ x := by
  have hsp := sbR_spec hs (fun a ha => (hU a ha).2.2.1) c
  unfold sbS sbB
  rw [sbL_mem]
  constructor
  · rintro ⟨t, v, ht, hv, rfl⟩
    rcases hsp.c t with ⟨h1, h2⟩ | ⟨o, h1, h2, h3⟩
    · rw [h1] at hv; cases hv
    · rw [h1] at hv
      cases hv
      simp only
      rw [show v - (sbR U s c).2 + (sbR U s c).2 = v by omega]
      exact ⟨h2, h3⟩
  · rintro ⟨h1, h2⟩
    rcases hsp.c e.a with ⟨g1, g2⟩ | ⟨o, g1, g2, g3⟩
    · exact absurd h1 (g2 _)
    · have : o = e.b + (sbR U s c).2 := by
        have := g3 _ h1
        have := h2 _ g2
        omega
      obtain ⟨d, hd, a, ha, q1, q2, q3, q4⟩ := h1
      have := hU a ha
      refine ⟨e.a.toNat, o, by omega, by rw [show ((e.a.toNat : Nat) : Int) = e.a by omega]; exact g1, ?_⟩
      cases e
      simp only [Duo.mk.injEq] at *
      omega

theorem sbB_iff {s : List Duo} (hs : ∀ e ∈ s, 0 ≤ e.b) {c : Int} : sbB U s c ≠ -1 ↔ ∃ e ∈ s, ∃ a ∈ U.arcs, a.f = e.a ∧ a.i = c := by
  have hsp := sbR_spec hs (fun a ha => (hU a ha).2.2.1) c
  unfold sbB
  constructor
  · intro h
    obtain ⟨t, e, he, a, ha, g1, g2, _⟩ := hsp.b.is h
    exact ⟨e, he, a, ha, g1, g2⟩
  · rintro ⟨e, he, a, ha, g1, g2⟩
    exact (hsp.b.le (c := e.b + a.w) ⟨a.t, e, he, a, ha, g1, g2, rfl, rfl⟩).1

theorem SubOk.no {w : List Int} {r : Int} {s : List Duo} (h : SubOk U w r s) {c : Int} (hb : sbB U s c = -1) : ¬ Bg U (w ++ [c]) := by
  rintro ⟨t, x, hx⟩
  obtain ⟨a, ha, d, h1, h2, _⟩ := hx.unsnoc
  obtain ⟨e, he, h3⟩ := h.all _ _ h1
  exact (sbB_iff hU h.b0).2 ⟨e, he, a, ha, h3.symm, h2⟩ hb

theorem SubOk.yes {w : List Int} {r : Int} {s : List Duo} (h : SubOk U w r s) {c : Int} (hb : sbB U s c ≠ -1) : Bg U (w ++ [c]) := by
  obtain ⟨e, he, a, ha, g1, g2⟩ := (sbB_iff hU h.b0).1 hb
  have hp := (h.min e he).is (by have := h.r0; have := h.b0 e he; omega)
  exact ⟨_, _, g2 ▸ hp.snoc ha g1⟩

theorem SubOk.step {w : List Int} {r : Int} {s : List Duo} (h : SubOk U w r s) {c : Int} (hb : sbB U s c ≠ -1) : SubOk U (w ++ [c]) (r + sbB U s c) (sbS U s c) := by
  have hsp := (sbR_spec h.b0 (fun a ha => (hU a ha).2.2.1) c).b
  have hr := h.r0
  change MinOf _ (sbB U s c) at hsp
  have hb0 : 0 ≤ sbB U s c := by have := hsp.low; omega
  refine ⟨by omega, fun e he => ?_, fun e he => ?_, fun q x hx => ?_⟩
  · have := (sbS_mem hU h.b0).1 he
    have := (hsp.le (c := e.b + sbB U s c) ⟨e.a, this.1⟩).2
    omega
  · obtain ⟨h1, h2⟩ := (sbS_mem hU h.b0).1 he
    right
    refine ⟨?_, ?_, fun x hx => ?_⟩
    · obtain ⟨d, hd, a, ha, q1, q2, q3, q4⟩ := h1
      have := h.b0 d hd
      have := hU a ha
      omega
    · obtain ⟨d, hd, a, ha, q1, q2, q3, q4⟩ := h1
      have hp := (h.min d hd).is (by have := h.b0 d hd; omega)
      have := hp.snoc ha q1
      rw [q2, q3] at this
      rwa [show r + sbB U s c + e.b = r + d.b + a.w by omega]
    · obtain ⟨a, ha, d, g1, g2, g3, g4⟩ := hx.unsnoc
      obtain ⟨f, hf, g5⟩ := h.all _ _ g1
      have := ((h.min f hf).le (c := d) (g5 ▸ g1)).2
      have := h2 (f.b + a.w) ⟨f, hf, a, ha, g5.symm, g2, g3, rfl⟩
      omega
  · obtain ⟨a, ha, d, g1, g2, g3, g4⟩ := hx.unsnoc
    obtain ⟨f, hf, g5⟩ := h.all _ _ g1
    have hc : Cand U s c q (f.b + a.w) := ⟨f, hf, a, ha, g5.symm, g2, g3, rfl⟩
    rcases (sbR_spec h.b0 (fun a ha => (hU a ha).2.2.1) c).c q with ⟨p1, p2⟩ | ⟨o, p1, p2, p3⟩
    · exact absurd hc (p2 _)
    · refine ⟨⟨q, o - sbB U s c⟩, (sbS_mem hU h.b0).2 ?_, rfl⟩
      simp only
      rw [show o - sbB U s c + sbB U s c = o by omega]
      exact ⟨p2, p3⟩
end

/-- What a subset tells. -/
theorem finD_min {U : TF} {s : List Duo} (hs : ∀ e ∈ s, 0 ≤ e.b) (hf : ∀ j : Nat, -1 ≤ U.fin.getD j 0) : MinOf (fun x => ∃ e ∈ s, U.fin.getD e.a.toNat 0 ≠ -1 ∧ x = e.b + U.fin.getD e.a.toNat 0) (finD U s) := by
  have : ∀ (l : List Duo), (∀ e ∈ l, 0 ≤ e.b) → ∀ (P : Int → Prop) (r : Int), MinOf P r → MinOf (fun x => P x ∨ ∃ e ∈ l, U.fin.getD e.a.toNat 0 ≠ -1 ∧ x = e.b + U.fin.getD e.a.toNat 0) (l.foldl (finS U) r) := by
    intro l
    induction l with
    | nil => intro _ P r h; exact h.cong fun x => ⟨fun g => .inl g, fun g => g.elim id fun ⟨e, he, _⟩ => by cases he⟩
    | cons e l ih =>
      intro hl P r h
      have he := hl e (by simp)
      have hfe := hf e.a.toNat
      have h1 : MinOf (fun x => P x ∨ (U.fin.getD e.a.toNat 0 ≠ -1 ∧ x = e.b + U.fin.getD e.a.toNat 0)) (finS U r e) := by
        unfold finS
        by_cases hn : U.fin.getD e.a.toNat 0 ≠ -1
        · by_cases hr : r = -1 ∨ e.b + U.fin.getD e.a.toNat 0 < r
          · rw [if_pos ⟨hn, hr⟩]
            refine .inr ⟨by omega, .inr ⟨hn, rfl⟩, fun c hc => ?_⟩
            rcases hc with hc | hc
            · have := h.le hc; omega
            · omega
          · rw [if_neg (fun g => hr g.2)]
            have hr1 : r ≠ -1 := fun g => hr (.inl g)
            have hr2 := h.low
            refine .inr ⟨by omega, .inl (h.is hr1), fun c hc => ?_⟩
            rcases hc with hc | hc
            · exact (h.le hc).2
            · omega
        · rw [if_neg (fun g => hn g.1)]
          exact h.cong fun x => ⟨fun g => .inl g, fun g => g.elim id fun g => absurd g.1 hn⟩
      refine (ih (fun e he => hl e (by simp [he])) _ _ h1).cong fun x => ?_
      constructor
      · rintro ((g | g) | ⟨d, hd, g⟩)
        · exact .inl g
        · exact .inr ⟨e, by simp, g⟩
        · exact .inr ⟨d, by simp [hd], g⟩
      · rintro (g | ⟨d, hd, g⟩)
        · exact .inl (.inl g)
        · rcases List.mem_cons.1 hd with rfl | hd
          · exact .inl (.inr g)
          · exact .inr ⟨d, hd, g⟩
  exact (this s hs _ _ MinOf.none).cong fun x => ⟨fun g => g.elim (fun h => h.elim) id, fun g => .inr g⟩
end Go.Fw

/-
  Beginnings counted in depth and in breadth are as many.
-/
namespace Go.Fw

theorem Bg.pre {U : TF} {u v : List Int} (h : Bg U (u ++ v)) : Bg U u := by
  obtain ⟨t, c, h⟩ := h
  obtain ⟨q, d, _, h1, _⟩ := h.split
  exact ⟨q, d, h1⟩
theorem RdW.lets {L : List Arc} (hL : ∀ a ∈ L, 1 ≤ a.i ∧ a.i ≤ 9) {s t c : Int} {u : List Int} (h : RdW L s u t c) : ∀ x ∈ u, 1 ≤ x ∧ x ≤ 9 := by
  induction h with
  | nil s => intro x hx; cases hx
  | cons ha h ih =>
    intro x hx
    rcases List.mem_cons.1 hx with rfl | hx
    · exact hL _ ha
    · exact ih x hx

/-- A word that subsets can be led along. -/
def okW (U : TF) : List Duo → List Int → Prop
  | _, [] => True
  | s, x :: w => (1 ≤ x ∧ x ≤ 9) ∧ sbB U s x ≠ -1 ∧ okW U (sbS U s x) w
def treeW (U : TF) : Nat → List Duo → List (List Int)
  | 0, _ => [[]]
  | f + 1, s => [] :: (List.range 9).flatMap fun (c : Nat) => if sbB U s ((c : Int) + 1) ≠ -1 then (treeW U f (sbS U s ((c : Int) + 1))).map (((c : Int) + 1) :: ·) else []

theorem treeW_len (U : TF) : ∀ (f : Nat) (s : List Duo), (treeW U f s).length = (treeL U f s).length
  | 0, s => rfl
  | f + 1, s => by
    unfold treeW treeL
    simp only [List.length_cons, List.length_flatMap]
    congr 3
    funext c
    by_cases h : sbB U s ((c : Int) + 1) ≠ -1
    · rw [if_pos h, if_pos h, List.length_map, treeW_len U f]
    · rw [if_neg h, if_neg h]; rfl

theorem treeW_mem (U : TF) : ∀ (f : Nat) (s : List Duo) (w : List Int), w ∈ treeW U f s ↔ okW U s w ∧ w.length ≤ f
  | 0, s, w => by
    unfold treeW
    rw [List.mem_singleton]
    constructor
    · rintro rfl; exact ⟨trivial, Nat.le_refl _⟩
    · rintro ⟨_, h⟩; exact List.length_eq_zero_iff.1 (by omega)
  | f + 1, s, w => by
    unfold treeW
    rw [List.mem_cons, List.mem_flatMap]
    cases w with
    | nil => exact ⟨fun _ => ⟨trivial, Nat.zero_le _⟩, fun _ => .inl rfl⟩
    | cons x w =>
      unfold okW
      constructor
      · rintro (h | ⟨c, hc, h⟩)
        · cases h
        · have hc := List.mem_range.1 hc
          by_cases hb : sbB U s ((c : Int) + 1) ≠ -1
          · rw [if_pos hb, List.mem_map] at h
            obtain ⟨w', h1, h2⟩ := h
            have e := List.cons.inj h2
            rw [e.2] at h1
            obtain ⟨g1, g2⟩ := (treeW_mem U f _ w).1 h1
            rw [← e.1, List.length_cons]
            exact ⟨⟨by omega, hb, g1⟩, by omega⟩
          · rw [if_neg hb] at h; cases h
      · rintro ⟨⟨h1, h2, h3⟩, h4⟩
        rw [List.length_cons] at h4
        have e : ((((x - 1).toNat : Nat) : Int) + 1) = x := by omega
        refine .inr ⟨(x - 1).toNat, List.mem_range.2 (by omega), ?_⟩
        rw [e, if_pos h2, List.mem_map]
        exact ⟨w, (treeW_mem U f _ w).2 ⟨h3, by omega⟩, rfl⟩

theorem treeW_nd (U : TF) : ∀ (f : Nat) (s : List Duo), (treeW U f s).Nodup
  | 0, s => by simp [treeW]
  | f + 1, s => by
    unfold treeW
    rw [List.nodup_cons]
    refine ⟨fun h => ?_, ?_⟩
    · rw [List.mem_flatMap] at h
      obtain ⟨c, _, h⟩ := h
      split at h
      · rw [List.mem_map] at h
        obtain ⟨_, _, h⟩ := h
        cases h
      · cases h
    · unfold List.Nodup
      rw [List.pairwise_flatMap]
      refine ⟨fun c _ => ?_, ?_⟩
      · split
        · rw [List.pairwise_map]
          exact (treeW_nd U f _).imp fun h e => h (List.cons.inj e).2
        · exact List.Pairwise.nil
      · refine List.Pairwise.imp ?_ (List.nodup_range (n := 9))
        intro c d hcd x hx y hy e
        subst e
        have key : ∀ c : Nat, x ∈ (if sbB U s ((c : Int) + 1) ≠ -1 then (treeW U f (sbS U s ((c : Int) + 1))).map (((c : Int) + 1) :: ·) else []) → ∃ w, x = ((c : Int) + 1) :: w := by
          intro c h
          split at h
          · rw [List.mem_map] at h
            obtain ⟨w, _, h⟩ := h
            exact ⟨w, h.symm⟩
          · cases h
        obtain ⟨w, h1⟩ := key c hx
        obtain ⟨w', h2⟩ := key d hy
        rw [h1] at h2
        have := (List.cons.inj h2).1
        omega

theorem bgn_tree (U : TF) : ∀ (f m : Nat) (s : List Duo), bgnF U f m s ≤ (treeL U f s).length
  | 0, m, s => Nat.le_refl _
  | f + 1, m, s => by
    show bgnP U f m s 9 ≤ (s :: _).length
    have : ∀ k, bgnP U f m s k ≤ ((List.range k).flatMap fun (c : Nat) => if sbB U s ((c : Int) + 1) ≠ -1 then treeL U f (sbS U s ((c : Int) + 1)) else []).length + 1 := by
      intro k
      induction k with
      | zero => simp [bgnP]
      | succ k ih =>
        rw [bgnP_succ, List.range_succ, List.flatMap_append, List.length_append]
        simp only [List.flatMap_cons, List.flatMap_nil, List.append_nil]
        split
        · rename_i h
          rw [if_pos h.2]
          have := bgn_tree U f (m - bgnP U f m s k) (sbS U s ((k : Int) + 1))
          omega
        · omega
    rw [List.length_cons]
    exact this 9

section
variable {U : TF} (hU : ∀ a ∈ U.arcs, (0 ≤ a.f ∧ a.f < U.st) ∧ (0 ≤ a.t ∧ a.t < U.st) ∧ 0 ≤ a.w ∧ a.w ≤ 1000000000)
include hU

theorem okW_iff : ∀ (w w0 : List Int) (r : Int) (s : List Duo), SubOk U w0 r s → Bg U w0 → (okW U s w ↔ (∀ x ∈ w, 1 ≤ x ∧ x ≤ 9) ∧ Bg U (w0 ++ w))
  | [], w0, r, s, hs, hb => by
    rw [List.append_nil]
    exact ⟨fun _ => ⟨fun x hx => (by cases hx), hb⟩, fun _ => trivial⟩
  | x :: w, w0, r, s, hs, hb => by
    unfold okW
    have ea : w0 ++ x :: w = (w0 ++ [x]) ++ w := by simp
    constructor
    · rintro ⟨h1, h2, h3⟩
      obtain ⟨g1, g2⟩ := (okW_iff w (w0 ++ [x]) _ _ (hs.step hU h2) (hs.yes hU h2)).1 h3
      exact ⟨fun y hy => (List.mem_cons.1 hy).elim (fun e => e ▸ h1) (g1 y), ea ▸ g2⟩
    · rintro ⟨h1, h2⟩
      rw [ea] at h2
      have hb2 : sbB U s x ≠ -1 := fun e => hs.no hU e h2.pre
      exact ⟨h1 x (by simp), hb2, (okW_iff w (w0 ++ [x]) _ _ (hs.step hU hb2) (hs.yes hU hb2)).2 ⟨fun y hy => h1 y (by simp [hy]), h2⟩⟩

theorem treeW_bg (hlet : ∀ a ∈ U.arcs, 1 ≤ a.i ∧ a.i ≤ 9) {f : Nat} {w : List Int} : w ∈ treeW U f [⟨U.start, 0⟩] ↔ Bg U w ∧ w.length ≤ f := by
  rw [treeW_mem, okW_iff hU w [] 0 _ (SubOk.start U) ⟨_, _, .nil _⟩]
  constructor
  · rintro ⟨⟨h1, h2⟩, h3⟩; exact ⟨h2, h3⟩
  · rintro ⟨⟨t, c, h⟩, h3⟩; exact ⟨⟨h.lets hlet, t, c, h⟩, h3⟩
omit hU

/-- All words are there. -/
theorem WSt.full {W vs : List (List Int)} {par sym : List Int} (hlet : ∀ a ∈ U.arcs, 1 ≤ a.i ∧ a.i ≤ 9) (h : WSt U W vs par sym W.length 1) : ∀ w, Bg U w → ∃ k, k < W.length ∧ W.getD k [] = w := by
  have : ∀ (n : Nat) (w : List Int), w.length = n → Bg U w → ∃ k, k < W.length ∧ W.getD k [] = w := by
    intro n
    induction n with
    | zero =>
      intro w hw _
      have : w = [] := List.length_eq_zero_iff.1 hw
      subst this
      exact ⟨0, h.pos, h.w0⟩
    | succ n ih =>
      intro w hw hb
      obtain ⟨v, x, rfl⟩ : ∃ v x, w = v ++ [x] := ⟨w.dropLast, w.getLast (by intro e; rw [e] at hw; cases hw), (List.dropLast_concat_getLast _).symm⟩
      rw [List.length_append, List.length_singleton] at hw
      obtain ⟨k, h1, h2⟩ := ih v (by omega) hb.pre
      have hx : 1 ≤ x ∧ x ≤ 9 := by
        obtain ⟨t, c, hb⟩ := hb
        exact hb.lets hlet x (by simp)
      rw [← h2] at hb ⊢
      exact h.all k x h1 hx.1 hx.2 (.inl h1) hb
  exact fun w => this w.length w rfl

theorem getD_mem2 {W : List (List Int)} {w : List Int} : w ∈ W ↔ ∃ k, k < W.length ∧ W.getD k [] = w := by
  rw [List.mem_iff_getElem]
  constructor
  · rintro ⟨k, hk, rfl⟩; exact ⟨k, hk, by simp [List.getD, hk]⟩
  · rintro ⟨k, hk, rfl⟩; exact ⟨k, hk, by simp [List.getD, hk]⟩

theorem WSt.nodup {W vs : List (List Int)} {par sym : List Int} {i : Nat} {c : Int} (h : WSt U W vs par sym i c) : W.Nodup := by
  unfold List.Nodup
  rw [List.pairwise_iff_getElem]
  intro j k hj hk hjk e
  have := h.nd j k hj hk (by simp [List.getD, hj, hk, e])
  omega

include hU
/-- As many in breadth as in depth. -/
theorem words_ok {W vs : List (List Int)} {par sym : List Int} (hlet : ∀ a ∈ U.arcs, 1 ≤ a.i ∧ a.i ≤ 9) (h : WSt U W vs par sym W.length 1) (hl : W.length ≤ 200) : bgnF U 201 200 [⟨U.start, 0⟩] ≤ 200 := by
  refine Classical.byContradiction fun hc => ?_
  have h1 := bgn_tree U 201 200 [⟨U.start, 0⟩]
  rw [← treeW_len] at h1
  have h2 := nd_le (treeW_nd U 201 [⟨U.start, 0⟩]) (m := W) fun w hw => getD_mem2.2 (h.full hlet w ((treeW_bg hU hlet).1 hw).1)
  omega
theorem words_many {W vs : List (List Int)} {par sym : List Int} {i : Nat} {c : Int} (hlet : ∀ a ∈ U.arcs, 1 ≤ a.i ∧ a.i ≤ 9) (h : WSt U W vs par sym i c) (hl : W.length = 201) : 200 < bgnF U 201 200 [⟨U.start, 0⟩] := by
  refine Classical.byContradiction fun hc => ?_
  have h1 := (tree_ok U 201 200 [⟨U.start, 0⟩] (by omega) (by omega)).1
  rw [← treeW_len] at h1
  have h2 := nd_le h.nodup (m := treeW U 201 [⟨U.start, 0⟩]) fun w hw => by
    obtain ⟨k, g1, rfl⟩ := getD_mem2.1 hw
    refine (treeW_bg hU hlet).2 ⟨h.bg k g1, ?_⟩
    have := h.wl k g1
    omega
  omega
end
end Go.Fw

/-
  One way for each word: what is made costs the same for each word.
-/
namespace Go.Fw

def arcD (U : TF) (L : List (List Duo)) (j : Nat) (x : Int) : Arc := ⟨(j : Int), x, x, ((L.idxOf (sbS U (L.getD j []) x) : Nat) : Int), sbB U (L.getD j []) x⟩

/-- What the arcs are that were made, up to row i, letter c. -/
structure RI (U : TF) (i : Nat) (c : Int) (st : DS) : Prop where
  l0 : st.1.getD 0 [] = [⟨U.start, 0⟩]
  len : 1 ≤ st.1.length
  snd : ∀ a ∈ st.2, ∃ (j : Nat) (x : Int), (j < i ∨ j = i ∧ x < c) ∧ (1 ≤ x ∧ x ≤ 9) ∧ j < st.1.length ∧ sbB U (st.1.getD j []) x ≠ -1 ∧ sbS U (st.1.getD j []) x ∈ st.1 ∧ a = arcD U st.1 j x
  cpl : ∀ (j : Nat) (x : Int), (j < i ∨ j = i ∧ x < c) → 1 ≤ x → x ≤ 9 → j < st.1.length → sbB U (st.1.getD j []) x ≠ -1 → arcD U st.1 j x ∈ st.2
  srt : Srt st.2
  rch : ∀ j, j < st.1.length → ∃ w d, RdW st.2 0 w (j : Int) d

theorem RdW.mono {L M : List Arc} (hLM : ∀ a ∈ L, a ∈ M) {s t c : Int} {u : List Int} (h : RdW L s u t c) : RdW M s u t c := by
  induction h with
  | nil s => exact .nil s
  | cons ha h ih => exact .cons (hLM _ ha) ih

theorem getD_idxOf {L : List (List Duo)} {s : List Duo} (h : s ∈ L) : L.getD (L.idxOf s) [] = s := by
  have h1 := List.idxOf_lt_length_of_mem h
  simp only [List.getD, List.getElem?_eq_getElem h1, Option.getD_some]
  exact List.getElem_idxOf h1

theorem numL_app (L : List (List Duo)) (s : List Duo) : ∃ M, numL L s = L ++ M := by
  unfold numL
  split
  · exact ⟨[], by simp⟩
  · exact ⟨[s], rfl⟩

theorem arcD_app {U : TF} {L M : List (List Duo)} {j : Nat} {x : Int} (hj : j < L.length) (hs : sbS U (L.getD j []) x ∈ L) : arcD U (L ++ M) j x = arcD U L j x := by
  have e : (L ++ M).getD j [] = L.getD j [] := by simp only [List.getD]; rw [List.getElem?_append_left hj]
  unfold arcD
  rw [e, idxOf_in hs]

theorem RI.start (U : TF) : RI U 0 1 (rowsD U 0) := by
  refine ⟨rfl, by simp [rowsD], fun a ha => by simp [rowsD] at ha, fun j x h h1 h2 hj hb => by omega, List.Pairwise.nil, fun j hj => ?_⟩
  simp only [rowsD, List.length_cons, List.length_nil] at hj
  have : j = 0 := by omega
  subst this
  exact ⟨[], 0, .nil _⟩

theorem RI.skip {U : TF} {i : Nat} {c : Int} {st : DS} (h : RI U i c st) (hb : sbB U (st.1.getD i []) c = -1) : RI U i (c + 1) st :=
  { h with
    snd := fun a ha => by
      obtain ⟨j, x, h1, h2⟩ := h.snd a ha
      exact ⟨j, x, by omega, h2⟩
    cpl := fun j x h1 h2 h3 h4 h5 => by
      by_cases e : j = i ∧ x = c
      · rw [e.1, e.2] at h5; exact absurd hb h5
      · exact h.cpl j x (by omega) h2 h3 h4 h5 }

theorem RI.next {U : TF} {i : Nat} {st : DS} (h : RI U i 10 st) : RI U (i + 1) 1 st :=
  { h with
    snd := fun a ha => by
      obtain ⟨j, x, h1, h2⟩ := h.snd a ha
      exact ⟨j, x, by omega, h2⟩
    cpl := fun j x h1 h2 h3 h4 h5 => h.cpl j x (by omega) h2 h3 h4 h5 }

theorem RI.push {U : TF} {i : Nat} {c : Int} {st : DS} (h : RI U i c st) (hi : i < st.1.length) (hc : 1 ≤ c ∧ c ≤ 9) (hb : sbB U (st.1.getD i []) c ≠ -1) :
    RI U i (c + 1) (numL st.1 (sbS U (st.1.getD i []) c), st.2 ++ [arcD U (numL st.1 (sbS U (st.1.getD i []) c)) i c]) := by
  obtain ⟨L, raw⟩ := st
  simp only at hi hb ⊢
  have hmem : sbS U (L.getD i []) c ∈ numL L (sbS U (L.getD i []) c) := numL_mem
  have hlen := numL_len L (sbS U (L.getD i []) c)
  have hcase : numL L (sbS U (L.getD i []) c) = L ∨ numL L (sbS U (L.getD i []) c) = L ++ [sbS U (L.getD i []) c] := by unfold numL; split <;> simp
  obtain ⟨M, hM⟩ := numL_app L (sbS U (L.getD i []) c)
  have hget : ∀ j, j < L.length → (numL L (sbS U (L.getD i []) c)).getD j [] = L.getD j [] := fun j hj => numL_get hj
  have hnew : arcD U (numL L (sbS U (L.getD i []) c)) i c = ⟨(i : Int), c, c, (((numL L (sbS U (L.getD i []) c)).idxOf (sbS U (L.getD i []) c) : Nat) : Int), sbB U (L.getD i []) c⟩ := by unfold arcD; rw [hget i hi]
  generalize hN : numL L (sbS U (L.getD i []) c) = N at *
  generalize hs : sbS U (L.getD i []) c = s at *
  have hkeep : ∀ j x, j < L.length → sbS U (L.getD j []) x ∈ L → arcD U N j x = arcD U L j x := fun j x h1 h2 => by rw [hM]; exact arcD_app h1 h2
  refine ⟨?_, ?_, fun a ha => ?_, fun j x h1 h2 h3 h4 h5 => ?_, ?_, fun j hj => ?_⟩
  · rw [hget 0 h.len]; exact h.l0
  · have := h.len; simp only at this ⊢; omega
  · simp only at ha ⊢
    rcases List.mem_append.1 ha with ha | ha
    · obtain ⟨j, x, g1, g2, g3, g4, g5, rfl⟩ := h.snd a ha
      refine ⟨j, x, by omega, g2, by simp only at g3; omega, by rw [hget j g3]; exact g4, ?_, (hkeep j x g3 g5).symm⟩
      rw [hget j g3, hM]
      exact List.mem_append.2 (.inl g5)
    · rw [List.mem_singleton] at ha
      subst ha
      exact ⟨i, c, .inr ⟨rfl, by omega⟩, hc, by omega, by rw [hget i hi]; exact hb, by rw [hget i hi, hs]; exact hmem, rfl⟩
  · simp only at h4 h5 ⊢
    rw [List.mem_append, List.mem_singleton]
    by_cases e : j = i ∧ x = c
    · right; rw [e.1, e.2]
    · left
      have hj : j < L.length := by omega
      rw [hget j hj] at h5
      have g := h.cpl j x (by omega) h2 h3 hj h5
      obtain ⟨j', x', q1, q2, q3, q4, q5, q6⟩ := h.snd _ g
      have e1 : (j : Int) = j' := congrArg Arc.f q6
      have e2 : x = x' := congrArg Arc.i q6
      have e3 : j = j' := by omega
      subst e2 e3
      rw [hkeep j x hj q5]
      exact g
  · refine List.pairwise_append.2 ⟨h.srt, List.pairwise_singleton _ _, fun a ha b hb' => ?_⟩
    rw [List.mem_singleton] at hb'
    subst hb'
    obtain ⟨j, x, q1, q2, q3, q4, q5, rfl⟩ := h.snd a ha
    rw [aheadB_iff]
    show (j : Int) < (i : Int) ∨ (j : Int) = i ∧ (x < c ∨ _)
    omega
  · simp only at hj ⊢
    by_cases hj2 : j < L.length
    · obtain ⟨w, d, hr⟩ := h.rch j hj2
      exact ⟨w, d, hr.mono fun a ha => List.mem_append.2 (.inl ha)⟩
    · obtain ⟨w, d, hr⟩ := h.rch i hi
      have hr2 := (hr.mono (M := raw ++ [arcD U N i c]) fun a ha => List.mem_append.2 (.inl ha)).snoc (List.mem_append.2 (.inr (List.mem_singleton.2 rfl))) rfl
      have e : (arcD U N i c).t = (j : Int) := by
        rw [hnew]
        simp only
        rcases hcase with e | e
        · rw [e] at hj; omega
        · have hsn : s ∉ L := by
            intro hin
            rw [← hN] at e
            unfold numL at e
            rw [if_pos hin] at e
            have := congrArg List.length e
            simp at this
          rw [e] at hj ⊢
          rw [idxOf_out hsn]
          simp at hj ⊢
          omega
      rw [e] at hr2
      exact ⟨_, _, hr2⟩

theorem RI.step {U : TF} {i : Nat} {c : Int} {st : DS} (h : RI U i c st) (hi : i < st.1.length) (hc : 1 ≤ c ∧ c ≤ 9) : RI U i (c + 1) (stD U i st c) := by
  unfold stD
  by_cases hb : sbB U (st.1.getD i []) c = -1
  · rw [if_pos hb]; exact h.skip hb
  · rw [if_neg hb]
    have := h.push hi hc hb
    have e : arcD U (numL st.1 (sbS U (st.1.getD i []) c)) i c = ⟨(i : Int), c, c, (((numL st.1 (sbS U (st.1.getD i []) c)).idxOf (sbS U (st.1.getD i []) c) : Nat) : Int), sbB U (st.1.getD i []) c⟩ := by
      unfold arcD; rw [numL_get hi]
    rw [← e]
    exact this

theorem stD_len {U : TF} {i : Nat} {c : Int} {st : DS} : st.1.length ≤ (stD U i st c).1.length := by
  unfold stD
  split
  · exact Nat.le_refl _
  · exact (numL_len _ _).1

theorem RI.row {U : TF} {i : Nat} {st : DS} (h : RI U i 1 st) (hi : i < st.1.length) : ∀ k : Nat, k ≤ 9 → RI U i ((k : Int) + 1) (rowP U i st k) ∧ st.1.length ≤ (rowP U i st k).1.length
  | 0, _ => ⟨h, Nat.le_refl _⟩
  | k + 1, hk => by
    obtain ⟨h1, h2⟩ := RI.row h hi k (by omega)
    rw [rowP_succ]
    refine ⟨?_, Nat.le_trans h2 stD_len⟩
    have := h1.step (by omega) (by omega)
    rwa [show ((k : Int) + 1 + 1) = ((k + 1 : Nat) : Int) + 1 by omega] at this

theorem MDone.ri {U : TF} {st : DS} (h : MDone U st) : RI U st.1.length 1 st := by
  obtain ⟨k, e, hk⟩ := h
  have hlt : ∀ j, j < k → j < (rowsD U j).1.length := by
    intro j hj
    refine Classical.byContradiction fun hc => ?_
    have := rows_stop (U := U) (j := j) (by omega) (k - j)
    rw [show j + (k - j) = k by omega, e] at this
    rw [← this] at hc
    omega
  have : ∀ j, j ≤ k → RI U j 1 (rowsD U j) := by
    intro j
    induction j with
    | zero => intro _; exact RI.start U
    | succ j ih =>
      intro hj
      exact ((ih (by omega)).row (hlt j (by omega)) 9 (Nat.le_refl _)).1.next
  have := this k (Nat.le_refl _)
  rwa [e, hk] at this

section
variable {U : TF} (hU : ∀ a ∈ U.arcs, (0 ≤ a.f ∧ a.f < U.st) ∧ (0 ≤ a.t ∧ a.t < U.st) ∧ 0 ≤ a.w ∧ a.w ≤ 1000000000) {st : DS} (h : RI U st.1.length 1 st)
include h

theorem RI.arc {a : Arc} (ha : a ∈ st.2) : ∃ (j : Nat) (x : Int), (1 ≤ x ∧ x ≤ 9) ∧ j < st.1.length ∧ sbB U (st.1.getD j []) x ≠ -1 ∧ sbS U (st.1.getD j []) x ∈ st.1 ∧ a.f = j ∧ a.i = x ∧ a.o = x ∧ a.w = sbB U (st.1.getD j []) x ∧ (0 ≤ a.t ∧ a.t.toNat < st.1.length) ∧ st.1.getD a.t.toNat [] = sbS U (st.1.getD j []) x := by
  obtain ⟨j, x, h1, h2, h3, h4, h5, rfl⟩ := h.snd a ha
  exact ⟨j, x, h2, h3, h4, h5, rfl, rfl, rfl, rfl, ⟨Int.natCast_nonneg _, List.idxOf_lt_length_of_mem h5⟩, getD_idxOf h5⟩

include hU
/-- What is read along a way tells the subset it leads to. -/
theorem RI.sub {w : List Int} {j d : Int} (hr : RdW st.2 0 w j d) : SubOk U w d (st.1.getD j.toNat []) := by
  have : ∀ (n : Nat) (w : List Int) (j d : Int), w.length = n → RdW st.2 0 w j d → SubOk U w d (st.1.getD j.toNat []) := by
    intro n
    induction n with
    | zero =>
      intro w j d hw hr
      have : w = [] := List.length_eq_zero_iff.1 hw
      subst this
      obtain ⟨rfl, rfl⟩ := hr.none rfl
      rw [show (0 : Int).toNat = 0 from rfl, h.l0]
      exact SubOk.start U
    | succ n ih =>
      intro w j d hw hr
      obtain ⟨v, x, rfl⟩ : ∃ v x, w = v ++ [x] := ⟨w.dropLast, w.getLast (by intro e; rw [e] at hw; cases hw), (List.dropLast_concat_getLast _).symm⟩
      rw [List.length_append, List.length_singleton] at hw
      obtain ⟨a, ha, e, h1, h2, h3, h4⟩ := hr.unsnoc
      have hv := ih v a.f e (by omega) h1
      obtain ⟨i, y, g1, g2, g3, g4, g5, g6, g7, g8, g9, g10⟩ := h.arc ha
      rw [g5, Int.toNat_natCast] at hv
      rw [← h3, g10, h4, g8, ← h2, g6]
      exact hv.step hU g3
  exact this w.length w j d rfl hr

/-- Each beginning is read. -/
theorem RI.reads (hlet : ∀ a ∈ U.arcs, 1 ≤ a.i ∧ a.i ≤ 9) {w : List Int} (hb : Bg U w) : ∃ (j : Nat) (d : Int), j < st.1.length ∧ RdW st.2 0 w j d := by
  have : ∀ (n : Nat) (w : List Int), w.length = n → Bg U w → ∃ (j : Nat) (d : Int), j < st.1.length ∧ RdW st.2 0 w j d := by
    intro n
    induction n with
    | zero =>
      intro w hw _
      have : w = [] := List.length_eq_zero_iff.1 hw
      subst this
      exact ⟨0, 0, h.len, .nil _⟩
    | succ n ih =>
      intro w hw hb
      obtain ⟨v, x, rfl⟩ : ∃ v x, w = v ++ [x] := ⟨w.dropLast, w.getLast (by intro e; rw [e] at hw; cases hw), (List.dropLast_concat_getLast _).symm⟩
      rw [List.length_append, List.length_singleton] at hw
      obtain ⟨j, d, hj, hr⟩ := ih v (by omega) hb.pre
      have hs := h.sub hU hr
      rw [Int.toNat_natCast] at hs
      have hx : 1 ≤ x ∧ x ≤ 9 := by
        obtain ⟨t, c, hb⟩ := hb
        exact hb.lets hlet x (by simp)
      have hne : sbB U (st.1.getD j []) x ≠ -1 := fun e => hs.no hU e hb
      have ha := h.cpl j x (.inl hj) hx.1 hx.2 hj hne
      obtain ⟨i, y, g1, g2, g3, g4, g5, g6, g7, g8, g9, g10⟩ := h.arc ha
      have hr2 := hr.snoc ha rfl
      rw [show (arcD U st.1 j x).t = ((((arcD U st.1 j x).t.toNat : Nat) : Int)) by omega] at hr2
      exact ⟨_, _, g9.2, hr2⟩
  exact this w.length w rfl hb
end

/-- One and the same letter is read and written. -/
theorem way_rd {L : List Arc} (hL : ∀ a ∈ L, a.i = a.o ∧ a.i ≠ 0) {s t d : Int} {u v : List Int} (h : Way L s u v t d) : u = v ∧ RdW L s u t d := by
  induction h with
  | nil s => exact ⟨rfl, .nil _⟩
  | cons ha h ih =>
    have := hL _ ha
    obtain ⟨rfl, h2⟩ := ih
    rw [← this.1]
    unfold lab
    rw [if_neg this.2]
    exact ⟨rfl, .cons ha h2⟩
theorem rd_way {L : List Arc} (hL : ∀ a ∈ L, a.i = a.o ∧ a.i ≠ 0) {s t d : Int} {u : List Int} (h : RdW L s u t d) : Way L s u u t d := by
  induction h with
  | nil s => exact .nil _
  | cons ha h ih =>
    have h1 := hL _ ha
    have := Way.cons ha ih
    rw [← h1.1] at this
    unfold lab at this
    rwa [if_neg h1.2] at this

/-- What is made. -/
def mkD (U : TF) (st : DS) (cf ca : Nat) : TF := ⟨(st.1.length : Nat), 0, st.1.map (finD U), st.2, cf, ca⟩

section
variable {U : TF} (hU : ∀ a ∈ U.arcs, (0 ≤ a.f ∧ a.f < U.st) ∧ (0 ≤ a.t ∧ a.t < U.st) ∧ 0 ≤ a.w ∧ a.w ≤ 1000000000)
  (hlet : ∀ a ∈ U.arcs, (1 ≤ a.i ∧ a.i ≤ 9) ∧ a.i = a.o) (hfin : ∀ j : Nat, -1 ≤ U.fin.getD j 0) {st : DS} (h : RI U st.1.length 1 st)
theorem mkD_fin {j : Nat} (hj : j < st.1.length) : (st.1.map (finD U)).getD j 0 = finD U (st.1.getD j []) := by
  simp [List.getD, hj]

include hU hlet hfin h
/-- It costs the same for each word. -/
theorem mkD_wt {cf ca : Nat} {l : List Int} {n : Int} (hn : MinOf (Wt (mkD U st cf ca) l l) n) : MinOf (Wt U l l) n := by
  have hL : ∀ a ∈ U.arcs, a.i = a.o ∧ a.i ≠ 0 := fun a ha => by have := hlet a ha; omega
  have hR : ∀ a ∈ st.2, a.i = a.o ∧ a.i ≠ 0 := fun a ha => by
    obtain ⟨i, y, g1, g2, g3, g4, g5, g6, g7, g8, g9, g10⟩ := h.arc ha
    omega
  have hUw : ∀ c, Wt U l l c ↔ ∃ t d, RdW U.arcs U.start l t d ∧ U.fin.getD t.toNat 0 ≠ -1 ∧ c = d + U.fin.getD t.toNat 0 := fun c =>
    ⟨fun ⟨t, d, h1, h2, h3⟩ => ⟨t, d, (way_rd hL h1).2, h2, h3⟩, fun ⟨t, d, h1, h2, h3⟩ => ⟨t, d, rd_way hL h1, h2, h3⟩⟩
  have hsub : ∀ j d : Int, RdW st.2 0 l j d → MinOf (Wt U l l) (if finD U (st.1.getD j.toNat []) = -1 then -1 else d + finD U (st.1.getD j.toNat [])) := by
    intro j d hr
    have hs := h.sub hU hr
    have hm := finD_min hs.b0 hfin
    have hr0 := hs.r0
    by_cases e : finD U (st.1.getD j.toNat []) = -1
    · rw [if_pos e]
      refine .inl ⟨rfl, fun c hc => ?_⟩
      obtain ⟨t, d', h1, h2, rfl⟩ := (hUw c).1 hc
      obtain ⟨f, hf, rfl⟩ := hs.all _ _ h1
      exact (hm.le (c := _) ⟨f, hf, h2, rfl⟩).1 e
    · rw [if_neg e]
      have hlow := hm.low
      obtain ⟨f, hf, h2, h3⟩ := hm.is e
      refine .inr ⟨by omega, (hUw _).2 ⟨f.a, d + f.b, (hs.min f hf).is (by have := hs.b0 f hf; omega), h2, by omega⟩, fun c hc => ?_⟩
      obtain ⟨t, d', h1, h2, rfl⟩ := (hUw c).1 hc
      obtain ⟨g, hg, rfl⟩ := hs.all _ _ h1
      have := (hm.le (c := _) ⟨g, hg, h2, rfl⟩).2
      have := ((hs.min g hg).le h1).2
      omega
  rcases hn with ⟨rfl, h1⟩ | ⟨h0, ⟨j, d, h1, h2, rfl⟩, h3⟩
  · refine .inl ⟨rfl, fun c hc => ?_⟩
    obtain ⟨t, d, g1, g2, g3⟩ := (hUw c).1 hc
    obtain ⟨j, e, hj, hr⟩ := h.reads hU (fun a ha => (hlet a ha).1) ⟨t, d, g1⟩
    have hm := hsub _ _ hr
    rw [Int.toNat_natCast] at hm
    by_cases e2 : finD U (st.1.getD j []) = -1
    · rw [if_pos e2] at hm
      exact (hm.le hc).1 rfl
    · refine h1 (e + finD U (st.1.getD j [])) ⟨j, e, rd_way hR hr, ?_, ?_⟩
      · show (st.1.map (finD U)).getD _ 0 ≠ -1
        rw [Int.toNat_natCast, mkD_fin hj]
        exact e2
      · show _ = e + (st.1.map (finD U)).getD _ 0
        rw [Int.toNat_natCast, mkD_fin hj]
  · have hr := (way_rd hR h1).2
    have hm := hsub _ _ hr
    have h2' : (st.1.map (finD U)).getD j.toNat 0 ≠ -1 := h2
    have hj : j.toNat < st.1.length := by
      have h9 := hr.rng (n := (st.1.length : Nat)) (fun a ha => by
        obtain ⟨i, y, g1, g2, g3, g4, g5, g6, g7, g8, g9, g10⟩ := h.arc ha
        omega) ⟨Int.le_refl _, by show (0 : Int) < _; have := h.len; omega⟩
      omega
    rw [mkD_fin hj] at h2'
    rw [if_neg h2'] at hm
    show MinOf (Wt U l l) (d + (st.1.map (finD U)).getD j.toNat 0)
    rw [mkD_fin hj]
    exact hm
end
end Go.Fw
