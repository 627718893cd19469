/- Walks of the functions: what each computes. -/
import Derived.Test.YtlaenllbacalpaaDoorA19
import Derived.Test.YtlaenllbacalpaaDoorA18

set_option linter.unusedSimpArgs false
set_option linter.unusedVariables false

namespace Go.Fw
open Go Go.Proofs
def LAns (F : TF) (e : Int) (n : Nat) (ff : List Int) (oo : List Arc) : Prop :=
  (leastE F ≠ 0 ∧ e = leastE F) ∨
  (leastE F = 0 ∧ ∃ U, IsUs F U ∧ ((200 < bgnF U 201 200 [⟨U.start, 0⟩] ∧ e = 2) ∨
    (bgnF U 201 200 [⟨U.start, 0⟩] ≤ 200 ∧ ∃ st : DS, MDone U st ∧ IsLs U st n ff oo ∧ (greatB oo ff = true ∧ e = 2 ∨ greatB oo ff = false ∧ e = 0))))
def LOut (x : Obj) (e : Int) (n : Nat) (ff : List Int) (oo : List Arc) (v : SV) (s : S) : Prop :=
  (e ≠ 0 ∧ v = .tup [.agg zero25, .c (.i e)] ∧ s = ⟨[], [(2, tabO x)], 3⟩) ∨
  (e = 0 ∧ ∃ sp sq, v = .tup [.agg [.i (n : Nat), .i 0, .sl 3 1 0 ff.length (ff.length + sp), .sl 4 5 0 oo.length (oo.length + sq)], .c (.i 0)] ∧
    s = ⟨[], [(2, tabO x), (3, .arr true 3 .int ff sp), (4, .arr true 50 .arc oo sq)], 5⟩)
theorem LeastPost.split {F : TF} {x : Obj} {v : SV} {s : S} (h : LeastPost F x v s) : ∃ e n ff oo, LAns F e n ff oo ∧ LOut x e n ff oo v s := by
  rcases h with ⟨h1, h2, h3⟩ | ⟨h1, U, hus, ⟨h2, h3, h4⟩ | ⟨h2, st, hmd, n, ff, oo, hls, ⟨hg, h3, h4⟩ | ⟨hg, sp, sq, h3, h4⟩⟩⟩
  · exact ⟨leastE F, 0, [], [], .inl ⟨h1, rfl⟩, .inl ⟨h1, h2, h3⟩⟩
  · exact ⟨2, 0, [], [], .inr ⟨h1, U, hus, .inl ⟨h2, rfl⟩⟩, .inl ⟨by decide, h3, h4⟩⟩
  · exact ⟨2, n, ff, oo, .inr ⟨h1, U, hus, .inr ⟨h2, st, hmd, hls, .inl ⟨hg, rfl⟩⟩⟩, .inl ⟨by decide, h3, h4⟩⟩
  · exact ⟨0, n, ff, oo, .inr ⟨h1, U, hus, .inr ⟨h2, st, hmd, hls, .inr ⟨hg, rfl⟩⟩⟩, .inr ⟨rfl, sp, sq, h3, h4⟩⟩
theorem LAns.len {F : TF} {n : Nat} {ff : List Int} {oo : List Arc} (h : LAns F 0 n ff oo) (hF : FOk F) (h12 : F.st ≤ 12) (hf : fineB F = true) : ff.length = n ∧ n ≤ 200 ∧ oo.length ≤ 9223372036854775807 := by
  rcases h with ⟨h1, h2⟩ | ⟨_, U, hus, ⟨_, h2⟩ | ⟨h2, st, hmd, hls, _⟩⟩
  · exact absurd h2.symm h1
  · cases h2
  · have hD : DetH F U st := ⟨hF, hf, hus, h2, hmd⟩
    rcases hls with ⟨_, rfl, rfl, rfl⟩ | ⟨hn, c1, c2, cls, left, outs, hc, m1, m2, m3, rfl, rfl, rfl⟩
    · simp
    · have hB := (hD.fokB h12 0 0).1
      have hX := ph_dfst hB (c1 := c1) (c2 := c2) fun q hq => by
        have hq : q < ((st.1.length : Nat) : Int).toNat := hq
        have := dsD_is hD h12 hn (q := q) (by omega)
        unfold dsD at this
        omega
      have hs := hD.small.2.1
      have e : (phT (mkD U st 0 0) c1 c2).st = ((st.1.length : Nat) : Int) := rfl
      have e2 : (adF (dsD U st 0) (left.map (fiA (phT (mkD U st 0 0) c1 c2)))).length = left.length := by unfold adF; split <;> simp
      have hl := m3.le hX.st.1 hc.bd
      simp only at hl
      have hk : ∀ k, (mgRows (phT (mkD U st 0 0) c1 c2) cls k).2.length ≤ k * (phT (mkD U st 0 0) c1 c2).arcs.length := fun k => by
        induction k with
        | zero => simp [mgRows]
        | succ k ih =>
          have := (mgP_len (D := phT (mkD U st 0 0) c1 c2) (cls := cls) (i := k) (s := (mgRows (phT (mkD U st 0 0) c1 c2) cls k).1.getD k 0) (st := mgRows (phT (mkD U st 0 0) c1 c2) cls k) (phT (mkD U st 0 0) c1 c2).arcs.length).1
          show (mgP _ _ _ _ _ _).2.length ≤ _
          rw [Nat.succ_mul]
          omega
      have h2 := hk left.length
      rw [m1] at h2
      have h4 : left.length * (phT (mkD U st 0 0) c1 c2).arcs.length ≤ 200 * (phT (mkD U st 0 0) c1 c2).arcs.length := Nat.mul_le_mul_right _ (by omega)
      have h5 := hX.arc1
      refine ⟨e2, by omega, ?_⟩
      rw [List.length_map]
      simp only at h2
      omega
theorem LAns.len2 {F : TF} {n : Nat} {ff : List Int} {oo : List Arc} (h : LAns F 0 n ff oo) : ff.length = n ∧ n ≤ 200 ∧ oo.length ≤ 9223372036854775807 := by
  by_cases h0 : fstE F = 0
  · by_cases h12 : F.st ≤ 12
    · by_cases hf : fineB F = true
      · exact h.len (fstE_ok h0) h12 hf
      · exfalso
        have hd : leastE F = 4 := by unfold leastE; rw [if_neg (fun c => c h0), if_neg (by omega), if_neg hf]
        rcases h with ⟨h1, h2⟩ | ⟨h1, _⟩ <;> omega
    · exfalso
      have hd : leastE F = 2 := by unfold leastE; rw [if_neg (fun c => c h0), if_pos (by omega)]
      rcases h with ⟨h1, h2⟩ | ⟨h1, _⟩ <;> omega
  · exfalso
    have hd : leastE F = fstE F := by unfold leastE; rw [if_pos h0]
    rcases h with ⟨h1, h2⟩ | ⟨h1, _⟩ <;> omega
def SamePost (F G : TF) (x : Obj) (v : SV) (s : S) : Prop := ∃ e n ff oo, LAns F e n ff oo ∧
  ((e ≠ 0 ∧ v = .tup [.c (.b false), .c (.i e)]) ∨
   (e = 0 ∧ ∃ e' n' ff' oo', LAns G e' n' ff' oo' ∧ ((e' ≠ 0 ∧ v = .tup [.c (.b false), .c (.i e')]) ∨ (e' = 0 ∧ v = .tup [.c (.b (decide (n = n' ∧ ff = ff' ∧ oo = oo'))), .c (.i 0)])))) ∧
  s = ⟨[], [(4, tabO x)], 5⟩
set_option maxHeartbeats 8000000 in
set_option maxRecDepth 20000 in
theorem Same_c (F G : TF) (h1 : F.fin.length ≤ 9223372036854775807) (h2 : G.fin.length ≤ 9223372036854775807) (x : Obj) (hx : TabX x) : Ct Tryd.prog 26 [fV F, gV G] [] (hpG F G ++ [(4, tabO x)]) 5 (SamePost F G x) := by
  refine ctC Tryd.tyOk Tryd.func26 rfl (by simp [gV]) (by simp) (fr := [(0, fV F), (1, gV G)]) rfl ?_
  refine SemC.of Tryd.tyOk 9 [] ?_
  repeat' (first | exact rfl | ((conv => whnf); first | (refine qX (fun h => ?_) fun h => ?_ <;> try exact absurd h (by omega)) | refine oN ?_ | refine oM ?_ ?_ | refine bM ?_ ?_ | refine dR ?_))
  (conv => whnf)
  refine cF (least_c F h1 x hx) [0, 1, 4] Tryd.call46 ?_
  rintro v s hp
  obtain ⟨e, n, ff, oo, hA, hO⟩ := hp.split
  clear hp
  rcases hO with ⟨h0, rfl, rfl⟩ | ⟨rfl, sp, sq, rfl, rfl⟩
  · repeat' (first | exact rfl | ((conv => whnf); first | (refine qX (fun h => ?_) fun h => ?_ <;> try exact absurd h (by omega)) | refine oN ?_ | refine oM ?_ ?_ | refine bM ?_ ?_ | refine dR ?_ | intro _))
    all_goals try (exfalso; omega)
    (conv => whnf)
    try simp only [Nat.reduceAdd, Nat.reduceSub]
    exact ⟨[], [(4, tabO x)], 5, .tup [.c (.b false), .c (.i e)], ⟨by rfl, trivial, by simp⟩, by simp, e, n, ff, oo, hA, .inl ⟨h0, rfl⟩, rfl⟩
  · have hlen := hA.len2
    repeat' (first | exact rfl | ((conv => whnf); first | (refine qX (fun h => ?_) fun h => ?_ <;> try exact absurd h (by omega)) | refine oN ?_ | refine oM ?_ ?_ | refine bM ?_ ?_ | refine dR ?_ | intro _))
    (conv => whnf)
    try simp only [Nat.reduceAdd, Nat.reduceSub]
    refine callF (least_c G h2 x hx) [2, 3, 4] Tryd.call46 rfl (by simp [gV]) (by simp [gV]) (by simp) ?_
    rintro v s hp
    obtain ⟨e', n', ff', oo', hA', hO⟩ := hp.split
    clear hp
    rcases hO with ⟨h0, rfl, rfl⟩ | ⟨rfl, sp', sq', rfl, rfl⟩
    · repeat' (first | exact rfl | ((conv => whnf); first | (refine qX (fun h => ?_) fun h => ?_ <;> try exact absurd h (by omega)) | refine oN ?_ | refine oM ?_ ?_ | refine bM ?_ ?_ | refine dR ?_ | intro _))
      all_goals try (exfalso; omega)
      (conv => whnf)
      try simp only [Nat.reduceAdd, Nat.reduceSub]
      exact ⟨[], [(4, tabO x)], 5, .tup [.c (.b false), .c (.i e')], ⟨by rfl, trivial, by simp⟩, by simp, 0, n, ff, oo, hA, .inr ⟨rfl, e', n', ff', oo', hA', .inl ⟨h0, rfl⟩⟩, rfl⟩
    · have hlen' := hA'.len2
      repeat' (first | exact rfl | ((conv => whnf); first | (refine qX (fun h => ?_) fun h => ?_ <;> try exact absurd h (by omega)) | refine oN ?_ | refine oM ?_ ?_ | refine bM ?_ ?_ | refine dR ?_ | intro _))
      (conv => whnf)
      try simp only [Nat.reduceAdd, Nat.reduceSub]
      have cS := same2_c ⟨(n : Nat), 0, ff, oo, ff.length + sp, oo.length + sq⟩ ⟨(n' : Nat), 0, ff', oo', ff'.length + sp', oo'.length + sq'⟩ (by simp only; omega) (by simp only; omega) hlen.2.2 hlen'.2.2
      have hse : sameF ⟨(n : Nat), 0, ff, oo, ff.length + sp, oo.length + sq⟩ ⟨(n' : Nat), 0, ff', oo', ff'.length + sp', oo'.length + sq'⟩ = decide (n = n' ∧ ff = ff' ∧ oo = oo') := by
        unfold sameF
        refine decide_eq_decide.2 ⟨fun ⟨a, _, b, c⟩ => ⟨by simp only at a; omega, b, c⟩, fun ⟨a, b, c⟩ => ⟨by rw [a], rfl, b, c⟩⟩
      rw [hse] at cS
      have hpo : SamePost F G x (.tup [.c (.b (decide (n = n' ∧ ff = ff' ∧ oo = oo'))), .c (.i 0)]) ⟨[], [(4, tabO x)], 5⟩ := ⟨0, n, ff, oo, hA, .inr ⟨rfl, 0, n', ff', oo', hA', .inr ⟨rfl, rfl⟩⟩, rfl⟩
      generalize decide (n = n' ∧ ff = ff' ∧ oo = oo') = r at *
      clear hA hA' hse
      refine callF (cS) [7, 8, 10, 11] Tryd.call54 rfl (by simp [gV]) (by simp [gV]) (by simp) ?_
      rintro _ _ ⟨rfl, rfl⟩
      repeat' (first | exact rfl | ((conv => whnf); first | (refine qX (fun h => ?_) fun h => ?_ <;> try exact absurd h (by omega)) | refine oN ?_ | refine oM ?_ ?_ | refine bM ?_ ?_ | refine dR ?_ | intro _))
      (conv => whnf)
      exact ⟨[], [(4, tabO x)], 5, .tup [.c (.b r), .c (.i 0)], ⟨by rfl, trivial, by simp⟩, by simp, hpo⟩
theorem smp_p {F : TF} {a b : Int} (hb : b ≠ -1) (c d : Nat) (hF : F = ⟨2, 0, [-1, b], [⟨0, 1, 1, 1, a⟩], c, d⟩) {p : Nat → Bool} (h : UsOk F p) : p 0 = true ∧ p 1 = true := by
  subst hF
  have ha : (⟨0, 1, 1, 1, a⟩ : Arc) ∈ ([⟨0, 1, 1, 1, a⟩] : List Arc) := by simp
  have r0 : Rch ([⟨0, 1, 1, 1, a⟩] : List Arc) false [0] 0 := .here (by simp)
  have r1 : Rch ([⟨0, 1, 1, 1, a⟩] : List Arc) false [0] 1 := Rch.on r0 ha rfl
  have b1 : Rch ([⟨0, 1, 1, 1, a⟩] : List Arc) true [((1 : Nat) : Int)] 1 := .here (by simp)
  have b0 : Rch ([⟨0, 1, 1, 1, a⟩] : List Arc) true [((1 : Nat) : Int)] 0 := Rch.on b1 ha rfl
  exact ⟨(h.iff 0 (by simp)).2 ⟨r0, 1, by simp, by simpa using hb, b0⟩, (h.iff 1 (by simp)).2 ⟨r1, 1, by simp, by simpa using hb, b1⟩⟩
theorem smp_us {F U : TF} {a b : Int} (hb : b ≠ -1) {c d : Nat} (hF : F = ⟨2, 0, [-1, b], [⟨0, 1, 1, 1, a⟩], c, d⟩) (h : IsUs F U) : U = ⟨2, 0, [-1, b], [⟨0, 1, 1, 1, a⟩], U.capF, U.capA⟩ := by
  obtain ⟨p, hp, h1, h2, h3, h4⟩ := h
  obtain ⟨p0, p1⟩ := smp_p hb c d hF hp
  have hk : kT F p = ⟨2, 0, [-1, b], [⟨0, 1, 1, 1, a⟩], 0, 0⟩ := by
    rw [hF]
    simp [kT, rkB, kfin, karc, kOk, kArc, p0, p1, List.getD, aD]
  rw [hk] at h1 h2 h3 h4
  obtain ⟨a, b, c, d, e, f⟩ := U
  simp only at h1 h2 h3 h4 ⊢
  rw [h1, h2, h3, h4]
theorem smp_ls {F : TF} {a b : Int} (hb : 0 ≤ b) {c d : Nat} (hF : F = ⟨2, 0, [-1, b], [⟨0, 1, 1, 1, a⟩], c, d⟩) (h0 : leastE F = 0)
    (h1 : ∀ c d, bgnF ⟨2, 0, [-1, b], [⟨0, 1, 1, 1, a⟩], c, d⟩ 201 200 [⟨0, 0⟩] = 2) (h2 : ∀ c d, rowsD ⟨2, 0, [-1, b], [⟨0, 1, 1, 1, a⟩], c, d⟩ 2 = ([[⟨0, 0⟩], [⟨1, 0⟩]], [⟨0, 1, 1, 1, a⟩]))
    (h3 : ∀ c d, ([[⟨0, 0⟩], [⟨1, 0⟩]] : List (List Duo)).map (finD ⟨2, 0, [-1, b], [⟨0, 1, 1, 1, a⟩], c, d⟩) = [-1, b]) (h4 : (onS ⟨2, 0, [-1, b], [⟨0, 1, 1, 1, a⟩], 0, 0⟩).1 = [a + b, b])
    (h5 : a + b = 6) (ha : a ≠ -1)
    {e : Int} {n : Nat} {ff : List Int} {oo : List Arc} (h : LAns F e n ff oo) : e = 0 ∧ n = 2 ∧ ff = [-1, 0] ∧ oo = [⟨0, 1, 1, 1, 6⟩] := by
  rcases h with ⟨h, _⟩ | ⟨_, U, hus, ⟨h, _⟩ | ⟨h, st, hmd, hls, hg⟩⟩
  · exact absurd h0 h
  · have hU := smp_us (by omega) hF hus
    rw [hU] at h
    have := h1 U.capF U.capA
    simp only at h
    omega
  · have hU := smp_us (by omega) hF hus
    generalize U.capF = cu at hU
    generalize U.capA = du at hU
    subst hU
    have hst := hmd.uniq ⟨2, h2 cu du, rfl⟩
    subst hst
    have hD : mkD ⟨2, 0, [-1, b], [⟨0, 1, 1, 1, a⟩], cu, du⟩ ([[⟨0, 0⟩], [⟨1, 0⟩]], [⟨0, 1, 1, 1, a⟩]) 0 0 = ⟨2, 0, [-1, b], [⟨0, 1, 1, 1, a⟩], 0, 0⟩ := by
      unfold mkD
      simp only [h3]
      rfl
    have hX : ∀ c1 c2, phT ⟨2, 0, [-1, b], [⟨0, 1, 1, 1, a⟩], 0, 0⟩ c1 c2 = ⟨2, 0, [-1, 0], [⟨0, 1, 1, 1, 0⟩], c1, c2⟩ := fun c1 c2 => by
      unfold phT
      simp only [h4]
      have hbn : ¬ b = -1 := by omega
      have hb6 : ¬ a + b = -1 := by omega
      simp [pushF, pushV, pushL, pushA, hbn, hb6, List.range_succ]
      omega
    rcases hls with ⟨hn, _⟩ | ⟨_, c1, c2, cls, left, outs, hc, m1, m2, m3, rfl, rfl, rfl⟩
    · exfalso
      refine hn ⟨[1], a + b, 1, a, ?_, ?_, ?_⟩
      · have := RdW.cons (L := [⟨0, 1, 1, 1, a⟩]) (a := ⟨0, 1, 1, 1, a⟩) (by simp) (.nil _)
        simpa using this
      · simp; omega
      · simp
    · have hds : dsD ⟨2, 0, [-1, b], [⟨0, 1, 1, 1, a⟩], cu, du⟩ ([[⟨0, 0⟩], [⟨1, 0⟩]], [⟨0, 1, 1, 1, a⟩]) 0 = 6 := by
        unfold dsD
        rw [hD, h4]
        simpa using h5
      rw [hD, hX] at hc m1 m2 m3
      rw [hds, hD, hX]
      have hne : cls.getD 0 0 ≠ cls.getD 1 0 := fun he => by
        have hDF : DFst ⟨2, 0, [-1, 0], [⟨0, 1, 1, 1, 0⟩], c1, c2⟩ := ⟨⟨by simp, by simp, by simp, by simp⟩, by simp, by simp, by simp, by simp, by simp⟩
        have := ((hc.iff hDF (i := 0) (j := 1) (by simp) (by simp)).1 he).1
        simp at this
      have k1 : clA cls 1 ≠ clA cls 0 := fun he => hne he.symm
      have g1 : mgRows ⟨2, 0, [-1, 0], [⟨0, 1, 1, 1, 0⟩], c1, c2⟩ cls 1 = ([0, 1], [⟨0, 1, 1, 1, 0⟩]) := by
        simp [mgRows, mgP, mgStep, mgL, mgN, k1, List.getD, List.idxOf_cons, show (clA cls 0 == clA cls 1) = false by simpa using fun h => k1 h.symm]
      have g2 : mgRows ⟨2, 0, [-1, 0], [⟨0, 1, 1, 1, 0⟩], c1, c2⟩ cls 2 = ([0, 1], [⟨0, 1, 1, 1, 0⟩]) := by
        show mgP _ cls 1 ((mgRows _ cls 1).1.getD 1 0) (mgRows _ cls 1) 1 = _
        rw [g1]
        simp [mgP, mgStep, List.getD]
      have hL : left.length = 2 := by
        rcases Nat.lt_trichotomy left.length 2 with g | g | g
        · exfalso
          rcases (show left.length = 0 ∨ left.length = 1 by omega) with e | e
          · rw [e] at m1
            have : (mgRows ⟨2, 0, [-1, 0], [⟨0, 1, 1, 1, 0⟩], c1, c2⟩ cls 0).1.length = 1 := rfl
            rw [m1] at this
            simp only at this
            omega
          · rw [e, g1] at m1
            have := congrArg (fun p : List Int × List Arc => p.1.length) m1
            simp only [List.length_cons, List.length_nil] at this
            omega
        · exact g
        · exfalso
          have := m2 2 g
          rw [g2] at this
          simp at this
      rw [hL, g2] at m1
      simp only [Prod.mk.injEq] at m1
      obtain ⟨rfl, rfl⟩ := m1
      have hff : adF 6 (([0, 1] : List Int).map (fiA ⟨2, 0, [-1, 0], [⟨0, 1, 1, 1, 0⟩], c1, c2⟩)) = [-1, 0] := by simp [adF, fiA, List.getD]
      have hoo : ([⟨0, 1, 1, 1, 0⟩] : List Arc).map (adA 6) = [⟨0, 1, 1, 1, 6⟩] := by simp [adA]
      rw [hds, hD, hX] at hg
      rw [hff, hoo] at hg
      refine ⟨?_, hL, hff, hoo⟩
      rcases hg with ⟨hg, _⟩ | ⟨_, hg⟩
      · exact absurd hg (by decide)
      · exact hg
theorem sam_ls {e : Int} {n : Nat} {ff : List Int} {oo : List Arc} (h : LAns samT e n ff oo) : e = 0 ∧ n = 2 ∧ ff = [-1, 0] ∧ oo = [⟨0, 1, 1, 1, 6⟩] :=
  smp_ls (a := 5) (b := 1) (by omega) rfl (by decide) (fun c d => by kernel_rfl) (fun c d => by kernel_rfl) (fun c d => by kernel_rfl) (by kernel_rfl) (by omega) (by omega) h
theorem sam_ls2 {c d : Nat} {e : Int} {n : Nat} {ff : List Int} {oo : List Arc} (h : LAns ⟨2, 0, [-1, 0], [⟨0, 1, 1, 1, 6⟩], c, d⟩ e n ff oo) : e = 0 ∧ n = 2 ∧ ff = [-1, 0] ∧ oo = [⟨0, 1, 1, 1, 6⟩] :=
  smp_ls (a := 6) (b := 0) (by omega) rfl (by kernel_rfl) (fun c d => by kernel_rfl) (fun c d => by kernel_rfl) (fun c d => by kernel_rfl) (by kernel_rfl) (by omega) (by omega) h
set_option maxHeartbeats 8000000 in
set_option maxRecDepth 20000 in
theorem leastBegun_c (x : Obj) (hx : TabX x) : Ct Tryd.prog 24 [] [] [(0, tabO x)] 1 (fun v s => v = .b true ∧ s = ⟨[], [(0, tabO x)], 1⟩) := by
  refine ctW Tryd.tyOk 5 [] Tryd.func24 rfl (by simp) (by simp) (fr := []) rfl ?_
  repeat' (first | exact rfl | ((conv => whnf); first | (refine qX (fun h => ?_) fun h => ?_ <;> try exact absurd h (by omega)) | refine oN ?_ | refine oM ?_ ?_ | refine bM ?_ ?_ | refine dR ?_))
  (conv => whnf)
  refine cF (same_c) [] Tryd.call35 ?_
  rintro _ _ ⟨rfl, rfl⟩
  repeat' (first | exact rfl | ((conv => whnf); first | (refine qX (fun h => ?_) fun h => ?_ <;> try exact absurd h (by omega)) | refine oN ?_ | refine oM ?_ ?_ | refine bM ?_ ?_ | refine dR ?_ | intro _))
  (conv => whnf)
  try simp only [Nat.reduceAdd, Nat.reduceSub]
  refine cF (Least_c samT (by decide) x hx) [1, 2, 0] Tryd.call21 ?_
  rintro v s hp
  obtain ⟨e, n, ff, oo, hA, hO⟩ := hp.split
  obtain ⟨rfl, rfl, rfl, rfl⟩ := sam_ls hA
  clear hp hA
  rcases hO with ⟨h0, _⟩ | ⟨_, sp, sq, rfl, rfl⟩
  · exact absurd rfl h0
  repeat' (first | exact rfl | ((conv => whnf); first | (refine qX (fun h => ?_) fun h => ?_ <;> try exact absurd h (by omega)) | refine oN ?_ | refine oM ?_ ?_ | refine bM ?_ ?_ | refine dR ?_ | intro _))
  (conv => whnf)
  try simp only [Nat.reduceAdd, Nat.reduceSub]
  refine cF (same_c) [] Tryd.call35 ?_
  rintro _ _ ⟨rfl, rfl⟩
  repeat' (first | exact rfl | ((conv => whnf); first | (refine qX (fun h => ?_) fun h => ?_ <;> try exact absurd h (by omega)) | refine oN ?_ | refine oM ?_ ?_ | refine bM ?_ ?_ | refine dR ?_ | intro _))
  (conv => whnf)
  try simp only [Nat.reduceAdd, Nat.reduceSub]
  refine callF (Same_c samT ⟨2, 0, [-1, 0], [⟨0, 1, 1, 1, 6⟩], 2 + sp, 1 + sq⟩ (by decide) (by simp) x hx) [6, 7, 3, 4, 0] Tryd.call26 rfl (by simp [gV]) (by simp [gV]) (by simp) ?_
  rintro v s ⟨e, n, ff, oo, hA, hR, rfl⟩
  obtain ⟨rfl, rfl, rfl, rfl⟩ := sam_ls hA
  rcases hR with ⟨h0, _⟩ | ⟨_, e', n', ff', oo', hA', hR'⟩
  · exact absurd rfl h0
  obtain ⟨rfl, rfl, rfl, rfl⟩ := sam_ls2 hA'
  rcases hR' with ⟨h0, _⟩ | ⟨_, rfl⟩
  · exact absurd rfl h0
  rw [decide_eq_true (show 2 = 2 ∧ ([-1, 0] : List Int) = [-1, 0] ∧ ([⟨0, 1, 1, 1, 6⟩] : List Arc) = [⟨0, 1, 1, 1, 6⟩] from ⟨rfl, rfl, rfl⟩)]
  clear hA hA'
  repeat' (first | exact rfl | ((conv => whnf); first | (refine qX (fun h => ?_) fun h => ?_ <;> try exact absurd h (by omega)) | refine oN ?_ | refine oM ?_ ?_ | refine bM ?_ ?_ | refine dR ?_ | intro _))
  (conv => whnf)
  try simp only [Nat.reduceAdd, Nat.reduceSub]
  refine cF (sameInts_c [-1, 0] [-1, 0] (2 + sp) 2 (by decide) (by decide)) [3, 8] Tryd.call53 ?_
  rintro _ _ ⟨rfl, rfl⟩
  repeat' (first | exact rfl | ((conv => whnf); first | (refine qX (fun h => ?_) fun h => ?_ <;> try exact absurd h (by omega)) | refine oN ?_ | refine oM ?_ ?_ | refine bM ?_ ?_ | refine dR ?_ | intro _))
  all_goals
    (conv => whnf)
    exact ⟨[], [(0, tabO x)], 1, .b true, ⟨by rfl, trivial, by simp⟩, by simp, rfl, rfl⟩
end Go.Fw

namespace Go.Fw
open Go Go.Proofs
def RAns (F : TF) (e : Int) (n : Nat) (ff : List Int) (oo : List Arc) : Prop := ∃ (U : TF) (W vs : List (List Int)) (par sym : List Int), IsUs F U ∧
  ((∃ i c, WSt U W vs par sym i c ∧ W.length = 201 ∧ e = 2) ∨
   (WSt U W vs par sym W.length 1 ∧ W.length ≤ 200 ∧
     ((¬ (∃ w c, CW U U.start w c) ∧ n = 1 ∧ ff = [-1] ∧ oo = []) ∨
      ((∃ w c, CW U U.start w c) ∧ ∃ first, lrRows U W vs first.length = (first, oo) ∧ (∀ j, j < first.length → j < (lrRows U W vs j).1.length) ∧ n = first.length ∧ ff = lrF U W vs first first.length)) ∧
     (greatB oo ff = true ∧ e = 2 ∨ greatB oo ff = false ∧ e = 0)))
def ROut (e : Int) (n : Nat) (ff : List Int) (oo : List Arc) (v : SV) (s : S) : Prop :=
  (e ≠ 0 ∧ v = .tup [.agg zero25, .c (.i e)] ∧ s = ⟨[], [], 2⟩) ∨
  (e = 0 ∧ ∃ sp sq, v = .tup [.agg [.i (n : Nat), .i 0, .sl 2 1 0 ff.length (ff.length + sp), .sl 3 5 0 oo.length (oo.length + sq)], .c (.i 0)] ∧
    s = ⟨[], [(2, .arr true 3 .int ff sp), (3, .arr true 50 .arc oo sq)], 4⟩)
theorem LeastOfPost.split {F : TF} {v : SV} {s : S} (h : LeastOfPost F v s) : ∃ e n ff oo, RAns F e n ff oo ∧ ROut e n ff oo v s := by
  obtain ⟨U, W, vs, par, sym, hus, ⟨i, c, h1, h2, h3, h4⟩ | ⟨h1, h2, n, ff, oo, h3, ⟨hg, h4, h5⟩ | ⟨hg, sp, sq, h4, h5⟩⟩⟩ := h
  · exact ⟨2, 0, [], [], ⟨U, W, vs, par, sym, hus, .inl ⟨i, c, h1, h2, rfl⟩⟩, .inl ⟨by decide, h3, h4⟩⟩
  · exact ⟨2, n, ff, oo, ⟨U, W, vs, par, sym, hus, .inr ⟨h1, h2, h3, .inl ⟨hg, rfl⟩⟩⟩, .inl ⟨by decide, h4, h5⟩⟩
  · exact ⟨0, n, ff, oo, ⟨U, W, vs, par, sym, hus, .inr ⟨h1, h2, h3, .inr ⟨hg, rfl⟩⟩⟩, .inr ⟨rfl, sp, sq, h4, h5⟩⟩
theorem IsLs.cap {U V : TF} {st : DS} {n : Nat} {ff : List Int} {oo : List Arc} (h : IsLs U st n ff oo) (h1 : U.st = V.st) (h2 : U.start = V.start) (h3 : U.fin = V.fin) (h4 : U.arcs = V.arcs) : IsLs V st n ff oo := by
  obtain ⟨a, b, c, d, e, f⟩ := U
  obtain ⟨a', b', c', d', e', f'⟩ := V
  simp only at h1 h2 h3 h4
  subst h1 h2 h3 h4
  exact h
theorem ans_same {F : TF} (hF : FOk F) (hf : fineB F = true) (h12 : F.st ≤ 12) (h0 : leastE F = 0) {e e' : Int} {n n' : Nat} {ff ff' : List Int} {oo oo' : List Arc} (h : LAns F e n ff oo) (h' : RAns F e' n' ff' oo') :
    e = e' ∧ (e = 0 → n = n' ∧ ff = ff' ∧ oo = oo') := by
  rcases h with ⟨h, _⟩ | ⟨_, U, hus, h⟩
  · exact absurd h0 h
  obtain ⟨V, W, vs, par, sym, hV, h'⟩ := h'
  have hw := WOk.of hF
  obtain ⟨e1, e2, e3, e4⟩ := hus.uniq hw.toFRng hF.start hV
  have hbg := hus.bgn hw.toFRng hF.start hV
  rcases h with ⟨hb, rfl⟩ | ⟨hb, st, hmd, hls, hg⟩
  · rcases h' with ⟨i, c, h1, h2, rfl⟩ | ⟨h1, h2, _⟩
    · exact ⟨rfl, fun h => by omega⟩
    · have := bgn_yes hF hf hus hV h1 h2
      omega
  · rcases h' with ⟨i, c, h1, h2, rfl⟩ | ⟨h1, h2, h3, hg'⟩
    · have := bgn_no hF hf hus hV h1 h2
      omega
    · have hD : DetH F V st := ⟨hF, hf, hV, by omega, hmd.cap e1 e4 e2⟩
      have hls := hls.cap e1 e2 e3 e4
      have key : n = n' ∧ ff = ff' ∧ oo = oo' := by
        rcases hls with ⟨hn, rfl, rfl, rfl⟩ | ⟨hn, c1, c2, cls, left, outs, hc, m1, m2, m3, rfl, rfl, rfl⟩
        · rcases h3 with ⟨_, rfl, rfl, rfl⟩ | ⟨hn', _⟩
          · exact ⟨rfl, rfl, rfl⟩
          · exact absurd hn' hn
        · rcases h3 with ⟨hn', _⟩ | ⟨_, first, g1, g2, rfl, rfl⟩
          · exact absurd hn hn'
          · obtain ⟨k1, k2, k3⟩ := rows_same hD h12 hn h1 hc m1 m2 g1 g2
            exact ⟨k1.symm, k3.symm, k2.symm⟩
      obtain ⟨rfl, rfl, rfl⟩ := key
      refine ⟨?_, fun _ => ⟨rfl, rfl, rfl⟩⟩
      rcases hg with ⟨hg, rfl⟩ | ⟨hg, rfl⟩ <;> rcases hg' with ⟨hg', rfl⟩ | ⟨hg', rfl⟩
      · rfl
      · rw [hg] at hg'; cases hg'
      · rw [hg] at hg'; cases hg'
      · rfl
end Go.Fw

namespace Go.Fw
open Go Go.Proofs
abbrev wV2 (U : TF) (rows : List Sli) (par sym : List Int) (rc pc sc : Nat) : SV := .a (.agg (cWo U 6 7 8 10 11 rows.length rc par.length pc sym.length sc))
abbrev hpWd2 (U : TF) (rows : List Sli) (m : List (Addr × List Int × Nat)) (par sym : List Int) : List (Nat × SO) := [(6, .arr false 3 .int U.fin 0), (7, .arr false 50 .arc U.arcs 0), (8, .arr false 22 .sli rows 0), (9, .pool 3 .int m), (10, .arr false 3 .int par 0), (11, .arr false 3 .int sym 0)]
set_option maxHeartbeats 8000000 in
set_option maxRecDepth 20000 in
theorem wAlike2_c (U : TF) (hUf : FOk U) (hU : ∀ a ∈ U.arcs, (0 ≤ a.f ∧ a.f < U.st) ∧ (0 ≤ a.t ∧ a.t < U.st) ∧ 0 ≤ a.w ∧ a.w ≤ 1000000000) (W vs : List (List Int)) (rows : List Sli) (m : List (Addr × List Int × Nat)) (par sym : List Int) (rc pc sc : Nat) (hw : WSt U W vs par sym W.length 1) (hl : W.length ≤ 201) (htab : Tab2 m rows vs.length (fun j => vs.getD j []))
    (V : TF) (hVf : FOk V) (hV : ∀ a ∈ V.arcs, (0 ≤ a.f ∧ a.f < V.st) ∧ (0 ≤ a.t ∧ a.t < V.st) ∧ 0 ≤ a.w ∧ a.w ≤ 1000000000) (Y ys : List (List Int)) (rows' : List Sli) (m' : List (Addr × List Int × Nat)) (par' sym' : List Int) (rc' pc' sc' : Nat) (hw' : WSt V Y ys par' sym' Y.length 1) (hl' : Y.length ≤ 201) (htab' : Tab2 m' rows' ys.length (fun j => ys.getD j []))
    (hend : ∀ j, j < W.length → -1 ≤ endW U vs j ∧ endW U vs j ≤ 1000000000000000) (hend' : ∀ j, j < Y.length → -1 ≤ endW V ys j ∧ endW V ys j ≤ 1000000000000000) (x y : Int) (hx : -1000000000000000 ≤ x ∧ x ≤ 1000000000000000) (hy : -1000000000000000 ≤ y ∧ y ≤ 1000000000000000) : ∀ (f i k : Nat), i < W.length → k < Y.length → W.length ≤ i + f →
    Ct Tryd.prog 49 [wV U rows par sym rc pc sc, .i i, wV2 V rows' par' sym' rc' pc' sc', .i k, .i x, .i y] [] (hpWd U rows m par sym ++ hpWd2 V rows' m' par' sym') 12 (fun v s => v = .b (alkW2 U W vs V Y ys f i k x y) ∧ s = ⟨[], [(3, .pool 3 .int m), (9, .pool 3 .int m')], 12⟩) := by
  intro f
  induction f with
  | zero => intro i k hi hk h; omega
  | succ f ih =>
    intro i k hi hk hf
    have he1 := hend i hi
    have he2 := hend' k hk
    have c1 := wEnd_c U hUf hU W vs rows m par sym rc pc sc hw hl htab i hi
    have c2 := wEnd_c V hVf hV Y ys rows' m' par' sym' rc' pc' sc' hw' hl' htab' k hk
    have hdef : alkW2 U W vs V Y ys (f + 1) i k x y = (alE (endW U vs i) (endW V ys k) x y && (List.range 9).all (alkS2 U W vs V Y ys f i k x y)) := rfl
    generalize endW U vs i = p at *
    generalize endW V ys k = q at *
    refine ctC Tryd.tyOk Tryd.func49 rfl (by simp) (by simp) (fr := [(0, wV U rows par sym rc pc sc), (1, .i i), (2, wV2 V rows' par' sym' rc' pc' sc'), (3, .i k), (4, .i x), (5, .i y)]) rfl ?_
    refine SemC.cut Tryd.tyOk 18 [] (fun _ : Unit => ⟨[(1, .i i), (3, .i k), (4, .i x), (5, .i y), (6, .c (.ptr 12 0)), (8, .c (.ptr 13 0))], hpWd U rows m par sym ++ hpWd2 V rows' m' par' sym' ++ [(12, .box 36 (cWo U 0 1 2 4 5 rows.length rc par.length pc sym.length sc)), (13, .box 36 (cWo V 6 7 8 10 11 rows'.length rc' par'.length pc' sym'.length sc'))], 14⟩) (fun _ => alE p q x y = true) 3 _ _ ?_ ?_
    · repeat' (first | exact rfl | ((conv => whnf); first | (refine qX (fun h => ?_) fun h => ?_ <;> try exact absurd h (by omega)) | refine oN ?_ | refine oM ?_ ?_ | refine bM ?_ ?_ | refine dR ?_))
      (conv => whnf)
      refine cF (c1) [0, 1, 2, 3, 4, 5] Tryd.call50 ?_
      rintro _ _ ⟨rfl, rfl⟩
      try simp only [Nat.reduceAdd, Nat.reduceSub]
      repeat' (first | exact rfl | ((conv => whnf); first | (refine qX (fun h => ?_) fun h => ?_ <;> try exact absurd h (by omega)) | refine oN ?_ | refine oM ?_ ?_ | refine bM ?_ ?_ | refine dR ?_))
      (conv => whnf)
      refine cF (c2) [6, 7, 8, 9, 10, 11] Tryd.call50 ?_
      rintro _ _ ⟨rfl, rfl⟩
      try simp only [Nat.reduceAdd, Nat.reduceSub]
      repeat' (first | exact rfl | ((conv => whnf); first | (refine qX (fun h => ?_) fun h => ?_ <;> try exact absurd h (by omega)) | refine oN ?_ | refine oM ?_ ?_ | refine bM ?_ ?_ | refine dR ?_))
      · have he : alE p q x y = false := by unfold alE; simp_all
        rw [he, Bool.false_and] at hdef
        (conv => whnf)
        refine ⟨[], [(3, .pool 3 .int m), (9, .pool 3 .int m')], 12, .b (alkW2 U W vs V Y ys (f + 1) i k x y), ⟨by rfl, trivial, by simp⟩, by simp [hdef], rfl, rfl⟩
      · have he : alE p q x y = false := by unfold alE; simp_all
        rw [he, Bool.false_and] at hdef
        (conv => whnf)
        refine ⟨[], [(3, .pool 3 .int m), (9, .pool 3 .int m')], 12, .b (alkW2 U W vs V Y ys (f + 1) i k x y), ⟨by rfl, trivial, by simp⟩, by simp [hdef], rfl, rfl⟩
      all_goals
        have he : alE p q x y = true := by unfold alE; simp_all
        (conv => whnf)
        refine ⟨(), [], ⟨by rfl, ?_, ?_⟩, he⟩
        · simp
        · simp
    rintro _ he
    rw [he, Bool.true_and] at hdef
    refine SemC.of Tryd.tyOk 18 [] ?_
    repeat' (first | exact rfl | ((conv => whnf); first | (refine qX (fun h => ?_) fun h => ?_ <;> try exact absurd h (by omega)) | refine oN ?_ | refine oM ?_ ?_ | refine bM ?_ ?_ | refine dR ?_))
    (conv => whnf)
    refine loopI (fun c : Nat => ⟨[(1, .i i), (3, .i k), (4, .i x), (5, .i y), (6, .c (.ptr 12 0)), (8, .c (.ptr 13 0)), (15, .i ((c : Int) + 1))], hpWd U rows m par sym ++ hpWd2 V rows' m' par' sym' ++ [(12, .box 36 (cWo U 0 1 2 4 5 rows.length rc par.length pc sym.length sc)), (13, .box 36 (cWo V 6 7 8 10 11 rows'.length rc' par'.length pc' sym'.length sc'))], 14⟩)
      (fun c => c ≤ 9 ∧ ∀ d, d < c → alkS2 U W vs V Y ys f i k x y d = true) (fun c => 9 - c) 0 [] ⟨by rfl, ?_, ?_⟩ ⟨Nat.zero_le _, fun d h => absurd h (Nat.not_lt_zero _)⟩ ?_
    · simp
    · simp
    · rintro c ⟨hc, hall⟩
      have hor1 := hw.onI_rng (c := (c : Int) + 1) hi
      have hor2 := hw'.onI_rng (c := (c : Int) + 1) hk
      have d1 := wOn_c U W vs rows m par sym rc pc sc hw hl i hi ((c : Int) + 1)
      have d2 := wOn_c V Y ys rows' m' par' sym' rc' pc' sc' hw' hl' k hk ((c : Int) + 1)
      have hsd : alkS2 U W vs V Y ys f i k x y c = if decide (onI W i ((c : Int) + 1) < 0) != decide (onI Y k ((c : Int) + 1) < 0) then false else if 0 ≤ onI W i ((c : Int) + 1) then alkW2 U W vs V Y ys f (onI W i ((c : Int) + 1)).toNat (onI Y k ((c : Int) + 1)).toNat x y else true := rfl
      generalize onI W i ((c : Int) + 1) = o1 at *
      generalize onI Y k ((c : Int) + 1) = o2 at *
      (conv => whnf)
      refine condP_dec (fun hc2 => ?_) (fun hc2 => ?_)
      · have hbad : alkS2 U W vs V Y ys f i k x y c = false → alkW2 U W vs V Y ys (f + 1) i k x y = false := fun h => by
          rw [hdef, List.all_eq_false]
          exact ⟨c, List.mem_range.2 (by omega), by rw [h]; simp⟩
        have hok : alkS2 U W vs V Y ys f i k x y c = true → ∀ d, d < c + 1 → alkS2 U W vs V Y ys f i k x y d = true := fun h d hd => by
          by_cases e : d = c
          · rw [e]; exact h
          · exact hall d (by omega)
        repeat' (first | exact rfl | ((conv => whnf); first | (refine qX (fun h => ?_) fun h => ?_ <;> try exact absurd h (by omega)) | refine oN ?_ | refine oM ?_ ?_ | refine bM ?_ ?_ | refine dR ?_))
        (conv => whnf)
        refine cF (d1) [0, 1, 2, 3, 4, 5] Tryd.call51 ?_
        rintro _ _ ⟨rfl, rfl⟩
        try simp only [Nat.reduceAdd, Nat.reduceSub]
        repeat' (first | exact rfl | ((conv => whnf); first | (refine qX (fun h => ?_) fun h => ?_ <;> try exact absurd h (by omega)) | refine oN ?_ | refine oM ?_ ?_ | refine bM ?_ ?_ | refine dR ?_))
        (conv => whnf)
        refine cF (d2) [6, 7, 8, 9, 10, 11] Tryd.call51 ?_
        rintro _ _ ⟨rfl, rfl⟩
        try simp only [Nat.reduceAdd, Nat.reduceSub]
        repeat' (first | exact rfl | ((conv => whnf); first | (refine qX (fun h => ?_) fun h => ?_ <;> try exact absurd h (by omega)) | refine oN ?_ | refine oM ?_ ?_ | refine bM ?_ ?_ | refine dR ?_))
        · rw [if_pos (by simp_all)] at hsd
          have hx := hbad hsd
          (conv => whnf)
          refine ⟨[], [(3, .pool 3 .int m), (9, .pool 3 .int m')], 12, .b (alkW2 U W vs V Y ys (f + 1) i k x y), ⟨by rfl, trivial, by simp⟩, by simp [hx], rfl, rfl⟩
        · rename_i g
          have g2 : 0 ≤ o2 := Int.not_lt.1 fun c => by
            rw [decide_eq_true c, decide_eq_true_eq] at g
            omega
          rw [if_neg (by rw [g]; simp), if_pos h] at hsd
          obtain ⟨j1, rfl⟩ := Int.eq_ofNat_of_zero_le h
          obtain ⟨j2, rfl⟩ := Int.eq_ofNat_of_zero_le g2
          rw [Int.toNat_natCast, Int.toNat_natCast] at hsd
          (conv => whnf)
          refine cF (ih j1 j2 (by omega) (by omega) (by omega)) [0, 1, 2, 3, 4, 5, 6, 7, 8, 9, 10, 11] Tryd.call49 ?_
          rintro _ _ ⟨rfl, rfl⟩
          try simp only [Nat.reduceAdd, Nat.reduceSub]
          generalize alkW2 U W vs V Y ys f j1 j2 x y = r at *
          cases r with
          | true =>
            have hx := hok hsd
            repeat' (first | exact rfl | ((conv => whnf); first | (refine qX (fun h => ?_) fun h => ?_ <;> try exact absurd h (by omega)) | refine oN ?_ | refine oM ?_ ?_ | refine bM ?_ ?_ | refine dR ?_))
            (conv => whnf)
            refine ⟨c + 1, [], ⟨by rfl, ?_, ?_⟩, ⟨by omega, hx⟩, by omega⟩
            · simp
            · simp
          | false =>
            have hx := hbad hsd
            repeat' (first | exact rfl | ((conv => whnf); first | (refine qX (fun h => ?_) fun h => ?_ <;> try exact absurd h (by omega)) | refine oN ?_ | refine oM ?_ ?_ | refine bM ?_ ?_ | refine dR ?_))
            (conv => whnf)
            refine ⟨[], [(3, .pool 3 .int m), (9, .pool 3 .int m')], 12, .b (alkW2 U W vs V Y ys (f + 1) i k x y), ⟨by rfl, trivial, by simp⟩, by simp [hx], rfl, rfl⟩
        · rename_i g
          rw [if_neg (by rw [g]; simp), if_neg h] at hsd
          have hx := hok hsd
          (conv => whnf)
          refine ⟨c + 1, [], ⟨by rfl, ?_, ?_⟩, ⟨by omega, hx⟩, by omega⟩
          · simp
          · simp
      · have e : c = 9 := by omega
        subst e
        have he2 : alkW2 U W vs V Y ys (f + 1) i k x y = true := by
          rw [hdef, List.all_eq_true]
          exact fun d hd => hall d (List.mem_range.1 hd)
        repeat' (first | exact rfl | ((conv => whnf); first | (refine qX (fun h => ?_) fun h => ?_ <;> try exact absurd h (by omega)) | refine oN ?_ | refine oM ?_ ?_ | refine bM ?_ ?_ | refine dR ?_))
        (conv => whnf)
        refine ⟨[], [(3, .pool 3 .int m), (9, .pool 3 .int m')], 12, .b (alkW2 U W vs V Y ys (f + 1) i k x y), ⟨by rfl, trivial, by simp⟩, by simp [he2], rfl, rfl⟩
set_option maxHeartbeats 8000000 in
set_option maxRecDepth 20000 in
theorem sameWords_c (U : TF) (hUf : FOk U) (hU : ∀ a ∈ U.arcs, (0 ≤ a.f ∧ a.f < U.st) ∧ (0 ≤ a.t ∧ a.t < U.st) ∧ 0 ≤ a.w ∧ a.w ≤ 1000000000) (W vs : List (List Int)) (rows : List Sli) (m : List (Addr × List Int × Nat)) (par sym : List Int) (rc pc sc : Nat) (hw : WSt U W vs par sym W.length 1) (hl : W.length ≤ 201) (htab : Tab2 m rows vs.length (fun j => vs.getD j []))
    (V : TF) (hVf : FOk V) (hV : ∀ a ∈ V.arcs, (0 ≤ a.f ∧ a.f < V.st) ∧ (0 ≤ a.t ∧ a.t < V.st) ∧ 0 ≤ a.w ∧ a.w ≤ 1000000000) (Y ys : List (List Int)) (rows' : List Sli) (m' : List (Addr × List Int × Nat)) (par' sym' : List Int) (rc' pc' sc' : Nat) (hw' : WSt V Y ys par' sym' Y.length 1) (hl' : Y.length ≤ 201) (htab' : Tab2 m' rows' ys.length (fun j => ys.getD j []))
    (hend : ∀ j, j < W.length → -1 ≤ endW U vs j ∧ endW U vs j ≤ 1000000000000000) (hend' : ∀ j, j < Y.length → -1 ≤ endW V ys j ∧ endW V ys j ≤ 1000000000000000) :
    Ct Tryd.prog 27 [wV U rows par sym rc pc sc, wV2 V rows' par' sym' rc' pc' sc'] [] (hpWd U rows m par sym ++ hpWd2 V rows' m' par' sym') 12 (fun v s => v = .b (alkW2 U W vs V Y ys W.length 0 0 0 0) ∧ s = ⟨[], [(3, .pool 3 .int m), (9, .pool 3 .int m')], 12⟩) := by
  have c1 := wAlike2_c U hUf hU W vs rows m par sym rc pc sc hw hl htab V hVf hV Y ys rows' m' par' sym' rc' pc' sc' hw' hl' htab' hend hend' 0 0 (by omega) (by omega) W.length 0 0 hw.pos hw'.pos (by omega)
  generalize alkW2 U W vs V Y ys W.length 0 0 0 0 = r at *
  refine ctW Tryd.tyOk 5 [] Tryd.func27 rfl (by simp) (by simp) (fr := [(0, wV U rows par sym rc pc sc), (1, wV2 V rows' par' sym' rc' pc' sc')]) rfl ?_
  repeat' (first | exact rfl | ((conv => whnf); first | (refine qX (fun h => ?_) fun h => ?_ <;> try exact absurd h (by omega)) | refine oN ?_ | refine oM ?_ ?_ | refine bM ?_ ?_ | refine dR ?_))
  (conv => whnf)
  try simp only [Nat.reduceAdd, Nat.reduceSub]
  refine cF (c1) [0, 1, 2, 3, 4, 5, 6, 7, 8, 9, 10, 11] Tryd.call49 ?_
  rintro _ _ ⟨rfl, rfl⟩
  repeat' (first | exact rfl | ((conv => whnf); first | (refine qX (fun h => ?_) fun h => ?_ <;> try exact absurd h (by omega)) | refine oN ?_ | refine oM ?_ ?_ | refine bM ?_ ?_ | refine dR ?_ | intro _))
  (conv => whnf)
  exact ⟨[], [(3, .pool 3 .int m), (9, .pool 3 .int m')], 12, .b r, ⟨by rfl, trivial, by simp⟩, by simp, rfl, rfl⟩
end Go.Fw

/-
  What is least of two: the same just where all words cost the same.
-/
namespace Go.Fw
structure Mch (X : TF) (cls : List Int) : Prop where
  dfst : DFst X
  cls : ClsOk X cls
  det : DetD X
  psh : Psh X
  rnd : roundB X.arcs X.st.toNat = false
  let_ : ∀ a ∈ X.arcs, (1 ≤ a.i ∧ a.i ≤ 9) ∧ a.i = a.o
  start : X.start = 0
  pos : 1 ≤ X.st
  rch : ∀ q : Nat, q < X.st.toNat → ∃ w d, RdW X.arcs 0 w q d
theorem rd_push {F : TF} (hd : ∀ a ∈ F.arcs, (onS F).1.getD a.f.toNat 0 ≠ -1 ∧ (onS F).1.getD a.t.toNat 0 ≠ -1) {s t d : Int} {w : List Int} (h : RdW F.arcs s w t d) : ∃ d', RdW (pushL (onS F).1 F.arcs) s w t d' := by
  induction h with
  | nil s => exact ⟨0, .nil s⟩
  | cons ha h ih =>
    obtain ⟨d', h'⟩ := ih
    rename_i a u t c
    exact ⟨_, RdW.cons (a := ⟨a.f, a.i, a.o, a.t, a.w + ((onS F).1.getD a.t.toNat 0 - (onS F).1.getD a.f.toNat 0)⟩) (pushL_mem.2 ⟨a, ha, (hd _ ha).1, (hd _ ha).2, rfl⟩) h'⟩
theorem DetH.mch {F U : TF} {st : DS} (h : DetH F U st) (h12 : F.st ≤ 12) (hn : ∃ w c, CW U U.start w c) {c1 c2 : Nat} {cls : List Int} (hc : ClsOk (phT (mkD U st 0 0) c1 c2) cls) : Mch (phT (mkD U st 0 0) c1 c2) cls := by
  have hB := (h.fokB h12 0 0).1
  have hds : ∀ q : Nat, q < st.1.length → (onS (mkD U st 0 0)).1.getD q 0 ≠ -1 ∧ (onS (mkD U st 0 0)).1.getD q 0 ≤ 1000000000000 := fun q hq => by
    have := dsD_is h h12 hn hq
    unfold dsD at this
    omega
  have hst2 : (phT (mkD U st 0 0) c1 c2).st = ((st.1.length : Nat) : Int) := rfl
  refine ⟨ph_dfst hB fun q hq => hds q ?_, hc, ph_det (h.detD 0 0), ph_psh hB fun q hq => h.co hn 0 0 ?_, ph_round (h.round 0 0), fun a ha => ?_, rfl, ?_, fun q hq => ?_⟩
  · have hq : q < ((st.1.length : Nat) : Int).toNat := hq
    omega
  · have hq : q < ((st.1.length : Nat) : Int).toNat := hq
    omega
  · obtain ⟨b, hb, _, _, rfl⟩ := pushL_mem.1 ha
    exact (h.rngD 0 0 b hb).2.2
  · have := h.ri.len
    rw [hst2]; omega
  · rw [hst2] at hq
    obtain ⟨w, d, hr⟩ := h.ri.rch q (by omega)
    obtain ⟨d', hr'⟩ := rd_push (F := mkD U st 0 0) (fun a ha => by
      have := h.rngD 0 0 a ha
      have e : (mkD U st 0 0).st = ((st.1.length : Nat) : Int) := rfl
      exact ⟨(hds _ (by omega)).1, (hds _ (by omega)).1⟩) hr
    exact ⟨w, d', hr'⟩
section
variable {X : TF} {cls : List Int} (h : Mch X cls)
include h
theorem Mch.lv {q : Nat} (hq : q < X.st.toNat) : LvA X.arcs X.st.toNat q :=
  LvA.all (fun a ha => by have := h.dfst.arc a ha; omega) h.rnd ⟨by omega, by omega⟩
theorem Mch.noback {a : Arc} (ha : a ∈ X.arcs) : clA cls a.t ≠ clA cls 0 := by
  intro he
  have hr := h.dfst.arc a ha
  have hp := h.pos
  obtain ⟨w, d, hw⟩ := h.rch a.f.toNat (by omega)
  rw [show ((a.f.toNat : Nat) : Int) = a.f by omega] at hw
  have key : ∀ m : Nat, ∃ v c, m ≤ v.length ∧ CW X 0 v c := by
    intro m
    induction m with
    | zero =>
      obtain ⟨⟨v, hv⟩, _⟩ := h.psh 0 (by omega)
      exact ⟨v, 0, Nat.zero_le _, hv⟩
    | succ m ih =>
      obtain ⟨v, c, h1, h2⟩ := ih
      have h3 := cls_cw h.dfst h.cls v 0 a.t.toNat c (by omega) (by omega) he.symm h2
      rw [show ((a.t.toNat : Nat) : Int) = a.t by omega] at h3
      obtain ⟨t, e, g1, g2, g3⟩ := h3
      refine ⟨w ++ a.i :: v, _, ?_, t, d + (a.w + e), hw.app (.cons ha g1), g2, rfl⟩
      rw [List.length_append, List.length_cons]
      omega
  obtain ⟨v, c, h1, t, e, g1, _⟩ := key X.st.toNat
  have := h.lv (q := 0) (by omega) _ _ _ g1
  omega
end
theorem mgN_ok (cls left : List Int) (t : Int) : ∃ m : Nat, mgN cls left t = (m : Nat) ∧ m < (mgL cls left t).length ∧ clA cls ((mgL cls left t).getD m 0) = clA cls t := by
  have hm : clA cls t ∈ (mgL cls left t).map (clA cls) := by
    unfold mgL
    split
    · assumption
    · simp
  have h1 := List.idxOf_lt_length_of_mem hm
  have h2 := List.getElem_idxOf h1
  rw [List.length_map] at h1
  refine ⟨_, rfl, h1, ?_⟩
  rw [List.getElem_map] at h2
  simp only [List.getD, List.getElem?_eq_getElem h1, Option.getD_some]
  exact h2
structure MgC (X : TF) (cls : List Int) (i k : Nat) (st : List Int × List Arc) : Prop where
  snd : ∀ b ∈ st.2, ∃ (j m : Nat) (a : Arc), j < st.1.length ∧ m < st.1.length ∧ a ∈ X.arcs ∧ a.f = st.1.getD j 0 ∧ b = ⟨(j : Nat), a.i, a.o, (m : Nat), a.w⟩ ∧ clA cls (st.1.getD m 0) = clA cls a.t
  cpl : ∀ (j n : Nat), n < X.arcs.length → (j < i ∨ j = i ∧ n < k) → j < st.1.length → (X.arcs.getD n aD).f = st.1.getD j 0 →
    ∃ m : Nat, m < st.1.length ∧ (⟨(j : Nat), (X.arcs.getD n aD).i, (X.arcs.getD n aD).o, (m : Nat), (X.arcs.getD n aD).w⟩ : Arc) ∈ st.2 ∧ clA cls (st.1.getD m 0) = clA cls (X.arcs.getD n aD).t
theorem getD_pre (l M : List Int) {j : Nat} (h : j < l.length) : (l ++ M).getD j 0 = l.getD j 0 := by
  simp only [List.getD]
  rw [List.getElem?_append_left h]
theorem MgC.step {X : TF} {cls : List Int} {i k : Nat} {st : List Int × List Arc} (h : MgC X cls i k st) (hi : i < st.1.length) (hk : k < X.arcs.length) : MgC X cls i (k + 1) (mgStep cls i (st.1.getD i 0) st (X.arcs.getD k aD)) := by
  unfold mgStep
  by_cases e : (X.arcs.getD k aD).f = st.1.getD i 0
  · rw [if_pos e]
    obtain ⟨m, hm1, hm2, hm3⟩ := mgN_ok cls st.1 (X.arcs.getD k aD).t
    obtain ⟨M, hM⟩ := mgL_app cls st.1 (X.arcs.getD k aD).t
    have hlen : st.1.length ≤ (mgL cls st.1 (X.arcs.getD k aD).t).length := by rw [hM, List.length_append]; omega
    have hpre : ∀ j, j < st.1.length → (mgL cls st.1 (X.arcs.getD k aD).t).getD j 0 = st.1.getD j 0 := fun j hj => by rw [hM]; exact getD_pre _ _ hj
    refine ⟨fun b hb => ?_, fun j n hn hjn hj hf => ?_⟩
    · simp only at hb ⊢
      rcases List.mem_append.1 hb with hb | hb
      · obtain ⟨j, m', a, g1, g2, g3, g4, g5, g6⟩ := h.snd b hb
        exact ⟨j, m', a, by omega, by omega, g3, by rw [hpre j g1]; exact g4, g5, by rw [hpre m' g2]; exact g6⟩
      · rw [List.mem_singleton] at hb
        exact ⟨i, m, X.arcs.getD k aD, by omega, hm2, getD_mem X.arcs k aD hk, by rw [hpre i hi]; exact e, by rw [hb, hm1], hm3⟩
    · simp only at hj hf ⊢
      by_cases ej : j = i ∧ n = k
      · obtain ⟨rfl, rfl⟩ := ej
        exact ⟨m, hm2, List.mem_append.2 (.inr (by rw [hm1]; exact List.mem_singleton.2 rfl)), hm3⟩
      · have hj2 : j < st.1.length := by omega
        rw [hpre j hj2] at hf
        obtain ⟨m', g1, g2, g3⟩ := h.cpl j n hn (by omega) hj2 hf
        exact ⟨m', by omega, List.mem_append.2 (.inl g2), by rw [hpre m' g1]; exact g3⟩
  · rw [if_neg e]
    refine ⟨h.snd, fun j n hn hjn hj hf => ?_⟩
    by_cases ej : j = i ∧ n = k
    · obtain ⟨rfl, rfl⟩ := ej
      exact absurd hf e
    · exact h.cpl j n hn (by omega) hj hf
theorem MgC.rows {X : TF} {cls : List Int} : ∀ n, (∀ j, j < n → j < (mgRows X cls j).1.length) → MgC X cls n 0 (mgRows X cls n)
  | 0, _ => ⟨fun b hb => by simp [mgRows] at hb, fun j n hn hjn => by omega⟩
  | n + 1, hl => by
    have ih := MgC.rows n fun j hj => hl j (by omega)
    have hn := hl n (by omega)
    have key : ∀ k, k ≤ X.arcs.length → MgC X cls n k (mgP X cls n ((mgRows X cls n).1.getD n 0) (mgRows X cls n) k) := by
      intro k
      induction k with
      | zero => intro _; exact ih
      | succ k ihk =>
        intro hk
        have h1 := ihk (by omega)
        obtain ⟨_, M, hM⟩ := mgP_len (D := X) (cls := cls) (i := n) (s := (mgRows X cls n).1.getD n 0) (st := mgRows X cls n) k
        have hi : n < (mgP X cls n ((mgRows X cls n).1.getD n 0) (mgRows X cls n) k).1.length := by rw [hM, List.length_append]; omega
        have e : (mgP X cls n ((mgRows X cls n).1.getD n 0) (mgRows X cls n) k).1.getD n 0 = (mgRows X cls n).1.getD n 0 := by rw [hM]; exact getD_pre _ _ hn
        have := h1.step hi (by omega)
        rw [e] at this
        exact this
    have := key X.arcs.length (Nat.le_refl _)
    refine ⟨this.snd, fun j m hm hjm hj hf => this.cpl j m hm (by omega) hj hf⟩
theorem idxOf_congr {t t' : Int} : ∀ {l l' : List Int}, l.length = l'.length → (∀ j, j < l.length → (l.getD j 0 = t ↔ l'.getD j 0 = t')) → l.idxOf t = l'.idxOf t'
  | [], [], _, _ => rfl
  | [], _ :: _, h, _ => by cases h
  | _ :: _, [], h, _ => by cases h
  | x :: l, y :: l', h, hj => by
    have h0 := hj 0 (by simp)
    simp only [List.getD_cons_zero] at h0
    have ih := idxOf_congr (t := t) (t' := t') (l := l) (l' := l') (by simpa using h) fun j hjl => by
      have := hj (j + 1) (by simp only [List.length_cons]; omega)
      simpa only [List.getD_cons_succ] using this
    rw [List.idxOf_cons, List.idxOf_cons, ih]
    by_cases e : x = t
    · rw [e, h0.1 e]; simp
    · have e' : ¬ y = t' := fun c => e (h0.2 c)
      rw [show (x == t) = false by simpa using e, show (y == t') = false by simpa using e']
section
variable {X X' : TF} {cls cls' : List Int} (h : Mch X cls) (h' : Mch X' cls')
def Eqv (X X' : TF) (q r : Int) : Prop := ∀ v c, CW X q v c ↔ CW X' r v c
include h h'
theorem Eqv.arc {q r : Int} (he : Eqv X X' q r) {a : Arc} (ha : a ∈ X.arcs) (hq : a.f = q) : ∃ b ∈ X'.arcs, b.f = r ∧ b.i = a.i ∧ b.w = a.w ∧ Eqv X X' a.t b.t := by
  have ra := h.dfst.arc a ha
  have ea : ((a.t.toNat : Nat) : Int) = a.t := by omega
  obtain ⟨⟨v, hv⟩, ha0⟩ := h.psh a.t.toNat (by omega)
  rw [ea] at hv ha0
  have hi1 : CW X q (a.i :: v) a.w := CW.cons.2 ⟨a, ha, hq, rfl, by rw [show a.w - a.w = 0 by omega]; exact hv⟩
  obtain ⟨b, hb, g1, g2, g3⟩ := CW.cons.1 ((he _ _).1 hi1)
  have rb := h'.dfst.arc b hb
  have eb : ((b.t.toNat : Nat) : Int) = b.t := by omega
  obtain ⟨⟨v', hv'⟩, hb0⟩ := h'.psh b.t.toNat (by omega)
  rw [eb] at hv' hb0
  have q1 := hb0 _ _ g3
  have hj1 : CW X' r (a.i :: v') b.w := CW.cons.2 ⟨b, hb, g1, g2, by rw [show b.w - b.w = 0 by omega]; exact hv'⟩
  obtain ⟨a', ha', p1, p2, p3⟩ := CW.cons.1 ((he _ _).2 hj1)
  have ea' := h.det.one a' ha' a ha (p1.trans hq.symm) p2
  subst ea'
  have q2 := ha0 _ _ p3
  refine ⟨b, hb, g1, g2, by omega, fun w c => ?_⟩
  constructor
  · intro hw
    have : CW X q (a'.i :: w) (c + a'.w) := CW.cons.2 ⟨a', ha', hq, rfl, by rw [show c + a'.w - a'.w = c by omega]; exact hw⟩
    obtain ⟨b', hb', k1, k2, k3⟩ := CW.cons.1 ((he _ _).1 this)
    have := h'.det.one b' hb' b hb (k1.trans g1.symm) (k2.trans g2.symm)
    subst this
    rwa [show c + a'.w - b'.w = c by omega] at k3
  · intro hw
    have : CW X' r (a'.i :: w) (c + b.w) := CW.cons.2 ⟨b, hb, g1, g2, by rw [show c + b.w - b.w = c by omega]; exact hw⟩
    obtain ⟨b', hb', k1, k2, k3⟩ := CW.cons.1 ((he _ _).2 this)
    have := h.det.one b' hb' a' ha' (k1.trans hq.symm) k2
    subst this
    rwa [show c + b.w - b'.w = c by omega] at k3
structure SimR (X X' : TF) (b b' : List Int × List Arc) : Prop where
  len : b.1.length = b'.1.length
  on : ∀ j, j < b.1.length → ∃ q r : Nat, q < X.st.toNat ∧ r < X'.st.toNat ∧ b.1.getD j 0 = q ∧ b'.1.getD j 0 = r ∧ Eqv X X' q r
  out : b.2 = b'.2
theorem Eqv.same {q r s t : Nat} (hq : q < X.st.toNat) (hr : r < X'.st.toNat) (hs : s < X.st.toNat) (ht : t < X'.st.toNat) (h1 : Eqv X X' q r) (h2 : Eqv X X' s t) : clA cls q = clA cls s ↔ clA cls' r = clA cls' t := by
  unfold clA
  simp only [Int.toNat_natCast]
  constructor
  · intro e
    refine cw_cls h'.dfst h'.cls h'.det h'.psh _ r t hr ht (h'.lv hr) (h'.lv ht) fun w c => ?_
    rw [← h1, ← h2]
    exact ⟨cls_cw h.dfst h.cls w q s c hq hs e, cls_cw h.dfst h.cls w s q c hs hq e.symm⟩
  · intro e
    refine cw_cls h.dfst h.cls h.det h.psh _ q s hq hs (h.lv hq) (h.lv hs) fun w c => ?_
    rw [h1, h2]
    exact ⟨cls_cw h'.dfst h'.cls w r t c hr ht e, cls_cw h'.dfst h'.cls w t r c ht hr e.symm⟩
theorem SimR.take {b b' : List Int × List Arc} (hr : SimR X X' b b') (n : Nat) {x y : Arc} (hx : x ∈ X.arcs) (hy : y ∈ X'.arcs) (ei : y.i = x.i) (ew : y.w = x.w) (he : Eqv X X' x.t y.t) : SimR X X' (mgG cls n b x) (mgG cls' n b' y) := by
  have rx := h.dfst.arc x hx
  have ry := h'.dfst.arc y hy
  have lx := h.let_ x hx
  have ly := h'.let_ y hy
  have ex : ((x.t.toNat : Nat) : Int) = x.t := by omega
  have ey : ((y.t.toNat : Nat) : Int) = y.t := by omega
  have hlen := hr.len
  have hm1 : (b.1.map (clA cls)).length = b.1.length := List.length_map _
  have hm2 : (b'.1.map (clA cls')).length = b'.1.length := List.length_map _
  have hix : (b.1.map (clA cls)).idxOf (clA cls x.t) = (b'.1.map (clA cls')).idxOf (clA cls' y.t) := by
    refine idxOf_congr (by omega) fun j hj => ?_
    rw [hm1] at hj
    obtain ⟨q, r, g1, g2, g3, g4, g5⟩ := hr.on j hj
    have e1 : (b.1.map (clA cls)).getD j 0 = clA cls (b.1.getD j 0) := by simp [List.getD, hj]
    have e2 : (b'.1.map (clA cls')).getD j 0 = clA cls' (b'.1.getD j 0) := by simp [List.getD, show j < b'.1.length by omega]
    rw [e1, e2, g3, g4, ← ex, ← ey]
    exact Eqv.same h h' g1 g2 (by omega) (by omega) g5 (by rw [ex, ey]; exact he)
  have hmem : clA cls x.t ∈ b.1.map (clA cls) ↔ clA cls' y.t ∈ b'.1.map (clA cls') := by
    rw [← List.idxOf_lt_length_iff, ← List.idxOf_lt_length_iff, hix, hm1, hm2, hlen]
  have hL : SimR X X' (mgL cls b.1 x.t, b.2) (mgL cls' b'.1 y.t, b'.2) ∧ mgN cls b.1 x.t = mgN cls' b'.1 y.t := by
    unfold mgN mgL
    by_cases hm : clA cls x.t ∈ b.1.map (clA cls)
    · rw [if_pos hm, if_pos (hmem.1 hm), hix]
      exact ⟨hr, rfl⟩
    · have hm' := fun c => hm (hmem.2 c)
      rw [if_neg hm, if_neg hm']
      refine ⟨⟨by simp only [List.length_append, List.length_singleton]; omega, fun j hj => ?_, hr.out⟩, ?_⟩
      · simp only [List.length_append, List.length_singleton] at hj ⊢
        rw [snoc_getD, snoc_getD, ← hlen]
        by_cases e : j = b.1.length
        · rw [if_pos e, if_pos e]
          exact ⟨x.t.toNat, y.t.toNat, by omega, by omega, ex.symm, ey.symm, by rw [ex, ey]; exact he⟩
        · rw [if_neg e, if_neg e]
          exact hr.on j (by omega)
      · have k : ∀ (l : List Int) (t : Int), t ∉ l → (l ++ [t]).idxOf t = l.length := fun l t ht => by
          rw [List.idxOf_append, if_neg ht]
          simp
        rw [List.map_append, List.map_append, List.map_singleton, List.map_singleton, k _ _ hm, k _ _ hm', hm1, hm2, hlen]
  unfold mgG
  refine ⟨hL.1.len, hL.1.on, ?_⟩
  show b.2 ++ _ = b'.2 ++ _
  rw [hr.out, hL.2, ei, ew, show x.o = y.o by omega]
theorem SimR.row {n q r : Nat} (hq : q < X.st.toNat) (hr : r < X'.st.toNat) (he : Eqv X X' q r) {b b' : List Int × List Arc} (hb : SimR X X' b b') : ∀ k, k ≤ 9 → SimR X X' ((outR X q k).foldl (mgG cls n) b) ((outR X' r k).foldl (mgG cls' n) b')
  | 0, _ => by
    rw [outR_none fun a ha => (h.let_ a ha).1.1, outR_none fun a ha => (h'.let_ a ha).1.1]
    exact hb
  | k + 1, hk => by
    have ih := SimR.row (n := n) hq hr he hb k (by omega)
    by_cases hx : ∃ a ∈ X.arcs, a.f = (q : Int) ∧ a.i = (k : Int) + 1
    · obtain ⟨a, ha, e1, e2⟩ := hx
      obtain ⟨c, hc, f1, f2, f3, f4⟩ := Eqv.arc h h' he ha e1
      rw [outR_yes h.det ha e1 e2, outR_yes h'.det hc f1 (f2.trans e2), List.foldl_append, List.foldl_append]
      exact ih.take h h' n ha hc f2 f3 f4
    · have hy : ∀ c ∈ X'.arcs, c.f = (r : Int) → c.i ≠ (k : Int) + 1 := fun c hc e1 e2 => by
        obtain ⟨a, ha, g1, g2, _⟩ := Eqv.arc h' h (fun v c => (he v c).symm) hc e1
        exact hx ⟨a, ha, g1, g2.trans e2⟩
      rw [outR_no fun a ha e1 e2 => hx ⟨a, ha, e1, e2⟩, outR_no hy]
      exact ih
theorem SimR.rows (h0 : Eqv X X' 0 0) : ∀ n, (∀ j, j < n → j < (mgRows X cls j).1.length) → SimR X X' (mgRows X cls n) (mgRows X' cls' n)
  | 0, _ => by
    have p1 := h.pos
    have p2 := h'.pos
    refine ⟨rfl, fun j hj => ?_, rfl⟩
    have hj : j < 1 := hj
    have : j = 0 := by omega
    subst this
    exact ⟨0, 0, by omega, by omega, by show X.start = _; rw [h.start]; rfl, by show X'.start = _; rw [h'.start]; rfl, h0⟩
  | n + 1, hl => by
    have ih := SimR.rows h0 n fun j hj => hl j (by omega)
    obtain ⟨q, r, g1, g2, g3, g4, g5⟩ := ih.on n (hl n (by omega))
    show SimR X X' (mgP X cls n ((mgRows X cls n).1.getD n 0) (mgRows X cls n) X.arcs.length) (mgP X' cls' n ((mgRows X' cls' n).1.getD n 0) (mgRows X' cls' n) X'.arcs.length)
    rw [mgP_fold _ _ _ _ _ _ (Nat.le_refl _), mgP_fold _ _ _ _ _ _ (Nat.le_refl _), List.take_length, List.take_length, g3, g4, ← outR_all fun a ha => (h.let_ a ha).1.2, ← outR_all fun a ha => (h'.let_ a ha).1.2]
    exact SimR.row h h' g1 g2 g5 ih 9 (Nat.le_refl _)
theorem sim_same (h0 : Eqv X X' 0 0) {left left' : List Int} {outs outs' : List Arc} (m1 : mgRows X cls left.length = (left, outs)) (m2 : ∀ j, j < left.length → j < (mgRows X cls j).1.length)
    (m1' : mgRows X' cls' left'.length = (left', outs')) (m2' : ∀ j, j < left'.length → j < (mgRows X' cls' j).1.length) : left.length = left'.length ∧ outs = outs' ∧ left.map (fiA X) = left'.map (fiA X') := by
  have hlen : left.length = left'.length := by
    rcases Nat.lt_trichotomy left.length left'.length with g | g | g
    · exfalso
      have := (SimR.rows h h' h0 left.length m2).len
      rw [m1] at this
      have h2 := m2' _ g
      simp only at this
      omega
    · exact g
    · exfalso
      have := (SimR.rows h h' h0 left'.length fun j hj => m2 j (by omega)).len
      rw [m1'] at this
      have h2 := m2 _ g
      simp only at this
      omega
  have hr := SimR.rows h h' h0 left.length m2
  rw [m1, hlen, m1'] at hr
  refine ⟨hlen, hr.out, List.ext_getElem (by simp [hlen]) fun j g1 g2 => ?_⟩
  rw [List.length_map] at g1 g2
  obtain ⟨q, r, k1, k2, k3, k4, k5⟩ := hr.on j g1
  simp only at k3 k4
  have e1 : left[j] = q := by rw [← k3]; simp [List.getD, g1]
  have e2 : left'[j] = r := by rw [← k4]; simp [List.getD, g2]
  rw [List.getElem_map, List.getElem_map, e1, e2]
  unfold fiA
  rw [Int.toNat_natCast, Int.toNat_natCast]
  have hc := fun c => k5 [] c
  simp only [CW.nil, Int.toNat_natCast] at hc
  by_cases e : X.fin.getD q 0 = -1
  · by_cases e' : X'.fin.getD r 0 = -1
    · rw [e, e']
    · exact absurd e ((hc _).2 ⟨e', rfl⟩).1
  · exact ((hc _).1 ⟨e, rfl⟩).2
end
end Go.Fw

/-
  What is least of two: where it is the same, all words cost the same.
-/
namespace Go.Fw
def shM (more : Int) (j : Nat) : Int := if j = 0 then more else 0
theorem adF_get (more : Int) (l : List Int) {j : Nat} (hj : j < l.length) : (adF more l).getD j 0 = if l.getD j 0 = -1 then -1 else l.getD j 0 + shM more j := by
  unfold adF shM
  by_cases e0 : j = 0
  · subst e0
    by_cases e : l.getD 0 0 = -1
    · rw [if_pos e, if_pos e]; exact e
    · rw [if_neg e, if_neg e, setI_getD _ _ _ _ hj, if_pos rfl, if_pos rfl]
  · rw [if_neg e0, Int.add_zero]
    by_cases e : l.getD 0 0 = -1
    · rw [if_pos e]; split <;> simp_all
    · rw [if_neg e, setI_getD _ _ _ _ (by omega), if_neg e0]; split <;> simp_all
theorem adA_row (more : Int) (j : Nat) (i o t w : Int) : adA more ⟨(j : Nat), i, o, t, w⟩ = ⟨(j : Nat), i, o, t, w + shM more j⟩ := by
  unfold adA shM
  by_cases e : j = 0
  · subst e; simp
  · rw [if_neg (by simp only; omega), if_neg e, Int.add_zero]
theorem mg_head (X : TF) (cls : List Int) : ∀ n, ∃ M, (mgRows X cls n).1 = X.start :: M
  | 0 => ⟨[], rfl⟩
  | n + 1 => by
    obtain ⟨M, hM⟩ := mg_head X cls n
    obtain ⟨_, N, hN⟩ := mgP_len (D := X) (cls := cls) (i := n) (s := (mgRows X cls n).1.getD n 0) (st := mgRows X cls n) X.arcs.length
    refine ⟨M ++ N, ?_⟩
    show (mgP X cls n _ _ _).1 = _
    rw [hN, hM]
    rfl
section
variable {X X' : TF} {cls cls' : List Int} (h : Mch X cls) (h' : Mch X' cls') {left left' : List Int} {outs outs' : List Arc} {more more' : Int} (hm : 0 ≤ more)
  (m1 : mgRows X cls left.length = (left, outs)) (m2 : ∀ j, j < left.length → j < (mgRows X cls j).1.length) (m3 : MgI X cls (left, outs))
  (m1' : mgRows X' cls' left'.length = (left', outs')) (m2' : ∀ j, j < left'.length → j < (mgRows X' cls' j).1.length) (m3' : MgI X' cls' (left', outs'))
  (hl : left.length = left'.length) (hf : adF more (left.map (fiA X)) = adF more' (left'.map (fiA X'))) (ho : outs.map (adA more) = outs'.map (adA more'))
include h h' hm m1 m2 m3 m1' m2' m3' hl hf ho
theorem out_imp : ∀ (v : List Int) (j : Nat) (c : Int), j < left.length → CW X (left.getD j 0) v (c - shM more j) → CW X' (left'.getD j 0) v (c - shM more' j)
  | [], j, c, hj, hv => by
    obtain ⟨h1, h2⟩ := CW.nil.1 hv
    have hr := m3.rng _ (getD_mem left j 0 hj)
    have hff := h.dfst.fin _ (getD_mem X.fin (left.getD j 0).toNat 0 (by have := h.dfst.finl; omega))
    have e1 : (left.map (fiA X)).getD j 0 = X.fin.getD (left.getD j 0).toNat 0 := by simp [List.getD, hj, fiA]
    have e2 : (left'.map (fiA X')).getD j 0 = X'.fin.getD (left'.getD j 0).toNat 0 := by simp [List.getD, show j < left'.length by omega, fiA]
    have hg := adF_get more (left.map (fiA X)) (j := j) (by rw [List.length_map]; exact hj)
    have hg' := adF_get more' (left'.map (fiA X')) (j := j) (by rw [List.length_map]; omega)
    rw [hf, hg', e1, e2, if_neg h1] at hg
    have hs : 0 ≤ shM more j := by unfold shM; split <;> omega
    by_cases e : X'.fin.getD (left'.getD j 0).toNat 0 = -1
    · rw [if_pos e] at hg; omega
    · rw [if_neg e] at hg
      exact CW.nil.2 ⟨e, by omega⟩
  | x :: u, j, c, hj, hv => by
    obtain ⟨a, ha, e1, e2, hu⟩ := CW.cons.1 hv
    have ra := h.dfst.arc a ha
    obtain ⟨n, hn, rfl⟩ := getD_ix ha
    have hC := MgC.rows (X := X) (cls := cls) left.length m2
    have hC' := MgC.rows (X := X') (cls := cls') left'.length m2'
    rw [m1] at hC
    rw [m1'] at hC'
    obtain ⟨m, g1, g2, g3⟩ := hC.cpl j n hn (.inl hj) hj e1
    simp only at g1 g2 g3
    have hz : m ≠ 0 := fun e => by
      subst e
      obtain ⟨M, hM⟩ := mg_head X cls left.length
      rw [m1] at hM
      simp only at hM
      rw [hM, h.start] at g3
      exact h.noback ha g3.symm
    have hrm := m3.rng _ (getD_mem left m 0 g1)
    have hum := cls_cw h.dfst h.cls u (X.arcs.getD n aD).t.toNat (left.getD m 0).toNat (c - shM more j - (X.arcs.getD n aD).w) (by omega) (by omega) g3.symm (by rw [show (((X.arcs.getD n aD).t.toNat : Nat) : Int) = (X.arcs.getD n aD).t by omega]; exact hu)
    rw [show (((left.getD m 0).toNat : Nat) : Int) = left.getD m 0 by have := hrm.1; omega] at hum
    have hb : adA more ⟨(j : Nat), (X.arcs.getD n aD).i, (X.arcs.getD n aD).o, (m : Nat), (X.arcs.getD n aD).w⟩ ∈ outs'.map (adA more') := by rw [← ho]; exact List.mem_map_of_mem g2
    obtain ⟨b, hb1, hb2⟩ := List.mem_map.1 hb
    obtain ⟨j', m', a', k1, k2, k3, k4, k5, k6⟩ := hC'.snd b hb1
    simp only at k1 k2 k4 k6
    rw [k5, adA_row, adA_row] at hb2
    simp only [Arc.mk.injEq] at hb2
    obtain ⟨q1, q2, q3, q4, q5⟩ := hb2
    have ej : j' = j := by omega
    have em : m' = m := by omega
    subst ej em
    have hsm : ∀ z : Int, shM z m' = 0 := fun z => by unfold shM; rw [if_neg hz]
    have ih := out_imp u m' (c - shM more j' - (X.arcs.getD n aD).w) g1 (by rw [hsm, Int.sub_zero]; exact hum)
    rw [hsm, Int.sub_zero] at ih
    have ra' := h'.dfst.arc a' k3
    have hrm' := m3'.rng _ (getD_mem left' m' 0 k2)
    have hu' := cls_cw h'.dfst h'.cls u (left'.getD m' 0).toNat a'.t.toNat (c - shM more j' - (X.arcs.getD n aD).w) (by have := hrm'.1; have := hrm'.2; omega) (by omega) k6 (by rw [show (((left'.getD m' 0).toNat : Nat) : Int) = left'.getD m' 0 by have := hrm'.1; omega]; exact ih)
    rw [show ((a'.t.toNat : Nat) : Int) = a'.t by omega] at hu'
    exact CW.cons.2 ⟨a', k3, k4, q2.trans e2, by rw [show c - shM more' j' - a'.w = c - shM more j' - (X.arcs.getD n aD).w by omega]; exact hu'⟩
end
theorem DetH.cw0 {F U : TF} {st : DS} (h : DetH F U st) (h12 : F.st ≤ 12) {c1 c2 : Nat} {v : List Int} {c : Int} : CW (phT (mkD U st 0 0) c1 c2) 0 v (c - dsD U st 0) ↔ CW (mkD U st 0 0) 0 v c := by
  have := ph_cw (h.fokB h12 0 0).1 (c1 := c1) (c2 := c2) v 0 (c - dsD U st 0) ⟨Int.le_refl _, by show (0 : Int) < ((st.1.length : Nat) : Int); have := h.ri.len; omega⟩
  rw [this]
  show CW _ 0 v (c - dsD U st 0 + dsD U st 0) ↔ _
  rw [show c - dsD U st 0 + dsD U st 0 = c by omega]
theorem none_cw {F U : TF} {st : DS} (h : DetH F U st) (h12 : F.st ≤ 12) (hn : ¬ ∃ w c, CW U U.start w c) {v : List Int} {c : Int} : ¬ CW (mkD U st 0 0) 0 v c := fun hv =>
  hn ⟨v, c, (h.cw1 hv).is (by have := CW.pos (h.fokB h12 0 0).1 _ _ _ hv; omega)⟩
theorem some_not {F U : TF} {st : DS} (h : DetH F U st) (h12 : F.st ≤ 12) (hn : ∃ w c, CW U U.start w c) {c1 c2 : Nat} {cls left : List Int} {outs : List Arc} (hc : ClsOk (phT (mkD U st 0 0) c1 c2) cls) (m1 : mgRows (phT (mkD U st 0 0) c1 c2) cls left.length = (left, outs))
    (m2 : ∀ j, j < left.length → j < (mgRows (phT (mkD U st 0 0) c1 c2) cls j).1.length) : ¬ (adF (dsD U st 0) (left.map (fiA (phT (mkD U st 0 0) c1 c2))) = [-1] ∧ outs.map (adA (dsD U st 0)) = []) := by
  rintro ⟨e1, e2⟩
  have hM := h.mch h12 hn hc
  have d0 := dsD_is h h12 hn (q := 0) (by have := h.ri.len; omega)
  obtain ⟨M, hH⟩ := mg_head (phT (mkD U st 0 0) c1 c2) cls left.length
  rw [m1] at hH
  simp only at hH
  have hlp : 0 < left.length := by rw [hH]; simp
  have hl0 : left.getD 0 0 = 0 := by rw [hH]; rfl
  obtain ⟨⟨v, hv⟩, _⟩ := hM.psh 0 (by have := hM.pos; omega)
  cases v with
  | nil =>
    obtain ⟨g1, g2⟩ := CW.nil.1 hv
    have g1 : (phT (mkD U st 0 0) c1 c2).fin.getD (Int.toNat 0) 0 ≠ -1 := g1
    have g2 : 0 = (phT (mkD U st 0 0) c1 c2).fin.getD (Int.toNat 0) 0 := g2
    have hg := adF_get (dsD U st 0) (left.map (fiA (phT (mkD U st 0 0) c1 c2))) (j := 0) (by rw [List.length_map]; exact hlp)
    have e3 : (left.map (fiA (phT (mkD U st 0 0) c1 c2))).getD 0 0 = (phT (mkD U st 0 0) c1 c2).fin.getD (left.getD 0 0).toNat 0 := by simp [List.getD, hlp, fiA]
    rw [e1, e3, hl0] at hg
    rw [if_neg g1, ← g2] at hg
    unfold shM at hg
    rw [if_pos rfl] at hg
    have hg : (-1 : Int) = 0 + dsD U st 0 := hg
    omega
  | cons x u =>
    obtain ⟨a, ha, g1, g2, _⟩ := CW.cons.1 hv
    obtain ⟨n, hn2, rfl⟩ := getD_ix ha
    have hC := MgC.rows (X := phT (mkD U st 0 0) c1 c2) (cls := cls) left.length m2
    rw [m1] at hC
    obtain ⟨m, _, g4, _⟩ := hC.cpl 0 n hn2 (.inl hlp) hlp (by simp only; rw [hl0]; exact g1)
    have : outs = [] := by simpa using e2
    rw [this] at g4
    cases g4
section
variable {F G U V : TF} {st st' : DS} (h : DetH F U st) (h12 : F.st ≤ 12) (h' : DetH G V st') (h12' : G.st ≤ 12)
include h h12 h' h12'
theorem ls_iff {n n' : Nat} {ff ff' : List Int} {oo oo' : List Arc} (hA : IsLs U st n ff oo) (hA' : IsLs V st' n' ff' oo') : (n = n' ∧ ff = ff' ∧ oo = oo') ↔ Eqv (mkD U st 0 0) (mkD V st' 0 0) 0 0 := by
  rcases hA with ⟨hn, rfl, rfl, rfl⟩ | ⟨hn, c1, c2, cls, left, outs, hc, m1, m2, m3, rfl, rfl, rfl⟩
  · rcases hA' with ⟨hn', rfl, rfl, rfl⟩ | ⟨hn', c1', c2', cls', left', outs', hc', m1', m2', m3', rfl, rfl, rfl⟩
    · exact ⟨fun _ v c => ⟨fun hv => absurd hv (none_cw h h12 hn), fun hv => absurd hv (none_cw h' h12' hn')⟩, fun _ => ⟨rfl, rfl, rfl⟩⟩
    · constructor
      · rintro ⟨_, e1, e2⟩
        exact absurd ⟨e1.symm, e2.symm⟩ (some_not h' h12' hn' hc' m1' m2')
      · intro he
        obtain ⟨w, c, hw⟩ := h'.co hn' 0 0 (j := 0) (by have := h'.ri.len; omega)
        exact absurd ((he _ _).2 hw) (none_cw h h12 hn)
  · rcases hA' with ⟨hn', rfl, rfl, rfl⟩ | ⟨hn', c1', c2', cls', left', outs', hc', m1', m2', m3', rfl, rfl, rfl⟩
    · constructor
      · rintro ⟨_, e1, e2⟩
        exact absurd ⟨e1, e2⟩ (some_not h h12 hn hc m1 m2)
      · intro he
        obtain ⟨w, c, hw⟩ := h.co hn 0 0 (j := 0) (by have := h.ri.len; omega)
        exact absurd ((he _ _).1 hw) (none_cw h' h12' hn')
    · have hM := h.mch h12 hn hc
      have hM' := h'.mch h12' hn' hc'
      have d0 := dsD_is h h12 hn (q := 0) (by have := h.ri.len; omega)
      have d0' := dsD_is h' h12' hn' (q := 0) (by have := h'.ri.len; omega)
      have hz : left.getD 0 0 = 0 := by
        obtain ⟨M, hH⟩ := mg_head (phT (mkD U st 0 0) c1 c2) cls left.length
        rw [m1] at hH
        simp only at hH
        rw [hH]; rfl
      have hz' : left'.getD 0 0 = 0 := by
        obtain ⟨M, hH⟩ := mg_head (phT (mkD V st' 0 0) c1' c2') cls' left'.length
        rw [m1'] at hH
        simp only at hH
        rw [hH]; rfl
      have hp := m3.pos
      simp only at hp
      constructor
      · rintro ⟨e1, e2, e3⟩ v c
        have i1 := out_imp hM hM' d0.2.1 m1 m2 m3 m1' m2' m3' e1 e2 e3 v 0 c hp
        have i2 := out_imp hM' hM d0'.2.1 m1' m2' m3' m1 m2 m3 e1.symm e2.symm e3.symm v 0 c (by omega)
        rw [hz, hz'] at i1 i2
        rw [← h.cw0 h12 (c1 := c1) (c2 := c2), ← h'.cw0 h12' (c1 := c1') (c2 := c2')]
        exact ⟨i1, i2⟩
      · intro he
        have hds : dsD U st 0 = dsD V st' 0 := d0.1.eq d0'.1 fun c => ⟨fun ⟨w, hw⟩ => ⟨w, (he _ _).1 hw⟩, fun ⟨w, hw⟩ => ⟨w, (he _ _).2 hw⟩⟩
        have h0 : Eqv (phT (mkD U st 0 0) c1 c2) (phT (mkD V st' 0 0) c1' c2') 0 0 := fun v c => by
          have a1 := h.cw0 h12 (c1 := c1) (c2 := c2) (v := v) (c := c + dsD U st 0)
          have a2 := h'.cw0 h12' (c1 := c1') (c2 := c2') (v := v) (c := c + dsD U st 0)
          rw [show c + dsD U st 0 - dsD U st 0 = c by omega] at a1
          rw [← hds, show c + dsD U st 0 - dsD U st 0 = c by omega] at a2
          rw [a1, a2]
          exact he v _
        obtain ⟨k1, k2, k3⟩ := sim_same hM hM' h0 m1 m2 m1' m2'
        refine ⟨k1, ?_, ?_⟩
        · rw [k3, hds]
        · rw [k2, hds]
end
end Go.Fw
