/-
  Parse.
-/
import Derived.Test.YtdijmfdanbnppaaDoorR11
import Derived.Lib.AtoiAllCases
import Derived.Test.YtdijmfdanbnppaaDoorR10

set_option linter.unusedSimpArgs false
set_option linter.unusedVariables false

namespace Go.Fw
open Go Go.Proofs

def takeF (n : Nat) (R : RV) (l : List (List UInt8)) : Option RV := if n = 1 then headF l else if l.getD 0 [] = tFinal then finF R l else arcF R l
/-- The lines, one by one: what was read, or the line at which it ends. -/
def runL : Nat → RV → List (List UInt8) → Sum RV Nat
  | n, _, [] => .inr n
  | n, R, [x] => if n ≠ 1 ∧ x = [] then .inl R else .inr n
  | n, R, x :: y :: r => match takeF n R (spl 32 x) with
    | some R' => runL (n + 1) R' (y :: r)
    | none => .inr n
def zeroR : RV := ⟨0, 0, [], [], 0⟩
def tfR (R : RV) : TF := ⟨R.st, R.sa, R.fin, R.arcs, 0, 0⟩
/-- What Parse answers. -/
def parseF (s : List UInt8) : Option RV × Int × Int := if 100000 < s.length then (none, 0, 2) else match runL 1 zeroR (spl 10 s) with
  | .inr n => (none, n, 1)
  | .inl R => if fstE (tfR R) = 0 then (some R, 0, 0) else (none, 0, fstE (tfR R))
def ParsePost (g : Glo) (o : Option RV × Int × Int) (v : SV) (s : S) : Prop := ∃ R sp sq, R = o.1.getD zeroR ∧ v = .tup [.agg [.i R.st, .i R.sa, .sl 1 1 0 R.fin.length (R.fin.length + sp), .sl 2 5 0 R.arcs.length (R.arcs.length + sq)], .c (.i o.2.1), .c (.i o.2.2)] ∧
  s = ⟨[], [(0, gloO g), (1, .arr true 3 .int R.fin sp), (2, .arr true 35 .arc R.arcs sq)], 3⟩

theorem spl_len (c : UInt8) : ∀ (k : Nat) (l : List UInt8), l.length ≤ k → (spl c l).length ≤ l.length + 1 ∧ ∀ x ∈ spl c l, x.length ≤ l.length
  | k, [], _ => by simp [spl]
  | 0, x :: l, h => by simp at h
  | k + 1, x :: l, h => by
    obtain ⟨h1, h2⟩ := spl_len c k l (by simpa using h)
    rw [spl_cons]
    split
    · refine ⟨by simp only [List.length_cons]; omega, fun y hy => ?_⟩
      rcases List.mem_cons.1 hy with rfl | hy
      · simp
      · have := h2 y hy; simp only [List.length_cons]; omega
    · cases hs : spl c l with
      | nil => exact absurd hs (spl_ne c l)
      | cons a r =>
        rw [hs] at h1 h2
        refine ⟨by simp only [List.length_cons] at h1 ⊢; omega, fun y hy => ?_⟩
        rcases List.mem_cons.1 hy with rfl | hy
        · have := h2 a (by simp); simp only [List.length_cons]; omega
        · have := h2 y (by simp [hy]); simp only [List.length_cons]; omega
theorem cutL_fst (c : UInt8) : ∀ l : List UInt8, (cutL c l).1.length ≤ l.length
  | [] => by simp [cutL]
  | x :: l => by
    have := cutL_fst c l
    rw [cutL_cons]
    split
    · simp
    · simp only [List.length_cons]; omega

abbrev zr25 : List SC := [.i 0, .i 0, .v (.slice none 0 0), .v (.slice none 0 0)]

structure RdOk (n : Nat) (R : RV) (s : List UInt8) : Prop where
  one : n = 1 → R.arcs = []
  fin : n ≠ 1 → (R.fin.length : Int) = R.st
  cnt : R.arcs.length + s.length ≤ 100001
  num : n + s.length ≤ 100001
  pos : 1 ≤ n
  flen : R.fin.length ≤ 1000

theorem takeF_ok {n : Nat} {R R' : RV} {s s' : List UInt8} {l : List (List UInt8)} (h : RdOk n R s) (hs : s'.length < s.length) (ht : takeF n R l = some R') : RdOk (n + 1) R' s' := by
  have h1 := h.cnt
  have h2 := h.num
  have h3 := h.pos
  have h4 := h.flen
  unfold takeF at ht
  split at ht
  · unfold headF at ht
    split at ht
    · cases hn : numsO [l.getD 1 [], l.getD 3 []] with
      | none => rw [hn] at ht; cases ht
      | some ns =>
        rw [hn] at ht
        simp only [Option.bind_some] at ht
        split at ht
        · cases ht
          exact ⟨fun c => by omega, fun _ => by simp only [List.length_replicate]; omega, by simp only [List.length_nil]; omega, by omega, by omega, by simp only [List.length_replicate]; omega⟩
        · cases ht
    · cases ht
  · rename_i hn1
    have hf := h.fin hn1
    split at ht
    · unfold finF at ht
      split at ht
      · cases hn : numsO (l.drop 1) with
        | none => rw [hn] at ht; cases ht
        | some ns =>
          rw [hn] at ht
          simp only [Option.bind_some] at ht
          split at ht
          · cases ht
            exact ⟨fun c => by omega, fun _ => by simp only [List.length_set]; exact hf, by simp only; omega, by omega, by omega, by simp only [List.length_set]; exact h4⟩
          · cases ht
      · cases ht
    · unfold arcF at ht
      split at ht
      · cases hn : numsO l with
        | none => rw [hn] at ht; cases ht
        | some ns =>
          rw [hn] at ht
          cases ht
          exact ⟨fun c => by omega, fun _ => hf, by simp only [List.length_append, List.length_cons, List.length_nil]; omega, by omega, by omega, h4⟩
      · cases ht

theorem runL_go {n : Nat} {R : RV} {s : List UInt8} (hc : (cutL 10 s).2.2 = true) : runL n R (spl 10 s) = match takeF n R (spl 32 (cutL 10 s).1) with
    | some R' => runL (n + 1) R' (spl 10 (cutL 10 s).2.1)
    | none => .inr n := by
  rw [spl_cut 10 s, hc, if_pos rfl]
  cases h : spl 10 (cutL 10 s).2.1 with
  | nil => exact absurd h (spl_ne _ _)
  | cons y r => rfl
theorem runL_stop {n : Nat} {R : RV} {s : List UInt8} (hc : (cutL 10 s).2.2 = false) (h : n = 1 ∨ s ≠ []) : runL n R (spl 10 s) = .inr n := by
  rw [spl_cut 10 s, hc, if_neg (by simp), (cutL_miss 10 s hc).1]
  unfold runL
  rw [if_neg]
  rintro ⟨h1, h2⟩
  rcases h with h | h
  · exact h1 h
  · exact h h2
theorem runL_end {n : Nat} {R : RV} (h : n ≠ 1) : runL n R (spl 10 []) = .inl R := by
  unfold spl runL
  rw [if_pos ⟨h, rfl⟩]

theorem parse_no (g : Glo) {o : Option RV × Int × Int} {n e : Int} (h : o = (none, n, e)) : ParsePost g o (.tup [.agg [.i 0, .i 0, .sl 1 1 0 0 0, .sl 2 5 0 0 0], .c (.i n), .c (.i e)]) ⟨[], [(0, gloO g), (1, .arr true 3 .int [] 0), (2, .arr true 35 .arc [] 0)], 3⟩ := by
  subst h
  exact ⟨zeroR, 0, 0, rfl, rfl, rfl⟩

set_option maxHeartbeats 16000000 in
set_option maxRecDepth 20000 in
theorem parse_c (g : Glo) (hg : GloX g) (s0 : List UInt8) (hs0 : s0.length ≤ 9223372036854775807) :
    Ct Tryd.prog 18 [stV s0] [] [(0, gloO g)] 1 (ParsePost g (parseF s0)) := by
  have hbs := bs_size s0
  refine ctW Tryd.tyOk 13 [] Tryd.func18 rfl (by simp) (by simp) (fr := [(0, stV s0)]) rfl ?_
  repeat' (first | exact rfl | ((conv => whnf); first | (refine qX (fun h => ?_) fun h => ?_ <;> try exact absurd h (by omega)) | refine oN ?_ | refine oM ?_ ?_ | refine bM ?_ ?_ | refine dR ?_))
  · (conv => whnf)
    refine ⟨[(1, none), (2, none)], [(0, gloO g), (1, .arr true 3 .int [] 0), (2, .arr true 35 .arc [] 0)], 3, .tup [.agg [.i 0, .i 0, .sl 1 1 0 0 0, .sl 2 5 0 0 0], .c (.i 0), .c (.i 2)], ⟨by rfl, trivial, by simp [gloO, nilO]⟩, by simp, parse_no g ?_⟩
    unfold parseF
    rw [if_pos (by omega)]
  (conv => whnf)
  refine loopI (fun z : (List UInt8 × Nat) × RV × Nat × Nat => ⟨[(0, stV z.1.1), (2, .c (.ptr 1 0)), (5, .c (.ptr 2 0)), (6, .i z.1.2)], [(0, gloO g), (1, .box 25 zr25), (2, .box 83 (rdC z.2.1 3 4 z.2.2.1 z.2.2.2)), (3, .arr true 3 .int z.2.1.fin z.2.2.1), (4, .arr true 35 .arc z.2.1.arcs z.2.2.2)], 5⟩)
    (fun z => RdOk z.1.2 z.2.1 z.1.1 ∧ runL z.1.2 z.2.1 (spl 10 z.1.1) = runL 1 zeroR (spl 10 s0)) (fun z => z.1.1.length) ((s0, 1), zeroR, 0, 0) [(3, none), (4, none)] ⟨by rfl, ?_, ?_⟩ ⟨⟨fun _ => rfl, fun c => absurd rfl c, by simp only [zeroR, List.length_nil]; omega, by simp only; omega, Nat.le_refl _, Nat.zero_le _⟩, rfl⟩ ?_
  · simp
  · simp [gloO, nilO, rdC, zeroR]
  · rintro ⟨⟨s, n⟩, R, sp, sq⟩ ⟨hR, hrun⟩
    simp only at hR hrun ⊢
    have hcnt := hR.cnt
    have hnum := hR.num
    have hsl : s.length ≤ 100001 := by omega
    have hX := cutL_fst 10 s
    have hlt := cutL_len 10 s
    have hsp := spl_len 32 _ (cutL 10 s).1 (Nat.le_refl _)
    have hsp1 : 1 ≤ (spl 32 (cutL 10 s).1).length := List.length_pos_iff.2 (spl_ne _ _)
    have hsz : ∀ x ∈ spl 32 (cutL 10 s).1, x.length ≤ 1000000 := fun x hx => by have := hsp.2 x hx; omega
    have bad : (n = 1 ∨ s ≠ []) → ((!(cutL 10 s).2.2) = true ∨ takeF n R (spl 32 (cutL 10 s).1) = none) → parseF s0 = (none, (n : Int), 1) := by
      intro hn hb
      have hr : runL 1 zeroR (spl 10 s0) = .inr n := by
        rw [← hrun]
        cases hc : (cutL 10 s).2.2 with
        | false => exact runL_stop hc hn
        | true =>
          rw [runL_go hc]
          rcases hb with hb | hb
          · rw [hc] at hb; cases hb
          · rw [hb]
      unfold parseF
      rw [if_neg (by omega), hr]
    have next : ∀ R', (!(cutL 10 s).2.2) = false → takeF n R (spl 32 (cutL 10 s).1) = some R' → (cutL 10 s).2.1.length < s.length ∧ RdOk (n + 1) R' (cutL 10 s).2.1 ∧ runL (n + 1) R' (spl 10 (cutL 10 s).2.1) = runL 1 zeroR (spl 10 s0) := by
      intro R' hc ht
      have hc : (cutL 10 s).2.2 = true := by simpa using hc
      refine ⟨hlt hc, takeF_ok hR (hlt hc) ht, ?_⟩
      rw [← hrun, runL_go hc, ht]
    generalize hx : (cutL 10 s).1 = x at *
    generalize hre : (cutL 10 s).2.1 = rest at *
    generalize hok : (cutL 10 s).2.2 = ok at *
    have hcut := cut_c g hg s 10 (by omega)
    rw [hx, hre, hok] at hcut
    repeat' (first | exact rfl | ((conv => whnf); first | (refine qX (fun h => ?_) fun h => ?_ <;> try exact absurd h (by omega)) | refine oN ?_ | refine oM ?_ ?_ | refine bM ?_ ?_ | refine dR ?_))
    · have hn1 : n = 1 := by omega
      have hta : takeF n R (spl 32 x) = headF (spl 32 x) := by unfold takeF; rw [if_pos hn1]
      (conv => whnf)
      refine cF (hcut) [0] Tryd.call38 ?_
      rintro _ _ ⟨rfl, rfl⟩
      repeat' (first | exact rfl | ((conv => whnf); first | (refine qX (fun h => ?_) fun h => ?_ <;> try exact absurd h (by omega)) | refine oN ?_ | refine oM ?_ ?_ | refine bM ?_ ?_ | refine dR ?_))
      (conv => whnf)
      refine cF (split_c g hg x 32 (by omega)) [0] Tryd.call39 ?_
      rintro _ _ ⟨rfl, rfl⟩
      repeat' (first | exact rfl | ((conv => whnf); first | (refine qX (fun h => ?_) fun h => ?_ <;> try exact absurd h (by omega)) | refine oN ?_ | refine oM ?_ ?_ | refine bM ?_ ?_ | refine dR ?_))
      · (conv => whnf)
        refine ⟨[(1, none), (2, none)], [(0, gloO g), (1, .arr true 3 .int [] 0), (2, .arr true 35 .arc [] 0)], 3, .tup [.agg [.i 0, .i 0, .sl 1 1 0 0 0, .sl 2 5 0 0 0], .c (.i n), .c (.i 1)], ⟨by rfl, trivial, by simp [gloO, nilO]⟩, by simp, parse_no g (bad (.inl hn1) (.inl h))⟩
      (conv => whnf)
      refine callF (head_c g hg R sp sq (spl 32 x) (spl 32 x).length hsz (hR.one hn1)) [2, 3, 4, 5, 0] Tryd.call41 rfl (by simp [rdC]) (by simp [rdC]) (by simp) ?_
      rintro v s' ⟨R', sp', sq', rfl, (⟨ht, rfl⟩ | ⟨ht, rfl⟩)⟩
      · obtain ⟨n1, n2, n3⟩ := next R' h (by rw [hta]; exact ht)
        have hnb := n2.num
        repeat' (first | exact rfl | ((conv => whnf); first | (refine qX (fun h => ?_) fun h => ?_ <;> try exact absurd h (by omega)) | refine oN ?_ | refine oM ?_ ?_ | refine bM ?_ ?_ | refine dR ?_))
        (conv => whnf)
        simp only [Nat.reduceAdd, Nat.reduceSub]
        refine ⟨((rest, n + 1), R', sp', sq'), [(3, some 6), (4, some 7)], ⟨by rfl, ?_, ?_⟩, ⟨n2, n3⟩, n1⟩
        · simp
        · simp [rdC]
      · repeat' (first | exact rfl | ((conv => whnf); first | (refine qX (fun h => ?_) fun h => ?_ <;> try exact absurd h (by omega)) | refine oN ?_ | refine oM ?_ ?_ | refine bM ?_ ?_ | refine dR ?_))
        (conv => whnf)
        refine ⟨[(1, none), (2, none)], [(0, gloO g), (1, .arr true 3 .int [] 0), (2, .arr true 35 .arc [] 0)], 3, .tup [.agg [.i 0, .i 0, .sl 1 1 0 0 0, .sl 2 5 0 0 0], .c (.i n), .c (.i 1)], ⟨by rfl, trivial, by simp [gloO, nilO]⟩, by simp, parse_no g (bad (.inl hn1) (.inr (by rw [hta]; exact ht)))⟩
    · rename_i hn0
      have hn1 : n ≠ 1 := fun c => hn0 (by omega)
      rw [bs_data] at h
      have hse : s ≠ [] := h
      (conv => whnf)
      refine cF (hcut) [0] Tryd.call38 ?_
      rintro _ _ ⟨rfl, rfl⟩
      repeat' (first | exact rfl | ((conv => whnf); first | (refine qX (fun h => ?_) fun h => ?_ <;> try exact absurd h (by omega)) | refine oN ?_ | refine oM ?_ ?_ | refine bM ?_ ?_ | refine dR ?_))
      (conv => whnf)
      refine cF (split_c g hg x 32 (by omega)) [0] Tryd.call39 ?_
      rintro _ _ ⟨rfl, rfl⟩
      have hv : ((spl 32 x).map bs).getD (0 + Int.toNat 0) EK.str.dflt = bs ((spl 32 x).getD 0 []) := mapbs_getD _ 0
      repeat' (first | exact rfl | ((conv => whnf); first | (refine qX (fun h => ?_) fun h => ?_ <;> try exact absurd h (by omega)) | refine oN ?_ | refine oM ?_ ?_ | refine bM ?_ ?_ | refine dR ?_))
      · (conv => whnf)
        refine ⟨[(1, none), (2, none)], [(0, gloO g), (1, .arr true 3 .int [] 0), (2, .arr true 35 .arc [] 0)], 3, .tup [.agg [.i 0, .i 0, .sl 1 1 0 0 0, .sl 2 5 0 0 0], .c (.i n), .c (.i 1)], ⟨by rfl, trivial, by simp [gloO, nilO]⟩, by simp, parse_no g (bad (.inr hse) (.inl h))⟩
      · have hta : takeF n R (spl 32 x) = finF R (spl 32 x) := by
                  rename_i _ hq
                  rw [hv, bs_data] at hq
                  unfold takeF
                  rw [if_neg hn1]; exact if_pos hq
        (conv => whnf)
        refine callF (final_c g hg R sp sq (spl 32 x) hsz (by omega) hsp1 (hR.fin hn1)) [2, 3, 4, 5, 0] Tryd.call42 rfl (by simp [rdC]) (by simp [rdC]) (by simp) ?_
        rintro v s' ⟨R', sp', sq', rfl, (⟨ht, rfl⟩ | ⟨ht, rfl⟩)⟩
        · obtain ⟨n1, n2, n3⟩ := next R' h (by rw [hta]; exact ht)
          have hnb := n2.num
          repeat' (first | exact rfl | ((conv => whnf); first | (refine qX (fun h => ?_) fun h => ?_ <;> try exact absurd h (by omega)) | refine oN ?_ | refine oM ?_ ?_ | refine bM ?_ ?_ | refine dR ?_))
          (conv => whnf)
          simp only [Nat.reduceAdd, Nat.reduceSub]
          refine ⟨((rest, n + 1), R', sp', sq'), [(3, some 6), (4, some 7)], ⟨by rfl, ?_, ?_⟩, ⟨n2, n3⟩, n1⟩
          · simp
          · simp [rdC]
        · repeat' (first | exact rfl | ((conv => whnf); first | (refine qX (fun h => ?_) fun h => ?_ <;> try exact absurd h (by omega)) | refine oN ?_ | refine oM ?_ ?_ | refine bM ?_ ?_ | refine dR ?_))
          (conv => whnf)
          refine ⟨[(1, none), (2, none)], [(0, gloO g), (1, .arr true 3 .int [] 0), (2, .arr true 35 .arc [] 0)], 3, .tup [.agg [.i 0, .i 0, .sl 1 1 0 0 0, .sl 2 5 0 0 0], .c (.i n), .c (.i 1)], ⟨by rfl, trivial, by simp [gloO, nilO]⟩, by simp, parse_no g (bad (.inr hse) (.inr (by rw [hta]; exact ht)))⟩
      · (conv => whnf)
        refine ⟨[(1, none), (2, none)], [(0, gloO g), (1, .arr true 3 .int [] 0), (2, .arr true 35 .arc [] 0)], 3, .tup [.agg [.i 0, .i 0, .sl 1 1 0 0 0, .sl 2 5 0 0 0], .c (.i n), .c (.i 1)], ⟨by rfl, trivial, by simp [gloO, nilO]⟩, by simp, parse_no g (bad (.inr hse) (.inl h))⟩
      · have hta : takeF n R (spl 32 x) = arcF R (spl 32 x) := by
                  rename_i _ hq
                  rw [hv, bs_data] at hq
                  unfold takeF
                  rw [if_neg hn1]; exact if_neg hq
        (conv => whnf)
        refine callF (arc_c g hg R sp sq (spl 32 x) (spl 32 x).length hsz (by omega) (by omega)) [2, 3, 4, 5, 0] Tryd.call40 rfl (by simp [rdC]) (by simp [rdC]) (by simp) ?_
        rintro v s' ⟨R', sp', sq', rfl, (⟨ht, rfl⟩ | ⟨ht, rfl⟩)⟩
        · obtain ⟨n1, n2, n3⟩ := next R' h (by rw [hta]; exact ht)
          have hnb := n2.num
          repeat' (first | exact rfl | ((conv => whnf); first | (refine qX (fun h => ?_) fun h => ?_ <;> try exact absurd h (by omega)) | refine oN ?_ | refine oM ?_ ?_ | refine bM ?_ ?_ | refine dR ?_))
          (conv => whnf)
          simp only [Nat.reduceAdd, Nat.reduceSub]
          refine ⟨((rest, n + 1), R', sp', sq'), [(3, some 6), (4, some 7)], ⟨by rfl, ?_, ?_⟩, ⟨n2, n3⟩, n1⟩
          · simp
          · simp [rdC]
        · repeat' (first | exact rfl | ((conv => whnf); first | (refine qX (fun h => ?_) fun h => ?_ <;> try exact absurd h (by omega)) | refine oN ?_ | refine oM ?_ ?_ | refine bM ?_ ?_ | refine dR ?_))
          (conv => whnf)
          refine ⟨[(1, none), (2, none)], [(0, gloO g), (1, .arr true 3 .int [] 0), (2, .arr true 35 .arc [] 0)], 3, .tup [.agg [.i 0, .i 0, .sl 1 1 0 0 0, .sl 2 5 0 0 0], .c (.i n), .c (.i 1)], ⟨by rfl, trivial, by simp [gloO, nilO]⟩, by simp, parse_no g (bad (.inr hse) (.inr (by rw [hta]; exact ht)))⟩
    · rename_i hn0
      have hn1 : n ≠ 1 := fun c => hn0 (by omega)
      rw [bs_data] at h
      have hse : s = [] := h
      have hp : parseF s0 = if fstE (tfR R) = 0 then (some R, 0, 0) else (none, 0, fstE (tfR R)) := by
        unfold parseF
        rw [if_neg (by omega), ← hrun, hse, runL_end hn1]
      have hfl : R.fin.length ≤ 9223372036854775807 := by have := hR.flen; omega
      have hF : fstE ⟨R.st, R.sa, R.fin, R.arcs, R.fin.length + sp, R.arcs.length + sq⟩ = fstE (tfR R) := rfl
      generalize hfe : fstE (tfR R) = fe at *
      repeat' (first | exact rfl | ((conv => whnf); first | (refine qX (fun h => ?_) fun h => ?_ <;> try exact absurd h (by omega)) | refine oN ?_ | refine oM ?_ ?_ | refine bM ?_ ?_ | refine dR ?_))
      (conv => whnf)
      refine callF (check_c ⟨R.st, R.sa, R.fin, R.arcs, R.fin.length + sp, R.arcs.length + sq⟩ hfl) [3, 4] Tryd.call16 rfl (by simp [rdC]) (by simp [rdC]) (by simp) ?_
      rintro _ _ ⟨rfl, rfl⟩
      repeat' (first | exact rfl | ((conv => whnf); first | (refine qX (fun h => ?_) fun h => ?_ <;> try exact absurd h (by omega)) | refine oN ?_ | refine oM ?_ ?_ | refine bM ?_ ?_ | refine dR ?_))
      · rw [hF] at h
        (conv => whnf)
        rw [hF]
        refine ⟨[(1, none), (2, none)], [(0, gloO g), (1, .arr true 3 .int [] 0), (2, .arr true 35 .arc [] 0)], 3, .tup [.agg [.i 0, .i 0, .sl 1 1 0 0 0, .sl 2 5 0 0 0], .c (.i 0), .c (.i fe)], ⟨by rfl, trivial, by simp [gloO, nilO]⟩, by simp, parse_no g (by rw [hp, if_neg h])⟩
      · rw [hF] at h
        rw [if_pos h] at hp
        (conv => whnf)
        refine ⟨[(1, some 3), (2, some 4)], [(0, gloO g), (1, .arr true 3 .int R.fin sp), (2, .arr true 35 .arc R.arcs sq)], 3, .tup [.agg [.i R.st, .i R.sa, .sl 1 1 0 R.fin.length (R.fin.length + sp), .sl 2 5 0 R.arcs.length (R.arcs.length + sq)], .c (.i 0), .c (.i 0)], ⟨by rfl, trivial, by simp [gloO]⟩, by simp, R, sp, sq, by rw [hp]; rfl, by rw [hp], rfl⟩
end Go.Fw

/-
  The reference's Cut.
-/
namespace Go.Fw
open Go Go.Proofs

theorem spl_pre (c : UInt8) : ∀ (p r : List UInt8), (∀ x ∈ p, x ≠ c) → spl c (p ++ c :: r) = p :: spl c r
  | [], r, _ => by rw [List.nil_append, spl_cons, if_pos rfl]
  | x :: p, r, h => by
    rw [List.cons_append, spl_cons, if_neg (h x (by simp)), spl_pre c p r (fun y hy => h y (by simp [hy]))]
theorem spl_one (c : UInt8) : ∀ (p : List UInt8), (∀ x ∈ p, x ≠ c) → spl c p = [p]
  | [], _ => rfl
  | x :: p, h => by rw [spl_cons, if_neg (h x (by simp)), spl_one c p (fun y hy => h y (by simp [hy]))]

/-- Cut as far as i: what is done, and where the piece under way begins. -/
structure CutTo (c : UInt8) (s : List UInt8) (i : Nat) (D : List (List UInt8)) (fr : Nat) : Prop where
  le : fr ≤ i
  is : i ≤ s.length
  eq : spl c s = D ++ spl c (s.drop fr)
  no : ∀ j, fr ≤ j → j < i → s.getD j 0 ≠ c
  len : D.length ≤ i

theorem CutTo.piece {c : UInt8} {s : List UInt8} {i fr : Nat} {D : List (List UInt8)} (h : CutTo c s i D fr) : ∀ x ∈ (s.drop fr).take (i - fr), x ≠ c := by
  intro x hx
  obtain ⟨j, hj⟩ := List.mem_iff_getElem?.1 hx
  have h1 := h.le
  have h2 := h.is
  have hjl : j < i - fr := by
    have := (List.getElem?_eq_some_iff.1 hj).1
    simp only [List.length_take, List.length_drop] at this
    omega
  rw [List.getElem?_take_of_lt hjl, List.getElem?_drop] at hj
  have := h.no (fr + j) (by omega) (by omega)
  rw [List.getD_eq_getElem?_getD, hj] at this
  exact this
theorem CutTo.done {c : UInt8} {s : List UInt8} {fr : Nat} {D : List (List UInt8)} (h : CutTo c s s.length D fr) : spl c s = D ++ [s.drop fr] := by
  have := h.piece
  rw [List.take_of_length_le (by simp)] at this
  rw [h.eq, spl_one c _ this]

end Go.Fw

/-
  The reference's numbers are the program's.
-/
namespace Go.Fw
open Go

def Dig (c : UInt8) : Prop := 48 ≤ c.toNat ∧ c.toNat ≤ 57
/-- What digits spell. -/
def dv : Nat → List UInt8 → Nat
  | acc, [] => acc
  | acc, c :: r => dv (acc * 10 + (c.toNat - 48)) r
theorem dv_snoc (d : UInt8) : ∀ (l : List UInt8) (acc : Nat), dv acc (l ++ [d]) = dv acc l * 10 + (d.toNat - 48)
  | [], _ => rfl
  | c :: l, acc => by
    rw [List.cons_append]
    exact dv_snoc d l _
theorem dv_ge : ∀ (l : List UInt8) (acc : Nat), acc ≤ dv acc l
  | [], _ => Nat.le_refl _
  | c :: l, acc => by
    have := dv_ge l (acc * 10 + (c.toNat - 48))
    show acc ≤ dv (acc * 10 + (c.toNat - 48)) l
    exact Nat.le_trans (by omega) this
theorem dv_lt : ∀ (l : List UInt8) (acc : Nat), (∀ c ∈ l, Dig c) → dv acc l < (acc + 1) * 10 ^ l.length
  | [], acc, _ => by show acc < (acc + 1) * 10 ^ 0; omega
  | c :: l, acc, h => by
    have h1 := dv_lt l (acc * 10 + (c.toNat - 48)) (fun x hx => h x (by simp [hx]))
    have h2 := h c (by simp)
    unfold Dig at h2
    show dv (acc * 10 + (c.toNat - 48)) l < _
    refine Nat.lt_of_lt_of_le h1 ?_
    rw [List.length_cons, Nat.pow_succ, Nat.mul_comm (10 ^ l.length) 10, ← Nat.mul_assoc]
    exact Nat.mul_le_mul_right _ (by omega)
theorem parse_dv : ∀ (l : List UInt8) (acc : Nat), (∀ c ∈ l, Dig c) → dv acc l < 1000000000000000000 → Lib.parseUint10 acc l = .ok (dv acc l)
  | [], _, _, _ => rfl
  | c :: l, acc, h, hlt => by
    have h2 := h c (by simp)
    unfold Dig at h2
    have hlt' : dv (acc * 10 + (c.toNat - 48)) l < 1000000000000000000 := hlt
    have hge := dv_ge l (acc * 10 + (c.toNat - 48))
    simp only [Lib.parseUint10]
    rw [if_pos h2, if_neg (by omega), if_neg (by omega)]
    exact parse_dv l _ (fun x hx => h x (by simp [hx])) hlt'

theorem dec_dig : ∀ (k u : Nat), u < k → (∀ c ∈ Lib.decDigits u, Dig c) ∧ dv 0 (Lib.decDigits u) = u ∧ 1 ≤ (Lib.decDigits u).length
  | 0, u, h => by omega
  | k + 1, u, h => by
    have hd : ∀ i : Nat, i < 10 → (UInt8.ofNat (48 + i)).toNat = 48 + i := fun i hi => by rw [UInt8.toNat_ofNat']; omega
    by_cases h10 : u < 10
    · rw [Lib.decDigits_one h10]
      refine ⟨?_, ?_, by simp⟩
      · intro c hc
        simp only [List.mem_cons, List.not_mem_nil, or_false] at hc
        subst hc
        unfold Dig
        rw [hd u h10]
        omega
      · show 0 * 10 + ((UInt8.ofNat (48 + u)).toNat - 48) = u
        rw [hd u h10]
        omega
    · obtain ⟨h1, h2, h3⟩ := dec_dig k (u / 10) (by omega)
      rw [Lib.decDigits, dif_neg h10]
      refine ⟨?_, ?_, by simp⟩
      · intro c hc
        rcases List.mem_append.1 hc with hc | hc
        · exact h1 c hc
        · simp only [List.mem_cons, List.not_mem_nil, or_false] at hc
          subst hc
          unfold Dig
          rw [hd _ (by omega)]
          omega
      · rw [dv_snoc, h2, hd _ (by omega)]
        omega

instance (x : List UInt8) : Decidable (∀ c ∈ x, Dig c) := by unfold Dig; infer_instance
/-- The number that a word is, as the reference reads it. -/
def undO (x : List UInt8) : Option Int := if 1 ≤ x.length ∧ x.length ≤ 10 ∧ (∀ c ∈ x, Dig c) ∧ Lib.itoa (dv 0 x : Nat) = x then some (dv 0 x : Nat) else none

theorem undO_eq (x : List UInt8) : undO x = numO x := by
  unfold undO
  split
  · rename_i h
    obtain ⟨h1, h2, h3, h4⟩ := h
    have hlt := dv_lt x 0 h3
    have hp : 10 ^ x.length ≤ 10 ^ 10 := Nat.pow_le_pow_right (by omega) h2
    have hok : Lib.atoiAll x = .ok (dv 0 x : Nat) := by
      have hpm : Lib.parseMag x = .ok (dv 0 x) := by
        unfold Lib.parseMag
        rw [if_neg (fun e => by rw [e] at h1; simp at h1)]
        exact parse_dv x 0 h3 (by omega)
      cases x with
      | nil => simp at h1
      | cons c r =>
        have hc := h3 c (by simp)
        unfold Dig at hc
        unfold Lib.atoiAll
        simp only
        rw [if_neg (by omega), hpm]
        simp only
        rw [if_neg (by omega), if_neg (by omega), if_neg (by omega)]
    unfold numO
    rw [hok]
    simp only
    rw [if_pos ⟨h2, by omega, h4⟩]
  · rename_i h
    unfold numO
    split
    · rename_i n hn
      split
      · rename_i hc
        obtain ⟨c1, c2, c3⟩ := hc
        exfalso
        apply h
        obtain ⟨m, rfl⟩ : ∃ m : Nat, n = m := ⟨n.toNat, by omega⟩
        rw [Lib.itoa_nonneg] at c3
        obtain ⟨d1, d2, d3⟩ := dec_dig (m + 1) m (by omega)
        rw [c3] at d1 d2 d3
        exact ⟨d3, c1, d1, by rw [d2, Lib.itoa_nonneg]; exact c3⟩
      · rfl
    · rfl
end Go.Fw

/-
  The reference's Undigits.
-/
namespace Go.Fw
open Go Go.Proofs

/-- What Undigits answers. -/
def UndPost (l : List (List UInt8)) (many : Int) (v : SV) (s : S) : Prop :=
  (∃ ns sp, numsO l = some ns ∧ (l.length : Int) = many ∧ v = .tup [.c (.sl 1 1 0 ns.length (ns.length + sp)), .c (.b true)] ∧ s = ⟨[], [(1, .arr true 3 .int ns sp)], 2⟩) ∨
  ((numsO l = none ∨ (l.length : Int) ≠ many) ∧ v = .tup [.c (.v (.slice none 0 0)), .c (.b false)] ∧ s = ⟨[], [], 1⟩)

end Go.Fw

/-
  The reference's PrintFst.
-/
namespace Go.Fw
open Go Go.Proofs

theorem lnF_final (i w : Int) : lnF tFinal [i, w] = tFinal ++ [32] ++ Lib.itoa i ++ [32] ++ Lib.itoa w ++ [10] := by
  simp [lnF, lnK, gapL, tFinal]
theorem lnF_arc (a b c d e : Int) : lnF [] [a, b, c, d, e] = Lib.itoa a ++ [32] ++ Lib.itoa b ++ [32] ++ Lib.itoa c ++ [32] ++ Lib.itoa d ++ [32] ++ Lib.itoa e ++ [10] := by
  simp [lnF, lnK, gapL]

end Go.Fw

/-
  The reference's ReadFst.
-/
namespace Go.Fw
open Go Go.Proofs

instance {a b : Int} : CB (!(a == b)) (a ≠ b) (a = b) := ⟨fun h => by simpa using h, fun h => by simpa using h⟩

def ReadPost (o : Option RV × Int × Int) (v : SV) (s : S) : Prop := ∃ R sp sq, R = o.1.getD zeroR ∧ v = .tup [.agg [.i R.st, .i R.sa, .sl 0 1 0 R.fin.length (R.fin.length + sp), .sl 1 5 0 R.arcs.length (R.arcs.length + sq)], .c (.i o.2.1), .c (.i o.2.2)] ∧
  s = ⟨[], [(0, .arr true 3 .int R.fin sp), (1, .arr true 35 .arc R.arcs sq)], 2⟩
/-- Read as far as line i. -/
structure LnOk (L : List (List UInt8)) (i : Nat) (R : RV) (res : Sum RV Nat) : Prop where
  le : i < L.length
  zero : i = 0 → R = ⟨0, 0, [], [], -1⟩
  fin : i ≠ 0 → (R.fin.length : Int) = R.st
  flen : R.fin.length ≤ 1000
  cnt : R.arcs.length ≤ i
  run : runL (i + 1) R (L.drop i) = res

theorem LnOk.drop {L : List (List UInt8)} {i : Nat} (hi : i < L.length) : L.drop i = L.getD i [] :: L.drop (i + 1) := by
  rw [List.drop_eq_getElem_cons hi, List.getD_eq_getElem?_getD, List.getElem?_eq_getElem hi]
  rfl
theorem LnOk.bad {L : List (List UInt8)} {i : Nat} {R : RV} {res : Sum RV Nat} (h : LnOk L i R res) (hn : i ≠ L.length - 1 ∨ i = 0 ∨ L.getD i [] ≠ []) (hb : i = L.length - 1 ∨ takeF (i + 1) R (spl 32 (L.getD i [])) = none) : res = .inr (i + 1) := by
  have hi := h.le
  rw [← h.run, LnOk.drop hi]
  by_cases he : i = L.length - 1
  · rw [List.drop_eq_nil_of_le (by omega)]
    unfold runL
    rw [if_neg]
    rintro ⟨h1, h2⟩
    rcases hn with hn | hn | hn
    · exact hn he
    · omega
    · exact hn h2
  · rw [LnOk.drop (i := i + 1) (by omega)]
    rcases hb with hb | hb
    · exact absurd hb he
    · unfold runL
      rw [hb]
theorem LnOk.next {L : List (List UInt8)} {i : Nat} {R R' : RV} {res : Sum RV Nat} (h : LnOk L i R res) (he : i ≠ L.length - 1) (ht : takeF (i + 1) R (spl 32 (L.getD i [])) = some R') : LnOk L (i + 1) R' res := by
  have hi := h.le
  have hr : runL (i + 1 + 1) R' (L.drop (i + 1)) = res := by
    rw [← h.run, LnOk.drop hi, LnOk.drop (i := i + 1) (by omega)]
    conv => rhs; unfold runL
    rw [ht]
  have h2 := h.cnt
  have h4 := h.flen
  generalize hl : spl 32 (L.getD i []) = l at ht
  refine ⟨by omega, fun c => by omega, fun _ => ?_, ?_, ?_, hr⟩
  all_goals
    unfold takeF at ht
    split at ht
    · unfold headF at ht
      split at ht
      · cases hn : numsO [l.getD 1 [], l.getD 3 []] with
        | none => rw [hn] at ht; cases ht
        | some ns =>
          rw [hn] at ht
          simp only [Option.bind_some] at ht
          split at ht
          · cases ht
            first
            | (simp only [List.length_replicate]; omega)
            | (simp only [List.length_nil]; omega)
          · cases ht
      · cases ht
    · rename_i hn1
      have hf := h.fin (by omega)
      split at ht
      · unfold finF at ht
        split at ht
        · cases hn : numsO (l.drop 1) with
          | none => rw [hn] at ht; cases ht
          | some ns =>
            rw [hn] at ht
            simp only [Option.bind_some] at ht
            split at ht
            · cases ht
              first
              | (simp only [List.length_set]; omega)
              | (simp only; omega)
            · cases ht
        · cases ht
      · unfold arcF at ht
        split at ht
        · cases hn : numsO l with
          | none => rw [hn] at ht; cases ht
          | some ns =>
            rw [hn] at ht
            cases ht
            first
            | (simp only [List.length_append, List.length_cons, List.length_nil]; omega)
            | (simp only; omega)
        · cases ht

end Go.Fw

/-
  What is printed is parsed as it was, and nothing else is: the plain law.
-/
namespace Go.Fw
open Go

/-- Pieces with a sign between. -/
def jn (c : UInt8) : List (List UInt8) → List UInt8
  | [] => []
  | [x] => x
  | x :: y :: r => x ++ c :: jn c (y :: r)
theorem jn_cons (c : UInt8) (x : List UInt8) {l : List (List UInt8)} (h : l ≠ []) : jn c (x :: l) = x ++ c :: jn c l := by
  cases l with
  | nil => exact absurd rfl h
  | cons y r => rfl
theorem jn_snoc (c : UInt8) (x : List UInt8) : ∀ l : List (List UInt8), l ≠ [] → jn c (l ++ [x]) = jn c l ++ [c] ++ x
  | [], h => absurd rfl h
  | [y], _ => by simp [jn]
  | y :: z :: r, _ => by
    rw [List.cons_append, jn_cons c y (by simp), jn_snoc c x (z :: r) (by simp), jn_cons c y (by simp)]
    simp
theorem jn_spl (c : UInt8) : ∀ l : List UInt8, jn c (spl c l) = l
  | [] => rfl
  | x :: l => by
    have ih := jn_spl c l
    rw [spl_cons]
    split
    · rename_i h
      rw [jn_cons c [] (spl_ne c l), ih, h]
      rfl
    · cases hs : spl c l with
      | nil => exact absurd hs (spl_ne c l)
      | cons a r =>
        rw [hs] at ih
        simp only
        cases r with
        | nil => simp only [jn] at ih ⊢; rw [ih]
        | cons b r => simp only [jn] at ih ⊢; rw [List.cons_append, ih]
theorem spl_jn (c : UInt8) : ∀ l : List (List UInt8), l ≠ [] → (∀ x ∈ l, ∀ y ∈ x, y ≠ c) → spl c (jn c l) = l
  | [], h, _ => absurd rfl h
  | [x], _, h => spl_one c x (h x (by simp))
  | x :: y :: r, _, h => by
    rw [jn_cons c x (by simp), spl_pre c x _ (h x (by simp)), spl_jn c (y :: r) (by simp) (fun z hz => h z (by simp [hz]))]

/-- Lines, each with its end. -/
def uls (l : List (List UInt8)) : List UInt8 := l.flatMap (· ++ [10])
theorem uls_app (a b : List (List UInt8)) : uls (a ++ b) = uls a ++ uls b := by unfold uls; rw [List.flatMap_append]
theorem uls_one (a : List UInt8) : uls [a] = a ++ [10] := by simp [uls]
theorem jn_uls : ∀ l : List (List UInt8), jn 10 (l ++ [[]]) = uls l
  | [] => rfl
  | x :: l => by
    rw [List.cons_append, jn_cons 10 x (by simp), jn_uls l]
    simp [uls]
theorem spl_uls (l : List (List UInt8)) (h : ∀ x ∈ l, ∀ y ∈ x, y ≠ 10) : spl 10 (uls l) = l ++ [[]] := by
  rw [← jn_uls]
  refine spl_jn 10 _ (by simp) (fun x hx => ?_)
  rcases List.mem_append.1 hx with hx | hx
  · exact h x hx
  · simp only [List.mem_cons, List.not_mem_nil, or_false] at hx
    subst hx
    simp
theorem uls_spl {s : List UInt8} {l : List (List UInt8)} (h : spl 10 s = l ++ [[]]) : uls l = s := by rw [← jn_uls, ← h, jn_spl]

/-- A line's words. -/
def lw (word : List UInt8) (ns : List Int) : List (List UInt8) := (if word = [] then [] else [word]) ++ ns.map Lib.itoa
theorem lnK_jn (word : List UInt8) (ns : List Int) : ∀ k : Nat, k ≤ ns.length → lnK word ns k = jn 32 (lw word (ns.take k))
  | 0, _ => by
    unfold lw lnK
    split
    · rename_i h; rw [h]; rfl
    · rfl
  | k + 1, hk => by
    have ih := lnK_jn word ns k (by omega)
    have e : lw word (ns.take (k + 1)) = lw word (ns.take k) ++ [Lib.itoa (ns.getD k 0)] := by
      unfold lw
      rw [List.take_add_one, List.map_append, ← List.append_assoc]
      congr 1
      rw [List.getElem?_eq_getElem (by omega), List.getD_eq_getElem?_getD, List.getElem?_eq_getElem (by omega)]
      rfl
    rw [e]
    show lnK word ns k ++ gapL word k ++ _ = _
    rw [ih]
    unfold gapL
    split
    · rename_i h
      rw [jn_snoc]
      unfold lw
      intro hc
      obtain ⟨h1, h2⟩ := List.append_eq_nil_iff.1 hc
      rcases h with h | h
      · have := congrArg List.length h2
        simp only [List.length_map, List.length_take, List.length_nil] at this
        omega
      · rw [if_neg h] at h1; cases h1
    · rename_i h
      have hk0 : k = 0 := by omega
      have hw : word = [] := Classical.byContradiction fun c => h (.inr c)
      subst hk0 hw
      simp [lw, jn]
theorem lnF_jn (word : List UInt8) (ns : List Int) : lnF word ns = jn 32 (lw word ns) ++ [10] := by
  unfold lnF
  rw [lnK_jn word ns _ (Nat.le_refl _), List.take_length]

theorem itoa_dig {n : Int} (h : 0 ≤ n) : ∀ c ∈ Lib.itoa n, Dig c := by
  obtain ⟨m, rfl⟩ : ∃ m : Nat, n = m := ⟨n.toNat, by omega⟩
  rw [Lib.itoa_nonneg]
  exact (dec_dig (m + 1) m (by omega)).1
theorem itoa_no {n : Int} (h : 0 ≤ n) (c : UInt8) (hc : c.toNat < 48) : ∀ y ∈ Lib.itoa n, y ≠ c := by
  intro y hy e
  have := itoa_dig h y hy
  unfold Dig at this
  rw [e] at this
  omega
theorem dec_len : ∀ (k u : Nat), u < 10 ^ (k + 1) → (Lib.decDigits u).length ≤ k + 1
  | 0, u, h => by rw [Lib.decDigits_one (by omega)]; simp
  | k + 1, u, h => by
    by_cases h10 : u < 10
    · rw [Lib.decDigits_one h10]; simp
    · have := dec_len k (u / 10) (by rw [Nat.pow_succ] at h; omega)
      rw [Lib.decDigits, dif_neg h10, List.length_append]
      simp only [List.length_cons, List.length_nil]
      omega
theorem numO_itoa {n : Int} (h0 : 0 ≤ n) (h1 : n < 10000000000) : numO (Lib.itoa n) = some n := by
  rw [← undO_eq]
  obtain ⟨m, rfl⟩ : ∃ m : Nat, n = m := ⟨n.toNat, by omega⟩
  obtain ⟨d1, d2, d3⟩ := dec_dig (m + 1) m (by omega)
  have d4 := dec_len 9 m (by omega)
  unfold undO
  rw [Lib.itoa_nonneg, if_pos ⟨d3, by omega, d1, by rw [d2, Lib.itoa_nonneg]⟩, d2]
theorem numsO_itoa : ∀ {ns : List Int}, (∀ n ∈ ns, 0 ≤ n ∧ n < 10000000000) → numsO (ns.map Lib.itoa) = some ns
  | [], _ => rfl
  | n :: ns, h => by
    have h1 := h n (by simp)
    rw [List.map_cons, numsO_cons, numO_itoa h1.1 h1.2, numsO_itoa (fun m hm => h m (by simp [hm]))]
theorem numO_back {x : List UInt8} {n : Int} (h : numO x = some n) : Lib.itoa n = x := by
  unfold numO at h
  split at h
  · split at h
    · rename_i hc
      cases h
      exact hc.2.2
    · cases h
  · cases h
theorem numsO_back : ∀ {l : List (List UInt8)} {ns : List Int}, numsO l = some ns → ns.map Lib.itoa = l
  | [], ns, h => by cases h; rfl
  | x :: l, ns, h => by
    rw [numsO_cons] at h
    cases hx : numO x with
    | none => rw [hx] at h; cases h
    | some n =>
      cases hl : numsO l with
      | none => rw [hx, hl] at h; cases h
      | some ms =>
        rw [hx, hl] at h
        cases h
        rw [List.map_cons, numO_back hx, numsO_back hl]

/-- The lines of what is printed. -/
def finL : Nat → List Int → List (List UInt8)
  | _, [] => []
  | k, w :: ws => (if w ≠ -1 then [jn 32 (lw tFinal [(k : Int), w])] else []) ++ finL (k + 1) ws
def arcLn (a : Arc) : List UInt8 := jn 32 (lw [] (arcL a))
def headLn (st sa : Int) : List UInt8 := jn 32 [wStates, Lib.itoa st, wStart, Lib.itoa sa]
theorem finL_snoc (w : Int) : ∀ (k : Nat) (l : List Int), finL k (l ++ [w]) = finL k l ++ (if w ≠ -1 then [jn 32 (lw tFinal [((k + l.length : Nat) : Int), w])] else [])
  | k, [] => by simp [finL]
  | k, x :: l => by
    rw [List.cons_append]
    unfold finL
    rw [finL_snoc w (k + 1) l, List.append_assoc, List.length_cons, show k + 1 + l.length = k + (l.length + 1) by omega]
theorem finL_none : ∀ (k : Nat) (l : List Int), (∀ x ∈ l, x = -1) → finL k l = []
  | _, [], _ => rfl
  | k, x :: l, h => by
    unfold finL
    rw [if_neg (fun c => c (h x (by simp))), finL_none (k + 1) l (fun y hy => h y (by simp [hy]))]
    rfl
theorem finL_app : ∀ (k : Nat) (a b : List Int), finL k (a ++ b) = finL k a ++ finL (k + a.length) b
  | k, [], b => by simp [finL]
  | k, x :: a, b => by
    show (if x ≠ -1 then [jn 32 (lw tFinal [(k : Int), x])] else []) ++ finL (k + 1) (a ++ b) = (if x ≠ -1 then [jn 32 (lw tFinal [(k : Int), x])] else []) ++ finL (k + 1) a ++ _
    rw [finL_app (k + 1) a b, List.append_assoc, List.length_cons, show k + 1 + a.length = k + (a.length + 1) by omega]
theorem finsK_uls (fin : List Int) : ∀ k : Nat, k ≤ fin.length → finsK fin k = uls (finL 0 (fin.take k))
  | 0, _ => by simp [finsK, finL, uls]
  | k + 1, hk => by
    have ih := finsK_uls fin k (by omega)
    have e : fin.take (k + 1) = fin.take k ++ [fin.getD k 0] := by
      rw [List.take_add_one, List.getElem?_eq_getElem (by omega), List.getD_eq_getElem?_getD, List.getElem?_eq_getElem (by omega)]
      rfl
    rw [e, finL_snoc, uls_app, ← ih]
    show finsK fin k ++ (if fin.getD k 0 ≠ -1 then lnF tFinal [(k : Int), fin.getD k 0] else []) = _
    rw [List.length_take, show min k fin.length = k by omega, Nat.zero_add]
    split
    · rw [uls_one, lnF_jn]
    · rfl
theorem arcsK_uls (arcs : List Arc) : ∀ k : Nat, k ≤ arcs.length → arcsK arcs k = uls ((arcs.take k).map arcLn)
  | 0, _ => by simp [arcsK, uls]
  | k + 1, hk => by
    have ih := arcsK_uls arcs k (by omega)
    have e : arcs.take (k + 1) = arcs.take k ++ [arcs.getD k aD] := by
      rw [List.take_add_one, List.getElem?_eq_getElem (by omega), List.getD_eq_getElem?_getD, List.getElem?_eq_getElem (by omega)]
      rfl
    rw [e, List.map_append, uls_app, ← ih]
    show arcsK arcs k ++ lnF [] (arcL (arcs.getD k aD)) = _
    rw [lnF_jn]
    simp [uls, arcLn]
def prL (st sa : Int) (fin : List Int) (arcs : List Arc) : List (List UInt8) := headLn st sa :: (finL 0 fin ++ arcs.map arcLn)
theorem prF_uls (F : TF) : prF F = uls (prL F.st F.start F.fin F.arcs) := by
  unfold prF prL
  rw [finsK_uls _ _ (Nat.le_refl _), arcsK_uls _ _ (Nat.le_refl _), List.take_length, List.take_length]
  have : ∀ (a : List UInt8) (l : List (List UInt8)), uls (a :: l) = a ++ [10] ++ uls l := fun a l => by simp [uls]
  rw [this, uls_app, ← List.append_assoc]
  congr 2
  simp [hdL, headLn, jn, tStates, tStart, wStates, wStart]
end Go.Fw

/-
  What is printed is parsed as it was, and nothing else is: the plain law, its two ways.
-/
namespace Go.Fw
open Go

theorem jn_no {c : UInt8} : ∀ {l : List (List UInt8)} {d : UInt8}, d ≠ c → (∀ x ∈ l, ∀ y ∈ x, y ≠ d) → ∀ y ∈ jn c l, y ≠ d
  | [], _, _, _ => by simp [jn]
  | [x], _, _, h => h x (by simp)
  | x :: z :: r, d, hd, h => by
    intro y hy
    rw [jn_cons c x (by simp)] at hy
    rcases List.mem_append.1 hy with hy | hy
    · exact h x (by simp) y hy
    · rcases List.mem_cons.1 hy with rfl | hy
      · exact fun e => hd e.symm
      · exact jn_no (l := z :: r) hd (fun w hw => h w (by simp [hw])) y hy
theorem lw_no {word : List UInt8} {ns : List Int} {d : UInt8} (hd : d.toNat < 48) (hw : ∀ y ∈ word, y ≠ d) (hn : ∀ n ∈ ns, 0 ≤ n) : ∀ x ∈ lw word ns, ∀ y ∈ x, y ≠ d := by
  intro x hx
  unfold lw at hx
  rcases List.mem_append.1 hx with hx | hx
  · split at hx
    · simp at hx
    · simp only [List.mem_cons, List.not_mem_nil, or_false] at hx
      rw [hx]; exact hw
  · obtain ⟨n, h1, rfl⟩ := List.mem_map.1 hx
    exact itoa_no (hn n h1) d hd
theorem spl_lw {word : List UInt8} {ns : List Int} (hw : ∀ y ∈ word, y ≠ 32) (hn : ∀ n ∈ ns, 0 ≤ n) (hne : ns ≠ []) : spl 32 (jn 32 (lw word ns)) = lw word ns := by
  refine spl_jn 32 _ ?_ (lw_no (by decide) hw hn)
  unfold lw
  intro h
  have := (List.append_eq_nil_iff.1 h).2
  exact hne (List.map_eq_nil_iff.1 this)

theorem tFinal_no {d : UInt8} (h : d.toNat < 48) : ∀ y ∈ tFinal, y ≠ d := by
  intro y hy e
  subst e
  simp only [tFinal, List.mem_cons, List.not_mem_nil, or_false] at hy
  rcases hy with rfl | rfl | rfl | rfl | rfl <;> simp at h
theorem itoa_ne_final {n : Int} (h : 0 ≤ n) : Lib.itoa n ≠ tFinal := by
  intro e
  have := itoa_dig h 102 (by rw [e]; simp [tFinal])
  unfold Dig at this
  simp at this

/-- What can be printed. -/
structure Pr (st sa : Int) (fin : List Int) (arcs : List Arc) : Prop where
  hst : 1 ≤ st ∧ st ≤ 200
  hsa : 0 ≤ sa ∧ sa < 10000000000
  hlen : (fin.length : Int) = st
  hfin : ∀ w ∈ fin, -1 ≤ w ∧ w < 10000000000
  harc : ∀ a ∈ arcs, ∀ n ∈ arcL a, 0 ≤ n ∧ n < 10000000000

theorem fin_no {d : UInt8} (h1 : d.toNat < 48) (h2 : d ≠ 32) : ∀ (k : Nat) (l : List Int), (∀ w ∈ l, -1 ≤ w) → ∀ x ∈ finL k l, ∀ y ∈ x, y ≠ d
  | _, [], _ => by simp [finL]
  | k, w :: l, h => by
    intro x hx
    unfold finL at hx
    rcases List.mem_append.1 hx with hx | hx
    · split at hx
      · rename_i hw
        simp only [List.mem_cons, List.not_mem_nil, or_false] at hx
        subst hx
        have := h w (by simp)
        refine jn_no h2 (lw_no h1 (tFinal_no h1) ?_)
        intro n hn
        simp only [List.mem_cons, List.not_mem_nil, or_false] at hn
        rcases hn with rfl | rfl <;> omega
      · simp at hx
    · exact fin_no h1 h2 (k + 1) l (fun v hv => h v (by simp [hv])) x hx
theorem headLn_no {st sa : Int} (h1 : 0 ≤ st) (h2 : 0 ≤ sa) {d : UInt8} (hd : d.toNat < 48) : ∀ x ∈ [wStates, Lib.itoa st, wStart, Lib.itoa sa], ∀ y ∈ x, y ≠ d := by
  intro x hx
  simp only [List.mem_cons, List.not_mem_nil, or_false] at hx
  rcases hx with rfl | rfl | rfl | rfl
  · intro y hy e
    subst e
    simp only [wStates, List.mem_cons, List.not_mem_nil, or_false] at hy
    rcases hy with rfl | rfl | rfl | rfl | rfl | rfl <;> simp at hd
  · exact itoa_no h1 d hd
  · intro y hy e
    subst e
    simp only [wStart, List.mem_cons, List.not_mem_nil, or_false] at hy
    rcases hy with rfl | rfl | rfl | rfl | rfl <;> simp at hd
  · exact itoa_no h2 d hd
theorem prL_no {st sa : Int} {fin : List Int} {arcs : List Arc} (h : Pr st sa fin arcs) : ∀ x ∈ prL st sa fin arcs, ∀ y ∈ x, y ≠ 10 := by
  have h1 := h.hst
  have h2 := h.hsa
  intro x hx
  unfold prL at hx
  rcases List.mem_cons.1 hx with rfl | hx
  · exact jn_no (by decide) (headLn_no (by omega) (by omega) (by decide))
  rcases List.mem_append.1 hx with hx | hx
  · exact fin_no (by decide) (by decide) 0 fin (fun w hw => (h.hfin w hw).1) x hx
  · obtain ⟨a, ha, rfl⟩ := List.mem_map.1 hx
    exact jn_no (by decide) (lw_no (by decide) (by simp) (fun n hn => (h.harc a ha n hn).1))

theorem runL_step {n : Nat} {R R' : RV} {x : List UInt8} {t : List (List UInt8)} (ht : t ≠ []) (h : takeF n R (spl 32 x) = some R') : runL n R (x :: t) = runL (n + 1) R' t := by
  cases t with
  | nil => exact absurd rfl ht
  | cons y r => conv => lhs; unfold runL
                rw [h]

theorem head_back {st sa : Int} (h1 : 1 ≤ st ∧ st ≤ 200) (h2 : 0 ≤ sa ∧ sa < 10000000000) : headF (spl 32 (headLn st sa)) = some ⟨st, sa, List.replicate st.toNat (-1), [], -1⟩ := by
  unfold headLn
  rw [spl_jn 32 _ (by simp) (headLn_no (by omega) (by omega) (by decide))]
  have hn : numsO [Lib.itoa st, Lib.itoa sa] = some [st, sa] := numsO_itoa (ns := [st, sa]) (by
    intro n hn
    simp only [List.mem_cons, List.not_mem_nil, or_false] at hn
    rcases hn with rfl | rfl <;> omega)
  unfold headF
  rw [if_pos ⟨rfl, rfl, rfl⟩]
  show (numsO [Lib.itoa st, Lib.itoa sa]).bind _ = _
  rw [hn]
  exact if_pos h1

theorem fin_run : ∀ (ws : List Int) (pre : List Int) (n : Nat) (st sa last : Int) (t : List (List UInt8)), 2 ≤ n → t ≠ [] → last < pre.length → st = ((pre.length + ws.length : Nat) : Int) → (∀ w ∈ ws, -1 ≤ w ∧ w < 10000000000) → pre.length + ws.length ≤ 200 →
    ∃ n' last', 2 ≤ n' ∧ runL n ⟨st, sa, pre ++ List.replicate ws.length (-1), [], last⟩ (finL pre.length ws ++ t) = runL n' ⟨st, sa, pre ++ ws, [], last'⟩ t
  | [], pre, n, st, sa, last, t, hn, ht, hl, hs, hw, hc => ⟨n, last, hn, by simp [finL]⟩
  | w :: ws, pre, n, st, sa, last, t, hn, ht, hl, hs, hw, hc => by
    have h1 := hw w (by simp)
    have hw' : ∀ v ∈ ws, -1 ≤ v ∧ v < 10000000000 := fun v hv => hw v (by simp [hv])
    simp only [List.length_cons] at hs hc
    have hpl : (pre ++ [w]).length = pre.length + 1 := by simp
    by_cases hw1 : w = -1
    · subst hw1
      obtain ⟨n', l', g1, g2⟩ := fin_run ws (pre ++ [-1]) n st sa last t hn ht (by rw [hpl]; omega) (by rw [hpl]; omega) hw' (by rw [hpl]; omega)
      refine ⟨n', l', g1, ?_⟩
      rw [hpl] at g2
      unfold finL
      rw [if_neg (by simp), List.nil_append, List.length_cons, List.replicate_succ]
      simp only [List.append_assoc, List.singleton_append] at g2
      exact g2
    · obtain ⟨n', l', g1, g2⟩ := fin_run ws (pre ++ [w]) (n + 1) st sa pre.length t (by omega) ht (by rw [hpl]; omega) (by rw [hpl]; omega) hw' (by rw [hpl]; omega)
      refine ⟨n', l', g1, ?_⟩
      rw [hpl] at g2
      simp only [List.append_assoc, List.singleton_append] at g2
      rw [← g2]
      show runL n _ ((if w ≠ -1 then [jn 32 (lw tFinal [((pre.length : Nat) : Int), w])] else []) ++ finL (pre.length + 1) ws ++ t) = _
      rw [if_pos hw1, List.cons_append, List.nil_append, List.cons_append]
      refine runL_step ?_ ?_
      · simp [ht]
      have hns : ∀ m ∈ [((pre.length : Nat) : Int), w], 0 ≤ m ∧ m < 10000000000 := by
        intro m hm
        simp only [List.mem_cons, List.not_mem_nil, or_false] at hm
        rcases hm with rfl | rfl <;> omega
      rw [spl_lw (tFinal_no (by decide)) (fun m hm => (hns m hm).1) (by simp)]
      have hlw : lw tFinal [((pre.length : Nat) : Int), w] = [tFinal, Lib.itoa (pre.length : Nat), Lib.itoa w] := by simp [lw, tFinal]
      rw [hlw]
      unfold takeF
      rw [if_neg (by omega)]
      refine (if_pos rfl).trans ?_
      unfold finF
      refine (if_pos rfl).trans ?_
      show (numsO [Lib.itoa (pre.length : Nat), Lib.itoa w]).bind _ = _
      rw [show numsO [Lib.itoa (pre.length : Nat), Lib.itoa w] = some [((pre.length : Nat) : Int), w] from numsO_itoa hns]
      refine (if_pos ⟨rfl, hl, ?_⟩).trans ?_
      · simp only [nth, List.getD_cons_zero, List.getD_cons_succ, Int.toNat_natCast]
        congr 2
        rw [List.length_cons, List.replicate_succ, List.set_append_right _ _ (Nat.le_refl _)]
        simp
      · show ((pre.length : Nat) : Int) < st
        omega

theorem arc_run : ∀ (al : List Arc) (R : RV) (n : Nat) (t : List (List UInt8)), 2 ≤ n → t ≠ [] → (∀ a ∈ al, ∀ m ∈ arcL a, 0 ≤ m ∧ m < 10000000000) →
    ∃ n', 2 ≤ n' ∧ runL n R (al.map arcLn ++ t) = runL n' { R with arcs := R.arcs ++ al } t
  | [], R, n, t, hn, ht, _ => ⟨n, hn, by simp⟩
  | a :: al, R, n, t, hn, ht, h => by
    have ha := h a (by simp)
    obtain ⟨n', g1, g2⟩ := arc_run al { R with arcs := R.arcs ++ [a] } (n + 1) t (by omega) ht (fun b hb => h b (by simp [hb]))
    refine ⟨n', g1, ?_⟩
    simp only [List.append_assoc, List.singleton_append] at g2
    rw [← g2, List.map_cons, List.cons_append]
    refine runL_step ?_ ?_
    · simp [ht]
    unfold arcLn
    rw [spl_lw (by simp) (fun m hm => (ha m hm).1) (by simp [arcL])]
    have hlw : lw [] (arcL a) = [Lib.itoa a.f, Lib.itoa a.i, Lib.itoa a.o, Lib.itoa a.t, Lib.itoa a.w] := by simp [lw, arcL]
    rw [hlw]
    unfold takeF
    rw [if_neg (by omega)]
    refine (if_neg (itoa_ne_final (ha a.f (by simp [arcL])).1)).trans ?_
    unfold arcF
    refine (if_pos rfl).trans ?_
    rw [show numsO [Lib.itoa a.f, Lib.itoa a.i, Lib.itoa a.o, Lib.itoa a.t, Lib.itoa a.w] = some (arcL a) from numsO_itoa ha]
    rfl

/-- WHAT IS PRINTED IS PARSED AS IT WAS. -/
theorem parse_pr {F : TF} (hok : fstE F = 0) (hl : (prF F).length ≤ 100000) : ∃ last, parseF (prF F) = (some ⟨F.st, F.start, F.fin, F.arcs, last⟩, 0, 0) := by
  have hF := fstE_ok hok
  have h1 := hF.st
  have h2 := hF.start
  have h3 := hF.finl
  have hP : Pr F.st F.start F.fin F.arcs := by
    refine ⟨by omega, by omega, by omega, fun w hw => ?_, fun a ha n hn => ?_⟩
    · have := hF.fin w hw; omega
    · obtain ⟨q1, q2, q3, q4, q5, q6, q7, q8⟩ := hF.arc a ha
      simp only [arcL, List.mem_cons, List.not_mem_nil, or_false] at hn
      rcases hn with rfl | rfl | rfl | rfl | rfl <;> omega
  have hst : F.st.toNat = F.fin.length := by omega
  obtain ⟨n1, l1, g1, g2⟩ := fin_run F.fin [] 2 F.st F.start (-1) (F.arcs.map arcLn ++ [[]]) (by omega) (by simp) (by simp) (by simp; omega) hP.hfin (by simp; omega)
  obtain ⟨n2, g3, g4⟩ := arc_run F.arcs ⟨F.st, F.start, F.fin, [], l1⟩ n1 [[]] g1 (by simp) hP.harc
  have hr : runL 1 zeroR (spl 10 (prF F)) = .inl ⟨F.st, F.start, F.fin, F.arcs, l1⟩ := by
    rw [prF_uls, spl_uls _ (prL_no hP)]
    unfold prL
    rw [List.cons_append, runL_step (by simp) (show takeF 1 zeroR _ = _ by unfold takeF; rw [if_pos rfl]; exact head_back hP.hst hP.hsa)]
    simp only [List.nil_append, List.length_nil] at g2 g4
    rw [hst, List.append_assoc, g2, g4]
    unfold runL
    rw [if_pos ⟨by omega, rfl⟩]
  refine ⟨l1, ?_⟩
  unfold parseF
  rw [if_neg (by omega), hr]
  exact if_pos (show fstE (tfR ⟨F.st, F.start, F.fin, F.arcs, l1⟩) = 0 from hok)

/-- What was read so far, printed, is the lines so far. -/
structure RdS (R : RV) : Prop where
  len : (R.fin.length : Int) = R.st
  last : ∀ i : Nat, R.last < i → i < R.fin.length → R.fin.getD i (-1) = -1

theorem take_pr {n : Nat} {R R' : RV} {x : List UInt8} (hn : 2 ≤ n) (hR : RdS R) (h : takeF n R (spl 32 x) = some R') : RdS R' ∧ prL R'.st R'.sa R'.fin R'.arcs = prL R.st R.sa R.fin R.arcs ++ [x] := by
  have hx := jn_spl 32 x
  generalize spl 32 x = l at *
  have h1 := hR.len
  have h2 := hR.last
  unfold takeF at h
  rw [if_neg (by omega)] at h
  split at h
  · rename_i hf
    unfold finF at h
    split at h
    · rename_i hl
      cases hn : numsO (l.drop 1) with
      | none => rw [hn] at h; cases h
      | some ns =>
        rw [hn] at h
        simp only [Option.bind_some] at h
        split at h
        · rename_i hc
          cases h
          obtain ⟨c1, c2, c3⟩ := hc
          have hb := numsO_back hn
          have hnl := numsO_len hn
          have hrg := numsO_rng hn
          rw [hl] at hnl
          match ns, hnl with
          | [a, b], _ =>
            have e0 : nth [a, b] 0 = a := rfl
            have e1 : nth [a, b] 1 = b := rfl
            rw [e0] at c2 c3
            rw [e0, e1]
            have ha := hrg a (by simp)
            have hb0 := hrg b (by simp)
            have hll : l = tFinal :: [a, b].map Lib.itoa := by
              cases l with
              | nil => simp at hl
              | cons y r =>
                rw [hb]
                simp at hf
                rw [hf]
                rfl
            refine ⟨⟨by simp only [List.length_set]; exact h1, fun i hi hl => ?_⟩, ?_⟩
            · simp only [List.length_set] at hi hl
              simp only
              rw [List.getD_eq_getElem?_getD, List.getElem?_set_ne (by omega), ← List.getD_eq_getElem?_getD]
              exact h2 i (by omega) hl
            · simp only
              obtain ⟨m, rfl⟩ : ∃ m : Nat, a = m := ⟨a.toNat, by omega⟩
              rw [Int.toNat_natCast]
              have hm : m < R.fin.length := by omega
              have hsp : R.fin = R.fin.take m ++ (-1) :: R.fin.drop (m + 1) := by
                have := h2 m c2 hm
                rw [List.getD_eq_getElem?_getD, List.getElem?_eq_getElem hm] at this
                simp only [Option.getD_some] at this
                conv => lhs; rw [← List.take_append_drop m R.fin, List.drop_eq_getElem_cons hm, this]
              have htl : (R.fin.take m).length = m := by rw [List.length_take]; omega
              have hset : R.fin.set m b = R.fin.take m ++ b :: R.fin.drop (m + 1) := by
                rw [List.set_eq_take_append_cons_drop, if_pos hm]
              have hno : ∀ k, finL k (R.fin.drop (m + 1)) = [] := fun k => finL_none k _ (fun y hy => by
                obtain ⟨j, hj⟩ := List.mem_iff_getElem?.1 hy
                rw [List.getElem?_drop] at hj
                have hjl := (List.getElem?_eq_some_iff.1 hj).1
                have := h2 (m + 1 + j) (by omega) hjl
                rw [List.getD_eq_getElem?_getD, hj] at this
                exact this)
              have hL : finL 0 (R.fin.set m b) = finL 0 R.fin ++ [x] := by
                conv => rhs; rw [hsp]
                rw [hset, finL_app, finL_app, List.append_assoc]
                congr 1
                unfold finL
                rw [hno, htl, if_pos (by omega), if_neg (by simp), Nat.zero_add, ← hx, hll]
                simp [lw, tFinal]
              unfold prL
              rw [hL, c1]
              simp
        · cases h
    · cases h
  · unfold arcF at h
    split at h
    · rename_i hl
      cases hn : numsO l with
      | none => rw [hn] at h; cases h
      | some ns =>
        rw [hn] at h
        cases h
        have hb := numsO_back hn
        have hnl := numsO_len hn
        rw [hl] at hnl
        match ns, hnl with
        | [a, b, c, d, e], _ =>
          refine ⟨⟨h1, h2⟩, ?_⟩
          have hxl : x = arcLn ⟨a, b, c, d, e⟩ := by
            rw [← hx, ← hb]
            simp [arcLn, lw, arcL]
          rw [hxl]
          unfold prL
          rw [List.map_append, List.cons_append, List.append_assoc]
          rfl
    · cases h

theorem run_pr : ∀ (ls : List (List UInt8)) (n : Nat) (R R' : RV), 2 ≤ n → RdS R → runL n R ls = .inl R' → ∃ t, ls = t ++ [[]] ∧ prL R'.st R'.sa R'.fin R'.arcs = prL R.st R.sa R.fin R.arcs ++ t
  | [], n, R, R', _, _, h => by unfold runL at h; cases h
  | [x], n, R, R', _, _, h => by
    unfold runL at h
    split at h
    · rename_i hc
      cases h
      exact ⟨[], by rw [hc.2]; rfl, by simp⟩
    · cases h
  | x :: y :: r, n, R, R', hn, hR, h => by
    unfold runL at h
    split at h
    · rename_i R1 h1
      obtain ⟨g1, g2⟩ := take_pr hn hR h1
      obtain ⟨t, g3, g4⟩ := run_pr (y :: r) (n + 1) R1 R' (by omega) g1 h
      refine ⟨x :: t, by rw [g3]; rfl, ?_⟩
      rw [g4, g2]
      simp
    · cases h

/-- AND NOTHING ELSE IS. -/
theorem pr_parse {s : List UInt8} {R : RV} {n e : Int} (h : parseF s = (some R, n, e)) : n = 0 ∧ e = 0 ∧ fstE (tfR R) = 0 ∧ prF (tfR R) = s := by
  unfold parseF at h
  split at h
  · cases h
  · split at h
    · cases h
    · rename_i R1 hr
      split at h
      · rename_i hok
        cases h
        refine ⟨rfl, rfl, hok, ?_⟩
        rw [prF_uls]
        show uls (prL R.st R.sa R.fin R.arcs) = s
        cases hs : spl 10 s with
        | nil => exact absurd hs (spl_ne _ _)
        | cons x l =>
          rw [hs] at hr
          cases l with
          | nil =>
            unfold runL at hr
            rw [if_neg (fun c => c.1 rfl)] at hr
            cases hr
          | cons y r =>
            unfold runL at hr
            split at hr
            · rename_i R2 h2
              have hx := jn_spl 32 x
              unfold takeF at h2
              rw [if_pos rfl] at h2
              unfold headF at h2
              generalize spl 32 x = l at *
              split at h2
              · rename_i hc
                obtain ⟨c1, c2, c3⟩ := hc
                match l, c1 with
                | [w0, w1, w2, w3], _ =>
                  have c2 : w0 = wStates := c2
                  have c3 : w2 = wStart := c3
                  have hn2 : ∀ ns, numsO [w1, w3] = some ns → ns.map Lib.itoa = [w1, w3] := fun ns => numsO_back
                  change (numsO [w1, w3]).bind _ = _ at h2
                  cases hn : numsO [w1, w3] with
                  | none => rw [hn] at h2; cases h2
                  | some ns =>
                    rw [hn] at h2
                    simp only [Option.bind_some] at h2
                    have hb := hn2 ns hn
                    have hnl := numsO_len hn
                    match ns, hnl with
                    | [a, b], _ =>
                      change (if 1 ≤ a ∧ a ≤ 200 then some (⟨a, b, List.replicate a.toNat (-1), [], -1⟩ : RV) else none) = _ at h2
                      split at h2
                      · rename_i hab
                        cases h2
                        simp only [List.map_cons, List.map_nil, List.cons.injEq, and_true] at hb
                        obtain ⟨t, g3, g4⟩ := run_pr (y :: r) 2 _ R (Nat.le_refl _) ⟨by simp only [List.length_replicate]; omega, fun i _ hi => by
                          simp only [List.length_replicate] at hi
                          simp only
                          rw [List.getD_eq_getElem?_getD, List.getElem?_replicate, if_pos hi]; rfl⟩ hr
                        have hh : prL a b (List.replicate a.toNat (-1)) [] = [x] := by
                          unfold prL
                          rw [finL_none 0 _ (fun z hz => (List.mem_replicate.1 hz).2), ← hx, c2, c3, ← hb.1, ← hb.2]
                          rfl
                        rw [g4]
                        show uls (prL a b (List.replicate a.toNat (-1)) [] ++ t) = s
                        rw [hh]
                        refine uls_spl ?_
                        rw [hs, g3]
                        rfl
                      · cases h2
              · cases h2
            · cases hr
      · cases h
end Go.Fw

/-
  fstBegun: what must be in any case.
-/
namespace Go.Fw
open Go Go.Proofs

abbrev smT : TF := ⟨2, 0, [-1, 1], [⟨0, 1, 2, 1, 5⟩], 2, 1⟩
def smS : List UInt8 := [115, 116, 97, 116, 101, 115, 32, 50, 32, 115, 116, 97, 114, 116, 32, 48, 10, 102, 105, 110, 97, 108, 32, 49, 32, 49, 10, 48, 32, 49, 32, 50, 32, 49, 32, 53, 10]
theorem itoa_one (n : Nat) (h : n < 10) : Lib.itoa (n : Int) = [UInt8.ofNat (48 + n)] := by rw [Lib.itoa_nonneg, Lib.decDigits_one h]
theorem sm_pr : prF smT = smS := by
  have h0 := itoa_one 0 (by omega)
  have h1 := itoa_one 1 (by omega)
  have h2 := itoa_one 2 (by omega)
  have h5 := itoa_one 5 (by omega)
  simp only [prF, hdL, finsK, arcsK, lnF_final, lnF_arc, arcL, List.length_cons, List.length_nil]
  simp [tStates, tStart, tFinal, smS, lnF, lnK, gapL, arcL]
  simp only [show ((2 : Nat) : Int) = 2 from rfl, show ((0 : Nat) : Int) = 0 from rfl, show ((1 : Nat) : Int) = 1 from rfl, show ((5 : Nat) : Int) = 5 from rfl] at h0 h1 h2 h5
  rw [h0, h1, h2, h5]
  rfl
theorem sm_ok : fstE smT = 0 := by decide
theorem sm_parse : ∃ last, parseF smS = (some ⟨2, 0, [-1, 1], [⟨0, 1, 2, 1, 5⟩], last⟩, 0, 0) := by
  have := parse_pr sm_ok (by rw [sm_pr]; decide)
  rw [sm_pr] at this
  exact this
theorem sm_p {p : Nat → Bool} (h : UsOk smT p) : p 0 = true ∧ p 1 = true := by
  have ha : (⟨0, 1, 2, 1, 5⟩ : Arc) ∈ smT.arcs := by simp
  have r0 : Rch smT.arcs false [smT.start] 0 := .here (by simp)
  have r1 : Rch smT.arcs false [smT.start] 1 := Rch.on r0 ha rfl
  have b1 : Rch smT.arcs true [((1 : Nat) : Int)] 1 := .here (by simp)
  have b0 : Rch smT.arcs true [((1 : Nat) : Int)] 0 := Rch.on b1 ha rfl
  exact ⟨(h.iff 0 (by decide)).2 ⟨r0, 1, by decide, by decide, b0⟩, (h.iff 1 (by decide)).2 ⟨r1, 1, by decide, by decide, b1⟩⟩
theorem sm_trim {st sa : Int} {fin : List Int} {arcs : List Arc} (h : TrimU smT st sa fin arcs) : st = 2 ∧ sa = 0 ∧ fin = [-1, 1] ∧ arcs = [⟨0, 1, 2, 1, 5⟩] := by
  rcases h with ⟨h, _⟩ | ⟨_, p, hp, h1, h2, h3, h4⟩
  · exact absurd sm_ok h
  · obtain ⟨p0, p1⟩ := sm_p hp
    have hk : kT smT p = ⟨2, 0, [-1, 1], [⟨0, 1, 2, 1, 5⟩], 0, 0⟩ := by
      simp [kT, smT, rkB, kfin, karc, kOk, kArc, p0, p1, List.getD, aD]
    rw [hk] at h1 h2 h3 h4
    exact ⟨h1, h2, h3, h4⟩
theorem sm_same (a b c d : Nat) : sameF ⟨2, 0, [-1, 1], [⟨0, 1, 2, 1, 5⟩], a, b⟩ ⟨2, 0, [-1, 1], [⟨0, 1, 2, 1, 5⟩], c, d⟩ = true := by kernel_rfl

theorem sm_post {g : Glo} {v : SV} {s : S} (h : ParsePost g (parseF smS) v s) : ∃ sp sq, v = .tup [.agg [.i 2, .i 0, .sl 1 1 0 2 (2 + sp), .sl 2 5 0 1 (1 + sq)], .c (.i 0), .c (.i 0)] ∧
    s = ⟨[], [(0, gloO g), (1, .arr true 3 .int [-1, 1] sp), (2, .arr true 35 .arc [⟨0, 1, 2, 1, 5⟩] sq)], 3⟩ := by
  obtain ⟨last, hp⟩ := sm_parse
  rw [hp] at h
  obtain ⟨R, sp, sq, rfl, rfl, rfl⟩ := h
  exact ⟨sp, sq, rfl, rfl⟩
theorem sm_tpost {v : SV} {s : S} (h : TrimPost smT v s) : ∃ sp sq, v = .tup [.agg [.i 2, .i 0, .sl 2 1 0 2 (2 + sp), .sl 3 5 0 1 (1 + sq)], .c (.i 0)] ∧
    s = ⟨[], [(2, .arr true 3 .int [-1, 1] sp), (3, .arr true 35 .arc [⟨0, 1, 2, 1, 5⟩] sq)], 4⟩ := by
  obtain ⟨st, sa, fin, arcs, sp, sq, hU, rfl, rfl⟩ := h
  obtain ⟨rfl, rfl, rfl, rfl⟩ := sm_trim hU
  rw [sm_ok]
  exact ⟨sp, sq, rfl, rfl⟩

set_option maxHeartbeats 8000000 in
set_option maxRecDepth 20000 in
theorem fstBegun_c (g : Glo) (hg : GloX g) : Ct Tryd.prog 10 [] [] [(0, gloO g)] 1 (fun v s => v = .b true ∧ s = ⟨[], [(0, gloO g)], 1⟩) := by
  refine ctW Tryd.tyOk 8 [] Tryd.func10 rfl (by simp) (by simp) (fr := []) rfl ?_
  repeat' (first | exact rfl | ((conv => whnf); first | (refine qX (fun h => ?_) fun h => ?_ <;> try exact absurd h (by omega)) | refine oN ?_ | refine oM ?_ ?_ | refine bM ?_ ?_ | refine dR ?_))
  (conv => whnf)
  refine cF (one_c) [] Tryd.call23 ?_
  rintro _ _ ⟨rfl, rfl⟩
  repeat' (first | exact rfl | ((conv => whnf); first | (refine qX (fun h => ?_) fun h => ?_ <;> try exact absurd h (by omega)) | refine oN ?_ | refine oM ?_ ?_ | refine bM ?_ ?_ | refine dR ?_ | intro _))
  (conv => whnf)
  try simp only [Nat.reduceAdd, Nat.reduceSub]
  refine callF (print_c g hg smT (by decide)) [1, 2, 0] Tryd.call12 rfl (by simp [oneV]) (by simp [oneV]) (by simp) ?_
  rintro _ _ ⟨rfl, rfl⟩
  rw [if_pos sm_ok, sm_ok, sm_pr]
  repeat' (first | exact rfl | ((conv => whnf); first | (refine qX (fun h => ?_) fun h => ?_ <;> try exact absurd h (by omega)) | refine oN ?_ | refine oM ?_ ?_ | refine bM ?_ ?_ | refine dR ?_ | intro _))
  (conv => whnf)
  try simp only [Nat.reduceAdd, Nat.reduceSub]
  refine cF (parse_c g hg smS (by decide)) [0] Tryd.call18 ?_
  rintro _ _ hp
  obtain ⟨sp, sq, rfl, rfl⟩ := sm_post hp
  clear hp
  repeat' (first | exact rfl | ((conv => whnf); first | (refine qX (fun h => ?_) fun h => ?_ <;> try exact absurd h (by omega)) | refine oN ?_ | refine oM ?_ ?_ | refine bM ?_ ?_ | refine dR ?_ | intro _))
  (conv => whnf)
  try simp only [Nat.reduceAdd, Nat.reduceSub]
  refine cF (one_c) [] Tryd.call23 ?_
  rintro _ _ ⟨rfl, rfl⟩
  repeat' (first | exact rfl | ((conv => whnf); first | (refine qX (fun h => ?_) fun h => ?_ <;> try exact absurd h (by omega)) | refine oN ?_ | refine oM ?_ ?_ | refine bM ?_ ?_ | refine dR ?_ | intro _))
  (conv => whnf)
  try simp only [Nat.reduceAdd, Nat.reduceSub]
  refine callF (trim_c smT (by decide)) [6, 7] Tryd.call11 rfl (by simp [oneV]) (by simp [oneV]) (by simp) ?_
  rintro _ _ hp
  obtain ⟨sp2, sq2, rfl, rfl⟩ := sm_tpost hp
  clear hp
  repeat' (first | exact rfl | ((conv => whnf); first | (refine qX (fun h => ?_) fun h => ?_ <;> try exact absurd h (by omega)) | refine oN ?_ | refine oM ?_ ?_ | refine bM ?_ ?_ | refine dR ?_ | intro _))
  (conv => whnf)
  try simp only [Nat.reduceAdd, Nat.reduceSub]
  refine cF (one_c) [] Tryd.call23 ?_
  rintro _ _ ⟨rfl, rfl⟩
  repeat' (first | exact rfl | ((conv => whnf); first | (refine qX (fun h => ?_) fun h => ?_ <;> try exact absurd h (by omega)) | refine oN ?_ | refine oM ?_ ?_ | refine bM ?_ ?_ | refine dR ?_ | intro _))
  (conv => whnf)
  try simp only [Nat.reduceAdd, Nat.reduceSub]
  refine callF (check_c smT (by decide)) [11, 12] Tryd.call16 rfl (by simp [oneV]) (by simp [oneV]) (by simp) ?_
  rintro _ _ ⟨rfl, rfl⟩
  rw [sm_ok]
  repeat' (first | exact rfl | ((conv => whnf); first | (refine qX (fun h => ?_) fun h => ?_ <;> try exact absurd h (by omega)) | refine oN ?_ | refine oM ?_ ?_ | refine bM ?_ ?_ | refine dR ?_ | intro _))
  rotate_left
  · exact absurd rfl h
  (conv => whnf)
  try simp only [Nat.reduceAdd, Nat.reduceSub]
  refine cF (one_c) [] Tryd.call23 ?_
  rintro _ _ ⟨rfl, rfl⟩
  repeat' (first | exact rfl | ((conv => whnf); first | (refine qX (fun h => ?_) fun h => ?_ <;> try exact absurd h (by omega)) | refine oN ?_ | refine oM ?_ ?_ | refine bM ?_ ?_ | refine dR ?_ | intro _))
  (conv => whnf)
  try simp only [Nat.reduceAdd, Nat.reduceSub]
  refine callF (sameFst_c ⟨2, 0, [-1, 1], [⟨0, 1, 2, 1, 5⟩], 2 + sp, 1 + sq⟩ smT (show ([-1, 1] : List Int).length ≤ 9223372036854775807 by decide) (by decide) (show ([⟨0, 1, 2, 1, 5⟩] : List Arc).length ≤ 9223372036854775807 by decide)) [3, 4, 13, 14] Tryd.call20 rfl (by simp [oneV, gV, smT]) (by simp [oneV, gV, smT]) (by simp) ?_
  rintro _ _ ⟨rfl, rfl⟩
  rw [sm_same]
  repeat' (first | exact rfl | ((conv => whnf); first | (refine qX (fun h => ?_) fun h => ?_ <;> try exact absurd h (by omega)) | refine oN ?_ | refine oM ?_ ?_ | refine bM ?_ ?_ | refine dR ?_ | intro _))
  (conv => whnf)
  try simp only [Nat.reduceAdd, Nat.reduceSub]
  refine cF (one_c) [] Tryd.call23 ?_
  rintro _ _ ⟨rfl, rfl⟩
  repeat' (first | exact rfl | ((conv => whnf); first | (refine qX (fun h => ?_) fun h => ?_ <;> try exact absurd h (by omega)) | refine oN ?_ | refine oM ?_ ?_ | refine bM ?_ ?_ | refine dR ?_ | intro _))
  (conv => whnf)
  try simp only [Nat.reduceAdd, Nat.reduceSub]
  refine callF (sameFst_c ⟨2, 0, [-1, 1], [⟨0, 1, 2, 1, 5⟩], 2 + sp2, 1 + sq2⟩ smT (show ([-1, 1] : List Int).length ≤ 9223372036854775807 by decide) (by decide) (show ([⟨0, 1, 2, 1, 5⟩] : List Arc).length ≤ 9223372036854775807 by decide)) [8, 9, 15, 16] Tryd.call20 rfl (by simp [oneV, gV, smT]) (by simp [oneV, gV, smT]) (by simp) ?_
  rintro _ _ ⟨rfl, rfl⟩
  rw [sm_same]
  repeat' (first | exact rfl | ((conv => whnf); first | (refine qX (fun h => ?_) fun h => ?_ <;> try exact absurd h (by omega)) | refine oN ?_ | refine oM ?_ ?_ | refine bM ?_ ?_ | refine dR ?_ | intro _))
  (conv => whnf)
  exact ⟨[], [(0, gloO g)], 1, .b true, ⟨by rfl, trivial, by simp [gloO]⟩, by simp, rfl, rfl⟩
end Go.Fw

/-
  The laws FstTells and FstBack.
-/
namespace Go.Fw
open Go Go.Proofs

theorem TrimU.len {F : TF} {st sa : Int} {fin : List Int} {arcs : List Arc} (h : TrimU F st sa fin arcs) : fin.length ≤ 100000 ∧ arcs.length ≤ 100000 := by
  rcases h with ⟨h0, rfl, rfl, rfl, rfl⟩ | ⟨h0, p, hp, rfl, rfl, rfl, rfl⟩
  · simp
  · obtain ⟨hr, hs, _⟩ := fstE_rng h0
    have h1 := kfin_len p F.fin F.st.toNat
    have h2 := rkB_le p F.st.toNat
    have h3 := karc_len p F.arcs F.arcs.length
    have h4 := hr.st
    have h5 := hr.arcl
    unfold kT
    split
    · simp only
      omega
    · simp
theorem sameF_of {F G : TF} (h : F.st = G.st ∧ F.start = G.start ∧ F.fin = G.fin ∧ F.arcs = G.arcs) : sameF F G = true := decide_eq_true h

end Go.Fw

/-
  The law FstBack.
-/
namespace Go.Fw
open Go Go.Proofs

theorem sameF_app (F : TF) (a b : Nat) : sameF F ⟨F.st, F.start, F.fin, F.arcs, a, b⟩ = true := sameF_of ⟨rfl, rfl, rfl, rfl⟩

/-- What Parse answers to what was printed. -/
theorem back_post {g : Glo} {F : TF} (hE : fstE F = 0) (hl : (prF F).length ≤ 100000) {v : SV} {s : S} (h : ParsePost g (parseF (prF F)) v s) : ∃ sp sq, v = .tup [.agg [.i F.st, .i F.start, .sl 1 1 0 F.fin.length (F.fin.length + sp), .sl 2 5 0 F.arcs.length (F.arcs.length + sq)], .c (.i 0), .c (.i 0)] ∧
    s = ⟨[], [(0, gloO g), (1, .arr true 3 .int F.fin sp), (2, .arr true 35 .arc F.arcs sq)], 3⟩ := by
  obtain ⟨last, hp⟩ := parse_pr hE hl
  rw [hp] at h
  obtain ⟨R, sp, sq, rfl, rfl, rfl⟩ := h
  exact ⟨sp, sq, rfl, rfl⟩
/-- What Parse answers to whatever text. -/
theorem any_post {g : Glo} {t : List UInt8} {v : SV} {s : S} (h : ParsePost g (parseF t) v s) : (∃ n e sp sq, e ≠ 0 ∧ v = .tup [.agg [.i 0, .i 0, .sl 1 1 0 0 (0 + sp), .sl 2 5 0 0 (0 + sq)], .c (.i n), .c (.i e)] ∧ s = ⟨[], [(0, gloO g), (1, .arr true 3 .int [] sp), (2, .arr true 35 .arc [] sq)], 3⟩) ∨
    ∃ (G : TF) (sp sq : Nat), fstE G = 0 ∧ prF G = t ∧ G.capF = G.fin.length + sp ∧ G.capA = G.arcs.length + sq ∧ v = .tup [.agg [.i G.st, .i G.start, .sl 1 1 0 G.fin.length G.capF, .sl 2 5 0 G.arcs.length G.capA], .c (.i 0), .c (.i 0)] ∧
      s = ⟨[], [(0, gloO g), (1, .arr true 3 .int G.fin sp), (2, .arr true 35 .arc G.arcs sq)], 3⟩ := by
  obtain ⟨R, sp, sq, hR, rfl, rfl⟩ := h
  cases hp : parseF t with
  | mk o ne =>
    obtain ⟨n, e⟩ := ne
    rw [hp] at hR
    cases o with
    | none =>
      have hR : R = zeroR := hR
      subst hR
      refine .inl ⟨n, e, sp, sq, ?_, rfl, rfl⟩
      unfold parseF at hp
      split at hp
      · cases hp; decide
      · split at hp
        · cases hp; decide
        · split at hp
          · cases hp
          · rename_i hne
            cases hp
            exact hne
    | some R' =>
      have hR : R = R' := hR
      subst hR
      obtain ⟨rfl, rfl, h3, h4⟩ := pr_parse hp
      exact .inr ⟨⟨R.st, R.sa, R.fin, R.arcs, R.fin.length + sp, R.arcs.length + sq⟩, sp, sq, h3, h4, rfl, rfl, rfl, rfl⟩

set_option maxHeartbeats 16000000 in
set_option maxRecDepth 20000 in
theorem fstBack_c (g : Glo) (hg : GloX g) (F : TF) (t : List UInt8) (hl : F.fin.length ≤ 9223372036854775807) (ht : t.length ≤ 9223372036854775807) : Ct Tryd.prog 6 [fV F, stV t] [] (hpF F ++ [(2, gloO g)]) 3 (fun v s => v = .b true ∧ s = ⟨[], [(2, gloO g)], 3⟩) := by
  have hbk := fun (hE : fstE F = 0) (h : (prF F).length ≤ 100000) (v : SV) (s : S) hp => back_post (g := g) hE h (v := v) (s := s) hp
  have hpr := print_c g hg F hl
  have hsame := fun a b => sameF_app F a b
  generalize prF F = x at *
  have hsz := bs_size x
  refine ctC Tryd.tyOk Tryd.func6 rfl (by simp) (by simp) (fr := [(0, fV F), (1, stV t)]) rfl ?_
  refine SemC.cut Tryd.tyOk 12 [] (fun _ : Unit => ⟨[(1, stV t)], [(2, gloO g)], 3⟩) (fun _ => True) 4 _ _ ?_ ?_
  · repeat' (first | exact rfl | ((conv => whnf); first | (refine qX (fun h => ?_) fun h => ?_ <;> try exact absurd h (by omega)) | refine oN ?_ | refine oM ?_ ?_ | refine bM ?_ ?_ | refine dR ?_))
    (conv => whnf)
    try simp only [Nat.reduceAdd, Nat.reduceSub]
    refine cF (fstBegun_c g hg) [2] Tryd.call10 ?_
    rintro _ _ ⟨rfl, rfl⟩
    repeat' (first | exact rfl | ((conv => whnf); first | (refine qX (fun h => ?_) fun h => ?_ <;> try exact absurd h (by omega)) | refine oN ?_ | refine oM ?_ ?_ | refine bM ?_ ?_ | refine dR ?_ | intro _))
    (conv => whnf)
    try simp only [Nat.reduceAdd, Nat.reduceSub]
    refine cF (hpr) [0, 1, 2] Tryd.call12 ?_
    rintro _ _ ⟨rfl, rfl⟩
    by_cases hE : fstE F = 0
    · rw [if_pos hE, hE]
      have hbk := hbk hE
      have hal : F.arcs.length ≤ 9223372036854775807 := by have := (fstE_ok hE).arcl; omega
      repeat' (first | exact rfl | ((conv => whnf); first | (refine qX (fun h => ?_) fun h => ?_ <;> try exact absurd h (by omega)) | refine oN ?_ | refine oM ?_ ?_ | refine bM ?_ ?_ | refine dR ?_ | intro _))
      · (conv => whnf)
        try simp only [Nat.reduceAdd, Nat.reduceSub]
        refine cF (parse_c g hg x (by omega)) [2] Tryd.call18 ?_
        intro v s hp
        obtain ⟨sp, sq, rfl, rfl⟩ := hbk (by omega) v s hp
        clear hp
        repeat' (first | exact rfl | ((conv => whnf); first | (refine qX (fun h => ?_) fun h => ?_ <;> try exact absurd h (by omega)) | refine oN ?_ | refine oM ?_ ?_ | refine bM ?_ ?_ | refine dR ?_ | intro _))
        (conv => whnf)
        try simp only [Nat.reduceAdd, Nat.reduceSub]
        refine callF (sameFst_c F ⟨F.st, F.start, F.fin, F.arcs, F.fin.length + sp, F.arcs.length + sq⟩ hl hl hal) [0, 1, 4, 5] Tryd.call20 rfl (by simp [gV]) (by simp [gV]) (by simp) ?_
        rintro _ _ ⟨rfl, rfl⟩
        rw [hsame]
        repeat' (first | exact rfl | ((conv => whnf); first | (refine qX (fun h => ?_) fun h => ?_ <;> try exact absurd h (by omega)) | refine oN ?_ | refine oM ?_ ?_ | refine bM ?_ ?_ | refine dR ?_ | intro _))
        (conv => whnf)
        refine ⟨(), [], ⟨by rfl, ?_, ?_⟩, trivial⟩
        · simp
        · simp [gloO]
      · (conv => whnf)
        refine ⟨(), [], ⟨by rfl, ?_, ?_⟩, trivial⟩
        · simp
        · simp [gloO]
    · rw [if_neg hE]
      repeat' (first | exact rfl | ((conv => whnf); first | (refine qX (fun h => ?_) fun h => ?_ <;> try exact absurd h (by omega)) | refine oN ?_ | refine oM ?_ ?_ | refine bM ?_ ?_ | refine dR ?_ | intro _))
      (conv => whnf)
      refine ⟨(), [], ⟨by rfl, ?_, ?_⟩, trivial⟩
      · simp
      · simp [gloO]
  rintro _ -
  refine SemC.of Tryd.tyOk 12 [] ?_
  clear hbk hpr hsame hsz hl
  repeat' (first | exact rfl | ((conv => whnf); first | (refine qX (fun h => ?_) fun h => ?_ <;> try exact absurd h (by omega)) | refine oN ?_ | refine oM ?_ ?_ | refine bM ?_ ?_ | refine dR ?_))
  (conv => whnf)
  try simp only [Nat.reduceAdd, Nat.reduceSub]
  refine cF (parse_c g hg t ht) [2] Tryd.call18 ?_
  intro v s hp
  rcases any_post hp with ⟨n, e, sp, sq, he, rfl, rfl⟩ | ⟨G, sp, sq, hE, hpt, hcF, hcA, rfl, rfl⟩
  · clear hp
    repeat' (first | exact rfl | ((conv => whnf); first | (refine qX (fun h => ?_) fun h => ?_ <;> try exact absurd h (by omega)) | refine oN ?_ | refine oM ?_ ?_ | refine bM ?_ ?_ | refine dR ?_ | intro _))
    (conv => whnf)
    exact ⟨[], [(2, gloO g)], 3, .b true, ⟨by rfl, trivial, by simp [gloO]⟩, by simp, rfl, rfl⟩
  · clear hp
    have hok := fstE_ok hE
    have h1 := hok.st
    have h2 := hok.finl
    have hpg := print_c g hg G (by omega)
    rw [if_pos hE, hE, hpt] at hpg
    repeat' (first | exact rfl | ((conv => whnf); first | (refine qX (fun h => ?_) fun h => ?_ <;> try exact absurd h (by omega)) | refine oN ?_ | refine oM ?_ ?_ | refine bM ?_ ?_ | refine dR ?_ | intro _))
    (conv => whnf)
    try simp only [Nat.reduceAdd, Nat.reduceSub]
    refine cF (hpg) [3, 4, 2] Tryd.call12 ?_
    rintro _ _ ⟨rfl, rfl⟩
    repeat' (first | exact rfl | ((conv => whnf); first | (refine qX (fun h => ?_) fun h => ?_ <;> try exact absurd h (by omega)) | refine oN ?_ | refine oM ?_ ?_ | refine bM ?_ ?_ | refine dR ?_ | intro _))
    all_goals first | exact absurd rfl h | skip
    (conv => whnf)
    exact ⟨[], [(2, gloO g)], 3, .b true, ⟨by rfl, trivial, by simp [gloO]⟩, by simp, rfl, rfl⟩
end Go.Fw
