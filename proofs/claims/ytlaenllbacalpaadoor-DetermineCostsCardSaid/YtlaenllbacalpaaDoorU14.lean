/- Walks of the functions: what each computes. -/
import Derived.Test.YtlaenllbacalpaaDoorU13
import Derived.Test.YtlaenllbacalpaaDoorU12
import Derived.Test.YtlaenllbacalpaaDoorU09

set_option linter.unusedSimpArgs false
set_option linter.unusedVariables false

namespace Go.Fw
open Go Go.Proofs

/-- How many beginnings; more than most is enough. -/
def bgnF (F : TF) : Nat → Nat → List Duo → Nat
  | 0, _, _ => 1
  | f + 1, m, s => (List.range 9).foldl (fun (n c : Nat) => if n ≤ m ∧ sbB F s ((c : Int) + 1) ≠ -1 then n + bgnF F f (m - n) (sbS F s ((c : Int) + 1)) else n) 1
def bgnP (F : TF) (f m : Nat) (s : List Duo) (k : Nat) : Nat := (List.range k).foldl (fun (n c : Nat) => if n ≤ m ∧ sbB F s ((c : Int) + 1) ≠ -1 then n + bgnF F f (m - n) (sbS F s ((c : Int) + 1)) else n) 1

theorem bgnP_succ (F : TF) (f m : Nat) (s : List Duo) (k : Nat) : bgnP F f m s (k + 1) = if bgnP F f m s k ≤ m ∧ sbB F s ((k : Int) + 1) ≠ -1 then bgnP F f m s k + bgnF F f (m - bgnP F f m s k) (sbS F s ((k : Int) + 1)) else bgnP F f m s k := by
  unfold bgnP
  rw [List.range_succ, List.foldl_append]
  rfl
theorem bgnP_stop {F : TF} {f m : Nat} {s : List Duo} {k : Nat} (h : m < bgnP F f m s k) : ∀ j, bgnP F f m s (k + j) = bgnP F f m s k
  | 0 => rfl
  | j + 1 => by
    have ih := bgnP_stop h j
    rw [show k + (j + 1) = (k + j) + 1 by omega, bgnP_succ, ih, if_neg (fun c => by omega)]
theorem bgnF_le (F : TF) : ∀ (f m : Nat) (s : List Duo), bgnF F f m s ≤ m + 1
  | 0, m, s => by unfold bgnF; omega
  | f + 1, m, s => by
    show bgnP F f m s 9 ≤ m + 1
    have : ∀ k, bgnP F f m s k ≤ m + 1 := by
      intro k
      induction k with
      | zero => simp [bgnP]
      | succ k ih =>
        rw [bgnP_succ]
        split
        · have := bgnF_le F f (m - bgnP F f m s k) (sbS F s ((k : Int) + 1))
          omega
        · exact ih
    exact this 9
theorem bgnP_le (F : TF) (f m : Nat) (s : List Duo) (k : Nat) : bgnP F f m s k ≤ m + 1 := by
  induction k with
  | zero => simp [bgnP]
  | succ k ih =>
    rw [bgnP_succ]
    split
    · have := bgnF_le F f (m - bgnP F f m s k) (sbS F s ((k : Int) + 1))
      omega
    · exact ih
theorem bgnP_pos (F : TF) (f m : Nat) (s : List Duo) (k : Nat) : 1 ≤ bgnP F f m s k := by
  induction k with
  | zero => simp [bgnP]
  | succ k ih =>
    rw [bgnP_succ]
    split <;> omega

set_option maxHeartbeats 16000000 in
set_option maxRecDepth 20000 in
theorem beg_c (F : TF) (hF : WOk F) (nl cl nf cf nr cr : Nat) (ost osr : Int) : ∀ (f m : Nat) (s : List Duo) (B : Int) (cap : Nat), m < f → f ≤ 1000 → 0 ≤ B → B + f * 1000000000 ≤ 10000000000000 → SOk F B s →
    Ct Tryd.prog 64 [.c (.ptr 2 0), .c (.sl 3 2 0 s.length cap), .i m] [] [(1, .arr false 50 .arc F.arcs 0), (2, .box 79 (dC F 5 nl cl ost osr 7 nf cf 8 nr cr)), (3, .arr false 80 .duo s 0)] 9
    (fun v st => v = .i (bgnF F f m s) ∧ st = ⟨[], [(2, .box 79 (dC F 5 nl cl ost osr 7 nf cf 8 nr cr))], 9⟩) := by
  intro f
  induction f with
  | zero => intro m s B cap hm; omega
  | succ f ih =>
    intro m s B cap hm hf hB0 hB hs
    have hst := hF.st
    have hsl := hs.len
    have hBe : B ≤ 10000000000000 := by omega
    refine ctW Tryd.tyOk 11 [] Tryd.func64 rfl (by simp [SV.lt, SA.lt, SC.lt, arcV, fV]) (by simp) (fr := [(0, .c (.ptr 2 0)), (1, .c (.sl 3 2 0 s.length cap)), (2, .i m)]) rfl ?_
    repeat' (first | exact rfl | ((conv => whnf); first | ((first | refine qA (fun h => ?_) fun h => ?_ | refine qN (fun h => ?_) fun h => ?_ | refine qB (fun h => ?_) fun h => ?_ | refine qC (fun h => ?_) fun h => ?_) <;> try exact absurd h (by omega)) | refine qM (fun h => ?_) fun h => ?_ | refine oM (by (first | omega | (simp only [lenS, InI, nmin, EK.sz]; omega) | (simp only [lenS, InI, nmin, EK.sz] at *; omega))) ?_ | refine oM ?_ ?_ | refine bM ?_ ?_ | refine draw_of Tryd.mixed Tryd.tyOk 60 (by kernel_rfl) ?_))
    (conv => whnf)
    refine loopI (fun k : Nat => ⟨[(0, .c (.ptr 2 0)), (1, .c (.sl 3 2 0 s.length cap)), (2, .i m), (7, .i (bgnP F f m s k)), (8, .i ((k : Int) + 1))], [(1, .arr false 50 .arc F.arcs 0), (2, .box 79 (dC F 5 nl cl ost osr 7 nf cf 8 nr cr)), (3, .arr false 80 .duo s 0)], 9⟩)
      (fun k => k ≤ 9) (fun k => 9 - k) 0 [] ⟨by rfl, ?_, ?_⟩ (Nat.zero_le _) ?_
    · simp [eqFr, eqHp, eqV, eqA, eqC, eqO, eqCs, eqAs, look_cons, look, rn, EK.cast, EK.sz, eqCaps, bgnP]
    · simp [eqFr, eqHp, eqV, eqA, eqC, eqO, eqCs, eqAs, look_cons, look, rn, EK.cast, EK.sz, eqCaps]
    · intro k hk
      have hle := bgnP_le F f m s k
      have hpo := bgnP_pos F f m s k
      have hks := bgnP_succ F f m s k
      have hsk := sbS_ok (c := (k : Int) + 1) hs hB0 hst.1 hF.w
      have hend : ¬ (k ≤ 8 ∧ bgnP F f m s k ≤ m) → bgnP F f m s k = bgnF F (f + 1) m s := by
        intro hc
        show _ = bgnP F f m s 9
        by_cases e : k = 9
        · rw [e]
        · rw [← bgnP_stop (by omega : m < bgnP F f m s k) (9 - k), show k + (9 - k) = 9 by omega]
      generalize hn : bgnP F f m s k = n at hle hpo hks hend ⊢
      repeat' (first | exact rfl | ((conv => whnf); first | ((first | refine qA (fun h => ?_) fun h => ?_ | refine qN (fun h => ?_) fun h => ?_ | refine qB (fun h => ?_) fun h => ?_ | refine qC (fun h => ?_) fun h => ?_) <;> try exact absurd h (by omega)) | refine qM (fun h => ?_) fun h => ?_ | refine oM (by (first | omega | (simp only [lenS, InI, nmin, EK.sz]; omega) | (simp only [lenS, InI, nmin, EK.sz] at *; omega))) ?_ | refine oM ?_ ?_ | refine bM ?_ ?_ | refine draw_of Tryd.mixed Tryd.tyOk 60 (by kernel_rfl) ?_))
      · rename_i h2
        have hmn : ((m - n : Nat) : Int) = (m : Int) - n := by omega
        (conv => whnf)
        refine callF (on2_c F hF s B ⟨hB0, hBe⟩ hs cap ((k : Int) + 1) nl cl nf cf nr cr ost osr) [0, 1, 2, 3, 4, 5, 6, 7, 8] Tryd.call66 rfl (by simp [eqLs, eqL, eqO, eqC, eqCs, rn, renOf, look_cons, look, EK.cast]) (by simp [appN, ptrs, eqVL, eqV, eqA, eqC, eqCs, eqAs, eqCaps, EK.sz, rn, renOf, look_cons, look, arcV, fV]) (by simp [appN, ptrs, SV.lt, SA.lt, SC.lt, arcV, fV, lenN]) ?_
        rintro _ _ ⟨sp, rfl, rfl⟩
        generalize hsb : sbS F s ((k : Int) + 1) = sb at *
        generalize hbb : sbB F s ((k : Int) + 1) = bb at *
        repeat' (first | exact rfl | ((conv => whnf); first | ((first | refine qA (fun h => ?_) fun h => ?_ | refine qN (fun h => ?_) fun h => ?_ | refine qB (fun h => ?_) fun h => ?_ | refine qC (fun h => ?_) fun h => ?_) <;> try exact absurd h (by omega)) | refine qM (fun h => ?_) fun h => ?_ | refine oM (by (first | omega | (simp only [lenS, InI, nmin, EK.sz]; omega) | (simp only [lenS, InI, nmin, EK.sz] at *; omega))) ?_ | refine oM ?_ ?_ | refine bM ?_ ?_ | refine draw_of Tryd.mixed Tryd.tyOk 60 (by kernel_rfl) ?_ | intro _))
        · rw [if_pos ⟨by omega, h⟩] at hks
          have hb := bgnF_le F f (m - n) sb
          (conv => whnf)
          refine callF (ih (m - n) sb (B + 1000000000) (sb.length + sp) (by omega) (by omega) (by omega) (by omega) hsk.1) [0, 1, 2, 9, 4, 5, 6, 7, 8] Tryd.call64 rfl (by simp [eqLs, eqL, eqO, eqC, eqCs, rn, renOf, look_cons, look, EK.cast, hmn]) (by simp [appN, ptrs, eqVL, eqV, eqA, eqC, eqCs, eqAs, eqCaps, EK.sz, rn, renOf, look_cons, look, arcV, fV, hmn]) (by simp [appN, ptrs, SV.lt, SA.lt, SC.lt, arcV, fV, lenN]) ?_
          rintro _ _ ⟨rfl, rfl⟩
          repeat' (first | exact rfl | ((conv => whnf); first | ((first | refine qA (fun h => ?_) fun h => ?_ | refine qN (fun h => ?_) fun h => ?_ | refine qB (fun h => ?_) fun h => ?_ | refine qC (fun h => ?_) fun h => ?_) <;> try exact absurd h (by omega)) | refine qM (fun h => ?_) fun h => ?_ | refine oM (by (first | omega | (simp only [lenS, InI, nmin, EK.sz]; omega) | (simp only [lenS, InI, nmin, EK.sz] at *; omega))) ?_ | refine oM ?_ ?_ | refine bM ?_ ?_ | refine draw_of Tryd.mixed Tryd.tyOk 60 (by kernel_rfl) ?_ | intro _))
          (conv => whnf)
          refine ⟨k + 1, [], ⟨by rfl, ?_, ?_⟩, by omega, by omega⟩
          · simp [eqFr, eqHp, eqV, eqA, eqC, eqO, eqCs, eqAs, look_cons, look, rn, EK.cast, EK.sz, eqCaps, hks]
          · simp [eqFr, eqHp, eqV, eqA, eqC, eqO, eqCs, eqAs, look_cons, look, rn, EK.cast, EK.sz, eqCaps]
        · rw [if_neg (fun c => c.2 h)] at hks
          (conv => whnf)
          refine ⟨k + 1, [], ⟨by rfl, ?_, ?_⟩, by omega, by omega⟩
          · simp [eqFr, eqHp, eqV, eqA, eqC, eqO, eqCs, eqAs, look_cons, look, rn, EK.cast, EK.sz, eqCaps, hks]
          · simp [eqFr, eqHp, eqV, eqA, eqC, eqO, eqCs, eqAs, look_cons, look, rn, EK.cast, EK.sz, eqCaps]
      all_goals
        have hx := hend (by omega)
        (conv => whnf)
        refine ⟨[], [(2, .box 79 (dC F 5 nl cl ost osr 7 nf cf 8 nr cr))], 9, .i (bgnF F (f + 1) m s), ⟨by rfl, trivial, by simp [eqFr, eqHp, eqV, eqA, eqC, eqO, eqCs, eqAs, look_cons, look, rn, EK.cast, EK.sz, eqCaps]⟩, by simp [eqV, eqA, eqC, hx], rfl, rfl⟩
end Go.Fw

/-
  One way for each word: all that is made; there are no more states than beginnings.
-/
namespace Go.Fw
open Go Go.Proofs

abbrev DS := List (List Duo) × List Arc
def stD (U : TF) (i : Nat) (st : DS) (c : Int) : DS :=
  if sbB U (st.1.getD i []) c = -1 then st
  else (numL st.1 (sbS U (st.1.getD i []) c), st.2 ++ [⟨(i : Nat), c, c, ((numL st.1 (sbS U (st.1.getD i []) c)).idxOf (sbS U (st.1.getD i []) c) : Nat), sbB U (st.1.getD i []) c⟩])
def rowP (U : TF) (i : Nat) (st : DS) (k : Nat) : DS := (List.range k).foldl (fun (st : DS) (c : Nat) => stD U i st ((c : Int) + 1)) st
def rowsD (U : TF) : Nat → DS
  | 0 => ([[⟨U.start, 0⟩]], [])
  | i + 1 => rowP U i (rowsD U i) 9
theorem rowP_succ (U : TF) (i : Nat) (st : DS) (k : Nat) : rowP U i st (k + 1) = stD U i (rowP U i st k) ((k : Int) + 1) := by
  unfold rowP
  rw [List.range_succ, List.foldl_append]
  rfl
/-- All that is made. -/
def MDone (U : TF) (st : DS) : Prop := ∃ k, rowsD U k = st ∧ k = st.1.length

def treeL (U : TF) : Nat → List Duo → List (List Duo)
  | 0, s => [s]
  | f + 1, s => s :: (List.range 9).flatMap fun (c : Nat) => if sbB U s ((c : Int) + 1) ≠ -1 then treeL U f (sbS U s ((c : Int) + 1)) else []
theorem tree_self (U : TF) (f : Nat) (s : List Duo) : s ∈ treeL U f s := by
  cases f <;> simp [treeL]
theorem bgnP_mono {F : TF} {f m : Nat} {s : List Duo} {j : Nat} : ∀ {k : Nat}, j ≤ k → bgnP F f m s j ≤ bgnP F f m s k
  | 0, h => by rw [show j = 0 by omega]; exact Nat.le_refl _
  | k + 1, h => by
    by_cases e : j = k + 1
    · rw [e]; exact Nat.le_refl _
    · refine Nat.le_trans (bgnP_mono (show j ≤ k by omega)) ?_
      rw [bgnP_succ]
      split <;> omega

theorem tree_ok (U : TF) : ∀ (f m : Nat) (s : List Duo), m < f → bgnF U f m s ≤ m → (treeL U f s).length = bgnF U f m s ∧ ∀ t ∈ treeL U f s, ∀ c : Nat, c < 9 → sbB U t ((c : Int) + 1) ≠ -1 → sbS U t ((c : Int) + 1) ∈ treeL U f s
  | 0, m, s, h, _ => by omega
  | f + 1, m, s, h, hb => by
    have hb9 : bgnP U f m s 9 ≤ m := hb
    have hpo := bgnP_pos U f m s
    have hch : ∀ c : Nat, c < 9 → sbB U s ((c : Int) + 1) ≠ -1 → bgnP U f m s c ≤ m ∧ bgnF U f (m - bgnP U f m s c) (sbS U s ((c : Int) + 1)) ≤ m - bgnP U f m s c ∧ bgnP U f m s (c + 1) = bgnP U f m s c + bgnF U f (m - bgnP U f m s c) (sbS U s ((c : Int) + 1)) := by
      intro c hc hs
      have h1 := bgnP_mono (F := U) (f := f) (m := m) (s := s) (j := c) (k := 9) (by omega)
      have h2 := bgnP_mono (F := U) (f := f) (m := m) (s := s) (j := c + 1) (k := 9) (by omega)
      have h3 := bgnP_succ U f m s c
      rw [if_pos ⟨by omega, hs⟩] at h3
      exact ⟨by omega, by omega, h3⟩
    have hlen : ∀ k, k ≤ 9 → ((List.range k).flatMap fun (c : Nat) => if sbB U s ((c : Int) + 1) ≠ -1 then treeL U f (sbS U s ((c : Int) + 1)) else []).length + 1 = bgnP U f m s k := by
      intro k
      induction k with
      | zero => intro _; simp [bgnP]
      | succ k ih =>
        intro hk
        rw [List.range_succ, List.flatMap_append, List.length_append]
        have := ih (by omega)
        by_cases hs : sbB U s ((k : Int) + 1) ≠ -1
        · obtain ⟨g1, g2, g3⟩ := hch k (by omega) hs
          have hi := (tree_ok U f (m - bgnP U f m s k) (sbS U s ((k : Int) + 1)) (by have := hpo k; omega) g2).1
          rw [g3]
          simp only [List.flatMap_cons, List.flatMap_nil, List.append_nil]
          rw [if_pos hs, hi]
          omega
        · rw [bgnP_succ, if_neg (fun c => hs c.2)]
          simp only [List.flatMap_cons, List.flatMap_nil, List.append_nil]
          rw [if_neg hs]
          simpa using this
    refine ⟨?_, fun t ht c hc hcb => ?_⟩
    · have := hlen 9 (Nat.le_refl _)
      show (s :: _).length = bgnP U f m s 9
      rw [List.length_cons]
      exact this
    · have hin : ∀ c : Nat, c < 9 → sbB U s ((c : Int) + 1) ≠ -1 → ∀ t ∈ treeL U f (sbS U s ((c : Int) + 1)), t ∈ treeL U (f + 1) s := by
        intro c hc hs t ht
        unfold treeL
        rw [List.mem_cons, List.mem_flatMap]
        exact .inr ⟨c, List.mem_range.2 hc, by rw [if_pos hs]; exact ht⟩
      unfold treeL at ht
      rw [List.mem_cons, List.mem_flatMap] at ht
      rcases ht with rfl | ⟨d, hd, ht⟩
      · exact hin c hc hcb _ (tree_self _ _ _)
      · have hd := List.mem_range.1 hd
        by_cases hs : sbB U s ((d : Int) + 1) ≠ -1
        · rw [if_pos hs] at ht
          obtain ⟨g1, g2, g3⟩ := hch d hd hs
          exact hin d hd hs _ ((tree_ok U f (m - bgnP U f m s d) (sbS U s ((d : Int) + 1)) (by have := hpo d; omega) g2).2 t ht c hc hcb)
        · rw [if_neg hs] at ht
          cases ht

theorem nd_le {α : Type} : ∀ {l m : List α}, l.Nodup → (∀ x ∈ l, x ∈ m) → l.length ≤ m.length
  | [], m, _, _ => Nat.zero_le _
  | x :: l, m, hn, hs => by
    rw [List.nodup_cons] at hn
    obtain ⟨m1, m2, rfl⟩ := List.append_of_mem (hs x (by simp))
    have : l.length ≤ (m1 ++ m2).length := nd_le hn.2 fun y hy => by
      have h := hs y (by simp [hy])
      rw [List.mem_append, List.mem_cons] at h
      rw [List.mem_append]
      rcases h with h | rfl | h
      · exact .inl h
      · exact absurd hy hn.1
      · exact .inr h
    simp only [List.length_append, List.length_cons] at this ⊢
    omega

/-- Keys of costs are states. -/
theorem sbR_key {F : TF} (hF : ∀ a ∈ F.arcs, 0 ≤ a.t ∧ a.t < F.st) {s : List Duo} {c : Int} : ∀ t v, (sbR F s c).1 t = some v → 0 ≤ t ∧ t < F.st := by
  have h1 : ∀ (l : List Arc), (∀ a ∈ l, 0 ≤ a.t ∧ a.t < F.st) → ∀ (x : Duo) (st : CM × Int), (∀ t v, st.1 t = some v → 0 ≤ t ∧ t < F.st) → ∀ t v, (l.foldl (sbA c x) st).1 t = some v → 0 ≤ t ∧ t < F.st := by
    intro l
    induction l with
    | nil => intro _ x st h; exact h
    | cons a l ih =>
      intro hl x st h
      refine ih (fun a ha => hl a (by simp [ha])) x _ fun t v hv => ?_
      unfold sbA at hv
      split at hv
      · simp only [updC] at hv
        split at hv
        · rename_i e; rw [e]; exact hl a (by simp)
        · exact h t v hv
      · exact h t v hv
  have h2 : ∀ (l : List Duo) (st : CM × Int), (∀ t v, st.1 t = some v → 0 ≤ t ∧ t < F.st) → ∀ t v, (l.foldl (sbX F c) st).1 t = some v → 0 ≤ t ∧ t < F.st := by
    intro l
    induction l with
    | nil => intro st h; exact h
    | cons e l ih => intro st h; exact ih _ (h1 F.arcs hF e st h)
  exact h2 s _ fun t v h => by cases h

theorem sbS_ne {F : TF} {B : Int} {s : List Duo} {c : Int} (hs : SOk F B s) (hB : 0 ≤ B) (hw : ∀ a ∈ F.arcs, 0 ≤ a.w ∧ a.w ≤ 1000000000) (hF : ∀ a ∈ F.arcs, 0 ≤ a.t ∧ a.t < F.st) (h : sbB F s c ≠ -1) : sbS F s c ≠ [] := by
  have hb := sbR_bd (c := c) hs hB hw s.length
  rw [List.take_length] at hb
  obtain ⟨t, ht⟩ := hb.e h
  have hk := sbR_key hF (s := s) (c := c) t _ ht
  have : (⟨t.toNat, (sbR F s c).2 - (sbR F s c).2⟩ : Duo) ∈ sbS F s c := sbL_mem.2 ⟨t.toNat, (sbR F s c).2, by omega, by rw [show ((t.toNat : Nat) : Int) = t by omega]; exact ht, rfl⟩
  intro e
  rw [e] at this
  cases this

/-- What holds of all that is made, round by round. -/
structure MInv (U : TF) (T : List (List Duo)) (i : Nat) (st : DS) : Prop where
  sub : ∀ s ∈ st.1, s ∈ T
  nd : st.1.Nodup
  ok : ∀ j, j < st.1.length → SOk U ((j : Int) * 1000000000) (st.1.getD j [])
  ne : ∀ s ∈ st.1, s ≠ []
  len : i ≤ st.1.length ∧ 1 ≤ st.1.length
  raw : ∀ a ∈ st.2, (0 ≤ a.f ∧ a.f < st.1.length) ∧ (0 ≤ a.t ∧ a.t < st.1.length)

theorem numL_mem {L : List (List Duo)} {s : List Duo} : s ∈ numL L s := by
  unfold numL
  split
  · assumption
  · simp
theorem numL_len (L : List (List Duo)) (s : List Duo) : L.length ≤ (numL L s).length ∧ (numL L s).length ≤ L.length + 1 := by
  unfold numL
  split
  · omega
  · rw [List.length_append]; exact ⟨Nat.le_add_right _ _, Nat.le_refl _⟩
theorem numL_get {L : List (List Duo)} {s : List Duo} {j : Nat} (h : j < L.length) : (numL L s).getD j [] = L.getD j [] := by
  unfold numL
  split
  · rfl
  · simp only [List.getD]
    rw [List.getElem?_append_left h]

theorem MInv.step {U : TF} {T : List (List Duo)} {i : Nat} {st : DS} (h : MInv U T i st) (hi : i < st.1.length) (hU : 0 ≤ U.st) (hw : ∀ a ∈ U.arcs, 0 ≤ a.w ∧ a.w ≤ 1000000000) (hr : ∀ a ∈ U.arcs, 0 ≤ a.t ∧ a.t < U.st)
    (hT : ∀ t ∈ T, ∀ c : Nat, c < 9 → sbB U t ((c : Int) + 1) ≠ -1 → sbS U t ((c : Int) + 1) ∈ T) {c : Nat} (hc : c < 9) : MInv U T i (stD U i st ((c : Int) + 1)) ∧ st.1.length ≤ (stD U i st ((c : Int) + 1)).1.length ∧ (stD U i st ((c : Int) + 1)).2.length ≤ st.2.length + 1 := by
  unfold stD
  have hm := getD_mem st.1 i [] hi
  have hok := h.ok i hi
  by_cases hb : sbB U (st.1.getD i []) ((c : Int) + 1) = -1
  · rw [if_pos hb]
    exact ⟨h, Nat.le_refl _, Nat.le_succ _⟩
  · rw [if_neg hb]
    generalize hs : st.1.getD i [] = s at *
    have hsT := hT s (h.sub s hm) c hc hb
    have hsok := (sbS_ok (c := (c : Int) + 1) hok (by omega) hU hw).1
    have hsne := sbS_ne hok (by omega) hw hr hb
    generalize sbS U s ((c : Int) + 1) = t at *
    have hl := numL_len st.1 t
    refine ⟨⟨fun x hx => ?_, ?_, fun j hj => ?_, fun x hx => ?_, ⟨by simp only; have := h.len.1; omega, by simp only; have := h.len.2; omega⟩, fun a ha => ?_⟩, hl.1, by simp⟩
    · simp only [numL] at hx
      split at hx
      · exact h.sub x hx
      · rw [List.mem_append, List.mem_singleton] at hx
        rcases hx with hx | rfl
        · exact h.sub x hx
        · exact hsT
    · simp only [numL]
      split
      · exact h.nd
      · rename_i hn
        rw [List.nodup_append]
        refine ⟨h.nd, by simp, fun a ha b hb => ?_⟩
        rw [List.mem_singleton] at hb
        exact fun e => hn (by rw [← hb, ← e]; exact ha)
    · simp only at hj ⊢
      by_cases hj2 : j < st.1.length
      · rw [numL_get hj2]; exact h.ok j hj2
      · have e : j = st.1.length := by omega
        have : t ∉ st.1 := fun c => by simp only [numL, if_pos c] at hj; omega
        have e2 : (numL st.1 t).getD j [] = t := by
          simp only [numL, if_neg this, List.getD, e]
          simp
        rw [e2]
        refine hsok.mono ?_
        omega
    · simp only [numL] at hx
      split at hx
      · exact h.ne x hx
      · rw [List.mem_append, List.mem_singleton] at hx
        rcases hx with hx | rfl
        · exact h.ne x hx
        · exact hsne
    · simp only [List.mem_append, List.mem_singleton] at ha ⊢
      rcases ha with ha | rfl
      · have := h.raw a ha
        omega
      · have := List.idxOf_lt_length_of_mem (numL_mem (L := st.1) (s := t))
        simp only
        omega

theorem MInv.start {U : TF} {T : List (List Duo)} (hs : 0 ≤ U.start ∧ U.start < U.st) (hT : [⟨U.start, 0⟩] ∈ T) : MInv U T 0 (rowsD U 0) := by
  refine ⟨fun s h => ?_, by simp [rowsD], fun j hj => ?_, fun s h => ?_, by simp [rowsD], fun a ha => by simp [rowsD] at ha⟩
  · simp only [rowsD, List.mem_singleton] at h
    rw [h]; exact hT
  · simp only [rowsD, List.length_cons, List.length_nil] at hj
    have : j = 0 := by omega
    subst this
    refine ⟨?_, fun e he => ?_⟩
    · simp [rowsD]; omega
    · simp [rowsD] at he
      subst he
      simp only
      omega
  · simp only [rowsD, List.mem_singleton] at h
    rw [h]; simp
end Go.Fw

namespace Go.Fw
open Go Go.Proofs

/-- Kept: marked twice. -/
def kpB (m1 m2 : List Bool) (j : Nat) : Bool := m1.getD j false && m2.getD j false

theorem keep1_c (m1 m2 : List Bool) (n1 n2 : Nat) (hn1 : n1 = m1.length) (hn2 : n2 = m2.length) (x : Int) (hx : 0 ≤ x) (h1 : x < m1.length) (h2 : x < m2.length) :
    Ct Tryd.prog 86 [.i x, .c (.ptr 2 0), .c (.ptr 3 0)] [] [(0, .arr false 4 .bool m1 0), (1, .arr false 4 .bool m2 0), (2, .box 52 [.sl 0 1 0 n1 n1]), (3, .box 52 [.sl 1 1 0 n2 n2])] 4
    (fun v s => v = .b (kpB m1 m2 x.toNat) ∧ s = ⟨[], [(2, .box 52 [.sl 0 1 0 n1 n1]), (3, .box 52 [.sl 1 1 0 n2 n2])], 4⟩) := by
  subst hn1 hn2
  refine ctW Tryd.tyOk 5 [] Tryd.func86 rfl (by simp [SV.lt, SA.lt, SC.lt, arcV, fV]) (by simp) (fr := [(0, .i x), (1, .c (.ptr 2 0)), (2, .c (.ptr 3 0))]) rfl ?_
  repeat' (first | exact rfl | ((conv => whnf); first | ((first | refine qA (fun h => ?_) fun h => ?_ | refine qN (fun h => ?_) fun h => ?_ | refine qB (fun h => ?_) fun h => ?_ | refine qC (fun h => ?_) fun h => ?_) <;> try exact absurd h (by omega)) | refine qM (fun h => ?_) fun h => ?_ | refine oM (by (first | omega | (simp only [lenS, InI, nmin, EK.sz]; omega) | (simp only [lenS, InI, nmin, EK.sz] at *; omega))) ?_ | refine oM ?_ ?_ | refine bM ?_ ?_ | refine draw_of Tryd.mixed Tryd.tyOk 60 (by kernel_rfl) ?_))
  all_goals
    (conv => whnf)
    refine ⟨[], [(2, .box 52 [.sl 0 1 0 m1.length m1.length]), (3, .box 52 [.sl 1 1 0 m2.length m2.length])], 4, .b (kpB m1 m2 x.toNat), ⟨by rfl, trivial, by simp [eqFr, eqHp, eqV, eqA, eqC, eqO, eqCs, eqAs, look_cons, look, rn, EK.cast, EK.sz, eqCaps]⟩, ?_, rfl, rfl⟩
    simp_all [eqV, eqA, eqC, kpB, EK.dflt]

/-- What comes out: 0 final, 1 arcs. -/
def OutPost (st start : Int) (fin : List Int) (arcs : List Arc) (n : Nat) (v : SV) (s : S) : Prop := ∃ sp sq, v = .a (.agg [.i st, .i start, .sl n 1 0 fin.length (fin.length + sp), .sl (n + 1) 5 0 arcs.length (arcs.length + sq)]) ∧ s = ⟨[], [(n, .arr true 3 .int fin sp), (n + 1, .arr true 50 .arc arcs sq)], n + 2⟩

theorem nothing_c : Ct Tryd.prog 74 [] [] [] 0 (OutPost 1 0 [-1] [] 0) := by
  refine ctW Tryd.tyOk 1 [] Tryd.func74 rfl (by simp [SV.lt, SA.lt, SC.lt, arcV, fV]) (by simp) (fr := []) rfl ?_
  repeat' (first | exact rfl | ((conv => whnf); first | ((first | refine qA (fun h => ?_) fun h => ?_ | refine qN (fun h => ?_) fun h => ?_ | refine qB (fun h => ?_) fun h => ?_ | refine qC (fun h => ?_) fun h => ?_) <;> try exact absurd h (by omega)) | refine qM (fun h => ?_) fun h => ?_ | refine oM (by (first | omega | (simp only [lenS, InI, nmin, EK.sz]; omega) | (simp only [lenS, InI, nmin, EK.sz] at *; omega))) ?_ | refine oM ?_ ?_ | refine bM ?_ ?_ | refine draw_of Tryd.mixed Tryd.tyOk 60 (by kernel_rfl) ?_))
  (conv => whnf)
  exact ⟨[(0, some 1), (1, none)], [(0, .arr true 3 .int [-1] 0), (1, .arr true 50 .arc [] 0)], 2, .a (.agg [.i 1, .i 0, .sl 0 1 0 1 1, .sl 1 5 0 0 0]), ⟨by rfl, trivial, by simp [eqFr, eqHp, eqV, eqA, eqC, eqO, eqCs, eqAs, look_cons, look, rn, EK.cast, EK.sz, eqCaps, nilO]⟩, by simp [eqV, eqA, eqAs, eqC, eqCs, rn, look, look_cons, EK.sz], 0, 0, rfl, rfl⟩

/-- How many are kept below k. -/
def rkB (p : Nat → Bool) : Nat → Nat
  | 0 => 0
  | k + 1 => if p k = true then rkB p k + 1 else rkB p k

/-- What they tell. -/
def kfin (p : Nat → Bool) (fin : List Int) : Nat → List Int
  | 0 => []
  | k + 1 => if p k = true then kfin p fin k ++ [fin.getD k 0] else kfin p fin k

theorem kfin_len (p : Nat → Bool) (fin : List Int) : ∀ k, (kfin p fin k).length = rkB p k
  | 0 => rfl
  | k + 1 => by
    have := kfin_len p fin k
    unfold kfin rkB
    split <;> simp [this]
theorem rkB_le (p : Nat → Bool) : ∀ k, rkB p k ≤ k
  | 0 => Nat.le_refl _
  | k + 1 => by
    have := rkB_le p k
    unfold rkB
    split <;> omega

def kArc (p : Nat → Bool) (a : Arc) : Arc := ⟨(rkB p a.f.toNat : Nat), a.i, a.o, (rkB p a.t.toNat : Nat), a.w⟩
def kOk (p : Nat → Bool) (a : Arc) : Bool := p a.f.toNat && p a.t.toNat
def karc (p : Nat → Bool) (l : List Arc) : Nat → List Arc
  | 0 => []
  | k + 1 => if kOk p (l.getD k aD) = true then karc p l k ++ [kArc p (l.getD k aD)] else karc p l k

theorem karc_len (p : Nat → Bool) (l : List Arc) : ∀ k, (karc p l k).length ≤ k
  | 0 => Nat.le_refl _
  | k + 1 => by
    have := karc_len p l k
    unfold karc
    split
    · simp; omega
    · omega

abbrev LkI (es : List (Int × Int × Nat)) (p : Nat → Bool) (k : Nat) : Prop := ∀ j : Int, 0 ≤ j → j < k → p j.toNat = true → @lkM EK.int.ty EK.int.ty (EK.instDeq .int) es j = some ((rkB p j.toNat : Nat) : Int)

/-- What Kept answers. -/
def keptPost (F : TF) (p : Nat → Bool) (n : Nat) (v : SV) (s : S) : Prop :=
  if p F.start.toNat = true then OutPost (rkB p F.st.toNat : Nat) (rkB p F.start.toNat : Nat) (kfin p F.fin F.st.toNat) (karc p F.arcs F.arcs.length) n v s else OutPost 1 0 [-1] [] n v s

abbrev hpKe (F : TF) (m1 m2 : List Bool) (n1 n2 : Nat) : List (Nat × SO) := [(0, .arr false 3 .int F.fin 0), (1, .arr false 50 .arc F.arcs 0), (2, .arr false 4 .bool m1 0), (3, .arr false 4 .bool m2 0), (4, .box 52 [.sl 2 1 0 n1 n1]), (5, .box 52 [.sl 3 1 0 n2 n2])]

set_option maxHeartbeats 16000000 in
set_option maxRecDepth 20000 in
theorem kept_c (F : TF) (hF : FRng F) (hs : 0 ≤ F.start ∧ F.start < F.st) (m1 m2 : List Bool) (n1 n2 : Nat) (hn1 : n1 = m1.length) (hn2 : n2 = m2.length) (hm1 : (m1.length : Int) = F.st) (hm2 : (m2.length : Int) = F.st) :
    Ct Tryd.prog 85 [fV F, .c (.fn 86 [(4, 0), (5, 0)])] [] (hpKe F m1 m2 n1 n2) 6 (keptPost F (kpB m1 m2) 6) := by
  have hst := hF.st
  have hal := hF.arcl
  have hfl := hF.finl
  generalize hp : kpB m1 m2 = p
  refine ctW Tryd.tyOk 10 [13, 14, 51, 52, 53] Tryd.func85 rfl (by simp [SV.lt, SA.lt, SC.lt, fV]; omega) (by simp) (fr := [(0, fV F), (1, .c (.fn 86 [(4, 0), (5, 0)]))]) rfl ?_
  repeat' (first | exact rfl | ((conv => whnf); first | ((first | refine qA (fun h => ?_) fun h => ?_ | refine qN (fun h => ?_) fun h => ?_ | refine qB (fun h => ?_) fun h => ?_ | refine qC (fun h => ?_) fun h => ?_) <;> try exact absurd h (by omega)) | refine qM (fun h => ?_) fun h => ?_ | refine oM (by (first | omega | (simp only [lenS, InI, nmin, EK.sz]; omega) | (simp only [lenS, InI, nmin, EK.sz] at *; omega))) ?_ | refine oM ?_ ?_ | refine bM ?_ ?_ | refine draw_of Tryd.mixed Tryd.tyOk 60 (by kernel_rfl) ?_))
  (conv => whnf)
  refine loopI (fun z : Nat × Nat × List (Int × Int × Nat) × Nat => ⟨[(1, .c (.fn 86 [(4, 0), (5, 0)])), (2, .c (.ptr 6 0)), (4, .c (.ptr 7 0)), (5, .c (.mp 8)), (6, .c (.ptr 9 0)), (13, .i F.st), (14, .i z.1)],
      hpKe F m1 m2 n1 n2 ++ [(6, .box 25 (fCells F)), (7, .box 25 [.i 0, .i 0, .v (.slice none 0 0), .v (.slice none 0 0)]), (8, .map .int .int z.2.2.1 z.2.2.2), (9, .box 25 [.i (rkB p z.1), .i 0, .sl 10 1 0 (kfin p F.fin z.1).length ((kfin p F.fin z.1).length + z.2.1), .v (.slice none 0 0)]), (10, .arr true 3 .int (kfin p F.fin z.1) z.2.1)], 11⟩)
    (fun z => (z.1 : Int) ≤ F.st ∧ LkI z.2.2.1 p z.1) (fun z => F.st.toNat - z.1) (0, 0, [], 0) [(10, none)] ⟨by rfl, ?_, ?_⟩ ⟨by simp only; omega, fun j h0 h1 => by simp only at h1; omega⟩ ?_
  · simp [eqFr, eqHp, eqV, eqA, eqC, eqO, eqCs, eqAs, look_cons, look, rn, EK.cast, EK.sz, eqCaps]
  · simp [eqFr, eqHp, eqV, eqA, eqC, eqO, eqCs, eqAs, look_cons, look, rn, EK.cast, EK.sz, eqCaps, fCells, nilO, rkB, kfin]
  · rintro ⟨k, sp, es, clk⟩ ⟨hk, hlk⟩
    simp only at hk hlk ⊢
    have hkl := kfin_len p F.fin k
    have hrk := rkB_le p k
    generalize hpl : kfin p F.fin k = pl at hkl ⊢
    repeat' (first | exact rfl | ((conv => whnf); first | ((first | refine qA (fun h => ?_) fun h => ?_ | refine qN (fun h => ?_) fun h => ?_ | refine qB (fun h => ?_) fun h => ?_ | refine qC (fun h => ?_) fun h => ?_) <;> try exact absurd h (by omega)) | refine qM (fun h => ?_) fun h => ?_ | refine oM (by (first | omega | (simp only [lenS, InI, nmin, EK.sz]; omega) | (simp only [lenS, InI, nmin, EK.sz] at *; omega))) ?_ | refine oM ?_ ?_ | refine bM ?_ ?_ | refine draw_of Tryd.mixed Tryd.tyOk 60 (by kernel_rfl) ?_))
    · have hk1 : F.st.toNat - (k + 1) < F.st.toNat - k := by omega
      (conv => whnf)
      refine callF (keep1_c m1 m2 n1 n2 hn1 hn2 (k : Int) (by omega) (by omega) (by omega)) [2, 3, 4, 5] Tryd.call86 rfl (by simp [eqLs, eqL, eqO, eqC, eqCs, rn, renOf, look_cons, look, EK.cast]) (by simp [appN, ptrs, eqVL, eqV, eqA, eqC, eqCs, eqAs, eqCaps, EK.sz, rn, renOf, look_cons, look, arcV, fV]) (by simp [appN, ptrs, SV.lt, SA.lt, SC.lt, arcV, fV, lenN]) ?_
      rintro _ _ ⟨rfl, rfl⟩
      have e0 : 0 + (k : Int).toNat = k := by omega
      rw [hp, Int.toNat_natCast]
      by_cases hpk : p k = true
      · have hr2 : rkB p (k + 1) = rkB p k + 1 := by show (if p k = true then _ else _) = _; rw [if_pos hpk]
        have hkf : kfin p F.fin (k + 1) = pl ++ [F.fin.getD k 0] := by show (if p k = true then _ else _) = _; rw [if_pos hpk, hpl]
        rw [hpk]
        repeat' (first | exact rfl | ((conv => whnf); first | ((first | refine qA (fun h => ?_) fun h => ?_ | refine qN (fun h => ?_) fun h => ?_ | refine qB (fun h => ?_) fun h => ?_ | refine qC (fun h => ?_) fun h => ?_) <;> try exact absurd h (by omega)) | refine qM (fun h => ?_) fun h => ?_ | refine oM (by (first | omega | (simp only [lenS, InI, nmin, EK.sz]; omega) | (simp only [lenS, InI, nmin, EK.sz] at *; omega))) ?_ | refine oM ?_ ?_ | refine bM ?_ ?_ | refine draw_of Tryd.mixed Tryd.tyOk 60 (by kernel_rfl) ?_ | intro _))
        (conv => whnf)
        rename_i sp2
        refine ⟨(k + 1, sp2, (@insM EK.int.ty EK.int.ty (EK.instDeq .int) es clk (k : Int) ((rkB p k : Nat) : Int)).1, (@insM EK.int.ty EK.int.ty (EK.instDeq .int) es clk (k : Int) ((rkB p k : Nat) : Int)).2), [(10, some 12)], ⟨by rfl, ?_, ?_⟩, ⟨by simp only; omega, fun j h0 h1 hj => ?_⟩, by simp only; omega⟩
        · simp [eqFr, eqHp, eqV, eqA, eqC, eqO, eqCs, eqAs, look_cons, look, rn, EK.cast, EK.sz, eqCaps]
        · simp [eqFr, eqHp, eqV, eqA, eqC, eqO, eqCs, eqAs, look_cons, look, rn, EK.cast, EK.sz, eqCaps, hkf, hr2, EK.dflt, e0, fCells]
          simp [app_one]
        · rw [lkM_insM]
          by_cases ej : j = k
          · rw [if_pos ej, ej, Int.toNat_natCast]
          · rw [if_neg ej]
            exact hlk j h0 (by simp only at h1; omega) hj
      · have hr2 : rkB p (k + 1) = rkB p k := by show (if p k = true then _ else _) = _; rw [if_neg hpk]
        have hkf : kfin p F.fin (k + 1) = pl := by show (if p k = true then _ else _) = _; rw [if_neg hpk, hpl]
        have hpk2 : p k = false := by simpa using hpk
        rw [hpk2]
        repeat' (first | exact rfl | ((conv => whnf); first | ((first | refine qA (fun h => ?_) fun h => ?_ | refine qN (fun h => ?_) fun h => ?_ | refine qB (fun h => ?_) fun h => ?_ | refine qC (fun h => ?_) fun h => ?_) <;> try exact absurd h (by omega)) | refine qM (fun h => ?_) fun h => ?_ | refine oM (by (first | omega | (simp only [lenS, InI, nmin, EK.sz]; omega) | (simp only [lenS, InI, nmin, EK.sz] at *; omega))) ?_ | refine oM ?_ ?_ | refine bM ?_ ?_ | refine draw_of Tryd.mixed Tryd.tyOk 60 (by kernel_rfl) ?_ | intro _))
        (conv => whnf)
        refine ⟨(k + 1, sp, es, clk), [], ⟨by rfl, ?_, ?_⟩, ⟨by simp only; omega, fun j h0 h1 hj => ?_⟩, by simp only; omega⟩
        · simp [eqFr, eqHp, eqV, eqA, eqC, eqO, eqCs, eqAs, look_cons, look, rn, EK.cast, EK.sz, eqCaps]
        · simp [eqFr, eqHp, eqV, eqA, eqC, eqO, eqCs, eqAs, look_cons, look, rn, EK.cast, EK.sz, eqCaps, hkf, hr2, fCells]
        · by_cases ej : j = k
          · rw [ej, Int.toNat_natCast, hpk2] at hj; cases hj
          · exact hlk j h0 (by simp only at h1; omega) hj
    · have e : k = F.st.toNat := by omega
      subst e
      subst hpl
      repeat' (first | exact rfl | ((conv => whnf); first | ((first | refine qA (fun h => ?_) fun h => ?_ | refine qN (fun h => ?_) fun h => ?_ | refine qB (fun h => ?_) fun h => ?_ | refine qC (fun h => ?_) fun h => ?_) <;> try exact absurd h (by omega)) | refine qM (fun h => ?_) fun h => ?_ | refine oM (by (first | omega | (simp only [lenS, InI, nmin, EK.sz]; omega) | (simp only [lenS, InI, nmin, EK.sz] at *; omega))) ?_ | refine oM ?_ ?_ | refine bM ?_ ?_ | refine draw_of Tryd.mixed Tryd.tyOk 60 (by kernel_rfl) ?_))
      (conv => whnf)
      refine callF (keep1_c m1 m2 n1 n2 hn1 hn2 F.start (by omega) (by omega) (by omega)) [2, 3, 4, 5] Tryd.call86 rfl (by simp [eqLs, eqL, eqO, eqC, eqCs, rn, renOf, look_cons, look, EK.cast]) (by simp [appN, ptrs, eqVL, eqV, eqA, eqC, eqCs, eqAs, eqCaps, EK.sz, rn, renOf, look_cons, look, arcV, fV]) (by simp [appN, ptrs, SV.lt, SA.lt, SC.lt, arcV, fV, lenN]) ?_
      rintro _ _ ⟨rfl, rfl⟩
      rw [hp]
      by_cases hps : p F.start.toNat = true
      · have hl0 := hlk F.start hs.1 (by omega) hps
        rw [hps]
        repeat' (first | exact rfl | ((conv => whnf); first | ((first | refine qA (fun h => ?_) fun h => ?_ | refine qN (fun h => ?_) fun h => ?_ | refine qB (fun h => ?_) fun h => ?_ | refine qC (fun h => ?_) fun h => ?_) <;> try exact absurd h (by omega)) | refine qM (fun h => ?_) fun h => ?_ | refine oM (by (first | omega | (simp only [lenS, InI, nmin, EK.sz]; omega) | (simp only [lenS, InI, nmin, EK.sz] at *; omega))) ?_ | refine oM ?_ ?_ | refine bM ?_ ?_ | refine draw_of Tryd.mixed Tryd.tyOk 60 (by kernel_rfl) ?_ | intro _))
        (conv => whnf)
        refine loopI (fun z : Nat × Nat => ⟨[(1, .c (.fn 86 [(4, 0), (5, 0)])), (2, .c (.ptr 6 0)), (4, .c (.ptr 7 0)), (5, .c (.mp 8)), (6, .c (.ptr 9 0)), (51, .c (.sl 1 5 0 F.arcs.length F.capA)), (52, .i F.arcs.length), (53, .i z.1)],
            hpKe F m1 m2 n1 n2 ++ [(6, .box 25 (fCells F)), (7, .box 25 [.i 0, .i 0, .v (.slice none 0 0), .v (.slice none 0 0)]), (8, .map .int .int es clk), (9, .box 25 [.i (rkB p F.st.toNat), .i (rkB p F.start.toNat), .sl 10 1 0 (kfin p F.fin F.st.toNat).length ((kfin p F.fin F.st.toNat).length + sp), .sl 11 5 0 (karc p F.arcs z.1).length ((karc p F.arcs z.1).length + z.2)]), (10, .arr true 3 .int (kfin p F.fin F.st.toNat) sp), (11, .arr true 50 .arc (karc p F.arcs z.1) z.2)], 12⟩)
          (fun z => z.1 ≤ F.arcs.length) (fun z => F.arcs.length - z.1) (0, 0) [(11, none)] ⟨by rfl, ?_, ?_⟩ (Nat.zero_le _) ?_
        · simp [eqFr, eqHp, eqV, eqA, eqC, eqO, eqCs, eqAs, look_cons, look, rn, EK.cast, EK.sz, eqCaps]
        · simp [eqFr, eqHp, eqV, eqA, eqC, eqO, eqCs, eqAs, look_cons, look, rn, EK.cast, EK.sz, eqCaps, fCells, nilO, karc, hl0]
        · rintro ⟨k, sq⟩ hk2
          simp only at hk2 ⊢
          have hlen := karc_len p F.arcs k
          repeat' (first | exact rfl | ((conv => whnf); first | ((first | refine qA (fun h => ?_) fun h => ?_ | refine qN (fun h => ?_) fun h => ?_ | refine qB (fun h => ?_) fun h => ?_ | refine qC (fun h => ?_) fun h => ?_) <;> try exact absurd h (by omega)) | refine qM (fun h => ?_) fun h => ?_ | refine oM (by (first | omega | (simp only [lenS, InI, nmin, EK.sz]; omega) | (simp only [lenS, InI, nmin, EK.sz] at *; omega))) ?_ | refine oM ?_ ?_ | refine bM ?_ ?_ | refine draw_of Tryd.mixed Tryd.tyOk 60 (by kernel_rfl) ?_))
          · have e0 : 0 + (k : Int).toNat = k := by omega
            have hb := hF.arc _ (getD_mem F.arcs k aD (by omega))
            rw [← e0] at hb
            generalize hax : F.arcs.getD (0 + (k : Int).toNat) aD = ax at hb
            have hax0 : F.arcs.getD k aD = ax := by rw [← hax, e0]
            have hax2 : F.arcs.getD (0 + (k : Int).toNat) EK.arc.dflt = ax := hax
            rw [hax2]
            (conv => whnf)
            refine callF (keep1_c m1 m2 n1 n2 hn1 hn2 ax.f (by omega) (by omega) (by omega)) [2, 3, 4, 5] Tryd.call86 rfl (by simp [eqLs, eqL, eqO, eqC, eqCs, rn, renOf, look_cons, look, EK.cast]) (by simp [appN, ptrs, eqVL, eqV, eqA, eqC, eqCs, eqAs, eqCaps, EK.sz, rn, renOf, look_cons, look, arcV, fV]) (by simp [appN, ptrs, SV.lt, SA.lt, SC.lt, arcV, fV, lenN]) ?_
            rintro _ _ ⟨rfl, rfl⟩
            rw [hp]
            have hks : karc p F.arcs (k + 1) = if kOk p ax = true then karc p F.arcs k ++ [kArc p ax] else karc p F.arcs k := by
              show (if kOk p (F.arcs.getD k aD) = true then _ else _) = _
              rw [hax0]
            by_cases hpf : p ax.f.toNat = true
            · rw [hpf]
              repeat' (first | exact rfl | ((conv => whnf); first | ((first | refine qA (fun h => ?_) fun h => ?_ | refine qN (fun h => ?_) fun h => ?_ | refine qB (fun h => ?_) fun h => ?_ | refine qC (fun h => ?_) fun h => ?_) <;> try exact absurd h (by omega)) | refine qM (fun h => ?_) fun h => ?_ | refine oM (by (first | omega | (simp only [lenS, InI, nmin, EK.sz]; omega) | (simp only [lenS, InI, nmin, EK.sz] at *; omega))) ?_ | refine oM ?_ ?_ | refine bM ?_ ?_ | refine draw_of Tryd.mixed Tryd.tyOk 60 (by kernel_rfl) ?_ | intro _))
              (conv => whnf)
              refine callF (keep1_c m1 m2 n1 n2 hn1 hn2 ax.t (by omega) (by omega) (by omega)) [2, 3, 4, 5] Tryd.call86 rfl (by simp [eqLs, eqL, eqO, eqC, eqCs, rn, renOf, look_cons, look, EK.cast]) (by simp [appN, ptrs, eqVL, eqV, eqA, eqC, eqCs, eqAs, eqCaps, EK.sz, rn, renOf, look_cons, look, arcV, fV]) (by simp [appN, ptrs, SV.lt, SA.lt, SC.lt, arcV, fV, lenN]) ?_
              rintro _ _ ⟨rfl, rfl⟩
              rw [hp]
              by_cases hpt : p ax.t.toNat = true
              · rw [hpt]
                have hl1 := hlk ax.f hb.1 (by omega) hpf
                have hl2 := hlk ax.t hb.2.2.1 (by omega) hpt
                rw [if_pos (by unfold kOk; rw [hpf, hpt]; rfl)] at hks
                repeat' (first | exact rfl | ((conv => whnf); first | ((first | refine qA (fun h => ?_) fun h => ?_ | refine qN (fun h => ?_) fun h => ?_ | refine qB (fun h => ?_) fun h => ?_ | refine qC (fun h => ?_) fun h => ?_) <;> try exact absurd h (by omega)) | refine qM (fun h => ?_) fun h => ?_ | refine oM (by (first | omega | (simp only [lenS, InI, nmin, EK.sz]; omega) | (simp only [lenS, InI, nmin, EK.sz] at *; omega))) ?_ | refine oM ?_ ?_ | refine bM ?_ ?_ | refine draw_of Tryd.mixed Tryd.tyOk 60 (by kernel_rfl) ?_ | intro _))
                (conv => whnf)
                rename_i sp2
                rw [hl1, hl2]
                refine ⟨(k + 1, sp2), [(11, some 14)], ⟨by rfl, ?_, ?_⟩, by simp only; omega, by simp only; omega⟩
                · simp [eqFr, eqHp, eqV, eqA, eqC, eqO, eqCs, eqAs, look_cons, look, rn, EK.cast, EK.sz, eqCaps]
                · simp [eqFr, eqHp, eqV, eqA, eqC, eqO, eqCs, eqAs, look_cons, look, rn, EK.cast, EK.sz, eqCaps, hks, fCells]
                  exact (app_one (karc p F.arcs k) _ (kArc p ax) rfl).symm
              · have hpt2 : p ax.t.toNat = false := by simpa using hpt
                rw [hpt2]
                rw [if_neg (by unfold kOk; rw [hpt2]; simp)] at hks
                repeat' (first | exact rfl | ((conv => whnf); first | ((first | refine qA (fun h => ?_) fun h => ?_ | refine qN (fun h => ?_) fun h => ?_ | refine qB (fun h => ?_) fun h => ?_ | refine qC (fun h => ?_) fun h => ?_) <;> try exact absurd h (by omega)) | refine qM (fun h => ?_) fun h => ?_ | refine oM (by (first | omega | (simp only [lenS, InI, nmin, EK.sz]; omega) | (simp only [lenS, InI, nmin, EK.sz] at *; omega))) ?_ | refine oM ?_ ?_ | refine bM ?_ ?_ | refine draw_of Tryd.mixed Tryd.tyOk 60 (by kernel_rfl) ?_ | intro _))
                (conv => whnf)
                refine ⟨(k + 1, sq), [], ⟨by rfl, ?_, ?_⟩, by simp only; omega, by simp only; omega⟩
                · simp [eqFr, eqHp, eqV, eqA, eqC, eqO, eqCs, eqAs, look_cons, look, rn, EK.cast, EK.sz, eqCaps]
                · simp [eqFr, eqHp, eqV, eqA, eqC, eqO, eqCs, eqAs, look_cons, look, rn, EK.cast, EK.sz, eqCaps, hks, fCells]
            · have hpf2 : p ax.f.toNat = false := by simpa using hpf
              rw [hpf2]
              rw [if_neg (by unfold kOk; rw [hpf2]; simp)] at hks
              repeat' (first | exact rfl | ((conv => whnf); first | ((first | refine qA (fun h => ?_) fun h => ?_ | refine qN (fun h => ?_) fun h => ?_ | refine qB (fun h => ?_) fun h => ?_ | refine qC (fun h => ?_) fun h => ?_) <;> try exact absurd h (by omega)) | refine qM (fun h => ?_) fun h => ?_ | refine oM (by (first | omega | (simp only [lenS, InI, nmin, EK.sz]; omega) | (simp only [lenS, InI, nmin, EK.sz] at *; omega))) ?_ | refine oM ?_ ?_ | refine bM ?_ ?_ | refine draw_of Tryd.mixed Tryd.tyOk 60 (by kernel_rfl) ?_ | intro _))
              (conv => whnf)
              refine ⟨(k + 1, sq), [], ⟨by rfl, ?_, ?_⟩, by simp only; omega, by simp only; omega⟩
              · simp [eqFr, eqHp, eqV, eqA, eqC, eqO, eqCs, eqAs, look_cons, look, rn, EK.cast, EK.sz, eqCaps]
              · simp [eqFr, eqHp, eqV, eqA, eqC, eqO, eqCs, eqAs, look_cons, look, rn, EK.cast, EK.sz, eqCaps, hks, fCells]
          · have e : k = F.arcs.length := by omega
            subst e
            repeat' (first | exact rfl | ((conv => whnf); first | ((first | refine qA (fun h => ?_) fun h => ?_ | refine qN (fun h => ?_) fun h => ?_ | refine qB (fun h => ?_) fun h => ?_ | refine qC (fun h => ?_) fun h => ?_) <;> try exact absurd h (by omega)) | refine qM (fun h => ?_) fun h => ?_ | refine oM (by (first | omega | (simp only [lenS, InI, nmin, EK.sz]; omega) | (simp only [lenS, InI, nmin, EK.sz] at *; omega))) ?_ | refine oM ?_ ?_ | refine bM ?_ ?_ | refine draw_of Tryd.mixed Tryd.tyOk 60 (by kernel_rfl) ?_ | intro _))
            (conv => whnf)
            refine ⟨[(6, some 10), (7, some 11)], [(6, .arr true 3 .int (kfin p F.fin F.st.toNat) sp), (7, .arr true 50 .arc (karc p F.arcs F.arcs.length) sq)], 8, .a (.agg [.i (rkB p F.st.toNat : Nat), .i (rkB p F.start.toNat : Nat), .sl 6 1 0 (kfin p F.fin F.st.toNat).length ((kfin p F.fin F.st.toNat).length + sp), .sl 7 5 0 (karc p F.arcs F.arcs.length).length ((karc p F.arcs F.arcs.length).length + sq)]), ⟨by rfl, trivial, by simp [eqFr, eqHp, eqV, eqA, eqC, eqO, eqCs, eqAs, look_cons, look, rn, EK.cast, EK.sz, eqCaps]⟩, by simp [eqV, eqA, eqAs, eqC, eqCs, rn, look, look_cons, EK.sz], ?_⟩
            unfold keptPost
            rw [if_pos hps]
            exact ⟨sp, sq, rfl, rfl⟩
      · have hpk2 : p F.start.toNat = false := by simpa using hps
        rw [hpk2]
        repeat' (first | exact rfl | ((conv => whnf); first | ((first | refine qA (fun h => ?_) fun h => ?_ | refine qN (fun h => ?_) fun h => ?_ | refine qB (fun h => ?_) fun h => ?_ | refine qC (fun h => ?_) fun h => ?_) <;> try exact absurd h (by omega)) | refine qM (fun h => ?_) fun h => ?_ | refine oM (by (first | omega | (simp only [lenS, InI, nmin, EK.sz]; omega) | (simp only [lenS, InI, nmin, EK.sz] at *; omega))) ?_ | refine oM ?_ ?_ | refine bM ?_ ?_ | refine draw_of Tryd.mixed Tryd.tyOk 60 (by kernel_rfl) ?_ | intro _))
        (conv => whnf)
        refine callF (nothing_c) [] Tryd.call74 rfl (by simp [eqLs, eqL, eqO, eqC, eqCs, rn, renOf, look_cons, look, EK.cast]) (by simp [appN, ptrs, eqVL, eqV, eqA, eqC, eqCs, eqAs, eqCaps, EK.sz, rn, renOf, look_cons, look, arcV, fV]) (by simp [appN, ptrs, SV.lt, SA.lt, SC.lt, arcV, fV, lenN]) ?_
        rintro _ _ ⟨sp3, sq3, rfl, rfl⟩
        repeat' (first | exact rfl | ((conv => whnf); first | ((first | refine qA (fun h => ?_) fun h => ?_ | refine qN (fun h => ?_) fun h => ?_ | refine qB (fun h => ?_) fun h => ?_ | refine qC (fun h => ?_) fun h => ?_) <;> try exact absurd h (by omega)) | refine qM (fun h => ?_) fun h => ?_ | refine oM (by (first | omega | (simp only [lenS, InI, nmin, EK.sz]; omega) | (simp only [lenS, InI, nmin, EK.sz] at *; omega))) ?_ | refine oM ?_ ?_ | refine bM ?_ ?_ | refine draw_of Tryd.mixed Tryd.tyOk 60 (by kernel_rfl) ?_ | intro _))
        (conv => whnf)
        refine ⟨[(6, some 11), (7, some 12)], [(6, .arr true 3 .int [-1] sp3), (7, .arr true 50 .arc [] sq3)], 8, .a (.agg [.i 1, .i 0, .sl 6 1 0 [(-1 : Int)].length ([(-1 : Int)].length + sp3), .sl 7 5 0 ([] : List Arc).length (([] : List Arc).length + sq3)]), ⟨by rfl, trivial, by simp [eqFr, eqHp, eqV, eqA, eqC, eqO, eqCs, eqAs, look_cons, look, rn, EK.cast, EK.sz, eqCaps]⟩, by simp [eqV, eqA, eqAs, eqC, eqCs, rn, look, look_cons, EK.sz], ?_⟩
        unfold keptPost
        rw [if_neg hps]
        exact ⟨sp3, sq3, rfl, rfl⟩

/-- What is kept. -/
def kT (F : TF) (p : Nat → Bool) : TF := if p F.start.toNat = true then ⟨(rkB p F.st.toNat : Nat), (rkB p F.start.toNat : Nat), kfin p F.fin F.st.toNat, karc p F.arcs F.arcs.length, 0, 0⟩ else ⟨1, 0, [-1], [], 0, 0⟩

theorem keptPost_iff {F : TF} {p : Nat → Bool} {n : Nat} {v : SV} {s : S} : keptPost F p n v s ↔ OutPost (kT F p).st (kT F p).start (kT F p).fin (kT F p).arcs n v s := by
  unfold keptPost kT
  split <;> exact Iff.rfl

/-- Useful: reached from the start, and some end reached from it. -/
structure UsOk (F : TF) (p : Nat → Bool) : Prop where
  iff : ∀ j, j < F.st.toNat → (p j = true ↔ Rch F.arcs false [F.start] j ∧ ∃ e : Nat, e < F.st.toNat ∧ F.fin.getD e 0 ≠ -1 ∧ Rch F.arcs true [(e : Int)] j)

/-- The ends below k. -/
def endL (fin : List Int) : Nat → List Int
  | 0 => []
  | k + 1 => if fin.getD k 0 ≠ -1 then endL fin k ++ [(k : Int)] else endL fin k
theorem endL_len (fin : List Int) : ∀ k, (endL fin k).length ≤ k
  | 0 => Nat.le_refl _
  | k + 1 => by
    have := endL_len fin k
    unfold endL
    split
    · simp; omega
    · omega
theorem mem_endL {fin : List Int} {x : Int} : ∀ k, x ∈ endL fin k ↔ ∃ e : Nat, e < k ∧ fin.getD e 0 ≠ -1 ∧ x = e
  | 0 => by simp [endL]
  | k + 1 => by
    have ih := mem_endL (fin := fin) (x := x) k
    unfold endL
    split
    · rename_i h
      rw [List.mem_append, ih, List.mem_singleton]
      constructor
      · rintro (⟨e, h1, h2⟩ | rfl)
        · exact ⟨e, by omega, h2⟩
        · exact ⟨k, by omega, h, rfl⟩
      · rintro ⟨e, h1, h2, h3⟩
        by_cases q : e = k
        · subst q; exact .inr h3
        · exact .inl ⟨e, by omega, h2, h3⟩
    · rename_i h
      rw [ih]
      constructor
      · rintro ⟨e, h1, h2⟩
        exact ⟨e, by omega, h2⟩
      · rintro ⟨e, h1, h2, h3⟩
        by_cases q : e = k
        · subst q; exact absurd h2 h
        · exact ⟨e, by omega, h2, h3⟩
theorem rch_some {l : List Arc} {bk : Bool} {first : List Int} {x : Int} : Rch l bk first x ↔ ∃ e ∈ first, Rch l bk [e] x := by
  constructor
  · intro h
    induction h with
    | here h => exact ⟨_, h, .here (by simp)⟩
    | on h ha hs ih =>
      obtain ⟨e, he, hr⟩ := ih
      exact ⟨e, he, .on hr ha hs⟩
  · rintro ⟨e, he, h⟩
    induction h with
    | here h => rw [List.mem_singleton] at h; subst h; exact .here he
    | on h ha hs ih => exact .on ih ha hs
end Go.Fw

namespace Go.Fw
open Go Go.Proofs

set_option maxHeartbeats 16000000 in
set_option maxRecDepth 20000 in
theorem useful_c (F : TF) (hF : FRng F) (hs : 0 ≤ F.start ∧ F.start < F.st) :
    Ct Tryd.prog 63 [fV F] [] (hpF F) 2 (fun v s => ∃ p, UsOk F p ∧ OutPost (kT F p).st (kT F p).start (kT F p).fin (kT F p).arcs 2 v s) := by
  have hst := hF.st
  have hal := hF.arcl
  have hfl := hF.finl
  refine ctW Tryd.tyOk 8 [9, 10, 11] Tryd.func63 rfl (by simp [SV.lt, SA.lt, SC.lt, arcV, fV]) (by simp) (fr := [(0, fV F)]) rfl ?_
  repeat' (first | exact rfl | ((conv => whnf); first | ((first | refine qA (fun h => ?_) fun h => ?_ | refine qN (fun h => ?_) fun h => ?_ | refine qB (fun h => ?_) fun h => ?_ | refine qC (fun h => ?_) fun h => ?_) <;> try exact absurd h (by omega)) | refine qM (fun h => ?_) fun h => ?_ | refine oM (by (first | omega | (simp only [lenS, InI, nmin, EK.sz]; omega) | (simp only [lenS, InI, nmin, EK.sz] at *; omega))) ?_ | refine oM ?_ ?_ | refine bM ?_ ?_ | refine draw_of Tryd.mixed Tryd.tyOk 60 (by kernel_rfl) ?_))
  (conv => whnf)
  refine loopI (fun z : Nat × Nat => ⟨[(1, .c (.ptr 2 0)), (2, .c (.ptr 3 0)), (3, .c (.sl 4 1 0 (endL F.fin z.1).length ((endL F.fin z.1).length + z.2))), (9, .c (.sl 0 1 0 F.fin.length F.capF)), (10, .i F.fin.length), (11, .i z.1)],
      hpF F ++ [(2, .box 25 (fCells F)), (3, .box 25 [.i 0, .i 0, .v (.slice none 0 0), .v (.slice none 0 0)]), (4, .arr true 3 .int (endL F.fin z.1) z.2)], 5⟩)
    (fun z => z.1 ≤ F.fin.length) (fun z => F.fin.length - z.1) (0, 0) [(4, none)] ⟨by rfl, ?_, ?_⟩ (Nat.zero_le _) ?_
  · simp [eqFr, eqHp, eqV, eqA, eqC, eqO, eqCs, eqAs, look_cons, look, rn, EK.cast, EK.sz, eqCaps, endL, nilO]
  · simp [eqFr, eqHp, eqV, eqA, eqC, eqO, eqCs, eqAs, look_cons, look, rn, EK.cast, EK.sz, eqCaps, fCells, nilO, endL]
  · rintro ⟨k, sp⟩ hk
    simp only at hk ⊢
    have hkl := endL_len F.fin k
    have e0 : 0 + (k : Int).toNat = k := by omega
    have hks : endL F.fin (k + 1) = if F.fin.getD k 0 ≠ -1 then endL F.fin k ++ [(k : Int)] else endL F.fin k := rfl
    repeat' (first | exact rfl | ((conv => whnf); first | ((first | refine qA (fun h => ?_) fun h => ?_ | refine qN (fun h => ?_) fun h => ?_ | refine qB (fun h => ?_) fun h => ?_ | refine qC (fun h => ?_) fun h => ?_) <;> try exact absurd h (by omega)) | refine qM (fun h => ?_) fun h => ?_ | refine oM (by (first | omega | (simp only [lenS, InI, nmin, EK.sz]; omega) | (simp only [lenS, InI, nmin, EK.sz] at *; omega))) ?_ | refine oM ?_ ?_ | refine bM ?_ ?_))
    · have h3 : F.fin.getD k 0 ≠ -1 := e0 ▸ h
      rw [if_pos h3] at hks
      intro sp2
      repeat' (first | exact rfl | ((conv => whnf); first | ((first | refine qA (fun h => ?_) fun h => ?_ | refine qN (fun h => ?_) fun h => ?_ | refine qB (fun h => ?_) fun h => ?_ | refine qC (fun h => ?_) fun h => ?_) <;> try exact absurd h (by omega)) | refine qM (fun h => ?_) fun h => ?_ | refine oM (by (first | omega | (simp only [lenS, InI, nmin, EK.sz]; omega) | (simp only [lenS, InI, nmin, EK.sz] at *; omega))) ?_ | refine oM ?_ ?_ | refine bM ?_ ?_))
      (conv => whnf)
      refine ⟨(k + 1, sp2), [(4, some 6)], ⟨by rfl, ?_, ?_⟩, by simp only; omega, by simp only; omega⟩
      · simp [eqFr, eqHp, eqV, eqA, eqC, eqO, eqCs, eqAs, look_cons, look, rn, EK.cast, EK.sz, eqCaps, hks]
      · simp [eqFr, eqHp, eqV, eqA, eqC, eqO, eqCs, eqAs, look_cons, look, rn, EK.cast, EK.sz, eqCaps, hks, fCells]
        exact (app_one (endL F.fin k) _ (k : Int) rfl).symm
    · have h3 : F.fin.getD k 0 = -1 := e0 ▸ h
      rw [if_neg (by simpa using h3)] at hks
      (conv => whnf)
      refine ⟨(k + 1, sp), [], ⟨by rfl, ?_, ?_⟩, by simp only; omega, by simp only; omega⟩
      · simp [eqFr, eqHp, eqV, eqA, eqC, eqO, eqCs, eqAs, look_cons, look, rn, EK.cast, EK.sz, eqCaps, hks]
      · simp [eqFr, eqHp, eqV, eqA, eqC, eqO, eqCs, eqAs, look_cons, look, rn, EK.cast, EK.sz, eqCaps, hks, fCells]
    · have e : k = F.fin.length := by omega
      subst e
      have hst2 : (F.st.toNat : Int) = F.st := by omega
      have hn2 : F.fin.length = F.st.toNat := by omega
      have hx1 : ∀ x ∈ [F.start], 0 ≤ x ∧ x < (F.st.toNat : Nat) := fun x hx => by rw [List.mem_singleton] at hx; subst hx; omega
      have hx2 : ∀ x ∈ endL F.fin F.fin.length, 0 ≤ x ∧ x < (F.st.toNat : Nat) := fun x hx => by
        obtain ⟨e, h1, h2, rfl⟩ := (mem_endL _).1 hx
        omega
      (conv => whnf)
      refine drawCut (fun z : List Bool × List Bool => ⟨[(1, .c (.ptr 2 0)), (2, .c (.ptr 3 0)), (6, .c (.ptr 6 0)), (7, .c (.ptr 7 0))],
        hpF F ++ [(2, .box 25 (fCells F)), (3, .box 25 [.i 0, .i 0, .v (.slice none 0 0), .v (.slice none 0 0)]), (4, .arr true 4 .bool z.1 0), (5, .arr true 4 .bool z.2 0), (6, .box 52 [.sl 4 1 0 z.1.length z.1.length]), (7, .box 52 [.sl 5 1 0 z.2.length z.2.length])], 8⟩)
        (fun z => z.1.length = F.st.toNat ∧ z.2.length = F.st.toNat ∧ (∀ j, j < F.st.toNat → (z.1.getD j false = true ↔ Rch F.arcs false [F.start] j)) ∧ ∀ j, j < F.st.toNat → (z.2.getD j false = true ↔ Rch F.arcs true (endL F.fin F.fin.length) j)) ?_ ?_
      · repeat' (first | exact rfl | ((conv => whnf); first | ((first | refine qA (fun h => ?_) fun h => ?_ | refine qN (fun h => ?_) fun h => ?_ | refine qB (fun h => ?_) fun h => ?_ | refine qC (fun h => ?_) fun h => ?_) <;> try exact absurd h (by omega)) | refine qM (fun h => ?_) fun h => ?_ | refine oM (by (first | omega | (simp only [lenS, InI, nmin, EK.sz]; omega) | (simp only [lenS, InI, nmin, EK.sz] at *; omega))) ?_ | refine oM ?_ ?_ | refine bM ?_ ?_ | refine draw_of Tryd.mixed Tryd.tyOk 60 (by kernel_rfl) ?_))
        all_goals
          (conv => whnf)
          first
          | (refine callF (reached_c F hF [F.start] 0 false hx1 (by simp)) [0, 1, 5] Tryd.call84 rfl ?_ ?_ ?_ ?_; (focus (simp [eqLs, eqL, eqO, eqC, eqCs, rn, renOf, look_cons, look, EK.cast]; done)); (focus (simp [appN, ptrs, eqVL, eqV, eqA, eqC, eqCs, eqAs, eqCaps, EK.sz, rn, renOf, look_cons, look, arcV, fV]; done)); (focus (simp [appN, ptrs, SV.lt, SA.lt, SC.lt, arcV, fV, lenN]; done)))
          | (refine callF (reached_c F hF [F.start] 0 false hx1 (by simp)) [0, 1, 6] Tryd.call84 rfl ?_ ?_ ?_ ?_; (focus (simp [eqLs, eqL, eqO, eqC, eqCs, rn, renOf, look_cons, look, EK.cast]; done)); (focus (simp [appN, ptrs, eqVL, eqV, eqA, eqC, eqCs, eqAs, eqCaps, EK.sz, rn, renOf, look_cons, look, arcV, fV]; done)); (focus (simp [appN, ptrs, SV.lt, SA.lt, SC.lt, arcV, fV, lenN]; done)))
          | (refine callF (reached_c F hF [F.start] 0 false hx1 (by simp)) [0, 1, 7] Tryd.call84 rfl ?_ ?_ ?_ ?_; (focus (simp [eqLs, eqL, eqO, eqC, eqCs, rn, renOf, look_cons, look, EK.cast]; done)); (focus (simp [appN, ptrs, eqVL, eqV, eqA, eqC, eqCs, eqAs, eqCaps, EK.sz, rn, renOf, look_cons, look, arcV, fV]; done)); (focus (simp [appN, ptrs, SV.lt, SA.lt, SC.lt, arcV, fV, lenN]; done)))
          rintro _ _ ⟨m1, rfl, rfl, hl1, hr1⟩
          repeat' (first | exact rfl | ((conv => whnf); first | ((first | refine qA (fun h => ?_) fun h => ?_ | refine qN (fun h => ?_) fun h => ?_ | refine qB (fun h => ?_) fun h => ?_ | refine qC (fun h => ?_) fun h => ?_) <;> try exact absurd h (by omega)) | refine qM (fun h => ?_) fun h => ?_ | refine oM (by (first | omega | (simp only [lenS, InI, nmin, EK.sz]; omega) | (simp only [lenS, InI, nmin, EK.sz] at *; omega))) ?_ | refine oM ?_ ?_ | refine bM ?_ ?_ | refine draw_of Tryd.mixed Tryd.tyOk 60 (by kernel_rfl) ?_))
          all_goals
            (conv => whnf)
            refine callF (reached_c F hF (endL F.fin F.fin.length) sp true hx2 (by omega)) [0, 1, 4] Tryd.call84 rfl (by simp [eqLs, eqL, eqO, eqC, eqCs, rn, renOf, look_cons, look, EK.cast]) (by simp [appN, ptrs, eqVL, eqV, eqA, eqC, eqCs, eqAs, eqCaps, EK.sz, rn, renOf, look_cons, look, arcV, fV]) (by simp [appN, ptrs, SV.lt, SA.lt, SC.lt, arcV, fV, lenN]) ?_
            rintro _ _ ⟨m2, rfl, rfl, hl2, hr2⟩
            repeat' (first | exact rfl | ((conv => whnf); first | ((first | refine qA (fun h => ?_) fun h => ?_ | refine qN (fun h => ?_) fun h => ?_ | refine qB (fun h => ?_) fun h => ?_ | refine qC (fun h => ?_) fun h => ?_) <;> try exact absurd h (by omega)) | refine qM (fun h => ?_) fun h => ?_ | refine oM (by (first | omega | (simp only [lenS, InI, nmin, EK.sz]; omega) | (simp only [lenS, InI, nmin, EK.sz] at *; omega))) ?_ | refine oM ?_ ?_ | refine bM ?_ ?_ | refine draw_of Tryd.mixed Tryd.tyOk 60 (by kernel_rfl) ?_))
            all_goals
              (conv => whnf)
              first
              | (refine ⟨(m1, m2), [(4, some 8), (5, some 9), (6, some 5), (7, some 6)], ⟨by rfl, ?_, ?_⟩, hl1, hl2, hr1, hr2⟩; (focus (simp [eqFr, eqHp, eqV, eqA, eqC, eqO, eqCs, eqAs, look_cons, look, rn, EK.cast, EK.sz, eqCaps]; done)); (simp [eqFr, eqHp, eqV, eqA, eqC, eqO, eqCs, eqAs, look_cons, look, rn, EK.cast, EK.sz, eqCaps, fCells]; done))
              | (refine ⟨(m1, m2), [(4, some 8), (5, some 9), (6, some 5), (7, some 7)], ⟨by rfl, ?_, ?_⟩, hl1, hl2, hr1, hr2⟩; (focus (simp [eqFr, eqHp, eqV, eqA, eqC, eqO, eqCs, eqAs, look_cons, look, rn, EK.cast, EK.sz, eqCaps]; done)); (simp [eqFr, eqHp, eqV, eqA, eqC, eqO, eqCs, eqAs, look_cons, look, rn, EK.cast, EK.sz, eqCaps, fCells]; done))
              | (refine ⟨(m1, m2), [(4, some 7), (5, some 9), (6, some 5), (7, some 8)], ⟨by rfl, ?_, ?_⟩, hl1, hl2, hr1, hr2⟩; (focus (simp [eqFr, eqHp, eqV, eqA, eqC, eqO, eqCs, eqAs, look_cons, look, rn, EK.cast, EK.sz, eqCaps]; done)); (simp [eqFr, eqHp, eqV, eqA, eqC, eqO, eqCs, eqAs, look_cons, look, rn, EK.cast, EK.sz, eqCaps, fCells]; done))
              | (refine ⟨(m1, m2), [(4, some 7), (5, some 8), (6, some 5), (7, some 9)], ⟨by rfl, ?_, ?_⟩, hl1, hl2, hr1, hr2⟩; (focus (simp [eqFr, eqHp, eqV, eqA, eqC, eqO, eqCs, eqAs, look_cons, look, rn, EK.cast, EK.sz, eqCaps]; done)); (simp [eqFr, eqHp, eqV, eqA, eqC, eqO, eqCs, eqAs, look_cons, look, rn, EK.cast, EK.sz, eqCaps, fCells]; done))
              | (refine ⟨(m1, m2), [(4, some 8), (5, some 9), (6, some 6), (7, some 5)], ⟨by rfl, ?_, ?_⟩, hl1, hl2, hr1, hr2⟩; (focus (simp [eqFr, eqHp, eqV, eqA, eqC, eqO, eqCs, eqAs, look_cons, look, rn, EK.cast, EK.sz, eqCaps]; done)); (simp [eqFr, eqHp, eqV, eqA, eqC, eqO, eqCs, eqAs, look_cons, look, rn, EK.cast, EK.sz, eqCaps, fCells]; done))
              | (refine ⟨(m1, m2), [(4, some 8), (5, some 9), (6, some 6), (7, some 7)], ⟨by rfl, ?_, ?_⟩, hl1, hl2, hr1, hr2⟩; (focus (simp [eqFr, eqHp, eqV, eqA, eqC, eqO, eqCs, eqAs, look_cons, look, rn, EK.cast, EK.sz, eqCaps]; done)); (simp [eqFr, eqHp, eqV, eqA, eqC, eqO, eqCs, eqAs, look_cons, look, rn, EK.cast, EK.sz, eqCaps, fCells]; done))
              | (refine ⟨(m1, m2), [(4, some 7), (5, some 9), (6, some 6), (7, some 8)], ⟨by rfl, ?_, ?_⟩, hl1, hl2, hr1, hr2⟩; (focus (simp [eqFr, eqHp, eqV, eqA, eqC, eqO, eqCs, eqAs, look_cons, look, rn, EK.cast, EK.sz, eqCaps]; done)); (simp [eqFr, eqHp, eqV, eqA, eqC, eqO, eqCs, eqAs, look_cons, look, rn, EK.cast, EK.sz, eqCaps, fCells]; done))
              | (refine ⟨(m1, m2), [(4, some 7), (5, some 8), (6, some 6), (7, some 9)], ⟨by rfl, ?_, ?_⟩, hl1, hl2, hr1, hr2⟩; (focus (simp [eqFr, eqHp, eqV, eqA, eqC, eqO, eqCs, eqAs, look_cons, look, rn, EK.cast, EK.sz, eqCaps]; done)); (simp [eqFr, eqHp, eqV, eqA, eqC, eqO, eqCs, eqAs, look_cons, look, rn, EK.cast, EK.sz, eqCaps, fCells]; done))
              | (refine ⟨(m1, m2), [(4, some 8), (5, some 9), (6, some 7), (7, some 5)], ⟨by rfl, ?_, ?_⟩, hl1, hl2, hr1, hr2⟩; (focus (simp [eqFr, eqHp, eqV, eqA, eqC, eqO, eqCs, eqAs, look_cons, look, rn, EK.cast, EK.sz, eqCaps]; done)); (simp [eqFr, eqHp, eqV, eqA, eqC, eqO, eqCs, eqAs, look_cons, look, rn, EK.cast, EK.sz, eqCaps, fCells]; done))
              | (refine ⟨(m1, m2), [(4, some 8), (5, some 9), (6, some 7), (7, some 6)], ⟨by rfl, ?_, ?_⟩, hl1, hl2, hr1, hr2⟩; (focus (simp [eqFr, eqHp, eqV, eqA, eqC, eqO, eqCs, eqAs, look_cons, look, rn, EK.cast, EK.sz, eqCaps]; done)); (simp [eqFr, eqHp, eqV, eqA, eqC, eqO, eqCs, eqAs, look_cons, look, rn, EK.cast, EK.sz, eqCaps, fCells]; done))
              | (refine ⟨(m1, m2), [(4, some 6), (5, some 9), (6, some 7), (7, some 8)], ⟨by rfl, ?_, ?_⟩, hl1, hl2, hr1, hr2⟩; (focus (simp [eqFr, eqHp, eqV, eqA, eqC, eqO, eqCs, eqAs, look_cons, look, rn, EK.cast, EK.sz, eqCaps]; done)); (simp [eqFr, eqHp, eqV, eqA, eqC, eqO, eqCs, eqAs, look_cons, look, rn, EK.cast, EK.sz, eqCaps, fCells]; done))
              | (refine ⟨(m1, m2), [(4, some 6), (5, some 8), (6, some 7), (7, some 9)], ⟨by rfl, ?_, ?_⟩, hl1, hl2, hr1, hr2⟩; (focus (simp [eqFr, eqHp, eqV, eqA, eqC, eqO, eqCs, eqAs, look_cons, look, rn, EK.cast, EK.sz, eqCaps]; done)); (simp [eqFr, eqHp, eqV, eqA, eqC, eqO, eqCs, eqAs, look_cons, look, rn, EK.cast, EK.sz, eqCaps, fCells]; done))
              | (refine ⟨(m1, m2), [(4, some 7), (5, some 9), (6, some 8), (7, some 5)], ⟨by rfl, ?_, ?_⟩, hl1, hl2, hr1, hr2⟩; (focus (simp [eqFr, eqHp, eqV, eqA, eqC, eqO, eqCs, eqAs, look_cons, look, rn, EK.cast, EK.sz, eqCaps]; done)); (simp [eqFr, eqHp, eqV, eqA, eqC, eqO, eqCs, eqAs, look_cons, look, rn, EK.cast, EK.sz, eqCaps, fCells]; done))
              | (refine ⟨(m1, m2), [(4, some 7), (5, some 9), (6, some 8), (7, some 6)], ⟨by rfl, ?_, ?_⟩, hl1, hl2, hr1, hr2⟩; (focus (simp [eqFr, eqHp, eqV, eqA, eqC, eqO, eqCs, eqAs, look_cons, look, rn, EK.cast, EK.sz, eqCaps]; done)); (simp [eqFr, eqHp, eqV, eqA, eqC, eqO, eqCs, eqAs, look_cons, look, rn, EK.cast, EK.sz, eqCaps, fCells]; done))
              | (refine ⟨(m1, m2), [(4, some 6), (5, some 9), (6, some 8), (7, some 7)], ⟨by rfl, ?_, ?_⟩, hl1, hl2, hr1, hr2⟩; (focus (simp [eqFr, eqHp, eqV, eqA, eqC, eqO, eqCs, eqAs, look_cons, look, rn, EK.cast, EK.sz, eqCaps]; done)); (simp [eqFr, eqHp, eqV, eqA, eqC, eqO, eqCs, eqAs, look_cons, look, rn, EK.cast, EK.sz, eqCaps, fCells]; done))
              | (refine ⟨(m1, m2), [(4, some 6), (5, some 7), (6, some 8), (7, some 9)], ⟨by rfl, ?_, ?_⟩, hl1, hl2, hr1, hr2⟩; (focus (simp [eqFr, eqHp, eqV, eqA, eqC, eqO, eqCs, eqAs, look_cons, look, rn, EK.cast, EK.sz, eqCaps]; done)); (simp [eqFr, eqHp, eqV, eqA, eqC, eqO, eqCs, eqAs, look_cons, look, rn, EK.cast, EK.sz, eqCaps, fCells]; done))
              | (refine ⟨(m1, m2), [(4, some 7), (5, some 8), (6, some 9), (7, some 5)], ⟨by rfl, ?_, ?_⟩, hl1, hl2, hr1, hr2⟩; (focus (simp [eqFr, eqHp, eqV, eqA, eqC, eqO, eqCs, eqAs, look_cons, look, rn, EK.cast, EK.sz, eqCaps]; done)); (simp [eqFr, eqHp, eqV, eqA, eqC, eqO, eqCs, eqAs, look_cons, look, rn, EK.cast, EK.sz, eqCaps, fCells]; done))
              | (refine ⟨(m1, m2), [(4, some 7), (5, some 8), (6, some 9), (7, some 6)], ⟨by rfl, ?_, ?_⟩, hl1, hl2, hr1, hr2⟩; (focus (simp [eqFr, eqHp, eqV, eqA, eqC, eqO, eqCs, eqAs, look_cons, look, rn, EK.cast, EK.sz, eqCaps]; done)); (simp [eqFr, eqHp, eqV, eqA, eqC, eqO, eqCs, eqAs, look_cons, look, rn, EK.cast, EK.sz, eqCaps, fCells]; done))
              | (refine ⟨(m1, m2), [(4, some 6), (5, some 8), (6, some 9), (7, some 7)], ⟨by rfl, ?_, ?_⟩, hl1, hl2, hr1, hr2⟩; (focus (simp [eqFr, eqHp, eqV, eqA, eqC, eqO, eqCs, eqAs, look_cons, look, rn, EK.cast, EK.sz, eqCaps]; done)); (simp [eqFr, eqHp, eqV, eqA, eqC, eqO, eqCs, eqAs, look_cons, look, rn, EK.cast, EK.sz, eqCaps, fCells]; done))
              | (refine ⟨(m1, m2), [(4, some 6), (5, some 7), (6, some 9), (7, some 8)], ⟨by rfl, ?_, ?_⟩, hl1, hl2, hr1, hr2⟩; (focus (simp [eqFr, eqHp, eqV, eqA, eqC, eqO, eqCs, eqAs, look_cons, look, rn, EK.cast, EK.sz, eqCaps]; done)); (simp [eqFr, eqHp, eqV, eqA, eqC, eqO, eqCs, eqAs, look_cons, look, rn, EK.cast, EK.sz, eqCaps, fCells]; done))
      · rintro ⟨m1, m2⟩ ⟨hl1, hl2, hr1, hr2⟩
        simp only at hl1 hl2 hr1 hr2 ⊢
        repeat' (first | exact rfl | ((conv => whnf); first | ((first | refine qA (fun h => ?_) fun h => ?_ | refine qN (fun h => ?_) fun h => ?_ | refine qB (fun h => ?_) fun h => ?_ | refine qC (fun h => ?_) fun h => ?_) <;> try exact absurd h (by omega)) | refine qM (fun h => ?_) fun h => ?_ | refine oM (by (first | omega | (simp only [lenS, InI, nmin, EK.sz]; omega) | (simp only [lenS, InI, nmin, EK.sz] at *; omega))) ?_ | refine oM ?_ ?_ | refine bM ?_ ?_ | refine draw_of Tryd.mixed Tryd.tyOk 60 (by kernel_rfl) ?_))
        (conv => whnf)
        refine callF (kept_c F hF hs m1 m2 m1.length m2.length rfl rfl (by omega) (by omega)) [0, 1, 4, 5, 6, 7] Tryd.call85 rfl (by simp [eqLs, eqL, eqO, eqC, eqCs, rn, renOf, look_cons, look, EK.cast]) (by simp [appN, ptrs, eqVL, eqV, eqA, eqC, eqCs, eqAs, eqCaps, EK.sz, rn, renOf, look_cons, look, arcV, fV]) (by simp [appN, ptrs, SV.lt, SA.lt, SC.lt, arcV, fV, lenN]; omega) ?_
        intro v s hv
        rw [keptPost_iff] at hv
        have hus : UsOk F (kpB m1 m2) := ⟨fun j hj => by
          unfold kpB
          rw [Bool.and_eq_true, hr1 j hj, hr2 j hj, rch_some (bk := true)]
          constructor
          · rintro ⟨h1, x, h2, h3⟩
            obtain ⟨e, h4, h5, rfl⟩ := (mem_endL _).1 h2
            exact ⟨h1, e, by omega, h5, h3⟩
          · rintro ⟨h1, e, h2, h3, h4⟩
            exact ⟨h1, e, (mem_endL _).2 ⟨e, by omega, h3, rfl⟩, h4⟩⟩
        generalize hT : kT F (kpB m1 m2) = T at hv
        obtain ⟨tst, tstart, tfin, tarcs, tc1, tc2⟩ := T
        obtain ⟨sp3, sq3, rfl, rfl⟩ := hv
        simp only at *
        repeat' (first | exact rfl | ((conv => whnf); first | ((first | refine qA (fun h => ?_) fun h => ?_ | refine qN (fun h => ?_) fun h => ?_ | refine qB (fun h => ?_) fun h => ?_ | refine qC (fun h => ?_) fun h => ?_) <;> try exact absurd h (by omega)) | refine qM (fun h => ?_) fun h => ?_ | refine oM (by (first | omega | (simp only [lenS, InI, nmin, EK.sz]; omega) | (simp only [lenS, InI, nmin, EK.sz] at *; omega))) ?_ | refine oM ?_ ?_ | refine bM ?_ ?_ | refine draw_of Tryd.mixed Tryd.tyOk 60 (by kernel_rfl) ?_))
        (conv => whnf)
        refine ⟨[(2, some 8), (3, some 9)], [(2, .arr true 3 .int tfin sp3), (3, .arr true 50 .arc tarcs sq3)], 4, .a (.agg [.i tst, .i tstart, .sl 2 1 0 tfin.length (tfin.length + sp3), .sl 3 5 0 tarcs.length (tarcs.length + sq3)]), ⟨by rfl, trivial, by simp [eqFr, eqHp, eqV, eqA, eqC, eqO, eqCs, eqAs, look_cons, look, rn, EK.cast, EK.sz, eqCaps]⟩, by simp [eqV, eqA, eqAs, eqC, eqCs, rn, look, look_cons, EK.sz], kpB m1 m2, hus, ?_⟩
        rw [hT]
        exact ⟨sp3, sq3, rfl, rfl⟩
end Go.Fw

/-
  What is useful alone costs the same.
-/
namespace Go.Fw
open Go

section
variable {p : Nat → Bool}

theorem rkB_mono : ∀ {j k : Nat}, j ≤ k → rkB p j ≤ rkB p k
  | j, 0, h => by rw [Nat.le_zero.1 h]; exact Nat.le_refl _
  | j, k + 1, h => by
    by_cases e : j = k + 1
    · rw [e]; exact Nat.le_refl _
    · have := rkB_mono (j := j) (k := k) (by omega)
      show _ ≤ if p k = true then rkB p k + 1 else rkB p k
      split <;> omega

theorem rkB_lt {j k : Nat} (h : j < k) (hj : p j = true) : rkB p j < rkB p k := by
  have h1 : rkB p (j + 1) = rkB p j + 1 := by show (if p j = true then _ else _) = _; rw [if_pos hj]
  have := rkB_mono (p := p) (j := j + 1) (k := k) h
  omega

theorem rkB_inj {j k : Nat} (hj : p j = true) (hk : p k = true) (h : rkB p j = rkB p k) : j = k := by
  rcases Nat.lt_trichotomy j k with q | q | q
  · have := rkB_lt q hj; omega
  · exact q
  · have := rkB_lt q hk; omega

theorem kfin_get (fin : List Int) : ∀ {n j : Nat}, j < n → p j = true → (kfin p fin n).getD (rkB p j) 0 = fin.getD j 0
  | 0, j, h, _ => by omega
  | n + 1, j, h, hj => by
    have hl := kfin_len p fin n
    have hs : kfin p fin (n + 1) = if p n = true then kfin p fin n ++ [fin.getD n 0] else kfin p fin n := rfl
    by_cases e : j = n
    · subst e
      rw [hs, if_pos hj]
      simp [List.getD, hl]
    · have ih := kfin_get fin (n := n) (j := j) (by omega) hj
      have hlt := rkB_lt (p := p) (show j < n by omega) hj
      rw [hs]
      split
      · rw [← ih]
        simp only [List.getD]
        rw [List.getElem?_append_left (by omega)]
      · exact ih

theorem kfin_mem (fin : List Int) : ∀ {n : Nat} {x : Int}, x ∈ kfin p fin n → ∃ j, j < n ∧ x = fin.getD j 0
  | 0, x, h => by cases h
  | n + 1, x, h => by
    have hs : kfin p fin (n + 1) = if p n = true then kfin p fin n ++ [fin.getD n 0] else kfin p fin n := rfl
    rw [hs] at h
    split at h
    · rcases List.mem_append.1 h with h | h
      · obtain ⟨j, h1, h2⟩ := kfin_mem fin h
        exact ⟨j, by omega, h2⟩
      · rw [List.mem_singleton] at h; exact ⟨n, by omega, h⟩
    · obtain ⟨j, h1, h2⟩ := kfin_mem fin h
      exact ⟨j, by omega, h2⟩

theorem mem_karc {l : List Arc} {b : Arc} : ∀ k, k ≤ l.length → (b ∈ karc p l k ↔ ∃ i, i < k ∧ kOk p (l.getD i aD) = true ∧ b = kArc p (l.getD i aD))
  | 0, _ => by simp [karc]
  | k + 1, hk => by
    have ih := mem_karc (l := l) (b := b) k (by omega)
    have hs : karc p l (k + 1) = if kOk p (l.getD k aD) = true then karc p l k ++ [kArc p (l.getD k aD)] else karc p l k := rfl
    rw [hs]
    split
    · rename_i h
      rw [List.mem_append, ih, List.mem_singleton]
      constructor
      · rintro (⟨i, h1, h2⟩ | rfl)
        · exact ⟨i, by omega, h2⟩
        · exact ⟨k, by omega, h, rfl⟩
      · rintro ⟨i, h1, h2, h3⟩
        by_cases q : i = k
        · subst q; exact .inr h3
        · exact .inl ⟨i, by omega, h2, h3⟩
    · rename_i h
      rw [ih]
      constructor
      · rintro ⟨i, h1, h2⟩
        exact ⟨i, by omega, h2⟩
      · rintro ⟨i, h1, h2, h3⟩
        by_cases q : i = k
        · subst q; exact absurd h2 h
        · exact ⟨i, by omega, h2, h3⟩

theorem mem_karcs {l : List Arc} {b : Arc} : b ∈ karc p l l.length ↔ ∃ a ∈ l, p a.f.toNat = true ∧ p a.t.toNat = true ∧ b = kArc p a := by
  rw [mem_karc _ (Nat.le_refl _)]
  constructor
  · rintro ⟨i, h1, h2, h3⟩
    unfold kOk at h2
    rw [Bool.and_eq_true] at h2
    exact ⟨_, getD_mem l i aD h1, h2.1, h2.2, h3⟩
  · rintro ⟨a, ha, h1, h2, h3⟩
    obtain ⟨i, hi, e⟩ := List.getElem_of_mem ha
    have e2 : l.getD i aD = a := by simp [List.getD, hi, e]
    exact ⟨i, hi, by rw [e2]; unfold kOk; rw [h1, h2]; rfl, by rw [e2]; exact h3⟩

end

theorem way_none {s t : Int} {u v : List Int} {d : Int} (h : Way [] s u v t d) : t = s := by
  induction h with
  | nil s => rfl
  | cons ha _ _ => cases ha

section
variable {F : TF} {p : Nat → Bool} (hF : FRng F) (hs : 0 ≤ F.start ∧ F.start < F.st) (hp : UsOk F p)
include hF hp

theorem keep_way {s t : Int} {u v : List Int} {d : Int} (hw : Way F.arcs s u v t d) : 0 ≤ s ∧ s < F.st → Rch F.arcs false [F.start] s → F.fin.getD t.toNat 0 ≠ -1 →
    0 ≤ t ∧ t < F.st ∧ p t.toNat = true ∧ Rch F.arcs true [t] s ∧ p s.toNat = true ∧ Way (karc p F.arcs F.arcs.length) (rkB p s.toNat : Nat) u v (rkB p t.toNat : Nat) d := by
  induction hw with
  | nil s =>
    intro h1 h2 h3
    have e : ((s.toNat : Nat) : Int) = s := by omega
    have : p s.toNat = true := (hp.iff s.toNat (by omega)).2 ⟨by rw [e]; exact h2, s.toNat, by omega, h3, by rw [e]; exact .here (by simp)⟩
    exact ⟨h1.1, h1.2, this, .here (by simp), this, .nil _⟩
  | @cons a u v t c ha hw ih =>
    intro h1 h2 h3
    have hb := hF.arc a ha
    have h2' : Rch F.arcs false [F.start] a.t := Rch.on (bk := false) h2 ha rfl
    obtain ⟨i1, i2, i3, i4, i5, i6⟩ := ih ⟨hb.2.2.1, hb.2.2.2⟩ h2' h3
    have h5 : Rch F.arcs true [t] a.f := Rch.on (bk := true) i4 ha rfl
    have e : ((a.f.toNat : Nat) : Int) = a.f := by omega
    have e2 : ((t.toNat : Nat) : Int) = t := by omega
    have hpf : p a.f.toNat = true := (hp.iff a.f.toNat (by omega)).2 ⟨by rw [e]; exact h2, t.toNat, by omega, h3, by rw [e, e2]; exact h5⟩
    refine ⟨i1, i2, i3, h5, hpf, ?_⟩
    exact Way.cons (a := kArc p a) (mem_karcs.2 ⟨a, ha, hpf, i5, rfl⟩) i6

omit hp in
theorem kept_way {r r' : Int} {u v : List Int} {d : Int} (hw : Way (karc p F.arcs F.arcs.length) r u v r' d) : ∀ j : Int, 0 ≤ j ∧ j < F.st → p j.toNat = true → r = (rkB p j.toNat : Nat) → ∃ j' : Int, 0 ≤ j' ∧ j' < F.st ∧ p j'.toNat = true ∧ r' = (rkB p j'.toNat : Nat) ∧ Way F.arcs j u v j' d := by
  induction hw with
  | nil s => intro j h1 h2 h3; exact ⟨j, h1.1, h1.2, h2, h3, .nil _⟩
  | @cons b u v t c hb hw ih =>
    intro j h1 h2 h3
    obtain ⟨a, ha, h4, h5, rfl⟩ := mem_karcs.1 hb
    have hr := hF.arc a ha
    have e : a.f = j := by
      have e1 : ((rkB p a.f.toNat : Nat) : Int) = (rkB p j.toNat : Nat) := h3
      have := rkB_inj h4 h2 (by omega)
      omega
    obtain ⟨j', q1, q2, q3, q4, q5⟩ := ih a.t ⟨hr.2.2.1, hr.2.2.2⟩ h5 rfl
    refine ⟨j', q1, q2, q3, q4, ?_⟩
    rw [← e]
    exact Way.cons ha q5

include hs
/-- What is useful costs the same. -/
theorem useful_wt {u v : List Int} {c : Int} : Wt (kT F p) u v c ↔ Wt F u v c := by
  by_cases h : p F.start.toNat = true
  · have e : kT F p = ⟨(rkB p F.st.toNat : Nat), (rkB p F.start.toNat : Nat), kfin p F.fin F.st.toNat, karc p F.arcs F.arcs.length, 0, 0⟩ := by unfold kT; rw [if_pos h]
    rw [e]
    constructor
    · rintro ⟨t, d, h1, h2, rfl⟩
      simp only at h1 h2 ⊢
      obtain ⟨j, q1, q2, q3, rfl, q5⟩ := kept_way hF h1 F.start hs h rfl
      rw [Int.toNat_natCast, kfin_get F.fin (by omega) q3] at h2 ⊢
      exact ⟨j, d, q5, h2, rfl⟩
    · rintro ⟨t, d, h1, h2, rfl⟩
      obtain ⟨i1, i2, i3, i4, i5, i6⟩ := keep_way hF hp h1 hs (.here (by simp)) h2
      refine ⟨_, d, i6, ?_⟩
      simp only
      rw [Int.toNat_natCast, kfin_get F.fin (by omega) i3]
      exact ⟨h2, rfl⟩
  · have e : kT F p = ⟨1, 0, [-1], [], 0, 0⟩ := by unfold kT; rw [if_neg h]
    rw [e]
    constructor
    · rintro ⟨t, d, h1, h2, rfl⟩
      simp only at h1 h2
      rw [way_none h1] at h2
      exact absurd rfl h2
    · rintro ⟨t, d, h1, h2, rfl⟩
      obtain ⟨i1, i2, i3, i4, i5, i6⟩ := keep_way hF hp h1 hs (.here (by simp)) h2
      exact absurd i5 h

omit hp in
end
end Go.Fw
