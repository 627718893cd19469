/-
  Beginnings counted in depth and in breadth are as many.
-/
import Derived.Test.YtlaenllbacalpaaDoorB13
import Derived.Test.YtlaenllbacalpaaDoorB10
import Derived.Test.YtlaenllbacalpaaDoorB11
import Derived.Test.YtlaenllbacalpaaDoorB09

set_option linter.unusedSimpArgs false
set_option linter.unusedVariables false

namespace Go.Fw
theorem Bg.pre {U : TF} {u v : List Int} (h : Bg U (u ++ v)) : Bg U u := by
  obtain ⟨t, c, h⟩ := h
  obtain ⟨q, d, _, h1, _⟩ := h.split
  exact ⟨q, d, h1⟩
theorem RdW.lets {L : List Arc} (hL : ∀ a ∈ L, 1 ≤ a.i ∧ a.i ≤ 9) {s t c : Int} {u : List Int} (h : RdW L s u t c) : ∀ x ∈ u, 1 ≤ x ∧ x ≤ 9 := by
  induction h with
  | nil s => intro x hx; cases hx
  | cons ha h ih =>
    intro x hx
    rcases List.mem_cons.1 hx with rfl | hx
    · exact hL _ ha
    · exact ih x hx
def okW (U : TF) : List Duo → List Int → Prop
  | _, [] => True
  | s, x :: w => (1 ≤ x ∧ x ≤ 9) ∧ sbB U s x ≠ -1 ∧ okW U (sbS U s x) w
def treeW (U : TF) : Nat → List Duo → List (List Int)
  | 0, _ => [[]]
  | f + 1, s => [] :: (List.range 9).flatMap fun (c : Nat) => if sbB U s ((c : Int) + 1) ≠ -1 then (treeW U f (sbS U s ((c : Int) + 1))).map (((c : Int) + 1) :: ·) else []
theorem treeW_len (U : TF) : ∀ (f : Nat) (s : List Duo), (treeW U f s).length = (treeL U f s).length
  | 0, s => rfl
  | f + 1, s => by
    unfold treeW treeL
    simp only [List.length_cons, List.length_flatMap]
    congr 3
    funext c
    by_cases h : sbB U s ((c : Int) + 1) ≠ -1
    · rw [if_pos h, if_pos h, List.length_map, treeW_len U f]
    · rw [if_neg h, if_neg h]; rfl
theorem treeW_mem (U : TF) : ∀ (f : Nat) (s : List Duo) (w : List Int), w ∈ treeW U f s ↔ okW U s w ∧ w.length ≤ f
  | 0, s, w => by
    unfold treeW
    rw [List.mem_singleton]
    constructor
    · rintro rfl; exact ⟨trivial, Nat.le_refl _⟩
    · rintro ⟨_, h⟩; exact List.length_eq_zero_iff.1 (by omega)
  | f + 1, s, w => by
    unfold treeW
    rw [List.mem_cons, List.mem_flatMap]
    cases w with
    | nil => exact ⟨fun _ => ⟨trivial, Nat.zero_le _⟩, fun _ => .inl rfl⟩
    | cons x w =>
      unfold okW
      constructor
      · rintro (h | ⟨c, hc, h⟩)
        · cases h
        · have hc := List.mem_range.1 hc
          by_cases hb : sbB U s ((c : Int) + 1) ≠ -1
          · rw [if_pos hb, List.mem_map] at h
            obtain ⟨w', h1, h2⟩ := h
            have e := List.cons.inj h2
            rw [e.2] at h1
            obtain ⟨g1, g2⟩ := (treeW_mem U f _ w).1 h1
            rw [← e.1, List.length_cons]
            exact ⟨⟨by omega, hb, g1⟩, by omega⟩
          · rw [if_neg hb] at h; cases h
      · rintro ⟨⟨h1, h2, h3⟩, h4⟩
        rw [List.length_cons] at h4
        have e : ((((x - 1).toNat : Nat) : Int) + 1) = x := by omega
        refine .inr ⟨(x - 1).toNat, List.mem_range.2 (by omega), ?_⟩
        rw [e, if_pos h2, List.mem_map]
        exact ⟨w, (treeW_mem U f _ w).2 ⟨h3, by omega⟩, rfl⟩
theorem treeW_nd (U : TF) : ∀ (f : Nat) (s : List Duo), (treeW U f s).Nodup
  | 0, s => by simp [treeW]
  | f + 1, s => by
    unfold treeW
    rw [List.nodup_cons]
    refine ⟨fun h => ?_, ?_⟩
    · rw [List.mem_flatMap] at h
      obtain ⟨c, _, h⟩ := h
      split at h
      · rw [List.mem_map] at h
        obtain ⟨_, _, h⟩ := h
        cases h
      · cases h
    · unfold List.Nodup
      rw [List.pairwise_flatMap]
      refine ⟨fun c _ => ?_, ?_⟩
      · split
        · rw [List.pairwise_map]
          exact (treeW_nd U f _).imp fun h e => h (List.cons.inj e).2
        · exact List.Pairwise.nil
      · refine List.Pairwise.imp ?_ (List.nodup_range (n := 9))
        intro c d hcd x hx y hy e
        subst e
        have key : ∀ c : Nat, x ∈ (if sbB U s ((c : Int) + 1) ≠ -1 then (treeW U f (sbS U s ((c : Int) + 1))).map (((c : Int) + 1) :: ·) else []) → ∃ w, x = ((c : Int) + 1) :: w := by
          intro c h
          split at h
          · rw [List.mem_map] at h
            obtain ⟨w, _, h⟩ := h
            exact ⟨w, h.symm⟩
          · cases h
        obtain ⟨w, h1⟩ := key c hx
        obtain ⟨w', h2⟩ := key d hy
        rw [h1] at h2
        have := (List.cons.inj h2).1
        omega
theorem bgn_tree (U : TF) : ∀ (f m : Nat) (s : List Duo), bgnF U f m s ≤ (treeL U f s).length
  | 0, m, s => Nat.le_refl _
  | f + 1, m, s => by
    show bgnP U f m s 9 ≤ (s :: _).length
    have : ∀ k, bgnP U f m s k ≤ ((List.range k).flatMap fun (c : Nat) => if sbB U s ((c : Int) + 1) ≠ -1 then treeL U f (sbS U s ((c : Int) + 1)) else []).length + 1 := by
      intro k
      induction k with
      | zero => simp [bgnP]
      | succ k ih =>
        rw [bgnP_succ, List.range_succ, List.flatMap_append, List.length_append]
        simp only [List.flatMap_cons, List.flatMap_nil, List.append_nil]
        split
        · rename_i h
          rw [if_pos h.2]
          have := bgn_tree U f (m - bgnP U f m s k) (sbS U s ((k : Int) + 1))
          omega
        · omega
    rw [List.length_cons]
    exact this 9
section
variable {U : TF} (hU : ∀ a ∈ U.arcs, (0 ≤ a.f ∧ a.f < U.st) ∧ (0 ≤ a.t ∧ a.t < U.st) ∧ 0 ≤ a.w ∧ a.w ≤ 1000000000)
include hU
theorem okW_iff : ∀ (w w0 : List Int) (r : Int) (s : List Duo), SubOk U w0 r s → Bg U w0 → (okW U s w ↔ (∀ x ∈ w, 1 ≤ x ∧ x ≤ 9) ∧ Bg U (w0 ++ w))
  | [], w0, r, s, hs, hb => by
    rw [List.append_nil]
    exact ⟨fun _ => ⟨fun x hx => (by cases hx), hb⟩, fun _ => trivial⟩
  | x :: w, w0, r, s, hs, hb => by
    unfold okW
    have ea : w0 ++ x :: w = (w0 ++ [x]) ++ w := by simp
    constructor
    · rintro ⟨h1, h2, h3⟩
      obtain ⟨g1, g2⟩ := (okW_iff w (w0 ++ [x]) _ _ (hs.step hU h2) (hs.yes hU h2)).1 h3
      exact ⟨fun y hy => (List.mem_cons.1 hy).elim (fun e => e ▸ h1) (g1 y), ea ▸ g2⟩
    · rintro ⟨h1, h2⟩
      rw [ea] at h2
      have hb2 : sbB U s x ≠ -1 := fun e => hs.no hU e h2.pre
      exact ⟨h1 x (by simp), hb2, (okW_iff w (w0 ++ [x]) _ _ (hs.step hU hb2) (hs.yes hU hb2)).2 ⟨fun y hy => h1 y (by simp [hy]), h2⟩⟩
theorem treeW_bg (hlet : ∀ a ∈ U.arcs, 1 ≤ a.i ∧ a.i ≤ 9) {f : Nat} {w : List Int} : w ∈ treeW U f [⟨U.start, 0⟩] ↔ Bg U w ∧ w.length ≤ f := by
  rw [treeW_mem, okW_iff hU w [] 0 _ (SubOk.start U) ⟨_, _, .nil _⟩]
  constructor
  · rintro ⟨⟨h1, h2⟩, h3⟩; exact ⟨h2, h3⟩
  · rintro ⟨⟨t, c, h⟩, h3⟩; exact ⟨⟨h.lets hlet, t, c, h⟩, h3⟩
omit hU
theorem WSt.full {W vs : List (List Int)} {par sym : List Int} (hlet : ∀ a ∈ U.arcs, 1 ≤ a.i ∧ a.i ≤ 9) (h : WSt U W vs par sym W.length 1) : ∀ w, Bg U w → ∃ k, k < W.length ∧ W.getD k [] = w := by
  have : ∀ (n : Nat) (w : List Int), w.length = n → Bg U w → ∃ k, k < W.length ∧ W.getD k [] = w := by
    intro n
    induction n with
    | zero =>
      intro w hw _
      have : w = [] := List.length_eq_zero_iff.1 hw
      subst this
      exact ⟨0, h.pos, h.w0⟩
    | succ n ih =>
      intro w hw hb
      obtain ⟨v, x, rfl⟩ : ∃ v x, w = v ++ [x] := ⟨w.dropLast, w.getLast (by intro e; rw [e] at hw; cases hw), (List.dropLast_concat_getLast _).symm⟩
      rw [List.length_append, List.length_singleton] at hw
      obtain ⟨k, h1, h2⟩ := ih v (by omega) hb.pre
      have hx : 1 ≤ x ∧ x ≤ 9 := by
        obtain ⟨t, c, hb⟩ := hb
        exact hb.lets hlet x (by simp)
      rw [← h2] at hb ⊢
      exact h.all k x h1 hx.1 hx.2 (.inl h1) hb
  exact fun w => this w.length w rfl
theorem getD_mem2 {W : List (List Int)} {w : List Int} : w ∈ W ↔ ∃ k, k < W.length ∧ W.getD k [] = w := by
  rw [List.mem_iff_getElem]
  constructor
  · rintro ⟨k, hk, rfl⟩; exact ⟨k, hk, by simp [List.getD, hk]⟩
  · rintro ⟨k, hk, rfl⟩; exact ⟨k, hk, by simp [List.getD, hk]⟩
theorem WSt.nodup {W vs : List (List Int)} {par sym : List Int} {i : Nat} {c : Int} (h : WSt U W vs par sym i c) : W.Nodup := by
  unfold List.Nodup
  rw [List.pairwise_iff_getElem]
  intro j k hj hk hjk e
  have := h.nd j k hj hk (by simp [List.getD, hj, hk, e])
  omega
include hU
end
end Go.Fw

/-
  One way for each word: what is made costs the same for each word.
-/
namespace Go.Fw
def arcD (U : TF) (L : List (List Duo)) (j : Nat) (x : Int) : Arc := ⟨(j : Int), x, x, ((L.idxOf (sbS U (L.getD j []) x) : Nat) : Int), sbB U (L.getD j []) x⟩
structure RI (U : TF) (i : Nat) (c : Int) (st : DS) : Prop where
  l0 : st.1.getD 0 [] = [⟨U.start, 0⟩]
  len : 1 ≤ st.1.length
  snd : ∀ a ∈ st.2, ∃ (j : Nat) (x : Int), (j < i ∨ j = i ∧ x < c) ∧ (1 ≤ x ∧ x ≤ 9) ∧ j < st.1.length ∧ sbB U (st.1.getD j []) x ≠ -1 ∧ sbS U (st.1.getD j []) x ∈ st.1 ∧ a = arcD U st.1 j x
  cpl : ∀ (j : Nat) (x : Int), (j < i ∨ j = i ∧ x < c) → 1 ≤ x → x ≤ 9 → j < st.1.length → sbB U (st.1.getD j []) x ≠ -1 → arcD U st.1 j x ∈ st.2
  srt : Srt st.2
  rch : ∀ j, j < st.1.length → ∃ w d, RdW st.2 0 w (j : Int) d
theorem RdW.mono {L M : List Arc} (hLM : ∀ a ∈ L, a ∈ M) {s t c : Int} {u : List Int} (h : RdW L s u t c) : RdW M s u t c := by
  induction h with
  | nil s => exact .nil s
  | cons ha h ih => exact .cons (hLM _ ha) ih
theorem getD_idxOf {L : List (List Duo)} {s : List Duo} (h : s ∈ L) : L.getD (L.idxOf s) [] = s := by
  have h1 := List.idxOf_lt_length_of_mem h
  simp only [List.getD, List.getElem?_eq_getElem h1, Option.getD_some]
  exact List.getElem_idxOf h1
theorem numL_app (L : List (List Duo)) (s : List Duo) : ∃ M, numL L s = L ++ M := by
  unfold numL
  split
  · exact ⟨[], by simp⟩
  · exact ⟨[s], rfl⟩
theorem arcD_app {U : TF} {L M : List (List Duo)} {j : Nat} {x : Int} (hj : j < L.length) (hs : sbS U (L.getD j []) x ∈ L) : arcD U (L ++ M) j x = arcD U L j x := by
  have e : (L ++ M).getD j [] = L.getD j [] := by simp only [List.getD]; rw [List.getElem?_append_left hj]
  unfold arcD
  rw [e, idxOf_in hs]
theorem RI.start (U : TF) : RI U 0 1 (rowsD U 0) := by
  refine ⟨rfl, by simp [rowsD], fun a ha => by simp [rowsD] at ha, fun j x h h1 h2 hj hb => by omega, List.Pairwise.nil, fun j hj => ?_⟩
  simp only [rowsD, List.length_cons, List.length_nil] at hj
  have : j = 0 := by omega
  subst this
  exact ⟨[], 0, .nil _⟩
theorem RI.skip {U : TF} {i : Nat} {c : Int} {st : DS} (h : RI U i c st) (hb : sbB U (st.1.getD i []) c = -1) : RI U i (c + 1) st :=
  { h with
    snd := fun a ha => by
      obtain ⟨j, x, h1, h2⟩ := h.snd a ha
      exact ⟨j, x, by omega, h2⟩
    cpl := fun j x h1 h2 h3 h4 h5 => by
      by_cases e : j = i ∧ x = c
      · rw [e.1, e.2] at h5; exact absurd hb h5
      · exact h.cpl j x (by omega) h2 h3 h4 h5 }
theorem RI.next {U : TF} {i : Nat} {st : DS} (h : RI U i 10 st) : RI U (i + 1) 1 st :=
  { h with
    snd := fun a ha => by
      obtain ⟨j, x, h1, h2⟩ := h.snd a ha
      exact ⟨j, x, by omega, h2⟩
    cpl := fun j x h1 h2 h3 h4 h5 => h.cpl j x (by omega) h2 h3 h4 h5 }
theorem RI.push {U : TF} {i : Nat} {c : Int} {st : DS} (h : RI U i c st) (hi : i < st.1.length) (hc : 1 ≤ c ∧ c ≤ 9) (hb : sbB U (st.1.getD i []) c ≠ -1) :
    RI U i (c + 1) (numL st.1 (sbS U (st.1.getD i []) c), st.2 ++ [arcD U (numL st.1 (sbS U (st.1.getD i []) c)) i c]) := by
  obtain ⟨L, raw⟩ := st
  simp only at hi hb ⊢
  have hmem : sbS U (L.getD i []) c ∈ numL L (sbS U (L.getD i []) c) := numL_mem
  have hlen := numL_len L (sbS U (L.getD i []) c)
  have hcase : numL L (sbS U (L.getD i []) c) = L ∨ numL L (sbS U (L.getD i []) c) = L ++ [sbS U (L.getD i []) c] := by unfold numL; split <;> simp
  obtain ⟨M, hM⟩ := numL_app L (sbS U (L.getD i []) c)
  have hget : ∀ j, j < L.length → (numL L (sbS U (L.getD i []) c)).getD j [] = L.getD j [] := fun j hj => numL_get hj
  have hnew : arcD U (numL L (sbS U (L.getD i []) c)) i c = ⟨(i : Int), c, c, (((numL L (sbS U (L.getD i []) c)).idxOf (sbS U (L.getD i []) c) : Nat) : Int), sbB U (L.getD i []) c⟩ := by unfold arcD; rw [hget i hi]
  generalize hN : numL L (sbS U (L.getD i []) c) = N at *
  generalize hs : sbS U (L.getD i []) c = s at *
  have hkeep : ∀ j x, j < L.length → sbS U (L.getD j []) x ∈ L → arcD U N j x = arcD U L j x := fun j x h1 h2 => by rw [hM]; exact arcD_app h1 h2
  refine ⟨?_, ?_, fun a ha => ?_, fun j x h1 h2 h3 h4 h5 => ?_, ?_, fun j hj => ?_⟩
  · rw [hget 0 h.len]; exact h.l0
  · have := h.len; simp only at this ⊢; omega
  · simp only at ha ⊢
    rcases List.mem_append.1 ha with ha | ha
    · obtain ⟨j, x, g1, g2, g3, g4, g5, rfl⟩ := h.snd a ha
      refine ⟨j, x, by omega, g2, by simp only at g3; omega, by rw [hget j g3]; exact g4, ?_, (hkeep j x g3 g5).symm⟩
      rw [hget j g3, hM]
      exact List.mem_append.2 (.inl g5)
    · rw [List.mem_singleton] at ha
      subst ha
      exact ⟨i, c, .inr ⟨rfl, by omega⟩, hc, by omega, by rw [hget i hi]; exact hb, by rw [hget i hi, hs]; exact hmem, rfl⟩
  · simp only at h4 h5 ⊢
    rw [List.mem_append, List.mem_singleton]
    by_cases e : j = i ∧ x = c
    · right; rw [e.1, e.2]
    · left
      have hj : j < L.length := by omega
      rw [hget j hj] at h5
      have g := h.cpl j x (by omega) h2 h3 hj h5
      obtain ⟨j', x', q1, q2, q3, q4, q5, q6⟩ := h.snd _ g
      have e1 : (j : Int) = j' := congrArg Arc.f q6
      have e2 : x = x' := congrArg Arc.i q6
      have e3 : j = j' := by omega
      subst e2 e3
      rw [hkeep j x hj q5]
      exact g
  · refine List.pairwise_append.2 ⟨h.srt, List.pairwise_singleton _ _, fun a ha b hb' => ?_⟩
    rw [List.mem_singleton] at hb'
    subst hb'
    obtain ⟨j, x, q1, q2, q3, q4, q5, rfl⟩ := h.snd a ha
    rw [aheadB_iff]
    show (j : Int) < (i : Int) ∨ (j : Int) = i ∧ (x < c ∨ _)
    omega
  · simp only at hj ⊢
    by_cases hj2 : j < L.length
    · obtain ⟨w, d, hr⟩ := h.rch j hj2
      exact ⟨w, d, hr.mono fun a ha => List.mem_append.2 (.inl ha)⟩
    · obtain ⟨w, d, hr⟩ := h.rch i hi
      have hr2 := (hr.mono (M := raw ++ [arcD U N i c]) fun a ha => List.mem_append.2 (.inl ha)).snoc (List.mem_append.2 (.inr (List.mem_singleton.2 rfl))) rfl
      have e : (arcD U N i c).t = (j : Int) := by
        rw [hnew]
        simp only
        rcases hcase with e | e
        · rw [e] at hj; omega
        · have hsn : s ∉ L := by
            intro hin
            rw [← hN] at e
            unfold numL at e
            rw [if_pos hin] at e
            have := congrArg List.length e
            simp at this
          rw [e] at hj ⊢
          rw [idxOf_out hsn]
          simp at hj ⊢
          omega
      rw [e] at hr2
      exact ⟨_, _, hr2⟩
theorem RI.step {U : TF} {i : Nat} {c : Int} {st : DS} (h : RI U i c st) (hi : i < st.1.length) (hc : 1 ≤ c ∧ c ≤ 9) : RI U i (c + 1) (stD U i st c) := by
  unfold stD
  by_cases hb : sbB U (st.1.getD i []) c = -1
  · rw [if_pos hb]; exact h.skip hb
  · rw [if_neg hb]
    have := h.push hi hc hb
    have e : arcD U (numL st.1 (sbS U (st.1.getD i []) c)) i c = ⟨(i : Int), c, c, (((numL st.1 (sbS U (st.1.getD i []) c)).idxOf (sbS U (st.1.getD i []) c) : Nat) : Int), sbB U (st.1.getD i []) c⟩ := by
      unfold arcD; rw [numL_get hi]
    rw [← e]
    exact this
theorem stD_len {U : TF} {i : Nat} {c : Int} {st : DS} : st.1.length ≤ (stD U i st c).1.length := by
  unfold stD
  split
  · exact Nat.le_refl _
  · exact (numL_len _ _).1
theorem RI.row {U : TF} {i : Nat} {st : DS} (h : RI U i 1 st) (hi : i < st.1.length) : ∀ k : Nat, k ≤ 9 → RI U i ((k : Int) + 1) (rowP U i st k) ∧ st.1.length ≤ (rowP U i st k).1.length
  | 0, _ => ⟨h, Nat.le_refl _⟩
  | k + 1, hk => by
    obtain ⟨h1, h2⟩ := RI.row h hi k (by omega)
    rw [rowP_succ]
    refine ⟨?_, Nat.le_trans h2 stD_len⟩
    have := h1.step (by omega) (by omega)
    rwa [show ((k : Int) + 1 + 1) = ((k + 1 : Nat) : Int) + 1 by omega] at this
theorem MDone.ri {U : TF} {st : DS} (h : MDone U st) : RI U st.1.length 1 st := by
  obtain ⟨k, e, hk⟩ := h
  have hlt : ∀ j, j < k → j < (rowsD U j).1.length := by
    intro j hj
    refine Classical.byContradiction fun hc => ?_
    have := rows_stop (U := U) (j := j) (by omega) (k - j)
    rw [show j + (k - j) = k by omega, e] at this
    rw [← this] at hc
    omega
  have : ∀ j, j ≤ k → RI U j 1 (rowsD U j) := by
    intro j
    induction j with
    | zero => intro _; exact RI.start U
    | succ j ih =>
      intro hj
      exact ((ih (by omega)).row (hlt j (by omega)) 9 (Nat.le_refl _)).1.next
  have := this k (Nat.le_refl _)
  rwa [e, hk] at this
section
variable {U : TF} (hU : ∀ a ∈ U.arcs, (0 ≤ a.f ∧ a.f < U.st) ∧ (0 ≤ a.t ∧ a.t < U.st) ∧ 0 ≤ a.w ∧ a.w ≤ 1000000000) {st : DS} (h : RI U st.1.length 1 st)
include h
theorem RI.arc {a : Arc} (ha : a ∈ st.2) : ∃ (j : Nat) (x : Int), (1 ≤ x ∧ x ≤ 9) ∧ j < st.1.length ∧ sbB U (st.1.getD j []) x ≠ -1 ∧ sbS U (st.1.getD j []) x ∈ st.1 ∧ a.f = j ∧ a.i = x ∧ a.o = x ∧ a.w = sbB U (st.1.getD j []) x ∧ (0 ≤ a.t ∧ a.t.toNat < st.1.length) ∧ st.1.getD a.t.toNat [] = sbS U (st.1.getD j []) x := by
  obtain ⟨j, x, h1, h2, h3, h4, h5, rfl⟩ := h.snd a ha
  exact ⟨j, x, h2, h3, h4, h5, rfl, rfl, rfl, rfl, ⟨Int.natCast_nonneg _, List.idxOf_lt_length_of_mem h5⟩, getD_idxOf h5⟩
include hU
theorem RI.sub {w : List Int} {j d : Int} (hr : RdW st.2 0 w j d) : SubOk U w d (st.1.getD j.toNat []) := by
  have : ∀ (n : Nat) (w : List Int) (j d : Int), w.length = n → RdW st.2 0 w j d → SubOk U w d (st.1.getD j.toNat []) := by
    intro n
    induction n with
    | zero =>
      intro w j d hw hr
      have : w = [] := List.length_eq_zero_iff.1 hw
      subst this
      obtain ⟨rfl, rfl⟩ := hr.none rfl
      rw [show (0 : Int).toNat = 0 from rfl, h.l0]
      exact SubOk.start U
    | succ n ih =>
      intro w j d hw hr
      obtain ⟨v, x, rfl⟩ : ∃ v x, w = v ++ [x] := ⟨w.dropLast, w.getLast (by intro e; rw [e] at hw; cases hw), (List.dropLast_concat_getLast _).symm⟩
      rw [List.length_append, List.length_singleton] at hw
      obtain ⟨a, ha, e, h1, h2, h3, h4⟩ := hr.unsnoc
      have hv := ih v a.f e (by omega) h1
      obtain ⟨i, y, g1, g2, g3, g4, g5, g6, g7, g8, g9, g10⟩ := h.arc ha
      rw [g5, Int.toNat_natCast] at hv
      rw [← h3, g10, h4, g8, ← h2, g6]
      exact hv.step hU g3
  exact this w.length w j d rfl hr
theorem RI.reads (hlet : ∀ a ∈ U.arcs, 1 ≤ a.i ∧ a.i ≤ 9) {w : List Int} (hb : Bg U w) : ∃ (j : Nat) (d : Int), j < st.1.length ∧ RdW st.2 0 w j d := by
  have : ∀ (n : Nat) (w : List Int), w.length = n → Bg U w → ∃ (j : Nat) (d : Int), j < st.1.length ∧ RdW st.2 0 w j d := by
    intro n
    induction n with
    | zero =>
      intro w hw _
      have : w = [] := List.length_eq_zero_iff.1 hw
      subst this
      exact ⟨0, 0, h.len, .nil _⟩
    | succ n ih =>
      intro w hw hb
      obtain ⟨v, x, rfl⟩ : ∃ v x, w = v ++ [x] := ⟨w.dropLast, w.getLast (by intro e; rw [e] at hw; cases hw), (List.dropLast_concat_getLast _).symm⟩
      rw [List.length_append, List.length_singleton] at hw
      obtain ⟨j, d, hj, hr⟩ := ih v (by omega) hb.pre
      have hs := h.sub hU hr
      rw [Int.toNat_natCast] at hs
      have hx : 1 ≤ x ∧ x ≤ 9 := by
        obtain ⟨t, c, hb⟩ := hb
        exact hb.lets hlet x (by simp)
      have hne : sbB U (st.1.getD j []) x ≠ -1 := fun e => hs.no hU e hb
      have ha := h.cpl j x (.inl hj) hx.1 hx.2 hj hne
      obtain ⟨i, y, g1, g2, g3, g4, g5, g6, g7, g8, g9, g10⟩ := h.arc ha
      have hr2 := hr.snoc ha rfl
      rw [show (arcD U st.1 j x).t = ((((arcD U st.1 j x).t.toNat : Nat) : Int)) by omega] at hr2
      exact ⟨_, _, g9.2, hr2⟩
  exact this w.length w rfl hb
end
theorem way_rd {L : List Arc} (hL : ∀ a ∈ L, a.i = a.o ∧ a.i ≠ 0) {s t d : Int} {u v : List Int} (h : Way L s u v t d) : u = v ∧ RdW L s u t d := by
  induction h with
  | nil s => exact ⟨rfl, .nil _⟩
  | cons ha h ih =>
    have := hL _ ha
    obtain ⟨rfl, h2⟩ := ih
    rw [← this.1]
    unfold lab
    rw [if_neg this.2]
    exact ⟨rfl, .cons ha h2⟩
theorem rd_way {L : List Arc} (hL : ∀ a ∈ L, a.i = a.o ∧ a.i ≠ 0) {s t d : Int} {u : List Int} (h : RdW L s u t d) : Way L s u u t d := by
  induction h with
  | nil s => exact .nil _
  | cons ha h ih =>
    have h1 := hL _ ha
    have := Way.cons ha ih
    rw [← h1.1] at this
    unfold lab at this
    rwa [if_neg h1.2] at this
def mkD (U : TF) (st : DS) (cf ca : Nat) : TF := ⟨(st.1.length : Nat), 0, st.1.map (finD U), st.2, cf, ca⟩
section
variable {U : TF} (hU : ∀ a ∈ U.arcs, (0 ≤ a.f ∧ a.f < U.st) ∧ (0 ≤ a.t ∧ a.t < U.st) ∧ 0 ≤ a.w ∧ a.w ≤ 1000000000)
  (hlet : ∀ a ∈ U.arcs, (1 ≤ a.i ∧ a.i ≤ 9) ∧ a.i = a.o) (hfin : ∀ j : Nat, -1 ≤ U.fin.getD j 0) {st : DS} (h : RI U st.1.length 1 st)
theorem mkD_fin {j : Nat} (hj : j < st.1.length) : (st.1.map (finD U)).getD j 0 = finD U (st.1.getD j []) := by
  simp [List.getD, hj]
include hU hlet hfin h
theorem mkD_wt {cf ca : Nat} {l : List Int} {n : Int} (hn : MinOf (Wt (mkD U st cf ca) l l) n) : MinOf (Wt U l l) n := by
  have hL : ∀ a ∈ U.arcs, a.i = a.o ∧ a.i ≠ 0 := fun a ha => by have := hlet a ha; omega
  have hR : ∀ a ∈ st.2, a.i = a.o ∧ a.i ≠ 0 := fun a ha => by
    obtain ⟨i, y, g1, g2, g3, g4, g5, g6, g7, g8, g9, g10⟩ := h.arc ha
    omega
  have hUw : ∀ c, Wt U l l c ↔ ∃ t d, RdW U.arcs U.start l t d ∧ U.fin.getD t.toNat 0 ≠ -1 ∧ c = d + U.fin.getD t.toNat 0 := fun c =>
    ⟨fun ⟨t, d, h1, h2, h3⟩ => ⟨t, d, (way_rd hL h1).2, h2, h3⟩, fun ⟨t, d, h1, h2, h3⟩ => ⟨t, d, rd_way hL h1, h2, h3⟩⟩
  have hsub : ∀ j d : Int, RdW st.2 0 l j d → MinOf (Wt U l l) (if finD U (st.1.getD j.toNat []) = -1 then -1 else d + finD U (st.1.getD j.toNat [])) := by
    intro j d hr
    have hs := h.sub hU hr
    have hm := finD_min hs.b0 hfin
    have hr0 := hs.r0
    by_cases e : finD U (st.1.getD j.toNat []) = -1
    · rw [if_pos e]
      refine .inl ⟨rfl, fun c hc => ?_⟩
      obtain ⟨t, d', h1, h2, rfl⟩ := (hUw c).1 hc
      obtain ⟨f, hf, rfl⟩ := hs.all _ _ h1
      exact (hm.le (c := _) ⟨f, hf, h2, rfl⟩).1 e
    · rw [if_neg e]
      have hlow := hm.low
      obtain ⟨f, hf, h2, h3⟩ := hm.is e
      refine .inr ⟨by omega, (hUw _).2 ⟨f.a, d + f.b, (hs.min f hf).is (by have := hs.b0 f hf; omega), h2, by omega⟩, fun c hc => ?_⟩
      obtain ⟨t, d', h1, h2, rfl⟩ := (hUw c).1 hc
      obtain ⟨g, hg, rfl⟩ := hs.all _ _ h1
      have := (hm.le (c := _) ⟨g, hg, h2, rfl⟩).2
      have := ((hs.min g hg).le h1).2
      omega
  rcases hn with ⟨rfl, h1⟩ | ⟨h0, ⟨j, d, h1, h2, rfl⟩, h3⟩
  · refine .inl ⟨rfl, fun c hc => ?_⟩
    obtain ⟨t, d, g1, g2, g3⟩ := (hUw c).1 hc
    obtain ⟨j, e, hj, hr⟩ := h.reads hU (fun a ha => (hlet a ha).1) ⟨t, d, g1⟩
    have hm := hsub _ _ hr
    rw [Int.toNat_natCast] at hm
    by_cases e2 : finD U (st.1.getD j []) = -1
    · rw [if_pos e2] at hm
      exact (hm.le hc).1 rfl
    · refine h1 (e + finD U (st.1.getD j [])) ⟨j, e, rd_way hR hr, ?_, ?_⟩
      · show (st.1.map (finD U)).getD _ 0 ≠ -1
        rw [Int.toNat_natCast, mkD_fin hj]
        exact e2
      · show _ = e + (st.1.map (finD U)).getD _ 0
        rw [Int.toNat_natCast, mkD_fin hj]
  · have hr := (way_rd hR h1).2
    have hm := hsub _ _ hr
    have h2' : (st.1.map (finD U)).getD j.toNat 0 ≠ -1 := h2
    have hj : j.toNat < st.1.length := by
      have h9 := hr.rng (n := (st.1.length : Nat)) (fun a ha => by
        obtain ⟨i, y, g1, g2, g3, g4, g5, g6, g7, g8, g9, g10⟩ := h.arc ha
        omega) ⟨Int.le_refl _, by show (0 : Int) < _; have := h.len; omega⟩
      omega
    rw [mkD_fin hj] at h2'
    rw [if_neg h2'] at hm
    show MinOf (Wt U l l) (d + (st.1.map (finD U)).getD j.toNat 0)
    rw [mkD_fin hj]
    exact hm
end
end Go.Fw

/-
  Marks that go along arcs, over and over: as often as there are states is often enough.
-/
namespace Go.Fw
def mkP (l : List Arc) (bk : Bool) (ms : List Bool) : Nat → List Bool
  | 0 => ms
  | k + 1 => (mkP l bk ms k).set (dstA bk (l.getD k aD)).toNat ((mkP l bk ms k).getD (dstA bk (l.getD k aD)).toNat false || (mkP l bk ms k).getD (srcA bk (l.getD k aD)).toNat false)
def itM (l : List Arc) (bk : Bool) (ms : List Bool) : Nat → List Bool
  | 0 => ms
  | n + 1 => mkP l bk (itM l bk ms n) l.length
section
variable {l : List Arc} {bk : Bool} {n : Nat}
def ClosedM (l : List Arc) (bk : Bool) (ms : List Bool) : Prop := ∀ a ∈ l, ms.getD (srcA bk a).toNat false = true → ms.getD (dstA bk a).toNat false = true
def mcnt (n : Nat) (ms : List Bool) : Nat := cin n fun j => ms.getD j false
theorem cin_mono {p q : Nat → Bool} : ∀ {n : Nat}, (∀ i, i < n → p i = true → q i = true) → cin n p ≤ cin n q
  | 0, _ => Nat.le_refl _
  | n + 1, h => by
    have := cin_mono (n := n) fun i hi => h i (by omega)
    rw [cin_succ, cin_succ]
    by_cases hp : p n = true
    · rw [if_pos hp, if_pos (h n (by omega) hp)]; omega
    · rw [if_neg hp]; omega
theorem cin_lt {p q : Nat → Bool} : ∀ {n : Nat}, (∀ i, i < n → p i = true → q i = true) → ∀ {j : Nat}, j < n → p j = false → q j = true → cin n p + 1 ≤ cin n q
  | 0, _, _, h, _, _ => by omega
  | n + 1, h, j, hj, h1, h2 => by
    rw [cin_succ, cin_succ]
    by_cases e : j = n
    · subst e
      have := cin_mono (p := p) (q := q) (n := j) fun i hi => h i (by omega)
      rw [if_neg (by rw [h1]; exact Bool.false_ne_true), if_pos h2]
      omega
    · have := cin_lt (n := n) (fun i hi => h i (by omega)) (show j < n by omega) h1 h2
      by_cases hp : p n = true
      · rw [if_pos hp, if_pos (h n (by omega) hp)]; omega
      · rw [if_neg hp]; omega
end
end Go.Fw

namespace Go.Fw
open Go Go.Proofs
def kpB (m1 m2 : List Bool) (j : Nat) : Bool := m1.getD j false && m2.getD j false
theorem keep1_c (m1 m2 : List Bool) (n1 n2 : Nat) (hn1 : n1 = m1.length) (hn2 : n2 = m2.length) (x : Int) (hx : 0 ≤ x) (h1 : x < m1.length) (h2 : x < m2.length) :
    Ct Tryd.prog 86 [.i x, .c (.ptr 2 0), .c (.ptr 3 0)] [] [(0, .arr false 4 .bool m1 0), (1, .arr false 4 .bool m2 0), (2, .box 52 [.sl 0 1 0 n1 n1]), (3, .box 52 [.sl 1 1 0 n2 n2])] 4
    (fun v s => v = .b (kpB m1 m2 x.toNat) ∧ s = ⟨[], [(2, .box 52 [.sl 0 1 0 n1 n1]), (3, .box 52 [.sl 1 1 0 n2 n2])], 4⟩) := by
  subst hn1 hn2
  refine ctW Tryd.tyOk 5 [] Tryd.func86 rfl (by simp) (by simp) (fr := [(0, .i x), (1, .c (.ptr 2 0)), (2, .c (.ptr 3 0))]) rfl ?_
  repeat' (first | exact rfl | ((conv => whnf); first | (refine qX (fun h => ?_) fun h => ?_ <;> try exact absurd h (by omega)) | refine oN ?_ | refine oM ?_ ?_ | refine bM ?_ ?_ | refine dR ?_))
  all_goals
    (conv => whnf)
    refine ⟨[], [(2, .box 52 [.sl 0 1 0 m1.length m1.length]), (3, .box 52 [.sl 1 1 0 m2.length m2.length])], 4, .b (kpB m1 m2 x.toNat), ⟨by rfl, trivial, by simp⟩, ?_, rfl, rfl⟩
    simp_all [eqV, eqA, eqC, kpB, EK.dflt]
def OutPost (st start : Int) (fin : List Int) (arcs : List Arc) (n : Nat) (v : SV) (s : S) : Prop := ∃ sp sq, v = .a (.agg [.i st, .i start, .sl n 1 0 fin.length (fin.length + sp), .sl (n + 1) 5 0 arcs.length (arcs.length + sq)]) ∧ s = ⟨[], [(n, .arr true 3 .int fin sp), (n + 1, .arr true 50 .arc arcs sq)], n + 2⟩
theorem nothing_c : Ct Tryd.prog 74 [] [] [] 0 (OutPost 1 0 [-1] [] 0) := by
  refine ctW Tryd.tyOk 1 [] Tryd.func74 rfl (by simp) (by simp) (fr := []) rfl ?_
  repeat' (first | exact rfl | ((conv => whnf); first | (refine qX (fun h => ?_) fun h => ?_ <;> try exact absurd h (by omega)) | refine oN ?_ | refine oM ?_ ?_ | refine bM ?_ ?_ | refine dR ?_))
  (conv => whnf)
  exact ⟨[(0, some 1), (1, none)], [(0, .arr true 3 .int [-1] 0), (1, .arr true 50 .arc [] 0)], 2, .a (.agg [.i 1, .i 0, .sl 0 1 0 1 1, .sl 1 5 0 0 0]), ⟨by rfl, trivial, by simp [nilO]⟩, by simp, 0, 0, rfl, rfl⟩
def rkB (p : Nat → Bool) : Nat → Nat
  | 0 => 0
  | k + 1 => if p k = true then rkB p k + 1 else rkB p k
def kfin (p : Nat → Bool) (fin : List Int) : Nat → List Int
  | 0 => []
  | k + 1 => if p k = true then kfin p fin k ++ [fin.getD k 0] else kfin p fin k
theorem kfin_len (p : Nat → Bool) (fin : List Int) : ∀ k, (kfin p fin k).length = rkB p k
  | 0 => rfl
  | k + 1 => by
    have := kfin_len p fin k
    unfold kfin rkB
    split <;> simp [this]
theorem rkB_le (p : Nat → Bool) : ∀ k, rkB p k ≤ k
  | 0 => Nat.le_refl _
  | k + 1 => by
    have := rkB_le p k
    unfold rkB
    split <;> omega
def kArc (p : Nat → Bool) (a : Arc) : Arc := ⟨(rkB p a.f.toNat : Nat), a.i, a.o, (rkB p a.t.toNat : Nat), a.w⟩
def kOk (p : Nat → Bool) (a : Arc) : Bool := p a.f.toNat && p a.t.toNat
def karc (p : Nat → Bool) (l : List Arc) : Nat → List Arc
  | 0 => []
  | k + 1 => if kOk p (l.getD k aD) = true then karc p l k ++ [kArc p (l.getD k aD)] else karc p l k
theorem karc_len (p : Nat → Bool) (l : List Arc) : ∀ k, (karc p l k).length ≤ k
  | 0 => Nat.le_refl _
  | k + 1 => by
    have := karc_len p l k
    unfold karc
    split
    · simp; omega
    · omega
abbrev LkI (es : List (Int × Int × Nat)) (p : Nat → Bool) (k : Nat) : Prop := ∀ j : Int, 0 ≤ j → j < k → p j.toNat = true → @lkM EK.int.ty EK.int.ty (EK.instDeq .int) es j = some ((rkB p j.toNat : Nat) : Int)
def keptPost (F : TF) (p : Nat → Bool) (n : Nat) (v : SV) (s : S) : Prop :=
  if p F.start.toNat = true then OutPost (rkB p F.st.toNat : Nat) (rkB p F.start.toNat : Nat) (kfin p F.fin F.st.toNat) (karc p F.arcs F.arcs.length) n v s else OutPost 1 0 [-1] [] n v s
abbrev hpKe (F : TF) (m1 m2 : List Bool) (n1 n2 : Nat) : List (Nat × SO) := [(0, .arr false 3 .int F.fin 0), (1, .arr false 50 .arc F.arcs 0), (2, .arr false 4 .bool m1 0), (3, .arr false 4 .bool m2 0), (4, .box 52 [.sl 2 1 0 n1 n1]), (5, .box 52 [.sl 3 1 0 n2 n2])]
set_option maxHeartbeats 16000000 in
set_option maxRecDepth 20000 in
theorem kept_c (F : TF) (hF : FRng F) (hs : 0 ≤ F.start ∧ F.start < F.st) (m1 m2 : List Bool) (n1 n2 : Nat) (hn1 : n1 = m1.length) (hn2 : n2 = m2.length) (hm1 : (m1.length : Int) = F.st) (hm2 : (m2.length : Int) = F.st) :
    Ct Tryd.prog 85 [fV F, .c (.fn 86 [(4, 0), (5, 0)])] [] (hpKe F m1 m2 n1 n2) 6 (keptPost F (kpB m1 m2) 6) := by
  have hst := hF.st
  have hal := hF.arcl
  have hfl := hF.finl
  generalize hp : kpB m1 m2 = p
  refine ctW Tryd.tyOk 10 [13, 14, 51, 52, 53] Tryd.func85 rfl (by simp; omega) (by simp) (fr := [(0, fV F), (1, .c (.fn 86 [(4, 0), (5, 0)]))]) rfl ?_
  repeat' (first | exact rfl | ((conv => whnf); first | (refine qX (fun h => ?_) fun h => ?_ <;> try exact absurd h (by omega)) | refine oN ?_ | refine oM ?_ ?_ | refine bM ?_ ?_ | refine dR ?_))
  (conv => whnf)
  refine loopI (fun z : Nat × Nat × List (Int × Int × Nat) × Nat => ⟨[(1, .c (.fn 86 [(4, 0), (5, 0)])), (2, .c (.ptr 6 0)), (4, .c (.ptr 7 0)), (5, .c (.mp 8)), (6, .c (.ptr 9 0)), (13, .i F.st), (14, .i z.1)],
      hpKe F m1 m2 n1 n2 ++ [(6, .box 25 (fCells F)), (7, .box 25 [.i 0, .i 0, .v (.slice none 0 0), .v (.slice none 0 0)]), (8, .map .int .int z.2.2.1 z.2.2.2), (9, .box 25 [.i (rkB p z.1), .i 0, .sl 10 1 0 (kfin p F.fin z.1).length ((kfin p F.fin z.1).length + z.2.1), .v (.slice none 0 0)]), (10, .arr true 3 .int (kfin p F.fin z.1) z.2.1)], 11⟩)
    (fun z => (z.1 : Int) ≤ F.st ∧ LkI z.2.2.1 p z.1) (fun z => F.st.toNat - z.1) (0, 0, [], 0) [(10, none)] ⟨by rfl, ?_, ?_⟩ ⟨by simp only; omega, fun j h0 h1 => by simp only at h1; omega⟩ ?_
  · simp
  · simp [fCells, nilO, rkB, kfin]
  · rintro ⟨k, sp, es, clk⟩ ⟨hk, hlk⟩
    simp only at hk hlk ⊢
    have hkl := kfin_len p F.fin k
    have hrk := rkB_le p k
    generalize hpl : kfin p F.fin k = pl at hkl ⊢
    repeat' (first | exact rfl | ((conv => whnf); first | (refine qX (fun h => ?_) fun h => ?_ <;> try exact absurd h (by omega)) | refine oN ?_ | refine oM ?_ ?_ | refine bM ?_ ?_ | refine dR ?_))
    · have hk1 : F.st.toNat - (k + 1) < F.st.toNat - k := by omega
      (conv => whnf)
      refine cF (keep1_c m1 m2 n1 n2 hn1 hn2 (k : Int) (by omega) (by omega) (by omega)) [2, 3, 4, 5] Tryd.call86 ?_
      rintro _ _ ⟨rfl, rfl⟩
      have e0 : 0 + (k : Int).toNat = k := by omega
      rw [hp, Int.toNat_natCast]
      by_cases hpk : p k = true
      · have hr2 : rkB p (k + 1) = rkB p k + 1 := by show (if p k = true then _ else _) = _; rw [if_pos hpk]
        have hkf : kfin p F.fin (k + 1) = pl ++ [F.fin.getD k 0] := by show (if p k = true then _ else _) = _; rw [if_pos hpk, hpl]
        rw [hpk]
        repeat' (first | exact rfl | ((conv => whnf); first | (refine qX (fun h => ?_) fun h => ?_ <;> try exact absurd h (by omega)) | refine oN ?_ | refine oM ?_ ?_ | refine bM ?_ ?_ | refine dR ?_ | intro _))
        (conv => whnf)
        rename_i sp2
        refine ⟨(k + 1, sp2, (@insM EK.int.ty EK.int.ty (EK.instDeq .int) es clk (k : Int) ((rkB p k : Nat) : Int)).1, (@insM EK.int.ty EK.int.ty (EK.instDeq .int) es clk (k : Int) ((rkB p k : Nat) : Int)).2), [(10, some 12)], ⟨by rfl, ?_, ?_⟩, ⟨by simp only; omega, fun j h0 h1 hj => ?_⟩, by simp only; omega⟩
        · simp
        · simp [hkf, hr2, EK.dflt, e0, fCells]
          simp [app_one]
        · rw [lkM_insM]
          by_cases ej : j = k
          · rw [if_pos ej, ej, Int.toNat_natCast]
          · rw [if_neg ej]
            exact hlk j h0 (by simp only at h1; omega) hj
      · have hr2 : rkB p (k + 1) = rkB p k := by show (if p k = true then _ else _) = _; rw [if_neg hpk]
        have hkf : kfin p F.fin (k + 1) = pl := by show (if p k = true then _ else _) = _; rw [if_neg hpk, hpl]
        have hpk2 : p k = false := by simpa using hpk
        rw [hpk2]
        repeat' (first | exact rfl | ((conv => whnf); first | (refine qX (fun h => ?_) fun h => ?_ <;> try exact absurd h (by omega)) | refine oN ?_ | refine oM ?_ ?_ | refine bM ?_ ?_ | refine dR ?_ | intro _))
        (conv => whnf)
        refine ⟨(k + 1, sp, es, clk), [], ⟨by rfl, ?_, ?_⟩, ⟨by simp only; omega, fun j h0 h1 hj => ?_⟩, by simp only; omega⟩
        · simp
        · simp [hkf, hr2, fCells]
        · by_cases ej : j = k
          · rw [ej, Int.toNat_natCast, hpk2] at hj; cases hj
          · exact hlk j h0 (by simp only at h1; omega) hj
    · have e : k = F.st.toNat := by omega
      subst e
      subst hpl
      repeat' (first | exact rfl | ((conv => whnf); first | (refine qX (fun h => ?_) fun h => ?_ <;> try exact absurd h (by omega)) | refine oN ?_ | refine oM ?_ ?_ | refine bM ?_ ?_ | refine dR ?_))
      (conv => whnf)
      refine cF (keep1_c m1 m2 n1 n2 hn1 hn2 F.start (by omega) (by omega) (by omega)) [2, 3, 4, 5] Tryd.call86 ?_
      rintro _ _ ⟨rfl, rfl⟩
      rw [hp]
      by_cases hps : p F.start.toNat = true
      · have hl0 := hlk F.start hs.1 (by omega) hps
        rw [hps]
        repeat' (first | exact rfl | ((conv => whnf); first | (refine qX (fun h => ?_) fun h => ?_ <;> try exact absurd h (by omega)) | refine oN ?_ | refine oM ?_ ?_ | refine bM ?_ ?_ | refine dR ?_ | intro _))
        (conv => whnf)
        refine loopI (fun z : Nat × Nat => ⟨[(1, .c (.fn 86 [(4, 0), (5, 0)])), (2, .c (.ptr 6 0)), (4, .c (.ptr 7 0)), (5, .c (.mp 8)), (6, .c (.ptr 9 0)), (51, .c (.sl 1 5 0 F.arcs.length F.capA)), (52, .i F.arcs.length), (53, .i z.1)],
            hpKe F m1 m2 n1 n2 ++ [(6, .box 25 (fCells F)), (7, .box 25 [.i 0, .i 0, .v (.slice none 0 0), .v (.slice none 0 0)]), (8, .map .int .int es clk), (9, .box 25 [.i (rkB p F.st.toNat), .i (rkB p F.start.toNat), .sl 10 1 0 (kfin p F.fin F.st.toNat).length ((kfin p F.fin F.st.toNat).length + sp), .sl 11 5 0 (karc p F.arcs z.1).length ((karc p F.arcs z.1).length + z.2)]), (10, .arr true 3 .int (kfin p F.fin F.st.toNat) sp), (11, .arr true 50 .arc (karc p F.arcs z.1) z.2)], 12⟩)
          (fun z => z.1 ≤ F.arcs.length) (fun z => F.arcs.length - z.1) (0, 0) [(11, none)] ⟨by rfl, ?_, ?_⟩ (Nat.zero_le _) ?_
        · simp
        · simp [fCells, nilO, karc, hl0]
        · rintro ⟨k, sq⟩ hk2
          simp only at hk2 ⊢
          have hlen := karc_len p F.arcs k
          repeat' (first | exact rfl | ((conv => whnf); first | (refine qX (fun h => ?_) fun h => ?_ <;> try exact absurd h (by omega)) | refine oN ?_ | refine oM ?_ ?_ | refine bM ?_ ?_ | refine dR ?_))
          · have e0 : 0 + (k : Int).toNat = k := by omega
            have hb := hF.arc _ (getD_mem F.arcs k aD (by omega))
            rw [← e0] at hb
            generalize hax : F.arcs.getD (0 + (k : Int).toNat) aD = ax at hb
            have hax0 : F.arcs.getD k aD = ax := by rw [← hax, e0]
            have hax2 : F.arcs.getD (0 + (k : Int).toNat) EK.arc.dflt = ax := hax
            rw [hax2]
            (conv => whnf)
            refine cF (keep1_c m1 m2 n1 n2 hn1 hn2 ax.f (by omega) (by omega) (by omega)) [2, 3, 4, 5] Tryd.call86 ?_
            rintro _ _ ⟨rfl, rfl⟩
            rw [hp]
            have hks : karc p F.arcs (k + 1) = if kOk p ax = true then karc p F.arcs k ++ [kArc p ax] else karc p F.arcs k := by
              show (if kOk p (F.arcs.getD k aD) = true then _ else _) = _
              rw [hax0]
            by_cases hpf : p ax.f.toNat = true
            · rw [hpf]
              repeat' (first | exact rfl | ((conv => whnf); first | (refine qX (fun h => ?_) fun h => ?_ <;> try exact absurd h (by omega)) | refine oN ?_ | refine oM ?_ ?_ | refine bM ?_ ?_ | refine dR ?_ | intro _))
              (conv => whnf)
              refine cF (keep1_c m1 m2 n1 n2 hn1 hn2 ax.t (by omega) (by omega) (by omega)) [2, 3, 4, 5] Tryd.call86 ?_
              rintro _ _ ⟨rfl, rfl⟩
              rw [hp]
              by_cases hpt : p ax.t.toNat = true
              · rw [hpt]
                have hl1 := hlk ax.f hb.1 (by omega) hpf
                have hl2 := hlk ax.t hb.2.2.1 (by omega) hpt
                rw [if_pos (by unfold kOk; rw [hpf, hpt]; rfl)] at hks
                repeat' (first | exact rfl | ((conv => whnf); first | (refine qX (fun h => ?_) fun h => ?_ <;> try exact absurd h (by omega)) | refine oN ?_ | refine oM ?_ ?_ | refine bM ?_ ?_ | refine dR ?_ | intro _))
                (conv => whnf)
                rename_i sp2
                rw [hl1, hl2]
                refine ⟨(k + 1, sp2), [(11, some 14)], ⟨by rfl, ?_, ?_⟩, by simp only; omega, by simp only; omega⟩
                · simp
                · simp [hks, fCells]
                  exact (app_one (karc p F.arcs k) _ (kArc p ax) rfl).symm
              · have hpt2 : p ax.t.toNat = false := by simpa using hpt
                rw [hpt2]
                rw [if_neg (by unfold kOk; rw [hpt2]; simp)] at hks
                repeat' (first | exact rfl | ((conv => whnf); first | (refine qX (fun h => ?_) fun h => ?_ <;> try exact absurd h (by omega)) | refine oN ?_ | refine oM ?_ ?_ | refine bM ?_ ?_ | refine dR ?_ | intro _))
                (conv => whnf)
                refine ⟨(k + 1, sq), [], ⟨by rfl, ?_, ?_⟩, by simp only; omega, by simp only; omega⟩
                · simp
                · simp [hks, fCells]
            · have hpf2 : p ax.f.toNat = false := by simpa using hpf
              rw [hpf2]
              rw [if_neg (by unfold kOk; rw [hpf2]; simp)] at hks
              repeat' (first | exact rfl | ((conv => whnf); first | (refine qX (fun h => ?_) fun h => ?_ <;> try exact absurd h (by omega)) | refine oN ?_ | refine oM ?_ ?_ | refine bM ?_ ?_ | refine dR ?_ | intro _))
              (conv => whnf)
              refine ⟨(k + 1, sq), [], ⟨by rfl, ?_, ?_⟩, by simp only; omega, by simp only; omega⟩
              · simp
              · simp [hks, fCells]
          · have e : k = F.arcs.length := by omega
            subst e
            repeat' (first | exact rfl | ((conv => whnf); first | (refine qX (fun h => ?_) fun h => ?_ <;> try exact absurd h (by omega)) | refine oN ?_ | refine oM ?_ ?_ | refine bM ?_ ?_ | refine dR ?_ | intro _))
            (conv => whnf)
            refine ⟨[(6, some 10), (7, some 11)], [(6, .arr true 3 .int (kfin p F.fin F.st.toNat) sp), (7, .arr true 50 .arc (karc p F.arcs F.arcs.length) sq)], 8, .a (.agg [.i (rkB p F.st.toNat : Nat), .i (rkB p F.start.toNat : Nat), .sl 6 1 0 (kfin p F.fin F.st.toNat).length ((kfin p F.fin F.st.toNat).length + sp), .sl 7 5 0 (karc p F.arcs F.arcs.length).length ((karc p F.arcs F.arcs.length).length + sq)]), ⟨by rfl, trivial, by simp⟩, by simp, ?_⟩
            unfold keptPost
            rw [if_pos hps]
            exact ⟨sp, sq, rfl, rfl⟩
      · have hpk2 : p F.start.toNat = false := by simpa using hps
        rw [hpk2]
        repeat' (first | exact rfl | ((conv => whnf); first | (refine qX (fun h => ?_) fun h => ?_ <;> try exact absurd h (by omega)) | refine oN ?_ | refine oM ?_ ?_ | refine bM ?_ ?_ | refine dR ?_ | intro _))
        (conv => whnf)
        refine cF (nothing_c) [] Tryd.call74 ?_
        rintro _ _ ⟨sp3, sq3, rfl, rfl⟩
        repeat' (first | exact rfl | ((conv => whnf); first | (refine qX (fun h => ?_) fun h => ?_ <;> try exact absurd h (by omega)) | refine oN ?_ | refine oM ?_ ?_ | refine bM ?_ ?_ | refine dR ?_ | intro _))
        (conv => whnf)
        refine ⟨[(6, some 11), (7, some 12)], [(6, .arr true 3 .int [-1] sp3), (7, .arr true 50 .arc [] sq3)], 8, .a (.agg [.i 1, .i 0, .sl 6 1 0 [(-1 : Int)].length ([(-1 : Int)].length + sp3), .sl 7 5 0 ([] : List Arc).length (([] : List Arc).length + sq3)]), ⟨by rfl, trivial, by simp⟩, by simp, ?_⟩
        unfold keptPost
        rw [if_neg hps]
        exact ⟨sp3, sq3, rfl, rfl⟩
def kT (F : TF) (p : Nat → Bool) : TF := if p F.start.toNat = true then ⟨(rkB p F.st.toNat : Nat), (rkB p F.start.toNat : Nat), kfin p F.fin F.st.toNat, karc p F.arcs F.arcs.length, 0, 0⟩ else ⟨1, 0, [-1], [], 0, 0⟩
theorem keptPost_iff {F : TF} {p : Nat → Bool} {n : Nat} {v : SV} {s : S} : keptPost F p n v s ↔ OutPost (kT F p).st (kT F p).start (kT F p).fin (kT F p).arcs n v s := by
  unfold keptPost kT
  split <;> exact Iff.rfl
structure UsOk (F : TF) (p : Nat → Bool) : Prop where
  iff : ∀ j, j < F.st.toNat → (p j = true ↔ Rch F.arcs false [F.start] j ∧ ∃ e : Nat, e < F.st.toNat ∧ F.fin.getD e 0 ≠ -1 ∧ Rch F.arcs true [(e : Int)] j)
def endL (fin : List Int) : Nat → List Int
  | 0 => []
  | k + 1 => if fin.getD k 0 ≠ -1 then endL fin k ++ [(k : Int)] else endL fin k
theorem endL_len (fin : List Int) : ∀ k, (endL fin k).length ≤ k
  | 0 => Nat.le_refl _
  | k + 1 => by
    have := endL_len fin k
    unfold endL
    split
    · simp; omega
    · omega
theorem mem_endL {fin : List Int} {x : Int} : ∀ k, x ∈ endL fin k ↔ ∃ e : Nat, e < k ∧ fin.getD e 0 ≠ -1 ∧ x = e
  | 0 => by simp [endL]
  | k + 1 => by
    have ih := mem_endL (fin := fin) (x := x) k
    unfold endL
    split
    · rename_i h
      rw [List.mem_append, ih, List.mem_singleton]
      constructor
      · rintro (⟨e, h1, h2⟩ | rfl)
        · exact ⟨e, by omega, h2⟩
        · exact ⟨k, by omega, h, rfl⟩
      · rintro ⟨e, h1, h2, h3⟩
        by_cases q : e = k
        · subst q; exact .inr h3
        · exact .inl ⟨e, by omega, h2, h3⟩
    · rename_i h
      rw [ih]
      constructor
      · rintro ⟨e, h1, h2⟩
        exact ⟨e, by omega, h2⟩
      · rintro ⟨e, h1, h2, h3⟩
        by_cases q : e = k
        · subst q; exact absurd h2 h
        · exact ⟨e, by omega, h2, h3⟩
theorem rch_some {l : List Arc} {bk : Bool} {first : List Int} {x : Int} : Rch l bk first x ↔ ∃ e ∈ first, Rch l bk [e] x := by
  constructor
  · intro h
    induction h with
    | here h => exact ⟨_, h, .here (by simp)⟩
    | on h ha hs ih =>
      obtain ⟨e, he, hr⟩ := ih
      exact ⟨e, he, .on hr ha hs⟩
  · rintro ⟨e, he, h⟩
    induction h with
    | here h => rw [List.mem_singleton] at h; subst h; exact .here he
    | on h ha hs ih => exact .on ih ha hs
end Go.Fw

namespace Go.Fw
open Go Go.Proofs
set_option maxHeartbeats 16000000 in
set_option maxRecDepth 20000 in
theorem useful_c (F : TF) (hF : FRng F) (hs : 0 ≤ F.start ∧ F.start < F.st) :
    Ct Tryd.prog 63 [fV F] [] (hpF F) 2 (fun v s => ∃ p, UsOk F p ∧ OutPost (kT F p).st (kT F p).start (kT F p).fin (kT F p).arcs 2 v s) := by
  have hst := hF.st
  have hal := hF.arcl
  have hfl := hF.finl
  refine ctW Tryd.tyOk 8 [9, 10, 11] Tryd.func63 rfl (by simp) (by simp) (fr := [(0, fV F)]) rfl ?_
  repeat' (first | exact rfl | ((conv => whnf); first | (refine qX (fun h => ?_) fun h => ?_ <;> try exact absurd h (by omega)) | refine oN ?_ | refine oM ?_ ?_ | refine bM ?_ ?_ | refine dR ?_))
  (conv => whnf)
  refine loopI (fun z : Nat × Nat => ⟨[(1, .c (.ptr 2 0)), (2, .c (.ptr 3 0)), (3, .c (.sl 4 1 0 (endL F.fin z.1).length ((endL F.fin z.1).length + z.2))), (9, .c (.sl 0 1 0 F.fin.length F.capF)), (10, .i F.fin.length), (11, .i z.1)],
      hpF F ++ [(2, .box 25 (fCells F)), (3, .box 25 [.i 0, .i 0, .v (.slice none 0 0), .v (.slice none 0 0)]), (4, .arr true 3 .int (endL F.fin z.1) z.2)], 5⟩)
    (fun z => z.1 ≤ F.fin.length) (fun z => F.fin.length - z.1) (0, 0) [(4, none)] ⟨by rfl, ?_, ?_⟩ (Nat.zero_le _) ?_
  · simp [endL, nilO]
  · simp [fCells, nilO, endL]
  · rintro ⟨k, sp⟩ hk
    simp only at hk ⊢
    have hkl := endL_len F.fin k
    have e0 : 0 + (k : Int).toNat = k := by omega
    have hks : endL F.fin (k + 1) = if F.fin.getD k 0 ≠ -1 then endL F.fin k ++ [(k : Int)] else endL F.fin k := rfl
    repeat' (first | exact rfl | ((conv => whnf); first | (refine qX (fun h => ?_) fun h => ?_ <;> try exact absurd h (by omega)) | refine oN ?_ | refine oM ?_ ?_ | refine bM ?_ ?_))
    · have h3 : F.fin.getD k 0 ≠ -1 := e0 ▸ h
      rw [if_pos h3] at hks
      intro sp2
      repeat' (first | exact rfl | ((conv => whnf); first | (refine qX (fun h => ?_) fun h => ?_ <;> try exact absurd h (by omega)) | refine oN ?_ | refine oM ?_ ?_ | refine bM ?_ ?_))
      (conv => whnf)
      refine ⟨(k + 1, sp2), [(4, some 6)], ⟨by rfl, ?_, ?_⟩, by simp only; omega, by simp only; omega⟩
      · simp [hks]
      · simp [hks, fCells]
        exact (app_one (endL F.fin k) _ (k : Int) rfl).symm
    · have h3 : F.fin.getD k 0 = -1 := e0 ▸ h
      rw [if_neg (by simpa using h3)] at hks
      (conv => whnf)
      refine ⟨(k + 1, sp), [], ⟨by rfl, ?_, ?_⟩, by simp only; omega, by simp only; omega⟩
      · simp [hks]
      · simp [hks, fCells]
    · have e : k = F.fin.length := by omega
      subst e
      have hst2 : (F.st.toNat : Int) = F.st := by omega
      have hn2 : F.fin.length = F.st.toNat := by omega
      have hx1 : ∀ x ∈ [F.start], 0 ≤ x ∧ x < (F.st.toNat : Nat) := fun x hx => by rw [List.mem_singleton] at hx; subst hx; omega
      have hx2 : ∀ x ∈ endL F.fin F.fin.length, 0 ≤ x ∧ x < (F.st.toNat : Nat) := fun x hx => by
        obtain ⟨e, h1, h2, rfl⟩ := (mem_endL _).1 hx
        omega
      (conv => whnf)
      refine drawCut (fun z : List Bool × List Bool => ⟨[(1, .c (.ptr 2 0)), (2, .c (.ptr 3 0)), (6, .c (.ptr 6 0)), (7, .c (.ptr 7 0))],
        hpF F ++ [(2, .box 25 (fCells F)), (3, .box 25 [.i 0, .i 0, .v (.slice none 0 0), .v (.slice none 0 0)]), (4, .arr true 4 .bool z.1 0), (5, .arr true 4 .bool z.2 0), (6, .box 52 [.sl 4 1 0 z.1.length z.1.length]), (7, .box 52 [.sl 5 1 0 z.2.length z.2.length])], 8⟩)
        (fun z => z.1.length = F.st.toNat ∧ z.2.length = F.st.toNat ∧ (∀ j, j < F.st.toNat → (z.1.getD j false = true ↔ Rch F.arcs false [F.start] j)) ∧ ∀ j, j < F.st.toNat → (z.2.getD j false = true ↔ Rch F.arcs true (endL F.fin F.fin.length) j)) ?_ ?_
      · repeat' (first | exact rfl | ((conv => whnf); first | (refine qX (fun h => ?_) fun h => ?_ <;> try exact absurd h (by omega)) | refine oN ?_ | refine oM ?_ ?_ | refine bM ?_ ?_ | refine dR ?_))
        all_goals
          (conv => whnf)
          first
          | (refine callF (reached_c F hF [F.start] 0 false hx1 (by simp)) [0, 1, 5] Tryd.call84 rfl ?_ ?_ ?_ ?_; (focus (simp; done)); (focus (simp; done)); (focus (simp; done)))
          | (refine callF (reached_c F hF [F.start] 0 false hx1 (by simp)) [0, 1, 6] Tryd.call84 rfl ?_ ?_ ?_ ?_; (focus (simp; done)); (focus (simp; done)); (focus (simp; done)))
          | (refine callF (reached_c F hF [F.start] 0 false hx1 (by simp)) [0, 1, 7] Tryd.call84 rfl ?_ ?_ ?_ ?_; (focus (simp; done)); (focus (simp; done)); (focus (simp; done)))
          rintro _ _ ⟨m1, rfl, rfl, hl1, hr1⟩
          repeat' (first | exact rfl | ((conv => whnf); first | (refine qX (fun h => ?_) fun h => ?_ <;> try exact absurd h (by omega)) | refine oN ?_ | refine oM ?_ ?_ | refine bM ?_ ?_ | refine dR ?_))
          all_goals
            (conv => whnf)
            refine cF (reached_c F hF (endL F.fin F.fin.length) sp true hx2 (by omega)) [0, 1, 4] Tryd.call84 ?_
            rintro _ _ ⟨m2, rfl, rfl, hl2, hr2⟩
            repeat' (first | exact rfl | ((conv => whnf); first | (refine qX (fun h => ?_) fun h => ?_ <;> try exact absurd h (by omega)) | refine oN ?_ | refine oM ?_ ?_ | refine bM ?_ ?_ | refine dR ?_))
            all_goals
              (conv => whnf)
              first
              | (refine ⟨(m1, m2), [(4, some 8), (5, some 9), (6, some 5), (7, some 6)], ⟨by rfl, ?_, ?_⟩, hl1, hl2, hr1, hr2⟩; (focus (simp; done)); (simp [fCells]; done))
              | (refine ⟨(m1, m2), [(4, some 8), (5, some 9), (6, some 5), (7, some 7)], ⟨by rfl, ?_, ?_⟩, hl1, hl2, hr1, hr2⟩; (focus (simp; done)); (simp [fCells]; done))
              | (refine ⟨(m1, m2), [(4, some 7), (5, some 9), (6, some 5), (7, some 8)], ⟨by rfl, ?_, ?_⟩, hl1, hl2, hr1, hr2⟩; (focus (simp; done)); (simp [fCells]; done))
              | (refine ⟨(m1, m2), [(4, some 7), (5, some 8), (6, some 5), (7, some 9)], ⟨by rfl, ?_, ?_⟩, hl1, hl2, hr1, hr2⟩; (focus (simp; done)); (simp [fCells]; done))
              | (refine ⟨(m1, m2), [(4, some 8), (5, some 9), (6, some 6), (7, some 5)], ⟨by rfl, ?_, ?_⟩, hl1, hl2, hr1, hr2⟩; (focus (simp; done)); (simp [fCells]; done))
              | (refine ⟨(m1, m2), [(4, some 8), (5, some 9), (6, some 6), (7, some 7)], ⟨by rfl, ?_, ?_⟩, hl1, hl2, hr1, hr2⟩; (focus (simp; done)); (simp [fCells]; done))
              | (refine ⟨(m1, m2), [(4, some 7), (5, some 9), (6, some 6), (7, some 8)], ⟨by rfl, ?_, ?_⟩, hl1, hl2, hr1, hr2⟩; (focus (simp; done)); (simp [fCells]; done))
              | (refine ⟨(m1, m2), [(4, some 7), (5, some 8), (6, some 6), (7, some 9)], ⟨by rfl, ?_, ?_⟩, hl1, hl2, hr1, hr2⟩; (focus (simp; done)); (simp [fCells]; done))
              | (refine ⟨(m1, m2), [(4, some 8), (5, some 9), (6, some 7), (7, some 5)], ⟨by rfl, ?_, ?_⟩, hl1, hl2, hr1, hr2⟩; (focus (simp; done)); (simp [fCells]; done))
              | (refine ⟨(m1, m2), [(4, some 8), (5, some 9), (6, some 7), (7, some 6)], ⟨by rfl, ?_, ?_⟩, hl1, hl2, hr1, hr2⟩; (focus (simp; done)); (simp [fCells]; done))
              | (refine ⟨(m1, m2), [(4, some 6), (5, some 9), (6, some 7), (7, some 8)], ⟨by rfl, ?_, ?_⟩, hl1, hl2, hr1, hr2⟩; (focus (simp; done)); (simp [fCells]; done))
              | (refine ⟨(m1, m2), [(4, some 6), (5, some 8), (6, some 7), (7, some 9)], ⟨by rfl, ?_, ?_⟩, hl1, hl2, hr1, hr2⟩; (focus (simp; done)); (simp [fCells]; done))
              | (refine ⟨(m1, m2), [(4, some 7), (5, some 9), (6, some 8), (7, some 5)], ⟨by rfl, ?_, ?_⟩, hl1, hl2, hr1, hr2⟩; (focus (simp; done)); (simp [fCells]; done))
              | (refine ⟨(m1, m2), [(4, some 7), (5, some 9), (6, some 8), (7, some 6)], ⟨by rfl, ?_, ?_⟩, hl1, hl2, hr1, hr2⟩; (focus (simp; done)); (simp [fCells]; done))
              | (refine ⟨(m1, m2), [(4, some 6), (5, some 9), (6, some 8), (7, some 7)], ⟨by rfl, ?_, ?_⟩, hl1, hl2, hr1, hr2⟩; (focus (simp; done)); (simp [fCells]; done))
              | (refine ⟨(m1, m2), [(4, some 6), (5, some 7), (6, some 8), (7, some 9)], ⟨by rfl, ?_, ?_⟩, hl1, hl2, hr1, hr2⟩; (focus (simp; done)); (simp [fCells]; done))
              | (refine ⟨(m1, m2), [(4, some 7), (5, some 8), (6, some 9), (7, some 5)], ⟨by rfl, ?_, ?_⟩, hl1, hl2, hr1, hr2⟩; (focus (simp; done)); (simp [fCells]; done))
              | (refine ⟨(m1, m2), [(4, some 7), (5, some 8), (6, some 9), (7, some 6)], ⟨by rfl, ?_, ?_⟩, hl1, hl2, hr1, hr2⟩; (focus (simp; done)); (simp [fCells]; done))
              | (refine ⟨(m1, m2), [(4, some 6), (5, some 8), (6, some 9), (7, some 7)], ⟨by rfl, ?_, ?_⟩, hl1, hl2, hr1, hr2⟩; (focus (simp; done)); (simp [fCells]; done))
              | (refine ⟨(m1, m2), [(4, some 6), (5, some 7), (6, some 9), (7, some 8)], ⟨by rfl, ?_, ?_⟩, hl1, hl2, hr1, hr2⟩; (focus (simp; done)); (simp [fCells]; done))
      · rintro ⟨m1, m2⟩ ⟨hl1, hl2, hr1, hr2⟩
        simp only at hl1 hl2 hr1 hr2 ⊢
        repeat' (first | exact rfl | ((conv => whnf); first | (refine qX (fun h => ?_) fun h => ?_ <;> try exact absurd h (by omega)) | refine oN ?_ | refine oM ?_ ?_ | refine bM ?_ ?_ | refine dR ?_))
        (conv => whnf)
        refine callF (kept_c F hF hs m1 m2 m1.length m2.length rfl rfl (by omega) (by omega)) [0, 1, 4, 5, 6, 7] Tryd.call85 rfl (by simp) (by simp) (by simp; omega) ?_
        intro v s hv
        rw [keptPost_iff] at hv
        have hus : UsOk F (kpB m1 m2) := ⟨fun j hj => by
          unfold kpB
          rw [Bool.and_eq_true, hr1 j hj, hr2 j hj, rch_some (bk := true)]
          constructor
          · rintro ⟨h1, x, h2, h3⟩
            obtain ⟨e, h4, h5, rfl⟩ := (mem_endL _).1 h2
            exact ⟨h1, e, by omega, h5, h3⟩
          · rintro ⟨h1, e, h2, h3, h4⟩
            exact ⟨h1, e, (mem_endL _).2 ⟨e, by omega, h3, rfl⟩, h4⟩⟩
        generalize hT : kT F (kpB m1 m2) = T at hv
        obtain ⟨tst, tstart, tfin, tarcs, tc1, tc2⟩ := T
        obtain ⟨sp3, sq3, rfl, rfl⟩ := hv
        simp only at *
        repeat' (first | exact rfl | ((conv => whnf); first | (refine qX (fun h => ?_) fun h => ?_ <;> try exact absurd h (by omega)) | refine oN ?_ | refine oM ?_ ?_ | refine bM ?_ ?_ | refine dR ?_))
        (conv => whnf)
        refine ⟨[(2, some 8), (3, some 9)], [(2, .arr true 3 .int tfin sp3), (3, .arr true 50 .arc tarcs sq3)], 4, .a (.agg [.i tst, .i tstart, .sl 2 1 0 tfin.length (tfin.length + sp3), .sl 3 5 0 tarcs.length (tarcs.length + sq3)]), ⟨by rfl, trivial, by simp⟩, by simp, kpB m1 m2, hus, ?_⟩
        rw [hT]
        exact ⟨sp3, sq3, rfl, rfl⟩
end Go.Fw

/-
  What is useful alone costs the same.
-/
namespace Go.Fw
open Go
section
variable {p : Nat → Bool}
theorem rkB_mono : ∀ {j k : Nat}, j ≤ k → rkB p j ≤ rkB p k
  | j, 0, h => by rw [Nat.le_zero.1 h]; exact Nat.le_refl _
  | j, k + 1, h => by
    by_cases e : j = k + 1
    · rw [e]; exact Nat.le_refl _
    · have := rkB_mono (j := j) (k := k) (by omega)
      show _ ≤ if p k = true then rkB p k + 1 else rkB p k
      split <;> omega
theorem rkB_lt {j k : Nat} (h : j < k) (hj : p j = true) : rkB p j < rkB p k := by
  have h1 : rkB p (j + 1) = rkB p j + 1 := by show (if p j = true then _ else _) = _; rw [if_pos hj]
  have := rkB_mono (p := p) (j := j + 1) (k := k) h
  omega
theorem rkB_inj {j k : Nat} (hj : p j = true) (hk : p k = true) (h : rkB p j = rkB p k) : j = k := by
  rcases Nat.lt_trichotomy j k with q | q | q
  · have := rkB_lt q hj; omega
  · exact q
  · have := rkB_lt q hk; omega
theorem kfin_get (fin : List Int) : ∀ {n j : Nat}, j < n → p j = true → (kfin p fin n).getD (rkB p j) 0 = fin.getD j 0
  | 0, j, h, _ => by omega
  | n + 1, j, h, hj => by
    have hl := kfin_len p fin n
    have hs : kfin p fin (n + 1) = if p n = true then kfin p fin n ++ [fin.getD n 0] else kfin p fin n := rfl
    by_cases e : j = n
    · subst e
      rw [hs, if_pos hj]
      simp [List.getD, hl]
    · have ih := kfin_get fin (n := n) (j := j) (by omega) hj
      have hlt := rkB_lt (p := p) (show j < n by omega) hj
      rw [hs]
      split
      · rw [← ih]
        simp only [List.getD]
        rw [List.getElem?_append_left (by omega)]
      · exact ih
theorem kfin_mem (fin : List Int) : ∀ {n : Nat} {x : Int}, x ∈ kfin p fin n → ∃ j, j < n ∧ x = fin.getD j 0
  | 0, x, h => by cases h
  | n + 1, x, h => by
    have hs : kfin p fin (n + 1) = if p n = true then kfin p fin n ++ [fin.getD n 0] else kfin p fin n := rfl
    rw [hs] at h
    split at h
    · rcases List.mem_append.1 h with h | h
      · obtain ⟨j, h1, h2⟩ := kfin_mem fin h
        exact ⟨j, by omega, h2⟩
      · rw [List.mem_singleton] at h; exact ⟨n, by omega, h⟩
    · obtain ⟨j, h1, h2⟩ := kfin_mem fin h
      exact ⟨j, by omega, h2⟩
theorem mem_karc {l : List Arc} {b : Arc} : ∀ k, k ≤ l.length → (b ∈ karc p l k ↔ ∃ i, i < k ∧ kOk p (l.getD i aD) = true ∧ b = kArc p (l.getD i aD))
  | 0, _ => by simp [karc]
  | k + 1, hk => by
    have ih := mem_karc (l := l) (b := b) k (by omega)
    have hs : karc p l (k + 1) = if kOk p (l.getD k aD) = true then karc p l k ++ [kArc p (l.getD k aD)] else karc p l k := rfl
    rw [hs]
    split
    · rename_i h
      rw [List.mem_append, ih, List.mem_singleton]
      constructor
      · rintro (⟨i, h1, h2⟩ | rfl)
        · exact ⟨i, by omega, h2⟩
        · exact ⟨k, by omega, h, rfl⟩
      · rintro ⟨i, h1, h2, h3⟩
        by_cases q : i = k
        · subst q; exact .inr h3
        · exact .inl ⟨i, by omega, h2, h3⟩
    · rename_i h
      rw [ih]
      constructor
      · rintro ⟨i, h1, h2⟩
        exact ⟨i, by omega, h2⟩
      · rintro ⟨i, h1, h2, h3⟩
        by_cases q : i = k
        · subst q; exact absurd h2 h
        · exact ⟨i, by omega, h2, h3⟩
theorem mem_karcs {l : List Arc} {b : Arc} : b ∈ karc p l l.length ↔ ∃ a ∈ l, p a.f.toNat = true ∧ p a.t.toNat = true ∧ b = kArc p a := by
  rw [mem_karc _ (Nat.le_refl _)]
  constructor
  · rintro ⟨i, h1, h2, h3⟩
    unfold kOk at h2
    rw [Bool.and_eq_true] at h2
    exact ⟨_, getD_mem l i aD h1, h2.1, h2.2, h3⟩
  · rintro ⟨a, ha, h1, h2, h3⟩
    obtain ⟨i, hi, e⟩ := List.getElem_of_mem ha
    have e2 : l.getD i aD = a := by simp [List.getD, hi, e]
    exact ⟨i, hi, by rw [e2]; unfold kOk; rw [h1, h2]; rfl, by rw [e2]; exact h3⟩
end
theorem way_none {s t : Int} {u v : List Int} {d : Int} (h : Way [] s u v t d) : t = s := by
  induction h with
  | nil s => rfl
  | cons ha _ _ => cases ha
section
variable {F : TF} {p : Nat → Bool} (hF : FRng F) (hs : 0 ≤ F.start ∧ F.start < F.st) (hp : UsOk F p)
include hF hp
theorem keep_way {s t : Int} {u v : List Int} {d : Int} (hw : Way F.arcs s u v t d) : 0 ≤ s ∧ s < F.st → Rch F.arcs false [F.start] s → F.fin.getD t.toNat 0 ≠ -1 →
    0 ≤ t ∧ t < F.st ∧ p t.toNat = true ∧ Rch F.arcs true [t] s ∧ p s.toNat = true ∧ Way (karc p F.arcs F.arcs.length) (rkB p s.toNat : Nat) u v (rkB p t.toNat : Nat) d := by
  induction hw with
  | nil s =>
    intro h1 h2 h3
    have e : ((s.toNat : Nat) : Int) = s := by omega
    have : p s.toNat = true := (hp.iff s.toNat (by omega)).2 ⟨by rw [e]; exact h2, s.toNat, by omega, h3, by rw [e]; exact .here (by simp)⟩
    exact ⟨h1.1, h1.2, this, .here (by simp), this, .nil _⟩
  | @cons a u v t c ha hw ih =>
    intro h1 h2 h3
    have hb := hF.arc a ha
    have h2' : Rch F.arcs false [F.start] a.t := Rch.on (bk := false) h2 ha rfl
    obtain ⟨i1, i2, i3, i4, i5, i6⟩ := ih ⟨hb.2.2.1, hb.2.2.2⟩ h2' h3
    have h5 : Rch F.arcs true [t] a.f := Rch.on (bk := true) i4 ha rfl
    have e : ((a.f.toNat : Nat) : Int) = a.f := by omega
    have e2 : ((t.toNat : Nat) : Int) = t := by omega
    have hpf : p a.f.toNat = true := (hp.iff a.f.toNat (by omega)).2 ⟨by rw [e]; exact h2, t.toNat, by omega, h3, by rw [e, e2]; exact h5⟩
    refine ⟨i1, i2, i3, h5, hpf, ?_⟩
    exact Way.cons (a := kArc p a) (mem_karcs.2 ⟨a, ha, hpf, i5, rfl⟩) i6
omit hp in
theorem kept_way {r r' : Int} {u v : List Int} {d : Int} (hw : Way (karc p F.arcs F.arcs.length) r u v r' d) : ∀ j : Int, 0 ≤ j ∧ j < F.st → p j.toNat = true → r = (rkB p j.toNat : Nat) → ∃ j' : Int, 0 ≤ j' ∧ j' < F.st ∧ p j'.toNat = true ∧ r' = (rkB p j'.toNat : Nat) ∧ Way F.arcs j u v j' d := by
  induction hw with
  | nil s => intro j h1 h2 h3; exact ⟨j, h1.1, h1.2, h2, h3, .nil _⟩
  | @cons b u v t c hb hw ih =>
    intro j h1 h2 h3
    obtain ⟨a, ha, h4, h5, rfl⟩ := mem_karcs.1 hb
    have hr := hF.arc a ha
    have e : a.f = j := by
      have e1 : ((rkB p a.f.toNat : Nat) : Int) = (rkB p j.toNat : Nat) := h3
      have := rkB_inj h4 h2 (by omega)
      omega
    obtain ⟨j', q1, q2, q3, q4, q5⟩ := ih a.t ⟨hr.2.2.1, hr.2.2.2⟩ h5 rfl
    refine ⟨j', q1, q2, q3, q4, ?_⟩
    rw [← e]
    exact Way.cons ha q5
include hs
theorem useful_wt {u v : List Int} {c : Int} : Wt (kT F p) u v c ↔ Wt F u v c := by
  by_cases h : p F.start.toNat = true
  · have e : kT F p = ⟨(rkB p F.st.toNat : Nat), (rkB p F.start.toNat : Nat), kfin p F.fin F.st.toNat, karc p F.arcs F.arcs.length, 0, 0⟩ := by unfold kT; rw [if_pos h]
    rw [e]
    constructor
    · rintro ⟨t, d, h1, h2, rfl⟩
      simp only at h1 h2 ⊢
      obtain ⟨j, q1, q2, q3, rfl, q5⟩ := kept_way hF h1 F.start hs h rfl
      rw [Int.toNat_natCast, kfin_get F.fin (by omega) q3] at h2 ⊢
      exact ⟨j, d, q5, h2, rfl⟩
    · rintro ⟨t, d, h1, h2, rfl⟩
      obtain ⟨i1, i2, i3, i4, i5, i6⟩ := keep_way hF hp h1 hs (.here (by simp)) h2
      refine ⟨_, d, i6, ?_⟩
      simp only
      rw [Int.toNat_natCast, kfin_get F.fin (by omega) i3]
      exact ⟨h2, rfl⟩
  · have e : kT F p = ⟨1, 0, [-1], [], 0, 0⟩ := by unfold kT; rw [if_neg h]
    rw [e]
    constructor
    · rintro ⟨t, d, h1, h2, rfl⟩
      simp only at h1 h2
      rw [way_none h1] at h2
      exact absurd rfl h2
    · rintro ⟨t, d, h1, h2, rfl⟩
      obtain ⟨i1, i2, i3, i4, i5, i6⟩ := keep_way hF hp h1 hs (.here (by simp)) h2
      exact absurd i5 h
omit hp in
end
end Go.Fw
