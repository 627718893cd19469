/-
  What is handed in, as the executor's state has it.
-/
import Derived.Test.YtiejplibehppnaaXa
import Derived.Deep.Slices
import Derived.Deep.Fields
import Derived.ChangeSame
import Derived.Lib.SmallJoins
import Derived.ProofKit
import Derived.SizedLaws
import Derived.Test.YtiejplibehppnaaXh
import Derived.Test.YtiejplibehppnaaRows

set_option linter.unusedSimpArgs false
set_option linter.unusedVariables false

namespace Go.Fw
open Go Go.Proofs Go.ChangeShapes Go.WideShapes Go.ChangeAt Go.RowKit Go.Deep Go.Joins

/-- A list that lies in memory, to be read. -/
def Lent (W : World) (oa : Option Addr) (k : EK) (xs : List k.ty) : Prop := match oa with
  | none => xs = []
  | some a => xs ≠ [] → a.spot = none ∧ a.block < W.heap.size ∧ ∀ j v, (flat k xs)[j]? = some v → W.cell? (a.add j) = some v

/-- The state of what is handed in: each object is read only. -/
theorem lentSat {W : World} {hp : List (Nat × SO)} {n : Nat} (β : Env) (h : ∀ id o, look hp id = some o → id < n ∧ ∃ (E : Nat) (k : EK) (xs : List k.ty), o = .arr false E k xs 0 ∧ Lent W (β id) k xs) :
    HSat β (· < W.heap.size) (fun _ _ => False) ⟨[], hp, n⟩ W := by
  refine ⟨fun b hb => hb, fun _ _ _ _ hb => hb.elim, fun _ _ _ _ _ _ _ _ hb => hb.elim, fun id o hl => ?_, fun id o hl => ?_⟩
  · obtain ⟨_, E, k, xs, rfl, hx⟩ := h id o hl
    show SO.ok β _ _ W (β id) _
    unfold Lent at hx
    cases hb : β id with
    | none => rw [hb] at hx; exact ⟨hx, rfl⟩
    | some a =>
      rw [hb] at hx
      intro hne
      obtain ⟨h1, h2, h3⟩ := hx hne
      exact ⟨h1, h2, h2, h3⟩
  · obtain ⟨h1, E, k, xs, rfl, _⟩ := h id o hl
    exact ⟨h1, trivial⟩

section
variable {H : Type} {enc : TypeId × Value → H} {P : Program} {w : World} {base : Nat} {spare : Nat → Bool} {held : Bool}

theorem cell_lt {a : Addr} {v : Value} (h : w.cell? a = some v) : a.spot = none ∧ a.block < w.heap.size := by
  refine ⟨World.cell?_spot h, ?_⟩
  unfold World.cell? at h
  split at h
  · rename_i hb; exact (Array.getElem?_eq_some_iff.1 hb).1
  · cases h

theorem wfI {n : Int} (h : (Lit.int .i64 n).wf = true) : InI n := by
  have h1 : IntKind.i64.min = -9223372036854775808 := rfl
  have h2 : IntKind.i64.max = 9223372036854775807 := rfl
  simp only [Lit.wf, Bool.and_eq_true, decide_eq_true_eq, h1, h2] at h
  exact h

theorem lent_mk {oa : Option Addr} {k : EK} {xs : List k.ty} (a : Addr) (ho : oa = some a) (h : ∀ j v, (flat k xs)[j]? = some v → w.cell? (a.add j) = some v) : Lent w oa k xs := by
  subst ho
  intro hne
  have hpos : 0 < (flat k xs).length := by
    rw [flat_length]
    have : 0 < xs.length := List.length_pos_iff.2 hne
    have hk : 0 < k.sz := by cases k <;> decide
    exact Nat.mul_pos this hk
  have h0 := h 0 _ (List.getElem?_eq_getElem hpos)
  have h1 := cell_lt h0
  rw [Addr.add] at h1
  simp only [if_true] at h1
  exact ⟨h1.1, h1.2, h⟩

theorem flat_cases {k : EK} {xs : List k.ty} {j : Nat} {v : Value} (h : (flat k xs)[j]? = some v) : ∃ i off, j = i * k.sz + off ∧ i < xs.length ∧ off < k.sz ∧ (k.cells (xs.getD i k.dflt))[off]? = some v := by
  have hk : 0 < k.sz := by cases k <;> decide
  have hj := (List.getElem?_eq_some_iff.1 h).1
  rw [flat_length] at hj
  have h1 : j / k.sz < xs.length := (Nat.div_lt_iff_lt_mul hk).2 hj
  have h2 : j % k.sz < k.sz := Nat.mod_lt _ hk
  have h3 : j = j / k.sz * k.sz + j % k.sz := by rw [Nat.mul_comm]; exact (Nat.div_add_mod _ _).symm
  refine ⟨j / k.sz, j % k.sz, h3, h1, h2, ?_⟩
  rw [← flat_get k xs _ _ h1 h2, ← h3]
  exact h

/-- A slice of integers, opened. -/
theorem open_lentI {t e : TypeId} {fuel : Nat} {v : Value} {x : DataW H × List MemPlace} (ht : P.underlying t = some (.slice e)) (he : P.underlying e = some (.int .i64)) (hc : P.cellsOf e = 1)
    (h : DataW.trod enc P w base spare held fuel t [v] = some x) :
    ∃ (oa : Option Addr) (xs : List Int) (cap : Nat), v = .slice oa xs.length cap ∧ Lent w oa .int xs ∧ xs.length ≤ cap ∧ cap ≤ maxLen ∧ (oa = none → cap = 0) ∧ ∀ n ∈ xs, InI n := by
  rcases open_ints ht he hc h with ⟨hcs, _⟩ | ⟨a, len, cap, zs, hcs, _, hl, hm, hz, _, hcell, hwz⟩
  · simp only [List.cons.injEq, and_true] at hcs
    subst hcs
    exact ⟨none, [], 0, rfl, rfl, Nat.le_refl _, Nat.zero_le _, fun _ => rfl, fun n hn => by cases hn⟩
  · simp only [List.cons.injEq, and_true] at hcs
    subst hcs
    have hlz : len ≤ zs.length := by rw [hz]; split <;> omega
    have hlen : (zs.take len).length = len := by rw [List.length_take]; omega
    refine ⟨some a, zs.take len, cap, by rw [hlen], lent_mk a rfl ?_, by rw [hlen]; exact hl, hm, (fun h => by cases h), fun n hn => wfI (hwz n (List.mem_of_mem_take hn))⟩
    intro j v hj
    obtain ⟨i, off, rfl, hi, ho, hv⟩ := flat_cases hj
    rw [hlen] at hi
    have ho : off < 1 := ho
    have ho0 : off = 0 := by omega
    subst ho0
    have hcl := hcell i (by omega)
    have e1 : i * EK.int.sz + 0 = i := by show i * 1 + 0 = i; omega
    rw [e1, hcl]
    have e2 : (zs.take len).getD i EK.int.dflt = zs.getD i 0 := by
      have : i < zs.length := by omega
      simp [List.getD, hi, this, EK.dflt]
    rw [e2] at hv
    exact hv

theorem list_of {α : Type} (n : Nat) (R : Nat → α → Prop) (d : α) (h : ∀ i, i < n → ∃ x, R i x) : ∃ xs : List α, xs.length = n ∧ ∀ i, i < n → R i (xs.getD i d) := by
  induction n with
  | zero => exact ⟨[], rfl, fun i hi => by omega⟩
  | succ n ih =>
    obtain ⟨xs, h1, h2⟩ := ih fun i hi => h i (by omega)
    obtain ⟨x, hx⟩ := h n (by omega)
    refine ⟨xs ++ [x], by simp [h1], fun i hi => ?_⟩
    by_cases e : i = n
    · subst e
      have : (xs ++ [x]).getD i d = x := by simp [List.getD, ← h1]
      rw [this]; exact hx
    · have : (xs ++ [x]).getD i d = xs.getD i d := by
        have : i < xs.length := by omega
        simp [List.getD, List.getElem?_append_left this]
      rw [this]; exact h2 i (by omega)

/-- A slice of arcs, opened. -/
theorem open_lentA {t e : TypeId} {fuel : Nat} {v : Value} {x : DataW H × List MemPlace} {f0 f1 f2 f3 f4 : Field} (ht : P.underlying t = some (.slice e)) (he : P.underlying e = some (.struct #[f0, f1, f2, f3, f4]))
    (hone : oneCellFields P #[f0, f1, f2, f3, f4] = true) (hC : P.cellsOf e = 5) (hf : ∀ f ∈ [f0, f1, f2, f3, f4], P.underlying f.type = some (.int .i64))
    (h : DataW.trod enc P w base spare held fuel t [v] = some x) :
    ∃ (oa : Option Addr) (xs : List Arc) (cap : Nat), v = .slice oa xs.length cap ∧ Lent w oa .arc xs ∧ xs.length ≤ cap ∧ cap ≤ maxLen ∧ (oa = none → cap = 0) ∧ ∀ a ∈ xs, InI a.f ∧ InI a.i ∧ InI a.o ∧ InI a.t ∧ InI a.w := by
  rcases open_slice ht h with ⟨hcs, _⟩ | ⟨a, len, cap, m, n, D, Pl, hcs, _, hl, hm, hmm, _, hi⟩
  · simp only [List.cons.injEq, and_true] at hcs
    subst hcs
    exact ⟨none, [], 0, rfl, rfl, Nat.le_refl _, Nat.zero_le _, fun _ => rfl, fun n hn => by cases hn⟩
  · simp only [List.cons.injEq, and_true] at hcs
    subst hcs
    have hlm : len ≤ m := by rw [hmm]; split <;> omega
    obtain ⟨xs, hx1, hx2⟩ := list_of len (fun i (x : Arc) => (InI x.f ∧ InI x.i ∧ InI x.o ∧ InI x.t ∧ InI x.w) ∧ ∀ off v, (EK.arc.cells x)[off]? = some v → w.cell? (a.add (i * 5 + off)) = some v) EK.arc.dflt (fun i hil => by
      obtain ⟨cs, hc, ht'⟩ := hi i (by omega)
      rw [hC] at hc
      obtain ⟨ys, n', _, _, hlen, _, hg⟩ := DataW.trod_struct he ht'
      obtain ⟨_, hcl, hat⟩ := World.cells?_some hc
      rw [hC] at hlen
      match cs, hlen with
      | [c0, c1, c2, c3, c4], _ =>
        obtain ⟨o0, k0⟩ := hone_of hone 0 f0 rfl
        obtain ⟨o1, k1⟩ := hone_of hone 1 f1 rfl
        obtain ⟨o2, k2⟩ := hone_of hone 2 f2 rfl
        obtain ⟨o3, k3⟩ := hone_of hone 3 f3 rfl
        obtain ⟨o4, k4⟩ := hone_of hone 4 f4 rfl
        have g0 := hg 0 f0 rfl
        have g1 := hg 1 f1 rfl
        have g2 := hg 2 f2 rfl
        have g3 := hg 3 f3 rfl
        have g4 := hg 4 f4 rfl
        rw [o0, k0] at g0
        rw [o1, k1] at g1
        rw [o2, k2] at g2
        rw [o3, k3] at g3
        rw [o4, k4] at g4
        have some_of : ∀ {l : List Value} {f : Field} {i : Nat}, DataW.trod enc P w base spare held n' f.type l = ys[i]? → ys.length = 5 → i < 5 → P.underlying f.type = some (.int .i64) → ∃ q, l = [.int .i64 q] ∧ InI q := by
          intro l f i hq hl hi5 hu
          rw [List.getElem?_eq_getElem (by omega)] at hq
          obtain ⟨q, hq1, _, hq2⟩ := DataW.trod_int hu hq
          exact ⟨q, hq1, wfI hq2⟩
        have hyl : ys.length = 5 := by assumption
        obtain ⟨q0, e0, i0⟩ := some_of g0 hyl (by omega) (hf f0 (by simp))
        obtain ⟨q1, e1, i1⟩ := some_of g1 hyl (by omega) (hf f1 (by simp))
        obtain ⟨q2, e2, i2⟩ := some_of g2 hyl (by omega) (hf f2 (by simp))
        obtain ⟨q3, e3, i3⟩ := some_of g3 hyl (by omega) (hf f3 (by simp))
        obtain ⟨q4, e4, i4⟩ := some_of g4 hyl (by omega) (hf f4 (by simp))
        simp only [List.drop_succ_cons, List.drop_zero, List.take_succ_cons, List.take_zero, List.cons.injEq, and_true] at e0 e1 e2 e3 e4
        subst e0 e1 e2 e3 e4
        refine ⟨⟨q0, q1, q2, q3, q4⟩, ⟨i0, i1, i2, i3, i4⟩, fun off v hv => ?_⟩
        have hoff : off < 5 := by
          have := (List.getElem?_eq_some_iff.1 hv).1
          rwa [EK.cells_length] at this
        have := hat off (by omega)
        rw [← Go.Deep.add_add, this]
        exact hv)
    have hsz : (EK.arc.sz) = 5 := rfl
    refine ⟨some a, xs, cap, by rw [hx1], lent_mk a rfl ?_, by omega, hm, (fun h => by cases h), fun y hy => ?_⟩
    · intro j v hj
      obtain ⟨i, off, rfl, hil, ho, hv⟩ := flat_cases hj
      exact (hx2 i (by omega)).2 off v hv
    · obtain ⟨i, hil, rfl⟩ := List.getElem_of_mem hy
      have := (hx2 i (by omega)).1
      have e : xs.getD i EK.arc.dflt = xs[i] := by simp [List.getD, hil]
      rw [e] at this
      exact this

/-- A transducer that is handed in. -/
structure Hand (w : World) (F : TF) (a0 a1 : Option Addr) (v : Value) : Prop where
  val : v = .agg #[.int .i64 F.st, .int .i64 F.start, .slice a0 F.fin.length F.capF, .slice a1 F.arcs.length F.capA]
  l0 : Lent w a0 .int F.fin
  l1 : Lent w a1 .arc F.arcs
  c0 : F.capF ≤ maxLen
  c1 : F.capA ≤ maxLen
  k0 : F.fin.length ≤ F.capF
  k1 : F.arcs.length ≤ F.capA
  i0 : InI F.st
  i1 : InI F.start
  i2 : ∀ n ∈ F.fin, InI n
  i3 : ∀ a ∈ F.arcs, InI a.f ∧ InI a.i ∧ InI a.o ∧ InI a.t ∧ InI a.w

set_option maxRecDepth 100000 in
theorem open_hand {r : Go.Reach} {b0 : Nat} {v : Value} {d : DataW H} {p : List MemPlace} (hv : Value.okWide Try.prog w r b0 25 v) (h : DataW.Trod enc Try.prog w base spare held 25 v d p) : ∃ F a0 a1, Hand w F a0 a1 v := by
  obtain ⟨v0, v1, v2, v3, y0, y1, y2, y3, n, rfl, _, _, h0, h1, h2, h3⟩ := open_agg4 Try.underlying25 (by kernel_rfl) (by kernel_rfl) hv h
  obtain ⟨q0, e0, _, w0⟩ := DataW.trod_int Try.underlying3 h0
  obtain ⟨q1, e1, _, w1⟩ := DataW.trod_int Try.underlying3 h1
  simp only [List.cons.injEq, and_true] at e0 e1
  subst e0 e1
  obtain ⟨a0, xs, c0, rfl, l0, k0, m0, _, i2⟩ := open_lentI Try.underlying22 Try.underlying3 (by kernel_rfl) h2
  obtain ⟨a1, ys, c1, rfl, l1, k1, m1, _, i3⟩ := open_lentA Try.underlying23 Try.underlying47 (by kernel_rfl) (by kernel_rfl) (by
    intro f hf
    simp only [List.mem_cons, List.not_mem_nil, or_false] at hf
    rcases hf with rfl | rfl | rfl | rfl | rfl <;> exact Try.underlying3) h3
  exact ⟨⟨q0, q1, xs, ys, c0, c1⟩, a0, a1, rfl, l0, l1, m0, m1, k0, k1, wfI w0, wfI w1, i2, i3⟩

end
theorem add_zero (a : Addr) : a.add 0 = a := by simp [Addr.add]

theorem Ext.below {W W' : World} (h : Ext (· < W.heap.size) W W') : Below W.heap.size W W' := ⟨h.os, h.tape, h.output, h.size, fun k hk => h.block k hk⟩

/-- A call with what is handed in: one transducer. -/
theorem Hand.call1 {W : World} {F : TF} {a0 a1 : Option Addr} {v : Value} (h : Hand W F a0 a1 v) {f : Nat} {b : Bool} (hc : Ct Try.prog f [fV F] [] (hpF F) 2 (Is 2 (.b b))) :
    Calls Try.prog f #[v] W fun e W' => e = .returned (.bool b) ∧ Below W.heap.size W W' := by
  have hs := lentSat (W := W) (hp := hpF F) (n := 2) (fun i => if i = 0 then a0 else a1) (by
    intro id o hl
    simp only [hpF, look_cons] at hl
    split at hl
    · rename_i e; subst e; cases hl; exact ⟨by omega, 3, .int, F.fin, rfl, h.l0⟩
    · split at hl
      · rename_i e; subst e; cases hl; exact ⟨by omega, 47, .arc, F.arcs, rfl, h.l1⟩
      · cases hl)
  have key := hc _ _ _ W hs
  have e1 : ([fV F].map (SV.den fun i => if i = 0 then a0 else a1) ++ ([] : List Value)).toArray = #[v] := by
    rw [h.val]
    simp only [fV, List.map_cons, List.map_nil, SV.den, SA.den, SC.den, List.append_nil, Nat.zero_mul, if_true, if_neg (show ¬ (1 = 0) by omega)]
    have hid : ∀ o : Option Addr, o.map (fun x => x.add 0) = o := fun o => by cases o <;> simp [add_zero]
    simp only [hid]
  rw [e1] at key
  refine key.mono ?_
  rintro e W' ⟨v', β', Z', fp', s', rfl, hn, rfl, rfl⟩
  exact ⟨rfl, hn.ext.below⟩

theorem shut_bool {H : Type} {enc : TypeId × Value → H} {P : Program} {w : World} {base : Nat} {spare : Nat → Bool} {held : Bool} {t : TypeId} {b : Bool} (ht : P.underlying t = some .bool) : DataW.Trod enc P w base spare held t (.bool b) (.lit (.bool b)) [] :=
  ⟨1, by simp [DataW.trod, Value.cells, ht]⟩

end Go.Fw

/-
  What is handed in: a transducer and two words; a call with them.
-/
namespace Go.Fw
open Go Go.Proofs Go.ChangeShapes Go.WideShapes Go.ChangeAt Go.RowKit Go.Deep Go.Joins

theorem Hand.call3 {W : World} {F : TF} {a0 a1 a2 a3 : Option Addr} {v : Value} (h : Hand W F a0 a1 v) {xs ys : List Int} {cx cy : Nat} (h2 : Lent W a2 .int xs) (h3 : Lent W a3 .int ys) {f : Nat} {b : Bool}
    (hc : Ct Try.prog f [fV F, .c (.sl 2 1 0 xs.length cx), .c (.sl 3 1 0 ys.length cy)] [] (hpQ F xs ys) 4 (Is 4 (.b b))) :
    Calls Try.prog f #[v, .slice a2 xs.length cx, .slice a3 ys.length cy] W fun e W' => e = .returned (.bool b) ∧ Below W.heap.size W W' := by
  have hs := lentSat (W := W) (hp := hpQ F xs ys) (n := 4) (fun i => if i = 0 then a0 else if i = 1 then a1 else if i = 2 then a2 else a3) (by
    intro id o hl
    simp only [hpQ, look_cons] at hl
    split at hl
    · rename_i e; subst e; cases hl; exact ⟨by omega, 3, .int, F.fin, rfl, h.l0⟩
    · split at hl
      · rename_i e; subst e; cases hl; exact ⟨by omega, 47, .arc, F.arcs, rfl, h.l1⟩
      · split at hl
        · rename_i e; subst e; cases hl; exact ⟨by omega, 3, .int, xs, rfl, h2⟩
        · split at hl
          · rename_i e; subst e; cases hl; exact ⟨by omega, 3, .int, ys, rfl, h3⟩
          · cases hl)
  have key := hc _ _ _ W hs
  have e1 : ([fV F, .c (.sl 2 1 0 xs.length cx), .c (.sl 3 1 0 ys.length cy)].map (SV.den fun i => if i = 0 then a0 else if i = 1 then a1 else if i = 2 then a2 else a3) ++ ([] : List Value)).toArray = #[v, .slice a2 xs.length cx, .slice a3 ys.length cy] := by
    rw [h.val]
    simp only [fV, List.map_cons, List.map_nil, SV.den, SA.den, SC.den, List.append_nil, Nat.zero_mul, if_true, if_neg (show ¬ (1 = 0) by omega), if_neg (show ¬ (2 = 0) by omega), if_neg (show ¬ (2 = 1) by omega), if_neg (show ¬ (3 = 0) by omega), if_neg (show ¬ (3 = 1) by omega), if_neg (show ¬ (3 = 2) by omega)]
    have hid : ∀ o : Option Addr, o.map (fun x => x.add 0) = o := fun o => by cases o <;> simp [add_zero]
    simp only [hid]
  rw [e1] at key
  refine key.mono ?_
  rintro e W' ⟨v', β', Z', fp', s', rfl, hn, rfl, rfl⟩
  exact ⟨rfl, hn.ext.below⟩
end Go.Fw
