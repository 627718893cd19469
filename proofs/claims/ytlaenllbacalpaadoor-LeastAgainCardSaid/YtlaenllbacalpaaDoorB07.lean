/-
  What is handed in, as the executor's state has it.
-/
import Derived.Test.YtlaenllbacalpaaDoorB06
import Derived.Deep.Slices
import Derived.Deep.Fields
import Derived.ChangeSame
import Derived.Lib.SmallJoins
import Derived.ProofKit
import Derived.SizedLaws
import Derived.Test.YtlaenllbacalpaaDoorB04
import Derived.Shelf.Strconv.Itoa3
import Derived.Shelf.Bits.Mul64
import Derived.Test.YtlaenllbacalpaaDoorB05

set_option linter.unusedSimpArgs false
set_option linter.unusedVariables false

namespace Go.Fw
open Go Go.Proofs Go.ChangeShapes Go.WideShapes Go.ChangeAt Go.RowKit Go.Deep Go.Joins
def Lent (W : World) (oa : Option Addr) (k : EK) (xs : List k.ty) : Prop := match oa with
  | none => xs = []
  | some a => xs ≠ [] → a.spot = none ∧ a.block < W.heap.size ∧ ∀ j v, (flat k xs)[j]? = some v → W.cell? (a.add j) = some v
section
variable {H : Type} {enc : TypeId × Value → H} {P : Program} {w : World} {base : Nat} {spare : Nat → Bool} {held : Bool}
theorem cell_lt {a : Addr} {v : Value} (h : w.cell? a = some v) : a.spot = none ∧ a.block < w.heap.size := by
  refine ⟨World.cell?_spot h, ?_⟩
  unfold World.cell? at h
  split at h
  · rename_i hb; exact (Array.getElem?_eq_some_iff.1 hb).1
  · cases h
theorem wfI {n : Int} (h : (Lit.int .i64 n).wf = true) : InI n := by
  have h1 : IntKind.i64.min = -9223372036854775808 := rfl
  have h2 : IntKind.i64.max = 9223372036854775807 := rfl
  simp only [Lit.wf, Bool.and_eq_true, decide_eq_true_eq, h1, h2] at h
  exact h
theorem lent_mk {oa : Option Addr} {k : EK} {xs : List k.ty} (a : Addr) (ho : oa = some a) (h : ∀ j v, (flat k xs)[j]? = some v → w.cell? (a.add j) = some v) : Lent w oa k xs := by
  subst ho
  intro hne
  have hpos : 0 < (flat k xs).length := by
    rw [flat_length]
    have : 0 < xs.length := List.length_pos_iff.2 hne
    have hk : 0 < k.sz := by cases k <;> decide
    exact Nat.mul_pos this hk
  have h0 := h 0 _ (List.getElem?_eq_getElem hpos)
  have h1 := cell_lt h0
  rw [Addr.add] at h1
  simp only [if_true] at h1
  exact ⟨h1.1, h1.2, h⟩
theorem flat_cases {k : EK} {xs : List k.ty} {j : Nat} {v : Value} (h : (flat k xs)[j]? = some v) : ∃ i off, j = i * k.sz + off ∧ i < xs.length ∧ off < k.sz ∧ (k.cells (xs.getD i k.dflt))[off]? = some v := by
  have hk : 0 < k.sz := by cases k <;> decide
  have hj := (List.getElem?_eq_some_iff.1 h).1
  rw [flat_length] at hj
  have h1 : j / k.sz < xs.length := (Nat.div_lt_iff_lt_mul hk).2 hj
  have h2 : j % k.sz < k.sz := Nat.mod_lt _ hk
  have h3 : j = j / k.sz * k.sz + j % k.sz := by rw [Nat.mul_comm]; exact (Nat.div_add_mod _ _).symm
  refine ⟨j / k.sz, j % k.sz, h3, h1, h2, ?_⟩
  rw [← flat_get k xs _ _ h1 h2, ← h3]
  exact h
theorem open_lentI {t e : TypeId} {fuel : Nat} {v : Value} {x : DataW H × List MemPlace} (ht : P.underlying t = some (.slice e)) (he : P.underlying e = some (.int .i64)) (hc : P.cellsOf e = 1)
    (h : DataW.trod enc P w base spare held fuel t [v] = some x) :
    ∃ (oa : Option Addr) (xs : List Int) (cap : Nat), v = .slice oa xs.length cap ∧ Lent w oa .int xs ∧ xs.length ≤ cap ∧ cap ≤ maxLen ∧ (oa = none → cap = 0) ∧ ∀ n ∈ xs, InI n := by
  rcases open_ints ht he hc h with ⟨hcs, _⟩ | ⟨a, len, cap, zs, hcs, _, hl, hm, hz, _, hcell, hwz⟩
  · simp only [List.cons.injEq, and_true] at hcs
    subst hcs
    exact ⟨none, [], 0, rfl, rfl, Nat.le_refl _, Nat.zero_le _, fun _ => rfl, fun n hn => by cases hn⟩
  · simp only [List.cons.injEq, and_true] at hcs
    subst hcs
    have hlz : len ≤ zs.length := by rw [hz]; split <;> omega
    have hlen : (zs.take len).length = len := by rw [List.length_take]; omega
    refine ⟨some a, zs.take len, cap, by rw [hlen], lent_mk a rfl ?_, by rw [hlen]; exact hl, hm, (fun h => by cases h), fun n hn => wfI (hwz n (List.mem_of_mem_take hn))⟩
    intro j v hj
    obtain ⟨i, off, rfl, hi, ho, hv⟩ := flat_cases hj
    rw [hlen] at hi
    have ho : off < 1 := ho
    have ho0 : off = 0 := by omega
    subst ho0
    have hcl := hcell i (by omega)
    have e1 : i * EK.int.sz + 0 = i := by show i * 1 + 0 = i; omega
    rw [e1, hcl]
    have e2 : (zs.take len).getD i EK.int.dflt = zs.getD i 0 := by
      have : i < zs.length := by omega
      simp [List.getD, hi, this, EK.dflt]
    rw [e2] at hv
    exact hv
theorem list_of {α : Type} (n : Nat) (R : Nat → α → Prop) (d : α) (h : ∀ i, i < n → ∃ x, R i x) : ∃ xs : List α, xs.length = n ∧ ∀ i, i < n → R i (xs.getD i d) := by
  induction n with
  | zero => exact ⟨[], rfl, fun i hi => by omega⟩
  | succ n ih =>
    obtain ⟨xs, h1, h2⟩ := ih fun i hi => h i (by omega)
    obtain ⟨x, hx⟩ := h n (by omega)
    refine ⟨xs ++ [x], by simp [h1], fun i hi => ?_⟩
    by_cases e : i = n
    · subst e
      have : (xs ++ [x]).getD i d = x := by simp [List.getD, ← h1]
      rw [this]; exact hx
    · have : (xs ++ [x]).getD i d = xs.getD i d := by
        have : i < xs.length := by omega
        simp [List.getD, List.getElem?_append_left this]
      rw [this]; exact h2 i (by omega)
theorem open_lentA {t e : TypeId} {fuel : Nat} {v : Value} {x : DataW H × List MemPlace} {f0 f1 f2 f3 f4 : Field} (ht : P.underlying t = some (.slice e)) (he : P.underlying e = some (.struct #[f0, f1, f2, f3, f4]))
    (hone : oneCellFields P #[f0, f1, f2, f3, f4] = true) (hC : P.cellsOf e = 5) (hf : ∀ f ∈ [f0, f1, f2, f3, f4], P.underlying f.type = some (.int .i64))
    (h : DataW.trod enc P w base spare held fuel t [v] = some x) :
    ∃ (oa : Option Addr) (xs : List Arc) (cap : Nat), v = .slice oa xs.length cap ∧ Lent w oa .arc xs ∧ xs.length ≤ cap ∧ cap ≤ maxLen ∧ (oa = none → cap = 0) ∧ ∀ a ∈ xs, InI a.f ∧ InI a.i ∧ InI a.o ∧ InI a.t ∧ InI a.w := by
  rcases open_slice ht h with ⟨hcs, _⟩ | ⟨a, len, cap, m, n, D, Pl, hcs, _, hl, hm, hmm, _, hi⟩
  · simp only [List.cons.injEq, and_true] at hcs
    subst hcs
    exact ⟨none, [], 0, rfl, rfl, Nat.le_refl _, Nat.zero_le _, fun _ => rfl, fun n hn => by cases hn⟩
  · simp only [List.cons.injEq, and_true] at hcs
    subst hcs
    have hlm : len ≤ m := by rw [hmm]; split <;> omega
    obtain ⟨xs, hx1, hx2⟩ := list_of len (fun i (x : Arc) => (InI x.f ∧ InI x.i ∧ InI x.o ∧ InI x.t ∧ InI x.w) ∧ ∀ off v, (EK.arc.cells x)[off]? = some v → w.cell? (a.add (i * 5 + off)) = some v) EK.arc.dflt (fun i hil => by
      obtain ⟨cs, hc, ht'⟩ := hi i (by omega)
      rw [hC] at hc
      obtain ⟨ys, n', _, _, hlen, _, hg⟩ := DataW.trod_struct he ht'
      obtain ⟨_, hcl, hat⟩ := World.cells?_some hc
      rw [hC] at hlen
      match cs, hlen with
      | [c0, c1, c2, c3, c4], _ =>
        obtain ⟨o0, k0⟩ := hone_of hone 0 f0 rfl
        obtain ⟨o1, k1⟩ := hone_of hone 1 f1 rfl
        obtain ⟨o2, k2⟩ := hone_of hone 2 f2 rfl
        obtain ⟨o3, k3⟩ := hone_of hone 3 f3 rfl
        obtain ⟨o4, k4⟩ := hone_of hone 4 f4 rfl
        have g0 := hg 0 f0 rfl
        have g1 := hg 1 f1 rfl
        have g2 := hg 2 f2 rfl
        have g3 := hg 3 f3 rfl
        have g4 := hg 4 f4 rfl
        rw [o0, k0] at g0
        rw [o1, k1] at g1
        rw [o2, k2] at g2
        rw [o3, k3] at g3
        rw [o4, k4] at g4
        have some_of : ∀ {l : List Value} {f : Field} {i : Nat}, DataW.trod enc P w base spare held n' f.type l = ys[i]? → ys.length = 5 → i < 5 → P.underlying f.type = some (.int .i64) → ∃ q, l = [.int .i64 q] ∧ InI q := by
          intro l f i hq hl hi5 hu
          rw [List.getElem?_eq_getElem (by omega)] at hq
          obtain ⟨q, hq1, _, hq2⟩ := DataW.trod_int hu hq
          exact ⟨q, hq1, wfI hq2⟩
        have hyl : ys.length = 5 := by assumption
        obtain ⟨q0, e0, i0⟩ := some_of g0 hyl (by omega) (hf f0 (by simp))
        obtain ⟨q1, e1, i1⟩ := some_of g1 hyl (by omega) (hf f1 (by simp))
        obtain ⟨q2, e2, i2⟩ := some_of g2 hyl (by omega) (hf f2 (by simp))
        obtain ⟨q3, e3, i3⟩ := some_of g3 hyl (by omega) (hf f3 (by simp))
        obtain ⟨q4, e4, i4⟩ := some_of g4 hyl (by omega) (hf f4 (by simp))
        simp only [List.drop_succ_cons, List.drop_zero, List.take_succ_cons, List.take_zero, List.cons.injEq, and_true] at e0 e1 e2 e3 e4
        subst e0 e1 e2 e3 e4
        refine ⟨⟨q0, q1, q2, q3, q4⟩, ⟨i0, i1, i2, i3, i4⟩, fun off v hv => ?_⟩
        have hoff : off < 5 := by
          have := (List.getElem?_eq_some_iff.1 hv).1
          rwa [EK.cells_length] at this
        have := hat off (by omega)
        rw [← Go.Deep.add_add, this]
        exact hv)
    have hsz : (EK.arc.sz) = 5 := rfl
    refine ⟨some a, xs, cap, by rw [hx1], lent_mk a rfl ?_, by omega, hm, (fun h => by cases h), fun y hy => ?_⟩
    · intro j v hj
      obtain ⟨i, off, rfl, hil, ho, hv⟩ := flat_cases hj
      exact (hx2 i (by omega)).2 off v hv
    · obtain ⟨i, hil, rfl⟩ := List.getElem_of_mem hy
      have := (hx2 i (by omega)).1
      have e : xs.getD i EK.arc.dflt = xs[i] := by simp [List.getD, hil]
      rw [e] at this
      exact this
structure Hand (w : World) (F : TF) (a0 a1 : Option Addr) (v : Value) : Prop where
  val : v = .agg #[.int .i64 F.st, .int .i64 F.start, .slice a0 F.fin.length F.capF, .slice a1 F.arcs.length F.capA]
  l0 : Lent w a0 .int F.fin
  l1 : Lent w a1 .arc F.arcs
  c0 : F.capF ≤ maxLen
  c1 : F.capA ≤ maxLen
  k0 : F.fin.length ≤ F.capF
  k1 : F.arcs.length ≤ F.capA
  i0 : InI F.st
  i1 : InI F.start
  i2 : ∀ n ∈ F.fin, InI n
  i3 : ∀ a ∈ F.arcs, InI a.f ∧ InI a.i ∧ InI a.o ∧ InI a.t ∧ InI a.w
set_option maxRecDepth 100000 in
theorem open_hand {r : Go.Reach} {b0 : Nat} {v : Value} {d : DataW H} {p : List MemPlace} (hv : Value.okWide Tryd.prog w r b0 25 v) (h : DataW.Trod enc Tryd.prog w base spare held 25 v d p) : ∃ F a0 a1, Hand w F a0 a1 v := by
  obtain ⟨v0, v1, v2, v3, y0, y1, y2, y3, n, rfl, _, _, h0, h1, h2, h3⟩ := open_agg4 Tryd.underlying25 (by kernel_rfl) (by kernel_rfl) hv h
  obtain ⟨q0, e0, _, w0⟩ := DataW.trod_int Tryd.underlying3 h0
  obtain ⟨q1, e1, _, w1⟩ := DataW.trod_int Tryd.underlying3 h1
  simp only [List.cons.injEq, and_true] at e0 e1
  subst e0 e1
  obtain ⟨a0, xs, c0, rfl, l0, k0, m0, _, i2⟩ := open_lentI Tryd.underlying22 Tryd.underlying3 (by kernel_rfl) h2
  obtain ⟨a1, ys, c1, rfl, l1, k1, m1, _, i3⟩ := open_lentA Tryd.underlying23 Tryd.underlying50 (by kernel_rfl) (by kernel_rfl) (by
    intro f hf
    simp only [List.mem_cons, List.not_mem_nil, or_false] at hf
    rcases hf with rfl | rfl | rfl | rfl | rfl <;> exact Tryd.underlying3) h3
  exact ⟨⟨q0, q1, xs, ys, c0, c1⟩, a0, a1, rfl, l0, l1, m0, m1, k0, k1, wfI w0, wfI w1, i2, i3⟩
end
theorem add_zero (a : Addr) : a.add 0 = a := by simp [Addr.add]
theorem shut_bool {H : Type} {enc : TypeId × Value → H} {P : Program} {w : World} {base : Nat} {spare : Nat → Bool} {held : Bool} {t : TypeId} {b : Bool} (ht : P.underlying t = some .bool) : DataW.Trod enc P w base spare held t (.bool b) (.lit (.bool b)) [] :=
  ⟨1, by simp [DataW.trod, Value.cells, ht]⟩
end Go.Fw

/-
  strconv.Itoa, by the shelf's contract: the table of powers lies in a block that the state holds.
-/
namespace Go.Fw
open Go Go.Proofs
def itoaLays_ren : Go.Shelf.Ren where
  f := fun n => if n = 129 then 114 else if n = 171 then 97 else if n = 243 then 103 else if n = 246 then 108 else if n = 283 then 109 else if n = 284 then 110 else if n = 285 then 111 else if n = 286 then 112 else if n = 317 then 113 else if n = 318 then 115 else if n = 319 then 116 else if n = 320 then 117 else if n = 337 then 118 else if n = 338 then 119 else n
  t := fun n => if n = 0 then 0 else if n = 2 then 2 else if n = 3 then 3 else if n = 4 then 4 else if n = 5 then 5 else if n = 9 then 9 else if n = 20 then 20 else if n = 37 then 142 else if n = 46 then 126 else if n = 51 then 132 else if n = 53 then 135 else if n = 171 then 139 else if n = 173 then 143 else if n = 212 then 146 else if n = 213 then 147 else if n = 232 then 150 else if n = 233 then 151 else n
  g := fun n => if n = 17 then 0 else if n = 18 then 1 else if n = 19 then 2 else n
set_option maxRecDepth 20000 in
theorem itoaLays : LaysM.n171 Tryd.prog itoaLays_ren where
  mixed := by kernel_rfl
  f129 := by kernel_rfl
  f171 := by kernel_rfl
  f243 := by kernel_rfl
  f246 := by kernel_rfl
  f283 := by kernel_rfl
  f284 := by kernel_rfl
  f285 := by kernel_rfl
  f286 := by kernel_rfl
  f317 := by kernel_rfl
  f318 := by kernel_rfl
  f319 := by kernel_rfl
  f320 := by kernel_rfl
  f337 := by kernel_rfl
  f338 := by kernel_rfl
  t0 := by kernel_rfl
  a0 := fun w => by kernel_rfl
  z0 := fun w => by kernel_rfl
  v0 := fun w => by kernel_rfl
  t2 := by kernel_rfl
  a2 := fun w => by kernel_rfl
  z2 := fun w => by kernel_rfl
  v2 := fun w => by kernel_rfl
  t3 := by kernel_rfl
  a3 := fun w => by kernel_rfl
  z3 := fun w => by kernel_rfl
  v3 := fun w => by kernel_rfl
  t4 := by kernel_rfl
  a4 := fun w => by kernel_rfl
  z4 := fun w => by kernel_rfl
  v4 := fun w => by kernel_rfl
  t5 := by kernel_rfl
  a5 := fun w => by kernel_rfl
  z5 := fun w => by kernel_rfl
  v5 := fun w => by kernel_rfl
  t9 := by kernel_rfl
  a9 := fun w => by kernel_rfl
  z9 := fun w => by kernel_rfl
  v9 := fun w => by kernel_rfl
  t20 := by kernel_rfl
  a20 := fun w => by kernel_rfl
  z20 := fun w => by kernel_rfl
  v20 := fun w => by kernel_rfl
  t37 := by kernel_rfl
  a37 := fun w => by kernel_rfl
  z37 := fun w => by kernel_rfl
  v37 := fun w => by kernel_rfl
  t46 := by kernel_rfl
  a46 := fun w => by kernel_rfl
  z46 := fun w => by kernel_rfl
  v46 := fun w => by kernel_rfl
  t51 := by kernel_rfl
  a51 := fun w => by kernel_rfl
  z51 := fun w => by kernel_rfl
  v51 := fun w => by kernel_rfl
  t53 := by kernel_rfl
  a53 := fun w => by kernel_rfl
  z53 := fun w => by kernel_rfl
  v53 := fun w => by kernel_rfl
  t171 := by kernel_rfl
  a171 := fun w => by kernel_rfl
  z171 := fun w => by kernel_rfl
  v171 := fun w => by kernel_rfl
  t173 := by kernel_rfl
  a173 := fun w => by kernel_rfl
  z173 := fun w => by kernel_rfl
  v173 := fun w => by kernel_rfl
  t212 := by kernel_rfl
  a212 := fun w => by kernel_rfl
  z212 := fun w => by kernel_rfl
  v212 := fun w => by kernel_rfl
  t213 := by kernel_rfl
  a213 := fun w => by kernel_rfl
  z213 := fun w => by kernel_rfl
  t232 := by kernel_rfl
  a232 := fun w => by kernel_rfl
  z232 := fun w => by kernel_rfl
  v232 := fun w => by kernel_rfl
  t233 := by kernel_rfl
  a233 := fun w => by kernel_rfl
  z233 := fun w => by kernel_rfl
  v233 := fun w => by kernel_rfl
  g17 := by kernel_rfl
  g18 := by kernel_rfl
  g19 := by kernel_rfl
  i0 := by kernel_rfl
  i2 := by kernel_rfl
  i3 := by kernel_rfl
  i4 := by kernel_rfl
  i5 := by kernel_rfl
  i9 := by kernel_rfl
  i20 := by kernel_rfl
  i37 := by kernel_rfl
  i46 := by kernel_rfl
  i51 := by kernel_rfl
  i53 := by kernel_rfl
  i171 := by kernel_rfl
  i173 := by kernel_rfl
  i212 := by kernel_rfl
  i232 := by kernel_rfl
  i233 := by kernel_rfl
  m17 := by kernel_rfl
  m18 := by kernel_rfl
  m19 := by kernel_rfl
abbrev tabO (x : Obj) : SO := .gen fun _ fp w => fp 0 ∧ w.heap[0]? = some x
def TabX (x : Obj) : Prop := match x with
  | .cells cs _ _ => cs = (Lib.pow10Tab.map fun z => Value.int .u64 z).toArray
  | _ => False
theorem tab_glob : Tryd.prog.globalNamed "internal/strconv.uint64pow10" = some 0 := by kernel_rfl
theorem tab_is {x : Obj} (hx : TabX x) {w : World} (h : w.heap[0]? = some x) : Lib.TabIs Tryd.prog w "internal/strconv.uint64pow10" .u64 Lib.pow10Tab := by
  unfold Lib.TabIs World.var?
  rw [tab_glob]
  simp only [Option.bind_some, h]
  cases x <;> simp only [TabX] at hx
  subst hx
  rfl
def itS (n : Int) : SV := .c (.v (.string ⟨(Lib.itoa n).toArray⟩))
theorem itoa_c (x : Obj) (hx : TabX x) (n : Int) (h0 : -9223372036854775808 ≤ n) (h1 : n ≤ 9223372036854775807) :
    Ct Tryd.prog 97 [.i n] [] [(0, tabO x)] 1 (fun v s => v = itS n ∧ s = ⟨[], [(0, tabO x)], 1⟩) := by
  intro β Z fp w hs
  have hobj := (hs.obj 0 _ rfl).1
  have key : Calls Tryd.prog 97 #[.int .i64 n] w _ := Any.strconv_Itoa itoaLays n h0 h1 w (tab_is hx hobj.2)
  refine key.mono ?_
  rintro e w' ⟨rfl, k, os, rfl⟩
  have hk : Kept w (Sort.grow (w.drewN k) os) := ⟨rfl, rfl, rfl, by simp [Sort.grow, World.drewN], fun b hb => by simp [Sort.grow, World.drewN, Array.getElem?_append_left hb]⟩
  exact ⟨itS n, β, Z, fp, ⟨[], [(0, tabO x)], 1⟩, rfl, Nxt.kept hs hk (by simp [itS, SV.lt, SA.lt, SC.lt, Value.oneCell']), rfl, rfl⟩
end Go.Fw

/-
  What is handed in, with the table of powers in a block of its own.
-/
namespace Go.Fw
open Go Go.Proofs Go.ChangeShapes Go.WideShapes Go.ChangeAt Go.RowKit Go.Deep Go.Joins
theorem tab_cell {x : Obj} (hx : TabX x) {W : World} (h : W.heap[0]? = some x) {j : Nat} {v : Value} (hc : W.cell? ⟨0, j, none⟩ = some v) : ∃ n, v = .int .u64 n := by
  unfold World.cell? at hc
  cases x <;> simp only [TabX] at hx
  subst hx
  simp [h] at hc
  obtain ⟨z, _, rfl⟩ := hc
  exact ⟨z, rfl⟩
theorem Lent.off {W : World} {oa : Option Addr} {k : EK} {xs : List k.ty} {x : Obj} (h : Lent W oa k xs) (hx : TabX x) (hw : W.heap[0]? = some x) (hk : ∀ e : k.ty, ∃ n, (k.cells e)[0]? = some (.int .i64 n)) : ∀ a, oa = some a → xs ≠ [] → a.block ≠ 0 := by
  intro a ha hne
  subst ha
  obtain ⟨h1, h2, h3⟩ := h hne
  intro h0
  cases xs with
  | nil => exact hne rfl
  | cons e l =>
    obtain ⟨n, hn⟩ := hk e
    have h4 := h3 0 (.int .i64 n) (by
      show (flat k (e :: l))[0]? = _
      have : 0 < (k.cells e).length := (List.getElem?_eq_some_iff.1 hn).1
      show ((e :: l).flatMap k.cells)[0]? = _
      rw [List.flatMap_cons, List.getElem?_append_left this]
      exact hn)
    obtain ⟨b, o, sp⟩ := a
    simp only at h0 h1
    subst h0 h1
    have e0 : (⟨0, o, none⟩ : Addr).add 0 = ⟨0, o, none⟩ := by simp [Addr.add]
    rw [e0] at h4
    obtain ⟨m, hm⟩ := tab_cell hx hw h4
    cases hm
def ZT (W : World) (b : Nat) : Prop := b < W.heap.size ∧ b ≠ 0
theorem lentSatT {W : World} {hp : List (Nat × SO)} {n : Nat} (β : Env) {x : Obj} (hx : TabX x) (hw : W.heap[0]? = some x) (h : ∀ id o, look hp id = some o → id < n ∧ ∃ (E : Nat) (k : EK) (xs : List k.ty), o = .arr false E k xs 0 ∧ Lent W (β id) k xs ∧ ∀ e : k.ty, ∃ n, (k.cells e)[0]? = some (.int .i64 n)) :
    HSat β (ZT W) (fun id b => id = n ∧ b = 0) ⟨[], (n, tabO x) :: hp, n + 1⟩ W := by
  have h0 := (Array.getElem?_eq_some_iff.1 hw).1
  have hlk : ∀ id o, look ((n, tabO x) :: hp) id = some o → (id = n ∧ o = tabO x) ∨ (id ≠ n ∧ look hp id = some o) := by
    intro id o hl
    rw [look_cons] at hl
    split at hl
    · rename_i e; cases hl; exact .inl ⟨e.symm, rfl⟩
    · rename_i e; exact .inr ⟨fun c => e c.symm, hl⟩
  refine ⟨fun b hb => hb.1, fun id o hl b hb => ⟨by rw [hb.2]; exact h0, fun c => c.2 hb.2⟩, fun id id' _ _ _ _ hne b hb hb' => hne (hb.1.trans hb'.1.symm), fun id o hl => ?_, fun id o hl => ?_⟩
  · rcases hlk id o hl with ⟨rfl, rfl⟩ | ⟨hne, hl⟩
    · exact ⟨⟨⟨rfl, rfl⟩, hw⟩, fun w' hw' => ⟨⟨rfl, rfl⟩, by rw [hw' 0 ⟨rfl, rfl⟩]; exact hw⟩⟩
    · obtain ⟨_, E, k, xs, rfl, hxl, hk⟩ := h id o hl
      have hoff := hxl.off hx hw hk
      show SO.ok β _ _ W (β id) _
      unfold Lent at hxl
      cases hb : β id with
      | none => rw [hb] at hxl; exact ⟨hxl, rfl⟩
      | some a =>
        rw [hb] at hxl
        intro hne
        obtain ⟨h1, h2, h3⟩ := hxl hne
        exact ⟨h1, ⟨h2, hoff a hb hne⟩, h2, h3⟩
  · rcases hlk id o hl with ⟨rfl, rfl⟩ | ⟨hne, hl⟩
    · exact ⟨Nat.lt_succ_self _, trivial⟩
    · obtain ⟨h1, E, k, xs, rfl, _⟩ := h id o hl
      exact ⟨Nat.lt_succ_of_lt h1, trivial⟩
theorem int_cell (e : EK.int.ty) : ∃ n, (EK.int.cells e)[0]? = some (.int .i64 n) := ⟨e, rfl⟩
theorem arc_cell (e : EK.arc.ty) : ∃ n, (EK.arc.cells e)[0]? = some (.int .i64 n) := ⟨Arc.f e, rfl⟩
theorem HSat.cons_perm {β : Env} {Z : Nat → Prop} {fp : Nat → Nat → Prop} {hp hp' : List (Nat × SO)} {n : Nat} {W : World} (h : HSat β Z fp ⟨[], hp, n⟩ W) (hl : ∀ id, look hp' id = look hp id) : HSat β Z fp ⟨[], hp', n⟩ W :=
  ⟨h.zlt, fun id o e => h.flt id o (by rw [← hl]; exact e), fun i j o o' e e' => h.sep i j o o' (by rw [← hl]; exact e) (by rw [← hl]; exact e'), fun id o e => h.obj id o (by rw [← hl]; exact e), fun id o e => h.lto id o (by rw [← hl]; exact e)⟩
end Go.Fw

namespace Go.Fw
open Go Go.Proofs
def rhoM : Go.Shelf.Ren where
  f := fun n => if n = 212 then 102 else if n = 263 then 106 else if n = 264 then 107 else n
  t := fun n => if n = 46 then 126 else if n = 51 then 132 else if n = 53 then 135 else if n = 146 then 133 else if n = 148 then 136 else n
  g := fun n => n
set_option maxRecDepth 20000 in
theorem mulLays : Lays.n212 Tryd.prog rhoM where
  mixed := by kernel_rfl
  f212 := by kernel_rfl
  f263 := by kernel_rfl
  f264 := by kernel_rfl
  t46 := by kernel_rfl
  a46 := fun w => by kernel_rfl
  z46 := fun w => by kernel_rfl
  v46 := fun w => by kernel_rfl
  t51 := by kernel_rfl
  a51 := fun w => by kernel_rfl
  z51 := fun w => by kernel_rfl
  v51 := fun w => by kernel_rfl
  t53 := by kernel_rfl
  a53 := fun w => by kernel_rfl
  z53 := fun w => by kernel_rfl
  v53 := fun w => by kernel_rfl
  t146 := by kernel_rfl
  a146 := fun w => by kernel_rfl
  z146 := fun w => by kernel_rfl
  v146 := fun w => by kernel_rfl
  t148 := by kernel_rfl
  a148 := fun w => by kernel_rfl
  z148 := fun w => by kernel_rfl
  v148 := fun w => by kernel_rfl
theorem mul_c (x y : Nat) (hx : x < 18446744073709551616) (hy : y < 18446744073709551616) (h : x * y < 18446744073709551616) : Ct Tryd.prog 102 [.c (.u x), .c (.u y)] [] [] 0 (Is 0 (.tup [.c (.u 0), .c (.u (x * y : Nat))])) := by
  intro β Z fp w hs
  have key : Calls Tryd.prog 102 #[.int .u64 x, .int .u64 y] w _ := Any.bits_Mul mulLays x y hx hy w
  rw [Nat.div_eq_of_lt h, Nat.mod_eq_of_lt h] at key
  refine key.mono ?_
  rintro e w' ⟨rfl, rfl⟩
  exact ⟨.tup [.c (.u 0), .c (.u (x * y : Nat))], β, Z, fp, ⟨[], [], 0⟩, rfl, Nxt.refl hs (by simp [SV.lt, SA.lt, SC.lt]), rfl, rfl⟩
end Go.Fw

namespace Go.Fw
open Go Go.Proofs
end Go.Fw

namespace Go.Fw
open Go Go.Proofs
abbrev hpC (F : TF) : List (Nat × SO) := [(0, .arr false 3 .int F.fin 0), (1, .arr false 50 .arc F.arcs 0), (2, .box 25 [.i F.st, .i F.start, .sl 0 1 0 F.fin.length F.capF, .sl 1 5 0 F.arcs.length F.capA])]
end Go.Fw

namespace Go.Fw
open Go Go.Proofs
set_option maxHeartbeats 2000000 in
set_option maxRecDepth 20000 in
theorem indexFunc_c (l : List Int) (cap : Nat) (hl : l.length ≤ 9223372036854775807) (g : Nat) (p : Int → Bool) (hg : ∀ x, Ct Tryd.prog g [.i x] [] [] 0 (Is 0 (.b (p x)))) (hcf : ∀ args w, (callFunc g args).run Tryd.prog w = .ok (.enter g args) w) :
    Ct Tryd.prog 80 [.c (.sl 0 1 0 l.length cap), .c (.fn g [])] [] [(0, .arr false 3 .int l 0)] 1 (Is 1 (.i (idx p 0 l))) := by
  refine ctW Tryd.tyOk 6 [7, 8] Tryd.func80 rfl (by simp) (by simp) (fr := [(0, .c (.sl 0 1 0 l.length cap)), (1, .c (.fn g []))]) rfl ?_
  (conv => whnf)
  refine loopI (fun k : Nat => ⟨[(0, .c (.sl 0 1 0 l.length cap)), (1, .c (.fn g [])), (4, .i 0), (7, .i l.length), (8, .i k)], [(0, .arr false 3 .int l 0)], 1⟩) (fun k => k ≤ l.length ∧ idx p 0 l = idx p k (l.drop k)) (fun k => l.length - k) 0 [] ⟨by rfl, ?_, ?_⟩ (by simp) ?_
  · simp
  · simp
  · intro k ⟨hk1, hk2⟩
    repeat' (first | exact rfl | ((conv => whnf); first | refine condP_mk (fun h => ?_) (fun h => ?_) | refine Ob.mk ?_ ?_ | refine Both.mk ?_ ?_))
    · simp only [decide_eq_true_eq] at h; omega
    · simp only [decide_eq_true_eq] at h; omega
    · simp only [decide_eq_true_eq] at h
      have hk : k < l.length := by omega
      clear h
      (conv => whnf)
      simp only [Nat.zero_add, Int.toNat_natCast, EK.dflt]
      rw [idx_drop p l k 0 hk] at hk2
      refine callI (hg (l.getD k 0)) [] hcf rfl trivial (by simp) (by simp) ?_
      repeat' (first | exact rfl | ((conv => whnf); first | refine condP_mk (fun h => ?_) (fun h => ?_) | refine Ob.mk ?_ ?_ | refine Both.mk ?_ ?_))
      · refine Back.is ?_
        simp only [eqV, eqA, eqC, hk2, h, if_pos]
      · unfold InI; omega
      · (conv => whnf)
        simp only [h, Bool.false_eq_true, if_false] at hk2
        refine ⟨k + 1, [], ⟨by rfl, ?_, ?_⟩, ⟨hk, hk2⟩, by omega⟩
        · simp
        · simp
    · refine Back.is ?_
      simp only [decide_eq_false_iff_not] at h
      rw [List.drop_eq_nil_of_le (by omega), idx] at hk2
      simp only [eqV, eqA, eqC, hk2]
theorem containsFunc_c (l : List Int) (cap : Nat) (hl : l.length ≤ 9223372036854775807) (g : Nat) (p : Int → Bool) (hg : ∀ x, Ct Tryd.prog g [.i x] [] [] 0 (Is 0 (.b (p x)))) (hcf : ∀ args w, (callFunc g args).run Tryd.prog w = .ok (.enter g args) w) :
    Ct Tryd.prog 57 [.c (.sl 0 1 0 l.length cap), .c (.fn g [])] [] [(0, .arr false 3 .int l 0)] 1 (Is 1 (.b (l.any p))) := by
  refine ctW Tryd.tyOk 5 [] Tryd.func57 rfl (by simp) (by simp) (fr := [(0, .c (.sl 0 1 0 l.length cap)), (1, .c (.fn g []))]) rfl ?_
  (conv => whnf)
  refine callI (indexFunc_c l cap hl g p hg hcf) [0] Tryd.call80 rfl (by simp) (by simp) (by simp) ?_
  repeat' (first | exact rfl | ((conv => whnf); first | refine condP_mk (fun h => ?_) (fun h => ?_) | refine Ob.mk ?_ ?_ | refine Both.mk ?_ ?_))
  refine Back.is ?_
  simp only [eqV, eqA, eqC]
  exact (idx_any p l 0).symm
set_option maxHeartbeats 2000000 in
set_option maxRecDepth 20000 in
theorem indexFuncA_c (l : List Arc) (cap : Nat) (hl : l.length ≤ 9223372036854775807) (g : Nat) (p : Arc → Bool) (hg : ∀ x, Ct Tryd.prog g [arcV x] [] [] 0 (Is 0 (.b (p x)))) (hcf : ∀ args w, (callFunc g args).run Tryd.prog w = .ok (.enter g args) w) :
    Ct Tryd.prog 83 [.c (.sl 0 5 0 l.length cap), .c (.fn g [])] [] [(0, .arr false 50 .arc l 0)] 1 (Is 1 (.i (idx p 0 l))) := by
  refine ctW Tryd.tyOk 6 [7, 8] Tryd.func83 rfl (by simp) (by simp) (fr := [(0, .c (.sl 0 5 0 l.length cap)), (1, .c (.fn g []))]) rfl ?_
  (conv => whnf)
  refine loopI (fun k : Nat => ⟨[(0, .c (.sl 0 5 0 l.length cap)), (1, .c (.fn g [])), (4, .i 0), (7, .i l.length), (8, .i k)], [(0, .arr false 50 .arc l 0)], 1⟩) (fun k => k ≤ l.length ∧ idx p 0 l = idx p k (l.drop k)) (fun k => l.length - k) 0 [] ⟨by rfl, ?_, ?_⟩ (by simp) ?_
  · simp
  · simp
  · intro k ⟨hk1, hk2⟩
    repeat' (first | exact rfl | ((conv => whnf); first | refine condP_mk (fun h => ?_) (fun h => ?_) | refine Ob.mk ?_ ?_ | refine Both.mk ?_ ?_))
    · simp only [decide_eq_true_eq] at h; omega
    · simp only [decide_eq_true_eq] at h; omega
    · simp only [decide_eq_true_eq] at h
      have hk : k < l.length := by omega
      clear h
      (conv => whnf)
      simp only [Nat.zero_add, Int.toNat_natCast]
      rw [idx_drop p l k EK.arc.dflt hk] at hk2
      refine callI (hg (l.getD k EK.arc.dflt)) [] hcf rfl trivial (by simp) (by simp) ?_
      repeat' (first | exact rfl | ((conv => whnf); first | refine condP_mk (fun h => ?_) (fun h => ?_) | refine Ob.mk ?_ ?_ | refine Both.mk ?_ ?_))
      · refine Back.is ?_
        simp only [eqV, eqA, eqC, hk2, h, if_pos]
      · unfold InI; omega
      · (conv => whnf)
        simp only [h, Bool.false_eq_true, if_false] at hk2
        refine ⟨k + 1, [], ⟨by rfl, ?_, ?_⟩, ⟨hk, hk2⟩, by omega⟩
        · simp
        · simp
    · refine Back.is ?_
      simp only [decide_eq_false_iff_not] at h
      rw [List.drop_eq_nil_of_le (by omega), idx] at hk2
      simp only [eqV, eqA, eqC, hk2]
theorem containsFuncA_c (l : List Arc) (cap : Nat) (hl : l.length ≤ 9223372036854775807) (g : Nat) (p : Arc → Bool) (hg : ∀ x, Ct Tryd.prog g [arcV x] [] [] 0 (Is 0 (.b (p x)))) (hcf : ∀ args w, (callFunc g args).run Tryd.prog w = .ok (.enter g args) w) :
    Ct Tryd.prog 60 [.c (.sl 0 5 0 l.length cap), .c (.fn g [])] [] [(0, .arr false 50 .arc l 0)] 1 (Is 1 (.b (l.any p))) := by
  refine ctW Tryd.tyOk 5 [] Tryd.func60 rfl (by simp) (by simp) (fr := [(0, .c (.sl 0 5 0 l.length cap)), (1, .c (.fn g []))]) rfl ?_
  (conv => whnf)
  refine callI (indexFuncA_c l cap hl g p hg hcf) [0] Tryd.call83 rfl (by simp) (by simp) (by simp) ?_
  repeat' (first | exact rfl | ((conv => whnf); first | refine condP_mk (fun h => ?_) (fun h => ?_) | refine Ob.mk ?_ ?_ | refine Both.mk ?_ ?_))
  refine Back.is ?_
  simp only [eqV, eqA, eqC]
  exact (idx_any p l 0).symm
end Go.Fw

namespace Go.Fw
open Go Go.Proofs
set_option maxHeartbeats 2000000 in
set_option maxRecDepth 20000 in
theorem or_c (l : List Int) (cap : Nat) (hl : l.length ≤ 9223372036854775807) : Ct Tryd.prog 81 [.c (.sl 0 1 0 l.length cap)] [] [(0, .arr true 3 .int l 0)] 1 (Is 1 (.i (orI l))) := by
  refine ctW Tryd.tyOk 6 [6, 7, 8] Tryd.func81 rfl (by simp) (by simp) (fr := [(0, .c (.sl 0 1 0 l.length cap))]) rfl ?_
  (conv => whnf)
  refine loopI (fun k : Nat => ⟨[(2, .i 0), (3, .i 0), (6, .c (.sl 0 1 0 l.length cap)), (7, .i l.length), (8, .i k)], [(0, .arr true 3 .int l 0)], 1⟩) (fun k => k ≤ l.length ∧ orI l = orI (l.drop k)) (fun k => l.length - k) 0 [] ⟨by rfl, ?_, ?_⟩ (by simp) ?_
  · simp
  · simp
  · intro k ⟨hk1, hk2⟩
    repeat' (first | exact rfl | ((conv => whnf); first | refine condP_mk (fun h => ?_) (fun h => ?_) | refine Ob.mk ?_ ?_ | refine Both.mk ?_ ?_))
    · simp only [decide_eq_true_eq] at h; omega
    · simp only [decide_eq_true_eq] at h; omega
    · simp only [bne_iff_ne, Nat.zero_add, Int.toNat_natCast, EK.dflt] at h
      rename_i hk
      simp only [decide_eq_true_eq] at hk
      rw [orI_drop l k (by omega), if_pos h] at hk2
      refine Back.is ?_
      simp only [eqV, eqA, eqC, hk2, Nat.zero_add, Int.toNat_natCast, EK.dflt]
    · rename_i hk
      simp only [decide_eq_true_eq] at hk
      unfold InI; omega
    · simp only [bne_eq_false_iff_eq, Nat.zero_add, Int.toNat_natCast, EK.dflt] at h
      rename_i hk
      simp only [decide_eq_true_eq] at hk
      rw [orI_drop l k (by omega), if_neg (by rw [h]; simp)] at hk2
      (conv => whnf)
      refine ⟨k + 1, [], ⟨by rfl, ?_, ?_⟩, ⟨by omega, hk2⟩, by omega⟩
      · simp
      · simp
    · refine Back.is ?_
      simp only [decide_eq_false_iff_not] at h
      rw [List.drop_eq_nil_of_le (by omega), orI] at hk2
      simp only [eqV, eqA, eqC, hk2]
set_option maxHeartbeats 4000000 in
set_option maxRecDepth 20000 in
theorem order_c (a b : Arc) : Ct Tryd.prog 59 [arcV a, arcV b] [] [] 0 (Is 0 (.i (orderI a b))) := by
  refine ctW Tryd.tyOk 5 [] Tryd.func59 rfl (by simp) (by simp) (fr := [(0, arcV a), (1, arcV b)]) rfl ?_
  (conv => whnf)
  refine dR ?_
  (conv => whnf)
  refine cI (compare_c a.f b.f) [] Tryd.call82 ?_
  repeat' (first | exact rfl | ((conv => whnf); first | refine condP_mk (fun h => ?_) (fun h => ?_) | refine Ob.mk ?_ ?_ | refine Both.mk ?_ ?_))
  (conv => whnf)
  refine cI (compare_c a.i b.i) [] Tryd.call82 ?_
  repeat' (first | exact rfl | ((conv => whnf); first | refine condP_mk (fun h => ?_) (fun h => ?_) | refine Ob.mk ?_ ?_ | refine Both.mk ?_ ?_))
  (conv => whnf)
  refine cI (compare_c a.o b.o) [] Tryd.call82 ?_
  repeat' (first | exact rfl | ((conv => whnf); first | refine condP_mk (fun h => ?_) (fun h => ?_) | refine Ob.mk ?_ ?_ | refine Both.mk ?_ ?_))
  (conv => whnf)
  refine cI (compare_c a.t b.t) [] Tryd.call82 ?_
  repeat' (first | exact rfl | ((conv => whnf); first | refine condP_mk (fun h => ?_) (fun h => ?_) | refine Ob.mk ?_ ?_ | refine Both.mk ?_ ?_))
  (conv => whnf)
  refine callI (or_c [cmpI a.f b.f, cmpI a.i b.i, cmpI a.o b.o, cmpI a.t b.t] 4 (by simp)) [2] Tryd.call81 rfl (by simp) (by simp) (by simp) ?_
  repeat' (first | exact rfl | ((conv => whnf); first | refine condP_mk (fun h => ?_) (fun h => ?_) | refine Ob.mk ?_ ?_ | refine Both.mk ?_ ?_))
  refine Back.is ?_
  simp only [eqV, eqA, eqC, orderI]
end Go.Fw

namespace Go.Fw
open Go Go.Proofs
theorem check1_c (F : TF) (n : Int) (hst : InI (F.st - 1)) : Ct Tryd.prog 55 [.i n, .c (.ptr 2 0)] [] (hpC F) 3 (fun v s => v = .b (decide (0 ≤ n ∧ n ≤ F.st - 1)) ∧ s = ⟨[], [(2, .box 25 [.i F.st, .i F.start, .sl 0 1 0 F.fin.length F.capF, .sl 1 5 0 F.arcs.length F.capA])], 3⟩) := by
  refine ctW Tryd.tyOk 4 [] Tryd.func55 rfl (by simp) (by simp) (fr := [(0, .i n), (1, .c (.ptr 2 0))]) rfl ?_
  repeat' (first | exact rfl | ((conv => whnf); first | refine condP_mk (fun h => ?_) (fun h => ?_) | refine Ob.mk ?_ ?_ | refine Both.mk ?_ ?_))
  · exact hst
  (conv => whnf)
  refine cI (within_c n 0 (F.st - 1)) [] Tryd.call56 ?_
  repeat' (first | exact rfl | ((conv => whnf); first | refine condP_mk (fun h => ?_) (fun h => ?_) | refine Ob.mk ?_ ?_ | refine Both.mk ?_ ?_))
  (conv => whnf)
  exact ⟨[], [(2, .box 25 [.i F.st, .i F.start, .sl 0 1 0 F.fin.length F.capF, .sl 1 5 0 F.arcs.length F.capA])], 3, .b (decide (0 ≤ n ∧ n ≤ F.st - 1)), ⟨by rfl, trivial, by simp⟩, by simp only [eqV, eqA, eqC], rfl, rfl⟩
abbrev frC : List (Nat × SV) := [(1, .c (.ptr 2 0)), (2, .i 0), (3, .c (.fn 55 [(2, 0)]))]
set_option maxHeartbeats 4000000 in
set_option maxRecDepth 20000 in
theorem check_c (F : TF) (hl : F.fin.length ≤ 9223372036854775807) : Ct Tryd.prog 29 [fV F] [] (hpF F) 2 (Is 2 (.i (fstE F))) := by
  refine ctW Tryd.tyOk 6 [35, 36, 37] Tryd.func29 rfl (by simp) (by simp) (fr := [(0, fV F)]) rfl ?_
  (conv => whnf)
  refine cI (within_c F.st 1 200) [] Tryd.call56 ?_
  repeat' (first | exact rfl | ((conv => whnf); first | refine condP_mk (fun h => ?_) (fun h => ?_) | refine Ob.mk ?_ ?_ | refine Both.mk ?_ ?_))
  · refine Back.is ?_
    simp only [Bool.not_eq_true', decide_eq_false_iff_not] at h
    simp only [eqV, eqA, eqC, fstE, if_pos h]
  simp only [Bool.not_eq_false', decide_eq_true_eq] at h
  have h1 := h
  clear h
  have hst : InI (F.st - 1) := by unfold InI; omega
  (conv => whnf)
  refine callF (check1_c F F.start hst) [0, 1, 2] Tryd.call55 rfl (by simp) (by simp) (by simp) ?_
  rintro _ _ ⟨rfl, rfl⟩
  repeat' (first | exact rfl | ((conv => whnf); first | refine condP_mk (fun h => ?_) (fun h => ?_) | refine Ob.mk ?_ ?_ | refine Both.mk ?_ ?_))
  · refine Back.is ?_
    simp only [Bool.not_eq_true', decide_eq_false_iff_not] at h
    simp only [eqV, eqA, eqC, fstE, if_neg (not_not_intro h1), if_pos h]
  · refine Back.is ?_
    rename_i h2
    simp only [Bool.not_eq_false', decide_eq_true_eq, bne_iff_ne] at h h2
    simp only [eqV, eqA, eqC, fstE, if_neg (not_not_intro h1), if_neg (not_not_intro h2), if_pos h]
  rename_i h2
  simp only [Bool.not_eq_false', decide_eq_true_eq, bne_eq_false_iff_eq] at h h2
  have h3 := h
  clear h
  (conv => whnf)
  refine callI (containsFunc_c F.fin F.capF hl 58 (fun a => !decide (-1 ≤ a ∧ a ≤ 1000000000)) check2_c Tryd.call58) [0] Tryd.call57 rfl (by simp) (by simp) (by simp) ?_
  have hany : (F.fin.any fun a => !decide (-1 ≤ a ∧ a ≤ 1000000000)) = true ↔ ¬ ∀ n ∈ F.fin, -1 ≤ n ∧ n ≤ 1000000000 := by
    rw [List.any_eq_true]
    constructor
    · rintro ⟨x, hx, h⟩ H
      rw [decide_eq_true (H x hx)] at h
      cases h
    · intro H
      refine Classical.byContradiction fun hc => H fun n hn => Classical.byContradiction fun hnn => hc ⟨n, hn, ?_⟩
      rw [decide_eq_false hnn]; rfl
  repeat' (first | exact rfl | ((conv => whnf); first | refine condP_mk (fun h => ?_) (fun h => ?_) | refine Ob.mk ?_ ?_ | refine Both.mk ?_ ?_))
  · refine Back.is ?_
    rw [hany] at h
    simp only [eqV, eqA, eqC, fstE, if_neg (not_not_intro h1), if_neg (not_not_intro h2), if_neg (not_not_intro h3), if_pos h]
  · refine Back.is ?_
    rename_i hk2
    have hk2 : ∀ n ∈ F.fin, -1 ≤ n ∧ n ≤ 1000000000 := Classical.not_not.1 fun hc => by rw [hany.2 hc] at hk2; cases hk2
    simp only [decide_eq_true_eq] at h
    simp only [eqV, eqA, eqC, fstE, if_neg (not_not_intro h1), if_neg (not_not_intro h2), if_neg (not_not_intro h3), if_neg (not_not_intro hk2), if_pos (show 3000 < F.arcs.length by omega)]
  rename_i hk2
  have hk2 : ∀ n ∈ F.fin, -1 ≤ n ∧ n ≤ 1000000000 := Classical.not_not.1 fun hc => by rw [hany.2 hc] at hk2; cases hk2
  simp only [decide_eq_false_iff_not] at h
  have h5 : F.arcs.length ≤ 3000 := by omega
  have h4 : fstE F = arcsE F.st none F.arcs := by
    simp only [fstE, if_neg (not_not_intro h1), if_neg (not_not_intro h2), if_neg (not_not_intro h3), if_neg (not_not_intro hk2), if_neg (show ¬ 3000 < F.arcs.length by omega)]
  clear hk2 h hany
  (conv => whnf)
  refine loopI (fun k : Nat => ⟨[(1, .c (.ptr 2 0)), (2, .i 0), (3, .c (.fn 55 [(2, 0)])), (35, .c (.sl 1 5 0 F.arcs.length F.capA)), (36, .i F.arcs.length), (37, .i k)], hpC F, 3⟩) (fun k => k ≤ F.arcs.length ∧ fstE F = arcsE F.st (if k = 0 then none else some (F.arcs.getD (k - 1) EK.arc.dflt)) (F.arcs.drop k)) (fun k => F.arcs.length - k) 0 [] ⟨by rfl, ?_, ?_⟩ (by simp [h4]) ?_
  · simp
  · simp
  · intro j ⟨hj1, hj2⟩
    repeat' (first | exact rfl | ((conv => whnf); first | refine condP_mk (fun h => ?_) (fun h => ?_) | refine Ob.mk ?_ ?_ | refine Both.mk ?_ ?_))
    · simp only [decide_eq_true_eq] at h; omega
    · simp only [decide_eq_true_eq] at h; omega
    · simp only [decide_eq_true_eq] at h
      have hj : j < F.arcs.length := by omega
      clear h
      (conv => whnf)
      simp only [Nat.zero_add, Int.toNat_natCast]
      have hd : F.arcs.drop j = F.arcs.getD j EK.arc.dflt :: F.arcs.drop (j + 1) := by
        rw [List.drop_eq_getElem_cons hj]; simp [List.getD, hj]
      rw [hd, arcsE_cons] at hj2
      generalize hx : F.arcs.getD j EK.arc.dflt = x at hj2 ⊢
      refine callF (check1_c F x.f hst) [0, 1, 2] Tryd.call55 rfl (by simp) (by simp) (by simp) ?_
      rintro _ _ ⟨rfl, rfl⟩
      repeat' (first | exact rfl | ((conv => whnf); first | refine condP_mk (fun h => ?_) (fun h => ?_) | refine Ob.mk ?_ ?_ | refine Both.mk ?_ ?_))
      · refine Back.is ?_
        simp only [Bool.not_eq_true'] at h
        simp only [eqV, eqA, eqC, hj2, arcOk, h]
        rfl
      simp only [Bool.not_eq_false'] at h
      have a1 := h
      clear h
      (conv => whnf)
      refine callF (check1_c F x.t hst) [0, 1, 2] Tryd.call55 rfl (by simp) (by simp) (by simp) ?_
      rintro _ _ ⟨rfl, rfl⟩
      repeat' (first | exact rfl | ((conv => whnf); first | refine condP_mk (fun h => ?_) (fun h => ?_) | refine Ob.mk ?_ ?_ | refine Both.mk ?_ ?_))
      · refine Back.is ?_
        simp only [Bool.not_eq_true'] at h
        simp only [eqV, eqA, eqC, hj2, arcOk, a1, h]
        rfl
      simp only [Bool.not_eq_false'] at h
      have a2 : arcOk F.st x = true := by simp only [arcOk, a1, h]; rfl
      clear h
      (conv => whnf)
      refine cI (within_c x.i 0 9) [] Tryd.call56 ?_
      repeat' (first | exact rfl | ((conv => whnf); first | refine condP_mk (fun h => ?_) (fun h => ?_) | refine Ob.mk ?_ ?_ | refine Both.mk ?_ ?_))
      · refine Back.is ?_
        simp only [Bool.not_eq_true'] at h
        simp only [eqV, eqA, eqC, hj2, a2, arcIn, h]
        rfl
      simp only [Bool.not_eq_false'] at h
      have a3 := h
      clear h
      (conv => whnf)
      refine cI (within_c x.o 0 9) [] Tryd.call56 ?_
      repeat' (first | exact rfl | ((conv => whnf); first | refine condP_mk (fun h => ?_) (fun h => ?_) | refine Ob.mk ?_ ?_ | refine Both.mk ?_ ?_))
      · refine Back.is ?_
        simp only [Bool.not_eq_true'] at h
        simp only [eqV, eqA, eqC, hj2, a2, arcIn, a3, h]
        rfl
      simp only [Bool.not_eq_false'] at h
      have a4 := h
      clear h
      (conv => whnf)
      refine cI (within_c x.w 0 1000000000) [] Tryd.call56 ?_
      repeat' (first | exact rfl | ((conv => whnf); first | refine condP_mk (fun h => ?_) (fun h => ?_) | refine Ob.mk ?_ ?_ | refine Both.mk ?_ ?_))
      · refine Back.is ?_
        simp only [Bool.not_eq_true'] at h
        simp only [eqV, eqA, eqC, hj2, a2, arcIn, a3, a4, h]
        rfl
      simp only [Bool.not_eq_false'] at h
      have a5 : arcIn x = true := by simp only [arcIn, a3, a4, h]; rfl
      clear h
      (conv => whnf)
      refine dR ?_
      repeat' (first | exact rfl | ((conv => whnf); first | refine condP_mk (fun h => ?_) (fun h => ?_) | refine Ob.mk ?_ ?_ | refine Both.mk ?_ ?_))
      · unfold InI; omega
      · simp only [decide_eq_true_eq, gt_iff_lt] at h; omega
      · simp only [decide_eq_true_eq, gt_iff_lt] at h; omega
      · simp only [decide_eq_true_eq, gt_iff_lt] at h
        have hj0 : j ≠ 0 := by omega
        clear h
        have e : 0 + ((j : Int) - 1).toNat = j - 1 := by omega
        (conv => whnf)
        simp only [e, Nat.zero_add, Int.toNat_natCast]
        simp only [if_neg hj0] at hj2
        generalize hy : F.arcs.getD (j - 1) EK.arc.dflt = y at hj2 ⊢
        refine cI (order_c y x) [] Tryd.call59 ?_
        repeat' (first | exact rfl | ((conv => whnf); first | refine condP_mk (fun h => ?_) (fun h => ?_) | refine Ob.mk ?_ ?_ | refine Both.mk ?_ ?_))
        · refine Back.is ?_
          rw [orderI_ahead] at h
          simp only [eqV, eqA, eqC, hj2, a2, a5, h]
          rfl
        · unfold InI; omega
        · rw [orderI_ahead] at h
          simp only [Bool.not_eq_false'] at h
          (conv => whnf)
          refine ⟨j + 1, [], ⟨by rfl, ?_, ?_⟩, ⟨hj, ?_⟩, by omega⟩
          · simp
          · simp
          · simp only [a2, a5, h, Bool.not_true, Bool.false_eq_true, if_false] at hj2
            rw [if_neg (Nat.succ_ne_zero j), Nat.add_sub_cancel, hx]
            exact hj2
      · unfold InI; omega
      · simp only [decide_eq_false_iff_not, gt_iff_lt] at h
        have hj0 : j = 0 := by omega
        simp only [if_pos hj0] at hj2
        (conv => whnf)
        refine ⟨j + 1, [], ⟨by rfl, ?_, ?_⟩, ⟨hj, ?_⟩, by omega⟩
        · simp
        · simp
        · simp only [a2, a5, Bool.not_true, Bool.false_eq_true, if_false] at hj2
          rw [if_neg (Nat.succ_ne_zero j), Nat.add_sub_cancel, hx]
          exact hj2
    · refine Back.is ?_
      simp only [decide_eq_false_iff_not] at h
      rw [List.drop_eq_nil_of_le (by omega), arcsE_nil] at hj2
      simp only [eqV, eqA, eqC, hj2]
end Go.Fw

namespace Go.Fw
open Go Go.Proofs
def Sl (m E : Nat) (k : EK) (xs : List k.ty) (v : SV) (s : S) : Prop := ∃ sp, v = .c (.sl m k.sz 0 xs.length (xs.length + sp)) ∧ s = ⟨[], [(m, .arr true E k xs sp)], m + 1⟩
end Go.Fw

namespace Go.Fw
open Go Go.Proofs
end Go.Fw

namespace Go.Fw
open Go Go.Proofs
end Go.Fw

namespace Go.Fw
open Go Go.Proofs
theorem clone_c (l : List Int) (cap : Nat) (hl : l.length ≤ 1000000) : Ct Tryd.prog 91 [.c (.sl 0 1 0 l.length cap)] [] [(0, .arr false 3 .int l 0)] 1 (Sl 1 3 .int l) := by
  refine ctW Tryd.tyOk 3 [] Tryd.func91 rfl (by simp) (by simp) (fr := [(0, .c (.sl 0 1 0 l.length cap))]) rfl ?_
  (conv => whnf)
  intro c hc
  repeat' (first | exact rfl | ((conv => whnf); first | refine condP_mk (fun h => ?_) (fun h => ?_) | refine Ob.mk ?_ ?_ | refine Both.mk ?_ ?_))
  · (conv => whnf)
    have hl0 := hc h
    subst hl0
    exact ⟨[(1, none)], [(1, .arr true 3 .int [] 0)], 2, .c (.sl 1 1 0 0 0), ⟨by rfl, trivial, by simp [nilO]⟩, by simp, ⟨0, rfl, rfl⟩⟩
  · simp
  · simp
  · omega
  · intro sp
    (conv => whnf)
    exact ⟨[(1, some 2)], [(1, .arr true 3 .int l sp)], 2, .c (.sl 1 1 0 l.length (l.length + sp)), ⟨by rfl, trivial, by simp; exact (app_nil _ _ rfl).symm⟩, by simp, ⟨sp, rfl, rfl⟩⟩
set_option maxHeartbeats 2000000 in
set_option maxRecDepth 20000 in
theorem sameInts_c (a b : List Int) (ca cb : Nat) (ha : a.length ≤ 9223372036854775807) (hl : b.length ≤ 9223372036854775807) :
    Ct Tryd.prog 53 [.c (.sl 0 1 0 a.length ca), .c (.sl 1 1 0 b.length cb)] [] [(0, .arr false 3 .int a 0), (1, .arr false 3 .int b 0)] 2 (Is 2 (.b (decide (a = b)))) := by
  refine ctW Tryd.tyOk 6 [] Tryd.func53 rfl (by simp) (by simp) (fr := [(0, .c (.sl 0 1 0 a.length ca)), (1, .c (.sl 1 1 0 b.length cb))]) rfl ?_
  repeat' (first | exact rfl | ((conv => whnf); first | refine condP_mk (fun h => ?_) (fun h => ?_) | refine Ob.mk ?_ ?_ | refine Both.mk ?_ ?_))
  · simp only [bne_iff_ne] at h
    have : a ≠ b := fun e => h (by rw [e])
    (conv => whnf)
    exact ⟨[], [], 2, .b (decide (a = b)), ⟨by rfl, trivial, trivial⟩, by simp [this], rfl, rfl⟩
  simp only [bne_eq_false_iff_eq] at h
  have hab : a.length = b.length := by omega
  clear h
  (conv => whnf)
  refine loopI (fun k : Nat => ⟨[(0, .c (.sl 0 1 0 a.length ca)), (1, .c (.sl 1 1 0 b.length cb)), (4, .b false), (5, .i k)], [(0, .arr false 3 .int a 0), (1, .arr false 3 .int b 0)], 2⟩) (fun k => k ≤ a.length ∧ ∀ j, j < k → a.getD j 0 = b.getD j 0) (fun k => a.length - k) 0 [] ⟨by rfl, ?_, ?_⟩ (by simp) ?_
  · simp
  · simp
  · intro k ⟨hk1, hk2⟩
    repeat' (first | exact rfl | ((conv => whnf); first | refine condP_mk (fun h => ?_) (fun h => ?_) | refine Ob.mk ?_ ?_ | refine Both.mk ?_ ?_))
    refine dR ?_
    repeat' (first | exact rfl | ((conv => whnf); first | refine condP_mk (fun h => ?_) (fun h => ?_) | refine Ob.mk ?_ ?_ | refine Both.mk ?_ ?_))
    · simp only [decide_eq_true_eq] at h; omega
    · simp only [decide_eq_true_eq] at h; omega
    · simp only [decide_eq_true_eq] at h; omega
    · simp only [decide_eq_true_eq] at h; omega
    · rename_i hk
      simp only [decide_eq_true_eq, bne_iff_ne, Nat.zero_add, Int.toNat_natCast, EK.dflt] at h hk
      have : a ≠ b := fun e => h (by rw [e])
      (conv => whnf)
      exact ⟨[], [], 2, .b (decide (a = b)), ⟨by rfl, trivial, trivial⟩, by simp [this], rfl, rfl⟩
    · rename_i hk
      simp only [decide_eq_true_eq] at hk
      unfold InI; omega
    · rename_i hk
      simp only [decide_eq_true_eq, bne_eq_false_iff_eq, Nat.zero_add, Int.toNat_natCast, EK.dflt] at h hk
      (conv => whnf)
      refine ⟨k + 1, [], ⟨by rfl, ?_, ?_⟩, ⟨by omega, fun j hj => ?_⟩, by omega⟩
      · simp
      · simp
      · exact if e : j = k then e ▸ h else hk2 j (by omega)
    · simp only [decide_eq_false_iff_not] at h
      have : a = b := sameTake a b hab fun j hj => hk2 j (by omega)
      (conv => whnf)
      exact ⟨[], [], 2, .b (decide (a = b)), ⟨by rfl, trivial, trivial⟩, by simp [this], rfl, rfl⟩
end Go.Fw

namespace Go.Fw
open Go Go.Proofs
def oneV (i j : Nat) : SV := .a (.agg [.i 2, .i 0, .sl i 1 0 2 2, .sl j 5 0 1 1])
theorem one_c : Ct Tryd.prog 42 [] [] [] 0 (fun v s => v = oneV 0 1 ∧ s = ⟨[], [(0, .arr true 3 .int [-1, 1] 0), (1, .arr true 50 .arc [⟨0, 1, 2, 1, 5⟩] 0)], 2⟩) := by
  refine ctW Tryd.tyOk 1 [] Tryd.func42 rfl (by simp) (by simp) (fr := []) rfl ?_
  repeat' (first | exact rfl | ((conv => whnf); first | refine condP_mk (fun h => ?_) (fun h => ?_) | refine Ob.mk ?_ ?_ | refine Both.mk ?_ ?_))
  (conv => whnf)
  exact ⟨[(0, some 1), (1, some 2)], [(0, .arr true 3 .int [-1, 1] 0), (1, .arr true 50 .arc [⟨0, 1, 2, 1, 5⟩] 0)], 2, oneV 0 1, ⟨by rfl, trivial, by simp⟩, by simp [oneV], rfl, rfl⟩
abbrev hpO (F : TF) (oa ob : Bool) (sa sb : Nat) : List (Nat × SO) := [(0, .arr oa 3 .int F.fin sa), (1, .arr ob 50 .arc F.arcs sb)]
end Go.Fw

namespace Go.Fw
open Go Go.Proofs
def gV (F : TF) : SV := .a (.agg [.i F.st, .i F.start, .sl 2 1 0 F.fin.length F.capF, .sl 3 5 0 F.arcs.length F.capA])
abbrev hpG (F G : TF) : List (Nat × SO) := [(0, .arr false 3 .int F.fin 0), (1, .arr false 50 .arc F.arcs 0), (2, .arr false 3 .int G.fin 0), (3, .arr false 50 .arc G.arcs 0)]
set_option maxHeartbeats 4000000 in
set_option maxRecDepth 20000 in
theorem sameFst_c (F G : TF) (h1 : F.fin.length ≤ 9223372036854775807) (h2 : G.fin.length ≤ 9223372036854775807) (h3 : F.arcs.length ≤ 9223372036854775807) : Ct Tryd.prog 28 [fV F, gV G] [] (hpG F G) 4 (Is 4 (.b (sameF F G))) := by
  refine ctW Tryd.tyOk 6 [] Tryd.func28 rfl (by simp [gV]) (by simp) (fr := [(0, fV F), (1, gV G)]) rfl ?_
  repeat' (first | exact rfl | ((conv => whnf); first | refine condP_mk (fun h => ?_) (fun h => ?_) | refine Ob.mk ?_ ?_ | refine Both.mk ?_ ?_))
  · simp only [bne_iff_ne] at h
    refine Back.is ?_
    simp [sameF, h]
  · simp only [bne_iff_ne] at h
    refine Back.is ?_
    simp [sameF, h]
  rename_i e1
  simp only [bne_eq_false_iff_eq] at e1 h
  have e2 := h
  clear h
  (conv => whnf)
  refine callI (sameInts_c F.fin G.fin F.capF G.capF h1 h2) [0, 2] Tryd.call53 rfl (by simp) (by simp) (by simp) ?_
  repeat' (first | exact rfl | ((conv => whnf); first | refine condP_mk (fun h => ?_) (fun h => ?_) | refine Ob.mk ?_ ?_ | refine Both.mk ?_ ?_))
  · simp only [Bool.not_eq_true', decide_eq_false_iff_not] at h
    refine Back.is ?_
    simp [sameF, h]
  · simp only [bne_iff_ne] at h
    have : F.arcs ≠ G.arcs := fun e => h (by rw [e])
    refine Back.is ?_
    simp [sameF, this]
  rename_i e3
  simp only [Bool.not_eq_false', decide_eq_true_eq, bne_eq_false_iff_eq] at e3 h
  have e4 : F.arcs.length = G.arcs.length := by omega
  clear h
  (conv => whnf)
  refine loopI (fun k : Nat => ⟨[(2, .c (.ptr 4 0)), (3, .c (.ptr 5 0)), (4, .b false), (5, .i k)], [(1, .arr false 50 .arc F.arcs 0), (3, .arr false 50 .arc G.arcs 0), (4, .box 25 [.i F.st, .i F.start, .sl 0 1 0 F.fin.length F.capF, .sl 1 5 0 F.arcs.length F.capA]), (5, .box 25 [.i G.st, .i G.start, .sl 2 1 0 G.fin.length G.capF, .sl 3 5 0 G.arcs.length G.capA])], 6⟩) (fun k => k ≤ F.arcs.length ∧ ∀ j, j < k → F.arcs.getD j EK.arc.dflt = G.arcs.getD j EK.arc.dflt) (fun k => F.arcs.length - k) 0 [] ⟨by rfl, ?_, ?_⟩ (by simp) ?_
  · simp
  · simp
  · intro k ⟨hk1, hk2⟩
    repeat' (first | exact rfl | ((conv => whnf); first | refine condP_mk (fun h => ?_) (fun h => ?_) | refine Ob.mk ?_ ?_ | refine Both.mk ?_ ?_))
    refine dR ?_
    repeat' (first | exact rfl | ((conv => whnf); first | refine condP_mk (fun h => ?_) (fun h => ?_) | refine Ob.mk ?_ ?_ | refine Both.mk ?_ ?_))
    · simp only [decide_eq_true_eq] at h; omega
    · simp only [decide_eq_true_eq] at h; omega
    · simp only [decide_eq_true_eq] at h; omega
    · simp only [decide_eq_true_eq] at h; omega
    · rw [arcEq] at h
      simp only [Bool.not_eq_true', decide_eq_false_iff_not] at h
      have : F.arcs ≠ G.arcs := fun e => h (by rw [e])
      refine Back.is ?_
      simp [sameF, this]
    · rename_i hk
      simp only [decide_eq_true_eq] at hk
      unfold InI; omega
    · rename_i hk
      rw [arcEq] at h
      simp only [Bool.not_eq_false', decide_eq_true_eq, Nat.zero_add, Int.toNat_natCast] at h hk
      (conv => whnf)
      refine ⟨k + 1, [], ⟨by rfl, ?_, ?_⟩, ⟨by omega, fun j hj => ?_⟩, by omega⟩
      · simp
      · simp
      · exact if e : j = k then e ▸ h else hk2 j (by omega)
    · simp only [decide_eq_false_iff_not] at h
      have : F.arcs = G.arcs := sameTakeA _ _ e4 fun j hj => hk2 j (by omega)
      refine Back.is ?_
      simp [sameF, this, e1, e2, e3]
end Go.Fw

namespace Go.Fw
open Go Go.Proofs
theorem cp_rep (k m : Nat) (v : Int) : lOp.cpL (List.replicate k v ++ List.replicate m 0) k (Nat.min k m) (sub (List.replicate k v ++ List.replicate m 0) 0 k) = List.replicate (k + Nat.min k m) v ++ List.replicate (m - Nat.min k m) (0 : Int) := by
  have h1 : Nat.min k m ≤ k := Nat.min_le_left _ _
  have h2 : Nat.min k m ≤ m := Nat.min_le_right _ _
  generalize Nat.min k m = j at *
  unfold lOp.cpL sub
  have e1 : (List.replicate k v ++ List.replicate m (0 : Int)).take k = List.replicate k v := by rw [List.take_append_of_le_length (by simp), List.take_of_length_le (by simp)]
  have e2 : (List.replicate k v ++ List.replicate m (0 : Int)).drop (k + j) = List.replicate (m - j) 0 := by
    rw [List.drop_append, List.drop_of_length_le (by simp)]
    simp
  rw [List.drop_zero, e1, e2, List.take_replicate, List.replicate_append_replicate, Nat.min_eq_left h1]
theorem cp_one (m : Nat) (v : Int) : List.replicate (Nat.min 1 m) v ++ List.replicate (m - Nat.min 1 m) 0 = lOp.cpL (List.replicate m (0 : Int)) 0 (Nat.min 1 m) (sub [v] 0 1) := by
  unfold lOp.cpL sub
  cases m with
  | zero => simp [nmin]
  | succ m => have e : min 1 (m + 1) = 1 := by omega
              simp [nmin, e]
set_option maxHeartbeats 2000000 in
set_option maxRecDepth 20000 in
theorem repeat_c (v n : Int) (cap : Nat) (h0 : 0 ≤ n) (h1 : n ≤ 1000000) : Ct Tryd.prog 92 [.c (.sl 0 1 0 1 cap), .i n] [] [(0, .arr false 3 .int [v] 0)] 1 (fun r s => r = .c (.sl 1 1 0 n.toNat n.toNat) ∧ s = ⟨[], [(1, .arr true 3 .int (List.replicate n.toNat v) 0)], 2⟩) := by
  obtain ⟨m, rfl⟩ := Int.eq_ofNat_of_zero_le h0
  simp only [Int.toNat_natCast]
  refine ctW Tryd.tyOk 9 [] Tryd.func92 rfl (by simp) (by simp) (fr := [(0, .c (.sl 0 1 0 1 cap)), (1, .i m)]) rfl ?_
  repeat' (first | exact rfl | ((conv => whnf); first | (refine qX (fun h => ?_) fun h => ?_ <;> try exact absurd h (by omega)) | refine oN ?_ | refine oM ?_ ?_ | refine bM ?_ ?_ | refine dR ?_))
  refine cI (mul_c 1 m (by omega) (by omega) (by omega)) [] Tryd.call102 ?_
  repeat' (first | exact rfl | ((conv => whnf); first | (refine qX (fun h => ?_) fun h => ?_ <;> try exact absurd h (by omega)) | refine oN ?_ | refine oM ?_ ?_ | refine bM ?_ ?_ | refine dR ?_))
  · (conv => whnf)
    refine loopI (fun k : Nat => ⟨[(7, .c (.sl 1 1 0 m m)), (8, .i k)], [(1, .arr true 3 .int (List.replicate k v ++ List.replicate (m - k) (0 : Int)) 0)], 2⟩) (fun k => k ≤ m ∧ (1 ≤ k ∨ m = 0)) (fun k => m - k) (Nat.min 1 m) [] ⟨by rfl, ?_, ?_⟩ ?_ ?_
    · simp
    · simp
      have := cp_one m v
      exact this
    · simp only [nmin]; omega
    · intro k hk
      repeat' (first | exact rfl | ((conv => whnf); first | (refine qX (fun h => ?_) fun h => ?_ <;> try exact absurd h (by omega)) | refine oN ?_ | refine oM ?_ ?_ | refine bM ?_ ?_ | refine dR ?_))
      · (conv => whnf)
        refine ⟨k + Nat.min k (m - k), [], ⟨by rfl, ?_, ?_⟩, ?_, ?_⟩
        · simp
        · simp
          rw [cp_rep]
          congr 2
          simp only [nmin]; omega
        · simp only [nmin]; omega
        · simp only [nmin]; omega
      · (conv => whnf)
        have e : k = m := by omega
        subst e
        exact ⟨[], [(1, .arr true 3 .int (List.replicate k v) 0)], 2, .c (.sl 1 1 0 k k), ⟨by rfl, trivial, by simp⟩, by simp, rfl, rfl⟩
end Go.Fw

/-
  Shortest ways, in the plain: going over all arcs again and again, and settling one state after the other, come to the same.
-/
namespace Go.Fw
open Go
def Le (a b : Int) : Prop := b ≠ -1 → a ≠ -1 ∧ a ≤ b
theorem Le.refl (a : Int) : Le a a := fun h => ⟨h, Int.le_refl _⟩
theorem Le.trans {a b c : Int} (h : Le a b) (h' : Le b c) : Le a c := fun hc => by
  have h1 := h' hc
  have h2 := h h1.1
  exact ⟨h2.1, Int.le_trans h2.2 h1.2⟩
inductive RN (l : List Arc) (c0 : List Int) : Nat → Nat → Int → Prop
  | base {v : Nat} (h : v < c0.length) (hc : c0.getD v 0 ≠ -1) : RN l c0 0 v (c0.getD v 0)
  | step {k : Nat} {a : Arc} {c : Int} (h : RN l c0 k a.f.toNat c) (ha : a ∈ l) : RN l c0 (k + 1) a.t.toNat (c + a.w)
theorem getD_set {α : Type} (c : List α) (i v : Nat) (x d : α) : (c.set i x).getD v d = if i = v ∧ v < c.length then x else c.getD v d := by
  by_cases h : i = v
  · subst h
    by_cases h2 : i < c.length
    · simp [List.getD, h2]
    · simp [List.getD, h2]
  · simp [List.getD, List.getElem?_set_ne h, h]
theorem RN.lt {l : List Arc} {st : Int} {c0 : List Int} (hl : ∀ a ∈ l, ArcOk st a) (hn : (c0.length : Int) = st) {k v : Nat} {c : Int} (h : RN l c0 k v c) : v < c0.length := by
  cases h with
  | base h _ => exact h
  | step h ha => have h1 := (hl _ ha).t0; have h2 := (hl _ ha).t1; omega
theorem RN.pos {l : List Arc} {st : Int} {c0 : List Int} (hl : ∀ a ∈ l, ArcOk st a) (h0 : ∀ v ∈ c0, -1 ≤ v) {k v : Nat} {c : Int} (h : RN l c0 k v c) : 0 ≤ c := by
  induction h with
  | base h hc => have := h0 _ (getD_mem c0 _ 0 h); omega
  | step h ha ih => have h1 := (hl _ ha).w0; omega
structure RlxS (c c' : List Int) (a : Arc) : Prop where
  len : c'.length = c.length
  le : ∀ v, Le (c'.getD v 0) (c.getD v 0)
  to : c.getD a.f.toNat 0 ≠ -1 → Le (c'.getD a.t.toNat 0) (c.getD a.f.toNat 0 + a.w)
  eq : ∀ v, c'.getD v 0 = c.getD v 0 ∨ (v = a.t.toNat ∧ c.getD a.f.toNat 0 ≠ -1 ∧ c'.getD v 0 = c.getD a.f.toNat 0 + a.w)
theorem relax_spec {st : Int} {c : List Int} {B : Int} (hb : Bd st B c) {a : Arc} (ha : ArcOk st a) : RlxS c (relax c a) a := by
  have h1 := hb.at ha.t0 ha.t1
  have h2 := hb.at ha.f0 ha.f1
  have h3 := ha.w0
  have hlen := hb.len
  have hlt : a.t.toNat < c.length := by have := ha.t0; have := ha.t1; omega
  have key : (less (c.getD a.t.toNat 0) (plus (c.getD a.f.toNat 0) a.w) = c.getD a.t.toNat 0 ∧ (c.getD a.f.toNat 0 ≠ -1 → Le (c.getD a.t.toNat 0) (c.getD a.f.toNat 0 + a.w))) ∨
      (c.getD a.f.toNat 0 ≠ -1 ∧ less (c.getD a.t.toNat 0) (plus (c.getD a.f.toNat 0) a.w) = c.getD a.f.toNat 0 + a.w ∧ Le (c.getD a.f.toNat 0 + a.w) (c.getD a.t.toNat 0)) := by
    generalize c.getD a.t.toNat 0 = t at *
    generalize c.getD a.f.toNat 0 = f at *
    unfold less plus Le
    by_cases hf : f < 0
    · left
      have : f < 0 ∨ a.w < 0 := .inl hf
      simp only [if_pos this]
      refine ⟨?_, fun h => by omega⟩
      split
      · omega
      · simp
    · have : ¬ (f < 0 ∨ a.w < 0) := by omega
      simp only [if_neg this]
      by_cases ht : t < 0
      · right
        rw [if_pos ht]
        exact ⟨by omega, rfl, fun h => by omega⟩
      · rw [if_neg ht]
        by_cases hlt : f + a.w < 0 ∨ t < f + a.w
        · left
          rw [if_pos hlt]
          exact ⟨rfl, fun _ _ => by omega⟩
        · right
          rw [if_neg hlt]
          exact ⟨by omega, rfl, fun h => by omega⟩
  have hg : ∀ v, (relax c a).getD v 0 = if a.t.toNat = v ∧ v < c.length then less (c.getD a.t.toNat 0) (plus (c.getD a.f.toNat 0) a.w) else c.getD v 0 := fun v => getD_set _ _ _ _ _
  refine ⟨by simp [relax], fun v => ?_, fun hf => ?_, fun v => ?_⟩
  · rw [hg]
    split
    · rename_i h
      obtain ⟨rfl, _⟩ := h
      rcases key with ⟨e, _⟩ | ⟨_, e, h⟩
      · rw [e]; exact Le.refl _
      · rw [e]; exact h
    · exact Le.refl _
  · rw [hg, if_pos ⟨rfl, hlt⟩]
    rcases key with ⟨e, h⟩ | ⟨_, e, h⟩
    · rw [e]; exact h hf
    · rw [e]; exact Le.refl _
  · rw [hg]
    split
    · rename_i h
      obtain ⟨rfl, _⟩ := h
      rcases key with ⟨e, _⟩ | ⟨h1, e, _⟩
      · exact .inl e
      · exact .inr ⟨rfl, h1, e⟩
    · exact .inl rfl
structure FoldS (l : List Arc) (c c' : List Int) : Prop where
  len : c'.length = c.length
  le : ∀ v, Le (c'.getD v 0) (c.getD v 0)
  to : ∀ a ∈ l, c.getD a.f.toNat 0 ≠ -1 → Le (c'.getD a.t.toNat 0) (c.getD a.f.toNat 0 + a.w)
theorem fold_spec {st : Int} : ∀ (l : List Arc) {c : List Int} {B : Int}, Bd st B c → 0 ≤ B → (∀ a ∈ l, ArcOk st a) → FoldS l c (roundF l c)
  | [], c, B, hb, _, _ => ⟨rfl, fun v => Le.refl _, fun a h => by cases h⟩
  | a :: l, c, B, hb, hB, hl => by
    have ha := hl a (by simp)
    have h1 := relax_spec hb ha
    have h2 := fold_spec l (hb.rlx hB ha) (by omega) (fun x hx => hl x (by simp [hx]))
    have e : roundF (a :: l) c = roundF l (relax c a) := rfl
    rw [e]
    refine ⟨h2.len.trans h1.len, fun v => (h2.le v).trans (h1.le v), ?_⟩
    intro b hb' hf
    rcases List.mem_cons.1 hb' with rfl | hb'
    · exact (h2.le _).trans (h1.to hf)
    · have h3 := h1.le b.f.toNat hf
      have h4 := h2.to b hb' h3.1
      intro hne
      have hw := (hl b (by simp [hb'])).w0
      have h5 := hb.at (hl b (by simp [hb'])).f0 (hl b (by simp [hb'])).f1
      have h6 := (hb.rlx hB ha).at (hl b (by simp [hb'])).f0 (hl b (by simp [hb'])).f1
      have h7 := h4 (by omega)
      exact ⟨h7.1, by omega⟩
theorem fold_reach {st : Int} {L : List Arc} {c0 : List Int} : ∀ (l : List Arc) {c : List Int} {B : Int}, Bd st B c → 0 ≤ B → (∀ a ∈ l, ArcOk st a) → (∀ a ∈ l, a ∈ L) →
    (∀ v, v < c.length → c.getD v 0 ≠ -1 → ∃ k, RN L c0 k v (c.getD v 0)) → ∀ v, v < (roundF l c).length → (roundF l c).getD v 0 ≠ -1 → ∃ k, RN L c0 k v ((roundF l c).getD v 0)
  | [], c, B, hb, _, _, _, h => h
  | a :: l, c, B, hb, hB, hl, hL, h => by
    have ha := hl a (by simp)
    have h1 := relax_spec hb ha
    have e : roundF (a :: l) c = roundF l (relax c a) := rfl
    rw [e]
    refine fold_reach l (hb.rlx hB ha) (by omega) (fun x hx => hl x (by simp [hx])) (fun x hx => hL x (by simp [hx])) ?_
    intro v hv hne
    rcases h1.eq v with e1 | ⟨rfl, e1, e2⟩
    · rw [e1] at hne ⊢
      exact h v (by rw [h1.len] at hv; exact hv) hne
    · rw [e2]
      have hf : a.f.toNat < c.length := by have := ha.f0; have := ha.f1; have := hb.len; omega
      obtain ⟨k, hk⟩ := h _ hf e1
      exact ⟨k + 1, .step hk (hL a (by simp))⟩
theorem bf_spec {st : Int} {l : List Arc} {c0 : List Int} {B : Int} (hb : Bd st B c0) (hB : 0 ≤ B) (hl : ∀ a ∈ l, ArcOk st a) : ∀ r : Nat,
    (∃ B', 0 ≤ B' ∧ Bd st B' (iterN (roundF l) r c0)) ∧ (∀ v, v < c0.length → (iterN (roundF l) r c0).getD v 0 ≠ -1 → ∃ k, RN l c0 k v ((iterN (roundF l) r c0).getD v 0)) ∧
      ∀ k v c, RN l c0 k v c → k ≤ r → Le ((iterN (roundF l) r c0).getD v 0) c
  | 0 => by
    refine ⟨⟨B, hB, hb⟩, fun v hv hc => ⟨0, .base hv hc⟩, ?_⟩
    intro k v c h hk
    cases h with
    | base h hc => exact Le.refl _
    | step h ha => omega
  | r + 1 => by
    obtain ⟨⟨B', hB', hb'⟩, h1, h2⟩ := bf_spec hb hB hl r
    have hlen : (iterN (roundF l) r c0).length = c0.length := by have := hb'.len; have := hb.len; omega
    have hf := fold_spec l hb' hB' hl
    have e : iterN (roundF l) (r + 1) c0 = roundF l (iterN (roundF l) r c0) := rfl
    rw [e]
    refine ⟨⟨_, by omega, Bd.fold l hb' hB' hl⟩, ?_, ?_⟩
    · intro v hv
      exact fold_reach l hb' hB' hl (fun _ h => h) (fun v hv => h1 v (by omega)) v (by rw [hf.len]; omega)
    · intro k v c h hk
      have hpos : ∀ v ∈ c0, -1 ≤ v := fun v hv => (hb.bd v hv).1
      cases h with
      | base h hc => exact (hf.le _).trans (h2 _ _ _ (.base h hc) (by omega))
      | step h ha =>
        rename_i k a c
        have h3 := h2 _ _ _ h (by omega)
        have hc := h.pos hl hpos
        have h4 := h3 (by omega)
        have h5 := hf.to a ha h4.1
        intro _
        have hw := (hl a ha).w0
        have h6 := hb'.at (hl a ha).f0 (hl a ha).f1
        have h7 := h5 (by omega)
        exact ⟨h7.1, by omega⟩
structure Sol (l : List Arc) (c0 D : List Int) : Prop where
  len : D.length = c0.length
  s1 : ∀ v, v < c0.length → Le (D.getD v 0) (c0.getD v 0)
  s2 : ∀ a ∈ l, D.getD a.f.toNat 0 ≠ -1 → Le (D.getD a.t.toNat 0) (D.getD a.f.toNat 0 + a.w)
  s3 : ∀ v, v < c0.length → D.getD v 0 ≠ -1 → ∃ k, k ≤ c0.length ∧ RN l c0 k v (D.getD v 0)
theorem Sol.le {st : Int} {l : List Arc} {c0 D : List Int} (h : Sol l c0 D) (hl : ∀ a ∈ l, ArcOk st a) (hn : (c0.length : Int) = st) (h0 : ∀ v ∈ c0, -1 ≤ v) (hD : ∀ v, v < c0.length → -1 ≤ D.getD v 0) {k v : Nat} {c : Int} (hr : RN l c0 k v c) : Le (D.getD v 0) c := by
  induction hr with
  | base hv hc => exact h.s1 _ hv
  | step hr ha ih =>
    rename_i k a c
    have hc := hr.pos hl h0
    have h1 := ih (by omega)
    have h2 := h.s2 a ha h1.1
    intro _
    have hw := (hl a ha).w0
    have h3 := hD a.f.toNat (hr.lt hl hn)
    have h4 := h2 (by omega)
    exact ⟨h4.1, by omega⟩
theorem RN.perm {l l' : List Arc} {c0 : List Int} (h : ∀ a ∈ l, a ∈ l') {k v : Nat} {c : Int} (hr : RN l c0 k v c) : RN l' c0 k v c := by
  induction hr with
  | base hv hc => exact .base hv hc
  | step hr ha ih => exact .step ih (h _ ha)
theorem Sol.eq {st : Int} {l l' : List Arc} {c0 D : List Int} {B : Int} (h : Sol l c0 D) (hb : Bd st B c0) (hB : 0 ≤ B) (hl : ∀ a ∈ l, ArcOk st a) (hll : ∀ a, a ∈ l ↔ a ∈ l') : D = iterN (roundF l') c0.length c0 := by
  have hl' : ∀ a ∈ l', ArcOk st a := fun a ha => hl a ((hll a).2 ha)
  obtain ⟨⟨B', hB', hb'⟩, h1, h2⟩ := bf_spec hb hB hl' c0.length
  have h0 : ∀ v ∈ c0, -1 ≤ v := fun v hv => (hb.bd v hv).1
  have hlen : (iterN (roundF l') c0.length c0).length = c0.length := by have := hb'.len; have := hb.len; omega
  have hD : ∀ v, v < c0.length → -1 ≤ D.getD v 0 := by
    intro v hv
    by_cases e : D.getD v 0 = -1
    · omega
    · obtain ⟨k, _, hk⟩ := h.s3 v hv e
      have := hk.pos hl h0; omega
  refine List.ext_getElem (h.len.trans hlen.symm) fun v hv hv' => ?_
  have hv0 : v < c0.length := by rw [h.len] at hv; exact hv
  have e1 : D[v] = D.getD v 0 := by simp [List.getD, hv]
  have e2 : (iterN (roundF l') c0.length c0)[v] = (iterN (roundF l') c0.length c0).getD v 0 := by simp [List.getD, hv']
  rw [e1, e2]
  by_cases c1 : D.getD v 0 = -1
  · by_cases c2 : (iterN (roundF l') c0.length c0).getD v 0 = -1
    · rw [c1, c2]
    · obtain ⟨k, hk⟩ := h1 v hv0 c2
      have := h.le hl hb.len h0 hD (hk.perm fun a ha => (hll a).2 ha) c2
      exact absurd c1 this.1
  · obtain ⟨k, hk, hr⟩ := h.s3 v hv0 c1
    have h3 := h2 k v _ (hr.perm fun a ha => (hll a).1 ha) hk c1
    obtain ⟨k', hk'⟩ := h1 v hv0 h3.1
    have h4 := h.le hl hb.len h0 hD (hk'.perm fun a ha => (hll a).2 ha) h3.1
    omega
end Go.Fw
