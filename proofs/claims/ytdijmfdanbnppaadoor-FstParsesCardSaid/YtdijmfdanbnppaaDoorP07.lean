/-
  What is handed in, with the library's variables in blocks of their own.
-/
import Derived.Test.YtdijmfdanbnppaaDoorP06
import Derived.HandedShaped
import Derived.Shelf.Vars
import Derived.LaidLaws
import Derived.Handed
import Derived.Test.YtdijmfdanbnppaaDoorTie
import Derived.Test.YtdijmfdanbnppaaDoorCards
import Derived.LaidMore
import Derived.LaidHandle
import Derived.MakeChecks
import Derived.Lib.LaidTab
import Derived.OpenShut
import Derived.SevenTiedAt
import Derived.Lay
import Derived.Laws.IdiomStrings
import Derived.Lib.ItoaLen

set_option linter.unusedSimpArgs false
set_option linter.unusedVariables false

namespace Go.Fw
open Go Go.Proofs Go.ChangeShapes Go.WideShapes Go.ChangeAt Go.RowKit Go.Deep Go.Joins

/-- The variables' blocks in a world. -/
structure GloW (g : Glo) (W : World) : Prop where
  x : GloX g
  h0 : W.heap[0]? = some g.x0
  h1 : W.heap[1]? = some g.x1
  h4 : W.heap[4]? = some g.x4
  h5 : W.heap[5]? = some g.x5
  s4 : ∃ u v t f, g.x4 = .cells #[.iface u v] t f
  s5 : ∃ u v t f, g.x5 = .cells #[.iface u v] t f

/-- No integer of the arguments' kind lies in the blocks 1, 4, 5. -/
theorem GloW.noint {g : Glo} {W : World} (h : GloW g W) {b o : Nat} (hb : b = 1 ∨ b = 4 ∨ b = 5) {n : Int} : W.cell? ⟨b, o, none⟩ ≠ some (.int .i64 n) := by
  intro hc
  unfold World.cell? at hc
  rcases hb with rfl | rfl | rfl
  · have ht := h.x.tab
    have h1 := h.h1
    generalize g.x1 = x at *
    cases x <;> simp only [TabX] at ht
    subst ht
    simp [h1] at hc
  · obtain ⟨u, v, t, f, e⟩ := h.s4
    have h1 := h.h4
    rw [e] at h1
    simp [h1] at hc
    cases o with
    | zero => simp at hc
    | succ o => simp at hc
  · obtain ⟨u, v, t, f, e⟩ := h.s5
    have h1 := h.h5
    rw [e] at h1
    simp [h1] at hc
    cases o with
    | zero => simp at hc
    | succ o => simp at hc

theorem Lent.offG {W : World} {oa : Option Addr} {k : EK} {xs : List k.ty} {g : Glo} (h : Lent W oa k xs) (hg : GloW g W) (hk : ∀ e : k.ty, ∃ n, (k.cells e)[0]? = some (.int .i64 n)) : ∀ a, oa = some a → xs ≠ [] → ¬ (a.block = 1 ∨ a.block = 4 ∨ a.block = 5) := by
  intro a ha hne
  subst ha
  obtain ⟨h1, h2, h3⟩ := h hne
  intro h0
  cases xs with
  | nil => exact hne rfl
  | cons e l =>
    obtain ⟨n, hn⟩ := hk e
    have h4 := h3 0 (.int .i64 n) (by
      show (flat k (e :: l))[0]? = _
      have : 0 < (k.cells e).length := (List.getElem?_eq_some_iff.1 hn).1
      show ((e :: l).flatMap k.cells)[0]? = _
      rw [List.flatMap_cons, List.getElem?_append_left this]
      exact hn)
    obtain ⟨b, o, sp⟩ := a
    simp only at h0 h1
    subst h1
    have e0 : (⟨b, o, none⟩ : Addr).add 0 = ⟨b, o, none⟩ := by simp [Addr.add]
    rw [e0] at h4
    exact hg.noint h0 h4

/-- The zone: all but those blocks. -/
def ZG (W : World) (b : Nat) : Prop := b < W.heap.size ∧ ¬ (b = 1 ∨ b = 4 ∨ b = 5)

theorem lentSatG {W : World} {hp : List (Nat × SO)} {n : Nat} (β : Env) {g : Glo} (hg : GloW g W) (h : ∀ id o, look hp id = some o → id < n ∧ ∃ (E : Nat) (k : EK) (xs : List k.ty), o = .arr false E k xs 0 ∧ Lent W (β id) k xs ∧ ∀ e : k.ty, ∃ n, (k.cells e)[0]? = some (.int .i64 n)) :
    HSat β (ZG W) (fun id b => id = n ∧ (b = 1 ∨ b = 4 ∨ b = 5)) ⟨[], (n, gloO g) :: hp, n + 1⟩ W := by
  have k0 := (Array.getElem?_eq_some_iff.1 hg.h0).1
  have k1 := (Array.getElem?_eq_some_iff.1 hg.h1).1
  have k4 := (Array.getElem?_eq_some_iff.1 hg.h4).1
  have k5 := (Array.getElem?_eq_some_iff.1 hg.h5).1
  have hlk : ∀ id o, look ((n, gloO g) :: hp) id = some o → (id = n ∧ o = gloO g) ∨ (id ≠ n ∧ look hp id = some o) := by
    intro id o hl
    rw [look_cons] at hl
    split at hl
    · rename_i e; cases hl; exact .inl ⟨e.symm, rfl⟩
    · rename_i e; exact .inr ⟨fun c => e c.symm, hl⟩
  refine ⟨⟨⟨k0, by omega⟩, fun b hb => hb.1⟩, fun id o hl b hb => ⟨by rcases hb.2 with rfl | rfl | rfl <;> assumption, fun c => c.2 hb.2⟩, fun id id' _ _ _ _ hne b hb hb' => hne (hb.1.trans hb'.1.symm), fun id o hl => ?_, fun id o hl => ?_⟩
  · rcases hlk id o hl with ⟨rfl, rfl⟩ | ⟨hne, hl⟩
    · refine ⟨⟨⟨⟨rfl, .inl rfl⟩, ⟨rfl, .inr (.inl rfl)⟩, ⟨rfl, .inr (.inr rfl)⟩⟩, hg.h0, hg.h1, hg.h4, hg.h5⟩, fun w' hw' hw0 => ⟨⟨⟨rfl, .inl rfl⟩, ⟨rfl, .inr (.inl rfl)⟩, ⟨rfl, .inr (.inr rfl)⟩⟩, by rw [hw0]; exact hg.h0, ?_, ?_, ?_⟩⟩
      · rw [hw' 1 ⟨rfl, .inl rfl⟩]; exact hg.h1
      · rw [hw' 4 ⟨rfl, .inr (.inl rfl)⟩]; exact hg.h4
      · rw [hw' 5 ⟨rfl, .inr (.inr rfl)⟩]; exact hg.h5
    · obtain ⟨_, E, k, xs, rfl, hxl, hk⟩ := h id o hl
      have hoff := hxl.offG hg hk
      show SO.ok β _ _ W (β id) _
      unfold Lent at hxl
      cases hb : β id with
      | none => rw [hb] at hxl; exact ⟨hxl, rfl⟩
      | some a =>
        rw [hb] at hxl
        intro hne
        obtain ⟨h1, h2, h3⟩ := hxl hne
        exact ⟨h1, ⟨h2, hoff a hb hne⟩, h2, h3⟩
  · rcases hlk id o hl with ⟨rfl, rfl⟩ | ⟨hne, hl⟩
    · exact ⟨Nat.lt_succ_self _, trivial⟩
    · obtain ⟨h1, E, k, xs, rfl, _⟩ := h id o hl
      exact ⟨Nat.lt_succ_of_lt h1, trivial⟩

/-- A call with what is handed in and the variables. -/
theorem glo_call {W : World} {g : Glo} (hg : GloW g W) {hp : List (Nat × SO)} {n : Nat} (β : Env) (hl : ∀ id o, look hp id = some o → id < n ∧ ∃ (E : Nat) (k : EK) (xs : List k.ty), o = .arr false E k xs 0 ∧ Lent W (β id) k xs ∧ ∀ e : k.ty, ∃ n, (k.cells e)[0]? = some (.int .i64 n))
    {hp' : List (Nat × SO)} (hperm : ∀ id, look hp' id = look ((n, gloO g) :: hp) id) {f : Nat} {avs : List SV} {args : Array Value} (ha : (avs.map (SV.den β) ++ ([] : List Value)).toArray = args)
    (hc : Ct Tryd.prog f avs [] hp' (n + 1) (fun v s => v = .b true ∧ s = ⟨[], [(n, gloO g)], n + 1⟩)) :
    Calls Tryd.prog f args W fun e W' => e = .returned (.bool true) ∧ Below W.heap.size W W' := by
  have hs := (lentSatG (W := W) β hg hl).cons_perm hperm
  have key := hc _ _ _ W hs
  rw [ha] at key
  refine key.mono ?_
  rintro e W' ⟨v', β', Z', fp', s', rfl, hn, rfl, rfl⟩
  have ho := (hn.sat.obj n (gloO g) (by simp [look_cons])).1.2
  refine ⟨rfl, hn.ext.os, hn.ext.tape, hn.ext.output, hn.ext.size, fun k hk => ?_⟩
  by_cases e : k = 1 ∨ k = 4 ∨ k = 5
  · rcases e with rfl | rfl | rfl
    · rw [ho.2.1, hg.h1]
    · rw [ho.2.2.1, hg.h4]
    · rw [ho.2.2.2, hg.h5]
  · exact hn.ext.block k ⟨hk, e⟩

theorem hid (o : Option Addr) : o.map (fun x => x.add 0) = o := by cases o <;> simp [add_zero]

theorem str_len {t : ByteArray} (h : t.size ≤ maxLen) : t.data.toList.length ≤ 9223372036854775807 := by
  rw [Array.length_toList]
  exact Nat.le_trans h (by unfold maxLen; omega)
theorem str_den (β : Env) (t : ByteArray) : (stV t.data.toList).den β = .string t := by
  show Value.string (bs t.data.toList) = _
  rw [bs_of]
theorem str_args (β : Env) (t : ByteArray) : ([stV t.data.toList].map (SV.den β) ++ ([] : List Value)).toArray = #[.string t] := by
  rw [List.map_cons, str_den]
  rfl
/-- The plain wrap, with the world's shape and what is laid. -/
theorem handed_both {H : Type} {enc : TypeId × Value → H} {a : Assume} {C : Checked} {os : Os} {f : FuncId} {fn : Func} {s : ChangeSpec} {conds : List PathCond} {apart fresh handsOn again : Bool} {X : World → Array Value → Prop}
    (hX : ∀ (w w' : World) (args : Array Value), w.heap = w'.heap → X w args → X w' args)
    (own : ownKnob C.prog.godebug = none) (started : os.Started) (noInit : C.prog.inits.idxOf? f = none) (hfn : C.prog.funcs[f]? = some fn)
    (witness : ∃ (w : World) (tape : Tape) (i : Input), w.os = os ∧ (w.forCall tape i).Shaped C.prog ∧ i.vars = [] ∧ Input.okWide C.prog (w.forCall tape i) .any w.heap.size f i ∧
      ((s.pre enc C.prog fn conds apart (w.forCall tape i).memory i.args ∧ X (w.forCall tape i).memory i.args) ∧ sizedMet enc C.prog fn (OpenSpec.ofChange s) apart (w.forCall tape i).memory i.args) ∧ a.holds C.prog (lone (Frame.enter C.prog f i.args .normal) [] (w.forCall tape i)))
    (contract : ∀ (W : World) (base : Nat) (args : Array Value) (ds gs : List (DataW H)) (before : List MemPlace),
      (∀ (j : Nat) t v, fn.params[j]? = some t → args[j]? = some v → Value.okWide C.prog W .any base t v) →
      DataW.Whole enc C.prog fn.params.toList s.vars apart W args.toList ds gs before →
      W.ShapedOpen C.prog → X W args →
      Calls C.prog f args W fun e W' => ∃ v, e = .returned v ∧ s.post enc C.prog fn apart fresh handsOn again W args v W') :
    ReturnsInHanded a C os f .any (fun w args => (s.pre enc C.prog fn conds apart w args ∧ X w args) ∧ sizedMet enc C.prog fn (OpenSpec.ofChange s) apart w args) (s.post enc C.prog fn apart fresh handsOn again) := by
  refine returnsInHanded_of_calls own started noInit witness ?_
  intro w tape i _ hsh _ hok hpre hholds
  obtain ⟨_, _, _, fn', hfn', _, _, _, _, hval⟩ := hok
  have e : fn' = fn := Option.some.inj (hfn'.symm.trans hfn)
  subst e
  obtain ⟨⟨⟨ds, gs, before, hw, hc⟩, hx⟩, hz⟩ := hpre
  have hw' := DataW.Whole.of_heap (w' := w.forCall tape i) (by rfl) hw
  refine (contract (w.forCall tape i) w.heap.size i.args ds gs before hval hw' hsh (hX _ _ _ (by rfl) hx)).mono fun e W' ⟨v, he, hp⟩ => ?_
  subst he
  exact ChangeSpec.post_blind hp
end Go.Fw

/-
  What the rows' list of variables gives.
-/
namespace Go.Proofs.YtdijmfdanbnppaaDoor
open Go Go.Fw Go.ChangeShapes Go.WideShapes Go.ChangeAt Go.RowKit

theorem Tryd.own : ownKnob Go.Proofs.Tryd.prog.godebug = none := by kernel_rfl
theorem Tryd.laidOut : laidOutB Go.Proofs.Tryd.prog = true := by kernel_rfl

/-- What is listed. -/
abbrev laid7 : List (String × DataW Unit) := [("math/bits.deBruijn32tab", Rows.laid_math_bits_deBruijn32tab), ("math/bits.deBruijn64tab", Rows.laid_math_bits_deBruijn64tab), ("internal/strconv.uint64pow10", Rows.laid_internal_strconv_uint64pow10), ("unicode/utf8.acceptRanges", Rows.laid_unicode_utf8_acceptRanges), ("strconv.ErrRange", Rows.laid_strconv_ErrRange), ("strconv.ErrSyntax", Rows.laid_strconv_ErrSyntax), ("unicode/utf8.first", Rows.laid_unicode_utf8_first)]

theorem tab_data : (Rows.laid_internal_strconv_uint64pow10 : DataW Unit) = Lib.tabData .u64 Lib.pow10Tab := by kernel_rfl
theorem tab_type : (Go.Proofs.Tryd.prog.globals[1]?).map (·.type) = some 138 := by kernel_rfl
theorem e4_glob : Go.Proofs.Tryd.prog.globalNamed "strconv.ErrSyntax" = some 4 := by kernel_rfl
theorem e4_type : (Go.Proofs.Tryd.prog.globals[4]?).map (·.type) = some 69 := by kernel_rfl
theorem e5_glob : Go.Proofs.Tryd.prog.globalNamed "strconv.ErrRange" = some 5 := by kernel_rfl
theorem e5_type : (Go.Proofs.Tryd.prog.globals[5]?).map (·.type) = some 69 := by kernel_rfl

theorem var_cells {W : World} {n : String} {k : Nat} {cs : Array Value} (hg : Go.Proofs.Tryd.prog.globalNamed n = some k) (hv : W.var? Go.Proofs.Tryd.prog n = some cs) : ∃ t f, W.heap[k]? = some (.cells cs t f) := by
  unfold World.var? at hv
  rw [hg] at hv
  simp only [Option.bind_some] at hv
  split at hv
  · rename_i c t f hh
    cases hv
    exact ⟨t, f, hh⟩
  · cases hv

set_option maxRecDepth 100000 in
theorem of_laid {W : World} (h : laidMetH Go.Proofs.Tryd.prog laid7 W) (hs : W.ShapedOpen Go.Proofs.Tryd.prog) : ∃ g, GloW g W := by
  rw [MakeChecks.laidMetH_plain _ _ _ (by kernel_rfl)] at h
  obtain ⟨ps, ⟨g0, t0, cs0, f0, p0, q0, hg0, ht0, hv0, hd0, ⟨g1, t1, cs1, f1, p1, q1, hg1, ht1, hv1, hd1, ⟨g2, t2, cs2, f2, p2, q2, hg2, ht2, hv2, hd2, ⟨g3, t3, cs3, f3, p3, q3, hg3, ht3, hv3, hd3, ⟨g4, t4, cs4, f4, p4, q4, hg4, ht4, hv4, hd4, ⟨g5, t5, cs5, f5, p5, q5, hg5, ht5, hv5, hd5, _, _⟩, _⟩, _⟩, _⟩, _⟩, _⟩, _⟩ := h
  obtain rfl := Option.some.inj (tab_glob.symm.trans hg2)
  obtain rfl := Option.some.inj (tab_type.symm.trans ht2)
  obtain rfl := Option.some.inj (e5_glob.symm.trans hg4)
  obtain rfl := Option.some.inj (e5_type.symm.trans ht4)
  obtain rfl := Option.some.inj (e4_glob.symm.trans hg5)
  obtain rfl := Option.some.inj (e4_type.symm.trans ht5)
  obtain ⟨_, u5, v5, k5, _⟩ := iface_of_trod Go.Proofs.Tryd.underlying69 hd4
  obtain ⟨_, u4, v4, k4, _⟩ := iface_of_trod Go.Proofs.Tryd.underlying69 hd5
  rw [tab_data] at hd2
  have hc := Lib.cells_of_tab Go.Proofs.Tryd.underlying138 Go.Proofs.Tryd.underlying120 (by kernel_rfl) (by kernel_rfl) hd2
  obtain ⟨a1, b1, hh1⟩ := var_cells hg2 hv2
  obtain ⟨a5, b5, hh5⟩ := var_cells hg4 hv4
  obtain ⟨a4, b4, hh4⟩ := var_cells hg5 hv5
  obtain ⟨m, hm⟩ := cell_of_shapedOpen_int (P := Go.Proofs.Tryd.prog) (g := 0) (t := 3) (zero := #[.int .i64 0]) hs (of_decide_eq_true (by kernel_rfl)) (by kernel_rfl) rfl (by kernel_rfl) (by kernel_rfl) Go.Proofs.Tryd.underlying3
  have hm2 : ∃ cs t f, W.heap[0]? = some (.cells cs t f) ∧ cs[0]? = some (Value.int .i64 m) := by
    unfold World.cell? at hm
    split at hm
    · rename_i c t f hh
      exact ⟨c, t, f, hh, hm⟩
    · cases hm
  obtain ⟨cm, tm, fm, hh0, hm0⟩ := hm2
  have e4 : cs5 = #[.iface u4 v4] := by rw [← Array.toList_inj]; exact k4
  have e5 : cs4 = #[.iface u5 v5] := by rw [← Array.toList_inj]; exact k5
  subst e4 e5
  refine ⟨⟨_, _, _, _⟩, ⟨⟨m, cm, tm, fm, rfl, hm0⟩, ?_, ⟨_, _, _, _, rfl, rfl, .inr ⟨_, _, rfl⟩⟩, ⟨_, _, _, _, rfl, rfl, .inr ⟨_, _, rfl⟩⟩⟩, hh0, hh1, hh4, hh5, ⟨_, _, _, _, rfl⟩, ⟨_, _, _, _, rfl⟩⟩
  show cs2 = _
  rw [← hc]

theorem door_met (os : Os) (args : Array Value) : laidMetH Go.Proofs.Tryd.prog laid7 ((World.laidAll Go.Proofs.Tryd.prog os laid7).forCall (fun _ _ => 0) ⟨#[], args, []⟩).memory := by
  rw [MakeChecks.laidMetH_plain _ _ _ (by kernel_rfl)]
  exact laidMet_laidAll _ (by kernel_rfl) (by kernel_rfl)
end Go.Proofs.YtdijmfdanbnppaaDoor

/-
  (*strings.Builder).WriteString and String: what they leave of all other blocks, block by block; a builder as an object.
-/
namespace Go.Fw
open Go Go.Proofs Go.Shelf Go.RowKit

/-- Where an appended row lies. -/
theorem append_where {P : Program} (w : World) (t u ty e : TypeId) (i : TypeInfo) (ht : P.underlying t = some (.slice e)) (hu : P.underlying u = some .string) (hi : P.info? e = some i) (hz : i.zero = some (.int .u8 0))
    (hsize : i.size = 1) (hby : i.bytes = 1) (v : Value) (n : Nat) (xs : List Value) (hown : w.ownsRow 0 e 1 v n xs) (s : ByteArray) (hbytes : n + s.size ≤ 140737488355328) :
    ∃ v' w', (Builtin.append_ #[t, u] ty #[v, .string s]).run P w = .ok v' w' ∧ w'.ownsRow 0 e 1 v' (n + s.size) (xs ++ Lib.strCells s) ∧ w.grownBy w' v.ownBlock ∧ (v'.ownBlock = none ∨ v'.ownBlock = v.ownBlock ∨ v'.ownBlock = some w.heap.size) := by
  obtain ⟨v', w', hr, h2, h3, h4⟩ := Lib.run_append_own_string (P := P) w 0 t u ty e i ht hu hi hz hsize hby v n xs hown s (by unfold maxLen; omega) hbytes (Nat.zero_le _)
  refine ⟨v', w', hr, h2, h3, ?_⟩
  have hxl : xs.length = n := by simpa using hown.1
  rcases hown.2 with ⟨rfl, rfl⟩ | ⟨g, cap, cur, rfl, hbg, hg, hnc, hcm, hcs, htake⟩
  · by_cases hm : s.size = 0
    · rw [h4.2 ⟨rfl, hm⟩]; exact .inl rfl
    · have hr2 := run_append_nil_string (P := P) w t u ty e i (.int .u8 0) ht hu hi hz s (by omega) (by omega) (by rw [hby]; omega)
      rw [hr2] at hr
      cases hr
      exact .inr (.inr rfl)
  · by_cases hroom : n + s.size ≤ cap
    · have hcs' : cur.size = cap := by simpa using hcs
      have hr2 := Lib.run_append_room_string (P := P) w t u ty e i ht hu hi hsize g n cap cur hg s hroom (by omega)
      rw [hr2] at hr
      cases hr
      exact .inr (.inl rfl)
    · have holds : ∀ j u, xs[j]? = some u → w.cell? ((⟨g, 0, none⟩ : Addr).add j) = some u := hown.cells (g := g) rfl
      have hr2 := Lib.run_append_grow_string (P := P) w t u ty e i (.int .u8 0) ht hu hi hz ⟨g, 0, none⟩ n cap xs (by rw [hsize]; simpa using hxl) holds s (by omega) (by omega) (by rw [hby]; exact growslice_fits (by omega) (by omega))
      rw [hr2] at hr
      cases hr
      exact .inr (.inr rfl)

theorem append_step {P : Program} {w : World} {ops : Array Oper} {rest : List Oper} {o : Oper} {a : Act} {Q : Exit → Act → World → Prop} (hgd : o.guard = none) (sl x : Operand) (t u : TypeId) {e : TypeId}
    (ho : o.op = .call { callee := .builtin .append, args := #[sl, x], argTypes := #[t, u] }) (ht : P.underlying t = some (.slice e)) (hu : P.underlying u = some .string) (i : TypeInfo) (hi : P.info? e = some i) (hz : i.zero = some (.int .u8 0))
    (hsize : i.size = 1) (hby : i.bytes = 1) (v : Value) (n : Nat) (xs : List Value) (hown : w.ownsRow 0 e 1 v n xs) (s : ByteArray) (hs : a.eval sl = v) (hx : a.eval x = .string s) (hbytes : n + s.size ≤ 140737488355328)
    (k : ∀ v' w', w'.ownsRow 0 e 1 v' (n + s.size) (xs ++ Lib.strCells s) → w.grownBy w' v.ownBlock → (v'.ownBlock = none ∨ v'.ownBlock = v.ownBlock ∨ v'.ownBlock = some w.heap.size) → wpList P ops Q rest (a.put o.dst v') w') : wpList P ops Q (o :: rest) a w := by
  refine wpList_plain hgd fun K hK => ?_
  obtain ⟨v', w', hr, k2, k3, k4⟩ := append_where (P := P) w t u o.type e i ht hu hi hz hsize hby v n xs hown s hbytes
  unfold Oper.wp execOp
  simp only [ho, resolve, invoke, builtin, Sem.run_bind, Sem.run_pure, Result.andThen_ok, List.map_toArray, List.map_cons, List.map_nil, hs, hx, hr]
  exact hK _ _ (k v' w' k2 k3 k4)

/-- A builder, written out. -/
structure BldAt (b : Nat) (p v : Value) (l : List UInt8) (w : World) : Prop where
  row : w.heap[b]? = some (.cells #[p, v] 67 (0, 0))
  ptr : p = .pointer none ∨ p = .pointer (some ⟨b, 0, none⟩)
  own : w.ownsRow 0 5 1 v l.length (Lib.byteCells l)
  ne : v.ownBlock ≠ some b

theorem BldAt.is {b : Nat} {p v : Value} {l : List UInt8} {w : World} (h : BldAt b p v l w) : Lib.BuilderAt 67 5 0 b p (Lib.byteCells l) w := ⟨Nat.zero_le _, v, h.row, by rw [Lib.byteCells_length]; exact h.own, h.ne⟩

theorem check_run {b : Nat} {p v : Value} {l : List UInt8} {w : World} (h : BldAt b p v l w) :
    Calls Tryd.prog 52 #[.pointer (some ⟨b, 0, none⟩)] w fun e w' => e = .returned (.tuple #[]) ∧ BldAt b (.pointer (some ⟨b, 0, none⟩)) v l w' ∧ w.grownBy w' (some b) := by
  rcases h.ptr with hp | hp
  · subst hp
    have key : Calls Tryd.prog 52 #[.pointer (some ⟨b, 0, none⟩)] w _ := Any.Builder_copyCheck_fresh { bldLays with } bldX.toX72 b w h.is.cell0 h.is.shape h.is.frozen0
    refine key.mono ?_
    rintro e w' ⟨rfl, rfl⟩
    refine ⟨rfl, ⟨?_, .inr rfl, ?_, h.ne⟩, ⟨rfl, rfl, rfl, by simp [World.setCell], fun k _ hk => Below.heap_setCell _ _ _ _ (fun e => hk (by simp [e]))⟩⟩
    · simp [World.setCell, Array.getElem?_modify, h.row]
    · exact h.own.kept (row := some b) ⟨rfl, rfl, rfl, by simp [World.setCell], fun k _ hk => Below.heap_setCell _ _ _ _ (fun e => hk (by simp [e]))⟩ (Or.inr h.ne)
  · subst hp
    have key : Calls Tryd.prog 52 #[.pointer (some ⟨b, 0, none⟩)] w _ := Any.Builder_copyCheck_used { bldLays with } bldX.toX72 b w h.is.cell0
    refine key.mono ?_
    rintro e w' ⟨rfl, rfl⟩
    exact ⟨rfl, h, ⟨rfl, rfl, rfl, Nat.le_refl _, fun _ _ _ => rfl⟩⟩

theorem strCells_bs (l : List UInt8) : Lib.strCells (bs l) = Lib.byteCells l := by rw [Lib.strCells_eq, bs_data]

/-- The row of a builder behind a write. -/
def RowAt (w : World) (v v' : Value) : Prop := v'.ownBlock = none ∨ v'.ownBlock = v.ownBlock ∨ ∃ k, v'.ownBlock = some k ∧ w.heap.size ≤ k

set_option maxHeartbeats 2000000 in
set_option maxRecDepth 100000 in
theorem write_run {b : Nat} {p v : Value} {l : List UInt8} {w : World} (h : BldAt b p v l w) (s : List UInt8) (hlen : l.length + s.length ≤ 140737488355328) :
    Calls Tryd.prog 26 #[.pointer (some ⟨b, 0, none⟩), .string (bs s)] w fun e w' => e = .returned (.tuple #[.int .i64 s.length, .nilIface]) ∧
      ∃ v', BldAt b (.pointer (some ⟨b, 0, none⟩)) v' (l ++ s) w' ∧ RowAt w v v' ∧ w.heap.size ≤ w'.heap.size ∧ Ext (fun k => k < w.heap.size ∧ k ≠ b ∧ some k ≠ v.ownBlock) w w' := by
  obtain ⟨i0, hi, hz0, hz1, hz2⟩ := info_parts bldX.infoByte
  have u65 : Tryd.prog.underlying 65 = some (.slice 5) := bldLays.t37
  have u9 : Tryd.prog.underlying 9 = some .string := bldLays.t9
  go_enter Tryd.func26, Tryd.ntmps26
  go_wp2_with (go_at_call 52; refine (check_run h).mono ?_)
  rintro e w1 ⟨rfl, h1, hg1⟩
  have c1 : w1.cell? ⟨b, 1, none⟩ = some v := by rw [Lib.cell_of_heap h1.row]; rfl
  have hblt : b < w1.heap.size := (Array.getElem?_eq_some_iff.1 h1.row).1
  go_wp2_with (at_builtin; refine append_step rfl _ _ 65 9 rfl u65 u9 i0 hi hz0 hz1 hz2 v _ _ h1.own (bs s) rfl rfl (by rw [bs_size]; omega) ?_)
  intro v' w2 hown' hgrow hwh
  have hb2 : w2.heap[b]? = some (.cells #[.pointer (some ⟨b, 0, none⟩), v] 67 (0, 0)) := by
    rw [hgrow.block b hblt (fun e => h1.ne e.symm)]
    exact h1.row
  have d0 : w2.cell? ⟨b, 0, none⟩ = some (.pointer (some ⟨b, 0, none⟩)) := by rw [Lib.cell_of_heap hb2]; rfl
  have d1 : w2.cell? ⟨b, 1, none⟩ = some v := by rw [Lib.cell_of_heap hb2]; rfl
  have f1 : w2.frozen? ⟨b, 1, none⟩ = false := Lib.frozen_of_heap hb2 1
  obtain ⟨ao, n', cap, rfl⟩ : ∃ ao n' cap, v' = .slice ao n' cap := by
    rcases hown'.2 with ⟨hv, _⟩ | ⟨g, cap, cur, hv, _⟩
    · exact ⟨_, _, _, hv⟩
    · exact ⟨_, _, _, hv⟩
  go_wp2
  go_ret2
  rw [strCells_bs, ← Lib.byteCells_append, bs_size] at hown'
  have hput := Lib.BuilderAt.put (T := 67) (e := 5) (Nat.zero_le b) hb2 (bs' := Lib.byteCells (l ++ s)) (by rw [Lib.byteCells_length, List.length_append]; exact hown') (by decide)
  obtain ⟨_, v3, hr3, ho3, hn3⟩ := hput
  have hv3 : v3 = .slice ao n' cap := by
    have h3 : (w2.setCell ⟨b, 1, none⟩ (.slice ao n' cap)).heap[b]? = some (.cells #[.pointer (some ⟨b, 0, none⟩), .slice ao n' cap] 67 (0, 0)) := by simp [World.setCell, Array.getElem?_modify, hb2]
    rw [h3] at hr3
    simp at hr3
    exact hr3.symm
  subst hv3
  refine ⟨by rw [bs_size]; rfl, .slice ao n' cap, ⟨hr3, .inr rfl, by rw [Lib.byteCells_length] at ho3; exact ho3, hn3⟩, ?_, ?_, ?_⟩
  · rcases hwh with h | h | h
    · exact .inl h
    · exact .inr (.inl h)
    · exact .inr (.inr ⟨_, h, hg1.size⟩)
  · have := hg1.size
    have := hgrow.size
    simp [World.setCell]
    omega
  · refine ⟨hgrow.os.trans hg1.os, hgrow.tape.trans hg1.tape, hgrow.output.trans hg1.output, ?_, ?_⟩
    · have := hg1.size
      have := hgrow.size
      simp [World.setCell]
      omega
    · rintro k ⟨hk1, hk2, hk3⟩
      rw [Below.heap_setCell _ _ _ _ hk2, hgrow.block k (Nat.lt_of_lt_of_le hk1 hg1.size) hk3]
      exact hg1.block k hk1 (fun e => hk2 (Option.some.inj e))

set_option maxHeartbeats 2000000 in
set_option maxRecDepth 100000 in
theorem string_run {b : Nat} {p v : Value} {l : List UInt8} {w : World} (h : BldAt b p v l w) (h0 : l ≠ []) :
    Calls Tryd.prog 29 #[.pointer (some ⟨b, 0, none⟩)] w fun e w' => e = .returned (.string (bs l)) ∧ Ext (fun k => some k ≠ v.ownBlock) w w' := by
  obtain ⟨hbk, hptr, hown, hne⟩ := h
  have hl0 : l.length ≠ 0 := by simpa using h0
  obtain ⟨g, cap, cur, rfl, hbg, hg, hnc, hcm, hcs, htake⟩ : ∃ g cap cur, v = .slice (some ⟨g, 0, none⟩) l.length cap ∧ 0 ≤ g ∧ w.heap[g]? = some (.cells cur 5 (0, 0)) ∧ l.length ≤ cap ∧ cap ≤ maxLen ∧ cur.size = cap * 1 ∧ cur.toList.take (l.length * 1) = Lib.byteCells l := by
    rcases hown.2 with ⟨_, hz⟩ | hr
    · exact absurd hz hl0
    · exact hr
  have u97 : Tryd.prog.underlying 97 = some (.pointer 5) := strLays.t127
  have c1 : w.drew.cell? ⟨b, 1, none⟩ = some (.slice (some ⟨g, 0, none⟩) l.length cap) := by
    have : w.drew.heap[b]? = some (.cells #[p, .slice (some ⟨g, 0, none⟩) l.length cap] 67 (0, 0)) := hbk
    rw [Lib.cell_of_heap this]; rfl
  have hSD : (Builtin.unsafeSliceData_ #[65] 97 #[.slice (some ⟨g, 0, none⟩) l.length cap]).run Tryd.prog w.drew = .ok (.pointer (some ⟨g, 0, none⟩)) w.drew := Lib.run_unsafeSliceData_row _ _ _ _ _ _ (by omega)
  have hUS : (Builtin.unsafeString_ #[97, 3] 9 #[.pointer (some ⟨g, 0, none⟩), .int .i64 l.length]).run Tryd.prog w.drew = .ok (.string ⟨l.toArray⟩) (w.drew.freeze ⟨g, 0, none⟩ l.length) := by
    refine Lib.run_unsafeString_row w.drew 97 3 9 5 u97 bldX.cellsByte g cur.size (by have hg' : w.drew.heap[g]? = some (.cells cur 5 (0, 0)) := hg; simp [World.shape?, hg']) l h0 (by omega) (by unfold maxLen at hcm; omega) ?_
    intro j x hx
    exact hown.cells (g := g) rfl j (.int .u8 x.toNat) (by simp [Lib.byteCells, hx])
  have hfin : Ext (fun k => some k ≠ (Value.slice (some ⟨g, 0, none⟩) l.length cap).ownBlock) w (w.drew.freeze ⟨g, 0, none⟩ l.length) := by
    have hb := Lib.below_freeze (B := 0) (Below.drew (Below.refl 0 w)) (p := ⟨g, 0, none⟩) (Nat.zero_le _) l.length
    refine ⟨hb.os, hb.tape, hb.output, hb.size, fun k hk => ?_⟩
    have hkg : k ≠ g := fun e => hk (by rw [e]; rfl)
    unfold World.freeze
    split
    · rfl
    · simp [Array.getElem?_modify, Ne.symm hkg]
      rfl
  have mixed := Tryd.mixed
  go_enter Tryd.func29, Tryd.ntmps29
  go_wp2
  go_region_o
  all_goals (go_wp2; go_ret; exact ⟨rfl, hfin⟩)
end Go.Fw

/-
  A builder as an object; its two functions' contracts.
-/
namespace Go.Fw
open Go Go.Proofs

def BldIs (l : List UInt8) (oa : Option Addr) (fp : Nat → Prop) (w : World) : Prop := ∃ b p v, oa = some ⟨b, 0, none⟩ ∧ fp b ∧ BldAt b p v l w ∧ ∀ k, v.ownBlock = some k → fp k
abbrev bldO (l : List UInt8) : SO := .gen (BldIs l)

theorem BldAt.kept {b : Nat} {p v : Value} {l : List UInt8} {w w' : World} (h : BldAt b p v l w) (h1 : w'.heap[b]? = w.heap[b]?) (h2 : ∀ k, v.ownBlock = some k → w'.heap[k]? = w.heap[k]?) : BldAt b p v l w' := by
  refine ⟨h1.trans h.row, h.ptr, ⟨h.own.1, ?_⟩, h.ne⟩
  rcases h.own.2 with hn | ⟨g, cap, cur, rfl, hbg, hg, hr⟩
  · exact .inl hn
  · exact .inr ⟨g, cap, cur, rfl, hbg, (h2 g rfl).trans hg, hr⟩

theorem BldIs.ok {l : List UInt8} {oa : Option Addr} {fp : Nat → Prop} {w : World} {β : Env} {Z : Nat → Prop} (h : BldIs l oa fp w) : SO.ok β Z fp w oa (bldO l) := by
  refine ⟨h, fun w' hw _ => ?_⟩
  obtain ⟨b, p, v, e, hb, hat, hk⟩ := h
  exact ⟨b, p, v, e, hb, hat.kept (hw b hb) (fun k hk2 => hw k (hk k hk2)), hk⟩

theorem write_go {β : Env} {Z : Nat → Prop} {fp : Nat → Nat → Prop} {w : World} {o : SO} (hs : HSat β Z fp ⟨[], [(0, o)], 1⟩ w) {l : List UInt8} (h : BldIs l (β 0) (fp 0) w) (s : List UInt8) (hlen : l.length + s.length ≤ 140737488355328) :
    Calls Tryd.prog 26 ([SV.c (.ptr 0 0), stV s].map (SV.den β) ++ []).toArray w fun e w' => ∃ v β' Z' fp' s', e = .returned (v.den β') ∧ Nxt β Z ⟨[], [(0, o)], 1⟩ w v w' β' Z' fp' ⟨[], s'.hp, s'.nx⟩ ∧
      (v = .tup [.c (.i s.length), .c (.v .nilIface)] ∧ s' = (⟨[], [(0, bldO (l ++ s))], 1⟩ : S)) := by
  obtain ⟨b, p, v, e, hb, hat, hk⟩ := h
  have harg : ([SV.c (.ptr 0 0), stV s].map (SV.den β) ++ []).toArray = #[Value.pointer (some ⟨b, 0, none⟩), .string (bs s)] := by
    simp [SV.den, SA.den, SC.den, e, Addr.add_lit]
  rw [harg]
  refine (write_run hat s hlen).mono ?_
  rintro e' w' ⟨rfl, v', hat', hrow, hsz, hext⟩
  have hfl := fun k hk => hs.flt 0 o rfl k hk
  have hfp : ∀ k, v'.ownBlock = some k → fp 0 k ∨ w.heap.size ≤ k := by
    intro k h'
    rcases hrow with h1 | h1 | ⟨k2, h1, h2⟩
    · rw [h1] at h'; cases h'
    · exact .inl (hk k (h1.symm.trans h'))
    · rw [h1] at h'; cases h'; exact .inr h2
  refine ⟨.tup [.c (.i s.length), .c (.v .nilIface)], β, Z, fun id k => id = 0 ∧ (fp 0 k ∨ v'.ownBlock = some k), ⟨[], [(0, bldO (l ++ s))], 1⟩, rfl, ⟨fun _ _ => rfl, ?_, fun _ h => h, rfl, Nat.le_refl _, ⟨?_, ?_, ?_, ?_, ?_⟩, ?_⟩, rfl, rfl⟩
  · refine hext.mono fun k hz => ⟨hs.zlt k hz, fun e => ?_, fun e => ?_⟩
    · subst e; exact (hfl _ hb).2 hz
    · exact (hfl k (hk k e.symm)).2 hz
  · exact ⟨hs.zlt'.1, fun k hz => Nat.lt_of_lt_of_le (hs.zlt k hz) hsz⟩
  · rintro id o' hl k ⟨rfl, hf⟩
    rcases hf with hf | hf
    · exact ⟨Nat.lt_of_lt_of_le (hfl k hf).1 hsz, (hfl k hf).2⟩
    · rcases hfp k hf with h1 | h1
      · exact ⟨Nat.lt_of_lt_of_le (hfl k h1).1 hsz, (hfl k h1).2⟩
      · exact ⟨(hat'.own.lt k hf).2, fun hz => absurd (hs.zlt k hz) (by omega)⟩
  · rintro id id' o1 o2 hl hl' hne k ⟨rfl, _⟩ ⟨rfl, _⟩
    exact hne rfl
  · intro id o' hl
    simp only [look_cons] at hl
    split at hl
    · rename_i e0
      subst e0
      cases hl
      exact BldIs.ok ⟨b, _, v', e, ⟨rfl, .inl hb⟩, hat', fun k hk' => ⟨rfl, .inr hk'⟩⟩
    · cases hl
  · intro id o' hl
    simp only [look_cons] at hl
    split at hl
    · rename_i e0
      subst e0
      cases hl
      exact ⟨Nat.one_pos, trivial⟩
    · cases hl
  · simp [SV.lt, SA.lt, SC.lt, Value.oneCell']

theorem write_c (l s : List UInt8) (hlen : l.length + s.length ≤ 140737488355328) :
    Ct Tryd.prog 26 [.c (.ptr 0 0), stV s] [] [(0, bldO l)] 1 (fun v s' => v = .tup [.c (.i s.length), .c (.v .nilIface)] ∧ s' = ⟨[], [(0, bldO (l ++ s))], 1⟩) :=
  fun _ _ _ _ hs => write_go hs (hs.obj 0 _ rfl).1 s hlen

theorem write0_c (s : List UInt8) (hlen : s.length ≤ 140737488355328) :
    Ct Tryd.prog 26 [.c (.ptr 0 0), stV s] [] [(0, .box 67 [.v (.pointer none), .v (.slice none 0 0)])] 1 (fun v s' => v = .tup [.c (.i s.length), .c (.v .nilIface)] ∧ s' = ⟨[], [(0, bldO s)], 1⟩) := by
  intro β Z fp w hs
  obtain ⟨b, e, hb, hh⟩ := hs.obj 0 _ rfl
  have := write_go hs (l := []) ⟨b, .pointer none, .slice none 0 0, e, hb, ⟨hh, .inl rfl, World.ownsRow_nil _ _ _ _, by simp [Value.ownBlock]⟩, fun k hk => by cases hk⟩ s (by simpa using hlen)
  rwa [List.nil_append] at this

theorem string_c (l : List UInt8) (h0 : l ≠ []) : Ct Tryd.prog 29 [.c (.ptr 0 0)] [] [(0, bldO l)] 1 (fun v s' => v = stV l ∧ s' = ⟨[], [], 1⟩) := by
  intro β Z fp w hs
  obtain ⟨b, p, v, e, hb, hat, hk⟩ := (hs.obj 0 _ rfl).1
  have harg : ([SV.c (.ptr 0 0)].map (SV.den β) ++ []).toArray = #[Value.pointer (some ⟨b, 0, none⟩)] := by
    simp [SV.den, SA.den, SC.den, e, Addr.add_lit]
  rw [harg]
  refine (string_run hat h0).mono ?_
  rintro e' w' ⟨rfl, hext⟩
  have hfl := fun k hk => hs.flt 0 _ rfl k hk
  refine ⟨stV l, β, Z, fun _ _ => False, ⟨[], [], 1⟩, rfl, ⟨fun _ _ => rfl, ?_, fun _ h => h, rfl, Nat.le_refl _, ⟨?_, ?_, ?_, ?_, ?_⟩, ?_⟩, rfl, rfl⟩
  · exact hext.mono fun k hz e => (hfl k (hk k e.symm)).2 hz
  · exact ⟨hs.zlt'.1, fun k hz => Nat.lt_of_lt_of_le (hs.zlt k hz) hext.size⟩
  · rintro id o' hl; cases hl
  · rintro id id' o1 o2 hl; cases hl
  · intro id o' hl; cases hl
  · intro id o' hl; cases hl
  · simp [SV.lt, SA.lt, SC.lt, Value.oneCell']
end Go.Fw

/-
  The reference's digits of a number.
-/
namespace Go.Fw
open Go Go.Proofs Go.RowKit

set_option maxHeartbeats 2000000 in
set_option maxRecDepth 100000 in
theorem digit_run (n : Nat) (w : World) (h10 : n < 10) : Calls Tryd.prog 32 #[.int .i64 n] w fun e w' => e = .returned (.string (bs (Lib.decDigits n))) ∧ Kept w w' := by
  have hd : (decide ((n : Int) < 10)) = true := decide_eq_true (by omega)
  go_enter Tryd.func32, Tryd.ntmps32
  go_wp2
  obtain ⟨c, hc0⟩ : ∃ c, c = UInt8.ofNat (48 + n) := ⟨_, rfl⟩
  have hb : c.toNat = 48 + n := by
    rw [hc0, UInt8.toNat_ofNat']
    omega
  have hc := run_convert_bytes_back (P := Tryd.prog) (w.alloc (Obj.cells #[Value.int IntKind.u8 (48 + ↑n)] 5)) 65 9 5 ⟨w.heap.size, 0, none⟩ 1 [c] bldLays.t37 bldX.t5 bldLays.t9 (by
    intro j hj
    have : j = 0 := by simpa using hj
    subst this
    have hh := heap_alloc_new w (Obj.cells #[Value.int IntKind.u8 (48 + ↑n)] 5)
    simp only [Addr.add, World.cell?, hh, if_true]
    simp only [List.getElem_cons_zero, hb]
    rfl)
  rw [show ([c] : List UInt8).length = 1 from rfl] at hc
  rw [hc]
  simp only [Result.andThen]
  rw [Oper.upon_value]
  go_wp2
  go_ret
  refine ⟨?_, rfl, rfl, rfl, by simp, fun b hb => heap_alloc_old w _ b hb⟩
  rw [Lib.decDigits_one h10, UInt8.ofNat_add]
  rfl
end Go.Fw

/-
  The reference's digits of a number: Digits.
-/
namespace Go.Fw
open Go Go.Proofs

attribute [simp] Value.oneCell' mk_bs

theorem itoa_ten {n : Int} (h : 10 ≤ n) : Lib.itoa n = Lib.itoa (n / 10) ++ Lib.itoa (n % 10) := by
  unfold Lib.itoa
  rw [if_neg (by omega), if_neg (by omega), if_neg (by omega), Lib.decDigits, dif_neg (by omega)]
  have e1 : (n / 10).toNat = n.toNat / 10 := by omega
  have e2 : (n % 10).toNat = n.toNat % 10 := by omega
  rw [e1, e2, Lib.decDigits_one (i := n.toNat % 10) (by omega)]
theorem itoa_len21 {n : Int} (h0 : 0 ≤ n) (h1 : n ≤ 9223372036854775807) : (Lib.itoa n).length ≤ 21 := Lib.itoa_length_le n (by omega) h1

theorem digits_c : ∀ (k : Nat) (n : Int), 0 ≤ n → n < k → n ≤ 9223372036854775807 → Ct Tryd.prog 32 [.i n] [] [] 0 (Is 0 (stV (Lib.itoa n)))
  | 0, n, h0, hk, _ => by omega
  | k + 1, n, h0, hk, hn => by
    by_cases h10 : n < 10
    · intro β Z fp w hs
      obtain ⟨m, rfl⟩ : ∃ m : Nat, n = m := ⟨n.toNat, by omega⟩
      refine (digit_run m w (by omega)).mono ?_
      rintro e w' ⟨rfl, hw⟩
      rw [← Lib.itoa_nonneg]
      exact ⟨stV (Lib.itoa m), β, Z, fp, ⟨[], [], 0⟩, rfl, Nxt.kept hs hw (by simp [Value.oneCell']), rfl, rfl⟩
    · have l1 := itoa_len21 (n := n / 10) (by omega) (by omega)
      have l2 := itoa_len21 (n := n % 10) (by omega) (by omega)
      have e := itoa_ten (n := n) (by omega)
      refine ctW Tryd.tyOk 3 [] Tryd.func32 rfl (by simp) (by simp) (fr := [(0, .i n)]) rfl ?_
      repeat' (first | exact rfl | ((conv => whnf); first | (refine qX (fun h => ?_) fun h => ?_ <;> try exact absurd h (by omega)) | refine oN ?_ | refine oM ?_ ?_ | refine bM ?_ ?_ | refine dR ?_))
      (conv => whnf)
      refine cI (digits_c k (n / 10) (by omega) (by omega) (by omega)) [] Tryd.call32 ?_
      repeat' (first | exact rfl | ((conv => whnf); first | (refine qX (fun h => ?_) fun h => ?_ <;> try exact absurd h (by omega)) | refine oN ?_ | refine oM ?_ ?_ | refine bM ?_ ?_ | refine dR ?_))
      (conv => whnf)
      refine cI (digits_c k (n % 10) (by omega) (by omega) (by omega)) [] Tryd.call32 ?_
      repeat' (first | exact rfl | ((conv => whnf); first | (refine qX (fun h => ?_) fun h => ?_ <;> try exact absurd h (by omega)) | refine oN ?_ | refine oM ?_ ?_ | refine bM ?_ ?_ | refine dR ?_))
      refine Back.is ?_
      rw [e]
      simp [bs_app]
end Go.Fw

/-
  line: numbers behind a word.
-/
namespace Go.Fw
open Go Go.Proofs

/-- What stands ahead of a number. -/
def gapL (word : List UInt8) (k : Nat) : List UInt8 := if 0 < k ∨ word ≠ [] then [32] else []
/-- The line so far. -/
def lnK (word : List UInt8) (ns : List Int) : Nat → List UInt8
  | 0 => word
  | k + 1 => lnK word ns k ++ gapL word k ++ Lib.itoa (ns.getD k 0)
def lnF (word : List UInt8) (ns : List Int) : List UInt8 := lnK word ns ns.length ++ [10]

theorem gapL_len (word : List UInt8) (k : Nat) : (gapL word k).length ≤ 1 := by
  unfold gapL
  split <;> simp
theorem lnK_len {word : List UInt8} {ns : List Int} (hn : ∀ n ∈ ns, 0 ≤ n ∧ n ≤ 9223372036854775807) : ∀ k : Nat, k ≤ ns.length → (lnK word ns k).length ≤ word.length + 22 * k
  | 0, _ => by simp [lnK]
  | k + 1, hk => by
    have h1 := lnK_len hn (word := word) k (by omega)
    have h2 := hn _ (getD_mem ns k 0 (by omega))
    have h3 := itoa_len21 h2.1 h2.2
    have h4 := gapL_len word k
    simp only [lnK, List.length_append]
    omega

set_option maxHeartbeats 16000000 in
set_option maxRecDepth 20000 in
theorem line_c (g : Glo) (hg : GloX g) (word : List UInt8) (ns : List Int) (cap : Nat) (hw : word.length ≤ 100) (hl : ns.length ≤ 100) (hn : ∀ n ∈ ns, 0 ≤ n ∧ n ≤ 9223372036854775807) :
    Ct Tryd.prog 28 [stV word, .c (.sl 0 1 0 ns.length cap)] [] [(0, .arr false 3 .int ns 0), (1, gloO g)] 2 (fun v s => v = stV (lnF word ns) ∧ s = ⟨[], [(1, gloO g)], 2⟩) := by
  refine ctW Tryd.tyOk 8 [9, 10, 11] Tryd.func28 rfl (by simp) (by simp) (fr := [(0, stV word), (1, .c (.sl 0 1 0 ns.length cap))]) rfl ?_
  repeat' (first | exact rfl | ((conv => whnf); first | (refine qX (fun h => ?_) fun h => ?_ <;> try exact absurd h (by omega)) | refine oN ?_ | refine oM ?_ ?_ | refine bM ?_ ?_ | refine dR ?_))
  (conv => whnf)
  refine loopI (fun k : Nat => ⟨[(0, stV word), (5, stV (lnK word ns k)), (9, .c (.sl 0 1 0 ns.length cap)), (10, .i ns.length), (11, .i k)], [(0, .arr false 3 .int ns 0), (1, gloO g)], 2⟩)
    (fun k => k ≤ ns.length) (fun k => ns.length - k) 0 [] ⟨by rfl, ?_, ?_⟩ (Nat.zero_le _) ?_
  · simp [lnK]
  · simp [gloO]
  · intro k hk
    have hkl := lnK_len hn (word := word) k hk
    (conv => whnf)
    refine condP_dec (fun hk2 => ?_) (fun hk2 => ?_)
    · have hr := hn _ (getD_mem ns k 0 (by omega))
      have e0 : 0 + (k : Int).toNat = k := by omega
      have hi := itoa_len21 hr.1 hr.2
      have hs : lnK word ns (k + 1) = lnK word ns k ++ gapL word k ++ Lib.itoa (ns.getD k 0) := rfl
      generalize hx : lnK word ns k = x at *
      have hv : ns.getD (0 + (k : Int).toNat) EK.int.dflt = ns.getD k 0 := by rw [e0]; rfl
      have hend : ∀ gp : List UInt8, gapL word k = gp → bs (lnK word ns (k + 1)) = bs x ++ bs gp ++ bs (Lib.itoa (ns.getD k 0)) := fun gp h => by rw [hs, h, bs_app, bs_app]
      clear hs
      repeat' (first | exact rfl | ((conv => whnf); first | (refine qX (fun h => ?_) fun h => ?_ <;> try exact absurd h (by omega)) | refine oN ?_ | refine oM ?_ ?_ | refine bM ?_ ?_ | refine dR ?_))
      · (conv => whnf)
        rw [hv]
        refine cF (itoa_c g hg (ns.getD k 0) (by omega) (by omega)) [1] Tryd.call27 ?_
        rintro _ _ ⟨rfl, rfl⟩
        repeat' (first | exact rfl | ((conv => whnf); first | (refine qX (fun h => ?_) fun h => ?_ <;> try exact absurd h (by omega)) | refine oN ?_ | refine oM ?_ ?_ | refine bM ?_ ?_ | refine dR ?_))
        (conv => whnf)
        refine ⟨k + 1, [], ⟨by rfl, ?_, ?_⟩, by omega, by omega⟩
        · have := hend [32] (by unfold gapL; rw [if_pos (.inl (by omega))])
          simp [this, mk_bs]
        · simp [gloO]
      · rw [bs_data] at h
        (conv => whnf)
        rw [hv]
        refine cF (itoa_c g hg (ns.getD k 0) (by omega) (by omega)) [1] Tryd.call27 ?_
        rintro _ _ ⟨rfl, rfl⟩
        repeat' (first | exact rfl | ((conv => whnf); first | (refine qX (fun h => ?_) fun h => ?_ <;> try exact absurd h (by omega)) | refine oN ?_ | refine oM ?_ ?_ | refine bM ?_ ?_ | refine dR ?_))
        (conv => whnf)
        refine ⟨k + 1, [], ⟨by rfl, ?_, ?_⟩, by omega, by omega⟩
        · have := hend [32] (by unfold gapL; rw [if_pos (.inr h)])
          simp [this, mk_bs]
        · simp [gloO]
      · rw [bs_data] at h
        (conv => whnf)
        rw [hv]
        refine cF (itoa_c g hg (ns.getD k 0) (by omega) (by omega)) [1] Tryd.call27 ?_
        rintro _ _ ⟨rfl, rfl⟩
        repeat' (first | exact rfl | ((conv => whnf); first | (refine qX (fun h => ?_) fun h => ?_ <;> try exact absurd h (by omega)) | refine oN ?_ | refine oM ?_ ?_ | refine bM ?_ ?_ | refine dR ?_))
        (conv => whnf)
        refine ⟨k + 1, [], ⟨by rfl, ?_, ?_⟩, by omega, by omega⟩
        · have := hend [] (by unfold gapL; rw [if_neg (by rintro (h1 | h1) <;> first | omega | exact h1 h)])
          rw [show bs x ++ bs [] = bs x by rw [bs_app, List.append_nil]] at this
          simp [this, mk_bs]
        · simp [gloO]
    · have e : k = ns.length := by omega
      subst e
      repeat' (first | exact rfl | ((conv => whnf); first | (refine qX (fun h => ?_) fun h => ?_ <;> try exact absurd h (by omega)) | refine oN ?_ | refine oM ?_ ?_ | refine bM ?_ ?_ | refine dR ?_))
      (conv => whnf)
      exact ⟨[], [(1, gloO g)], 2, stV (lnF word ns), ⟨by rfl, trivial, by simp [gloO]⟩, by simp [lnF, mk_bs, bs_app], rfl, rfl⟩
end Go.Fw

namespace Go.Fw
open Go Go.Proofs

set_option maxHeartbeats 2000000 in
set_option maxRecDepth 20000 in
theorem ahead_c (a b : Arc) : Ct Tryd.prog 31 [arcV a, arcV b] [] [] 0 (Is 0 (.b (aheadB a b))) := by
  refine ctW Tryd.tyOk 8 [] Tryd.func31 rfl (by simp) (by simp) (fr := [(0, arcV a), (1, arcV b)]) rfl ?_
  (conv => whnf)
  refine dR ?_
  repeat' (first | exact rfl | ((conv => whnf); first | refine condP_mk (fun h => ?_) (fun h => ?_) | refine Ob.mk ?_ ?_ | refine Both.mk ?_ ?_))
  all_goals (conv => whnf)
  all_goals first | (refine loopI (fun k : Nat => ⟨[(4, .b false), (5, .c (.sl 2 1 0 4 4)), (6, .c (.sl 3 1 0 4 4)), (7, .i k)], [(2, .arr true 3 .int [a.f, a.i, a.o, a.t] 0), (3, .arr true 3 .int [b.f, b.i, b.o, b.t] 0)], 4⟩) (fun k => k ≤ 4 ∧ ∀ j, j < k → [a.f, a.i, a.o, a.t].getD j 0 = [b.f, b.i, b.o, b.t].getD j 0) (fun k => 4 - k) 0 [] ⟨by rfl, ?_, ?_⟩ (by simp) ?_; (focus simp); (focus simp)) | (refine loopI (fun k : Nat => ⟨[(4, .b false), (5, .c (.sl 2 1 0 4 4)), (6, .c (.sl 3 1 0 4 4)), (7, .i k)], [(2, .arr true 3 .int [a.f, a.i, a.o, a.t] 0), (3, .arr true 3 .int [b.f, b.i, b.o, b.t] 0)], 4⟩) (fun k => k ≤ 4 ∧ ∀ j, j < k → [a.f, a.i, a.o, a.t].getD j 0 = [b.f, b.i, b.o, b.t].getD j 0) (fun k => 4 - k) 0 [(2, some 3), (3, some 2)] ⟨by rfl, ?_, ?_⟩ (by simp) ?_; (focus simp); (focus simp))
  all_goals intro k hk
  all_goals obtain ⟨hk1, hk2⟩ := hk
  all_goals repeat' (first | exact rfl | ((conv => whnf); first | refine condP_mk (fun h => ?_) (fun h => ?_) | refine Ob.mk ?_ ?_ | refine Both.mk ?_ ?_))
  all_goals first | refine dR ?_ | skip
  all_goals repeat' (first | exact rfl | ((conv => whnf); first | refine condP_mk (fun h => ?_) (fun h => ?_) | refine Ob.mk ?_ ?_ | refine Both.mk ?_ ?_))
  all_goals simp only [decide_eq_true_eq, decide_eq_false_iff_not, bne_iff_ne, ne_eq, bne_eq_false_iff_eq, EK.dflt, Nat.zero_add, Int.toNat_natCast] at *
  all_goals first | (simp only [List.length_cons, List.length_nil]; omega) | (unfold InI; omega) | skip
  all_goals (conv => whnf)
  all_goals first | refine dR ?_ | skip
  all_goals repeat' (first | exact rfl | ((conv => whnf); first | refine condP_mk (fun h => ?_) (fun h => ?_) | refine Ob.mk ?_ ?_ | refine Both.mk ?_ ?_))
  all_goals first | (simp only [EK.dflt, Nat.zero_add, Int.toNat_natCast, List.length_cons, List.length_nil]; omega) | skip
  all_goals (conv => whnf)
  all_goals first | (refine Back.is ?_; have h4 : k = 4 := (by omega); subst h4; simp only [eqV, eqA, eqC]; exact aheadB_not a b hk2) | (refine Back.is ?_; simp only [eqV, eqA, eqC, EK.dflt, Nat.zero_add, Int.toNat_natCast]; exact aheadB_at a b k (by omega) hk2 h) | skip
  all_goals refine ⟨k + 1, [], ⟨by rfl, by simp, by simp⟩, ⟨by omega, fun j hj => ?_⟩, by omega⟩
  all_goals exact if e : j = k then e ▸ h else hk2 j (by omega)
end Go.Fw

namespace Go.Fw
open Go Go.Proofs

/-- What CheckFst keeps by it. -/
abbrev hpC (F : TF) : List (Nat × SO) := [(0, .arr false 3 .int F.fin 0), (1, .arr false 35 .arc F.arcs 0), (2, .box 25 [.i F.st, .i F.start, .sl 0 1 0 F.fin.length F.capF, .sl 1 5 0 F.arcs.length F.capA])]

set_option maxHeartbeats 4000000 in
set_option maxRecDepth 20000 in
theorem checkFst_c (F : TF) : Ct Tryd.prog 13 [fV F] [] (hpF F) 2 (Is 2 (.i (fstE F))) := by
  refine ctW Tryd.tyOk 6 [] Tryd.func13 rfl (by simp) (by simp) (fr := [(0, fV F)]) rfl ?_
  (conv => whnf)
  refine cI (between_c F.st 1 200) [] Tryd.call30 ?_
  repeat' (first | exact rfl | ((conv => whnf); first | refine condP_mk (fun h => ?_) (fun h => ?_) | refine Ob.mk ?_ ?_ | refine Both.mk ?_ ?_))
  · refine Back.is ?_
    simp only [Bool.not_eq_true', decide_eq_false_iff_not] at h
    simp only [eqV, eqA, eqC, fstE, if_pos h]
  · simp only [Bool.not_eq_false', decide_eq_true_eq] at h
    unfold InI; omega
  simp only [Bool.not_eq_false', decide_eq_true_eq] at h
  have h1 := h
  clear h
  (conv => whnf)
  refine cI (between_c F.start 0 (F.st - 1)) [] Tryd.call30 ?_
  repeat' (first | exact rfl | ((conv => whnf); first | refine condP_mk (fun h => ?_) (fun h => ?_) | refine Ob.mk ?_ ?_ | refine Both.mk ?_ ?_))
  · refine Back.is ?_
    simp only [Bool.not_eq_true', decide_eq_false_iff_not] at h
    simp only [eqV, eqA, eqC, fstE, if_neg (not_not_intro h1), if_pos h]
  · refine Back.is ?_
    rename_i h2
    simp only [Bool.not_eq_false', decide_eq_true_eq, bne_iff_ne] at h h2
    simp only [eqV, eqA, eqC, fstE, if_neg (not_not_intro h1), if_neg (not_not_intro h2), if_pos h]
  rename_i h2
  simp only [Bool.not_eq_false', decide_eq_true_eq, bne_eq_false_iff_eq] at h h2
  have h3 := h
  clear h
  (conv => whnf)
  refine loopI (fun k : Nat => ⟨[(1, .c (.ptr 2 0)), (2, .i 0), (3, .i k)], hpC F, 3⟩) (fun k => k ≤ F.fin.length ∧ ∀ n ∈ F.fin.take k, -1 ≤ n ∧ n ≤ 1000000000) (fun k => F.fin.length - k) 0 [] ⟨by rfl, ?_, ?_⟩ (by simp) ?_
  · simp
  · simp
  · intro k ⟨hk1, hk2⟩
    repeat' (first | exact rfl | ((conv => whnf); first | refine condP_mk (fun h => ?_) (fun h => ?_) | refine Ob.mk ?_ ?_ | refine Both.mk ?_ ?_))
    · simp only [decide_eq_true_eq] at h; omega
    · simp only [decide_eq_true_eq] at h; omega
    · simp only [decide_eq_true_eq] at h
      have hk : k < F.fin.length := by omega
      (conv => whnf)
      simp only [Nat.zero_add, Int.toNat_natCast, EK.dflt]
      refine cI (between_c (F.fin.getD k 0) (-1) 1000000000) [] Tryd.call30 ?_
      repeat' (first | exact rfl | ((conv => whnf); first | refine condP_mk (fun h => ?_) (fun h => ?_) | refine Ob.mk ?_ ?_ | refine Both.mk ?_ ?_))
      · refine Back.is ?_
        have hm := getD_mem F.fin k 0 hk
        simp only [Bool.not_eq_true', decide_eq_false_iff_not] at h
        have : ¬ ∀ n ∈ F.fin, -1 ≤ n ∧ n ≤ 1000000000 := fun H => h (H _ hm)
        simp only [eqV, eqA, eqC, fstE, if_neg (not_not_intro h1), if_neg (not_not_intro h2), if_neg (not_not_intro h3), if_pos this]
      · unfold InI; omega
      · (conv => whnf)
        refine ⟨k + 1, [], ⟨by rfl, ?_, ?_⟩, ⟨hk, ?_⟩, by omega⟩
        · simp
        · simp
        · rw [take_succ_getD F.fin k 0 hk]
          simp only [Bool.not_eq_false', decide_eq_true_eq] at h
          intro n hn
          simp only [List.mem_append, List.mem_singleton] at hn
          rcases hn with hn | rfl
          · exact hk2 n hn
          · exact h
    · rename_i hf
      simp only [decide_eq_false_iff_not, decide_eq_true_eq] at h hf
      rw [List.take_of_length_le (by omega)] at hk2
      refine Back.is ?_
      simp only [eqV, eqA, eqC, fstE, if_neg (not_not_intro h1), if_neg (not_not_intro h2), if_neg (not_not_intro h3), if_neg (not_not_intro hk2), if_pos (show 3000 < F.arcs.length by omega)]
    · rename_i hf
      simp only [decide_eq_false_iff_not, decide_eq_true_eq] at h hf
      rw [List.take_of_length_le (by omega)] at hk2
      have h4 : fstE F = arcsE F.st none F.arcs := by
        simp only [fstE, if_neg (not_not_intro h1), if_neg (not_not_intro h2), if_neg (not_not_intro h3), if_neg (not_not_intro hk2), if_neg (show ¬ 3000 < F.arcs.length by omega)]
      have h5 : F.arcs.length ≤ 3000 := by omega
      clear hf h hk2 hk1
      (conv => whnf)
      refine loopI (fun k : Nat => ⟨[(1, .c (.ptr 2 0)), (2, .i 0), (4, .i k)], hpC F, 3⟩) (fun k => k ≤ F.arcs.length ∧ fstE F = arcsE F.st (if k = 0 then none else some (F.arcs.getD (k - 1) EK.arc.dflt)) (F.arcs.drop k)) (fun k => F.arcs.length - k) 0 [] ⟨by rfl, ?_, ?_⟩ (by simp [h4]) ?_
      · simp
      · simp
      · intro j ⟨hj1, hj2⟩
        repeat' (first | exact rfl | ((conv => whnf); first | refine condP_mk (fun h => ?_) (fun h => ?_) | refine Ob.mk ?_ ?_ | refine Both.mk ?_ ?_))
        · simp only [decide_eq_true_eq] at h; omega
        · simp only [decide_eq_true_eq] at h; omega
        · unfold InI; omega
        · simp only [decide_eq_true_eq] at h
          have hj : j < F.arcs.length := by omega
          clear h
          (conv => whnf)
          simp only [Nat.zero_add, Int.toNat_natCast]
          have hd : F.arcs.drop j = F.arcs.getD j EK.arc.dflt :: F.arcs.drop (j + 1) := by
            rw [List.drop_eq_getElem_cons hj]; simp [List.getD, hj]
          rw [hd, arcsE_cons] at hj2
          have hnext : ∀ v : Int, fstE F = v → v = fstE F := fun _ h => h.symm
          generalize hx : F.arcs.getD j EK.arc.dflt = x at hj2 ⊢
          refine cI (between_c x.f 0 (F.st - 1)) [] Tryd.call30 ?_
          repeat' (first | exact rfl | ((conv => whnf); first | refine condP_mk (fun h => ?_) (fun h => ?_) | refine Ob.mk ?_ ?_ | refine Both.mk ?_ ?_))
          · refine Back.is ?_
            simp only [Bool.not_eq_true'] at h
            simp only [eqV, eqA, eqC, hj2, arcOk, h]
            rfl
          · unfold InI; omega
          simp only [Bool.not_eq_false'] at h
          have a1 := h
          clear h
          (conv => whnf)
          refine cI (between_c x.t 0 (F.st - 1)) [] Tryd.call30 ?_
          repeat' (first | exact rfl | ((conv => whnf); first | refine condP_mk (fun h => ?_) (fun h => ?_) | refine Ob.mk ?_ ?_ | refine Both.mk ?_ ?_))
          · refine Back.is ?_
            simp only [Bool.not_eq_true'] at h
            simp only [eqV, eqA, eqC, hj2, arcOk, a1, h]
            rfl
          simp only [Bool.not_eq_false'] at h
          have a2 : arcOk F.st x = true := by simp only [arcOk, a1, h]; rfl
          clear h
          (conv => whnf)
          refine cI (between_c x.i 0 9) [] Tryd.call30 ?_
          repeat' (first | exact rfl | ((conv => whnf); first | refine condP_mk (fun h => ?_) (fun h => ?_) | refine Ob.mk ?_ ?_ | refine Both.mk ?_ ?_))
          · refine Back.is ?_
            simp only [Bool.not_eq_true'] at h
            simp only [eqV, eqA, eqC, hj2, a2, arcIn, h]
            rfl
          simp only [Bool.not_eq_false'] at h
          have a3 := h
          clear h
          (conv => whnf)
          refine cI (between_c x.o 0 9) [] Tryd.call30 ?_
          repeat' (first | exact rfl | ((conv => whnf); first | refine condP_mk (fun h => ?_) (fun h => ?_) | refine Ob.mk ?_ ?_ | refine Both.mk ?_ ?_))
          · refine Back.is ?_
            simp only [Bool.not_eq_true'] at h
            simp only [eqV, eqA, eqC, hj2, a2, arcIn, a3, h]
            rfl
          simp only [Bool.not_eq_false'] at h
          have a4 := h
          clear h
          (conv => whnf)
          refine cI (between_c x.w 0 1000000000) [] Tryd.call30 ?_
          repeat' (first | exact rfl | ((conv => whnf); first | refine condP_mk (fun h => ?_) (fun h => ?_) | refine Ob.mk ?_ ?_ | refine Both.mk ?_ ?_))
          · refine Back.is ?_
            simp only [Bool.not_eq_true'] at h
            simp only [eqV, eqA, eqC, hj2, a2, arcIn, a3, a4, h]
            rfl
          simp only [Bool.not_eq_false'] at h
          have a5 : arcIn x = true := by simp only [arcIn, a3, a4, h]; rfl
          clear h
          (conv => whnf)
          refine dR ?_
          repeat' (first | exact rfl | ((conv => whnf); first | refine condP_mk (fun h => ?_) (fun h => ?_) | refine Ob.mk ?_ ?_ | refine Both.mk ?_ ?_))
          · unfold InI; omega
          · simp only [decide_eq_true_eq, gt_iff_lt] at h; omega
          · simp only [decide_eq_true_eq, gt_iff_lt] at h; omega
          · simp only [decide_eq_true_eq, gt_iff_lt] at h
            have hj0 : j ≠ 0 := by omega
            clear h
            have e : 0 + ((j : Int) - 1).toNat = j - 1 := by omega
            (conv => whnf)
            simp only [e, Nat.zero_add, Int.toNat_natCast]
            simp only [if_neg hj0] at hj2
            generalize hy : F.arcs.getD (j - 1) EK.arc.dflt = y at hj2 ⊢
            refine cI (ahead_c y x) [] Tryd.call31 ?_
            repeat' (first | exact rfl | ((conv => whnf); first | refine condP_mk (fun h => ?_) (fun h => ?_) | refine Ob.mk ?_ ?_ | refine Both.mk ?_ ?_))
            · refine Back.is ?_
              simp only [eqV, eqA, eqC, hj2, a2, a5, h]
              rfl
            · unfold InI; omega
            · simp only [Bool.not_eq_false'] at h
              (conv => whnf)
              refine ⟨j + 1, [], ⟨by rfl, ?_, ?_⟩, ⟨hj, ?_⟩, by omega⟩
              · simp
              · simp
              · simp only [a2, a5, h, Bool.not_true, Bool.false_eq_true, if_false] at hj2
                rw [if_neg (Nat.succ_ne_zero j), Nat.add_sub_cancel, hx]
                exact hj2
          · unfold InI; omega
          · simp only [decide_eq_false_iff_not, gt_iff_lt] at h
            have hj0 : j = 0 := by omega
            simp only [if_pos hj0] at hj2
            (conv => whnf)
            refine ⟨j + 1, [], ⟨by rfl, ?_, ?_⟩, ⟨hj, ?_⟩, by omega⟩
            · simp
            · simp
            · simp only [a2, a5, Bool.not_true, Bool.false_eq_true, if_false] at hj2
              rw [if_neg (Nat.succ_ne_zero j), Nat.add_sub_cancel, hx]
              exact hj2
        · refine Back.is ?_
          simp only [decide_eq_false_iff_not] at h
          rw [List.drop_eq_nil_of_le (by omega), arcsE_nil] at hj2
          simp only [eqV, eqA, eqC, hj2]
end Go.Fw

namespace Go.Fw
open Go Go.Proofs

set_option maxHeartbeats 2000000 in
set_option maxRecDepth 20000 in
theorem indexFunc_c (l : List Int) (cap : Nat) (hl : l.length ≤ 9223372036854775807) (g : Nat) (p : Int → Bool) (hg : ∀ x, Ct Tryd.prog g [.i x] [] [] 0 (Is 0 (.b (p x)))) (hcf : ∀ args w, (callFunc g args).run Tryd.prog w = .ok (.enter g args) w) :
    Ct Tryd.prog 54 [.c (.sl 0 1 0 l.length cap), .c (.fn g [])] [] [(0, .arr false 3 .int l 0)] 1 (Is 1 (.i (idx p 0 l))) := by
  refine ctW Tryd.tyOk 6 [7, 8] Tryd.func54 rfl (by simp) (by simp) (fr := [(0, .c (.sl 0 1 0 l.length cap)), (1, .c (.fn g []))]) rfl ?_
  (conv => whnf)
  refine loopI (fun k : Nat => ⟨[(0, .c (.sl 0 1 0 l.length cap)), (1, .c (.fn g [])), (4, .i 0), (7, .i l.length), (8, .i k)], [(0, .arr false 3 .int l 0)], 1⟩) (fun k => k ≤ l.length ∧ idx p 0 l = idx p k (l.drop k)) (fun k => l.length - k) 0 [] ⟨by rfl, ?_, ?_⟩ (by simp) ?_
  · simp
  · simp
  · intro k ⟨hk1, hk2⟩
    repeat' (first | exact rfl | ((conv => whnf); first | refine condP_mk (fun h => ?_) (fun h => ?_) | refine Ob.mk ?_ ?_ | refine Both.mk ?_ ?_))
    · simp only [decide_eq_true_eq] at h; omega
    · simp only [decide_eq_true_eq] at h; omega
    · simp only [decide_eq_true_eq] at h
      have hk : k < l.length := by omega
      clear h
      (conv => whnf)
      simp only [Nat.zero_add, Int.toNat_natCast, EK.dflt]
      rw [idx_drop p l k 0 hk] at hk2
      refine callI (hg (l.getD k 0)) [] hcf rfl trivial (by simp) (by simp) ?_
      repeat' (first | exact rfl | ((conv => whnf); first | refine condP_mk (fun h => ?_) (fun h => ?_) | refine Ob.mk ?_ ?_ | refine Both.mk ?_ ?_))
      · refine Back.is ?_
        simp only [eqV, eqA, eqC, hk2, h, if_pos]
      · unfold InI; omega
      · (conv => whnf)
        simp only [h, Bool.false_eq_true, if_false] at hk2
        refine ⟨k + 1, [], ⟨by rfl, ?_, ?_⟩, ⟨hk, hk2⟩, by omega⟩
        · simp
        · simp
    · refine Back.is ?_
      simp only [decide_eq_false_iff_not] at h
      rw [List.drop_eq_nil_of_le (by omega), idx] at hk2
      simp only [eqV, eqA, eqC, hk2]

theorem containsFunc_c (l : List Int) (cap : Nat) (hl : l.length ≤ 9223372036854775807) (g : Nat) (p : Int → Bool) (hg : ∀ x, Ct Tryd.prog g [.i x] [] [] 0 (Is 0 (.b (p x)))) (hcf : ∀ args w, (callFunc g args).run Tryd.prog w = .ok (.enter g args) w) :
    Ct Tryd.prog 35 [.c (.sl 0 1 0 l.length cap), .c (.fn g [])] [] [(0, .arr false 3 .int l 0)] 1 (Is 1 (.b (l.any p))) := by
  refine ctW Tryd.tyOk 5 [] Tryd.func35 rfl (by simp) (by simp) (fr := [(0, .c (.sl 0 1 0 l.length cap)), (1, .c (.fn g []))]) rfl ?_
  (conv => whnf)
  refine callI (indexFunc_c l cap hl g p hg hcf) [0] Tryd.call54 rfl (by simp) (by simp) (by simp) ?_
  repeat' (first | exact rfl | ((conv => whnf); first | refine condP_mk (fun h => ?_) (fun h => ?_) | refine Ob.mk ?_ ?_ | refine Both.mk ?_ ?_))
  refine Back.is ?_
  simp only [eqV, eqA, eqC]
  exact (idx_any p l 0).symm

end Go.Fw

namespace Go.Fw
open Go Go.Proofs

set_option maxHeartbeats 2000000 in
set_option maxRecDepth 20000 in
theorem or_c (l : List Int) (cap : Nat) (hl : l.length ≤ 9223372036854775807) : Ct Tryd.prog 55 [.c (.sl 0 1 0 l.length cap)] [] [(0, .arr true 3 .int l 0)] 1 (Is 1 (.i (orI l))) := by
  refine ctW Tryd.tyOk 6 [6, 7, 8] Tryd.func55 rfl (by simp) (by simp) (fr := [(0, .c (.sl 0 1 0 l.length cap))]) rfl ?_
  (conv => whnf)
  refine loopI (fun k : Nat => ⟨[(2, .i 0), (3, .i 0), (6, .c (.sl 0 1 0 l.length cap)), (7, .i l.length), (8, .i k)], [(0, .arr true 3 .int l 0)], 1⟩) (fun k => k ≤ l.length ∧ orI l = orI (l.drop k)) (fun k => l.length - k) 0 [] ⟨by rfl, ?_, ?_⟩ (by simp) ?_
  · simp
  · simp
  · intro k ⟨hk1, hk2⟩
    repeat' (first | exact rfl | ((conv => whnf); first | refine condP_mk (fun h => ?_) (fun h => ?_) | refine Ob.mk ?_ ?_ | refine Both.mk ?_ ?_))
    · simp only [decide_eq_true_eq] at h; omega
    · simp only [decide_eq_true_eq] at h; omega
    · simp only [bne_iff_ne, Nat.zero_add, Int.toNat_natCast, EK.dflt] at h
      rename_i hk
      simp only [decide_eq_true_eq] at hk
      rw [orI_drop l k (by omega), if_pos h] at hk2
      refine Back.is ?_
      simp only [eqV, eqA, eqC, hk2, Nat.zero_add, Int.toNat_natCast, EK.dflt]
    · rename_i hk
      simp only [decide_eq_true_eq] at hk
      unfold InI; omega
    · simp only [bne_eq_false_iff_eq, Nat.zero_add, Int.toNat_natCast, EK.dflt] at h
      rename_i hk
      simp only [decide_eq_true_eq] at hk
      rw [orI_drop l k (by omega), if_neg (by rw [h]; simp)] at hk2
      (conv => whnf)
      refine ⟨k + 1, [], ⟨by rfl, ?_, ?_⟩, ⟨by omega, hk2⟩, by omega⟩
      · simp
      · simp
    · refine Back.is ?_
      simp only [decide_eq_false_iff_not] at h
      rw [List.drop_eq_nil_of_le (by omega), orI] at hk2
      simp only [eqV, eqA, eqC, hk2]

set_option maxHeartbeats 4000000 in
set_option maxRecDepth 20000 in
theorem order_c (a b : Arc) : Ct Tryd.prog 37 [arcV a, arcV b] [] [] 0 (Is 0 (.i (orderI a b))) := by
  refine ctW Tryd.tyOk 5 [] Tryd.func37 rfl (by simp) (by simp) (fr := [(0, arcV a), (1, arcV b)]) rfl ?_
  (conv => whnf)
  refine dR ?_
  (conv => whnf)
  refine cI (compare_c a.f b.f) [] Tryd.call56 ?_
  repeat' (first | exact rfl | ((conv => whnf); first | refine condP_mk (fun h => ?_) (fun h => ?_) | refine Ob.mk ?_ ?_ | refine Both.mk ?_ ?_))
  (conv => whnf)
  refine cI (compare_c a.i b.i) [] Tryd.call56 ?_
  repeat' (first | exact rfl | ((conv => whnf); first | refine condP_mk (fun h => ?_) (fun h => ?_) | refine Ob.mk ?_ ?_ | refine Both.mk ?_ ?_))
  (conv => whnf)
  refine cI (compare_c a.o b.o) [] Tryd.call56 ?_
  repeat' (first | exact rfl | ((conv => whnf); first | refine condP_mk (fun h => ?_) (fun h => ?_) | refine Ob.mk ?_ ?_ | refine Both.mk ?_ ?_))
  (conv => whnf)
  refine cI (compare_c a.t b.t) [] Tryd.call56 ?_
  repeat' (first | exact rfl | ((conv => whnf); first | refine condP_mk (fun h => ?_) (fun h => ?_) | refine Ob.mk ?_ ?_ | refine Both.mk ?_ ?_))
  (conv => whnf)
  refine callI (or_c [cmpI a.f b.f, cmpI a.i b.i, cmpI a.o b.o, cmpI a.t b.t] 4 (by simp)) [2] Tryd.call55 rfl (by simp) (by simp) (by simp) ?_
  repeat' (first | exact rfl | ((conv => whnf); first | refine condP_mk (fun h => ?_) (fun h => ?_) | refine Ob.mk ?_ ?_ | refine Both.mk ?_ ?_))
  refine Back.is ?_
  simp only [eqV, eqA, eqC, orderI]
end Go.Fw

namespace Go.Fw
open Go Go.Proofs

theorem check1_c (F : TF) (n : Int) (hst : InI (F.st - 1)) : Ct Tryd.prog 33 [.i n, .c (.ptr 2 0)] [] (hpC F) 3 (fun v s => v = .b (decide (0 ≤ n ∧ n ≤ F.st - 1)) ∧ s = ⟨[], [(2, .box 25 [.i F.st, .i F.start, .sl 0 1 0 F.fin.length F.capF, .sl 1 5 0 F.arcs.length F.capA])], 3⟩) := by
  refine ctW Tryd.tyOk 4 [] Tryd.func33 rfl (by simp) (by simp) (fr := [(0, .i n), (1, .c (.ptr 2 0))]) rfl ?_
  repeat' (first | exact rfl | ((conv => whnf); first | refine condP_mk (fun h => ?_) (fun h => ?_) | refine Ob.mk ?_ ?_ | refine Both.mk ?_ ?_))
  · exact hst
  (conv => whnf)
  refine cI (within_c n 0 (F.st - 1)) [] Tryd.call34 ?_
  repeat' (first | exact rfl | ((conv => whnf); first | refine condP_mk (fun h => ?_) (fun h => ?_) | refine Ob.mk ?_ ?_ | refine Both.mk ?_ ?_))
  (conv => whnf)
  exact ⟨[], [(2, .box 25 [.i F.st, .i F.start, .sl 0 1 0 F.fin.length F.capF, .sl 1 5 0 F.arcs.length F.capA])], 3, .b (decide (0 ≤ n ∧ n ≤ F.st - 1)), ⟨by rfl, trivial, by simp⟩, by simp only [eqV, eqA, eqC], rfl, rfl⟩

/-- What Check keeps by it. -/
abbrev frC : List (Nat × SV) := [(1, .c (.ptr 2 0)), (2, .i 0), (3, .c (.fn 33 [(2, 0)]))]

set_option maxHeartbeats 4000000 in
set_option maxRecDepth 20000 in
theorem check_c (F : TF) (hl : F.fin.length ≤ 9223372036854775807) : Ct Tryd.prog 16 [fV F] [] (hpF F) 2 (Is 2 (.i (fstE F))) := by
  refine ctW Tryd.tyOk 6 [35, 36, 37] Tryd.func16 rfl (by simp) (by simp) (fr := [(0, fV F)]) rfl ?_
  (conv => whnf)
  refine cI (within_c F.st 1 200) [] Tryd.call34 ?_
  repeat' (first | exact rfl | ((conv => whnf); first | refine condP_mk (fun h => ?_) (fun h => ?_) | refine Ob.mk ?_ ?_ | refine Both.mk ?_ ?_))
  · refine Back.is ?_
    simp only [Bool.not_eq_true', decide_eq_false_iff_not] at h
    simp only [eqV, eqA, eqC, fstE, if_pos h]
  simp only [Bool.not_eq_false', decide_eq_true_eq] at h
  have h1 := h
  clear h
  have hst : InI (F.st - 1) := by unfold InI; omega
  (conv => whnf)
  refine callF (check1_c F F.start hst) [0, 1, 2] Tryd.call33 rfl (by simp) (by simp) (by simp) ?_
  rintro _ _ ⟨rfl, rfl⟩
  repeat' (first | exact rfl | ((conv => whnf); first | refine condP_mk (fun h => ?_) (fun h => ?_) | refine Ob.mk ?_ ?_ | refine Both.mk ?_ ?_))
  · refine Back.is ?_
    simp only [Bool.not_eq_true', decide_eq_false_iff_not] at h
    simp only [eqV, eqA, eqC, fstE, if_neg (not_not_intro h1), if_pos h]
  · refine Back.is ?_
    rename_i h2
    simp only [Bool.not_eq_false', decide_eq_true_eq, bne_iff_ne] at h h2
    simp only [eqV, eqA, eqC, fstE, if_neg (not_not_intro h1), if_neg (not_not_intro h2), if_pos h]
  rename_i h2
  simp only [Bool.not_eq_false', decide_eq_true_eq, bne_eq_false_iff_eq] at h h2
  have h3 := h
  clear h
  (conv => whnf)
  refine callI (containsFunc_c F.fin F.capF hl 36 (fun a => !decide (-1 ≤ a ∧ a ≤ 1000000000)) check2_c Tryd.call36) [0] Tryd.call35 rfl (by simp) (by simp) (by simp) ?_
  have hany : (F.fin.any fun a => !decide (-1 ≤ a ∧ a ≤ 1000000000)) = true ↔ ¬ ∀ n ∈ F.fin, -1 ≤ n ∧ n ≤ 1000000000 := by
    rw [List.any_eq_true]
    constructor
    · rintro ⟨x, hx, h⟩ H
      rw [decide_eq_true (H x hx)] at h
      cases h
    · intro H
      refine Classical.byContradiction fun hc => H fun n hn => Classical.byContradiction fun hnn => hc ⟨n, hn, ?_⟩
      rw [decide_eq_false hnn]; rfl
  repeat' (first | exact rfl | ((conv => whnf); first | refine condP_mk (fun h => ?_) (fun h => ?_) | refine Ob.mk ?_ ?_ | refine Both.mk ?_ ?_))
  · refine Back.is ?_
    rw [hany] at h
    simp only [eqV, eqA, eqC, fstE, if_neg (not_not_intro h1), if_neg (not_not_intro h2), if_neg (not_not_intro h3), if_pos h]
  · refine Back.is ?_
    rename_i hk2
    have hk2 : ∀ n ∈ F.fin, -1 ≤ n ∧ n ≤ 1000000000 := Classical.not_not.1 fun hc => by rw [hany.2 hc] at hk2; cases hk2
    simp only [decide_eq_true_eq] at h
    simp only [eqV, eqA, eqC, fstE, if_neg (not_not_intro h1), if_neg (not_not_intro h2), if_neg (not_not_intro h3), if_neg (not_not_intro hk2), if_pos (show 3000 < F.arcs.length by omega)]
  rename_i hk2
  have hk2 : ∀ n ∈ F.fin, -1 ≤ n ∧ n ≤ 1000000000 := Classical.not_not.1 fun hc => by rw [hany.2 hc] at hk2; cases hk2
  simp only [decide_eq_false_iff_not] at h
  have h5 : F.arcs.length ≤ 3000 := by omega
  have h4 : fstE F = arcsE F.st none F.arcs := by
    simp only [fstE, if_neg (not_not_intro h1), if_neg (not_not_intro h2), if_neg (not_not_intro h3), if_neg (not_not_intro hk2), if_neg (show ¬ 3000 < F.arcs.length by omega)]
  clear hk2 h hany
  (conv => whnf)
  refine loopI (fun k : Nat => ⟨[(1, .c (.ptr 2 0)), (2, .i 0), (3, .c (.fn 33 [(2, 0)])), (35, .c (.sl 1 5 0 F.arcs.length F.capA)), (36, .i F.arcs.length), (37, .i k)], hpC F, 3⟩) (fun k => k ≤ F.arcs.length ∧ fstE F = arcsE F.st (if k = 0 then none else some (F.arcs.getD (k - 1) EK.arc.dflt)) (F.arcs.drop k)) (fun k => F.arcs.length - k) 0 [] ⟨by rfl, ?_, ?_⟩ (by simp [h4]) ?_
  · simp
  · simp
  · intro j ⟨hj1, hj2⟩
    repeat' (first | exact rfl | ((conv => whnf); first | refine condP_mk (fun h => ?_) (fun h => ?_) | refine Ob.mk ?_ ?_ | refine Both.mk ?_ ?_))
    · simp only [decide_eq_true_eq] at h; omega
    · simp only [decide_eq_true_eq] at h; omega
    · simp only [decide_eq_true_eq] at h
      have hj : j < F.arcs.length := by omega
      clear h
      (conv => whnf)
      simp only [Nat.zero_add, Int.toNat_natCast]
      have hd : F.arcs.drop j = F.arcs.getD j EK.arc.dflt :: F.arcs.drop (j + 1) := by
        rw [List.drop_eq_getElem_cons hj]; simp [List.getD, hj]
      rw [hd, arcsE_cons] at hj2
      generalize hx : F.arcs.getD j EK.arc.dflt = x at hj2 ⊢
      refine callF (check1_c F x.f hst) [0, 1, 2] Tryd.call33 rfl (by simp) (by simp) (by simp) ?_
      rintro _ _ ⟨rfl, rfl⟩
      repeat' (first | exact rfl | ((conv => whnf); first | refine condP_mk (fun h => ?_) (fun h => ?_) | refine Ob.mk ?_ ?_ | refine Both.mk ?_ ?_))
      · refine Back.is ?_
        simp only [Bool.not_eq_true'] at h
        simp only [eqV, eqA, eqC, hj2, arcOk, h]
        rfl
      simp only [Bool.not_eq_false'] at h
      have a1 := h
      clear h
      (conv => whnf)
      refine callF (check1_c F x.t hst) [0, 1, 2] Tryd.call33 rfl (by simp) (by simp) (by simp) ?_
      rintro _ _ ⟨rfl, rfl⟩
      repeat' (first | exact rfl | ((conv => whnf); first | refine condP_mk (fun h => ?_) (fun h => ?_) | refine Ob.mk ?_ ?_ | refine Both.mk ?_ ?_))
      · refine Back.is ?_
        simp only [Bool.not_eq_true'] at h
        simp only [eqV, eqA, eqC, hj2, arcOk, a1, h]
        rfl
      simp only [Bool.not_eq_false'] at h
      have a2 : arcOk F.st x = true := by simp only [arcOk, a1, h]; rfl
      clear h
      (conv => whnf)
      refine cI (within_c x.i 0 9) [] Tryd.call34 ?_
      repeat' (first | exact rfl | ((conv => whnf); first | refine condP_mk (fun h => ?_) (fun h => ?_) | refine Ob.mk ?_ ?_ | refine Both.mk ?_ ?_))
      · refine Back.is ?_
        simp only [Bool.not_eq_true'] at h
        simp only [eqV, eqA, eqC, hj2, a2, arcIn, h]
        rfl
      simp only [Bool.not_eq_false'] at h
      have a3 := h
      clear h
      (conv => whnf)
      refine cI (within_c x.o 0 9) [] Tryd.call34 ?_
      repeat' (first | exact rfl | ((conv => whnf); first | refine condP_mk (fun h => ?_) (fun h => ?_) | refine Ob.mk ?_ ?_ | refine Both.mk ?_ ?_))
      · refine Back.is ?_
        simp only [Bool.not_eq_true'] at h
        simp only [eqV, eqA, eqC, hj2, a2, arcIn, a3, h]
        rfl
      simp only [Bool.not_eq_false'] at h
      have a4 := h
      clear h
      (conv => whnf)
      refine cI (within_c x.w 0 1000000000) [] Tryd.call34 ?_
      repeat' (first | exact rfl | ((conv => whnf); first | refine condP_mk (fun h => ?_) (fun h => ?_) | refine Ob.mk ?_ ?_ | refine Both.mk ?_ ?_))
      · refine Back.is ?_
        simp only [Bool.not_eq_true'] at h
        simp only [eqV, eqA, eqC, hj2, a2, arcIn, a3, a4, h]
        rfl
      simp only [Bool.not_eq_false'] at h
      have a5 : arcIn x = true := by simp only [arcIn, a3, a4, h]; rfl
      clear h
      (conv => whnf)
      refine dR ?_
      repeat' (first | exact rfl | ((conv => whnf); first | refine condP_mk (fun h => ?_) (fun h => ?_) | refine Ob.mk ?_ ?_ | refine Both.mk ?_ ?_))
      · unfold InI; omega
      · simp only [decide_eq_true_eq, gt_iff_lt] at h; omega
      · simp only [decide_eq_true_eq, gt_iff_lt] at h; omega
      · simp only [decide_eq_true_eq, gt_iff_lt] at h
        have hj0 : j ≠ 0 := by omega
        clear h
        have e : 0 + ((j : Int) - 1).toNat = j - 1 := by omega
        (conv => whnf)
        simp only [e, Nat.zero_add, Int.toNat_natCast]
        simp only [if_neg hj0] at hj2
        generalize hy : F.arcs.getD (j - 1) EK.arc.dflt = y at hj2 ⊢
        refine cI (order_c y x) [] Tryd.call37 ?_
        repeat' (first | exact rfl | ((conv => whnf); first | refine condP_mk (fun h => ?_) (fun h => ?_) | refine Ob.mk ?_ ?_ | refine Both.mk ?_ ?_))
        · refine Back.is ?_
          rw [orderI_ahead] at h
          simp only [eqV, eqA, eqC, hj2, a2, a5, h]
          rfl
        · unfold InI; omega
        · rw [orderI_ahead] at h
          simp only [Bool.not_eq_false'] at h
          (conv => whnf)
          refine ⟨j + 1, [], ⟨by rfl, ?_, ?_⟩, ⟨hj, ?_⟩, by omega⟩
          · simp
          · simp
          · simp only [a2, a5, h, Bool.not_true, Bool.false_eq_true, if_false] at hj2
            rw [if_neg (Nat.succ_ne_zero j), Nat.add_sub_cancel, hx]
            exact hj2
      · unfold InI; omega
      · simp only [decide_eq_false_iff_not, gt_iff_lt] at h
        have hj0 : j = 0 := by omega
        simp only [if_pos hj0] at hj2
        (conv => whnf)
        refine ⟨j + 1, [], ⟨by rfl, ?_, ?_⟩, ⟨hj, ?_⟩, by omega⟩
        · simp
        · simp
        · simp only [a2, a5, Bool.not_true, Bool.false_eq_true, if_false] at hj2
          rw [if_neg (Nat.succ_ne_zero j), Nat.add_sub_cancel, hx]
          exact hj2
    · refine Back.is ?_
      simp only [decide_eq_false_iff_not] at h
      rw [List.drop_eq_nil_of_le (by omega), arcsE_nil] at hj2
      simp only [eqV, eqA, eqC, hj2]
end Go.Fw

namespace Go.Fw
open Go Go.Proofs

/-- The answer: a slice of its own, numbered m. -/
def Sl (m E : Nat) (k : EK) (xs : List k.ty) (v : SV) (s : S) : Prop := ∃ sp, v = .c (.sl m k.sz 0 xs.length (xs.length + sp)) ∧ s = ⟨[], [(m, .arr true E k xs sp)], m + 1⟩

end Go.Fw

namespace Go.Fw
open Go Go.Proofs

end Go.Fw

namespace Go.Fw
open Go Go.Proofs

end Go.Fw

namespace Go.Fw
open Go Go.Proofs

set_option maxHeartbeats 2000000 in
set_option maxRecDepth 20000 in
theorem sameInts_c (a b : List Int) (ca cb : Nat) (ha : a.length ≤ 9223372036854775807) (hl : b.length ≤ 9223372036854775807) :
    Ct Tryd.prog 45 [.c (.sl 0 1 0 a.length ca), .c (.sl 1 1 0 b.length cb)] [] [(0, .arr false 3 .int a 0), (1, .arr false 3 .int b 0)] 2 (Is 2 (.b (decide (a = b)))) := by
  refine ctW Tryd.tyOk 6 [] Tryd.func45 rfl (by simp) (by simp) (fr := [(0, .c (.sl 0 1 0 a.length ca)), (1, .c (.sl 1 1 0 b.length cb))]) rfl ?_
  repeat' (first | exact rfl | ((conv => whnf); first | refine condP_mk (fun h => ?_) (fun h => ?_) | refine Ob.mk ?_ ?_ | refine Both.mk ?_ ?_))
  · simp only [bne_iff_ne] at h
    have : a ≠ b := fun e => h (by rw [e])
    (conv => whnf)
    exact ⟨[], [], 2, .b (decide (a = b)), ⟨by rfl, trivial, trivial⟩, by simp [this], rfl, rfl⟩
  simp only [bne_eq_false_iff_eq] at h
  have hab : a.length = b.length := by omega
  clear h
  (conv => whnf)
  refine loopI (fun k : Nat => ⟨[(0, .c (.sl 0 1 0 a.length ca)), (1, .c (.sl 1 1 0 b.length cb)), (4, .b false), (5, .i k)], [(0, .arr false 3 .int a 0), (1, .arr false 3 .int b 0)], 2⟩) (fun k => k ≤ a.length ∧ ∀ j, j < k → a.getD j 0 = b.getD j 0) (fun k => a.length - k) 0 [] ⟨by rfl, ?_, ?_⟩ (by simp) ?_
  · simp
  · simp
  · intro k ⟨hk1, hk2⟩
    repeat' (first | exact rfl | ((conv => whnf); first | refine condP_mk (fun h => ?_) (fun h => ?_) | refine Ob.mk ?_ ?_ | refine Both.mk ?_ ?_))
    refine dR ?_
    repeat' (first | exact rfl | ((conv => whnf); first | refine condP_mk (fun h => ?_) (fun h => ?_) | refine Ob.mk ?_ ?_ | refine Both.mk ?_ ?_))
    · simp only [decide_eq_true_eq] at h; omega
    · simp only [decide_eq_true_eq] at h; omega
    · simp only [decide_eq_true_eq] at h; omega
    · simp only [decide_eq_true_eq] at h; omega
    · rename_i hk
      simp only [decide_eq_true_eq, bne_iff_ne, Nat.zero_add, Int.toNat_natCast, EK.dflt] at h hk
      have : a ≠ b := fun e => h (by rw [e])
      (conv => whnf)
      exact ⟨[], [], 2, .b (decide (a = b)), ⟨by rfl, trivial, trivial⟩, by simp [this], rfl, rfl⟩
    · rename_i hk
      simp only [decide_eq_true_eq] at hk
      unfold InI; omega
    · rename_i hk
      simp only [decide_eq_true_eq, bne_eq_false_iff_eq, Nat.zero_add, Int.toNat_natCast, EK.dflt] at h hk
      (conv => whnf)
      refine ⟨k + 1, [], ⟨by rfl, ?_, ?_⟩, ⟨by omega, fun j hj => ?_⟩, by omega⟩
      · simp
      · simp
      · exact if e : j = k then e ▸ h else hk2 j (by omega)
    · simp only [decide_eq_false_iff_not] at h
      have : a = b := sameTake a b hab fun j hj => hk2 j (by omega)
      (conv => whnf)
      exact ⟨[], [], 2, .b (decide (a = b)), ⟨by rfl, trivial, trivial⟩, by simp [this], rfl, rfl⟩
end Go.Fw

namespace Go.Fw
open Go Go.Proofs

def oneV (i j : Nat) : SV := .a (.agg [.i 2, .i 0, .sl i 1 0 2 2, .sl j 5 0 1 1])

theorem one_c : Ct Tryd.prog 23 [] [] [] 0 (fun v s => v = oneV 0 1 ∧ s = ⟨[], [(0, .arr true 3 .int [-1, 1] 0), (1, .arr true 35 .arc [⟨0, 1, 2, 1, 5⟩] 0)], 2⟩) := by
  refine ctW Tryd.tyOk 1 [] Tryd.func23 rfl (by simp) (by simp) (fr := []) rfl ?_
  repeat' (first | exact rfl | ((conv => whnf); first | refine condP_mk (fun h => ?_) (fun h => ?_) | refine Ob.mk ?_ ?_ | refine Both.mk ?_ ?_))
  (conv => whnf)
  exact ⟨[(0, some 1), (1, some 2)], [(0, .arr true 3 .int [-1, 1] 0), (1, .arr true 35 .arc [⟨0, 1, 2, 1, 5⟩] 0)], 2, oneV 0 1, ⟨by rfl, trivial, by simp⟩, by simp [oneV], rfl, rfl⟩

/-- A transducer's two slices, wherever. -/
abbrev hpO (F : TF) (oa ob : Bool) (sa sb : Nat) : List (Nat × SO) := [(0, .arr oa 3 .int F.fin sa), (1, .arr ob 35 .arc F.arcs sb)]

end Go.Fw
