/-
  The library's functions on texts, by the shelf's contracts; the variables of the program that they read lie in an object of their own.
-/
import Derived.Test.YtdijmfdanbnppaaDoorS06
import Derived.Test.YtdijmfdanbnppaaDoorS05
import Derived.HandedShaped
import Derived.Shelf.Vars
import Derived.LaidLaws
import Derived.Handed
import Derived.Test.YtdijmfdanbnppaaDoorTie
import Derived.Test.YtdijmfdanbnppaaDoorCards
import Derived.LaidMore
import Derived.LaidHandle
import Derived.MakeChecks
import Derived.Lib.LaidTab
import Derived.OpenShut
import Derived.SevenTiedAt
import Derived.Lay
import Derived.Shelf.Bits.Mul64

set_option linter.unusedSimpArgs false
set_option linter.unusedVariables false

namespace Go.Fw
open Go Go.Proofs

structure Glo where
  x0 : Obj
  x1 : Obj
  x4 : Obj
  x5 : Obj

/-- The variables' blocks. -/
abbrev gloO (g : Glo) : SO := .gen fun _ fp w => (fp 1 ∧ fp 4 ∧ fp 5) ∧ w.heap[0]? = some g.x0 ∧ w.heap[1]? = some g.x1 ∧ w.heap[4]? = some g.x4 ∧ w.heap[5]? = some g.x5

def TabX (x : Obj) : Prop := match x with
  | .cells cs _ _ => cs = (Lib.pow10Tab.map fun z => Value.int .u64 z).toArray
  | _ => False
def ErrX (x : Obj) : Prop := ∃ ev cs t f, x = .cells cs t f ∧ cs[0]? = some ev ∧ (ev = .nilIface ∨ ∃ te pe, ev = .iface te pe)

structure GloX (g : Glo) : Prop where
  max : ∃ m cs t f, g.x0 = .cells cs t f ∧ cs[0]? = some (Value.int .i64 m)
  tab : TabX g.x1
  e4 : ErrX g.x4
  e5 : ErrX g.x5

theorem tab_glob : Tryd.prog.globalNamed "internal/strconv.uint64pow10" = some 1 := by kernel_rfl

theorem tab_is {x : Obj} (hx : TabX x) {w : World} (h : w.heap[1]? = some x) : Lib.TabIs Tryd.prog w "internal/strconv.uint64pow10" .u64 Lib.pow10Tab := by
  unfold Lib.TabIs World.var?
  rw [tab_glob]
  simp only [Option.bind_some, h]
  cases x <;> simp only [TabX] at hx
  subst hx
  rfl

/-- A text's value. -/
abbrev stC (l : List UInt8) : SC := .v (.string (bs l))
abbrev stV (l : List UInt8) : SV := .c (stC l)

theorem kept_drew (w : World) (n : Nat) : Kept w (w.drewN n) := ⟨rfl, rfl, rfl, by simp [World.drewN], fun b hb => by simp [World.drewN]⟩

theorem itoa_c (g : Glo) (hg : GloX g) (n : Int) (h0 : -9223372036854775808 ≤ n) (h1 : n ≤ 9223372036854775807) :
    Ct Tryd.prog 27 [.i n] [] [(0, gloO g)] 1 (fun v s => v = stV (Lib.itoa n) ∧ s = ⟨[], [(0, gloO g)], 1⟩) := by
  intro β Z fp w hs
  have hobj := (hs.obj 0 _ rfl).1
  have key : Calls Tryd.prog 27 #[.int .i64 n] w _ := Any.strconv_Itoa itoaLays n h0 h1 w (tab_is hg.tab hobj.2.2.1)
  refine key.mono ?_
  rintro e w' ⟨rfl, k, os, rfl⟩
  have hk : Kept w (Sort.grow (w.drewN k) os) := ⟨rfl, rfl, rfl, by simp [Sort.grow, World.drewN], fun b hb => by simp [Sort.grow, World.drewN, Array.getElem?_append_left hb]⟩
  exact ⟨stV (Lib.itoa n), β, Z, fp, ⟨[], [(0, gloO g)], 1⟩, rfl, Nxt.kept hs hk (by simp [stV, SV.lt, SA.lt, SC.lt, Value.oneCell']), rfl, rfl⟩

theorem cut_c (g : Glo) (hg : GloX g) (l : List UInt8) (c : UInt8) (hl : l.length ≤ 1000000) :
    Ct Tryd.prog 38 [stV l, stV [c]] [] [(0, gloO g)] 1 (fun v s => v = .tup [.c (stC (cutL c l).1), .c (stC (cutL c l).2.1), .c (.b (cutL c l).2.2)] ∧ s = ⟨[], [(0, gloO g)], 1⟩) := by
  intro β Z fp w hs
  have hobj := (hs.obj 0 _ rfl).1
  obtain ⟨m, cs, t, f, hx, hm⟩ := hg.max
  have hc : w.cell? ⟨0, 0, none⟩ = some (.int .i64 m) := by
    unfold World.cell?
    rw [hobj.2.1, hx]
    exact hm
  have key : Calls Tryd.prog 38 #[.string (bs l), .string (bs [c])] w _ := Any.strings_Cut cutLays (bs l) (bs [c]) m w (by rw [bs_size]; omega) hc
  refine key.mono ?_
  rintro e w' ⟨rfl, n, rfl⟩
  rw [bs_data, bs_data, cut_eq]
  exact ⟨_, β, Z, fp, ⟨[], [(0, gloO g)], 1⟩, rfl, Nxt.kept hs (kept_drew w n) (by simp [stC, SV.lt, SA.lt, SC.lt, Value.oneCell']), rfl, rfl⟩

theorem HSat.cons_perm {β : Env} {Z : Nat → Prop} {fp : Nat → Nat → Prop} {hp hp' : List (Nat × SO)} {n : Nat} {W : World} (h : HSat β Z fp ⟨[], hp, n⟩ W) (hl : ∀ id, look hp' id = look hp id) : HSat β Z fp ⟨[], hp', n⟩ W :=
  ⟨h.zlt', fun id o e => h.flt id o (by rw [← hl]; exact e), fun i j o o' e e' => h.sep i j o o' (by rw [← hl]; exact e) (by rw [← hl]; exact e'), fun id o e => h.obj id o (by rw [← hl]; exact e), fun id o e => h.lto id o (by rw [← hl]; exact e)⟩

theorem flat_str (l : List ByteArray) : flat .str l = l.map Value.string := by
  induction l with
  | nil => rfl
  | cons a l ih =>
    rw [List.map_cons, ← ih]
    rfl

theorem alloc_oldB (w : World) (o : Obj) {b : Nat} (hb : b < w.heap.size) : (w.alloc o).heap[b]? = w.heap[b]? := by
  show (w.heap.push o)[b]? = w.heap[b]?
  rw [Array.getElem?_push, if_neg (Nat.ne_of_lt hb)]
theorem alloc_newB (w : World) (o : Obj) : (w.alloc o).heap[w.heap.size]? = some o := by
  show (w.heap.push o)[w.heap.size]? = some o
  simp

theorem split_c (g : Glo) (hg : GloX g) (l : List UInt8) (c : UInt8) (hl : l.length ≤ 1000000) :
    Ct Tryd.prog 39 [stV l, stV [c]] [] [(0, gloO g)] 1 (fun v s => v = .c (.sl 1 1 0 (spl c l).length (spl c l).length) ∧ s = ⟨[], [(0, gloO g), (1, .arr true 9 .str ((spl c l).map bs) 0)], 2⟩) := by
  intro β Z fp w hs
  have hobj := (hs.obj 0 _ rfl).1
  obtain ⟨m, cs, t, f, hx, hm⟩ := hg.max
  have hc : w.cell? ⟨0, 0, none⟩ = some (.int .i64 m) := by
    unfold World.cell?
    rw [hobj.2.1, hx]
    exact hm
  have key : Calls Tryd.prog 39 #[.string (bs l), .string (bs [c])] w _ := Any.strings_Split splitLays (by kernel_rfl) (bs l) (bs [c]) m w (by rw [bs_size]; omega) hc (by rw [bs_size]; exact Nat.le_refl _)
  refine key.mono ?_
  rintro e w' ⟨rfl, rfl⟩
  rw [split_eq]
  have hn : Lib.countB (bs l) (bs [c]) + 1 = (spl c l).length := by
    have := Lib.splitB_all (bs [c]) (by rw [bs_size]; exact Nat.le_refl _) 0 _ (bs l) rfl
    rw [split_eq, List.length_map] at this
    exact this.symm
  rw [hn, ← flat_str]
  have hk : Kept w (w.alloc (.cells (flat .str ((spl c l).map bs)).toArray 9)) := ⟨rfl, rfl, rfl, by simp, fun b hb => alloc_oldB w _ hb⟩
  have hs2 := hs.add (o := .arr true 9 .str ((spl c l).map bs) 0) (x := some ⟨w.heap.size, 0, none⟩) (q := fun b' => b' = w.heap.size) (fun b hb => hk.block b hb) hk.size (fun b hb => ⟨by rw [hb]; exact Nat.le_refl _, by rw [hb]; simp⟩)
    ⟨rfl, rfl, [], [], by rw [List.nil_append, List.append_nil]; exact alloc_newB w _, rfl, Nat.zero_le _⟩ trivial
  have hs3 := hs2.cons_perm (hp' := [(0, gloO g), (1, .arr true 9 .str ((spl c l).map bs) 0)]) (fun id => by
    simp only [look_cons]
    by_cases e0 : 0 = id
    · subst e0; simp
    · by_cases e1 : 1 = id
      · subst e1; simp
      · simp [e0, e1, look])
  exact ⟨.c (.sl 1 1 0 (spl c l).length (spl c l).length), β.add 1 (some ⟨w.heap.size, 0, none⟩), Z, _, ⟨[], [(0, gloO g), (1, .arr true 9 .str ((spl c l).map bs) 0)], 2⟩, by simp [SV.den, SA.den, SC.den, Env.add_at, Addr.add_lit],
    ⟨Env.add_lt, hk.mono hs.zlt, fun _ h => h, rfl, Nat.le_succ _, hs3, (show 1 < 2 by omega)⟩, rfl, rfl⟩

/-- What strconv.Atoi answers. -/
def AtoiIs (l : List UInt8) (n : Int) (e : Value) : Prop := (Lib.atoiAll l = .ok n ∧ e = .nilIface) ∨ ((∀ m, Lib.atoiAll l ≠ .ok m) ∧ ∃ t a, e = .iface t (.pointer a))

theorem kept_freeze {w w' : World} (h : Kept w w') {p : Addr} (hp : w.heap.size ≤ p.block) (n : Nat) : Kept w (w'.freeze p n) := by
  have := Lib.below_freeze (a := w) (w := w') (B := w.heap.size) ⟨h.os, h.tape, h.output, h.size, fun k hk => h.block k hk⟩ hp n
  exact ⟨this.os, this.tape, this.output, this.size, fun b hb => this.block b hb⟩

theorem atoi_c (g : Glo) (hg : GloX g) (l : List UInt8) (hl : l.length ≤ 1000000) :
    Ct Tryd.prog 71 [stV l] [] [(0, gloO g)] 1 (fun v s => ∃ n e, v = .tup [.c (.i n), .c (.v e)] ∧ AtoiIs l n e ∧ s = ⟨[], [(0, gloO g)], 1⟩) := by
  intro β Z fp w hs
  have hobj := (hs.obj 0 _ rfl).1
  obtain ⟨e4, c4, t4, f4, hx4, hc4, he4⟩ := hg.e4
  obtain ⟨e5, c5, t5, f5, hx5, hc5, he5⟩ := hg.e5
  have h4 : w.cell? ⟨4, 0, none⟩ = some e4 := by
    unfold World.cell?
    rw [hobj.2.2.2.1, hx4]
    exact hc4
  have h5 : w.cell? ⟨5, 0, none⟩ = some e5 := by
    unfold World.cell?
    rw [hobj.2.2.2.2, hx5]
    exact hc5
  have fin : ∀ (w' : World) (n : Int) (e : Value), Kept w w' → AtoiIs l n e → e.oneCell' = true → ∃ (v : SV) (β' : Env) (Z' : Nat → Prop) (fp' : Nat → Nat → Prop) (s' : S), Ending.returned (.tuple #[.int .i64 n, e]) = .returned (SV.den β' v) ∧ Nxt β Z ⟨[], [(0, gloO g)], 1⟩ w v w' β' Z' fp' ⟨[], s'.hp, s'.nx⟩ ∧ ∃ n e, v = .tup [.c (.i n), .c (.v e)] ∧ AtoiIs l n e ∧ s' = ⟨[], [(0, gloO g)], 1⟩ :=
    fun w' n e hk hi ho => ⟨.tup [.c (.i n), .c (.v e)], β, Z, fp, ⟨[], [(0, gloO g)], 1⟩, rfl, Nxt.kept hs hk (v := .tup [.c (.i n), .c (.v e)]) (by simp [SV.lt, SA.lt, SC.lt, ho]), n, e, rfl, hi, rfl⟩
  rcases hr : Lib.atoiAll l with n | _ | _
  · have key : Calls Tryd.prog 71 #[.string (bs l)] w _ := Any.strconv_Atoi_ok atoiLays (bs l) (by rw [bs_size]; omega) n (by rw [bs_data]; exact hr) w
    refine key.mono ?_
    rintro e w' ⟨rfl, hw⟩
    refine fin w' n .nilIface ?_ (.inl ⟨hr, rfl⟩) rfl
    rcases hw with rfl | ⟨t, rfl⟩
    · exact Ext.refl _ _
    · refine kept_freeze ?_ (Nat.le_refl _) 1
      exact ⟨rfl, rfl, rfl, by simp, fun b hb => alloc_oldB _ _ hb⟩
  · have key : Calls Tryd.prog 71 #[.string (bs l)] w _ := Any.strconv_Atoi_syntax atoiLays (bs l) (by rw [bs_size]; omega) (by rw [bs_data]; exact hr) e4 w h4 he4
    refine key.mono ?_
    rintro e w' ⟨N, rfl, _, _, hb⟩
    exact fin w' 0 _ ⟨hb.os, hb.tape, hb.output, hb.size, fun b h => hb.block b h⟩ (.inr ⟨fun m h => (by rw [hr] at h; cases h), _, _, rfl⟩) rfl
  · have key : Calls Tryd.prog 71 #[.string (bs l)] w _ := Any.strconv_Atoi_range atoiLays (bs l) (by rw [bs_size]; omega) (by rw [bs_data]; exact hr) e5 w h5 he5
    refine key.mono ?_
    rintro e w' ⟨N, rfl, _, _, hb⟩
    exact fin w' _ _ ⟨hb.os, hb.tape, hb.output, hb.size, fun b h => hb.block b h⟩ (.inr ⟨fun m h => (by rw [hr] at h; cases h), _, _, rfl⟩) rfl
end Go.Fw

/-
  What is handed in, with the library's variables in blocks of their own.
-/
namespace Go.Fw
open Go Go.Proofs Go.ChangeShapes Go.WideShapes Go.ChangeAt Go.RowKit Go.Deep Go.Joins

/-- The variables' blocks in a world. -/
structure GloW (g : Glo) (W : World) : Prop where
  x : GloX g
  h0 : W.heap[0]? = some g.x0
  h1 : W.heap[1]? = some g.x1
  h4 : W.heap[4]? = some g.x4
  h5 : W.heap[5]? = some g.x5
  s4 : ∃ u v t f, g.x4 = .cells #[.iface u v] t f
  s5 : ∃ u v t f, g.x5 = .cells #[.iface u v] t f

/-- No integer of the arguments' kind lies in the blocks 1, 4, 5. -/
theorem GloW.noint {g : Glo} {W : World} (h : GloW g W) {b o : Nat} (hb : b = 1 ∨ b = 4 ∨ b = 5) {n : Int} : W.cell? ⟨b, o, none⟩ ≠ some (.int .i64 n) := by
  intro hc
  unfold World.cell? at hc
  rcases hb with rfl | rfl | rfl
  · have ht := h.x.tab
    have h1 := h.h1
    generalize g.x1 = x at *
    cases x <;> simp only [TabX] at ht
    subst ht
    simp [h1] at hc
  · obtain ⟨u, v, t, f, e⟩ := h.s4
    have h1 := h.h4
    rw [e] at h1
    simp [h1] at hc
    cases o with
    | zero => simp at hc
    | succ o => simp at hc
  · obtain ⟨u, v, t, f, e⟩ := h.s5
    have h1 := h.h5
    rw [e] at h1
    simp [h1] at hc
    cases o with
    | zero => simp at hc
    | succ o => simp at hc

theorem Lent.offG {W : World} {oa : Option Addr} {k : EK} {xs : List k.ty} {g : Glo} (h : Lent W oa k xs) (hg : GloW g W) (hk : ∀ e : k.ty, ∃ n, (k.cells e)[0]? = some (.int .i64 n)) : ∀ a, oa = some a → xs ≠ [] → ¬ (a.block = 1 ∨ a.block = 4 ∨ a.block = 5) := by
  intro a ha hne
  subst ha
  obtain ⟨h1, h2, h3⟩ := h hne
  intro h0
  cases xs with
  | nil => exact hne rfl
  | cons e l =>
    obtain ⟨n, hn⟩ := hk e
    have h4 := h3 0 (.int .i64 n) (by
      show (flat k (e :: l))[0]? = _
      have : 0 < (k.cells e).length := (List.getElem?_eq_some_iff.1 hn).1
      show ((e :: l).flatMap k.cells)[0]? = _
      rw [List.flatMap_cons, List.getElem?_append_left this]
      exact hn)
    obtain ⟨b, o, sp⟩ := a
    simp only at h0 h1
    subst h1
    have e0 : (⟨b, o, none⟩ : Addr).add 0 = ⟨b, o, none⟩ := by simp [Addr.add]
    rw [e0] at h4
    exact hg.noint h0 h4

/-- The zone: all but those blocks. -/
def ZG (W : World) (b : Nat) : Prop := b < W.heap.size ∧ ¬ (b = 1 ∨ b = 4 ∨ b = 5)

theorem lentSatG {W : World} {hp : List (Nat × SO)} {n : Nat} (β : Env) {g : Glo} (hg : GloW g W) (h : ∀ id o, look hp id = some o → id < n ∧ ∃ (E : Nat) (k : EK) (xs : List k.ty), o = .arr false E k xs 0 ∧ Lent W (β id) k xs ∧ ∀ e : k.ty, ∃ n, (k.cells e)[0]? = some (.int .i64 n)) :
    HSat β (ZG W) (fun id b => id = n ∧ (b = 1 ∨ b = 4 ∨ b = 5)) ⟨[], (n, gloO g) :: hp, n + 1⟩ W := by
  have k0 := (Array.getElem?_eq_some_iff.1 hg.h0).1
  have k1 := (Array.getElem?_eq_some_iff.1 hg.h1).1
  have k4 := (Array.getElem?_eq_some_iff.1 hg.h4).1
  have k5 := (Array.getElem?_eq_some_iff.1 hg.h5).1
  have hlk : ∀ id o, look ((n, gloO g) :: hp) id = some o → (id = n ∧ o = gloO g) ∨ (id ≠ n ∧ look hp id = some o) := by
    intro id o hl
    rw [look_cons] at hl
    split at hl
    · rename_i e; cases hl; exact .inl ⟨e.symm, rfl⟩
    · rename_i e; exact .inr ⟨fun c => e c.symm, hl⟩
  refine ⟨⟨⟨k0, by omega⟩, fun b hb => hb.1⟩, fun id o hl b hb => ⟨by rcases hb.2 with rfl | rfl | rfl <;> assumption, fun c => c.2 hb.2⟩, fun id id' _ _ _ _ hne b hb hb' => hne (hb.1.trans hb'.1.symm), fun id o hl => ?_, fun id o hl => ?_⟩
  · rcases hlk id o hl with ⟨rfl, rfl⟩ | ⟨hne, hl⟩
    · refine ⟨⟨⟨⟨rfl, .inl rfl⟩, ⟨rfl, .inr (.inl rfl)⟩, ⟨rfl, .inr (.inr rfl)⟩⟩, hg.h0, hg.h1, hg.h4, hg.h5⟩, fun w' hw' hw0 => ⟨⟨⟨rfl, .inl rfl⟩, ⟨rfl, .inr (.inl rfl)⟩, ⟨rfl, .inr (.inr rfl)⟩⟩, by rw [hw0]; exact hg.h0, ?_, ?_, ?_⟩⟩
      · rw [hw' 1 ⟨rfl, .inl rfl⟩]; exact hg.h1
      · rw [hw' 4 ⟨rfl, .inr (.inl rfl)⟩]; exact hg.h4
      · rw [hw' 5 ⟨rfl, .inr (.inr rfl)⟩]; exact hg.h5
    · obtain ⟨_, E, k, xs, rfl, hxl, hk⟩ := h id o hl
      have hoff := hxl.offG hg hk
      show SO.ok β _ _ W (β id) _
      unfold Lent at hxl
      cases hb : β id with
      | none => rw [hb] at hxl; exact ⟨hxl, rfl⟩
      | some a =>
        rw [hb] at hxl
        intro hne
        obtain ⟨h1, h2, h3⟩ := hxl hne
        exact ⟨h1, ⟨h2, hoff a hb hne⟩, h2, h3⟩
  · rcases hlk id o hl with ⟨rfl, rfl⟩ | ⟨hne, hl⟩
    · exact ⟨Nat.lt_succ_self _, trivial⟩
    · obtain ⟨h1, E, k, xs, rfl, _⟩ := h id o hl
      exact ⟨Nat.lt_succ_of_lt h1, trivial⟩

theorem int_cell (e : EK.int.ty) : ∃ n, (EK.int.cells e)[0]? = some (.int .i64 n) := ⟨e, rfl⟩
theorem arc_cell (e : EK.arc.ty) : ∃ n, (EK.arc.cells e)[0]? = some (.int .i64 n) := ⟨Arc.f e, rfl⟩

/-- A call with what is handed in and the variables. -/
theorem glo_call {W : World} {g : Glo} (hg : GloW g W) {hp : List (Nat × SO)} {n : Nat} (β : Env) (hl : ∀ id o, look hp id = some o → id < n ∧ ∃ (E : Nat) (k : EK) (xs : List k.ty), o = .arr false E k xs 0 ∧ Lent W (β id) k xs ∧ ∀ e : k.ty, ∃ n, (k.cells e)[0]? = some (.int .i64 n))
    {hp' : List (Nat × SO)} (hperm : ∀ id, look hp' id = look ((n, gloO g) :: hp) id) {f : Nat} {avs : List SV} {args : Array Value} (ha : (avs.map (SV.den β) ++ ([] : List Value)).toArray = args)
    (hc : Ct Tryd.prog f avs [] hp' (n + 1) (fun v s => v = .b true ∧ s = ⟨[], [(n, gloO g)], n + 1⟩)) :
    Calls Tryd.prog f args W fun e W' => e = .returned (.bool true) ∧ Below W.heap.size W W' := by
  have hs := (lentSatG (W := W) β hg hl).cons_perm hperm
  have key := hc _ _ _ W hs
  rw [ha] at key
  refine key.mono ?_
  rintro e W' ⟨v', β', Z', fp', s', rfl, hn, rfl, rfl⟩
  have ho := (hn.sat.obj n (gloO g) (by simp [look_cons])).1.2
  refine ⟨rfl, hn.ext.os, hn.ext.tape, hn.ext.output, hn.ext.size, fun k hk => ?_⟩
  by_cases e : k = 1 ∨ k = 4 ∨ k = 5
  · rcases e with rfl | rfl | rfl
    · rw [ho.2.1, hg.h1]
    · rw [ho.2.2.1, hg.h4]
    · rw [ho.2.2.2, hg.h5]
  · exact hn.ext.block k ⟨hk, e⟩

theorem hid (o : Option Addr) : o.map (fun x => x.add 0) = o := by cases o <;> simp [add_zero]

/-- The plain wrap, with the world's shape and what is laid. -/
theorem handed_both {H : Type} {enc : TypeId × Value → H} {a : Assume} {C : Checked} {os : Os} {f : FuncId} {fn : Func} {s : ChangeSpec} {conds : List PathCond} {apart fresh handsOn again : Bool} {X : World → Array Value → Prop}
    (hX : ∀ (w w' : World) (args : Array Value), w.heap = w'.heap → X w args → X w' args)
    (own : ownKnob C.prog.godebug = none) (started : os.Started) (noInit : C.prog.inits.idxOf? f = none) (hfn : C.prog.funcs[f]? = some fn)
    (witness : ∃ (w : World) (tape : Tape) (i : Input), w.os = os ∧ (w.forCall tape i).Shaped C.prog ∧ i.vars = [] ∧ Input.okWide C.prog (w.forCall tape i) .any w.heap.size f i ∧
      ((s.pre enc C.prog fn conds apart (w.forCall tape i).memory i.args ∧ X (w.forCall tape i).memory i.args) ∧ sizedMet enc C.prog fn (OpenSpec.ofChange s) apart (w.forCall tape i).memory i.args) ∧ a.holds C.prog (lone (Frame.enter C.prog f i.args .normal) [] (w.forCall tape i)))
    (contract : ∀ (W : World) (base : Nat) (args : Array Value) (ds gs : List (DataW H)) (before : List MemPlace),
      (∀ (j : Nat) t v, fn.params[j]? = some t → args[j]? = some v → Value.okWide C.prog W .any base t v) →
      DataW.Whole enc C.prog fn.params.toList s.vars apart W args.toList ds gs before →
      W.ShapedOpen C.prog → X W args →
      Calls C.prog f args W fun e W' => ∃ v, e = .returned v ∧ s.post enc C.prog fn apart fresh handsOn again W args v W') :
    ReturnsInHanded a C os f .any (fun w args => (s.pre enc C.prog fn conds apart w args ∧ X w args) ∧ sizedMet enc C.prog fn (OpenSpec.ofChange s) apart w args) (s.post enc C.prog fn apart fresh handsOn again) := by
  refine returnsInHanded_of_calls own started noInit witness ?_
  intro w tape i _ hsh _ hok hpre hholds
  obtain ⟨_, _, _, fn', hfn', _, _, _, _, hval⟩ := hok
  have e : fn' = fn := Option.some.inj (hfn'.symm.trans hfn)
  subst e
  obtain ⟨⟨⟨ds, gs, before, hw, hc⟩, hx⟩, hz⟩ := hpre
  have hw' := DataW.Whole.of_heap (w' := w.forCall tape i) (by rfl) hw
  refine (contract (w.forCall tape i) w.heap.size i.args ds gs before hval hw' hsh (hX _ _ _ (by rfl) hx)).mono fun e W' ⟨v, he, hp⟩ => ?_
  subst he
  exact ChangeSpec.post_blind hp
end Go.Fw

/-
  What the rows' list of variables gives.
-/
namespace Go.Proofs.YtdijmfdanbnppaaDoor
open Go Go.Fw Go.ChangeShapes Go.WideShapes Go.ChangeAt Go.RowKit

theorem Tryd.own : ownKnob Go.Proofs.Tryd.prog.godebug = none := by kernel_rfl
theorem Tryd.laidOut : laidOutB Go.Proofs.Tryd.prog = true := by kernel_rfl

/-- What is listed. -/
abbrev laid7 : List (String × DataW Unit) := [("math/bits.deBruijn32tab", Rows.laid_math_bits_deBruijn32tab), ("math/bits.deBruijn64tab", Rows.laid_math_bits_deBruijn64tab), ("internal/strconv.uint64pow10", Rows.laid_internal_strconv_uint64pow10), ("unicode/utf8.acceptRanges", Rows.laid_unicode_utf8_acceptRanges), ("strconv.ErrRange", Rows.laid_strconv_ErrRange), ("strconv.ErrSyntax", Rows.laid_strconv_ErrSyntax), ("unicode/utf8.first", Rows.laid_unicode_utf8_first)]

theorem tab_data : (Rows.laid_internal_strconv_uint64pow10 : DataW Unit) = Lib.tabData .u64 Lib.pow10Tab := by kernel_rfl
theorem tab_type : (Go.Proofs.Tryd.prog.globals[1]?).map (·.type) = some 138 := by kernel_rfl
theorem e4_glob : Go.Proofs.Tryd.prog.globalNamed "strconv.ErrSyntax" = some 4 := by kernel_rfl
theorem e4_type : (Go.Proofs.Tryd.prog.globals[4]?).map (·.type) = some 69 := by kernel_rfl
theorem e5_glob : Go.Proofs.Tryd.prog.globalNamed "strconv.ErrRange" = some 5 := by kernel_rfl
theorem e5_type : (Go.Proofs.Tryd.prog.globals[5]?).map (·.type) = some 69 := by kernel_rfl

theorem var_cells {W : World} {n : String} {k : Nat} {cs : Array Value} (hg : Go.Proofs.Tryd.prog.globalNamed n = some k) (hv : W.var? Go.Proofs.Tryd.prog n = some cs) : ∃ t f, W.heap[k]? = some (.cells cs t f) := by
  unfold World.var? at hv
  rw [hg] at hv
  simp only [Option.bind_some] at hv
  split at hv
  · rename_i c t f hh
    cases hv
    exact ⟨t, f, hh⟩
  · cases hv

set_option maxRecDepth 100000 in
theorem of_laid {W : World} (h : laidMetH Go.Proofs.Tryd.prog laid7 W) (hs : W.ShapedOpen Go.Proofs.Tryd.prog) : ∃ g, GloW g W := by
  rw [MakeChecks.laidMetH_plain _ _ _ (by kernel_rfl)] at h
  obtain ⟨ps, ⟨g0, t0, cs0, f0, p0, q0, hg0, ht0, hv0, hd0, ⟨g1, t1, cs1, f1, p1, q1, hg1, ht1, hv1, hd1, ⟨g2, t2, cs2, f2, p2, q2, hg2, ht2, hv2, hd2, ⟨g3, t3, cs3, f3, p3, q3, hg3, ht3, hv3, hd3, ⟨g4, t4, cs4, f4, p4, q4, hg4, ht4, hv4, hd4, ⟨g5, t5, cs5, f5, p5, q5, hg5, ht5, hv5, hd5, _, _⟩, _⟩, _⟩, _⟩, _⟩, _⟩, _⟩ := h
  obtain rfl := Option.some.inj (tab_glob.symm.trans hg2)
  obtain rfl := Option.some.inj (tab_type.symm.trans ht2)
  obtain rfl := Option.some.inj (e5_glob.symm.trans hg4)
  obtain rfl := Option.some.inj (e5_type.symm.trans ht4)
  obtain rfl := Option.some.inj (e4_glob.symm.trans hg5)
  obtain rfl := Option.some.inj (e4_type.symm.trans ht5)
  obtain ⟨_, u5, v5, k5, _⟩ := iface_of_trod Go.Proofs.Tryd.underlying69 hd4
  obtain ⟨_, u4, v4, k4, _⟩ := iface_of_trod Go.Proofs.Tryd.underlying69 hd5
  rw [tab_data] at hd2
  have hc := Lib.cells_of_tab Go.Proofs.Tryd.underlying138 Go.Proofs.Tryd.underlying120 (by kernel_rfl) (by kernel_rfl) hd2
  obtain ⟨a1, b1, hh1⟩ := var_cells hg2 hv2
  obtain ⟨a5, b5, hh5⟩ := var_cells hg4 hv4
  obtain ⟨a4, b4, hh4⟩ := var_cells hg5 hv5
  obtain ⟨m, hm⟩ := cell_of_shapedOpen_int (P := Go.Proofs.Tryd.prog) (g := 0) (t := 3) (zero := #[.int .i64 0]) hs (of_decide_eq_true (by kernel_rfl)) (by kernel_rfl) rfl (by kernel_rfl) (by kernel_rfl) Go.Proofs.Tryd.underlying3
  have hm2 : ∃ cs t f, W.heap[0]? = some (.cells cs t f) ∧ cs[0]? = some (Value.int .i64 m) := by
    unfold World.cell? at hm
    split at hm
    · rename_i c t f hh
      exact ⟨c, t, f, hh, hm⟩
    · cases hm
  obtain ⟨cm, tm, fm, hh0, hm0⟩ := hm2
  have e4 : cs5 = #[.iface u4 v4] := by rw [← Array.toList_inj]; exact k4
  have e5 : cs4 = #[.iface u5 v5] := by rw [← Array.toList_inj]; exact k5
  subst e4 e5
  refine ⟨⟨_, _, _, _⟩, ⟨⟨m, cm, tm, fm, rfl, hm0⟩, ?_, ⟨_, _, _, _, rfl, rfl, .inr ⟨_, _, rfl⟩⟩, ⟨_, _, _, _, rfl, rfl, .inr ⟨_, _, rfl⟩⟩⟩, hh0, hh1, hh4, hh5, ⟨_, _, _, _, rfl⟩, ⟨_, _, _, _, rfl⟩⟩
  show cs2 = _
  rw [← hc]

theorem door_met (os : Os) (args : Array Value) : laidMetH Go.Proofs.Tryd.prog laid7 ((World.laidAll Go.Proofs.Tryd.prog os laid7).forCall (fun _ _ => 0) ⟨#[], args, []⟩).memory := by
  rw [MakeChecks.laidMetH_plain _ _ _ (by kernel_rfl)]
  exact laidMet_laidAll _ (by kernel_rfl) (by kernel_rfl)
end Go.Proofs.YtdijmfdanbnppaaDoor

namespace Go.Fw
open Go Go.Proofs

def rhoM : Go.Shelf.Ren where
  f := fun n => if n = 212 then 72 else if n = 263 then 88 else if n = 264 then 89 else n
  t := fun n => if n = 46 then 113 else if n = 51 then 131 else if n = 53 then 120 else if n = 146 then 132 else if n = 148 then 134 else n
  g := fun n => n

set_option maxRecDepth 20000 in
theorem mulLays : Lays.n212 Tryd.prog rhoM where
  mixed := by kernel_rfl
  f212 := by kernel_rfl
  f263 := by kernel_rfl
  f264 := by kernel_rfl
  t46 := by kernel_rfl
  a46 := fun w => by kernel_rfl
  z46 := fun w => by kernel_rfl
  v46 := fun w => by kernel_rfl
  t51 := by kernel_rfl
  a51 := fun w => by kernel_rfl
  z51 := fun w => by kernel_rfl
  v51 := fun w => by kernel_rfl
  t53 := by kernel_rfl
  a53 := fun w => by kernel_rfl
  z53 := fun w => by kernel_rfl
  v53 := fun w => by kernel_rfl
  t146 := by kernel_rfl
  a146 := fun w => by kernel_rfl
  z146 := fun w => by kernel_rfl
  v146 := fun w => by kernel_rfl
  t148 := by kernel_rfl
  a148 := fun w => by kernel_rfl
  z148 := fun w => by kernel_rfl
  v148 := fun w => by kernel_rfl

theorem mul_c (x y : Nat) (hx : x < 18446744073709551616) (hy : y < 18446744073709551616) (h : x * y < 18446744073709551616) : Ct Tryd.prog 72 [.c (.u x), .c (.u y)] [] [] 0 (Is 0 (.tup [.c (.u 0), .c (.u (x * y : Nat))])) := by
  intro β Z fp w hs
  have key : Calls Tryd.prog 72 #[.int .u64 x, .int .u64 y] w _ := Any.bits_Mul mulLays x y hx hy w
  rw [Nat.div_eq_of_lt h, Nat.mod_eq_of_lt h] at key
  refine key.mono ?_
  rintro e w' ⟨rfl, rfl⟩
  exact ⟨.tup [.c (.u 0), .c (.u (x * y : Nat))], β, Z, fp, ⟨[], [], 0⟩, rfl, Nxt.refl hs (by simp [SV.lt, SA.lt, SC.lt]), rfl, rfl⟩

end Go.Fw

namespace Go.Fw
open Go Go.Proofs

end Go.Fw

namespace Go.Fw
open Go Go.Proofs

/-- What CheckFst keeps by it. -/
abbrev hpC (F : TF) : List (Nat × SO) := [(0, .arr false 3 .int F.fin 0), (1, .arr false 35 .arc F.arcs 0), (2, .box 25 [.i F.st, .i F.start, .sl 0 1 0 F.fin.length F.capF, .sl 1 5 0 F.arcs.length F.capA])]

end Go.Fw

namespace Go.Fw
open Go Go.Proofs

set_option maxHeartbeats 2000000 in
set_option maxRecDepth 20000 in
theorem indexFunc_c (l : List Int) (cap : Nat) (hl : l.length ≤ 9223372036854775807) (g : Nat) (p : Int → Bool) (hg : ∀ x, Ct Tryd.prog g [.i x] [] [] 0 (Is 0 (.b (p x)))) (hcf : ∀ args w, (callFunc g args).run Tryd.prog w = .ok (.enter g args) w) :
    Ct Tryd.prog 54 [.c (.sl 0 1 0 l.length cap), .c (.fn g [])] [] [(0, .arr false 3 .int l 0)] 1 (Is 1 (.i (idx p 0 l))) := by
  refine ctW Tryd.tyOk 6 [7, 8] Tryd.func54 rfl (by simp) (by simp) (fr := [(0, .c (.sl 0 1 0 l.length cap)), (1, .c (.fn g []))]) rfl ?_
  (conv => whnf)
  refine loopI (fun k : Nat => ⟨[(0, .c (.sl 0 1 0 l.length cap)), (1, .c (.fn g [])), (4, .i 0), (7, .i l.length), (8, .i k)], [(0, .arr false 3 .int l 0)], 1⟩) (fun k => k ≤ l.length ∧ idx p 0 l = idx p k (l.drop k)) (fun k => l.length - k) 0 [] ⟨by rfl, ?_, ?_⟩ (by simp) ?_
  · simp
  · simp
  · intro k ⟨hk1, hk2⟩
    repeat' (first | exact rfl | ((conv => whnf); first | refine condP_mk (fun h => ?_) (fun h => ?_) | refine Ob.mk ?_ ?_ | refine Both.mk ?_ ?_))
    · simp only [decide_eq_true_eq] at h; omega
    · simp only [decide_eq_true_eq] at h; omega
    · simp only [decide_eq_true_eq] at h
      have hk : k < l.length := by omega
      clear h
      (conv => whnf)
      simp only [Nat.zero_add, Int.toNat_natCast, EK.dflt]
      rw [idx_drop p l k 0 hk] at hk2
      refine callI (hg (l.getD k 0)) [] hcf rfl trivial (by simp) (by simp) ?_
      repeat' (first | exact rfl | ((conv => whnf); first | refine condP_mk (fun h => ?_) (fun h => ?_) | refine Ob.mk ?_ ?_ | refine Both.mk ?_ ?_))
      · refine Back.is ?_
        simp only [eqV, eqA, eqC, hk2, h, if_pos]
      · unfold InI; omega
      · (conv => whnf)
        simp only [h, Bool.false_eq_true, if_false] at hk2
        refine ⟨k + 1, [], ⟨by rfl, ?_, ?_⟩, ⟨hk, hk2⟩, by omega⟩
        · simp
        · simp
    · refine Back.is ?_
      simp only [decide_eq_false_iff_not] at h
      rw [List.drop_eq_nil_of_le (by omega), idx] at hk2
      simp only [eqV, eqA, eqC, hk2]

theorem containsFunc_c (l : List Int) (cap : Nat) (hl : l.length ≤ 9223372036854775807) (g : Nat) (p : Int → Bool) (hg : ∀ x, Ct Tryd.prog g [.i x] [] [] 0 (Is 0 (.b (p x)))) (hcf : ∀ args w, (callFunc g args).run Tryd.prog w = .ok (.enter g args) w) :
    Ct Tryd.prog 35 [.c (.sl 0 1 0 l.length cap), .c (.fn g [])] [] [(0, .arr false 3 .int l 0)] 1 (Is 1 (.b (l.any p))) := by
  refine ctW Tryd.tyOk 5 [] Tryd.func35 rfl (by simp) (by simp) (fr := [(0, .c (.sl 0 1 0 l.length cap)), (1, .c (.fn g []))]) rfl ?_
  (conv => whnf)
  refine callI (indexFunc_c l cap hl g p hg hcf) [0] Tryd.call54 rfl (by simp) (by simp) (by simp) ?_
  repeat' (first | exact rfl | ((conv => whnf); first | refine condP_mk (fun h => ?_) (fun h => ?_) | refine Ob.mk ?_ ?_ | refine Both.mk ?_ ?_))
  refine Back.is ?_
  simp only [eqV, eqA, eqC]
  exact (idx_any p l 0).symm

end Go.Fw

namespace Go.Fw
open Go Go.Proofs

set_option maxHeartbeats 2000000 in
set_option maxRecDepth 20000 in
theorem or_c (l : List Int) (cap : Nat) (hl : l.length ≤ 9223372036854775807) : Ct Tryd.prog 55 [.c (.sl 0 1 0 l.length cap)] [] [(0, .arr true 3 .int l 0)] 1 (Is 1 (.i (orI l))) := by
  refine ctW Tryd.tyOk 6 [6, 7, 8] Tryd.func55 rfl (by simp) (by simp) (fr := [(0, .c (.sl 0 1 0 l.length cap))]) rfl ?_
  (conv => whnf)
  refine loopI (fun k : Nat => ⟨[(2, .i 0), (3, .i 0), (6, .c (.sl 0 1 0 l.length cap)), (7, .i l.length), (8, .i k)], [(0, .arr true 3 .int l 0)], 1⟩) (fun k => k ≤ l.length ∧ orI l = orI (l.drop k)) (fun k => l.length - k) 0 [] ⟨by rfl, ?_, ?_⟩ (by simp) ?_
  · simp
  · simp
  · intro k ⟨hk1, hk2⟩
    repeat' (first | exact rfl | ((conv => whnf); first | refine condP_mk (fun h => ?_) (fun h => ?_) | refine Ob.mk ?_ ?_ | refine Both.mk ?_ ?_))
    · simp only [decide_eq_true_eq] at h; omega
    · simp only [decide_eq_true_eq] at h; omega
    · simp only [bne_iff_ne, Nat.zero_add, Int.toNat_natCast, EK.dflt] at h
      rename_i hk
      simp only [decide_eq_true_eq] at hk
      rw [orI_drop l k (by omega), if_pos h] at hk2
      refine Back.is ?_
      simp only [eqV, eqA, eqC, hk2, Nat.zero_add, Int.toNat_natCast, EK.dflt]
    · rename_i hk
      simp only [decide_eq_true_eq] at hk
      unfold InI; omega
    · simp only [bne_eq_false_iff_eq, Nat.zero_add, Int.toNat_natCast, EK.dflt] at h
      rename_i hk
      simp only [decide_eq_true_eq] at hk
      rw [orI_drop l k (by omega), if_neg (by rw [h]; simp)] at hk2
      (conv => whnf)
      refine ⟨k + 1, [], ⟨by rfl, ?_, ?_⟩, ⟨by omega, hk2⟩, by omega⟩
      · simp
      · simp
    · refine Back.is ?_
      simp only [decide_eq_false_iff_not] at h
      rw [List.drop_eq_nil_of_le (by omega), orI] at hk2
      simp only [eqV, eqA, eqC, hk2]

set_option maxHeartbeats 4000000 in
set_option maxRecDepth 20000 in
theorem order_c (a b : Arc) : Ct Tryd.prog 37 [arcV a, arcV b] [] [] 0 (Is 0 (.i (orderI a b))) := by
  refine ctW Tryd.tyOk 5 [] Tryd.func37 rfl (by simp) (by simp) (fr := [(0, arcV a), (1, arcV b)]) rfl ?_
  (conv => whnf)
  refine dR ?_
  (conv => whnf)
  refine cI (compare_c a.f b.f) [] Tryd.call56 ?_
  repeat' (first | exact rfl | ((conv => whnf); first | refine condP_mk (fun h => ?_) (fun h => ?_) | refine Ob.mk ?_ ?_ | refine Both.mk ?_ ?_))
  (conv => whnf)
  refine cI (compare_c a.i b.i) [] Tryd.call56 ?_
  repeat' (first | exact rfl | ((conv => whnf); first | refine condP_mk (fun h => ?_) (fun h => ?_) | refine Ob.mk ?_ ?_ | refine Both.mk ?_ ?_))
  (conv => whnf)
  refine cI (compare_c a.o b.o) [] Tryd.call56 ?_
  repeat' (first | exact rfl | ((conv => whnf); first | refine condP_mk (fun h => ?_) (fun h => ?_) | refine Ob.mk ?_ ?_ | refine Both.mk ?_ ?_))
  (conv => whnf)
  refine cI (compare_c a.t b.t) [] Tryd.call56 ?_
  repeat' (first | exact rfl | ((conv => whnf); first | refine condP_mk (fun h => ?_) (fun h => ?_) | refine Ob.mk ?_ ?_ | refine Both.mk ?_ ?_))
  (conv => whnf)
  refine callI (or_c [cmpI a.f b.f, cmpI a.i b.i, cmpI a.o b.o, cmpI a.t b.t] 4 (by simp)) [2] Tryd.call55 rfl (by simp) (by simp) (by simp) ?_
  repeat' (first | exact rfl | ((conv => whnf); first | refine condP_mk (fun h => ?_) (fun h => ?_) | refine Ob.mk ?_ ?_ | refine Both.mk ?_ ?_))
  refine Back.is ?_
  simp only [eqV, eqA, eqC, orderI]
end Go.Fw

namespace Go.Fw
open Go Go.Proofs

theorem check1_c (F : TF) (n : Int) (hst : InI (F.st - 1)) : Ct Tryd.prog 33 [.i n, .c (.ptr 2 0)] [] (hpC F) 3 (fun v s => v = .b (decide (0 ≤ n ∧ n ≤ F.st - 1)) ∧ s = ⟨[], [(2, .box 25 [.i F.st, .i F.start, .sl 0 1 0 F.fin.length F.capF, .sl 1 5 0 F.arcs.length F.capA])], 3⟩) := by
  refine ctW Tryd.tyOk 4 [] Tryd.func33 rfl (by simp) (by simp) (fr := [(0, .i n), (1, .c (.ptr 2 0))]) rfl ?_
  repeat' (first | exact rfl | ((conv => whnf); first | refine condP_mk (fun h => ?_) (fun h => ?_) | refine Ob.mk ?_ ?_ | refine Both.mk ?_ ?_))
  · exact hst
  (conv => whnf)
  refine cI (within_c n 0 (F.st - 1)) [] Tryd.call34 ?_
  repeat' (first | exact rfl | ((conv => whnf); first | refine condP_mk (fun h => ?_) (fun h => ?_) | refine Ob.mk ?_ ?_ | refine Both.mk ?_ ?_))
  (conv => whnf)
  exact ⟨[], [(2, .box 25 [.i F.st, .i F.start, .sl 0 1 0 F.fin.length F.capF, .sl 1 5 0 F.arcs.length F.capA])], 3, .b (decide (0 ≤ n ∧ n ≤ F.st - 1)), ⟨by rfl, trivial, by simp⟩, by simp only [eqV, eqA, eqC], rfl, rfl⟩

/-- What Check keeps by it. -/
abbrev frC : List (Nat × SV) := [(1, .c (.ptr 2 0)), (2, .i 0), (3, .c (.fn 33 [(2, 0)]))]

set_option maxHeartbeats 4000000 in
set_option maxRecDepth 20000 in
theorem check_c (F : TF) (hl : F.fin.length ≤ 9223372036854775807) : Ct Tryd.prog 16 [fV F] [] (hpF F) 2 (Is 2 (.i (fstE F))) := by
  refine ctW Tryd.tyOk 6 [35, 36, 37] Tryd.func16 rfl (by simp) (by simp) (fr := [(0, fV F)]) rfl ?_
  (conv => whnf)
  refine cI (within_c F.st 1 200) [] Tryd.call34 ?_
  repeat' (first | exact rfl | ((conv => whnf); first | refine condP_mk (fun h => ?_) (fun h => ?_) | refine Ob.mk ?_ ?_ | refine Both.mk ?_ ?_))
  · refine Back.is ?_
    simp only [Bool.not_eq_true', decide_eq_false_iff_not] at h
    simp only [eqV, eqA, eqC, fstE, if_pos h]
  simp only [Bool.not_eq_false', decide_eq_true_eq] at h
  have h1 := h
  clear h
  have hst : InI (F.st - 1) := by unfold InI; omega
  (conv => whnf)
  refine callF (check1_c F F.start hst) [0, 1, 2] Tryd.call33 rfl (by simp) (by simp) (by simp) ?_
  rintro _ _ ⟨rfl, rfl⟩
  repeat' (first | exact rfl | ((conv => whnf); first | refine condP_mk (fun h => ?_) (fun h => ?_) | refine Ob.mk ?_ ?_ | refine Both.mk ?_ ?_))
  · refine Back.is ?_
    simp only [Bool.not_eq_true', decide_eq_false_iff_not] at h
    simp only [eqV, eqA, eqC, fstE, if_neg (not_not_intro h1), if_pos h]
  · refine Back.is ?_
    rename_i h2
    simp only [Bool.not_eq_false', decide_eq_true_eq, bne_iff_ne] at h h2
    simp only [eqV, eqA, eqC, fstE, if_neg (not_not_intro h1), if_neg (not_not_intro h2), if_pos h]
  rename_i h2
  simp only [Bool.not_eq_false', decide_eq_true_eq, bne_eq_false_iff_eq] at h h2
  have h3 := h
  clear h
  (conv => whnf)
  refine callI (containsFunc_c F.fin F.capF hl 36 (fun a => !decide (-1 ≤ a ∧ a ≤ 1000000000)) check2_c Tryd.call36) [0] Tryd.call35 rfl (by simp) (by simp) (by simp) ?_
  have hany : (F.fin.any fun a => !decide (-1 ≤ a ∧ a ≤ 1000000000)) = true ↔ ¬ ∀ n ∈ F.fin, -1 ≤ n ∧ n ≤ 1000000000 := by
    rw [List.any_eq_true]
    constructor
    · rintro ⟨x, hx, h⟩ H
      rw [decide_eq_true (H x hx)] at h
      cases h
    · intro H
      refine Classical.byContradiction fun hc => H fun n hn => Classical.byContradiction fun hnn => hc ⟨n, hn, ?_⟩
      rw [decide_eq_false hnn]; rfl
  repeat' (first | exact rfl | ((conv => whnf); first | refine condP_mk (fun h => ?_) (fun h => ?_) | refine Ob.mk ?_ ?_ | refine Both.mk ?_ ?_))
  · refine Back.is ?_
    rw [hany] at h
    simp only [eqV, eqA, eqC, fstE, if_neg (not_not_intro h1), if_neg (not_not_intro h2), if_neg (not_not_intro h3), if_pos h]
  · refine Back.is ?_
    rename_i hk2
    have hk2 : ∀ n ∈ F.fin, -1 ≤ n ∧ n ≤ 1000000000 := Classical.not_not.1 fun hc => by rw [hany.2 hc] at hk2; cases hk2
    simp only [decide_eq_true_eq] at h
    simp only [eqV, eqA, eqC, fstE, if_neg (not_not_intro h1), if_neg (not_not_intro h2), if_neg (not_not_intro h3), if_neg (not_not_intro hk2), if_pos (show 3000 < F.arcs.length by omega)]
  rename_i hk2
  have hk2 : ∀ n ∈ F.fin, -1 ≤ n ∧ n ≤ 1000000000 := Classical.not_not.1 fun hc => by rw [hany.2 hc] at hk2; cases hk2
  simp only [decide_eq_false_iff_not] at h
  have h5 : F.arcs.length ≤ 3000 := by omega
  have h4 : fstE F = arcsE F.st none F.arcs := by
    simp only [fstE, if_neg (not_not_intro h1), if_neg (not_not_intro h2), if_neg (not_not_intro h3), if_neg (not_not_intro hk2), if_neg (show ¬ 3000 < F.arcs.length by omega)]
  clear hk2 h hany
  (conv => whnf)
  refine loopI (fun k : Nat => ⟨[(1, .c (.ptr 2 0)), (2, .i 0), (3, .c (.fn 33 [(2, 0)])), (35, .c (.sl 1 5 0 F.arcs.length F.capA)), (36, .i F.arcs.length), (37, .i k)], hpC F, 3⟩) (fun k => k ≤ F.arcs.length ∧ fstE F = arcsE F.st (if k = 0 then none else some (F.arcs.getD (k - 1) EK.arc.dflt)) (F.arcs.drop k)) (fun k => F.arcs.length - k) 0 [] ⟨by rfl, ?_, ?_⟩ (by simp [h4]) ?_
  · simp
  · simp
  · intro j ⟨hj1, hj2⟩
    repeat' (first | exact rfl | ((conv => whnf); first | refine condP_mk (fun h => ?_) (fun h => ?_) | refine Ob.mk ?_ ?_ | refine Both.mk ?_ ?_))
    · simp only [decide_eq_true_eq] at h; omega
    · simp only [decide_eq_true_eq] at h; omega
    · simp only [decide_eq_true_eq] at h
      have hj : j < F.arcs.length := by omega
      clear h
      (conv => whnf)
      simp only [Nat.zero_add, Int.toNat_natCast]
      have hd : F.arcs.drop j = F.arcs.getD j EK.arc.dflt :: F.arcs.drop (j + 1) := by
        rw [List.drop_eq_getElem_cons hj]; simp [List.getD, hj]
      rw [hd, arcsE_cons] at hj2
      generalize hx : F.arcs.getD j EK.arc.dflt = x at hj2 ⊢
      refine callF (check1_c F x.f hst) [0, 1, 2] Tryd.call33 rfl (by simp) (by simp) (by simp) ?_
      rintro _ _ ⟨rfl, rfl⟩
      repeat' (first | exact rfl | ((conv => whnf); first | refine condP_mk (fun h => ?_) (fun h => ?_) | refine Ob.mk ?_ ?_ | refine Both.mk ?_ ?_))
      · refine Back.is ?_
        simp only [Bool.not_eq_true'] at h
        simp only [eqV, eqA, eqC, hj2, arcOk, h]
        rfl
      simp only [Bool.not_eq_false'] at h
      have a1 := h
      clear h
      (conv => whnf)
      refine callF (check1_c F x.t hst) [0, 1, 2] Tryd.call33 rfl (by simp) (by simp) (by simp) ?_
      rintro _ _ ⟨rfl, rfl⟩
      repeat' (first | exact rfl | ((conv => whnf); first | refine condP_mk (fun h => ?_) (fun h => ?_) | refine Ob.mk ?_ ?_ | refine Both.mk ?_ ?_))
      · refine Back.is ?_
        simp only [Bool.not_eq_true'] at h
        simp only [eqV, eqA, eqC, hj2, arcOk, a1, h]
        rfl
      simp only [Bool.not_eq_false'] at h
      have a2 : arcOk F.st x = true := by simp only [arcOk, a1, h]; rfl
      clear h
      (conv => whnf)
      refine cI (within_c x.i 0 9) [] Tryd.call34 ?_
      repeat' (first | exact rfl | ((conv => whnf); first | refine condP_mk (fun h => ?_) (fun h => ?_) | refine Ob.mk ?_ ?_ | refine Both.mk ?_ ?_))
      · refine Back.is ?_
        simp only [Bool.not_eq_true'] at h
        simp only [eqV, eqA, eqC, hj2, a2, arcIn, h]
        rfl
      simp only [Bool.not_eq_false'] at h
      have a3 := h
      clear h
      (conv => whnf)
      refine cI (within_c x.o 0 9) [] Tryd.call34 ?_
      repeat' (first | exact rfl | ((conv => whnf); first | refine condP_mk (fun h => ?_) (fun h => ?_) | refine Ob.mk ?_ ?_ | refine Both.mk ?_ ?_))
      · refine Back.is ?_
        simp only [Bool.not_eq_true'] at h
        simp only [eqV, eqA, eqC, hj2, a2, arcIn, a3, h]
        rfl
      simp only [Bool.not_eq_false'] at h
      have a4 := h
      clear h
      (conv => whnf)
      refine cI (within_c x.w 0 1000000000) [] Tryd.call34 ?_
      repeat' (first | exact rfl | ((conv => whnf); first | refine condP_mk (fun h => ?_) (fun h => ?_) | refine Ob.mk ?_ ?_ | refine Both.mk ?_ ?_))
      · refine Back.is ?_
        simp only [Bool.not_eq_true'] at h
        simp only [eqV, eqA, eqC, hj2, a2, arcIn, a3, a4, h]
        rfl
      simp only [Bool.not_eq_false'] at h
      have a5 : arcIn x = true := by simp only [arcIn, a3, a4, h]; rfl
      clear h
      (conv => whnf)
      refine dR ?_
      repeat' (first | exact rfl | ((conv => whnf); first | refine condP_mk (fun h => ?_) (fun h => ?_) | refine Ob.mk ?_ ?_ | refine Both.mk ?_ ?_))
      · unfold InI; omega
      · simp only [decide_eq_true_eq, gt_iff_lt] at h; omega
      · simp only [decide_eq_true_eq, gt_iff_lt] at h; omega
      · simp only [decide_eq_true_eq, gt_iff_lt] at h
        have hj0 : j ≠ 0 := by omega
        clear h
        have e : 0 + ((j : Int) - 1).toNat = j - 1 := by omega
        (conv => whnf)
        simp only [e, Nat.zero_add, Int.toNat_natCast]
        simp only [if_neg hj0] at hj2
        generalize hy : F.arcs.getD (j - 1) EK.arc.dflt = y at hj2 ⊢
        refine cI (order_c y x) [] Tryd.call37 ?_
        repeat' (first | exact rfl | ((conv => whnf); first | refine condP_mk (fun h => ?_) (fun h => ?_) | refine Ob.mk ?_ ?_ | refine Both.mk ?_ ?_))
        · refine Back.is ?_
          rw [orderI_ahead] at h
          simp only [eqV, eqA, eqC, hj2, a2, a5, h]
          rfl
        · unfold InI; omega
        · rw [orderI_ahead] at h
          simp only [Bool.not_eq_false'] at h
          (conv => whnf)
          refine ⟨j + 1, [], ⟨by rfl, ?_, ?_⟩, ⟨hj, ?_⟩, by omega⟩
          · simp
          · simp
          · simp only [a2, a5, h, Bool.not_true, Bool.false_eq_true, if_false] at hj2
            rw [if_neg (Nat.succ_ne_zero j), Nat.add_sub_cancel, hx]
            exact hj2
      · unfold InI; omega
      · simp only [decide_eq_false_iff_not, gt_iff_lt] at h
        have hj0 : j = 0 := by omega
        simp only [if_pos hj0] at hj2
        (conv => whnf)
        refine ⟨j + 1, [], ⟨by rfl, ?_, ?_⟩, ⟨hj, ?_⟩, by omega⟩
        · simp
        · simp
        · simp only [a2, a5, Bool.not_true, Bool.false_eq_true, if_false] at hj2
          rw [if_neg (Nat.succ_ne_zero j), Nat.add_sub_cancel, hx]
          exact hj2
    · refine Back.is ?_
      simp only [decide_eq_false_iff_not] at h
      rw [List.drop_eq_nil_of_le (by omega), arcsE_nil] at hj2
      simp only [eqV, eqA, eqC, hj2]
end Go.Fw

namespace Go.Fw
open Go Go.Proofs

/-- The answer: a slice of its own, numbered m. -/
def Sl (m E : Nat) (k : EK) (xs : List k.ty) (v : SV) (s : S) : Prop := ∃ sp, v = .c (.sl m k.sz 0 xs.length (xs.length + sp)) ∧ s = ⟨[], [(m, .arr true E k xs sp)], m + 1⟩

end Go.Fw

namespace Go.Fw
open Go Go.Proofs

end Go.Fw

namespace Go.Fw
open Go Go.Proofs

end Go.Fw

namespace Go.Fw
open Go Go.Proofs

set_option maxHeartbeats 2000000 in
set_option maxRecDepth 20000 in
theorem sameInts_c (a b : List Int) (ca cb : Nat) (ha : a.length ≤ 9223372036854775807) (hl : b.length ≤ 9223372036854775807) :
    Ct Tryd.prog 45 [.c (.sl 0 1 0 a.length ca), .c (.sl 1 1 0 b.length cb)] [] [(0, .arr false 3 .int a 0), (1, .arr false 3 .int b 0)] 2 (Is 2 (.b (decide (a = b)))) := by
  refine ctW Tryd.tyOk 6 [] Tryd.func45 rfl (by simp) (by simp) (fr := [(0, .c (.sl 0 1 0 a.length ca)), (1, .c (.sl 1 1 0 b.length cb))]) rfl ?_
  repeat' (first | exact rfl | ((conv => whnf); first | refine condP_mk (fun h => ?_) (fun h => ?_) | refine Ob.mk ?_ ?_ | refine Both.mk ?_ ?_))
  · simp only [bne_iff_ne] at h
    have : a ≠ b := fun e => h (by rw [e])
    (conv => whnf)
    exact ⟨[], [], 2, .b (decide (a = b)), ⟨by rfl, trivial, trivial⟩, by simp [this], rfl, rfl⟩
  simp only [bne_eq_false_iff_eq] at h
  have hab : a.length = b.length := by omega
  clear h
  (conv => whnf)
  refine loopI (fun k : Nat => ⟨[(0, .c (.sl 0 1 0 a.length ca)), (1, .c (.sl 1 1 0 b.length cb)), (4, .b false), (5, .i k)], [(0, .arr false 3 .int a 0), (1, .arr false 3 .int b 0)], 2⟩) (fun k => k ≤ a.length ∧ ∀ j, j < k → a.getD j 0 = b.getD j 0) (fun k => a.length - k) 0 [] ⟨by rfl, ?_, ?_⟩ (by simp) ?_
  · simp
  · simp
  · intro k ⟨hk1, hk2⟩
    repeat' (first | exact rfl | ((conv => whnf); first | refine condP_mk (fun h => ?_) (fun h => ?_) | refine Ob.mk ?_ ?_ | refine Both.mk ?_ ?_))
    refine dR ?_
    repeat' (first | exact rfl | ((conv => whnf); first | refine condP_mk (fun h => ?_) (fun h => ?_) | refine Ob.mk ?_ ?_ | refine Both.mk ?_ ?_))
    · simp only [decide_eq_true_eq] at h; omega
    · simp only [decide_eq_true_eq] at h; omega
    · simp only [decide_eq_true_eq] at h; omega
    · simp only [decide_eq_true_eq] at h; omega
    · rename_i hk
      simp only [decide_eq_true_eq, bne_iff_ne, Nat.zero_add, Int.toNat_natCast, EK.dflt] at h hk
      have : a ≠ b := fun e => h (by rw [e])
      (conv => whnf)
      exact ⟨[], [], 2, .b (decide (a = b)), ⟨by rfl, trivial, trivial⟩, by simp [this], rfl, rfl⟩
    · rename_i hk
      simp only [decide_eq_true_eq] at hk
      unfold InI; omega
    · rename_i hk
      simp only [decide_eq_true_eq, bne_eq_false_iff_eq, Nat.zero_add, Int.toNat_natCast, EK.dflt] at h hk
      (conv => whnf)
      refine ⟨k + 1, [], ⟨by rfl, ?_, ?_⟩, ⟨by omega, fun j hj => ?_⟩, by omega⟩
      · simp
      · simp
      · exact if e : j = k then e ▸ h else hk2 j (by omega)
    · simp only [decide_eq_false_iff_not] at h
      have : a = b := sameTake a b hab fun j hj => hk2 j (by omega)
      (conv => whnf)
      exact ⟨[], [], 2, .b (decide (a = b)), ⟨by rfl, trivial, trivial⟩, by simp [this], rfl, rfl⟩
end Go.Fw

namespace Go.Fw
open Go Go.Proofs

def oneV (i j : Nat) : SV := .a (.agg [.i 2, .i 0, .sl i 1 0 2 2, .sl j 5 0 1 1])

theorem one_c : Ct Tryd.prog 23 [] [] [] 0 (fun v s => v = oneV 0 1 ∧ s = ⟨[], [(0, .arr true 3 .int [-1, 1] 0), (1, .arr true 35 .arc [⟨0, 1, 2, 1, 5⟩] 0)], 2⟩) := by
  refine ctW Tryd.tyOk 1 [] Tryd.func23 rfl (by simp) (by simp) (fr := []) rfl ?_
  repeat' (first | exact rfl | ((conv => whnf); first | refine condP_mk (fun h => ?_) (fun h => ?_) | refine Ob.mk ?_ ?_ | refine Both.mk ?_ ?_))
  (conv => whnf)
  exact ⟨[(0, some 1), (1, some 2)], [(0, .arr true 3 .int [-1, 1] 0), (1, .arr true 35 .arc [⟨0, 1, 2, 1, 5⟩] 0)], 2, oneV 0 1, ⟨by rfl, trivial, by simp⟩, by simp [oneV], rfl, rfl⟩

/-- A transducer's two slices, wherever. -/
abbrev hpO (F : TF) (oa ob : Bool) (sa sb : Nat) : List (Nat × SO) := [(0, .arr oa 3 .int F.fin sa), (1, .arr ob 35 .arc F.arcs sb)]

end Go.Fw

namespace Go.Fw
open Go Go.Proofs

def gV (F : TF) : SV := .a (.agg [.i F.st, .i F.start, .sl 2 1 0 F.fin.length F.capF, .sl 3 5 0 F.arcs.length F.capA])
abbrev hpG (F G : TF) : List (Nat × SO) := [(0, .arr false 3 .int F.fin 0), (1, .arr false 35 .arc F.arcs 0), (2, .arr false 3 .int G.fin 0), (3, .arr false 35 .arc G.arcs 0)]

set_option maxHeartbeats 4000000 in
set_option maxRecDepth 20000 in
theorem sameFst_c (F G : TF) (h1 : F.fin.length ≤ 9223372036854775807) (h2 : G.fin.length ≤ 9223372036854775807) (h3 : F.arcs.length ≤ 9223372036854775807) : Ct Tryd.prog 20 [fV F, gV G] [] (hpG F G) 4 (Is 4 (.b (sameF F G))) := by
  refine ctW Tryd.tyOk 6 [] Tryd.func20 rfl (by simp [gV]) (by simp) (fr := [(0, fV F), (1, gV G)]) rfl ?_
  repeat' (first | exact rfl | ((conv => whnf); first | refine condP_mk (fun h => ?_) (fun h => ?_) | refine Ob.mk ?_ ?_ | refine Both.mk ?_ ?_))
  · simp only [bne_iff_ne] at h
    refine Back.is ?_
    simp [sameF, h]
  · simp only [bne_iff_ne] at h
    refine Back.is ?_
    simp [sameF, h]
  rename_i e1
  simp only [bne_eq_false_iff_eq] at e1 h
  have e2 := h
  clear h
  (conv => whnf)
  refine callI (sameInts_c F.fin G.fin F.capF G.capF h1 h2) [0, 2] Tryd.call45 rfl (by simp) (by simp) (by simp) ?_
  repeat' (first | exact rfl | ((conv => whnf); first | refine condP_mk (fun h => ?_) (fun h => ?_) | refine Ob.mk ?_ ?_ | refine Both.mk ?_ ?_))
  · simp only [Bool.not_eq_true', decide_eq_false_iff_not] at h
    refine Back.is ?_
    simp [sameF, h]
  · simp only [bne_iff_ne] at h
    have : F.arcs ≠ G.arcs := fun e => h (by rw [e])
    refine Back.is ?_
    simp [sameF, this]
  rename_i e3
  simp only [Bool.not_eq_false', decide_eq_true_eq, bne_eq_false_iff_eq] at e3 h
  have e4 : F.arcs.length = G.arcs.length := by omega
  clear h
  (conv => whnf)
  refine loopI (fun k : Nat => ⟨[(2, .c (.ptr 4 0)), (3, .c (.ptr 5 0)), (4, .b false), (5, .i k)], [(1, .arr false 35 .arc F.arcs 0), (3, .arr false 35 .arc G.arcs 0), (4, .box 25 [.i F.st, .i F.start, .sl 0 1 0 F.fin.length F.capF, .sl 1 5 0 F.arcs.length F.capA]), (5, .box 25 [.i G.st, .i G.start, .sl 2 1 0 G.fin.length G.capF, .sl 3 5 0 G.arcs.length G.capA])], 6⟩) (fun k => k ≤ F.arcs.length ∧ ∀ j, j < k → F.arcs.getD j EK.arc.dflt = G.arcs.getD j EK.arc.dflt) (fun k => F.arcs.length - k) 0 [] ⟨by rfl, ?_, ?_⟩ (by simp) ?_
  · simp
  · simp
  · intro k ⟨hk1, hk2⟩
    repeat' (first | exact rfl | ((conv => whnf); first | refine condP_mk (fun h => ?_) (fun h => ?_) | refine Ob.mk ?_ ?_ | refine Both.mk ?_ ?_))
    refine dR ?_
    repeat' (first | exact rfl | ((conv => whnf); first | refine condP_mk (fun h => ?_) (fun h => ?_) | refine Ob.mk ?_ ?_ | refine Both.mk ?_ ?_))
    · simp only [decide_eq_true_eq] at h; omega
    · simp only [decide_eq_true_eq] at h; omega
    · simp only [decide_eq_true_eq] at h; omega
    · simp only [decide_eq_true_eq] at h; omega
    · rw [arcEq] at h
      simp only [Bool.not_eq_true', decide_eq_false_iff_not] at h
      have : F.arcs ≠ G.arcs := fun e => h (by rw [e])
      refine Back.is ?_
      simp [sameF, this]
    · rename_i hk
      simp only [decide_eq_true_eq] at hk
      unfold InI; omega
    · rename_i hk
      rw [arcEq] at h
      simp only [Bool.not_eq_false', decide_eq_true_eq, Nat.zero_add, Int.toNat_natCast] at h hk
      (conv => whnf)
      refine ⟨k + 1, [], ⟨by rfl, ?_, ?_⟩, ⟨by omega, fun j hj => ?_⟩, by omega⟩
      · simp
      · simp
      · exact if e : j = k then e ▸ h else hk2 j (by omega)
    · simp only [decide_eq_false_iff_not] at h
      have : F.arcs = G.arcs := sameTakeA _ _ e4 fun j hj => hk2 j (by omega)
      refine Back.is ?_
      simp [sameF, this, e1, e2, e3]
end Go.Fw

namespace Go.Fw
open Go Go.Proofs

theorem cp_rep (k m : Nat) (v : Int) : lOp.cpL (List.replicate k v ++ List.replicate m 0) k (Nat.min k m) (sub (List.replicate k v ++ List.replicate m 0) 0 k) = List.replicate (k + Nat.min k m) v ++ List.replicate (m - Nat.min k m) (0 : Int) := by
  have h1 : Nat.min k m ≤ k := Nat.min_le_left _ _
  have h2 : Nat.min k m ≤ m := Nat.min_le_right _ _
  generalize Nat.min k m = j at *
  unfold lOp.cpL sub
  have e1 : (List.replicate k v ++ List.replicate m (0 : Int)).take k = List.replicate k v := by rw [List.take_append_of_le_length (by simp), List.take_of_length_le (by simp)]
  have e2 : (List.replicate k v ++ List.replicate m (0 : Int)).drop (k + j) = List.replicate (m - j) 0 := by
    rw [List.drop_append, List.drop_of_length_le (by simp)]
    simp
  rw [List.drop_zero, e1, e2, List.take_replicate, List.replicate_append_replicate, Nat.min_eq_left h1]

theorem cp_one (m : Nat) (v : Int) : List.replicate (Nat.min 1 m) v ++ List.replicate (m - Nat.min 1 m) 0 = lOp.cpL (List.replicate m (0 : Int)) 0 (Nat.min 1 m) (sub [v] 0 1) := by
  unfold lOp.cpL sub
  cases m with
  | zero => simp [nmin]
  | succ m => have e : min 1 (m + 1) = 1 := by omega
              simp [nmin, e]

set_option maxHeartbeats 2000000 in
set_option maxRecDepth 20000 in
theorem repeat_c (v n : Int) (cap : Nat) (h0 : 0 ≤ n) (h1 : n ≤ 1000000) : Ct Tryd.prog 60 [.c (.sl 0 1 0 1 cap), .i n] [] [(0, .arr false 3 .int [v] 0)] 1 (fun r s => r = .c (.sl 1 1 0 n.toNat n.toNat) ∧ s = ⟨[], [(1, .arr true 3 .int (List.replicate n.toNat v) 0)], 2⟩) := by
  obtain ⟨m, rfl⟩ := Int.eq_ofNat_of_zero_le h0
  simp only [Int.toNat_natCast]
  refine ctW Tryd.tyOk 9 [] Tryd.func60 rfl (by simp) (by simp) (fr := [(0, .c (.sl 0 1 0 1 cap)), (1, .i m)]) rfl ?_
  repeat' (first | exact rfl | ((conv => whnf); first | (refine qX (fun h => ?_) fun h => ?_ <;> try exact absurd h (by omega)) | refine oN ?_ | refine oM ?_ ?_ | refine bM ?_ ?_ | refine dR ?_))
  refine cI (mul_c 1 m (by omega) (by omega) (by omega)) [] Tryd.call72 ?_
  repeat' (first | exact rfl | ((conv => whnf); first | (refine qX (fun h => ?_) fun h => ?_ <;> try exact absurd h (by omega)) | refine oN ?_ | refine oM ?_ ?_ | refine bM ?_ ?_ | refine dR ?_))
  · (conv => whnf)
    refine loopI (fun k : Nat => ⟨[(7, .c (.sl 1 1 0 m m)), (8, .i k)], [(1, .arr true 3 .int (List.replicate k v ++ List.replicate (m - k) (0 : Int)) 0)], 2⟩) (fun k => k ≤ m ∧ (1 ≤ k ∨ m = 0)) (fun k => m - k) (Nat.min 1 m) [] ⟨by rfl, ?_, ?_⟩ ?_ ?_
    · simp
    · simp
      have := cp_one m v
      exact this
    · simp only [nmin]; omega
    · intro k hk
      repeat' (first | exact rfl | ((conv => whnf); first | (refine qX (fun h => ?_) fun h => ?_ <;> try exact absurd h (by omega)) | refine oN ?_ | refine oM ?_ ?_ | refine bM ?_ ?_ | refine dR ?_))
      · (conv => whnf)
        refine ⟨k + Nat.min k (m - k), [], ⟨by rfl, ?_, ?_⟩, ?_, ?_⟩
        · simp
        · simp
          rw [cp_rep]
          congr 2
          simp only [nmin]; omega
        · simp only [nmin]; omega
        · simp only [nmin]; omega
      · (conv => whnf)
        have e : k = m := by omega
        subst e
        exact ⟨[], [(1, .arr true 3 .int (List.replicate k v) 0)], 2, .c (.sl 1 1 0 k k), ⟨by rfl, trivial, by simp⟩, by simp, rfl, rfl⟩
end Go.Fw

/-
  Shortest ways, in the plain: going over all arcs again and again, and settling one state after the other, come to the same.
-/
namespace Go.Fw
open Go

/-- a is no worse than b (-1: none). -/
def Le (a b : Int) : Prop := b ≠ -1 → a ≠ -1 ∧ a ≤ b
theorem Le.refl (a : Int) : Le a a := fun h => ⟨h, Int.le_refl _⟩
theorem Le.trans {a b c : Int} (h : Le a b) (h' : Le b c) : Le a c := fun hc => by
  have h1 := h' hc
  have h2 := h h1.1
  exact ⟨h2.1, Int.le_trans h2.2 h1.2⟩

/-- A way of k arcs to a state, and what it costs. -/
inductive RN (l : List Arc) (c0 : List Int) : Nat → Nat → Int → Prop
  | base {v : Nat} (h : v < c0.length) (hc : c0.getD v 0 ≠ -1) : RN l c0 0 v (c0.getD v 0)
  | step {k : Nat} {a : Arc} {c : Int} (h : RN l c0 k a.f.toNat c) (ha : a ∈ l) : RN l c0 (k + 1) a.t.toNat (c + a.w)

theorem getD_set {α : Type} (c : List α) (i v : Nat) (x d : α) : (c.set i x).getD v d = if i = v ∧ v < c.length then x else c.getD v d := by
  by_cases h : i = v
  · subst h
    by_cases h2 : i < c.length
    · simp [List.getD, h2]
    · simp [List.getD, h2]
  · simp [List.getD, List.getElem?_set_ne h, h]

theorem RN.lt {l : List Arc} {st : Int} {c0 : List Int} (hl : ∀ a ∈ l, ArcOk st a) (hn : (c0.length : Int) = st) {k v : Nat} {c : Int} (h : RN l c0 k v c) : v < c0.length := by
  cases h with
  | base h _ => exact h
  | step h ha => have h1 := (hl _ ha).t0; have h2 := (hl _ ha).t1; omega

theorem RN.pos {l : List Arc} {st : Int} {c0 : List Int} (hl : ∀ a ∈ l, ArcOk st a) (h0 : ∀ v ∈ c0, -1 ≤ v) {k v : Nat} {c : Int} (h : RN l c0 k v c) : 0 ≤ c := by
  induction h with
  | base h hc => have := h0 _ (getD_mem c0 _ 0 h); omega
  | step h ha ih => have h1 := (hl _ ha).w0; omega

/-! ### Over and over -/
structure RlxS (c c' : List Int) (a : Arc) : Prop where
  len : c'.length = c.length
  le : ∀ v, Le (c'.getD v 0) (c.getD v 0)
  to : c.getD a.f.toNat 0 ≠ -1 → Le (c'.getD a.t.toNat 0) (c.getD a.f.toNat 0 + a.w)
  eq : ∀ v, c'.getD v 0 = c.getD v 0 ∨ (v = a.t.toNat ∧ c.getD a.f.toNat 0 ≠ -1 ∧ c'.getD v 0 = c.getD a.f.toNat 0 + a.w)

theorem relax_spec {st : Int} {c : List Int} {B : Int} (hb : Bd st B c) {a : Arc} (ha : ArcOk st a) : RlxS c (relax c a) a := by
  have h1 := hb.at ha.t0 ha.t1
  have h2 := hb.at ha.f0 ha.f1
  have h3 := ha.w0
  have hlen := hb.len
  have hlt : a.t.toNat < c.length := by have := ha.t0; have := ha.t1; omega
  have key : (less (c.getD a.t.toNat 0) (plus (c.getD a.f.toNat 0) a.w) = c.getD a.t.toNat 0 ∧ (c.getD a.f.toNat 0 ≠ -1 → Le (c.getD a.t.toNat 0) (c.getD a.f.toNat 0 + a.w))) ∨
      (c.getD a.f.toNat 0 ≠ -1 ∧ less (c.getD a.t.toNat 0) (plus (c.getD a.f.toNat 0) a.w) = c.getD a.f.toNat 0 + a.w ∧ Le (c.getD a.f.toNat 0 + a.w) (c.getD a.t.toNat 0)) := by
    generalize c.getD a.t.toNat 0 = t at *
    generalize c.getD a.f.toNat 0 = f at *
    unfold less plus Le
    by_cases hf : f < 0
    · left
      have : f < 0 ∨ a.w < 0 := .inl hf
      simp only [if_pos this]
      refine ⟨?_, fun h => by omega⟩
      split
      · omega
      · simp
    · have : ¬ (f < 0 ∨ a.w < 0) := by omega
      simp only [if_neg this]
      by_cases ht : t < 0
      · right
        rw [if_pos ht]
        exact ⟨by omega, rfl, fun h => by omega⟩
      · rw [if_neg ht]
        by_cases hlt : f + a.w < 0 ∨ t < f + a.w
        · left
          rw [if_pos hlt]
          exact ⟨rfl, fun _ _ => by omega⟩
        · right
          rw [if_neg hlt]
          exact ⟨by omega, rfl, fun h => by omega⟩
  have hg : ∀ v, (relax c a).getD v 0 = if a.t.toNat = v ∧ v < c.length then less (c.getD a.t.toNat 0) (plus (c.getD a.f.toNat 0) a.w) else c.getD v 0 := fun v => getD_set _ _ _ _ _
  refine ⟨by simp [relax], fun v => ?_, fun hf => ?_, fun v => ?_⟩
  · rw [hg]
    split
    · rename_i h
      obtain ⟨rfl, _⟩ := h
      rcases key with ⟨e, _⟩ | ⟨_, e, h⟩
      · rw [e]; exact Le.refl _
      · rw [e]; exact h
    · exact Le.refl _
  · rw [hg, if_pos ⟨rfl, hlt⟩]
    rcases key with ⟨e, h⟩ | ⟨_, e, h⟩
    · rw [e]; exact h hf
    · rw [e]; exact Le.refl _
  · rw [hg]
    split
    · rename_i h
      obtain ⟨rfl, _⟩ := h
      rcases key with ⟨e, _⟩ | ⟨h1, e, _⟩
      · exact .inl e
      · exact .inr ⟨rfl, h1, e⟩
    · exact .inl rfl

structure FoldS (l : List Arc) (c c' : List Int) : Prop where
  len : c'.length = c.length
  le : ∀ v, Le (c'.getD v 0) (c.getD v 0)
  to : ∀ a ∈ l, c.getD a.f.toNat 0 ≠ -1 → Le (c'.getD a.t.toNat 0) (c.getD a.f.toNat 0 + a.w)

theorem fold_spec {st : Int} : ∀ (l : List Arc) {c : List Int} {B : Int}, Bd st B c → 0 ≤ B → (∀ a ∈ l, ArcOk st a) → FoldS l c (roundF l c)
  | [], c, B, hb, _, _ => ⟨rfl, fun v => Le.refl _, fun a h => by cases h⟩
  | a :: l, c, B, hb, hB, hl => by
    have ha := hl a (by simp)
    have h1 := relax_spec hb ha
    have h2 := fold_spec l (hb.rlx hB ha) (by omega) (fun x hx => hl x (by simp [hx]))
    have e : roundF (a :: l) c = roundF l (relax c a) := rfl
    rw [e]
    refine ⟨h2.len.trans h1.len, fun v => (h2.le v).trans (h1.le v), ?_⟩
    intro b hb' hf
    rcases List.mem_cons.1 hb' with rfl | hb'
    · exact (h2.le _).trans (h1.to hf)
    · have h3 := h1.le b.f.toNat hf
      have h4 := h2.to b hb' h3.1
      intro hne
      have hw := (hl b (by simp [hb'])).w0
      have h5 := hb.at (hl b (by simp [hb'])).f0 (hl b (by simp [hb'])).f1
      have h6 := (hb.rlx hB ha).at (hl b (by simp [hb'])).f0 (hl b (by simp [hb'])).f1
      have h7 := h4 (by omega)
      exact ⟨h7.1, by omega⟩

theorem fold_reach {st : Int} {L : List Arc} {c0 : List Int} : ∀ (l : List Arc) {c : List Int} {B : Int}, Bd st B c → 0 ≤ B → (∀ a ∈ l, ArcOk st a) → (∀ a ∈ l, a ∈ L) →
    (∀ v, v < c.length → c.getD v 0 ≠ -1 → ∃ k, RN L c0 k v (c.getD v 0)) → ∀ v, v < (roundF l c).length → (roundF l c).getD v 0 ≠ -1 → ∃ k, RN L c0 k v ((roundF l c).getD v 0)
  | [], c, B, hb, _, _, _, h => h
  | a :: l, c, B, hb, hB, hl, hL, h => by
    have ha := hl a (by simp)
    have h1 := relax_spec hb ha
    have e : roundF (a :: l) c = roundF l (relax c a) := rfl
    rw [e]
    refine fold_reach l (hb.rlx hB ha) (by omega) (fun x hx => hl x (by simp [hx])) (fun x hx => hL x (by simp [hx])) ?_
    intro v hv hne
    rcases h1.eq v with e1 | ⟨rfl, e1, e2⟩
    · rw [e1] at hne ⊢
      exact h v (by rw [h1.len] at hv; exact hv) hne
    · rw [e2]
      have hf : a.f.toNat < c.length := by have := ha.f0; have := ha.f1; have := hb.len; omega
      obtain ⟨k, hk⟩ := h _ hf e1
      exact ⟨k + 1, .step hk (hL a (by simp))⟩

/-- What is known of going over all arcs r times. -/
theorem bf_spec {st : Int} {l : List Arc} {c0 : List Int} {B : Int} (hb : Bd st B c0) (hB : 0 ≤ B) (hl : ∀ a ∈ l, ArcOk st a) : ∀ r : Nat,
    (∃ B', 0 ≤ B' ∧ Bd st B' (iterN (roundF l) r c0)) ∧ (∀ v, v < c0.length → (iterN (roundF l) r c0).getD v 0 ≠ -1 → ∃ k, RN l c0 k v ((iterN (roundF l) r c0).getD v 0)) ∧
      ∀ k v c, RN l c0 k v c → k ≤ r → Le ((iterN (roundF l) r c0).getD v 0) c
  | 0 => by
    refine ⟨⟨B, hB, hb⟩, fun v hv hc => ⟨0, .base hv hc⟩, ?_⟩
    intro k v c h hk
    cases h with
    | base h hc => exact Le.refl _
    | step h ha => omega
  | r + 1 => by
    obtain ⟨⟨B', hB', hb'⟩, h1, h2⟩ := bf_spec hb hB hl r
    have hlen : (iterN (roundF l) r c0).length = c0.length := by have := hb'.len; have := hb.len; omega
    have hf := fold_spec l hb' hB' hl
    have e : iterN (roundF l) (r + 1) c0 = roundF l (iterN (roundF l) r c0) := rfl
    rw [e]
    refine ⟨⟨_, by omega, Bd.fold l hb' hB' hl⟩, ?_, ?_⟩
    · intro v hv
      exact fold_reach l hb' hB' hl (fun _ h => h) (fun v hv => h1 v (by omega)) v (by rw [hf.len]; omega)
    · intro k v c h hk
      have hpos : ∀ v ∈ c0, -1 ≤ v := fun v hv => (hb.bd v hv).1
      cases h with
      | base h hc => exact (hf.le _).trans (h2 _ _ _ (.base h hc) (by omega))
      | step h ha =>
        rename_i k a c
        have h3 := h2 _ _ _ h (by omega)
        have hc := h.pos hl hpos
        have h4 := h3 (by omega)
        have h5 := hf.to a ha h4.1
        intro _
        have hw := (hl a ha).w0
        have h6 := hb'.at (hl a ha).f0 (hl a ha).f1
        have h7 := h5 (by omega)
        exact ⟨h7.1, by omega⟩

/-- The costs, told by what they are. -/
structure Sol (l : List Arc) (c0 D : List Int) : Prop where
  len : D.length = c0.length
  s1 : ∀ v, v < c0.length → Le (D.getD v 0) (c0.getD v 0)
  s2 : ∀ a ∈ l, D.getD a.f.toNat 0 ≠ -1 → Le (D.getD a.t.toNat 0) (D.getD a.f.toNat 0 + a.w)
  s3 : ∀ v, v < c0.length → D.getD v 0 ≠ -1 → ∃ k, k ≤ c0.length ∧ RN l c0 k v (D.getD v 0)

theorem Sol.le {st : Int} {l : List Arc} {c0 D : List Int} (h : Sol l c0 D) (hl : ∀ a ∈ l, ArcOk st a) (hn : (c0.length : Int) = st) (h0 : ∀ v ∈ c0, -1 ≤ v) (hD : ∀ v, v < c0.length → -1 ≤ D.getD v 0) {k v : Nat} {c : Int} (hr : RN l c0 k v c) : Le (D.getD v 0) c := by
  induction hr with
  | base hv hc => exact h.s1 _ hv
  | step hr ha ih =>
    rename_i k a c
    have hc := hr.pos hl h0
    have h1 := ih (by omega)
    have h2 := h.s2 a ha h1.1
    intro _
    have hw := (hl a ha).w0
    have h3 := hD a.f.toNat (hr.lt hl hn)
    have h4 := h2 (by omega)
    exact ⟨h4.1, by omega⟩

theorem RN.perm {l l' : List Arc} {c0 : List Int} (h : ∀ a ∈ l, a ∈ l') {k v : Nat} {c : Int} (hr : RN l c0 k v c) : RN l' c0 k v c := by
  induction hr with
  | base hv hc => exact .base hv hc
  | step hr ha ih => exact .step ih (h _ ha)

/-- A solution is what going over and over comes to, whatever the arcs' order. -/
theorem Sol.eq {st : Int} {l l' : List Arc} {c0 D : List Int} {B : Int} (h : Sol l c0 D) (hb : Bd st B c0) (hB : 0 ≤ B) (hl : ∀ a ∈ l, ArcOk st a) (hll : ∀ a, a ∈ l ↔ a ∈ l') : D = iterN (roundF l') c0.length c0 := by
  have hl' : ∀ a ∈ l', ArcOk st a := fun a ha => hl a ((hll a).2 ha)
  obtain ⟨⟨B', hB', hb'⟩, h1, h2⟩ := bf_spec hb hB hl' c0.length
  have h0 : ∀ v ∈ c0, -1 ≤ v := fun v hv => (hb.bd v hv).1
  have hlen : (iterN (roundF l') c0.length c0).length = c0.length := by have := hb'.len; have := hb.len; omega
  have hD : ∀ v, v < c0.length → -1 ≤ D.getD v 0 := by
    intro v hv
    by_cases e : D.getD v 0 = -1
    · omega
    · obtain ⟨k, _, hk⟩ := h.s3 v hv e
      have := hk.pos hl h0; omega
  refine List.ext_getElem (h.len.trans hlen.symm) fun v hv hv' => ?_
  have hv0 : v < c0.length := by rw [h.len] at hv; exact hv
  have e1 : D[v] = D.getD v 0 := by simp [List.getD, hv]
  have e2 : (iterN (roundF l') c0.length c0)[v] = (iterN (roundF l') c0.length c0).getD v 0 := by simp [List.getD, hv']
  rw [e1, e2]
  by_cases c1 : D.getD v 0 = -1
  · by_cases c2 : (iterN (roundF l') c0.length c0).getD v 0 = -1
    · rw [c1, c2]
    · obtain ⟨k, hk⟩ := h1 v hv0 c2
      have := h.le hl hb.len h0 hD (hk.perm fun a ha => (hll a).2 ha) c2
      exact absurd c1 this.1
  · obtain ⟨k, hk, hr⟩ := h.s3 v hv0 c1
    have h3 := h2 k v _ (hr.perm fun a ha => (hll a).1 ha) hk c1
    obtain ⟨k', hk'⟩ := h1 v hv0 h3.1
    have h4 := h.le hl hb.len h0 hD (hk'.perm fun a ha => (hll a).2 ha) h3.1
    omega

end Go.Fw
