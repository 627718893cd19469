/-
  Short names of the rules that each step of a walk tries; lengths.
-/
import Derived.Test.YtdijmfdanbnppaaDoorS05
import Derived.RangeFuncIn
import Derived.RangeFuncRecord
import Derived.RangeFuncLeaves
import Derived.Test.YtdijmfdanbnppaaDoorProg
import Derived.KernelRfl
import Derived.Deep.Slices
import Derived.Deep.Fields
import Derived.ChangeSame
import Derived.Lib.SmallJoins
import Derived.ProofKit
import Derived.SizedLaws
import Derived.Test.YtdijmfdanbnppaaDoorS04
import Derived.Shelf.Strconv.Itoa3
import Derived.Shelf.Strconv.AtoiAll
import Derived.Shelf.Strings.Split
import Derived.Shelf.Strings.Cut
import Derived.Shelf.Strings.Builder1

set_option linter.unusedSimpArgs false
set_option linter.unusedVariables false

namespace Go.Fw
open Go

theorem oM {p q : Prop} (h1 : p) (h2 : q) : Ob p q := Ob.mk h1 h2
theorem bM {p q : Prop} (h1 : p) (h2 : q) : Both p q := Both.mk h1 h2

/-- What a test tells. -/
class CB (b : Bool) (p q : outParam Prop) : Prop where
  yes : b = true → p
  no : b = false → q
instance {p : Prop} {d : Decidable p} : CB (@decide p d) p (¬ p) := ⟨of_decide_eq_true, of_decide_eq_false⟩
instance {p : Prop} {d : Decidable p} : CB (!(@decide p d)) (¬ p) p := ⟨fun h => of_decide_eq_false (by simpa using h), fun h => of_decide_eq_true (by simpa using h)⟩
instance {a b : Int} : CB (a == b) (a = b) (a ≠ b) := ⟨fun h => by simpa using h, fun h => by simpa using h⟩
instance {a b : Int} : CB (a != b) (a ≠ b) (a = b) := ⟨fun h => by simpa using h, fun h => by simpa using h⟩
instance {x y : ByteArray} : CB (x.toList == y.toList) (x.data.toList = y.data.toList) (x.data.toList ≠ y.data.toList) := ⟨fun h => by rw [← ByteArray.toList_eq, ← ByteArray.toList_eq]; simpa using h, fun h => by rw [← ByteArray.toList_eq, ← ByteArray.toList_eq]; simpa using h⟩
instance {x y : ByteArray} : CB (!(x.toList == y.toList)) (x.data.toList ≠ y.data.toList) (x.data.toList = y.data.toList) := ⟨fun h => by rw [← ByteArray.toList_eq, ← ByteArray.toList_eq]; simpa using h, fun h => by rw [← ByteArray.toList_eq, ← ByteArray.toList_eq]; simpa using h⟩
instance (priority := low) (b : Bool) : CB b (b = true) (b = false) := ⟨id, id⟩
theorem qX {b : Bool} {p q x y : Prop} [c : CB b p q] (h1 : p → x) (h2 : q → y) : condP b x y := condP_mk (fun h => h1 (c.yes h)) fun h => h2 (c.no h)

theorem lenS : (∀ {α : Type} (a b : List α), (a ++ b).length = a.length + b.length) ∧ (∀ {α : Type} (n : Nat) (x : α), (List.replicate n x).length = n) ∧ (∀ {α : Type} (x : α) (l : List α), (x :: l).length = l.length + 1) ∧ (∀ {α : Type}, ([] : List α).length = 0) ∧
    (∀ {α β : Type} (f : α → β) (l : List α), (l.map f).length = l.length) ∧ (∀ {α : Type} (l : List α) (i : Nat) (x : α), (l.set i x).length = l.length) ∧ (∀ {α : Type} (l : List α) (i : Nat), (l.take i).length = min i l.length) ∧ (∀ {α : Type} (l : List α) (i : Nat), (l.drop i).length = l.length - i) ∧
    (∀ {α : Type} (l : List α), l.reverse.length = l.length) ∧ (∀ n : Nat, (List.range n).length = n) ∧ (∀ n : Nat, 0 + n = n) ∧ (∀ n : Nat, n + 0 = n) ∧ (∀ n : Nat, (n : Int).toNat = n) :=
  ⟨fun _ _ => List.length_append, fun _ _ => List.length_replicate, fun _ _ => List.length_cons, List.length_nil, fun _ _ => List.length_map _, fun _ _ _ => List.length_set, fun _ _ => List.length_take, fun _ _ => List.length_drop, fun _ => List.length_reverse, fun _ => List.length_range, Nat.zero_add, Nat.add_zero, Int.toNat_natCast⟩
theorem mk_bs (l : List UInt8) : (⟨l.toArray⟩ : ByteArray) = bs l := rfl
/-- A bound that is reckoned by itself. -/
theorem oN {p q : Prop} (h2 : q) (h1 : p := by first | omega | (simp only [lenS, InI, nmin, EK.sz]; omega) | (simp only [lenS, InI, nmin, EK.sz] at *; omega) | (simp only [mk_bs, bs_app, bs_size, lenS, InI]; omega)) : Ob p q := Ob.mk h1 h2
end Go.Fw

/-
  Rows of a pool lent to a callee.
-/
namespace Go.Fw
open Go

def rowAK (sz : Nat) : Nat → List Bool → List SV → (List SV → List Sli → Prop) → Prop
  | nx, true :: bs, .a (.c (.h x)) :: l, k => rowAK sz (nx + 1) bs l fun l' vs => k (.c (.sl nx sz 0 x.n x.c) :: l') (x :: vs)
  | nx, false :: bs, v :: l, k => rowAK sz nx bs l fun l' vs => k (v :: l') vs
  | _, [], l, k => k l []
  | _, _, _, _ => False

def rowsO (E : Nat) (k : EK) (m : List (Addr × List k.ty × Nat)) : Nat → List Sli → List (Nat × SO)
  | _, [] => []
  | nx, x :: l => (nx, .arr false E k (rowA m x.a) 0) :: rowsO E k m (nx + 1) l

def SO.strict : SO → Bool
  | .arr own _ _ _ _ => own
  | _ => true

def SO.ro : SO → Bool
  | .arr own _ _ _ _ => !own
  | _ => false

def filK (p : SO → Bool) : List (Nat × SO) → (List (Nat × SO) → Prop) → Prop
  | [], k => k []
  | (i, o) :: l, k => match p o with
    | true => filK p l fun l' => k ((i, o) :: l')
    | false => filK p l k

def filL (p : SO → Bool) : List (Nat × SO) → List (Nat × SO)
  | [] => []
  | (i, o) :: l => match p o with
    | true => (i, o) :: filL p l
    | false => filL p l

section
variable {P : Program} {β : Env} {Z : Nat → Prop} {fp : Nat → Nat → Prop} {s : S} {w w' : World}

end
end Go.Fw

/-
  A function's text cut in two: what holds between.
-/
namespace Go.Fw
open Go

def takeC : Nat → Code → Code
  | 0, _ => .skip
  | k + 1, .seq a b => .seq a (takeC k b)
  | _ + 1, _ => .goto 0

def dropC : Nat → Code → Code
  | 0, c => c
  | k + 1, .seq _ b => dropC k b
  | _ + 1, _ => .skip

theorem SemC.of {P : Program} {ty : List (Nat × STy)} (hty : TyOk P ty) {N n0 : Nat} (n : Nat) (live : List Nat) {c : Code} {kn kr : S → Prop} {ke : Nat → S → Prop} {s : S} (h : exec P ty N AnyE n0 n live c kn kr ke s) : SemC P N n0 c kn kr ke s := by
  intro C hN h0 a w hs
  subst hN h0
  exact exec_sound hty (E := AnyE) (fun _ _ => trivial) c kn kr ke s a w h hs

theorem SemC.sub {P : Program} {N n0 : Nat} {c : Code} {kn kr : S → Prop} {ke : Nat → S → Prop} {s s1 : S} {ren : List (Nat × Option Nat)} (h : SemC P N n0 c kn kr ke s1) (hs : Sub n0 ren s1 s) : SemC P N n0 c kn kr ke s := by
  intro C hN h0 a w hsat
  subst h0
  exact h C hN rfl a w (hsat.sub hs)

/-- The text is cut behind its first k statements. -/
theorem SemC.cut {P : Program} {ty : List (Nat × STy)} (hty : TyOk P ty) {N n0 : Nat} (n : Nat) (live : List Nat) {kn kr : S → Prop} {ke : Nat → S → Prop} {α : Type} (pat : α → S) (inv : α → Prop) : ∀ (k : Nat) (c : Code) (s : S),
    exec P ty N AnyE n0 n live (takeC k c) (fun s' => ∃ x ren, Sub n0 ren (pat x) s' ∧ inv x) kr ke s → (∀ x, inv x → SemC P N n0 (dropC k c) kn kr ke (pat x)) → SemC P N n0 c kn kr ke s
  | 0, c, s, h, hk => by
    obtain ⟨x, ren, hsub, hi⟩ := h
    exact (hk x hi).sub hsub
  | k + 1, c, s, h, hk => by
    cases c <;> first
      | exact h.elim
      | skip
    rename_i x y
    intro C hN h0 a w hs
    subst hN h0
    refine wp_seq (wp_mono (exec_sound hty (E := AnyE) (fun _ _ => trivial) x _ kr ke s a w h hs) ?_)
    intro e a w hq
    cases e <;> first
      | exact hq
      | (obtain ⟨s', hk', hs'⟩ := hq; exact SemC.cut hty n live pat inv k y s' hk' hk C rfl rfl a w hs')

end Go.Fw

/-
  The built-in clear over a list of one's own; a list of one's own cut short.
-/
namespace Go.Fw
open Go

section
variable {P : Program} {ty : List (Nat × STy)}

end
end Go.Fw

/-
  A range over a function: the call of yield; the statement.
-/
namespace Go.Fw
open Go

/-- The loop's record. -/
def loopO (l : Nat) (r : Loop) : SO := .gen fun oa fp w => oa = some ⟨l, 0, none⟩ ∧ fp l ∧ w.heap[l]? = some (.loop r)
/-- The block of the calls that its rounds have deferred: none. -/
def markO (D : Nat) : SO := .gen fun oa fp w => oa = some ⟨D, 0, none⟩ ∧ fp D ∧ w.heap[D]? = some (.deferred (some []))

section
variable {P : Program} {ty : List (Nat × STy)} {β : Env} {Z : Nat → Prop} {fp : Nat → Nat → Prop} {s : S} {w : World}

theorem putObj_other {l : Nat} {o : Obj} {b : Nat} (h : b ≠ l) : (w.putObj l o).heap[b]? = w.heap[b]? := World.putObj_heap_other h
end
end Go.Fw

/-
  A function that ranges over a function, from its text.
-/
namespace Go.Fw
open Go

/-- What is no longer looked at. -/
def junkO : SO := .gen fun _ _ _ => True
theorem junkO_ok {β : Env} {Z : Nat → Prop} {fp : Nat → Prop} {w : World} {oa : Option Addr} : junkO.ok β Z fp w oa := ⟨trivial, fun _ _ _ => trivial⟩

/-- The objects from of old lie where they lay. -/
def EIt (n1 : Nat) (β1 : Env) : Env → Prop := fun β => ∀ id, id < n1 → β id = β1 id

/-- The loop's record, as it stands between the rounds. -/
structure RecOk (N : Nat) (fr : List (Nat × SV)) (β1 : Env) (n1 p q i1 : Nat) (ops1 : Array Oper) (i2 : Nat) (ops2 : Array Oper) (b i3 : Nat) (ops3 : Array Oper) (r : Loop) : Prop where
  rd : r.state = .ready
  pd : r.pending = none
  ps : r.params = #[p, q]
  has : r.assign = .seq (.region i1 ops1 false) (.region i2 ops2 false)
  bo : r.body = .block b (.region i3 ops3 false)
  sz : r.tmps.size = N
  fr : ∀ t v, look fr t = some v → r.tmps[t]? = some (v.den β1) ∧ v.lt n1

theorem HSat.junk {β : Env} {Z : Nat → Prop} {fp : Nat → Nat → Prop} {s : S} {w : World} (hs : HSat β Z fp s w) {id l : Nat} {o : SO} (x : Obj) (hl : look s.hp id = some o) (hfl : fp id l) : HSat β Z fp ⟨s.fr, upd s.hp id junkO, s.nx⟩ (w.putObj l x) :=
  hs.put hl (fun b hb => putObj_other (fun e => hb (e ▸ hfl))) (by simp [World.putObj]) junkO_ok trivial

/-- The end behind a range over a function: the mark is taken away. -/
def markK (ty : List (Nat × STy)) (rs : List ResultVar) (n0 mid D : Nat) (post : SV → S → Prop) (s : S) : Prop :=
  Ob (look s.hp mid = some (markO D)) (updK s.hp mid junkO fun hp => retK ty rs (Back n0 post) ⟨s.fr, hp, s.nx⟩)

end Go.Fw

/-
  A range over a function whose head stands in one part with the region before it; an own empty list handed on.
-/
namespace Go.Fw
open Go

end Go.Fw

/-
  A part of a lent list handed on.
-/
namespace Go.Fw
open Go

end Go.Fw

/-
  Two pools of ints behind a call: one pool.
-/
namespace Go.Fw
open Go

section
variable {P : Program} {β : Env} {Z : Nat → Prop} {fp : Nat → Nat → Prop} {s : S} {w : World}

end
end Go.Fw

/-
  The types of the program as the executor sees them. (Printed by gentypes.py.)
-/
namespace Go.Fw
open Go Go.Proofs

def Tryd.ty : List (Nat × STy) := [
  (3, ⟨1, false, [], [.i 0], none, none⟩),
  (4, ⟨2, false, [], [.b false], none, none⟩),
  (5, ⟨9, false, [], [.v (.int .u8 0)], none, none⟩),
  (9, ⟨3, false, [], [.v (.string ⟨#[]⟩)], none, none⟩),
  (22, ⟨6, false, [], [.v (.slice none 0 0)], some (3, .int, 8), none⟩),
  (23, ⟨6, false, [], [.v (.slice none 0 0)], some (35, .arc, 40), none⟩),
  (25, ⟨5, true, [(0, 1), (1, 1), (2, 1), (3, 1)], [.i 0, .i 0, .v (.slice none 0 0), .v (.slice none 0 0)], none, none⟩),
  (26, ⟨1, false, [], [.i 0], none, none⟩),
  (35, ⟨7, true, [(0, 1), (1, 1), (2, 1), (3, 1), (4, 1)], [.i 0, .i 0, .i 0, .i 0, .i 0], none, none⟩),
  (49, ⟨0, false, [], [.v (.pointer none)], none, none⟩),
  (51, ⟨7, true, [(0, 1), (1, 1), (2, 1)], [.i 0, .i 0, .i 0], none, none⟩),
  (54, ⟨0, false, [], [.v (.pointer none)], none, none⟩),
  (55, ⟨6, false, [], [.v (.slice none 0 0)], some (22, .sli, 24), none⟩),
  (56, ⟨0, false, [], [.v (.map none)], none, some (51, .trip, 54, .adr)⟩),
  (58, ⟨5, true, [(0, 4), (4, 1), (5, 1), (6, 1), (7, 1)], [.i 0, .i 0, .v (.slice none 0 0), .v (.slice none 0 0), .v (.slice none 0 0), .v (.slice none 0 0), .v (.slice none 0 0), .v (.map none)], none, none⟩),
  (60, ⟨5, true, [(0, 1), (1, 1), (2, 3), (5, 1)], [.i 0, .i 0, .i 0, .i 0, .i 0, .b false], none, none⟩),
  (67, ⟨5, true, [(0, 1), (1, 1)], [.v (.pointer none), .v (.slice none 0 0)], none, none⟩),
  (69, ⟨10, false, [], [.v .nilIface], none, none⟩),
  (77, ⟨6, false, [], [.v (.slice none 0 0)], some (4, .bool, 1), none⟩),
  (81, ⟨0, false, [], [.v (.pointer none)], none, none⟩),
  (83, ⟨5, true, [(0, 4), (4, 1), (5, 1)], [.i 0, .i 0, .v (.slice none 0 0), .v (.slice none 0 0), .i 0, .b false], none, none⟩),
  (86, ⟨6, false, [], [.v (.slice none 0 0)], some (9, .str, 16), none⟩),
  (107, ⟨0, false, [], [.v (.map none)], none, some (3, .int, 3, .int)⟩),
  (113, ⟨4, false, [], [.u 0], none, none⟩),
  (120, ⟨4, false, [], [.u 0], none, none⟩)]

set_option maxRecDepth 100000 in
theorem Tryd.cmp35 : CmpOk Tryd.prog 35 5 := by
    refine ⟨fun op x y xs ys w => run_eqGuard_agg w op 35 x y xs ys (by kernel_rfl), fun l m w hl hm => ?_⟩
    have h3 : Tryd.prog.underlying 3 = some (.int .i64) := by kernel_rfl
    have hp : ∀ (cs : Array Value) (i : Nat) (v : Value) (w : World), cs[i]? = some v → (part 3 cs i).run Tryd.prog w = .ok v w := by
      intro cs i v w h
      simp [part, (by kernel_rfl : (isAgg 3).run Tryd.prog w = .ok false w), h]
    have hi : ∀ (a b : Int) (w : World), (Op.equalIn 9999 3 (.int .i64 a) (.int .i64 b)).run Tryd.prog w = .ok (a == b) w := fun a b w => run_equalIn_int w 9998 3 .i64 .i64 a b h3
    match l, m, hl, hm with
    | [a0, a1, a2, a3, a4], [b0, b1, b2, b3, b4], _, _ =>
      rw [run_equalIn_struct w 9999 35 _ _ (by kernel_rfl) (by kernel_rfl)]
      unfold Program.fieldsOf
      rw [Tryd.underlying35]
      generalize hA : (List.map (Value.int .i64) [a0, a1, a2, a3, a4]).toArray = A
      generalize hB : (List.map (Value.int .i64) [b0, b1, b2, b3, b4]).toArray = B
      have g : ∀ (i : Nat) (x y : Int) (w : World) (r : Sem Bool), A[i]? = some (.int .i64 x) → B[i]? = some (.int .i64 y) → ((do let a ← part 3 A i; let b ← part 3 B i; let r' ← Op.equalIn 9999 3 a b; if (!r') = true then pure false else r : Sem Bool)).run Tryd.prog w = if x = y then r.run Tryd.prog w else .ok false w := by
        intro i x y w r h1 h2
        by_cases hxy : x = y <;> simp [hp A i _ w h1, hp B i _ w h2, hi, hxy]
      subst hA hB
      simp only [Op.eqFields, ne_eq, String.reduceEq, not_false_eq_true, if_true]
      rw [g 0 a0 b0 w _ rfl rfl, g 1 a1 b1 w _ rfl rfl, g 2 a2 b2 w _ rfl rfl, g 3 a3 b3 w _ rfl rfl, g 4 a4 b4 w _ rfl rfl]
      by_cases h0 : a0 = b0 <;> by_cases h1 : a1 = b1 <;> by_cases h2 : a2 = b2 <;> by_cases h3 : a3 = b3 <;> by_cases h4 : a4 = b4 <;> simp [h0, h1, h2, h3, h4]

set_option maxRecDepth 100000 in
theorem Tryd.cmp51 : CmpOk Tryd.prog 51 3 := by
    refine ⟨fun op x y xs ys w => run_eqGuard_agg w op 51 x y xs ys (by kernel_rfl), fun l m w hl hm => ?_⟩
    have h3 : Tryd.prog.underlying 3 = some (.int .i64) := by kernel_rfl
    have hp : ∀ (cs : Array Value) (i : Nat) (v : Value) (w : World), cs[i]? = some v → (part 3 cs i).run Tryd.prog w = .ok v w := by
      intro cs i v w h
      simp [part, (by kernel_rfl : (isAgg 3).run Tryd.prog w = .ok false w), h]
    have hi : ∀ (a b : Int) (w : World), (Op.equalIn 9999 3 (.int .i64 a) (.int .i64 b)).run Tryd.prog w = .ok (a == b) w := fun a b w => run_equalIn_int w 9998 3 .i64 .i64 a b h3
    match l, m, hl, hm with
    | [a0, a1, a2], [b0, b1, b2], _, _ =>
      rw [run_equalIn_struct w 9999 51 _ _ (by kernel_rfl) (by kernel_rfl)]
      unfold Program.fieldsOf
      rw [Tryd.underlying51]
      generalize hA : (List.map (Value.int .i64) [a0, a1, a2]).toArray = A
      generalize hB : (List.map (Value.int .i64) [b0, b1, b2]).toArray = B
      have g : ∀ (i : Nat) (x y : Int) (w : World) (r : Sem Bool), A[i]? = some (.int .i64 x) → B[i]? = some (.int .i64 y) → ((do let a ← part 3 A i; let b ← part 3 B i; let r' ← Op.equalIn 9999 3 a b; if (!r') = true then pure false else r : Sem Bool)).run Tryd.prog w = if x = y then r.run Tryd.prog w else .ok false w := by
        intro i x y w r h1 h2
        by_cases hxy : x = y <;> simp [hp A i _ w h1, hp B i _ w h2, hi, hxy]
      subst hA hB
      simp only [Op.eqFields, ne_eq, String.reduceEq, not_false_eq_true, if_true]
      rw [g 0 a0 b0 w _ rfl rfl, g 1 a1 b1 w _ rfl rfl, g 2 a2 b2 w _ rfl rfl]
      by_cases h0 : a0 = b0 <;> by_cases h1 : a1 = b1 <;> by_cases h2 : a2 = b2 <;> simp [h0, h1, h2]

set_option maxRecDepth 100000 in
theorem Tryd.tyOk3 : TyOk1 Tryd.prog 3 ⟨1, false, [], [.i 0], none, none⟩ where
  agg _ := by kernel_rfl
  size _ := by kernel_rfl
  zero _ := by kernel_rfl
  one _ := ⟨_, rfl⟩
  zlt := by simp [SC.lt]
  str h := by cases h
  bt h := by cases h
  sl _ _ _ h := by cases h
  mp _ _ _ _ h := by cases h
  kd1 _ := by kernel_rfl
  kd2 h := by cases h
  kd3 h := by cases h
  kd4 h := by cases h
  kd9 h := by cases h
  kd10 h := by cases h
  cmp h := by cases h

set_option maxRecDepth 100000 in
theorem Tryd.tyOk4 : TyOk1 Tryd.prog 4 ⟨2, false, [], [.b false], none, none⟩ where
  agg _ := by kernel_rfl
  size _ := by kernel_rfl
  zero _ := by kernel_rfl
  one _ := ⟨_, rfl⟩
  zlt := by simp [SC.lt]
  str h := by cases h
  bt h := by cases h
  sl _ _ _ h := by cases h
  mp _ _ _ _ h := by cases h
  kd1 h := by cases h
  kd2 _ := by kernel_rfl
  kd3 h := by cases h
  kd4 h := by cases h
  kd9 h := by cases h
  kd10 h := by cases h
  cmp h := by cases h

set_option maxRecDepth 100000 in
theorem Tryd.tyOk5 : TyOk1 Tryd.prog 5 ⟨9, false, [], [.v (.int .u8 0)], none, none⟩ where
  agg _ := by kernel_rfl
  size _ := by kernel_rfl
  zero _ := by kernel_rfl
  one _ := ⟨_, rfl⟩
  zlt := by simp [SC.lt, Value.oneCell']
  str h := by cases h
  bt h := by cases h
  sl _ _ _ h := by cases h
  mp _ _ _ _ h := by cases h
  kd1 h := by cases h
  kd2 h := by cases h
  kd3 h := by cases h
  kd4 h := by cases h
  kd9 _ := by kernel_rfl
  kd10 h := by cases h
  cmp h := by cases h

set_option maxRecDepth 100000 in
theorem Tryd.tyOk9 : TyOk1 Tryd.prog 9 ⟨3, false, [], [.v (.string ⟨#[]⟩)], none, none⟩ where
  agg _ := by kernel_rfl
  size _ := by kernel_rfl
  zero _ := by kernel_rfl
  one _ := ⟨_, rfl⟩
  zlt := by simp [SC.lt, Value.oneCell']
  str h := by cases h
  bt h := by cases h
  sl _ _ _ h := by cases h
  mp _ _ _ _ h := by cases h
  kd1 h := by cases h
  kd2 h := by cases h
  kd3 _ := by kernel_rfl
  kd4 h := by cases h
  kd9 h := by cases h
  kd10 h := by cases h
  cmp h := by cases h

set_option maxRecDepth 100000 in
theorem Tryd.tyOk22 : TyOk1 Tryd.prog 22 ⟨6, false, [], [.v (.slice none 0 0)], some (3, .int, 8), none⟩ where
  agg _ := by kernel_rfl
  size _ := by kernel_rfl
  zero _ := by kernel_rfl
  one _ := ⟨_, rfl⟩
  zlt := by simp [SC.lt, Value.oneCell']
  str h := by cases h
  bt h := by cases h
  sl _ _ _ h := by cases h; exact ⟨by kernel_rfl, fun _ => by kernel_rfl, Tryd.t3, _, by kernel_rfl, rfl, rfl, rfl, rfl⟩
  mp _ _ _ _ h := by cases h
  kd1 h := by cases h
  kd2 h := by cases h
  kd3 h := by cases h
  kd4 h := by cases h
  kd9 h := by cases h
  kd10 h := by cases h
  cmp h := by cases h

set_option maxRecDepth 100000 in
theorem Tryd.tyOk23 : TyOk1 Tryd.prog 23 ⟨6, false, [], [.v (.slice none 0 0)], some (35, .arc, 40), none⟩ where
  agg _ := by kernel_rfl
  size _ := by kernel_rfl
  zero _ := by kernel_rfl
  one _ := ⟨_, rfl⟩
  zlt := by simp [SC.lt, Value.oneCell']
  str h := by cases h
  bt h := by cases h
  sl _ _ _ h := by cases h; exact ⟨by kernel_rfl, fun _ => by kernel_rfl, Tryd.t35, _, by kernel_rfl, rfl, rfl, rfl, rfl⟩
  mp _ _ _ _ h := by cases h
  kd1 h := by cases h
  kd2 h := by cases h
  kd3 h := by cases h
  kd4 h := by cases h
  kd9 h := by cases h
  kd10 h := by cases h
  cmp h := by cases h

set_option maxRecDepth 100000 in
theorem Tryd.tyOk25 : TyOk1 Tryd.prog 25 ⟨5, true, [(0, 1), (1, 1), (2, 1), (3, 1)], [.i 0, .i 0, .v (.slice none 0 0), .v (.slice none 0 0)], none, none⟩ where
  agg _ := by kernel_rfl
  size _ := by kernel_rfl
  zero _ := by kernel_rfl
  one h := by cases h
  zlt := by simp [SC.lt, Value.oneCell']
  str _ := by
    refine ⟨_, Tryd.underlying25, ?_⟩
    intro i p h
    match i, h with
    | 0, h => cases h; exact ⟨_, rfl, rfl, fun _ => by kernel_rfl, by decide⟩
    | 1, h => cases h; exact ⟨_, rfl, rfl, fun _ => by kernel_rfl, by decide⟩
    | 2, h => cases h; exact ⟨_, rfl, rfl, fun _ => by kernel_rfl, by decide⟩
    | 3, h => cases h; exact ⟨_, rfl, rfl, fun _ => by kernel_rfl, by decide⟩
    | n + 4, h => simp at h
  bt _ parts := by kernel_rfl
  sl _ _ _ h := by cases h
  mp _ _ _ _ h := by cases h
  kd1 h := by cases h
  kd2 h := by cases h
  kd3 h := by cases h
  kd4 h := by cases h
  kd9 h := by cases h
  kd10 h := by cases h
  cmp h := by cases h

set_option maxRecDepth 100000 in
theorem Tryd.tyOk26 : TyOk1 Tryd.prog 26 ⟨1, false, [], [.i 0], none, none⟩ where
  agg _ := by kernel_rfl
  size _ := by kernel_rfl
  zero _ := by kernel_rfl
  one _ := ⟨_, rfl⟩
  zlt := by simp [SC.lt]
  str h := by cases h
  bt h := by cases h
  sl _ _ _ h := by cases h
  mp _ _ _ _ h := by cases h
  kd1 _ := by kernel_rfl
  kd2 h := by cases h
  kd3 h := by cases h
  kd4 h := by cases h
  kd9 h := by cases h
  kd10 h := by cases h
  cmp h := by cases h

set_option maxRecDepth 100000 in
theorem Tryd.tyOk35 : TyOk1 Tryd.prog 35 ⟨7, true, [(0, 1), (1, 1), (2, 1), (3, 1), (4, 1)], [.i 0, .i 0, .i 0, .i 0, .i 0], none, none⟩ where
  agg _ := by kernel_rfl
  size _ := by kernel_rfl
  zero _ := by kernel_rfl
  one h := by cases h
  zlt := by simp [SC.lt]
  str _ := by
    refine ⟨_, Tryd.underlying35, ?_⟩
    intro i p h
    match i, h with
    | 0, h => cases h; exact ⟨_, rfl, rfl, fun _ => by kernel_rfl, by decide⟩
    | 1, h => cases h; exact ⟨_, rfl, rfl, fun _ => by kernel_rfl, by decide⟩
    | 2, h => cases h; exact ⟨_, rfl, rfl, fun _ => by kernel_rfl, by decide⟩
    | 3, h => cases h; exact ⟨_, rfl, rfl, fun _ => by kernel_rfl, by decide⟩
    | 4, h => cases h; exact ⟨_, rfl, rfl, fun _ => by kernel_rfl, by decide⟩
    | n + 5, h => simp at h
  bt _ parts := by kernel_rfl
  sl _ _ _ h := by cases h
  mp _ _ _ _ h := by cases h
  kd1 h := by cases h
  kd2 h := by cases h
  kd3 h := by cases h
  kd4 h := by cases h
  kd9 h := by cases h
  kd10 h := by cases h
  cmp _ := Tryd.cmp35

set_option maxRecDepth 100000 in
theorem Tryd.tyOk49 : TyOk1 Tryd.prog 49 ⟨0, false, [], [.v (.pointer none)], none, none⟩ where
  agg _ := by kernel_rfl
  size _ := by kernel_rfl
  zero _ := by kernel_rfl
  one _ := ⟨_, rfl⟩
  zlt := by simp [SC.lt, Value.oneCell']
  str h := by cases h
  bt h := by cases h
  sl _ _ _ h := by cases h
  mp _ _ _ _ h := by cases h
  kd1 h := by cases h
  kd2 h := by cases h
  kd3 h := by cases h
  kd4 h := by cases h
  kd9 h := by cases h
  kd10 h := by cases h
  cmp h := by cases h

set_option maxRecDepth 100000 in
theorem Tryd.tyOk51 : TyOk1 Tryd.prog 51 ⟨7, true, [(0, 1), (1, 1), (2, 1)], [.i 0, .i 0, .i 0], none, none⟩ where
  agg _ := by kernel_rfl
  size _ := by kernel_rfl
  zero _ := by kernel_rfl
  one h := by cases h
  zlt := by simp [SC.lt]
  str _ := by
    refine ⟨_, Tryd.underlying51, ?_⟩
    intro i p h
    match i, h with
    | 0, h => cases h; exact ⟨_, rfl, rfl, fun _ => by kernel_rfl, by decide⟩
    | 1, h => cases h; exact ⟨_, rfl, rfl, fun _ => by kernel_rfl, by decide⟩
    | 2, h => cases h; exact ⟨_, rfl, rfl, fun _ => by kernel_rfl, by decide⟩
    | n + 3, h => simp at h
  bt _ parts := by kernel_rfl
  sl _ _ _ h := by cases h
  mp _ _ _ _ h := by cases h
  kd1 h := by cases h
  kd2 h := by cases h
  kd3 h := by cases h
  kd4 h := by cases h
  kd9 h := by cases h
  kd10 h := by cases h
  cmp _ := Tryd.cmp51

set_option maxRecDepth 100000 in
theorem Tryd.tyOk54 : TyOk1 Tryd.prog 54 ⟨0, false, [], [.v (.pointer none)], none, none⟩ where
  agg _ := by kernel_rfl
  size _ := by kernel_rfl
  zero _ := by kernel_rfl
  one _ := ⟨_, rfl⟩
  zlt := by simp [SC.lt, Value.oneCell']
  str h := by cases h
  bt h := by cases h
  sl _ _ _ h := by cases h
  mp _ _ _ _ h := by cases h
  kd1 h := by cases h
  kd2 h := by cases h
  kd3 h := by cases h
  kd4 h := by cases h
  kd9 h := by cases h
  kd10 h := by cases h
  cmp h := by cases h

set_option maxRecDepth 100000 in
theorem Tryd.tyOk55 : TyOk1 Tryd.prog 55 ⟨6, false, [], [.v (.slice none 0 0)], some (22, .sli, 24), none⟩ where
  agg _ := by kernel_rfl
  size _ := by kernel_rfl
  zero _ := by kernel_rfl
  one _ := ⟨_, rfl⟩
  zlt := by simp [SC.lt, Value.oneCell']
  str h := by cases h
  bt h := by cases h
  sl _ _ _ h := by cases h; exact ⟨by kernel_rfl, fun _ => by kernel_rfl, Tryd.t22, _, by kernel_rfl, rfl, rfl, rfl, rfl⟩
  mp _ _ _ _ h := by cases h
  kd1 h := by cases h
  kd2 h := by cases h
  kd3 h := by cases h
  kd4 h := by cases h
  kd9 h := by cases h
  kd10 h := by cases h
  cmp h := by cases h

set_option maxRecDepth 100000 in
theorem Tryd.tyOk56 : TyOk1 Tryd.prog 56 ⟨0, false, [], [.v (.map none)], none, some (51, .trip, 54, .adr)⟩ where
  agg _ := by kernel_rfl
  size _ := by kernel_rfl
  zero _ := by kernel_rfl
  one _ := ⟨_, rfl⟩
  zlt := by simp [SC.lt, Value.oneCell']
  str h := by cases h
  bt h := by cases h
  sl _ _ _ h := by cases h
  mp _ _ _ _ h := by
    cases h
    refine mapOk_trip (by kernel_rfl) Tryd.underlying51 ?_ (Tryd.cmp51).2 (fun _ => by kernel_rfl)
    intro x w e
    refine ck_str3 e 9998 _ w Tryd.underlying51 ?_
    intro f hf
    simp only [List.mem_cons, List.not_mem_nil, or_false] at hf
    have h3 : Tryd.prog.underlying 3 = some (.int .i64) := by kernel_rfl
    have hp : ∀ (cs : Array Value) (i : Nat) (v : Value) (w : World), cs[i]? = some v → (part 3 cs i).run Tryd.prog w = .ok v w := by
      intro cs i v w h
      simp [part, (by kernel_rfl : (isAgg 3).run Tryd.prog w = .ok false w), h]
    rcases hf with rfl | rfl | rfl
    · exact ⟨_, hp _ 0 _ w rfl, h3⟩
    · exact ⟨_, hp _ 1 _ w rfl, h3⟩
    · exact ⟨_, hp _ 2 _ w rfl, h3⟩
  kd1 h := by cases h
  kd2 h := by cases h
  kd3 h := by cases h
  kd4 h := by cases h
  kd9 h := by cases h
  kd10 h := by cases h
  cmp h := by cases h

set_option maxRecDepth 100000 in
theorem Tryd.tyOk58 : TyOk1 Tryd.prog 58 ⟨5, true, [(0, 4), (4, 1), (5, 1), (6, 1), (7, 1)], [.i 0, .i 0, .v (.slice none 0 0), .v (.slice none 0 0), .v (.slice none 0 0), .v (.slice none 0 0), .v (.slice none 0 0), .v (.map none)], none, none⟩ where
  agg _ := by kernel_rfl
  size _ := by kernel_rfl
  zero _ := by kernel_rfl
  one h := by cases h
  zlt := by simp [SC.lt, Value.oneCell']
  str _ := by
    refine ⟨_, Tryd.underlying58, ?_⟩
    intro i p h
    match i, h with
    | 0, h => cases h; exact ⟨_, rfl, rfl, fun _ => by kernel_rfl, by decide⟩
    | 1, h => cases h; exact ⟨_, rfl, rfl, fun _ => by kernel_rfl, by decide⟩
    | 2, h => cases h; exact ⟨_, rfl, rfl, fun _ => by kernel_rfl, by decide⟩
    | 3, h => cases h; exact ⟨_, rfl, rfl, fun _ => by kernel_rfl, by decide⟩
    | 4, h => cases h; exact ⟨_, rfl, rfl, fun _ => by kernel_rfl, by decide⟩
    | n + 5, h => simp at h
  bt _ parts := by kernel_rfl
  sl _ _ _ h := by cases h
  mp _ _ _ _ h := by cases h
  kd1 h := by cases h
  kd2 h := by cases h
  kd3 h := by cases h
  kd4 h := by cases h
  kd9 h := by cases h
  kd10 h := by cases h
  cmp h := by cases h

set_option maxRecDepth 100000 in
theorem Tryd.tyOk60 : TyOk1 Tryd.prog 60 ⟨5, true, [(0, 1), (1, 1), (2, 3), (5, 1)], [.i 0, .i 0, .i 0, .i 0, .i 0, .b false], none, none⟩ where
  agg _ := by kernel_rfl
  size _ := by kernel_rfl
  zero _ := by kernel_rfl
  one h := by cases h
  zlt := by simp [SC.lt]
  str _ := by
    refine ⟨_, Tryd.underlying60, ?_⟩
    intro i p h
    match i, h with
    | 0, h => cases h; exact ⟨_, rfl, rfl, fun _ => by kernel_rfl, by decide⟩
    | 1, h => cases h; exact ⟨_, rfl, rfl, fun _ => by kernel_rfl, by decide⟩
    | 2, h => cases h; exact ⟨_, rfl, rfl, fun _ => by kernel_rfl, by decide⟩
    | 3, h => cases h; exact ⟨_, rfl, rfl, fun _ => by kernel_rfl, by decide⟩
    | n + 4, h => simp at h
  bt _ parts := by kernel_rfl
  sl _ _ _ h := by cases h
  mp _ _ _ _ h := by cases h
  kd1 h := by cases h
  kd2 h := by cases h
  kd3 h := by cases h
  kd4 h := by cases h
  kd9 h := by cases h
  kd10 h := by cases h
  cmp h := by cases h

set_option maxRecDepth 100000 in
theorem Tryd.tyOk67 : TyOk1 Tryd.prog 67 ⟨5, true, [(0, 1), (1, 1)], [.v (.pointer none), .v (.slice none 0 0)], none, none⟩ where
  agg _ := by kernel_rfl
  size _ := by kernel_rfl
  zero _ := by kernel_rfl
  one h := by cases h
  zlt := by simp [SC.lt, Value.oneCell']
  str _ := by
    refine ⟨_, Tryd.underlying67, ?_⟩
    intro i p h
    match i, h with
    | 0, h => cases h; exact ⟨_, rfl, rfl, fun _ => by kernel_rfl, by decide⟩
    | 1, h => cases h; exact ⟨_, rfl, rfl, fun _ => by kernel_rfl, by decide⟩
    | n + 2, h => simp at h
  bt _ parts := by kernel_rfl
  sl _ _ _ h := by cases h
  mp _ _ _ _ h := by cases h
  kd1 h := by cases h
  kd2 h := by cases h
  kd3 h := by cases h
  kd4 h := by cases h
  kd9 h := by cases h
  kd10 h := by cases h
  cmp h := by cases h

set_option maxRecDepth 100000 in
theorem Tryd.tyOk69 : TyOk1 Tryd.prog 69 ⟨10, false, [], [.v .nilIface], none, none⟩ where
  agg _ := by kernel_rfl
  size _ := by kernel_rfl
  zero _ := by kernel_rfl
  one _ := ⟨_, rfl⟩
  zlt := by simp [SC.lt, Value.oneCell']
  str h := by cases h
  bt h := by cases h
  sl _ _ _ h := by cases h
  mp _ _ _ _ h := by cases h
  kd1 h := by cases h
  kd2 h := by cases h
  kd3 h := by cases h
  kd4 h := by cases h
  kd9 h := by cases h
  kd10 _ := ⟨_, Tryd.underlying69⟩
  cmp h := by cases h

set_option maxRecDepth 100000 in
theorem Tryd.tyOk77 : TyOk1 Tryd.prog 77 ⟨6, false, [], [.v (.slice none 0 0)], some (4, .bool, 1), none⟩ where
  agg _ := by kernel_rfl
  size _ := by kernel_rfl
  zero _ := by kernel_rfl
  one _ := ⟨_, rfl⟩
  zlt := by simp [SC.lt, Value.oneCell']
  str h := by cases h
  bt h := by cases h
  sl _ _ _ h := by cases h; exact ⟨by kernel_rfl, fun _ => by kernel_rfl, Tryd.t4, _, by kernel_rfl, rfl, rfl, rfl, rfl⟩
  mp _ _ _ _ h := by cases h
  kd1 h := by cases h
  kd2 h := by cases h
  kd3 h := by cases h
  kd4 h := by cases h
  kd9 h := by cases h
  kd10 h := by cases h
  cmp h := by cases h

set_option maxRecDepth 100000 in
theorem Tryd.tyOk81 : TyOk1 Tryd.prog 81 ⟨0, false, [], [.v (.pointer none)], none, none⟩ where
  agg _ := by kernel_rfl
  size _ := by kernel_rfl
  zero _ := by kernel_rfl
  one _ := ⟨_, rfl⟩
  zlt := by simp [SC.lt, Value.oneCell']
  str h := by cases h
  bt h := by cases h
  sl _ _ _ h := by cases h
  mp _ _ _ _ h := by cases h
  kd1 h := by cases h
  kd2 h := by cases h
  kd3 h := by cases h
  kd4 h := by cases h
  kd9 h := by cases h
  kd10 h := by cases h
  cmp h := by cases h

set_option maxRecDepth 100000 in
theorem Tryd.tyOk83 : TyOk1 Tryd.prog 83 ⟨5, true, [(0, 4), (4, 1), (5, 1)], [.i 0, .i 0, .v (.slice none 0 0), .v (.slice none 0 0), .i 0, .b false], none, none⟩ where
  agg _ := by kernel_rfl
  size _ := by kernel_rfl
  zero _ := by kernel_rfl
  one h := by cases h
  zlt := by simp [SC.lt, Value.oneCell']
  str _ := by
    refine ⟨_, Tryd.underlying83, ?_⟩
    intro i p h
    match i, h with
    | 0, h => cases h; exact ⟨_, rfl, rfl, fun _ => by kernel_rfl, by decide⟩
    | 1, h => cases h; exact ⟨_, rfl, rfl, fun _ => by kernel_rfl, by decide⟩
    | 2, h => cases h; exact ⟨_, rfl, rfl, fun _ => by kernel_rfl, by decide⟩
    | n + 3, h => simp at h
  bt _ parts := by kernel_rfl
  sl _ _ _ h := by cases h
  mp _ _ _ _ h := by cases h
  kd1 h := by cases h
  kd2 h := by cases h
  kd3 h := by cases h
  kd4 h := by cases h
  kd9 h := by cases h
  kd10 h := by cases h
  cmp h := by cases h

set_option maxRecDepth 100000 in
theorem Tryd.tyOk86 : TyOk1 Tryd.prog 86 ⟨6, false, [], [.v (.slice none 0 0)], some (9, .str, 16), none⟩ where
  agg _ := by kernel_rfl
  size _ := by kernel_rfl
  zero _ := by kernel_rfl
  one _ := ⟨_, rfl⟩
  zlt := by simp [SC.lt, Value.oneCell']
  str h := by cases h
  bt h := by cases h
  sl _ _ _ h := by cases h; exact ⟨by kernel_rfl, fun _ => by kernel_rfl, Tryd.t9, _, by kernel_rfl, rfl, rfl, rfl, rfl⟩
  mp _ _ _ _ h := by cases h
  kd1 h := by cases h
  kd2 h := by cases h
  kd3 h := by cases h
  kd4 h := by cases h
  kd9 h := by cases h
  kd10 h := by cases h
  cmp h := by cases h

set_option maxRecDepth 100000 in
theorem Tryd.tyOk107 : TyOk1 Tryd.prog 107 ⟨0, false, [], [.v (.map none)], none, some (3, .int, 3, .int)⟩ where
  agg _ := by kernel_rfl
  size _ := by kernel_rfl
  zero _ := by kernel_rfl
  one _ := ⟨_, rfl⟩
  zlt := by simp [SC.lt, Value.oneCell']
  str h := by cases h
  bt h := by cases h
  sl _ _ _ h := by cases h
  mp _ _ _ _ h := by
    cases h
    exact mapOk_int (by kernel_rfl) (by kernel_rfl) (fun _ => by kernel_rfl)
  kd1 h := by cases h
  kd2 h := by cases h
  kd3 h := by cases h
  kd4 h := by cases h
  kd9 h := by cases h
  kd10 h := by cases h
  cmp h := by cases h

set_option maxRecDepth 100000 in
theorem Tryd.tyOk113 : TyOk1 Tryd.prog 113 ⟨4, false, [], [.u 0], none, none⟩ where
  agg _ := by kernel_rfl
  size _ := by kernel_rfl
  zero _ := by kernel_rfl
  one _ := ⟨_, rfl⟩
  zlt := by simp [SC.lt]
  str h := by cases h
  bt h := by cases h
  sl _ _ _ h := by cases h
  mp _ _ _ _ h := by cases h
  kd1 h := by cases h
  kd2 h := by cases h
  kd3 h := by cases h
  kd4 _ := by kernel_rfl
  kd9 h := by cases h
  kd10 h := by cases h
  cmp h := by cases h

set_option maxRecDepth 100000 in
theorem Tryd.tyOk120 : TyOk1 Tryd.prog 120 ⟨4, false, [], [.u 0], none, none⟩ where
  agg _ := by kernel_rfl
  size _ := by kernel_rfl
  zero _ := by kernel_rfl
  one _ := ⟨_, rfl⟩
  zlt := by simp [SC.lt]
  str h := by cases h
  bt h := by cases h
  sl _ _ _ h := by cases h
  mp _ _ _ _ h := by cases h
  kd1 h := by cases h
  kd2 h := by cases h
  kd3 h := by cases h
  kd4 _ := by kernel_rfl
  kd9 h := by cases h
  kd10 h := by cases h
  cmp h := by cases h

theorem Tryd.tyOk : TyOk Tryd.prog Tryd.ty := by
  intro t d h
  unfold Tryd.ty at h
  rw [look_cons] at h
  split at h
  · rename_i e; subst e; cases h; exact Tryd.tyOk3
  rw [look_cons] at h
  split at h
  · rename_i e; subst e; cases h; exact Tryd.tyOk4
  rw [look_cons] at h
  split at h
  · rename_i e; subst e; cases h; exact Tryd.tyOk5
  rw [look_cons] at h
  split at h
  · rename_i e; subst e; cases h; exact Tryd.tyOk9
  rw [look_cons] at h
  split at h
  · rename_i e; subst e; cases h; exact Tryd.tyOk22
  rw [look_cons] at h
  split at h
  · rename_i e; subst e; cases h; exact Tryd.tyOk23
  rw [look_cons] at h
  split at h
  · rename_i e; subst e; cases h; exact Tryd.tyOk25
  rw [look_cons] at h
  split at h
  · rename_i e; subst e; cases h; exact Tryd.tyOk26
  rw [look_cons] at h
  split at h
  · rename_i e; subst e; cases h; exact Tryd.tyOk35
  rw [look_cons] at h
  split at h
  · rename_i e; subst e; cases h; exact Tryd.tyOk49
  rw [look_cons] at h
  split at h
  · rename_i e; subst e; cases h; exact Tryd.tyOk51
  rw [look_cons] at h
  split at h
  · rename_i e; subst e; cases h; exact Tryd.tyOk54
  rw [look_cons] at h
  split at h
  · rename_i e; subst e; cases h; exact Tryd.tyOk55
  rw [look_cons] at h
  split at h
  · rename_i e; subst e; cases h; exact Tryd.tyOk56
  rw [look_cons] at h
  split at h
  · rename_i e; subst e; cases h; exact Tryd.tyOk58
  rw [look_cons] at h
  split at h
  · rename_i e; subst e; cases h; exact Tryd.tyOk60
  rw [look_cons] at h
  split at h
  · rename_i e; subst e; cases h; exact Tryd.tyOk67
  rw [look_cons] at h
  split at h
  · rename_i e; subst e; cases h; exact Tryd.tyOk69
  rw [look_cons] at h
  split at h
  · rename_i e; subst e; cases h; exact Tryd.tyOk77
  rw [look_cons] at h
  split at h
  · rename_i e; subst e; cases h; exact Tryd.tyOk81
  rw [look_cons] at h
  split at h
  · rename_i e; subst e; cases h; exact Tryd.tyOk83
  rw [look_cons] at h
  split at h
  · rename_i e; subst e; cases h; exact Tryd.tyOk86
  rw [look_cons] at h
  split at h
  · rename_i e; subst e; cases h; exact Tryd.tyOk107
  rw [look_cons] at h
  split at h
  · rename_i e; subst e; cases h; exact Tryd.tyOk113
  rw [look_cons] at h
  split at h
  · rename_i e; subst e; cases h; exact Tryd.tyOk120
  cases h

theorem Tryd.mixed : Tryd.prog.follows .mixedOrders = true := by kernel_rfl

attribute [simp] eqFr eqHp eqV eqA eqC eqO eqCs eqAs look_cons look rn EK.cast EK.sz eqCaps eqLs eqL renOf appN ptrs eqVL SV.lt SA.lt SC.lt lenN

theorem dR {N n0 : _} {ops : Array Oper} {s : S} {kn : S → Prop} (h : drawP Tryd.prog Tryd.ty N ops.toList kn 60 [] [] s) (hc : drawOk ops.toList = true := by kernel_rfl) : DrawX Tryd.prog N n0 ops s kn := draw_of Tryd.mixed Tryd.tyOk 60 hc h

theorem cF {f : Nat} {args : List SV} {ex : List Value} {s : S} {k : S → SV → Prop} {args0 : List SV} {hp0 : List (Nat × SO)} {m : Nat} {post : SV → S → Prop} (hc : Ct Tryd.prog f args0 ex hp0 m post) (ids : List Nat)
    (hcf : ∀ args w, (callFunc f args).run Tryd.prog w = .ok (.enter f args) w)
    (hpost : ∀ v s', post v s' → s.go fun fr hp nx => s'.go fun _ hp' nx' => dropK ids hp0 hp fun hpb => backK (gOf ids m nx) (qOf hp0 m) hp' hpb fun hp2 => mvVK (gOf ids m nx) v fun v2 => k ⟨fr, hp2, nx + (nx' - m)⟩ v2)
    (hok : (Nat.beq (lenN ids) m && ltB s.nx ids && ndB ids && keyNd hp0) = true := by rfl) (hhp : eqLs (renOf 0 ids) m s.hp hp0 := by simp) (hargs : eqVL (renOf 0 ids) m args0 args := by simp) (hlt : ∀ v ∈ args, SV.lt s.nx v := by simp) : CallK Tryd.prog f args ex s k := callF hc ids hcf hok hhp hargs hlt hpost
theorem cI {f : Nat} {args : List SV} {s : S} {k : S → SV → Prop} {args0 : List SV} {hp0 : List (Nat × SO)} {m : Nat} {x : SV} (hc : Ct Tryd.prog f args0 [] hp0 m (Is m x)) (ids : List Nat)
    (hcf : ∀ args w, (callFunc f args).run Tryd.prog w = .ok (.enter f args) w)
    (hpost : s.go fun fr hp nx => dropK ids hp0 hp fun hpb => mvVK (gOf ids m nx) x fun v2 => k ⟨fr, hpb, nx⟩ v2)
    (hok : (Nat.beq (lenN ids) m && ltB s.nx ids && ndB ids && keyNd hp0) = true := by rfl) (hhp : eqLs (renOf 0 ids) m s.hp hp0 := by simp) (hargs : eqVL (renOf 0 ids) m args0 args := by simp) (hlt : ∀ v ∈ args, SV.lt s.nx v := by simp) : CallK Tryd.prog f args [] s k := callI hc ids hcf hok hhp hargs hlt hpost
end Go.Fw

namespace Go.Fw
open Go Go.Proofs

def fCells (F : TF) : List SC := [.i F.st, .i F.start, .sl 0 1 0 F.fin.length F.capF, .sl 1 5 0 F.arcs.length F.capA]
@[simp] def fV (F : TF) : SV := .a (.agg [.i F.st, .i F.start, .sl 0 1 0 F.fin.length F.capF, .sl 1 5 0 F.arcs.length F.capA])
abbrev hpF (F : TF) : List (Nat × SO) := [(0, .arr false 3 .int F.fin 0), (1, .arr false 35 .arc F.arcs 0)]

@[simp] def arcV (a : Arc) : SV := .a (.agg [.i a.f, .i a.i, .i a.o, .i a.t, .i a.w])

theorem within_c (n l m : Int) : Ct Tryd.prog 34 [.i n, .i l, .i m] [] [] 0 (Is 0 (.b (decide (l ≤ n ∧ n ≤ m)))) := by
  refine ctW Tryd.tyOk 7 [] Tryd.func34 rfl (by simp) (by simp) (fr := [(0, .i n), (1, .i l), (2, .i m)]) rfl ?_
  repeat' (first | exact rfl | ((conv => whnf); first | refine condP_mk (fun h => ?_) (fun h => ?_) | refine Ob.mk ?_ ?_ | refine Both.mk ?_ ?_))
  all_goals refine Back.is ?_
  all_goals simp only [eqV, eqA, eqC]
  all_goals simp only [decide_eq_true_eq, decide_eq_false_iff_not] at *
  all_goals simp [*]

theorem isNaN_c (a : Int) : Ct Tryd.prog 66 [.i a] [] [] 0 (Is 0 (.b false)) := by
  refine ctW Tryd.tyOk 3 [] Tryd.func66 rfl (by simp) (by simp) (fr := [(0, .i a)]) rfl ?_
  repeat' (first | exact rfl | ((conv => whnf); first | refine condP_mk (fun h => ?_) (fun h => ?_) | refine Ob.mk ?_ ?_ | refine Both.mk ?_ ?_))
  all_goals refine Back.is ?_
  all_goals simp only [eqV, eqA, eqC]
  all_goals simp

theorem compare_c (a b : Int) : Ct Tryd.prog 56 [.i a, .i b] [] [] 0 (Is 0 (.i (cmpI a b))) := by
  refine ctW Tryd.tyOk 7 [] Tryd.func56 rfl (by simp) (by simp) (fr := [(0, .i a), (1, .i b)]) rfl ?_
  conv => whnf
  refine cI (isNaN_c a) [] Tryd.call66 ?_
  conv => whnf
  refine cI (isNaN_c b) [] Tryd.call66 ?_
  repeat' (first | exact rfl | ((conv => whnf); first | refine condP_mk (fun h => ?_) (fun h => ?_) | refine Ob.mk ?_ ?_ | refine Both.mk ?_ ?_))
  all_goals refine Back.is ?_
  all_goals simp only [eqV, eqA, eqC]
  all_goals simp only [decide_eq_true_eq, decide_eq_false_iff_not] at *
  all_goals simp [cmpI, *]

theorem check2_c (a : Int) : Ct Tryd.prog 36 [.i a] [] [] 0 (Is 0 (.b (!decide (-1 ≤ a ∧ a ≤ 1000000000)))) := by
  refine ctW Tryd.tyOk 3 [] Tryd.func36 rfl (by simp) (by simp) (fr := [(0, .i a)]) rfl ?_
  conv => whnf
  refine cI (within_c a (-1) 1000000000) [] Tryd.call34 ?_
  conv => whnf
  refine Back.is ?_
  simp only [eqV, eqA, eqC]

/-- A slice that is read: object 0. -/
abbrev rdI (l : List Int) (cap : Nat) : SV := .c (.sl 0 1 0 l.length cap)

end Go.Fw

/-
  What is handed in, as the executor's state has it.
-/
namespace Go.Fw
open Go Go.Proofs Go.ChangeShapes Go.WideShapes Go.ChangeAt Go.RowKit Go.Deep Go.Joins

/-- A list that lies in memory, to be read. -/
def Lent (W : World) (oa : Option Addr) (k : EK) (xs : List k.ty) : Prop := match oa with
  | none => xs = []
  | some a => xs ≠ [] → a.spot = none ∧ a.block < W.heap.size ∧ ∀ j v, (flat k xs)[j]? = some v → W.cell? (a.add j) = some v

section
variable {H : Type} {enc : TypeId × Value → H} {P : Program} {w : World} {base : Nat} {spare : Nat → Bool} {held : Bool}

theorem cell_lt {a : Addr} {v : Value} (h : w.cell? a = some v) : a.spot = none ∧ a.block < w.heap.size := by
  refine ⟨World.cell?_spot h, ?_⟩
  unfold World.cell? at h
  split at h
  · rename_i hb; exact (Array.getElem?_eq_some_iff.1 hb).1
  · cases h

theorem wfI {n : Int} (h : (Lit.int .i64 n).wf = true) : InI n := by
  have h1 : IntKind.i64.min = -9223372036854775808 := rfl
  have h2 : IntKind.i64.max = 9223372036854775807 := rfl
  simp only [Lit.wf, Bool.and_eq_true, decide_eq_true_eq, h1, h2] at h
  exact h

theorem lent_mk {oa : Option Addr} {k : EK} {xs : List k.ty} (a : Addr) (ho : oa = some a) (h : ∀ j v, (flat k xs)[j]? = some v → w.cell? (a.add j) = some v) : Lent w oa k xs := by
  subst ho
  intro hne
  have hpos : 0 < (flat k xs).length := by
    rw [flat_length]
    have : 0 < xs.length := List.length_pos_iff.2 hne
    have hk : 0 < k.sz := by cases k <;> decide
    exact Nat.mul_pos this hk
  have h0 := h 0 _ (List.getElem?_eq_getElem hpos)
  have h1 := cell_lt h0
  rw [Addr.add] at h1
  simp only [if_true] at h1
  exact ⟨h1.1, h1.2, h⟩

theorem flat_cases {k : EK} {xs : List k.ty} {j : Nat} {v : Value} (h : (flat k xs)[j]? = some v) : ∃ i off, j = i * k.sz + off ∧ i < xs.length ∧ off < k.sz ∧ (k.cells (xs.getD i k.dflt))[off]? = some v := by
  have hk : 0 < k.sz := by cases k <;> decide
  have hj := (List.getElem?_eq_some_iff.1 h).1
  rw [flat_length] at hj
  have h1 : j / k.sz < xs.length := (Nat.div_lt_iff_lt_mul hk).2 hj
  have h2 : j % k.sz < k.sz := Nat.mod_lt _ hk
  have h3 : j = j / k.sz * k.sz + j % k.sz := by rw [Nat.mul_comm]; exact (Nat.div_add_mod _ _).symm
  refine ⟨j / k.sz, j % k.sz, h3, h1, h2, ?_⟩
  rw [← flat_get k xs _ _ h1 h2, ← h3]
  exact h

/-- A slice of integers, opened. -/
theorem open_lentI {t e : TypeId} {fuel : Nat} {v : Value} {x : DataW H × List MemPlace} (ht : P.underlying t = some (.slice e)) (he : P.underlying e = some (.int .i64)) (hc : P.cellsOf e = 1)
    (h : DataW.trod enc P w base spare held fuel t [v] = some x) :
    ∃ (oa : Option Addr) (xs : List Int) (cap : Nat), v = .slice oa xs.length cap ∧ Lent w oa .int xs ∧ xs.length ≤ cap ∧ cap ≤ maxLen ∧ (oa = none → cap = 0) ∧ ∀ n ∈ xs, InI n := by
  rcases open_ints ht he hc h with ⟨hcs, _⟩ | ⟨a, len, cap, zs, hcs, _, hl, hm, hz, _, hcell, hwz⟩
  · simp only [List.cons.injEq, and_true] at hcs
    subst hcs
    exact ⟨none, [], 0, rfl, rfl, Nat.le_refl _, Nat.zero_le _, fun _ => rfl, fun n hn => by cases hn⟩
  · simp only [List.cons.injEq, and_true] at hcs
    subst hcs
    have hlz : len ≤ zs.length := by rw [hz]; split <;> omega
    have hlen : (zs.take len).length = len := by rw [List.length_take]; omega
    refine ⟨some a, zs.take len, cap, by rw [hlen], lent_mk a rfl ?_, by rw [hlen]; exact hl, hm, (fun h => by cases h), fun n hn => wfI (hwz n (List.mem_of_mem_take hn))⟩
    intro j v hj
    obtain ⟨i, off, rfl, hi, ho, hv⟩ := flat_cases hj
    rw [hlen] at hi
    have ho : off < 1 := ho
    have ho0 : off = 0 := by omega
    subst ho0
    have hcl := hcell i (by omega)
    have e1 : i * EK.int.sz + 0 = i := by show i * 1 + 0 = i; omega
    rw [e1, hcl]
    have e2 : (zs.take len).getD i EK.int.dflt = zs.getD i 0 := by
      have : i < zs.length := by omega
      simp [List.getD, hi, this, EK.dflt]
    rw [e2] at hv
    exact hv

theorem list_of {α : Type} (n : Nat) (R : Nat → α → Prop) (d : α) (h : ∀ i, i < n → ∃ x, R i x) : ∃ xs : List α, xs.length = n ∧ ∀ i, i < n → R i (xs.getD i d) := by
  induction n with
  | zero => exact ⟨[], rfl, fun i hi => by omega⟩
  | succ n ih =>
    obtain ⟨xs, h1, h2⟩ := ih fun i hi => h i (by omega)
    obtain ⟨x, hx⟩ := h n (by omega)
    refine ⟨xs ++ [x], by simp [h1], fun i hi => ?_⟩
    by_cases e : i = n
    · subst e
      have : (xs ++ [x]).getD i d = x := by simp [List.getD, ← h1]
      rw [this]; exact hx
    · have : (xs ++ [x]).getD i d = xs.getD i d := by
        have : i < xs.length := by omega
        simp [List.getD, List.getElem?_append_left this]
      rw [this]; exact h2 i (by omega)

/-- A slice of arcs, opened. -/
theorem open_lentA {t e : TypeId} {fuel : Nat} {v : Value} {x : DataW H × List MemPlace} {f0 f1 f2 f3 f4 : Field} (ht : P.underlying t = some (.slice e)) (he : P.underlying e = some (.struct #[f0, f1, f2, f3, f4]))
    (hone : oneCellFields P #[f0, f1, f2, f3, f4] = true) (hC : P.cellsOf e = 5) (hf : ∀ f ∈ [f0, f1, f2, f3, f4], P.underlying f.type = some (.int .i64))
    (h : DataW.trod enc P w base spare held fuel t [v] = some x) :
    ∃ (oa : Option Addr) (xs : List Arc) (cap : Nat), v = .slice oa xs.length cap ∧ Lent w oa .arc xs ∧ xs.length ≤ cap ∧ cap ≤ maxLen ∧ (oa = none → cap = 0) ∧ ∀ a ∈ xs, InI a.f ∧ InI a.i ∧ InI a.o ∧ InI a.t ∧ InI a.w := by
  rcases open_slice ht h with ⟨hcs, _⟩ | ⟨a, len, cap, m, n, D, Pl, hcs, _, hl, hm, hmm, _, hi⟩
  · simp only [List.cons.injEq, and_true] at hcs
    subst hcs
    exact ⟨none, [], 0, rfl, rfl, Nat.le_refl _, Nat.zero_le _, fun _ => rfl, fun n hn => by cases hn⟩
  · simp only [List.cons.injEq, and_true] at hcs
    subst hcs
    have hlm : len ≤ m := by rw [hmm]; split <;> omega
    obtain ⟨xs, hx1, hx2⟩ := list_of len (fun i (x : Arc) => (InI x.f ∧ InI x.i ∧ InI x.o ∧ InI x.t ∧ InI x.w) ∧ ∀ off v, (EK.arc.cells x)[off]? = some v → w.cell? (a.add (i * 5 + off)) = some v) EK.arc.dflt (fun i hil => by
      obtain ⟨cs, hc, ht'⟩ := hi i (by omega)
      rw [hC] at hc
      obtain ⟨ys, n', _, _, hlen, _, hg⟩ := DataW.trod_struct he ht'
      obtain ⟨_, hcl, hat⟩ := World.cells?_some hc
      rw [hC] at hlen
      match cs, hlen with
      | [c0, c1, c2, c3, c4], _ =>
        obtain ⟨o0, k0⟩ := hone_of hone 0 f0 rfl
        obtain ⟨o1, k1⟩ := hone_of hone 1 f1 rfl
        obtain ⟨o2, k2⟩ := hone_of hone 2 f2 rfl
        obtain ⟨o3, k3⟩ := hone_of hone 3 f3 rfl
        obtain ⟨o4, k4⟩ := hone_of hone 4 f4 rfl
        have g0 := hg 0 f0 rfl
        have g1 := hg 1 f1 rfl
        have g2 := hg 2 f2 rfl
        have g3 := hg 3 f3 rfl
        have g4 := hg 4 f4 rfl
        rw [o0, k0] at g0
        rw [o1, k1] at g1
        rw [o2, k2] at g2
        rw [o3, k3] at g3
        rw [o4, k4] at g4
        have some_of : ∀ {l : List Value} {f : Field} {i : Nat}, DataW.trod enc P w base spare held n' f.type l = ys[i]? → ys.length = 5 → i < 5 → P.underlying f.type = some (.int .i64) → ∃ q, l = [.int .i64 q] ∧ InI q := by
          intro l f i hq hl hi5 hu
          rw [List.getElem?_eq_getElem (by omega)] at hq
          obtain ⟨q, hq1, _, hq2⟩ := DataW.trod_int hu hq
          exact ⟨q, hq1, wfI hq2⟩
        have hyl : ys.length = 5 := by assumption
        obtain ⟨q0, e0, i0⟩ := some_of g0 hyl (by omega) (hf f0 (by simp))
        obtain ⟨q1, e1, i1⟩ := some_of g1 hyl (by omega) (hf f1 (by simp))
        obtain ⟨q2, e2, i2⟩ := some_of g2 hyl (by omega) (hf f2 (by simp))
        obtain ⟨q3, e3, i3⟩ := some_of g3 hyl (by omega) (hf f3 (by simp))
        obtain ⟨q4, e4, i4⟩ := some_of g4 hyl (by omega) (hf f4 (by simp))
        simp only [List.drop_succ_cons, List.drop_zero, List.take_succ_cons, List.take_zero, List.cons.injEq, and_true] at e0 e1 e2 e3 e4
        subst e0 e1 e2 e3 e4
        refine ⟨⟨q0, q1, q2, q3, q4⟩, ⟨i0, i1, i2, i3, i4⟩, fun off v hv => ?_⟩
        have hoff : off < 5 := by
          have := (List.getElem?_eq_some_iff.1 hv).1
          rwa [EK.cells_length] at this
        have := hat off (by omega)
        rw [← Go.Deep.add_add, this]
        exact hv)
    have hsz : (EK.arc.sz) = 5 := rfl
    refine ⟨some a, xs, cap, by rw [hx1], lent_mk a rfl ?_, by omega, hm, (fun h => by cases h), fun y hy => ?_⟩
    · intro j v hj
      obtain ⟨i, off, rfl, hil, ho, hv⟩ := flat_cases hj
      exact (hx2 i (by omega)).2 off v hv
    · obtain ⟨i, hil, rfl⟩ := List.getElem_of_mem hy
      have := (hx2 i (by omega)).1
      have e : xs.getD i EK.arc.dflt = xs[i] := by simp [List.getD, hil]
      rw [e] at this
      exact this

/-- A transducer that is handed in. -/
structure Hand (w : World) (F : TF) (a0 a1 : Option Addr) (v : Value) : Prop where
  val : v = .agg #[.int .i64 F.st, .int .i64 F.start, .slice a0 F.fin.length F.capF, .slice a1 F.arcs.length F.capA]
  l0 : Lent w a0 .int F.fin
  l1 : Lent w a1 .arc F.arcs
  c0 : F.capF ≤ maxLen
  c1 : F.capA ≤ maxLen
  k0 : F.fin.length ≤ F.capF
  k1 : F.arcs.length ≤ F.capA
  i0 : InI F.st
  i1 : InI F.start
  i2 : ∀ n ∈ F.fin, InI n
  i3 : ∀ a ∈ F.arcs, InI a.f ∧ InI a.i ∧ InI a.o ∧ InI a.t ∧ InI a.w

set_option maxRecDepth 100000 in
theorem open_hand {r : Go.Reach} {b0 : Nat} {v : Value} {d : DataW H} {p : List MemPlace} (hv : Value.okWide Tryd.prog w r b0 25 v) (h : DataW.Trod enc Tryd.prog w base spare held 25 v d p) : ∃ F a0 a1, Hand w F a0 a1 v := by
  obtain ⟨v0, v1, v2, v3, y0, y1, y2, y3, n, rfl, _, _, h0, h1, h2, h3⟩ := open_agg4 Tryd.underlying25 (by kernel_rfl) (by kernel_rfl) hv h
  obtain ⟨q0, e0, _, w0⟩ := DataW.trod_int Tryd.underlying3 h0
  obtain ⟨q1, e1, _, w1⟩ := DataW.trod_int Tryd.underlying3 h1
  simp only [List.cons.injEq, and_true] at e0 e1
  subst e0 e1
  obtain ⟨a0, xs, c0, rfl, l0, k0, m0, _, i2⟩ := open_lentI Tryd.underlying22 Tryd.underlying3 (by kernel_rfl) h2
  obtain ⟨a1, ys, c1, rfl, l1, k1, m1, _, i3⟩ := open_lentA Tryd.underlying23 Tryd.underlying35 (by kernel_rfl) (by kernel_rfl) (by
    intro f hf
    simp only [List.mem_cons, List.not_mem_nil, or_false] at hf
    rcases hf with rfl | rfl | rfl | rfl | rfl <;> exact Tryd.underlying3) h3
  exact ⟨⟨q0, q1, xs, ys, c0, c1⟩, a0, a1, rfl, l0, l1, m0, m1, k0, k1, wfI w0, wfI w1, i2, i3⟩

end
theorem add_zero (a : Addr) : a.add 0 = a := by simp [Addr.add]

theorem shut_bool {H : Type} {enc : TypeId × Value → H} {P : Program} {w : World} {base : Nat} {spare : Nat → Bool} {held : Bool} {t : TypeId} {b : Bool} (ht : P.underlying t = some .bool) : DataW.Trod enc P w base spare held t (.bool b) (.lit (.bool b)) [] :=
  ⟨1, by simp [DataW.trod, Value.cells, ht]⟩

end Go.Fw

/-
  Where the library's functions lie in the program: for the shelf's contracts.
-/
namespace Go.Fw
open Go Go.Proofs

def ρ : Go.Shelf.Ren where
  f := fun n => if n = 129 then 92 else if n = 138 then 69 else if n = 143 then 70 else if n = 145 then 38 else if n = 146 then 39 else if n = 166 then 26 else if n = 169 then 29 else if n = 171 then 27 else if n = 172 then 71 else if n = 195 then 83 else if n = 197 then 84 else if n = 205 then 108 else if n = 217 then 79 else if n = 218 then 85 else if n = 219 then 67 else if n = 220 then 57 else if n = 221 then 58 else if n = 224 then 81 else if n = 225 then 80 else if n = 240 then 52 else if n = 243 then 53 else if n = 244 then 86 else if n = 245 then 87 else if n = 246 then 65 else if n = 247 then 99 else if n = 260 then 98 else if n = 266 then 96 else if n = 267 then 82 else if n = 268 then 68 else if n = 276 then 64 else if n = 279 then 100 else if n = 280 then 101 else if n = 281 then 102 else if n = 282 then 103 else if n = 283 then 75 else if n = 284 then 76 else if n = 285 then 77 else if n = 286 then 78 else if n = 287 then 106 else if n = 314 then 97 else if n = 316 then 107 else if n = 317 then 91 else if n = 318 then 93 else if n = 319 then 94 else if n = 320 then 95 else if n = 321 then 109 else if n = 322 then 110 else if n = 337 then 104 else if n = 338 then 105 else n
  t := fun n => if n = 31 then 86 else if n = 37 then 65 else if n = 46 then 113 else if n = 51 then 131 else if n = 53 then 120 else if n = 59 then 84 else if n = 70 then 64 else if n = 72 then 67 else if n = 75 then 69 else if n = 76 then 70 else if n = 80 then 74 else if n = 85 then 143 else if n = 105 then 128 else if n = 119 then 149 else if n = 127 then 97 else if n = 138 then 151 else if n = 139 then 152 else if n = 143 then 162 else if n = 145 then 164 else if n = 146 then 132 else if n = 164 then 108 else if n = 167 then 142 else if n = 168 then 145 else if n = 171 then 119 else if n = 173 then 123 else if n = 175 then 153 else if n = 210 then 157 else if n = 212 then 138 else if n = 213 then 139 else if n = 232 then 159 else if n = 233 then 160 else n
  g := fun n => if n = 1 then 0 else if n = 3 then 2 else if n = 4 then 3 else if n = 15 then 4 else if n = 16 then 5 else if n = 17 then 1 else if n = 18 then 6 else if n = 19 then 7 else n

set_option maxRecDepth 20000 in
theorem itoaLays : LaysM.n171 Tryd.prog ρ where
  mixed := by kernel_rfl
  f129 := by kernel_rfl
  f171 := by kernel_rfl
  f243 := by kernel_rfl
  f246 := by kernel_rfl
  f283 := by kernel_rfl
  f284 := by kernel_rfl
  f285 := by kernel_rfl
  f286 := by kernel_rfl
  f317 := by kernel_rfl
  f318 := by kernel_rfl
  f319 := by kernel_rfl
  f320 := by kernel_rfl
  f337 := by kernel_rfl
  f338 := by kernel_rfl
  t0 := by kernel_rfl
  a0 := fun w => by kernel_rfl
  z0 := fun w => by kernel_rfl
  v0 := fun w => by kernel_rfl
  t2 := by kernel_rfl
  a2 := fun w => by kernel_rfl
  z2 := fun w => by kernel_rfl
  v2 := fun w => by kernel_rfl
  t3 := by kernel_rfl
  a3 := fun w => by kernel_rfl
  z3 := fun w => by kernel_rfl
  v3 := fun w => by kernel_rfl
  t4 := by kernel_rfl
  a4 := fun w => by kernel_rfl
  z4 := fun w => by kernel_rfl
  v4 := fun w => by kernel_rfl
  t5 := by kernel_rfl
  a5 := fun w => by kernel_rfl
  z5 := fun w => by kernel_rfl
  v5 := fun w => by kernel_rfl
  t9 := by kernel_rfl
  a9 := fun w => by kernel_rfl
  z9 := fun w => by kernel_rfl
  v9 := fun w => by kernel_rfl
  t20 := by kernel_rfl
  a20 := fun w => by kernel_rfl
  z20 := fun w => by kernel_rfl
  v20 := fun w => by kernel_rfl
  t37 := by kernel_rfl
  a37 := fun w => by kernel_rfl
  z37 := fun w => by kernel_rfl
  v37 := fun w => by kernel_rfl
  t46 := by kernel_rfl
  a46 := fun w => by kernel_rfl
  z46 := fun w => by kernel_rfl
  v46 := fun w => by kernel_rfl
  t51 := by kernel_rfl
  a51 := fun w => by kernel_rfl
  z51 := fun w => by kernel_rfl
  v51 := fun w => by kernel_rfl
  t53 := by kernel_rfl
  a53 := fun w => by kernel_rfl
  z53 := fun w => by kernel_rfl
  v53 := fun w => by kernel_rfl
  t171 := by kernel_rfl
  a171 := fun w => by kernel_rfl
  z171 := fun w => by kernel_rfl
  v171 := fun w => by kernel_rfl
  t173 := by kernel_rfl
  a173 := fun w => by kernel_rfl
  z173 := fun w => by kernel_rfl
  v173 := fun w => by kernel_rfl
  t212 := by kernel_rfl
  a212 := fun w => by kernel_rfl
  z212 := fun w => by kernel_rfl
  v212 := fun w => by kernel_rfl
  t213 := by kernel_rfl
  a213 := fun w => by kernel_rfl
  z213 := fun w => by kernel_rfl
  t232 := by kernel_rfl
  a232 := fun w => by kernel_rfl
  z232 := fun w => by kernel_rfl
  v232 := fun w => by kernel_rfl
  t233 := by kernel_rfl
  a233 := fun w => by kernel_rfl
  z233 := fun w => by kernel_rfl
  v233 := fun w => by kernel_rfl
  g17 := by kernel_rfl
  g18 := by kernel_rfl
  g19 := by kernel_rfl
  i0 := by kernel_rfl
  i2 := by kernel_rfl
  i3 := by kernel_rfl
  i4 := by kernel_rfl
  i5 := by kernel_rfl
  i9 := by kernel_rfl
  i20 := by kernel_rfl
  i37 := by kernel_rfl
  i46 := by kernel_rfl
  i51 := by kernel_rfl
  i53 := by kernel_rfl
  i171 := by kernel_rfl
  i173 := by kernel_rfl
  i212 := by kernel_rfl
  i232 := by kernel_rfl
  i233 := by kernel_rfl
  m17 := by kernel_rfl
  m18 := by kernel_rfl
  m19 := by kernel_rfl

set_option maxRecDepth 20000 in
theorem cutLays : Lays.n145 Tryd.prog ρ where
  mixed := by kernel_rfl
  f145 := by kernel_rfl
  f217 := by kernel_rfl
  f219 := by kernel_rfl
  f220 := by kernel_rfl
  f224 := by kernel_rfl
  f225 := by kernel_rfl
  f266 := by kernel_rfl
  f267 := by kernel_rfl
  f314 := by kernel_rfl
  t3 := by kernel_rfl
  a3 := fun w => by kernel_rfl
  z3 := fun w => by kernel_rfl
  v3 := fun w => by kernel_rfl
  t4 := by kernel_rfl
  a4 := fun w => by kernel_rfl
  z4 := fun w => by kernel_rfl
  v4 := fun w => by kernel_rfl
  t5 := by kernel_rfl
  a5 := fun w => by kernel_rfl
  z5 := fun w => by kernel_rfl
  v5 := fun w => by kernel_rfl
  t9 := by kernel_rfl
  a9 := fun w => by kernel_rfl
  z9 := fun w => by kernel_rfl
  v9 := fun w => by kernel_rfl
  t46 := by kernel_rfl
  a46 := fun w => by kernel_rfl
  z46 := fun w => by kernel_rfl
  v46 := fun w => by kernel_rfl
  t51 := by kernel_rfl
  a51 := fun w => by kernel_rfl
  z51 := fun w => by kernel_rfl
  v51 := fun w => by kernel_rfl
  t59 := by kernel_rfl
  a59 := fun w => by kernel_rfl
  z59 := fun w => by kernel_rfl
  v59 := fun w => by kernel_rfl
  t146 := by kernel_rfl
  a146 := fun w => by kernel_rfl
  z146 := fun w => by kernel_rfl
  v146 := fun w => by kernel_rfl
  g1 := by kernel_rfl

set_option maxRecDepth 20000 in
theorem splitLays : Lays.n146 Tryd.prog ρ where
  mixed := by kernel_rfl
  f138 := by kernel_rfl
  f143 := by kernel_rfl
  f146 := by kernel_rfl
  f195 := by kernel_rfl
  f197 := by kernel_rfl
  f217 := by kernel_rfl
  f218 := by kernel_rfl
  f219 := by kernel_rfl
  f221 := by kernel_rfl
  f224 := by kernel_rfl
  f225 := by kernel_rfl
  f260 := by kernel_rfl
  f266 := by kernel_rfl
  f267 := by kernel_rfl
  f268 := by kernel_rfl
  f314 := by kernel_rfl
  t0 := by kernel_rfl
  a0 := fun w => by kernel_rfl
  z0 := fun w => by kernel_rfl
  v0 := fun w => by kernel_rfl
  t3 := by kernel_rfl
  a3 := fun w => by kernel_rfl
  z3 := fun w => by kernel_rfl
  v3 := fun w => by kernel_rfl
  t4 := by kernel_rfl
  a4 := fun w => by kernel_rfl
  z4 := fun w => by kernel_rfl
  v4 := fun w => by kernel_rfl
  t5 := by kernel_rfl
  a5 := fun w => by kernel_rfl
  z5 := fun w => by kernel_rfl
  v5 := fun w => by kernel_rfl
  t9 := by kernel_rfl
  a9 := fun w => by kernel_rfl
  z9 := fun w => by kernel_rfl
  v9 := fun w => by kernel_rfl
  t21 := by kernel_rfl
  a21 := fun w => by kernel_rfl
  z21 := fun w => by kernel_rfl
  v21 := fun w => by kernel_rfl
  t31 := by kernel_rfl
  a31 := fun w => by kernel_rfl
  z31 := fun w => by kernel_rfl
  v31 := fun w => by kernel_rfl
  t46 := by kernel_rfl
  a46 := fun w => by kernel_rfl
  z46 := fun w => by kernel_rfl
  v46 := fun w => by kernel_rfl
  t51 := by kernel_rfl
  a51 := fun w => by kernel_rfl
  z51 := fun w => by kernel_rfl
  v51 := fun w => by kernel_rfl
  t105 := by kernel_rfl
  a105 := fun w => by kernel_rfl
  z105 := fun w => by kernel_rfl
  v105 := fun w => by kernel_rfl
  t119 := by kernel_rfl
  a119 := fun w => by kernel_rfl
  z119 := fun w => by kernel_rfl
  t138 := by kernel_rfl
  a138 := fun w => by kernel_rfl
  z138 := fun w => by kernel_rfl
  v138 := fun w => by kernel_rfl
  t139 := by kernel_rfl
  a139 := fun w => by kernel_rfl
  z139 := fun w => by kernel_rfl
  v139 := fun w => by kernel_rfl
  t146 := by kernel_rfl
  a146 := fun w => by kernel_rfl
  z146 := fun w => by kernel_rfl
  v146 := fun w => by kernel_rfl
  g1 := by kernel_rfl
  g3 := by kernel_rfl
  g4 := by kernel_rfl

set_option maxRecDepth 20000 in
theorem atoiLays : LaysC.n172 Tryd.prog ρ where
  mixed := by kernel_rfl
  f129 := by kernel_rfl
  f171 := by kernel_rfl
  f172 := by kernel_rfl
  f205 := by kernel_rfl
  f243 := by kernel_rfl
  f244 := by kernel_rfl
  f245 := by kernel_rfl
  f246 := by kernel_rfl
  f247 := by kernel_rfl
  f279 := by kernel_rfl
  f280 := by kernel_rfl
  f281 := by kernel_rfl
  f282 := by kernel_rfl
  f283 := by kernel_rfl
  f284 := by kernel_rfl
  f285 := by kernel_rfl
  f286 := by kernel_rfl
  f287 := by kernel_rfl
  f316 := by kernel_rfl
  f317 := by kernel_rfl
  f318 := by kernel_rfl
  f319 := by kernel_rfl
  f320 := by kernel_rfl
  f321 := by kernel_rfl
  f322 := by kernel_rfl
  f337 := by kernel_rfl
  f338 := by kernel_rfl
  t0 := by kernel_rfl
  a0 := fun w => by kernel_rfl
  z0 := fun w => by kernel_rfl
  v0 := fun w => by kernel_rfl
  t2 := by kernel_rfl
  a2 := fun w => by kernel_rfl
  z2 := fun w => by kernel_rfl
  v2 := fun w => by kernel_rfl
  t3 := by kernel_rfl
  a3 := fun w => by kernel_rfl
  z3 := fun w => by kernel_rfl
  v3 := fun w => by kernel_rfl
  t4 := by kernel_rfl
  a4 := fun w => by kernel_rfl
  z4 := fun w => by kernel_rfl
  v4 := fun w => by kernel_rfl
  t5 := by kernel_rfl
  a5 := fun w => by kernel_rfl
  z5 := fun w => by kernel_rfl
  v5 := fun w => by kernel_rfl
  t9 := by kernel_rfl
  a9 := fun w => by kernel_rfl
  z9 := fun w => by kernel_rfl
  v9 := fun w => by kernel_rfl
  t20 := by kernel_rfl
  a20 := fun w => by kernel_rfl
  z20 := fun w => by kernel_rfl
  v20 := fun w => by kernel_rfl
  t21 := by kernel_rfl
  a21 := fun w => by kernel_rfl
  z21 := fun w => by kernel_rfl
  v21 := fun w => by kernel_rfl
  t37 := by kernel_rfl
  a37 := fun w => by kernel_rfl
  z37 := fun w => by kernel_rfl
  v37 := fun w => by kernel_rfl
  t46 := by kernel_rfl
  a46 := fun w => by kernel_rfl
  z46 := fun w => by kernel_rfl
  v46 := fun w => by kernel_rfl
  t51 := by kernel_rfl
  a51 := fun w => by kernel_rfl
  z51 := fun w => by kernel_rfl
  v51 := fun w => by kernel_rfl
  t53 := by kernel_rfl
  a53 := fun w => by kernel_rfl
  z53 := fun w => by kernel_rfl
  v53 := fun w => by kernel_rfl
  t75 := by kernel_rfl
  a75 := fun w => by kernel_rfl
  z75 := fun w => by kernel_rfl
  v75 := fun w => by kernel_rfl
  t76 := by kernel_rfl
  a76 := fun w => by kernel_rfl
  z76 := fun w => by kernel_rfl
  v76 := fun w => by kernel_rfl
  t85 := by kernel_rfl
  a85 := fun w => by kernel_rfl
  z85 := fun w => by kernel_rfl
  v85 := fun w => by kernel_rfl
  t127 := by kernel_rfl
  a127 := fun w => by kernel_rfl
  z127 := fun w => by kernel_rfl
  v127 := fun w => by kernel_rfl
  t143 := by kernel_rfl
  a143 := fun w => by kernel_rfl
  z143 := fun w => by kernel_rfl
  v143 := fun w => by kernel_rfl
  t145 := by kernel_rfl
  a145 := fun w => by kernel_rfl
  z145 := fun w => by kernel_rfl
  v145 := fun w => by kernel_rfl
  t167 := by kernel_rfl
  a167 := fun w => by kernel_rfl
  z167 := fun w => by kernel_rfl
  v167 := fun w => by kernel_rfl
  t168 := by kernel_rfl
  a168 := fun w => by kernel_rfl
  z168 := fun w => by kernel_rfl
  v168 := fun w => by kernel_rfl
  t171 := by kernel_rfl
  a171 := fun w => by kernel_rfl
  z171 := fun w => by kernel_rfl
  v171 := fun w => by kernel_rfl
  t173 := by kernel_rfl
  a173 := fun w => by kernel_rfl
  z173 := fun w => by kernel_rfl
  v173 := fun w => by kernel_rfl
  t175 := by kernel_rfl
  a175 := fun w => by kernel_rfl
  z175 := fun w => by kernel_rfl
  v175 := fun w => by kernel_rfl
  t210 := by kernel_rfl
  a210 := fun w => by kernel_rfl
  z210 := fun w => by kernel_rfl
  v210 := fun w => by kernel_rfl
  t212 := by kernel_rfl
  a212 := fun w => by kernel_rfl
  z212 := fun w => by kernel_rfl
  v212 := fun w => by kernel_rfl
  t213 := by kernel_rfl
  a213 := fun w => by kernel_rfl
  z213 := fun w => by kernel_rfl
  t232 := by kernel_rfl
  a232 := fun w => by kernel_rfl
  z232 := fun w => by kernel_rfl
  v232 := fun w => by kernel_rfl
  t233 := by kernel_rfl
  a233 := fun w => by kernel_rfl
  z233 := fun w => by kernel_rfl
  v233 := fun w => by kernel_rfl
  g15 := by kernel_rfl
  g16 := by kernel_rfl
  g17 := by kernel_rfl
  g18 := by kernel_rfl
  g19 := by kernel_rfl
  t80 := by kernel_rfl
  a80 := fun w => by kernel_rfl
  z80 := fun w => by kernel_rfl
  v80 := fun w => by kernel_rfl
  i0 := by kernel_rfl
  i2 := by kernel_rfl
  i3 := by kernel_rfl
  i4 := by kernel_rfl
  i5 := by kernel_rfl
  i9 := by kernel_rfl
  i20 := by kernel_rfl
  i21 := by kernel_rfl
  i37 := by kernel_rfl
  i46 := by kernel_rfl
  i51 := by kernel_rfl
  i53 := by kernel_rfl
  i75 := by kernel_rfl
  i76 := by kernel_rfl
  i80 := by kernel_rfl
  i85 := by kernel_rfl
  i127 := by kernel_rfl
  i143 := by kernel_rfl
  i145 := by kernel_rfl
  i167 := by kernel_rfl
  i168 := by kernel_rfl
  i171 := by kernel_rfl
  i173 := by kernel_rfl
  i175 := by kernel_rfl
  i210 := by kernel_rfl
  i212 := by kernel_rfl
  i232 := by kernel_rfl
  i233 := by kernel_rfl
  m15 := by kernel_rfl
  m16 := by kernel_rfl
  m17 := by kernel_rfl
  m18 := by kernel_rfl
  m19 := by kernel_rfl
  c0 := by kernel_rfl
  c2 := by kernel_rfl
  c3 := by kernel_rfl
  c4 := by kernel_rfl
  c5 := by kernel_rfl
  c9 := by kernel_rfl
  c20 := by kernel_rfl
  c21 := by kernel_rfl
  c37 := by kernel_rfl
  c46 := by kernel_rfl
  c51 := by kernel_rfl
  c53 := by kernel_rfl
  c75 := by kernel_rfl
  c76 := by kernel_rfl
  c80 := by kernel_rfl
  c85 := by kernel_rfl
  c127 := by kernel_rfl
  c143 := by kernel_rfl
  c145 := by kernel_rfl
  c167 := by kernel_rfl
  c168 := by kernel_rfl
  c171 := by kernel_rfl
  c173 := by kernel_rfl
  c175 := by kernel_rfl
  c210 := by kernel_rfl
  c212 := by kernel_rfl
  c213 := by kernel_rfl
  c232 := by kernel_rfl
  c233 := by kernel_rfl

set_option maxRecDepth 20000 in
theorem bldLays : Lays.n166 Tryd.prog ρ where
  mixed := by kernel_rfl
  f166 := by kernel_rfl
  f240 := by kernel_rfl
  f276 := by kernel_rfl
  t0 := by kernel_rfl
  a0 := fun w => by kernel_rfl
  z0 := fun w => by kernel_rfl
  v0 := fun w => by kernel_rfl
  t3 := by kernel_rfl
  a3 := fun w => by kernel_rfl
  z3 := fun w => by kernel_rfl
  v3 := fun w => by kernel_rfl
  t4 := by kernel_rfl
  a4 := fun w => by kernel_rfl
  z4 := fun w => by kernel_rfl
  v4 := fun w => by kernel_rfl
  t9 := by kernel_rfl
  a9 := fun w => by kernel_rfl
  z9 := fun w => by kernel_rfl
  v9 := fun w => by kernel_rfl
  t20 := by kernel_rfl
  a20 := fun w => by kernel_rfl
  z20 := fun w => by kernel_rfl
  v20 := fun w => by kernel_rfl
  t37 := by kernel_rfl
  a37 := fun w => by kernel_rfl
  z37 := fun w => by kernel_rfl
  v37 := fun w => by kernel_rfl
  t70 := by kernel_rfl
  a70 := fun w => by kernel_rfl
  z70 := fun w => by kernel_rfl
  v70 := fun w => by kernel_rfl
  t72 := by kernel_rfl
  a72 := fun w => by kernel_rfl
  z72 := fun w => by kernel_rfl
  v72 := fun w => by kernel_rfl
  t75 := by kernel_rfl
  a75 := fun w => by kernel_rfl
  z75 := fun w => by kernel_rfl
  v75 := fun w => by kernel_rfl
  t164 := by kernel_rfl
  a164 := fun w => by kernel_rfl
  z164 := fun w => by kernel_rfl
  v164 := fun w => by kernel_rfl

set_option maxRecDepth 20000 in
theorem strLays : Lays.n169 Tryd.prog ρ where
  mixed := by kernel_rfl
  f169 := by kernel_rfl
  t0 := by kernel_rfl
  a0 := fun w => by kernel_rfl
  z0 := fun w => by kernel_rfl
  v0 := fun w => by kernel_rfl
  t3 := by kernel_rfl
  a3 := fun w => by kernel_rfl
  z3 := fun w => by kernel_rfl
  v3 := fun w => by kernel_rfl
  t9 := by kernel_rfl
  a9 := fun w => by kernel_rfl
  z9 := fun w => by kernel_rfl
  v9 := fun w => by kernel_rfl
  t37 := by kernel_rfl
  a37 := fun w => by kernel_rfl
  z37 := fun w => by kernel_rfl
  v37 := fun w => by kernel_rfl
  t70 := by kernel_rfl
  a70 := fun w => by kernel_rfl
  z70 := fun w => by kernel_rfl
  v70 := fun w => by kernel_rfl
  t72 := by kernel_rfl
  a72 := fun w => by kernel_rfl
  z72 := fun w => by kernel_rfl
  v72 := fun w => by kernel_rfl
  t127 := by kernel_rfl
  a127 := fun w => by kernel_rfl
  z127 := fun w => by kernel_rfl
  v127 := fun w => by kernel_rfl

theorem bldX : Builder.Extra Tryd.prog ρ where
  sizeBuilder := by kernel_rfl
  liesBuilder := by kernel_rfl
  t5 := by kernel_rfl
  a5 := fun w => by kernel_rfl
  z5 := fun w => by kernel_rfl
  v5 := fun w => by kernel_rfl
  infoByte := by kernel_rfl
  cellsByte := by kernel_rfl
  sizeByte := by kernel_rfl
  neB5 := by decide
end Go.Fw
