/-
  A symbolic executor for the model's code, of our own: definitions.
  States are closed in shape (slot numbers, object numbers) and open at their leaves.
-/
import Derived.Orders
import Derived.Laws.Cells
import Derived.Laws.Entries
import Derived.Laws.Slices
import Derived.IntWalk
import Derived.Laws.Tables
import Derived.Laws.StructEq

set_option linter.unusedSimpArgs false
set_option linter.unusedVariables false

namespace Go.Fw
open Go

/-- An arc as data. -/
structure Arc where
  f : Int
  i : Int
  o : Int
  t : Int
  w : Int
  deriving DecidableEq, Inhabited

structure Trip where
  a : Int
  b : Int
  c : Int
  deriving DecidableEq, Inhabited

structure Duo where
  a : Int
  b : Int
  deriving DecidableEq, Inhabited

/-- What a map of spots holds. -/
structure Fnd where
  cost : Int
  arc : Int
  s : Int
  i : Int
  o : Int
  dn : Bool
  deriving DecidableEq, Inhabited

/-- A slice as a value. -/
structure Sli where
  a : Option Addr
  n : Nat
  c : Nat
  deriving DecidableEq, Inhabited

/-- A transducer as a value. -/
structure FstV where
  states : Int
  start : Int
  fin : Sli
  arcs : Sli
  deriving DecidableEq, Inhabited

/-- Kinds of elements. -/
inductive EK where
  | int | bool | arc | trip | duo | str | sli | fst | adr | fnd

@[reducible] def EK.ty : EK → Type
  | .int => Int
  | .bool => Bool
  | .arc => Arc
  | .trip => Trip
  | .duo => Duo
  | .str => ByteArray
  | .sli => Sli
  | .fst => FstV
  | .adr => Option Addr
  | .fnd => Fnd

def EK.dflt : (k : EK) → k.ty
  | .int => (0 : Int)
  | .bool => false
  | .arc => (⟨0, 0, 0, 0, 0⟩ : Arc)
  | .trip => (⟨0, 0, 0⟩ : Trip)
  | .duo => (⟨0, 0⟩ : Duo)
  | .str => (⟨#[]⟩ : ByteArray)
  | .sli => (⟨none, 0, 0⟩ : Sli)
  | .fst => (⟨0, 0, ⟨none, 0, 0⟩, ⟨none, 0, 0⟩⟩ : FstV)
  | .adr => (none : Option Addr)
  | .fnd => (⟨0, 0, 0, 0, 0, false⟩ : Fnd)

def EK.sz : EK → Nat
  | .arc => 5
  | .trip => 3
  | .duo => 2
  | .fst => 4
  | .fnd => 6
  | _ => 1

/-- Symbolic cells. -/
inductive SC where
  | i (n : Int)
  | b (c : Bool)
  | v (x : Value)
  | ptr (id off : Nat)
  | elt (id sz k off : Nat)
  | sl (id sz lo len cap : Nat)
  | fn (f : Nat) (caps : List (Nat × Nat))
  | fnv (f : Nat) (caps : List Value)
  | u (n : Int)
  | h (x : Sli)
  | q (a : Option Addr)
  | mp (id : Nat)
  | pe (id sz : Nat) (a : Option Addr) (k off : Nat)
  | fm (f id off : Nat)

inductive SA where
  | c (x : SC)
  | agg (l : List SC)

inductive SV where
  | a (x : SA)
  | tup (l : List SA)

@[reducible] def SV.i (n : Int) : SV := .a (.c (.i n))
@[reducible] def SV.b (n : Bool) : SV := .a (.c (.b n))
@[reducible] def SV.c (x : SC) : SV := .a (.c x)
@[reducible] def SV.u : SV := .tup []

def EK.sym : (k : EK) → k.ty → List SC
  | .int, n => [.i n]
  | .bool, c => [.b c]
  | .arc, a => [.i a.f, .i a.i, .i a.o, .i a.t, .i a.w]
  | .trip, a => [.i a.a, .i a.b, .i a.c]
  | .duo, a => [.i a.a, .i a.b]
  | .str, s => [.v (.string s)]
  | .sli, x => [.h x]
  | .fst, x => [.i x.states, .i x.start, .h x.fin, .h x.arcs]
  | .adr, x => [.q x]
  | .fnd, x => [.i x.cost, .i x.arc, .i x.s, .i x.i, .i x.o, .b x.dn]

def ofInt : List SC → Option Int
  | [.i n] => some n
  | _ => none
def ofBool : List SC → Option Bool
  | [.b n] => some n
  | _ => none
def ofArc : List SC → Option Arc
  | [.i a, .i b, .i c, .i d, .i e] => some ⟨a, b, c, d, e⟩
  | _ => none
def ofTrip : List SC → Option Trip
  | [.i a, .i b, .i c] => some ⟨a, b, c⟩
  | _ => none
def ofDuo : List SC → Option Duo
  | [.i a, .i b] => some ⟨a, b⟩
  | _ => none
def ofStr : List SC → Option ByteArray
  | [.v (.string s)] => some s
  | _ => none
def ofSli : List SC → Option Sli
  | [.h x] => some x
  | [.v (.slice a n c)] => some ⟨a, n, c⟩
  | _ => none
def ofFst : List SC → Option FstV
  | [.i a, .i b, c, d] => match ofSli [c], ofSli [d] with
    | some x, some y => some ⟨a, b, x, y⟩
    | _, _ => none
  | _ => none

def ofAdr : List SC → Option (Option Addr)
  | [.q x] => some x
  | [.v (.pointer x)] => some x
  | _ => none
def ofFnd : List SC → Option Fnd
  | [.i a, .i b, .i c, .i d, .i e, .b f] => some ⟨a, b, c, d, e, f⟩
  | _ => none

/-- An element put together again of its cells. -/
def EK.ofSym : (k : EK) → List SC → Option k.ty
  | .int => ofInt
  | .bool => ofBool
  | .arc => ofArc
  | .trip => ofTrip
  | .duo => ofDuo
  | .str => ofStr
  | .sli => ofSli
  | .fst => ofFst
  | .adr => ofAdr
  | .fnd => ofFnd

def setArc (x : Arc) : Nat → SC → Option Arc
  | 0, .i n => some ⟨n, x.i, x.o, x.t, x.w⟩
  | 1, .i n => some ⟨x.f, n, x.o, x.t, x.w⟩
  | 2, .i n => some ⟨x.f, x.i, n, x.t, x.w⟩
  | 3, .i n => some ⟨x.f, x.i, x.o, n, x.w⟩
  | 4, .i n => some ⟨x.f, x.i, x.o, x.t, n⟩
  | _, _ => none
def setTrip (x : Trip) : Nat → SC → Option Trip
  | 0, .i n => some ⟨n, x.b, x.c⟩
  | 1, .i n => some ⟨x.a, n, x.c⟩
  | 2, .i n => some ⟨x.a, x.b, n⟩
  | _, _ => none
def setDuo (x : Duo) : Nat → SC → Option Duo
  | 0, .i n => some ⟨n, x.b⟩
  | 1, .i n => some ⟨x.a, n⟩
  | _, _ => none

def setFnd (x : Fnd) : Nat → SC → Option Fnd
  | 0, .i n => some ⟨n, x.arc, x.s, x.i, x.o, x.dn⟩
  | 1, .i n => some ⟨x.cost, n, x.s, x.i, x.o, x.dn⟩
  | 2, .i n => some ⟨x.cost, x.arc, n, x.i, x.o, x.dn⟩
  | 3, .i n => some ⟨x.cost, x.arc, x.s, n, x.o, x.dn⟩
  | 4, .i n => some ⟨x.cost, x.arc, x.s, x.i, n, x.dn⟩
  | 5, .b c => some ⟨x.cost, x.arc, x.s, x.i, x.o, c⟩
  | _, _ => none

/-- One cell of an element written. -/
def EK.setF : (k : EK) → k.ty → Nat → SC → Option k.ty
  | .int, _, 0, c => ofInt [c]
  | .bool, _, 0, c => ofBool [c]
  | .str, _, 0, c => ofStr [c]
  | .sli, _, 0, c => ofSli [c]
  | .arc, x, n, c => setArc x n c
  | .trip, x, n, c => setTrip x n c
  | .duo, x, n, c => setDuo x n c
  | .adr, _, 0, c => ofAdr [c]
  | .fnd, x, n, c => setFnd x n c
  | _, _, _, _ => none

abbrev Env := Nat → Option Addr

/-! ### Pools: blocks by their addresses; maps -/
def lkA {α : Type} : List (Addr × α) → Addr → Option α
  | [], _ => none
  | (b, x) :: l, a => if b = a then some x else lkA l a

/-- What lies at an address (nothing at none). -/
def rowA {α : Type} (m : List (Addr × List α × Nat)) (oa : Option Addr) : List α := match oa with
  | none => []
  | some a => match lkA m a with
    | some x => x.1
    | none => []

def setA {α : Type} (m : List (Addr × α)) (a : Addr) (y : α) : List (Addr × α) := m.map fun p => if p.1 = a then (p.1, y) else p

/-- One element at an address turned. -/
def putA {α : Type} (m : List (Addr × List α × Nat)) (oa : Option Addr) (j : Nat) (e : α) : List (Addr × List α × Nat) := match oa with
  | none => m
  | some a => match lkA m a with
    | some x => setA m a (x.1.set j e, x.2)
    | none => m

/-- A slice's head that speaks of the pool. -/
def Hd {α : Type} (m : List (Addr × List α × Nat)) (x : Sli) : Prop := match x.a with
  | none => x.n = 0 ∧ x.c = 0
  | some a => match lkA m a with
    | some y => x.n = y.1.length ∧ x.c ≤ y.1.length + y.2
    | none => False

/-- An append to a row of a pool. -/
inductive App {α : Type} (m : List (Addr × List α × Nat)) (x : Sli) (ys : List α) : List (Addr × List α × Nat) → Sli → Prop
  | stay (h : ys = []) : App m x ys m x
  | room {a : Addr} {y : List α × Nat} {sp : Nat} (h : x.a = some a) (hl : lkA m a = some y) (hc : x.c ≤ y.1.length + ys.length + sp) : App m x ys (setA m a (y.1 ++ ys, sp)) ⟨some a, x.n + ys.length, x.c⟩
  | fresh {a : Addr} {sp : Nat} (h : lkA m a = none) (hb : ∀ b y, lkA m b = some y → b.block ≠ a.block) : App m x ys ((a, rowA m x.a ++ ys, sp) :: m) ⟨some a, x.n + ys.length, x.n + ys.length + sp⟩

/-- A list of one's own goes into the pool. -/
inductive Frz {α : Type} (m : List (Addr × List α × Nat)) (xs : List α) (sp len cap : Nat) : List (Addr × List α × Nat) → Sli → Prop
  | nil (h : xs = []) : Frz m xs sp len cap m ⟨none, len, cap⟩
  | own {a : Addr} (h : lkA m a = none) (hb : ∀ b y, lkA m b = some y → b.block ≠ a.block) : Frz m xs sp len cap ((a, xs, sp) :: m) ⟨some a, len, cap⟩

/-- The pool of blocks of a type. -/
def BornOk {κ ν : Type} (es : List (κ × ν × Nat)) (clk : Nat) : Prop := (es.map (·.2.2)).Nodup ∧ ∀ e ∈ es, e.2.2 < clk

/-- Objects. 'gen': an assertion of one's own: of the blocks that it owns, and of what does not change. -/
inductive SO where
  | box (T : Nat) (cells : List SC)
  | arr (own : Bool) (E : Nat) (k : EK) (xs : List k.ty) (spare : Nat)
  | gen (A : Option Addr → (Nat → Prop) → World → Prop)
  | pool (E : Nat) (k : EK) (m : List (Addr × List k.ty × Nat))
  | map (kk vk : EK) (es : List (kk.ty × vk.ty × Nat)) (clk : Nat)
  | iter (mid since : Nat) (seen : List Nat) (last cur : Nat)

structure S where
  fr : List (Nat × SV)
  hp : List (Nat × SO)
  nx : Nat

/-- A state taken apart. -/
def S.go (s : S) (F : List (Nat × SV) → List (Nat × SO) → Nat → Prop) : Prop := match s with
  | ⟨fr, hp, nx⟩ => F fr hp nx

theorem S.go_eq (s : S) (F : List (Nat × SV) → List (Nat × SO) → Nat → Prop) : s.go F = F s.fr s.hp s.nx := by cases s; rfl

/-- Types as the executor sees them. -/
structure STy where
  kd : Nat
  agg : Bool
  offs : List (Nat × Nat)
  zero : List SC
  sl : Option (Nat × EK × Nat)
  mp : Option (Nat × EK × Nat × EK)

def look {α : Type} : List (Nat × α) → Nat → Option α
  | [], _ => none
  | (t, v) :: l, u => match Nat.beq t u with
    | true => some v
    | false => look l u

def upd {α : Type} : List (Nat × α) → Nat → α → List (Nat × α)
  | [], t, v => [(t, v)]
  | (t', v') :: l, t, v => match Nat.beq t' t with
    | true => (t, v) :: l
    | false => (t', v') :: upd l t v

def updK {α : Type} : List (Nat × α) → Nat → α → (List (Nat × α) → Prop) → Prop
  | [], t, v, k => k [(t, v)]
  | (t', v') :: l, t, v, k => match Nat.beq t' t with
    | true => k ((t, v) :: l)
    | false => updK l t v fun l' => k ((t', v') :: l')

theorem updK_iff {α : Type} (l : List (Nat × α)) (t : Nat) (v : α) (k : List (Nat × α) → Prop) : updK l t v k ↔ k (upd l t v) := by
  induction l generalizing k with
  | nil => exact Iff.rfl
  | cons p l ih =>
    obtain ⟨t', v'⟩ := p
    simp only [updK, upd]
    split
    · exact Iff.rfl
    · exact ih _

theorem nbeq (a b : Nat) : Nat.beq a b = decide (a = b) := by
  rw [Bool.eq_iff_iff]; simp

theorem look_cons {α : Type} (t : Nat) (v : α) (l : List (Nat × α)) (u : Nat) : look ((t, v) :: l) u = if t = u then some v else look l u := by
  simp only [look, nbeq]
  by_cases h : t = u <;> simp [h]

theorem upd_cons {α : Type} (t' : Nat) (v' : α) (l : List (Nat × α)) (t : Nat) (v : α) :
    upd ((t', v') :: l) t v = if t' = t then (t, v) :: l else (t', v') :: upd l t v := by
  simp only [upd, nbeq]
  by_cases h : t' = t <;> simp [h]

theorem look_upd {α : Type} (l : List (Nat × α)) (t : Nat) (v : α) (u : Nat) : look (upd l t v) u = if t = u then some v else look l u := by
  induction l with
  | nil => simp only [upd, look_cons]
  | cons p l ih =>
    obtain ⟨t', v'⟩ := p
    rw [upd_cons]
    by_cases h : t' = t
    · subst h
      rw [if_pos rfl, look_cons, look_cons]
      by_cases hu : t' = u <;> simp [hu]
    · rw [if_neg h, look_cons, look_cons, ih]
      by_cases hu : t' = u
      · subst hu
        rw [if_pos rfl, if_neg (Ne.symm h), if_pos rfl]
      · rw [if_neg hu, if_neg hu]

def lit : Value → Option SV
  | .int .i64 n => some (.i n)
  | .int .u64 n => some (.c (.u n))
  | .bool b => some (.b b)
  | .slice none 0 0 => some (.c (.v (.slice none 0 0)))
  | .string s => some (.c (.v (.string s)))
  | .pointer none => some (.c (.v (.pointer none)))
  | .map none => some (.c (.v (.map none)))
  | .nilFunc => some (.c (.v .nilFunc))
  | .int .u8 n => some (.c (.v (.int .u8 n)))
  | .nilIface => some (.c (.v .nilIface))
  | _ => none

def ev (fr : List (Nat × SV)) : Operand → Option SV
  | .tmp t => look fr t
  | .const v => lit v
  | .func f => some (.c (.fn f []))
  | .global _ => none

def takeN {α : Type} : List α → Nat → List α
  | _, 0 => []
  | [], _ => []
  | a :: l, n + 1 => a :: takeN l n

def nthN {α : Type} : List α → Nat → Option α
  | [], _ => none
  | a :: _, 0 => some a
  | _ :: l, n + 1 => nthN l n

def dropN {α : Type} : List α → Nat → List α
  | l, 0 => l
  | [], _ => []
  | _ :: l, n + 1 => dropN l n

def setN {α : Type} : List α → Nat → α → List α
  | [], _, _ => []
  | _ :: l, 0, x => x :: l
  | a :: l, n + 1, x => a :: setN l n x

def appN {α : Type} : List α → List α → List α
  | [], l => l
  | a :: k, l => a :: appN k l

def lenN {α : Type} : List α → Nat
  | [] => 0
  | _ :: l => lenN l + 1

theorem takeN_eq {α : Type} (l : List α) (n : Nat) : takeN l n = l.take n := by
  induction l generalizing n with
  | nil => cases n <;> rfl
  | cons a l ih => cases n with
    | zero => rfl
    | succ n => simp [takeN, ih]
theorem nthN_eq {α : Type} (l : List α) (n : Nat) : nthN l n = l[n]? := by
  induction l generalizing n with
  | nil => cases n <;> rfl
  | cons a l ih => cases n with
    | zero => rfl
    | succ n => simp [nthN, ih]
theorem dropN_eq {α : Type} (l : List α) (n : Nat) : dropN l n = l.drop n := by
  induction l generalizing n with
  | nil => cases n <;> rfl
  | cons a l ih => cases n with
    | zero => rfl
    | succ n => simp [dropN, ih]
theorem appN_eq {α : Type} (k l : List α) : appN k l = k ++ l := by
  induction k with
  | nil => rfl
  | cons a k ih => simp [appN, ih]
theorem lenN_eq {α : Type} (l : List α) : lenN l = l.length := by
  induction l with
  | nil => rfl
  | cons a k ih => simp [lenN, ih]

/-- A list of cells made plain. -/
def forceC : List SC → (List SC → Prop) → Prop
  | [], k => k []
  | c :: l, k => forceC l fun l' => match c with
    | .i n => k (.i n :: l')
    | .b n => k (.b n :: l')
    | .v n => k (.v n :: l')
    | .ptr a b => k (.ptr a b :: l')
    | .elt a b c d => k (.elt a b c d :: l')
    | .sl a b c d e => k (.sl a b c d e :: l')
    | .fn a b => k (.fn a b :: l')
    | .fnv a b => k (.fnv a b :: l')
    | .u a => k (.u a :: l')
    | .h a => k (.h a :: l')
    | .q a => k (.q a :: l')
    | .mp a => k (.mp a :: l')
    | .pe a b c d e => k (.pe a b c d e :: l')
    | .fm a b c => k (.fm a b c :: l')

theorem forceC_iff (l : List SC) (k : List SC → Prop) : forceC l k ↔ k l := by
  induction l generalizing k with
  | nil => exact Iff.rfl
  | cons c l ih =>
    simp only [forceC, ih]
    cases c <;> exact Iff.rfl

def forceA (x : SA) (k : SA → Prop) : Prop := match x with
  | .c c => forceC [c] fun l => match l with
    | [d] => k (.c d)
    | _ => False
  | .agg l => forceC l fun l' => k (.agg l')

theorem forceA_iff (x : SA) (k : SA → Prop) : forceA x k ↔ k x := by
  cases x with
  | c c => simp only [forceA, forceC_iff]
  | agg l => simp only [forceA, forceC_iff]

/-- Both ways. -/
structure Both (p q : Prop) : Prop where
  one : p
  two : q

/-- Side condition, then. -/
structure Ob (p : Prop) (k : Prop) : Prop where
  ob : p
  go : k

/-- Two ways, by a Bool that is not known. -/
def condP (c : Bool) (x y : Prop) : Prop := match c with
  | true => x
  | false => y

theorem condP_iff (c : Bool) (x y : Prop) : condP c x y ↔ (if c = true then x else y) := by cases c <;> simp [condP]

def InI (n : Int) : Prop := -9223372036854775808 ≤ n ∧ n ≤ 9223372036854775807

def SO.own : SO → Bool
  | .arr own _ _ _ _ => own
  | _ => true

def EK.isAgg : EK → Bool
  | .arc | .trip | .duo | .fst | .fnd => true
  | _ => false

/-- An element as a value of its own. -/
def EK.symA (k : EK) (x : k.ty) : SA := match k.isAgg with
  | true => .agg (k.sym x)
  | false => match k.sym x with
    | [c] => .c c
    | l => .agg l

def EK.beq : EK → EK → Bool
  | .int, .int | .bool, .bool | .arc, .arc | .trip, .trip | .duo, .duo | .str, .str | .sli, .sli | .fst, .fst | .adr, .adr | .fnd, .fnd => true
  | _, _ => false
theorem EK.beq_eq {k k' : EK} (h : EK.beq k k' = true) : k = k' := by
  cases k <;> cases k' <;> first | rfl | cases h

def EK.deq : (k : EK) → DecidableEq k.ty
  | .int => (inferInstance : DecidableEq Int)
  | .bool => (inferInstance : DecidableEq Bool)
  | .arc => (inferInstance : DecidableEq Arc)
  | .trip => (inferInstance : DecidableEq Trip)
  | .duo => (inferInstance : DecidableEq Duo)
  | .str => (inferInstance : DecidableEq ByteArray)
  | .sli => (inferInstance : DecidableEq Sli)
  | .fst => (inferInstance : DecidableEq FstV)
  | .adr => (inferInstance : DecidableEq (Option Addr))
  | .fnd => (inferInstance : DecidableEq Fnd)
instance EK.instDeq (k : EK) : DecidableEq k.ty := k.deq

/-- What a map holds at a key. -/
def lkM {κ ν : Type} [DecidableEq κ] : List (κ × ν × Nat) → κ → Option ν
  | [], _ => none
  | (x, v, _) :: l, y => if x = y then some v else lkM l y

def setM {κ ν : Type} [DecidableEq κ] : List (κ × ν × Nat) → κ → ν → List (κ × ν × Nat)
  | [], _, _ => []
  | (x, w, n) :: l, y, v => if x = y then (x, v, n) :: l else (x, w, n) :: setM l y v

/-- The map with a key's value told. -/
def insM {κ ν : Type} [DecidableEq κ] (es : List (κ × ν × Nat)) (clk : Nat) (x : κ) (v : ν) : List (κ × ν × Nat) × Nat :=
  if (lkM es x).isSome then (setM es x v, clk) else (es ++ [(x, v, clk)], clk + 1)

end Go.Fw

/-
  What the symbolic states mean; the operations that leave the world alone.
-/
namespace Go.Fw
open Go

def SC.den (β : Env) : SC → Value
  | .i n => .int .i64 n
  | .b c => .bool c
  | .v x => x
  | .ptr id off => .pointer ((β id).map (·.add off))
  | .elt id sz k off => .pointer ((β id).map (·.add (k * sz + off)))
  | .sl id sz lo len cap => .slice ((β id).map (·.add (lo * sz))) len cap
  | .fn f caps => .func (.func f) #[] (caps.map fun p => Value.pointer ((β p.1).map (·.add p.2))).toArray
  | .fnv f caps => .func (.func f) #[] caps.toArray
  | .u n => .int .u64 n
  | .h x => .slice x.a x.n x.c
  | .q a => .pointer a
  | .mp id => .map ((β id).map (·.block))
  | .pe _ sz a k off => .pointer (a.map (·.add (k * sz + off)))
  | .fm f id off => .func (.func f) #[.pointer ((β id).map (·.add off))] #[]

def SA.den (β : Env) : SA → Value
  | .c x => x.den β
  | .agg l => .agg (l.map (SC.den β)).toArray

def SV.den (β : Env) : SV → Value
  | .a x => x.den β
  | .tup l => .tuple (l.map (SA.den β)).toArray

def SC.lt (n : Nat) : SC → Prop
  | .ptr id _ | .elt id _ _ _ | .sl id _ _ _ _ | .mp id | .pe id _ _ _ _ | .fm _ id _ => id < n
  | .fn _ caps => ∀ p ∈ caps, p.1 < n
  | .v x => x.oneCell' = true
  | _ => True

def SA.lt (n : Nat) : SA → Prop
  | .c x => x.lt n
  | .agg l => ∀ c ∈ l, SC.lt n c

def SV.lt (n : Nat) : SV → Prop
  | .a x => x.lt n
  | .tup l => ∀ c ∈ l, SA.lt n c

def SO.lt (n : Nat) : SO → Prop
  | .box _ cs => ∀ c ∈ cs, SC.lt n c
  | .iter mid _ _ _ _ => mid < n
  | _ => True

theorem SC.lt_mono {n m : Nat} (h : n ≤ m) {c : SC} (hc : c.lt n) : c.lt m := by
  cases c <;> simp only [SC.lt] at * <;> first | omega | trivial | exact hc | (intro p hp; have := hc p hp; omega)
theorem SA.lt_mono {n m : Nat} (h : n ≤ m) {c : SA} (hc : c.lt n) : c.lt m := by
  cases c with
  | c x => exact SC.lt_mono h hc
  | agg l => exact fun c hl => SC.lt_mono h (hc c hl)
theorem SV.lt_mono {n m : Nat} (h : n ≤ m) {c : SV} (hc : c.lt n) : c.lt m := by
  cases c with
  | a x => exact SA.lt_mono (c := x) h hc
  | tup l => exact fun c hl => SA.lt_mono h (hc c hl)
theorem SO.lt_mono {n m : Nat} (h : n ≤ m) {o : SO} (ho : o.lt n) : o.lt m := by
  cases o with
  | box T l => exact fun c hl => SC.lt_mono h (ho c hl)
  | iter mid a b c d => exact Nat.lt_of_lt_of_le ho h
  | _ => trivial

theorem SC.den_congr {n : Nat} {β γ : Env} (h : ∀ id, id < n → γ id = β id) {c : SC} (hc : c.lt n) : c.den γ = c.den β := by
  cases c <;> simp only [SC.lt, SC.den] at * <;> try rw [h _ hc]
  congr 2
  apply List.map_congr_left
  intro p hp
  rw [h _ (hc p hp)]
theorem SC.map_den_congr {n : Nat} {β γ : Env} (h : ∀ id, id < n → γ id = β id) {l : List SC} (hl : ∀ c ∈ l, SC.lt n c) : l.map (SC.den γ) = l.map (SC.den β) :=
  List.map_congr_left fun c hc => SC.den_congr h (hl c hc)
theorem SA.den_congr {n : Nat} {β γ : Env} (h : ∀ id, id < n → γ id = β id) {c : SA} (hc : c.lt n) : c.den γ = c.den β := by
  cases c with
  | c x => exact SC.den_congr h hc
  | agg l => simp only [SA.den]; rw [SC.map_den_congr h hc]
theorem SV.den_congr {n : Nat} {β γ : Env} (h : ∀ id, id < n → γ id = β id) {c : SV} (hc : c.lt n) : c.den γ = c.den β := by
  cases c with
  | a x => exact SA.den_congr (c := x) h hc
  | tup l =>
    simp only [SV.den]
    rw [List.map_congr_left fun c hl => SA.den_congr h (hc c hl)]

/-! ### Elements -/
def EK.cells (k : EK) (x : k.ty) : List Value := (k.sym x).map (SC.den fun _ => none)

theorem EK.sym_den (k : EK) (x : k.ty) (β : Env) : (k.sym x).map (SC.den β) = k.cells x := by
  cases k <;> rfl
theorem EK.sym_lt (k : EK) (x : k.ty) (n : Nat) : ∀ c ∈ k.sym x, SC.lt n c := by
  cases k <;> simp [EK.sym, SC.lt, Value.oneCell']
theorem EK.cells_length (k : EK) (x : k.ty) : (k.cells x).length = k.sz := by cases k <;> rfl
theorem EK.sym_length (k : EK) (x : k.ty) : (k.sym x).length = k.sz := by cases k <;> rfl

def flat (k : EK) (xs : List k.ty) : List Value := xs.flatMap k.cells

theorem flat_length (k : EK) (xs : List k.ty) : (flat k xs).length = xs.length * k.sz := by
  induction xs with
  | nil => simp [flat]
  | cons x xs ih =>
    simp only [flat, List.flatMap_cons, List.length_append, EK.cells_length, List.length_cons] at *
    rw [ih, Nat.succ_mul]; omega

theorem flat_get (k : EK) : ∀ (xs : List k.ty) (i off : Nat), i < xs.length → off < k.sz → (flat k xs)[i * k.sz + off]? = (k.cells (xs.getD i k.dflt))[off]?
  | [], i, off, hi, _ => by simp at hi
  | x :: xs, 0, off, _, ho => by
    simp only [flat, List.flatMap_cons, Nat.zero_mul, Nat.zero_add, List.getD_cons_zero]
    rw [List.getElem?_append_left (by rw [EK.cells_length]; exact ho)]
  | x :: xs, i + 1, off, hi, ho => by
    have ih := flat_get k xs i off (by simpa using hi) ho
    simp only [flat, List.flatMap_cons, List.getD_cons_succ] at *
    rw [List.getElem?_append_right (by rw [EK.cells_length, Nat.succ_mul]; omega), ← ih, EK.cells_length]
    congr 1
    rw [Nat.succ_mul]; omega

def EK.val (k : EK) (x : k.ty) : Value := (k.symA x).den fun _ => none

theorem EK.symA_den (k : EK) (x : k.ty) (β : Env) : (k.symA x).den β = k.val x := by cases k <;> rfl
theorem EK.symA_lt (k : EK) (x : k.ty) (n : Nat) : (k.symA x).lt n := by
  cases k <;> simp [EK.symA, EK.isAgg, EK.sym, SA.lt, SC.lt, Value.oneCell']

/-- A map's entry. -/
def ent (kk vk : EK) (e : kk.ty × vk.ty × Nat) : MapEntry := { key := kk.val e.1, val := vk.val e.2.1, born := e.2.2 }

/-! ### Objects -/
/-- A pool's blocks. -/
structure PoolOk (fp : Nat → Prop) (w : World) (E : Nat) (k : EK) (m : List (Addr × List k.ty × Nat)) : Prop where
  row : ∀ a xs sp, lkA m a = some (xs, sp) → a.spot = none ∧ fp a.block ∧ ∃ pre post, w.heap[a.block]? = some (.cells (pre ++ flat k xs ++ post).toArray E (0, 0)) ∧ pre.length = a.off ∧ sp * k.sz ≤ post.length
  one : ∀ a a' x x', lkA m a = some x → lkA m a' = some x' → a.block = a'.block → a = a'

def SO.ok (β : Env) (Z fp : Nat → Prop) (w : World) (oa : Option Addr) : SO → Prop
  | .box T cs => ∃ b, oa = some ⟨b, 0, none⟩ ∧ fp b ∧ w.heap[b]? = some (.cells (cs.map (SC.den β)).toArray T (0, 0))
  | .arr own E k xs sp => match oa with
    | none => xs = [] ∧ sp = 0
    | some a => match own with
      | true => a.spot = none ∧ fp a.block ∧ ∃ pre post, w.heap[a.block]? = some (.cells (pre ++ flat k xs ++ post).toArray E (0, 0)) ∧ pre.length = a.off ∧ sp * k.sz ≤ post.length
      | false => xs ≠ [] → a.spot = none ∧ Z a.block ∧ a.block < w.heap.size ∧ ∀ j v, (flat k xs)[j]? = some v → w.cell? (a.add j) = some v
  | .pool E k m => PoolOk fp w E k m
  | .map kk vk es clk => ∃ b, oa = some ⟨b, 0, none⟩ ∧ fp b ∧ w.heap[b]? = some (.map (es.map (ent kk vk)).toArray clk)
  | .iter mid since seen last _ => ∃ b r, oa = some ⟨b, 0, none⟩ ∧ fp b ∧ β mid = some ⟨r, 0, none⟩ ∧ w.heap[b]? = some (.mapIter (some r) since seen.toArray last)
  | .gen A => A oa fp w ∧ ∀ w' : World, (∀ b, fp b → w'.heap[b]? = w.heap[b]?) → w'.heap[0]? = w.heap[0]? → A oa fp w'

structure HSat (β : Env) (Z : Nat → Prop) (fp : Nat → Nat → Prop) (s : S) (w : World) : Prop where
  zlt' : Z 0 ∧ ∀ b, Z b → b < w.heap.size
  flt : ∀ id o, look s.hp id = some o → ∀ b, fp id b → b < w.heap.size ∧ ¬ Z b
  sep : ∀ id id' o o', look s.hp id = some o → look s.hp id' = some o' → id ≠ id' → ∀ b, fp id b → ¬ fp id' b
  obj : ∀ id o, look s.hp id = some o → o.ok β Z (fp id) w (β id)
  lto : ∀ id o, look s.hp id = some o → id < s.nx ∧ o.lt s.nx

theorem HSat.zlt {β : Env} {Z : Nat → Prop} {fp : Nat → Nat → Prop} {s : S} {w : World} (h : HSat β Z fp s w) : ∀ b, Z b → b < w.heap.size := h.zlt'.2

/-- How many slots; what is deferred. -/
abbrev NT := Nat × List Deferred

structure FSat (β : Env) (s : S) (N : NT) (a : Act) : Prop where
  tmp : ∀ t v, look s.fr t = some v → a.tmps[t]? = some (v.den β)
  lt : ∀ t v, look s.fr t = some v → v.lt s.nx
  size : a.tmps.size = N.1
  defers : a.defers = N.2

theorem flat_cell {w : World} {b off E : Nat} {k : EK} {xs : List k.ty} {pre post : List Value}
    (h : w.heap[b]? = some (.cells (pre ++ flat k xs ++ post).toArray E (0, 0))) (hp : pre.length = off) (j : Nat) (v : Value) (hj : (flat k xs)[j]? = some v) :
    w.cell? ⟨b, off + j, none⟩ = some v := by
  have hlt : j < (flat k xs).length := by
    rcases Nat.lt_or_ge j (flat k xs).length with h' | h'
    · exact h'
    · rw [List.getElem?_eq_none h'] at hj; cases hj
  simp only [World.cell?, h]
  simp only [Option.isSome_none, Bool.false_eq_true, if_false, List.getElem?_toArray]
  rw [List.append_assoc, List.getElem?_append_right (by omega), List.getElem?_append_left (by omega), ← hj]
  congr 1; omega

/-- A cell of an array object reads as it must. -/
theorem SO.ok_cell {β : Env} {Z fp : Nat → Prop} {w : World} {oa : Option Addr} {own : Bool} {E : Nat} {k : EK} {xs : List k.ty} {sp : Nat}
    (h : SO.ok β Z fp w oa (.arr own E k xs sp)) (hne : xs ≠ []) :
    ∃ a, oa = some a ∧ a.spot = none ∧ ∀ j v, (flat k xs)[j]? = some v → w.cell? ⟨a.block, a.off + j, none⟩ = some v := by
  cases oa with
  | none => exact absurd h.1 hne
  | some a =>
    cases own with
    | true =>
      obtain ⟨hs, _, pre, post, hh, hp, _⟩ := h
      exact ⟨a, rfl, hs, fun j v hj => flat_cell hh hp j v hj⟩
    | false =>
      obtain ⟨hs, _, _, hc⟩ := h hne
      refine ⟨a, rfl, hs, fun j v hj => ?_⟩
      have := hc j v hj
      obtain ⟨b, o, sp⟩ := a
      cases hs
      rwa [Addr.add_lit] at this

theorem ev_den {β : Env} {s : S} {N : NT} {a : Act} (hf : FSat β s N a) {x : Operand} {v : SV} (h : ev s.fr x = some v) : a.eval x = v.den β ∧ v.lt s.nx := by
  cases x with
  | tmp t =>
    have h1 := hf.tmp t v h
    exact ⟨by simp [Act.eval, Array.getD_eq_getD_getElem?, h1], hf.lt t v h⟩
  | const c =>
    simp only [ev, lit] at h
    split at h <;> cases h <;> simp [Act.eval, SV.den, SA.den, SC.den, SV.lt, SA.lt, SC.lt, Value.oneCell']
  | global g => cases h
  | func f =>
    simp only [ev] at h
    cases h
    simp [Act.eval, SV.den, SA.den, SC.den, SV.lt, SA.lt, SC.lt]

theorem wrap_in {n : Int} (h : InI n) : IntKind.i64.wrap n = n := IntWalk.i64_in n (by have := h.1; have := h.2; omega)

end Go.Fw

/-
  The operations that leave the world alone, as the executor takes them.
-/
namespace Go.Fw
open Go

/-- The value of a type's zero. -/
def STy.zv (d : STy) : Value := match d.agg with
  | true => .agg (d.zero.map (SC.den fun _ => none)).toArray
  | false => match d.zero with
    | [z] => z.den fun _ => none
    | _ => undef

/-- Where a key stands in a map. -/
def findE (kk vk : EK) (x : kk.ty) : List (kk.ty × vk.ty × Nat) → Nat → Option (Nat × Value)
  | [], _ => none
  | e :: l, i => if e.1 = x then some (i, vk.val e.2.1) else findE kk vk x l (i + 1)

/-- What is asked of a map's keys. -/
structure MapOk (P : Program) (t kt : Nat) (kk : EK) (vt : Nat) (vk : EK) : Prop where
  ty : P.underlying t = some (.map kt vt)
  ck : ∀ (x : kk.ty) (w : World) (e : Bool), (Instr.checkKey e 10000 kt (kk.val x)).run P w = .ok () w
  fk : ∀ (x : kk.ty) (es : List (kk.ty × vk.ty × Nat)) (w : World), (Instr.findKey kt (kk.val x) (es.map (ent kk vk))).run P w = .ok (findE kk vk x es 0) w
  sb : ∀ x : kk.ty, Instr.sameBits 10000 (kk.val x) (kk.val x) = true
  zv : ∀ w, (zeroValue vt).run P w = .ok (vk.val vk.dflt) w

structure TyOk1 (P : Program) (t : Nat) (d : STy) : Prop where
  agg : ∀ w, (isAgg t).run P w = .ok d.agg w
  size : ∀ w, (sizeOf t).run P w = .ok d.zero.length w
  zero : ∀ w, (zeroValue t).run P w = .ok d.zv w
  one : d.agg = false → ∃ z, d.zero = [z]
  zlt : ∀ c ∈ d.zero, c.lt 0
  str : d.agg = true → ∃ fields, P.underlying t = some (.struct fields) ∧ ∀ (i : Nat) (p : Nat × Nat), d.offs[i]? = some p →
    ∃ f : Field, fields[i]? = some f ∧ f.offset = p.1 ∧ (∀ w, (sizeOf f.type).run P w = .ok p.2 w) ∧ p.2 ≠ 0
  bt : d.agg = true → ∀ parts, P.built t parts = Instr.fill (fun i => d.offs.toArray[i]?) (d.zero.map (SC.den fun _ => none)).toArray parts
  sl : ∀ E k bytes, d.sl = some (E, k, bytes) → P.underlying t = some (.slice E) ∧ (∀ w, (sizeOf E).run P w = .ok k.sz w) ∧
    ∃ (i : TypeInfo) (z : Value), P.info? E = some i ∧ i.zero = some z ∧ i.size = k.sz ∧ i.bytes = bytes ∧ z.cells.toList = k.cells k.dflt
  mp : ∀ kt kk vt vk, d.mp = some (kt, kk, vt, vk) → MapOk P t kt kk vt vk
  kd1 : d.kd = 1 → P.underlying t = some (.int .i64)
  kd2 : d.kd = 2 → P.underlying t = some .bool
  kd3 : d.kd = 3 → P.underlying t = some .string
  kd4 : d.kd = 4 → P.underlying t = some (.int .u64)
  kd9 : d.kd = 9 → P.underlying t = some (.int .u8)
  kd10 : d.kd = 10 → ∃ ms, P.underlying t = some (.interface ms)
  cmp : d.kd = 7 → (∀ (op : BinOp) (x y : Operand) (xs ys : Array Value) (w : World), (eqGuard op t x y (.agg xs) (.agg ys)).run P w = .ok () w) ∧
    ∀ (l m : List Int) (w : World), l.length = d.zero.length → m.length = d.zero.length → (Op.equalIn 10000 t (.agg (l.map (Value.int .i64)).toArray) (.agg (m.map (Value.int .i64)).toArray)).run P w = .ok (l == m) w

def TyOk (P : Program) (ty : List (Nat × STy)) : Prop := ∀ t d, look ty t = some d → TyOk1 P t d

def cellsOf : SV → Option (List SC)
  | .a (.c c) => some [c]
  | .a (.agg l) => some l
  | _ => none

def wr {α : Type} (z : List α) (off : Nat) (cs : List α) : List α := appN (takeN z off) (appN cs (dropN z (off + lenN cs)))

def buildK (fr : List (Nat × SV)) (offs : List (Nat × Nat)) : List (Nat × Operand) → List SC → (List SC → Prop) → Prop
  | [], z, k => k z
  | (i, x) :: r, z, k => match nthN offs i, ev fr x with
    | some (off, size), some v => match cellsOf v with
      | some cs => match Nat.beq (lenN cs) size, Nat.ble (off + size) (lenN z) with
        | true, true => forceC (wr z off cs) fun z' => buildK fr offs r z' k
        | _, _ => False
      | none => False
    | _, _ => False

def capsK (fr : List (Nat × SV)) : List Operand → (List (Nat × Nat) → Prop) → Prop
  | [], k => k []
  | x :: l, k => match ev fr x with
    | some (.a (.c (.ptr id off))) => capsK fr l fun r => k ((id, off) :: r)
    | _ => False

def binI (op : BinOp) (x y : Int) (k : SV → Prop) : Prop :=
  match op with
  | .add => Ob (InI (x + y)) (k (.i (x + y)))
  | .sub => Ob (InI (x - y)) (k (.i (x - y)))
  | .mul => Ob (InI (x * y)) (k (.i (x * y)))
  | .eql => k (.b (x == y))
  | .neq => k (.b (x != y))
  | .lss => k (.b (decide (x < y)))
  | .leq => k (.b (decide (x ≤ y)))
  | .gtr => k (.b (decide (x > y)))
  | .geq => k (.b (decide (x ≥ y)))
  | .quo => Ob (0 ≤ x ∧ 0 < y ∧ InI x) (k (.i (x / y)))
  | .rem => Ob (0 ≤ x ∧ 0 < y ∧ InI x) (k (.i (x % y)))
  | _ => False

def binU (op : BinOp) (x y : Int) (k : SV → Prop) : Prop :=
  match op with
  | .shr => Ob (y = 1) (k (.c (.u (x / 2))))
  | .eql => k (.b (x == y))
  | .neq => k (.b (x != y))
  | .lss => k (.b (decide (x < y)))
  | .leq => k (.b (decide (x ≤ y)))
  | .gtr => k (.b (decide (x > y)))
  | .geq => k (.b (decide (x ≥ y)))
  | _ => False

/-- Two bytes. -/
def binC (op : BinOp) (x y : Int) (k : SV → Prop) : Prop :=
  match op with
  | .eql => k (.b (x == y))
  | .neq => k (.b (x != y))
  | .lss => k (.b (decide (x < y)))
  | .leq => k (.b (decide (x ≤ y)))
  | .gtr => k (.b (decide (x > y)))
  | .geq => k (.b (decide (x ≥ y)))
  | _ => False

/-- An error, and none. -/
def binN (op : BinOp) (x : Value) (k : SV → Prop) : Prop :=
  match x, op with
  | .nilIface, .eql => k (.b true)
  | .nilIface, .neq => k (.b false)
  | .iface _ _, .eql => k (.b false)
  | .iface _ _, .neq => k (.b true)
  | _, _ => False

def isConst : Operand → Bool
  | .const _ => true
  | _ => false

/-- A byte of a text. -/
def byteA (b : ByteArray) (n : Nat) : Int := ((b.data.toList.getD n 0).toNat : Nat)

def intsOf : List SC → Option (List Int)
  | [] => some []
  | .i n :: l => match intsOf l with
    | some m => some (n :: m)
    | none => none
  | _ => none

def cmpK (op : BinOp) (x y : List Int) (k : SV → Prop) : Prop :=
  match op with
  | .eql => k (.b (x == y))
  | .neq => k (.b (!(x == y)))
  | _ => False

def nilK (op : BinOp) (p : Prop) (k : SV → Prop) : Prop :=
  match op with
  | .eql => ∀ c : Bool, (c = true → p) → k (.b c)
  | .neq => ∀ c : Bool, (c = true → p) → k (.b (!c))
  | _ => False

def binB (kd : Nat) (op : BinOp) (x y : Bool) (k : SV → Prop) : Prop :=
  match Nat.beq kd 2 with
  | true => match op with
    | .eql => k (.b (x == y))
    | .neq => k (.b (!(x == y)))
    | _ => False
  | false => False

def binS (op : BinOp) (x y : ByteArray) (k : SV → Prop) : Prop :=
  match op with
  | .add => Ob ((x.size + y.size : Nat) ≤ 9223372036854775807) (k (.c (.v (.string (x ++ y)))))
  | .eql => k (.b (x.toList == y.toList))
  | .neq => k (.b (!(x.toList == y.toList)))
  | _ => False

def optI (fr : List (Nat × SV)) (d : Int) : Option Operand → (Int → Prop) → Prop
  | none, k => k d
  | some x, k => match ev fr x with
    | some (.a (.c (.i n))) => k n
    | _ => False

def isAggV : SV → Bool
  | .a (.agg _) => true
  | _ => false
def eqB : Bool → Bool → Bool
  | true, true => true
  | false, false => true
  | _, _ => false

/-- The pool of blocks of a type. -/
def findP : List (Nat × SO) → Nat → Option Nat
  | [], _ => none
  | (id, .pool E _ _) :: l, T => match Nat.beq E T with
    | true => some id
    | false => findP l T
  | _ :: l, T => findP l T

def qOp (ty : List (Nat × STy)) (op : Op) (s : S) (k : SV → Prop) : Prop :=
  match op with
  | .move x | .assign x => match ev s.fr x with
    | some v => k v
    | none => False
  | .pick c x y => match ev s.fr c, ev s.fr x, ev s.fr y with
    | some (.a (.c (.b c))), some v, some u => condP c (k v) (k u)
    | _, _, _ => False
  | .fieldAddr T x f => match look ty T, ev s.fr x with
    | some d, some (.a (.c (.ptr id off))) => match d.agg, nthN d.offs f, look s.hp id with
      | true, some (o, _), some (.box _ _) => k (.c (.ptr id (off + o)))
      | _, _, _ => False
    | some d, some (.a (.c (.elt id sz i off))) => match d.agg, nthN d.offs f, look s.hp id with
      | true, some (o, _), some (.arr _ _ _ xs _) => Ob (i < xs.length) (k (.c (.elt id sz i (off + o))))
      | _, _, _ => False
    | some d, some (.a (.c (.q a))) => match d.agg, nthN d.offs f, findP s.hp T with
      | true, some (o, _), some id => match look s.hp id with
        | some (.pool _ ek m) => Ob (0 < (rowA m a).length) (k (.c (.pe id ek.sz a 0 o)))
        | _ => False
      | _, _, _ => False
    | some d, some (.a (.c (.pe id sz a i off))) => match d.agg, nthN d.offs f, look s.hp id with
      | true, some (o, _), some (.pool _ _ m) => Ob (i < (rowA m a).length) (k (.c (.pe id sz a i (off + o))))
      | _, _, _ => False
    | _, _ => False
  | .load T x => match look ty T, ev s.fr x with
    | some d, some (.a (.c (.ptr id off))) => match look s.hp id with
      | some (.box _ cells) => match d.agg with
        | true => match Nat.ble (off + lenN d.zero) (lenN cells) with
          | true => forceC (takeN (dropN cells off) (lenN d.zero)) fun l => k (.a (.agg l))
          | false => False
        | false => match nthN cells off with
          | some c => k (.a (.c c))
          | none => False
      | _ => False
    | some d, some (.a (.c (.elt id sz i off))) => match look s.hp id with
      | some (.arr _ _ ek xs _) => match Nat.beq sz ek.sz with
        | true => Ob (i < xs.length) (match d.agg with
          | true => match Nat.beq off 0, Nat.beq (lenN d.zero) ek.sz with
            | true, true => forceC (ek.sym (xs.getD i ek.dflt)) fun l => k (.a (.agg l))
            | _, _ => False
          | false => match nthN (ek.sym (xs.getD i ek.dflt)) off with
            | some c => k (.a (.c c))
            | none => False)
        | false => False
      | _ => False
    | some d, some (.a (.c (.pe id sz a i off))) => match look s.hp id with
      | some (.pool _ ek m) => match Nat.beq sz ek.sz with
        | true => Ob (i < (rowA m a).length) (match d.agg with
          | true => match Nat.ble (off + lenN d.zero) ek.sz with
            | true => forceC (takeN (dropN (ek.sym ((rowA m a).getD i ek.dflt)) off) (lenN d.zero)) fun l => k (.a (.agg l))
            | false => False
          | false => match nthN (ek.sym ((rowA m a).getD i ek.dflt)) off with
            | some c => k (.a (.c c))
            | none => False)
        | false => False
      | _ => False
    | some d, some (.a (.c (.q a))) => match findP s.hp T with
      | some id => match look s.hp id with
        | some (.pool _ ek m) => match d.agg, Nat.beq (lenN d.zero) ek.sz with
          | true, true => Ob (0 < (rowA m a).length) (forceC (ek.sym ((rowA m a).getD 0 ek.dflt)) fun l => k (.a (.agg l)))
          | _, _ => False
        | _ => False
      | none => False
    | _, _ => False
  | .nilCheck x => match ev s.fr x with
    | some (.a (.c (.ptr id off))) => match look s.hp id with
      | some (.box _ _) => k (.c (.ptr id off))
      | _ => False
    | some (.a (.c (.elt id sz i off))) => match look s.hp id with
      | some (.arr _ _ _ xs _) => Ob (i < xs.length) (k (.c (.elt id sz i off)))
      | _ => False
    | some (.a (.c (.fn f c))) => k (.c (.fn f c))
    | some (.a (.c (.fnv f c))) => k (.c (.fnv f c))
    | some (.a (.c (.q a))) => Ob (a.isSome = true) (k (.c (.q a)))
    | _ => False
  | .binOp op T x y _ => match ev s.fr x, ev s.fr y with
    | some (.a (.c (.i a))), some (.a (.c (.i b))) => binI op a b k
    | some (.a (.c (.b a))), some (.a (.c (.b b))) => match look ty T with
      | some d => binB d.kd op a b k
      | none => False
    | some (.a (.c (.v (.string a)))), some (.a (.c (.v (.string b)))) => binS op a b k
    | some (.a (.c (.u a))), some (.a (.c (.u b))) => binU op a b k
    | some (.a (.c (.v (.int .u8 a)))), some (.a (.c (.v (.int .u8 b)))) => binC op a b k
    | some (.a (.c (.v xv))), some (.a (.c (.v .nilIface))) => match look ty T, isConst y with
      | some d, true => match Nat.beq d.kd 10 with
        | true => binN op xv k
        | false => False
      | _, _ => False
    | some (.a (.agg l)), some (.a (.agg m)) => match look ty T with
      | some d => match Nat.beq d.kd 7, intsOf l, intsOf m with
        | true, some xs, some ys => match Nat.beq (lenN xs) (lenN d.zero), Nat.beq (lenN ys) (lenN d.zero) with
          | true, true => cmpK op xs ys k
          | _, _ => False
        | _, _, _ => False
      | none => False
    | some (.a (.c (.sl id _ _ _ _))), some (.a (.c (.v (.slice none 0 0)))) => match look ty T, look s.hp id with
      | some d, some (.arr _ _ _ xs _) => match d.sl with
        | some _ => nilK op (xs = []) k
        | none => False
      | _, _ => False
    | _, _ => False
  | .unOp .not _ x => match ev s.fr x with
    | some (.a (.c (.b c))) => k (.b (!c))
    | _ => False
  | .unOp .neg _ x => match ev s.fr x with
    | some (.a (.c (.i n))) => Ob (InI (0 - n)) (k (.i (0 - n)))
    | _ => False
  | .convert src dst x => match ev s.fr x, look ty src, look ty dst with
    | some (.a (.c (.i n))), some d, some e => match Nat.beq d.kd 1, Nat.beq e.kd 1 with
      | true, true => Ob (InI n) (k (.i n))
      | true, false => match Nat.beq e.kd 4, Nat.beq e.kd 9 with
        | true, _ => Ob (0 ≤ n ∧ n ≤ 18446744073709551615) (k (.c (.u n)))
        | false, true => Ob (0 ≤ n ∧ n ≤ 255) (k (.c (.v (.int .u8 n))))
        | _, _ => False
      | _, _ => False
    | some (.a (.c (.v (.int .u8 n)))), some d, some e => match Nat.beq d.kd 9, Nat.beq e.kd 1 with
      | true, true => Ob (0 ≤ n ∧ n ≤ 255) (k (.i n))
      | _, _ => False
    | some (.a (.c (.u n))), some d, some e => match Nat.beq d.kd 4, Nat.beq e.kd 1 with
      | true, true => Ob (InI n) (k (.i n))
      | true, false => match Nat.beq e.kd 4 with
        | true => Ob (0 ≤ n ∧ n ≤ 18446744073709551615) (k (.c (.u n)))
        | false => False
      | _, _ => False
    | _, _, _ => False
  | .indexAddr T x ix => match look ty T, ev s.fr x, ev s.fr ix with
    | some d, some (.a (.c (.sl id sz lo len _))), some (.a (.c (.i n))) => match d.sl, look s.hp id with
      | some (_, ek, _), some (.arr _ _ _ xs _) => match Nat.beq sz ek.sz with
        | true => Ob (0 ≤ n ∧ n < len ∧ lo + len ≤ xs.length) (k (.c (.elt id sz (lo + n.toNat) 0)))
        | false => False
      | some (_, ek, _), some (.box _ _) => match Nat.beq sz ek.sz with
        | true => Ob (0 ≤ n ∧ n < len) (k (.c (.ptr id ((lo + n.toNat) * sz))))
        | false => False
      | _, _ => False
    | some d, some (.a (.c (.h y))), some (.a (.c (.i n))) => match d.sl with
      | some (E, ek, _) => match findP s.hp E with
        | some id => match look s.hp id with
          | some (.pool _ k0 m) => match Nat.beq k0.sz ek.sz with
            | true => Ob (0 ≤ n ∧ n < y.n ∧ n.toNat < (rowA m y.a).length) (k (.c (.pe id ek.sz y.a n.toNat 0)))
            | false => False
          | _ => False
        | none => False
      | none => False
    | _, _, _ => False
  | .index T x ix => match look ty T, ev s.fr x, ev s.fr ix with
    | some d, some (.a (.c (.v (.string b)))), some (.a (.c (.i n))) => match Nat.beq d.kd 3 with
      | true => Ob (0 ≤ n ∧ n < b.size) (k (.c (.v (.int .u8 (byteA b n.toNat)))))
      | false => False
    | _, _, _ => False
  | .lookup T x ix ok => match look ty T, ev s.fr x, ev s.fr ix with
    | some d, some (.a (.c (.mp id))), some kv => match d.mp, look s.hp id, cellsOf kv with
      | some (_, kk, _, vk), some (.map kk0 vk0 es _), some cs => match kk0.ofSym cs, EK.beq kk0 kk, EK.beq vk0 vk, eqB (isAggV kv) kk0.isAgg with
        | some key, true, true, true => forceA (vk0.symA ((lkM es key).getD vk0.dflt)) fun v => match ok with
          | true => k (.tup [v, .c (.b (lkM es key).isSome)])
          | false => k (.a v)
        | _, _, _, _ => False
      | _, _, _ => False
    | _, _, _ => False
  | .entry x => match ev s.fr x with
    | some (.a (.c (.ptr it 0))) => match look s.hp it with
      | some (.iter mid _ seen last cur) => match look s.hp mid with
        | some (.map kk vk es clk) => Ob (BornOk es clk ∧ last = clk ∧ ∃ h : cur < es.length, seen.getLast? = some es[cur].2.2) (∀ h : cur < es.length, forceA (kk.symA es[cur].1) fun x => forceA (vk.symA es[cur].2.1) fun y => k (.tup [x, y]))
        | _ => False
      | _ => False
    | _ => False
  | .slice T x lo hi none => match look ty T, ev s.fr x with
    | some d, some (.a (.c (.sl id sz lo0 len cap))) => match d.sl with
      | some (_, ek, _) => match Nat.beq sz ek.sz with
        | true => optI s.fr 0 lo fun l => optI s.fr len hi fun h => Ob (0 ≤ l ∧ l ≤ h ∧ h ≤ cap)
          (condP (decide (l < cap)) (k (.c (.sl id sz (lo0 + l.toNat) (h - l).toNat (cap - l.toNat)))) (k (.c (.sl id sz lo0 (h - l).toNat (cap - l.toNat)))))
        | false => False
      | none => False
    | some d, some (.a (.c (.v (.string b)))) => match Nat.beq d.kd 3 with
      | true => optI s.fr 0 lo fun l => optI s.fr b.size hi fun h => Ob (0 ≤ l ∧ l ≤ h ∧ h ≤ b.size) (k (.c (.v (.string (b.extract l.toNat h.toNat)))))
      | false => False
    | _, _ => False
  | .extract x i => match ev s.fr x with
    | some (.tup l) => match nthN l i with
      | some v => k (.a v)
      | none => False
    | _ => False
  | .build T parts => match look ty T with
    | some d => match d.agg with
      | true => buildK s.fr d.offs parts.toList d.zero fun l => k (.a (.agg l))
      | false => False
    | none => False
  | .makeFunc (.func f) first caps => match first.toList with
    | [] => capsK s.fr caps.toList fun l => k (.c (.fn f l))
    | [x] => match caps.toList, ev s.fr x with
      | [], some (.a (.c (.ptr id off))) => k (.c (.fm f id off))
      | _, _ => False
    | _ => False
  | .call { callee := .builtin .len, args, argTypes } => match args.toList, argTypes.toList with
    | [x], [t] => match ev s.fr x, look ty t with
      | some (.a (.c (.sl _ _ _ n _))), some d => match d.sl with
        | some _ => k (.i n)
        | none => False
      | some (.a (.c (.v (.slice none 0 0)))), some d => match d.sl with
        | some _ => k (.i 0)
        | none => False
      | some (.a (.c (.h x))), some d => match d.sl with
        | some _ => k (.i x.n)
        | none => False
      | some (.a (.c (.mp id))), some d => match d.mp, look s.hp id with
        | some _, some (.map _ _ es _) => k (.i es.length)
        | _, _ => False
      | some (.a (.c (.v (.string b)))), some d => match Nat.beq d.kd 3 with
        | true => k (.i b.size)
        | false => False
      | _, _ => False
    | _, _ => False
  | _ => False

end Go.Fw

/-
  The operations that leave the world alone do so, and answer what the executor says.
-/
namespace Go.Fw
open Go

theorem nble (a b : Nat) : Nat.ble a b = decide (a ≤ b) := by
  rw [Bool.eq_iff_iff]; simp [Nat.ble_eq]

theorem foldl_set (off : Nat) : ∀ (cs : List Value) (k : Nat) (z : Array Value), off + k + cs.length ≤ z.size →
    ((cs.zipIdx k).foldl (fun z p => z.setIfInBounds (off + p.2) p.1) z).toList = z.toList.take (off + k) ++ cs ++ z.toList.drop (off + k + cs.length)
  | [], k, z, _ => by simp
  | c :: cs, k, z, h => by
    simp only [List.length_cons] at h
    simp only [List.zipIdx_cons, List.foldl_cons]
    rw [foldl_set off cs (k + 1) _ (by simp; omega)]
    have hk : off + k < z.toList.length := by simp; omega
    simp only [Array.toList_setIfInBounds, List.length_cons]
    rw [show off + (k + 1) = off + k + 1 by omega, List.take_succ_eq_append_getElem (by simpa using hk), List.take_set_of_le (Nat.le_refl _),
      List.getElem_set_self, List.drop_set_of_lt (by omega), List.append_assoc, List.append_assoc, List.append_assoc]
    simp only [List.cons_append, List.nil_append]
    rw [show off + k + 1 + cs.length = off + k + (cs.length + 1) by omega]

theorem cells_cs {β : Env} {n : Nat} {v : SV} {cs : List SC} (h : cellsOf v = some cs) (hlt : v.lt n) : (v.den β).cells = (cs.map (SC.den β)).toArray ∧ ∀ c ∈ cs, SC.lt n c := by
  cases v with
  | a x =>
    cases x with
    | c c =>
      simp only [cellsOf, Option.some.injEq] at h
      subst h
      refine ⟨?_, by intro c hc; simp at hc; subst hc; exact hlt⟩
      cases c <;> try rfl
      rename_i x
      simp only [SV.lt, SA.lt, SC.lt] at hlt
      cases x <;> first | rfl | (simp [Value.oneCell'] at hlt)
    | agg l =>
      simp only [cellsOf, Option.some.injEq] at h
      subst h
      exact ⟨rfl, hlt⟩
  | tup l => cases h

theorem wr_eq {α : Type} (z : List α) (off : Nat) (cs : List α) : wr z off cs = z.take off ++ cs ++ z.drop (off + cs.length) := by
  simp [wr, takeN_eq, appN_eq, dropN_eq, lenN_eq]

section
variable {P : Program} {ty : List (Nat × STy)} {β : Env} {Z : Nat → Prop} {fp : Nat → Nat → Prop} {s : S} {w : World} {N : NT} {a : Act}

theorem buildK_sound (hf : FSat β s N a) (offs : List (Nat × Nat)) (place : Nat → Option (Nat × Nat))
    (ho : ∀ (i : Nat) (p : Nat × Nat), offs[i]? = some p → place i = some p) :
    ∀ (parts : List (Nat × Operand)) (z : List SC) (k : List SC → Prop), (∀ c ∈ z, SC.lt s.nx c) → buildK s.fr offs parts z k →
      ∃ l, Instr.fill place (z.map (SC.den β)).toArray (parts.map fun p => (p.1, a.eval p.2)) = some (l.map (SC.den β)).toArray ∧ (∀ c ∈ l, SC.lt s.nx c) ∧ k l
  | [], z, k, hz, h => ⟨z, rfl, hz, h⟩
  | (i, x) :: r, z, k, hz, h => by
    simp only [buildK] at h
    split at h <;> try exact h.elim
    rename_i off size v h1 h2
    split at h <;> try exact h.elim
    rename_i cs hcs
    split at h <;> try exact h.elim
    rename_i hsz hlen
    rw [nbeq, lenN_eq, decide_eq_true_eq] at hsz
    rw [nble, lenN_eq, decide_eq_true_eq] at hlen
    rw [forceC_iff] at h
    rw [nthN_eq] at h1
    have hp := ho _ _ h1
    obtain ⟨he, hlt⟩ := ev_den hf h2
    obtain ⟨hcells, hclt⟩ := cells_cs (β := β) hcs hlt
    obtain ⟨l, hl, hll, hk⟩ := buildK_sound hf offs place ho r (wr z off cs) k (by
      intro c hc
      rw [wr_eq] at hc
      simp only [List.mem_append] at hc
      rcases hc with (hc | hc) | hc
      · exact hz c (List.mem_of_mem_take hc)
      · exact hclt c hc
      · exact hz c (List.mem_of_mem_drop hc)) h
    refine ⟨l, ?_, hll, hk⟩
    simp only [List.map_cons, Instr.fill, hp, he, hcells]
    rw [if_neg (by simp; omega), ← hl]
    congr 1
    apply Array.ext'
    have := foldl_set off (cs.map (SC.den β)) 0 (z.map (SC.den β)).toArray (by simp; omega)
    simp only [Nat.add_zero] at this
    have e1 : Array.foldl (fun (cs : Array Value) (x : Value × Nat) => cs.setIfInBounds (off + x.2) x.1) (z.map (SC.den β)).toArray (cs.map (SC.den β)).toArray.zipIdx =
        List.foldl (fun (z : Array Value) p => z.setIfInBounds (off + p.2) p.1) (z.map (SC.den β)).toArray (List.zipIdx (cs.map (SC.den β))) := by
      rw [← Array.foldl_toList]; simp
    rw [e1, this, wr_eq]
    simp

theorem capsK_sound (hf : FSat β s N a) : ∀ (l : List Operand) (k : List (Nat × Nat) → Prop), capsK s.fr l k →
    ∃ r : List (Nat × Nat), l.map a.eval = r.map (fun p => Value.pointer ((β p.1).map (·.add p.2))) ∧ (∀ p ∈ r, p.1 < s.nx) ∧ k r
  | [], k, h => ⟨[], rfl, by simp, h⟩
  | x :: l, k, h => by
    simp only [capsK] at h
    split at h <;> try exact h.elim
    rename_i id off h1
    obtain ⟨he, hlt⟩ := ev_den hf h1
    obtain ⟨r, hr, hrl, hk⟩ := capsK_sound hf l _ h
    refine ⟨(id, off) :: r, by simp [hr, he, SV.den, SA.den, SC.den], ?_, hk⟩
    intro p hp
    simp only [List.mem_cons] at hp
    rcases hp with rfl | hp
    · exact hlt
    · exact hrl p hp

theorem optI_sound (hf : FSat β s N a) (d : Int) (o : Option Operand) (k : Int → Prop) (h : optI s.fr d o k) :
    ∃ n, k n ∧ ((o = none ∧ n = d) ∨ ∃ x, o = some x ∧ a.eval x = .int .i64 n) := by
  cases o with
  | none => exact ⟨d, h, .inl ⟨rfl, rfl⟩⟩
  | some x =>
    simp only [optI] at h
    split at h <;> try exact h.elim
    rename_i n h1
    exact ⟨n, h, .inr ⟨x, rfl, (ev_den hf h1).1⟩⟩

/-- A pointer to a box. -/
theorem box_at (hs : HSat β Z fp s w) {id T : Nat} {cs : List SC} (h : look s.hp id = some (.box T cs)) :
    ∃ b, β id = some ⟨b, 0, none⟩ ∧ fp id b ∧ w.heap[b]? = some (.cells (cs.map (SC.den β)).toArray T (0, 0)) := hs.obj id _ h

theorem box_cell (hs : HSat β Z fp s w) {id T : Nat} {cs : List SC} (h : look s.hp id = some (.box T cs)) {b : Nat} (hb : β id = some ⟨b, 0, none⟩)
    (j : Nat) (c : SC) (hj : cs[j]? = some c) : w.cell? ⟨b, j, none⟩ = some (c.den β) := by
  obtain ⟨b', h1, _, h3⟩ := box_at hs h
  rw [hb] at h1
  cases h1
  simp [World.cell?, h3, hj]

theorem arr_some (hs : HSat β Z fp s w) {id E : Nat} {own : Bool} {k : EK} {xs : List k.ty} {sp : Nat} (h : look s.hp id = some (.arr own E k xs sp)) {i : Nat} (hi : i < xs.length) :
    ∃ x, β id = some x ∧ x.spot = none ∧ ∀ off, off < k.sz → w.cell? ⟨x.block, x.off + (i * k.sz + off), none⟩ = ((k.sym (xs.getD i k.dflt))[off]?).map (SC.den β) := by
  obtain ⟨x, h1, h2, h3⟩ := SO.ok_cell (hs.obj id _ h) (by intro e; rw [e] at hi; simp at hi)
  refine ⟨x, h1, h2, fun off ho => ?_⟩
  have hg := flat_get k xs i off hi ho
  have hl : off < (k.cells (xs.getD i k.dflt)).length := by rw [EK.cells_length]; exact ho
  rw [List.getElem?_eq_getElem hl] at hg
  rw [h3 _ _ hg, ← List.getElem?_map, EK.sym_den, List.getElem?_eq_getElem hl]

/-- Where the objects lie, whatever the world. -/
structure BSat (β : Env) (s : S) : Prop where
  pool : ∀ id E (k : EK) m a y, look s.hp id = some (.pool E k m) → lkA m a = some y → a.spot = none
  plt : ∀ id E (k : EK) m, look s.hp id = some (.pool E k m) → id < s.nx
  box : ∀ id T cs, look s.hp id = some (.box T cs) → ∃ b, β id = some ⟨b, 0, none⟩
  arr : ∀ id own E (k : EK) (xs : List k.ty) sp i, look s.hp id = some (.arr own E k xs sp) → i < xs.length → ∃ x, β id = some x ∧ x.spot = none

theorem HSat.b (hs : HSat β Z fp s w) : BSat β s :=
  ⟨fun _ _ _ _ a y h hl => ((hs.obj _ _ h).row a y.1 y.2 hl).1, fun _ _ _ _ h => (hs.lto _ _ h).1, fun _ _ _ h => let ⟨b, hb, _⟩ := box_at hs h; ⟨b, hb⟩, fun _ _ _ _ _ _ _ h hi => let ⟨x, hx, hsp, _⟩ := arr_some hs h hi; ⟨x, hx, hsp⟩⟩

theorem rowA_lt {α : Type} {m : List (Addr × List α × Nat)} {oa : Option Addr} {j : Nat} (h : j < (rowA m oa).length) : ∃ a y, oa = some a ∧ lkA m a = some y ∧ rowA m oa = y.1 := by
  unfold rowA at h ⊢
  cases oa with
  | none => simp at h
  | some a =>
    simp only at h ⊢
    cases hl : lkA m a with
    | none => rw [hl] at h; simp at h
    | some y => exact ⟨a, y, rfl, hl, rfl⟩

/-- A cell of a pool. -/
theorem pool_cell (hs : HSat β Z fp s w) {id E : Nat} {k : EK} {m : List (Addr × List k.ty × Nat)} (h : look s.hp id = some (.pool E k m)) {oa : Option Addr} {i : Nat} (hi : i < (rowA m oa).length) :
    ∃ x, oa = some x ∧ x.spot = none ∧ ∀ off, off < k.sz → w.cell? ⟨x.block, x.off + (i * k.sz + off), none⟩ = ((k.sym ((rowA m oa).getD i k.dflt))[off]?).map (SC.den β) := by
  obtain ⟨a, y, rfl, hl, hr⟩ := rowA_lt hi
  rw [hr] at hi ⊢
  obtain ⟨h1, _, pre, post, h3, h4, _⟩ := (hs.obj _ _ h).row a y.1 y.2 hl
  refine ⟨a, rfl, h1, fun off ho => ?_⟩
  have hg := flat_get k y.1 i off hi ho
  have hlen : off < (k.cells (y.1.getD i k.dflt)).length := by rw [EK.cells_length]; exact ho
  rw [List.getElem?_eq_getElem hlen] at hg
  rw [flat_cell h3 h4 _ _ hg, ← List.getElem?_map, EK.sym_den, List.getElem?_eq_getElem hlen]

theorem run_isAgg_load {t : Nat} {d : STy} (h : TyOk1 P t d) (x : Addr) :
    (Instr.loadAt t (.pointer (some x))).run P w = match d.agg with
      | true => ((loadCells x d.zero.length).run P w).andThen fun cs w => .ok (.agg cs) w
      | false => (load x).run P w := by
  have h1 := h.agg w
  cases hd : d.agg with
  | true =>
    rw [hd] at h1
    simp only [Instr.loadAt, Instr.sureAddr, loadVar, pure_bind, Sem.run_bind, h1, Result.andThen_ok, if_true, h.size, Sem.run_pure]
  | false =>
    rw [hd] at h1
    simp only [Instr.loadAt, Instr.sureAddr, loadVar, pure_bind, Sem.run_bind, h1, Result.andThen_ok, Bool.false_eq_true, if_false]

theorem add_eq {x : Addr} (h : x.spot = none) (m : Nat) : x.add m = ⟨x.block, x.off + m, none⟩ := by
  obtain ⟨b, o, sp⟩ := x
  cases h
  simp [Addr.add_lit]

theorem ofSli_spec {cs : List SC} {e : Sli} (h : ofSli cs = some e) : cs.map (SC.den β) = EK.cells .sli e := by
  unfold ofSli at h
  split at h <;> cases h <;> rfl

theorem ofSym_spec {ek : EK} {cs : List SC} {e : ek.ty} (h : ek.ofSym cs = some e) : cs.map (SC.den β) = ek.cells e := by
  cases ek
  case int => change ofInt cs = some e at h; unfold ofInt at h; split at h <;> cases h; rfl
  case bool => change ofBool cs = some e at h; unfold ofBool at h; split at h <;> cases h; rfl
  case arc => change ofArc cs = some e at h; unfold ofArc at h; split at h <;> cases h; rfl
  case trip => change ofTrip cs = some e at h; unfold ofTrip at h; split at h <;> cases h; rfl
  case duo => change ofDuo cs = some e at h; unfold ofDuo at h; split at h <;> cases h; rfl
  case str => change ofStr cs = some e at h; unfold ofStr at h; split at h <;> cases h; rfl
  case sli => exact ofSli_spec h
  case adr => change ofAdr cs = some e at h; unfold ofAdr at h; split at h <;> cases h <;> rfl
  case fnd => change ofFnd cs = some e at h; unfold ofFnd at h; split at h <;> cases h; rfl
  case fst =>
    change ofFst cs = some e at h
    unfold ofFst at h
    split at h <;> try cases h
    rename_i p q c d
    cases hc : ofSli [c] with
    | none => simp only [hc] at h; cases h
    | some x =>
      cases hd : ofSli [d] with
      | none => simp only [hc, hd] at h; cases h
      | some y =>
        simp only [hc, hd] at h
        cases h
        have h1 := ofSli_spec (β := β) hc
        have h2 := ofSli_spec (β := β) hd
        simp only [List.map_cons, List.map_nil, EK.cells, EK.sym, List.cons.injEq, and_true] at h1 h2
        simp only [List.map_cons, List.map_nil, EK.cells, EK.sym, h1, h2]
        rfl

end
end Go.Fw
