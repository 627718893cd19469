/-
  A symbolic executor for the model's code, of our own: definitions.
  States are closed in shape (slot numbers, object numbers) and open at their leaves.
-/
import Derived.Orders
import Derived.Laws.Cells
import Derived.Laws.Entries
import Derived.Laws.Slices
import Derived.IntWalk
import Derived.Laws.Tables
import Derived.Laws.StructEq
import Derived.Maps.RangeRun
import Derived.Laws.OwnMore

set_option linter.unusedSimpArgs false
set_option linter.unusedVariables false

namespace Go.Fw
open Go

/-- An arc as data. -/
structure Arc where
  f : Int
  i : Int
  o : Int
  t : Int
  w : Int
  deriving DecidableEq, Inhabited

structure Trip where
  a : Int
  b : Int
  c : Int
  deriving DecidableEq, Inhabited

structure Duo where
  a : Int
  b : Int
  deriving DecidableEq, Inhabited

/-- What a map of spots holds. -/
structure Fnd where
  cost : Int
  arc : Int
  s : Int
  i : Int
  o : Int
  dn : Bool
  deriving DecidableEq, Inhabited

/-- A slice as a value. -/
structure Sli where
  a : Option Addr
  n : Nat
  c : Nat
  deriving DecidableEq, Inhabited

/-- A transducer as a value. -/
structure FstV where
  states : Int
  start : Int
  fin : Sli
  arcs : Sli
  deriving DecidableEq, Inhabited

/-- Kinds of elements. -/
inductive EK where
  | int | bool | arc | trip | duo | str | sli | fst | adr | fnd

@[reducible] def EK.ty : EK → Type
  | .int => Int
  | .bool => Bool
  | .arc => Arc
  | .trip => Trip
  | .duo => Duo
  | .str => ByteArray
  | .sli => Sli
  | .fst => FstV
  | .adr => Option Addr
  | .fnd => Fnd

def EK.dflt : (k : EK) → k.ty
  | .int => (0 : Int)
  | .bool => false
  | .arc => (⟨0, 0, 0, 0, 0⟩ : Arc)
  | .trip => (⟨0, 0, 0⟩ : Trip)
  | .duo => (⟨0, 0⟩ : Duo)
  | .str => (⟨#[]⟩ : ByteArray)
  | .sli => (⟨none, 0, 0⟩ : Sli)
  | .fst => (⟨0, 0, ⟨none, 0, 0⟩, ⟨none, 0, 0⟩⟩ : FstV)
  | .adr => (none : Option Addr)
  | .fnd => (⟨0, 0, 0, 0, 0, false⟩ : Fnd)

def EK.sz : EK → Nat
  | .arc => 5
  | .trip => 3
  | .duo => 2
  | .fst => 4
  | .fnd => 6
  | _ => 1

/-- Symbolic cells. -/
inductive SC where
  | i (n : Int)
  | b (c : Bool)
  | v (x : Value)
  | ptr (id off : Nat)
  | elt (id sz k off : Nat)
  | sl (id sz lo len cap : Nat)
  | fn (f : Nat) (caps : List (Nat × Nat))
  | fnv (f : Nat) (caps : List Value)
  | u (n : Int)
  | h (x : Sli)
  | q (a : Option Addr)
  | mp (id : Nat)
  | pe (id sz : Nat) (a : Option Addr) (k off : Nat)

inductive SA where
  | c (x : SC)
  | agg (l : List SC)

inductive SV where
  | a (x : SA)
  | tup (l : List SA)

@[reducible] def SV.i (n : Int) : SV := .a (.c (.i n))
@[reducible] def SV.b (n : Bool) : SV := .a (.c (.b n))
@[reducible] def SV.c (x : SC) : SV := .a (.c x)
@[reducible] def SV.u : SV := .tup []

def EK.sym : (k : EK) → k.ty → List SC
  | .int, n => [.i n]
  | .bool, c => [.b c]
  | .arc, a => [.i a.f, .i a.i, .i a.o, .i a.t, .i a.w]
  | .trip, a => [.i a.a, .i a.b, .i a.c]
  | .duo, a => [.i a.a, .i a.b]
  | .str, s => [.v (.string s)]
  | .sli, x => [.h x]
  | .fst, x => [.i x.states, .i x.start, .h x.fin, .h x.arcs]
  | .adr, x => [.q x]
  | .fnd, x => [.i x.cost, .i x.arc, .i x.s, .i x.i, .i x.o, .b x.dn]

def ofInt : List SC → Option Int
  | [.i n] => some n
  | _ => none
def ofBool : List SC → Option Bool
  | [.b n] => some n
  | _ => none
def ofArc : List SC → Option Arc
  | [.i a, .i b, .i c, .i d, .i e] => some ⟨a, b, c, d, e⟩
  | _ => none
def ofTrip : List SC → Option Trip
  | [.i a, .i b, .i c] => some ⟨a, b, c⟩
  | _ => none
def ofDuo : List SC → Option Duo
  | [.i a, .i b] => some ⟨a, b⟩
  | _ => none
def ofStr : List SC → Option ByteArray
  | [.v (.string s)] => some s
  | _ => none
def ofSli : List SC → Option Sli
  | [.h x] => some x
  | [.v (.slice a n c)] => some ⟨a, n, c⟩
  | _ => none
def ofFst : List SC → Option FstV
  | [.i a, .i b, c, d] => match ofSli [c], ofSli [d] with
    | some x, some y => some ⟨a, b, x, y⟩
    | _, _ => none
  | _ => none

def ofAdr : List SC → Option (Option Addr)
  | [.q x] => some x
  | [.v (.pointer x)] => some x
  | _ => none
def ofFnd : List SC → Option Fnd
  | [.i a, .i b, .i c, .i d, .i e, .b f] => some ⟨a, b, c, d, e, f⟩
  | _ => none

/-- An element put together again of its cells. -/
def EK.ofSym : (k : EK) → List SC → Option k.ty
  | .int => ofInt
  | .bool => ofBool
  | .arc => ofArc
  | .trip => ofTrip
  | .duo => ofDuo
  | .str => ofStr
  | .sli => ofSli
  | .fst => ofFst
  | .adr => ofAdr
  | .fnd => ofFnd

def setArc (x : Arc) : Nat → SC → Option Arc
  | 0, .i n => some ⟨n, x.i, x.o, x.t, x.w⟩
  | 1, .i n => some ⟨x.f, n, x.o, x.t, x.w⟩
  | 2, .i n => some ⟨x.f, x.i, n, x.t, x.w⟩
  | 3, .i n => some ⟨x.f, x.i, x.o, n, x.w⟩
  | 4, .i n => some ⟨x.f, x.i, x.o, x.t, n⟩
  | _, _ => none
def setTrip (x : Trip) : Nat → SC → Option Trip
  | 0, .i n => some ⟨n, x.b, x.c⟩
  | 1, .i n => some ⟨x.a, n, x.c⟩
  | 2, .i n => some ⟨x.a, x.b, n⟩
  | _, _ => none
def setDuo (x : Duo) : Nat → SC → Option Duo
  | 0, .i n => some ⟨n, x.b⟩
  | 1, .i n => some ⟨x.a, n⟩
  | _, _ => none

def setFnd (x : Fnd) : Nat → SC → Option Fnd
  | 0, .i n => some ⟨n, x.arc, x.s, x.i, x.o, x.dn⟩
  | 1, .i n => some ⟨x.cost, n, x.s, x.i, x.o, x.dn⟩
  | 2, .i n => some ⟨x.cost, x.arc, n, x.i, x.o, x.dn⟩
  | 3, .i n => some ⟨x.cost, x.arc, x.s, n, x.o, x.dn⟩
  | 4, .i n => some ⟨x.cost, x.arc, x.s, x.i, n, x.dn⟩
  | 5, .b c => some ⟨x.cost, x.arc, x.s, x.i, x.o, c⟩
  | _, _ => none

/-- One cell of an element written. -/
def EK.setF : (k : EK) → k.ty → Nat → SC → Option k.ty
  | .int, _, 0, c => ofInt [c]
  | .bool, _, 0, c => ofBool [c]
  | .str, _, 0, c => ofStr [c]
  | .sli, _, 0, c => ofSli [c]
  | .arc, x, n, c => setArc x n c
  | .trip, x, n, c => setTrip x n c
  | .duo, x, n, c => setDuo x n c
  | .adr, _, 0, c => ofAdr [c]
  | .fnd, x, n, c => setFnd x n c
  | _, _, _, _ => none

abbrev Env := Nat → Option Addr

/-! ### Pools: blocks by their addresses; maps -/
def lkA {α : Type} : List (Addr × α) → Addr → Option α
  | [], _ => none
  | (b, x) :: l, a => if b = a then some x else lkA l a

/-- What lies at an address (nothing at none). -/
def rowA {α : Type} (m : List (Addr × List α × Nat)) (oa : Option Addr) : List α := match oa with
  | none => []
  | some a => match lkA m a with
    | some x => x.1
    | none => []

def setA {α : Type} (m : List (Addr × α)) (a : Addr) (y : α) : List (Addr × α) := m.map fun p => if p.1 = a then (p.1, y) else p

/-- One element at an address turned. -/
def putA {α : Type} (m : List (Addr × List α × Nat)) (oa : Option Addr) (j : Nat) (e : α) : List (Addr × List α × Nat) := match oa with
  | none => m
  | some a => match lkA m a with
    | some x => setA m a (x.1.set j e, x.2)
    | none => m

/-- A slice's head that speaks of the pool. -/
def Hd {α : Type} (m : List (Addr × List α × Nat)) (x : Sli) : Prop := match x.a with
  | none => x.n = 0 ∧ x.c = 0
  | some a => match lkA m a with
    | some y => x.n = y.1.length ∧ x.c ≤ y.1.length + y.2
    | none => False

/-- An append to a row of a pool. -/
inductive App {α : Type} (m : List (Addr × List α × Nat)) (x : Sli) (ys : List α) : List (Addr × List α × Nat) → Sli → Prop
  | stay (h : ys = []) : App m x ys m x
  | room {a : Addr} {y : List α × Nat} {sp : Nat} (h : x.a = some a) (hl : lkA m a = some y) (hc : x.c ≤ y.1.length + ys.length + sp) : App m x ys (setA m a (y.1 ++ ys, sp)) ⟨some a, x.n + ys.length, x.c⟩
  | fresh {a : Addr} {sp : Nat} (h : lkA m a = none) (hb : ∀ b y, lkA m b = some y → b.block ≠ a.block) : App m x ys ((a, rowA m x.a ++ ys, sp) :: m) ⟨some a, x.n + ys.length, x.n + ys.length + sp⟩

/-- A list of one's own goes into the pool. -/
inductive Frz {α : Type} (m : List (Addr × List α × Nat)) (xs : List α) (sp len cap : Nat) : List (Addr × List α × Nat) → Sli → Prop
  | nil (h : xs = []) : Frz m xs sp len cap m ⟨none, len, cap⟩
  | own {a : Addr} (h : lkA m a = none) (hb : ∀ b y, lkA m b = some y → b.block ≠ a.block) : Frz m xs sp len cap ((a, xs, sp) :: m) ⟨some a, len, cap⟩

/-- The pool of blocks of a type. -/
def BornOk {κ ν : Type} (es : List (κ × ν × Nat)) (clk : Nat) : Prop := (es.map (·.2.2)).Nodup ∧ ∀ e ∈ es, e.2.2 < clk

/-- Objects. 'gen': an assertion of one's own: of the blocks that it owns, and of what does not change. -/
inductive SO where
  | box (T : Nat) (cells : List SC)
  | arr (own : Bool) (E : Nat) (k : EK) (xs : List k.ty) (spare : Nat)
  | gen (A : Option Addr → (Nat → Prop) → (Nat → Prop) → World → Prop)
  | pool (E : Nat) (k : EK) (m : List (Addr × List k.ty × Nat))
  | map (kk vk : EK) (es : List (kk.ty × vk.ty × Nat)) (clk : Nat)
  | iter (mid since : Nat) (seen : List Nat) (last cur : Nat)

structure S where
  fr : List (Nat × SV)
  hp : List (Nat × SO)
  nx : Nat

/-- A state taken apart. -/
def S.go (s : S) (F : List (Nat × SV) → List (Nat × SO) → Nat → Prop) : Prop := match s with
  | ⟨fr, hp, nx⟩ => F fr hp nx

theorem S.go_eq (s : S) (F : List (Nat × SV) → List (Nat × SO) → Nat → Prop) : s.go F = F s.fr s.hp s.nx := by cases s; rfl

/-- Types as the executor sees them. -/
structure STy where
  kd : Nat
  agg : Bool
  offs : List (Nat × Nat)
  zero : List SC
  sl : Option (Nat × EK × Nat)
  mp : Option (Nat × EK × Nat × EK)

def look {α : Type} : List (Nat × α) → Nat → Option α
  | [], _ => none
  | (t, v) :: l, u => match Nat.beq t u with
    | true => some v
    | false => look l u

def upd {α : Type} : List (Nat × α) → Nat → α → List (Nat × α)
  | [], t, v => [(t, v)]
  | (t', v') :: l, t, v => match Nat.beq t' t with
    | true => (t, v) :: l
    | false => (t', v') :: upd l t v

def updK {α : Type} : List (Nat × α) → Nat → α → (List (Nat × α) → Prop) → Prop
  | [], t, v, k => k [(t, v)]
  | (t', v') :: l, t, v, k => match Nat.beq t' t with
    | true => k ((t, v) :: l)
    | false => updK l t v fun l' => k ((t', v') :: l')

theorem updK_iff {α : Type} (l : List (Nat × α)) (t : Nat) (v : α) (k : List (Nat × α) → Prop) : updK l t v k ↔ k (upd l t v) := by
  induction l generalizing k with
  | nil => exact Iff.rfl
  | cons p l ih =>
    obtain ⟨t', v'⟩ := p
    simp only [updK, upd]
    split
    · exact Iff.rfl
    · exact ih _

theorem nbeq (a b : Nat) : Nat.beq a b = decide (a = b) := by
  rw [Bool.eq_iff_iff]; simp

theorem look_cons {α : Type} (t : Nat) (v : α) (l : List (Nat × α)) (u : Nat) : look ((t, v) :: l) u = if t = u then some v else look l u := by
  simp only [look, nbeq]
  by_cases h : t = u <;> simp [h]

theorem upd_cons {α : Type} (t' : Nat) (v' : α) (l : List (Nat × α)) (t : Nat) (v : α) :
    upd ((t', v') :: l) t v = if t' = t then (t, v) :: l else (t', v') :: upd l t v := by
  simp only [upd, nbeq]
  by_cases h : t' = t <;> simp [h]

theorem look_upd {α : Type} (l : List (Nat × α)) (t : Nat) (v : α) (u : Nat) : look (upd l t v) u = if t = u then some v else look l u := by
  induction l with
  | nil => simp only [upd, look_cons]
  | cons p l ih =>
    obtain ⟨t', v'⟩ := p
    rw [upd_cons]
    by_cases h : t' = t
    · subst h
      rw [if_pos rfl, look_cons, look_cons]
      by_cases hu : t' = u <;> simp [hu]
    · rw [if_neg h, look_cons, look_cons, ih]
      by_cases hu : t' = u
      · subst hu
        rw [if_pos rfl, if_neg (Ne.symm h), if_pos rfl]
      · rw [if_neg hu, if_neg hu]

def lit : Value → Option SV
  | .int .i64 n => some (.i n)
  | .int .u64 n => some (.c (.u n))
  | .bool b => some (.b b)
  | .slice none 0 0 => some (.c (.v (.slice none 0 0)))
  | .string s => some (.c (.v (.string s)))
  | .pointer none => some (.c (.v (.pointer none)))
  | .map none => some (.c (.v (.map none)))
  | _ => none

def ev (fr : List (Nat × SV)) : Operand → Option SV
  | .tmp t => look fr t
  | .const v => lit v
  | .func f => some (.c (.fn f []))
  | .global _ => none

def takeN {α : Type} : List α → Nat → List α
  | _, 0 => []
  | [], _ => []
  | a :: l, n + 1 => a :: takeN l n

def nthN {α : Type} : List α → Nat → Option α
  | [], _ => none
  | a :: _, 0 => some a
  | _ :: l, n + 1 => nthN l n

def dropN {α : Type} : List α → Nat → List α
  | l, 0 => l
  | [], _ => []
  | _ :: l, n + 1 => dropN l n

def setN {α : Type} : List α → Nat → α → List α
  | [], _, _ => []
  | _ :: l, 0, x => x :: l
  | a :: l, n + 1, x => a :: setN l n x

def appN {α : Type} : List α → List α → List α
  | [], l => l
  | a :: k, l => a :: appN k l

def lenN {α : Type} : List α → Nat
  | [] => 0
  | _ :: l => lenN l + 1

theorem takeN_eq {α : Type} (l : List α) (n : Nat) : takeN l n = l.take n := by
  induction l generalizing n with
  | nil => cases n <;> rfl
  | cons a l ih => cases n with
    | zero => rfl
    | succ n => simp [takeN, ih]
theorem nthN_eq {α : Type} (l : List α) (n : Nat) : nthN l n = l[n]? := by
  induction l generalizing n with
  | nil => cases n <;> rfl
  | cons a l ih => cases n with
    | zero => rfl
    | succ n => simp [nthN, ih]
theorem dropN_eq {α : Type} (l : List α) (n : Nat) : dropN l n = l.drop n := by
  induction l generalizing n with
  | nil => cases n <;> rfl
  | cons a l ih => cases n with
    | zero => rfl
    | succ n => simp [dropN, ih]
theorem setN_eq {α : Type} (l : List α) (n : Nat) (x : α) : setN l n x = l.set n x := by
  induction l generalizing n with
  | nil => cases n <;> rfl
  | cons a l ih => cases n with
    | zero => rfl
    | succ n => simp [setN, ih]
theorem appN_eq {α : Type} (k l : List α) : appN k l = k ++ l := by
  induction k with
  | nil => rfl
  | cons a k ih => simp [appN, ih]
theorem lenN_eq {α : Type} (l : List α) : lenN l = l.length := by
  induction l with
  | nil => rfl
  | cons a k ih => simp [lenN, ih]

/-- A list of cells made plain. -/
def forceC : List SC → (List SC → Prop) → Prop
  | [], k => k []
  | c :: l, k => forceC l fun l' => match c with
    | .i n => k (.i n :: l')
    | .b n => k (.b n :: l')
    | .v n => k (.v n :: l')
    | .ptr a b => k (.ptr a b :: l')
    | .elt a b c d => k (.elt a b c d :: l')
    | .sl a b c d e => k (.sl a b c d e :: l')
    | .fn a b => k (.fn a b :: l')
    | .fnv a b => k (.fnv a b :: l')
    | .u a => k (.u a :: l')
    | .h a => k (.h a :: l')
    | .q a => k (.q a :: l')
    | .mp a => k (.mp a :: l')
    | .pe a b c d e => k (.pe a b c d e :: l')

theorem forceC_iff (l : List SC) (k : List SC → Prop) : forceC l k ↔ k l := by
  induction l generalizing k with
  | nil => exact Iff.rfl
  | cons c l ih =>
    simp only [forceC, ih]
    cases c <;> exact Iff.rfl

def forceA (x : SA) (k : SA → Prop) : Prop := match x with
  | .c c => forceC [c] fun l => match l with
    | [d] => k (.c d)
    | _ => False
  | .agg l => forceC l fun l' => k (.agg l')

theorem forceA_iff (x : SA) (k : SA → Prop) : forceA x k ↔ k x := by
  cases x with
  | c c => simp only [forceA, forceC_iff]
  | agg l => simp only [forceA, forceC_iff]

/-- Both ways. -/
structure Both (p q : Prop) : Prop where
  one : p
  two : q

/-- Side condition, then. -/
structure Ob (p : Prop) (k : Prop) : Prop where
  ob : p
  go : k

/-- Two ways, by a Bool that is not known. -/
def condP (c : Bool) (x y : Prop) : Prop := match c with
  | true => x
  | false => y

theorem condP_iff (c : Bool) (x y : Prop) : condP c x y ↔ (if c = true then x else y) := by cases c <;> simp [condP]

def InI (n : Int) : Prop := -9223372036854775808 ≤ n ∧ n ≤ 9223372036854775807

def SO.own : SO → Bool
  | .arr own _ _ _ _ => own
  | _ => true

def EK.isAgg : EK → Bool
  | .arc | .trip | .duo | .fst | .fnd => true
  | _ => false

/-- An element as a value of its own. -/
def EK.symA (k : EK) (x : k.ty) : SA := match k.isAgg with
  | true => .agg (k.sym x)
  | false => match k.sym x with
    | [c] => .c c
    | l => .agg l

def EK.beq : EK → EK → Bool
  | .int, .int | .bool, .bool | .arc, .arc | .trip, .trip | .duo, .duo | .str, .str | .sli, .sli | .fst, .fst | .adr, .adr | .fnd, .fnd => true
  | _, _ => false
theorem EK.beq_eq {k k' : EK} (h : EK.beq k k' = true) : k = k' := by
  cases k <;> cases k' <;> first | rfl | cases h

def EK.deq : (k : EK) → DecidableEq k.ty
  | .int => (inferInstance : DecidableEq Int)
  | .bool => (inferInstance : DecidableEq Bool)
  | .arc => (inferInstance : DecidableEq Arc)
  | .trip => (inferInstance : DecidableEq Trip)
  | .duo => (inferInstance : DecidableEq Duo)
  | .str => (inferInstance : DecidableEq ByteArray)
  | .sli => (inferInstance : DecidableEq Sli)
  | .fst => (inferInstance : DecidableEq FstV)
  | .adr => (inferInstance : DecidableEq (Option Addr))
  | .fnd => (inferInstance : DecidableEq Fnd)
instance EK.instDeq (k : EK) : DecidableEq k.ty := k.deq

/-- What a map holds at a key. -/
def lkM {κ ν : Type} [DecidableEq κ] : List (κ × ν × Nat) → κ → Option ν
  | [], _ => none
  | (x, v, _) :: l, y => if x = y then some v else lkM l y

def setM {κ ν : Type} [DecidableEq κ] : List (κ × ν × Nat) → κ → ν → List (κ × ν × Nat)
  | [], _, _ => []
  | (x, w, n) :: l, y, v => if x = y then (x, v, n) :: l else (x, w, n) :: setM l y v

/-- The map with a key's value told. -/
def insM {κ ν : Type} [DecidableEq κ] (es : List (κ × ν × Nat)) (clk : Nat) (x : κ) (v : ν) : List (κ × ν × Nat) × Nat :=
  if (lkM es x).isSome then (setM es x v, clk) else (es ++ [(x, v, clk)], clk + 1)

end Go.Fw

/-
  What the symbolic states mean; the operations that leave the world alone.
-/
namespace Go.Fw
open Go

def SC.den (β : Env) : SC → Value
  | .i n => .int .i64 n
  | .b c => .bool c
  | .v x => x
  | .ptr id off => .pointer ((β id).map (·.add off))
  | .elt id sz k off => .pointer ((β id).map (·.add (k * sz + off)))
  | .sl id sz lo len cap => .slice ((β id).map (·.add (lo * sz))) len cap
  | .fn f caps => .func (.func f) #[] (caps.map fun p => Value.pointer ((β p.1).map (·.add p.2))).toArray
  | .fnv f caps => .func (.func f) #[] caps.toArray
  | .u n => .int .u64 n
  | .h x => .slice x.a x.n x.c
  | .q a => .pointer a
  | .mp id => .map ((β id).map (·.block))
  | .pe _ sz a k off => .pointer (a.map (·.add (k * sz + off)))

def SA.den (β : Env) : SA → Value
  | .c x => x.den β
  | .agg l => .agg (l.map (SC.den β)).toArray

def SV.den (β : Env) : SV → Value
  | .a x => x.den β
  | .tup l => .tuple (l.map (SA.den β)).toArray

def SC.lt (n : Nat) : SC → Prop
  | .ptr id _ | .elt id _ _ _ | .sl id _ _ _ _ | .mp id | .pe id _ _ _ _ => id < n
  | .fn _ caps => ∀ p ∈ caps, p.1 < n
  | .v x => x.oneCell' = true
  | _ => True

def SA.lt (n : Nat) : SA → Prop
  | .c x => x.lt n
  | .agg l => ∀ c ∈ l, SC.lt n c

def SV.lt (n : Nat) : SV → Prop
  | .a x => x.lt n
  | .tup l => ∀ c ∈ l, SA.lt n c

def SO.lt (n : Nat) : SO → Prop
  | .box _ cs => ∀ c ∈ cs, SC.lt n c
  | .iter mid _ _ _ _ => mid < n
  | _ => True

theorem SC.lt_mono {n m : Nat} (h : n ≤ m) {c : SC} (hc : c.lt n) : c.lt m := by
  cases c <;> simp only [SC.lt] at * <;> first | omega | trivial | exact hc | (intro p hp; have := hc p hp; omega)
theorem SA.lt_mono {n m : Nat} (h : n ≤ m) {c : SA} (hc : c.lt n) : c.lt m := by
  cases c with
  | c x => exact SC.lt_mono h hc
  | agg l => exact fun c hl => SC.lt_mono h (hc c hl)
theorem SV.lt_mono {n m : Nat} (h : n ≤ m) {c : SV} (hc : c.lt n) : c.lt m := by
  cases c with
  | a x => exact SA.lt_mono (c := x) h hc
  | tup l => exact fun c hl => SA.lt_mono h (hc c hl)
theorem SO.lt_mono {n m : Nat} (h : n ≤ m) {o : SO} (ho : o.lt n) : o.lt m := by
  cases o with
  | box T l => exact fun c hl => SC.lt_mono h (ho c hl)
  | iter mid a b c d => exact Nat.lt_of_lt_of_le ho h
  | _ => trivial

theorem SC.den_congr {n : Nat} {β γ : Env} (h : ∀ id, id < n → γ id = β id) {c : SC} (hc : c.lt n) : c.den γ = c.den β := by
  cases c <;> simp only [SC.lt, SC.den] at * <;> try rw [h _ hc]
  congr 2
  apply List.map_congr_left
  intro p hp
  rw [h _ (hc p hp)]
theorem SC.map_den_congr {n : Nat} {β γ : Env} (h : ∀ id, id < n → γ id = β id) {l : List SC} (hl : ∀ c ∈ l, SC.lt n c) : l.map (SC.den γ) = l.map (SC.den β) :=
  List.map_congr_left fun c hc => SC.den_congr h (hl c hc)
theorem SA.den_congr {n : Nat} {β γ : Env} (h : ∀ id, id < n → γ id = β id) {c : SA} (hc : c.lt n) : c.den γ = c.den β := by
  cases c with
  | c x => exact SC.den_congr h hc
  | agg l => simp only [SA.den]; rw [SC.map_den_congr h hc]
theorem SV.den_congr {n : Nat} {β γ : Env} (h : ∀ id, id < n → γ id = β id) {c : SV} (hc : c.lt n) : c.den γ = c.den β := by
  cases c with
  | a x => exact SA.den_congr (c := x) h hc
  | tup l =>
    simp only [SV.den]
    rw [List.map_congr_left fun c hl => SA.den_congr h (hc c hl)]

/-! ### Elements -/
def EK.cells (k : EK) (x : k.ty) : List Value := (k.sym x).map (SC.den fun _ => none)

theorem EK.sym_den (k : EK) (x : k.ty) (β : Env) : (k.sym x).map (SC.den β) = k.cells x := by
  cases k <;> rfl
theorem EK.sym_lt (k : EK) (x : k.ty) (n : Nat) : ∀ c ∈ k.sym x, SC.lt n c := by
  cases k <;> simp [EK.sym, SC.lt, Value.oneCell']
theorem EK.cells_length (k : EK) (x : k.ty) : (k.cells x).length = k.sz := by cases k <;> rfl
theorem EK.sym_length (k : EK) (x : k.ty) : (k.sym x).length = k.sz := by cases k <;> rfl

def flat (k : EK) (xs : List k.ty) : List Value := xs.flatMap k.cells

theorem flat_length (k : EK) (xs : List k.ty) : (flat k xs).length = xs.length * k.sz := by
  induction xs with
  | nil => simp [flat]
  | cons x xs ih =>
    simp only [flat, List.flatMap_cons, List.length_append, EK.cells_length, List.length_cons] at *
    rw [ih, Nat.succ_mul]; omega

theorem flat_get (k : EK) : ∀ (xs : List k.ty) (i off : Nat), i < xs.length → off < k.sz → (flat k xs)[i * k.sz + off]? = (k.cells (xs.getD i k.dflt))[off]?
  | [], i, off, hi, _ => by simp at hi
  | x :: xs, 0, off, _, ho => by
    simp only [flat, List.flatMap_cons, Nat.zero_mul, Nat.zero_add, List.getD_cons_zero]
    rw [List.getElem?_append_left (by rw [EK.cells_length]; exact ho)]
  | x :: xs, i + 1, off, hi, ho => by
    have ih := flat_get k xs i off (by simpa using hi) ho
    simp only [flat, List.flatMap_cons, List.getD_cons_succ] at *
    rw [List.getElem?_append_right (by rw [EK.cells_length, Nat.succ_mul]; omega), ← ih, EK.cells_length]
    congr 1
    rw [Nat.succ_mul]; omega

def EK.val (k : EK) (x : k.ty) : Value := (k.symA x).den fun _ => none

theorem EK.symA_den (k : EK) (x : k.ty) (β : Env) : (k.symA x).den β = k.val x := by cases k <;> rfl
theorem EK.symA_lt (k : EK) (x : k.ty) (n : Nat) : (k.symA x).lt n := by
  cases k <;> simp [EK.symA, EK.isAgg, EK.sym, SA.lt, SC.lt, Value.oneCell']

/-- A map's entry. -/
def ent (kk vk : EK) (e : kk.ty × vk.ty × Nat) : MapEntry := { key := kk.val e.1, val := vk.val e.2.1, born := e.2.2 }

/-! ### Objects -/
/-- A pool's blocks. -/
structure PoolOk (fp : Nat → Prop) (w : World) (E : Nat) (k : EK) (m : List (Addr × List k.ty × Nat)) : Prop where
  row : ∀ a xs sp, lkA m a = some (xs, sp) → a.spot = none ∧ fp a.block ∧ ∃ pre post, w.heap[a.block]? = some (.cells (pre ++ flat k xs ++ post).toArray E (0, 0)) ∧ pre.length = a.off ∧ sp * k.sz ≤ post.length
  one : ∀ a a' x x', lkA m a = some x → lkA m a' = some x' → a.block = a'.block → a = a'

def SO.ok (β : Env) (Z fp : Nat → Prop) (w : World) (oa : Option Addr) : SO → Prop
  | .box T cs => ∃ b, oa = some ⟨b, 0, none⟩ ∧ fp b ∧ w.heap[b]? = some (.cells (cs.map (SC.den β)).toArray T (0, 0))
  | .arr own E k xs sp => match oa with
    | none => xs = [] ∧ sp = 0
    | some a => match own with
      | true => a.spot = none ∧ fp a.block ∧ ∃ pre post, w.heap[a.block]? = some (.cells (pre ++ flat k xs ++ post).toArray E (0, 0)) ∧ pre.length = a.off ∧ sp * k.sz ≤ post.length
      | false => xs ≠ [] → a.spot = none ∧ Z a.block ∧ a.block < w.heap.size ∧ ∀ j v, (flat k xs)[j]? = some v → w.cell? (a.add j) = some v
  | .pool E k m => PoolOk fp w E k m
  | .map kk vk es clk => ∃ b, oa = some ⟨b, 0, none⟩ ∧ fp b ∧ w.heap[b]? = some (.map (es.map (ent kk vk)).toArray clk)
  | .iter mid since seen last _ => ∃ b r, oa = some ⟨b, 0, none⟩ ∧ fp b ∧ β mid = some ⟨r, 0, none⟩ ∧ w.heap[b]? = some (.mapIter (some r) since seen.toArray last)
  | .gen A => A oa Z fp w ∧ ∀ (Z' : Nat → Prop) (w' : World), (∀ b, Z b → Z' b) → (∀ b, Z b ∨ fp b → w'.heap[b]? = w.heap[b]?) → A oa Z' fp w'

structure HSat (β : Env) (Z : Nat → Prop) (fp : Nat → Nat → Prop) (s : S) (w : World) : Prop where
  zlt : ∀ b, Z b → b < w.heap.size
  flt : ∀ id o, look s.hp id = some o → ∀ b, fp id b → b < w.heap.size ∧ ¬ Z b
  sep : ∀ id id' o o', look s.hp id = some o → look s.hp id' = some o' → id ≠ id' → ∀ b, fp id b → ¬ fp id' b
  obj : ∀ id o, look s.hp id = some o → o.ok β Z (fp id) w (β id)
  lto : ∀ id o, look s.hp id = some o → id < s.nx ∧ o.lt s.nx

structure FSat (β : Env) (s : S) (N : Nat) (a : Act) : Prop where
  tmp : ∀ t v, look s.fr t = some v → a.tmps[t]? = some (v.den β)
  lt : ∀ t v, look s.fr t = some v → v.lt s.nx
  size : a.tmps.size = N
  defers : a.defers = []

theorem flat_cell {w : World} {b off E : Nat} {k : EK} {xs : List k.ty} {pre post : List Value}
    (h : w.heap[b]? = some (.cells (pre ++ flat k xs ++ post).toArray E (0, 0))) (hp : pre.length = off) (j : Nat) (v : Value) (hj : (flat k xs)[j]? = some v) :
    w.cell? ⟨b, off + j, none⟩ = some v := by
  have hlt : j < (flat k xs).length := by
    rcases Nat.lt_or_ge j (flat k xs).length with h' | h'
    · exact h'
    · rw [List.getElem?_eq_none h'] at hj; cases hj
  simp only [World.cell?, h]
  simp only [Option.isSome_none, Bool.false_eq_true, if_false, List.getElem?_toArray]
  rw [List.append_assoc, List.getElem?_append_right (by omega), List.getElem?_append_left (by omega), ← hj]
  congr 1; omega

/-- A cell of an array object reads as it must. -/
theorem SO.ok_cell {β : Env} {Z fp : Nat → Prop} {w : World} {oa : Option Addr} {own : Bool} {E : Nat} {k : EK} {xs : List k.ty} {sp : Nat}
    (h : SO.ok β Z fp w oa (.arr own E k xs sp)) (hne : xs ≠ []) :
    ∃ a, oa = some a ∧ a.spot = none ∧ ∀ j v, (flat k xs)[j]? = some v → w.cell? ⟨a.block, a.off + j, none⟩ = some v := by
  cases oa with
  | none => exact absurd h.1 hne
  | some a =>
    cases own with
    | true =>
      obtain ⟨hs, _, pre, post, hh, hp, _⟩ := h
      exact ⟨a, rfl, hs, fun j v hj => flat_cell hh hp j v hj⟩
    | false =>
      obtain ⟨hs, _, _, hc⟩ := h hne
      refine ⟨a, rfl, hs, fun j v hj => ?_⟩
      have := hc j v hj
      obtain ⟨b, o, sp⟩ := a
      cases hs
      rwa [Addr.add_lit] at this

theorem ev_den {β : Env} {s : S} {N : Nat} {a : Act} (hf : FSat β s N a) {x : Operand} {v : SV} (h : ev s.fr x = some v) : a.eval x = v.den β ∧ v.lt s.nx := by
  cases x with
  | tmp t =>
    have h1 := hf.tmp t v h
    exact ⟨by simp [Act.eval, Array.getD_eq_getD_getElem?, h1], hf.lt t v h⟩
  | const c =>
    simp only [ev, lit] at h
    split at h <;> cases h <;> simp [Act.eval, SV.den, SA.den, SC.den, SV.lt, SA.lt, SC.lt, Value.oneCell']
  | global g => cases h
  | func f =>
    simp only [ev] at h
    cases h
    simp [Act.eval, SV.den, SA.den, SC.den, SV.lt, SA.lt, SC.lt]

theorem wrap_in {n : Int} (h : InI n) : IntKind.i64.wrap n = n := IntWalk.i64_in n (by have := h.1; have := h.2; omega)

end Go.Fw

/-
  The operations that leave the world alone, as the executor takes them.
-/
namespace Go.Fw
open Go

/-- The value of a type's zero. -/
def STy.zv (d : STy) : Value := match d.agg with
  | true => .agg (d.zero.map (SC.den fun _ => none)).toArray
  | false => match d.zero with
    | [z] => z.den fun _ => none
    | _ => undef

/-- Where a key stands in a map. -/
def findE (kk vk : EK) (x : kk.ty) : List (kk.ty × vk.ty × Nat) → Nat → Option (Nat × Value)
  | [], _ => none
  | e :: l, i => if e.1 = x then some (i, vk.val e.2.1) else findE kk vk x l (i + 1)

/-- What is asked of a map's keys. -/
structure MapOk (P : Program) (t kt : Nat) (kk : EK) (vt : Nat) (vk : EK) : Prop where
  ty : P.underlying t = some (.map kt vt)
  ck : ∀ (x : kk.ty) (w : World) (e : Bool), (Instr.checkKey e 10000 kt (kk.val x)).run P w = .ok () w
  fk : ∀ (x : kk.ty) (es : List (kk.ty × vk.ty × Nat)) (w : World), (Instr.findKey kt (kk.val x) (es.map (ent kk vk))).run P w = .ok (findE kk vk x es 0) w
  sb : ∀ x : kk.ty, Instr.sameBits 10000 (kk.val x) (kk.val x) = true
  zv : ∀ w, (zeroValue vt).run P w = .ok (vk.val vk.dflt) w

structure TyOk1 (P : Program) (t : Nat) (d : STy) : Prop where
  agg : ∀ w, (isAgg t).run P w = .ok d.agg w
  size : ∀ w, (sizeOf t).run P w = .ok d.zero.length w
  zero : ∀ w, (zeroValue t).run P w = .ok d.zv w
  one : d.agg = false → ∃ z, d.zero = [z]
  zlt : ∀ c ∈ d.zero, c.lt 0
  str : d.agg = true → ∃ fields, P.underlying t = some (.struct fields) ∧ ∀ (i : Nat) (p : Nat × Nat), d.offs[i]? = some p →
    ∃ f : Field, fields[i]? = some f ∧ f.offset = p.1 ∧ (∀ w, (sizeOf f.type).run P w = .ok p.2 w) ∧ p.2 ≠ 0
  bt : d.agg = true → ∀ parts, P.built t parts = Instr.fill (fun i => d.offs.toArray[i]?) (d.zero.map (SC.den fun _ => none)).toArray parts
  sl : ∀ E k bytes, d.sl = some (E, k, bytes) → P.underlying t = some (.slice E) ∧ (∀ w, (sizeOf E).run P w = .ok k.sz w) ∧
    ∃ (i : TypeInfo) (z : Value), P.info? E = some i ∧ i.zero = some z ∧ i.size = k.sz ∧ i.bytes = bytes ∧ z.cells.toList = k.cells k.dflt
  mp : ∀ kt kk vt vk, d.mp = some (kt, kk, vt, vk) → MapOk P t kt kk vt vk
  kd1 : d.kd = 1 → P.underlying t = some (.int .i64)
  kd2 : d.kd = 2 → P.underlying t = some .bool
  kd3 : d.kd = 3 → P.underlying t = some .string
  kd4 : d.kd = 4 → P.underlying t = some (.int .u64)
  cmp : d.kd = 7 → (∀ (op : BinOp) (x y : Operand) (xs ys : Array Value) (w : World), (eqGuard op t x y (.agg xs) (.agg ys)).run P w = .ok () w) ∧
    ∀ (l m : List Int) (w : World), l.length = d.zero.length → m.length = d.zero.length → (Op.equalIn 10000 t (.agg (l.map (Value.int .i64)).toArray) (.agg (m.map (Value.int .i64)).toArray)).run P w = .ok (l == m) w

def TyOk (P : Program) (ty : List (Nat × STy)) : Prop := ∀ t d, look ty t = some d → TyOk1 P t d

def cellsOf : SV → Option (List SC)
  | .a (.c c) => some [c]
  | .a (.agg l) => some l
  | _ => none

def wr {α : Type} (z : List α) (off : Nat) (cs : List α) : List α := appN (takeN z off) (appN cs (dropN z (off + lenN cs)))

def buildK (fr : List (Nat × SV)) (offs : List (Nat × Nat)) : List (Nat × Operand) → List SC → (List SC → Prop) → Prop
  | [], z, k => k z
  | (i, x) :: r, z, k => match nthN offs i, ev fr x with
    | some (off, size), some v => match cellsOf v with
      | some cs => match Nat.beq (lenN cs) size, Nat.ble (off + size) (lenN z) with
        | true, true => forceC (wr z off cs) fun z' => buildK fr offs r z' k
        | _, _ => False
      | none => False
    | _, _ => False

def capsK (fr : List (Nat × SV)) : List Operand → (List (Nat × Nat) → Prop) → Prop
  | [], k => k []
  | x :: l, k => match ev fr x with
    | some (.a (.c (.ptr id off))) => capsK fr l fun r => k ((id, off) :: r)
    | _ => False

def binI (op : BinOp) (x y : Int) (k : SV → Prop) : Prop :=
  match op with
  | .add => Ob (InI (x + y)) (k (.i (x + y)))
  | .sub => Ob (InI (x - y)) (k (.i (x - y)))
  | .mul => Ob (InI (x * y)) (k (.i (x * y)))
  | .eql => k (.b (x == y))
  | .neq => k (.b (x != y))
  | .lss => k (.b (decide (x < y)))
  | .leq => k (.b (decide (x ≤ y)))
  | .gtr => k (.b (decide (x > y)))
  | .geq => k (.b (decide (x ≥ y)))
  | _ => False

def binU (op : BinOp) (x y : Int) (k : SV → Prop) : Prop :=
  match op with
  | .eql => k (.b (x == y))
  | .neq => k (.b (x != y))
  | .lss => k (.b (decide (x < y)))
  | .leq => k (.b (decide (x ≤ y)))
  | .gtr => k (.b (decide (x > y)))
  | .geq => k (.b (decide (x ≥ y)))
  | _ => False

def intsOf : List SC → Option (List Int)
  | [] => some []
  | .i n :: l => match intsOf l with
    | some m => some (n :: m)
    | none => none
  | _ => none

def cmpK (op : BinOp) (x y : List Int) (k : SV → Prop) : Prop :=
  match op with
  | .eql => k (.b (x == y))
  | .neq => k (.b (!(x == y)))
  | _ => False

def nilK (op : BinOp) (p : Prop) (k : SV → Prop) : Prop :=
  match op with
  | .eql => ∀ c : Bool, (c = true → p) → k (.b c)
  | .neq => ∀ c : Bool, (c = true → p) → k (.b (!c))
  | _ => False

def binB (kd : Nat) (op : BinOp) (x y : Bool) (k : SV → Prop) : Prop :=
  match Nat.beq kd 2 with
  | true => match op with
    | .eql => k (.b (x == y))
    | .neq => k (.b (!(x == y)))
    | _ => False
  | false => False

def binS (op : BinOp) (x y : ByteArray) (k : SV → Prop) : Prop :=
  match op with
  | .eql => k (.b (x.toList == y.toList))
  | .neq => k (.b (!(x.toList == y.toList)))
  | _ => False

def optI (fr : List (Nat × SV)) (d : Int) : Option Operand → (Int → Prop) → Prop
  | none, k => k d
  | some x, k => match ev fr x with
    | some (.a (.c (.i n))) => k n
    | _ => False

def isAggV : SV → Bool
  | .a (.agg _) => true
  | _ => false
def eqB : Bool → Bool → Bool
  | true, true => true
  | false, false => true
  | _, _ => false

/-- The pool of blocks of a type. -/
def findP : List (Nat × SO) → Nat → Option Nat
  | [], _ => none
  | (id, .pool E _ _) :: l, T => match Nat.beq E T with
    | true => some id
    | false => findP l T
  | _ :: l, T => findP l T

def qOp (ty : List (Nat × STy)) (op : Op) (s : S) (k : SV → Prop) : Prop :=
  match op with
  | .move x | .assign x => match ev s.fr x with
    | some v => k v
    | none => False
  | .pick c x y => match ev s.fr c, ev s.fr x, ev s.fr y with
    | some (.a (.c (.b c))), some v, some u => condP c (k v) (k u)
    | _, _, _ => False
  | .fieldAddr T x f => match look ty T, ev s.fr x with
    | some d, some (.a (.c (.ptr id off))) => match d.agg, nthN d.offs f, look s.hp id with
      | true, some (o, _), some (.box _ _) => k (.c (.ptr id (off + o)))
      | _, _, _ => False
    | some d, some (.a (.c (.elt id sz i off))) => match d.agg, nthN d.offs f, look s.hp id with
      | true, some (o, _), some (.arr _ _ _ xs _) => Ob (i < xs.length) (k (.c (.elt id sz i (off + o))))
      | _, _, _ => False
    | some d, some (.a (.c (.q a))) => match d.agg, nthN d.offs f, findP s.hp T with
      | true, some (o, _), some id => match look s.hp id with
        | some (.pool _ ek m) => Ob (0 < (rowA m a).length) (k (.c (.pe id ek.sz a 0 o)))
        | _ => False
      | _, _, _ => False
    | some d, some (.a (.c (.pe id sz a i off))) => match d.agg, nthN d.offs f, look s.hp id with
      | true, some (o, _), some (.pool _ _ m) => Ob (i < (rowA m a).length) (k (.c (.pe id sz a i (off + o))))
      | _, _, _ => False
    | _, _ => False
  | .load T x => match look ty T, ev s.fr x with
    | some d, some (.a (.c (.ptr id off))) => match look s.hp id with
      | some (.box _ cells) => match d.agg with
        | true => match Nat.ble (off + lenN d.zero) (lenN cells) with
          | true => forceC (takeN (dropN cells off) (lenN d.zero)) fun l => k (.a (.agg l))
          | false => False
        | false => match nthN cells off with
          | some c => k (.a (.c c))
          | none => False
      | _ => False
    | some d, some (.a (.c (.elt id sz i off))) => match look s.hp id with
      | some (.arr _ _ ek xs _) => match Nat.beq sz ek.sz with
        | true => Ob (i < xs.length) (match d.agg with
          | true => match Nat.beq off 0, Nat.beq (lenN d.zero) ek.sz with
            | true, true => forceC (ek.sym (xs.getD i ek.dflt)) fun l => k (.a (.agg l))
            | _, _ => False
          | false => match nthN (ek.sym (xs.getD i ek.dflt)) off with
            | some c => k (.a (.c c))
            | none => False)
        | false => False
      | _ => False
    | some d, some (.a (.c (.pe id sz a i off))) => match look s.hp id with
      | some (.pool _ ek m) => match Nat.beq sz ek.sz with
        | true => Ob (i < (rowA m a).length) (match d.agg with
          | true => match Nat.ble (off + lenN d.zero) ek.sz with
            | true => forceC (takeN (dropN (ek.sym ((rowA m a).getD i ek.dflt)) off) (lenN d.zero)) fun l => k (.a (.agg l))
            | false => False
          | false => match nthN (ek.sym ((rowA m a).getD i ek.dflt)) off with
            | some c => k (.a (.c c))
            | none => False)
        | false => False
      | _ => False
    | some d, some (.a (.c (.q a))) => match findP s.hp T with
      | some id => match look s.hp id with
        | some (.pool _ ek m) => match d.agg, Nat.beq (lenN d.zero) ek.sz with
          | true, true => Ob (0 < (rowA m a).length) (forceC (ek.sym ((rowA m a).getD 0 ek.dflt)) fun l => k (.a (.agg l)))
          | _, _ => False
        | _ => False
      | none => False
    | _, _ => False
  | .nilCheck x => match ev s.fr x with
    | some (.a (.c (.ptr id off))) => match look s.hp id with
      | some (.box _ _) => k (.c (.ptr id off))
      | _ => False
    | some (.a (.c (.elt id sz i off))) => match look s.hp id with
      | some (.arr _ _ _ xs _) => Ob (i < xs.length) (k (.c (.elt id sz i off)))
      | _ => False
    | some (.a (.c (.fn f c))) => k (.c (.fn f c))
    | some (.a (.c (.fnv f c))) => k (.c (.fnv f c))
    | some (.a (.c (.q a))) => Ob (a.isSome = true) (k (.c (.q a)))
    | _ => False
  | .binOp op T x y _ => match ev s.fr x, ev s.fr y with
    | some (.a (.c (.i a))), some (.a (.c (.i b))) => binI op a b k
    | some (.a (.c (.b a))), some (.a (.c (.b b))) => match look ty T with
      | some d => binB d.kd op a b k
      | none => False
    | some (.a (.c (.v (.string a)))), some (.a (.c (.v (.string b)))) => binS op a b k
    | some (.a (.c (.u a))), some (.a (.c (.u b))) => binU op a b k
    | some (.a (.agg l)), some (.a (.agg m)) => match look ty T with
      | some d => match Nat.beq d.kd 7, intsOf l, intsOf m with
        | true, some xs, some ys => match Nat.beq (lenN xs) (lenN d.zero), Nat.beq (lenN ys) (lenN d.zero) with
          | true, true => cmpK op xs ys k
          | _, _ => False
        | _, _, _ => False
      | none => False
    | some (.a (.c (.sl id _ _ _ _))), some (.a (.c (.v (.slice none 0 0)))) => match look ty T, look s.hp id with
      | some d, some (.arr _ _ _ xs _) => match d.sl with
        | some _ => nilK op (xs = []) k
        | none => False
      | _, _ => False
    | _, _ => False
  | .unOp .not _ x => match ev s.fr x with
    | some (.a (.c (.b c))) => k (.b (!c))
    | _ => False
  | .unOp .neg _ x => match ev s.fr x with
    | some (.a (.c (.i n))) => Ob (InI (0 - n)) (k (.i (0 - n)))
    | _ => False
  | .convert src dst x => match ev s.fr x, look ty src, look ty dst with
    | some (.a (.c (.i n))), some d, some e => match Nat.beq d.kd 1, Nat.beq e.kd 1 with
      | true, true => Ob (InI n) (k (.i n))
      | true, false => match Nat.beq e.kd 4 with
        | true => Ob (0 ≤ n ∧ n ≤ 18446744073709551615) (k (.c (.u n)))
        | false => False
      | _, _ => False
    | some (.a (.c (.u n))), some d, some e => match Nat.beq d.kd 4, Nat.beq e.kd 1 with
      | true, true => Ob (InI n) (k (.i n))
      | true, false => match Nat.beq e.kd 4 with
        | true => Ob (0 ≤ n ∧ n ≤ 18446744073709551615) (k (.c (.u n)))
        | false => False
      | _, _ => False
    | _, _, _ => False
  | .indexAddr T x ix => match look ty T, ev s.fr x, ev s.fr ix with
    | some d, some (.a (.c (.sl id sz lo len _))), some (.a (.c (.i n))) => match d.sl, look s.hp id with
      | some (_, ek, _), some (.arr _ _ _ xs _) => match Nat.beq sz ek.sz with
        | true => Ob (0 ≤ n ∧ n < len ∧ lo + len ≤ xs.length) (k (.c (.elt id sz (lo + n.toNat) 0)))
        | false => False
      | _, _ => False
    | some d, some (.a (.c (.h y))), some (.a (.c (.i n))) => match d.sl with
      | some (E, ek, _) => match findP s.hp E with
        | some id => match look s.hp id with
          | some (.pool _ k0 m) => match Nat.beq k0.sz ek.sz with
            | true => Ob (0 ≤ n ∧ n < y.n ∧ n.toNat < (rowA m y.a).length) (k (.c (.pe id ek.sz y.a n.toNat 0)))
            | false => False
          | _ => False
        | none => False
      | none => False
    | _, _, _ => False
  | .lookup T x ix ok => match look ty T, ev s.fr x, ev s.fr ix with
    | some d, some (.a (.c (.mp id))), some kv => match d.mp, look s.hp id, cellsOf kv with
      | some (_, kk, _, vk), some (.map kk0 vk0 es _), some cs => match kk0.ofSym cs, EK.beq kk0 kk, EK.beq vk0 vk, eqB (isAggV kv) kk0.isAgg with
        | some key, true, true, true => forceA (vk0.symA ((lkM es key).getD vk0.dflt)) fun v => match ok with
          | true => k (.tup [v, .c (.b (lkM es key).isSome)])
          | false => k (.a v)
        | _, _, _, _ => False
      | _, _, _ => False
    | _, _, _ => False
  | .entry x => match ev s.fr x with
    | some (.a (.c (.ptr it 0))) => match look s.hp it with
      | some (.iter mid _ seen last cur) => match look s.hp mid with
        | some (.map kk vk es clk) => Ob (BornOk es clk ∧ last = clk ∧ ∃ h : cur < es.length, seen.getLast? = some es[cur].2.2) (∀ h : cur < es.length, forceA (kk.symA es[cur].1) fun x => forceA (vk.symA es[cur].2.1) fun y => k (.tup [x, y]))
        | _ => False
      | _ => False
    | _ => False
  | .slice T x lo hi none => match look ty T, ev s.fr x with
    | some d, some (.a (.c (.sl id sz lo0 len cap))) => match d.sl with
      | some (_, ek, _) => match Nat.beq sz ek.sz with
        | true => optI s.fr 0 lo fun l => optI s.fr len hi fun h => Ob (0 ≤ l ∧ l ≤ h ∧ h ≤ cap)
          (condP (decide (l < cap)) (k (.c (.sl id sz (lo0 + l.toNat) (h - l).toNat (cap - l.toNat)))) (k (.c (.sl id sz lo0 (h - l).toNat (cap - l.toNat)))))
        | false => False
      | none => False
    | _, _ => False
  | .extract x i => match ev s.fr x with
    | some (.tup l) => match nthN l i with
      | some v => k (.a v)
      | none => False
    | _ => False
  | .build T parts => match look ty T with
    | some d => match d.agg with
      | true => buildK s.fr d.offs parts.toList d.zero fun l => k (.a (.agg l))
      | false => False
    | none => False
  | .makeFunc (.func f) first caps => match first.toList with
    | [] => capsK s.fr caps.toList fun l => k (.c (.fn f l))
    | _ => False
  | .call { callee := .builtin .len, args, argTypes } => match args.toList, argTypes.toList with
    | [x], [t] => match ev s.fr x, look ty t with
      | some (.a (.c (.sl _ _ _ n _))), some d => match d.sl with
        | some _ => k (.i n)
        | none => False
      | some (.a (.c (.v (.slice none 0 0)))), some d => match d.sl with
        | some _ => k (.i 0)
        | none => False
      | some (.a (.c (.h x))), some d => match d.sl with
        | some _ => k (.i x.n)
        | none => False
      | some (.a (.c (.mp id))), some d => match d.mp, look s.hp id with
        | some _, some (.map _ _ es _) => k (.i es.length)
        | _, _ => False
      | some (.a (.c (.v (.string b)))), some d => match Nat.beq d.kd 3 with
        | true => k (.i b.size)
        | false => False
      | _, _ => False
    | _, _ => False
  | _ => False

end Go.Fw

/-
  The operations that leave the world alone do so, and answer what the executor says.
-/
namespace Go.Fw
open Go

theorem nble (a b : Nat) : Nat.ble a b = decide (a ≤ b) := by
  rw [Bool.eq_iff_iff]; simp [Nat.ble_eq]

theorem foldl_set (off : Nat) : ∀ (cs : List Value) (k : Nat) (z : Array Value), off + k + cs.length ≤ z.size →
    ((cs.zipIdx k).foldl (fun z p => z.setIfInBounds (off + p.2) p.1) z).toList = z.toList.take (off + k) ++ cs ++ z.toList.drop (off + k + cs.length)
  | [], k, z, _ => by simp
  | c :: cs, k, z, h => by
    simp only [List.length_cons] at h
    simp only [List.zipIdx_cons, List.foldl_cons]
    rw [foldl_set off cs (k + 1) _ (by simp; omega)]
    have hk : off + k < z.toList.length := by simp; omega
    simp only [Array.toList_setIfInBounds, List.length_cons]
    rw [show off + (k + 1) = off + k + 1 by omega, List.take_succ_eq_append_getElem (by simpa using hk), List.take_set_of_le (Nat.le_refl _),
      List.getElem_set_self, List.drop_set_of_lt (by omega), List.append_assoc, List.append_assoc, List.append_assoc]
    simp only [List.cons_append, List.nil_append]
    rw [show off + k + 1 + cs.length = off + k + (cs.length + 1) by omega]

theorem cells_cs {β : Env} {n : Nat} {v : SV} {cs : List SC} (h : cellsOf v = some cs) (hlt : v.lt n) : (v.den β).cells = (cs.map (SC.den β)).toArray ∧ ∀ c ∈ cs, SC.lt n c := by
  cases v with
  | a x =>
    cases x with
    | c c =>
      simp only [cellsOf, Option.some.injEq] at h
      subst h
      refine ⟨?_, by intro c hc; simp at hc; subst hc; exact hlt⟩
      cases c <;> try rfl
      rename_i x
      simp only [SV.lt, SA.lt, SC.lt] at hlt
      cases x <;> first | rfl | (simp [Value.oneCell'] at hlt)
    | agg l =>
      simp only [cellsOf, Option.some.injEq] at h
      subst h
      exact ⟨rfl, hlt⟩
  | tup l => cases h

theorem wr_eq {α : Type} (z : List α) (off : Nat) (cs : List α) : wr z off cs = z.take off ++ cs ++ z.drop (off + cs.length) := by
  simp [wr, takeN_eq, appN_eq, dropN_eq, lenN_eq]

section
variable {P : Program} {ty : List (Nat × STy)} {β : Env} {Z : Nat → Prop} {fp : Nat → Nat → Prop} {s : S} {w : World} {N : Nat} {a : Act}

theorem buildK_sound (hf : FSat β s N a) (offs : List (Nat × Nat)) (place : Nat → Option (Nat × Nat))
    (ho : ∀ (i : Nat) (p : Nat × Nat), offs[i]? = some p → place i = some p) :
    ∀ (parts : List (Nat × Operand)) (z : List SC) (k : List SC → Prop), (∀ c ∈ z, SC.lt s.nx c) → buildK s.fr offs parts z k →
      ∃ l, Instr.fill place (z.map (SC.den β)).toArray (parts.map fun p => (p.1, a.eval p.2)) = some (l.map (SC.den β)).toArray ∧ (∀ c ∈ l, SC.lt s.nx c) ∧ k l
  | [], z, k, hz, h => ⟨z, rfl, hz, h⟩
  | (i, x) :: r, z, k, hz, h => by
    simp only [buildK] at h
    split at h <;> try exact h.elim
    rename_i off size v h1 h2
    split at h <;> try exact h.elim
    rename_i cs hcs
    split at h <;> try exact h.elim
    rename_i hsz hlen
    rw [nbeq, lenN_eq, decide_eq_true_eq] at hsz
    rw [nble, lenN_eq, decide_eq_true_eq] at hlen
    rw [forceC_iff] at h
    rw [nthN_eq] at h1
    have hp := ho _ _ h1
    obtain ⟨he, hlt⟩ := ev_den hf h2
    obtain ⟨hcells, hclt⟩ := cells_cs (β := β) hcs hlt
    obtain ⟨l, hl, hll, hk⟩ := buildK_sound hf offs place ho r (wr z off cs) k (by
      intro c hc
      rw [wr_eq] at hc
      simp only [List.mem_append] at hc
      rcases hc with (hc | hc) | hc
      · exact hz c (List.mem_of_mem_take hc)
      · exact hclt c hc
      · exact hz c (List.mem_of_mem_drop hc)) h
    refine ⟨l, ?_, hll, hk⟩
    simp only [List.map_cons, Instr.fill, hp, he, hcells]
    rw [if_neg (by simp; omega), ← hl]
    congr 1
    apply Array.ext'
    have := foldl_set off (cs.map (SC.den β)) 0 (z.map (SC.den β)).toArray (by simp; omega)
    simp only [Nat.add_zero] at this
    have e1 : Array.foldl (fun (cs : Array Value) (x : Value × Nat) => cs.setIfInBounds (off + x.2) x.1) (z.map (SC.den β)).toArray (cs.map (SC.den β)).toArray.zipIdx =
        List.foldl (fun (z : Array Value) p => z.setIfInBounds (off + p.2) p.1) (z.map (SC.den β)).toArray (List.zipIdx (cs.map (SC.den β))) := by
      rw [← Array.foldl_toList]; simp
    rw [e1, this, wr_eq]
    simp

theorem capsK_sound (hf : FSat β s N a) : ∀ (l : List Operand) (k : List (Nat × Nat) → Prop), capsK s.fr l k →
    ∃ r : List (Nat × Nat), l.map a.eval = r.map (fun p => Value.pointer ((β p.1).map (·.add p.2))) ∧ (∀ p ∈ r, p.1 < s.nx) ∧ k r
  | [], k, h => ⟨[], rfl, by simp, h⟩
  | x :: l, k, h => by
    simp only [capsK] at h
    split at h <;> try exact h.elim
    rename_i id off h1
    obtain ⟨he, hlt⟩ := ev_den hf h1
    obtain ⟨r, hr, hrl, hk⟩ := capsK_sound hf l _ h
    refine ⟨(id, off) :: r, by simp [hr, he, SV.den, SA.den, SC.den], ?_, hk⟩
    intro p hp
    simp only [List.mem_cons] at hp
    rcases hp with rfl | hp
    · exact hlt
    · exact hrl p hp

theorem optI_sound (hf : FSat β s N a) (d : Int) (o : Option Operand) (k : Int → Prop) (h : optI s.fr d o k) :
    ∃ n, k n ∧ ((o = none ∧ n = d) ∨ ∃ x, o = some x ∧ a.eval x = .int .i64 n) := by
  cases o with
  | none => exact ⟨d, h, .inl ⟨rfl, rfl⟩⟩
  | some x =>
    simp only [optI] at h
    split at h <;> try exact h.elim
    rename_i n h1
    exact ⟨n, h, .inr ⟨x, rfl, (ev_den hf h1).1⟩⟩

/-- A pointer to a box. -/
theorem box_at (hs : HSat β Z fp s w) {id T : Nat} {cs : List SC} (h : look s.hp id = some (.box T cs)) :
    ∃ b, β id = some ⟨b, 0, none⟩ ∧ fp id b ∧ w.heap[b]? = some (.cells (cs.map (SC.den β)).toArray T (0, 0)) := hs.obj id _ h

theorem box_cell (hs : HSat β Z fp s w) {id T : Nat} {cs : List SC} (h : look s.hp id = some (.box T cs)) {b : Nat} (hb : β id = some ⟨b, 0, none⟩)
    (j : Nat) (c : SC) (hj : cs[j]? = some c) : w.cell? ⟨b, j, none⟩ = some (c.den β) := by
  obtain ⟨b', h1, _, h3⟩ := box_at hs h
  rw [hb] at h1
  cases h1
  simp [World.cell?, h3, hj]

theorem arr_some (hs : HSat β Z fp s w) {id E : Nat} {own : Bool} {k : EK} {xs : List k.ty} {sp : Nat} (h : look s.hp id = some (.arr own E k xs sp)) {i : Nat} (hi : i < xs.length) :
    ∃ x, β id = some x ∧ x.spot = none ∧ ∀ off, off < k.sz → w.cell? ⟨x.block, x.off + (i * k.sz + off), none⟩ = ((k.sym (xs.getD i k.dflt))[off]?).map (SC.den β) := by
  obtain ⟨x, h1, h2, h3⟩ := SO.ok_cell (hs.obj id _ h) (by intro e; rw [e] at hi; simp at hi)
  refine ⟨x, h1, h2, fun off ho => ?_⟩
  have hg := flat_get k xs i off hi ho
  have hl : off < (k.cells (xs.getD i k.dflt)).length := by rw [EK.cells_length]; exact ho
  rw [List.getElem?_eq_getElem hl] at hg
  rw [h3 _ _ hg, ← List.getElem?_map, EK.sym_den, List.getElem?_eq_getElem hl]

/-- Where the objects lie, whatever the world. -/
structure BSat (β : Env) (s : S) : Prop where
  pool : ∀ id E (k : EK) m a y, look s.hp id = some (.pool E k m) → lkA m a = some y → a.spot = none
  plt : ∀ id E (k : EK) m, look s.hp id = some (.pool E k m) → id < s.nx
  box : ∀ id T cs, look s.hp id = some (.box T cs) → ∃ b, β id = some ⟨b, 0, none⟩
  arr : ∀ id own E (k : EK) (xs : List k.ty) sp i, look s.hp id = some (.arr own E k xs sp) → i < xs.length → ∃ x, β id = some x ∧ x.spot = none

theorem HSat.b (hs : HSat β Z fp s w) : BSat β s :=
  ⟨fun _ _ _ _ a y h hl => ((hs.obj _ _ h).row a y.1 y.2 hl).1, fun _ _ _ _ h => (hs.lto _ _ h).1, fun _ _ _ h => let ⟨b, hb, _⟩ := box_at hs h; ⟨b, hb⟩, fun _ _ _ _ _ _ _ h hi => let ⟨x, hx, hsp, _⟩ := arr_some hs h hi; ⟨x, hx, hsp⟩⟩

theorem rowA_lt {α : Type} {m : List (Addr × List α × Nat)} {oa : Option Addr} {j : Nat} (h : j < (rowA m oa).length) : ∃ a y, oa = some a ∧ lkA m a = some y ∧ rowA m oa = y.1 := by
  unfold rowA at h ⊢
  cases oa with
  | none => simp at h
  | some a =>
    simp only at h ⊢
    cases hl : lkA m a with
    | none => rw [hl] at h; simp at h
    | some y => exact ⟨a, y, rfl, hl, rfl⟩

theorem findP_look : ∀ {hp : List (Nat × SO)} {T id : Nat}, findP hp T = some id → True := fun _ => trivial

/-- A cell of a pool. -/
theorem pool_cell (hs : HSat β Z fp s w) {id E : Nat} {k : EK} {m : List (Addr × List k.ty × Nat)} (h : look s.hp id = some (.pool E k m)) {oa : Option Addr} {i : Nat} (hi : i < (rowA m oa).length) :
    ∃ x, oa = some x ∧ x.spot = none ∧ ∀ off, off < k.sz → w.cell? ⟨x.block, x.off + (i * k.sz + off), none⟩ = ((k.sym ((rowA m oa).getD i k.dflt))[off]?).map (SC.den β) := by
  obtain ⟨a, y, rfl, hl, hr⟩ := rowA_lt hi
  rw [hr] at hi ⊢
  obtain ⟨h1, _, pre, post, h3, h4, _⟩ := (hs.obj _ _ h).row a y.1 y.2 hl
  refine ⟨a, rfl, h1, fun off ho => ?_⟩
  have hg := flat_get k y.1 i off hi ho
  have hlen : off < (k.cells (y.1.getD i k.dflt)).length := by rw [EK.cells_length]; exact ho
  rw [List.getElem?_eq_getElem hlen] at hg
  rw [flat_cell h3 h4 _ _ hg, ← List.getElem?_map, EK.sym_den, List.getElem?_eq_getElem hlen]

theorem run_isAgg_load {t : Nat} {d : STy} (h : TyOk1 P t d) (x : Addr) :
    (Instr.loadAt t (.pointer (some x))).run P w = match d.agg with
      | true => ((loadCells x d.zero.length).run P w).andThen fun cs w => .ok (.agg cs) w
      | false => (load x).run P w := by
  have h1 := h.agg w
  cases hd : d.agg with
  | true =>
    rw [hd] at h1
    simp only [Instr.loadAt, Instr.sureAddr, loadVar, pure_bind, Sem.run_bind, h1, Result.andThen_ok, if_true, h.size, Sem.run_pure]
  | false =>
    rw [hd] at h1
    simp only [Instr.loadAt, Instr.sureAddr, loadVar, pure_bind, Sem.run_bind, h1, Result.andThen_ok, Bool.false_eq_true, if_false]

theorem add_add' {x : Addr} (h : x.spot = none) (m n : Nat) : (x.add m).add n = x.add (m + n) := by
  obtain ⟨b, o, sp⟩ := x
  cases h
  simp [Addr.add_lit, Nat.add_assoc]

theorem add_eq {x : Addr} (h : x.spot = none) (m : Nat) : x.add m = ⟨x.block, x.off + m, none⟩ := by
  obtain ⟨b, o, sp⟩ := x
  cases h
  simp [Addr.add_lit]

theorem ofSli_spec {cs : List SC} {e : Sli} (h : ofSli cs = some e) : cs.map (SC.den β) = EK.cells .sli e := by
  unfold ofSli at h
  split at h <;> cases h <;> rfl

theorem ofSym_spec {ek : EK} {cs : List SC} {e : ek.ty} (h : ek.ofSym cs = some e) : cs.map (SC.den β) = ek.cells e := by
  cases ek
  case int => change ofInt cs = some e at h; unfold ofInt at h; split at h <;> cases h; rfl
  case bool => change ofBool cs = some e at h; unfold ofBool at h; split at h <;> cases h; rfl
  case arc => change ofArc cs = some e at h; unfold ofArc at h; split at h <;> cases h; rfl
  case trip => change ofTrip cs = some e at h; unfold ofTrip at h; split at h <;> cases h; rfl
  case duo => change ofDuo cs = some e at h; unfold ofDuo at h; split at h <;> cases h; rfl
  case str => change ofStr cs = some e at h; unfold ofStr at h; split at h <;> cases h; rfl
  case sli => exact ofSli_spec h
  case adr => change ofAdr cs = some e at h; unfold ofAdr at h; split at h <;> cases h <;> rfl
  case fnd => change ofFnd cs = some e at h; unfold ofFnd at h; split at h <;> cases h; rfl
  case fst =>
    change ofFst cs = some e at h
    unfold ofFst at h
    split at h <;> try cases h
    rename_i p q c d
    cases hc : ofSli [c] with
    | none => simp only [hc] at h; cases h
    | some x =>
      cases hd : ofSli [d] with
      | none => simp only [hc, hd] at h; cases h
      | some y =>
        simp only [hc, hd] at h
        cases h
        have h1 := ofSli_spec (β := β) hc
        have h2 := ofSli_spec (β := β) hd
        simp only [List.map_cons, List.map_nil, EK.cells, EK.sym, List.cons.injEq, and_true] at h1 h2
        simp only [List.map_cons, List.map_nil, EK.cells, EK.sym, h1, h2]
        rfl

end
end Go.Fw

/-
  The soundness of the quiet operations.
-/
namespace Go.Fw
open Go

section
variable {P : Program} {ty : List (Nat × STy)} {β : Env} {Z : Nat → Prop} {fp : Nat → Nat → Prop} {s : S} {w : World} {N : Nat} {a : Act}

/-- What is asked of a quiet operation. -/
def QOkW (P : Program) (β : Env) (s : S) (w : World) (a : Act) (o : Oper) (k : SV → Prop) : Prop :=
  ∃ v, (execOp a.eval o).run P w = .ok (.value (v.den β)) w ∧ v.lt s.nx ∧ k v

theorem QOkW.mk {o : Oper} {k : SV → Prop} (v : SV) (he : (execOp a.eval o).run P w = .ok (.value (v.den β)) w) (hl : v.lt s.nx) (hk : k v) : QOkW P β s w a o k := ⟨v, he, hl, hk⟩

/-- The same, whatever the world. -/
def QOk (P : Program) (β : Env) (s : S) (a : Act) (o : Oper) (k : SV → Prop) : Prop :=
  ∃ v, (∀ w, (execOp a.eval o).run P w = .ok (.value (v.den β)) w) ∧ v.lt s.nx ∧ k v

theorem QOk.mk {o : Oper} {k : SV → Prop} (v : SV) (he : ∀ w, (execOp a.eval o).run P w = .ok (.value (v.den β)) w) (hl : v.lt s.nx) (hk : k v) : QOk P β s a o k := ⟨v, he, hl, hk⟩

theorem q_fieldAddr (hty : TyOk P ty) (hs : BSat β s) (hf : FSat β s N a) {k : SV → Prop} {dst : Option Nat} {T : TypeId} {x : Operand} {f : Nat} {type : TypeId} {pos : String}
    {after : Array Edge} {guard : Option (Nat × Bool)} (h : qOp ty (.fieldAddr T x f) s k) : QOk P β s a ⟨dst, .fieldAddr T x f, type, pos, after, guard⟩ k := by
  simp only [qOp] at h
  split at h <;> try exact h.elim
  · rename_i d id off hd hx
    split at h <;> try exact h.elim
    rename_i o sz T' cs hagg ho hl
    obtain ⟨he, hlt⟩ := ev_den hf hx
    obtain ⟨b, hb⟩ := hs.box _ _ _ hl
    obtain ⟨fields, hu, hfs⟩ := (hty T d hd).str hagg
    rw [nthN_eq] at ho
    obtain ⟨fd, hf1, hf2, hf3, hf4⟩ := hfs _ _ ho
    refine QOk.mk (.c (.ptr id (off + o))) ?_ hlt h
    simp only at hf2 hf4
    simp [execOp, Instr.fieldAt, run_underlying hu, hf1, he, SV.den, SA.den, SC.den, hb, Instr.sureAddr, fieldPlace, hf3, hf4, hf2, Addr.add_lit]
  · rename_i d id sz i off hd hx
    split at h <;> try exact h.elim
    rename_i o sz' own E ek xs sp hagg ho hl
    obtain ⟨hi, h⟩ := h
    obtain ⟨he, hlt⟩ := ev_den hf hx
    obtain ⟨x', hb, hsp⟩ := hs.arr _ _ _ _ _ _ _ hl hi
    obtain ⟨fields, hu, hfs⟩ := (hty T d hd).str hagg
    rw [nthN_eq] at ho
    obtain ⟨fd, hf1, hf2, hf3, hf4⟩ := hfs _ _ ho
    refine QOk.mk (.c (.elt id sz i (off + o))) ?_ hlt h
    simp only at hf2 hf4
    simp [execOp, Instr.fieldAt, run_underlying hu, hf1, he, SV.den, SA.den, SC.den, hb, Instr.sureAddr, fieldPlace, hf3, hf4, hf2, add_eq hsp, Addr.add_lit, Nat.add_assoc]
  · rename_i d q hd hx
    split at h <;> try exact h.elim
    rename_i o sz id hagg ho hp
    split at h <;> try exact h.elim
    rename_i E ek m hl
    obtain ⟨hi, h⟩ := h
    obtain ⟨he, hlt⟩ := ev_den hf hx
    obtain ⟨x', y, rfl, hla, _⟩ := rowA_lt hi
    have hsp := hs.pool _ _ _ _ _ _ hl hla
    obtain ⟨fields, hu, hfs⟩ := (hty T d hd).str hagg
    rw [nthN_eq] at ho
    obtain ⟨fd, hf1, hf2, hf3, hf4⟩ := hfs _ _ ho
    refine QOk.mk (.c (.pe id ek.sz (some x') 0 o)) ?_ (hs.plt _ _ _ _ hl) h
    simp only at hf2 hf4
    simp [execOp, Instr.fieldAt, run_underlying hu, hf1, he, SV.den, SA.den, SC.den, Instr.sureAddr, fieldPlace, hf3, hf4, hf2]
  · rename_i d id sz q i off hd hx
    split at h <;> try exact h.elim
    rename_i o sz' E ek m hagg ho hl
    obtain ⟨hi, h⟩ := h
    obtain ⟨he, hlt⟩ := ev_den hf hx
    obtain ⟨x', y, rfl, hla, _⟩ := rowA_lt hi
    have hsp := hs.pool _ _ _ _ _ _ hl hla
    obtain ⟨fields, hu, hfs⟩ := (hty T d hd).str hagg
    rw [nthN_eq] at ho
    obtain ⟨fd, hf1, hf2, hf3, hf4⟩ := hfs _ _ ho
    refine QOk.mk (.c (.pe id sz (some x') i (off + o))) ?_ hlt h
    simp only at hf2 hf4
    simp [execOp, Instr.fieldAt, run_underlying hu, hf1, he, SV.den, SA.den, SC.den, Instr.sureAddr, fieldPlace, hf3, hf4, hf2, add_eq hsp, Addr.add_lit, Nat.add_assoc]

theorem q_load (hty : TyOk P ty) (hs : HSat β Z fp s w) (hf : FSat β s N a) {k : SV → Prop} {dst : Option Nat} {T : TypeId} {x : Operand} {type : TypeId} {pos : String}
    {after : Array Edge} {guard : Option (Nat × Bool)} (h : qOp ty (.load T x) s k) : QOkW P β s w a ⟨dst, .load T x, type, pos, after, guard⟩ k := by
  simp only [qOp] at h
  split at h <;> try exact h.elim
  · rename_i d id off hd hx
    split at h <;> try exact h.elim
    rename_i T' cs hl
    obtain ⟨he, hlt⟩ := ev_den hf hx
    obtain ⟨b, hb, _, _⟩ := box_at hs hl
    have hcl : ∀ c ∈ cs, SC.lt s.nx c := (hs.lto id _ hl).2
    have hrun : (execOp a.eval ⟨dst, .load T x, type, pos, after, guard⟩).run P w = ((Instr.loadAt T (.pointer (some ⟨b, off, none⟩))).run P w).andThen fun v w => .ok (.value v) w := by
      simp [execOp, he, SV.den, SA.den, SC.den, hb, Addr.add_lit]
    rw [run_isAgg_load (hty T d hd)] at hrun
    split at h
    · rename_i hagg
      split at h <;> try exact h.elim
      rename_i hlen
      rw [nble, lenN_eq, lenN_eq, decide_eq_true_eq] at hlen
      rw [forceC_iff, takeN_eq, dropN_eq, lenN_eq] at h
      refine QOkW.mk _ ?_ ?_ h
      · rw [hrun, hagg]
        simp only
        have := run_loadCells_list (P := P) w ⟨b, off, none⟩ (((cs.drop off).take d.zero.length).map (SC.den β)) (fun j v hj => by
          rw [List.getElem?_map] at hj
          obtain ⟨c, hc, rfl⟩ := Option.map_eq_some_iff.1 hj
          rw [Addr.add_lit]
          refine box_cell hs hl hb _ _ ?_
          rw [List.getElem?_take] at hc
          split at hc
          · rwa [List.getElem?_drop] at hc
          · cases hc)
        rw [List.length_map, List.length_take, List.length_drop, Nat.min_eq_left (by omega)] at this
        rw [this]
        simp [SV.den, SA.den]
      · exact fun c hc => hcl c (List.mem_of_mem_drop (List.mem_of_mem_take hc))
    · rename_i hagg
      split at h <;> try exact h.elim
      rename_i c hc
      rw [nthN_eq] at hc
      refine QOkW.mk (.a (.c c)) ?_ (hcl c (List.mem_of_getElem? hc)) h
      rw [hrun, hagg]
      simp [run_load, box_cell hs hl hb _ _ hc, SV.den, SA.den]
  · rename_i d id sz i off hd hx
    split at h <;> try exact h.elim
    rename_i own E ek xs sp hl
    split at h <;> try exact h.elim
    rename_i hsz
    rw [nbeq, decide_eq_true_eq] at hsz
    subst hsz
    obtain ⟨hi, h⟩ := h
    obtain ⟨he, hlt⟩ := ev_den hf hx
    obtain ⟨x', hb, hsp, hcell⟩ := arr_some hs hl hi
    have hrun : (execOp a.eval ⟨dst, .load T x, type, pos, after, guard⟩).run P w = ((Instr.loadAt T (.pointer (some ⟨x'.block, x'.off + (i * ek.sz + off), none⟩))).run P w).andThen fun v w => .ok (.value v) w := by
      simp [execOp, he, SV.den, SA.den, SC.den, hb, add_eq hsp]
    rw [run_isAgg_load (hty T d hd)] at hrun
    split at h
    · rename_i hagg
      split at h <;> try exact h.elim
      rename_i h0 hlen
      rw [nbeq, decide_eq_true_eq] at h0
      rw [nbeq, lenN_eq, decide_eq_true_eq] at hlen
      subst h0
      rw [forceC_iff] at h
      refine QOkW.mk (.a (.agg (ek.sym (xs.getD i ek.dflt)))) ?_ (EK.sym_lt ek _ _) h
      rw [hrun, hagg, hlen]
      simp only
      have := run_loadCells_list (P := P) w ⟨x'.block, x'.off + (i * ek.sz + 0), none⟩ ((ek.sym (xs.getD i ek.dflt)).map (SC.den β)) (fun j v hj => by
        rw [List.getElem?_map] at hj
        obtain ⟨c, hc, rfl⟩ := Option.map_eq_some_iff.1 hj
        rw [Addr.add_lit]
        have hj' : j < ek.sz := by
          have := (List.getElem?_eq_some_iff.1 hc).1
          rwa [EK.sym_length] at this
        have := hcell j hj'
        rw [hc] at this
        simpa [Nat.add_assoc] using this)
      rw [List.length_map, EK.sym_length] at this
      rw [this]
      simp [SV.den, SA.den]
    · rename_i hagg
      split at h <;> try exact h.elim
      rename_i c hc
      rw [nthN_eq] at hc
      have hoff : off < ek.sz := by
        have := (List.getElem?_eq_some_iff.1 hc).1
        rwa [EK.sym_length] at this
      refine QOkW.mk (.a (.c c)) ?_ (EK.sym_lt ek _ _ c (List.mem_of_getElem? hc)) h
      have := hcell off hoff
      rw [hc] at this
      rw [hrun, hagg]
      simp [run_load, this, SV.den, SA.den]
  · rename_i d id sz q i off hd hx
    split at h <;> try exact h.elim
    rename_i E ek m hl
    split at h <;> try exact h.elim
    rename_i hsz
    rw [nbeq, decide_eq_true_eq] at hsz
    subst hsz
    obtain ⟨hi, h⟩ := h
    obtain ⟨he, hlt⟩ := ev_den hf hx
    obtain ⟨x', rfl, hsp, hcell⟩ := pool_cell hs hl hi
    generalize (rowA m (some x')).getD i ek.dflt = e at *
    have hrun : (execOp a.eval ⟨dst, .load T x, type, pos, after, guard⟩).run P w = ((Instr.loadAt T (.pointer (some ⟨x'.block, x'.off + (i * ek.sz + off), none⟩))).run P w).andThen fun v w => .ok (.value v) w := by
      simp [execOp, he, SV.den, SA.den, SC.den, add_eq hsp]
    rw [run_isAgg_load (hty T d hd)] at hrun
    split at h
    · rename_i hagg
      split at h <;> try exact h.elim
      rename_i hlen
      rw [nble, lenN_eq, decide_eq_true_eq] at hlen
      rw [forceC_iff, takeN_eq, dropN_eq, lenN_eq] at h
      refine QOkW.mk _ ?_ ?_ h
      · rw [hrun, hagg]
        simp only
        have := run_loadCells_list (P := P) w ⟨x'.block, x'.off + (i * ek.sz + off), none⟩ ((((ek.sym e).drop off).take d.zero.length).map (SC.den β)) (fun j v hj => by
          rw [List.getElem?_map] at hj
          obtain ⟨c, hc, rfl⟩ := Option.map_eq_some_iff.1 hj
          rw [Addr.add_lit]
          rw [List.getElem?_take] at hc
          split at hc
          · rename_i hjl
            rw [List.getElem?_drop] at hc
            have := hcell (off + j) (by omega)
            rw [hc] at this
            simpa [Nat.add_assoc] using this
          · cases hc)
        rw [List.length_map, List.length_take, List.length_drop, EK.sym_length, Nat.min_eq_left (by omega)] at this
        rw [this]
        simp [SV.den, SA.den]
      · exact fun c hc => EK.sym_lt ek _ _ c (List.mem_of_mem_drop (List.mem_of_mem_take hc))
    · rename_i hagg
      split at h <;> try exact h.elim
      rename_i c hc
      rw [nthN_eq] at hc
      have hoff : off < ek.sz := by
        have := (List.getElem?_eq_some_iff.1 hc).1
        rwa [EK.sym_length] at this
      refine QOkW.mk (.a (.c c)) ?_ (EK.sym_lt ek _ _ c (List.mem_of_getElem? hc)) h
      have := hcell off hoff
      rw [hc] at this
      rw [hrun, hagg]
      simp [run_load, this, SV.den, SA.den]
  · rename_i d q hd hx
    split at h <;> try exact h.elim
    rename_i id hp
    split at h <;> try exact h.elim
    rename_i E ek m hl
    split at h <;> try exact h.elim
    rename_i hagg hlen
    rw [nbeq, lenN_eq, decide_eq_true_eq] at hlen
    obtain ⟨hi, h⟩ := h
    rw [forceC_iff] at h
    obtain ⟨he, hlt⟩ := ev_den hf hx
    obtain ⟨x', rfl, hsp, hcell⟩ := pool_cell hs hl hi
    generalize (rowA m (some x')).getD 0 ek.dflt = e at *
    have hrun : (execOp a.eval ⟨dst, .load T x, type, pos, after, guard⟩).run P w = ((Instr.loadAt T (.pointer (some ⟨x'.block, x'.off, none⟩))).run P w).andThen fun v w => .ok (.value v) w := by
      have e1 : (⟨x'.block, x'.off, none⟩ : Addr) = x' := by obtain ⟨b, o, sp⟩ := x'; cases hsp; rfl
      simp [execOp, he, SV.den, SA.den, SC.den, e1]
    rw [run_isAgg_load (hty T d hd)] at hrun
    refine QOkW.mk (.a (.agg (ek.sym e))) ?_ (EK.sym_lt ek _ _) h
    rw [hrun, hagg, hlen]
    simp only
    have := run_loadCells_list (P := P) w ⟨x'.block, x'.off, none⟩ ((ek.sym e).map (SC.den β)) (fun j v hj => by
      rw [List.getElem?_map] at hj
      obtain ⟨c, hc, rfl⟩ := Option.map_eq_some_iff.1 hj
      rw [Addr.add_lit]
      have hj' : j < ek.sz := by
        have := (List.getElem?_eq_some_iff.1 hc).1
        rwa [EK.sym_length] at this
      have := hcell j hj'
      rw [hc] at this
      simpa [Nat.add_assoc] using this)
    rw [List.length_map, EK.sym_length] at this
    rw [this]
    simp [SV.den, SA.den]

theorem q_index (hty : TyOk P ty) (hs : BSat β s) (hf : FSat β s N a) {k : SV → Prop} {dst : Option Nat} {T : TypeId} {x ix : Operand} {type : TypeId} {pos : String}
    {after : Array Edge} {guard : Option (Nat × Bool)} (h : qOp ty (.indexAddr T x ix) s k) : QOk P β s a ⟨dst, .indexAddr T x ix, type, pos, after, guard⟩ k := by
  simp only [qOp] at h
  split at h <;> try exact h.elim
  · rename_i d id sz lo len cap n hd hx hi
    split at h <;> try exact h.elim
    rename_i E ek by_ own E' ek' xs sp hsl hl
    split at h <;> try exact h.elim
    rename_i hsz
    rw [nbeq, decide_eq_true_eq] at hsz
    obtain ⟨⟨h0, h1, h2⟩, h⟩ := h
    obtain ⟨he, hlt⟩ := ev_den hf hx
    obtain ⟨hei, _⟩ := ev_den hf hi
    obtain ⟨hu, hE, _⟩ := (hty T d hd).sl _ _ _ hsl
    obtain ⟨y, hb, hsp⟩ := hs.arr _ _ _ _ _ _ lo hl (by omega)
    refine QOk.mk (.c (.elt id sz (lo + n.toNat) 0)) (fun w => ?_) hlt h
    have hu' : P.underlying T = some (.slice (P.elem T)) := by simp [hu, Program.elem]
    have hE' : P.elem T = E := by simp [hu, Program.elem]
    simp only [execOp, he, hei, SV.den, SA.den, SC.den, hb, Option.map_some, Sem.run_bind, run_indexAt_slice (h := hu'), if_pos (And.intro h0 h1), hE', hE, Result.andThen_ok, Sem.run_pure]
    rw [add_eq hsp, add_eq hsp, Addr.add_lit, hsz, Nat.add_mul, Nat.add_assoc, Nat.add_zero]
  · rename_i d hdr n hd hx hi
    split at h <;> try exact h.elim
    rename_i E ek by_ hsl
    split at h <;> try exact h.elim
    rename_i id hp
    split at h <;> try exact h.elim
    rename_i E' k0 m hl
    split at h <;> try exact h.elim
    rename_i hsz
    rw [nbeq, decide_eq_true_eq] at hsz
    obtain ⟨⟨h0, h1, h2⟩, h⟩ := h
    obtain ⟨he, hlt⟩ := ev_den hf hx
    obtain ⟨hei, _⟩ := ev_den hf hi
    obtain ⟨hu, hE, _⟩ := (hty T d hd).sl _ _ _ hsl
    obtain ⟨y, q, hya, hla, _⟩ := rowA_lt h2
    have hsp := hs.pool _ _ _ _ _ _ hl hla
    refine QOk.mk (.c (.pe id ek.sz hdr.a n.toNat 0)) (fun w => ?_) (hs.plt _ _ _ _ hl) h
    have hu' : P.underlying T = some (.slice (P.elem T)) := by simp [hu, Program.elem]
    have hE' : P.elem T = E := by simp [hu, Program.elem]
    simp only [execOp, he, hei, SV.den, SA.den, SC.den, hya, Option.map_some, Sem.run_bind, run_indexAt_slice (h := hu'), if_pos (And.intro h0 h1), hE', hE, Result.andThen_ok, Sem.run_pure]
    rw [Nat.add_zero]


theorem binI_sound {op : BinOp} {x y : Int} {k : SV → Prop} (h : binI op x y k) (t : TypeId) (p q : Operand) (n : Nat) :
    ∃ v, (∀ w, ((do eqGuard op t p q (.int .i64 x) (.int .i64 y); binOp op t (.int .i64 x) (.int .i64 y) : Sem Value)).run P w = .ok (v.den β) w) ∧ v.lt n ∧ k v := by
  cases op <;> simp only [binI] at h <;> try exact h.elim
  case add => exact ⟨.i (x + y), fun w => by simp [go_sem, wrap_in h.ob, SV.den, SA.den, SC.den], trivial, h.go⟩
  case sub => exact ⟨.i (x - y), fun w => by simp [go_sem, wrap_in h.ob, SV.den, SA.den, SC.den], trivial, h.go⟩
  case mul => exact ⟨.i (x * y), fun w => by simp [go_sem, wrap_in h.ob, SV.den, SA.den, SC.den], trivial, h.go⟩
  all_goals
    refine ⟨_, ?_, ?_, h⟩
    · intro w; simp only [eqGuard_at_int, binOp_eql, binOp_neq, binOp_lss, binOp_leq, binOp_gtr, binOp_geq, pure_bind, Sem.run_pure]; rfl
    · exact trivial

theorem binU_sound {op : BinOp} {x y : Int} {k : SV → Prop} (h : binU op x y k) (t : TypeId) (p q : Operand) (n : Nat) :
    ∃ v, (∀ w, ((do eqGuard op t p q (.int .u64 x) (.int .u64 y); binOp op t (.int .u64 x) (.int .u64 y) : Sem Value)).run P w = .ok (v.den β) w) ∧ v.lt n ∧ k v := by
  cases op <;> simp only [binU] at h <;> try exact h.elim
  all_goals
    refine ⟨_, ?_, ?_, h⟩
    · intro w; simp only [eqGuard_at_int, binOp_eql, binOp_neq, binOp_lss, binOp_leq, binOp_gtr, binOp_geq, pure_bind, Sem.run_pure]; rfl
    · exact trivial

theorem intsOf_den : ∀ {l : List SC} {xs : List Int}, intsOf l = some xs → l.map (SC.den β) = xs.map (Value.int .i64)
  | [], xs, h => by cases h; rfl
  | c :: l, xs, h => by
    cases c <;> simp only [intsOf] at h <;> try cases h
    split at h <;> cases h
    rename_i n m hm
    simp [SC.den, intsOf_den hm]

theorem cmpK_sound {op : BinOp} {xs ys : List Int} {k : SV → Prop} (h : cmpK op xs ys k) (t : TypeId) {z : Nat}
    (hc : (∀ (op : BinOp) (x y : Operand) (xs ys : Array Value) (w : World), (eqGuard op t x y (.agg xs) (.agg ys)).run P w = .ok () w) ∧
      ∀ (l m : List Int) (w : World), l.length = z → m.length = z → (Op.equalIn 10000 t (.agg (l.map (Value.int .i64)).toArray) (.agg (m.map (Value.int .i64)).toArray)).run P w = .ok (l == m) w)
    (hx : xs.length = z) (hy : ys.length = z) (p q : Operand) (n : Nat) :
    ∃ v, (∀ w, ((do eqGuard op t p q (.agg (xs.map (Value.int .i64)).toArray) (.agg (ys.map (Value.int .i64)).toArray); binOp op t (.agg (xs.map (Value.int .i64)).toArray) (.agg (ys.map (Value.int .i64)).toArray) : Sem Value)).run P w = .ok (v.den β) w) ∧ v.lt n ∧ k v := by
  cases op <;> simp only [cmpK] at h <;> try exact h.elim
  · refine ⟨_, fun w => ?_, ?_, h⟩
    · rw [Sem.run_bind, hc.1, Result.andThen_ok, run_eql_struct, hc.2 xs ys w hx hy]; rfl
    · exact trivial
  · refine ⟨_, fun w => ?_, ?_, h⟩
    · rw [Sem.run_bind, hc.1, Result.andThen_ok, run_neq_struct, hc.2 xs ys w hx hy]; rfl
    · exact trivial

theorem equal_nil {t e : TypeId} (ht : P.underlying t = some (.slice e)) (a : Option Addr) (l c : Nat) (w : World) : (Op.equal t (.slice a l c) (.slice none 0 0)).run P w = .ok a.isNone w := by
  have key : ∀ d, (Op.equalIn (d + 1) t (.slice a l c) (.slice none 0 0)).run P w = .ok a.isNone w := by
    intro d; cases a <;> simp [Op.equalIn, run_underlying ht]
  exact key 9999

theorem wrap_u {n : Int} (h : 0 ≤ n ∧ n ≤ 18446744073709551615) : IntKind.u64.wrap n = n := by
  simp [IntKind.wrap, IntKind.bits, IntKind.signed]; omega

theorem nilK_sound {op : BinOp} {a : Option Addr} {l c : Nat} {pr : Prop} {k : SV → Prop} (h : nilK op pr k) (t e : TypeId) (ht : P.underlying t = some (.slice e)) (ha : a = none → pr) (p q : Operand) (n : Nat) :
    ∃ v, (∀ w, ((do eqGuard op t p q (.slice a l c) (.slice none 0 0); binOp op t (.slice a l c) (.slice none 0 0) : Sem Value)).run P w = .ok (v.den β) w) ∧ v.lt n ∧ k v := by
  have hg : ∀ o, eqGuard o t p q (.slice a l c) (.slice none 0 0) = pure () := by
    intro o; unfold eqGuard; cases o <;> rfl
  cases op <;> simp only [nilK] at h <;> try exact h.elim
  · refine ⟨_, fun w => ?_, ?_, h a.isNone (fun e => ha (Option.isNone_iff_eq_none.1 e))⟩
    · rw [hg, pure_bind]
      simp only [binOp]
      simp [equal_nil ht, SV.den, SA.den, SC.den]
    · exact trivial
  · refine ⟨_, fun w => ?_, ?_, h a.isNone (fun e => ha (Option.isNone_iff_eq_none.1 e))⟩
    · rw [hg, pure_bind]
      simp only [binOp]
      simp [equal_nil ht, SV.den, SA.den, SC.den]
    · exact trivial

theorem binOp_eql_bool (t : TypeId) (x y : Bool) : binOp .eql t (.bool x) (.bool y) = (do pure (.bool (← Op.equal t (.bool x) (.bool y)))) := rfl
theorem binOp_neq_bool (t : TypeId) (x y : Bool) : binOp .neq t (.bool x) (.bool y) = (do pure (.bool (!(← Op.equal t (.bool x) (.bool y))))) := rfl
theorem run_equal_bool {t : TypeId} (hu : P.underlying t = some .bool) (x y : Bool) : (Op.equal t (.bool x) (.bool y)).run P w = .ok (x == y) w := by
  unfold Op.equal Op.maxDepth
  rw [show (10000 : Nat) = 9999 + 1 from rfl, Op.equalIn]
  simp only [Sem.run_bind, run_underlying hu, Result.andThen_ok, Sem.run_pure]

theorem binB_sound {kd : Nat} {op : BinOp} {x y : Bool} {k : SV → Prop} (h : binB kd op x y k) (t : TypeId) (ht : kd = 2 → P.underlying t = some .bool) (p q : Operand) (n : Nat) :
    ∃ v, (∀ w, ((do eqGuard op t p q (.bool x) (.bool y); binOp op t (.bool x) (.bool y) : Sem Value)).run P w = .ok (v.den β) w) ∧ v.lt n ∧ k v := by
  unfold binB at h
  split at h
  · rename_i hk
    rw [nbeq, decide_eq_true_eq] at hk
    have hu := ht hk
    cases op <;> simp only at h <;> try exact h.elim
    case eql => exact ⟨.b (x == y), fun w => by simp only [eqGuard_at_bool, pure_bind, binOp_eql_bool, Sem.run_bind, run_equal_bool hu, Result.andThen_ok, Sem.run_pure]; rfl, trivial, h⟩
    case neq => exact ⟨.b (!(x == y)), fun w => by simp only [eqGuard_at_bool, pure_bind, binOp_neq_bool, Sem.run_bind, run_equal_bool hu, Result.andThen_ok, Sem.run_pure]; rfl, trivial, h⟩
  · exact h.elim

theorem binS_sound {op : BinOp} {x y : ByteArray} {k : SV → Prop} (h : binS op x y k) (t : TypeId) (p q : Operand) (n : Nat) :
    ∃ v, (∀ w, ((do eqGuard op t p q (.string x) (.string y); binOp op t (.string x) (.string y) : Sem Value)).run P w = .ok (v.den β) w) ∧ v.lt n ∧ k v := by
  cases op <;> simp only [binS] at h <;> try exact h.elim
  all_goals
    refine ⟨_, ?_, ?_, h⟩
    · intro w; simp only [eqGuard_at_string, pure_bind, binOp, Op.stringOp, Sem.run_pure]; rfl
    · exact trivial

end
end Go.Fw

/-
  The soundness of the quiet operations, joined.
-/
namespace Go.Fw
open Go

section
variable {P : Program} {ty : List (Nat × STy)} {β : Env} {Z : Nat → Prop} {fp : Nat → Nat → Prop} {s : S} {w : World} {N : Nat} {a : Act}

theorem q_slice (hty : TyOk P ty) (hf : FSat β s N a) {k : SV → Prop} {dst : Option Nat} {T : TypeId} {x : Operand} {lo hi mx : Option Operand} {type : TypeId} {pos : String}
    {after : Array Edge} {guard : Option (Nat × Bool)} (h : qOp ty (.slice T x lo hi mx) s k) : QOk P β s a ⟨dst, .slice T x lo hi mx, type, pos, after, guard⟩ k := by
  cases mx with
  | some m => exact h.elim
  | none =>
  simp only [qOp] at h
  split at h <;> try exact h.elim
  rename_i d id sz lo0 len cap hd hx
  split at h <;> try exact h.elim
  rename_i E ek by_ hsl
  split at h <;> try exact h.elim
  rename_i hsz
  rw [nbeq, decide_eq_true_eq] at hsz
  obtain ⟨l, h, hl⟩ := optI_sound hf _ _ _ h
  obtain ⟨u, h, hu⟩ := optI_sound hf _ _ _ h
  obtain ⟨⟨h0, h1, h2⟩, h⟩ := h
  obtain ⟨he, hlt⟩ := ev_den hf hx
  obtain ⟨hun, hE, _⟩ := (hty T d hd).sl _ _ _ hsl
  have hb : ∀ w, (Instr.sliceBounds true len cap (lo.map a.eval) (hi.map a.eval) none).run P w = .ok (l.toNat, u.toNat, cap) w := by
    intro w
    rcases hu with ⟨rfl, rfl⟩ | ⟨y, rfl, hy⟩ <;> rcases hl with ⟨rfl, rfl⟩ | ⟨z, rfl, hz⟩
    · simp [Instr.sliceBounds]
    · simp [Instr.sliceBounds, Instr.sliceBound, asIntOf, hz, if_pos (And.intro h0 h1)]
    · simp [Instr.sliceBounds, Instr.sliceBound, asIntOf, hy, if_pos (And.intro (Int.le_trans h0 h1) h2)]
    · have h1' : l ≤ (u.toNat : Int) := by omega
      have h3 : 0 ≤ u := Int.le_trans h0 h1
      simp only [Instr.sliceBounds, Instr.sliceBound, asIntOf, Option.map_some, hy, hz, pure_bind, if_pos (And.intro h3 h2), if_pos (And.intro h0 h1'), Sem.run_pure]
  have hrun : ∀ w, (execOp a.eval ⟨dst, .slice T x lo hi none, type, pos, after, guard⟩).run P w =
      .ok (.value (.slice (if cap = l.toNat then (β id).map (·.add (lo0 * sz)) else ((β id).map (·.add (lo0 * sz))).map (·.add (l.toNat * sz))) (u.toNat - l.toNat) (cap - l.toNat))) w := by
    intro w
    simp only [execOp, he, SV.den, SA.den, SC.den, Sem.run_bind, Instr.sliceAt, run_underlying hun, Result.andThen_ok, Instr.slice, Option.map_none, hb, hE, Sem.run_pure, hsz]
  rw [condP_iff] at h
  have hm : ∀ y : Addr, (y.add (lo0 * sz)).add (l.toNat * sz) = y.add ((lo0 + l.toNat) * sz) ∨ l.toNat * sz = 0 ∨ True := fun _ => .inr (.inr trivial)
  split at h
  · rename_i hc
    rw [decide_eq_true_eq] at hc
    refine QOk.mk (.c (.sl id sz (lo0 + l.toNat) (u - l).toNat (cap - l.toNat))) (fun w => ?_) hlt h
    rw [hrun, if_neg (by omega)]
    simp only [SV.den, SA.den, SC.den]
    congr 3
    · rw [Option.map_map]
      congr 1
      funext y
      simp only [Function.comp]
      have hss : ∀ (y : Addr) (m n : Nat), (y.add m).add n = y.add (m + n) := by
        intro y m n
        unfold Addr.add
        by_cases hm : m = 0
        · subst hm; simp
        · by_cases hn : n = 0
          · subst hn; simp
          · simp [hm, hn, Nat.add_assoc]
      rw [hss, Nat.add_mul]
    · omega
  · rename_i hc
    simp only [decide_eq_true_eq] at hc
    refine QOk.mk (.c (.sl id sz lo0 (u - l).toNat (cap - l.toNat))) (fun w => ?_) hlt h
    rw [hrun, if_pos (by omega)]
    simp only [SV.den, SA.den, SC.den]
    congr 3
    omega

theorem q_build (hty : TyOk P ty) (hf : FSat β s N a) {k : SV → Prop} {dst : Option Nat} {T : TypeId} {parts : Array (Nat × Operand)} {type : TypeId} {pos : String}
    {after : Array Edge} {guard : Option (Nat × Bool)} (h : qOp ty (.build T parts) s k) : QOk P β s a ⟨dst, .build T parts, type, pos, after, guard⟩ k := by
  simp only [qOp] at h
  split at h <;> try exact h.elim
  rename_i d hd
  split at h <;> try exact h.elim
  rename_i hagg
  have ht := hty T d hd
  obtain ⟨fields, hu, hfs⟩ := ht.str hagg
  have hz : ∀ c ∈ d.zero, SC.lt s.nx c := fun c hc => SC.lt_mono (Nat.zero_le _) (ht.zlt c hc)
  have hz0 : d.zero.map (SC.den fun _ => none) = d.zero.map (SC.den β) := SC.map_den_congr (n := 0) (fun id h => absurd h (by omega)) ht.zlt
  obtain ⟨l, hl, hll, hk⟩ := buildK_sound (β := β) hf d.offs (fun i => d.offs.toArray[i]?) (fun i p h => by simpa using h) _ _ _ hz h
  refine QOk.mk (.a (.agg l)) (fun w => ?_) hll hk
  have hb := ht.bt hagg (parts.map fun (i, x) => (i, a.eval x)).toList
  rw [hz0] at hb
  simp only [Array.toList_map] at hb
  rw [hl] at hb
  simp only [execOp, Sem.run_bind]
  rw [run_build w T _ _ (by simpa using hb)]
  rfl

def isLoad : Op → Bool
  | .load _ _ => true
  | .lookup _ _ _ _ => true
  | .entry _ => true
  | .call { callee := .builtin .len, .. } => true
  | _ => false

theorem findE_lk (kk vk : EK) (x : kk.ty) : ∀ (es : List (kk.ty × vk.ty × Nat)) (i : Nat), (findE kk vk x es i).map (·.2) = (lkM es x).map vk.val
  | [], i => rfl
  | (y, v, n) :: es, i => by
    simp only [findE, lkM]
    by_cases h : y = x
    · rw [if_pos h, if_pos h]; rfl
    · rw [if_neg h, if_neg h]; exact findE_lk kk vk x es (i + 1)

/-- A key as it stands in a slot. -/
theorem key_val {v : SV} {kk : EK} {cs : List SC} {key : kk.ty} (hc : cellsOf v = some cs) (hk : kk.ofSym cs = some key) (ha : eqB (isAggV v) kk.isAgg = true) : v.den β = kk.val key := by
  have hcells := ofSym_spec (β := β) hk
  cases v with
  | tup l => cases hc
  | a x =>
    cases x with
    | c c =>
      cases hc
      have hn : kk.isAgg = false := by
        cases h : kk.isAgg with
        | false => rfl
        | true => rw [h] at ha; cases ha
      simp only [List.map_cons, List.map_nil] at hcells
      show c.den β = kk.val key
      cases kk <;> first
        | (exact absurd hn (by decide))
        | (simp only [EK.cells, EK.sym, List.map_cons, List.map_nil, List.cons.injEq, and_true] at hcells; rw [hcells]; rfl)
    | agg l =>
      cases hc
      have hn : kk.isAgg = true := by
        cases h : kk.isAgg with
        | true => rfl
        | false => rw [h] at ha; cases ha
      show Value.agg (cs.map (SC.den β)).toArray = kk.val key
      rw [hcells]
      cases kk <;> first | (exact absurd hn (by decide)) | rfl

theorem run_getObj_at {b : Nat} {o : Obj} (h : w.heap[b]? = some o) (hc : ∀ x y z, o ≠ .cells x y z) : (getObj b).run P w = .ok o w := by
  cases o <;> first | (exact absurd rfl (hc _ _ _)) | simp [getObj, Sem.run, h]

theorem map_at (hs : HSat β Z fp s w) {id clk : Nat} {kk vk : EK} {es : List (kk.ty × vk.ty × Nat)} (h : look s.hp id = some (.map kk vk es clk)) :
    ∃ b, β id = some ⟨b, 0, none⟩ ∧ fp id b ∧ w.heap[b]? = some (.map (es.map (ent kk vk)).toArray clk) := hs.obj id _ h

theorem q_lookup (hty : TyOk P ty) (hs : HSat β Z fp s w) (hf : FSat β s N a) {k : SV → Prop} {dst : Option Nat} {T : TypeId} {x ix : Operand} {ok : Bool} {type : TypeId} {pos : String}
    {after : Array Edge} {guard : Option (Nat × Bool)} (h : qOp ty (.lookup T x ix ok) s k) : QOkW P β s w a ⟨dst, .lookup T x ix ok, type, pos, after, guard⟩ k := by
  simp only [qOp] at h
  split at h <;> try exact h.elim
  rename_i d id kv hd hx hi
  split at h <;> try exact h.elim
  rename_i kt kk vt vk kk0 vk0 es clk cs hmp hl hcs
  split at h <;> try exact h.elim
  rename_i key hk hb1 hb2 hag
  have e1 := EK.beq_eq hb1
  have e2 := EK.beq_eq hb2
  subst e1 e2
  rw [forceA_iff] at h
  obtain ⟨hex, _⟩ := ev_den hf hx
  obtain ⟨hei, _⟩ := ev_den hf hi
  obtain ⟨b, hb, _, hh⟩ := map_at hs hl
  have hm := (hty T d hd).mp _ _ _ _ hmp
  have hkv := key_val (β := β) hcs hk hag
  have hlk := findE_lk kk0 vk0 key es 0
  have hfk := hm.fk key es w
  have hrun : (Instr.lookup T (.map (some b)) (kk0.val key) ok).run P w = .ok (if ok then .tuple #[vk0.val ((lkM es key).getD vk0.dflt), .bool (lkM es key).isSome] else vk0.val ((lkM es key).getD vk0.dflt)) w := by
    unfold Instr.lookup
    simp only [Sem.run_bind, run_underlying hm.ty, Result.andThen_ok, run_getObj_at hh (by intro _ _ _ e; cases e), Sem.run_pure, hm.ck, hfk]
    cases hfe : findE kk0 vk0 key es 0 with
    | none =>
      rw [hfe] at hlk
      have hn : lkM es key = none := by cases hq : lkM es key with
        | none => rfl
        | some q => rw [hq] at hlk; cases hlk
      simp only [Sem.run_bind, hm.zv, Result.andThen_ok, Sem.run_pure, hn]
      cases ok <;> rfl
    | some p =>
      obtain ⟨i, v⟩ := p
      rw [hfe] at hlk
      cases hq : lkM es key with
      | none => rw [hq] at hlk; cases hlk
      | some q =>
        rw [hq] at hlk
        simp only [Option.map_some, Option.some.injEq] at hlk
        simp only [Sem.run_pure, Result.andThen_ok, hlk]
        cases ok <;> rfl
  have hmap : a.eval x = .map (some b) := by rw [hex]; simp [SV.den, SA.den, SC.den, hb]
  cases ok with
  | true =>
    refine QOkW.mk (.tup [vk0.symA ((lkM es key).getD vk0.dflt), .c (.b (lkM es key).isSome)]) ?_ ?_ h
    · simp only [execOp, hmap, hei, hkv, Sem.run_bind, hrun, Result.andThen_ok, Sem.run_pure]
      simp [SV.den, EK.symA_den]; rfl
    · intro c hc
      simp only [List.mem_cons, List.not_mem_nil, or_false] at hc
      rcases hc with rfl | rfl
      · exact EK.symA_lt _ _ _
      · trivial
  | false =>
    refine QOkW.mk (.a (vk0.symA ((lkM es key).getD vk0.dflt))) ?_ (EK.symA_lt _ _ _) h
    simp only [execOp, hmap, hei, hkv, Sem.run_bind, hrun, Result.andThen_ok, Sem.run_pure]
    simp [SV.den, EK.symA_den]

theorem q_entry (hs : HSat β Z fp s w) (hf : FSat β s N a) {k : SV → Prop} {dst : Option Nat} {x : Operand} {type : TypeId} {pos : String}
    {after : Array Edge} {guard : Option (Nat × Bool)} (h : qOp ty (.entry x) s k) : QOkW P β s w a ⟨dst, .entry x, type, pos, after, guard⟩ k := by
  simp only [qOp] at h
  split at h <;> try exact h.elim
  rename_i it hx
  split at h <;> try exact h.elim
  rename_i mid since seen last cur hl
  split at h <;> try exact h.elim
  rename_i kk vk es clk hl2
  obtain ⟨⟨hbo, rfl, hcur, hlast⟩, h⟩ := h
  have h := h hcur
  rw [forceA_iff, forceA_iff] at h
  obtain ⟨hex, _⟩ := ev_den hf hx
  obtain ⟨b, r, hb, _, hr, hh⟩ : ∃ b r, β it = some ⟨b, 0, none⟩ ∧ fp it b ∧ β mid = some ⟨r, 0, none⟩ ∧ w.heap[b]? = some (.mapIter (some r) since seen.toArray last) := hs.obj it _ hl
  obtain ⟨r', hr', _, hh2⟩ := map_at hs hl2
  rw [hr] at hr'
  cases hr'
  refine QOkW.mk (.tup [kk.symA es[cur].1, vk.symA es[cur].2.1]) ?_ ?_ h
  · obtain ⟨seen', hsn⟩ : ∃ l, seen = l ++ [es[cur].2.2] := by
      refine ⟨seen.dropLast, ?_⟩
      have hne : seen ≠ [] := by intro e; rw [e] at hlast; cases hlast
      rw [List.getLast?_eq_some_getLast hne] at hlast
      have := List.dropLast_concat_getLast hne
      rw [Option.some.inj hlast] at this
      exact this.symm
    have hrun := run_entry_at (P := P) w b r since seen'.toArray (es.map (ent kk vk)).toArray last (ent kk vk es[cur]) (by rw [hh, hsn]; simp [ent]) hh2 (List.mem_map.2 ⟨es[cur], List.getElem_mem hcur, rfl⟩) (by
      have e1 : ((es.map (ent kk vk)).toArray.toList.map (·.born)) = es.map (·.2.2) := by simp [ent]
      rw [e1]; exact hbo.1)
    have hp : a.eval x = .pointer (some ⟨b, 0, none⟩) := by rw [hex]; simp [SV.den, SA.den, SC.den, hb, Addr.add_lit]
    simp only [execOp, hp, Sem.run_bind, hrun, Result.andThen_ok, Sem.run_pure]
    simp [SV.den, EK.symA_den, ent]
  · intro c hc
    simp only [List.mem_cons, List.not_mem_nil, or_false] at hc
    rcases hc with rfl | rfl
    · exact EK.symA_lt _ _ _
    · exact EK.symA_lt _ _ _

theorem qOp_still (hty : TyOk P ty) (hs : BSat β s) (hf : FSat β s N a) {k : SV → Prop} {o : Oper} (hl : isLoad o.op = false) (h : qOp ty o.op s k) : QOk P β s a o k := by
  obtain ⟨dst, op, type, pos, after, guard⟩ := o
  cases op <;> try exact h.elim
  case move x =>
    simp only [qOp] at h
    split at h <;> try exact h.elim
    rename_i v hx
    obtain ⟨he, hlt⟩ := ev_den hf hx
    exact QOk.mk v (fun w => by simp [execOp, he]) hlt h
  case assign x =>
    simp only [qOp] at h
    split at h <;> try exact h.elim
    rename_i v hx
    obtain ⟨he, hlt⟩ := ev_den hf hx
    exact QOk.mk v (fun w => by simp [execOp, he]) hlt h
  case pick c x y =>
    simp only [qOp] at h
    split at h <;> try exact h.elim
    rename_i b v u hc hx hy
    obtain ⟨hec, _⟩ := ev_den hf hc
    obtain ⟨hex, hltx⟩ := ev_den hf hx
    obtain ⟨hey, hlty⟩ := ev_den hf hy
    rw [condP_iff] at h
    cases b with
    | true => exact QOk.mk v (fun w => by simp [execOp, hec, hex, SV.den, SA.den, SC.den, asBool]) hltx (by simpa using h)
    | false => exact QOk.mk u (fun w => by simp [execOp, hec, hey, SV.den, SA.den, SC.den, asBool]) hlty (by simpa using h)
  case fieldAddr T x f => exact q_fieldAddr hty hs hf h
  case load T x => cases hl
  case lookup => cases hl
  case entry => cases hl
  case indexAddr T x ix => exact q_index hty hs hf h
  case slice T x lo hi mx => exact q_slice hty hf h
  case build T parts => exact q_build hty hf h
  case nilCheck x =>
    simp only [qOp] at h
    split at h <;> try exact h.elim
    · rename_i id off hx
      split at h <;> try exact h.elim
      rename_i T cs hl
      obtain ⟨he, hlt⟩ := ev_den hf hx
      obtain ⟨b, hb⟩ := hs.box _ _ _ hl
      exact QOk.mk (.c (.ptr id off)) (fun w => by simp [execOp, he, SV.den, SA.den, SC.den, hb]) hlt h
    · rename_i id sz i off hx
      split at h <;> try exact h.elim
      rename_i own E ek xs sp hl
      obtain ⟨hi, h⟩ := h
      obtain ⟨he, hlt⟩ := ev_den hf hx
      obtain ⟨x', hb, hsp⟩ := hs.arr _ _ _ _ _ _ _ hl hi
      exact QOk.mk (.c (.elt id sz i off)) (fun w => by simp [execOp, he, SV.den, SA.den, SC.den, hb]) hlt h
    · rename_i f c hx
      obtain ⟨he, hlt⟩ := ev_den hf hx
      exact QOk.mk (.c (.fn f c)) (fun w => by simp [execOp, he, SV.den, SA.den, SC.den]) hlt h
    · rename_i f c hx
      obtain ⟨he, hlt⟩ := ev_den hf hx
      exact QOk.mk (.c (.fnv f c)) (fun w => by simp [execOp, he, SV.den, SA.den, SC.den]) hlt h
    · rename_i q hx
      obtain ⟨hq, h⟩ := h
      obtain ⟨he, hlt⟩ := ev_den hf hx
      cases q with
      | none => cases hq
      | some y => exact QOk.mk (.c (.q (some y))) (fun w => by simp [execOp, he, SV.den, SA.den, SC.den]) hlt h
  case binOp op T x y yt =>
    simp only [qOp] at h
    split at h <;> try exact h.elim
    · rename_i p q hx hy
      obtain ⟨hex, _⟩ := ev_den hf hx
      obtain ⟨hey, _⟩ := ev_den hf hy
      obtain ⟨v, hv, hl, hk⟩ := binI_sound (P := P) (β := β) h T x y s.nx
      refine QOk.mk v (fun w => ?_) hl hk
      have hv := hv w
      simp only [execOp, hex, hey, SV.den, SA.den, SC.den, Sem.run_bind] at hv ⊢
      rw [hv]; rfl
    · rename_i p q hx hy
      split at h <;> try exact h.elim
      rename_i d hd
      obtain ⟨hex, _⟩ := ev_den hf hx
      obtain ⟨hey, _⟩ := ev_den hf hy
      obtain ⟨v, hv, hl, hk⟩ := binB_sound (P := P) (β := β) h T (hty T d hd).kd2 x y s.nx
      refine QOk.mk v (fun w => ?_) hl hk
      have hv := hv w
      simp only [execOp, hex, hey, SV.den, SA.den, SC.den, Sem.run_bind] at hv ⊢
      rw [hv]; rfl
    · rename_i p q hx hy
      obtain ⟨hex, _⟩ := ev_den hf hx
      obtain ⟨hey, _⟩ := ev_den hf hy
      obtain ⟨v, hv, hl, hk⟩ := binS_sound (P := P) (β := β) h T x y s.nx
      refine QOk.mk v (fun w => ?_) hl hk
      have hv := hv w
      simp only [execOp, hex, hey, SV.den, SA.den, SC.den, Sem.run_bind] at hv ⊢
      rw [hv]; rfl
    · rename_i p q hx hy
      obtain ⟨hex, _⟩ := ev_den hf hx
      obtain ⟨hey, _⟩ := ev_den hf hy
      obtain ⟨v, hv, hl, hk⟩ := binU_sound (P := P) (β := β) h T x y s.nx
      refine QOk.mk v (fun w => ?_) hl hk
      have hv := hv w
      simp only [execOp, hex, hey, SV.den, SA.den, SC.den, Sem.run_bind] at hv ⊢
      rw [hv]; rfl
    · rename_i l m hx hy
      split at h <;> try exact h.elim
      rename_i d hd
      split at h <;> try exact h.elim
      rename_i xs ys hk hxs hys
      split at h <;> try exact h.elim
      rename_i h1 h2
      rw [nbeq, decide_eq_true_eq] at hk h1 h2
      rw [lenN_eq, lenN_eq] at h1 h2
      obtain ⟨hex, _⟩ := ev_den hf hx
      obtain ⟨hey, _⟩ := ev_den hf hy
      obtain ⟨v, hv, hl, hk⟩ := cmpK_sound (P := P) (β := β) h T ((hty T d hd).cmp hk) h1 h2 x y s.nx
      refine QOk.mk v (fun w => ?_) hl hk
      have hv := hv w
      rw [← intsOf_den (β := β) hxs, ← intsOf_den (β := β) hys] at hv
      simp only [execOp, hex, hey, SV.den, SA.den, SC.den, Sem.run_bind] at hv ⊢
      rw [hv]; rfl
    · rename_i id sz lo len cap hx hy
      split at h <;> try exact h.elim
      rename_i d own E ek xs sp hd hl
      split at h <;> try exact h.elim
      rename_i q hq
      obtain ⟨E', ek', by_⟩ := q
      obtain ⟨hex, _⟩ := ev_den hf hx
      obtain ⟨hey, _⟩ := ev_den hf hy
      obtain ⟨hu, _⟩ := (hty _ _ hd).sl _ _ _ hq
      obtain ⟨v, hv, hl, hk⟩ := nilK_sound (P := P) (β := β) (a := (β id).map (·.add (lo * sz))) (l := len) (c := cap) h T E' hu (by
        intro e
        cases xs with
        | nil => rfl
        | cons x xs =>
          obtain ⟨y, hy, _⟩ := hs.arr _ _ _ _ _ _ 0 hl (by simp)
          rw [hy] at e; cases e) x y s.nx
      refine QOk.mk v (fun w => ?_) hl hk
      have hv := hv w
      simp only [execOp, hex, hey, SV.den, SA.den, SC.den, Sem.run_bind] at hv ⊢
      rw [hv]; rfl
  case unOp op T x =>
    cases op <;> try exact h.elim
    case not =>
      simp only [qOp] at h
      split at h <;> try exact h.elim
      rename_i c hx
      obtain ⟨he, _⟩ := ev_den hf hx
      exact QOk.mk (.b (!c)) (fun w => by simp [execOp, he, SV.den, SA.den, SC.den, Op.unary]) trivial h
    case neg =>
      simp only [qOp] at h
      split at h <;> try exact h.elim
      rename_i n hx
      obtain ⟨he, _⟩ := ev_den hf hx
      exact QOk.mk (.i (0 - n)) (fun w => by simp only [execOp, he, SV.den, SA.den, SC.den, Op.unary, Op.intArith, Sem.run_bind, Sem.run_pure, wrap_in h.ob, Result.andThen_ok]) trivial h.go
  case convert src dst' x =>
    have key : ∀ (kd kd' : Nat) (q q' : IntKind) (n : Int) (d e : STy), a.eval x = .int q n → look ty src = some d → look ty dst' = some e → P.underlying src = some (.int q) → P.underlying dst' = some (.int q') →
        ∀ w, (execOp a.eval ⟨dst, .convert src dst' x, type, pos, after, guard⟩).run P w = .ok (.value (.int q' (q'.wrap n))) w := by
      intro kd kd' q q' n d e he hd he' hu1 hu2 w
      simp only [execOp, he, Sem.run_bind]
      rw [run_convert_int w src dst' q n (by simp [hu1]) (by simp [hu2, Program.intKind])]
      simp [Program.intKind, hu2]
    have wu : ∀ n : Int, 0 ≤ n ∧ n ≤ 18446744073709551615 → IntKind.u64.wrap n = n := fun n hn => wrap_u hn
    simp only [qOp] at h
    split at h <;> try exact h.elim
    · rename_i n d e hx hd he'
      obtain ⟨he, _⟩ := ev_den hf hx
      split at h <;> try exact h.elim
      · rename_i h1 h2
        rw [nbeq, decide_eq_true_eq] at h1 h2
        refine QOk.mk (.i n) (fun w => ?_) trivial h.go
        rw [key 1 1 .i64 .i64 n d e he hd he' ((hty _ _ hd).kd1 h1) ((hty _ _ he').kd1 h2) w, wrap_in h.ob]; rfl
      · rename_i h1 _
        split at h <;> try exact h.elim
        rename_i h2
        rw [nbeq, decide_eq_true_eq] at h1 h2
        refine QOk.mk (.c (.u n)) (fun w => ?_) trivial h.go
        rw [key 1 1 .i64 .u64 n d e he hd he' ((hty _ _ hd).kd1 h1) ((hty _ _ he').kd4 h2) w, wu n h.ob]; rfl
    · rename_i n d e hx hd he'
      obtain ⟨he, _⟩ := ev_den hf hx
      split at h <;> try exact h.elim
      · rename_i h1 h2
        rw [nbeq, decide_eq_true_eq] at h1 h2
        refine QOk.mk (.i n) (fun w => ?_) trivial h.go
        rw [key 1 1 .u64 .i64 n d e he hd he' ((hty _ _ hd).kd4 h1) ((hty _ _ he').kd1 h2) w, wrap_in h.ob]; rfl
      · rename_i h1 _
        split at h <;> try exact h.elim
        rename_i h2
        rw [nbeq, decide_eq_true_eq] at h1 h2
        refine QOk.mk (.c (.u n)) (fun w => ?_) trivial h.go
        rw [key 1 1 .u64 .u64 n d e he hd he' ((hty _ _ hd).kd4 h1) ((hty _ _ he').kd4 h2) w, wu n h.ob]; rfl
  case extract x i =>
    simp only [qOp] at h
    split at h <;> try exact h.elim
    rename_i l hx
    split at h <;> try exact h.elim
    rename_i v hv
    obtain ⟨he, hlt⟩ := ev_den hf hx
    rw [nthN_eq] at hv
    refine QOk.mk (.a v) (fun w => ?_) (hlt v (List.mem_of_getElem? hv)) h
    simp [execOp, he, SV.den, Instr.extract, hv]
  case makeFunc fn first caps =>
    cases fn <;> try exact h.elim
    rename_i f
    simp only [qOp] at h
    split at h <;> try exact h.elim
    rename_i hfirst
    obtain ⟨r, hr, hrl, hk⟩ := capsK_sound (β := β) hf _ _ h
    refine QOk.mk (.c (.fn f r)) (fun w => ?_) hrl hk
    have h1 : first.map a.eval = #[] := by apply Array.ext'; simp [hfirst]
    have h2 : caps.map a.eval = (r.map (fun p => Value.pointer ((β p.1).map (·.add p.2)))).toArray := by apply Array.ext'; simp [← hr]
    simp [execOp, Instr.makeFunc, h1, h2, SV.den, SA.den, SC.den]
  case call c =>
    obtain ⟨callee, args, argTypes⟩ := c
    cases callee <;> try exact h.elim
    rename_i bi
    cases bi <;> first | exact h.elim | cases hl

theorem q_len (hty : TyOk P ty) (hs : HSat β Z fp s w) (hf : FSat β s N a) {k : SV → Prop} {dst : Option Nat} {args : Array Operand} {argTypes : Array TypeId} {type : TypeId} {pos : String}
    {after : Array Edge} {guard : Option (Nat × Bool)} (h : qOp ty (.call ⟨.builtin .len, args, argTypes⟩) s k) : QOkW P β s w a ⟨dst, .call ⟨.builtin .len, args, argTypes⟩, type, pos, after, guard⟩ k := by
    simp only [qOp] at h
    split at h <;> try exact h.elim
    rename_i x t h1 h2
    have ha : args = #[x] := by apply Array.ext'; simp [h1]
    have hat : argTypes = #[t] := by apply Array.ext'; simp [h2]
    subst ha hat
    split at h <;> try exact h.elim
    · rename_i id sz lo n cap d hx hd
      split at h <;> try exact h.elim
      rename_i q hq
      obtain ⟨E, ek, by_⟩ := q
      obtain ⟨he, _⟩ := ev_den hf hx
      obtain ⟨hu, _⟩ := (hty _ _ hd).sl _ _ _ hq
      refine QOkW.mk (.i n) ?_ trivial h
      simp [execOp, resolve, invoke, builtin, he, SV.den, SA.den, SC.den, Builtin.len_, run_underlying hu, goInt]
    · rename_i d hx hd
      split at h <;> try exact h.elim
      rename_i q hq
      obtain ⟨E, ek, by_⟩ := q
      obtain ⟨he, _⟩ := ev_den hf hx
      obtain ⟨hu, _⟩ := (hty _ _ hd).sl _ _ _ hq
      refine QOkW.mk (.i 0) ?_ trivial h
      simp [execOp, resolve, invoke, builtin, he, SV.den, SA.den, SC.den, Builtin.len_, run_underlying hu, goInt]
    · rename_i hd0 d hx hd
      split at h <;> try exact h.elim
      rename_i q hq
      obtain ⟨E, ek, by_⟩ := q
      obtain ⟨he, _⟩ := ev_den hf hx
      obtain ⟨hu, _⟩ := (hty _ _ hd).sl _ _ _ hq
      refine QOkW.mk (.i hd0.n) ?_ trivial h
      simp [execOp, resolve, invoke, builtin, he, SV.den, SA.den, SC.den, Builtin.len_, run_underlying hu, goInt]
    · rename_i id d hx hd
      split at h <;> try exact h.elim
      rename_i q kk vk es clk hmp hl
      obtain ⟨kt, kk', vt, vk'⟩ := q
      obtain ⟨he, _⟩ := ev_den hf hx
      obtain ⟨b, hb, _, hh⟩ := map_at hs hl
      have hm := (hty _ _ hd).mp _ _ _ _ hmp
      refine QOkW.mk (.i es.length) ?_ trivial h
      simp [execOp, resolve, invoke, builtin, he, SV.den, SA.den, SC.den, hb, Builtin.len_, run_underlying hm.ty, goInt, run_getObj_at hh (by intro _ _ _ e; cases e)]
    · rename_i b d hx hd
      split at h <;> try exact h.elim
      rename_i hk
      rw [nbeq, decide_eq_true_eq] at hk
      obtain ⟨he, _⟩ := ev_den hf hx
      have hu := (hty _ _ hd).kd3 hk
      refine QOkW.mk (.i b.size) ?_ trivial h
      simp [execOp, resolve, invoke, builtin, he, SV.den, SA.den, SC.den, Builtin.len_, run_underlying hu, goInt]

theorem qOp_sound (hty : TyOk P ty) (hs : HSat β Z fp s w) (hf : FSat β s N a) {k : SV → Prop} {o : Oper} (h : qOp ty o.op s k) : QOkW P β s w a o k := by
  cases hl : isLoad o.op with
  | false => obtain ⟨v, h1, h2, h3⟩ := qOp_still hty hs.b hf hl h; exact ⟨v, h1 w, h2, h3⟩
  | true =>
    obtain ⟨dst, op, type, pos, after, guard⟩ := o
    cases op <;> first
      | exact q_load hty hs hf h
      | exact q_lookup hty hs hf h
      | exact q_entry hs hf h
      | (cases hl; done)
      | skip
    rename_i c
    obtain ⟨callee, args, argTypes⟩ := c
    cases callee <;> first | (cases hl; done) | skip
    rename_i bi
    cases bi <;> first | exact q_len hty hs hf h | (cases hl; done)

end
end Go.Fw

/-
  Operations that make or write memory: definitions, and the laws of the symbolic heap.
-/
namespace Go.Fw
open Go

def delK {α : Type} : List (Nat × α) → Nat → List (Nat × α)
  | [], _ => []
  | (t, v) :: l, u => match Nat.beq t u with
    | true => delK l u
    | false => (t, v) :: delK l u

def delC {α : Type} : List (Nat × α) → Nat → (List (Nat × α) → Prop) → Prop
  | [], _, k => k []
  | (t, v) :: l, u, k => match Nat.beq t u with
    | true => delC l u k
    | false => delC l u fun l' => k ((t, v) :: l')

theorem delC_iff {α : Type} (l : List (Nat × α)) (u : Nat) (k : List (Nat × α) → Prop) : delC l u k ↔ k (delK l u) := by
  induction l generalizing k with
  | nil => exact Iff.rfl
  | cons p l ih =>
    obtain ⟨t, v⟩ := p
    simp only [delC, delK]
    split <;> exact ih _

theorem look_delK {α : Type} (l : List (Nat × α)) (u id : Nat) : look (delK l u) id = if u = id then none else look l id := by
  induction l with
  | nil => simp [delK, look]
  | cons p l ih =>
    obtain ⟨t, v⟩ := p
    simp only [delK, nbeq]
    by_cases h : t = u
    · subst h
      simp only [decide_true, ih, look_cons]
      by_cases hu : t = id <;> simp [hu]
    · simp only [h, decide_false, look_cons, ih]
      by_cases hu : t = id
      · subst hu
        simp [Ne.symm h]
      · simp [hu]

/-- What lies behind a slice, told. -/
def elemsK (ek : EK) (fr : List (Nat × SV)) : Nat → List (Nat × Operand) → (List ek.ty → Prop) → Prop
  | _, [], k => k []
  | n, (i, x) :: r, k => match Nat.beq i n, ev fr x with
    | true, some v => match cellsOf v with
      | some cs => match ek.ofSym cs with
        | some e => elemsK ek fr (n + 1) r fun l => k (e :: l)
        | none => False
      | none => False
    | _, _ => False

/-- A slice's elements, as a list. -/
def sub {α : Type} (xs : List α) (lo n : Nat) : List α := (xs.drop lo).take n

structure Ext (Z : Nat → Prop) (w w' : World) : Prop where
  os : w'.os = w.os
  tape : w'.tape = w.tape
  output : w'.output = w.output
  size : w.heap.size ≤ w'.heap.size
  block : ∀ b, Z b → w'.heap[b]? = w.heap[b]?

theorem Ext.refl (Z : Nat → Prop) (w : World) : Ext Z w w := ⟨rfl, rfl, rfl, Nat.le_refl _, fun _ _ => rfl⟩
theorem Ext.trans {Z Z' : Nat → Prop} {w w' w'' : World} (h : Ext Z w w') (h' : Ext Z' w' w'') (hz : ∀ b, Z b → Z' b) : Ext Z w w'' :=
  ⟨h'.os.trans h.os, h'.tape.trans h.tape, h'.output.trans h.output, Nat.le_trans h.size h'.size, fun b hb => (h'.block b (hz b hb)).trans (h.block b hb)⟩
theorem Ext.mono {Z Z' : Nat → Prop} {w w' : World} (h : Ext Z w w') (hz : ∀ b, Z' b → Z b) : Ext Z' w w' :=
  ⟨h.os, h.tape, h.output, h.size, fun b hb => h.block b (hz b hb)⟩

theorem SO.ok_mono {β γ : Env} {Z Z' fp : Nat → Prop} {w w' : World} {oa : Option Addr} {o : SO} {n : Nat} (h : o.ok β Z fp w oa) (hlt : o.lt n)
    (hβ : ∀ id, id < n → γ id = β id) (hZ : ∀ b, Z b → Z' b) (hw : ∀ b, Z b ∨ fp b → w'.heap[b]? = w.heap[b]?) (hs : w.heap.size ≤ w'.heap.size) : o.ok γ Z' fp w' oa := by
  cases o with
  | box T cs =>
    obtain ⟨b, h1, h2, h3⟩ := h
    exact ⟨b, h1, h2, by rw [hw b (.inr h2), h3, SC.map_den_congr hβ hlt]⟩
  | arr own E k xs sp =>
    cases oa with
    | none => exact h
    | some a =>
      cases own with
      | true =>
        obtain ⟨h1, h2, pre, post, h3, h4, h5⟩ := h
        exact ⟨h1, h2, pre, post, by rw [hw _ (.inr h2), h3], h4, h5⟩
      | false =>
        intro hne
        obtain ⟨h1, h2, h3, h4⟩ := h hne
        refine ⟨h1, hZ _ h2, by omega, fun j v hj => ?_⟩
        have := h4 j v hj
        obtain ⟨b, o, spt⟩ := a
        cases h1
        rw [Addr.add_lit] at this ⊢
        simp only [World.cell?] at this ⊢
        rw [hw _ (.inl h2)]
        exact this
  | pool E k m => exact ⟨fun a xs sp hl => by
      obtain ⟨h1, h2, pre, post, h3, h4, h5⟩ := h.row a xs sp hl
      exact ⟨h1, h2, pre, post, by rw [hw _ (.inr h2), h3], h4, h5⟩, h.one⟩
  | map kk vk es clk =>
    obtain ⟨b, h1, h2, h3⟩ := h
    exact ⟨b, h1, h2, by rw [hw _ (.inr h2), h3]⟩
  | iter mid since seen last cur =>
    obtain ⟨b, r, h1, h2, h3, h4⟩ := h
    exact ⟨b, r, h1, h2, (hβ mid hlt).trans h3, by rw [hw _ (.inr h2), h4]⟩
  | gen A => exact ⟨h.2 _ _ hZ hw, fun Z'' w'' hz hw' => h.2 Z'' w'' (fun b hb => hz b (hZ b hb)) fun b hb => by
      rcases hb with hb | hb
      · rw [hw' b (.inl (hZ b hb)), hw b (.inl hb)]
      · rw [hw' b (.inr hb), hw b (.inr hb)]⟩

section
variable {β : Env} {Z : Nat → Prop} {fp : Nat → Nat → Prop} {s : S} {w : World}

/-- An object is put in the place of one, its block alone having changed. -/
theorem HSat.put (hs : HSat β Z fp s w) {id : Nat} {o o' : SO} (hl : look s.hp id = some o) {w' : World} (hw : ∀ b, ¬ fp id b → w'.heap[b]? = w.heap[b]?) (hsz : w'.heap.size = w.heap.size)
    (ho : o'.ok β Z (fp id) w' (β id)) (hlt : o'.lt s.nx) : HSat β Z fp ⟨s.fr, upd s.hp id o', s.nx⟩ w' := by
  have hlook : ∀ id' o'', look (upd s.hp id o') id' = some o'' → (id = id' ∧ o'' = o') ∨ (id ≠ id' ∧ look s.hp id' = some o'') := by
    intro id' o'' h
    rw [look_upd] at h
    split at h
    · rename_i e; exact .inl ⟨e, by cases h; rfl⟩
    · rename_i e; exact .inr ⟨e, h⟩
  refine ⟨fun b hb => by rw [hsz]; exact hs.zlt b hb, ?_, ?_, ?_, ?_⟩
  · intro id' o'' h b hb
    rw [hsz]
    rcases hlook _ _ h with ⟨rfl, _⟩ | ⟨_, h'⟩
    · exact hs.flt _ _ hl b hb
    · exact hs.flt _ _ h' b hb
  · intro i j oi oj hi hj hij b hb
    have : ∀ x ox, look (upd s.hp id o') x = some ox → ∃ oy, look s.hp x = some oy := by
      intro x ox hx
      rcases hlook _ _ hx with ⟨rfl, _⟩ | ⟨_, h'⟩
      · exact ⟨_, hl⟩
      · exact ⟨_, h'⟩
    obtain ⟨oi', hi'⟩ := this _ _ hi
    obtain ⟨oj', hj'⟩ := this _ _ hj
    exact hs.sep i j _ _ hi' hj' hij b hb
  · intro id' o'' h
    rcases hlook _ _ h with ⟨rfl, rfl⟩ | ⟨hne, h'⟩
    · exact ho
    · refine SO.ok_mono (hs.obj _ _ h') (hs.lto _ _ h').2 (fun _ _ => rfl) (fun _ h => h) ?_ (by omega)
      intro b hb
      refine hw b fun hf => ?_
      rcases hb with hb | hb
      · exact (hs.flt _ _ hl b hf).2 hb
      · exact hs.sep id id' _ _ hl h' hne b hf hb
  · intro id' o'' h
    rcases hlook _ _ h with ⟨rfl, rfl⟩ | ⟨hne, h'⟩
    · exact ⟨(hs.lto _ _ hl).1, hlt⟩
    · exact hs.lto _ _ h'

theorem heap_alloc_lt {o : Obj} {b : Nat} (h : b < w.heap.size) : (w.alloc o).heap[b]? = w.heap[b]? := by
  simp only [World.alloc, Array.getElem?_push]
  rw [if_neg (by omega)]
theorem heap_alloc_at (o : Obj) : (w.alloc o).heap[w.heap.size]? = some o := by
  show (w.heap.push o)[w.heap.size]? = some o
  simp

/-- The environment with a new object. -/
def Env.add (β : Env) (n : Nat) (x : Option Addr) : Env := fun i => if i = n then x else β i
theorem Env.add_lt {β : Env} {n : Nat} {x : Option Addr} : ∀ id, id < n → β.add n x id = β id := by
  intro id h
  simp [Env.add]; omega
theorem Env.add_at {β : Env} {n : Nat} {x : Option Addr} : β.add n x n = x := by simp [Env.add]

/-- A new object, in a world that has kept all that the others speak of. -/
theorem HSat.add (hs : HSat β Z fp s w) {o : SO} {w' : World} {x : Option Addr} {q : Nat → Prop} (hw : ∀ b, b < w.heap.size → w'.heap[b]? = w.heap[b]?) (hsz : w.heap.size ≤ w'.heap.size)
    (hq : ∀ b, q b → w.heap.size ≤ b ∧ b < w'.heap.size) (ho : o.ok (β.add s.nx x) Z q w' x) (hlt : o.lt s.nx) :
    HSat (β.add s.nx x) Z (fun i => if i = s.nx then q else fp i) ⟨s.fr, (s.nx, o) :: s.hp, s.nx + 1⟩ w' := by
  have hne : ∀ id o', look s.hp id = some o' → id ≠ s.nx := fun id o' h e => by have := (hs.lto _ _ h).1; omega
  have hlook : ∀ id' o'', look ((s.nx, o) :: s.hp) id' = some o'' → (id' = s.nx ∧ o'' = o) ∨ (id' ≠ s.nx ∧ look s.hp id' = some o'') := by
    intro id' o'' h
    rw [look_cons] at h
    split at h
    · rename_i e; exact .inl ⟨e.symm, by cases h; rfl⟩
    · rename_i e; exact .inr ⟨fun e' => e e'.symm, h⟩
  refine ⟨fun b hb => Nat.lt_of_lt_of_le (hs.zlt b hb) hsz, ?_, ?_, ?_, ?_⟩
  · intro id' o'' h b hb
    rcases hlook _ _ h with ⟨rfl, rfl⟩ | ⟨h1, h'⟩
    · simp only [if_true] at hb
      have := hq b hb
      exact ⟨this.2, fun hz => by have := hs.zlt b hz; omega⟩
    · simp only [if_neg h1] at hb
      have := hs.flt _ _ h' b hb
      exact ⟨by omega, this.2⟩
  · intro i j oi oj hi hj hij b hb hb'
    rcases hlook _ _ hi with ⟨rfl, rfl⟩ | ⟨h1, h1'⟩ <;> rcases hlook _ _ hj with ⟨rfl, rfl⟩ | ⟨h2, h2'⟩
    · exact hij rfl
    · simp only [if_true] at hb
      simp only [if_neg h2] at hb'
      have := hq b hb
      have := (hs.flt _ _ h2' b hb').1
      omega
    · simp only [if_true] at hb'
      simp only [if_neg h1] at hb
      have := hq b hb'
      have := (hs.flt _ _ h1' b hb).1
      omega
    · simp only [if_neg h1] at hb
      simp only [if_neg h2] at hb'
      exact hs.sep i j _ _ h1' h2' hij b hb hb'
  · intro id' o'' h
    rcases hlook _ _ h with ⟨rfl, rfl⟩ | ⟨h1, h'⟩
    · simp only [if_true, Env.add_at]; exact ho
    · have hl := hs.lto _ _ h'
      simp only [if_neg h1]
      rw [Env.add_lt id' hl.1]
      refine SO.ok_mono (hs.obj _ _ h') hl.2 Env.add_lt (fun _ h => h) ?_ hsz
      intro b hb
      refine hw b ?_
      rcases hb with hb | hb
      · exact hs.zlt b hb
      · exact (hs.flt _ _ h' b hb).1
  · intro id' o'' h
    rcases hlook _ _ h with ⟨rfl, rfl⟩ | ⟨h1, h'⟩
    · exact ⟨by show s.nx < s.nx + 1; omega, SO.lt_mono (by show s.nx ≤ s.nx + 1; omega) hlt⟩
    · exact ⟨by show id' < s.nx + 1; have := (hs.lto _ _ h').1; omega, SO.lt_mono (by show s.nx ≤ s.nx + 1; omega) (hs.lto _ _ h').2⟩

/-- An object is let go. -/
theorem HSat.del (hs : HSat β Z fp s w) (id : Nat) : HSat β Z fp ⟨s.fr, delK s.hp id, s.nx⟩ w := by
  have hlook : ∀ id' o'', look (delK s.hp id) id' = some o'' → look s.hp id' = some o'' := by
    intro id' o'' h
    rw [look_delK] at h
    split at h
    · cases h
    · exact h
  exact ⟨hs.zlt, fun _ _ h => hs.flt _ _ (hlook _ _ h), fun _ _ _ _ h h' => hs.sep _ _ _ _ (hlook _ _ h) (hlook _ _ h'), fun _ _ h => hs.obj _ _ (hlook _ _ h), fun _ _ h => hs.lto _ _ (hlook _ _ h)⟩

/-- An object goes on under a new number, its block alone having changed. -/
theorem HSat.move (hs : HSat β Z fp s w) {id : Nat} {o o' : SO} (hl : look s.hp id = some o) {w' : World} {x : Option Addr} (hw : ∀ b, ¬ fp id b → w'.heap[b]? = w.heap[b]?) (hsz : w'.heap.size = w.heap.size)
    (ho : o'.ok (β.add s.nx x) Z (fp id) w' x) (hlt : o'.lt s.nx) : HSat (β.add s.nx x) Z (fun i => if i = s.nx then fp id else fp i) ⟨s.fr, (s.nx, o') :: delK s.hp id, s.nx + 1⟩ w' := by
  have hlook : ∀ id' o'', look ((s.nx, o') :: delK s.hp id) id' = some o'' → (id' = s.nx ∧ o'' = o') ∨ (id' ≠ s.nx ∧ id ≠ id' ∧ look s.hp id' = some o'') := by
    intro id' o'' h
    rw [look_cons] at h
    split at h
    · rename_i e; exact .inl ⟨e.symm, by cases h; rfl⟩
    · rename_i e
      rw [look_delK] at h
      split at h
      · cases h
      · rename_i e2; exact .inr ⟨fun e' => e e'.symm, e2, h⟩
  refine ⟨fun b hb => by rw [hsz]; exact hs.zlt b hb, ?_, ?_, ?_, ?_⟩
  · intro id' o'' h b hb
    rw [hsz]
    rcases hlook _ _ h with ⟨rfl, rfl⟩ | ⟨h1, h2, h'⟩
    · simp only [if_true] at hb; exact hs.flt _ _ hl b hb
    · simp only [if_neg h1] at hb; exact hs.flt _ _ h' b hb
  · intro i j oi oj hi hj hij b hb hb'
    rcases hlook _ _ hi with ⟨rfl, rfl⟩ | ⟨h1, h1e, h1'⟩ <;> rcases hlook _ _ hj with ⟨rfl, rfl⟩ | ⟨h2, h2e, h2'⟩
    · exact hij rfl
    · simp only [if_true] at hb
      simp only [if_neg h2] at hb'
      exact hs.sep id j _ _ hl h2' h2e b hb hb'
    · simp only [if_true] at hb'
      simp only [if_neg h1] at hb
      exact hs.sep id i _ _ hl h1' h1e b hb' hb
    · simp only [if_neg h1] at hb
      simp only [if_neg h2] at hb'
      exact hs.sep i j _ _ h1' h2' hij b hb hb'
  · intro id' o'' h
    rcases hlook _ _ h with ⟨rfl, rfl⟩ | ⟨h1, h2, h'⟩
    · simp only [if_true, Env.add_at]; exact ho
    · have hl' := hs.lto _ _ h'
      simp only [if_neg h1]
      rw [Env.add_lt id' hl'.1]
      refine SO.ok_mono (hs.obj _ _ h') hl'.2 Env.add_lt (fun _ h => h) ?_ (by omega)
      intro b hb
      refine hw b fun hf => ?_
      rcases hb with hb | hb
      · exact (hs.flt _ _ hl b hf).2 hb
      · exact hs.sep id id' _ _ hl h' h2 b hf hb
  · intro id' o'' h
    rcases hlook _ _ h with ⟨rfl, rfl⟩ | ⟨h1, h2, h'⟩
    · exact ⟨by show s.nx < s.nx + 1; omega, SO.lt_mono (by show s.nx ≤ s.nx + 1; omega) hlt⟩
    · exact ⟨by show id' < s.nx + 1; have := (hs.lto _ _ h').1; omega, SO.lt_mono (by show s.nx ≤ s.nx + 1; omega) (hs.lto _ _ h').2⟩

end
end Go.Fw

/-
  Operations that make or write memory, as the executor takes them; they do what it says.
-/
namespace Go.Fw
open Go

def EK.cast : (k k' : EK) → List k.ty → Option (List k'.ty)
  | .int, .int, xs => some xs
  | .bool, .bool, xs => some xs
  | .arc, .arc, xs => some xs
  | .trip, .trip, xs => some xs
  | .duo, .duo, xs => some xs
  | .str, .str, xs => some xs
  | .sli, .sli, xs => some xs
  | .fst, .fst, xs => some xs
  | _, _, _ => none

theorem EK.cast_spec {k k' : EK} {xs : List k.ty} {ys : List k'.ty} (h : EK.cast k k' xs = some ys) : ∃ e : k = k', ys = e ▸ xs := by
  cases k <;> cases k' <;> simp only [EK.cast] at h <;> first | (cases h; exact ⟨rfl, rfl⟩) | cases h

/-- What an append finds: the array's elements, as far as the slice goes. -/
def baseK (hp : List (Nat × SO)) (E : Nat) (ek : EK) (x : SV) (k : Option Nat → Nat → Nat → List ek.ty → Prop) : Prop :=
  match x with
  | .a (.c (.v (.slice none 0 0))) => k none 0 0 []
  | .a (.c (.sl id sz lo len cap)) => match look hp id with
    | some (.arr true E0 k0 xs0 sp) => match EK.cast k0 ek xs0, Nat.beq sz ek.sz, Nat.beq E0 E with
      | some xs, true, true => Ob (lo + len ≤ xs.length ∧ lo + cap ≤ xs.length + sp ∧ len ≤ cap) (k (some id) len cap (sub xs lo len))
      | _, _, _ => False
    | _ => False
  | _ => False

/-- The pool of blocks of a kind. -/
def findK : List (Nat × SO) → EK → Option Nat
  | [], _ => none
  | (id, .pool _ k _) :: l, ek => match EK.beq k ek with
    | true => some id
    | false => findK l ek
  | _ :: l, ek => findK l ek

/-- A slice that is read. -/
def srcK (hp : List (Nat × SO)) (ek : EK) (x : SV) (k : Nat → List ek.ty → Prop) : Prop :=
  match x with
  | .a (.c (.v (.slice none 0 0))) => k 0 []
  | .a (.c (.sl id sz lo len _)) => match look hp id with
    | some (.arr _ _ k0 xs0 _) => match EK.cast k0 ek xs0, Nat.beq sz ek.sz with
      | some xs, true => Ob (lo + len ≤ xs.length) (k len (sub xs lo len))
      | _, _ => False
    | _ => False
  | .a (.c (.h y)) => match findK hp ek with
    | some id => match look hp id with
      | some (.pool _ k0 m) => match EK.cast k0 ek (rowA m y.a) with
        | some ys => Ob (Hd m y) (k y.n ys)
        | none => False
      | _ => False
    | none => False
  | _ => False

def delO (hp : List (Nat × SO)) (id : Option Nat) (k : List (Nat × SO) → Prop) : Prop := match id with
  | none => k hp
  | some id => delC hp id k

def lOp (ty : List (Nat × STy)) (op : Op) (s : S) (k : S → SV → Prop) : Prop := s.go fun fr hp nx =>
  match op with
  | .box T x => match ev fr x with
    | some v => match cellsOf v with
      | some cs => k ⟨fr, (nx, .box T cs) :: hp, nx + 1⟩ (.c (.ptr nx 0))
      | none => False
    | none => False
  | .alloc T => match look ty T with
    | some d => k ⟨fr, (nx, .box T d.zero) :: hp, nx + 1⟩ (.c (.ptr nx 0))
    | none => False
  | .buildSlice T len parts => match look ty T with
    | some d => match d.sl with
      | some (E, ek, _) => match Nat.beq (lenN parts.toList) len, Nat.ble (len * ek.sz) 16777216 with
        | true, true => elemsK ek fr 0 parts.toList fun xs => k ⟨fr, (nx, .arr true E ek xs 0) :: hp, nx + 1⟩ (.c (.sl nx ek.sz 0 len len))
        | _, _ => False
      | none => False
    | none => False
  | .makeSlice T l c => match look ty T, ev fr l, ev fr c with
    | some d, some (.a (.c (.i l))), some (.a (.c (.i c))) => match d.sl with
      | some (E, ek, bytes) => Ob (0 ≤ l ∧ l ≤ c ∧ bytes * c ≤ 281474976710656 ∧ c ≤ 9223372036854775807)
        (k ⟨fr, (nx, .arr true E ek (List.replicate l.toNat ek.dflt) (c.toNat - l.toNat)) :: hp, nx + 1⟩ (.c (.sl nx ek.sz 0 l.toNat c.toNat)))
      | none => False
    | _, _, _ => False
  | .store T x y => match look ty T, ev fr x, ev fr y with
    | some d, some (.a (.c (.ptr id off))), some v => match look hp id, cellsOf v with
      | some (.box T' cells), some cs => match Nat.beq (lenN cs) (lenN d.zero), Nat.ble (off + lenN cs) (lenN cells) with
        | true, true => forceC (wr cells off cs) fun l => updK hp id (.box T' l) fun hp' => k ⟨fr, hp', nx⟩ .u
        | _, _ => False
      | _, _ => False
    | some d, some (.a (.c (.elt id sz i off))), some v => match look hp id, cellsOf v with
      | some (.arr true E ek xs sp), some cs => match Nat.beq (lenN cs) (lenN d.zero), Nat.beq sz ek.sz with
        | true, true => Ob (i < xs.length) (match d.agg with
          | true => match Nat.beq off 0, ek.ofSym cs with
            | true, some e => updK hp id (.arr true E ek (xs.set i e) sp) fun hp' => k ⟨fr, hp', nx⟩ .u
            | _, _ => False
          | false => match cs with
            | [c] => match ek.setF (xs.getD i ek.dflt) off c with
              | some e => updK hp id (.arr true E ek (xs.set i e) sp) fun hp' => k ⟨fr, hp', nx⟩ .u
              | none => False
            | _ => False)
        | _, _ => False
      | _, _ => False
    | _, _, _ => False
  | .call { callee := .builtin .append, args, argTypes } => match args.toList, argTypes.toList with
    | [x, y], [T, T'] => match Nat.beq T T', look ty T, ev fr x, ev fr y with
      | true, some d, some v, some u => match d.sl with
        | some (E, ek, bytes) => baseK hp E ek v fun id len _ xs => srcK hp ek u fun n ys => delO hp id fun hp' =>
          Ob ((len + n) * bytes ≤ 140737488355328 ∧ len + n ≤ 9223372036854775807)
            (∀ sp : Nat, k ⟨fr, (nx, .arr true E ek (appL xs ys) sp) :: hp', nx + 1⟩ (.c (.sl nx ek.sz 0 (len + n) (len + n + sp))))
        | none => False
      | _, _, _, _ => False
    | _, _ => False
  | .call { callee := .builtin .copy, args, argTypes } => match args.toList, argTypes.toList with
    | [x, y], [T, _] => match look ty T, ev fr x, ev fr y with
      | some d, some (.a (.c (.sl id sz lo len _))), some u => match d.sl, look hp id with
        | some (E, ek, _), some (.arr true E0 k0 xs0 sp) => match EK.cast k0 ek xs0, Nat.beq sz ek.sz, Nat.beq E E0 with
          | some xs, true, true => Ob (lo + len ≤ xs.length) (srcK hp ek u fun n ys => updK hp id (.arr true E0 ek (cpL xs lo (Nat.min n len) ys) sp) fun hp' => k ⟨fr, hp', nx⟩ (.i (Nat.min n len : Nat)))
          | _, _, _ => False
        | _, _ => False
      | _, _, _ => False
    | _, _ => False
  | _ => False
where
  appL {α : Type} (xs ys : List α) : List α := xs ++ ys
  cpL {α : Type} (xs : List α) (lo n : Nat) (ys : List α) : List α := xs.take lo ++ ys.take n ++ xs.drop (lo + n)

/-- A row of one's own that becomes an element. -/
def frzOf : EK → List (Nat × SV) → List (Nat × Operand) → Option (Nat × Nat × Nat)
  | .sli, fr, [(0, x)] => match ev fr x with
    | some (.a (.c (.sl id _ 0 len cap))) => some (id, len, cap)
    | _ => none
  | _, _, _ => none

/-- Does the operation touch a pool, a map? -/
def pooly (ty : List (Nat × STy)) (fr : List (Nat × SV)) : Op → Bool
  | .store _ x _ => match ev fr x with
    | some (.a (.c (.pe _ _ _ _ _))) => true
    | _ => false
  | .call { callee := .builtin .append, args, .. } => match args.toList with
    | x :: _ => match ev fr x with
      | some (.a (.c (.h _))) => true
      | _ => false
    | _ => false
  | .buildSlice T _ parts => match look ty T with
    | some d => match d.sl with
      | some (_, ek, _) => match frzOf ek fr parts.toList with
        | some _ => true
        | none => false
      | none => false
    | none => false
  | .makeMap _ _ | .insert _ _ _ _ | .mapUpdate _ _ _ _ | .range _ _ | .next _ _ => true
  | _ => false

def mapK (ty : List (Nat × STy)) (T : Nat) (x ix v : Operand) (fr : List (Nat × SV)) (hp : List (Nat × SO)) (nx : Nat) (k : S → SV → Prop) : Prop :=
  match look ty T, ev fr x, ev fr ix, ev fr v with
  | some d, some (.a (.c (.mp id))), some kv, some (.a (.c (.ptr bid 0))) => match d.mp, look hp id, cellsOf kv with
    | some (_, kk, _, vk), some (.map kk0 .adr es clk), some cs => match kk0.ofSym cs, EK.beq kk0 kk, EK.beq .adr vk, eqB (isAggV kv) kk0.isAgg with
      | some key, true, true, true => match look hp bid with
        | some (.box T2 cells) => match findP hp T2 with
          | some pid => match look hp pid with
            | some (.pool E1 k1 m) => match k1.ofSym cells, Nat.beq T2 E1 with
              | some e, true => ∀ a : Addr, lkA m a = none → (∀ b y, lkA m b = some y → b.block ≠ a.block) →
                delC hp bid fun hp1 => updK hp1 pid (.pool E1 k1 ((a, [e], 0) :: m)) fun hp2 => updK hp2 id (.map kk0 .adr (insM es clk key (some a)).1 (insM es clk key (some a)).2) fun hp3 => k ⟨fr, hp3, nx⟩ .u
              | _, _ => False
            | _ => False
          | none => False
        | _ => False
      | _, _, _, _ => False
    | _, _, _ => False
  | some d, some (.a (.c (.mp id))), some kv, some vv => match d.mp, look hp id, cellsOf kv, cellsOf vv with
    | some (_, kk, _, vk), some (.map kk0 vk0 es clk), some cs, some vs => match kk0.ofSym cs, EK.beq kk0 kk, EK.beq vk0 vk, eqB (isAggV kv) kk0.isAgg with
      | some key, true, true, true => match vk0.ofSym vs, eqB (isAggV vv) vk0.isAgg with
        | some val, true => updK hp id (.map kk0 vk0 (insM es clk key val).1 (insM es clk key val).2) fun hp' => k ⟨fr, hp', nx⟩ .u
        | _, _ => False
      | _, _, _, _ => False
    | _, _, _, _ => False
  | _, _, _, _ => False

def mOp (ty : List (Nat × STy)) (op : Op) (s : S) (k : S → SV → Prop) : Prop := s.go fun fr hp nx =>
  match op with
  | .store T x y => match look ty T, ev fr x, ev fr y with
    | some d, some (.a (.c (.pe id sz a i off))), some v => match look hp id, cellsOf v with
      | some (.pool E ek m), some cs => match Nat.beq (lenN cs) (lenN d.zero), Nat.beq sz ek.sz with
        | true, true => Ob (i < (rowA m a).length) (match d.agg with
          | true => match Nat.beq off 0, ek.ofSym cs with
            | true, some e => updK hp id (.pool E ek (putA m a i e)) fun hp' => k ⟨fr, hp', nx⟩ .u
            | _, _ => False
          | false => match cs with
            | [c] => match ek.setF ((rowA m a).getD i ek.dflt) off c with
              | some e => updK hp id (.pool E ek (putA m a i e)) fun hp' => k ⟨fr, hp', nx⟩ .u
              | none => False
            | _ => False)
        | _, _ => False
      | _, _ => False
    | _, _, _ => False
  | .call { callee := .builtin .append, args, argTypes } => match args.toList, argTypes.toList with
    | [x, y], [T, T'] => match Nat.beq T T', look ty T, ev fr x, ev fr y with
      | true, some d, some (.a (.c (.h h))), some u => match d.sl with
        | some (E, ek, bytes) => match findP hp E with
          | some id => match look hp id with
            | some (.pool E0 k0 m) => match EK.beq k0 ek, Nat.beq E0 E with
              | true, true => srcK hp k0 u fun n ys => Ob (Hd m h ∧ (h.n + n) * bytes ≤ 140737488355328 ∧ h.n + n ≤ 9223372036854775807)
                (∀ m' h', App m h ys m' h' → updK hp id (.pool E0 k0 m') fun hp' => k ⟨fr, hp', nx⟩ (.c (.h h')))
              | _, _ => False
            | _ => False
          | none => False
        | none => False
      | _, _, _, _ => False
    | _, _ => False
  | .buildSlice T n parts => match look ty T with
    | some d => match d.sl with
      | some (E, .sli, _) => match frzOf .sli fr parts.toList, Nat.beq n 1 with
        | some (id, len, cap), true => match look hp id with
          | some (.arr true E0 k0 xs sp) => match findP hp E0 with
            | some pid => match look hp pid with
              | some (.pool E1 k1 m) => match EK.cast k0 k1 xs, Nat.beq E0 E1 with
                | some xs', true => Ob (len = xs.length ∧ cap ≤ xs.length + sp) (∀ m' y, Frz m xs' sp len cap m' y →
                  delC hp id fun hp1 => updK hp1 pid (.pool E1 k1 m') fun hp2 => k ⟨fr, (nx, .arr true E .sli [y] 0) :: hp2, nx + 1⟩ (.c (.sl nx 1 0 1 1)))
                | _, _ => False
              | _ => False
            | none => False
          | _ => False
        | _, _ => False
      | _ => False
    | none => False
  | .makeMap T none => match look ty T with
    | some d => match d.mp with
      | some (_, kk, _, vk) => k ⟨fr, (nx, .map kk vk [] 0) :: hp, nx + 1⟩ (.c (.mp nx))
      | none => False
    | none => False
  | .insert T x ix v => mapK ty T x ix v fr hp nx k
  | .mapUpdate T x ix v => mapK ty T x ix v fr hp nx k
  | .range T x => match look ty T, ev fr x with
    | some d, some (.a (.c (.mp id))) => match d.mp, look hp id with
      | some _, some (.map _ _ _ clk) => k ⟨fr, (nx, .iter id clk [] clk 0) :: hp, nx + 1⟩ (.c (.ptr nx 0))
      | _, _ => False
    | _, _ => False
  | .next x false => match ev fr x with
    | some (.a (.c (.ptr it 0))) => match look hp it with
      | some (.iter mid since seen last _) => match look hp mid with
        | some (.map kk vk es clk) => Ob (BornOk es clk ∧ since = clk ∧ last = clk) (Both ((∀ e ∈ es, e.2.2 ∈ seen) → k ⟨fr, hp, nx⟩ (.tup [.c (.b false)]))
          (∀ (i : Nat) (h : i < es.length), es[i].2.2 ∉ seen → updK hp it (.iter mid since (seen ++ [es[i].2.2]) clk i) fun hp' => forceA (kk.symA es[i].1) fun x => forceA (vk.symA es[i].2.1) fun y => k ⟨fr, hp', nx⟩ (.tup [.c (.b true), x, y])))
        | _ => False
      | _ => False
    | _ => False
  | _ => False

end Go.Fw
