/-
  Operations that make or write memory, as the executor takes them; they do what it says.
-/
import Derived.Test.YtdijmfdanbnppaaDoorS01
import Derived.Laws.OwnMore

set_option linter.unusedSimpArgs false
set_option linter.unusedVariables false

namespace Go.Fw
open Go

def EK.cast : (k k' : EK) → List k.ty → Option (List k'.ty)
  | .int, .int, xs => some xs
  | .bool, .bool, xs => some xs
  | .arc, .arc, xs => some xs
  | .trip, .trip, xs => some xs
  | .duo, .duo, xs => some xs
  | .str, .str, xs => some xs
  | .sli, .sli, xs => some xs
  | .fst, .fst, xs => some xs
  | _, _, _ => none

theorem EK.cast_spec {k k' : EK} {xs : List k.ty} {ys : List k'.ty} (h : EK.cast k k' xs = some ys) : ∃ e : k = k', ys = e ▸ xs := by
  cases k <;> cases k' <;> simp only [EK.cast] at h <;> first | (cases h; exact ⟨rfl, rfl⟩) | cases h

/-- What an append finds: the array's elements, as far as the slice goes. -/
def baseK (hp : List (Nat × SO)) (E : Nat) (ek : EK) (x : SV) (k : Option Nat → Nat → Nat → List ek.ty → Prop) : Prop :=
  match x with
  | .a (.c (.v (.slice none 0 0))) => k none 0 0 []
  | .a (.c (.sl id sz lo len cap)) => match look hp id with
    | some (.arr true E0 k0 xs0 sp) => match EK.cast k0 ek xs0, Nat.beq sz ek.sz, Nat.beq E0 E with
      | some xs, true, true => Ob (lo + len ≤ xs.length ∧ lo + cap ≤ xs.length + sp ∧ len ≤ cap) (k (some id) len cap (sub xs lo len))
      | _, _, _ => False
    | _ => False
  | _ => False

/-- The pool of blocks of a kind. -/
def findK : List (Nat × SO) → EK → Option Nat
  | [], _ => none
  | (id, .pool _ k _) :: l, ek => match EK.beq k ek with
    | true => some id
    | false => findK l ek
  | _ :: l, ek => findK l ek

/-- A slice that is read. -/
def srcK (hp : List (Nat × SO)) (ek : EK) (x : SV) (k : Nat → List ek.ty → Prop) : Prop :=
  match x with
  | .a (.c (.v (.slice none 0 0))) => k 0 []
  | .a (.c (.sl id sz lo len _)) => match look hp id with
    | some (.arr _ _ k0 xs0 _) => match EK.cast k0 ek xs0, Nat.beq sz ek.sz with
      | some xs, true => Ob (lo + len ≤ xs.length) (k len (sub xs lo len))
      | _, _ => False
    | _ => False
  | .a (.c (.h y)) => match findK hp ek with
    | some id => match look hp id with
      | some (.pool _ k0 m) => match EK.cast k0 ek (rowA m y.a) with
        | some ys => Ob (Hd m y) (k y.n ys)
        | none => False
      | _ => False
    | none => False
  | _ => False

def delO (hp : List (Nat × SO)) (id : Option Nat) (k : List (Nat × SO) → Prop) : Prop := match id with
  | none => k hp
  | some id => delC hp id k

/-- What lies behind a slice of structs, cell by cell. -/
def partsK (fr : List (Nat × SV)) (sz : Nat) : Nat → List (Nat × Operand) → (List SC → Prop) → Prop
  | _, [], k => k []
  | n, (i, x) :: r, k => match Nat.beq i n, ev fr x with
    | true, some v => match cellsOf v with
      | some cs => match Nat.beq (lenN cs) sz with
        | true => partsK fr sz (n + 1) r fun l => k (appN cs l)
        | false => False
      | none => False
    | _, _ => False

def lOp (ty : List (Nat × STy)) (op : Op) (s : S) (k : S → SV → Prop) : Prop := s.go fun fr hp nx =>
  match op with
  | .box T x => match ev fr x with
    | some v => match cellsOf v with
      | some cs => k ⟨fr, (nx, .box T cs) :: hp, nx + 1⟩ (.c (.ptr nx 0))
      | none => False
    | none => False
  | .alloc T => match look ty T with
    | some d => k ⟨fr, (nx, .box T d.zero) :: hp, nx + 1⟩ (.c (.ptr nx 0))
    | none => False
  | .buildSlice T len parts => match look ty T with
    | some d => match d.sl with
      | some (E, .fst, _) => match Nat.beq (lenN parts.toList) len, Nat.ble (len * 4) 16777216 with
        | true, true => partsK fr 4 0 parts.toList fun cs => k ⟨fr, (nx, .box E cs) :: hp, nx + 1⟩ (.c (.sl nx 4 0 len len))
        | _, _ => False
      | some (E, ek, _) => match Nat.beq (lenN parts.toList) len, Nat.ble (len * ek.sz) 16777216 with
        | true, true => elemsK ek fr 0 parts.toList fun xs => k ⟨fr, (nx, .arr true E ek xs 0) :: hp, nx + 1⟩ (.c (.sl nx ek.sz 0 len len))
        | _, _ => False
      | none => False
    | none => False
  | .makeSlice T l c => match look ty T, ev fr l, ev fr c with
    | some d, some (.a (.c (.i l))), some (.a (.c (.i c))) => match d.sl with
      | some (E, ek, bytes) => Ob (0 ≤ l ∧ l ≤ c ∧ bytes * c ≤ 281474976710656 ∧ c ≤ 9223372036854775807)
        (k ⟨fr, (nx, .arr true E ek (List.replicate l.toNat ek.dflt) (c.toNat - l.toNat)) :: hp, nx + 1⟩ (.c (.sl nx ek.sz 0 l.toNat c.toNat)))
      | none => False
    | _, _, _ => False
  | .store T x y => match look ty T, ev fr x, ev fr y with
    | some d, some (.a (.c (.ptr id off))), some v => match look hp id, cellsOf v with
      | some (.box T' cells), some cs => match Nat.beq (lenN cs) (lenN d.zero), Nat.ble (off + lenN cs) (lenN cells) with
        | true, true => forceC (wr cells off cs) fun l => updK hp id (.box T' l) fun hp' => k ⟨fr, hp', nx⟩ .u
        | _, _ => False
      | _, _ => False
    | some d, some (.a (.c (.elt id sz i off))), some v => match look hp id, cellsOf v with
      | some (.arr true E ek xs sp), some cs => match Nat.beq (lenN cs) (lenN d.zero), Nat.beq sz ek.sz with
        | true, true => Ob (i < xs.length) (match d.agg with
          | true => match Nat.beq off 0, ek.ofSym cs with
            | true, some e => updK hp id (.arr true E ek (xs.set i e) sp) fun hp' => k ⟨fr, hp', nx⟩ .u
            | _, _ => False
          | false => match cs with
            | [c] => match ek.setF (xs.getD i ek.dflt) off c with
              | some e => updK hp id (.arr true E ek (xs.set i e) sp) fun hp' => k ⟨fr, hp', nx⟩ .u
              | none => False
            | _ => False)
        | _, _ => False
      | _, _ => False
    | _, _, _ => False
  | .call { callee := .builtin .append, args, argTypes } => match args.toList, argTypes.toList with
    | [x, y], [T, T'] => match Nat.beq T T', look ty T, ev fr x, ev fr y with
      | true, some d, some v, some u => match d.sl with
        | some (E, ek, bytes) => baseK hp E ek v fun id len _ xs => srcK hp ek u fun n ys => delO hp id fun hp' =>
          Ob ((len + n) * bytes ≤ 140737488355328 ∧ len + n ≤ 9223372036854775807)
            (∀ sp : Nat, k ⟨fr, (nx, .arr true E ek (appL xs ys) sp) :: hp', nx + 1⟩ (.c (.sl nx ek.sz 0 (len + n) (len + n + sp))))
        | none => False
      | _, _, _, _ => False
    | _, _ => False
  | .call { callee := .builtin .copy, args, argTypes } => match args.toList, argTypes.toList with
    | [x, y], [T, _] => match look ty T, ev fr x, ev fr y with
      | some d, some (.a (.c (.sl id sz lo len _))), some u => match d.sl, look hp id with
        | some (E, ek, _), some (.arr true E0 k0 xs0 sp) => match EK.cast k0 ek xs0, Nat.beq sz ek.sz, Nat.beq E E0 with
          | some xs, true, true => Ob (lo + len ≤ xs.length) (srcK hp ek u fun n ys => updK hp id (.arr true E0 ek (cpL xs lo (Nat.min n len) ys) sp) fun hp' => k ⟨fr, hp', nx⟩ (.i (Nat.min n len : Nat)))
          | _, _, _ => False
        | _, _ => False
      | _, _, _ => False
    | _, _ => False
  | _ => False
where
  appL {α : Type} (xs ys : List α) : List α := xs ++ ys
  cpL {α : Type} (xs : List α) (lo n : Nat) (ys : List α) : List α := xs.take lo ++ ys.take n ++ xs.drop (lo + n)

/-- A row of one's own that becomes an element. -/
def frzOf : EK → List (Nat × SV) → List (Nat × Operand) → Option (Nat × Nat × Nat)
  | .sli, fr, [(0, x)] => match ev fr x with
    | some (.a (.c (.sl id _ 0 len cap))) => some (id, len, cap)
    | _ => none
  | _, _, _ => none

/-- Does the operation touch a pool, a map? -/
def pooly (ty : List (Nat × STy)) (fr : List (Nat × SV)) : Op → Bool
  | .store _ x _ => match ev fr x with
    | some (.a (.c (.pe _ _ _ _ _))) => true
    | _ => false
  | .call { callee := .builtin .append, args, .. } => match args.toList with
    | x :: _ => match ev fr x with
      | some (.a (.c (.h _))) => true
      | _ => false
    | _ => false
  | .buildSlice T _ parts => match look ty T with
    | some d => match d.sl with
      | some (_, ek, _) => match frzOf ek fr parts.toList with
        | some _ => true
        | none => false
      | none => false
    | none => false
  | .makeMap _ _ | .insert _ _ _ _ | .mapUpdate _ _ _ _ | .range _ _ | .next _ _ => true
  | _ => false

def mapK (ty : List (Nat × STy)) (T : Nat) (x ix v : Operand) (fr : List (Nat × SV)) (hp : List (Nat × SO)) (nx : Nat) (k : S → SV → Prop) : Prop :=
  match look ty T, ev fr x, ev fr ix, ev fr v with
  | some d, some (.a (.c (.mp id))), some kv, some (.a (.c (.ptr bid 0))) => match d.mp, look hp id, cellsOf kv with
    | some (_, kk, _, vk), some (.map kk0 .adr es clk), some cs => match kk0.ofSym cs, EK.beq kk0 kk, EK.beq .adr vk, eqB (isAggV kv) kk0.isAgg with
      | some key, true, true, true => match look hp bid with
        | some (.box T2 cells) => match findP hp T2 with
          | some pid => match look hp pid with
            | some (.pool E1 k1 m) => match k1.ofSym cells, Nat.beq T2 E1 with
              | some e, true => ∀ a : Addr, lkA m a = none → (∀ b y, lkA m b = some y → b.block ≠ a.block) →
                delC hp bid fun hp1 => updK hp1 pid (.pool E1 k1 ((a, [e], 0) :: m)) fun hp2 => updK hp2 id (.map kk0 .adr (insM es clk key (some a)).1 (insM es clk key (some a)).2) fun hp3 => k ⟨fr, hp3, nx⟩ .u
              | _, _ => False
            | _ => False
          | none => False
        | _ => False
      | _, _, _, _ => False
    | _, _, _ => False
  | some d, some (.a (.c (.mp id))), some kv, some vv => match d.mp, look hp id, cellsOf kv, cellsOf vv with
    | some (_, kk, _, vk), some (.map kk0 vk0 es clk), some cs, some vs => match kk0.ofSym cs, EK.beq kk0 kk, EK.beq vk0 vk, eqB (isAggV kv) kk0.isAgg with
      | some key, true, true, true => match vk0.ofSym vs, eqB (isAggV vv) vk0.isAgg with
        | some val, true => updK hp id (.map kk0 vk0 (insM es clk key val).1 (insM es clk key val).2) fun hp' => k ⟨fr, hp', nx⟩ .u
        | _, _ => False
      | _, _, _, _ => False
    | _, _, _, _ => False
  | _, _, _, _ => False

def mOp (ty : List (Nat × STy)) (op : Op) (s : S) (k : S → SV → Prop) : Prop := s.go fun fr hp nx =>
  match op with
  | .store T x y => match look ty T, ev fr x, ev fr y with
    | some d, some (.a (.c (.pe id sz a i off))), some v => match look hp id, cellsOf v with
      | some (.pool E ek m), some cs => match Nat.beq (lenN cs) (lenN d.zero), Nat.beq sz ek.sz with
        | true, true => Ob (i < (rowA m a).length) (match d.agg with
          | true => match Nat.beq off 0, ek.ofSym cs with
            | true, some e => updK hp id (.pool E ek (putA m a i e)) fun hp' => k ⟨fr, hp', nx⟩ .u
            | _, _ => False
          | false => match cs with
            | [c] => match ek.setF ((rowA m a).getD i ek.dflt) off c with
              | some e => updK hp id (.pool E ek (putA m a i e)) fun hp' => k ⟨fr, hp', nx⟩ .u
              | none => False
            | _ => False)
        | _, _ => False
      | _, _ => False
    | _, _, _ => False
  | .call { callee := .builtin .append, args, argTypes } => match args.toList, argTypes.toList with
    | [x, y], [T, T'] => match Nat.beq T T', look ty T, ev fr x, ev fr y with
      | true, some d, some (.a (.c (.h h))), some u => match d.sl with
        | some (E, ek, bytes) => match findP hp E with
          | some id => match look hp id with
            | some (.pool E0 k0 m) => match EK.beq k0 ek, Nat.beq E0 E with
              | true, true => srcK hp k0 u fun n ys => Ob (Hd m h ∧ (h.n + n) * bytes ≤ 140737488355328 ∧ h.n + n ≤ 9223372036854775807)
                (∀ m' h', App m h ys m' h' → updK hp id (.pool E0 k0 m') fun hp' => k ⟨fr, hp', nx⟩ (.c (.h h')))
              | _, _ => False
            | _ => False
          | none => False
        | none => False
      | _, _, _, _ => False
    | _, _ => False
  | .buildSlice T n parts => match look ty T with
    | some d => match d.sl with
      | some (E, .sli, _) => match frzOf .sli fr parts.toList, Nat.beq n 1 with
        | some (id, len, cap), true => match look hp id with
          | some (.arr true E0 k0 xs sp) => match findP hp E0 with
            | some pid => match look hp pid with
              | some (.pool E1 k1 m) => match EK.cast k0 k1 xs, Nat.beq E0 E1 with
                | some xs', true => Ob (len = xs.length ∧ cap ≤ xs.length + sp) (∀ m' y, Frz m xs' sp len cap m' y →
                  delC hp id fun hp1 => updK hp1 pid (.pool E1 k1 m') fun hp2 => k ⟨fr, (nx, .arr true E .sli [y] 0) :: hp2, nx + 1⟩ (.c (.sl nx 1 0 1 1)))
                | _, _ => False
              | _ => False
            | none => False
          | _ => False
        | _, _ => False
      | _ => False
    | none => False
  | .makeMap T none => match look ty T with
    | some d => match d.mp with
      | some (_, kk, _, vk) => k ⟨fr, (nx, .map kk vk [] 0) :: hp, nx + 1⟩ (.c (.mp nx))
      | none => False
    | none => False
  | .insert T x ix v => mapK ty T x ix v fr hp nx k
  | .mapUpdate T x ix v => mapK ty T x ix v fr hp nx k
  | .range T x => match look ty T, ev fr x with
    | some d, some (.a (.c (.mp id))) => match d.mp, look hp id with
      | some _, some (.map _ _ _ clk) => k ⟨fr, (nx, .iter id clk [] clk 0) :: hp, nx + 1⟩ (.c (.ptr nx 0))
      | _, _ => False
    | _, _ => False
  | .next x false => match ev fr x with
    | some (.a (.c (.ptr it 0))) => match look hp it with
      | some (.iter mid since seen last _) => match look hp mid with
        | some (.map kk vk es clk) => Ob (BornOk es clk ∧ since = clk ∧ last = clk) (Both ((∀ e ∈ es, e.2.2 ∈ seen) → k ⟨fr, hp, nx⟩ (.tup [.c (.b false)]))
          (∀ (i : Nat) (h : i < es.length), es[i].2.2 ∉ seen → updK hp it (.iter mid since (seen ++ [es[i].2.2]) clk i) fun hp' => forceA (kk.symA es[i].1) fun x => forceA (vk.symA es[i].2.1) fun y => k ⟨fr, hp', nx⟩ (.tup [.c (.b true), x, y])))
        | _ => False
      | _ => False
    | _ => False
  | _ => False

end Go.Fw

/-
  The soundness of the operations that make or write memory (first part).
-/
namespace Go.Fw
open Go

section
variable {P : Program} {ty : List (Nat × STy)} {β : Env} {Z : Nat → Prop} {fp : Nat → Nat → Prop} {s : S} {w : World} {N : NT} {a : Act}

structure LRes (P : Program) (β : Env) (Z : Nat → Prop) (s : S) (w : World) (a : Act) (o : Oper) (k : S → SV → Prop) (r : Next) (w' : World) (v : SV) (β' : Env) (fp' : Nat → Nat → Prop) (s' : S) : Prop where
  run : (execOp a.eval o).run P w = .ok r w'
  val : r = .value (v.den β') ∨ (r = .skip ∧ v = .u)
  env : ∀ id, id < s.nx → β' id = β id
  ext : Ext Z w w'
  fr : s'.fr = s.fr
  nx : s.nx ≤ s'.nx
  sat : HSat β' Z fp' s' w'
  lt : v.lt s'.nx
  go : k s' v

def LOk (P : Program) (β : Env) (Z : Nat → Prop) (s : S) (w : World) (a : Act) (o : Oper) (k : S → SV → Prop) : Prop :=
  ∃ r w' v β' fp' s', LRes P β Z s w a o k r w' v β' fp' s'

theorem SC.den_one {n : Nat} {c : SC} (h : c.lt n) : (c.den β).oneCell' = true := by
  cases c <;> first | rfl | exact h

theorem setF_spec {ek : EK} {x : ek.ty} {off : Nat} {c : SC} {e : ek.ty} (h : ek.setF x off c = some e) : ek.cells e = (ek.cells x).set off (c.den β) ∧ off < ek.sz := by
  cases ek
  case int =>
    cases off with
    | succ n => cases h
    | zero => have := ofSym_spec (β := β) (ek := .int) (cs := [c]) h; exact ⟨this.symm, by decide⟩
  case bool =>
    cases off with
    | succ n => cases h
    | zero => have := ofSym_spec (β := β) (ek := .bool) (cs := [c]) h; exact ⟨this.symm, by decide⟩
  case str =>
    cases off with
    | succ n => cases h
    | zero => have := ofSym_spec (β := β) (ek := .str) (cs := [c]) h; exact ⟨this.symm, by decide⟩
  case sli =>
    cases off with
    | succ n => cases h
    | zero => have := ofSym_spec (β := β) (ek := .sli) (cs := [c]) h; exact ⟨this.symm, by decide⟩
  case arc => change setArc x off c = some e at h; unfold setArc at h; split at h <;> cases h <;> exact ⟨rfl, by decide⟩
  case trip => change setTrip x off c = some e at h; unfold setTrip at h; split at h <;> cases h <;> exact ⟨rfl, by decide⟩
  case duo => change setDuo x off c = some e at h; unfold setDuo at h; split at h <;> cases h <;> exact ⟨rfl, by decide⟩
  case fst => cases off <;> cases h
  case adr =>
    cases off with
    | succ n => cases h
    | zero => have := ofSym_spec (β := β) (ek := .adr) (cs := [c]) h; exact ⟨this.symm, by decide⟩
  case fnd => change setFnd x off c = some e at h; unfold setFnd at h; split at h <;> cases h <;> exact ⟨rfl, by decide⟩

theorem Ext.alloc (o : Obj) (hz : ∀ b, Z b → b < w.heap.size) : Ext Z w (w.alloc o) :=
  ⟨rfl, rfl, rfl, by simp, fun b hb => heap_alloc_lt (hz b hb)⟩

theorem l_new (hs : HSat β Z fp s w) {o : Oper} {k : S → SV → Prop} {T : Nat} {cs : List SC} (hrun : (execOp a.eval o).run P w = .ok (.value (.pointer (some ⟨w.heap.size, 0, none⟩))) (w.alloc (.cells (cs.map (SC.den β)).toArray T (0, 0))))
    (hlt : ∀ c ∈ cs, SC.lt s.nx c) (h : k ⟨s.fr, (s.nx, .box T cs) :: s.hp, s.nx + 1⟩ (.c (.ptr s.nx 0))) : LOk P β Z s w a o k := by
  refine ⟨_, _, .c (.ptr s.nx 0), β.add s.nx (some ⟨w.heap.size, 0, none⟩), _, ⟨s.fr, (s.nx, .box T cs) :: s.hp, s.nx + 1⟩, hrun, .inl ?_, Env.add_lt, Ext.alloc _ hs.zlt, rfl, Nat.le_succ _, hs.add (o := .box T cs) (q := fun b => b = w.heap.size) ?_ ?_ ?_ ?_ hlt, ?_, h⟩
  · simp [SV.den, SA.den, SC.den, Env.add_at, Addr.add_lit]
  · exact fun b hb => heap_alloc_lt hb
  · simp
  · intro b hb; subst hb; simp
  · exact ⟨w.heap.size, rfl, rfl, by rw [heap_alloc_at, SC.map_den_congr Env.add_lt hlt]⟩
  · show s.nx < s.nx + 1; omega

theorem l_box (hs : HSat β Z fp s w) (hf : FSat β s N a) {k : S → SV → Prop} {dst : Option Nat} {T : TypeId} {x : Operand} {type : TypeId} {pos : String}
    {after : Array Edge} {guard : Option (Nat × Bool)} (h : lOp ty (.box T x) s k) : LOk P β Z s w a ⟨dst, .box T x, type, pos, after, guard⟩ k := by
  simp only [lOp, S.go_eq] at h
  split at h <;> try exact h.elim
  rename_i v hx
  split at h <;> try exact h.elim
  rename_i cs hcs
  obtain ⟨he, hlt⟩ := ev_den hf hx
  obtain ⟨hc, hcl⟩ := cells_cs (β := β) hcs hlt
  refine l_new hs (T := T) (cs := cs) ?_ hcl h
  simp [execOp, Instr.box, newVar, newRow, he, hc]

theorem l_alloc (hty : TyOk P ty) (hs : HSat β Z fp s w) {k : S → SV → Prop} {dst : Option Nat} {T : TypeId} {type : TypeId} {pos : String}
    {after : Array Edge} {guard : Option (Nat × Bool)} (h : lOp ty (.alloc T) s k) : LOk P β Z s w a ⟨dst, .alloc T, type, pos, after, guard⟩ k := by
  simp only [lOp, S.go_eq] at h
  split at h <;> try exact h.elim
  rename_i d hd
  have ht := hty T d hd
  refine l_new hs (T := T) (cs := d.zero) ?_ (fun c hc => SC.lt_mono (Nat.zero_le _) (ht.zlt c hc)) h
  have hz0 : d.zero.map (SC.den fun _ => none) = d.zero.map (SC.den β) := SC.map_den_congr (n := 0) (fun id h => absurd h (by omega)) ht.zlt
  have hc : d.zv.cells = (d.zero.map (SC.den β)).toArray := by
    unfold STy.zv
    cases hag : d.agg with
    | true => simp only [Value.cells, hz0]
    | false =>
      obtain ⟨z, hz⟩ := ht.one hag
      rw [hz] at hz0 ⊢
      simp only [List.map_cons, List.map_nil, List.cons.injEq, and_true] at hz0
      have h1 : (z.den fun _ => none).oneCell' = true := SC.den_one (ht.zlt z (by rw [hz]; simp))
      simp only [List.map_cons, List.map_nil, ← hz0]
      generalize (z.den fun _ => none) = y at *
      cases y <;> first | rfl | (simp [Value.oneCell'] at h1)
  simp [execOp, Instr.alloc, newVar, newRow, ht.zero, hc]

theorem elemsK_sound (hf : FSat β s N a) (ek : EK) : ∀ (parts : List (Nat × Operand)) (n : Nat) (k : List ek.ty → Prop), elemsK ek s.fr n parts k →
    ∃ xs, k xs ∧ xs.length = parts.length ∧ ∀ z : List Value, z.length = (n + parts.length) * ek.sz →
      Instr.fill (fun i => some (i * ek.sz, ek.sz)) z.toArray (parts.map fun p => (p.1, a.eval p.2)) = some (z.take (n * ek.sz) ++ flat ek xs).toArray
  | [], n, k, h => ⟨[], h, rfl, fun z hz => by
      simp only [List.length_nil, Nat.add_zero] at hz
      simp only [List.map_nil, Instr.fill, flat, List.flatMap_nil, List.append_nil]
      rw [List.take_of_length_le (by omega)]⟩
  | (i, x) :: r, n, k, h => by
    simp only [elemsK] at h
    split at h <;> try exact h.elim
    rename_i v hi hx
    split at h <;> try exact h.elim
    rename_i cs hcs
    split at h <;> try exact h.elim
    rename_i e he
    rw [nbeq, decide_eq_true_eq] at hi
    subst hi
    obtain ⟨hev, hlt⟩ := ev_den hf hx
    obtain ⟨hc, hcl⟩ := cells_cs (β := β) hcs hlt
    rw [ofSym_spec he] at hc
    obtain ⟨xs, hk, hlen, hfill⟩ := elemsK_sound hf ek r (i + 1) _ h
    refine ⟨e :: xs, hk, by simp [hlen], fun z hz => ?_⟩
    simp only [List.length_cons] at hz
    have hsz : (ek.cells e).length = ek.sz := EK.cells_length ek e
    have hle : i * ek.sz + ek.sz ≤ z.length := by
      rw [hz, show i * ek.sz + ek.sz = (i + 1) * ek.sz by rw [Nat.succ_mul]]
      exact Nat.mul_le_mul_right _ (by omega)
    simp only [List.map_cons, Instr.fill, hev, hc]
    rw [if_neg (by simp [hsz]; omega)]
    have := foldl_set (i * ek.sz) (ek.cells e) 0 z.toArray (by simp [hsz]; omega)
    simp only [Nat.add_zero] at this
    rw [hsz] at this
    have e1 : Array.foldl (fun (cs : Array Value) (x : Value × Nat) => cs.setIfInBounds (i * ek.sz + x.2) x.1) z.toArray (ek.cells e).toArray.zipIdx =
        (z.take (i * ek.sz) ++ ek.cells e ++ z.drop (i * ek.sz + ek.sz)).toArray := by
      apply Array.ext'
      rw [← Array.foldl_toList]; simp only [Array.toList_zipIdx]; exact this
    rw [e1, hfill _ (by
      simp only [List.length_append, List.length_take, List.length_drop, hsz, Nat.min_eq_left (show i * ek.sz ≤ z.length by omega)]
      rw [show i + 1 + r.length = i + (r.length + 1) by omega, ← hz]
      omega)]
    congr 2
    rw [List.take_append_of_le_length (by simp only [List.length_append, List.length_take, hsz, Nat.min_eq_left (show i * ek.sz ≤ z.length by omega), Nat.succ_mul]; omega),
      List.take_of_length_le (by simp only [List.length_append, List.length_take, hsz, Nat.min_eq_left (show i * ek.sz ≤ z.length by omega), Nat.succ_mul]; omega)]
    simp [flat]

end
end Go.Fw

/-
  The soundness of the operations that make or write memory (second part).
-/
namespace Go.Fw
open Go

section
variable {P : Program} {ty : List (Nat × STy)} {β : Env} {Z : Nat → Prop} {fp : Nat → Nat → Prop} {s : S} {w : World} {N : NT} {a : Act}

/-- A new array. -/
theorem l_arr (hs : HSat β Z fp s w) {o : Oper} {k : S → SV → Prop} {E : Nat} {ek : EK} {xs : List ek.ty} {sp n cap : Nat} {post : List Value} {w' : World}
    (hrun : (execOp a.eval o).run P w = .ok (.value (.slice (some ⟨w.heap.size, 0, none⟩) n cap)) w')
    (hw : ∀ b, b < w.heap.size → w'.heap[b]? = w.heap[b]?) (hsz : w.heap.size < w'.heap.size) (hos : w'.os = w.os) (htp : w'.tape = w.tape) (hout : w'.output = w.output)
    (hh : w'.heap[w.heap.size]? = some (.cells (flat ek xs ++ post).toArray E (0, 0))) (hpost : post.length = sp * ek.sz)
    (h : k ⟨s.fr, (s.nx, .arr true E ek xs sp) :: s.hp, s.nx + 1⟩ (.c (.sl s.nx ek.sz 0 n cap))) : LOk P β Z s w a o k := by
  refine ⟨_, _, .c (.sl s.nx ek.sz 0 n cap), β.add s.nx (some ⟨w.heap.size, 0, none⟩), _, ⟨s.fr, (s.nx, .arr true E ek xs sp) :: s.hp, s.nx + 1⟩, hrun, .inl ?_, Env.add_lt,
    ⟨hos, htp, hout, by omega, fun b hb => hw b (hs.zlt b hb)⟩, rfl, Nat.le_succ _,
    hs.add (o := .arr true E ek xs sp) (q := fun b => b = w.heap.size) hw (by omega) ?_ ?_ trivial, ?_, h⟩
  · simp [SV.den, SA.den, SC.den, Env.add_at, Addr.add_lit]
  · intro b hb; subst hb; omega
  · exact ⟨rfl, rfl, [], post, by simpa using hh, rfl, Nat.le_of_eq hpost.symm⟩
  · show s.nx < s.nx + 1; omega

theorem partsK_sound (hf : FSat β s N a) (sz : Nat) : ∀ (parts : List (Nat × Operand)) (n : Nat) (k : List SC → Prop), partsK s.fr sz n parts k →
    ∃ cs, k cs ∧ cs.length = parts.length * sz ∧ (∀ c ∈ cs, SC.lt s.nx c) ∧ ∀ z : List Value, z.length = (n + parts.length) * sz →
      Instr.fill (fun i => some (i * sz, sz)) z.toArray (parts.map fun p => (p.1, a.eval p.2)) = some (z.take (n * sz) ++ cs.map (SC.den β)).toArray
  | [], n, k, h => ⟨[], h, by simp, by simp, fun z hz => by
      simp only [List.length_nil, Nat.add_zero] at hz
      simp only [List.map_nil, Instr.fill, List.append_nil]
      rw [List.take_of_length_le (by omega)]⟩
  | (i, x) :: r, n, k, h => by
    simp only [partsK] at h
    split at h <;> try exact h.elim
    rename_i v hi hx
    split at h <;> try exact h.elim
    rename_i cs hcs
    split at h <;> try exact h.elim
    rename_i hln
    rw [nbeq, decide_eq_true_eq] at hi
    rw [nbeq, lenN_eq, decide_eq_true_eq] at hln
    subst hi
    obtain ⟨hev, hlt⟩ := ev_den hf hx
    obtain ⟨hc, hcl⟩ := cells_cs (β := β) hcs hlt
    obtain ⟨ys, hk, hlen, hyl, hfill⟩ := partsK_sound hf sz r (i + 1) _ h
    rw [appN_eq] at hk
    refine ⟨cs ++ ys, hk, by simp only [List.length_append, List.length_cons, hlen, hln, Nat.succ_mul]; omega, ?_, fun z hz => ?_⟩
    · intro c hc
      rcases List.mem_append.1 hc with hc | hc
      · exact hcl c hc
      · exact hyl c hc
    simp only [List.length_cons] at hz
    have hsz : (cs.map (SC.den β)).length = sz := by simp [hln]
    have hle : i * sz + sz ≤ z.length := by
      rw [hz, show i * sz + sz = (i + 1) * sz by rw [Nat.succ_mul]]
      exact Nat.mul_le_mul_right _ (by omega)
    simp only [List.map_cons, Instr.fill, hev, hc]
    rw [if_neg (by simp [hln]; omega)]
    have := foldl_set (i * sz) (cs.map (SC.den β)) 0 z.toArray (by simp [hln]; omega)
    simp only [Nat.add_zero] at this
    rw [hsz] at this
    have e1 : Array.foldl (fun (cs : Array Value) (x : Value × Nat) => cs.setIfInBounds (i * sz + x.2) x.1) z.toArray (cs.map (SC.den β)).toArray.zipIdx =
        (z.take (i * sz) ++ cs.map (SC.den β) ++ z.drop (i * sz + sz)).toArray := by
      apply Array.ext'
      rw [← Array.foldl_toList]; simp only [Array.toList_zipIdx]; exact this
    rw [e1, hfill _ (by
      simp only [List.length_append, List.length_take, List.length_drop, hsz, Nat.min_eq_left (show i * sz ≤ z.length by omega)]
      rw [show i + 1 + r.length = i + (r.length + 1) by omega, ← hz]
      omega)]
    congr 2
    rw [List.take_append_of_le_length (by simp only [List.length_append, List.length_take, hsz, Nat.min_eq_left (show i * sz ≤ z.length by omega), Nat.succ_mul]; omega),
      List.take_of_length_le (by simp only [List.length_append, List.length_take, hsz, Nat.min_eq_left (show i * sz ≤ z.length by omega), Nat.succ_mul]; omega)]
    simp

theorem run_buildSlice {T E len : Nat} {ek : EK} (hu : P.underlying T = some (.slice E)) (hE : ∀ w, (sizeOf E).run P w = .ok ek.sz w) {i : TypeInfo} {z : Value} (hi : P.info? E = some i) (hz : i.zero = some z) (hzsz : z.cells.size = ek.sz) (hbig : len * ek.sz ≤ 16777216)
    {dst : Option Nat} {parts : Array (Nat × Operand)} {type : TypeId} {pos : String} {after : Array Edge} {guard : Option (Nat × Bool)} {vs : List Value}
    (hfill : ∀ z : List Value, z.length = len * ek.sz → Instr.fill (fun i => some (i * ek.sz, ek.sz)) z.toArray (parts.toList.map fun p => (p.1, a.eval p.2)) = some vs.toArray) :
    (execOp a.eval ⟨dst, .buildSlice T len parts, type, pos, after, guard⟩).run P w = .ok (.value (.slice (some ⟨w.heap.size, 0, none⟩) len len)) (w.alloc (.cells vs.toArray E)) := by
  have e0 := hfill ((List.range (len * ek.sz)).map fun i => z.cells[i % z.cells.size]!) (by simp)
  by_cases hn : len * ek.sz = 0
  · have e0' : Instr.fill (fun i => some (i * ek.sz, ek.sz)) (#[] : Array Value) (parts.toList.map fun p => (p.1, a.eval p.2)) = some vs.toArray := by
      rw [hn] at e0; simpa using e0
    simp only [execOp, Instr.buildSlice, Sem.run_bind, run_underlying hu, Result.andThen_ok, hE]
    rw [if_neg (by omega)]
    simp [hn, e0', newRow, Array.range_zero']
  · simp only [execOp, Instr.buildSlice, Sem.run_bind, run_underlying hu, Result.andThen_ok, hE]
    rw [if_neg (by omega)]
    have e3 : ((Array.range (len * ek.sz)).map fun i => z.cells[i % z.cells.size]!) = ((List.range (len * ek.sz)).map fun i => z.cells[i % z.cells.size]!).toArray := by
      apply Array.ext'; simp
    simp only [Sem.run_bind, if_neg hn, zeroValue, typeInfo, hi, hz, Sem.run_pure, run_program, Result.andThen_ok]
    rw [e3]
    simp [e0, newRow]

theorem l_buildSlice (hty : TyOk P ty) (hs : HSat β Z fp s w) (hf : FSat β s N a) {k : S → SV → Prop} {dst : Option Nat} {T : TypeId} {len : Nat} {parts : Array (Nat × Operand)} {type : TypeId} {pos : String}
    {after : Array Edge} {guard : Option (Nat × Bool)} (h : lOp ty (.buildSlice T len parts) s k) : LOk P β Z s w a ⟨dst, .buildSlice T len parts, type, pos, after, guard⟩ k := by
  simp only [lOp, S.go_eq] at h
  split at h <;> try exact h.elim
  rename_i d hd
  split at h <;> try exact h.elim
  · rename_i E bytes hsl
    split at h <;> try exact h.elim
    rename_i hlen hbig
    rw [nbeq, lenN_eq, decide_eq_true_eq] at hlen
    rw [nble, decide_eq_true_eq] at hbig
    obtain ⟨hu, hE, i, z, hi, hz, hisz, _, hzc⟩ := (hty T d hd).sl _ _ _ hsl
    obtain ⟨cs, hk, hcl, hclt, hfill⟩ := partsK_sound (β := β) hf 4 _ _ _ h
    have hzsz : z.cells.size = EK.fst.sz := by rw [← Array.length_toList, hzc, EK.cells_length]
    have hrun := run_buildSlice (P := P) (w := w) (a := a) (len := len) (ek := .fst) hu hE hi hz hzsz hbig (dst := dst) (parts := parts) (type := type) (pos := pos) (after := after) (guard := guard) (vs := cs.map (SC.den β))
      (fun z hz => by have := hfill z (by rw [hz, hlen]; simp [EK.sz]); simpa [EK.sz] using this)
    refine ⟨_, _, .c (.sl s.nx 4 0 len len), β.add s.nx (some ⟨w.heap.size, 0, none⟩), _, ⟨s.fr, (s.nx, .box E cs) :: s.hp, s.nx + 1⟩, hrun, .inl ?_, Env.add_lt, Ext.alloc _ hs.zlt, rfl, Nat.le_succ _, hs.add (o := .box E cs) (q := fun b => b = w.heap.size) ?_ ?_ ?_ ?_ hclt, ?_, hk⟩
    · simp [SV.den, SA.den, SC.den, Env.add_at, Addr.add_lit]
    · exact fun b hb => heap_alloc_lt hb
    · simp
    · intro b hb; subst hb; simp
    · exact ⟨w.heap.size, rfl, rfl, by rw [heap_alloc_at, SC.map_den_congr Env.add_lt hclt]⟩
    · show s.nx < s.nx + 1; omega
  · rename_i E ek bytes hne hsl
    split at h <;> try exact h.elim
    rename_i hlen hbig
    rw [nbeq, lenN_eq, decide_eq_true_eq] at hlen
    rw [nble, decide_eq_true_eq] at hbig
    obtain ⟨hu, hE, i, z, hi, hz, hisz, _, hzc⟩ := (hty T d hd).sl _ _ _ hsl
    obtain ⟨xs, hk, hxl, hfill⟩ := elemsK_sound (β := β) hf ek _ _ _ h
    have hzsz : z.cells.size = ek.sz := by rw [← Array.length_toList, hzc, EK.cells_length]
    have hrun := run_buildSlice (P := P) (w := w) (a := a) (len := len) (ek := ek) hu hE hi hz hzsz hbig (dst := dst) (parts := parts) (type := type) (pos := pos) (after := after) (guard := guard) (vs := flat ek xs ++ [])
      (fun z hz => by have := hfill z (by rw [hz, ← hlen, Nat.zero_add]); simpa using this)
    exact l_arr hs (xs := xs) (sp := 0) (post := []) hrun (fun b hb => heap_alloc_lt hb) (by simp) rfl rfl rfl (heap_alloc_at _) (by simp) hk

theorem made_flat (ek : EK) (z : Array Value) (hz : z.toList = ek.cells ek.dflt) (n : Nat) : (madeCells z (n * ek.sz)).toList = flat ek (List.replicate n ek.dflt) := by
  have hzs : z.size = ek.sz := by rw [← Array.length_toList, hz, EK.cells_length]
  apply List.ext_getElem?
  intro j
  have hpos : 0 < ek.sz := by cases ek <;> decide
  by_cases hj : j < n * ek.sz
  · have hq : j / ek.sz < n := (Nat.div_lt_iff_lt_mul hpos).2 hj
    have hr : j % ek.sz < ek.sz := Nat.mod_lt _ hpos
    have h1 := flat_get ek (List.replicate n ek.dflt) (j / ek.sz) (j % ek.sz) (by simpa using hq) hr
    rw [Nat.mul_comm, Nat.div_add_mod] at h1
    rw [h1]
    simp only [madeCells, Array.toList_map, Array.toList_range, List.getElem?_map, List.getElem?_range hj, Option.map_some, hzs]
    have hd : (List.replicate n ek.dflt).getD (j / ek.sz) ek.dflt = ek.dflt := by
      simp [List.getD, hq]
    rw [hd, ← hz]
    simp [hzs, hr]
  · rw [List.getElem?_eq_none (by rw [Array.length_toList, size_madeCells]; omega), List.getElem?_eq_none (by rw [flat_length]; simp; omega)]

theorem l_makeSlice (hty : TyOk P ty) (hs : HSat β Z fp s w) (hf : FSat β s N a) {k : S → SV → Prop} {dst : Option Nat} {T : TypeId} {l c : Operand} {type : TypeId} {pos : String}
    {after : Array Edge} {guard : Option (Nat × Bool)} (h : lOp ty (.makeSlice T l c) s k) : LOk P β Z s w a ⟨dst, .makeSlice T l c, type, pos, after, guard⟩ k := by
  simp only [lOp, S.go_eq] at h
  split at h <;> try exact h.elim
  rename_i d l' c' hd hl hc
  split at h <;> try exact h.elim
  rename_i E ek bytes hsl
  obtain ⟨⟨h0, h1, h2, h3⟩, h⟩ := h
  obtain ⟨hu, hE, i, z, hi, hz, hisz, hib, hzc⟩ := (hty T d hd).sl _ _ _ hsl
  obtain ⟨hel, _⟩ := ev_den hf hl
  obtain ⟨hec, _⟩ := ev_den hf hc
  have hr := run_make (P := P) w T E i z hu hi hz .i64 .i64 l' c' h0 h1 (by rw [hib]; exact h2) h3
  rw [hisz] at hr
  have hm : (madeCells z.cells (c'.toNat * ek.sz)) = (flat ek (List.replicate l'.toNat ek.dflt) ++ flat ek (List.replicate (c'.toNat - l'.toNat) ek.dflt)).toArray := by
    apply Array.ext'
    rw [made_flat ek z.cells hzc]
    have : List.replicate c'.toNat ek.dflt = List.replicate l'.toNat ek.dflt ++ List.replicate (c'.toNat - l'.toNat) ek.dflt := by
      rw [List.replicate_append_replicate]; congr 1; omega
    rw [this]
    show flat ek _ = flat ek _ ++ flat ek _
    unfold flat
    rw [List.flatMap_append]
  refine l_arr hs (xs := List.replicate l'.toNat ek.dflt) (sp := c'.toNat - l'.toNat) (post := flat ek (List.replicate (c'.toNat - l'.toNat) ek.dflt)) (w' := w.alloc (.cells (madeCells z.cells (c'.toNat * ek.sz)) E))
    ?_ (fun b hb => heap_alloc_lt hb) (by simp) rfl rfl rfl ?_ (by rw [flat_length]; simp) h
  · simp only [execOp, hel, hec, SV.den, SA.den, SC.den, Sem.run_bind, hr, Result.andThen_ok, Sem.run_pure]
  · rw [heap_alloc_at, hm]

/-- A store. -/
theorem run_storeAt {T : Nat} {d : STy} (hty : TyOk1 P T d) {b off E : Nat} {cur : List Value} {vs : List Value} (hh : w.heap[b]? = some (.cells cur.toArray E (0, 0))) (hl : vs.length = d.zero.length) (hfit : off + vs.length ≤ cur.length)
    (h1 : ∀ v ∈ vs, v.oneCell' = true) {v : Value} (hv : v.cells = vs.toArray) :
    (Instr.storeAt T (.pointer (some ⟨b, off, none⟩)) v).run P w = .ok () (w.setRow b (cur.take off ++ vs ++ cur.drop (off + vs.length)).toArray) := by
  have := run_storeCells_at P b off E vs 0 cur.toArray w hh (by simpa using hfit) h1
  simp only [Nat.add_zero] at this
  simp only [Instr.storeAt, Instr.sureAddr, storeVar, pure_bind, Sem.run_bind, hty.size, Result.andThen_ok, hv]
  simp [hl, this]

end
end Go.Fw

/-
  The soundness of the operations that make or write memory (third part): stores, appends.
-/
namespace Go.Fw
open Go

theorem flat_cons (k : EK) (x : k.ty) (xs : List k.ty) : flat k (x :: xs) = k.cells x ++ flat k xs := by simp [flat]
theorem flat_append (k : EK) (xs ys : List k.ty) : flat k (xs ++ ys) = flat k xs ++ flat k ys := by simp [flat]

theorem flat_set (k : EK) (e : k.ty) : ∀ (xs : List k.ty) (i : Nat), i < xs.length → flat k (xs.set i e) = (flat k xs).take (i * k.sz) ++ k.cells e ++ (flat k xs).drop (i * k.sz + k.sz)
  | [], i, h => by simp at h
  | x :: xs, 0, _ => by
    have := EK.cells_length k x
    rw [List.set_cons_zero, flat_cons, flat_cons, Nat.zero_mul, Nat.zero_add, List.take_zero, List.nil_append, List.drop_append_of_le_length (by omega), List.drop_of_length_le (by omega), List.nil_append]
  | x :: xs, i + 1, h => by
    have hl := EK.cells_length k x
    have e1 : (i + 1) * k.sz = (k.cells x).length + i * k.sz := by rw [Nat.succ_mul]; omega
    have e2 : (k.cells x).length + i * k.sz + k.sz = (k.cells x).length + (i * k.sz + k.sz) := by omega
    rw [List.set_cons_succ, flat_cons, flat_cons, flat_set k e xs i (by simpa using h), e1, e2, List.take_length_add_append, List.drop_length_add_append]
    simp [List.append_assoc]

theorem flat_setF (k : EK) (e : k.ty) (off : Nat) (v : Value) (ho : off < k.sz) : ∀ (xs : List k.ty) (i : Nat), i < xs.length → k.cells e = (k.cells (xs.getD i k.dflt)).set off v →
    flat k (xs.set i e) = (flat k xs).set (i * k.sz + off) v
  | [], i, h, _ => by simp at h
  | x :: xs, 0, _, he => by
    have hl := EK.cells_length k x
    rw [List.set_cons_zero, flat_cons, flat_cons, Nat.zero_mul, Nat.zero_add, he, List.getD_cons_zero, List.set_append_left _ _ (by omega)]
  | x :: xs, i + 1, h, he => by
    have hl := EK.cells_length k x
    rw [List.getD_cons_succ] at he
    rw [List.set_cons_succ, flat_cons, flat_cons, flat_setF k e off v ho xs i (by simpa using h) he, Nat.succ_mul, List.set_append_right _ _ (by omega)]
    congr 2; omega

theorem set_take_drop {α : Type} (l : List α) (n : Nat) (v : α) (h : n < l.length) : l.set n v = l.take n ++ [v] ++ l.drop (n + 1) := by
  rw [List.set_eq_take_append_cons_drop, if_pos h]; simp

theorem take_app {α : Type} (p l q : List α) (n m : Nat) (h : n = p.length + m) (hm : m ≤ l.length) : (p ++ l ++ q).take n = p ++ l.take m := by
  subst h
  rw [List.append_assoc, List.take_length_add_append, List.take_append_of_le_length hm]
theorem drop_app {α : Type} (p l q : List α) (n m : Nat) (h : n = p.length + m) (hm : m ≤ l.length) : (p ++ l ++ q).drop n = l.drop m ++ q := by
  subst h
  rw [List.append_assoc, List.drop_length_add_append, List.drop_append_of_le_length hm]

section
variable {P : Program} {ty : List (Nat × STy)} {β : Env} {Z : Nat → Prop} {fp : Nat → Nat → Prop} {s : S} {w : World} {N : NT} {a : Act}

theorem Ext.setRow {g : Nat} (cs : Array Value) (hz : ¬ Z g) : Ext Z w (w.setRow g cs) :=
  ⟨rfl, rfl, rfl, by simp, fun b hb => setRow_other w g b cs (fun e => hz (e ▸ hb))⟩

/-- An object has been written. -/
theorem l_put (hs : HSat β Z fp s w) {o : Oper} {k : S → SV → Prop} {id : Nat} {ob ob' : SO} {g : Nat} {cs : Array Value} (hl : look s.hp id = some ob) (hg : fp id g)
    (hrun : (execOp a.eval o).run P w = .ok .skip (w.setRow g cs)) (hok : ob'.ok β Z (fp id) (w.setRow g cs) (β id)) (hlt : ob'.lt s.nx)
    (h : k ⟨s.fr, upd s.hp id ob', s.nx⟩ .u) : LOk P β Z s w a o k :=
  ⟨_, _, .u, β, fp, ⟨s.fr, upd s.hp id ob', s.nx⟩, hrun, .inr ⟨rfl, rfl⟩, fun _ _ => rfl, Ext.setRow _ (hs.flt _ _ hl g hg).2, rfl, Nat.le_refl _,
    hs.put hl (fun b hb => setRow_other w g b cs (fun e => hb (e ▸ hg))) (by simp) hok hlt, (by intro c hc; cases hc), h⟩

theorem l_store (hty : TyOk P ty) (hs : HSat β Z fp s w) (hf : FSat β s N a) {k : S → SV → Prop} {dst : Option Nat} {T : TypeId} {x y : Operand} {type : TypeId} {pos : String}
    {after : Array Edge} {guard : Option (Nat × Bool)} (h : lOp ty (.store T x y) s k) : LOk P β Z s w a ⟨dst, .store T x y, type, pos, after, guard⟩ k := by
  simp only [lOp, S.go_eq] at h
  split at h <;> try exact h.elim
  · rename_i d id off v hd hx hy
    split at h <;> try exact h.elim
    rename_i T' cells cs hl hcs
    split at h <;> try exact h.elim
    rename_i hlen hfit
    rw [nbeq, lenN_eq, lenN_eq, decide_eq_true_eq] at hlen
    rw [nble, lenN_eq, lenN_eq, decide_eq_true_eq] at hfit
    rw [forceC_iff, updK_iff] at h
    obtain ⟨hex, _⟩ := ev_den hf hx
    obtain ⟨hey, hlt⟩ := ev_den hf hy
    obtain ⟨hc, hcl⟩ := cells_cs (β := β) hcs hlt
    obtain ⟨b, hb, hfp, hh⟩ := box_at hs hl
    have hr := run_storeAt (P := P) (w := w) (hty T d hd) (b := b) (off := off) (cur := cells.map (SC.den β)) (vs := cs.map (SC.den β)) hh (by simpa using hlen) (by simpa using hfit)
      (by intro v hv; obtain ⟨c, hc', rfl⟩ := List.mem_map.1 hv; exact SC.den_one (hcl c hc')) hc
    have hex' : a.eval x = .pointer (some ⟨b, off, none⟩) := by rw [hex]; simp [SV.den, SA.den, SC.den, hb, Addr.add_lit]
    refine l_put hs hl hfp (cs := _) (by
      simp only [execOp, hex', hey, Sem.run_bind, hr, Result.andThen_ok, Sem.run_pure]
      rfl) ?_ ?_ h
    · refine ⟨b, hb, hfp, ?_⟩
      rw [setRow_heap w b _ _ T' _ hh, wr_eq]
      simp
    · intro c hc'
      rw [wr_eq] at hc'
      have hol : ∀ c ∈ cells, SC.lt s.nx c := (hs.lto id _ hl).2
      simp only [List.mem_append] at hc'
      rcases hc' with (hc' | hc') | hc'
      · exact hol c (List.mem_of_mem_take hc')
      · exact hcl c hc'
      · exact hol c (List.mem_of_mem_drop hc')
  · rename_i d id sz i off v hd hx hy
    split at h <;> try exact h.elim
    rename_i E ek xs sp cs hl hcs
    split at h <;> try exact h.elim
    rename_i hlen hsz
    rw [nbeq, lenN_eq, lenN_eq, decide_eq_true_eq] at hlen
    rw [nbeq, decide_eq_true_eq] at hsz
    subst hsz
    obtain ⟨hi, h⟩ := h
    obtain ⟨hex, _⟩ := ev_den hf hx
    obtain ⟨hey, hlt⟩ := ev_den hf hy
    obtain ⟨hc, hcl⟩ := cells_cs (β := β) hcs hlt
    have hok := hs.obj _ _ hl
    cases hb : β id with
    | none =>
      rw [hb] at hok
      have : xs = [] := hok.1
      subst this
      simp at hi
    | some x' =>
      rw [hb] at hok
      obtain ⟨hsp, hfp, pre, post, hh, hpre, hpost⟩ := hok
      have hil : i * ek.sz + ek.sz ≤ (flat ek xs).length := by
        rw [flat_length, ← Nat.succ_mul]; exact Nat.mul_le_mul_right _ hi
      have hrun : ∀ (vs : List Value), cs.map (SC.den β) = vs → i * ek.sz + off + vs.length ≤ (flat ek xs).length →
          (execOp a.eval ⟨dst, .store T x y, type, pos, after, guard⟩).run P w =
            .ok .skip (w.setRow x'.block (pre ++ ((flat ek xs).take (i * ek.sz + off) ++ vs ++ (flat ek xs).drop (i * ek.sz + off + vs.length)) ++ post).toArray) := by
        intro vs hvs hfit
        have hr := run_storeAt (P := P) (w := w) (hty T d hd) (b := x'.block) (off := x'.off + (i * ek.sz + off)) (cur := pre ++ flat ek xs ++ post) (vs := vs) hh (by rw [← hvs]; simpa using hlen)
          (by simp only [List.length_append]; omega)
          (by intro v hv; rw [← hvs] at hv; obtain ⟨c, hc', rfl⟩ := List.mem_map.1 hv; exact SC.den_one (hcl c hc')) (by rw [← hvs]; exact hc)
        have hex' : a.eval x = .pointer (some ⟨x'.block, x'.off + (i * ek.sz + off), none⟩) := by rw [hex]; simp [SV.den, SA.den, SC.den, hb, add_eq hsp]
        simp only [execOp, hex', hey, Sem.run_bind, hr, Result.andThen_ok, Sem.run_pure]
        rw [take_app pre (flat ek xs) post _ (i * ek.sz + off) (by omega) (by omega), drop_app pre (flat ek xs) post _ (i * ek.sz + off + vs.length) (by omega) (by omega)]
        simp [List.append_assoc]
      have fin : ∀ (vs : List Value) (e : ek.ty), cs.map (SC.den β) = vs → i * ek.sz + off + vs.length ≤ (flat ek xs).length →
          flat ek (xs.set i e) = (flat ek xs).take (i * ek.sz + off) ++ vs ++ (flat ek xs).drop (i * ek.sz + off + vs.length) →
          k ⟨s.fr, upd s.hp id (.arr true E ek (xs.set i e) sp), s.nx⟩ .u → LOk P β Z s w a ⟨dst, .store T x y, type, pos, after, guard⟩ k := by
        intro vs e hvs hfit hfl hk
        refine l_put (ob' := .arr true E ek (xs.set i e) sp) hs hl hfp (hrun vs hvs hfit) ?_ trivial hk
        rw [hb]
        refine ⟨hsp, hfp, pre, post, ?_, hpre, hpost⟩
        rw [setRow_heap w _ _ _ E _ hh, hfl]
      split at h
      · rename_i hagg
        split at h <;> try exact h.elim
        rename_i e h0 he
        rw [nbeq, decide_eq_true_eq] at h0
        subst h0
        rw [updK_iff] at h
        have hcl' := ofSym_spec (β := β) he
        have hcsz := EK.cells_length ek e
        refine fin (ek.cells e) e hcl' (by omega) ?_ h
        rw [flat_set ek e xs i hi, hcsz]; rfl
      · rename_i hagg
        split at h <;> try exact h.elim
        rename_i c
        split at h <;> try exact h.elim
        rename_i e he
        rw [updK_iff] at h
        obtain ⟨he1, he2⟩ := setF_spec (β := β) he
        refine fin [c.den β] e rfl (by simp only [List.length_singleton]; omega) ?_ h
        rw [flat_setF ek e off _ he2 xs i hi he1, set_take_drop _ _ _ (by omega)]
        rfl

end
end Go.Fw

/-
  The soundness of the operations that make or write memory (fourth part): appends; all together.
-/
namespace Go.Fw
open Go

theorem sub_flat (k : EK) (xs : List k.ty) (lo n : Nat) (h : lo + n ≤ xs.length) : flat k xs = (flat k xs).take (lo * k.sz) ++ flat k (sub xs lo n) ++ (flat k xs).drop ((lo + n) * k.sz) := by
  have e : xs = xs.take lo ++ sub xs lo n ++ xs.drop (lo + n) := by
    unfold sub
    rw [List.append_assoc, ← List.drop_drop, List.take_append_drop, List.take_append_drop]
  have l1 : (flat k (xs.take lo)).length = lo * k.sz := by rw [flat_length, List.length_take, Nat.min_eq_left (by omega)]
  have l2 : (flat k (sub xs lo n)).length = n * k.sz := by rw [flat_length]; unfold sub; rw [List.length_take, List.length_drop, Nat.min_eq_left (by omega)]
  have e2 : flat k xs = flat k (xs.take lo) ++ flat k (sub xs lo n) ++ flat k (xs.drop (lo + n)) := by
    conv => lhs; rw [e]
    rw [flat_append, flat_append]
  have t1 : (flat k xs).take (lo * k.sz) = flat k (xs.take lo) := by
    rw [e2, List.append_assoc, ← l1, List.take_left]
  have t2 : (flat k xs).drop ((lo + n) * k.sz) = flat k (xs.drop (lo + n)) := by
    have l3 : (flat k (xs.take lo) ++ flat k (sub xs lo n)).length = (lo + n) * k.sz := by rw [List.length_append, l1, l2, Nat.add_mul]
    rw [← l3]
    conv => lhs; rw [e2]
    rw [List.drop_left]
  rw [t1, t2]
  exact e2

theorem sub_length {α : Type} (xs : List α) (lo n : Nat) (h : lo + n ≤ xs.length) : (sub xs lo n).length = n := by
  unfold sub; rw [List.length_take, List.length_drop, Nat.min_eq_left (by omega)]

section
variable {P : Program} {ty : List (Nat × STy)} {β : Env} {Z : Nat → Prop} {fp : Nat → Nat → Prop} {s : S} {w : World} {N : NT} {a : Act}

/-- What a slice holds, that is read. -/
structure Src (β : Env) (w : World) (ek : EK) (v : Value) (n : Nat) (ys : List ek.ty) : Prop where
  len : ys.length = n
  at' : ∃ x cap, v = .slice x n cap ∧ (n = 0 ∨ ∃ y, x = some y ∧ ∀ j u, (flat ek ys)[j]? = some u → w.cell? (y.add j) = some u)

theorem flat_sub_cell {w : World} {x : Addr} (hsp : x.spot = none) {k : EK} {xs : List k.ty} {lo n : Nat} (h : lo + n ≤ xs.length)
    (hc : ∀ j v, (flat k xs)[j]? = some v → w.cell? ⟨x.block, x.off + j, none⟩ = some v) (j : Nat) (v : Value) (hj : (flat k (sub xs lo n))[j]? = some v) :
    w.cell? ((x.add (lo * k.sz)).add j) = some v := by
  have hlen : (flat k (sub xs lo n)).length = n * k.sz := by rw [flat_length, sub_length _ _ _ h]
  have hjl : j < n * k.sz := by rw [← hlen]; exact (List.getElem?_eq_some_iff.1 hj).1
  have l1 : ((flat k xs).take (lo * k.sz)).length = lo * k.sz := by
    rw [List.length_take, flat_length, Nat.min_eq_left (Nat.mul_le_mul_right _ (by omega))]
  have : (flat k xs)[lo * k.sz + j]? = some v := by
    rw [sub_flat k xs lo n h, List.append_assoc, List.getElem?_append_right (by omega), l1, Nat.add_sub_cancel_left, List.getElem?_append_left (by omega), hj]
  have := hc _ _ this
  rw [add_eq hsp, Addr.add_lit, Nat.add_assoc]
  exact this

theorem srcK_sound (hs : HSat β Z fp s w) {ek : EK} {u : SV} {k : Nat → List ek.ty → Prop} (h : srcK s.hp ek u k) : ∃ n ys, k n ys ∧ Src β w ek (u.den β) n ys := by
  unfold srcK at h
  split at h <;> try exact h.elim
  · exact ⟨0, [], h, rfl, none, 0, rfl, .inl rfl⟩
  · rename_i id sz lo len cap
    split at h <;> try exact h.elim
    rename_i own E k0 xs0 sp hl
    split at h <;> try exact h.elim
    rename_i xs hcast hsz
    rw [nbeq, decide_eq_true_eq] at hsz
    obtain ⟨e, he⟩ := EK.cast_spec hcast
    subst e
    change xs = xs0 at he
    subst he
    obtain ⟨hle, h⟩ := h
    refine ⟨len, _, h, sub_length _ _ _ hle, _, cap, rfl, ?_⟩
    by_cases hn : len = 0
    · exact .inl hn
    · right
      have hne : xs ≠ [] := by intro e; simp [e] at hle; omega
      obtain ⟨x, hx, hsp, hc⟩ := SO.ok_cell (hs.obj _ _ hl) hne
      exact ⟨_, by rw [hx, hsz]; rfl, fun j v hj => flat_sub_cell hsp hle hc j v hj⟩
  · rename_i y
    split at h <;> try exact h.elim
    rename_i id hp
    split at h <;> try exact h.elim
    rename_i E k0 m hl
    split at h <;> try exact h.elim
    rename_i ys hcast
    obtain ⟨e, he⟩ := EK.cast_spec hcast
    subst e
    change ys = rowA m y.a at he
    obtain ⟨hd, h⟩ := h
    refine ⟨y.n, ys, h, ?_, y.a, y.c, rfl, ?_⟩
    · rw [he]
      unfold Hd at hd
      unfold rowA
      cases ha : y.a with
      | none => rw [ha] at hd; simp [hd.1]
      | some a =>
        rw [ha] at hd
        simp only at hd ⊢
        cases hl2 : lkA m a with
        | none => rw [hl2] at hd; exact hd.elim
        | some q => rw [hl2] at hd; exact hd.1.symm
    · unfold Hd at hd
      cases ha : y.a with
      | none => rw [ha] at hd; exact .inl hd.1
      | some a =>
        right
        rw [ha] at hd
        simp only at hd
        cases hl2 : lkA m a with
        | none => rw [hl2] at hd; exact hd.elim
        | some q =>
          obtain ⟨h1, _, pre, post, h3, h4, _⟩ := (hs.obj _ _ hl).row a q.1 q.2 hl2
          refine ⟨a, rfl, fun j u hj => ?_⟩
          have hr : rowA m (some a) = q.1 := by unfold rowA; simp [hl2]
          rw [he, ha, hr] at hj
          rw [add_eq h1]
          exact flat_cell h3 h4 j u hj

theorem Src.first {ek : EK} {v : Value} {n : Nat} {ys : List ek.ty} (hs : Src β w ek v n ys) {w' : World} (hw : ∀ x, w'.cell? x = w.cell? x) : (Builtin.firstCells ek.sz n v).run P w' = .ok (flat ek ys).toArray w' := by
  obtain ⟨hlen, x, cap, rfl, h⟩ := hs
  rcases h with rfl | ⟨y, rfl, hc⟩
  · have : ys = [] := List.eq_nil_of_length_eq_zero hlen
    subst this
    cases x with
    | none => simp [Builtin.firstCells, flat]
    | some x => simp [Builtin.firstCells, loadCells, loadCellsFrom, flat]
  · exact run_firstCells_some w' ek.sz n y n cap (flat ek ys) (by rw [flat_length, hlen]) (fun j u hj => by rw [hw]; exact hc j u hj)

theorem Src.lenOf {ek : EK} {v : Value} {n : Nat} {ys : List ek.ty} (hs : Src β w ek v n ys) {w' : World} : (Builtin.lenOf v).run P w' = .ok n w' := by
  obtain ⟨_, x, cap, rfl, _⟩ := hs
  rfl

theorem run_append_in {T E : Nat} {i : TypeInfo} (hu : P.underlying T = some (.slice E)) (hi : P.info? E = some i) {uv : Value} {n : Nat} (hlen : ∀ w, (Builtin.lenOf uv).run P w = .ok n w)
    {news : List Value} (hfirst : (Builtin.firstCells i.size n uv).run P w = .ok news.toArray w) {g o len cap E0 : Nat} {cur : List Value} (hroom : len + n ≤ cap)
    (hh : w.heap[g]? = some (.cells cur.toArray E0 (0, 0))) (hfit : o + len * i.size + news.length ≤ cur.length) (h1 : ∀ v ∈ news, v.oneCell' = true) (type : TypeId) :
    (Builtin.append_ #[T, T] type #[.slice (some ⟨g, o, none⟩) len cap, uv]).run P w =
      .ok (.slice (some ⟨g, o, none⟩) (len + n) cap) (w.setRow g (cur.take (o + len * i.size) ++ news ++ cur.drop (o + len * i.size + news.length)).toArray) := by
  have hst := run_storeCells_at P g (o + len * i.size) E0 news 0 cur.toArray w hh (by simpa using hfit) h1
  simp only [Nat.add_zero] at hst
  simp [Builtin.append_, run_underlying hu, sizeOf, typeInfo, hi, hlen, hroom, hfirst, Addr.add_lit, hst]

theorem run_append_nil' {T E : Nat} {i : TypeInfo} (hu : P.underlying T = some (.slice E)) (hi : P.info? E = some i) {uv : Value} (hlen : ∀ w, (Builtin.lenOf uv).run P w = .ok 0 w)
    {news : List Value} (hfirst : (Builtin.firstCells i.size 0 uv).run P w = .ok news.toArray w) (type : TypeId) :
    (Builtin.append_ #[T, T] type #[.slice none 0 0, uv]).run P w = .ok (.slice none 0 0) w := by
  simp [Builtin.append_, run_underlying hu, sizeOf, typeInfo, hi, hlen, hfirst]

theorem run_append_out {T E : Nat} {i : TypeInfo} {z : Value} (hu : P.underlying T = some (.slice E)) (hi : P.info? E = some i) (hz : i.zero = some z) {uv : Value} {n : Nat} (hlen : ∀ w, (Builtin.lenOf uv).run P w = .ok n w)
    {news olds : List Value} (hfirst : (Builtin.firstCells i.size n uv).run P w.drew = .ok news.toArray w.drew) {base : Option Addr} {len cap : Nat}
    (hold : (Builtin.firstCells i.size len (.slice base len cap)).run P w.drew = .ok olds.toArray w.drew) (hroom : cap < len + n)
    (h63 : len + n ≤ 9223372036854775807) (hfit : Builtin.nextslicecap (len + n) cap * i.bytes ≤ 281474976710656) (type : TypeId) :
    (Builtin.append_ #[T, T] type #[.slice base len cap, uv]).run P w =
      .ok (.slice (some ⟨w.heap.size, 0, none⟩) (len + n) (grownCap w (len + n) cap E))
        (w.drew.alloc (.cells (olds ++ news ++ (Builtin.zeroCells z.cells (grownCap w (len + n) cap E - (len + n))).toList).toArray E)) := by
  have hn : ¬ (len + n ≤ cap) := by omega
  have h63' : ¬ (9223372036854775807 < ((len : Int) + (n : Int))) := by omega
  have h48' : ¬ (281474976710656 < Builtin.nextslicecap (len + n) cap * i.bytes) := by omega
  simp [Builtin.append_, run_underlying hu, sizeOf, typeInfo, zeroValue, hi, hz, hlen, hn, h63', h48', Question.forced, hfirst, hold, newRow, grownCap]
  congr 2
  apply Array.ext'
  simp

theorem zeroCells_flat (ek : EK) {z : Value} (hz : z.cells.toList = ek.cells ek.dflt) (n : Nat) : (Builtin.zeroCells z.cells n).toList.length = n * ek.sz := by
  have hzs : z.cells.size = ek.sz := by rw [← Array.length_toList, hz, EK.cells_length]
  rw [Array.length_toList, size_zeroCells, hzs]

theorem cells_one (ek : EK) (x : ek.ty) : ∀ v ∈ ek.cells x, v.oneCell' = true := by
  intro v hv
  obtain ⟨c, hc, rfl⟩ := List.mem_map.1 hv
  exact SC.den_one (EK.sym_lt ek x 0 c hc)
theorem flat_one (ek : EK) (xs : List ek.ty) : ∀ v ∈ flat ek xs, v.oneCell' = true := by
  intro v hv
  obtain ⟨x, _, hx⟩ := List.mem_flatMap.1 hv
  exact cells_one ek x v hx

theorem l_append (hty : TyOk P ty) (hs : HSat β Z fp s w) (hf : FSat β s N a) {k : S → SV → Prop} {dst : Option Nat} {args : Array Operand} {argTypes : Array TypeId} {type : TypeId} {pos : String}
    {after : Array Edge} {guard : Option (Nat × Bool)} (h : lOp ty (.call ⟨.builtin .append, args, argTypes⟩) s k) : LOk P β Z s w a ⟨dst, .call ⟨.builtin .append, args, argTypes⟩, type, pos, after, guard⟩ k := by
  simp only [lOp, S.go_eq] at h
  split at h <;> try exact h.elim
  rename_i x y T T' h1 h2
  have ha : args = #[x, y] := by apply Array.ext'; simp [h1]
  have hat : argTypes = #[T, T'] := by apply Array.ext'; simp [h2]
  subst ha hat
  split at h <;> try exact h.elim
  rename_i d v u hT hd hx hy
  rw [nbeq, decide_eq_true_eq] at hT
  subst hT
  split at h <;> try exact h.elim
  rename_i E ek bytes hsl
  obtain ⟨hu, hE, i, z, hi, hz, hisz, hib, hzc⟩ := (hty T d hd).sl _ _ _ hsl
  obtain ⟨hex, hltx⟩ := ev_den hf hx
  obtain ⟨hey, hlty⟩ := ev_den hf hy
  have hrun : ∀ r w', (Builtin.append_ #[T, T] type #[v.den β, u.den β]).run P w = .ok r w' →
      (execOp a.eval ⟨dst, .call ⟨.builtin .append, #[x, y], #[T, T]⟩, type, pos, after, guard⟩).run P w = .ok (.value r) w' := by
    intro r w' hr
    simp [execOp, resolve, invoke, builtin, hex, hey, hr]
  have finish : ∀ (len n cap : Nat) (xs ys : List ek.ty) (base : Option Addr) (k' : Prop) (s1 : S), s1.fr = s.fr → s1.nx = s.nx → HSat β Z fp s1 w → True := fun _ _ _ _ _ _ _ _ _ _ _ => trivial
  unfold baseK at h
  split at h <;> try exact h.elim
  · -- a literal nil
    obtain ⟨n, ys, h, hsrc⟩ := srcK_sound hs h
    obtain ⟨⟨hb, h63⟩, h⟩ := h
    simp only [Nat.zero_add] at hb h63 h
    by_cases hn : n = 0
    · subst hn
      have hys : ys = [] := List.eq_nil_of_length_eq_zero hsrc.len
      subst hys
      have hr := hrun _ _ (run_append_nil' hu hi (fun w => hsrc.lenOf) (by rw [hisz]; exact hsrc.first (fun _ => rfl)) type)
      refine ⟨_, _, .c (.sl s.nx ek.sz 0 0 0), β.add s.nx none, fun i => if i = s.nx then (fun _ => False) else fp i, ⟨s.fr, (s.nx, .arr true E ek (lOp.appL [] []) 0) :: s.hp, s.nx + 1⟩, hr, .inl ?_, Env.add_lt, Ext.refl _ _, rfl, Nat.le_succ _,
        hs.add (o := .arr true E ek (lOp.appL [] []) 0) (fun _ _ => rfl) (Nat.le_refl _) (fun _ h => h.elim) ⟨rfl, rfl⟩ trivial, ?_, h 0⟩
      · simp [SV.den, SA.den, SC.den, Env.add_at]
      · show s.nx < s.nx + 1; omega
    · have hr := hrun _ _ (run_append_out (w := w) (base := none) (len := 0) (cap := 0) (olds := []) hu hi hz (fun w => hsrc.lenOf) (by rw [hisz]; exact hsrc.first (fun _ => rfl)) (by simp [Builtin.firstCells]) (by omega) (by omega)
        (by rw [hib]; exact growslice_fits (by omega) (by simpa using hb)) type)
      simp only [Nat.zero_add] at hr
      have hg := grownCap_ge w n 0 E
      refine l_arr hs (E := E) (xs := ys) (sp := grownCap w n 0 E - n) (post := (Builtin.zeroCells z.cells (grownCap w n 0 E - n)).toList) hr (fun b hb => by
        show (w.drew.alloc _).heap[b]? = _; exact heap_alloc_lt (w := w.drew) hb) (by simp) rfl rfl rfl ?_ (zeroCells_flat ek hzc _) ?_
      · have := heap_alloc_at (w := w.drew) (.cells (([] : List Value) ++ flat ek ys ++ (Builtin.zeroCells z.cells (grownCap w n 0 E - n)).toList).toArray E)
        exact this
      · have := h (grownCap w n 0 E - n)
        rw [show n + (grownCap w n 0 E - n) = grownCap w n 0 E by omega] at this
        exact this
  · -- an array
    rename_i id sz lo len cap
    split at h <;> try exact h.elim
    rename_i E0 k0 xs0 sp0 hl
    split at h <;> try exact h.elim
    rename_i xs hcast hsz hE0
    rw [nbeq, decide_eq_true_eq] at hsz hE0
    obtain ⟨e, he⟩ := EK.cast_spec hcast
    subst e
    change xs = xs0 at he
    subst he
    subst hE0
    obtain ⟨⟨hle, hcap, hlc⟩, h⟩ := h
    obtain ⟨n, ys, h, hsrc⟩ := srcK_sound hs h
    simp only [delO] at h
    rw [delC_iff] at h
    obtain ⟨⟨hb, h63⟩, h⟩ := h
    have hs1 := hs.del id
    have hok := hs.obj _ _ hl
    have hsl' := sub_length xs lo len hle
    cases hbe : β id with
    | none =>
      rw [hbe] at hok
      obtain ⟨hx0, hsp0⟩ := hok
      subst hx0 hsp0
      simp only [List.length_nil] at hle hcap
      have : lo = 0 ∧ len = 0 ∧ cap = 0 := by omega
      obtain ⟨rfl, rfl, rfl⟩ := this
      have hv : (SV.a (SA.c (SC.sl id sz 0 0 0))).den β = .slice none 0 0 := by simp [SV.den, SA.den, SC.den, hbe]
      rw [hv] at hrun
      have hsub : sub ([] : List k0.ty) 0 0 = [] := rfl
      rw [hsub] at h
      simp only [Nat.zero_add] at hb h63 h
      by_cases hn : n = 0
      · subst hn
        have hys : ys = [] := List.eq_nil_of_length_eq_zero hsrc.len
        subst hys
        have hr := hrun _ _ (run_append_nil' hu hi (fun w => hsrc.lenOf) (by rw [hisz]; exact hsrc.first (fun _ => rfl)) type)
        refine ⟨_, _, .c (.sl s.nx k0.sz 0 0 0), β.add s.nx none, fun i => if i = s.nx then (fun _ => False) else fp i, ⟨s.fr, (s.nx, .arr true E0 k0 (lOp.appL [] []) 0) :: delK s.hp id, s.nx + 1⟩, hr, .inl ?_, Env.add_lt, Ext.refl _ _, rfl, Nat.le_succ _,
          hs1.add (o := .arr true E0 k0 (lOp.appL [] []) 0) (fun _ _ => rfl) (Nat.le_refl _) (fun _ h => h.elim) ⟨rfl, rfl⟩ trivial, ?_, h 0⟩
        · simp [SV.den, SA.den, SC.den, Env.add_at]
        · show s.nx < s.nx + 1; omega
      · have hr := hrun _ _ (run_append_out (w := w) (base := none) (len := 0) (cap := 0) (olds := []) hu hi hz (fun w => hsrc.lenOf) (by rw [hisz]; exact hsrc.first (fun _ => rfl)) (by simp [Builtin.firstCells]) (by omega) (by omega)
          (by rw [hib]; exact growslice_fits (by omega) (by simpa using hb)) type)
        simp only [Nat.zero_add] at hr
        have hg := grownCap_ge w n 0 E0
        obtain ⟨r, w', v', β', fp', s', R⟩ := l_arr (P := P) (k := k) (a := a) hs1 (E := E0) (xs := ys) (sp := grownCap w n 0 E0 - n) (post := (Builtin.zeroCells z.cells (grownCap w n 0 E0 - n)).toList) hr (fun b hb => by
          show (w.drew.alloc _).heap[b]? = _; exact heap_alloc_lt (w := w.drew) hb) (by simp) rfl rfl rfl (by
            have := heap_alloc_at (w := w.drew) (.cells (([] : List Value) ++ flat k0 ys ++ (Builtin.zeroCells z.cells (grownCap w n 0 E0 - n)).toList).toArray E0)
            exact this) (zeroCells_flat k0 hzc _) (by
            have := h (grownCap w n 0 E0 - n)
            rw [show n + (grownCap w n 0 E0 - n) = grownCap w n 0 E0 by omega] at this
            exact this)
        exact ⟨r, w', v', β', fp', s', R.run, R.val, R.env, R.ext, R.fr, R.nx, R.sat, R.lt, R.go⟩
    | some x' =>
      rw [hbe] at hok
      obtain ⟨hsp, hfp, pre, post, hh, hpre, hpost⟩ := hok
      have hv : (SV.a (SA.c (SC.sl id sz lo len cap))).den β = .slice (some ⟨x'.block, x'.off + lo * sz, none⟩) len cap := by
        simp [SV.den, SA.den, SC.den, hbe, add_eq hsp]
      rw [hv] at hrun
      have hfl := flat_length k0 xs
      have hysl : (flat k0 ys).length = n * k0.sz := by rw [flat_length, hsrc.len]
      by_cases hroom : len + n ≤ cap
      · have hmul : (lo + len) * k0.sz + n * k0.sz ≤ (flat k0 xs).length + post.length := by
          refine Nat.le_trans ?_ (Nat.add_le_add_left hpost _)
          rw [hfl, ← Nat.add_mul, ← Nat.add_mul]
          exact Nat.mul_le_mul_right _ (by omega)
        have hr := hrun _ _ (run_append_in (w := w) (g := x'.block) (o := x'.off + lo * sz) (len := len) (cap := cap) (E0 := E0) (cur := pre ++ flat k0 xs ++ post) hu hi (fun w => hsrc.lenOf) (by rw [hisz]; exact hsrc.first (fun _ => rfl)) hroom hh
          (by rw [hisz, hysl, List.length_append, List.length_append, hpre, hsz, Nat.add_assoc x'.off, ← Nat.add_mul]; omega) (flat_one k0 ys) type)
        have e1 : x'.off + lo * sz + len * i.size = pre.length + (lo + len) * k0.sz := by rw [hisz, hsz, Nat.add_mul, hpre]; omega
        have hll : (lo + len) * k0.sz ≤ (flat k0 xs).length := by rw [hfl]; exact Nat.mul_le_mul_right _ hle
        rw [e1, take_app pre (flat k0 xs) post _ _ rfl hll] at hr
        -- the new contents
        have hnew : ∃ pre' post' : List Value, pre ++ (flat k0 xs).take ((lo + len) * k0.sz) ++ flat k0 ys ++ (pre ++ flat k0 xs ++ post).drop (pre.length + (lo + len) * k0.sz + (flat k0 ys).length) =
            pre' ++ flat k0 (lOp.appL (sub xs lo len) ys) ++ post' ∧ pre'.length = x'.off + lo * k0.sz ∧ (cap - (len + n)) * k0.sz ≤ post'.length := by
          refine ⟨pre ++ (flat k0 xs).take (lo * k0.sz), (pre ++ flat k0 xs ++ post).drop (pre.length + (lo + len) * k0.sz + (flat k0 ys).length), ?_, ?_, ?_⟩
          · unfold lOp.appL
            rw [flat_append]
            have := sub_flat k0 xs lo len hle
            have t1 : (flat k0 xs).take ((lo + len) * k0.sz) = (flat k0 xs).take (lo * k0.sz) ++ flat k0 (sub xs lo len) := by
              have l1 : ((flat k0 xs).take (lo * k0.sz) ++ flat k0 (sub xs lo len)).length = (lo + len) * k0.sz := by
                rw [List.length_append, List.length_take, flat_length k0 (sub xs lo len), hsl', Nat.min_eq_left (by rw [hfl]; exact Nat.mul_le_mul_right _ (by omega)), Nat.add_mul]
              conv => lhs; rw [this]
              rw [← l1, List.take_left]
            rw [t1]
            simp only [List.append_assoc]
          · have : lo * k0.sz ≤ (flat k0 xs).length := by rw [hfl]; exact Nat.mul_le_mul_right _ (by omega)
            rw [List.length_append, List.length_take, Nat.min_eq_left this, hpre]
          · rw [List.length_drop, List.length_append, List.length_append, hfl, hysl]
            have h3 : (cap - (len + n)) * k0.sz + ((lo + len) * k0.sz + n * k0.sz) = (lo + cap) * k0.sz := by
              rw [← Nat.add_mul, ← Nat.add_mul]; congr 1; omega
            have h4 : (lo + cap) * k0.sz ≤ (xs.length + sp0) * k0.sz := Nat.mul_le_mul_right _ hcap
            rw [Nat.add_mul xs.length] at h4
            omega
        obtain ⟨pre', post', hnew, hpre', hpost'⟩ := hnew
        rw [hnew] at hr
        refine ⟨_, _, .c (.sl s.nx k0.sz 0 (len + n) cap), β.add s.nx (some ⟨x'.block, x'.off + lo * sz, none⟩), _, ⟨s.fr, (s.nx, .arr true E0 k0 (lOp.appL (sub xs lo len) ys) (cap - (len + n))) :: delK s.hp id, s.nx + 1⟩, hr, .inl ?_, Env.add_lt,
          Ext.setRow _ (hs.flt _ _ hl _ hfp).2, rfl, Nat.le_succ _, hs.move (o' := .arr true E0 k0 (lOp.appL (sub xs lo len) ys) (cap - (len + n))) hl (fun b hb => setRow_other w _ b _ (fun e => hb (e ▸ hfp))) (by simp) ?_ trivial, ?_, ?_⟩
        · simp [SV.den, SA.den, SC.den, Env.add_at, Addr.add_lit]
        · refine ⟨rfl, hfp, pre', post', ?_, ?_, ?_⟩
          · rw [setRow_heap w _ _ _ E0 _ hh]
          · rw [hpre', hsz]
          · exact hpost'
        · show s.nx < s.nx + 1; omega
        · have := h (cap - (len + n))
          rw [show len + n + (cap - (len + n)) = cap by omega] at this
          exact this
      · have hcells : ∀ j v, (flat k0 (sub xs lo len))[j]? = some v → w.cell? ((x'.add (lo * k0.sz)).add j) = some v :=
          fun j v hj => flat_sub_cell hsp hle (fun j v hj => flat_cell hh hpre j v hj) j v hj
        have hr := hrun _ _ (run_append_out (w := w) (base := some ⟨x'.block, x'.off + lo * sz, none⟩) (len := len) (cap := cap) (olds := flat k0 (sub xs lo len)) hu hi hz (fun w => hsrc.lenOf) (by rw [hisz]; exact hsrc.first (fun _ => rfl))
          (by rw [hisz, hsz, ← add_eq hsp]; exact run_firstCells_some w.drew k0.sz len _ len cap _ (by rw [flat_length, hsl']) hcells) (by omega) (by omega)
          (by rw [hib]; exact growslice_fits (by omega) hb) type)
        have hg := grownCap_ge w (len + n) cap E0
        obtain ⟨r, w', v', β', fp', s', R⟩ := l_arr (P := P) (k := k) (a := a) hs1 (E := E0) (xs := lOp.appL (sub xs lo len) ys) (sp := grownCap w (len + n) cap E0 - (len + n)) (post := (Builtin.zeroCells z.cells (grownCap w (len + n) cap E0 - (len + n))).toList) hr (fun b hb => by
          show (w.drew.alloc _).heap[b]? = _; exact heap_alloc_lt (w := w.drew) hb) (by simp) rfl rfl rfl (by
            have := heap_alloc_at (w := w.drew) (.cells (flat k0 (sub xs lo len) ++ flat k0 ys ++ (Builtin.zeroCells z.cells (grownCap w (len + n) cap E0 - (len + n))).toList).toArray E0)
            unfold lOp.appL
            rw [flat_append]
            exact this) (zeroCells_flat k0 hzc _) (by
            have := h (grownCap w (len + n) cap E0 - (len + n))
            rw [show len + n + (grownCap w (len + n) cap E0 - (len + n)) = grownCap w (len + n) cap E0 by omega] at this
            exact this)
        exact ⟨r, w', v', β', fp', s', R.run, R.val, R.env, R.ext, R.fr, R.nx, R.sat, R.lt, R.go⟩

/-- An object has been written; a value comes back. -/
theorem l_put2 (hs : HSat β Z fp s w) {o : Oper} {k : S → SV → Prop} {id : Nat} {ob ob' : SO} {g : Nat} {cs : Array Value} {v : SV} (hl : look s.hp id = some ob) (hg : fp id g)
    (hrun : (execOp a.eval o).run P w = .ok (.value (v.den β)) (w.setRow g cs)) (hok : ob'.ok β Z (fp id) (w.setRow g cs) (β id)) (hlt : ob'.lt s.nx) (hv : v.lt s.nx)
    (h : k ⟨s.fr, upd s.hp id ob', s.nx⟩ v) : LOk P β Z s w a o k :=
  ⟨_, _, v, β, fp, ⟨s.fr, upd s.hp id ob', s.nx⟩, hrun, .inl rfl, fun _ _ => rfl, Ext.setRow _ (hs.flt _ _ hl g hg).2, rfl, Nat.le_refl _,
    hs.put hl (fun b hb => setRow_other w g b cs (fun e => hb (e ▸ hg))) (by simp) hok hlt, hv, h⟩

theorem l_copy (hty : TyOk P ty) (hs : HSat β Z fp s w) (hf : FSat β s N a) {k : S → SV → Prop} {dst : Option Nat} {args : Array Operand} {argTypes : Array TypeId} {type : TypeId} {pos : String}
    {after : Array Edge} {guard : Option (Nat × Bool)} (h : lOp ty (.call ⟨.builtin .copy, args, argTypes⟩) s k) : LOk P β Z s w a ⟨dst, .call ⟨.builtin .copy, args, argTypes⟩, type, pos, after, guard⟩ k := by
  simp only [lOp, S.go_eq] at h
  split at h <;> try exact h.elim
  rename_i x y T T' h1 h2
  have ha : args = #[x, y] := by apply Array.ext'; simp [h1]
  have hat : argTypes = #[T, T'] := by apply Array.ext'; simp [h2]
  subst ha hat
  split at h <;> try exact h.elim
  rename_i d id sz lo len cap u hd hx hy
  split at h <;> try exact h.elim
  rename_i E ek bytes E0 k0 xs0 sp hsl hl
  split at h <;> try exact h.elim
  rename_i xs hcast hsz hE0
  rw [nbeq, decide_eq_true_eq] at hsz hE0
  obtain ⟨e, he⟩ := EK.cast_spec hcast
  subst e
  change xs = xs0 at he
  subst he
  subst hE0 hsz
  obtain ⟨hle, h⟩ := h
  obtain ⟨n, ys, h, hsrc⟩ := srcK_sound hs h
  rw [updK_iff] at h
  obtain ⟨hu, hE, i, z, hi, hz, hisz, hib, hzc⟩ := (hty T d hd).sl _ _ _ hsl
  obtain ⟨hex, hltx⟩ := ev_den hf hx
  obtain ⟨hey, hlty⟩ := ev_den hf hy
  have hrun : ∀ r w', (Builtin.copy_ #[T, T'] type #[SV.den β (.a (.c (.sl id k0.sz lo len cap))), u.den β]).run P w = .ok r w' →
      (execOp a.eval ⟨dst, .call ⟨.builtin .copy, #[x, y], #[T, T']⟩, type, pos, after, guard⟩).run P w = .ok (.value r) w' := by
    intro r w' hr
    simp [execOp, resolve, invoke, builtin, hex, hey, hr]
  have hmn : Nat.min n len ≤ n := Nat.min_le_left _ _
  have hml : Nat.min n len ≤ len := Nat.min_le_right _ _
  have hylen := hsrc.len
  have hfirst : (Builtin.firstCells k0.sz (Nat.min n len) (u.den β)).run P w = .ok (flat k0 (ys.take (Nat.min n len))).toArray w := by
    have hsrc' : Src β w k0 (u.den β) n ys := hsrc
    obtain ⟨_, x', cap', hv, hcase⟩ := hsrc'
    rw [hv]
    by_cases h0 : Nat.min n len = 0
    · rw [h0]
      cases x' with
      | none => simp [Builtin.firstCells, flat]
      | some x' => simp [Builtin.firstCells, loadCells, loadCellsFrom, flat]
    · rcases hcase with h1 | ⟨y', rfl, hc⟩
      · omega
      · refine run_firstCells_some w k0.sz _ y' n cap' (flat k0 (ys.take (Nat.min n len))) (by rw [flat_length, List.length_take, Nat.min_eq_left (by omega)]) (fun j v hj => hc j v ?_)
        have : flat k0 ys = flat k0 (ys.take (Nat.min n len)) ++ flat k0 (ys.drop (Nat.min n len)) := by rw [← flat_append, List.take_append_drop]
        rw [this]
        rw [List.getElem?_append_left (List.getElem?_eq_some_iff.1 hj).1]
        exact hj
  have hok := hs.obj _ _ hl
  cases hb : β id with
  | none =>
    rw [hb] at hok
    obtain ⟨rfl, rfl⟩ := hok
    have hlen0 : len = 0 := by simp at hle; omega
    subst hlen0
    have hm0 : Nat.min n 0 = 0 := Nat.min_zero n
    rw [hm0] at h hfirst
    have hr : (Builtin.copy_ #[T, T'] type #[SV.den β (.a (.c (.sl id k0.sz lo 0 cap))), u.den β]).run P w = .ok (goInt (0 : Nat)) w := by
      have hlo := fun w' => hsrc.lenOf (P := P) (w' := w')
      generalize u.den β = uv at hlo hfirst ⊢
      simp only [SV.den, SA.den, SC.den, hb, Option.map_none]
      simp [Builtin.copy_, run_underlying hu, hlo, hE, hm0, hfirst]
    refine ⟨_, w, .i (0 : Nat), β, fp, ⟨s.fr, upd s.hp id _, s.nx⟩, hrun _ _ hr, .inl rfl, fun _ _ => rfl, Ext.refl _ _, rfl, Nat.le_refl _, ?_, trivial, h⟩
    refine hs.put (w' := w) hl (fun _ _ => rfl) rfl ?_ trivial
    rw [hb]
    simp [lOp.cpL, SO.ok]
  | some x' =>
    rw [hb] at hok
    obtain ⟨hsp, hfp, pre, post, hh, hpre, hpost⟩ := hok
    have hml2 : lo * k0.sz + (Nat.min n len) * k0.sz ≤ (flat k0 xs).length := by
      rw [flat_length, ← Nat.add_mul]; exact Nat.mul_le_mul_right _ (by omega)
    have hst := run_storeCells_at P x'.block (x'.off + lo * k0.sz) E (flat k0 (ys.take (Nat.min n len))) 0 (pre ++ flat k0 xs ++ post).toArray w hh
      (by simp only [Nat.add_zero, flat_length, List.length_take, List.size_toArray, List.length_append]; rw [Nat.min_eq_left (show Nat.min n len ≤ ys.length by omega)]; rw [flat_length] at hml2; omega) (flat_one k0 _)
    simp only [Nat.add_zero] at hst
    have hr : (Builtin.copy_ #[T, T'] type #[SV.den β (.a (.c (.sl id k0.sz lo len cap))), u.den β]).run P w = .ok (goInt (Nat.min n len : Nat)) (w.setRow x'.block (pre ++ flat k0 (lOp.cpL xs lo (Nat.min n len) ys) ++ post).toArray) := by
      have hlo := fun w' => hsrc.lenOf (P := P) (w' := w')
      generalize u.den β = uv at hlo hfirst ⊢
      simp only [SV.den, SA.den, SC.den, hb, Option.map_some, add_eq hsp]
      have e2 : (flat k0 (ys.take (Nat.min n len))).length = Nat.min n len * k0.sz := by rw [flat_length, List.length_take, Nat.min_eq_left (show Nat.min n len ≤ ys.length by omega)]
      have e1 : (w.setRow x'.block ((pre ++ flat k0 xs ++ post).take (x'.off + lo * k0.sz) ++ flat k0 (ys.take (Nat.min n len)) ++ (pre ++ flat k0 xs ++ post).drop (x'.off + lo * k0.sz + (flat k0 (ys.take (Nat.min n len))).length)).toArray) =
          (w.setRow x'.block (pre ++ flat k0 (lOp.cpL xs lo (Nat.min n len) ys) ++ post).toArray) := by
        rw [e2, take_app pre (flat k0 xs) post _ (lo * k0.sz) (by omega) (by omega), drop_app pre (flat k0 xs) post _ (lo * k0.sz + Nat.min n len * k0.sz) (by omega) hml2]
        congr 2
        unfold lOp.cpL
        rw [flat_append, flat_append]
        have hsf := sub_flat k0 xs lo (Nat.min n len) (by omega)
        have l1 : flat k0 (xs.take lo) = (flat k0 xs).take (lo * k0.sz) := by
          have e3 : flat k0 xs = flat k0 (xs.take lo) ++ flat k0 (xs.drop lo) := by rw [← flat_append, List.take_append_drop]
          have e4 : (flat k0 (xs.take lo)).length = lo * k0.sz := by rw [flat_length, List.length_take, Nat.min_eq_left (by omega)]
          rw [e3, ← e4, List.take_left]
        have l2 : flat k0 (xs.drop (lo + Nat.min n len)) = (flat k0 xs).drop (lo * k0.sz + Nat.min n len * k0.sz) := by
          have e3 : flat k0 xs = flat k0 (xs.take (lo + Nat.min n len)) ++ flat k0 (xs.drop (lo + Nat.min n len)) := by rw [← flat_append, List.take_append_drop]
          have e4 : (flat k0 (xs.take (lo + Nat.min n len))).length = lo * k0.sz + Nat.min n len * k0.sz := by rw [flat_length, List.length_take, Nat.min_eq_left (by omega), Nat.add_mul]
          rw [e3, ← e4, List.drop_left]
        rw [l1, l2]
        simp [List.append_assoc]
      rw [← e1]
      simp [Builtin.copy_, run_underlying hu, hlo, hE, hfirst, hst]
    refine l_put2 (v := .i (Nat.min n len : Nat)) (ob' := .arr true E k0 (lOp.cpL xs lo (Nat.min n len) ys) sp) hs hl hfp (hrun _ _ hr) ?_ trivial trivial h
    rw [hb]
    refine ⟨hsp, hfp, pre, post, ?_, hpre, hpost⟩
    rw [setRow_heap w _ _ _ E _ hh]

end
end Go.Fw
