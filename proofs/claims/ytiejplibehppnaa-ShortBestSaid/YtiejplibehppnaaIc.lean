/-
  Contracts at the worlds' level, and how calls take them.
-/
import Derived.Test.YtiejplibehppnaaIb

set_option linter.unusedSimpArgs false
set_option linter.unusedVariables false

namespace Go.Fw
open Go

def Old (w : World) : Nat → Prop := fun b => b < w.heap.size

/-- Nothing that was there has changed. -/
abbrev Kept (w w' : World) : Prop := Ext (Old w) w w'

theorem HSat.nil (w : World) : HSat (fun _ => none) (Old w) (fun _ _ => False) ⟨[], [], 0⟩ w where
  zlt _ h := h
  flt _ _ h := by cases h
  sep _ _ _ _ h := by cases h
  obj _ _ h := by cases h
  lto _ _ h := by cases h

theorem condP_mk {c : Bool} {x y : Prop} (h1 : c = true → x) (h2 : c = false → y) : condP c x y := by cases c; exact h2 rfl; exact h1 rfl

/-- A slice that reads as a list. -/
def Rd (w : World) (k : EK) (v : Value) (xs : List k.ty) : Prop :=
  ∃ a cap, v = .slice a xs.length cap ∧ (xs ≠ [] → ∃ x, a = some x ∧ x.spot = none ∧ x.block < w.heap.size ∧ ∀ j u, (flat k xs)[j]? = some u → w.cell? ⟨x.block, x.off + j, none⟩ = some u)

/-- A slice in memory of the callee's own. -/
def Mine (w w' : World) (E : Nat) (k : EK) (v : Value) (xs : List k.ty) (sp : Nat) : Prop :=
  (v = .slice none 0 0 ∧ xs = [] ∧ sp = 0) ∨ ∃ b off pre post, v = .slice (some ⟨b, off, none⟩) xs.length (xs.length + sp) ∧ w.heap.size ≤ b ∧ w'.heap[b]? = some (.cells (pre ++ flat k xs ++ post).toArray E (0, 0)) ∧ pre.length = off ∧ sp * k.sz ≤ post.length

section
variable {P : Program} {β : Env} {Z : Nat → Prop} {fp : Nat → Nat → Prop} {s : S} {w w' : World}

theorem Rd.kept {k : EK} {v : Value} {xs : List k.ty} (h : Rd w k v xs) (hk : Kept w w') : Rd w' k v xs := by
  obtain ⟨a, cap, rfl, h⟩ := h
  refine ⟨a, cap, rfl, fun hne => ?_⟩
  obtain ⟨x, rfl, hs, hb, hc⟩ := h hne
  refine ⟨x, rfl, hs, Nat.lt_of_lt_of_le hb hk.size, fun j u hj => ?_⟩
  have := hc j u hj
  simp only [World.cell?] at this ⊢
  rw [hk.block _ hb]
  exact this

/-- An argument that is only read. -/
theorem HSat.arg (hs : HSat β Z fp ⟨[], s.hp, s.nx⟩ w) (hZ : ∀ b, b < w.heap.size → Z b) {E : Nat} {k : EK} {a : Option Addr} {cap : Nat} {xs : List k.ty} (h : Rd w k (.slice a xs.length cap) xs) :
    HSat (β.add s.nx a) Z (fun i => if i = s.nx then fun _ => False else fp i) ⟨[], (s.nx, .arr false E k xs 0) :: s.hp, s.nx + 1⟩ w := by
  refine hs.add (o := .arr false E k xs 0) (fun _ _ => rfl) (Nat.le_refl _) (fun _ h => h.elim) ?_ trivial
  obtain ⟨a', cap', e, h⟩ := h
  cases e
  cases a with
  | none =>
    refine ⟨?_, rfl⟩
    by_cases hx : xs = []
    · exact hx
    · obtain ⟨x, hx', _⟩ := h hx; cases hx'
  | some x =>
    intro hne
    obtain ⟨y, hy, hsp, hb, hc⟩ := h hne
    cases hy
    refine ⟨hsp, hZ _ hb, hb, fun j v hj => ?_⟩
    rw [add_eq hsp]
    exact hc j v hj

/-- What a caller's slice reads as. -/
theorem HSat.rd (hs : HSat β Z fp s w) {id E : Nat} {own : Bool} {k : EK} {xs : List k.ty} {sp : Nat} (hl : look s.hp id = some (.arr own E k xs sp)) {sz lo len cap : Nat} (hsz : sz = k.sz) (hle : lo + len ≤ xs.length) :
    Rd w k ((SC.sl id sz lo len cap).den β) (sub xs lo len) := by
  subst hsz
  refine ⟨_, cap, by rw [sub_length _ _ _ hle]; rfl, fun hne => ?_⟩
  have hxs : xs ≠ [] := by
    intro e
    apply hne
    subst e
    simp [sub]
  have hok := hs.obj _ _ hl
  obtain ⟨x, hx, hsp, hc⟩ := SO.ok_cell hok hxs
  have hlt : x.block < w.heap.size := by
    rw [hx] at hok
    cases own with
    | true => obtain ⟨_, _, pre, post, hh, _⟩ := hok; exact (Array.getElem?_eq_some_iff.1 hh).1
    | false => exact (hok hxs).2.2.1
  refine ⟨x.add (lo * k.sz), by rw [hx]; rfl, by rw [add_eq hsp], by rw [add_eq hsp]; exact hlt, fun j u hj => ?_⟩
  have := flat_sub_cell hsp hle hc j u hj
  rw [add_eq hsp, Addr.add_lit] at this
  rw [add_eq hsp]
  exact this

theorem sub_all {α : Type} (xs : List α) : sub xs 0 xs.length = xs := by simp [sub]

theorem HSat.rd0 (hs : HSat β Z fp s w) {id E : Nat} {own : Bool} {k : EK} {xs : List k.ty} {sp : Nat} (hl : look s.hp id = some (.arr own E k xs sp)) {sz len cap : Nat} (hsz : sz = k.sz) (hle : len = xs.length) :
    Rd w k ((SC.sl id sz 0 len cap).den β) xs := by
  have := hs.rd hl (lo := 0) (len := len) (cap := cap) hsz (by omega)
  subst hle
  rwa [sub_all] at this

/-- What was there is still there. -/
theorem HSat.kept (hs : HSat β Z fp s w) (hk : Kept w w') : HSat β Z fp s w' := by
  refine ⟨fun b hb => Nat.lt_of_lt_of_le (hs.zlt b hb) hk.size, fun id o hl b hb => ⟨Nat.lt_of_lt_of_le (hs.flt id o hl b hb).1 hk.size, (hs.flt id o hl b hb).2⟩, hs.sep, fun id o hl => ?_, hs.lto⟩
  refine SO.ok_mono (hs.obj id o hl) (hs.lto id o hl).2 (fun _ _ => rfl) (fun _ h => h) (fun b hb => hk.block b ?_) hk.size
  rcases hb with hb | hb
  · exact hs.zlt b hb
  · exact (hs.flt id o hl b hb).1

theorem Nxt.kept (hs : HSat β Z fp s w) (hk : Kept w w') {v : SV} (hv : v.lt s.nx) : Nxt β Z s w v w' β Z fp s :=
  ⟨fun _ _ => rfl, hk.mono hs.zlt, fun _ h => h, rfl, Nat.le_refl _, hs.kept hk, hv⟩

/-- A call that answers a value of no new memory, and leaves all as it was. -/
theorem callS {f : Nat} {args : List SV} {ex : List Value} {k : S → SV → Prop} (v : SV) (hcf : ∀ args w, (callFunc f args).run P w = .ok (.enter f args) w) (hv : v.lt s.nx)
    (h : ∀ β Z fp w, HSat β Z fp s w → Calls P f (args.map (SV.den β) ++ ex).toArray w fun e w' => e = .returned (v.den β) ∧ Kept w w') (hk : k s v) : CallK P f args ex s k := by
  unfold CallK
  refine ⟨hcf, fun β Z fp w hs => (h β Z fp w hs).mono ?_⟩
  rintro e w' ⟨rfl, hK⟩
  exact ⟨v, β, Z, fp, s, rfl, Nxt.kept hs hK hv, hk⟩

/-- A call that answers a slice of its own. -/
theorem callA {f : Nat} {args : List SV} {ex : List Value} {k : S → SV → Prop} {E : Nat} {ek : EK} {xs : List ek.ty} (hcf : ∀ args w, (callFunc f args).run P w = .ok (.enter f args) w)
    (h : ∀ β Z fp w, HSat β Z fp s w → Calls P f (args.map (SV.den β) ++ ex).toArray w fun e w' => ∃ v sp, e = .returned v ∧ Kept w w' ∧ Mine w w' E ek v xs sp)
    (hk : ∀ sp, k ⟨s.fr, (s.nx, .arr true E ek xs sp) :: s.hp, s.nx + 1⟩ (.c (.sl s.nx ek.sz 0 xs.length (xs.length + sp)))) : CallK P f args ex s k := by
  unfold CallK
  refine ⟨hcf, fun β Z fp w hs => (h β Z fp w hs).mono ?_⟩
  rintro e w' ⟨v, sp, rfl, hK, hM⟩
  have hlt : SV.lt (s.nx + 1) (.c (.sl s.nx ek.sz 0 xs.length (xs.length + sp))) := by show s.nx < s.nx + 1; omega
  rcases hM with ⟨rfl, rfl, rfl⟩ | ⟨b, off, pre, post, rfl, hb, hh, hp, hq⟩
  · refine ⟨.c (.sl s.nx ek.sz 0 0 0), β.add s.nx none, Z, _, ⟨s.fr, (s.nx, .arr true E ek [] 0) :: s.hp, s.nx + 1⟩, ?_, ⟨Env.add_lt, hK.mono hs.zlt, fun _ h => h, rfl, Nat.le_succ _,
      (hs.kept hK).add (o := .arr true E ek [] 0) (q := fun _ => False) (fun _ _ => rfl) (Nat.le_refl _) (fun _ h => h.elim) ⟨rfl, rfl⟩ trivial, hlt⟩, hk 0⟩
    simp [SV.den, SA.den, SC.den, Env.add_at]
  · refine ⟨_, β.add s.nx (some ⟨b, off, none⟩), Z, _, ⟨s.fr, (s.nx, .arr true E ek xs sp) :: s.hp, s.nx + 1⟩, ?_, ⟨Env.add_lt, hK.mono hs.zlt, fun _ h => h, rfl, Nat.le_succ _,
      hs.add (o := .arr true E ek xs sp) (q := fun b' => b' = b) (fun b hb => hK.block b hb) hK.size ?_ ⟨rfl, rfl, pre, post, hh, hp, hq⟩ trivial, hlt⟩, hk sp⟩
    · simp [SV.den, SA.den, SC.den, Env.add_at, Addr.add_lit]
    · intro b' hb'
      subst hb'
      exact ⟨hb, (Array.getElem?_eq_some_iff.1 hh).1⟩

/-- A function of plain values that leaves all as it was (but for new blocks). -/
theorem entry0 {ty : List (Nat × STy)} (hty : TyOk P ty) {f : FuncId} {fn : Func} {c : Code} (n : Nat) (live : List Nat) (avs : List SV) (r : SV) {w : World}
    (hf : P.funcs[f]? = some fn) (hb : fn.body = some c) (hlt : ∀ v ∈ avs, SV.lt 0 v) (hn : avs.length ≤ fn.ntmps) {fr : List (Nat × SV)} (hfr : fr = enumL 0 avs)
    (hex : exec P ty fn.ntmps 0 n live c (retK ty fn.results.toList fun v _ => v = r) (retK ty fn.results.toList fun v _ => v = r) (fun _ _ => False) ⟨fr, [], 0⟩) (hr : r.lt 0) :
    Calls P f (avs.map (SV.den fun _ => none)).toArray w fun e w' => e = .returned (r.den fun _ => none) ∧ Kept w w' :=
  entry hty n live avs [] 0 (fun v _ => v = r) hf hb (HSat.nil w) hlt hn hfr hex fun v w' β' Z' fp' s' hN hv => by
    subst hv
    exact ⟨by rw [SV.den_congr (n := 0) (fun id h => absurd h (by omega)) hr], hN.ext⟩

/-- A function that reads some slices, and answers a plain value. -/
theorem entryS {ty : List (Nat × STy)} (hty : TyOk P ty) {f : FuncId} {fn : Func} {c : Code} (n : Nat) (live : List Nat) (avs : List SV) (r : SV) {hp : List (Nat × SO)} {nx : Nat} (hs : HSat β (Old w) fp ⟨[], hp, nx⟩ w)
    (hf : P.funcs[f]? = some fn) (hb : fn.body = some c) (hlt : ∀ v ∈ avs, SV.lt nx v) (hn : avs.length ≤ fn.ntmps) {fr : List (Nat × SV)} (hfr : fr = enumL 0 avs)
    (hex : exec P ty fn.ntmps nx n live c (retK ty fn.results.toList fun v _ => v = r) (retK ty fn.results.toList fun v _ => v = r) (fun _ _ => False) ⟨fr, hp, nx⟩) (hr : r.lt 0) {args : Array Value} (ha : args = (avs.map (SV.den β)).toArray)
    {rv : Value} (hrv : rv = r.den fun _ => none) :
    Calls P f args w fun e w' => e = .returned rv ∧ Kept w w' := by
  subst ha hrv
  exact entry hty n live avs hp nx (fun v _ => v = r) hf hb hs hlt hn hfr hex fun v w' β' Z' fp' s' hN hv => by
    subst hv
    exact ⟨by rw [SV.den_congr (n := 0) (fun id h => absurd h (by omega)) hr], hN.ext⟩

end
end Go.Fw

/-
  Regions whose order is drawn: one walk, quiet operations as early as may be; what was loaded is looked at again behind each operation that makes or writes memory.
-/
namespace Go.Fw
open Go

def bindB : Ground → Bool
  | .textOnly _ | .gcOnly _ => false
  | _ => true

theorem bindB_eq (e : Edge) : Region.binds .any e = bindB e.ground := by
  unfold Region.binds bindB
  cases e.ground <;> rfl

def depsL : List Edge → List Nat
  | [] => []
  | e :: l => match bindB e.ground with
    | true => e.on :: depsL l
    | false => depsL l

def depsO (o : Oper) : List Nat := depsL o.after.toList

theorem mem_depsL {d : Nat} : ∀ {l : List Edge}, d ∈ depsL l ↔ ∃ e ∈ l, Region.binds .any e = true ∧ e.on = d
  | [] => by simp [depsL]
  | e :: l => by
    simp only [depsL]
    cases hb : bindB e.ground with
    | true =>
      simp only [List.mem_cons, mem_depsL (l := l)]
      constructor
      · rintro (rfl | ⟨e', h1, h2⟩)
        · exact ⟨e, .inl rfl, by rw [bindB_eq, hb], rfl⟩
        · exact ⟨e', .inr h1, h2⟩
      · rintro ⟨e', rfl | h1, h2, h3⟩
        · exact .inl h3.symm
        · exact .inr ⟨e', h1, h2, h3⟩
    | false =>
      simp only [mem_depsL (l := l), List.mem_cons]
      constructor
      · rintro ⟨e', h1, h2⟩; exact ⟨e', .inr h1, h2⟩
      · rintro ⟨e', rfl | h1, h2, h3⟩
        · rw [bindB_eq, hb] at h2; cases h2
        · exact ⟨e', h1, h2, h3⟩

inductive Anc (ops : List Oper) (i : Nat) : Nat → Prop
  | base {j : Nat} {o : Oper} (h : ops[j]? = some o) (hd : i ∈ depsO o) : Anc ops i j
  | step {j k : Nat} {o : Oper} (h : ops[j]? = some o) (hd : k ∈ depsO o) (ha : Anc ops i k) : Anc ops i j

def depsAt (ops : List Oper) (j : Nat) : List Nat := match nthN ops j with
  | some o => depsO o
  | none => []

def clo (ops : List Oper) : Nat → List Nat → List Nat → List Nat
  | 0, _, acc => acc
  | _, [], acc => acc
  | n + 1, x :: xs, acc => match memN x acc with
    | true => clo ops n xs acc
    | false => clo ops n (appN (depsAt ops x) xs) (x :: acc)

theorem memN_iff {a : Nat} : ∀ {l : List Nat}, memN a l = true ↔ a ∈ l
  | [] => by simp [memN]
  | b :: l => by
    simp only [memN, nbeq, List.mem_cons]
    by_cases h : a = b
    · simp [h]
    · simp only [h, decide_false, false_or]; exact memN_iff

theorem mem_depsAt {ops : List Oper} {i j : Nat} (h : i ∈ depsAt ops j) : Anc ops i j := by
  unfold depsAt at h
  split at h
  · rename_i o ho
    rw [nthN_eq] at ho
    exact .base ho h
  · cases h

theorem Anc.trans {ops : List Oper} {i j k : Nat} (h : Anc ops i j) (h' : Anc ops j k) : Anc ops i k := by
  induction h' with
  | base ho hd => exact .step ho hd h
  | step ho hd _ ih => exact .step ho hd ih

theorem clo_spec {ops : List Oper} {j : Nat} : ∀ (n : Nat) (fr acc : List Nat), (∀ x ∈ fr, Anc ops x j) → (∀ x ∈ acc, Anc ops x j) → ∀ x ∈ clo ops n fr acc, Anc ops x j
  | 0, _, _, _, ha => ha
  | n + 1, [], _, _, ha => ha
  | n + 1, x :: xs, acc, hf, ha => by
    simp only [clo]
    split
    · exact clo_spec n xs acc (fun y hy => hf y (List.mem_cons_of_mem _ hy)) ha
    · have hx := hf x (by simp)
      refine clo_spec n _ _ ?_ ?_
      · intro y hy
        rw [appN_eq, List.mem_append] at hy
        rcases hy with hy | hy
        · exact (mem_depsAt hy).trans hx
        · exact hf y (List.mem_cons_of_mem _ hy)
      · intro y hy
        simp only [List.mem_cons] at hy
        rcases hy with rfl | hy
        · exact hx
        · exact ha y hy

def ancs (ops : List Oper) (j : Nat) : List Nat := clo ops 400 (depsAt ops j) []

theorem ancs_spec {ops : List Oper} {i j : Nat} (h : i ∈ ancs ops j) : Anc ops i j :=
  clo_spec 400 _ _ (fun x hx => mem_depsAt hx) (by simp) i h

def quietB (op : Op) : Bool := match op with
  | .assign _ => false
  | op => Nat.beq (kindOf op) 0

def isSelect : Op → Bool
  | .select _ _ => true
  | _ => false

/-- What is asked of a region by its text alone. -/
def drawOk (ops : List Oper) : Bool :=
  ops.zipIdx.all fun (o, i) =>
    (depsO o).all (· < i) && !isSelect o.op &&
    match o.dst with
    | none => true
    | some d => ops.zipIdx.all fun (o', j) =>
      (if quietB o.op then (!(o'.looksAt ops.toArray).contains d || (ancs ops j).contains i) && (i == j || o'.dst != some d)
       else !quietB o'.op || (!(o'.looksAt ops.toArray).contains d || (ancs ops j).contains i || (ancs ops i).contains j))

structure DrawC (ops : List Oper) : Prop where
  lt : ∀ (i : Nat) (o : Oper), ops[i]? = some o → ∀ d ∈ depsO o, d < i
  sel : ∀ (i : Nat) (o : Oper), ops[i]? = some o → ∀ cs b, o.op ≠ .select cs b
  qu : ∀ (i : Nat) (o : Oper), ops[i]? = some o → quietB o.op = true → ∀ d, o.dst = some d → ∀ (j : Nat) (o' : Oper), ops[j]? = some o' → (d ∈ o'.looksAt ops.toArray → Anc ops i j) ∧ (i ≠ j → o'.dst ≠ some d)
  ld : ∀ (i : Nat) (o : Oper), ops[i]? = some o → quietB o.op = false → ∀ d, o.dst = some d → ∀ (j : Nat) (o' : Oper), ops[j]? = some o' → quietB o'.op = true → d ∈ o'.looksAt ops.toArray → Anc ops i j ∨ Anc ops j i

theorem mem_zip {ops : List Oper} {i : Nat} {o : Oper} (h : ops[i]? = some o) : (o, i) ∈ ops.zipIdx := by
  rw [List.mem_zipIdx_iff_getElem?]
  exact h

theorem drawOk_spec {ops : List Oper} (h : drawOk ops = true) : DrawC ops := by
  unfold drawOk at h
  rw [List.all_eq_true] at h
  refine ⟨?_, ?_, ?_, ?_⟩
  · intro i o ho d hd
    have := h _ (mem_zip ho)
    simp only [Bool.and_eq_true, List.all_eq_true, decide_eq_true_eq] at this
    exact this.1.1 d hd
  · intro i o ho cs b e
    have := h _ (mem_zip ho)
    simp only [Bool.and_eq_true] at this
    have := this.1.2
    rw [e] at this
    simp [isSelect] at this
  · intro i o ho hq d hd j o' ho'
    have := h _ (mem_zip ho)
    simp only [Bool.and_eq_true] at this
    have := this.2
    rw [hd] at this
    simp only [List.all_eq_true] at this
    have := this _ (mem_zip ho')
    simp only [hq, if_true, Bool.and_eq_true, Bool.or_eq_true, Bool.not_eq_true', List.contains_eq_mem, decide_eq_false_iff_not, decide_eq_true_eq, beq_iff_eq, bne_iff_ne] at this
    exact ⟨fun hm => ancs_spec (this.1.resolve_left (fun hn => hn hm)), fun hne => this.2.resolve_left hne⟩
  · intro i o ho hq d hd j o' ho' hq' hm
    have := h _ (mem_zip ho)
    simp only [Bool.and_eq_true] at this
    have := this.2
    rw [hd] at this
    simp only [List.all_eq_true] at this
    have := this _ (mem_zip ho')
    simp only [hq, hq', Bool.false_eq_true, if_false, Bool.or_eq_true, Bool.not_eq_true', List.contains_eq_mem, decide_eq_false_iff_not, decide_eq_true_eq, Bool.not_true, false_or] at this
    rcases this with (h1 | h1) | h1
    · exact absurd hm h1
    · exact .inl (ancs_spec h1)
    · exact .inr (ancs_spec h1)

theorem Anc.lt {ops : List Oper} (hc : DrawC ops) {i j : Nat} (h : Anc ops i j) : i < j := by
  induction h with
  | base ho hd => exact hc.lt _ _ ho _ hd
  | step ho hd _ ih => exact Nat.lt_trans ih (hc.lt _ _ ho _ hd)

/-- What two frames agree on, an operation cannot tell apart. -/
theorem agree_run {ops : List Oper} {o : Oper} {a b : Act} (hs : ∀ cs b, o.op ≠ .select cs b) (h : ∀ t ∈ o.looksAt ops.toArray, a.tmps[t]? = b.tmps[t]?) :
    execOp a.eval o = execOp b.eval o ∧ Region.wanted o (yielded ops.toArray a.tmps) = Region.wanted o (yielded ops.toArray b.tmps) := by
  constructor
  · refine execOp_congr o hs fun x hx => ?_
    cases x with
    | tmp t =>
      have := h t (List.mem_append_left _ (List.mem_filterMap.2 ⟨.tmp t, by simpa using hx, rfl⟩))
      simp [Act.eval, Array.getD_eq_getD_getElem?, this]
    | _ => rfl
  · unfold Region.wanted
    cases hg : o.guard with
    | none => rfl
    | some p =>
      obtain ⟨g, want⟩ := p
      simp only
      congr 1
      unfold yielded
      cases hd : (ops.toArray[g]?).bind (·.dst) with
      | none => rfl
      | some d =>
        have := h d (List.mem_append_right _ (by rw [hg]; simp only [hd]; simp))
        simp only [Option.bind_some, this]

end Go.Fw

/-
  Regions whose order is drawn (second part): the walk, and why it serves every order.
-/
namespace Go.Fw
open Go

section
variable (P : Program) (ty : List (Nat × STy)) (N : Nat) (whole : List Oper)

def depsIn (done : List Nat) : List Nat → Bool
  | [] => true
  | d :: l => match memN d done with
    | true => depsIn done l
    | false => false

def readyB (done : List Nat) (i : Nat) (o : Oper) : Bool := match memN i done with
  | true => false
  | false => depsIn done (depsO o)

def readyQ (done : List Nat) : List Oper → Nat → Option (Nat × Oper)
  | [], _ => none
  | o :: l, i => match quietB o.op with
    | true => match readyB done i o with
      | true => some (i, o)
      | false => readyQ done l (i + 1)
    | false => readyQ done l (i + 1)

def readyL (done : List Nat) : List Oper → Nat → List (Nat × Oper)
  | [], _ => []
  | o :: l, i => match readyB done i o with
    | true => (i, o) :: readyL done l (i + 1)
    | false => readyL done l (i + 1)

def keepP (as : List Nat) : List (Nat × SV) → List (Nat × SV)
  | [] => []
  | (i, v) :: l => match memN i as with
    | true => keepP as l
    | false => (i, v) :: keepP as l

def revalK : List (Nat × SV) → S → Prop → Prop
  | [], _, p => p
  | (i, v) :: l, s, p => match nthN whole i with
    | some o => qOp ty o.op s fun v' => Ob (v' = v) (revalK l s p)
    | none => False

def allK : List (Nat × Oper) → (Nat → Oper → Prop) → Prop
  | [], _ => True
  | [(i, o)], F => F i o
  | (i, o) :: l, F => Both (F i o) (allK l F)

def allDone : Nat → List Nat → Bool
  | 0, _ => true
  | n + 1, done => match memN n done with
    | true => allDone n done
    | false => false

def addP (b : Bool) (i : Nat) (v : SV) (pe : List (Nat × SV)) : List (Nat × SV) := match b with
  | true => (i, v) :: pe
  | false => pe

def drawP (kn : S → Prop) : Nat → List Nat → List (Nat × SV) → S → Prop
  | 0, _, _, _ => False
  | n + 1, done, pe, s => match readyQ done whole 0 with
    | some (i, o) => guardK whole o.guard s
      (fun s' => qOp ty o.op s' fun v => S.putK N o.dst v s' fun s'' => drawP kn n (i :: done) (addP (isLoad o.op) i v pe) s'')
      (fun s' => S.putK N o.dst .u s' fun s'' => drawP kn n (i :: done) pe s'')
    | none => match readyL done whole 0 with
      | [] => match allDone whole.length done with
        | true => kn s
        | false => False
      | l => allK l fun i o => guardK whole o.guard s
        (fun s' => opK P ty N o s' fun s1 v => S.putK N o.dst v s1 fun s2 => revalK ty whole (keepP (ancs whole i) pe) s2 (drawP kn n (i :: done) (keepP (ancs whole i) pe) s2))
        (fun s' => S.putK N o.dst .u s' fun s2 => drawP kn n (i :: done) pe s2)
end

theorem depsIn_iff {done : List Nat} : ∀ {l : List Nat}, depsIn done l = true ↔ ∀ d ∈ l, d ∈ done
  | [] => by simp [depsIn]
  | d :: l => by
    simp only [depsIn]
    cases h : memN d done with
    | true =>
      rw [memN_iff] at h
      simp only [depsIn_iff (l := l), List.mem_cons, forall_eq_or_imp, h, true_and]
    | false =>
      have h' : d ∉ done := fun hm => by rw [← memN_iff] at hm; rw [hm] at h; cases h
      simp only [List.mem_cons, forall_eq_or_imp, h', false_and, Bool.false_eq_true]

theorem readyB_iff {done : List Nat} {i : Nat} {o : Oper} : readyB done i o = true ↔ i ∉ done ∧ ∀ d ∈ depsO o, d ∈ done := by
  unfold readyB
  cases h : memN i done with
  | true => rw [memN_iff] at h; simp [h]
  | false =>
    have h' : i ∉ done := fun hm => by rw [← memN_iff] at hm; rw [hm] at h; cases h
    simp only [depsIn_iff, h', not_false_eq_true, true_and]

theorem readyQ_some {done : List Nat} : ∀ {l : List Oper} {k i : Nat} {o : Oper}, readyQ done l k = some (i, o) → k ≤ i ∧ l[i - k]? = some o ∧ quietB o.op = true ∧ readyB done i o = true
  | [], _, _, _, h => by cases h
  | x :: l, k, i, o, h => by
    simp only [readyQ] at h
    have tail : readyQ done l (k + 1) = some (i, o) → k ≤ i ∧ (x :: l)[i - k]? = some o ∧ quietB o.op = true ∧ readyB done i o = true := by
      intro h
      obtain ⟨h1, h2, h3⟩ := readyQ_some h
      refine ⟨by omega, ?_, h3⟩
      rw [show i - k = (i - (k + 1)) + 1 by omega, List.getElem?_cons_succ]
      exact h2
    split at h
    · rename_i hq
      split at h
      · rename_i hr
        cases h
        exact ⟨Nat.le_refl _, by simp, hq, hr⟩
      · exact tail h
    · exact tail h

theorem readyQ_none {done : List Nat} : ∀ {l : List Oper} {k : Nat}, readyQ done l k = none → ∀ (i : Nat) (o : Oper), l[i]? = some o → quietB o.op = true → readyB done (k + i) o = false
  | [], _, _, i, o, h, _ => by simp at h
  | x :: l, k, hn, i, o, h, hq => by
    simp only [readyQ] at hn
    have tail : readyQ done l (k + 1) = none → i ≠ 0 → readyB done (k + i) o = false := by
      intro hn hi
      obtain ⟨m, rfl⟩ := Nat.exists_eq_succ_of_ne_zero hi
      have := readyQ_none hn m o (by simpa using h) hq
      rw [show k + m.succ = k + 1 + m by omega]; exact this
    cases i with
    | zero =>
      simp only [List.getElem?_cons_zero, Option.some.injEq] at h
      subst h
      rw [hq] at hn
      simp only at hn
      split at hn
      · cases hn
      · rename_i hr; exact hr
    | succ m =>
      split at hn
      · split at hn
        · cases hn
        · exact tail hn (by simp)
      · exact tail hn (by simp)

theorem readyL_mem {done : List Nat} : ∀ {l : List Oper} {k i : Nat} {o : Oper}, l[i]? = some o → readyB done (k + i) o = true → (k + i, o) ∈ readyL done l k
  | [], _, _, _, h, _ => by simp at h
  | x :: l, k, i, o, h, hr => by
    simp only [readyL]
    cases i with
    | zero =>
      simp only [List.getElem?_cons_zero, Option.some.injEq] at h
      subst h
      simp only [Nat.add_zero] at hr ⊢
      rw [hr]
      simp
    | succ m =>
      have := readyL_mem (k := k + 1) (i := m) (o := o) (by simpa using h) (by rw [show k + 1 + m = k + (m + 1) by omega]; exact hr)
      rw [show k + 1 + m = k + (m + 1) by omega] at this
      split
      · exact List.mem_cons_of_mem _ this
      · exact this

theorem allK_mem : ∀ {l : List (Nat × Oper)} {F : Nat → Oper → Prop}, allK l F → ∀ i o, (i, o) ∈ l → F i o
  | [], _, _, _, _, h => by cases h
  | [(i, o)], F, h, i', o', hm => by simp only [List.mem_singleton] at hm; cases hm; exact h
  | (i, o) :: p :: l, F, h, i', o', hm => by
    simp only [List.mem_cons] at hm
    rcases hm with hm | hm
    · cases hm; exact h.one
    · exact allK_mem h.two i' o' (by simpa using hm)

theorem allDone_spec : ∀ {n : Nat} {done : List Nat}, allDone n done = true → ∀ i, i < n → i ∈ done
  | 0, _, _, i, h => absurd h (by omega)
  | n + 1, done, h, i, hi => by
    simp only [allDone] at h
    split at h
    · rename_i hm
      by_cases e : i = n
      · subst e; exact memN_iff.1 hm
      · exact allDone_spec h i (by omega)
    · cases h

theorem keepP_mem {as : List Nat} : ∀ {l : List (Nat × SV)} {i : Nat} {v : SV}, (i, v) ∈ l → i ∉ as → (i, v) ∈ keepP as l
  | (j, u) :: l, i, v, h, hn => by
    simp only [keepP]
    simp only [List.mem_cons] at h
    cases hm : memN j as with
    | true =>
      rcases h with h | h
      · cases h; exact absurd (memN_iff.1 hm) hn
      · exact keepP_mem h hn
    | false =>
      rcases h with h | h
      · cases h; simp
      · exact List.mem_cons_of_mem _ (keepP_mem h hn)

theorem keepP_sub {as : List Nat} : ∀ {l : List (Nat × SV)} {x : Nat × SV}, x ∈ keepP as l → x ∈ l
  | (j, u) :: l, x, h => by
    simp only [keepP] at h
    split at h
    · exact List.mem_cons_of_mem _ (keepP_sub h)
    · simp only [List.mem_cons] at h ⊢
      rcases h with h | h
      · exact .inl h
      · exact .inr (keepP_sub h)

section
variable {P : Program} {ty : List (Nat × STy)} {ops : List Oper}

/-- The value that a quiet operation has left. -/
def Yd (P : Program) (ops : List Oper) (β : Env) (n : Nat) (pe : List (Nat × SV)) (i : Nat) (o : Oper) (a : Act) (w : World) : Prop :=
  (Region.wanted o (yielded ops.toArray a.tmps) = false ∧ ∀ d, o.dst = some d → a.tmps[d]? = some undef) ∨
  (Region.wanted o (yielded ops.toArray a.tmps) = true ∧ ∃ v : SV, v.lt n ∧ (execOp a.eval o).run P w = .ok (.value (v.den β)) w ∧ (∀ d, o.dst = some d → a.tmps[d]? = some (v.den β)) ∧
    ((∀ w', (execOp a.eval o).run P w' = .ok (.value (v.den β)) w') ∨ (i, v) ∈ pe))

structure Rel (P : Program) (ops : List Oper) (D : List Nat) (pe : List (Nat × SV)) (listed : Array Bool) (ae ar : Act) (β : Env) (n : Nat) (w : World) : Prop where
  lsz : listed.size = ops.length
  sub : ∀ i, listed[i]? = some true → i ∈ D
  down : ∀ (i : Nat) (o : Oper), listed[i]? = some true → ops[i]? = some o → ∀ d ∈ depsO o, listed[d]? = some true
  downD : ∀ (i : Nat) (o : Oper), i ∈ D → ops[i]? = some o → ∀ d ∈ depsO o, d ∈ D
  qu : ∀ (i : Nat) (o : Oper), i ∈ D → listed[i]? ≠ some true → ops[i]? = some o → quietB o.op = true ∧ Yd P ops β n pe i o ae w
  tm : ∀ t, (∀ (i : Nat) (o : Oper), i ∈ D → listed[i]? ≠ some true → ops[i]? = some o → o.dst ≠ some t) → ar.tmps[t]? = ae.tmps[t]?
  sz : ar.tmps.size = ae.tmps.size
  df : ar.defers = ae.defers

theorem anc_listed {ops : List Oper} {listed : Array Bool} (down : ∀ (i : Nat) (o : Oper), listed[i]? = some true → ops[i]? = some o → ∀ d ∈ depsO o, listed[d]? = some true) {i j : Nat} (h : Anc ops i j)
    (hj : ∀ o, ops[j]? = some o → ∀ d ∈ depsO o, listed[d]? = some true) : listed[i]? = some true := by
  induction h with
  | base ho hd => exact hj _ ho _ hd
  | step ho hd _ ih =>
    have hk := hj _ ho _ hd
    exact ih fun o ho' d hd' => down _ o hk ho' d hd'

theorem anc_done {ops : List Oper} {D : List Nat} (down : ∀ (i : Nat) (o : Oper), i ∈ D → ops[i]? = some o → ∀ d ∈ depsO o, d ∈ D) {i j : Nat} (h : Anc ops i j) (hj : j ∈ D) : i ∈ D := by
  induction h with
  | base ho hd => exact down _ _ hj ho _ hd
  | step ho hd _ ih => exact ih (down _ _ hj ho _ hd)

/-- What is ready looks alike in both frames. -/
theorem Rel.alike (hc : DrawC ops) {D : List Nat} {pe : List (Nat × SV)} {listed : Array Bool} {ae ar : Act} {β : Env} {n : Nat} {w : World} (h : Rel P ops D pe listed ae ar β n w) {i : Nat} {o : Oper} (ho : ops[i]? = some o)
    (hd : ∀ d ∈ depsO o, listed[d]? = some true) : execOp ar.eval o = execOp ae.eval o ∧ Region.wanted o (yielded ops.toArray ar.tmps) = Region.wanted o (yielded ops.toArray ae.tmps) := by
  refine agree_run (hc.sel i o ho) fun t ht => h.tm t ?_
  intro q oq hq hql hoq hdst
  have hquiet := (h.qu q oq hq hql hoq).1
  have hanc := (hc.qu q oq hoq hquiet t hdst i o ho).1 ht
  refine hql (anc_listed h.down hanc ?_)
  intro o' ho' d hd'
  rw [ho] at ho'
  cases ho'
  exact hd d hd'

theorem listed_set {listed : Array Bool} {i j : Nat} (hi : i < listed.size) : (listed.setIfInBounds i true)[j]? = some true ↔ j = i ∨ listed[j]? = some true := by
  rw [Array.getElem?_setIfInBounds]
  by_cases h : i = j
  · subst h; simp [hi]
  · simp only [if_neg h]
    constructor
    · exact .inr
    · rintro (rfl | h')
      · exact absurd rfl h
      · exact h'

end
end Go.Fw

/-
  Regions whose order is drawn (third part): every order comes to what the one walk comes to.
-/
namespace Go.Fw
open Go

theorem putK_soundB {C : Ctx} {β : Env} {Z : Nat → Prop} {s s' : S} {w w' : World} {a : Act} {v : SV} {β' : Env} {Z' : Nat → Prop} {fp' : Nat → Nat → Prop}
    (hf : FSat β s C.N a) (hc : Cok C β Z s w) (hn : Nxt β Z s w v w' β' Z' fp' s') {dst : Option Nat} {k : S → Prop} (h : S.putK C.N dst v s' k) :
    ∃ s'', k s'' ∧ s''.nx = s'.nx ∧ HSat β' Z' fp' s'' w' ∧ FSat β' s'' C.N (a.put dst (v.den β')) ∧ Cok C β' Z' s'' w' := by
  have hc' : ∀ s'' : S, s''.nx = s'.nx → Cok C β' Z' s'' w' := fun s'' e => ⟨fun b hb => hn.zz b (hc.zz b hb), Ext.trans hc.ext hn.ext hc.zz, fun id hid => (hn.env id (Nat.lt_of_lt_of_le hid hc.nx)).trans (hc.env id hid), by
    have := hc.nx; have := hn.nx; omega⟩
  have hfr : ∀ t u, look s'.fr t = some u → a.tmps[t]? = some (u.den β') ∧ u.lt s'.nx := by
    intro t u ht
    rw [hn.fr] at ht
    have hl := hf.lt t u ht
    exact ⟨by rw [hf.tmp t u ht, SV.den_congr hn.env hl], SV.lt_mono hn.nx hl⟩
  cases dst with
  | none =>
    exact ⟨s', h, rfl, hn.sat, ⟨fun t u ht => (hfr t u ht).1, fun t u ht => (hfr t u ht).2, hf.size, hf.defers⟩, hc' s' rfl⟩
  | some d =>
    simp only [S.putK] at h
    split at h <;> try exact h.elim
    rename_i hd
    rw [blt_iff, decide_eq_true_eq] at hd
    rw [S.go_eq, updK_iff] at h
    refine ⟨_, h, rfl, ⟨hn.sat.zlt, hn.sat.flt, hn.sat.sep, hn.sat.obj, hn.sat.lto⟩, ⟨?_, ?_, by simp [Act.put, hf.size], hf.defers⟩, hc' _ rfl⟩
    · intro t u ht
      rw [look_upd] at ht
      simp only [Act.put, Array.getElem?_setIfInBounds]
      split at ht
      · rename_i e
        subst e
        cases ht
        simp [hf.size, hd]
      · rename_i e
        rw [if_neg e]
        exact (hfr t u ht).1
    · intro t u ht
      rw [look_upd] at ht
      split at ht
      · cases ht; exact hn.lt
      · exact (hfr t u ht).2

theorem setB {C : Ctx} {β : Env} {Z : Nat → Prop} {fp : Nat → Nat → Prop} {s : S} {a : Act} {w : World} (hs : HSat β Z fp s w) (hf : FSat β s C.N a) (hc : Cok C β Z s w) {d : Nat} {c c' : Bool} (hl : look s.fr d = some (.b c)) (e : c = c') :
    HSat β Z fp ⟨upd s.fr d (.b c'), s.hp, s.nx⟩ w ∧ FSat β ⟨upd s.fr d (.b c'), s.hp, s.nx⟩ C.N a ∧ Cok C β Z ⟨upd s.fr d (.b c'), s.hp, s.nx⟩ w := by
  refine ⟨⟨hs.zlt, hs.flt, hs.sep, hs.obj, hs.lto⟩, ⟨?_, ?_, hf.size, hf.defers⟩, ⟨hc.zz, hc.ext, hc.env, hc.nx⟩⟩
  · intro t u ht
    rw [look_upd] at ht
    split at ht
    · rename_i e'
      subst e'
      cases ht
      rw [hf.tmp _ _ hl, e]
    · exact hf.tmp t u ht
  · intro t u ht
    rw [look_upd] at ht
    split at ht
    · cases ht; trivial
    · exact hf.lt t u ht

theorem guardK_soundB {C : Ctx} {whole : List Oper} {g : Option (Nat × Bool)} {s : S} {a : Act} {w : World} {kt kf : S → Prop} (h : guardK whole g s kt kf) {β : Env} {Z : Nat → Prop} {fp : Nat → Nat → Prop}
    (hs : HSat β Z fp s w) (hf : FSat β s C.N a) (hc : Cok C β Z s w) (o : Oper) (ho : o.guard = g) :
    (Region.wanted o (yielded whole.toArray a.tmps) = true ∧ ∃ s', kt s' ∧ s'.nx = s.nx ∧ HSat β Z fp s' w ∧ FSat β s' C.N a ∧ Cok C β Z s' w) ∨
    (Region.wanted o (yielded whole.toArray a.tmps) = false ∧ ∃ s', kf s' ∧ s'.nx = s.nx ∧ HSat β Z fp s' w ∧ FSat β s' C.N a ∧ Cok C β Z s' w) := by
  unfold guardK at h
  split at h
  · left
    exact ⟨by simp [Region.wanted, ho], s, h, rfl, hs, hf, hc⟩
  · rename_i j want
    split at h <;> try exact h.elim
    rename_i oj hoj
    rw [nthN_eq] at hoj
    split at h <;> try exact h.elim
    rename_i d hd
    have hy : ∀ v, a.tmps[d]? = some v → yielded whole.toArray a.tmps j = match v with
        | .bool b => some b
        | _ => none := by
      intro v hv
      unfold yielded
      simp only [List.getElem?_toArray, hoj, Option.bind_some, hd, hv]
      cases v <;> rfl
    rw [S.go_eq] at h
    split at h <;> try exact h.elim
    · rename_i c hl
      rw [condP_iff, updK_iff, updK_iff] at h
      have hy' : yielded whole.toArray a.tmps j = some c := hy _ (hf.tmp _ _ hl)
      have hw : Region.wanted o (yielded whole.toArray a.tmps) = (some c == some want) := by simp [Region.wanted, ho, hy']
      rw [hw]
      have hc1 := setB hs hf hc hl rfl
      cases c with
      | true =>
        rw [if_pos rfl] at h
        cases want with
        | true => exact .inl ⟨rfl, _, h, rfl, hc1⟩
        | false => exact .inr ⟨rfl, _, h, rfl, hc1⟩
      | false =>
        rw [if_neg (by simp)] at h
        cases want with
        | true => exact .inr ⟨rfl, _, h, rfl, hc1⟩
        | false => exact .inl ⟨rfl, _, h, rfl, hc1⟩
    · rename_i hl
      right
      have hy' : yielded whole.toArray a.tmps j = none := hy _ (hf.tmp _ _ hl)
      exact ⟨by simp [Region.wanted, ho, hy'], s, h, rfl, hs, hf, hc⟩

section
variable {P : Program} {ty : List (Nat × STy)} {ops : List Oper}

theorem revalK_sound (hty : TyOk P ty) {β : Env} {Z : Nat → Prop} {fp : Nat → Nat → Prop} {s : S} {w : World} {N : Nat} {a : Act} (hs : HSat β Z fp s w) (hf : FSat β s N a) :
    ∀ {l : List (Nat × SV)} {p : Prop}, revalK ty ops l s p → p ∧ ∀ i v, (i, v) ∈ l → ∃ o, ops[i]? = some o ∧ (execOp a.eval o).run P w = .ok (.value (v.den β)) w
  | [], p, h => ⟨h, fun _ _ h => by cases h⟩
  | (i, v) :: l, p, h => by
    simp only [revalK] at h
    split at h <;> try exact h.elim
    rename_i o ho
    rw [nthN_eq] at ho
    obtain ⟨v', hr, _, e, h2⟩ := qOp_sound hty hs hf h
    subst e
    obtain ⟨hp, hl⟩ := revalK_sound hty hs hf h2
    refine ⟨hp, fun j u hm => ?_⟩
    simp only [List.mem_cons] at hm
    rcases hm with hm | hm
    · cases hm; exact ⟨o, ho, hr⟩
    · exact hl j u hm

theorem put_same {a b : Act} (hsz : a.tmps.size = b.tmps.size) (hdf : a.defers = b.defers) {dst : Option Nat} {u v : Value} (h : a.put dst u = a.put dst v) : b.put dst u = b.put dst v := by
  cases dst with
  | none => rfl
  | some d =>
    have h1 : a.tmps.setIfInBounds d u = a.tmps.setIfInBounds d v := by
      have := congrArg Act.tmps h
      exact this
    by_cases hd : d < a.tmps.size
    · have h2 := congrArg (fun t : Array Value => t[d]?) h1
      simp [hd] at h2
      rw [h2]
    · show ({ b with tmps := b.tmps.setIfInBounds d u } : Act) = { b with tmps := b.tmps.setIfInBounds d v }
      have h3 : ∀ x : Value, b.tmps.setIfInBounds d x = b.tmps := fun x => by
        apply Array.ext'
        simp only [Array.toList_setIfInBounds]
        exact List.set_eq_of_length_le (by simp; omega)
      rw [h3, h3]

theorem put_defers {a : Act} {d : Option Nat} {v : Value} : (a.put d v).defers = a.defers := by cases d <;> rfl

theorem wp_conv {o : Oper} {ae ar : Act} {w : World} (hsz : ae.tmps.size = ar.tmps.size) (hdf : ae.defers = ar.defers) (he : execOp ar.eval o = execOp ae.eval o) {K : Act → World → Prop} {Q : Exit → Act → World → Prop}
    (h : o.wp P ae w (fun a' w' => ∃ v, a' = ae.put o.dst v ∧ K (ar.put o.dst v) w') (fun _ _ _ => False)) : o.wp P ar w K Q := by
  have hk : ∀ v w', (∃ v', ae.put o.dst v = ae.put o.dst v' ∧ K (ar.put o.dst v') w') → K (ar.put o.dst v) w' := by
    rintro v w' ⟨v', e, hK⟩
    rw [put_same hsz hdf e]
    exact hK
  unfold Oper.wp at *
  rw [he]
  generalize (execOp ae.eval o).run P w = r at *
  cases r with
  | ok x w' =>
    cases x <;> simp only [Oper.upon] at h ⊢
    case value v => exact hk v w' h
    case skip => exact hk _ w' h
    case defer d =>
      obtain ⟨v', e, _⟩ := h
      have := congrArg (fun a : Act => a.defers.length) e
      simp [put_defers] at this
    case enter f args =>
      refine Calls.mono h ?_
      intro e w'' he'
      cases e with
      | returned v => exact hk v w'' he'
      | panicked c => exact he'.elim
      | outgrown => obtain ⟨_, _, hx⟩ := he'; exact hx.elim
    case row row args => exact Rows.mono h fun v w'' he' => hk v w'' he'
  | halt x w' => cases x <;> simp only [Oper.upon] at h ⊢ <;> exact h.elim

def cnt (l : List Bool) : Nat := l.countP (fun b => !b)

theorem cnt_set : ∀ (l : List Bool) (i : Nat), l[(i : Nat)]? = some false → cnt (l.set i true) + 1 = cnt l
  | [], i, h => by simp at h
  | b :: l, 0, h => by
    simp only [List.getElem?_cons_zero, Option.some.injEq] at h
    subst h
    simp [cnt]
  | b :: l, i + 1, h => by
    have := cnt_set l (i : Nat) (by simpa using h)
    simp only [cnt, List.set_cons_succ, List.countP_cons] at *
    omega

theorem cnt_zero : ∀ (l : List Bool), cnt l = 0 → ∀ (i : Nat), l[i]? ≠ some false
  | [], _, i => by simp
  | b :: l, h, i => by
    simp only [cnt, List.countP_cons] at h
    cases b with
    | false => simp at h
    | true =>
      cases i with
      | zero => simp
      | succ i => simpa using cnt_zero l (by simpa [cnt] using h) i

end
end Go.Fw

/-
  Regions whose order is drawn (fourth part): the induction.
-/
namespace Go.Fw
open Go

section
variable {P : Program} {ty : List (Nat × STy)} {ops : List Oper}

theorem putK_lt {N : Nat} {dst : Option Nat} {v : SV} {s : S} {k : S → Prop} (h : S.putK N dst v s k) : ∀ d, dst = some d → d < N := by
  intro d e
  subst e
  simp only [S.putK] at h
  split at h <;> try exact h.elim
  rename_i hd
  rw [blt_iff, decide_eq_true_eq] at hd
  exact hd

theorem put_at {a : Act} {dst : Option Nat} {v : Value} {d : Nat} (h : dst = some d) (hd : d < a.tmps.size) : (a.put dst v).tmps[d]? = some v := by
  subst h; simp [Act.put, hd]

theorem put_ne {a : Act} {dst : Option Nat} {v : Value} {d : Nat} (h : dst ≠ some d) : (a.put dst v).tmps[d]? = a.tmps[d]? := by
  cases dst with
  | none => rfl
  | some e => simp only [Act.put, Array.getElem?_setIfInBounds]; rw [if_neg (by rintro rfl; exact h rfl)]

theorem put_sz {a : Act} {dst : Option Nat} {v : Value} : (a.put dst v).tmps.size = a.tmps.size := by
  cases dst <;> simp [Act.put]

theorem put_tm {a b : Act} (hsz : a.tmps.size = b.tmps.size) {dst : Option Nat} {v : Value} {t : Nat} (h : dst ≠ some t → a.tmps[t]? = b.tmps[t]?) : (a.put dst v).tmps[t]? = (b.put dst v).tmps[t]? := by
  by_cases e : dst = some t
  · subst e
    simp only [Act.put, Array.getElem?_setIfInBounds, if_true, hsz]
  · rw [put_ne e, put_ne e]; exact h e

theorem Yd.move {β β' : Env} {n n' : Nat} {pe pe' : List (Nat × SV)} {q : Nat} {oq : Oper} {ae ae' : Act} {w w' : World} (h : Yd P ops β n pe q oq ae w)
    (hx : execOp ae'.eval oq = execOp ae.eval oq) (hw : Region.wanted oq (yielded ops.toArray ae'.tmps) = Region.wanted oq (yielded ops.toArray ae.tmps))
    (hd : ∀ d, oq.dst = some d → ae'.tmps[d]? = ae.tmps[d]?) (hn : n ≤ n') (hβ : ∀ id, id < n → β' id = β id)
    (hpe : ∀ v : SV, (q, v) ∈ pe → (execOp ae.eval oq).run P w = .ok (.value (v.den β)) w → (q, v) ∈ pe' ∧ (execOp ae.eval oq).run P w' = .ok (.value (v.den β')) w') : Yd P ops β' n' pe' q oq ae' w' := by
  unfold Yd at *
  rw [hx, hw]
  rcases h with ⟨h1, h2⟩ | ⟨h1, v, h2, h3, h4, h5⟩
  · exact .inl ⟨h1, fun d e => by rw [hd d e]; exact h2 d e⟩
  · have e := SV.den_congr hβ h2
    refine .inr ⟨h1, v, SV.lt_mono hn h2, ?_, fun d e' => by rw [hd d e', e]; exact h4 d e', ?_⟩
    · rcases h5 with h5 | h5
      · rw [e]; exact h5 w'
      · exact (hpe v h5 h3).2
    · rcases h5 with h5 | h5
      · left; rw [e]; exact h5
      · exact .inr (hpe v h5 h3).1

/-- The one walk takes a quiet operation. -/
theorem Rel.quiet (hc : DrawC ops) {D : List Nat} {pe pe' : List (Nat × SV)} {listed : Array Bool} {ae ar : Act} {β : Env} {n : Nat} {w : World} (h : Rel P ops D pe listed ae ar β n w) {i : Nat} {o : Oper} (ho : ops[i]? = some o)
    (hq : quietB o.op = true) (hi : i ∉ D) (hd : ∀ d ∈ depsO o, d ∈ D) {u : Value} (hpe : ∀ x ∈ pe, x ∈ pe')
    (hy : (Region.wanted o (yielded ops.toArray ae.tmps) = false ∧ ∀ d, o.dst = some d → (ae.put o.dst u).tmps[d]? = some undef) ∨
      (Region.wanted o (yielded ops.toArray ae.tmps) = true ∧ ∃ v : SV, v.lt n ∧ (execOp ae.eval o).run P w = .ok (.value (v.den β)) w ∧ (∀ d, o.dst = some d → (ae.put o.dst u).tmps[d]? = some (v.den β)) ∧
        ((∀ w', (execOp ae.eval o).run P w' = .ok (.value (v.den β)) w') ∨ (i, v) ∈ pe'))) :
    Rel P ops (i :: D) pe' listed (ae.put o.dst u) ar β n w := by
  have hil : listed[i]? ≠ some true := fun e => hi (h.sub i e)
  have same : ∀ (q : Nat) (oq : Oper), (q = i ∨ q ∈ D) → ops[q]? = some oq → execOp (ae.put o.dst u).eval oq = execOp ae.eval oq ∧ Region.wanted oq (yielded ops.toArray (ae.put o.dst u).tmps) = Region.wanted oq (yielded ops.toArray ae.tmps) := by
    intro q oq hqD hoq
    refine agree_run (hc.sel q oq hoq) fun t ht => put_ne ?_
    intro e
    have ha := (hc.qu i o ho hq t e q oq hoq).1 ht
    rcases hqD with rfl | hqD
    · exact absurd (ha.lt hc) (by omega)
    · exact hi (anc_done h.downD ha hqD)
  refine ⟨h.lsz, fun j hj => List.mem_cons_of_mem _ (h.sub j hj), h.down, ?_, ?_, ?_, by rw [put_sz]; exact h.sz, by rw [put_defers]; exact h.df⟩
  · intro j oj hj hoj d hdj
    simp only [List.mem_cons] at hj ⊢
    rcases hj with rfl | hj
    · rw [ho] at hoj; cases hoj; exact .inr (hd d hdj)
    · exact .inr (h.downD j oj hj hoj d hdj)
  · intro q oq hqD hql hoq
    simp only [List.mem_cons] at hqD
    by_cases e : q = i
    · subst e
      rw [ho] at hoq
      cases hoq
      refine ⟨hq, ?_⟩
      unfold Yd
      rw [(same q o (.inl rfl) ho).1, (same q o (.inl rfl) ho).2]
      exact hy
    · have hqD' := hqD.resolve_left e
      obtain ⟨h1, h2⟩ := h.qu q oq hqD' hql hoq
      refine ⟨h1, h2.move (same q oq hqD hoq).1 (same q oq hqD hoq).2 (fun d hdq => put_ne ?_) (Nat.le_refl _) (fun _ _ => rfl) (fun v hv hr => ⟨hpe _ hv, hr⟩)⟩
      intro e'
      exact (hc.qu i o ho hq d e' q oq hoq).2 (fun e'' => e e''.symm) hdq
  · intro t ht
    rw [put_ne (ht i o (by simp) hil ho)]
    exact h.tm t fun q oq hqD => ht q oq (List.mem_cons_of_mem _ hqD)

/-- What the one walk took already is listed. -/
theorem Rel.list (hc : DrawC ops) {D : List Nat} {pe : List (Nat × SV)} {listed : Array Bool} {ae ar : Act} {β : Env} {n : Nat} {w : World} (h : Rel P ops D pe listed ae ar β n w) {i : Nat} {o : Oper} (ho : ops[i]? = some o)
    (hi : i ∈ D) (hd : ∀ d ∈ depsO o, listed[d]? = some true) {u : Value} (hu : ∀ d, o.dst = some d → ae.tmps[d]? = some u) :
    Rel P ops D pe (listed.setIfInBounds i true) ae (ar.put o.dst u) β n w := by
  have hlt : i < listed.size := by rw [h.lsz]; exact (List.getElem?_eq_some_iff.1 ho).1
  refine ⟨by simp [h.lsz], ?_, ?_, h.downD, ?_, ?_, by rw [put_sz]; exact h.sz, by rw [put_defers]; exact h.df⟩
  · intro j hj
    rw [listed_set hlt] at hj
    rcases hj with rfl | hj
    · exact hi
    · exact h.sub j hj
  · intro j oj hj hoj d hdj
    rw [listed_set hlt] at hj ⊢
    rcases hj with rfl | hj
    · rw [ho] at hoj; cases hoj; exact .inr (hd d hdj)
    · exact .inr (h.down j oj hj hoj d hdj)
  · intro q oq hqD hql hoq
    exact h.qu q oq hqD (fun e => hql ((listed_set hlt).2 (.inr e))) hoq
  · intro t ht
    by_cases e : o.dst = some t
    · have h1 := hu t e
      have hts : t < ar.tmps.size := by rw [h.sz]; exact (Array.getElem?_eq_some_iff.1 h1).1
      rw [h1, put_at e hts]
    · rw [put_ne e]
      refine h.tm t fun q oq hqD hql hoq => ?_
      by_cases e' : q = i
      · subst e'; rw [ho] at hoq; cases hoq; exact e
      · exact ht q oq hqD (fun e'' => ((listed_set hlt).1 e'').elim e' hql) hoq

/-- What both take at once. -/
theorem Rel.both (hc : DrawC ops) {D : List Nat} {pe pe' : List (Nat × SV)} {listed : Array Bool} {ae ar : Act} {β β' : Env} {n n' : Nat} {w w' : World} (h : Rel P ops D pe listed ae ar β n w) {i : Nat} {o : Oper} (ho : ops[i]? = some o)
    (hq : quietB o.op = false) (hi : i ∉ D) (hd : ∀ d ∈ depsO o, listed[d]? = some true) (u : Value) (hn : n ≤ n') (hβ : ∀ id, id < n → β' id = β id)
    (hpe : ∀ (q : Nat) (oq : Oper) (v : SV), ops[q]? = some oq → q ∈ D → ¬ Anc ops q i → execOp (ae.put o.dst u).eval oq = execOp ae.eval oq → (q, v) ∈ pe → (execOp ae.eval oq).run P w = .ok (.value (v.den β)) w → (q, v) ∈ pe' ∧ (execOp ae.eval oq).run P w' = .ok (.value (v.den β')) w') :
    Rel P ops (i :: D) pe' (listed.setIfInBounds i true) (ae.put o.dst u) (ar.put o.dst u) β' n' w' := by
  have hlt : i < listed.size := by rw [h.lsz]; exact (List.getElem?_eq_some_iff.1 ho).1
  refine ⟨by simp [h.lsz], ?_, ?_, ?_, ?_, ?_, by rw [put_sz, put_sz]; exact h.sz, by rw [put_defers, put_defers]; exact h.df⟩
  · intro j hj
    rw [listed_set hlt] at hj
    rcases hj with rfl | hj
    · simp
    · exact List.mem_cons_of_mem _ (h.sub j hj)
  · intro j oj hj hoj d hdj
    rw [listed_set hlt] at hj ⊢
    rcases hj with rfl | hj
    · rw [ho] at hoj; cases hoj; exact .inr (hd d hdj)
    · exact .inr (h.down j oj hj hoj d hdj)
  · intro j oj hj hoj d hdj
    simp only [List.mem_cons] at hj ⊢
    rcases hj with rfl | hj
    · rw [ho] at hoj; cases hoj; exact .inr (h.sub d (hd d hdj))
    · exact .inr (h.downD j oj hj hoj d hdj)
  · intro q oq hqD hql hoq
    have hql' : q ≠ i ∧ listed[q]? ≠ some true := ⟨fun e => hql ((listed_set hlt).2 (.inl e)), fun e => hql ((listed_set hlt).2 (.inr e))⟩
    simp only [List.mem_cons] at hqD
    have hqD' := hqD.resolve_left hql'.1
    obtain ⟨h1, h2⟩ := h.qu q oq hqD' hql'.2 hoq
    have hna : ¬ Anc ops q i := fun ha => hql'.2 (anc_listed h.down ha fun o' ho' => by rw [ho] at ho'; cases ho'; exact hd)
    have same : execOp (ae.put o.dst u).eval oq = execOp ae.eval oq ∧ Region.wanted oq (yielded ops.toArray (ae.put o.dst u).tmps) = Region.wanted oq (yielded ops.toArray ae.tmps) := by
      refine agree_run (hc.sel q oq hoq) fun t ht => put_ne ?_
      intro e
      rcases hc.ld i o ho hq t e q oq hoq h1 ht with ha | ha
      · exact hi (anc_done h.downD ha hqD')
      · exact hna ha
    refine ⟨h1, h2.move same.1 same.2 (fun d hdq => put_ne ?_) hn hβ (fun v hv hr => hpe q oq v hoq hqD' hna same.1 hv hr)⟩
    exact (hc.qu q oq hoq h1 d hdq i o ho).2 hql'.1
  · intro t ht
    refine put_tm h.sz fun e => h.tm t fun q oq hqD hql hoq => ?_
    by_cases e' : q = i
    · subst e'; exact absurd hqD hi
    · exact ht q oq (List.mem_cons_of_mem _ hqD) (fun e'' => ((listed_set hlt).1 e'').elim e' hql) hoq

theorem ready_iff {listed : Array Bool} {i : Nat} (hl : listed.size = ops.length) : i ∈ Region.ready .any ops.toArray listed ↔ listed[i]? ≠ some true ∧ ∃ o, ops[i]? = some o ∧ ∀ d ∈ depsO o, listed[d]? = some true := by
  rw [mem_ready]
  have hg : ∀ j, listed.getD j false = true ↔ listed[j]? = some true := by
    intro j
    rw [Array.getD_eq_getD_getElem?]
    cases listed[j]? with
    | none => simp
    | some b => simp
  constructor
  · rintro ⟨h1, o, ho, h2⟩
    rw [List.getElem?_toArray] at ho
    refine ⟨?_, o, ho, ?_⟩
    · intro e
      rw [Array.getD_eq_getD_getElem?, e] at h1
      cases h1
    · intro d hd
      obtain ⟨e, he, hb, rfl⟩ := mem_depsL.1 hd
      exact (hg _).1 (h2 e (by simpa using he) hb)
  · rintro ⟨h1, o, ho, h2⟩
    have hlt : i < listed.size := by rw [hl]; exact (List.getElem?_eq_some_iff.1 ho).1
    refine ⟨?_, o, by rw [List.getElem?_toArray]; exact ho, ?_⟩
    · rw [Array.getD_eq_getD_getElem?]
      cases hx : listed[i]? with
      | none => rw [Array.getElem?_eq_none_iff] at hx; omega
      | some b =>
        cases b with
        | false => rfl
        | true => exact absurd hx h1
    · intro e he hb
      exact (hg _).2 (h2 _ (mem_depsL.2 ⟨e, by simpa using he, hb, rfl⟩))

/-- No operation is ready: all are listed. -/
theorem all_listed (hc : DrawC ops) {listed : Array Bool} (hl : listed.size = ops.length) (h : Region.ready .any ops.toArray listed = []) : ∀ i, i < ops.length → listed[i]? = some true := by
  intro i
  induction i using Nat.strongRecOn with
  | _ i ih =>
    intro hi
    refine Classical.byContradiction fun hn => ?_
    have : i ∈ Region.ready .any ops.toArray listed := (ready_iff hl).2 ⟨hn, ops[i], List.getElem?_eq_getElem hi, fun d hd => ih d (hc.lt i _ (List.getElem?_eq_getElem hi) d hd) (Nat.lt_trans (hc.lt i _ (List.getElem?_eq_getElem hi) d hd) hi)⟩
    rw [h] at this
    cases this

end
end Go.Fw

/-
  Regions whose order is drawn (fifth part): the theorem.
-/
namespace Go.Fw
open Go

section
variable {P : Program} {ty : List (Nat × STy)} {ops : List Oper}

theorem SO.ok_drawn {β : Env} {Z : Nat → Prop} {f : Nat → Prop} {w : World} {p : Option Addr} {o : SO} (n : Nat) (h : SO.ok β Z f w p o) : SO.ok β Z f { w with drawn := n } p o := by
  cases o with
  | gen A => exact ⟨h.2 Z { w with drawn := n } (fun _ hb => hb) (fun _ _ => rfl), fun Z' w' h1 h2 => h.2 Z' w' h1 h2⟩
  | box T cs => exact h
  | arr own E k xs sp => exact h
  | pool E k m => exact ⟨h.row, h.one⟩
  | map kk vk es c => exact h
  | iter a b c d e => exact h

/-- All taken: the frames are one. -/
theorem Rel.done {D : List Nat} {pe : List (Nat × SV)} {listed : Array Bool} {ae ar : Act} {β : Env} {n N : Nat} {s : S} {w : World} (h : Rel P ops D pe listed ae ar β n w) (hl : ∀ i, i < ops.length → listed[i]? = some true)
    (hf : FSat β s N ae) : FSat β s N ar := by
  have ht : ∀ t, ar.tmps[t]? = ae.tmps[t]? := fun t => h.tm t fun q oq _ hql hoq => absurd (hl q (List.getElem?_eq_some_iff.1 hoq).1) hql
  exact ⟨fun t v hv => by rw [ht]; exact hf.tmp t v hv, hf.lt, h.sz.trans hf.size, h.df.trans hf.defers⟩

theorem readyL_nil {done : List Nat} : ∀ {l : List Oper} {k : Nat}, (∀ i, i < l.length → k + i ∈ done) → readyL done l k = []
  | [], _, _ => rfl
  | x :: l, k, h => by
    simp only [readyL]
    have hk : readyB done k x = false := by
      unfold readyB
      rw [memN_iff.2 (by simpa using h 0 (by simp))]
    rw [hk]
    exact readyL_nil fun i hi => by
      have := h (i + 1) (by simp; omega)
      rwa [show k + 1 + i = k + (i + 1) by omega]

theorem qOp_wide (hty : TyOk P ty) {β : Env} {Z : Nat → Prop} {fp : Nat → Nat → Prop} {s : S} {w : World} {N : Nat} {a : Act} (hs : HSat β Z fp s w) (hf : FSat β s N a) {k : SV → Prop} {o : Oper} (h : qOp ty o.op s k) :
    ∃ v : SV, (execOp a.eval o).run P w = .ok (.value (v.den β)) w ∧ v.lt s.nx ∧ k v ∧ (isLoad o.op = false → ∀ w', (execOp a.eval o).run P w' = .ok (.value (v.den β)) w') := by
  cases hl : isLoad o.op with
  | false => obtain ⟨v, h1, h2, h3⟩ := qOp_still hty hs.b hf hl h; exact ⟨v, h1 w, h2, h3, fun _ => h1⟩
  | true => obtain ⟨v, h1, h2, h3⟩ := qOp_sound hty hs hf h; exact ⟨v, h1, h2, h3, by simp⟩

theorem draw_main (hty : TyOk P ty) (hc : DrawC ops) {C : Ctx} {kn : S → Prop} {Q : Exit → Act → World → Prop} (hQ : ∀ s a w, kn s → Sat C s a w → Q .normal a w) :
    ∀ (fuel : Nat) (D : List Nat) (pe : List (Nat × SV)) (s : S), drawP P ty C.N ops kn fuel D pe s →
      ∀ (m : Nat) (β : Env) (Z : Nat → Prop) (fp : Nat → Nat → Prop) (w : World) (ae ar : Act) (listed : Array Bool), HSat β Z fp s w → FSat β s C.N ae → Cok C β Z s w → Rel P ops D pe listed ae ar β s.nx w →
        cnt listed.toList ≤ m → wpAny P .any ops.toArray Q m listed ar w
  | 0, _, _, _, h => h.elim
  | fuel + 1, D, pe, s, h => by
    intro m β Z fp w ae ar listed hs hf hk hr hm
    have ih := draw_main hty hc hQ fuel
    unfold drawP at h
    split at h
    · rename_i i o hrq
      obtain ⟨_, ho, hq, hrd⟩ := readyQ_some hrq
      simp only [Nat.sub_zero] at ho
      rw [readyB_iff] at hrd
      rcases guardK_soundB h hs hf hk o rfl with ⟨hw, s', h, hnx, hs', hf', hk'⟩ | ⟨hw, s', h, hnx, hs', hf', hk'⟩
      · obtain ⟨v, hrun, hvl, h, hwide⟩ := qOp_wide hty hs' hf' h
        have hdN := putK_lt h
        obtain ⟨s2, h, hnx2, hs2, hf2, hk2⟩ := putK_soundB hf' hk' (Nxt.refl hs' hvl) h
        have hat : ∀ d, o.dst = some d → (ae.put o.dst (v.den β)).tmps[d]? = some (v.den β) := fun d e => put_at e (by rw [hf.size]; exact hdN d e)
        refine ih _ _ _ h m β Z fp w _ ar listed hs2 hf2 hk2 ?_ hm
        rw [hnx2, hnx]
        refine hr.quiet hc ho hq hrd.1 hrd.2 (fun x hx => ?_) (.inr ⟨hw, v, hnx ▸ hvl, hrun, hat, ?_⟩)
        · unfold addP; split
          · exact List.mem_cons_of_mem _ hx
          · exact hx
        · cases hl : isLoad o.op with
          | false => exact .inl (hwide hl)
          | true => right; simp [addP]
      · have hdN := putK_lt h
        obtain ⟨s2, h, hnx2, hs2, hf2, hk2⟩ := putK_soundB hf' hk' (Nxt.refl hs' (v := .u) (by simp [SV.lt])) h
        have hat : ∀ d, o.dst = some d → (ae.put o.dst (SV.den β .u)).tmps[d]? = some undef := fun d e => by rw [put_at e (by rw [hf.size]; exact hdN d e)]; rfl
        refine ih _ _ _ h m β Z fp w _ ar listed hs2 hf2 hk2 ?_ hm
        rw [hnx2, hnx]
        exact hr.quiet hc ho hq hrd.1 hrd.2 (fun x hx => hx) (.inl ⟨hw, hat⟩)
    · rename_i hrq
      -- what comes at the end
      have fin : ∀ (listed : Array Bool) (ar : Act), Rel P ops D pe listed ae ar β s.nx w → Region.ready .any ops.toArray listed = [] → Q .normal ar w := by
        intro listed ar hr hnil
        have hall := all_listed hc hr.lsz hnil
        have hD : ∀ i, i < ops.length → i ∈ D := fun i hi => hr.sub i (hall i hi)
        have : readyL D ops 0 = [] := readyL_nil (by simpa using hD)
        rw [this] at h
        simp only at h
        split at h
        · exact hQ s ar w h ⟨β, Z, fp, hs, hr.done hall hf, hk⟩
        · exact h.elim
      -- the loud one
      have loud : ∀ (m : Nat) (listed : Array Bool) (ar : Act) (i : Nat) (o : Oper), Rel P ops D pe listed ae ar β s.nx w → cnt listed.toList ≤ m + 1 → ops[i]? = some o → listed[i]? ≠ some true → i ∉ D → (∀ d ∈ depsO o, listed[d]? = some true) →
          wpOp P ops.toArray Q i (wpAny P .any ops.toArray Q m (listed.setIfInBounds i true)) ar w := by
        intro m listed ar i o hr hm ho hil hiD hd
        have hlt : i < listed.size := by rw [hr.lsz]; exact (List.getElem?_eq_some_iff.1 ho).1
        have hcnt : cnt (listed.setIfInBounds i true).toList ≤ m := by
          have := cnt_set listed.toList i (by
            rw [Array.getElem?_toList]
            cases hx : listed[i]? with
            | none => rw [Array.getElem?_eq_none_iff] at hx; omega
            | some b => cases b with
              | false => rfl
              | true => exact absurd hx hil)
          rw [Array.toList_setIfInBounds]
          omega
        have hrd : readyB D i o = true := readyB_iff.2 ⟨hiD, fun d hdm => hr.sub d (hd d hdm)⟩
        have hq : quietB o.op = false := by
          cases hq : quietB o.op with
          | false => rfl
          | true =>
            have := readyQ_none hrq i o ho hq
            rw [Nat.zero_add, hrd] at this
            cases this
        have hmem : (i, o) ∈ readyL D ops 0 := by simpa using readyL_mem (k := 0) ho (by simpa using hrd)
        have alike := hr.alike hc ho hd
        have hL : allK (readyL D ops 0) fun i o => guardK ops o.guard s
            (fun s' => opK P ty C.N o s' fun s1 v => S.putK C.N o.dst v s1 fun s2 => revalK ty ops (keepP (ancs ops i) pe) s2 (drawP P ty C.N ops kn fuel (i :: D) (keepP (ancs ops i) pe) s2))
            (fun s' => S.putK C.N o.dst .u s' fun s2 => drawP P ty C.N ops kn fuel (i :: D) pe s2) := by
          revert h hmem
          cases readyL D ops 0 with
          | nil => intro _ hmem; cases hmem
          | cons a l => intro h _; exact h
        have h1 := allK_mem hL i o hmem
        unfold wpOp
        simp only [List.getElem?_toArray, ho]
        rcases guardK_soundB h1 hs hf hk o rfl with ⟨hw, s', h1, hnx, hs', hf', hk'⟩ | ⟨hw, s', h1, hnx, hs', hf', hk'⟩
        · rw [alike.2, hw, if_pos rfl]
          left
          refine wp_conv hr.sz.symm hr.df.symm alike.1 ?_
          refine opK_sound hty h1 β Z fp w ae hs' hf' _ _ ?_
          intro v w' β' Z' fp' s1 hn h1
          refine ⟨v.den β', rfl, ?_⟩
          obtain ⟨s2, h1, hnx2, hs2, hf2, hk2⟩ := putK_soundB hf' hk' hn h1
          obtain ⟨h1, hrev⟩ := revalK_sound hty hs2 hf2 h1
          refine ih _ _ _ h1 m β' Z' fp' w' _ _ _ hs2 hf2 hk2 ?_ hcnt
          refine hr.both hc ho hq hiD hd _ (by have := hn.nx; omega) (fun id hid => hn.env id (by omega)) ?_
          intro q oq v' hoq hqD hna hx hv hrun
          have hin : (q, v') ∈ keepP (ancs ops i) pe := keepP_mem hv fun e => hna (ancs_spec e)
          obtain ⟨o', ho', hrun'⟩ := hrev q v' hin
          rw [hoq] at ho'
          cases ho'
          exact ⟨hin, by rw [← hx]; exact hrun'⟩
        · rw [alike.2, hw, if_neg (by simp)]
          obtain ⟨s2, h1, hnx2, hs2, hf2, hk2⟩ := putK_soundB hf' hk' (Nxt.refl hs' (v := .u) (by simp [SV.lt])) h1
          refine ih _ _ _ h1 m β Z fp w _ _ _ hs2 hf2 hk2 ?_ hcnt
          exact hr.both hc ho hq hiD hd _ (by omega) (fun _ _ => rfl) fun q oq v' hoq hqD hna hx hv hrun => ⟨hv, hrun⟩
      -- the order drawn
      clear hrq ih
      induction m generalizing listed ar with
      | zero =>
        have hall : Region.ready .any ops.toArray listed = [] := by
          cases hx : Region.ready .any ops.toArray listed with
          | nil => rfl
          | cons i l =>
            have : i ∈ Region.ready .any ops.toArray listed := by rw [hx]; simp
            rw [ready_iff hr.lsz] at this
            obtain ⟨h1, o, ho, _⟩ := this
            have hlt : i < listed.size := by rw [hr.lsz]; exact (List.getElem?_eq_some_iff.1 ho).1
            have h2 := cnt_zero listed.toList (by omega) i
            rw [Array.getElem?_toList] at h2
            cases hx : listed[i]? with
            | none => rw [Array.getElem?_eq_none_iff] at hx; omega
            | some b => cases b with
              | false => exact absurd hx h2
              | true => exact absurd hx h1
        exact ⟨hall, fin listed ar hr hall⟩
      | succ m ihm =>
        refine ⟨fin listed ar hr, fun i hi => ?_⟩
        rw [ready_iff hr.lsz] at hi
        obtain ⟨hil, o, ho, hd⟩ := hi
        by_cases hiD : i ∈ D
        · obtain ⟨hq, hy⟩ := hr.qu i o hiD hil ho
          have alike := hr.alike hc ho hd
          have hlt : i < listed.size := by rw [hr.lsz]; exact (List.getElem?_eq_some_iff.1 ho).1
          have hcnt : cnt (listed.setIfInBounds i true).toList ≤ m := by
            have := cnt_set listed.toList i (by
              rw [Array.getElem?_toList]
              cases hx : listed[i]? with
              | none => rw [Array.getElem?_eq_none_iff] at hx; omega
              | some b => cases b with
                | false => rfl
                | true => exact absurd hx hil)
            rw [Array.toList_setIfInBounds]
            omega
          unfold wpOp
          simp only [List.getElem?_toArray, ho]
          rcases hy with ⟨hw, hdst⟩ | ⟨hw, v, hvl, hrun, hdst, _⟩
          · rw [alike.2, hw, if_neg (by simp)]
            exact ihm _ _ (hr.list hc ho hiD hd hdst) hcnt
          · rw [alike.2, hw, if_pos rfl]
            left
            unfold Oper.wp
            rw [alike.1, hrun]
            exact ihm _ _ (hr.list hc ho hiD hd hdst) hcnt
        · exact loud m listed ar i o hr hm ho hil hiD hd

theorem draw_of (hm : P.follows .mixedOrders = true) (hty : TyOk P ty) {N n0 : Nat} {ops : Array Oper} (fuel : Nat) (hc : drawOk ops.toList = true) {s : S} {kn : S → Prop} (h : drawP P ty N ops.toList kn fuel [] [] s) : DrawX P N n0 ops s kn := by
  unfold DrawX
  intro C id a w Q hN _ hs hQ
  subst hN
  obtain ⟨β, Z, fp, hs, hf, hk⟩ := hs
  refine wp_region_any hm ?_
  have hs' : HSat β Z fp s { w with drawn := w.drawn + 1 } := ⟨hs.zlt, hs.flt, hs.sep, fun id o ho => SO.ok_drawn _ (hs.obj id o ho), hs.lto⟩
  have hk' : Cok C β Z s { w with drawn := w.drawn + 1 } := ⟨hk.zz, ⟨hk.ext.os, hk.ext.tape, hk.ext.output, hk.ext.size, hk.ext.block⟩, hk.env, hk.nx⟩
  have key := draw_main hty (drawOk_spec hc) hQ _ [] [] s h ops.size β Z fp _ a a (Array.replicate ops.size false) hs' hf hk' ?_ ?_
  · simpa using key
  · have hno : ∀ i, (Array.replicate ops.size false)[i]? ≠ some true := fun i => by
      rw [Array.getElem?_replicate]; split <;> simp
    exact ⟨by simp, fun i hi => absurd hi (hno i), fun i o hi => absurd hi (hno i), fun i o hi => (List.not_mem_nil hi).elim, fun i o hi => (List.not_mem_nil hi).elim, fun t _ => rfl, rfl, rfl⟩
  · have : ∀ n, cnt (List.replicate n false) ≤ n := by
      intro n; induction n with
      | zero => simp [cnt]
      | succ n ih => simp only [cnt, List.replicate_succ, List.countP_cons] at *; simp; omega
    simpa using this ops.size

end
end Go.Fw

/-
  A call from within a greater state: what the callee sees is numbered anew.
-/
namespace Go.Fw
open Go

def mvCaps (g : Nat → Option Nat) : List (Nat × Nat) → Option (List (Nat × Nat))
  | [] => some []
  | (i, o) :: l => match g i, mvCaps g l with
    | some j, some m => some ((j, o) :: m)
    | _, _ => none

def mvC (g : Nat → Option Nat) : SC → Option SC
  | .i n => some (.i n)
  | .b n => some (.b n)
  | .v n => some (.v n)
  | .ptr i o => match g i with
    | some j => some (.ptr j o)
    | none => none
  | .elt i sz k o => match g i with
    | some j => some (.elt j sz k o)
    | none => none
  | .sl i sz lo len cap => match g i with
    | some j => some (.sl j sz lo len cap)
    | none => none
  | .fn f l => match mvCaps g l with
    | some m => some (.fn f m)
    | none => none
  | .fnv f l => some (.fnv f l)
  | .u n => some (.u n)
  | .h n => some (.h n)
  | .q n => some (.q n)
  | .mp i => match g i with
    | some j => some (.mp j)
    | none => none
  | .pe i sz a k o => match g i with
    | some j => some (.pe j sz a k o)
    | none => none

def mvLK (g : Nat → Option Nat) : List SC → (List SC → Prop) → Prop
  | [], k => k []
  | c :: l, k => match mvC g c with
    | some d => mvLK g l fun m => k (d :: m)
    | none => False

def mvAK (g : Nat → Option Nat) : SA → (SA → Prop) → Prop
  | .c x, k => match mvC g x with
    | some d => k (.c d)
    | none => False
  | .agg l, k => mvLK g l fun m => k (.agg m)

def mvTK (g : Nat → Option Nat) : List SA → (List SA → Prop) → Prop
  | [], k => k []
  | c :: l, k => mvAK g c fun d => mvTK g l fun m => k (d :: m)

def mvVK (g : Nat → Option Nat) : SV → (SV → Prop) → Prop
  | .a x, k => mvAK g x fun d => k (.a d)
  | .tup l, k => mvTK g l fun m => k (.tup m)

def mvOK (g : Nat → Option Nat) : SO → (SO → Prop) → Prop
  | .box T cs, k => mvLK g cs fun m => k (.box T m)
  | .arr true E ek xs sp, k => k (.arr true E ek xs sp)
  | .pool E ek m, k => k (.pool E ek m)
  | .map kk vk es c, k => k (.map kk vk es c)
  | .iter i a l b d, k => match g i with
    | some j => k (.iter j a l b d)
    | none => False
  | _, _ => False

structure Gd (g : Nat → Option Nat) (β' βB : Env) (n' n2 : Nat) : Prop where
  env : ∀ i j, g i = some j → i < n' → βB j = β' i
  lt : ∀ i j, g i = some j → i < n' → j < n2

section
variable {g : Nat → Option Nat} {β' βB : Env} {n' n2 : Nat}

theorem mvCaps_spec (h : Gd g β' βB n' n2) : ∀ {l m : List (Nat × Nat)}, mvCaps g l = some m → (∀ p ∈ l, p.1 < n') →
    (m.map fun p => Value.pointer ((βB p.1).map (·.add p.2))) = (l.map fun p => Value.pointer ((β' p.1).map (·.add p.2))) ∧ ∀ p ∈ m, p.1 < n2
  | [], m, hm, _ => by cases hm; exact ⟨rfl, by simp⟩
  | (i, o) :: l, m, hm, hl => by
    simp only [mvCaps] at hm
    split at hm <;> try cases hm
    rename_i j m' hj hm'
    have hi := hl (i, o) (by simp)
    obtain ⟨e1, e2⟩ := mvCaps_spec h hm' (fun p hp => hl p (by simp [hp]))
    refine ⟨by simp only [List.map_cons, e1, h.env i j hj hi], ?_⟩
    intro p hp
    simp only [List.mem_cons] at hp
    rcases hp with rfl | hp
    · exact h.lt i j hj hi
    · exact e2 p hp

theorem mvC_spec (h : Gd g β' βB n' n2) {c d : SC} (hm : mvC g c = some d) (hc : c.lt n') : d.den βB = c.den β' ∧ d.lt n2 := by
  cases c with
  | i n => cases hm; exact ⟨rfl, trivial⟩
  | b n => cases hm; exact ⟨rfl, trivial⟩
  | v n => cases hm; exact ⟨rfl, hc⟩
  | ptr i o =>
    simp only [mvC] at hm
    split at hm <;> cases hm
    rename_i j hj
    exact ⟨by simp [SC.den, h.env i j hj hc], h.lt i j hj hc⟩
  | elt i sz k o =>
    simp only [mvC] at hm
    split at hm <;> cases hm
    rename_i j hj
    exact ⟨by simp [SC.den, h.env i j hj hc], h.lt i j hj hc⟩
  | sl i sz lo len cap =>
    simp only [mvC] at hm
    split at hm <;> cases hm
    rename_i j hj
    exact ⟨by simp [SC.den, h.env i j hj hc], h.lt i j hj hc⟩
  | fn f l =>
    simp only [mvC] at hm
    split at hm <;> cases hm
    rename_i m hj
    obtain ⟨e1, e2⟩ := mvCaps_spec h hj hc
    exact ⟨by simp [SC.den, e1], e2⟩
  | fnv f l => cases hm; exact ⟨rfl, trivial⟩
  | u n => cases hm; exact ⟨rfl, trivial⟩
  | h n => cases hm; exact ⟨rfl, trivial⟩
  | q n => cases hm; exact ⟨rfl, trivial⟩
  | mp i =>
    simp only [mvC] at hm
    split at hm <;> cases hm
    rename_i j hj
    exact ⟨by simp [SC.den, h.env i j hj hc], h.lt i j hj hc⟩
  | pe i sz a k o =>
    simp only [mvC] at hm
    split at hm <;> cases hm
    rename_i j hj
    exact ⟨rfl, h.lt i j hj hc⟩

theorem mvLK_spec (h : Gd g β' βB n' n2) : ∀ {l : List SC} {k : List SC → Prop}, mvLK g l k → (∀ c ∈ l, SC.lt n' c) → ∃ m, k m ∧ m.map (SC.den βB) = l.map (SC.den β') ∧ ∀ c ∈ m, SC.lt n2 c
  | [], k, hk, _ => ⟨[], hk, rfl, by simp⟩
  | c :: l, k, hk, hl => by
    simp only [mvLK] at hk
    split at hk <;> try exact hk.elim
    rename_i d hd
    obtain ⟨e1, e2⟩ := mvC_spec h hd (hl c (by simp))
    obtain ⟨m, hk, f1, f2⟩ := mvLK_spec h hk (fun c hc => hl c (by simp [hc]))
    refine ⟨d :: m, hk, by simp [e1, f1], ?_⟩
    intro x hx
    simp only [List.mem_cons] at hx
    rcases hx with rfl | hx
    · exact e2
    · exact f2 x hx

theorem mvAK_spec (h : Gd g β' βB n' n2) {x : SA} {k : SA → Prop} (hk : mvAK g x k) (hl : x.lt n') : ∃ y, k y ∧ y.den βB = x.den β' ∧ y.lt n2 := by
  cases x with
  | c x =>
    simp only [mvAK] at hk
    split at hk <;> try exact hk.elim
    rename_i d hd
    exact ⟨_, hk, mvC_spec h hd hl⟩
  | agg l =>
    obtain ⟨m, hk, e1, e2⟩ := mvLK_spec h (show mvLK g l _ from hk) hl
    exact ⟨_, hk, by simp [SA.den, e1], e2⟩

theorem mvTK_spec (h : Gd g β' βB n' n2) : ∀ {l : List SA} {k : List SA → Prop}, mvTK g l k → (∀ c ∈ l, SA.lt n' c) → ∃ m, k m ∧ m.map (SA.den βB) = l.map (SA.den β') ∧ ∀ c ∈ m, SA.lt n2 c
  | [], k, hk, _ => ⟨[], hk, rfl, by simp⟩
  | c :: l, k, hk, hl => by
    obtain ⟨d, hk, e1, e2⟩ := mvAK_spec h (show mvAK g c _ from hk) (hl c (by simp))
    obtain ⟨m, hk, f1, f2⟩ := mvTK_spec h hk (fun c hc => hl c (by simp [hc]))
    refine ⟨d :: m, hk, by simp [e1, f1], ?_⟩
    intro x hx
    simp only [List.mem_cons] at hx
    rcases hx with rfl | hx
    · exact e2
    · exact f2 x hx

theorem mvVK_spec (h : Gd g β' βB n' n2) {x : SV} {k : SV → Prop} (hk : mvVK g x k) (hl : x.lt n') : ∃ y, k y ∧ y.den βB = x.den β' ∧ y.lt n2 := by
  cases x with
  | a x =>
    obtain ⟨y, hk, e⟩ := mvAK_spec h (show mvAK g x _ from hk) hl
    exact ⟨_, hk, e⟩
  | tup l =>
    obtain ⟨m, hk, e1, e2⟩ := mvTK_spec h (show mvTK g l _ from hk) hl
    exact ⟨_, hk, by simp [SV.den, e1], e2⟩

theorem mvOK_spec (h : Gd g β' βB n' n2) {x : SO} {k : SO → Prop} (hk : mvOK g x k) (hl : x.lt n') : ∃ y, k y ∧ y.lt n2 ∧ y.own = true ∧ ∀ Z Z' fp w oa, x.ok β' Z fp w oa → y.ok βB Z' fp w oa := by
  cases x with
  | box T cs =>
    obtain ⟨m, hk, e1, e2⟩ := mvLK_spec h (show mvLK g cs _ from hk) hl
    refine ⟨_, hk, e2, rfl, ?_⟩
    rintro Z Z' fp w oa ⟨b, h1, h2, h3⟩
    exact ⟨b, h1, h2, by rw [h3, e1]⟩
  | arr own E ek xs sp =>
    cases own with
    | true => exact ⟨_, hk, trivial, rfl, fun Z Z' fp w oa hx => hx⟩
    | false => exact hk.elim
  | pool E ek m => exact ⟨_, hk, trivial, rfl, fun Z Z' fp w oa hx => hx⟩
  | map kk vk es c => exact ⟨_, hk, trivial, rfl, fun Z Z' fp w oa hx => hx⟩
  | iter i a l b d =>
    simp only [mvOK] at hk
    split at hk <;> try exact hk.elim
    rename_i j hj
    refine ⟨_, hk, h.lt i j hj hl, rfl, ?_⟩
    rintro Z Z' fp w oa ⟨c, r, g1, g2, g3, g4⟩
    exact ⟨c, r, g1, g2, (h.env i j hj hl).trans g3, g4⟩
  | gen A => exact hk.elim
end

def hasId (i : Nat) : List (Nat × SO) → Bool
  | [] => false
  | (j, _) :: l => match Nat.beq i j with
    | true => true
    | false => hasId i l

def dropK (ids : List Nat) : List (Nat × SO) → List (Nat × SO) → (List (Nat × SO) → Prop) → Prop
  | [], hp, k => k hp
  | (i, o) :: l, hp, k => match o.own with
    | true => match nthN ids i with
      | some j => delC hp j fun hp' => dropK ids l hp' k
      | none => False
    | false => dropK ids l hp k

def backK (g : Nat → Option Nat) (q : Nat → Bool) : List (Nat × SO) → List (Nat × SO) → (List (Nat × SO) → Prop) → Prop
  | [], hp, k => k hp
  | (i, o) :: l, hp, k => match hasId i l with
    | true => False
    | false => match o.own with
      | true => match g i, q i with
        | some j, true => mvOK g o fun o2 => backK g q l hp fun hp' => updK hp' j o2 k
        | _, _ => False
      | false => backK g q l hp k

theorem hasId_look {i : Nat} : ∀ {l : List (Nat × SO)}, hasId i l = false → look l i = none
  | [], _ => rfl
  | (j, o) :: l, h => by
    simp only [hasId] at h
    rw [look_cons]
    split at h
    · cases h
    · rename_i hne
      simp only [nbeq, decide_eq_false_iff_not] at hne
      rw [if_neg (fun e => hne e.symm)]
      exact hasId_look h

theorem dropK_spec {ids : List Nat} : ∀ {l hp : List (Nat × SO)} {k : List (Nat × SO) → Prop}, dropK ids l hp k → ∃ hp', k hp' ∧ (∀ id o, look hp' id = some o → look hp id = some o) ∧
    ∀ i o, look l i = some o → o.own = true → ∀ j, ids[i]? = some j → look hp' j = none
  | [], hp, k, h => ⟨hp, h, fun _ _ h => h, fun i o h => by cases h⟩
  | (t, v) :: l, hp, k, h => by
    simp only [dropK] at h
    split at h
    · rename_i hown
      split at h <;> try exact h.elim
      rename_i j hj
      rw [nthN_eq] at hj
      rw [delC_iff] at h
      obtain ⟨hp', hk, h1, h2⟩ := dropK_spec h
      have h3 : ∀ id o, look hp' id = some o → j ≠ id ∧ look hp id = some o := by
        intro id o hl
        have := h1 id o hl
        rw [look_delK] at this
        split at this
        · cases this
        · rename_i e; exact ⟨e, this⟩
      refine ⟨hp', hk, fun id o hl => (h3 id o hl).2, ?_⟩
      intro i o hl ho j' hj'
      rw [look_cons] at hl
      split at hl
      · rename_i e
        subst e
        rw [hj] at hj'
        cases hj'
        cases hx : look hp' j with
        | none => rfl
        | some o' => exact absurd rfl (h3 j o' hx).1
      · exact h2 i o hl ho j' hj'
    · rename_i hown
      obtain ⟨hp', hk, h1, h2⟩ := dropK_spec h
      refine ⟨hp', hk, h1, ?_⟩
      intro i o hl ho j' hj'
      rw [look_cons] at hl
      split at hl
      · cases hl; rw [hown] at ho; cases ho
      · exact h2 i o hl ho j' hj'

theorem backK_spec {g : Nat → Option Nat} {q : Nat → Bool} {β' βB : Env} {n' n2 : Nat} (hg : Gd g β' βB n' n2) : ∀ {l hp : List (Nat × SO)} {k : List (Nat × SO) → Prop}, backK g q l hp k → (∀ i o, look l i = some o → o.lt n') → ∃ hp', k hp' ∧
    ∀ id o, look hp' id = some o → (∃ i x, look l i = some x ∧ g i = some id ∧ q i = true ∧ o.lt n2 ∧ ∀ Z Z' fp w oa, x.ok β' Z fp w oa → o.ok βB Z' fp w oa) ∨ (look hp id = some o)
  | [], hp, k, h, _ => ⟨hp, h, fun id o h => .inr h⟩
  | (t, v) :: l, hp, k, h, hlt => by
    simp only [backK] at h
    split at h
    · exact h.elim
    rename_i hno
    have hno' := hasId_look hno
    have hlt' : ∀ i o, look l i = some o → o.lt n' := by
      intro i o hl
      refine hlt i o ?_
      rw [look_cons]
      split
      · rename_i e; subst e; rw [hno'] at hl; cases hl
      · exact hl
    have up : ∀ i x, look l i = some x → look ((t, v) :: l) i = some x := by
      intro i x hl
      rw [look_cons]
      split
      · rename_i e; subst e; rw [hno'] at hl; cases hl
      · exact hl
    split at h
    · split at h <;> try exact h.elim
      rename_i j hj hqi
      obtain ⟨o2, h, ho2, _, hok⟩ := mvOK_spec hg h (hlt t v (by simp [look_cons]))
      obtain ⟨hp', h, h1⟩ := backK_spec hg h hlt'
      rw [updK_iff] at h
      refine ⟨_, h, ?_⟩
      intro id o hl
      rw [look_upd] at hl
      split at hl
      · rename_i e
        subst e
        cases hl
        exact .inl ⟨t, v, by simp [look_cons], hj, hqi, ho2, hok⟩
      · rcases h1 id o hl with ⟨i, x, h2, h3⟩ | h2
        · exact .inl ⟨i, x, up i x h2, h3⟩
        · exact .inr h2
    · obtain ⟨hp', h, h1⟩ := backK_spec hg h hlt'
      refine ⟨_, h, ?_⟩
      intro id o hl
      rcases h1 id o hl with ⟨i, x, h2, h3⟩ | h2
      · exact .inl ⟨i, x, up i x h2, h3⟩
      · exact .inr h2

end Go.Fw

/-
  A call from within a greater state (second part): the rule.
-/
namespace Go.Fw
open Go

def renOf : Nat → List Nat → List (Nat × Option Nat)
  | _, [] => []
  | n, j :: l => (n, some j) :: renOf (n + 1) l

def gOf (ids : List Nat) (m nx i : Nat) : Option Nat := match Nat.blt i m with
  | true => nthN ids i
  | false => some (nx + (i - m))

def ltB (nx : Nat) : List Nat → Bool
  | [] => true
  | i :: l => Nat.blt i nx && ltB nx l

def ndB : List Nat → Bool
  | [] => true
  | i :: l => !memN i l && ndB l

def allHas (hp : List (Nat × SO)) : Nat → Bool
  | 0 => true
  | n + 1 => hasId n hp && allHas hp n

def eqVL (ren : List (Nat × Option Nat)) (nx : Nat) : List SV → List SV → Prop
  | [], [] => True
  | x :: l, y :: m => eqV ren nx x y ∧ eqVL ren nx l m
  | _, _ => False

theorem look_renOf : ∀ (ids : List Nat) (n i : Nat), look (renOf n ids) i = if n ≤ i then (ids[i - n]?).map some else none
  | [], n, i => by simp [renOf, look]
  | j :: l, n, i => by
    simp only [renOf, look_cons]
    by_cases h : n = i
    · subst h; simp
    · rw [if_neg h, look_renOf l (n + 1) i]
      by_cases h2 : n ≤ i
      · rw [if_pos h2, if_pos (by omega), show i - n = (i - (n + 1)) + 1 by omega, List.getElem?_cons_succ]
      · rw [if_neg h2, if_neg (by omega)]

theorem rn_renOf {ids : List Nat} {i : Nat} (h : i < ids.length) : rn (renOf 0 ids) i = some ids[i] := by
  unfold rn
  rw [look_renOf]
  simp [h]

theorem ltB_spec {nx : Nat} : ∀ {l : List Nat}, ltB nx l = true → ∀ i ∈ l, i < nx
  | [], _, i, h => by cases h
  | j :: l, h, i, hi => by
    simp only [ltB, Bool.and_eq_true, blt_iff, decide_eq_true_eq] at h
    simp only [List.mem_cons] at hi
    rcases hi with rfl | hi
    · exact h.1
    · exact ltB_spec h.2 i hi

theorem ndB_spec : ∀ {l : List Nat}, ndB l = true → l.Nodup
  | [], _ => List.nodup_nil
  | j :: l, h => by
    simp only [ndB, Bool.and_eq_true, Bool.not_eq_true'] at h
    refine List.nodup_cons.2 ⟨fun hm => ?_, ndB_spec h.2⟩
    rw [← memN_iff] at hm
    rw [hm] at h
    cases h.1

theorem hasId_some {i : Nat} : ∀ {l : List (Nat × SO)}, hasId i l = true → ∃ o, look l i = some o
  | (j, o) :: l, h => by
    simp only [hasId] at h
    rw [look_cons]
    by_cases e : j = i
    · exact ⟨o, by rw [if_pos e]⟩
    · rw [if_neg e]
      split at h
      · rename_i h'
        simp only [nbeq, decide_eq_true_eq] at h'
        exact absurd h'.symm e
      · exact hasId_some h

theorem allHas_spec {hp : List (Nat × SO)} : ∀ {m : Nat}, allHas hp m = true → ∀ i, i < m → ∃ o, look hp i = some o
  | 0, _, i, h => absurd h (by omega)
  | m + 1, h, i, hi => by
    simp only [allHas, Bool.and_eq_true] at h
    by_cases e : i = m
    · subst e; exact hasId_some h.1
    · exact allHas_spec h.2 i (by omega)

theorem eqVL_spec {ren : List (Nat × Option Nat)} {nx n : Nat} {β : Env} : ∀ {l m : List SV}, eqVL ren nx l m → (∀ v ∈ m, SV.lt n v) → l.map (SV.den (renE ren β)) = m.map (SV.den β)
  | [], [], _, _ => rfl
  | x :: l, y :: m, h, hm => by
    simp only [List.map_cons, (eqV_spec (β := β) h.1 (hm y (by simp))).1, eqVL_spec (β := β) h.2 (fun v hv => hm v (by simp [hv]))]
  | [], _ :: _, h, _ => h.elim
  | _ :: _, [], h, _ => h.elim

/-- A callee's object out of a caller's: what is only read may be lent. -/
def eqL (ren : List (Nat × Option Nat)) (nx : Nat) (o o' : SO) : Prop :=
  match o, o' with
  | .arr false E k xs sp, .arr _ E' k' xs' _ => E = E' ∧ (match EK.cast k' k xs' with
    | some ys => xs = ys
    | none => False) ∧ sp = 0
  | o, o' => eqO ren nx o o'

def eqLs (ren : List (Nat × Option Nat)) (nx : Nat) (hp : List (Nat × SO)) : List (Nat × SO) → Prop
  | [] => True
  | (id, o) :: l => (id < nx ∧ match rn ren id with
    | some j => (match look hp j with
      | some o' => eqL ren nx o o'
      | none => False)
    | none => False) ∧ eqLs ren nx hp l

theorem eqLs_look {ren : List (Nat × Option Nat)} {nx : Nat} {hp : List (Nat × SO)} : ∀ {l : List (Nat × SO)}, eqLs ren nx hp l → ∀ id o, look l id = some o →
    id < nx ∧ ∃ j o', rn ren id = some j ∧ look hp j = some o' ∧ eqL ren nx o o'
  | [], _, t, v, h => by cases h
  | (t', v') :: l, h, t, v, hl => by
    rw [look_cons] at hl
    split at hl
    · rename_i e
      subst e
      cases hl
      obtain ⟨h0, h1⟩ := h.1
      refine ⟨h0, ?_⟩
      split at h1
      · rename_i j hj
        split at h1
        · rename_i o' ho'; exact ⟨j, o', hj, ho', h1⟩
        · exact h1.elim
      · exact h1.elim
    · exact eqLs_look h.2 t v hl

/-- The ids of the callee's own objects. -/
def oids (ids : List Nat) : List (Nat × SO) → List Nat
  | [] => []
  | (i, o) :: l => match o.own, nthN ids i with
    | true, some j => j :: oids ids l
    | _, _ => oids ids l

def keyNd : List (Nat × SO) → Bool
  | [] => true
  | (i, _) :: l => !hasId i l && keyNd l

theorem oids_spec {ids : List Nat} : ∀ {l : List (Nat × SO)}, keyNd l = true → ∀ j, j ∈ oids ids l → ∃ i o, look l i = some o ∧ o.own = true ∧ ids[i]? = some j
  | [], _, j, h => by cases h
  | (i, o) :: l, hk, j, h => by
    simp only [keyNd, Bool.and_eq_true, Bool.not_eq_true'] at hk
    have tail : j ∈ oids ids l → ∃ i' o', look ((i, o) :: l) i' = some o' ∧ o'.own = true ∧ ids[i']? = some j := by
      intro h
      obtain ⟨i', o', h1, h2, h3⟩ := oids_spec hk.2 j h
      refine ⟨i', o', ?_, h2, h3⟩
      rw [look_cons]
      split
      · rename_i e; subst e; rw [hasId_look hk.1] at h1; cases h1
      · exact h1
    simp only [oids] at h
    split at h
    · rename_i j' hown hj'
      rcases List.mem_cons.1 h with rfl | h
      · exact ⟨i, o, by simp [look_cons], hown, by rw [← nthN_eq]; exact hj'⟩
      · exact tail h
    · exact tail h

theorem oids_mem {ids : List Nat} {j : Nat} : ∀ {l : List (Nat × SO)} {i : Nat} {o : SO}, look l i = some o → o.own = true → ids[i]? = some j → j ∈ oids ids l
  | [], _, _, h, _, _ => by cases h
  | (i', o') :: l, i, o, h, ho, hj => by
    rw [look_cons] at h
    simp only [oids]
    split at h
    · rename_i e
      subst e
      cases h
      rw [ho, nthN_eq, hj]
      simp
    · have := oids_mem h ho hj
      split
      · exact List.mem_cons_of_mem _ this
      · exact this

def Zl (Z : Nat → Prop) (fp : Nat → Nat → Prop) (s : S) (os : List Nat) : Nat → Prop := fun b => Z b ∨ ∃ j o, look s.hp j = some o ∧ j ∉ os ∧ fp j b

theorem lendSat {β : Env} {Z : Nat → Prop} {fp : Nat → Nat → Prop} {s : S} {w : World} (hs : HSat β Z fp s w) {hp0 : List (Nat × SO)} {ids : List Nat} (hnd : ids.Nodup) (hk : keyNd hp0 = true) (h : eqLs (renOf 0 ids) ids.length s.hp hp0) :
    HSat (renE (renOf 0 ids) β) (Zl Z fp s (oids ids hp0)) (fun id b => (∃ o, look hp0 id = some o ∧ o.own = true) ∧ ∃ j, ids[id]? = some j ∧ fp j b) ⟨[], hp0, ids.length⟩ w := by
  have hl0 : ∀ id o, look hp0 id = some o → id < ids.length ∧ ∃ j o', ids[id]? = some j ∧ look s.hp j = some o' ∧ eqL (renOf 0 ids) ids.length o o' ∧ renE (renOf 0 ids) β id = β j := by
    intro id o hl
    obtain ⟨h1, j, o', h2, h3, h4⟩ := eqLs_look h id o hl
    have := rn_renOf h1
    rw [h2] at this
    refine ⟨h1, j, o', ?_, h3, h4, renE_some h2⟩
    rw [List.getElem?_eq_getElem h1, ← Option.some.inj this]
  have hsz : ∀ b, Zl Z fp s (oids ids hp0) b → b < w.heap.size := by
    rintro b (hb | ⟨j, o, hl, _, hb⟩)
    · exact hs.zlt b hb
    · exact (hs.flt j o hl b hb).1
  refine ⟨hsz, ?_, ?_, ?_, ?_⟩
  · rintro id o hl b ⟨⟨o1, ho1, hown⟩, j, hj, hb⟩
    obtain ⟨_, j', o', hj', hl', _⟩ := hl0 id o hl
    rw [hj] at hj'
    cases hj'
    refine ⟨(hs.flt j o' hl' b hb).1, ?_⟩
    rintro (hz | ⟨j2, o2, hl2, hj2, hb2⟩)
    · exact (hs.flt j o' hl' b hb).2 hz
    · exact hs.sep j j2 o' o2 hl' hl2 (fun e => hj2 (e ▸ oids_mem ho1 hown hj)) b hb hb2
  · rintro id id' o o' hl hl' hne b ⟨_, j, hj, hb⟩ ⟨_, j', hj', hb'⟩
    obtain ⟨h1, i, oi, hi, hli, _⟩ := hl0 id o hl
    obtain ⟨h2, i', oi', hi', hli', _⟩ := hl0 id' o' hl'
    rw [hj] at hi
    rw [hj'] at hi'
    cases hi
    cases hi'
    exact hs.sep j j' oi oi' hli hli' (fun e => hne ((List.getElem?_inj h1 hnd).1 (by rw [hj, hj', e]))) b hb hb'
  · intro id o hl
    obtain ⟨hid, j, o', hj, hl', he, hβ⟩ := hl0 id o hl
    show SO.ok _ _ _ w (renE (renOf 0 ids) β id) o
    rw [hβ]
    have hnot : o.own = false → j ∉ oids ids hp0 := by
      intro hf hm
      obtain ⟨i, oi, h1, h2, h3⟩ := oids_spec hk j hm
      have : i = id := (List.getElem?_inj (hl0 i oi h1).1 hnd).1 (h3.trans hj.symm)
      subst this
      rw [hl] at h1
      cases h1
      rw [hf] at h2
      cases h2
    have hok := hs.obj j o' hl'
    unfold eqL at he
    split at he
    · rename_i E k xs sp own' E' k' xs' sp'
      obtain ⟨rfl, hc, rfl⟩ := he
      split at hc <;> try exact hc.elim
      rename_i ys hc'
      obtain ⟨e, he⟩ := EK.cast_spec hc'
      subst e
      change ys = xs' at he
      subst he hc
      cases hb : β j with
      | none =>
        rw [hb] at hok
        exact ⟨hok.1, rfl⟩
      | some a =>
        intro hne
        obtain ⟨x, hx, hsp, hcell⟩ := SO.ok_cell hok hne
        rw [hb] at hx
        cases hx
        have hz : Zl Z fp s (oids ids hp0) a.block := by
          rw [hb] at hok
          cases own' with
          | true => exact .inr ⟨j, _, hl', hnot rfl, hok.2.1⟩
          | false => exact .inl (hok hne).2.1
        refine ⟨hsp, hz, hsz _ hz, ?_⟩
        intro j' v hj'
        rw [add_eq hsp]
        exact hcell j' v hj'
    · rename_i hno
      have h1 := (eqO_ok he hok (hs.lto j o' hl').2).1
      have hown : o.own = true := by
        cases o with
        | box T cs => rfl
        | gen A => rfl
        | pool E k m => rfl
        | map kk vk es c => rfl
        | iter a b c d e => rfl
        | arr own E k xs sp =>
          cases own with
          | true => rfl
          | false =>
            cases o' with
            | arr own' E' k' xs' sp' => exact absurd rfl (hno E k xs sp own' E' k' xs' sp' rfl)
            | box T cs => exact he.elim
            | gen A => exact he.elim
            | pool E k m => exact he.elim
            | map kk vk es c => exact he.elim
            | iter a b c d e => exact he.elim
      have e2 : (fun b => (∃ o, look hp0 id = some o ∧ o.own = true) ∧ ∃ j, ids[id]? = some j ∧ fp j b) = fp j := by
        funext b
        apply propext
        constructor
        · rintro ⟨_, i, hi, hb⟩; rw [hj] at hi; cases hi; exact hb
        · intro hb; exact ⟨⟨o, hl, hown⟩, j, hj, hb⟩
      show SO.ok _ _ (fun b => (∃ o, look hp0 id = some o ∧ o.own = true) ∧ ∃ j, ids[id]? = some j ∧ fp j b) w (β j) o
      rw [e2]
      have hlt := (eqO_ok (β := β) he hok (hs.lto j o' hl').2).2
      exact SO.ok_mono h1 hlt (fun _ _ => rfl) (fun b hb => .inl hb) (fun _ _ => rfl) (Nat.le_refl _)
  · intro id o hl
    obtain ⟨hid, j, o', hj, hl', he, _⟩ := hl0 id o hl
    refine ⟨hid, ?_⟩
    unfold eqL at he
    split at he
    · trivial
    · exact (eqO_ok (β := β) he (hs.obj j o' hl') (hs.lto j o' hl').2).2

/-- May the callee's object be given back as its own? -/
def qOf (hp0 : List (Nat × SO)) (m i : Nat) : Bool := match Nat.blt i m with
  | true => match look hp0 i with
    | some o => o.own
    | none => false
  | false => true

section
variable {P : Program} {β : Env} {Z : Nat → Prop} {fp : Nat → Nat → Prop} {s : S} {w w' : World}

theorem HSat.zone (hs : HSat β Z fp s w) {Z1 : Nat → Prop} (h1 : ∀ b, Z b → Z1 b) (h2 : ∀ b, Z1 b → b < w.heap.size) (h3 : ∀ id o, look s.hp id = some o → ∀ b, fp id b → ¬ Z1 b) : HSat β Z1 fp s w :=
  ⟨h2, fun id o hl b hb => ⟨(hs.flt id o hl b hb).1, h3 id o hl b hb⟩, hs.sep, fun id o hl => SO.ok_mono (hs.obj id o hl) (hs.lto id o hl).2 (fun _ _ => rfl) h1 (fun _ _ => rfl) (Nat.le_refl _), hs.lto⟩

/-- What is asked of a call's values. -/
def SV.ltL (n : Nat) (l : List SV) : Prop := ∀ v ∈ l, SV.lt n v

theorem frame_back (hs : HSat β Z fp s w) {hp0 : List (Nat × SO)} {m : Nat} {ids : List Nat} (hlen : ids.length = m) (hids : ∀ i ∈ ids, i < s.nx) (hnd : ids.Nodup) (hkn : keyNd hp0 = true)
    (hhp : eqLs (renOf 0 ids) m s.hp hp0) {v : SV} {β' : Env} {Z1 Z' : Nat → Prop} {fp' : Nat → Nat → Prop} {s' : S} (hZ1 : ∀ b, Z1 b ↔ Z b ∨ ∃ j o, look s.hp j = some o ∧ j ∉ oids ids hp0 ∧ fp j b)
    {fr0 : List (Nat × SV)} (hn : Nxt (renE (renOf 0 ids) β) Z1 ⟨fr0, hp0, m⟩ w v w' β' Z' fp' ⟨[], s'.hp, s'.nx⟩) {k : S → SV → Prop}
    (hk : dropK ids hp0 s.hp fun hpb => backK (gOf ids m s.nx) (qOf hp0 m) s'.hp hpb fun hp2 => mvVK (gOf ids m s.nx) v fun v2 => k ⟨s.fr, hp2, s.nx + (s'.nx - m)⟩ v2) :
    ∃ v2 βB ZB fpB s2, v.den β' = v2.den βB ∧ Nxt β Z s w v2 w' βB ZB fpB s2 ∧ k s2 v2 := by
  subst hlen
  have hmn : ids.length ≤ s'.nx := hn.nx
  let g := gOf ids ids.length s.nx
  have hg1 : ∀ i j, g i = some j → (i < ids.length ∧ ids[i]? = some j) ∨ (ids.length ≤ i ∧ j = s.nx + (i - ids.length)) := by
    intro i j h
    have h : gOf ids ids.length s.nx i = some j := h
    unfold gOf at h
    rw [blt_iff] at h
    by_cases e : i < ids.length
    · rw [decide_eq_true e] at h
      simp only [nthN_eq] at h
      exact .inl ⟨e, h⟩
    · rw [decide_eq_false e] at h
      cases h
      exact .inr ⟨by omega, rfl⟩
  have hmem : ∀ i j : Nat, ids[i]? = some j → j < s.nx := fun i j h => hids j (List.mem_of_getElem? h)
  let βB : Env := fun id => if id < s.nx then β id else β' (ids.length + (id - s.nx))
  have hG : Gd g β' βB s'.nx (s.nx + (s'.nx - ids.length)) := by
    constructor
    · intro i j hgi hi
      rcases hg1 i j hgi with ⟨h1, h2⟩ | ⟨h1, rfl⟩
      · have hj := hmem i j h2
        have h3 := hn.env i h1
        rw [renE_some (rn_renOf h1)] at h3
        rw [List.getElem?_eq_getElem h1] at h2
        cases h2
        show (if ids[i] < s.nx then β ids[i] else _) = _
        rw [if_pos hj, h3]
      · show (if s.nx + (i - ids.length) < s.nx then _ else β' (ids.length + (s.nx + (i - ids.length) - s.nx))) = _
        rw [if_neg (by omega)]
        congr 1; omega
    · intro i j hgi hi
      rcases hg1 i j hgi with ⟨h1, h2⟩ | ⟨h1, rfl⟩
      · have := hmem i j h2; omega
      · omega
  obtain ⟨hpb, hk, hd1, hd2⟩ := dropK_spec hk
  obtain ⟨hp2, hk, hb⟩ := backK_spec hG hk (fun i o hl => (hn.sat.lto i o hl).2)
  obtain ⟨v2, hk, hv1, hv2⟩ := mvVK_spec hG hk hn.lt
  have hginj : ∀ i i' j, g i = some j → g i' = some j → i = i' := by
    intro i i' j h h'
    rcases hg1 i j h with ⟨h1, h2⟩ | ⟨h1, h2⟩ <;> rcases hg1 i' j h' with ⟨h3, h4⟩ | ⟨h3, h4⟩
    · exact (List.getElem?_inj h1 hnd).1 (h2.trans h4.symm)
    · have := hmem i j h2; omega
    · have := hmem i' j h4; omega
    · omega
  let un : Nat → Prop := fun id => id < s.nx ∧ id ∉ oids ids hp0
  have hgun : ∀ i id, g i = some id → qOf hp0 ids.length i = true → ¬ un id := by
    intro i id h hqi hu
    rcases hg1 i id h with ⟨h1, h2⟩ | ⟨h1, h2⟩
    · unfold qOf at hqi
      rw [blt_iff, decide_eq_true h1] at hqi
      simp only at hqi
      split at hqi
      · rename_i o ho; exact hu.2 (oids_mem ho hqi h2)
      · cases hqi
    · have := hu.1; omega
  let fpB : Nat → Nat → Prop := fun id b => (∃ i x, g i = some id ∧ qOf hp0 ids.length i = true ∧ look s'.hp i = some x ∧ fp' i b) ∨ (un id ∧ fp id b)
  -- what an object of the new state is
  have hcase : ∀ id o, look hp2 id = some o → (∃ i x, look s'.hp i = some x ∧ g i = some id ∧ qOf hp0 ids.length i = true ∧ o.lt (s.nx + (s'.nx - ids.length)) ∧ ∀ Z Z' fp w oa, x.ok β' Z fp w oa → o.ok βB Z' fp w oa) ∨
      (look s.hp id = some o ∧ un id) := by
    intro id o hl
    rcases hb id o hl with h | h
    · exact .inl h
    · right
      have hs1 := hd1 id o h
      refine ⟨hs1, (hs.lto id o hs1).1, fun e => ?_⟩
      obtain ⟨i, o0, h1, h2, h3⟩ := oids_spec hkn id e
      have := hd2 i o0 h1 h2 id h3
      rw [this] at h
      cases h
  have hZ : ∀ b, Z b → Z' b := fun b h => hn.zz b ((hZ1 b).2 (.inl h))
  have hsz := hn.ext.size
  refine ⟨v2, βB, Z, fpB, ⟨s.fr, hp2, s.nx + (s'.nx - ids.length)⟩, hv1.symm, ⟨fun id hid => if_pos hid, hn.ext.mono fun b h => (hZ1 b).2 (.inl h), fun _ h => h, rfl, by show s.nx ≤ s.nx + (s'.nx - ids.length); omega, ⟨fun b h => Nat.lt_of_lt_of_le (hs.zlt b h) hsz, ?_, ?_, ?_, ?_⟩, hv2⟩, hk⟩
  · rintro id o hl b (⟨i, x, hgi, hqi, hx, hfb⟩ | ⟨hu, hfb⟩)
    · have := hn.sat.flt i x hx b hfb
      exact ⟨this.1, fun hz => this.2 (hZ b hz)⟩
    · rcases hcase id o hl with ⟨i, x, hx, hgi, hqi, _⟩ | ⟨hl', _⟩
      · exact absurd hu (hgun i id hgi hqi)
      · have := hs.flt id o hl' b hfb
        exact ⟨Nat.lt_of_lt_of_le this.1 hsz, this.2⟩
  · have unz : ∀ id o b, look hp2 id = some o → un id → fp id b → Z' b ∧ look s.hp id = some o := by
      intro id o b hl hu hfb
      rcases hcase id o hl with ⟨i, x, hx, hgi, hqi, _⟩ | ⟨hl', _⟩
      · exact absurd hu (hgun i id hgi hqi)
      · exact ⟨hn.zz b ((hZ1 b).2 (.inr ⟨id, o, hl', hu.2, hfb⟩)), hl'⟩
    rintro id id' o o' hl hl' hne b (⟨i, x, hgi, hqi, hx, hfb⟩ | ⟨hu, hfb⟩) (⟨i', x', hgi', hqi', hx', hfb'⟩ | ⟨hu', hfb'⟩)
    · have : i ≠ i' := by
        intro e
        subst e
        rw [hgi] at hgi'
        cases hgi'
        exact hne rfl
      exact hn.sat.sep i i' x x' hx hx' this b hfb hfb'
    · exact (hn.sat.flt i x hx b hfb).2 (unz id' o' b hl' hu' hfb').1
    · exact (hn.sat.flt i' x' hx' b hfb').2 (unz id o b hl hu hfb).1
    · exact hs.sep id id' o o' (unz id o b hl hu hfb).2 (unz id' o' b hl' hu' hfb').2 hne b hfb hfb'
  · intro id o hl
    rcases hcase id o hl with ⟨i, x, hx, hgi, hqi, _, hok⟩ | ⟨hl', hu⟩
    · have e1 : fpB id = fp' i := by
        funext b
        apply propext
        constructor
        · rintro (⟨i', x', h1, hq', h2, h3⟩ | ⟨h1, _⟩)
          · rw [hginj i i' id hgi h1]; exact h3
          · exact absurd h1 (hgun i id hgi hqi)
        · intro h; exact .inl ⟨i, x, hgi, hqi, hx, h⟩
      have hi := (hn.sat.lto i x hx).1
      show SO.ok βB Z (fpB id) w' (βB id) o
      rw [e1, hG.env i id hgi hi]
      exact hok _ _ _ _ _ (hn.sat.obj i x hx)
    · have e1 : fpB id = fp id := by
        funext b
        apply propext
        constructor
        · rintro (⟨i', x', h1, hq', h2, h3⟩ | ⟨_, h1⟩)
          · exact absurd hu (hgun i' id h1 hq')
          · exact h1
        · intro h; exact .inr ⟨hu, h⟩
      have hlt := hs.lto id o hl'
      show SO.ok βB Z (fpB id) w' (βB id) o
      rw [e1, show βB id = β id from if_pos hlt.1]
      refine SO.ok_mono (hs.obj id o hl') hlt.2 (fun i hi => if_pos hi) (fun _ h => h) (fun b hb => hn.ext.block b ((hZ1 b).2 ?_)) hsz
      rcases hb with hb | hb
      · exact .inl hb
      · exact .inr ⟨id, o, hl', hu.2, hb⟩
  · intro id o hl
    show id < s.nx + (s'.nx - ids.length) ∧ o.lt (s.nx + (s'.nx - ids.length))
    rcases hcase id o hl with ⟨i, x, hx, hgi, _, hlt, _⟩ | ⟨hl', _⟩
    · exact ⟨hG.lt i id hgi (hn.sat.lto i x hx).1, hlt⟩
    · have := hs.lto id o hl'
      exact ⟨by omega, SO.lt_mono (by omega) this.2⟩

/-- What a function does with what it is handed, in a state of its own. -/
def Ct (P : Program) (f : Nat) (args : List SV) (ex : List Value) (hp : List (Nat × SO)) (m : Nat) (post : SV → S → Prop) : Prop :=
  ∀ β Z fp w, HSat β Z fp ⟨[], hp, m⟩ w → Calls P f (args.map (SV.den β) ++ ex).toArray w fun e w' => ∃ v β' Z' fp' s', e = .returned (v.den β') ∧ Nxt β Z ⟨[], hp, m⟩ w v w' β' Z' fp' ⟨[], s'.hp, s'.nx⟩ ∧ post v s'

theorem callF {f : Nat} {args : List SV} {ex : List Value} {k : S → SV → Prop} {args0 : List SV} {hp0 : List (Nat × SO)} {m : Nat} {post : SV → S → Prop} (hc : Ct P f args0 ex hp0 m post) (ids : List Nat)
    (hcf : ∀ args w, (callFunc f args).run P w = .ok (.enter f args) w)
    (hok : (Nat.beq (lenN ids) m && ltB s.nx ids && ndB ids && keyNd hp0) = true) (hhp : eqLs (renOf 0 ids) m s.hp hp0) (hargs : eqVL (renOf 0 ids) m args0 args) (hlt : ∀ v ∈ args, SV.lt s.nx v)
    (hpost : ∀ v s', post v s' → s.go fun fr hp nx => s'.go fun _ hp' nx' => dropK ids hp0 hp fun hpb => backK (gOf ids m nx) (qOf hp0 m) hp' hpb fun hp2 => mvVK (gOf ids m nx) v fun v2 => k ⟨fr, hp2, nx + (nx' - m)⟩ v2) : CallK P f args ex s k := by
  simp only [S.go_eq] at hpost
  simp only [Bool.and_eq_true] at hok
  obtain ⟨⟨⟨h1, h2⟩, h3⟩, h4⟩ := hok
  rw [nbeq, lenN_eq, decide_eq_true_eq] at h1
  have hids := ltB_spec h2
  have hnd := ndB_spec h3
  unfold CallK
  refine ⟨hcf, fun β Z fp w hs => ?_⟩
  subst h1
  have hz := lendSat hs hnd h4 hhp
  have hcall := hc _ _ _ w hz
  rw [eqVL_spec (β := β) hargs hlt] at hcall
  refine hcall.mono ?_
  rintro e w' ⟨v, β', Z', fp', s', rfl, hn, hp⟩
  obtain ⟨v2, βB, ZB, fpB, s2, e1, hnx, hk⟩ := frame_back hs rfl hids hnd h4 hhp (fun b => Iff.rfl) hn (hpost v s' hp)
  exact ⟨v2, βB, ZB, fpB, s2, by rw [e1], hnx, hk⟩

/-- A function's contract, by its text. -/
theorem ct {ty : List (Nat × STy)} (hty : TyOk P ty) {f : FuncId} {fn : Func} {c : Code} (n : Nat) (live : List Nat) {avs : List SV} {hp : List (Nat × SO)} {nx : Nat} {post : SV → S → Prop}
    (hf : P.funcs[f]? = some fn) (hb : fn.body = some c) (hlt : ∀ v ∈ avs, SV.lt nx v) (hn : avs.length ≤ fn.ntmps) {fr : List (Nat × SV)} (hfr : fr = enumL 0 avs)
    (hex : exec P ty fn.ntmps nx n live c (retK ty fn.results.toList post) (retK ty fn.results.toList post) (fun _ _ => False) ⟨fr, hp, nx⟩) : Ct P f avs [] hp nx post := by
  intro β Z fp w hs
  rw [List.append_nil]
  exact entry hty n live avs hp nx post hf hb hs hlt hn hfr hex fun v w' β' Z' fp' s' hN hp => ⟨v, β', Z', fp', s', rfl, hN, hp⟩

end
end Go.Fw

/-
  Contracts whose answer is told in a state of one's choice; loops.
-/
namespace Go.Fw
open Go

def Back (n0 : Nat) (post : SV → S → Prop) (v : SV) (s : S) : Prop :=
  ∃ ren hp1 nx1 v1, Sub n0 ren ⟨[], hp1, nx1⟩ ⟨[], s.hp, s.nx⟩ ∧ eqV ren nx1 v1 v ∧ post v1 ⟨[], hp1, nx1⟩

theorem Back.mk {n0 : Nat} {post : SV → S → Prop} {v : SV} {s : S} (ren : List (Nat × Option Nat)) (hp1 : List (Nat × SO)) (nx1 : Nat) (v1 : SV) (h1 : Sub n0 ren ⟨[], hp1, nx1⟩ ⟨[], s.hp, s.nx⟩) (h2 : eqV ren nx1 v1 v) (h3 : post v1 ⟨[], hp1, nx1⟩) : Back n0 post v s :=
  ⟨ren, hp1, nx1, v1, h1, h2, h3⟩

theorem ctW {P : Program} {ty : List (Nat × STy)} (hty : TyOk P ty) {f : FuncId} {fn : Func} {c : Code} (n : Nat) (live : List Nat) {avs : List SV} {hp : List (Nat × SO)} {nx : Nat} {post : SV → S → Prop}
    (hf : P.funcs[f]? = some fn) (hb : fn.body = some c) (hlt : ∀ v ∈ avs, SV.lt nx v) (hn : avs.length ≤ fn.ntmps) {fr : List (Nat × SV)} (hfr : fr = enumL 0 avs)
    (hex : exec P ty fn.ntmps nx n live c (retK ty fn.results.toList (Back nx post)) (retK ty fn.results.toList (Back nx post)) (fun _ _ => False) ⟨fr, hp, nx⟩) : Ct P f avs [] hp nx post := by
  intro β Z fp w hs
  rw [List.append_nil]
  refine entry hty n live avs hp nx (Back nx post) hf hb hs hlt hn hfr hex fun v w' β' Z' fp' s' hN hp => ?_
  obtain ⟨ren, hp1, nx1, v1, h1, h2, h3⟩ := hp
  obtain ⟨g1, _, g3, g4⟩ := h1.sat (N := 0) (a := { tmps := #[], defers := [] }) hN.sat ⟨fun t v h => (by cases h), fun t v h => (by cases h), rfl, rfl⟩
  obtain ⟨e1, e2⟩ := eqV_spec (β := β') h2 hN.lt
  exact ⟨v1, renE ren β', Z', _, ⟨[], hp1, nx1⟩, by rw [e1], ⟨fun id hid => (g3 id hid).trans (hN.env id hid), hN.ext, hN.zz, rfl, g4, g1, e2⟩, h3⟩

theorem Ct.to {P : Program} {f : Nat} {args : List SV} {ex : List Value} {hp : List (Nat × SO)} {m : Nat} {p q : SV → S → Prop} (h : Ct P f args ex hp m p) (hpq : ∀ v s, p v s → q v s) : Ct P f args ex hp m q :=
  fun β Z fp w hs => (h β Z fp w hs).mono fun e w' ⟨v, β', Z', fp', s', h1, h2, h3⟩ => ⟨v, β', Z', fp', s', h1, h2, hpq v s' h3⟩

theorem loopI {n0 : Nat} {F : (S → Prop) → S → Prop} {s : S} {α : Type} (pat : α → S) (inv : α → Prop) (μ : α → Nat) (x0 : α) (ren : List (Nat × Option Nat)) (hsub : Sub n0 ren (pat x0) s) (hinv : inv x0)
    (round : ∀ x, inv x → F (fun s' => ∃ x' ren, Sub n0 ren (pat x') s' ∧ inv x' ∧ μ x' < μ x) (pat x)) : LoopK n0 F s := by
  unfold LoopK
  exact ⟨α, pat, inv, μ, ⟨x0, ren, hsub, hinv⟩, round⟩

/-- The answer: a plain value. -/
def Is (m : Nat) (x : SV) (v : SV) (s : S) : Prop := v = x ∧ s = ⟨[], [], m⟩

theorem Back.is {n0 : Nat} {x v : SV} {s : S} (h : eqV [] n0 x v) : Back n0 (Is n0 x) v s :=
  ⟨[], [], n0, x, ⟨by simp [apartAll, keepsB, nble], trivial, trivial⟩, h, rfl, rfl⟩

theorem callI {P : Program} {f : Nat} {args : List SV} {s : S} {k : S → SV → Prop} {args0 : List SV} {hp0 : List (Nat × SO)} {m : Nat} {x : SV} (hc : Ct P f args0 [] hp0 m (Is m x)) (ids : List Nat)
    (hcf : ∀ args w, (callFunc f args).run P w = .ok (.enter f args) w)
    (hok : (Nat.beq (lenN ids) m && ltB s.nx ids && ndB ids && keyNd hp0) = true) (hhp : eqLs (renOf 0 ids) m s.hp hp0) (hargs : eqVL (renOf 0 ids) m args0 args) (hlt : ∀ v ∈ args, SV.lt s.nx v)
    (hpost : s.go fun fr hp nx => dropK ids hp0 hp fun hpb => mvVK (gOf ids m nx) x fun v2 => k ⟨fr, hpb, nx⟩ v2) : CallK P f args [] s k :=
  callF hc ids hcf hok hhp hargs hlt fun v s' ⟨h1, h2⟩ => by
    subst h1 h2
    simp only [S.go_eq, Nat.sub_self, Nat.add_zero] at hpost ⊢
    exact hpost

/-- A nil slice that is handed on: an empty object. -/
theorem callNil {P : Program} {f : Nat} {args args' : List SV} {ex : List Value} {s : S} {k : S → SV → Prop} (E : Nat) (ek : EK) (ha : ∀ β : Env, args'.map (SV.den (β.add s.nx none)) = args.map (SV.den β))
    (h : s.go fun fr hp nx => CallK P f args' ex ⟨fr, (nx, .arr false E ek [] 0) :: hp, nx + 1⟩ k) : CallK P f args ex s k := by
  rw [S.go_eq] at h
  unfold CallK at h ⊢
  refine ⟨h.1, fun β Z fp w hs => ?_⟩
  have hs' := hs.add (o := .arr false E ek [] 0) (x := none) (q := fun _ => False) (fun _ _ => rfl) (Nat.le_refl _) (fun _ h => h.elim) ⟨rfl, rfl⟩ trivial
  have hc := h.2 _ _ _ w hs'
  rw [ha] at hc
  refine hc.mono ?_
  rintro e w' ⟨v, β', Z', fp', s', rfl, hn, hk⟩
  exact ⟨v, β', Z', fp', s', rfl, ⟨fun id hid => (hn.env id (Nat.lt_succ_of_lt hid)).trans (Env.add_lt id hid), hn.ext, hn.zz, hn.fr, Nat.le_of_succ_le hn.nx, hn.sat, hn.lt⟩, hk⟩

/-! ### Ways, by what is told -/
theorem condP_dec {p : Prop} [d : Decidable p] {x y : Prop} (h1 : p → x) (h2 : ¬ p → y) : condP (decide p) x y := by
  by_cases h : p
  · rw [decide_eq_true h]; exact h1 h
  · rw [decide_eq_false h]; exact h2 h
theorem condP_beq {a b : Int} {x y : Prop} (h1 : a = b → x) (h2 : a ≠ b → y) : condP (a == b) x y := by
  by_cases h : a = b
  · rw [beq_iff_eq.2 h]; exact h1 h
  · rw [beq_eq_false_iff_ne.2 h]; exact h2 h
theorem condP_bne {a b : Int} {x y : Prop} (h1 : a ≠ b → x) (h2 : a = b → y) : condP (a != b) x y := by
  by_cases h : a = b
  · rw [show (a != b) = false by simp [h]]; exact h2 h
  · rw [show (a != b) = true by simp [h]]; exact h1 h
theorem condP_ndec {p : Prop} [d : Decidable p] {x y : Prop} (h1 : ¬ p → x) (h2 : p → y) : condP (!decide p) x y := by
  by_cases h : p
  · rw [decide_eq_true h]; exact h2 h
  · rw [decide_eq_false h]; exact h1 h

/-- Behind a drawn region: one state for all orders. -/
theorem drawCut {P : Program} {N n0 : Nat} {ops : Array Oper} {s : S} {kn : S → Prop} {α : Type} (pat : α → S) (inv : α → Prop)
    (h : DrawX P N n0 ops s (fun s' => ∃ x ren, Sub n0 ren (pat x) s' ∧ inv x)) (hk : ∀ x, inv x → kn (pat x)) : DrawX P N n0 ops s kn := by
  unfold DrawX at h ⊢
  intro C id a w Q hN hn hs hQ
  refine h C id a w Q hN hn hs ?_
  rintro s' a' w' ⟨x, ren, hsub, hi⟩ hs'
  subst hn
  exact hQ _ a' w' (hk x hi) (hs'.sub hsub)

end Go.Fw

/-
  Maps' keys: what is asked of them holds.
-/
namespace Go.Fw
open Go

/-- What is asked of a struct of whole numbers that is compared. -/
abbrev CmpOk (P : Program) (t n : Nat) : Prop :=
  (∀ (op : BinOp) (x y : Operand) (xs ys : Array Value) (w : World), (eqGuard op t x y (.agg xs) (.agg ys)).run P w = .ok () w) ∧
    ∀ (l m : List Int) (w : World), l.length = n → m.length = n → (Op.equalIn 10000 t (.agg (l.map (Value.int .i64)).toArray) (.agg (m.map (Value.int .i64)).toArray)).run P w = .ok (l == m) w

section
variable {P : Program} {t kt vt : Nat} {vk : EK}

theorem ck_int (e : Bool) (n : Nat) (k : IntKind) (v : Value) (w : World) (hk : P.underlying kt = some (.int k)) : (Instr.checkKey e (n + 1) kt v).run P w = .ok () w := by
  unfold Instr.checkKey
  rw [Sem.run_bind, run_underlying hk]
  rfl

theorem ck_str (e : Bool) (n : Nat) (v : Value) (w : World) (hk : P.underlying kt = some .string) : (Instr.checkKey e (n + 1) kt v).run P w = .ok () w := by
  unfold Instr.checkKey
  rw [Sem.run_bind, run_underlying hk]
  rfl

theorem sb_int (n : Nat) (k : IntKind) (x : Int) : Instr.sameBits n (.int k x) (.int k x) = true := by
  unfold Instr.sameBits
  cases n <;> simp

theorem ba_beq (x y : ByteArray) : (x == y) = decide (x = y) := by
  cases x with | mk a => cases y with | mk b =>
  show (a == b) = _
  by_cases h : a = b
  · subst h; simp
  · have h2 : (a == b) = false := beq_eq_false_iff_ne.2 h
    rw [h2]
    symm
    rw [decide_eq_false_iff_not]
    intro e
    exact h (by cases e; rfl)

theorem sb_str (n : Nat) (x : ByteArray) : Instr.sameBits n (.string x) (.string x) = true := by
  unfold Instr.sameBits
  cases n <;> simp [ba_beq]

theorem findKey_now {kd : TypeDesc} (k : Value) (es : List MapEntry) (r) (w : World) (hk : P.underlying kt = some kd) (h : Instr.findNow kd k es 0 = some r) : (Instr.findKey kt k es).run P w = .ok r w := by
  unfold Instr.findKey
  rw [Sem.run_bind, run_underlying hk]
  show (match Instr.findNow kd k es 0 with | some r => (pure r : Sem _) | none => Instr.findAsking kt k es).run P w = _
  rw [h]
  rfl

theorem findKey_ask {kd : TypeDesc} (k : Value) (es : List MapEntry) (w : World) (hk : P.underlying kt = some kd) (h : Instr.findNow kd k es 0 = none) : (Instr.findKey kt k es).run P w = (Instr.findAsking kt k es).run P w := by
  unfold Instr.findKey
  rw [Sem.run_bind, run_underlying hk]
  show (match Instr.findNow kd k es 0 with | some r => (pure r : Sem _) | none => Instr.findAsking kt k es).run P w = _
  rw [h]

theorem findNow_int (x : Int) : ∀ (es : List (EK.int.ty × vk.ty × Nat)) (i : Nat), Instr.findNow (.int .i64) (EK.int.val x) (es.map (ent .int vk)) i = some (findE .int vk x es i)
  | [], i => rfl
  | e :: es, i => by
    have ih := findNow_int x es (i + 1)
    simp only [List.map_cons, Instr.findNow, findE]
    have hs : Instr.sameNow (.int .i64) (EK.int.val x) (ent .int vk e).key = some (x == e.1) := by
      show (if IntKind.i64 = IntKind.i64 then some (x == e.1) else none) = _
      simp
    rw [hs]
    by_cases h : e.1 = x
    · rw [if_pos h, show (x == e.1) = true from beq_iff_eq.2 h.symm]; rfl
    · rw [if_neg h, show (x == e.1) = false from beq_eq_false_iff_ne.2 (fun e' => h e'.symm)]; exact ih

theorem mapOk_int (hty : P.underlying t = some (.map kt vt)) (hk : P.underlying kt = some (.int .i64)) (zv : ∀ w, (zeroValue vt).run P w = .ok (vk.val vk.dflt) w) : MapOk P t kt .int vt vk where
  ty := hty
  ck x w e := by
    exact ck_int e 9999 _ _ w hk
  fk x es w := findKey_now _ _ _ w hk (findNow_int x es 0)
  sb x := sb_int _ _ _
  zv := zv

theorem findNow_str (x : ByteArray) : ∀ (es : List (EK.str.ty × vk.ty × Nat)) (i : Nat), Instr.findNow .string (EK.str.val x) (es.map (ent .str vk)) i = some (findE .str vk x es i)
  | [], i => rfl
  | e :: es, i => by
    have ih := findNow_str x es (i + 1)
    simp only [List.map_cons, Instr.findNow, findE]
    have hs : Instr.sameNow .string (EK.str.val x) (ent .str vk e).key = some (x == e.1) := rfl
    rw [hs]
    by_cases h : e.1 = x
    · rw [if_pos h, show (x == e.1) = true by rw [show (x == e.1) = decide (x = e.1) from ba_beq x e.1]; exact decide_eq_true h.symm]; rfl
    · rw [if_neg h, show (x == e.1) = false by rw [show (x == e.1) = decide (x = e.1) from ba_beq x e.1]; exact decide_eq_false (fun e' => h e'.symm)]; exact ih

theorem mapOk_str (hty : P.underlying t = some (.map kt vt)) (hk : P.underlying kt = some .string) (zv : ∀ w, (zeroValue vt).run P w = .ok (vk.val vk.dflt) w) : MapOk P t kt .str vt vk where
  ty := hty
  ck x w e := by
    exact ck_str e 9999 _ w hk
  fk x es w := findKey_now _ _ _ w hk (findNow_str x es 0)
  sb x := sb_str _ _
  zv := zv

theorem findAsking_trip (eq : ∀ (l m : List Int) (w : World), l.length = 3 → m.length = 3 → (Op.equalIn 10000 kt (.agg (l.map (Value.int .i64)).toArray) (.agg (m.map (Value.int .i64)).toArray)).run P w = .ok (l == m) w) (x : Trip) (w : World) :
    ∀ (es : List (EK.trip.ty × vk.ty × Nat)) (i : Nat), (Instr.findAsking kt (EK.trip.val x) (es.map (ent .trip vk)) i).run P w = .ok (findE .trip vk x es i) w
  | [], i => by simp [Instr.findAsking, findE]
  | e :: es, i => by
    have ih := findAsking_trip eq x w es (i + 1)
    obtain ⟨⟨a, b, c⟩, v, n⟩ := e
    obtain ⟨a', b', c'⟩ := x
    have h1 : (Op.equal kt (EK.trip.val ⟨a', b', c'⟩) (EK.trip.val ⟨a, b, c⟩)).run P w = .ok ([a', b', c'] == [a, b, c]) w := eq [a', b', c'] [a, b, c] w rfl rfl
    simp only [List.map_cons, Instr.findAsking, Sem.run_bind, findE]
    have h2 : (ent .trip vk (⟨a, b, c⟩, v, n)).key = EK.trip.val ⟨a, b, c⟩ := rfl
    rw [h2, h1]
    simp only [Result.andThen_ok]
    by_cases h : (⟨a, b, c⟩ : Trip) = ⟨a', b', c'⟩
    · cases h
      simp [ent]
    · rw [if_neg h]
      have : ([a', b', c'] == [a, b, c]) = false := by
        rw [beq_eq_false_iff_ne]
        intro e
        simp only [List.cons.injEq, and_true] at e
        exact h (by rw [e.1, e.2.1, e.2.2])
      rw [this]
      simpa using ih

theorem sb_trip (n : Nat) (x : Trip) : Instr.sameBits (n + 1) (EK.trip.val x) (EK.trip.val x) = true := by
  show Instr.sameBits (n + 1) (.agg #[.int .i64 x.a, .int .i64 x.b, .int .i64 x.c]) (.agg #[.int .i64 x.a, .int .i64 x.b, .int .i64 x.c]) = true
  unfold Instr.sameBits
  simp [sb_int]

theorem mapOk_trip {fs : Array Field} (hty : P.underlying t = some (.map kt vt)) (hk : P.underlying kt = some (.struct fs)) (ck : ∀ (x : Trip) (w : World) (e : Bool), (Instr.checkKey e 10000 kt (EK.trip.val x)).run P w = .ok () w)
    (eq : ∀ (l m : List Int) (w : World), l.length = 3 → m.length = 3 → (Op.equalIn 10000 kt (.agg (l.map (Value.int .i64)).toArray) (.agg (m.map (Value.int .i64)).toArray)).run P w = .ok (l == m) w)
    (zv : ∀ w, (zeroValue vt).run P w = .ok (vk.val vk.dflt) w) : MapOk P t kt .trip vt vk where
  ty := hty
  ck := ck
  fk x es w := by
    have h := findAsking_trip eq x w es 0
    cases es with
    | nil => exact findKey_now _ _ _ w hk rfl
    | cons e es =>
      have hn : Instr.findNow (.struct fs) (EK.trip.val x) ((e :: es).map (ent .trip vk)) 0 = none := rfl
      rw [findKey_ask _ _ w hk hn]
      exact h
  sb x := by
    exact sb_trip 9999 x
  zv := zv

theorem ck_all (e : Bool) (n : Nat) (cs : Array Value) (w : World) : ∀ (l : List Field), (∀ f ∈ l, ∃ v, (part f.type cs f.offset).run P w = .ok v w ∧ P.underlying f.type = some (.int .i64)) →
    (forIn l PUnit.unit (fun f _ => if f.name ≠ "_" then (do let v ← part f.type cs f.offset; Instr.checkKey e (n + 1) f.type v; pure (ForInStep.yield PUnit.unit)) else pure (ForInStep.yield PUnit.unit)) : Sem PUnit).run P w = .ok PUnit.unit w
  | [], _ => by simp
  | f :: l, h => by
    obtain ⟨v, h1, h2⟩ := h f (List.mem_cons_self ..)
    have ih := ck_all e n cs w l (fun g hg => h g (List.mem_cons_of_mem _ hg))
    rw [List.forIn_cons, Sem.run_bind]
    by_cases hn : f.name = "_"
    · rw [if_neg (not_not_intro hn)]
      simpa only [Sem.run_pure, Result.andThen_ok] using ih
    · rw [if_pos hn, Sem.run_bind, h1]
      simp only [Result.andThen_ok]
      rw [Sem.run_bind, ck_int e n .i64 v w h2]
      simpa only [Sem.run_pure, Result.andThen_ok] using ih

theorem ck_str3 {fs : Array Field} (e : Bool) (n : Nat) (cs : Array Value) (w : World) (hk : P.underlying kt = some (.struct fs)) (h : ∀ f ∈ fs.toList, ∃ v, (part f.type cs f.offset).run P w = .ok v w ∧ P.underlying f.type = some (.int .i64)) :
    (Instr.checkKey e (n + 2) kt (.agg cs)).run P w = .ok () w := by
  unfold Instr.checkKey
  rw [Sem.run_bind, run_underlying hk]
  simp only [Result.andThen_ok]
  have := ck_all e n cs w fs.toList h
  simpa using this

end
end Go.Fw

/-
  Rows of a pool lent to a callee.
-/
namespace Go.Fw
open Go

def rowAK (sz : Nat) : Nat → List Bool → List SV → (List SV → List Sli → Prop) → Prop
  | nx, true :: bs, .a (.c (.h x)) :: l, k => rowAK sz (nx + 1) bs l fun l' vs => k (.c (.sl nx sz 0 x.n x.c) :: l') (x :: vs)
  | nx, false :: bs, v :: l, k => rowAK sz nx bs l fun l' vs => k (v :: l') vs
  | _, [], l, k => k l []
  | _, _, _, _ => False

def rowsO (E : Nat) (k : EK) (m : List (Addr × List k.ty × Nat)) : Nat → List Sli → List (Nat × SO)
  | _, [] => []
  | nx, x :: l => (nx, .arr false E k (rowA m x.a) 0) :: rowsO E k m (nx + 1) l

def SO.strict : SO → Bool
  | .arr own _ _ _ _ => own
  | .gen _ => false
  | _ => true

def SO.ro : SO → Bool
  | .arr own _ _ _ _ => !own
  | _ => false

def filK (p : SO → Bool) : List (Nat × SO) → (List (Nat × SO) → Prop) → Prop
  | [], k => k []
  | (i, o) :: l, k => match p o with
    | true => filK p l fun l' => k ((i, o) :: l')
    | false => filK p l k

def filL (p : SO → Bool) : List (Nat × SO) → List (Nat × SO)
  | [] => []
  | (i, o) :: l => match p o with
    | true => (i, o) :: filL p l
    | false => filL p l

theorem filK_iff (p : SO → Bool) : ∀ (l : List (Nat × SO)) (k : List (Nat × SO) → Prop), filK p l k ↔ k (filL p l)
  | [], k => Iff.rfl
  | (i, o) :: l, k => by
    simp only [filK, filL]
    cases p o <;> exact filK_iff p l _

theorem rowAK_spec {sz n0 : Nat} : ∀ (bs : List Bool) (nx : Nat) (l : List SV) (k : List SV → List Sli → Prop), rowAK sz nx bs l k → n0 ≤ nx → (∀ v ∈ l, SV.lt n0 v) →
    ∃ l' vs, k l' vs ∧ ∀ β γ : Env, (∀ id, id < n0 → γ id = β id) → (∀ i x, vs[i]? = some x → γ (nx + i) = x.a) → l'.map (SV.den γ) = l.map (SV.den β)
  | [], nx, l, k, h, _, hl => by
    refine ⟨l, [], by cases l <;> exact h, fun β γ h1 _ => ?_⟩
    refine List.map_congr_left fun v hv => ?_
    exact SV.den_congr h1 (hl v hv)
  | true :: bs, nx, [], k, h, _, _ => h.elim
  | false :: bs, nx, [], k, h, _, _ => h.elim
  | false :: bs, nx, v :: l, k, h, hn, hl => by
    obtain ⟨l', vs, hk, hd⟩ := rowAK_spec bs nx l _ h hn (fun v hv => hl v (List.mem_cons_of_mem _ hv))
    refine ⟨_, _, hk, fun β γ h1 h2 => ?_⟩
    rw [List.map_cons, List.map_cons, hd β γ h1 h2, SV.den_congr h1 (hl v (List.mem_cons_self ..))]
  | true :: bs, nx, v :: l, k, h, hn, hl => by
    obtain ⟨x, rfl⟩ : ∃ x, v = .a (.c (.h x)) := by
      cases v with
      | tup _ => exact h.elim
      | a y => cases y with
        | agg _ => exact h.elim
        | c z => cases z <;> first | exact h.elim | exact ⟨_, rfl⟩
    obtain ⟨l', vs, hk, hd⟩ := rowAK_spec bs (nx + 1) l _ h (by omega) (fun v hv => hl v (List.mem_cons_of_mem _ hv))
    refine ⟨_, _, hk, fun β γ h1 h2 => ?_⟩
    have h0 := h2 0 x rfl
    rw [List.map_cons, List.map_cons, hd β γ h1 (fun i y hy => by have := h2 (i + 1) y (by simpa using hy); rw [← this]; congr 1; omega)]
    congr 1
    show Value.slice ((γ nx).map (·.add (0 * sz))) x.n x.c = Value.slice x.a x.n x.c
    rw [show γ nx = x.a from h0]
    congr 1
    cases x.a with
    | none => rfl
    | some a => simp [Addr.add]

theorem look_appN {α : Type} : ∀ (l m : List (Nat × α)) (i : Nat), look (appN l m) i = match look l i with
    | some x => some x
    | none => look m i
  | [], m, i => rfl
  | (j, x) :: l, m, i => by
    simp only [appN, look_cons]
    by_cases h : j = i
    · simp [h]
    · simp only [h, if_false]; exact look_appN l m i

theorem look_rowsO {E : Nat} {k : EK} {m : List (Addr × List k.ty × Nat)} : ∀ (vs : List Sli) (nx i : Nat), look (rowsO E k m nx vs) i = if nx ≤ i then (vs[i - nx]?).map (fun x => SO.arr false E k (rowA m x.a) 0) else none
  | [], nx, i => by simp [rowsO, look]
  | x :: l, nx, i => by
    simp only [rowsO, look_cons]
    by_cases h : nx = i
    · subst h; simp
    · rw [if_neg h, look_rowsO l (nx + 1) i]
      by_cases h2 : nx ≤ i
      · rw [if_pos h2, if_pos (by omega), show i - nx = (i - (nx + 1)) + 1 by omega, List.getElem?_cons_succ]
      · rw [if_neg h2, if_neg (by omega)]

theorem look_filL {p : SO → Bool} : ∀ {l : List (Nat × SO)} {i : Nat} {o : SO}, keyNd l = true → look (filL p l) i = some o → look l i = some o ∧ p o = true
  | [], _, _, _, h => by cases h
  | (j, x) :: l, i, o, hk, h => by
    simp only [keyNd, Bool.and_eq_true, Bool.not_eq_true'] at hk
    have tail : look (filL p l) i = some o → look ((j, x) :: l) i = some o ∧ p o = true := by
      intro h
      obtain ⟨h1, h2⟩ := look_filL hk.2 h
      refine ⟨?_, h2⟩
      rw [look_cons]
      split
      · rename_i e; subst e; rw [hasId_look hk.1] at h1; cases h1
      · exact h1
    simp only [filL] at h
    cases hp : p x with
    | true =>
      rw [hp] at h
      simp only [look_cons] at h
      split at h
      · rename_i e
        subst e
        cases h
        exact ⟨by simp [look_cons], hp⟩
      · exact tail (by assumption)
    | false =>
      rw [hp] at h
      exact tail h

/-- What does not lean on the zone. -/
theorem SO.strict_ok {β : Env} {Z Z' fp : Nat → Prop} {w : World} {oa : Option Addr} {o : SO} (hs : o.strict = true) (h : o.ok β Z fp w oa) : o.ok β Z' fp w oa := by
  cases o with
  | box T cs => exact h
  | gen A => cases hs
  | pool E k m => exact h
  | map kk vk es c => exact h
  | iter a b c d e => exact h
  | arr own E k xs sp =>
    cases own with
    | false => cases hs
    | true =>
      cases oa with
      | none => exact h
      | some a => exact h

theorem SO.ro_ok {β : Env} {Z fp fp' : Nat → Prop} {w : World} {oa : Option Addr} {o : SO} (hs : o.ro = true) (h : o.ok β Z fp w oa) : o.ok β Z fp' w oa := by
  cases o with
  | arr own E k xs sp =>
    cases own with
    | true => cases hs
    | false =>
      cases oa with
      | none => exact h
      | some a => exact h
  | box T cs => cases hs
  | gen A => cases hs
  | pool E k m => cases hs
  | map kk vk es c => cases hs
  | iter a b c d e => cases hs

section
variable {P : Program} {β : Env} {Z : Nat → Prop} {fp : Nat → Nat → Prop} {s : S} {w w' : World}

/-- Rows of a pool handed to a callee that only reads them: as objects of their own, as long as the call lasts. -/
theorem callRow {f : Nat} {args : List SV} {ex : List Value} {k : S → SV → Prop} (pid : Nat) (bs : List Bool) (hcf : ∀ args w, (callFunc f args).run P w = .ok (.enter f args) w) (hlt : ∀ v ∈ args, SV.lt s.nx v)
    (h : s.go fun fr hp nx => match look hp pid with
      | some (.pool E ek m) => match keyNd hp with
        | true => rowAK ek.sz nx bs args fun args1 vs => delC hp pid fun hp1 => filK SO.ro hp fun hpr => CallK P f args1 ex ⟨fr, appN (rowsO E ek m nx vs) hp1, nx + lenN vs⟩
          (fun s2 v => s2.go fun fr2 hp2 nx2 => match keyNd hp2 with
            | true => filK SO.strict hp2 fun hp3 => k ⟨fr2, (pid, .pool E ek m) :: appN hpr hp3, nx2⟩ v
            | false => False)
        | false => False
      | _ => False) : CallK P f args ex s k := by
  rw [S.go_eq] at h
  split at h <;> try exact h.elim
  rename_i E ek m hpool
  split at h <;> try exact h.elim
  rename_i hknd
  obtain ⟨args1, vs, h, hden⟩ := rowAK_spec (n0 := s.nx) bs s.nx args _ h (Nat.le_refl _) hlt
  rw [delC_iff, filK_iff] at h
  unfold CallK at h ⊢
  refine ⟨hcf, fun β Z fp w hs => ?_⟩
  let β1 : Env := fun id => if id < s.nx then β id else match vs[id - s.nx]? with
    | some x => x.a
    | none => none
  let Z1 : Nat → Prop := fun b => Z b ∨ fp pid b
  let fp1 : Nat → Nat → Prop := fun id b => id < s.nx ∧ fp id b
  have hβ1 : ∀ id, id < s.nx → β1 id = β id := fun id hid => if_pos hid
  have hβv : ∀ i x, vs[i]? = some x → β1 (s.nx + i) = x.a := by
    intro i x hx
    show (if s.nx + i < s.nx then _ else _) = _
    rw [if_neg (by omega), show s.nx + i - s.nx = i by omega, hx]
  have hpl := hs.obj pid _ hpool
  have hplt := (hs.lto pid _ hpool).1
  have hcase : ∀ id o, look (appN (rowsO E ek m s.nx vs) (delK s.hp pid)) id = some o → (∃ x, s.nx ≤ id ∧ vs[id - s.nx]? = some x ∧ o = .arr false E ek (rowA m x.a) 0) ∨ (look s.hp id = some o ∧ id ≠ pid) := by
    intro id o hl
    rw [look_appN, look_rowsO] at hl
    split at hl
    · rename_i y hy
      cases hl
      split at hy
      · rename_i h1
        obtain ⟨x, hx, rfl⟩ := Option.map_eq_some_iff.1 hy
        exact .inl ⟨x, h1, hx, rfl⟩
      · cases hy
    · rw [look_delK] at hl
      split at hl
      · cases hl
      · rename_i hne
        exact .inr ⟨hl, fun e => hne e.symm⟩
  have hs1 : HSat β1 Z1 fp1 ⟨s.fr, appN (rowsO E ek m s.nx vs) (delK s.hp pid), s.nx + lenN vs⟩ w := by
    refine ⟨?_, ?_, ?_, ?_, ?_⟩
    · rintro b (hb | hb)
      · exact hs.zlt b hb
      · exact (hs.flt pid _ hpool b hb).1
    · rintro id o hl b ⟨hid, hb⟩
      rcases hcase id o hl with ⟨x, hx, _⟩ | ⟨h1, h2⟩
      · omega
      · refine ⟨(hs.flt id o h1 b hb).1, ?_⟩
        rintro (hz | hz)
        · exact (hs.flt id o h1 b hb).2 hz
        · exact hs.sep id pid o _ h1 hpool h2 b hb hz
    · rintro id id' o o' hl hl' hne b ⟨hid, hb⟩ ⟨hid', hb'⟩
      rcases hcase id o hl with ⟨x, hx, _⟩ | ⟨h1, h2⟩
      · omega
      rcases hcase id' o' hl' with ⟨x, hx, _⟩ | ⟨h1', h2'⟩
      · omega
      exact hs.sep id id' o o' h1 h1' hne b hb hb'
    · intro id o hl
      rcases hcase id o hl with ⟨x, hx, hv, rfl⟩ | ⟨h1, h2⟩
      · have e := hβv (id - s.nx) x hv
        rw [show s.nx + (id - s.nx) = id by omega] at e
        show SO.ok β1 Z1 (fp1 id) w (β1 id) _
        rw [e]
        cases hxa : x.a with
        | none => exact ⟨rfl, rfl⟩
        | some a =>
          intro hne
          have hr : ∃ y, lkA m a = some y := by
            cases hla : lkA m a with
            | some y => exact ⟨y, rfl⟩
            | none => exfalso; apply hne; simp [rowA, hla]
          obtain ⟨⟨xs, sp⟩, hla⟩ := hr
          obtain ⟨g1, g2, pre, post, g3, g4, g5⟩ := hpl.row a xs sp hla
          have exs : rowA m (some a) = xs := by simp [rowA, hla]
          refine ⟨g1, .inr g2, (hs.flt pid _ hpool _ g2).1, ?_⟩
          intro j v hj
          rw [exs] at hj
          rw [add_eq g1]
          exact flat_cell g3 g4 j v hj
      · have hlo := hs.lto id o h1
        show SO.ok β1 Z1 (fp1 id) w (β1 id) o
        rw [hβ1 id hlo.1, show fp1 id = fp id from funext fun b => propext ⟨fun h => h.2, fun h => ⟨hlo.1, h⟩⟩]
        exact SO.ok_mono (hs.obj id o h1) hlo.2 hβ1 (fun b hb => .inl hb) (fun _ _ => rfl) (Nat.le_refl _)
    · intro id o hl
      show id < s.nx + lenN vs ∧ o.lt (s.nx + lenN vs)
      rw [lenN_eq]
      rcases hcase id o hl with ⟨x, hx, hv, rfl⟩ | ⟨h1, h2⟩
      · have := (List.getElem?_eq_some_iff.1 hv).1
        exact ⟨by omega, trivial⟩
      · have hlo := hs.lto id o h1
        exact ⟨by omega, SO.lt_mono (by omega) hlo.2⟩
  have hc := h.2 _ _ _ w hs1
  rw [hden β β1 hβ1 hβv] at hc
  refine hc.mono ?_
  rintro e w' ⟨v, β', Z', fp', s', rfl, hn, hk⟩
  rw [S.go_eq] at hk
  split at hk <;> try exact hk.elim
  rename_i hknd2
  rw [filK_iff] at hk
  have hbw : ∀ b, Z b ∨ fp pid b → w'.heap[b]? = w.heap[b]? := fun b hb => hn.ext.block b hb
  have hsz := hn.ext.size
  have henv : ∀ id, id < s.nx → β' id = β id := fun id hid => (hn.env id (Nat.lt_of_lt_of_le hid (Nat.le_add_right _ _))).trans (hβ1 id hid)
  have hnx : s.nx ≤ s'.nx := Nat.le_trans (Nat.le_add_right _ _) hn.nx
  let fp2 : Nat → Nat → Prop := fun id b => if id = pid then fp pid b else if (look (filL SO.ro s.hp) id).isSome = true then False else fp' id b
  have hc2 : ∀ id o, look ((pid, SO.pool E ek m) :: appN (filL SO.ro s.hp) (filL SO.strict s'.hp)) id = some o →
      (id = pid ∧ o = .pool E ek m ∧ ∀ b, fp2 id b ↔ fp pid b) ∨ (id ≠ pid ∧ look s.hp id = some o ∧ o.ro = true ∧ ∀ b, ¬ fp2 id b) ∨ (id ≠ pid ∧ look s'.hp id = some o ∧ o.strict = true ∧ ∀ b, fp2 id b ↔ fp' id b) := by
    intro id o hl
    rw [look_cons] at hl
    split at hl
    · rename_i e
      subst e
      cases hl
      exact .inl ⟨rfl, rfl, fun b => by simp [fp2]⟩
    · rename_i hne
      rw [look_appN] at hl
      split at hl
      · rename_i y hy
        cases hl
        obtain ⟨g1, g2⟩ := look_filL hknd hy
        exact .inr (.inl ⟨Ne.symm hne, g1, g2, fun b => by simp [fp2, Ne.symm hne, hy]⟩)
      · rename_i hno
        obtain ⟨g1, g2⟩ := look_filL hknd2 hl
        exact .inr (.inr ⟨Ne.symm hne, g1, g2, fun b => by simp [fp2, Ne.symm hne, hno]⟩)
  refine ⟨v, β', Z, fp2, ⟨s'.fr, (pid, SO.pool E ek m) :: appN (filL SO.ro s.hp) (filL SO.strict s'.hp), s'.nx⟩, rfl, ⟨henv, hn.ext.mono fun b hb => .inl hb, fun _ h => h, hn.fr, hnx, ⟨fun b hb => Nat.lt_of_lt_of_le (hs.zlt b hb) hsz, ?_, ?_, ?_, ?_⟩, hn.lt⟩, hk⟩
  · intro id o hl b hb
    rcases hc2 id o hl with ⟨_, _, g⟩ | ⟨_, _, _, g⟩ | ⟨_, g1, _, g⟩
    · have := hs.flt pid _ hpool b ((g b).1 hb)
      exact ⟨Nat.lt_of_lt_of_le this.1 hsz, this.2⟩
    · exact absurd hb (g b)
    · have := hn.sat.flt id o g1 b ((g b).1 hb)
      exact ⟨this.1, fun hz => this.2 (hn.zz b (.inl hz))⟩
  · intro id id' o o' hl hl' hne b hb hb'
    rcases hc2 id o hl with ⟨e, _, g⟩ | ⟨_, _, _, g⟩ | ⟨_, g1, _, g⟩ <;> rcases hc2 id' o' hl' with ⟨e', _, g'⟩ | ⟨_, _, _, g'⟩ | ⟨_, g1', _, g'⟩
    · exact hne (e.trans e'.symm)
    · exact g' b hb'
    · exact (hn.sat.flt id' o' g1' b ((g' b).1 hb')).2 (hn.zz b (.inr ((g b).1 hb)))
    · exact g b hb
    · exact g b hb
    · exact g b hb
    · exact (hn.sat.flt id o g1 b ((g b).1 hb)).2 (hn.zz b (.inr ((g' b).1 hb')))
    · exact g' b hb'
    · exact hn.sat.sep id id' o o' g1 g1' hne b ((g b).1 hb) ((g' b).1 hb')
  · intro id o hl
    show SO.ok β' Z (fp2 id) w' (β' id) o
    rcases hc2 id o hl with ⟨e, e2, g⟩ | ⟨_, g1, g2, g⟩ | ⟨_, g1, g2, g⟩
    · subst e e2
      rw [henv _ hplt, show fp2 id = fp id from funext fun b => propext (g b)]
      exact SO.ok_mono (n := s.nx) hpl (hs.lto id _ hpool).2 henv (fun _ h => h) hbw hsz
    · have hlo := hs.lto id o g1
      rw [henv id hlo.1]
      have g0 : o.ok β Z (fun _ => False) w (β id) := SO.ro_ok g2 (hs.obj id o g1)
      have g3 : o.ok β' Z (fun _ => False) w' (β id) := SO.ok_mono g0 hlo.2 henv (fun _ h => h) (fun b hb => hbw b (by rcases hb with hb | hb; exact .inl hb; exact hb.elim)) hsz
      exact SO.ro_ok g2 g3
    · rw [show fp2 id = fp' id from funext fun b => propext (g b)]
      exact SO.strict_ok g2 (hn.sat.obj id o g1)
  · intro id o hl
    rcases hc2 id o hl with ⟨e, e2, _⟩ | ⟨_, g1, g2, g⟩ | ⟨_, g1, g2, g⟩
    · subst e e2
      exact ⟨Nat.lt_of_lt_of_le hplt hnx, trivial⟩
    · have hlo := hs.lto id o g1
      exact ⟨Nat.lt_of_lt_of_le hlo.1 hnx, SO.lt_mono hnx hlo.2⟩
    · exact hn.sat.lto id o g1

end
end Go.Fw

/-
  A function's text cut in two: what holds between.
-/
namespace Go.Fw
open Go

/-- What code does, from a state on. -/
def SemC (P : Program) (N n0 : Nat) (c : Code) (kn kr : S → Prop) (ke : Nat → S → Prop) (s : S) : Prop :=
  ∀ C : Ctx, C.N = N → C.n0 = n0 → ∀ (a : Act) (w : World), Sat C s a w → c.wp P (QOf C kn kr ke) a w

def takeC : Nat → Code → Code
  | 0, _ => .skip
  | k + 1, .seq a b => .seq a (takeC k b)
  | _ + 1, _ => .goto 0

def dropC : Nat → Code → Code
  | 0, c => c
  | k + 1, .seq _ b => dropC k b
  | _ + 1, _ => .skip

theorem SemC.of {P : Program} {ty : List (Nat × STy)} (hty : TyOk P ty) {N n0 : Nat} (n : Nat) (live : List Nat) {c : Code} {kn kr : S → Prop} {ke : Nat → S → Prop} {s : S} (h : exec P ty N n0 n live c kn kr ke s) : SemC P N n0 c kn kr ke s := by
  intro C hN h0 a w hs
  subst hN h0
  exact exec_sound hty c kn kr ke s a w h hs

theorem SemC.sub {P : Program} {N n0 : Nat} {c : Code} {kn kr : S → Prop} {ke : Nat → S → Prop} {s s1 : S} {ren : List (Nat × Option Nat)} (h : SemC P N n0 c kn kr ke s1) (hs : Sub n0 ren s1 s) : SemC P N n0 c kn kr ke s := by
  intro C hN h0 a w hsat
  subst h0
  exact h C hN rfl a w (hsat.sub hs)

/-- The text is cut behind its first k statements. -/
theorem SemC.cut {P : Program} {ty : List (Nat × STy)} (hty : TyOk P ty) {N n0 : Nat} (n : Nat) (live : List Nat) {kn kr : S → Prop} {ke : Nat → S → Prop} {α : Type} (pat : α → S) (inv : α → Prop) : ∀ (k : Nat) (c : Code) (s : S),
    exec P ty N n0 n live (takeC k c) (fun s' => ∃ x ren, Sub n0 ren (pat x) s' ∧ inv x) kr ke s → (∀ x, inv x → SemC P N n0 (dropC k c) kn kr ke (pat x)) → SemC P N n0 c kn kr ke s
  | 0, c, s, h, hk => by
    obtain ⟨x, ren, hsub, hi⟩ := h
    exact (hk x hi).sub hsub
  | k + 1, c, s, h, hk => by
    cases c <;> first
      | exact h.elim
      | skip
    rename_i x y
    intro C hN h0 a w hs
    subst hN h0
    refine wp_seq (wp_mono (exec_sound hty x _ kr ke s a w h hs) ?_)
    intro e a w hq
    cases e <;> first
      | exact hq
      | (obtain ⟨s', hk', hs'⟩ := hq; exact SemC.cut hty n live pat inv k y s' hk' hk C rfl rfl a w hs')

/-- A call of a function of the program, by its text. -/
theorem entryC {P : Program} {ty : List (Nat × STy)} (hty : TyOk P ty) {f : FuncId} {fn : Func} {c : Code} {R : Ending → World → Prop} (avs : List SV) (hp : List (Nat × SO)) (nx : Nat) (post : SV → S → Prop)
    {β : Env} {Z : Nat → Prop} {fp : Nat → Nat → Prop} {w : World} (hf : P.funcs[f]? = some fn) (hb : fn.body = some c) (hs : HSat β Z fp ⟨[], hp, nx⟩ w) (hlt : ∀ v ∈ avs, SV.lt nx v) (hn : avs.length ≤ fn.ntmps)
    {fr : List (Nat × SV)} (hfr : fr = enumL 0 avs)
    (hex : SemC P fn.ntmps nx c (retK ty fn.results.toList post) (retK ty fn.results.toList post) (fun _ _ => False) ⟨fr, hp, nx⟩)
    (hR : ∀ v w' β' Z' fp' s', Nxt β Z ⟨[], hp, nx⟩ w v w' β' Z' fp' ⟨[], s'.hp, s'.nx⟩ → post v s' → R (.returned (v.den β')) w') :
    Calls P f (avs.map (SV.den β)).toArray w R := by
  subst hfr
  refine calls_of_wp hf hb ?_
  let C : Ctx := ⟨w, Z, β, nx, fn.ntmps⟩
  have hsat : Sat C ⟨enumL 0 avs, hp, nx⟩ { tmps := (avs.map (SV.den β)).toArray ++ Array.replicate (fn.ntmps - (avs.map (SV.den β)).toArray.size) undef, defers := [] } w := by
    refine ⟨β, Z, fp, ⟨hs.zlt, hs.flt, hs.sep, hs.obj, hs.lto⟩, ⟨?_, ?_, ?_, rfl⟩, ⟨fun _ h => h, Ext.refl _ _, fun _ _ => rfl, Nat.le_refl _⟩⟩
    · intro t v ht
      obtain ⟨_, h2⟩ := look_enumL avs 0 t v ht
      rw [Nat.sub_zero] at h2
      have hlt' : t < avs.length := (List.getElem?_eq_some_iff.1 h2).1
      rw [Array.getElem?_append_left (by simpa using hlt')]
      simp [h2]
    · intro t v ht
      obtain ⟨_, h2⟩ := look_enumL avs 0 t v ht
      exact hlt v (List.mem_of_getElem? h2)
    · show _ = fn.ntmps
      simp; omega
  have hmain := hex C rfl rfl _ _ hsat
  have hres : ∀ s a w', retK ty fn.results.toList post s → Sat C s a w' → a.defers = [] ∧ ∃ v, (results fn a.tmps).run P w' = .ok v w' ∧ R (.returned v) w' := by
    intro s a w' hr hsat'
    obtain ⟨β', Z', fp', hs', hf', hc'⟩ := hsat'
    refine ⟨hf'.defers, ?_⟩
    obtain ⟨r, hk, hl, hrun⟩ := resK_sound hty hs' hf' _ _ hr
    have hnxt : ∀ v : SV, v.lt s.nx → Nxt β Z ⟨[], hp, nx⟩ w v w' β' Z' fp' ⟨[], s.hp, s.nx⟩ := fun v hv =>
      ⟨hc'.env, hc'.ext, hc'.zz, rfl, hc'.nx, ⟨hs'.zlt, hs'.flt, hs'.sep, hs'.obj, hs'.lto⟩, hv⟩
    have hrun2 : (results fn a.tmps).run P w' = .ok (if h : (r.map (SA.den β')).toArray.size = 1 then (r.map (SA.den β')).toArray[0] else .tuple (r.map (SA.den β')).toArray) w' := by
      have e1 : results fn a.tmps = (do let vs ← fn.results.mapM (resOne a.tmps); pure (if h : vs.size = 1 then vs[0] else .tuple vs)) := rfl
      rw [e1, Sem.run_bind, Array.mapM_eq_mapM_toList]
      simp only [Sem.run_map, hrun, Result.andThen_ok, Sem.run_pure]
    match r, hk, hl, hrun2 with
    | [x], hk, hl, hrun2 =>
      refine ⟨_, hrun2, ?_⟩
      have := hR (.a x) w' β' Z' fp' s (hnxt (.a x) (hl x (by simp))) hk
      simpa [SV.den] using this
    | [], hk, hl, hrun2 =>
      refine ⟨_, hrun2, ?_⟩
      have := hR (.tup []) w' β' Z' fp' s (hnxt (.tup []) hl) hk
      simpa [SV.den] using this
    | x :: y :: r, hk, hl, hrun2 =>
      refine ⟨_, hrun2, ?_⟩
      have := hR (.tup (x :: y :: r)) w' β' Z' fp' s (hnxt (.tup (x :: y :: r)) hl) hk
      rw [dif_neg (by simp)]
      exact this
  refine wp_mono hmain ?_
  intro e a w' hq
  cases e with
  | normal => obtain ⟨s, hr, hs'⟩ := hq; exact hres s a w' hr hs'
  | ret => obtain ⟨s, hr, hs'⟩ := hq; exact hres s a w' hr hs'
  | exit i => obtain ⟨s, hr, _⟩ := hq; exact hr.elim
  | goto l => exact hq.elim
  | panic ch => exact hq.elim
  | outgrown => exact hq.elim


theorem ctC {P : Program} {ty : List (Nat × STy)} (hty : TyOk P ty) {f : FuncId} {fn : Func} {c : Code} {avs : List SV} {hp : List (Nat × SO)} {nx : Nat} {post : SV → S → Prop}
    (hf : P.funcs[f]? = some fn) (hb : fn.body = some c) (hlt : ∀ v ∈ avs, SV.lt nx v) (hn : avs.length ≤ fn.ntmps) {fr : List (Nat × SV)} (hfr : fr = enumL 0 avs)
    (hex : SemC P fn.ntmps nx c (retK ty fn.results.toList (Back nx post)) (retK ty fn.results.toList (Back nx post)) (fun _ _ => False) ⟨fr, hp, nx⟩) : Ct P f avs [] hp nx post := by
  intro β Z fp w hs
  rw [List.append_nil]
  refine entryC hty avs hp nx (Back nx post) hf hb hs hlt hn hfr hex fun v w' β' Z' fp' s' hN hp => ?_
  obtain ⟨ren, hp1, nx1, v1, h1, h2, h3⟩ := hp
  obtain ⟨g1, _, g3, g4⟩ := h1.sat (N := 0) (a := { tmps := #[], defers := [] }) hN.sat ⟨fun t v h => (by cases h), fun t v h => (by cases h), rfl, rfl⟩
  obtain ⟨e1, e2⟩ := eqV_spec (β := β') h2 hN.lt
  exact ⟨v1, renE ren β', Z', _, ⟨[], hp1, nx1⟩, by rw [e1], ⟨fun id hid => (g3 id hid).trans (hN.env id hid), hN.ext, hN.zz, rfl, g4, g1, e2⟩, h3⟩

end Go.Fw
