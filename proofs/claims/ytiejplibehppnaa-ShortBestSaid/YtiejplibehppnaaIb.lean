/-
  The soundness of the operations that make or write memory (first part).
-/
import Derived.Test.YtiejplibehppnaaIa
import Derived.Tactics

set_option linter.unusedSimpArgs false
set_option linter.unusedVariables false

namespace Go.Fw
open Go

section
variable {P : Program} {ty : List (Nat × STy)} {β : Env} {Z : Nat → Prop} {fp : Nat → Nat → Prop} {s : S} {w : World} {N : Nat} {a : Act}

structure LRes (P : Program) (β : Env) (Z : Nat → Prop) (s : S) (w : World) (a : Act) (o : Oper) (k : S → SV → Prop) (r : Next) (w' : World) (v : SV) (β' : Env) (fp' : Nat → Nat → Prop) (s' : S) : Prop where
  run : (execOp a.eval o).run P w = .ok r w'
  val : r = .value (v.den β') ∨ (r = .skip ∧ v = .u)
  env : ∀ id, id < s.nx → β' id = β id
  ext : Ext Z w w'
  fr : s'.fr = s.fr
  nx : s.nx ≤ s'.nx
  sat : HSat β' Z fp' s' w'
  lt : v.lt s'.nx
  go : k s' v

def LOk (P : Program) (β : Env) (Z : Nat → Prop) (s : S) (w : World) (a : Act) (o : Oper) (k : S → SV → Prop) : Prop :=
  ∃ r w' v β' fp' s', LRes P β Z s w a o k r w' v β' fp' s'

theorem SC.den_one {n : Nat} {c : SC} (h : c.lt n) : (c.den β).oneCell' = true := by
  cases c <;> first | rfl | exact h

theorem setF_spec {ek : EK} {x : ek.ty} {off : Nat} {c : SC} {e : ek.ty} (h : ek.setF x off c = some e) : ek.cells e = (ek.cells x).set off (c.den β) ∧ off < ek.sz := by
  cases ek
  case int =>
    cases off with
    | succ n => cases h
    | zero => have := ofSym_spec (β := β) (ek := .int) (cs := [c]) h; exact ⟨this.symm, by decide⟩
  case bool =>
    cases off with
    | succ n => cases h
    | zero => have := ofSym_spec (β := β) (ek := .bool) (cs := [c]) h; exact ⟨this.symm, by decide⟩
  case str =>
    cases off with
    | succ n => cases h
    | zero => have := ofSym_spec (β := β) (ek := .str) (cs := [c]) h; exact ⟨this.symm, by decide⟩
  case sli =>
    cases off with
    | succ n => cases h
    | zero => have := ofSym_spec (β := β) (ek := .sli) (cs := [c]) h; exact ⟨this.symm, by decide⟩
  case arc => change setArc x off c = some e at h; unfold setArc at h; split at h <;> cases h <;> exact ⟨rfl, by decide⟩
  case trip => change setTrip x off c = some e at h; unfold setTrip at h; split at h <;> cases h <;> exact ⟨rfl, by decide⟩
  case duo => change setDuo x off c = some e at h; unfold setDuo at h; split at h <;> cases h <;> exact ⟨rfl, by decide⟩
  case fst => cases off <;> cases h
  case adr =>
    cases off with
    | succ n => cases h
    | zero => have := ofSym_spec (β := β) (ek := .adr) (cs := [c]) h; exact ⟨this.symm, by decide⟩
  case fnd => change setFnd x off c = some e at h; unfold setFnd at h; split at h <;> cases h <;> exact ⟨rfl, by decide⟩

theorem Ext.alloc (o : Obj) (hz : ∀ b, Z b → b < w.heap.size) : Ext Z w (w.alloc o) :=
  ⟨rfl, rfl, rfl, by simp, fun b hb => heap_alloc_lt (hz b hb)⟩

theorem l_new (hs : HSat β Z fp s w) {o : Oper} {k : S → SV → Prop} {T : Nat} {cs : List SC} (hrun : (execOp a.eval o).run P w = .ok (.value (.pointer (some ⟨w.heap.size, 0, none⟩))) (w.alloc (.cells (cs.map (SC.den β)).toArray T (0, 0))))
    (hlt : ∀ c ∈ cs, SC.lt s.nx c) (h : k ⟨s.fr, (s.nx, .box T cs) :: s.hp, s.nx + 1⟩ (.c (.ptr s.nx 0))) : LOk P β Z s w a o k := by
  refine ⟨_, _, .c (.ptr s.nx 0), β.add s.nx (some ⟨w.heap.size, 0, none⟩), _, ⟨s.fr, (s.nx, .box T cs) :: s.hp, s.nx + 1⟩, hrun, .inl ?_, Env.add_lt, Ext.alloc _ hs.zlt, rfl, Nat.le_succ _, hs.add (o := .box T cs) (q := fun b => b = w.heap.size) ?_ ?_ ?_ ?_ hlt, ?_, h⟩
  · simp [SV.den, SA.den, SC.den, Env.add_at, Addr.add_lit]
  · exact fun b hb => heap_alloc_lt hb
  · simp
  · intro b hb; subst hb; simp
  · exact ⟨w.heap.size, rfl, rfl, by rw [heap_alloc_at, SC.map_den_congr Env.add_lt hlt]⟩
  · show s.nx < s.nx + 1; omega

theorem l_box (hs : HSat β Z fp s w) (hf : FSat β s N a) {k : S → SV → Prop} {dst : Option Nat} {T : TypeId} {x : Operand} {type : TypeId} {pos : String}
    {after : Array Edge} {guard : Option (Nat × Bool)} (h : lOp ty (.box T x) s k) : LOk P β Z s w a ⟨dst, .box T x, type, pos, after, guard⟩ k := by
  simp only [lOp, S.go_eq] at h
  split at h <;> try exact h.elim
  rename_i v hx
  split at h <;> try exact h.elim
  rename_i cs hcs
  obtain ⟨he, hlt⟩ := ev_den hf hx
  obtain ⟨hc, hcl⟩ := cells_cs (β := β) hcs hlt
  refine l_new hs (T := T) (cs := cs) ?_ hcl h
  simp [execOp, Instr.box, newVar, newRow, he, hc]

theorem l_alloc (hty : TyOk P ty) (hs : HSat β Z fp s w) {k : S → SV → Prop} {dst : Option Nat} {T : TypeId} {type : TypeId} {pos : String}
    {after : Array Edge} {guard : Option (Nat × Bool)} (h : lOp ty (.alloc T) s k) : LOk P β Z s w a ⟨dst, .alloc T, type, pos, after, guard⟩ k := by
  simp only [lOp, S.go_eq] at h
  split at h <;> try exact h.elim
  rename_i d hd
  have ht := hty T d hd
  refine l_new hs (T := T) (cs := d.zero) ?_ (fun c hc => SC.lt_mono (Nat.zero_le _) (ht.zlt c hc)) h
  have hz0 : d.zero.map (SC.den fun _ => none) = d.zero.map (SC.den β) := SC.map_den_congr (n := 0) (fun id h => absurd h (by omega)) ht.zlt
  have hc : d.zv.cells = (d.zero.map (SC.den β)).toArray := by
    unfold STy.zv
    cases hag : d.agg with
    | true => simp only [Value.cells, hz0]
    | false =>
      obtain ⟨z, hz⟩ := ht.one hag
      rw [hz] at hz0 ⊢
      simp only [List.map_cons, List.map_nil, List.cons.injEq, and_true] at hz0
      have h1 : (z.den fun _ => none).oneCell' = true := SC.den_one (ht.zlt z (by rw [hz]; simp))
      simp only [List.map_cons, List.map_nil, ← hz0]
      generalize (z.den fun _ => none) = y at *
      cases y <;> first | rfl | (simp [Value.oneCell'] at h1)
  simp [execOp, Instr.alloc, newVar, newRow, ht.zero, hc]

theorem elemsK_sound (hf : FSat β s N a) (ek : EK) : ∀ (parts : List (Nat × Operand)) (n : Nat) (k : List ek.ty → Prop), elemsK ek s.fr n parts k →
    ∃ xs, k xs ∧ xs.length = parts.length ∧ ∀ z : List Value, z.length = (n + parts.length) * ek.sz →
      Instr.fill (fun i => some (i * ek.sz, ek.sz)) z.toArray (parts.map fun p => (p.1, a.eval p.2)) = some (z.take (n * ek.sz) ++ flat ek xs).toArray
  | [], n, k, h => ⟨[], h, rfl, fun z hz => by
      simp only [List.length_nil, Nat.add_zero] at hz
      simp only [List.map_nil, Instr.fill, flat, List.flatMap_nil, List.append_nil]
      rw [List.take_of_length_le (by omega)]⟩
  | (i, x) :: r, n, k, h => by
    simp only [elemsK] at h
    split at h <;> try exact h.elim
    rename_i v hi hx
    split at h <;> try exact h.elim
    rename_i cs hcs
    split at h <;> try exact h.elim
    rename_i e he
    rw [nbeq, decide_eq_true_eq] at hi
    subst hi
    obtain ⟨hev, hlt⟩ := ev_den hf hx
    obtain ⟨hc, hcl⟩ := cells_cs (β := β) hcs hlt
    rw [ofSym_spec he] at hc
    obtain ⟨xs, hk, hlen, hfill⟩ := elemsK_sound hf ek r (i + 1) _ h
    refine ⟨e :: xs, hk, by simp [hlen], fun z hz => ?_⟩
    simp only [List.length_cons] at hz
    have hsz : (ek.cells e).length = ek.sz := EK.cells_length ek e
    have hle : i * ek.sz + ek.sz ≤ z.length := by
      rw [hz, show i * ek.sz + ek.sz = (i + 1) * ek.sz by rw [Nat.succ_mul]]
      exact Nat.mul_le_mul_right _ (by omega)
    simp only [List.map_cons, Instr.fill, hev, hc]
    rw [if_neg (by simp [hsz]; omega)]
    have := foldl_set (i * ek.sz) (ek.cells e) 0 z.toArray (by simp [hsz]; omega)
    simp only [Nat.add_zero] at this
    rw [hsz] at this
    have e1 : Array.foldl (fun (cs : Array Value) (x : Value × Nat) => cs.setIfInBounds (i * ek.sz + x.2) x.1) z.toArray (ek.cells e).toArray.zipIdx =
        (z.take (i * ek.sz) ++ ek.cells e ++ z.drop (i * ek.sz + ek.sz)).toArray := by
      apply Array.ext'
      rw [← Array.foldl_toList]; simp only [Array.toList_zipIdx]; exact this
    rw [e1, hfill _ (by
      simp only [List.length_append, List.length_take, List.length_drop, hsz, Nat.min_eq_left (show i * ek.sz ≤ z.length by omega)]
      rw [show i + 1 + r.length = i + (r.length + 1) by omega, ← hz]
      omega)]
    congr 2
    rw [List.take_append_of_le_length (by simp only [List.length_append, List.length_take, hsz, Nat.min_eq_left (show i * ek.sz ≤ z.length by omega), Nat.succ_mul]; omega),
      List.take_of_length_le (by simp only [List.length_append, List.length_take, hsz, Nat.min_eq_left (show i * ek.sz ≤ z.length by omega), Nat.succ_mul]; omega)]
    simp [flat]

end
end Go.Fw

/-
  The soundness of the operations that make or write memory (second part).
-/
namespace Go.Fw
open Go

section
variable {P : Program} {ty : List (Nat × STy)} {β : Env} {Z : Nat → Prop} {fp : Nat → Nat → Prop} {s : S} {w : World} {N : Nat} {a : Act}

/-- A new array. -/
theorem l_arr (hs : HSat β Z fp s w) {o : Oper} {k : S → SV → Prop} {E : Nat} {ek : EK} {xs : List ek.ty} {sp n cap : Nat} {post : List Value} {w' : World}
    (hrun : (execOp a.eval o).run P w = .ok (.value (.slice (some ⟨w.heap.size, 0, none⟩) n cap)) w')
    (hw : ∀ b, b < w.heap.size → w'.heap[b]? = w.heap[b]?) (hsz : w.heap.size < w'.heap.size) (hos : w'.os = w.os) (htp : w'.tape = w.tape) (hout : w'.output = w.output)
    (hh : w'.heap[w.heap.size]? = some (.cells (flat ek xs ++ post).toArray E (0, 0))) (hpost : post.length = sp * ek.sz)
    (h : k ⟨s.fr, (s.nx, .arr true E ek xs sp) :: s.hp, s.nx + 1⟩ (.c (.sl s.nx ek.sz 0 n cap))) : LOk P β Z s w a o k := by
  refine ⟨_, _, .c (.sl s.nx ek.sz 0 n cap), β.add s.nx (some ⟨w.heap.size, 0, none⟩), _, ⟨s.fr, (s.nx, .arr true E ek xs sp) :: s.hp, s.nx + 1⟩, hrun, .inl ?_, Env.add_lt,
    ⟨hos, htp, hout, by omega, fun b hb => hw b (hs.zlt b hb)⟩, rfl, Nat.le_succ _,
    hs.add (o := .arr true E ek xs sp) (q := fun b => b = w.heap.size) hw (by omega) ?_ ?_ trivial, ?_, h⟩
  · simp [SV.den, SA.den, SC.den, Env.add_at, Addr.add_lit]
  · intro b hb; subst hb; omega
  · exact ⟨rfl, rfl, [], post, by simpa using hh, rfl, Nat.le_of_eq hpost.symm⟩
  · show s.nx < s.nx + 1; omega

theorem l_buildSlice (hty : TyOk P ty) (hs : HSat β Z fp s w) (hf : FSat β s N a) {k : S → SV → Prop} {dst : Option Nat} {T : TypeId} {len : Nat} {parts : Array (Nat × Operand)} {type : TypeId} {pos : String}
    {after : Array Edge} {guard : Option (Nat × Bool)} (h : lOp ty (.buildSlice T len parts) s k) : LOk P β Z s w a ⟨dst, .buildSlice T len parts, type, pos, after, guard⟩ k := by
  simp only [lOp, S.go_eq] at h
  split at h <;> try exact h.elim
  rename_i d hd
  split at h <;> try exact h.elim
  rename_i E ek bytes hsl
  split at h <;> try exact h.elim
  rename_i hlen hbig
  rw [nbeq, lenN_eq, decide_eq_true_eq] at hlen
  rw [nble, decide_eq_true_eq] at hbig
  obtain ⟨hu, hE, i, z, hi, hz, hisz, _, hzc⟩ := (hty T d hd).sl _ _ _ hsl
  obtain ⟨xs, hk, hxl, hfill⟩ := elemsK_sound (β := β) hf ek _ _ _ h
  have hzsz : z.cells.size = ek.sz := by rw [← Array.length_toList, hzc, EK.cells_length]
  have hrun : (execOp a.eval ⟨dst, .buildSlice T len parts, type, pos, after, guard⟩).run P w = .ok (.value (.slice (some ⟨w.heap.size, 0, none⟩) len len)) (w.alloc (.cells (flat ek xs ++ []).toArray E)) := by
    have hf0 := hfill ((List.range (len * ek.sz)).map fun i => z.cells[i % z.cells.size]!) (by simp [hlen])
    have e0 : Instr.fill (fun i => some (i * ek.sz, ek.sz)) ((List.range (len * ek.sz)).map fun i => z.cells[i % z.cells.size]!).toArray (parts.toList.map fun p => (p.1, a.eval p.2)) = some (flat ek xs).toArray := by
      rw [hf0]; simp
    by_cases hn : len * ek.sz = 0
    · have e1 : (if len * ek.sz = 0 then (pure #[] : Sem (Array Value)) else do pure (← zeroValue E).cells) = pure #[] := by rw [if_pos hn]
      have e0' : Instr.fill (fun i => some (i * ek.sz, ek.sz)) (#[] : Array Value) (parts.toList.map fun p => (p.1, a.eval p.2)) = some (flat ek xs).toArray := by
        rw [hn] at e0; simpa using e0
      simp only [execOp, Instr.buildSlice, Sem.run_bind, run_underlying hu, Result.andThen_ok, hE]
      rw [if_neg (by omega)]
      simp [hn, e0', newRow, Array.range_zero']
    · simp only [execOp, Instr.buildSlice, Sem.run_bind, run_underlying hu, Result.andThen_ok, hE]
      rw [if_neg (by omega)]
      have e3 : ((Array.range (len * ek.sz)).map fun i => z.cells[i % z.cells.size]!) = ((List.range (len * ek.sz)).map fun i => z.cells[i % z.cells.size]!).toArray := by
        apply Array.ext'; simp
      simp only [Sem.run_bind, if_neg hn, zeroValue, typeInfo, hi, hz, Sem.run_pure, run_program, Result.andThen_ok]
      rw [e3]
      simp [e0, newRow]
  exact l_arr hs (xs := xs) (sp := 0) (post := []) hrun (fun b hb => heap_alloc_lt hb) (by simp) rfl rfl rfl (heap_alloc_at _) (by simp) hk

theorem made_flat (ek : EK) (z : Array Value) (hz : z.toList = ek.cells ek.dflt) (n : Nat) : (madeCells z (n * ek.sz)).toList = flat ek (List.replicate n ek.dflt) := by
  have hzs : z.size = ek.sz := by rw [← Array.length_toList, hz, EK.cells_length]
  apply List.ext_getElem?
  intro j
  have hpos : 0 < ek.sz := by cases ek <;> decide
  by_cases hj : j < n * ek.sz
  · have hq : j / ek.sz < n := (Nat.div_lt_iff_lt_mul hpos).2 hj
    have hr : j % ek.sz < ek.sz := Nat.mod_lt _ hpos
    have h1 := flat_get ek (List.replicate n ek.dflt) (j / ek.sz) (j % ek.sz) (by simpa using hq) hr
    rw [Nat.mul_comm, Nat.div_add_mod] at h1
    rw [h1]
    simp only [madeCells, Array.toList_map, Array.toList_range, List.getElem?_map, List.getElem?_range hj, Option.map_some, hzs]
    have hd : (List.replicate n ek.dflt).getD (j / ek.sz) ek.dflt = ek.dflt := by
      simp [List.getD, hq]
    rw [hd, ← hz]
    simp [hzs, hr]
  · rw [List.getElem?_eq_none (by rw [Array.length_toList, size_madeCells]; omega), List.getElem?_eq_none (by rw [flat_length]; simp; omega)]

theorem l_makeSlice (hty : TyOk P ty) (hs : HSat β Z fp s w) (hf : FSat β s N a) {k : S → SV → Prop} {dst : Option Nat} {T : TypeId} {l c : Operand} {type : TypeId} {pos : String}
    {after : Array Edge} {guard : Option (Nat × Bool)} (h : lOp ty (.makeSlice T l c) s k) : LOk P β Z s w a ⟨dst, .makeSlice T l c, type, pos, after, guard⟩ k := by
  simp only [lOp, S.go_eq] at h
  split at h <;> try exact h.elim
  rename_i d l' c' hd hl hc
  split at h <;> try exact h.elim
  rename_i E ek bytes hsl
  obtain ⟨⟨h0, h1, h2, h3⟩, h⟩ := h
  obtain ⟨hu, hE, i, z, hi, hz, hisz, hib, hzc⟩ := (hty T d hd).sl _ _ _ hsl
  obtain ⟨hel, _⟩ := ev_den hf hl
  obtain ⟨hec, _⟩ := ev_den hf hc
  have hr := run_make (P := P) w T E i z hu hi hz .i64 .i64 l' c' h0 h1 (by rw [hib]; exact h2) h3
  rw [hisz] at hr
  have hm : (madeCells z.cells (c'.toNat * ek.sz)) = (flat ek (List.replicate l'.toNat ek.dflt) ++ flat ek (List.replicate (c'.toNat - l'.toNat) ek.dflt)).toArray := by
    apply Array.ext'
    rw [made_flat ek z.cells hzc]
    have : List.replicate c'.toNat ek.dflt = List.replicate l'.toNat ek.dflt ++ List.replicate (c'.toNat - l'.toNat) ek.dflt := by
      rw [List.replicate_append_replicate]; congr 1; omega
    rw [this]
    show flat ek _ = flat ek _ ++ flat ek _
    unfold flat
    rw [List.flatMap_append]
  refine l_arr hs (xs := List.replicate l'.toNat ek.dflt) (sp := c'.toNat - l'.toNat) (post := flat ek (List.replicate (c'.toNat - l'.toNat) ek.dflt)) (w' := w.alloc (.cells (madeCells z.cells (c'.toNat * ek.sz)) E))
    ?_ (fun b hb => heap_alloc_lt hb) (by simp) rfl rfl rfl ?_ (by rw [flat_length]; simp) h
  · simp only [execOp, hel, hec, SV.den, SA.den, SC.den, Sem.run_bind, hr, Result.andThen_ok, Sem.run_pure]
  · rw [heap_alloc_at, hm]

/-- A store. -/
theorem run_storeAt {T : Nat} {d : STy} (hty : TyOk1 P T d) {b off E : Nat} {cur : List Value} {vs : List Value} (hh : w.heap[b]? = some (.cells cur.toArray E (0, 0))) (hl : vs.length = d.zero.length) (hfit : off + vs.length ≤ cur.length)
    (h1 : ∀ v ∈ vs, v.oneCell' = true) {v : Value} (hv : v.cells = vs.toArray) :
    (Instr.storeAt T (.pointer (some ⟨b, off, none⟩)) v).run P w = .ok () (w.setRow b (cur.take off ++ vs ++ cur.drop (off + vs.length)).toArray) := by
  have := run_storeCells_at P b off E vs 0 cur.toArray w hh (by simpa using hfit) h1
  simp only [Nat.add_zero] at this
  simp only [Instr.storeAt, Instr.sureAddr, storeVar, pure_bind, Sem.run_bind, hty.size, Result.andThen_ok, hv]
  simp [hl, this]

end
end Go.Fw

/-
  The soundness of the operations that make or write memory (third part): stores, appends.
-/
namespace Go.Fw
open Go

theorem flat_cons (k : EK) (x : k.ty) (xs : List k.ty) : flat k (x :: xs) = k.cells x ++ flat k xs := by simp [flat]
theorem flat_append (k : EK) (xs ys : List k.ty) : flat k (xs ++ ys) = flat k xs ++ flat k ys := by simp [flat]

theorem flat_set (k : EK) (e : k.ty) : ∀ (xs : List k.ty) (i : Nat), i < xs.length → flat k (xs.set i e) = (flat k xs).take (i * k.sz) ++ k.cells e ++ (flat k xs).drop (i * k.sz + k.sz)
  | [], i, h => by simp at h
  | x :: xs, 0, _ => by
    have := EK.cells_length k x
    rw [List.set_cons_zero, flat_cons, flat_cons, Nat.zero_mul, Nat.zero_add, List.take_zero, List.nil_append, List.drop_append_of_le_length (by omega), List.drop_of_length_le (by omega), List.nil_append]
  | x :: xs, i + 1, h => by
    have hl := EK.cells_length k x
    have e1 : (i + 1) * k.sz = (k.cells x).length + i * k.sz := by rw [Nat.succ_mul]; omega
    have e2 : (k.cells x).length + i * k.sz + k.sz = (k.cells x).length + (i * k.sz + k.sz) := by omega
    rw [List.set_cons_succ, flat_cons, flat_cons, flat_set k e xs i (by simpa using h), e1, e2, List.take_length_add_append, List.drop_length_add_append]
    simp [List.append_assoc]

theorem flat_setF (k : EK) (e : k.ty) (off : Nat) (v : Value) (ho : off < k.sz) : ∀ (xs : List k.ty) (i : Nat), i < xs.length → k.cells e = (k.cells (xs.getD i k.dflt)).set off v →
    flat k (xs.set i e) = (flat k xs).set (i * k.sz + off) v
  | [], i, h, _ => by simp at h
  | x :: xs, 0, _, he => by
    have hl := EK.cells_length k x
    rw [List.set_cons_zero, flat_cons, flat_cons, Nat.zero_mul, Nat.zero_add, he, List.getD_cons_zero, List.set_append_left _ _ (by omega)]
  | x :: xs, i + 1, h, he => by
    have hl := EK.cells_length k x
    rw [List.getD_cons_succ] at he
    rw [List.set_cons_succ, flat_cons, flat_cons, flat_setF k e off v ho xs i (by simpa using h) he, Nat.succ_mul, List.set_append_right _ _ (by omega)]
    congr 2; omega

theorem set_take_drop {α : Type} (l : List α) (n : Nat) (v : α) (h : n < l.length) : l.set n v = l.take n ++ [v] ++ l.drop (n + 1) := by
  rw [List.set_eq_take_append_cons_drop, if_pos h]; simp

theorem take_app {α : Type} (p l q : List α) (n m : Nat) (h : n = p.length + m) (hm : m ≤ l.length) : (p ++ l ++ q).take n = p ++ l.take m := by
  subst h
  rw [List.append_assoc, List.take_length_add_append, List.take_append_of_le_length hm]
theorem drop_app {α : Type} (p l q : List α) (n m : Nat) (h : n = p.length + m) (hm : m ≤ l.length) : (p ++ l ++ q).drop n = l.drop m ++ q := by
  subst h
  rw [List.append_assoc, List.drop_length_add_append, List.drop_append_of_le_length hm]

section
variable {P : Program} {ty : List (Nat × STy)} {β : Env} {Z : Nat → Prop} {fp : Nat → Nat → Prop} {s : S} {w : World} {N : Nat} {a : Act}

theorem Ext.setRow {g : Nat} (cs : Array Value) (hz : ¬ Z g) : Ext Z w (w.setRow g cs) :=
  ⟨rfl, rfl, rfl, by simp, fun b hb => setRow_other w g b cs (fun e => hz (e ▸ hb))⟩

/-- An object has been written. -/
theorem l_put (hs : HSat β Z fp s w) {o : Oper} {k : S → SV → Prop} {id : Nat} {ob ob' : SO} {g : Nat} {cs : Array Value} (hl : look s.hp id = some ob) (hg : fp id g)
    (hrun : (execOp a.eval o).run P w = .ok .skip (w.setRow g cs)) (hok : ob'.ok β Z (fp id) (w.setRow g cs) (β id)) (hlt : ob'.lt s.nx)
    (h : k ⟨s.fr, upd s.hp id ob', s.nx⟩ .u) : LOk P β Z s w a o k :=
  ⟨_, _, .u, β, fp, ⟨s.fr, upd s.hp id ob', s.nx⟩, hrun, .inr ⟨rfl, rfl⟩, fun _ _ => rfl, Ext.setRow _ (hs.flt _ _ hl g hg).2, rfl, Nat.le_refl _,
    hs.put hl (fun b hb => setRow_other w g b cs (fun e => hb (e ▸ hg))) (by simp) hok hlt, (by intro c hc; cases hc), h⟩

theorem l_store (hty : TyOk P ty) (hs : HSat β Z fp s w) (hf : FSat β s N a) {k : S → SV → Prop} {dst : Option Nat} {T : TypeId} {x y : Operand} {type : TypeId} {pos : String}
    {after : Array Edge} {guard : Option (Nat × Bool)} (h : lOp ty (.store T x y) s k) : LOk P β Z s w a ⟨dst, .store T x y, type, pos, after, guard⟩ k := by
  simp only [lOp, S.go_eq] at h
  split at h <;> try exact h.elim
  · rename_i d id off v hd hx hy
    split at h <;> try exact h.elim
    rename_i T' cells cs hl hcs
    split at h <;> try exact h.elim
    rename_i hlen hfit
    rw [nbeq, lenN_eq, lenN_eq, decide_eq_true_eq] at hlen
    rw [nble, lenN_eq, lenN_eq, decide_eq_true_eq] at hfit
    rw [forceC_iff, updK_iff] at h
    obtain ⟨hex, _⟩ := ev_den hf hx
    obtain ⟨hey, hlt⟩ := ev_den hf hy
    obtain ⟨hc, hcl⟩ := cells_cs (β := β) hcs hlt
    obtain ⟨b, hb, hfp, hh⟩ := box_at hs hl
    have hr := run_storeAt (P := P) (w := w) (hty T d hd) (b := b) (off := off) (cur := cells.map (SC.den β)) (vs := cs.map (SC.den β)) hh (by simpa using hlen) (by simpa using hfit)
      (by intro v hv; obtain ⟨c, hc', rfl⟩ := List.mem_map.1 hv; exact SC.den_one (hcl c hc')) hc
    have hex' : a.eval x = .pointer (some ⟨b, off, none⟩) := by rw [hex]; simp [SV.den, SA.den, SC.den, hb, Addr.add_lit]
    refine l_put hs hl hfp (cs := _) (by
      simp only [execOp, hex', hey, Sem.run_bind, hr, Result.andThen_ok, Sem.run_pure]
      rfl) ?_ ?_ h
    · refine ⟨b, hb, hfp, ?_⟩
      rw [setRow_heap w b _ _ T' _ hh, wr_eq]
      simp
    · intro c hc'
      rw [wr_eq] at hc'
      have hol : ∀ c ∈ cells, SC.lt s.nx c := (hs.lto id _ hl).2
      simp only [List.mem_append] at hc'
      rcases hc' with (hc' | hc') | hc'
      · exact hol c (List.mem_of_mem_take hc')
      · exact hcl c hc'
      · exact hol c (List.mem_of_mem_drop hc')
  · rename_i d id sz i off v hd hx hy
    split at h <;> try exact h.elim
    rename_i E ek xs sp cs hl hcs
    split at h <;> try exact h.elim
    rename_i hlen hsz
    rw [nbeq, lenN_eq, lenN_eq, decide_eq_true_eq] at hlen
    rw [nbeq, decide_eq_true_eq] at hsz
    subst hsz
    obtain ⟨hi, h⟩ := h
    obtain ⟨hex, _⟩ := ev_den hf hx
    obtain ⟨hey, hlt⟩ := ev_den hf hy
    obtain ⟨hc, hcl⟩ := cells_cs (β := β) hcs hlt
    have hok := hs.obj _ _ hl
    cases hb : β id with
    | none =>
      rw [hb] at hok
      have : xs = [] := hok.1
      subst this
      simp at hi
    | some x' =>
      rw [hb] at hok
      obtain ⟨hsp, hfp, pre, post, hh, hpre, hpost⟩ := hok
      have hil : i * ek.sz + ek.sz ≤ (flat ek xs).length := by
        rw [flat_length, ← Nat.succ_mul]; exact Nat.mul_le_mul_right _ hi
      have hrun : ∀ (vs : List Value), cs.map (SC.den β) = vs → i * ek.sz + off + vs.length ≤ (flat ek xs).length →
          (execOp a.eval ⟨dst, .store T x y, type, pos, after, guard⟩).run P w =
            .ok .skip (w.setRow x'.block (pre ++ ((flat ek xs).take (i * ek.sz + off) ++ vs ++ (flat ek xs).drop (i * ek.sz + off + vs.length)) ++ post).toArray) := by
        intro vs hvs hfit
        have hr := run_storeAt (P := P) (w := w) (hty T d hd) (b := x'.block) (off := x'.off + (i * ek.sz + off)) (cur := pre ++ flat ek xs ++ post) (vs := vs) hh (by rw [← hvs]; simpa using hlen)
          (by simp only [List.length_append]; omega)
          (by intro v hv; rw [← hvs] at hv; obtain ⟨c, hc', rfl⟩ := List.mem_map.1 hv; exact SC.den_one (hcl c hc')) (by rw [← hvs]; exact hc)
        have hex' : a.eval x = .pointer (some ⟨x'.block, x'.off + (i * ek.sz + off), none⟩) := by rw [hex]; simp [SV.den, SA.den, SC.den, hb, add_eq hsp]
        simp only [execOp, hex', hey, Sem.run_bind, hr, Result.andThen_ok, Sem.run_pure]
        rw [take_app pre (flat ek xs) post _ (i * ek.sz + off) (by omega) (by omega), drop_app pre (flat ek xs) post _ (i * ek.sz + off + vs.length) (by omega) (by omega)]
        simp [List.append_assoc]
      have fin : ∀ (vs : List Value) (e : ek.ty), cs.map (SC.den β) = vs → i * ek.sz + off + vs.length ≤ (flat ek xs).length →
          flat ek (xs.set i e) = (flat ek xs).take (i * ek.sz + off) ++ vs ++ (flat ek xs).drop (i * ek.sz + off + vs.length) →
          k ⟨s.fr, upd s.hp id (.arr true E ek (xs.set i e) sp), s.nx⟩ .u → LOk P β Z s w a ⟨dst, .store T x y, type, pos, after, guard⟩ k := by
        intro vs e hvs hfit hfl hk
        refine l_put (ob' := .arr true E ek (xs.set i e) sp) hs hl hfp (hrun vs hvs hfit) ?_ trivial hk
        rw [hb]
        refine ⟨hsp, hfp, pre, post, ?_, hpre, hpost⟩
        rw [setRow_heap w _ _ _ E _ hh, hfl]
      split at h
      · rename_i hagg
        split at h <;> try exact h.elim
        rename_i e h0 he
        rw [nbeq, decide_eq_true_eq] at h0
        subst h0
        rw [updK_iff] at h
        have hcl' := ofSym_spec (β := β) he
        have hcsz := EK.cells_length ek e
        refine fin (ek.cells e) e hcl' (by omega) ?_ h
        rw [flat_set ek e xs i hi, hcsz]; rfl
      · rename_i hagg
        split at h <;> try exact h.elim
        rename_i c
        split at h <;> try exact h.elim
        rename_i e he
        rw [updK_iff] at h
        obtain ⟨he1, he2⟩ := setF_spec (β := β) he
        refine fin [c.den β] e rfl (by simp only [List.length_singleton]; omega) ?_ h
        rw [flat_setF ek e off _ he2 xs i hi he1, set_take_drop _ _ _ (by omega)]
        rfl

end
end Go.Fw

/-
  The soundness of the operations that make or write memory (fourth part): appends; all together.
-/
namespace Go.Fw
open Go

theorem sub_flat (k : EK) (xs : List k.ty) (lo n : Nat) (h : lo + n ≤ xs.length) : flat k xs = (flat k xs).take (lo * k.sz) ++ flat k (sub xs lo n) ++ (flat k xs).drop ((lo + n) * k.sz) := by
  have e : xs = xs.take lo ++ sub xs lo n ++ xs.drop (lo + n) := by
    unfold sub
    rw [List.append_assoc, ← List.drop_drop, List.take_append_drop, List.take_append_drop]
  have l1 : (flat k (xs.take lo)).length = lo * k.sz := by rw [flat_length, List.length_take, Nat.min_eq_left (by omega)]
  have l2 : (flat k (sub xs lo n)).length = n * k.sz := by rw [flat_length]; unfold sub; rw [List.length_take, List.length_drop, Nat.min_eq_left (by omega)]
  have e2 : flat k xs = flat k (xs.take lo) ++ flat k (sub xs lo n) ++ flat k (xs.drop (lo + n)) := by
    conv => lhs; rw [e]
    rw [flat_append, flat_append]
  have t1 : (flat k xs).take (lo * k.sz) = flat k (xs.take lo) := by
    rw [e2, List.append_assoc, ← l1, List.take_left]
  have t2 : (flat k xs).drop ((lo + n) * k.sz) = flat k (xs.drop (lo + n)) := by
    have l3 : (flat k (xs.take lo) ++ flat k (sub xs lo n)).length = (lo + n) * k.sz := by rw [List.length_append, l1, l2, Nat.add_mul]
    rw [← l3]
    conv => lhs; rw [e2]
    rw [List.drop_left]
  rw [t1, t2]
  exact e2

theorem sub_length {α : Type} (xs : List α) (lo n : Nat) (h : lo + n ≤ xs.length) : (sub xs lo n).length = n := by
  unfold sub; rw [List.length_take, List.length_drop, Nat.min_eq_left (by omega)]

section
variable {P : Program} {ty : List (Nat × STy)} {β : Env} {Z : Nat → Prop} {fp : Nat → Nat → Prop} {s : S} {w : World} {N : Nat} {a : Act}

/-- What a slice holds, that is read. -/
structure Src (β : Env) (w : World) (ek : EK) (v : Value) (n : Nat) (ys : List ek.ty) : Prop where
  len : ys.length = n
  at' : ∃ x cap, v = .slice x n cap ∧ (n = 0 ∨ ∃ y, x = some y ∧ ∀ j u, (flat ek ys)[j]? = some u → w.cell? (y.add j) = some u)

theorem flat_sub_cell {w : World} {x : Addr} (hsp : x.spot = none) {k : EK} {xs : List k.ty} {lo n : Nat} (h : lo + n ≤ xs.length)
    (hc : ∀ j v, (flat k xs)[j]? = some v → w.cell? ⟨x.block, x.off + j, none⟩ = some v) (j : Nat) (v : Value) (hj : (flat k (sub xs lo n))[j]? = some v) :
    w.cell? ((x.add (lo * k.sz)).add j) = some v := by
  have hlen : (flat k (sub xs lo n)).length = n * k.sz := by rw [flat_length, sub_length _ _ _ h]
  have hjl : j < n * k.sz := by rw [← hlen]; exact (List.getElem?_eq_some_iff.1 hj).1
  have l1 : ((flat k xs).take (lo * k.sz)).length = lo * k.sz := by
    rw [List.length_take, flat_length, Nat.min_eq_left (Nat.mul_le_mul_right _ (by omega))]
  have : (flat k xs)[lo * k.sz + j]? = some v := by
    rw [sub_flat k xs lo n h, List.append_assoc, List.getElem?_append_right (by omega), l1, Nat.add_sub_cancel_left, List.getElem?_append_left (by omega), hj]
  have := hc _ _ this
  rw [add_eq hsp, Addr.add_lit, Nat.add_assoc]
  exact this

theorem srcK_sound (hs : HSat β Z fp s w) {ek : EK} {u : SV} {k : Nat → List ek.ty → Prop} (h : srcK s.hp ek u k) : ∃ n ys, k n ys ∧ Src β w ek (u.den β) n ys := by
  unfold srcK at h
  split at h <;> try exact h.elim
  · exact ⟨0, [], h, rfl, none, 0, rfl, .inl rfl⟩
  · rename_i id sz lo len cap
    split at h <;> try exact h.elim
    rename_i own E k0 xs0 sp hl
    split at h <;> try exact h.elim
    rename_i xs hcast hsz
    rw [nbeq, decide_eq_true_eq] at hsz
    obtain ⟨e, he⟩ := EK.cast_spec hcast
    subst e
    change xs = xs0 at he
    subst he
    obtain ⟨hle, h⟩ := h
    refine ⟨len, _, h, sub_length _ _ _ hle, _, cap, rfl, ?_⟩
    by_cases hn : len = 0
    · exact .inl hn
    · right
      have hne : xs ≠ [] := by intro e; simp [e] at hle; omega
      obtain ⟨x, hx, hsp, hc⟩ := SO.ok_cell (hs.obj _ _ hl) hne
      exact ⟨_, by rw [hx, hsz]; rfl, fun j v hj => flat_sub_cell hsp hle hc j v hj⟩
  · rename_i y
    split at h <;> try exact h.elim
    rename_i id hp
    split at h <;> try exact h.elim
    rename_i E k0 m hl
    split at h <;> try exact h.elim
    rename_i ys hcast
    obtain ⟨e, he⟩ := EK.cast_spec hcast
    subst e
    change ys = rowA m y.a at he
    obtain ⟨hd, h⟩ := h
    refine ⟨y.n, ys, h, ?_, y.a, y.c, rfl, ?_⟩
    · rw [he]
      unfold Hd at hd
      unfold rowA
      cases ha : y.a with
      | none => rw [ha] at hd; simp [hd.1]
      | some a =>
        rw [ha] at hd
        simp only at hd ⊢
        cases hl2 : lkA m a with
        | none => rw [hl2] at hd; exact hd.elim
        | some q => rw [hl2] at hd; exact hd.1.symm
    · unfold Hd at hd
      cases ha : y.a with
      | none => rw [ha] at hd; exact .inl hd.1
      | some a =>
        right
        rw [ha] at hd
        simp only at hd
        cases hl2 : lkA m a with
        | none => rw [hl2] at hd; exact hd.elim
        | some q =>
          obtain ⟨h1, _, pre, post, h3, h4, _⟩ := (hs.obj _ _ hl).row a q.1 q.2 hl2
          refine ⟨a, rfl, fun j u hj => ?_⟩
          have hr : rowA m (some a) = q.1 := by unfold rowA; simp [hl2]
          rw [he, ha, hr] at hj
          rw [add_eq h1]
          exact flat_cell h3 h4 j u hj

theorem Src.first {ek : EK} {v : Value} {n : Nat} {ys : List ek.ty} (hs : Src β w ek v n ys) {w' : World} (hw : ∀ x, w'.cell? x = w.cell? x) : (Builtin.firstCells ek.sz n v).run P w' = .ok (flat ek ys).toArray w' := by
  obtain ⟨hlen, x, cap, rfl, h⟩ := hs
  rcases h with rfl | ⟨y, rfl, hc⟩
  · have : ys = [] := List.eq_nil_of_length_eq_zero hlen
    subst this
    cases x with
    | none => simp [Builtin.firstCells, flat]
    | some x => simp [Builtin.firstCells, loadCells, loadCellsFrom, flat]
  · exact run_firstCells_some w' ek.sz n y n cap (flat ek ys) (by rw [flat_length, hlen]) (fun j u hj => by rw [hw]; exact hc j u hj)

theorem Src.lenOf {ek : EK} {v : Value} {n : Nat} {ys : List ek.ty} (hs : Src β w ek v n ys) {w' : World} : (Builtin.lenOf v).run P w' = .ok n w' := by
  obtain ⟨_, x, cap, rfl, _⟩ := hs
  rfl


theorem run_append_in {T E : Nat} {i : TypeInfo} (hu : P.underlying T = some (.slice E)) (hi : P.info? E = some i) {uv : Value} {n : Nat} (hlen : ∀ w, (Builtin.lenOf uv).run P w = .ok n w)
    {news : List Value} (hfirst : (Builtin.firstCells i.size n uv).run P w = .ok news.toArray w) {g o len cap E0 : Nat} {cur : List Value} (hroom : len + n ≤ cap)
    (hh : w.heap[g]? = some (.cells cur.toArray E0 (0, 0))) (hfit : o + len * i.size + news.length ≤ cur.length) (h1 : ∀ v ∈ news, v.oneCell' = true) (type : TypeId) :
    (Builtin.append_ #[T, T] type #[.slice (some ⟨g, o, none⟩) len cap, uv]).run P w =
      .ok (.slice (some ⟨g, o, none⟩) (len + n) cap) (w.setRow g (cur.take (o + len * i.size) ++ news ++ cur.drop (o + len * i.size + news.length)).toArray) := by
  have hst := run_storeCells_at P g (o + len * i.size) E0 news 0 cur.toArray w hh (by simpa using hfit) h1
  simp only [Nat.add_zero] at hst
  simp [Builtin.append_, run_underlying hu, sizeOf, typeInfo, hi, hlen, hroom, hfirst, Addr.add_lit, hst]

theorem run_append_nil' {T E : Nat} {i : TypeInfo} (hu : P.underlying T = some (.slice E)) (hi : P.info? E = some i) {uv : Value} (hlen : ∀ w, (Builtin.lenOf uv).run P w = .ok 0 w)
    {news : List Value} (hfirst : (Builtin.firstCells i.size 0 uv).run P w = .ok news.toArray w) (type : TypeId) :
    (Builtin.append_ #[T, T] type #[.slice none 0 0, uv]).run P w = .ok (.slice none 0 0) w := by
  simp [Builtin.append_, run_underlying hu, sizeOf, typeInfo, hi, hlen, hfirst]

theorem run_append_out {T E : Nat} {i : TypeInfo} {z : Value} (hu : P.underlying T = some (.slice E)) (hi : P.info? E = some i) (hz : i.zero = some z) {uv : Value} {n : Nat} (hlen : ∀ w, (Builtin.lenOf uv).run P w = .ok n w)
    {news olds : List Value} (hfirst : (Builtin.firstCells i.size n uv).run P w.drew = .ok news.toArray w.drew) {base : Option Addr} {len cap : Nat}
    (hold : (Builtin.firstCells i.size len (.slice base len cap)).run P w.drew = .ok olds.toArray w.drew) (hroom : cap < len + n)
    (h63 : len + n ≤ 9223372036854775807) (hfit : Builtin.nextslicecap (len + n) cap * i.bytes ≤ 281474976710656) (type : TypeId) :
    (Builtin.append_ #[T, T] type #[.slice base len cap, uv]).run P w =
      .ok (.slice (some ⟨w.heap.size, 0, none⟩) (len + n) (grownCap w (len + n) cap E))
        (w.drew.alloc (.cells (olds ++ news ++ (Builtin.zeroCells z.cells (grownCap w (len + n) cap E - (len + n))).toList).toArray E)) := by
  have hn : ¬ (len + n ≤ cap) := by omega
  have h63' : ¬ (9223372036854775807 < ((len : Int) + (n : Int))) := by omega
  have h48' : ¬ (281474976710656 < Builtin.nextslicecap (len + n) cap * i.bytes) := by omega
  simp [Builtin.append_, run_underlying hu, sizeOf, typeInfo, zeroValue, hi, hz, hlen, hn, h63', h48', Question.forced, hfirst, hold, newRow, grownCap]
  congr 2
  apply Array.ext'
  simp

theorem zeroCells_flat (ek : EK) {z : Value} (hz : z.cells.toList = ek.cells ek.dflt) (n : Nat) : (Builtin.zeroCells z.cells n).toList.length = n * ek.sz := by
  have hzs : z.cells.size = ek.sz := by rw [← Array.length_toList, hz, EK.cells_length]
  rw [Array.length_toList, size_zeroCells, hzs]

theorem cells_one (ek : EK) (x : ek.ty) : ∀ v ∈ ek.cells x, v.oneCell' = true := by
  intro v hv
  obtain ⟨c, hc, rfl⟩ := List.mem_map.1 hv
  exact SC.den_one (EK.sym_lt ek x 0 c hc)
theorem flat_one (ek : EK) (xs : List ek.ty) : ∀ v ∈ flat ek xs, v.oneCell' = true := by
  intro v hv
  obtain ⟨x, _, hx⟩ := List.mem_flatMap.1 hv
  exact cells_one ek x v hx

theorem l_append (hty : TyOk P ty) (hs : HSat β Z fp s w) (hf : FSat β s N a) {k : S → SV → Prop} {dst : Option Nat} {args : Array Operand} {argTypes : Array TypeId} {type : TypeId} {pos : String}
    {after : Array Edge} {guard : Option (Nat × Bool)} (h : lOp ty (.call ⟨.builtin .append, args, argTypes⟩) s k) : LOk P β Z s w a ⟨dst, .call ⟨.builtin .append, args, argTypes⟩, type, pos, after, guard⟩ k := by
  simp only [lOp, S.go_eq] at h
  split at h <;> try exact h.elim
  rename_i x y T T' h1 h2
  have ha : args = #[x, y] := by apply Array.ext'; simp [h1]
  have hat : argTypes = #[T, T'] := by apply Array.ext'; simp [h2]
  subst ha hat
  split at h <;> try exact h.elim
  rename_i d v u hT hd hx hy
  rw [nbeq, decide_eq_true_eq] at hT
  subst hT
  split at h <;> try exact h.elim
  rename_i E ek bytes hsl
  obtain ⟨hu, hE, i, z, hi, hz, hisz, hib, hzc⟩ := (hty T d hd).sl _ _ _ hsl
  obtain ⟨hex, hltx⟩ := ev_den hf hx
  obtain ⟨hey, hlty⟩ := ev_den hf hy
  have hrun : ∀ r w', (Builtin.append_ #[T, T] type #[v.den β, u.den β]).run P w = .ok r w' →
      (execOp a.eval ⟨dst, .call ⟨.builtin .append, #[x, y], #[T, T]⟩, type, pos, after, guard⟩).run P w = .ok (.value r) w' := by
    intro r w' hr
    simp [execOp, resolve, invoke, builtin, hex, hey, hr]
  have finish : ∀ (len n cap : Nat) (xs ys : List ek.ty) (base : Option Addr) (k' : Prop) (s1 : S), s1.fr = s.fr → s1.nx = s.nx → HSat β Z fp s1 w → True := fun _ _ _ _ _ _ _ _ _ _ _ => trivial
  unfold baseK at h
  split at h <;> try exact h.elim
  · -- a literal nil
    obtain ⟨n, ys, h, hsrc⟩ := srcK_sound hs h
    obtain ⟨⟨hb, h63⟩, h⟩ := h
    simp only [Nat.zero_add] at hb h63 h
    by_cases hn : n = 0
    · subst hn
      have hys : ys = [] := List.eq_nil_of_length_eq_zero hsrc.len
      subst hys
      have hr := hrun _ _ (run_append_nil' hu hi (fun w => hsrc.lenOf) (by rw [hisz]; exact hsrc.first (fun _ => rfl)) type)
      refine ⟨_, _, .c (.sl s.nx ek.sz 0 0 0), β.add s.nx none, fun i => if i = s.nx then (fun _ => False) else fp i, ⟨s.fr, (s.nx, .arr true E ek (lOp.appL [] []) 0) :: s.hp, s.nx + 1⟩, hr, .inl ?_, Env.add_lt, Ext.refl _ _, rfl, Nat.le_succ _,
        hs.add (o := .arr true E ek (lOp.appL [] []) 0) (fun _ _ => rfl) (Nat.le_refl _) (fun _ h => h.elim) ⟨rfl, rfl⟩ trivial, ?_, h 0⟩
      · simp [SV.den, SA.den, SC.den, Env.add_at]
      · show s.nx < s.nx + 1; omega
    · have hr := hrun _ _ (run_append_out (w := w) (base := none) (len := 0) (cap := 0) (olds := []) hu hi hz (fun w => hsrc.lenOf) (by rw [hisz]; exact hsrc.first (fun _ => rfl)) (by simp [Builtin.firstCells]) (by omega) (by omega)
        (by rw [hib]; exact growslice_fits (by omega) (by simpa using hb)) type)
      simp only [Nat.zero_add] at hr
      have hg := grownCap_ge w n 0 E
      refine l_arr hs (E := E) (xs := ys) (sp := grownCap w n 0 E - n) (post := (Builtin.zeroCells z.cells (grownCap w n 0 E - n)).toList) hr (fun b hb => by
        show (w.drew.alloc _).heap[b]? = _; exact heap_alloc_lt (w := w.drew) hb) (by simp) rfl rfl rfl ?_ (zeroCells_flat ek hzc _) ?_
      · have := heap_alloc_at (w := w.drew) (.cells (([] : List Value) ++ flat ek ys ++ (Builtin.zeroCells z.cells (grownCap w n 0 E - n)).toList).toArray E)
        exact this
      · have := h (grownCap w n 0 E - n)
        rw [show n + (grownCap w n 0 E - n) = grownCap w n 0 E by omega] at this
        exact this
  · -- an array
    rename_i id sz lo len cap
    split at h <;> try exact h.elim
    rename_i E0 k0 xs0 sp0 hl
    split at h <;> try exact h.elim
    rename_i xs hcast hsz hE0
    rw [nbeq, decide_eq_true_eq] at hsz hE0
    obtain ⟨e, he⟩ := EK.cast_spec hcast
    subst e
    change xs = xs0 at he
    subst he
    subst hE0
    obtain ⟨⟨hle, hcap, hlc⟩, h⟩ := h
    obtain ⟨n, ys, h, hsrc⟩ := srcK_sound hs h
    simp only [delO] at h
    rw [delC_iff] at h
    obtain ⟨⟨hb, h63⟩, h⟩ := h
    have hs1 := hs.del id
    have hok := hs.obj _ _ hl
    have hsl' := sub_length xs lo len hle
    cases hbe : β id with
    | none =>
      rw [hbe] at hok
      obtain ⟨hx0, hsp0⟩ := hok
      subst hx0 hsp0
      simp only [List.length_nil] at hle hcap
      have : lo = 0 ∧ len = 0 ∧ cap = 0 := by omega
      obtain ⟨rfl, rfl, rfl⟩ := this
      have hv : (SV.a (SA.c (SC.sl id sz 0 0 0))).den β = .slice none 0 0 := by simp [SV.den, SA.den, SC.den, hbe]
      rw [hv] at hrun
      have hsub : sub ([] : List k0.ty) 0 0 = [] := rfl
      rw [hsub] at h
      simp only [Nat.zero_add] at hb h63 h
      by_cases hn : n = 0
      · subst hn
        have hys : ys = [] := List.eq_nil_of_length_eq_zero hsrc.len
        subst hys
        have hr := hrun _ _ (run_append_nil' hu hi (fun w => hsrc.lenOf) (by rw [hisz]; exact hsrc.first (fun _ => rfl)) type)
        refine ⟨_, _, .c (.sl s.nx k0.sz 0 0 0), β.add s.nx none, fun i => if i = s.nx then (fun _ => False) else fp i, ⟨s.fr, (s.nx, .arr true E0 k0 (lOp.appL [] []) 0) :: delK s.hp id, s.nx + 1⟩, hr, .inl ?_, Env.add_lt, Ext.refl _ _, rfl, Nat.le_succ _,
          hs1.add (o := .arr true E0 k0 (lOp.appL [] []) 0) (fun _ _ => rfl) (Nat.le_refl _) (fun _ h => h.elim) ⟨rfl, rfl⟩ trivial, ?_, h 0⟩
        · simp [SV.den, SA.den, SC.den, Env.add_at]
        · show s.nx < s.nx + 1; omega
      · have hr := hrun _ _ (run_append_out (w := w) (base := none) (len := 0) (cap := 0) (olds := []) hu hi hz (fun w => hsrc.lenOf) (by rw [hisz]; exact hsrc.first (fun _ => rfl)) (by simp [Builtin.firstCells]) (by omega) (by omega)
          (by rw [hib]; exact growslice_fits (by omega) (by simpa using hb)) type)
        simp only [Nat.zero_add] at hr
        have hg := grownCap_ge w n 0 E0
        obtain ⟨r, w', v', β', fp', s', R⟩ := l_arr (P := P) (k := k) (a := a) hs1 (E := E0) (xs := ys) (sp := grownCap w n 0 E0 - n) (post := (Builtin.zeroCells z.cells (grownCap w n 0 E0 - n)).toList) hr (fun b hb => by
          show (w.drew.alloc _).heap[b]? = _; exact heap_alloc_lt (w := w.drew) hb) (by simp) rfl rfl rfl (by
            have := heap_alloc_at (w := w.drew) (.cells (([] : List Value) ++ flat k0 ys ++ (Builtin.zeroCells z.cells (grownCap w n 0 E0 - n)).toList).toArray E0)
            exact this) (zeroCells_flat k0 hzc _) (by
            have := h (grownCap w n 0 E0 - n)
            rw [show n + (grownCap w n 0 E0 - n) = grownCap w n 0 E0 by omega] at this
            exact this)
        exact ⟨r, w', v', β', fp', s', R.run, R.val, R.env, R.ext, R.fr, R.nx, R.sat, R.lt, R.go⟩
    | some x' =>
      rw [hbe] at hok
      obtain ⟨hsp, hfp, pre, post, hh, hpre, hpost⟩ := hok
      have hv : (SV.a (SA.c (SC.sl id sz lo len cap))).den β = .slice (some ⟨x'.block, x'.off + lo * sz, none⟩) len cap := by
        simp [SV.den, SA.den, SC.den, hbe, add_eq hsp]
      rw [hv] at hrun
      have hfl := flat_length k0 xs
      have hysl : (flat k0 ys).length = n * k0.sz := by rw [flat_length, hsrc.len]
      by_cases hroom : len + n ≤ cap
      · have hmul : (lo + len) * k0.sz + n * k0.sz ≤ (flat k0 xs).length + post.length := by
          refine Nat.le_trans ?_ (Nat.add_le_add_left hpost _)
          rw [hfl, ← Nat.add_mul, ← Nat.add_mul]
          exact Nat.mul_le_mul_right _ (by omega)
        have hr := hrun _ _ (run_append_in (w := w) (g := x'.block) (o := x'.off + lo * sz) (len := len) (cap := cap) (E0 := E0) (cur := pre ++ flat k0 xs ++ post) hu hi (fun w => hsrc.lenOf) (by rw [hisz]; exact hsrc.first (fun _ => rfl)) hroom hh
          (by rw [hisz, hysl, List.length_append, List.length_append, hpre, hsz, Nat.add_assoc x'.off, ← Nat.add_mul]; omega) (flat_one k0 ys) type)
        have e1 : x'.off + lo * sz + len * i.size = pre.length + (lo + len) * k0.sz := by rw [hisz, hsz, Nat.add_mul, hpre]; omega
        have hll : (lo + len) * k0.sz ≤ (flat k0 xs).length := by rw [hfl]; exact Nat.mul_le_mul_right _ hle
        rw [e1, take_app pre (flat k0 xs) post _ _ rfl hll] at hr
        -- the new contents
        have hnew : ∃ pre' post' : List Value, pre ++ (flat k0 xs).take ((lo + len) * k0.sz) ++ flat k0 ys ++ (pre ++ flat k0 xs ++ post).drop (pre.length + (lo + len) * k0.sz + (flat k0 ys).length) =
            pre' ++ flat k0 (lOp.appL (sub xs lo len) ys) ++ post' ∧ pre'.length = x'.off + lo * k0.sz ∧ (cap - (len + n)) * k0.sz ≤ post'.length := by
          refine ⟨pre ++ (flat k0 xs).take (lo * k0.sz), (pre ++ flat k0 xs ++ post).drop (pre.length + (lo + len) * k0.sz + (flat k0 ys).length), ?_, ?_, ?_⟩
          · unfold lOp.appL
            rw [flat_append]
            have := sub_flat k0 xs lo len hle
            have t1 : (flat k0 xs).take ((lo + len) * k0.sz) = (flat k0 xs).take (lo * k0.sz) ++ flat k0 (sub xs lo len) := by
              have l1 : ((flat k0 xs).take (lo * k0.sz) ++ flat k0 (sub xs lo len)).length = (lo + len) * k0.sz := by
                rw [List.length_append, List.length_take, flat_length k0 (sub xs lo len), hsl', Nat.min_eq_left (by rw [hfl]; exact Nat.mul_le_mul_right _ (by omega)), Nat.add_mul]
              conv => lhs; rw [this]
              rw [← l1, List.take_left]
            rw [t1]
            simp only [List.append_assoc]
          · have : lo * k0.sz ≤ (flat k0 xs).length := by rw [hfl]; exact Nat.mul_le_mul_right _ (by omega)
            rw [List.length_append, List.length_take, Nat.min_eq_left this, hpre]
          · rw [List.length_drop, List.length_append, List.length_append, hfl, hysl]
            have h3 : (cap - (len + n)) * k0.sz + ((lo + len) * k0.sz + n * k0.sz) = (lo + cap) * k0.sz := by
              rw [← Nat.add_mul, ← Nat.add_mul]; congr 1; omega
            have h4 : (lo + cap) * k0.sz ≤ (xs.length + sp0) * k0.sz := Nat.mul_le_mul_right _ hcap
            rw [Nat.add_mul xs.length] at h4
            omega
        obtain ⟨pre', post', hnew, hpre', hpost'⟩ := hnew
        rw [hnew] at hr
        refine ⟨_, _, .c (.sl s.nx k0.sz 0 (len + n) cap), β.add s.nx (some ⟨x'.block, x'.off + lo * sz, none⟩), _, ⟨s.fr, (s.nx, .arr true E0 k0 (lOp.appL (sub xs lo len) ys) (cap - (len + n))) :: delK s.hp id, s.nx + 1⟩, hr, .inl ?_, Env.add_lt,
          Ext.setRow _ (hs.flt _ _ hl _ hfp).2, rfl, Nat.le_succ _, hs.move (o' := .arr true E0 k0 (lOp.appL (sub xs lo len) ys) (cap - (len + n))) hl (fun b hb => setRow_other w _ b _ (fun e => hb (e ▸ hfp))) (by simp) ?_ trivial, ?_, ?_⟩
        · simp [SV.den, SA.den, SC.den, Env.add_at, Addr.add_lit]
        · refine ⟨rfl, hfp, pre', post', ?_, ?_, ?_⟩
          · rw [setRow_heap w _ _ _ E0 _ hh]
          · rw [hpre', hsz]
          · exact hpost'
        · show s.nx < s.nx + 1; omega
        · have := h (cap - (len + n))
          rw [show len + n + (cap - (len + n)) = cap by omega] at this
          exact this
      · have hcells : ∀ j v, (flat k0 (sub xs lo len))[j]? = some v → w.cell? ((x'.add (lo * k0.sz)).add j) = some v :=
          fun j v hj => flat_sub_cell hsp hle (fun j v hj => flat_cell hh hpre j v hj) j v hj
        have hr := hrun _ _ (run_append_out (w := w) (base := some ⟨x'.block, x'.off + lo * sz, none⟩) (len := len) (cap := cap) (olds := flat k0 (sub xs lo len)) hu hi hz (fun w => hsrc.lenOf) (by rw [hisz]; exact hsrc.first (fun _ => rfl))
          (by rw [hisz, hsz, ← add_eq hsp]; exact run_firstCells_some w.drew k0.sz len _ len cap _ (by rw [flat_length, hsl']) hcells) (by omega) (by omega)
          (by rw [hib]; exact growslice_fits (by omega) hb) type)
        have hg := grownCap_ge w (len + n) cap E0
        obtain ⟨r, w', v', β', fp', s', R⟩ := l_arr (P := P) (k := k) (a := a) hs1 (E := E0) (xs := lOp.appL (sub xs lo len) ys) (sp := grownCap w (len + n) cap E0 - (len + n)) (post := (Builtin.zeroCells z.cells (grownCap w (len + n) cap E0 - (len + n))).toList) hr (fun b hb => by
          show (w.drew.alloc _).heap[b]? = _; exact heap_alloc_lt (w := w.drew) hb) (by simp) rfl rfl rfl (by
            have := heap_alloc_at (w := w.drew) (.cells (flat k0 (sub xs lo len) ++ flat k0 ys ++ (Builtin.zeroCells z.cells (grownCap w (len + n) cap E0 - (len + n))).toList).toArray E0)
            unfold lOp.appL
            rw [flat_append]
            exact this) (zeroCells_flat k0 hzc _) (by
            have := h (grownCap w (len + n) cap E0 - (len + n))
            rw [show len + n + (grownCap w (len + n) cap E0 - (len + n)) = grownCap w (len + n) cap E0 by omega] at this
            exact this)
        exact ⟨r, w', v', β', fp', s', R.run, R.val, R.env, R.ext, R.fr, R.nx, R.sat, R.lt, R.go⟩


/-- An object has been written; a value comes back. -/
theorem l_put2 (hs : HSat β Z fp s w) {o : Oper} {k : S → SV → Prop} {id : Nat} {ob ob' : SO} {g : Nat} {cs : Array Value} {v : SV} (hl : look s.hp id = some ob) (hg : fp id g)
    (hrun : (execOp a.eval o).run P w = .ok (.value (v.den β)) (w.setRow g cs)) (hok : ob'.ok β Z (fp id) (w.setRow g cs) (β id)) (hlt : ob'.lt s.nx) (hv : v.lt s.nx)
    (h : k ⟨s.fr, upd s.hp id ob', s.nx⟩ v) : LOk P β Z s w a o k :=
  ⟨_, _, v, β, fp, ⟨s.fr, upd s.hp id ob', s.nx⟩, hrun, .inl rfl, fun _ _ => rfl, Ext.setRow _ (hs.flt _ _ hl g hg).2, rfl, Nat.le_refl _,
    hs.put hl (fun b hb => setRow_other w g b cs (fun e => hb (e ▸ hg))) (by simp) hok hlt, hv, h⟩

theorem l_copy (hty : TyOk P ty) (hs : HSat β Z fp s w) (hf : FSat β s N a) {k : S → SV → Prop} {dst : Option Nat} {args : Array Operand} {argTypes : Array TypeId} {type : TypeId} {pos : String}
    {after : Array Edge} {guard : Option (Nat × Bool)} (h : lOp ty (.call ⟨.builtin .copy, args, argTypes⟩) s k) : LOk P β Z s w a ⟨dst, .call ⟨.builtin .copy, args, argTypes⟩, type, pos, after, guard⟩ k := by
  simp only [lOp, S.go_eq] at h
  split at h <;> try exact h.elim
  rename_i x y T T' h1 h2
  have ha : args = #[x, y] := by apply Array.ext'; simp [h1]
  have hat : argTypes = #[T, T'] := by apply Array.ext'; simp [h2]
  subst ha hat
  split at h <;> try exact h.elim
  rename_i d id sz lo len cap u hd hx hy
  split at h <;> try exact h.elim
  rename_i E ek bytes E0 k0 xs0 sp hsl hl
  split at h <;> try exact h.elim
  rename_i xs hcast hsz hE0
  rw [nbeq, decide_eq_true_eq] at hsz hE0
  obtain ⟨e, he⟩ := EK.cast_spec hcast
  subst e
  change xs = xs0 at he
  subst he
  subst hE0 hsz
  obtain ⟨hle, h⟩ := h
  obtain ⟨n, ys, h, hsrc⟩ := srcK_sound hs h
  rw [updK_iff] at h
  obtain ⟨hu, hE, i, z, hi, hz, hisz, hib, hzc⟩ := (hty T d hd).sl _ _ _ hsl
  obtain ⟨hex, hltx⟩ := ev_den hf hx
  obtain ⟨hey, hlty⟩ := ev_den hf hy
  have hrun : ∀ r w', (Builtin.copy_ #[T, T'] type #[SV.den β (.a (.c (.sl id k0.sz lo len cap))), u.den β]).run P w = .ok r w' →
      (execOp a.eval ⟨dst, .call ⟨.builtin .copy, #[x, y], #[T, T']⟩, type, pos, after, guard⟩).run P w = .ok (.value r) w' := by
    intro r w' hr
    simp [execOp, resolve, invoke, builtin, hex, hey, hr]
  have hmn : Nat.min n len ≤ n := Nat.min_le_left _ _
  have hml : Nat.min n len ≤ len := Nat.min_le_right _ _
  have hylen := hsrc.len
  have hfirst : (Builtin.firstCells k0.sz (Nat.min n len) (u.den β)).run P w = .ok (flat k0 (ys.take (Nat.min n len))).toArray w := by
    have hsrc' : Src β w k0 (u.den β) n ys := hsrc
    obtain ⟨_, x', cap', hv, hcase⟩ := hsrc'
    rw [hv]
    by_cases h0 : Nat.min n len = 0
    · rw [h0]
      cases x' with
      | none => simp [Builtin.firstCells, flat]
      | some x' => simp [Builtin.firstCells, loadCells, loadCellsFrom, flat]
    · rcases hcase with h1 | ⟨y', rfl, hc⟩
      · omega
      · refine run_firstCells_some w k0.sz _ y' n cap' (flat k0 (ys.take (Nat.min n len))) (by rw [flat_length, List.length_take, Nat.min_eq_left (by omega)]) (fun j v hj => hc j v ?_)
        have : flat k0 ys = flat k0 (ys.take (Nat.min n len)) ++ flat k0 (ys.drop (Nat.min n len)) := by rw [← flat_append, List.take_append_drop]
        rw [this]
        rw [List.getElem?_append_left (List.getElem?_eq_some_iff.1 hj).1]
        exact hj
  have hok := hs.obj _ _ hl
  cases hb : β id with
  | none =>
    rw [hb] at hok
    obtain ⟨rfl, rfl⟩ := hok
    have hlen0 : len = 0 := by simp at hle; omega
    subst hlen0
    have hm0 : Nat.min n 0 = 0 := Nat.min_zero n
    rw [hm0] at h hfirst
    have hr : (Builtin.copy_ #[T, T'] type #[SV.den β (.a (.c (.sl id k0.sz lo 0 cap))), u.den β]).run P w = .ok (goInt (0 : Nat)) w := by
      have hlo := fun w' => hsrc.lenOf (P := P) (w' := w')
      generalize u.den β = uv at hlo hfirst ⊢
      simp only [SV.den, SA.den, SC.den, hb, Option.map_none]
      simp [Builtin.copy_, run_underlying hu, hlo, hE, hm0, hfirst]
    refine ⟨_, w, .i (0 : Nat), β, fp, ⟨s.fr, upd s.hp id _, s.nx⟩, hrun _ _ hr, .inl rfl, fun _ _ => rfl, Ext.refl _ _, rfl, Nat.le_refl _, ?_, trivial, h⟩
    refine hs.put (w' := w) hl (fun _ _ => rfl) rfl ?_ trivial
    rw [hb]
    simp [lOp.cpL, SO.ok]
  | some x' =>
    rw [hb] at hok
    obtain ⟨hsp, hfp, pre, post, hh, hpre, hpost⟩ := hok
    have hml2 : lo * k0.sz + (Nat.min n len) * k0.sz ≤ (flat k0 xs).length := by
      rw [flat_length, ← Nat.add_mul]; exact Nat.mul_le_mul_right _ (by omega)
    have hst := run_storeCells_at P x'.block (x'.off + lo * k0.sz) E (flat k0 (ys.take (Nat.min n len))) 0 (pre ++ flat k0 xs ++ post).toArray w hh
      (by simp only [Nat.add_zero, flat_length, List.length_take, List.size_toArray, List.length_append]; rw [Nat.min_eq_left (show Nat.min n len ≤ ys.length by omega)]; rw [flat_length] at hml2; omega) (flat_one k0 _)
    simp only [Nat.add_zero] at hst
    have hr : (Builtin.copy_ #[T, T'] type #[SV.den β (.a (.c (.sl id k0.sz lo len cap))), u.den β]).run P w = .ok (goInt (Nat.min n len : Nat)) (w.setRow x'.block (pre ++ flat k0 (lOp.cpL xs lo (Nat.min n len) ys) ++ post).toArray) := by
      have hlo := fun w' => hsrc.lenOf (P := P) (w' := w')
      generalize u.den β = uv at hlo hfirst ⊢
      simp only [SV.den, SA.den, SC.den, hb, Option.map_some, add_eq hsp]
      have e2 : (flat k0 (ys.take (Nat.min n len))).length = Nat.min n len * k0.sz := by rw [flat_length, List.length_take, Nat.min_eq_left (show Nat.min n len ≤ ys.length by omega)]
      have e1 : (w.setRow x'.block ((pre ++ flat k0 xs ++ post).take (x'.off + lo * k0.sz) ++ flat k0 (ys.take (Nat.min n len)) ++ (pre ++ flat k0 xs ++ post).drop (x'.off + lo * k0.sz + (flat k0 (ys.take (Nat.min n len))).length)).toArray) =
          (w.setRow x'.block (pre ++ flat k0 (lOp.cpL xs lo (Nat.min n len) ys) ++ post).toArray) := by
        rw [e2, take_app pre (flat k0 xs) post _ (lo * k0.sz) (by omega) (by omega), drop_app pre (flat k0 xs) post _ (lo * k0.sz + Nat.min n len * k0.sz) (by omega) hml2]
        congr 2
        unfold lOp.cpL
        rw [flat_append, flat_append]
        have hsf := sub_flat k0 xs lo (Nat.min n len) (by omega)
        have l1 : flat k0 (xs.take lo) = (flat k0 xs).take (lo * k0.sz) := by
          have e3 : flat k0 xs = flat k0 (xs.take lo) ++ flat k0 (xs.drop lo) := by rw [← flat_append, List.take_append_drop]
          have e4 : (flat k0 (xs.take lo)).length = lo * k0.sz := by rw [flat_length, List.length_take, Nat.min_eq_left (by omega)]
          rw [e3, ← e4, List.take_left]
        have l2 : flat k0 (xs.drop (lo + Nat.min n len)) = (flat k0 xs).drop (lo * k0.sz + Nat.min n len * k0.sz) := by
          have e3 : flat k0 xs = flat k0 (xs.take (lo + Nat.min n len)) ++ flat k0 (xs.drop (lo + Nat.min n len)) := by rw [← flat_append, List.take_append_drop]
          have e4 : (flat k0 (xs.take (lo + Nat.min n len))).length = lo * k0.sz + Nat.min n len * k0.sz := by rw [flat_length, List.length_take, Nat.min_eq_left (by omega), Nat.add_mul]
          rw [e3, ← e4, List.drop_left]
        rw [l1, l2]
        simp [List.append_assoc]
      rw [← e1]
      simp [Builtin.copy_, run_underlying hu, hlo, hE, hfirst, hst]
    refine l_put2 (v := .i (Nat.min n len : Nat)) (ob' := .arr true E k0 (lOp.cpL xs lo (Nat.min n len) ys) sp) hs hl hfp (hrun _ _ hr) ?_ trivial trivial h
    rw [hb]
    refine ⟨hsp, hfp, pre, post, ?_, hpre, hpost⟩
    rw [setRow_heap w _ _ _ E _ hh]

end
end Go.Fw

/-
  Pools and maps: the soundness of the operations that make or write them.
-/
namespace Go.Fw
open Go
open Go.ChangeMaps (setBlock)

/-! ### Lists by addresses -/
theorem lkA_setA {α : Type} (a : Addr) (y : α) : ∀ (m : List (Addr × α)) (b : Addr), lkA (setA m a y) b = (lkA m b).map fun x => if b = a then y else x
  | [], b => rfl
  | (c, x) :: m, b => by
    have ih := lkA_setA a y m b
    unfold setA at ih ⊢
    simp only [List.map_cons]
    by_cases hca : c = a
    · subst hca
      simp only [if_true, lkA]
      by_cases hcb : c = b
      · subst hcb; simp
      · rw [if_neg hcb, if_neg hcb]; exact ih
    · simp only [if_neg hca, lkA]
      by_cases hcb : c = b
      · subst hcb; simp [hca]
      · rw [if_neg hcb, if_neg hcb]; exact ih

section
variable {P : Program} {ty : List (Nat × STy)} {β : Env} {Z : Nat → Prop} {fp : Nat → Nat → Prop} {s : S} {w : World} {N : Nat} {a : Act}

theorem PoolOk.set {f : Nat → Prop} {w' : World} {E : Nat} {k : EK} {m : List (Addr × List k.ty × Nat)} (h : PoolOk f w E k m) {x : Addr} {y y' : List k.ty × Nat} (hl : lkA m x = some y)
    (hw : ∀ b, b ≠ x.block → f b → w'.heap[b]? = w.heap[b]?) (hh : ∃ pre post, w'.heap[x.block]? = some (.cells (pre ++ flat k y'.1 ++ post).toArray E (0, 0)) ∧ pre.length = x.off ∧ y'.2 * k.sz ≤ post.length) : PoolOk f w' E k (setA m x y') := by
  obtain ⟨s1, f1, _⟩ := h.row x y.1 y.2 hl
  refine ⟨fun b xs sp hb => ?_, fun b b' z z' hb hb' hbb => ?_⟩
  · rw [lkA_setA] at hb
    by_cases e : b = x
    · subst e
      rw [hl] at hb
      simp only [Option.map_some, if_true, Option.some.injEq] at hb
      subst hb
      exact ⟨s1, f1, hh⟩
    · obtain ⟨q, hq, hq2⟩ := Option.map_eq_some_iff.1 hb
      rw [if_neg e] at hq2
      subst hq2
      obtain ⟨t1, t2, pre, post, t3, t4, t5⟩ := h.row b xs sp hq
      exact ⟨t1, t2, pre, post, by rw [hw _ (fun e2 => e (h.one _ _ _ _ hq hl e2)) t2, t3], t4, t5⟩
  · rw [lkA_setA] at hb hb'
    obtain ⟨q, hq, _⟩ := Option.map_eq_some_iff.1 hb
    obtain ⟨q', hq', _⟩ := Option.map_eq_some_iff.1 hb'
    exact h.one _ _ _ _ hq hq' hbb

theorem PoolOk.cons {f g : Nat → Prop} {w' : World} {E : Nat} {k : EK} {m : List (Addr × List k.ty × Nat)} (h : PoolOk f w E k m) {x : Addr} {y : List k.ty × Nat} (hb : ∀ b z, lkA m b = some z → b.block ≠ x.block)
    (hw : ∀ b, f b → w'.heap[b]? = w.heap[b]?) (hfg : ∀ b, f b → g b) (hs : x.spot = none) (hg : g x.block) (hh : ∃ pre post, w'.heap[x.block]? = some (.cells (pre ++ flat k y.1 ++ post).toArray E (0, 0)) ∧ pre.length = x.off ∧ y.2 * k.sz ≤ post.length) : PoolOk g w' E k ((x, y) :: m) := by
  refine ⟨fun b xs sp hl => ?_, fun b b' z z' hl hl' hbb => ?_⟩
  · simp only [lkA] at hl
    split at hl
    · rename_i e
      subst e
      cases hl
      exact ⟨hs, hg, hh⟩
    · obtain ⟨t1, t2, pre, post, t3, t4, t5⟩ := h.row b xs sp hl
      exact ⟨t1, hfg _ t2, pre, post, by rw [hw _ t2, t3], t4, t5⟩
  · simp only [lkA] at hl hl'
    split at hl <;> split at hl'
    · rename_i e e'; exact e.symm.trans e'
    · rename_i e _; subst e; exact absurd hbb.symm (hb _ _ hl')
    · rename_i _ e; subst e; exact absurd hbb (hb _ _ hl)
    · exact h.one _ _ _ _ hl hl' hbb

/-- One object turned, with new blocks of its own. -/
theorem HSat.grow (hs : HSat β Z fp s w) {id : Nat} {o o' : SO} (hl : look s.hp id = some o) {w' : World} {q : Nat → Prop} (hw : ∀ b, b < w.heap.size → ¬ fp id b → w'.heap[b]? = w.heap[b]?) (hsz : w.heap.size ≤ w'.heap.size)
    (hq : ∀ b, q b → (fp id b ∨ w.heap.size ≤ b) ∧ b < w'.heap.size) (ho : o'.ok β Z q w' (β id)) (hlt : o'.lt s.nx) : HSat β Z (fun i => if i = id then q else fp i) ⟨s.fr, upd s.hp id o', s.nx⟩ w' := by
  have hlook : ∀ id' o'', look (upd s.hp id o') id' = some o'' → (id' = id ∧ o'' = o') ∨ (id' ≠ id ∧ look s.hp id' = some o'') := by
    intro id' o'' h
    rw [look_upd] at h
    split at h
    · rename_i e; exact .inl ⟨e.symm, by cases h; rfl⟩
    · rename_i e; exact .inr ⟨fun e2 => e e2.symm, h⟩
  have hqz : ∀ b, q b → ¬ Z b := by
    intro b hb hz
    rcases (hq b hb).1 with h | h
    · exact (hs.flt id o hl b h).2 hz
    · have := hs.zlt b hz; omega
  have hqo : ∀ b id' o'', q b → id' ≠ id → look s.hp id' = some o'' → ¬ fp id' b := by
    intro b id' o'' hb hne hl' hf
    rcases (hq b hb).1 with h | h
    · exact hs.sep id id' o o'' hl hl' (fun e => hne e.symm) b h hf
    · have := (hs.flt id' o'' hl' b hf).1; omega
  refine ⟨fun b hb => Nat.lt_of_lt_of_le (hs.zlt b hb) hsz, ?_, ?_, ?_, ?_⟩
  · intro id' o'' h b hb
    rcases hlook _ _ h with ⟨rfl, rfl⟩ | ⟨hne, h'⟩
    · simp only [if_true] at hb; exact ⟨(hq b hb).2, hqz b hb⟩
    · simp only [if_neg hne] at hb
      have := hs.flt _ _ h' b hb
      exact ⟨by omega, this.2⟩
  · intro i j oi oj hi hj hij b hb hb'
    rcases hlook _ _ hi with ⟨rfl, rfl⟩ | ⟨h1, h1'⟩ <;> rcases hlook _ _ hj with ⟨rfl, rfl⟩ | ⟨h2, h2'⟩
    · exact hij rfl
    · simp only [if_true] at hb
      simp only [if_neg h2] at hb'
      exact hqo b j _ hb h2 h2' hb'
    · simp only [if_true] at hb'
      simp only [if_neg h1] at hb
      exact hqo b i _ hb' h1 h1' hb
    · simp only [if_neg h1] at hb
      simp only [if_neg h2] at hb'
      exact hs.sep i j _ _ h1' h2' hij b hb hb'
  · intro id' o'' h
    rcases hlook _ _ h with ⟨rfl, rfl⟩ | ⟨hne, h'⟩
    · simp only [if_true]; exact ho
    · simp only [if_neg hne]
      refine SO.ok_mono (hs.obj _ _ h') (hs.lto _ _ h').2 (fun _ _ => rfl) (fun _ h => h) ?_ hsz
      intro b hb
      rcases hb with hb | hb
      · exact hw b (hs.zlt b hb) (fun hf => (hs.flt _ _ hl b hf).2 hb)
      · exact hw b (hs.flt _ _ h' b hb).1 (fun hf => hs.sep id id' _ _ hl h' (fun e => hne e.symm) b hf hb)
  · intro id' o'' h
    rcases hlook _ _ h with ⟨rfl, rfl⟩ | ⟨hne, h'⟩
    · exact ⟨(hs.lto _ _ hl).1, hlt⟩
    · exact hs.lto _ _ h'

/-- One object goes into another one. -/
theorem HSat.merge (hs : HSat β Z fp s w) {id pid : Nat} {o p p' : SO} (hl : look s.hp id = some o) (hp : look s.hp pid = some p) (hne : id ≠ pid) (ho : p'.ok β Z (fun b => fp pid b ∨ fp id b) w (β pid)) (hlt : p'.lt s.nx) :
    HSat β Z (fun i => if i = pid then (fun b => fp pid b ∨ fp id b) else fp i) ⟨s.fr, upd (delK s.hp id) pid p', s.nx⟩ w := by
  have hlook : ∀ id' o'', look (upd (delK s.hp id) pid p') id' = some o'' → (id' = pid ∧ o'' = p') ∨ (id' ≠ pid ∧ id ≠ id' ∧ look s.hp id' = some o'') := by
    intro id' o'' h
    rw [look_upd] at h
    split at h
    · rename_i e; exact .inl ⟨e.symm, by cases h; rfl⟩
    · rename_i e
      rw [look_delK] at h
      split at h
      · cases h
      · rename_i e2; exact .inr ⟨fun e3 => e e3.symm, e2, h⟩
  refine ⟨hs.zlt, ?_, ?_, ?_, ?_⟩
  · intro id' o'' h b hb
    rcases hlook _ _ h with ⟨rfl, rfl⟩ | ⟨h1, h2, h'⟩
    · simp only [if_true] at hb
      rcases hb with hb | hb
      · exact hs.flt _ _ hp b hb
      · exact hs.flt _ _ hl b hb
    · simp only [if_neg h1] at hb
      exact hs.flt _ _ h' b hb
  · intro i j oi oj hi hj hij b hb hb'
    rcases hlook _ _ hi with ⟨rfl, rfl⟩ | ⟨h1, h1e, h1'⟩ <;> rcases hlook _ _ hj with ⟨rfl, rfl⟩ | ⟨h2, h2e, h2'⟩
    · exact hij rfl
    · simp only [if_true] at hb
      simp only [if_neg h2] at hb'
      rcases hb with hb | hb
      · exact hs.sep i j _ _ hp h2' hij b hb hb'
      · exact hs.sep id j _ _ hl h2' h2e b hb hb'
    · simp only [if_true] at hb'
      simp only [if_neg h1] at hb
      rcases hb' with hb' | hb'
      · exact hs.sep i j _ _ h1' hp hij b hb hb'
      · exact hs.sep id i _ _ hl h1' h1e b hb' hb
    · simp only [if_neg h1] at hb
      simp only [if_neg h2] at hb'
      exact hs.sep i j _ _ h1' h2' hij b hb hb'
  · intro id' o'' h
    rcases hlook _ _ h with ⟨rfl, rfl⟩ | ⟨h1, h2, h'⟩
    · simp only [if_true]; exact ho
    · simp only [if_neg h1]; exact hs.obj _ _ h'
  · intro id' o'' h
    rcases hlook _ _ h with ⟨rfl, rfl⟩ | ⟨h1, h2, h'⟩
    · exact ⟨(hs.lto _ _ hp).1, hlt⟩
    · exact hs.lto _ _ h'

theorem u_lt' (n : Nat) : SV.u.lt n := by intro c hc; cases hc

theorem m_store (hty : TyOk P ty) (hs : HSat β Z fp s w) (hf : FSat β s N a) {k : S → SV → Prop} {dst : Option Nat} {T : TypeId} {x y : Operand} {type : TypeId} {pos : String}
    {after : Array Edge} {guard : Option (Nat × Bool)} (h : mOp ty (.store T x y) s k) : LOk P β Z s w a ⟨dst, .store T x y, type, pos, after, guard⟩ k := by
  simp only [mOp, S.go_eq] at h
  split at h <;> try exact h.elim
  rename_i d id sz q i off v hd hx hy
  split at h <;> try exact h.elim
  rename_i E ek m cs hl hcs
  split at h <;> try exact h.elim
  rename_i hlen hsz
  rw [nbeq, lenN_eq, lenN_eq, decide_eq_true_eq] at hlen
  rw [nbeq, decide_eq_true_eq] at hsz
  subst hsz
  obtain ⟨hi, h⟩ := h
  obtain ⟨hex, _⟩ := ev_den hf hx
  obtain ⟨hey, hlt⟩ := ev_den hf hy
  obtain ⟨hc, hcl⟩ := cells_cs (β := β) hcs hlt
  obtain ⟨x', yy, rfl, hla, hra⟩ := rowA_lt hi
  rw [hra] at hi h
  have hpool : PoolOk (fp id) w E ek m := hs.obj _ _ hl
  obtain ⟨hsp, hfp, pre, post, hh, hpre, hpost⟩ := hpool.row x' yy.1 yy.2 hla
  have hil : i * ek.sz + ek.sz ≤ (flat ek yy.1).length := by
    rw [flat_length, ← Nat.succ_mul]; exact Nat.mul_le_mul_right _ hi
  have hput : ∀ e, putA m (some x') i e = setA m x' (yy.1.set i e, yy.2) := by
    intro e; unfold putA; simp [hla]
  have hrun : ∀ (vs : List Value), cs.map (SC.den β) = vs → i * ek.sz + off + vs.length ≤ (flat ek yy.1).length →
      (execOp a.eval ⟨dst, .store T x y, type, pos, after, guard⟩).run P w =
        .ok .skip (w.setRow x'.block (pre ++ ((flat ek yy.1).take (i * ek.sz + off) ++ vs ++ (flat ek yy.1).drop (i * ek.sz + off + vs.length)) ++ post).toArray) := by
    intro vs hvs hfit
    have hr := run_storeAt (P := P) (w := w) (hty T d hd) (b := x'.block) (off := x'.off + (i * ek.sz + off)) (cur := pre ++ flat ek yy.1 ++ post) (vs := vs) hh (by rw [← hvs]; simpa using hlen)
      (by simp only [List.length_append]; omega)
      (by intro v hv; rw [← hvs] at hv; obtain ⟨c, hc', rfl⟩ := List.mem_map.1 hv; exact SC.den_one (hcl c hc')) (by rw [← hvs]; exact hc)
    have hex' : a.eval x = .pointer (some ⟨x'.block, x'.off + (i * ek.sz + off), none⟩) := by rw [hex]; simp [SV.den, SA.den, SC.den, add_eq hsp]
    simp only [execOp, hex', hey, Sem.run_bind, hr, Result.andThen_ok, Sem.run_pure]
    rw [take_app pre (flat ek yy.1) post _ (i * ek.sz + off) (by omega) (by omega), drop_app pre (flat ek yy.1) post _ (i * ek.sz + off + vs.length) (by omega) (by omega)]
    simp [List.append_assoc]
  have fin : ∀ (vs : List Value) (e : ek.ty), cs.map (SC.den β) = vs → i * ek.sz + off + vs.length ≤ (flat ek yy.1).length →
      flat ek (yy.1.set i e) = (flat ek yy.1).take (i * ek.sz + off) ++ vs ++ (flat ek yy.1).drop (i * ek.sz + off + vs.length) →
      k ⟨s.fr, upd s.hp id (.pool E ek (putA m (some x') i e)), s.nx⟩ .u → LOk P β Z s w a ⟨dst, .store T x y, type, pos, after, guard⟩ k := by
    intro vs e hvs hfit hfl hk
    refine l_put (ob' := .pool E ek (putA m (some x') i e)) hs hl hfp (hrun vs hvs hfit) ?_ trivial hk
    rw [hput]
    refine hpool.set hla (fun b hb _ => setRow_other w _ b _ hb) ⟨pre, post, ?_, hpre, hpost⟩
    rw [setRow_heap w _ _ _ E _ hh, hfl]
  split at h
  · rename_i hagg
    split at h <;> try exact h.elim
    rename_i e h0 he
    rw [nbeq, decide_eq_true_eq] at h0
    subst h0
    rw [updK_iff] at h
    have hcl' := ofSym_spec (β := β) he
    have hcsz := EK.cells_length ek e
    refine fin (ek.cells e) e hcl' (by omega) ?_ h
    rw [flat_set ek e yy.1 i hi, hcsz]; rfl
  · rename_i hagg
    split at h <;> try exact h.elim
    rename_i c
    split at h <;> try exact h.elim
    rename_i e he
    rw [updK_iff] at h
    obtain ⟨he1, he2⟩ := setF_spec (β := β) he
    refine fin [c.den β] e rfl (by simp only [List.length_singleton]; omega) ?_ h
    rw [flat_setF ek e off _ he2 yy.1 i hi he1, set_take_drop _ _ _ (by omega)]
    rfl

theorem m_append (hty : TyOk P ty) (hs : HSat β Z fp s w) (hf : FSat β s N a) {k : S → SV → Prop} {dst : Option Nat} {args : Array Operand} {argTypes : Array TypeId} {type : TypeId} {pos : String}
    {after : Array Edge} {guard : Option (Nat × Bool)} (h : mOp ty (.call ⟨.builtin .append, args, argTypes⟩) s k) : LOk P β Z s w a ⟨dst, .call ⟨.builtin .append, args, argTypes⟩, type, pos, after, guard⟩ k := by
  simp only [mOp, S.go_eq] at h
  split at h <;> try exact h.elim
  rename_i x y T T' h1 h2
  have ha : args = #[x, y] := by apply Array.ext'; simp [h1]
  have hat : argTypes = #[T, T'] := by apply Array.ext'; simp [h2]
  subst ha hat
  split at h <;> try exact h.elim
  rename_i d hdr u hT hd hx hy
  rw [nbeq, decide_eq_true_eq] at hT
  subst hT
  split at h <;> try exact h.elim
  rename_i E ek bytes hsl
  split at h <;> try exact h.elim
  rename_i id hp
  split at h <;> try exact h.elim
  rename_i E0 k0 m hl
  split at h <;> try exact h.elim
  rename_i hb1 hE0
  have e1 := EK.beq_eq hb1
  rw [nbeq, decide_eq_true_eq] at hE0
  subst e1 hE0
  obtain ⟨hu, hE, i, z, hi, hz, hisz, hib, hzc⟩ := (hty T d hd).sl _ _ _ hsl
  obtain ⟨hex, hltx⟩ := ev_den hf hx
  obtain ⟨hey, hlty⟩ := ev_den hf hy
  have hrun : ∀ r w', (Builtin.append_ #[T, T] type #[.slice hdr.a hdr.n hdr.c, u.den β]).run P w = .ok r w' →
      (execOp a.eval ⟨dst, .call ⟨.builtin .append, #[x, y], #[T, T]⟩, type, pos, after, guard⟩).run P w = .ok (.value r) w' := by
    intro r w' hr
    have hex' : a.eval x = .slice hdr.a hdr.n hdr.c := hex
    simp [execOp, resolve, invoke, builtin, hex', hey, hr]
  obtain ⟨n, ys, h, hsrc⟩ := srcK_sound hs h
  obtain ⟨⟨hd, hb, h63⟩, h⟩ := h
  simp only [updK_iff] at h
  have hpool : PoolOk (fp id) w E0 k0 m := hs.obj _ _ hl
  have hplt : id < s.nx := (hs.lto _ _ hl).1
  have hnew : lkA m ⟨w.heap.size, 0, none⟩ = none := by
    cases hq : lkA m ⟨w.heap.size, 0, none⟩ with
    | none => rfl
    | some q =>
      have := (hs.flt _ _ hl _ (hpool.row _ q.1 q.2 hq).2.1).1
      exact absurd this (Nat.lt_irrefl _)
  have hnb : ∀ b z, lkA m b = some z → b.block ≠ (⟨w.heap.size, 0, none⟩ : Addr).block := by
    intro b z hq e
    have := (hs.flt _ _ hl _ (hpool.row _ z.1 z.2 hq).2.1).1
    rw [e] at this
    exact absurd this (Nat.lt_irrefl _)
  -- a new block
  have out : ∀ olds : List k0.ty, olds = rowA m hdr.a → hdr.c < hdr.n + n → (Builtin.firstCells i.size hdr.n (.slice hdr.a hdr.n hdr.c)).run P w.drew = .ok (flat k0 olds).toArray w.drew →
      LOk P β Z s w a ⟨dst, .call ⟨.builtin .append, #[x, y], #[T, T]⟩, type, pos, after, guard⟩ k := by
    intro olds ho hroom hold
    have hr := hrun _ _ (run_append_out (w := w) (base := hdr.a) (len := hdr.n) (cap := hdr.c) (olds := flat k0 olds) hu hi hz (fun w => hsrc.lenOf) (by rw [hisz]; exact hsrc.first (fun _ => rfl)) hold hroom (by omega)
      (by rw [hib]; exact growslice_fits (by omega) (by simpa using hb)) type)
    have hg := grownCap_ge w (hdr.n + n) hdr.c E0
    have hgo := h _ _ (App.fresh (m := m) (x := hdr) (ys := ys) (sp := grownCap w (hdr.n + n) hdr.c E0 - (hdr.n + n)) hnew hnb)
    rw [hsrc.len, show hdr.n + n + (grownCap w (hdr.n + n) hdr.c E0 - (hdr.n + n)) = grownCap w (hdr.n + n) hdr.c E0 by omega] at hgo
    refine ⟨_, _, .c (.h ⟨some ⟨w.heap.size, 0, none⟩, hdr.n + n, grownCap w (hdr.n + n) hdr.c E0⟩), β, _, ⟨s.fr, upd s.hp id (.pool E0 k0 ((⟨w.heap.size, 0, none⟩, rowA m hdr.a ++ ys, grownCap w (hdr.n + n) hdr.c E0 - (hdr.n + n)) :: m)), s.nx⟩, hr, .inl rfl, fun _ _ => rfl, ⟨rfl, rfl, rfl, by simp, fun b hb => ?_⟩, rfl, Nat.le_refl _,
      hs.grow (q := fun b => fp id b ∨ b = w.heap.size) hl (fun b hb _ => ?_) (by simp) (fun b hb => ?_) ?_ trivial, trivial, hgo⟩
    · exact heap_alloc_lt (w := w.drew) (hs.zlt b hb)
    · exact heap_alloc_lt (w := w.drew) hb
    · rcases hb with hb | rfl
      · have := (hs.flt _ _ hl b hb).1
        exact ⟨.inl hb, by simp; omega⟩
      · exact ⟨.inr (Nat.le_refl _), by simp⟩
    · refine hpool.cons hnb (fun b hb => heap_alloc_lt (w := w.drew) (hs.flt _ _ hl b hb).1) (fun _ hb => .inl hb) rfl (.inr rfl) ⟨[], (Builtin.zeroCells z.cells (grownCap w (hdr.n + n) hdr.c E0 - (hdr.n + n))).toList, ?_, rfl, Nat.le_of_eq (zeroCells_flat k0 hzc _).symm⟩
      have := heap_alloc_at (w := w.drew) (.cells (flat k0 olds ++ flat k0 ys ++ (Builtin.zeroCells z.cells (grownCap w (hdr.n + n) hdr.c E0 - (hdr.n + n))).toList).toArray E0)
      refine this.trans ?_
      rw [← flat_append, ho]
      rfl
  cases hha : hdr.a with
  | none =>
    unfold Hd at hd
    rw [hha] at hd
    simp only at hd
    by_cases hn : n = 0
    · subst hn
      have hys : ys = [] := List.eq_nil_of_length_eq_zero hsrc.len
      subst hys
      have hr := hrun (.slice none 0 0) w (by
        rw [hha, hd.1, hd.2]
        exact run_append_nil' hu hi (fun w => hsrc.lenOf) (by rw [hisz]; exact hsrc.first (fun _ => rfl)) type)
      refine ⟨_, w, .c (.h hdr), β, _, ⟨s.fr, upd s.hp id (.pool E0 k0 m), s.nx⟩, hr, .inl (by simp [SV.den, SA.den, SC.den, hha, hd.1, hd.2]), fun _ _ => rfl, Ext.refl _ _, rfl, Nat.le_refl _,
        hs.grow (w' := w) (o' := .pool E0 k0 m) (q := fp id) hl (fun _ _ _ => rfl) (Nat.le_refl _) (fun b hb => ⟨.inl hb, (hs.flt _ _ hl b hb).1⟩) hpool trivial, trivial, h _ _ (.stay rfl)⟩
    · refine out [] (by rw [hha]; rfl) (by omega) ?_
      rw [hha, hd.1]
      simp [Builtin.firstCells, flat]
  | some x' =>
    unfold Hd at hd
    rw [hha] at hd
    simp only at hd
    cases hla : lkA m x' with
    | none => rw [hla] at hd; exact hd.elim
    | some yy =>
      rw [hla] at hd
      simp only at hd
      obtain ⟨hsp, hfp, pre, post, hh, hpre, hpost⟩ := hpool.row x' yy.1 yy.2 hla
      have hx' : (⟨x'.block, x'.off, none⟩ : Addr) = x' := by obtain ⟨b, o, sp⟩ := x'; cases hsp; rfl
      have hrow : rowA m hdr.a = yy.1 := by rw [hha]; unfold rowA; simp [hla]
      have hfl := flat_length k0 yy.1
      have hysl : (flat k0 ys).length = n * k0.sz := by rw [flat_length, hsrc.len]
      by_cases hroom : hdr.n + n ≤ hdr.c
      · have hmul : hdr.n * k0.sz + n * k0.sz ≤ (flat k0 yy.1).length + post.length := by
          refine Nat.le_trans ?_ (Nat.add_le_add_left hpost _)
          rw [hfl, ← Nat.add_mul, ← Nat.add_mul]
          exact Nat.mul_le_mul_right _ (by omega)
        have hr0 := run_append_in (w := w) (g := x'.block) (o := x'.off) (len := hdr.n) (cap := hdr.c) (E0 := E0) (cur := pre ++ flat k0 yy.1 ++ post) hu hi (fun w => hsrc.lenOf) (by rw [hisz]; exact hsrc.first (fun _ => rfl)) hroom hh
          (by rw [hisz, hysl, List.length_append, List.length_append, hpre]; omega) (flat_one k0 ys) type
        rw [hx'] at hr0
        have hr := hrun _ _ (by rw [hha]; exact hr0)
        have e1 : x'.off + hdr.n * i.size = pre.length + (flat k0 yy.1).length := by rw [hisz, hpre, hfl, hd.1]
        have t1 : (pre ++ flat k0 yy.1 ++ post).take (x'.off + hdr.n * i.size) = pre ++ flat k0 yy.1 := by
          rw [e1, ← List.length_append, List.take_left]
        have t2 : (pre ++ flat k0 yy.1 ++ post).drop (x'.off + hdr.n * i.size + (flat k0 ys).length) = post.drop (n * k0.sz) := by
          rw [e1, ← List.length_append, ← List.drop_drop, List.drop_left, hysl]
        rw [t1, t2] at hr
        have hgo := h _ _ (App.room (m := m) (x := hdr) (ys := ys) (a := x') (y := yy) (sp := hdr.c - (hdr.n + n)) hha hla (by rw [hsrc.len]; omega))
        rw [hsrc.len] at hgo
        refine ⟨_, _, .c (.h ⟨some x', hdr.n + n, hdr.c⟩), β, _, ⟨s.fr, upd s.hp id (.pool E0 k0 (setA m x' (yy.1 ++ ys, hdr.c - (hdr.n + n)))), s.nx⟩, hr, .inl rfl, fun _ _ => rfl, Ext.setRow _ (hs.flt _ _ hl _ hfp).2, rfl, Nat.le_refl _,
          hs.grow (q := fp id) hl (fun b _ hb => setRow_other w _ b _ (fun e => hb (e ▸ hfp))) (by simp) (fun b hb => ⟨.inl hb, by simpa using (hs.flt _ _ hl b hb).1⟩) ?_ trivial, trivial, hgo⟩
        refine hpool.set hla (fun b hb _ => setRow_other w _ b _ hb) ⟨pre, post.drop (n * k0.sz), ?_, hpre, ?_⟩
        · rw [setRow_heap w _ _ _ E0 _ hh, flat_append]
          simp [List.append_assoc]
        · rw [List.length_drop]
          have h5 : (hdr.c - (hdr.n + n)) * k0.sz + n * k0.sz ≤ yy.2 * k0.sz := by
            rw [← Nat.add_mul]; exact Nat.mul_le_mul_right _ (by omega)
          show (hdr.c - (hdr.n + n)) * k0.sz ≤ post.length - n * k0.sz
          omega
      · refine out yy.1 hrow.symm (by omega) ?_
        rw [hha, hisz]
        exact run_firstCells_some w.drew k0.sz hdr.n x' hdr.n hdr.c (flat k0 yy.1) (by rw [hfl, hd.1]) (fun j u hj => by
          rw [add_eq hsp]
          exact flat_cell hh hpre j u hj)

theorem frzOf_spec {ek : EK} {fr : List (Nat × SV)} {l : List (Nat × Operand)} {id len cap : Nat} (h : frzOf ek fr l = some (id, len, cap)) :
    ∃ x sz, l = [(0, x)] ∧ ev fr x = some (.a (.c (.sl id sz 0 len cap))) := by
  cases ek with
  | sli =>
    match l, h with
    | [(0, x)], h =>
      simp only [frzOf] at h
      split at h
      · rename_i id' sz len' cap' hx
        cases h
        exact ⟨x, sz, rfl, hx⟩
      · cases h
  | _ => cases h

theorem m_build (hty : TyOk P ty) (hs : HSat β Z fp s w) (hf : FSat β s N a) {k : S → SV → Prop} {dst : Option Nat} {T : TypeId} {len : Nat} {parts : Array (Nat × Operand)} {type : TypeId} {pos : String}
    {after : Array Edge} {guard : Option (Nat × Bool)} (h : mOp ty (.buildSlice T len parts) s k) : LOk P β Z s w a ⟨dst, .buildSlice T len parts, type, pos, after, guard⟩ k := by
  simp only [mOp, S.go_eq] at h
  split at h <;> try exact h.elim
  rename_i d hd
  split at h <;> try exact h.elim
  rename_i E bytes hsl
  split at h <;> try exact h.elim
  rename_i id ln cap hfz hlen
  rw [nbeq, decide_eq_true_eq] at hlen
  subst hlen
  split at h <;> try exact h.elim
  rename_i E0 k0 xs sp hl
  split at h <;> try exact h.elim
  rename_i pid hpf
  split at h <;> try exact h.elim
  rename_i E1 k1 m hpl
  split at h <;> try exact h.elim
  rename_i xs' hcast hE0
  rw [nbeq, decide_eq_true_eq] at hE0
  subst hE0
  obtain ⟨e, he⟩ := EK.cast_spec hcast
  subst e
  change xs' = xs at he
  subst he
  obtain ⟨⟨hln, hcap⟩, h⟩ := h
  simp only [delC_iff, updK_iff] at h
  -- the part
  obtain ⟨x, sz, hpa, hx⟩ := frzOf_spec hfz
  obtain ⟨hex, _⟩ := ev_den hf hx
  obtain ⟨hu, hE, i, z, hi, hz, hisz, _, hzc⟩ := (hty T d hd).sl _ _ _ hsl
  have hpool : PoolOk (fp pid) w E0 k0 m := hs.obj _ _ hpl
  have hne : id ≠ pid := by intro e; rw [e, hpl] at hl; cases hl
  -- the head that comes in
  obtain ⟨m', y, hy, hfr, hpk⟩ : ∃ m' y, SC.den β (.h y) = .slice (β id) ln cap ∧ Frz m xs' sp ln cap m' y ∧ PoolOk (fun b => fp pid b ∨ fp id b) w E0 k0 m' := by
    have hok := hs.obj _ _ hl
    cases hb : β id with
    | none =>
      rw [hb] at hok
      obtain ⟨rfl, rfl⟩ := hok
      refine ⟨m, ⟨none, ln, cap⟩, rfl, .nil rfl, ⟨fun b xs sp hb => ?_, hpool.one⟩⟩
      obtain ⟨t1, t2, t3⟩ := hpool.row b xs sp hb
      exact ⟨t1, .inl t2, t3⟩
    | some x' =>
      rw [hb] at hok
      obtain ⟨hsp, hfp, pre, post, hh, hpre, hpost⟩ := hok
      have hnb : ∀ b z, lkA m b = some z → b.block ≠ x'.block := by
        intro b z hq e
        have := (hpool.row _ z.1 z.2 hq).2.1
        rw [e] at this
        exact hs.sep pid id _ _ hpl hl (fun e => hne e.symm) _ this hfp
      refine ⟨(x', xs', sp) :: m, ⟨some x', ln, cap⟩, rfl, .own ?_ hnb, ?_⟩
      · cases hq : lkA m x' with
        | none => rfl
        | some q => exact absurd rfl (hnb _ _ hq)
      · exact hpool.cons (y := (xs', sp)) hnb (fun _ _ => rfl) (fun _ hb => .inl hb) hsp (.inr hfp) ⟨pre, post, hh, hpre, hpost⟩
  have hgo := h m' y hfr
  have hs1 := hs.merge (p' := .pool E0 k0 m') hl hpl hne hpk trivial
  have hex' : a.eval x = .slice (β id) ln cap := by
    rw [hex]
    have hid : ∀ o : Option Addr, o.map (fun x => x.add (0 * sz)) = o := fun o => by cases o <;> simp [Addr.add]
    simp only [SV.den, SA.den, SC.den, hid]
  have hzv : z.cells.size = 1 := by rw [← Array.length_toList, hzc, EK.cells_length]; rfl
  have hrun : (execOp a.eval ⟨dst, .buildSlice T 1 parts, type, pos, after, guard⟩).run P w = .ok (.value (.slice (some ⟨w.heap.size, 0, none⟩) 1 1)) (w.alloc (.cells (flat .sli [y] ++ []).toArray E)) := by
    have hE' : ∀ w, (sizeOf E).run P w = .ok 1 w := hE
    have hm : (parts.map fun (i, x) => (i, a.eval x)).toList = [(0, .slice (β id) ln cap)] := by
      rw [Array.toList_map, hpa]; simp [hex']
    have hfl : flat .sli [y] = [.slice (β id) ln cap] := by
      have : EK.sli.cells y = [SC.den β (.h y)] := rfl
      simp [flat, this, hy]
    have hf2 : ∀ A : Array Value, A.size = 1 → Instr.fill (fun i => some (i * 1, 1)) A [(0, .slice (β id) ln cap)] = some #[.slice (β id) ln cap] := by
      intro A hA
      obtain ⟨l⟩ := A
      match l, hA with
      | [q], _ => rfl
    simp only [execOp, Instr.buildSlice, Sem.run_bind, run_underlying hu, Result.andThen_ok, hE']
    rw [if_neg (by omega)]
    simp only [Sem.run_bind, zeroValue, typeInfo, hi, hz, Sem.run_pure, run_program, Result.andThen_ok, if_neg (show ¬ (1 * 1 = 0) by omega), hm]
    rw [hf2 _ (by simp)]
    simp [newRow, hfl]
  obtain ⟨r, w', v', β', fp', s', R⟩ := l_arr (P := P) (k := k) (a := a) hs1 (E := E) (ek := .sli) (xs := [y]) (sp := 0) (post := []) hrun (fun b hb => heap_alloc_lt hb) (by simp) rfl rfl rfl (heap_alloc_at _) (by simp) hgo
  exact ⟨r, w', v', β', fp', s', R.run, R.val, R.env, R.ext, R.fr, R.nx, R.sat, R.lt, R.go⟩

theorem m_makeMap (hs : HSat β Z fp s w) {k : S → SV → Prop} {dst : Option Nat} {T : TypeId} {r : Option Operand} {type : TypeId} {pos : String}
    {after : Array Edge} {guard : Option (Nat × Bool)} (h : mOp ty (.makeMap T r) s k) : LOk P β Z s w a ⟨dst, .makeMap T r, type, pos, after, guard⟩ k := by
  cases r with
  | some r => exact h.elim
  | none =>
  simp only [mOp, S.go_eq] at h
  split at h <;> try exact h.elim
  rename_i d hd
  split at h <;> try exact h.elim
  rename_i kt kk vt vk hmp
  have hrun : (execOp a.eval ⟨dst, .makeMap T none, type, pos, after, guard⟩).run P w = .ok (.value (.map (some w.heap.size))) (w.alloc (.map #[] 0)) := by
    simp [execOp, Instr.makeMap, newObj, Sem.run]
  refine ⟨_, _, .c (.mp s.nx), β.add s.nx (some ⟨w.heap.size, 0, none⟩), _, ⟨s.fr, (s.nx, .map kk vk [] 0) :: s.hp, s.nx + 1⟩, hrun, .inl ?_, Env.add_lt, Ext.alloc _ hs.zlt, rfl, Nat.le_succ _, hs.add (o := .map kk vk [] 0) (q := fun b => b = w.heap.size) ?_ ?_ ?_ ?_ trivial, ?_, h⟩
  · simp [SV.den, SA.den, SC.den, Env.add_at]
  · exact fun b hb => heap_alloc_lt hb
  · simp
  · intro b hb; subst hb; simp
  · exact ⟨w.heap.size, rfl, rfl, by rw [heap_alloc_at]; rfl⟩
  · show s.nx < s.nx + 1; omega

theorem m_range (hty : TyOk P ty) (hs : HSat β Z fp s w) (hf : FSat β s N a) {k : S → SV → Prop} {dst : Option Nat} {T : TypeId} {x : Operand} {type : TypeId} {pos : String}
    {after : Array Edge} {guard : Option (Nat × Bool)} (h : mOp ty (.range T x) s k) : LOk P β Z s w a ⟨dst, .range T x, type, pos, after, guard⟩ k := by
  simp only [mOp, S.go_eq] at h
  split at h <;> try exact h.elim
  rename_i d id hd hx
  split at h <;> try exact h.elim
  rename_i q kk vk es clk hmp hl
  obtain ⟨kt, kk', vt, vk'⟩ := q
  obtain ⟨hex, hlt⟩ := ev_den hf hx
  obtain ⟨b, hb, _, hh⟩ := map_at hs hl
  have hm := (hty _ _ hd).mp _ _ _ _ hmp
  have hmap : a.eval x = .map (some b) := by rw [hex]; simp [SV.den, SA.den, SC.den, hb]
  have hrun : (execOp a.eval ⟨dst, .range T x, type, pos, after, guard⟩).run P w = .ok (.value (.pointer (some ⟨w.heap.size, 0, none⟩))) (w.alloc (.mapIter (some b) clk #[] clk)) := by
    simp [execOp, hmap, Instr.range, run_underlying hm.ty, run_getObj_at hh (by intro _ _ _ e; cases e), newObj, Sem.run]
  refine ⟨_, _, .c (.ptr s.nx 0), β.add s.nx (some ⟨w.heap.size, 0, none⟩), _, ⟨s.fr, (s.nx, .iter id clk [] clk 0) :: s.hp, s.nx + 1⟩, hrun, .inl ?_, Env.add_lt, Ext.alloc _ hs.zlt, rfl, Nat.le_succ _, hs.add (o := .iter id clk [] clk 0) (q := fun b => b = w.heap.size) ?_ ?_ ?_ ?_ hlt, ?_, h⟩
  · simp [SV.den, SA.den, SC.den, Env.add_at, Addr.add_lit]
  · exact fun b hb => heap_alloc_lt hb
  · simp
  · intro b hb; subst hb; simp
  · exact ⟨w.heap.size, b, rfl, rfl, (Env.add_lt id hlt).trans hb, by rw [heap_alloc_at]⟩
  · show s.nx < s.nx + 1; omega

theorem m_next (hs : HSat β Z fp s w) (hf : FSat β s N a) {k : S → SV → Prop} {dst : Option Nat} {x : Operand} {str : Bool} {type : TypeId} {pos : String}
    {after : Array Edge} {guard : Option (Nat × Bool)} (h : mOp ty (.next x str) s k) : LOk P β Z s w a ⟨dst, .next x str, type, pos, after, guard⟩ k := by
  cases str with
  | true => exact h.elim
  | false =>
  simp only [mOp, S.go_eq] at h
  split at h <;> try exact h.elim
  rename_i it hx
  split at h <;> try exact h.elim
  rename_i mid since seen last cur hl
  split at h <;> try exact h.elim
  rename_i kk vk es clk hl2
  obtain ⟨⟨hbo, e1, e2⟩, h1, h2⟩ := h
  rw [e2] at hl
  rw [e1] at hl h2
  clear e1 e2
  obtain ⟨hex, _⟩ := ev_den hf hx
  obtain ⟨b, r, hb, hfb, hr, hh⟩ : ∃ b r, β it = some ⟨b, 0, none⟩ ∧ fp it b ∧ β mid = some ⟨r, 0, none⟩ ∧ w.heap[b]? = some (.mapIter (some r) clk seen.toArray clk) := hs.obj it _ hl
  obtain ⟨r', hr', _, hh2⟩ := map_at hs hl2
  rw [hr] at hr'
  cases hr'
  have hp : a.eval x = .pointer (some ⟨b, 0, none⟩) := by rw [hex]; simp [SV.den, SA.den, SC.den, hb, Addr.add_lit]
  have hold : ∀ x ∈ (es.map (ent kk vk)).toArray.toList, x.born < clk := by
    intro x hx
    simp only [List.mem_map] at hx
    obtain ⟨e, he, rfl⟩ := hx
    exact hbo.2 e he
  rcases run_next_at (P := P) w type b r clk clk seen.toArray _ clk hh hh2 hold (Nat.le_refl _) with ⟨h0, hrun⟩ | ⟨e, he, w1, hw1, hrun⟩
  · have hall : ∀ e ∈ es, e.2.2 ∈ seen := by
      intro e he
      have h0' : leftOf (es.map (ent kk vk)).toArray seen.toArray = #[] := Array.eq_empty_of_size_eq_zero h0
      unfold leftOf at h0'
      rw [Array.filter_eq_empty_iff] at h0'
      have := h0' (ent kk vk e) (by rw [List.mem_toArray]; exact List.mem_map.2 ⟨e, he, rfl⟩)
      simpa [ent] using this
    refine ⟨.value (.tuple #[.bool false]), w, .tup [.c (.b false)], β, fp, s, ?_, .inl rfl, fun _ _ => rfl, Ext.refl _ _, rfl, Nat.le_refl _, hs, ?_, h1 hall⟩
    · simp only [execOp, hp, Sem.run_bind, hrun, Result.andThen_ok, Sem.run_pure]
    · intro c hc; simp only [List.mem_cons, List.not_mem_nil, or_false] at hc; subst hc; trivial
  · obtain ⟨i, hi, hie, hns⟩ : ∃ i, ∃ h : i < es.length, ent kk vk es[i] = e ∧ es[i].2.2 ∉ seen := by
      unfold leftOf at he
      simp only [Array.toList_filter, List.mem_filter, List.mem_map] at he
      obtain ⟨⟨e', he', rfl⟩, hn⟩ := he
      obtain ⟨i, hi, rfl⟩ := List.getElem_of_mem he'
      exact ⟨i, hi, rfl, by simpa [ent] using hn⟩
    have h := h2 i hi hns
    rw [updK_iff, forceA_iff, forceA_iff] at h
    have hw1h : w1.heap = w.heap := by rcases hw1 with rfl | rfl <;> rfl
    have hbz : ¬ Z b := (hs.flt _ _ hl b hfb).2
    have hother : ∀ c, c ≠ b → (setBlock w1 b (.mapIter (some r) clk (seen.toArray.push e.born) clk)).heap[c]? = w.heap[c]? := by
      intro c hc
      show (w1.heap.setIfInBounds b _)[c]? = _
      rw [hw1h, Array.getElem?_setIfInBounds, if_neg (fun e => hc e.symm)]
    have hblt : b < w.heap.size := (hs.flt _ _ hl b hfb).1
    have hsz : (setBlock w1 b (.mapIter (some r) clk (seen.toArray.push e.born) clk)).heap.size = w.heap.size := by
      show (w1.heap.setIfInBounds b _).size = _
      rw [hw1h]; simp
    refine ⟨_, _, .tup [.c (.b true), kk.symA es[i].1, vk.symA es[i].2.1], β, fp, ⟨s.fr, upd s.hp it (.iter mid clk (seen ++ [es[i].2.2]) clk i), s.nx⟩, ?_, .inl rfl, fun _ _ => rfl, ⟨?_, ?_, ?_, Nat.le_of_eq hsz.symm, fun c hc => hother c (fun e => hbz (e ▸ hc))⟩, rfl, Nat.le_refl _,
      hs.put hl (fun c hc => hother c (fun e => hc (e ▸ hfb))) hsz ?_ ((hs.lto _ _ hl).2), ?_, h⟩
    · simp only [execOp, hp, Sem.run_bind, hrun, Result.andThen_ok, Sem.run_pure]
      rw [← hie]
      simp [SV.den, EK.symA_den, ent]; rfl
    · rcases hw1 with rfl | rfl <;> rfl
    · rcases hw1 with rfl | rfl <;> rfl
    · rcases hw1 with rfl | rfl <;> rfl
    · refine ⟨b, r, hb, hfb, hr, ?_⟩
      show (w1.heap.setIfInBounds b _)[b]? = _
      rw [hw1h, Array.getElem?_setIfInBounds, if_pos rfl, if_pos hblt, ← hie]
      simp [ent]
    · intro c hc
      simp only [List.mem_cons, List.not_mem_nil, or_false] at hc
      rcases hc with rfl | rfl | rfl
      · trivial
      · exact EK.symA_lt _ _ _
      · exact EK.symA_lt _ _ _

theorem findE_none {kk vk : EK} {x : kk.ty} : ∀ {es : List (kk.ty × vk.ty × Nat)} {n : Nat}, findE kk vk x es n = none → (lkM es x).isSome = false := by
  intro es n h
  have := findE_lk kk vk x es n
  rw [h] at this
  cases hq : lkM es x with
  | none => rfl
  | some q => rw [hq] at this; cases this

theorem findE_some {kk vk : EK} {x : kk.ty} (nv : vk.ty) : ∀ {es : List (kk.ty × vk.ty × Nat)} {n i : Nat} {v : Value}, findE kk vk x es n = some (i, v) →
    ∃ j, i = n + j ∧ (es.map (ent kk vk)).modify j (fun e => { e with key := kk.val x, val := vk.val nv }) = (setM es x nv).map (ent kk vk) ∧ ((es.map (ent kk vk))[j]?).map (·.key) = some (kk.val x) ∧ (lkM es x).isSome = true
  | [], n, i, v, h => by cases h
  | (y, w, c) :: es, n, i, v, h => by
    simp only [findE] at h
    by_cases e : y = x
    · subst e
      rw [if_pos rfl] at h
      cases h
      exact ⟨0, rfl, by simp [setM, ent], by simp [ent], by simp [lkM]⟩
    · rw [if_neg e] at h
      obtain ⟨j, h1, h2, h3, h4⟩ := findE_some nv h
      refine ⟨j + 1, by omega, ?_, by simpa using h3, by simp [lkM, e, h4]⟩
      simp only [setM, if_neg e, List.map_cons, List.modify_succ_cons, h2]

theorem run_mapUpdate {T kt vt : Nat} {kk vk : EK} (hm : MapOk P T kt kk vt vk) {r clk : Nat} {es : List (kk.ty × vk.ty × Nat)} (hh : w.heap[r]? = some (.map (es.map (ent kk vk)).toArray clk)) (x : kk.ty) (nv : vk.ty) :
    (Instr.mapUpdate T (.map (some r)) (kk.val x) (vk.val nv)).run P w = .ok () { w with heap := w.heap.setIfInBounds r (.map ((insM es clk x nv).1.map (ent kk vk)).toArray (insM es clk x nv).2) } := by
  unfold Instr.mapUpdate
  have hso : ∀ o' : Obj, (setObj r o').run P w = .ok () { w with heap := w.heap.setIfInBounds r o' } := by
    intro o'; simp [setObj, Sem.run, hh]
  simp only [Sem.run_bind, run_underlying hm.ty, Result.andThen_ok, run_getObj_at hh (by intro _ _ _ e; cases e), hm.ck, hm.fk]
  cases hfe : findE kk vk x es 0 with
  | none =>
    have h1 := findE_none hfe
    simp only [hso]
    unfold insM
    rw [if_neg (by rw [h1]; simp)]
    simp [ent]
  | some p =>
    obtain ⟨i, v⟩ := p
    obtain ⟨j, h0, h2, h3, h4⟩ := findE_some nv hfe
    have e0 : i = j := by omega
    subst e0
    have hk : (((es.map (ent kk vk)).toArray[i]?).map (·.key)).getD (kk.val x) = kk.val x := by
      rw [List.getElem?_toArray, h3]; rfl
    simp only [hk, Instr.keyThatStays, hm.sb, if_true, Sem.run_bind, Sem.run_pure, Result.andThen_ok, hso]
    unfold insM
    rw [if_pos h4]
    simp only
    rw [← h2]
    simp

theorem m_map (hty : TyOk P ty) (hs : HSat β Z fp s w) (hf : FSat β s N a) {k : S → SV → Prop} {o : Oper} {T : TypeId} {x ix v : Operand}
    (hop : ∀ u w', (Instr.mapUpdate T (a.eval x) (a.eval ix) (a.eval v)).run P w = .ok u w' → (execOp a.eval o).run P w = .ok .skip w')
    (h : mapK ty T x ix v s.fr s.hp s.nx k) : LOk P β Z s w a o k := by
  unfold mapK at h
  split at h <;> try exact h.elim
  · rename_i d id kv bid hd hx hi hv
    split at h <;> try exact h.elim
    rename_i kt kk vt vk kk0 es clk cs hmp hl hcs
    split at h <;> try exact h.elim
    rename_i key hk hb1 hb2 hag
    have e1 := EK.beq_eq hb1
    have e2 := EK.beq_eq hb2
    subst e1 e2
    split at h <;> try exact h.elim
    rename_i T2 cells hbl
    split at h <;> try exact h.elim
    rename_i pid hpf
    split at h <;> try exact h.elim
    rename_i E1 k1 m hpl
    split at h <;> try exact h.elim
    rename_i e he hE
    rw [nbeq, decide_eq_true_eq] at hE
    subst hE
    simp only [delC_iff, updK_iff] at h
    obtain ⟨hex, _⟩ := ev_den hf hx
    obtain ⟨hei, _⟩ := ev_den hf hi
    obtain ⟨hev, _⟩ := ev_den hf hv
    obtain ⟨b, hb, hfb, hh⟩ := map_at hs hl
    have hm := (hty T d hd).mp _ _ _ _ hmp
    have hkv := key_val (β := β) hcs hk hag
    obtain ⟨c, hc, hfc, hch⟩ := box_at hs hbl
    have hpool : PoolOk (fp pid) w T2 k1 m := hs.obj _ _ hpl
    have hne : bid ≠ pid := by intro e; rw [e, hpl] at hbl; cases hbl
    have hne2 : id ≠ pid := by intro e; rw [e, hpl] at hl; cases hl
    have hne3 : bid ≠ id := by intro e; rw [e, hl] at hbl; cases hbl
    have hnb : ∀ b z, lkA m b = some z → b.block ≠ (⟨c, 0, none⟩ : Addr).block := by
      intro b z hq e
      have := (hpool.row _ z.1 z.2 hq).2.1
      rw [e] at this
      exact hs.sep pid bid _ _ hpl hbl (fun e => hne e.symm) _ this hfc
    have hnew : lkA m ⟨c, 0, none⟩ = none := by
      cases hq : lkA m ⟨c, 0, none⟩ with
      | none => rfl
      | some q => exact absurd rfl (hnb _ _ hq)
    have hgo := h ⟨c, 0, none⟩ hnew hnb
    have hcells : cells.map (SC.den β) = flat k1 [e] := by rw [ofSym_spec he]; simp [flat]
    have hs1 := hs.merge (p' := .pool T2 k1 ((⟨c, 0, none⟩, [e], 0) :: m)) hbl hpl hne (hpool.cons (y := ([e], 0)) hnb (fun _ _ => rfl) (fun _ hb => .inl hb) rfl (.inr hfc) ⟨[], [], by rw [hch, hcells]; simp, rfl, by simp⟩) trivial
    have hl1 : look (upd (delK s.hp bid) pid (.pool T2 k1 ((⟨c, 0, none⟩, [e], 0) :: m))) id = some (.map kk0 .adr es clk) := by
      rw [look_upd, if_neg (fun e => hne2 e.symm), look_delK, if_neg hne3, hl]
    have hmap : a.eval x = .map (some b) := by rw [hex]; simp [SV.den, SA.den, SC.den, hb]
    have hval : a.eval v = EK.adr.val (some ⟨c, 0, none⟩) := by
      rw [hev]; simp [SV.den, SA.den, SC.den, hc, Addr.add_lit]; rfl
    have hrun := hop () _ (by rw [hmap, hei, hkv, hval]; exact run_mapUpdate hm hh key (some ⟨c, 0, none⟩))
    have hbz : ¬ Z b := (hs.flt _ _ hl b hfb).2
    have hblt : b < w.heap.size := (hs.flt _ _ hl b hfb).1
    have hother : ∀ (o : Obj) (q : Nat), q ≠ b → (w.heap.setIfInBounds b o)[q]? = w.heap[q]? := fun o q hq => by rw [Array.getElem?_setIfInBounds, if_neg (fun e => hq e.symm)]
    refine ⟨_, _, .u, β, _, ⟨s.fr, upd (upd (delK s.hp bid) pid (.pool T2 k1 ((⟨c, 0, none⟩, [e], 0) :: m))) id (.map kk0 .adr (insM es clk key (some ⟨c, 0, none⟩)).1 (insM es clk key (some ⟨c, 0, none⟩)).2), s.nx⟩, hrun, .inr ⟨rfl, rfl⟩, fun _ _ => rfl,
      ⟨rfl, rfl, rfl, by simp, fun q hq => hother _ q (fun e => hbz (e ▸ hq))⟩, rfl, Nat.le_refl _, hs1.put hl1 (fun q hq => hother _ q (fun e => hq ?_)) (by simp) ?_ trivial, u_lt' _, hgo⟩
    · simp only [if_neg hne2]; rw [e]; exact hfb
    · refine ⟨b, hb, by simp only [if_neg hne2]; exact hfb, ?_⟩
      rw [Array.getElem?_setIfInBounds, if_pos rfl, if_pos hblt]
  · rename_i d id kv vv hnot hd hx hi hv
    split at h <;> try exact h.elim
    rename_i kt kk vt vk kk0 vk0 es clk cs vs hmp hl hcs hvs
    split at h <;> try exact h.elim
    rename_i key hk hb1 hb2 hag
    have e1 := EK.beq_eq hb1
    have e2 := EK.beq_eq hb2
    subst e1 e2
    split at h <;> try exact h.elim
    rename_i val hva hag2
    simp only [updK_iff] at h
    obtain ⟨hex, _⟩ := ev_den hf hx
    obtain ⟨hei, _⟩ := ev_den hf hi
    obtain ⟨hev, _⟩ := ev_den hf hv
    obtain ⟨b, hb, hfb, hh⟩ := map_at hs hl
    have hm := (hty T d hd).mp _ _ _ _ hmp
    have hkv := key_val (β := β) hcs hk hag
    have hvv := key_val (β := β) hvs hva hag2
    have hmap : a.eval x = .map (some b) := by rw [hex]; simp [SV.den, SA.den, SC.den, hb]
    have hrun := hop () _ (by rw [hmap, hei, hkv, hev, hvv]; exact run_mapUpdate hm hh key val)
    have hbz : ¬ Z b := (hs.flt _ _ hl b hfb).2
    have hblt : b < w.heap.size := (hs.flt _ _ hl b hfb).1
    have hother : ∀ (o : Obj) (q : Nat), q ≠ b → (w.heap.setIfInBounds b o)[q]? = w.heap[q]? := fun o q hq => by rw [Array.getElem?_setIfInBounds, if_neg (fun e => hq e.symm)]
    refine ⟨_, _, .u, β, _, ⟨s.fr, upd s.hp id (.map kk0 vk0 (insM es clk key val).1 (insM es clk key val).2), s.nx⟩, hrun, .inr ⟨rfl, rfl⟩, fun _ _ => rfl,
      ⟨rfl, rfl, rfl, by simp, fun q hq => hother _ q (fun e => hbz (e ▸ hq))⟩, rfl, Nat.le_refl _, hs.put hl (fun q hq => hother _ q (fun e => hq (e ▸ hfb))) (by simp) ?_ trivial, u_lt' _, h⟩
    refine ⟨b, hb, hfb, ?_⟩
    rw [Array.getElem?_setIfInBounds, if_pos rfl, if_pos hblt]

theorem mOp_sound (hty : TyOk P ty) (hs : HSat β Z fp s w) (hf : FSat β s N a) {k : S → SV → Prop} {o : Oper} (h : mOp ty o.op s k) : LOk P β Z s w a o k := by
  obtain ⟨dst, op, type, pos, after, guard⟩ := o
  have hmu : ∀ (T : Nat) (x ix v : Operand) (u : Unit) (w' : World), (Instr.mapUpdate T (a.eval x) (a.eval ix) (a.eval v)).run P w = .ok u w' →
      (execOp a.eval ⟨dst, .mapUpdate T x ix v, type, pos, after, guard⟩).run P w = .ok .skip w' ∧ (execOp a.eval ⟨dst, .insert T x ix v, type, pos, after, guard⟩).run P w = .ok .skip w' := by
    intro T x ix v u w' hr
    exact ⟨by simp only [execOp, Sem.run_bind, hr, Result.andThen_ok, Sem.run_pure], by simp only [execOp, Sem.run_bind, hr, Result.andThen_ok, Sem.run_pure]⟩
  cases op <;> try exact h.elim
  case store T x y => exact m_store hty hs hf h
  case buildSlice T n ps => exact m_build hty hs hf h
  case makeMap T r => exact m_makeMap hs h
  case range T x => exact m_range hty hs hf h
  case next x b => exact m_next hs hf h
  case insert T x ix v =>
    simp only [mOp, S.go_eq] at h
    exact m_map hty hs hf (fun u w' hr => (hmu T x ix v u w' hr).2) h
  case mapUpdate T x ix v =>
    simp only [mOp, S.go_eq] at h
    exact m_map hty hs hf (fun u w' hr => (hmu T x ix v u w' hr).1) h
  case call c =>
    obtain ⟨callee, args, argTypes⟩ := c
    cases callee <;> try exact h.elim
    rename_i bi
    cases bi <;> try exact h.elim
    exact m_append hty hs hf h

end
end Go.Fw

/-
  Single operations, regions in order.
-/
namespace Go.Fw
open Go

section
variable {P : Program} {ty : List (Nat × STy)} {β : Env} {Z : Nat → Prop} {fp : Nat → Nat → Prop} {s : S} {w : World} {N : Nat} {a : Act}

theorem lOp_sound (hty : TyOk P ty) (hs : HSat β Z fp s w) (hf : FSat β s N a) {k : S → SV → Prop} {o : Oper} (h : lOp ty o.op s k) : LOk P β Z s w a o k := by
  obtain ⟨dst, op, type, pos, after, guard⟩ := o
  cases op <;> try exact h.elim
  case box T x => exact l_box hs hf h
  case alloc T => exact l_alloc hty hs h
  case buildSlice T n ps => exact l_buildSlice hty hs hf h
  case makeSlice T l c => exact l_makeSlice hty hs hf h
  case store T x y => exact l_store hty hs hf h
  case call c =>
    obtain ⟨callee, args, argTypes⟩ := c
    cases callee <;> try exact h.elim
    rename_i bi
    cases bi <;> try exact h.elim
    case append => exact l_append hty hs hf h
    case copy => exact l_copy hty hs hf h
end

/-- What comes behind one step, at the states' level. -/
structure Nxt (β : Env) (Z : Nat → Prop) (s : S) (w : World) (v : SV) (w' : World) (β' : Env) (Z' : Nat → Prop) (fp' : Nat → Nat → Prop) (s' : S) : Prop where
  env : ∀ id, id < s.nx → β' id = β id
  ext : Ext Z w w'
  zz : ∀ b, Z b → Z' b
  fr : s'.fr = s.fr
  nx : s.nx ≤ s'.nx
  sat : HSat β' Z' fp' s' w'
  lt : v.lt s'.nx

/-- One operation, from whatever memory fits the state. -/
def Sem1 (P : Program) (N : Nat) (o : Oper) (s : S) (k : S → SV → Prop) : Prop :=
  ∀ β Z fp w a, HSat β Z fp s w → FSat β s N a → ∀ (next : Act → World → Prop) (Q : Exit → Act → World → Prop),
    (∀ v w' β' Z' fp' s', Nxt β Z s w v w' β' Z' fp' s' → k s' v → next (a.put o.dst (v.den β')) w') → o.wp P a w next Q

/-- A call. -/
@[irreducible] def CallK (P : Program) (f : Nat) (args : List SV) (ex : List Value) (s : S) (k : S → SV → Prop) : Prop :=
  (∀ args w, (callFunc f args).run P w = .ok (.enter f args) w) ∧
  ∀ β Z fp w, HSat β Z fp s w → Calls P f (args.map (SV.den β) ++ ex).toArray w fun e w' => ∃ v β' Z' fp' s', e = .returned (v.den β') ∧ Nxt β Z s w v w' β' Z' fp' s' ∧ k s' v

/-- An operation that the executor leaves to its user. -/
@[irreducible] def XOp (P : Program) (N : Nat) (o : Oper) (s : S) (k : S → SV → Prop) : Prop := Sem1 P N o s k

/-- 0: leaves the world alone; 1: makes or writes memory; 2: a call; 3: left to the user. -/
def kindOf : Op → Nat
  | .box _ _ | .alloc _ | .buildSlice _ _ _ | .makeSlice _ _ _ | .store _ _ _ | .makeMap _ _ | .insert _ _ _ _ | .mapUpdate _ _ _ _ | .range _ _ | .next _ _ => 1
  | .call { callee := .builtin .append, .. } => 1
  | .call { callee := .builtin .copy, .. } => 1
  | .call { callee := .builtin .len, .. } => 0
  | .call { callee := .value _, .. } => 2
  | .move _ | .assign _ | .pick _ _ _ | .fieldAddr _ _ _ | .load _ _ | .nilCheck _ | .binOp .. | .unOp .. | .convert .. | .indexAddr .. | .slice .. | .extract .. | .build .. | .makeFunc .. | .lookup .. | .entry _ => 0
  | _ => 3

def evL (fr : List (Nat × SV)) : List Operand → (List SV → Prop) → Prop
  | [], k => k []
  | x :: l, k => match ev fr x with
    | some v => evL fr l fun vs => k (v :: vs)
    | none => False

def ptrs : List (Nat × Nat) → List SV
  | [] => []
  | (id, off) :: l => .c (.ptr id off) :: ptrs l

def callOp (P : Program) (op : Op) (s : S) (k : S → SV → Prop) : Prop :=
  match op with
  | .call { callee := .value f, args, .. } => match ev s.fr f with
    | some (.a (.c (.fn g caps))) => evL s.fr args.toList fun vs => CallK P g (appN vs (ptrs caps)) [] s k
    | some (.a (.c (.fnv g caps))) => evL s.fr args.toList fun vs => CallK P g vs caps s k
    | _ => False
  | _ => False

def opK (P : Program) (ty : List (Nat × STy)) (N : Nat) (o : Oper) (s : S) (k : S → SV → Prop) : Prop :=
  match kindOf o.op with
  | 0 => qOp ty o.op s (k s)
  | 1 => match pooly ty s.fr o.op with
    | true => mOp ty o.op s k
    | false => lOp ty o.op s k
  | 2 => callOp P o.op s k
  | _ => XOp P N o s k

theorem evL_sound {β : Env} {s : S} {N : Nat} {a : Act} (hf : FSat β s N a) : ∀ (l : List Operand) (k : List SV → Prop), evL s.fr l k → ∃ vs : List SV, l.map a.eval = vs.map (SV.den β) ∧ k vs
  | [], k, h => ⟨[], rfl, h⟩
  | x :: l, k, h => by
    simp only [evL] at h
    split at h <;> try exact h.elim
    rename_i v hx
    obtain ⟨he, _⟩ := ev_den hf hx
    obtain ⟨vs, hvs, hk⟩ := evL_sound hf l _ h
    exact ⟨v :: vs, by simp [he, hvs], hk⟩

theorem ptrs_den (β : Env) (l : List (Nat × Nat)) : (ptrs l).map (SV.den β) = l.map fun p => Value.pointer ((β p.1).map (·.add p.2)) := by
  induction l with
  | nil => rfl
  | cons p l ih => obtain ⟨id, off⟩ := p; simp [ptrs, ih, SV.den, SA.den, SC.den]

theorem opK_sound {P : Program} {ty : List (Nat × STy)} (hty : TyOk P ty) {N : Nat} {o : Oper} {s : S} {k : S → SV → Prop} (h : opK P ty N o s k) : Sem1 P N o s k := by
  intro β Z fp w a hs hf next Q hn
  unfold opK at h
  split at h
  · obtain ⟨v, hr, hl, hk⟩ := qOp_sound hty hs hf h
    unfold Oper.wp
    rw [hr]
    exact hn v w β Z fp s ⟨fun _ _ => rfl, Ext.refl _ _, fun _ h => h, rfl, Nat.le_refl _, hs, hl⟩ hk
  · have hlk : LOk P β Z s w a o k := by
      split at h
      · exact mOp_sound hty hs hf h
      · exact lOp_sound hty hs hf h
    obtain ⟨r, w', v, β', fp', s', R⟩ := hlk
    unfold Oper.wp
    rw [R.run]
    have := hn v w' β' Z fp' s' ⟨R.env, R.ext, fun _ h => h, R.fr, R.nx, R.sat, R.lt⟩ R.go
    rcases R.val with rfl | ⟨rfl, rfl⟩
    · exact this
    · exact this
  · unfold callOp at h
    split at h <;> try exact h.elim
    rename_i op f args argTypes hop
    obtain ⟨dst, op', type, pos, after, guard⟩ := o
    simp only at hop
    subst hop
    split at h <;> try exact h.elim
    · rename_i g caps hx
      obtain ⟨he, _⟩ := ev_den hf hx
      obtain ⟨vs, hvs, hk⟩ := evL_sound hf _ _ h
      unfold CallK at hk
      obtain ⟨hcf, hc⟩ := hk
      have hc := hc β Z fp w hs
      unfold Oper.wp
      have hr : (execOp a.eval ⟨dst, .call ⟨.value f, args, argTypes⟩, type, pos, after, guard⟩).run P w = .ok (.enter g ((appN vs (ptrs caps)).map (SV.den β) ++ []).toArray) w := by
        have e1 : (args.map a.eval) ++ (caps.map fun p => Value.pointer ((β p.1).map (·.add p.2))).toArray = ((appN vs (ptrs caps)).map (SV.den β) ++ []).toArray := by
          apply Array.ext'
          simp [appN_eq, ptrs_den, hvs]
        simp only [execOp, resolve, he, SV.den, SA.den, SC.den, Deferred.ofValue, pure_bind, invoke, Array.empty_append]
        rw [hcf, e1]
      rw [hr]
      refine hc.mono ?_
      rintro e w' ⟨v, β', Z', fp', s', rfl, hnx, hk⟩
      exact hn v w' β' Z' fp' s' hnx hk
    · rename_i g caps hx
      obtain ⟨he, _⟩ := ev_den hf hx
      obtain ⟨vs, hvs, hk⟩ := evL_sound hf _ _ h
      unfold CallK at hk
      obtain ⟨hcf, hc⟩ := hk
      have hc := hc β Z fp w hs
      unfold Oper.wp
      have hr : (execOp a.eval ⟨dst, .call ⟨.value f, args, argTypes⟩, type, pos, after, guard⟩).run P w = .ok (.enter g (vs.map (SV.den β) ++ caps).toArray) w := by
        have e1 : (args.map a.eval) ++ caps.toArray = (vs.map (SV.den β) ++ caps).toArray := by
          apply Array.ext'
          simp [hvs]
        simp only [execOp, resolve, he, SV.den, SA.den, SC.den, Deferred.ofValue, pure_bind, invoke, Array.empty_append]
        rw [hcf, e1]
      rw [hr]
      refine hc.mono ?_
      rintro e w' ⟨v, β', Z', fp', s', rfl, hnx, hk⟩
      exact hn v w' β' Z' fp' s' hnx hk
  · unfold XOp at h
    exact h β Z fp w a hs hf next Q hn

end Go.Fw

/-
  One state in the place of another: with other numbers for its objects, and less said.
-/
namespace Go.Fw
open Go

def rn (ren : List (Nat × Option Nat)) (id : Nat) : Option Nat := match look ren id with
  | some r => r
  | none => some id

def eqCaps (ren : List (Nat × Option Nat)) (nx : Nat) : List (Nat × Nat) → List (Nat × Nat) → Prop
  | [], [] => True
  | (i, o) :: l, (j, p) :: m => (rn ren i = some j ∧ o = p ∧ i < nx) ∧ eqCaps ren nx l m
  | _, _ => False

def eqC (ren : List (Nat × Option Nat)) (nx : Nat) (c c' : SC) : Prop :=
  match c, c' with
  | .i n, .i m => n = m
  | .b n, .b m => n = m
  | .v x, .v y => x = y
  | .ptr i o, .ptr j p => rn ren i = some j ∧ o = p ∧ i < nx
  | .elt i sz k o, .elt j sz' k' o' => rn ren i = some j ∧ sz = sz' ∧ k = k' ∧ o = o' ∧ i < nx
  | .sl i sz lo len cap, .sl j sz' lo' len' cap' => rn ren i = some j ∧ sz = sz' ∧ lo = lo' ∧ len = len' ∧ cap = cap' ∧ i < nx
  | .sl i _ _ len cap, .v y => rn ren i = none ∧ y = .slice none 0 0 ∧ len = 0 ∧ cap = 0 ∧ i < nx
  | .fn f l, .fn g m => f = g ∧ eqCaps ren nx l m
  | .fnv f l, .fnv g m => f = g ∧ l = m
  | .u n, .u m => n = m
  | .h n, .h m => n = m
  | .q n, .q m => n = m
  | .mp i, .mp j => rn ren i = some j ∧ i < nx
  | .pe i sz a k o, .pe j sz' a' k' o' => rn ren i = some j ∧ sz = sz' ∧ a = a' ∧ k = k' ∧ o = o' ∧ i < nx
  | _, _ => False

def eqCs (ren : List (Nat × Option Nat)) (nx : Nat) : List SC → List SC → Prop
  | [], [] => True
  | c :: l, d :: m => eqC ren nx c d ∧ eqCs ren nx l m
  | _, _ => False

def eqA (ren : List (Nat × Option Nat)) (nx : Nat) : SA → SA → Prop
  | .c x, .c y => eqC ren nx x y
  | .agg l, .agg m => eqCs ren nx l m
  | _, _ => False

def eqAs (ren : List (Nat × Option Nat)) (nx : Nat) : List SA → List SA → Prop
  | [], [] => True
  | c :: l, d :: m => eqA ren nx c d ∧ eqAs ren nx l m
  | _, _ => False

def eqV (ren : List (Nat × Option Nat)) (nx : Nat) : SV → SV → Prop
  | .a x, .a y => eqA ren nx x y
  | .tup l, .tup m => eqAs ren nx l m
  | _, _ => False

def eqFr (ren : List (Nat × Option Nat)) (nx : Nat) (fr : List (Nat × SV)) : List (Nat × SV) → Prop
  | [] => True
  | (t, v) :: l => (match look fr t with
    | some u => eqV ren nx v u
    | none => False) ∧ eqFr ren nx fr l

def eqO (ren : List (Nat × Option Nat)) (nx : Nat) : SO → SO → Prop
  | .box T cs, .box T' cs' => T = T' ∧ eqCs ren nx cs cs'
  | .arr own E k xs sp, .arr own' E' k' xs' sp' => own = own' ∧ E = E' ∧ (match EK.cast k' k xs' with
    | some ys => xs = ys
    | none => False) ∧ sp = sp'
  | .gen A, .gen A' => A = A'
  | .pool E k m, .pool E' k' m' => E = E' ∧ k = k' ∧ HEq m m'
  | .map kk vk es c, .map kk' vk' es' c' => kk = kk' ∧ vk = vk' ∧ HEq es es' ∧ c = c'
  | .iter i a l b d, .iter j a' l' b' d' => rn ren i = some j ∧ a = a' ∧ l = l' ∧ b = b' ∧ d = d' ∧ i < nx
  | _, _ => False

def nilO : SO → Prop
  | .arr _ _ _ xs sp => xs = [] ∧ sp = 0
  | .pool _ _ m => m = []
  | _ => False

def eqHp (ren : List (Nat × Option Nat)) (nx : Nat) (hp : List (Nat × SO)) : List (Nat × SO) → Prop
  | [] => True
  | (id, o) :: l => (id < nx ∧ match rn ren id with
    | some j => (match look hp j with
      | some o' => eqO ren nx o o'
      | none => False)
    | none => nilO o) ∧ eqHp ren nx hp l

/-- No two objects come from one. -/
def apart (ren : List (Nat × Option Nat)) (j : Option Nat) : List (Nat × SO) → Bool
  | [] => true
  | (id, _) :: l => (match j, rn ren id with
    | some i, some i' => !Nat.beq i i'
    | _, _ => true) && apart ren j l

def apartAll (ren : List (Nat × Option Nat)) : List (Nat × SO) → Bool
  | [] => true
  | (id, _) :: l => apart ren (rn ren id) l && apartAll ren l

def keepsB (n0 : Nat) : List (Nat × Option Nat) → Bool
  | [] => true
  | (id, r) :: l => (Nat.ble n0 id || match r with
    | some j => Nat.beq j id
    | none => false) && keepsB n0 l

structure Sub (n0 : Nat) (ren : List (Nat × Option Nat)) (s1 s : S) : Prop where
  ok : (apartAll ren s1.hp && keepsB n0 ren && Nat.ble n0 s1.nx) = true
  fr : eqFr ren s1.nx s.fr s1.fr
  hp : eqHp ren s1.nx s.hp s1.hp

def renE (ren : List (Nat × Option Nat)) (β : Env) : Env := fun id => match rn ren id with
  | some j => β j
  | none => none

theorem renE_some {ren : List (Nat × Option Nat)} {β : Env} {i j : Nat} (h : rn ren i = some j) : renE ren β i = β j := by unfold renE; rw [h]

theorem eqCaps_spec {ren : List (Nat × Option Nat)} {nx : Nat} {β : Env} : ∀ {l m : List (Nat × Nat)}, eqCaps ren nx l m →
    (l.map fun p => Value.pointer ((renE ren β p.1).map (·.add p.2))) = (m.map fun p => Value.pointer ((β p.1).map (·.add p.2))) ∧ ∀ p ∈ l, p.1 < nx
  | [], [], _ => ⟨rfl, by simp⟩
  | (i, o) :: l, (j, p) :: m, h => by
    obtain ⟨⟨h1, h2, h3⟩, h⟩ := h
    obtain ⟨e1, e2⟩ := eqCaps_spec (β := β) h
    subst h2
    refine ⟨by simp only [List.map_cons, renE_some h1, e1], ?_⟩
    intro q hq
    simp only [List.mem_cons] at hq
    rcases hq with rfl | hq
    · exact h3
    · exact e2 q hq
  | [], _ :: _, h => h.elim
  | _ :: _, [], h => h.elim

theorem eqC_spec {ren : List (Nat × Option Nat)} {nx n : Nat} {β : Env} {c d : SC} (h : eqC ren nx c d) (hd : d.lt n) : c.den (renE ren β) = d.den β ∧ c.lt nx := by
  unfold eqC at h
  split at h <;> try exact h.elim
  · subst h; exact ⟨rfl, trivial⟩
  · subst h; exact ⟨rfl, trivial⟩
  · subst h; exact ⟨rfl, hd⟩
  · obtain ⟨h1, rfl, h3⟩ := h
    exact ⟨by simp [SC.den, renE, h1], h3⟩
  · obtain ⟨h1, rfl, rfl, rfl, h3⟩ := h
    exact ⟨by simp [SC.den, renE, h1], h3⟩
  · obtain ⟨h1, rfl, rfl, rfl, rfl, h3⟩ := h
    exact ⟨by simp [SC.den, renE, h1], h3⟩
  · obtain ⟨h1, rfl, rfl, rfl, h3⟩ := h
    exact ⟨by simp [SC.den, renE, h1], h3⟩
  · obtain ⟨rfl, h⟩ := h
    obtain ⟨e1, e2⟩ := eqCaps_spec (β := β) h
    exact ⟨by simp [SC.den, e1], e2⟩
  · obtain ⟨rfl, rfl⟩ := h
    exact ⟨rfl, trivial⟩
  · subst h; exact ⟨rfl, trivial⟩
  · subst h; exact ⟨rfl, trivial⟩
  · subst h; exact ⟨rfl, trivial⟩
  · obtain ⟨h1, h3⟩ := h
    exact ⟨by simp [SC.den, renE, h1], h3⟩
  · obtain ⟨_, rfl, rfl, rfl, rfl, h3⟩ := h
    exact ⟨rfl, h3⟩

theorem eqCs_spec {ren : List (Nat × Option Nat)} {nx n : Nat} {β : Env} : ∀ {l m : List SC}, eqCs ren nx l m → (∀ c ∈ m, SC.lt n c) → l.map (SC.den (renE ren β)) = m.map (SC.den β) ∧ ∀ c ∈ l, SC.lt nx c
  | [], [], _, _ => ⟨rfl, by simp⟩
  | c :: l, d :: m, h, hm => by
    obtain ⟨e1, e2⟩ := eqC_spec (β := β) h.1 (hm d (by simp))
    obtain ⟨f1, f2⟩ := eqCs_spec (β := β) h.2 (fun c hc => hm c (by simp [hc]))
    refine ⟨by simp [e1, f1], ?_⟩
    intro x hx
    simp only [List.mem_cons] at hx
    rcases hx with rfl | hx
    · exact e2
    · exact f2 x hx
  | [], _ :: _, h, _ => h.elim
  | _ :: _, [], h, _ => h.elim

theorem eqA_spec {ren : List (Nat × Option Nat)} {nx n : Nat} {β : Env} {x y : SA} (h : eqA ren nx x y) (hy : y.lt n) : x.den (renE ren β) = y.den β ∧ x.lt nx := by
  unfold eqA at h
  split at h <;> try exact h.elim
  · exact eqC_spec h hy
  · obtain ⟨e1, e2⟩ := eqCs_spec (β := β) h hy
    exact ⟨by simp [SA.den, e1], e2⟩

theorem eqAs_spec {ren : List (Nat × Option Nat)} {nx n : Nat} {β : Env} : ∀ {l m : List SA}, eqAs ren nx l m → (∀ c ∈ m, SA.lt n c) → l.map (SA.den (renE ren β)) = m.map (SA.den β) ∧ ∀ c ∈ l, SA.lt nx c
  | [], [], _, _ => ⟨rfl, by simp⟩
  | c :: l, d :: m, h, hm => by
    obtain ⟨e1, e2⟩ := eqA_spec (β := β) h.1 (hm d (by simp))
    obtain ⟨f1, f2⟩ := eqAs_spec (β := β) h.2 (fun c hc => hm c (by simp [hc]))
    refine ⟨by simp [e1, f1], ?_⟩
    intro x hx
    simp only [List.mem_cons] at hx
    rcases hx with rfl | hx
    · exact e2
    · exact f2 x hx
  | [], _ :: _, h, _ => h.elim
  | _ :: _, [], h, _ => h.elim

theorem eqV_spec {ren : List (Nat × Option Nat)} {nx n : Nat} {β : Env} {x y : SV} (h : eqV ren nx x y) (hy : y.lt n) : x.den (renE ren β) = y.den β ∧ x.lt nx := by
  unfold eqV at h
  split at h <;> try exact h.elim
  · exact eqA_spec h hy
  · obtain ⟨e1, e2⟩ := eqAs_spec (β := β) h hy
    exact ⟨by simp [SV.den, e1], e2⟩

theorem eqFr_look {ren : List (Nat × Option Nat)} {nx : Nat} {fr : List (Nat × SV)} : ∀ {l : List (Nat × SV)}, eqFr ren nx fr l → ∀ t v, look l t = some v → ∃ u, look fr t = some u ∧ eqV ren nx v u
  | [], _, t, v, h => by cases h
  | (t', v') :: l, h, t, v, hl => by
    rw [look_cons] at hl
    split at hl
    · rename_i e
      subst e
      cases hl
      have h1 := h.1
      split at h1
      · rename_i u hu; exact ⟨u, hu, h1⟩
      · exact h1.elim
    · exact eqFr_look h.2 t v hl

theorem eqHp_look {ren : List (Nat × Option Nat)} {nx : Nat} {hp : List (Nat × SO)} : ∀ {l : List (Nat × SO)}, eqHp ren nx hp l → ∀ id o, look l id = some o →
    id < nx ∧ ((∃ j o', rn ren id = some j ∧ look hp j = some o' ∧ eqO ren nx o o') ∨ (rn ren id = none ∧ nilO o))
  | [], _, t, v, h => by cases h
  | (t', v') :: l, h, t, v, hl => by
    rw [look_cons] at hl
    split at hl
    · rename_i e
      subst e
      cases hl
      obtain ⟨h0, h1⟩ := h.1
      refine ⟨h0, ?_⟩
      split at h1
      · rename_i j hj
        split at h1
        · rename_i o' ho'; exact .inl ⟨j, o', hj, ho', h1⟩
        · exact h1.elim
      · rename_i hj; exact .inr ⟨hj, h1⟩
    · exact eqHp_look h.2 t v hl

theorem apart_spec {ren : List (Nat × Option Nat)} {i : Nat} : ∀ {l : List (Nat × SO)}, apart ren (some i) l = true → ∀ id o, look l id = some o → rn ren id ≠ some i
  | [], _, t, v, h => by cases h
  | (t', v') :: l, h, t, v, hl => by
    simp only [apart, Bool.and_eq_true] at h
    rw [look_cons] at hl
    split at hl
    · rename_i e
      subst e
      intro e
      have h1 := h.1
      rw [e] at h1
      simp at h1
    · exact apart_spec h.2 t v hl

theorem apartAll_spec {ren : List (Nat × Option Nat)} : ∀ {l : List (Nat × SO)}, apartAll ren l = true → ∀ id id' o o' i, look l id = some o → look l id' = some o' → id ≠ id' → rn ren id = some i → rn ren id' ≠ some i
  | [], _, _, _, _, _, _, h, _, _, _ => by cases h
  | (t, v) :: l, h, id, id', o, o', i, h1, h2, hne, hr => by
    simp only [apartAll, Bool.and_eq_true] at h
    rw [look_cons] at h1 h2
    split at h1 <;> split at h2
    · rename_i e1 e2; exact absurd (e1.symm.trans e2) hne
    · rename_i e1 e2
      subst e1
      rw [hr] at h
      exact apart_spec h.1 _ _ h2
    · rename_i e1 e2
      subst e2
      intro e
      rw [e] at h
      exact apart_spec h.1 _ _ h1 hr
    · exact apartAll_spec h.2 id id' o o' i h1 h2 hne hr

theorem keeps_spec {n0 : Nat} : ∀ {l : List (Nat × Option Nat)}, keepsB n0 l = true → ∀ id, id < n0 → rn l id = some id
  | [], _, id, _ => rfl
  | (t, r) :: l, h, id, hid => by
    simp only [keepsB, Bool.and_eq_true, Bool.or_eq_true] at h
    unfold rn
    rw [look_cons]
    by_cases e : t = id
    · subst e
      rw [if_pos rfl]
      rcases h.1 with h1 | h1
      · rw [nble, decide_eq_true_eq] at h1; omega
      · cases r with
        | none => cases h1
        | some j =>
          simp only [nbeq, decide_eq_true_eq] at h1
          rw [h1]
    · rw [if_neg e]
      exact keeps_spec h.2 id hid

theorem eqO_ok {ren : List (Nat × Option Nat)} {nx n : Nat} {β : Env} {Z fp : Nat → Prop} {w : World} {oa : Option Addr} {o o' : SO} (h : eqO ren nx o o') (ho : o'.ok β Z fp w oa) (hlt : o'.lt n) :
    o.ok (renE ren β) Z fp w oa ∧ o.lt nx := by
  unfold eqO at h
  split at h <;> try exact h.elim
  · obtain ⟨rfl, h⟩ := h
    obtain ⟨e1, e2⟩ := eqCs_spec (β := β) h hlt
    obtain ⟨b, h1, h2, h3⟩ := ho
    exact ⟨⟨b, h1, h2, by rw [h3, e1]⟩, e2⟩
  · rename_i own E k xs sp own' E' k' xs' sp'
    obtain ⟨rfl, rfl, h, rfl⟩ := h
    split at h
    · rename_i ys hc
      obtain ⟨e, he⟩ := EK.cast_spec hc
      subst e
      change ys = xs' at he
      subst he
      subst h
      exact ⟨ho, trivial⟩
    · exact h.elim
  · subst h; exact ⟨ho, trivial⟩
  · obtain ⟨rfl, rfl, h⟩ := h
    cases h
    exact ⟨ho, trivial⟩
  · obtain ⟨rfl, rfl, h, rfl⟩ := h
    cases h
    exact ⟨ho, trivial⟩
  · obtain ⟨h1, rfl, rfl, rfl, rfl, h3⟩ := h
    obtain ⟨b, r, g1, g2, g3, g4⟩ := ho
    exact ⟨⟨b, r, g1, g2, by rw [renE_some h1]; exact g3, g4⟩, h3⟩

theorem Sub.sat {n0 : Nat} {ren : List (Nat × Option Nat)} {s1 s : S} (h : Sub n0 ren s1 s) {β : Env} {Z : Nat → Prop} {fp : Nat → Nat → Prop} {w : World} {a : Act} {N : Nat}
    (hs : HSat β Z fp s w) (hf : FSat β s N a) : HSat (renE ren β) Z (fun id b => ∃ j, rn ren id = some j ∧ fp j b) s1 w ∧ FSat (renE ren β) s1 N a ∧ (∀ id, id < n0 → renE ren β id = β id) ∧ n0 ≤ s1.nx := by
  have hok := h.ok
  simp only [Bool.and_eq_true] at hok
  obtain ⟨⟨hap, hk⟩, hn⟩ := hok
  rw [nble, decide_eq_true_eq] at hn
  refine ⟨⟨hs.zlt, ?_, ?_, ?_, ?_⟩, ⟨?_, ?_, hf.size, hf.defers⟩, ?_, hn⟩
  · rintro id o hl b ⟨j, hj, hb⟩
    obtain ⟨_, h1 | h1⟩ := eqHp_look h.hp id o hl
    · obtain ⟨j', o', hj', hl', _⟩ := h1
      rw [hj] at hj'
      cases hj'
      exact hs.flt _ _ hl' b hb
    · rw [hj] at h1; cases h1.1
  · rintro id id' o o' hl hl' hne b ⟨j, hj, hb⟩ ⟨j', hj', hb'⟩
    have hjj : j ≠ j' := fun e => apartAll_spec hap id id' o o' j hl hl' hne hj (e ▸ hj')
    obtain ⟨_, h1 | h1⟩ := eqHp_look h.hp id o hl
    · obtain ⟨i, oi, hi, hli, _⟩ := h1
      obtain ⟨_, h2 | h2⟩ := eqHp_look h.hp id' o' hl'
      · obtain ⟨i', oi', hi', hli', _⟩ := h2
        rw [hj] at hi
        rw [hj'] at hi'
        cases hi
        cases hi'
        exact hs.sep j j' _ _ hli hli' hjj b hb hb'
      · rw [hj'] at h2; cases h2.1
    · rw [hj] at h1; cases h1.1
  · intro id o hl
    obtain ⟨_, h1 | h1⟩ := eqHp_look h.hp id o hl
    · obtain ⟨j, o', hj, hl', he⟩ := h1
      have := (eqO_ok he (hs.obj _ _ hl') (hs.lto _ _ hl').2).1
      have e1 : renE ren β id = β j := by simp [renE, hj]
      have e2 : (fun b => ∃ j, rn ren id = some j ∧ fp j b) = fp j := by
        funext b
        apply propext
        constructor
        · rintro ⟨i, hi, hb⟩; rw [hj] at hi; cases hi; exact hb
        · intro hb; exact ⟨j, hj, hb⟩
      rw [e1, e2]
      exact this
    · have e1 : renE ren β id = none := by simp [renE, h1.1]
      rw [e1]
      cases o with
      | arr own E k xs sp => exact h1.2
      | pool E k m =>
        have hm : m = [] := h1.2
        subst hm
        exact ⟨(fun a xs sp hl => by cases hl), (fun a a' x x' hl => by cases hl)⟩
      | box T cs => exact h1.2.elim
      | gen A => exact h1.2.elim
      | map kk vk es c => exact h1.2.elim
      | iter a b c d e => exact h1.2.elim
  · intro id o hl
    obtain ⟨h0, h1 | h1⟩ := eqHp_look h.hp id o hl
    · obtain ⟨j, o', hj, hl', he⟩ := h1
      exact ⟨h0, (eqO_ok he (hs.obj _ _ hl') (hs.lto _ _ hl').2).2⟩
    · refine ⟨h0, ?_⟩
      cases o with
      | arr own E k xs sp => trivial
      | pool E k m => trivial
      | box T cs => exact h1.2.elim
      | gen A => exact h1.2.elim
      | map kk vk es c => exact h1.2.elim
      | iter a b c d e => exact h1.2.elim
  · intro t v hl
    obtain ⟨u, hu, he⟩ := eqFr_look h.fr t v hl
    rw [hf.tmp t u hu, (eqV_spec (β := β) he (hf.lt t u hu)).1]
  · intro t v hl
    obtain ⟨u, hu, he⟩ := eqFr_look h.fr t v hl
    exact (eqV_spec (β := β) he (hf.lt t u hu)).2
  · intro id hid
    simp [renE, keeps_spec hk id hid]

end Go.Fw

/-
  Regions in order, control, calls entered.
-/
namespace Go.Fw
open Go

structure Ctx where
  w0 : World
  Z0 : Nat → Prop
  β0 : Env
  n0 : Nat
  N : Nat

structure Cok (C : Ctx) (β : Env) (Z : Nat → Prop) (s : S) (w : World) : Prop where
  zz : ∀ b, C.Z0 b → Z b
  ext : Ext C.Z0 C.w0 w
  env : ∀ id, id < C.n0 → β id = C.β0 id
  nx : C.n0 ≤ s.nx

/-- The state speaks of what is. -/
def Sat (C : Ctx) (s : S) (a : Act) (w : World) : Prop := ∃ β Z fp, HSat β Z fp s w ∧ FSat β s C.N a ∧ Cok C β Z s w

def S.putK (N : Nat) (dst : Option Nat) (v : SV) (s : S) (k : S → Prop) : Prop := match dst with
  | none => k s
  | some d => match Nat.blt d N with
    | true => s.go fun fr hp nx => updK fr d v fun fr' => k ⟨fr', hp, nx⟩
    | false => False

/-- The guard: run, or pass over. -/
def guardK (whole : List Oper) (g : Option (Nat × Bool)) (s : S) (kt kf : S → Prop) : Prop := match g with
  | none => kt s
  | some (j, want) => match nthN whole j with
    | some oj => match oj.dst with
      | some d => s.go fun fr hp nx => match look fr d with
        | some (.a (.c (.b c))) => condP c
          (updK fr d (.b true) fun fr' => match want with
            | true => kt ⟨fr', hp, nx⟩
            | false => kf ⟨fr', hp, nx⟩)
          (updK fr d (.b false) fun fr' => match want with
            | true => kf ⟨fr', hp, nx⟩
            | false => kt ⟨fr', hp, nx⟩)
        | some (.tup []) => kf s
        | _ => False
      | none => False
    | none => False

theorem blt_iff (a b : Nat) : Nat.blt a b = decide (a < b) := by
  rw [Bool.eq_iff_iff]; simp [Nat.blt]; omega

theorem putK_sound {C : Ctx} {β : Env} {Z : Nat → Prop} {s s' : S} {w w' : World} {a : Act} {v : SV} {β' : Env} {Z' : Nat → Prop} {fp' : Nat → Nat → Prop}
    (hf : FSat β s C.N a) (hc : Cok C β Z s w) (hn : Nxt β Z s w v w' β' Z' fp' s') {dst : Option Nat} {k : S → Prop} (h : S.putK C.N dst v s' k) :
    ∃ s'', k s'' ∧ Sat C s'' (a.put dst (v.den β')) w' := by
  have hc' : ∀ s'' : S, s''.nx = s'.nx → Cok C β' Z' s'' w' := fun s'' e => ⟨fun b hb => hn.zz b (hc.zz b hb), Ext.trans hc.ext hn.ext hc.zz, fun id hid => (hn.env id (Nat.lt_of_lt_of_le hid hc.nx)).trans (hc.env id hid), by
    have := hc.nx; have := hn.nx; omega⟩
  have hfr : ∀ t u, look s'.fr t = some u → a.tmps[t]? = some (u.den β') ∧ u.lt s'.nx := by
    intro t u ht
    rw [hn.fr] at ht
    have hl := hf.lt t u ht
    exact ⟨by rw [hf.tmp t u ht, SV.den_congr hn.env hl], SV.lt_mono hn.nx hl⟩
  cases dst with
  | none =>
    exact ⟨s', h, β', Z', fp', hn.sat, ⟨fun t u ht => (hfr t u ht).1, fun t u ht => (hfr t u ht).2, hf.size, hf.defers⟩, hc' s' rfl⟩
  | some d =>
    simp only [S.putK] at h
    split at h <;> try exact h.elim
    rename_i hd
    rw [blt_iff, decide_eq_true_eq] at hd
    rw [S.go_eq, updK_iff] at h
    refine ⟨_, h, β', Z', fp', ⟨hn.sat.zlt, hn.sat.flt, hn.sat.sep, hn.sat.obj, hn.sat.lto⟩, ⟨?_, ?_, by simp [Act.put, hf.size], hf.defers⟩, hc' _ rfl⟩
    · intro t u ht
      rw [look_upd] at ht
      simp only [Act.put, Array.getElem?_setIfInBounds]
      split at ht
      · rename_i e
        subst e
        cases ht
        simp [hf.size, hd]
      · rename_i e
        rw [if_neg e]
        exact (hfr t u ht).1
    · intro t u ht
      rw [look_upd] at ht
      split at ht
      · cases ht; exact hn.lt
      · exact (hfr t u ht).2

/-- A slot's Bool, known. -/
theorem Sat.set {C : Ctx} {s : S} {a : Act} {w : World} (h : Sat C s a w) {d : Nat} {c c' : Bool} (hl : look s.fr d = some (.b c)) (e : c = c') : Sat C ⟨upd s.fr d (.b c'), s.hp, s.nx⟩ a w := by
  obtain ⟨β, Z, fp, hs, hf, hc⟩ := h
  refine ⟨β, Z, fp, ⟨hs.zlt, hs.flt, hs.sep, hs.obj, hs.lto⟩, ⟨?_, ?_, hf.size, hf.defers⟩, ⟨hc.zz, hc.ext, hc.env, hc.nx⟩⟩
  · intro t u ht
    rw [look_upd] at ht
    split at ht
    · rename_i e'
      subst e'
      cases ht
      rw [hf.tmp _ _ hl, e]
    · exact hf.tmp t u ht
  · intro t u ht
    rw [look_upd] at ht
    split at ht
    · cases ht; trivial
    · exact hf.lt t u ht

theorem guardK_sound {C : Ctx} {whole : List Oper} {g : Option (Nat × Bool)} {s : S} {a : Act} {w : World} {kt kf : S → Prop} (h : guardK whole g s kt kf) (hs : Sat C s a w) (o : Oper) (ho : o.guard = g) :
    (Region.wanted o (yielded whole.toArray a.tmps) = true ∧ ∃ s', kt s' ∧ Sat C s' a w) ∨ (Region.wanted o (yielded whole.toArray a.tmps) = false ∧ ∃ s', kf s' ∧ Sat C s' a w) := by
  unfold guardK at h
  split at h
  · left
    exact ⟨by simp [Region.wanted, ho], s, h, hs⟩
  · rename_i j want
    split at h <;> try exact h.elim
    rename_i oj hoj
    rw [nthN_eq] at hoj
    split at h <;> try exact h.elim
    rename_i d hd
    have hy : ∀ v, a.tmps[d]? = some v → yielded whole.toArray a.tmps j = match v with
        | .bool b => some b
        | _ => none := by
      intro v hv
      unfold yielded
      simp only [List.getElem?_toArray, hoj, Option.bind_some, hd, hv]
      cases v <;> rfl
    have hs' := hs
    obtain ⟨β, Z, fp, hh, hf, hc⟩ := hs
    rw [S.go_eq] at h
    split at h <;> try exact h.elim
    · rename_i c hl
      rw [condP_iff, updK_iff, updK_iff] at h
      have hy' : yielded whole.toArray a.tmps j = some c := hy _ (hf.tmp _ _ hl)
      have hw : Region.wanted o (yielded whole.toArray a.tmps) = (some c == some want) := by simp [Region.wanted, ho, hy']
      rw [hw]
      have hc1 := hs'.set hl rfl
      cases c with
      | true =>
        rw [if_pos rfl] at h
        cases want with
        | true => exact .inl ⟨rfl, _, h, hc1⟩
        | false => exact .inr ⟨rfl, _, h, hc1⟩
      | false =>
        rw [if_neg (by simp)] at h
        cases want with
        | true => exact .inr ⟨rfl, _, h, hc1⟩
        | false => exact .inl ⟨rfl, _, h, hc1⟩
    · rename_i hl
      right
      have hy' : yielded whole.toArray a.tmps j = none := hy _ (hf.tmp _ _ hl)
      exact ⟨by simp [Region.wanted, ho, hy'], s, h, hs'⟩

section
variable (P : Program) (ty : List (Nat × STy)) (N : Nat)

def runOps (whole : List Oper) : List Oper → S → (S → Prop) → Prop
  | [], s, k => k s
  | o :: rest, s, k => guardK whole o.guard s
    (fun s' => opK P ty N o s' fun s'' v => S.putK N o.dst v s'' fun s3 => runOps whole rest s3 k)
    (fun s' => S.putK N o.dst .u s' fun s3 => runOps whole rest s3 k)
end

theorem Nxt.refl {β : Env} {Z : Nat → Prop} {fp : Nat → Nat → Prop} {s : S} {w : World} (hs : HSat β Z fp s w) {v : SV} (hl : v.lt s.nx) : Nxt β Z s w v w β Z fp s :=
  ⟨fun _ _ => rfl, Ext.refl _ _, fun _ h => h, rfl, Nat.le_refl _, hs, hl⟩

theorem u_lt (n : Nat) : SV.u.lt n := by intro c hc; cases hc

theorem runOps_sound {P : Program} {ty : List (Nat × STy)} (hty : TyOk P ty) {C : Ctx} (whole : List Oper) {Q : Exit → Act → World → Prop} : ∀ (l : List Oper) (s : S) (k : S → Prop) (a : Act) (w : World),
    runOps P ty C.N whole l s k → Sat C s a w → (∀ s a w, k s → Sat C s a w → Q .normal a w) → wpList P whole.toArray Q l a w
  | [], s, k, a, w, h, hs, hQ => hQ s a w h hs
  | o :: rest, s, k, a, w, h, hs, hQ => by
    simp only [runOps] at h
    unfold wpList
    rcases guardK_sound h hs o rfl with ⟨hw, s', hk, hs'⟩ | ⟨hw, s', hk, hs'⟩
    · rw [if_pos hw]
      left
      have h1 := opK_sound hty hk
      obtain ⟨β, Z, fp, hh, hf, hc⟩ := hs'
      refine h1 β Z fp w a hh hf _ _ ?_
      intro v w' β' Z' fp' s'' hn hk'
      obtain ⟨s3, hk3, hs3⟩ := putK_sound hf hc hn hk'
      exact runOps_sound hty whole rest s3 k _ _ hk3 hs3 hQ
    · rw [if_neg (by rw [hw]; simp)]
      obtain ⟨β, Z, fp, hh, hf, hc⟩ := hs'
      obtain ⟨s3, hk3, hs3⟩ := putK_sound (v := .u) hf hc (Nxt.refl hh (u_lt _)) hk
      exact runOps_sound hty whole rest s3 k _ _ hk3 hs3 hQ

end Go.Fw

/-
  Control; a call entered.
-/
namespace Go.Fw
open Go

/-- A region whose order is drawn. -/
@[irreducible] def DrawX (P : Program) (N n0 : Nat) (ops : Array Oper) (s : S) (kn : S → Prop) : Prop :=
  ∀ (C : Ctx) (id : Nat) (a : Act) (w : World) (Q : Exit → Act → World → Prop), C.N = N → C.n0 = n0 → Sat C s a w → (∀ s a w, kn s → Sat C s a w → Q .normal a w) → (Code.region id ops true).wp P Q a w

/-- A loop: what holds at each round's head, and what goes down. -/
@[irreducible] def LoopK (n0 : Nat) (F : (S → Prop) → S → Prop) (s : S) : Prop :=
  ∃ (α : Type) (pat : α → S) (inv : α → Prop) (μ : α → Nat), (∃ x ren, Sub n0 ren (pat x) s ∧ inv x) ∧
    ∀ x, inv x → F (fun s' => ∃ x' ren, Sub n0 ren (pat x') s' ∧ inv x' ∧ μ x' < μ x) (pat x)

def memN : Nat → List Nat → Bool
  | _, [] => false
  | a, b :: l => match Nat.beq a b with
    | true => true
    | false => memN a l

def keepK (n : Nat) (live : List Nat) : List (Nat × SV) → (List (Nat × SV) → Prop) → Prop
  | [], k => k []
  | (t, v) :: l, k => match Nat.blt t n with
    | true => keepK n live l fun l' => k ((t, v) :: l')
    | false => match memN t live with
      | true => keepK n live l fun l' => k ((t, v) :: l')
      | false => keepK n live l k

def keptB (n : Nat) (live : List Nat) (t : Nat) : Bool := match Nat.blt t n with
  | true => true
  | false => memN t live

def keepF (n : Nat) (live : List Nat) : List (Nat × SV) → List (Nat × SV)
  | [] => []
  | (t, v) :: l => match keptB n live t with
    | true => (t, v) :: keepF n live l
    | false => keepF n live l

theorem keepK_iff (n : Nat) (live : List Nat) : ∀ (fr : List (Nat × SV)) (k : List (Nat × SV) → Prop), keepK n live fr k ↔ k (keepF n live fr)
  | [], k => Iff.rfl
  | (t, v) :: l, k => by
    simp only [keepK, keepF, keptB]
    cases Nat.blt t n with
    | true => exact keepK_iff n live l _
    | false =>
      simp only
      cases memN t live with
      | true => exact keepK_iff n live l _
      | false => exact keepK_iff n live l _

theorem look_keepF (n : Nat) (live : List Nat) : ∀ (fr : List (Nat × SV)) (u : Nat), look (keepF n live fr) u = match keptB n live u with
    | true => look fr u
    | false => none
  | [], u => by simp only [keepF, look]; split <;> rfl
  | (t, v) :: l, u => by
    have ih := look_keepF n live l u
    simp only [keepF]
    by_cases e : t = u
    · subst e
      cases hk : keptB n live t with
      | true => simp [look_cons]
      | false => rw [hk] at ih; simpa using ih
    · cases hk : keptB n live t with
      | true => simp only [look_cons, if_neg e]; exact ih
      | false => simp only [look_cons, if_neg e]; exact ih

theorem look_keep {n : Nat} {live : List Nat} {fr : List (Nat × SV)} {u : Nat} {v : SV} (h : look (keepF n live fr) u = some v) : look fr u = some v := by
  rw [look_keepF] at h
  split at h
  · exact h
  · cases h

theorem Sat.keep {C : Ctx} {s : S} {a : Act} {w : World} (h : Sat C s a w) (n : Nat) (live : List Nat) : Sat C ⟨keepF n live s.fr, s.hp, s.nx⟩ a w := by
  obtain ⟨β, Z, fp, hs, hf, hc⟩ := h
  exact ⟨β, Z, fp, ⟨hs.zlt, hs.flt, hs.sep, hs.obj, hs.lto⟩, ⟨fun t v ht => hf.tmp t v (look_keep ht), fun t v ht => hf.lt t v (look_keep ht), hf.size, hf.defers⟩, ⟨hc.zz, hc.ext, hc.env, hc.nx⟩⟩

section
variable (P : Program) (ty : List (Nat × STy)) (N n0 n : Nat) (live : List Nat)

def exec : Code → (S → Prop) → (S → Prop) → (Nat → S → Prop) → S → Prop
  | .skip, kn, _, _, s => kn s
  | .label _, kn, _, _, s => kn s
  | .region _ ops false, kn, _, _, s => s.go fun fr hp nx => keepK n live fr fun fr' => runOps P ty N ops.toList ops.toList ⟨fr', hp, nx⟩ kn
  | .region _ ops true, kn, _, _, s => s.go fun fr hp nx => keepK n live fr fun fr' => DrawX P N n0 ops ⟨fr', hp, nx⟩ kn
  | .seq a b, kn, kr, ke, s => exec a (fun s' => exec b kn kr ke s') kr ke s
  | .cond c x y, kn, kr, ke, s => match ev s.fr c with
    | some (.a (.c (.b b))) => condP b (exec x kn kr ke s) (exec y kn kr ke s)
    | _ => False
  | .block id c, kn, kr, ke, s => exec c kn kr (fun i s' => match Nat.beq i id with
    | true => kn s'
    | false => ke i s') s
  | .exit id, _, _, ke, s => ke id s
  | .ret, _, kr, _, s => kr s
  | .loop c, _, kr, ke, s => s.go fun fr hp nx => keepK n live fr fun fr' => LoopK n0 (fun k s' => exec c k kr ke s') ⟨fr', hp, nx⟩
  | _, _, _, _, _ => False
end

def QOf (C : Ctx) (kn kr : S → Prop) (ke : Nat → S → Prop) : Exit → Act → World → Prop
  | .normal, a, w => ∃ s, kn s ∧ Sat C s a w
  | .ret, a, w => ∃ s, kr s ∧ Sat C s a w
  | .exit i, a, w => ∃ s, ke i s ∧ Sat C s a w
  | _, _, _ => False

theorem wp_loop_ghost {P : Program} {c : Code} {Q : Exit → Act → World → Prop} {a : Act} {w : World} {α : Type} (I : α → Act → World → Prop) (μ : α → Nat) (x0 : α) (h₀ : I x0 a w)
    (round : ∀ x a w, I x a w → c.wp P (Exit.then (fun a' w' => ∃ x', I x' a' w' ∧ μ x' < μ x) Q) a w) : (Code.loop c).wp P Q a w := by
  intro b k cs
  have key : ∀ n x a w, μ x = n → I x a w →
      ∃ e a' w', Q e a' w' ∧ Arrives P (lone (b.at a (.code c :: .inLoop c :: k)) cs w) b k cs e a' w' := by
    intro n
    induction n using Nat.strongRecOn with
    | _ n ih =>
      intro x a w hn hI
      obtain ⟨e, a₁, w₁, hq, harr⟩ := round x a w hI b (.inLoop c :: k) cs
      cases e with
      | normal =>
        obtain ⟨x', hI₁, hlt⟩ := hq
        obtain ⟨e₂, a₂, w₂, hq₂, harr₂⟩ := ih (μ x') (hn ▸ hlt) x' a₁ w₁ rfl hI₁
        exact ⟨e₂, a₂, w₂, hq₂, .of_steps (Steps.trans harr (.one step_inLoop)) harr₂⟩
      | exit id => exact ⟨_, a₁, w₁, hq, .pass (x := .inLoop c) rfl (fun _ _ => .inl (by simp)) harr⟩
      | goto l => exact ⟨_, a₁, w₁, hq, .pass (x := .inLoop c) rfl (fun _ _ => .inl (by simp)) harr⟩
      | ret => exact ⟨_, a₁, w₁, hq, .pass (x := .inLoop c) rfl (fun _ _ => .inl (by simp)) harr⟩
      | panic ch => exact ⟨_, a₁, w₁, hq, .pass (x := .inLoop c) rfl (fun _ _ => .inl (by simp)) harr⟩
      | outgrown => exact ⟨_, a₁, w₁, hq, .pass (x := .inLoop c) rfl (fun _ _ => .inl (by simp)) harr⟩
  obtain ⟨e, a', w', hq, harr⟩ := key _ x0 a w rfl h₀
  exact ⟨e, a', w', hq, .of_steps (.one step_loop) harr⟩

theorem Sat.sub {C : Ctx} {s s1 : S} {a : Act} {w : World} (h : Sat C s a w) {ren : List (Nat × Option Nat)} (hsub : Sub C.n0 ren s1 s) : Sat C s1 a w := by
  obtain ⟨β, Z, fp, hs, hf, hc⟩ := h
  obtain ⟨h1, h2, h3, h4⟩ := hsub.sat hs hf
  exact ⟨_, Z, _, h1, h2, ⟨hc.zz, hc.ext, fun id hid => (h3 id hid).trans (hc.env id hid), h4⟩⟩

theorem exec_sound {P : Program} {ty : List (Nat × STy)} (hty : TyOk P ty) {n : Nat} {live : List Nat} {C : Ctx} : ∀ (c : Code) (kn kr : S → Prop) (ke : Nat → S → Prop) (s : S) (a : Act) (w : World),
    exec P ty C.N C.n0 n live c kn kr ke s → Sat C s a w → c.wp P (QOf C kn kr ke) a w
  | .skip, kn, kr, ke, s, a, w, h, hs => wp_skip ⟨s, h, hs⟩
  | .label _, kn, kr, ke, s, a, w, h, hs => wp_label ⟨s, h, hs⟩
  | .region id ops false, kn, kr, ke, s, a, w, h, hs => by
    simp only [exec] at h
    rw [S.go_eq, keepK_iff] at h
    refine wp_region_list ?_
    have := runOps_sound hty (C := C) ops.toList (Q := QOf C kn kr ke) ops.toList _ kn a w h (hs.keep n live) (fun s a w hk hs => ⟨s, hk, hs⟩)
    simpa using this
  | .region id ops true, kn, kr, ke, s, a, w, h, hs => by
    simp only [exec] at h
    rw [S.go_eq, keepK_iff] at h
    unfold DrawX at h
    exact h C id a w _ rfl rfl (hs.keep n live) (fun s a w hk hs => ⟨s, hk, hs⟩)
  | .seq x y, kn, kr, ke, s, a, w, h, hs => by
    simp only [exec] at h
    refine wp_seq (wp_mono (exec_sound hty x _ kr ke s a w h hs) ?_)
    intro e a w hq
    cases e <;> first
      | exact hq
      | (obtain ⟨s', hk, hs'⟩ := hq; exact exec_sound hty y kn kr ke s' a w hk hs')
  | .cond c x y, kn, kr, ke, s, a, w, h, hs => by
    simp only [exec] at h
    split at h <;> try exact h.elim
    rename_i b hb
    rw [condP_iff] at h
    have he : a.eval c = .bool b := by
      obtain ⟨β, Z, fp, hh, hf, hc⟩ := hs
      exact (ev_den hf hb).1
    refine wp_cond he ?_
    split at h
    · rename_i hb'
      rw [if_pos hb']
      exact exec_sound hty x kn kr ke s a w h hs
    · rename_i hb'
      rw [if_neg hb']
      exact exec_sound hty y kn kr ke s a w h hs
  | .block id c, kn, kr, ke, s, a, w, h, hs => by
    simp only [exec] at h
    refine wp_block (wp_mono (exec_sound hty c _ kr _ s a w h hs) ?_)
    intro e a w hq
    cases e <;> try exact hq
    rename_i i
    obtain ⟨s', hk, hs'⟩ := hq
    simp only [Exit.inBlock]
    rw [nbeq] at hk
    by_cases hi : i = id
    · rw [if_pos hi]
      simp only [hi, decide_true] at hk
      exact ⟨s', hk, hs'⟩
    · rw [if_neg hi]
      simp only [hi, decide_false] at hk
      exact ⟨s', hk, hs'⟩
  | .exit id, kn, kr, ke, s, a, w, h, hs => wp_exit ⟨s, h, hs⟩
  | .ret, kn, kr, ke, s, a, w, h, hs => wp_ret ⟨s, h, hs⟩
  | .loop c, kn, kr, ke, s, a, w, h, hs => by
    simp only [exec] at h
    rw [S.go_eq, keepK_iff] at h
    unfold LoopK at h
    obtain ⟨α, pat, inv, μ, ⟨x0, ren, hsub, hinv⟩, hround⟩ := h
    refine wp_loop_ghost (fun x a w => inv x ∧ Sat C (pat x) a w) μ x0 ⟨hinv, (hs.keep n live).sub hsub⟩ ?_
    rintro x a w ⟨hi, hsat⟩
    refine wp_mono (exec_sound hty c _ kr ke _ a w (hround x hi) hsat) ?_
    intro e a w hq
    cases e <;> first
      | exact hq
      | (obtain ⟨s', ⟨x', ren', hsub', hi', hlt⟩, hs'⟩ := hq; exact ⟨x', ⟨hi', hs'.sub hsub'⟩, hlt⟩)

/-! ### Results -/
def resK (ty : List (Nat × STy)) (s : S) : List ResultVar → (List SA → Prop) → Prop
  | [], k => k []
  | .tmp t :: l, k => match look s.fr t with
    | some (.a x) => resK ty s l fun r => k (x :: r)
    | _ => False
  | .cell t T :: l, k => match look ty T, look s.fr t with
    | some d, some (.a (.c (.ptr id 0))) => match look s.hp id with
      | some (.box _ cells) => match d.agg, Nat.ble (lenN d.zero) (lenN cells) with
        | true, true => forceC (takeN cells (lenN d.zero)) fun c => resK ty s l fun r => k (.agg c :: r)
        | false, _ => match cells with
          | c :: _ => resK ty s l fun r => k (.c c :: r)
          | [] => False
        | _, _ => False
      | _ => False
    | _, _ => False

def retK (ty : List (Nat × STy)) (rs : List ResultVar) (post : SV → S → Prop) (s : S) : Prop := resK ty s rs fun r => match r with
  | [x] => post (.a x) s
  | r => post (.tup r) s

def resOne (tmps : Array Value) : ResultVar → Sem Value
  | .tmp t => pure (tmps.getD t undef)
  | .cell a t => do loadVar t (← asAddr (tmps.getD a undef))

theorem resK_sound {P : Program} {ty : List (Nat × STy)} (hty : TyOk P ty) {β : Env} {Z : Nat → Prop} {fp : Nat → Nat → Prop} {s : S} {w : World} {N : Nat} {a : Act} (hs : HSat β Z fp s w) (hf : FSat β s N a) :
    ∀ (l : List ResultVar) (k : List SA → Prop), resK ty s l k → ∃ r : List SA, k r ∧ (∀ x ∈ r, SA.lt s.nx x) ∧
      (l.mapM (resOne a.tmps)).run P w = .ok (r.map (SA.den β)) w
  | [], k, h => ⟨[], h, by simp, by simp⟩
  | .tmp t :: l, k, h => by
    simp only [resK] at h
    split at h <;> try exact h.elim
    rename_i x hx
    obtain ⟨r, hk, hl, hr⟩ := resK_sound hty hs hf l _ h
    refine ⟨x :: r, hk, ?_, ?_⟩
    · intro y hy
      simp only [List.mem_cons] at hy
      rcases hy with rfl | hy
      · exact hf.lt t _ hx
      · exact hl y hy
    · have h1 := hf.tmp t _ hx
      simp only [List.mapM_cons, resOne, pure_bind, Sem.run_bind, hr, Result.andThen_ok, Sem.run_pure, List.map_cons]
      simp [Array.getD_eq_getD_getElem?, h1, SV.den]
  | .cell t T :: l, k, h => by
    simp only [resK] at h
    split at h <;> try exact h.elim
    rename_i d id hd hx
    split at h <;> try exact h.elim
    rename_i T' cells hl
    obtain ⟨b, hb, _, _⟩ := box_at hs hl
    have hcl : ∀ c ∈ cells, SC.lt s.nx c := (hs.lto id _ hl).2
    have h1 := hf.tmp t _ hx
    have h2 : a.tmps.getD t undef = .pointer (some ⟨b, 0, none⟩) := by
      simp [Array.getD_eq_getD_getElem?, h1, SV.den, SA.den, SC.den, hb, Addr.add_lit]
    have hload := run_isAgg_load (w := w) (hty T d hd) ⟨b, 0, none⟩
    have hload' : (do loadVar T (← asAddr (a.tmps.getD t undef)) : Sem Value).run P w = (Instr.loadAt T (.pointer (some ⟨b, 0, none⟩))).run P w := by
      rw [h2]; rfl
    rw [hload] at hload'
    have fin : ∀ (x : SA), (resK ty s l fun r => k (x :: r)) → x.lt s.nx → (Instr.loadAt T (.pointer (some ⟨b, 0, none⟩))).run P w = .ok (x.den β) w →
        ∃ r : List SA, k r ∧ (∀ x ∈ r, SA.lt s.nx x) ∧
          ((ResultVar.cell t T :: l).mapM (resOne a.tmps)).run P w = .ok (r.map (SA.den β)) w := by
      intro x hx' hlt hrun
      obtain ⟨r, hk, hll, hr⟩ := resK_sound hty hs hf l _ hx'
      refine ⟨x :: r, hk, ?_, ?_⟩
      · intro y hy
        simp only [List.mem_cons] at hy
        rcases hy with rfl | hy
        · exact hlt
        · exact hll y hy
      · rw [hload, ← hload'] at hrun
        rw [List.mapM_cons, Sem.run_bind]
        simp only [resOne] at hrun ⊢
        rw [hrun]
        simp only [Result.andThen_ok, Sem.run_bind, hr, Sem.run_pure, List.map_cons]
    split at h <;> try exact h.elim
    · rename_i hagg hlen
      rw [nble, lenN_eq, lenN_eq, decide_eq_true_eq] at hlen
      rw [forceC_iff, takeN_eq, lenN_eq] at h
      refine fin _ h (fun c hc => hcl c (List.mem_of_mem_take hc)) ?_
      rw [hload, hagg]
      have := run_loadCells_list (P := P) w ⟨b, 0, none⟩ ((cells.take d.zero.length).map (SC.den β)) (fun j v hj => by
        rw [List.getElem?_map] at hj
        obtain ⟨c, hc, rfl⟩ := Option.map_eq_some_iff.1 hj
        rw [Addr.add_lit, Nat.zero_add]
        refine box_cell hs hl hb _ _ ?_
        rw [List.getElem?_take] at hc
        split at hc
        · exact hc
        · cases hc)
      rw [List.length_map, List.length_take, Nat.min_eq_left hlen] at this
      simp only [this, Result.andThen_ok, SA.den]
    · rename_i hagg
      cases cells with
      | nil => exact h.elim
      | cons c rest =>
        refine fin (.c c) h (hcl c (by simp)) ?_
        rw [hload, hagg]
        simp [run_load, box_cell hs hl hb 0 c (by simp), SA.den]

def enumL : Nat → List SV → List (Nat × SV)
  | _, [] => []
  | n, v :: l => (n, v) :: enumL (n + 1) l

theorem look_enumL : ∀ (l : List SV) (n t : Nat) (v : SV), look (enumL n l) t = some v → n ≤ t ∧ l[t - n]? = some v
  | [], n, t, v, h => by cases h
  | x :: l, n, t, v, h => by
    simp only [enumL, look_cons] at h
    split at h
    · rename_i e
      subst e
      cases h
      simp
    · rename_i e
      obtain ⟨h1, h2⟩ := look_enumL l (n + 1) t v h
      refine ⟨by omega, ?_⟩
      rw [show t - n = (t - (n + 1)) + 1 by omega, List.getElem?_cons_succ]
      exact h2

/-- A call of a function of the program, by its text. -/
theorem entry {P : Program} {ty : List (Nat × STy)} (hty : TyOk P ty) {f : FuncId} {fn : Func} {c : Code} {R : Ending → World → Prop} (n : Nat) (live : List Nat) (avs : List SV) (hp : List (Nat × SO)) (nx : Nat) (post : SV → S → Prop)
    {β : Env} {Z : Nat → Prop} {fp : Nat → Nat → Prop} {w : World} (hf : P.funcs[f]? = some fn) (hb : fn.body = some c) (hs : HSat β Z fp ⟨[], hp, nx⟩ w) (hlt : ∀ v ∈ avs, SV.lt nx v) (hn : avs.length ≤ fn.ntmps)
    {fr : List (Nat × SV)} (hfr : fr = enumL 0 avs)
    (hex : exec P ty fn.ntmps nx n live c (retK ty fn.results.toList post) (retK ty fn.results.toList post) (fun _ _ => False) ⟨fr, hp, nx⟩)
    (hR : ∀ v w' β' Z' fp' s', Nxt β Z ⟨[], hp, nx⟩ w v w' β' Z' fp' ⟨[], s'.hp, s'.nx⟩ → post v s' → R (.returned (v.den β')) w') :
    Calls P f (avs.map (SV.den β)).toArray w R := by
  subst hfr
  refine calls_of_wp hf hb ?_
  let C : Ctx := ⟨w, Z, β, nx, fn.ntmps⟩
  have hsat : Sat C ⟨enumL 0 avs, hp, nx⟩ { tmps := (avs.map (SV.den β)).toArray ++ Array.replicate (fn.ntmps - (avs.map (SV.den β)).toArray.size) undef, defers := [] } w := by
    refine ⟨β, Z, fp, ⟨hs.zlt, hs.flt, hs.sep, hs.obj, hs.lto⟩, ⟨?_, ?_, ?_, rfl⟩, ⟨fun _ h => h, Ext.refl _ _, fun _ _ => rfl, Nat.le_refl _⟩⟩
    · intro t v ht
      obtain ⟨_, h2⟩ := look_enumL avs 0 t v ht
      rw [Nat.sub_zero] at h2
      have hlt' : t < avs.length := (List.getElem?_eq_some_iff.1 h2).1
      rw [Array.getElem?_append_left (by simpa using hlt')]
      simp [h2]
    · intro t v ht
      obtain ⟨_, h2⟩ := look_enumL avs 0 t v ht
      exact hlt v (List.mem_of_getElem? h2)
    · show _ = fn.ntmps
      simp; omega
  have hmain := exec_sound hty (C := C) c _ _ _ _ _ _ hex hsat
  have hres : ∀ s a w', retK ty fn.results.toList post s → Sat C s a w' → a.defers = [] ∧ ∃ v, (results fn a.tmps).run P w' = .ok v w' ∧ R (.returned v) w' := by
    intro s a w' hr hsat'
    obtain ⟨β', Z', fp', hs', hf', hc'⟩ := hsat'
    refine ⟨hf'.defers, ?_⟩
    obtain ⟨r, hk, hl, hrun⟩ := resK_sound hty hs' hf' _ _ hr
    have hnxt : ∀ v : SV, v.lt s.nx → Nxt β Z ⟨[], hp, nx⟩ w v w' β' Z' fp' ⟨[], s.hp, s.nx⟩ := fun v hv =>
      ⟨hc'.env, hc'.ext, hc'.zz, rfl, hc'.nx, ⟨hs'.zlt, hs'.flt, hs'.sep, hs'.obj, hs'.lto⟩, hv⟩
    have hrun2 : (results fn a.tmps).run P w' = .ok (if h : (r.map (SA.den β')).toArray.size = 1 then (r.map (SA.den β')).toArray[0] else .tuple (r.map (SA.den β')).toArray) w' := by
      have e1 : results fn a.tmps = (do let vs ← fn.results.mapM (resOne a.tmps); pure (if h : vs.size = 1 then vs[0] else .tuple vs)) := rfl
      rw [e1, Sem.run_bind, Array.mapM_eq_mapM_toList]
      simp only [Sem.run_map, hrun, Result.andThen_ok, Sem.run_pure]
    match r, hk, hl, hrun2 with
    | [x], hk, hl, hrun2 =>
      refine ⟨_, hrun2, ?_⟩
      have := hR (.a x) w' β' Z' fp' s (hnxt (.a x) (hl x (by simp))) hk
      simpa [SV.den] using this
    | [], hk, hl, hrun2 =>
      refine ⟨_, hrun2, ?_⟩
      have := hR (.tup []) w' β' Z' fp' s (hnxt (.tup []) hl) hk
      simpa [SV.den] using this
    | x :: y :: r, hk, hl, hrun2 =>
      refine ⟨_, hrun2, ?_⟩
      have := hR (.tup (x :: y :: r)) w' β' Z' fp' s (hnxt (.tup (x :: y :: r)) hl) hk
      rw [dif_neg (by simp)]
      exact this
  refine wp_mono hmain ?_
  intro e a w' hq
  cases e with
  | normal => obtain ⟨s, hr, hs'⟩ := hq; exact hres s a w' hr hs'
  | ret => obtain ⟨s, hr, hs'⟩ := hq; exact hres s a w' hr hs'
  | exit i => obtain ⟨s, hr, _⟩ := hq; exact hr.elim
  | goto l => exact hq.elim
  | panic ch => exact hq.elim
  | outgrown => exact hq.elim

end Go.Fw
