/-
  Pools and maps: the soundness of the operations that make or write them.
-/
import Derived.Test.YtdijmfdanbnppaaDoorS02
import Derived.Tactics

set_option linter.unusedSimpArgs false
set_option linter.unusedVariables false

namespace Go.Fw
open Go
open Go.ChangeMaps (setBlock)

/-! ### Lists by addresses -/
theorem lkA_setA {α : Type} (a : Addr) (y : α) : ∀ (m : List (Addr × α)) (b : Addr), lkA (setA m a y) b = (lkA m b).map fun x => if b = a then y else x
  | [], b => rfl
  | (c, x) :: m, b => by
    have ih := lkA_setA a y m b
    unfold setA at ih ⊢
    simp only [List.map_cons]
    by_cases hca : c = a
    · subst hca
      simp only [if_true, lkA]
      by_cases hcb : c = b
      · subst hcb; simp
      · rw [if_neg hcb, if_neg hcb]; exact ih
    · simp only [if_neg hca, lkA]
      by_cases hcb : c = b
      · subst hcb; simp [hca]
      · rw [if_neg hcb, if_neg hcb]; exact ih

section
variable {P : Program} {ty : List (Nat × STy)} {β : Env} {Z : Nat → Prop} {fp : Nat → Nat → Prop} {s : S} {w : World} {N : NT} {a : Act}

theorem PoolOk.set {f : Nat → Prop} {w' : World} {E : Nat} {k : EK} {m : List (Addr × List k.ty × Nat)} (h : PoolOk f w E k m) {x : Addr} {y y' : List k.ty × Nat} (hl : lkA m x = some y)
    (hw : ∀ b, b ≠ x.block → f b → w'.heap[b]? = w.heap[b]?) (hh : ∃ pre post, w'.heap[x.block]? = some (.cells (pre ++ flat k y'.1 ++ post).toArray E (0, 0)) ∧ pre.length = x.off ∧ y'.2 * k.sz ≤ post.length) : PoolOk f w' E k (setA m x y') := by
  obtain ⟨s1, f1, _⟩ := h.row x y.1 y.2 hl
  refine ⟨fun b xs sp hb => ?_, fun b b' z z' hb hb' hbb => ?_⟩
  · rw [lkA_setA] at hb
    by_cases e : b = x
    · subst e
      rw [hl] at hb
      simp only [Option.map_some, if_true, Option.some.injEq] at hb
      subst hb
      exact ⟨s1, f1, hh⟩
    · obtain ⟨q, hq, hq2⟩ := Option.map_eq_some_iff.1 hb
      rw [if_neg e] at hq2
      subst hq2
      obtain ⟨t1, t2, pre, post, t3, t4, t5⟩ := h.row b xs sp hq
      exact ⟨t1, t2, pre, post, by rw [hw _ (fun e2 => e (h.one _ _ _ _ hq hl e2)) t2, t3], t4, t5⟩
  · rw [lkA_setA] at hb hb'
    obtain ⟨q, hq, _⟩ := Option.map_eq_some_iff.1 hb
    obtain ⟨q', hq', _⟩ := Option.map_eq_some_iff.1 hb'
    exact h.one _ _ _ _ hq hq' hbb

theorem PoolOk.cons {f g : Nat → Prop} {w' : World} {E : Nat} {k : EK} {m : List (Addr × List k.ty × Nat)} (h : PoolOk f w E k m) {x : Addr} {y : List k.ty × Nat} (hb : ∀ b z, lkA m b = some z → b.block ≠ x.block)
    (hw : ∀ b, f b → w'.heap[b]? = w.heap[b]?) (hfg : ∀ b, f b → g b) (hs : x.spot = none) (hg : g x.block) (hh : ∃ pre post, w'.heap[x.block]? = some (.cells (pre ++ flat k y.1 ++ post).toArray E (0, 0)) ∧ pre.length = x.off ∧ y.2 * k.sz ≤ post.length) : PoolOk g w' E k ((x, y) :: m) := by
  refine ⟨fun b xs sp hl => ?_, fun b b' z z' hl hl' hbb => ?_⟩
  · simp only [lkA] at hl
    split at hl
    · rename_i e
      subst e
      cases hl
      exact ⟨hs, hg, hh⟩
    · obtain ⟨t1, t2, pre, post, t3, t4, t5⟩ := h.row b xs sp hl
      exact ⟨t1, hfg _ t2, pre, post, by rw [hw _ t2, t3], t4, t5⟩
  · simp only [lkA] at hl hl'
    split at hl <;> split at hl'
    · rename_i e e'; exact e.symm.trans e'
    · rename_i e _; subst e; exact absurd hbb.symm (hb _ _ hl')
    · rename_i _ e; subst e; exact absurd hbb (hb _ _ hl)
    · exact h.one _ _ _ _ hl hl' hbb

/-- One object turned, with new blocks of its own. -/
theorem HSat.grow (hs : HSat β Z fp s w) {id : Nat} {o o' : SO} (hl : look s.hp id = some o) {w' : World} {q : Nat → Prop} (hw : ∀ b, b < w.heap.size → ¬ fp id b → w'.heap[b]? = w.heap[b]?) (hsz : w.heap.size ≤ w'.heap.size)
    (hq : ∀ b, q b → (fp id b ∨ w.heap.size ≤ b) ∧ b < w'.heap.size) (ho : o'.ok β Z q w' (β id)) (hlt : o'.lt s.nx) : HSat β Z (fun i => if i = id then q else fp i) ⟨s.fr, upd s.hp id o', s.nx⟩ w' := by
  have hlook : ∀ id' o'', look (upd s.hp id o') id' = some o'' → (id' = id ∧ o'' = o') ∨ (id' ≠ id ∧ look s.hp id' = some o'') := by
    intro id' o'' h
    rw [look_upd] at h
    split at h
    · rename_i e; exact .inl ⟨e.symm, by cases h; rfl⟩
    · rename_i e; exact .inr ⟨fun e2 => e e2.symm, h⟩
  have hqz : ∀ b, q b → ¬ Z b := by
    intro b hb hz
    rcases (hq b hb).1 with h | h
    · exact (hs.flt id o hl b h).2 hz
    · have := hs.zlt b hz; omega
  have hqo : ∀ b id' o'', q b → id' ≠ id → look s.hp id' = some o'' → ¬ fp id' b := by
    intro b id' o'' hb hne hl' hf
    rcases (hq b hb).1 with h | h
    · exact hs.sep id id' o o'' hl hl' (fun e => hne e.symm) b h hf
    · have := (hs.flt id' o'' hl' b hf).1; omega
  refine ⟨⟨hs.zlt'.1, fun b hb => Nat.lt_of_lt_of_le (hs.zlt b hb) hsz⟩, ?_, ?_, ?_, ?_⟩
  · intro id' o'' h b hb
    rcases hlook _ _ h with ⟨rfl, rfl⟩ | ⟨hne, h'⟩
    · simp only [if_true] at hb; exact ⟨(hq b hb).2, hqz b hb⟩
    · simp only [if_neg hne] at hb
      have := hs.flt _ _ h' b hb
      exact ⟨by omega, this.2⟩
  · intro i j oi oj hi hj hij b hb hb'
    rcases hlook _ _ hi with ⟨rfl, rfl⟩ | ⟨h1, h1'⟩ <;> rcases hlook _ _ hj with ⟨rfl, rfl⟩ | ⟨h2, h2'⟩
    · exact hij rfl
    · simp only [if_true] at hb
      simp only [if_neg h2] at hb'
      exact hqo b j _ hb h2 h2' hb'
    · simp only [if_true] at hb'
      simp only [if_neg h1] at hb
      exact hqo b i _ hb' h1 h1' hb
    · simp only [if_neg h1] at hb
      simp only [if_neg h2] at hb'
      exact hs.sep i j _ _ h1' h2' hij b hb hb'
  · intro id' o'' h
    rcases hlook _ _ h with ⟨rfl, rfl⟩ | ⟨hne, h'⟩
    · simp only [if_true]; exact ho
    · simp only [if_neg hne]
      refine SO.ok_mono (hs.obj _ _ h') (hs.lto _ _ h').2 (fun _ _ => rfl) (fun _ h => h) ?_ hsz hs.zlt'.1
      intro b hb
      rcases hb with hb | hb
      · exact hw b (hs.zlt b hb) (fun hf => (hs.flt _ _ hl b hf).2 hb)
      · exact hw b (hs.flt _ _ h' b hb).1 (fun hf => hs.sep id id' _ _ hl h' (fun e => hne e.symm) b hf hb)
  · intro id' o'' h
    rcases hlook _ _ h with ⟨rfl, rfl⟩ | ⟨hne, h'⟩
    · exact ⟨(hs.lto _ _ hl).1, hlt⟩
    · exact hs.lto _ _ h'

/-- One object goes into another one. -/
theorem HSat.merge (hs : HSat β Z fp s w) {id pid : Nat} {o p p' : SO} (hl : look s.hp id = some o) (hp : look s.hp pid = some p) (hne : id ≠ pid) (ho : p'.ok β Z (fun b => fp pid b ∨ fp id b) w (β pid)) (hlt : p'.lt s.nx) :
    HSat β Z (fun i => if i = pid then (fun b => fp pid b ∨ fp id b) else fp i) ⟨s.fr, upd (delK s.hp id) pid p', s.nx⟩ w := by
  have hlook : ∀ id' o'', look (upd (delK s.hp id) pid p') id' = some o'' → (id' = pid ∧ o'' = p') ∨ (id' ≠ pid ∧ id ≠ id' ∧ look s.hp id' = some o'') := by
    intro id' o'' h
    rw [look_upd] at h
    split at h
    · rename_i e; exact .inl ⟨e.symm, by cases h; rfl⟩
    · rename_i e
      rw [look_delK] at h
      split at h
      · cases h
      · rename_i e2; exact .inr ⟨fun e3 => e e3.symm, e2, h⟩
  refine ⟨hs.zlt', ?_, ?_, ?_, ?_⟩
  · intro id' o'' h b hb
    rcases hlook _ _ h with ⟨rfl, rfl⟩ | ⟨h1, h2, h'⟩
    · simp only [if_true] at hb
      rcases hb with hb | hb
      · exact hs.flt _ _ hp b hb
      · exact hs.flt _ _ hl b hb
    · simp only [if_neg h1] at hb
      exact hs.flt _ _ h' b hb
  · intro i j oi oj hi hj hij b hb hb'
    rcases hlook _ _ hi with ⟨rfl, rfl⟩ | ⟨h1, h1e, h1'⟩ <;> rcases hlook _ _ hj with ⟨rfl, rfl⟩ | ⟨h2, h2e, h2'⟩
    · exact hij rfl
    · simp only [if_true] at hb
      simp only [if_neg h2] at hb'
      rcases hb with hb | hb
      · exact hs.sep i j _ _ hp h2' hij b hb hb'
      · exact hs.sep id j _ _ hl h2' h2e b hb hb'
    · simp only [if_true] at hb'
      simp only [if_neg h1] at hb
      rcases hb' with hb' | hb'
      · exact hs.sep i j _ _ h1' hp hij b hb hb'
      · exact hs.sep id i _ _ hl h1' h1e b hb' hb
    · simp only [if_neg h1] at hb
      simp only [if_neg h2] at hb'
      exact hs.sep i j _ _ h1' h2' hij b hb hb'
  · intro id' o'' h
    rcases hlook _ _ h with ⟨rfl, rfl⟩ | ⟨h1, h2, h'⟩
    · simp only [if_true]; exact ho
    · simp only [if_neg h1]; exact hs.obj _ _ h'
  · intro id' o'' h
    rcases hlook _ _ h with ⟨rfl, rfl⟩ | ⟨h1, h2, h'⟩
    · exact ⟨(hs.lto _ _ hp).1, hlt⟩
    · exact hs.lto _ _ h'

theorem u_lt' (n : Nat) : SV.u.lt n := by intro c hc; cases hc

theorem m_store (hty : TyOk P ty) (hs : HSat β Z fp s w) (hf : FSat β s N a) {k : S → SV → Prop} {dst : Option Nat} {T : TypeId} {x y : Operand} {type : TypeId} {pos : String}
    {after : Array Edge} {guard : Option (Nat × Bool)} (h : mOp ty (.store T x y) s k) : LOk P β Z s w a ⟨dst, .store T x y, type, pos, after, guard⟩ k := by
  simp only [mOp, S.go_eq] at h
  split at h <;> try exact h.elim
  rename_i d id sz q i off v hd hx hy
  split at h <;> try exact h.elim
  rename_i E ek m cs hl hcs
  split at h <;> try exact h.elim
  rename_i hlen hsz
  rw [nbeq, lenN_eq, lenN_eq, decide_eq_true_eq] at hlen
  rw [nbeq, decide_eq_true_eq] at hsz
  subst hsz
  obtain ⟨hi, h⟩ := h
  obtain ⟨hex, _⟩ := ev_den hf hx
  obtain ⟨hey, hlt⟩ := ev_den hf hy
  obtain ⟨hc, hcl⟩ := cells_cs (β := β) hcs hlt
  obtain ⟨x', yy, rfl, hla, hra⟩ := rowA_lt hi
  rw [hra] at hi h
  have hpool : PoolOk (fp id) w E ek m := hs.obj _ _ hl
  obtain ⟨hsp, hfp, pre, post, hh, hpre, hpost⟩ := hpool.row x' yy.1 yy.2 hla
  have hil : i * ek.sz + ek.sz ≤ (flat ek yy.1).length := by
    rw [flat_length, ← Nat.succ_mul]; exact Nat.mul_le_mul_right _ hi
  have hput : ∀ e, putA m (some x') i e = setA m x' (yy.1.set i e, yy.2) := by
    intro e; unfold putA; simp [hla]
  have hrun : ∀ (vs : List Value), cs.map (SC.den β) = vs → i * ek.sz + off + vs.length ≤ (flat ek yy.1).length →
      (execOp a.eval ⟨dst, .store T x y, type, pos, after, guard⟩).run P w =
        .ok .skip (w.setRow x'.block (pre ++ ((flat ek yy.1).take (i * ek.sz + off) ++ vs ++ (flat ek yy.1).drop (i * ek.sz + off + vs.length)) ++ post).toArray) := by
    intro vs hvs hfit
    have hr := run_storeAt (P := P) (w := w) (hty T d hd) (b := x'.block) (off := x'.off + (i * ek.sz + off)) (cur := pre ++ flat ek yy.1 ++ post) (vs := vs) hh (by rw [← hvs]; simpa using hlen)
      (by simp only [List.length_append]; omega)
      (by intro v hv; rw [← hvs] at hv; obtain ⟨c, hc', rfl⟩ := List.mem_map.1 hv; exact SC.den_one (hcl c hc')) (by rw [← hvs]; exact hc)
    have hex' : a.eval x = .pointer (some ⟨x'.block, x'.off + (i * ek.sz + off), none⟩) := by rw [hex]; simp [SV.den, SA.den, SC.den, add_eq hsp]
    simp only [execOp, hex', hey, Sem.run_bind, hr, Result.andThen_ok, Sem.run_pure]
    rw [take_app pre (flat ek yy.1) post _ (i * ek.sz + off) (by omega) (by omega), drop_app pre (flat ek yy.1) post _ (i * ek.sz + off + vs.length) (by omega) (by omega)]
    simp [List.append_assoc]
  have fin : ∀ (vs : List Value) (e : ek.ty), cs.map (SC.den β) = vs → i * ek.sz + off + vs.length ≤ (flat ek yy.1).length →
      flat ek (yy.1.set i e) = (flat ek yy.1).take (i * ek.sz + off) ++ vs ++ (flat ek yy.1).drop (i * ek.sz + off + vs.length) →
      k ⟨s.fr, upd s.hp id (.pool E ek (putA m (some x') i e)), s.nx⟩ .u → LOk P β Z s w a ⟨dst, .store T x y, type, pos, after, guard⟩ k := by
    intro vs e hvs hfit hfl hk
    refine l_put (ob' := .pool E ek (putA m (some x') i e)) hs hl hfp (hrun vs hvs hfit) ?_ trivial hk
    rw [hput]
    refine hpool.set hla (fun b hb _ => setRow_other w _ b _ hb) ⟨pre, post, ?_, hpre, hpost⟩
    rw [setRow_heap w _ _ _ E _ hh, hfl]
  split at h
  · rename_i hagg
    split at h <;> try exact h.elim
    rename_i e h0 he
    rw [nbeq, decide_eq_true_eq] at h0
    subst h0
    rw [updK_iff] at h
    have hcl' := ofSym_spec (β := β) he
    have hcsz := EK.cells_length ek e
    refine fin (ek.cells e) e hcl' (by omega) ?_ h
    rw [flat_set ek e yy.1 i hi, hcsz]; rfl
  · rename_i hagg
    split at h <;> try exact h.elim
    rename_i c
    split at h <;> try exact h.elim
    rename_i e he
    rw [updK_iff] at h
    obtain ⟨he1, he2⟩ := setF_spec (β := β) he
    refine fin [c.den β] e rfl (by simp only [List.length_singleton]; omega) ?_ h
    rw [flat_setF ek e off _ he2 yy.1 i hi he1, set_take_drop _ _ _ (by omega)]
    rfl

theorem m_append (hty : TyOk P ty) (hs : HSat β Z fp s w) (hf : FSat β s N a) {k : S → SV → Prop} {dst : Option Nat} {args : Array Operand} {argTypes : Array TypeId} {type : TypeId} {pos : String}
    {after : Array Edge} {guard : Option (Nat × Bool)} (h : mOp ty (.call ⟨.builtin .append, args, argTypes⟩) s k) : LOk P β Z s w a ⟨dst, .call ⟨.builtin .append, args, argTypes⟩, type, pos, after, guard⟩ k := by
  simp only [mOp, S.go_eq] at h
  split at h <;> try exact h.elim
  rename_i x y T T' h1 h2
  have ha : args = #[x, y] := by apply Array.ext'; simp [h1]
  have hat : argTypes = #[T, T'] := by apply Array.ext'; simp [h2]
  subst ha hat
  split at h <;> try exact h.elim
  rename_i d hdr u hT hd hx hy
  rw [nbeq, decide_eq_true_eq] at hT
  subst hT
  split at h <;> try exact h.elim
  rename_i E ek bytes hsl
  split at h <;> try exact h.elim
  rename_i id hp
  split at h <;> try exact h.elim
  rename_i E0 k0 m hl
  split at h <;> try exact h.elim
  rename_i hb1 hE0
  have e1 := EK.beq_eq hb1
  rw [nbeq, decide_eq_true_eq] at hE0
  subst e1 hE0
  obtain ⟨hu, hE, i, z, hi, hz, hisz, hib, hzc⟩ := (hty T d hd).sl _ _ _ hsl
  obtain ⟨hex, hltx⟩ := ev_den hf hx
  obtain ⟨hey, hlty⟩ := ev_den hf hy
  have hrun : ∀ r w', (Builtin.append_ #[T, T] type #[.slice hdr.a hdr.n hdr.c, u.den β]).run P w = .ok r w' →
      (execOp a.eval ⟨dst, .call ⟨.builtin .append, #[x, y], #[T, T]⟩, type, pos, after, guard⟩).run P w = .ok (.value r) w' := by
    intro r w' hr
    have hex' : a.eval x = .slice hdr.a hdr.n hdr.c := hex
    simp [execOp, resolve, invoke, builtin, hex', hey, hr]
  obtain ⟨n, ys, h, hsrc⟩ := srcK_sound hs h
  obtain ⟨⟨hd, hb, h63⟩, h⟩ := h
  simp only [updK_iff] at h
  have hpool : PoolOk (fp id) w E0 k0 m := hs.obj _ _ hl
  have hplt : id < s.nx := (hs.lto _ _ hl).1
  have hnew : lkA m ⟨w.heap.size, 0, none⟩ = none := by
    cases hq : lkA m ⟨w.heap.size, 0, none⟩ with
    | none => rfl
    | some q =>
      have := (hs.flt _ _ hl _ (hpool.row _ q.1 q.2 hq).2.1).1
      exact absurd this (Nat.lt_irrefl _)
  have hnb : ∀ b z, lkA m b = some z → b.block ≠ (⟨w.heap.size, 0, none⟩ : Addr).block := by
    intro b z hq e
    have := (hs.flt _ _ hl _ (hpool.row _ z.1 z.2 hq).2.1).1
    rw [e] at this
    exact absurd this (Nat.lt_irrefl _)
  -- a new block
  have out : ∀ olds : List k0.ty, olds = rowA m hdr.a → hdr.c < hdr.n + n → (Builtin.firstCells i.size hdr.n (.slice hdr.a hdr.n hdr.c)).run P w.drew = .ok (flat k0 olds).toArray w.drew →
      LOk P β Z s w a ⟨dst, .call ⟨.builtin .append, #[x, y], #[T, T]⟩, type, pos, after, guard⟩ k := by
    intro olds ho hroom hold
    have hr := hrun _ _ (run_append_out (w := w) (base := hdr.a) (len := hdr.n) (cap := hdr.c) (olds := flat k0 olds) hu hi hz (fun w => hsrc.lenOf) (by rw [hisz]; exact hsrc.first (fun _ => rfl)) hold hroom (by omega)
      (by rw [hib]; exact growslice_fits (by omega) (by simpa using hb)) type)
    have hg := grownCap_ge w (hdr.n + n) hdr.c E0
    have hgo := h _ _ (App.fresh (m := m) (x := hdr) (ys := ys) (sp := grownCap w (hdr.n + n) hdr.c E0 - (hdr.n + n)) hnew hnb)
    rw [hsrc.len, show hdr.n + n + (grownCap w (hdr.n + n) hdr.c E0 - (hdr.n + n)) = grownCap w (hdr.n + n) hdr.c E0 by omega] at hgo
    refine ⟨_, _, .c (.h ⟨some ⟨w.heap.size, 0, none⟩, hdr.n + n, grownCap w (hdr.n + n) hdr.c E0⟩), β, _, ⟨s.fr, upd s.hp id (.pool E0 k0 ((⟨w.heap.size, 0, none⟩, rowA m hdr.a ++ ys, grownCap w (hdr.n + n) hdr.c E0 - (hdr.n + n)) :: m)), s.nx⟩, hr, .inl rfl, fun _ _ => rfl, ⟨rfl, rfl, rfl, by simp, fun b hb => ?_⟩, rfl, Nat.le_refl _,
      hs.grow (q := fun b => fp id b ∨ b = w.heap.size) hl (fun b hb _ => ?_) (by simp) (fun b hb => ?_) ?_ trivial, trivial, hgo⟩
    · exact heap_alloc_lt (w := w.drew) (hs.zlt b hb)
    · exact heap_alloc_lt (w := w.drew) hb
    · rcases hb with hb | rfl
      · have := (hs.flt _ _ hl b hb).1
        exact ⟨.inl hb, by simp; omega⟩
      · exact ⟨.inr (Nat.le_refl _), by simp⟩
    · refine hpool.cons hnb (fun b hb => heap_alloc_lt (w := w.drew) (hs.flt _ _ hl b hb).1) (fun _ hb => .inl hb) rfl (.inr rfl) ⟨[], (Builtin.zeroCells z.cells (grownCap w (hdr.n + n) hdr.c E0 - (hdr.n + n))).toList, ?_, rfl, Nat.le_of_eq (zeroCells_flat k0 hzc _).symm⟩
      have := heap_alloc_at (w := w.drew) (.cells (flat k0 olds ++ flat k0 ys ++ (Builtin.zeroCells z.cells (grownCap w (hdr.n + n) hdr.c E0 - (hdr.n + n))).toList).toArray E0)
      refine this.trans ?_
      rw [← flat_append, ho]
      rfl
  cases hha : hdr.a with
  | none =>
    unfold Hd at hd
    rw [hha] at hd
    simp only at hd
    by_cases hn : n = 0
    · subst hn
      have hys : ys = [] := List.eq_nil_of_length_eq_zero hsrc.len
      subst hys
      have hr := hrun (.slice none 0 0) w (by
        rw [hha, hd.1, hd.2]
        exact run_append_nil' hu hi (fun w => hsrc.lenOf) (by rw [hisz]; exact hsrc.first (fun _ => rfl)) type)
      refine ⟨_, w, .c (.h hdr), β, _, ⟨s.fr, upd s.hp id (.pool E0 k0 m), s.nx⟩, hr, .inl (by simp [SV.den, SA.den, SC.den, hha, hd.1, hd.2]), fun _ _ => rfl, Ext.refl _ _, rfl, Nat.le_refl _,
        hs.grow (w' := w) (o' := .pool E0 k0 m) (q := fp id) hl (fun _ _ _ => rfl) (Nat.le_refl _) (fun b hb => ⟨.inl hb, (hs.flt _ _ hl b hb).1⟩) hpool trivial, trivial, h _ _ (.stay rfl)⟩
    · refine out [] (by rw [hha]; rfl) (by omega) ?_
      rw [hha, hd.1]
      simp [Builtin.firstCells, flat]
  | some x' =>
    unfold Hd at hd
    rw [hha] at hd
    simp only at hd
    cases hla : lkA m x' with
    | none => rw [hla] at hd; exact hd.elim
    | some yy =>
      rw [hla] at hd
      simp only at hd
      obtain ⟨hsp, hfp, pre, post, hh, hpre, hpost⟩ := hpool.row x' yy.1 yy.2 hla
      have hx' : (⟨x'.block, x'.off, none⟩ : Addr) = x' := by obtain ⟨b, o, sp⟩ := x'; cases hsp; rfl
      have hrow : rowA m hdr.a = yy.1 := by rw [hha]; unfold rowA; simp [hla]
      have hfl := flat_length k0 yy.1
      have hysl : (flat k0 ys).length = n * k0.sz := by rw [flat_length, hsrc.len]
      by_cases hroom : hdr.n + n ≤ hdr.c
      · have hmul : hdr.n * k0.sz + n * k0.sz ≤ (flat k0 yy.1).length + post.length := by
          refine Nat.le_trans ?_ (Nat.add_le_add_left hpost _)
          rw [hfl, ← Nat.add_mul, ← Nat.add_mul]
          exact Nat.mul_le_mul_right _ (by omega)
        have hr0 := run_append_in (w := w) (g := x'.block) (o := x'.off) (len := hdr.n) (cap := hdr.c) (E0 := E0) (cur := pre ++ flat k0 yy.1 ++ post) hu hi (fun w => hsrc.lenOf) (by rw [hisz]; exact hsrc.first (fun _ => rfl)) hroom hh
          (by rw [hisz, hysl, List.length_append, List.length_append, hpre]; omega) (flat_one k0 ys) type
        rw [hx'] at hr0
        have hr := hrun _ _ (by rw [hha]; exact hr0)
        have e1 : x'.off + hdr.n * i.size = pre.length + (flat k0 yy.1).length := by rw [hisz, hpre, hfl, hd.1]
        have t1 : (pre ++ flat k0 yy.1 ++ post).take (x'.off + hdr.n * i.size) = pre ++ flat k0 yy.1 := by
          rw [e1, ← List.length_append, List.take_left]
        have t2 : (pre ++ flat k0 yy.1 ++ post).drop (x'.off + hdr.n * i.size + (flat k0 ys).length) = post.drop (n * k0.sz) := by
          rw [e1, ← List.length_append, ← List.drop_drop, List.drop_left, hysl]
        rw [t1, t2] at hr
        have hgo := h _ _ (App.room (m := m) (x := hdr) (ys := ys) (a := x') (y := yy) (sp := hdr.c - (hdr.n + n)) hha hla (by rw [hsrc.len]; omega))
        rw [hsrc.len] at hgo
        refine ⟨_, _, .c (.h ⟨some x', hdr.n + n, hdr.c⟩), β, _, ⟨s.fr, upd s.hp id (.pool E0 k0 (setA m x' (yy.1 ++ ys, hdr.c - (hdr.n + n)))), s.nx⟩, hr, .inl rfl, fun _ _ => rfl, Ext.setRow _ (hs.flt _ _ hl _ hfp).2, rfl, Nat.le_refl _,
          hs.grow (q := fp id) hl (fun b _ hb => setRow_other w _ b _ (fun e => hb (e ▸ hfp))) (by simp) (fun b hb => ⟨.inl hb, by simpa using (hs.flt _ _ hl b hb).1⟩) ?_ trivial, trivial, hgo⟩
        refine hpool.set hla (fun b hb _ => setRow_other w _ b _ hb) ⟨pre, post.drop (n * k0.sz), ?_, hpre, ?_⟩
        · rw [setRow_heap w _ _ _ E0 _ hh, flat_append]
          simp [List.append_assoc]
        · rw [List.length_drop]
          have h5 : (hdr.c - (hdr.n + n)) * k0.sz + n * k0.sz ≤ yy.2 * k0.sz := by
            rw [← Nat.add_mul]; exact Nat.mul_le_mul_right _ (by omega)
          show (hdr.c - (hdr.n + n)) * k0.sz ≤ post.length - n * k0.sz
          omega
      · refine out yy.1 hrow.symm (by omega) ?_
        rw [hha, hisz]
        exact run_firstCells_some w.drew k0.sz hdr.n x' hdr.n hdr.c (flat k0 yy.1) (by rw [hfl, hd.1]) (fun j u hj => by
          rw [add_eq hsp]
          exact flat_cell hh hpre j u hj)

theorem frzOf_spec {ek : EK} {fr : List (Nat × SV)} {l : List (Nat × Operand)} {id len cap : Nat} (h : frzOf ek fr l = some (id, len, cap)) :
    ∃ x sz, l = [(0, x)] ∧ ev fr x = some (.a (.c (.sl id sz 0 len cap))) := by
  cases ek with
  | sli =>
    match l, h with
    | [(0, x)], h =>
      simp only [frzOf] at h
      split at h
      · rename_i id' sz len' cap' hx
        cases h
        exact ⟨x, sz, rfl, hx⟩
      · cases h
  | _ => cases h

theorem m_build (hty : TyOk P ty) (hs : HSat β Z fp s w) (hf : FSat β s N a) {k : S → SV → Prop} {dst : Option Nat} {T : TypeId} {len : Nat} {parts : Array (Nat × Operand)} {type : TypeId} {pos : String}
    {after : Array Edge} {guard : Option (Nat × Bool)} (h : mOp ty (.buildSlice T len parts) s k) : LOk P β Z s w a ⟨dst, .buildSlice T len parts, type, pos, after, guard⟩ k := by
  simp only [mOp, S.go_eq] at h
  split at h <;> try exact h.elim
  rename_i d hd
  split at h <;> try exact h.elim
  rename_i E bytes hsl
  split at h <;> try exact h.elim
  rename_i id ln cap hfz hlen
  rw [nbeq, decide_eq_true_eq] at hlen
  subst hlen
  split at h <;> try exact h.elim
  rename_i E0 k0 xs sp hl
  split at h <;> try exact h.elim
  rename_i pid hpf
  split at h <;> try exact h.elim
  rename_i E1 k1 m hpl
  split at h <;> try exact h.elim
  rename_i xs' hcast hE0
  rw [nbeq, decide_eq_true_eq] at hE0
  subst hE0
  obtain ⟨e, he⟩ := EK.cast_spec hcast
  subst e
  change xs' = xs at he
  subst he
  obtain ⟨⟨hln, hcap⟩, h⟩ := h
  simp only [delC_iff, updK_iff] at h
  -- the part
  obtain ⟨x, sz, hpa, hx⟩ := frzOf_spec hfz
  obtain ⟨hex, _⟩ := ev_den hf hx
  obtain ⟨hu, hE, i, z, hi, hz, hisz, _, hzc⟩ := (hty T d hd).sl _ _ _ hsl
  have hpool : PoolOk (fp pid) w E0 k0 m := hs.obj _ _ hpl
  have hne : id ≠ pid := by intro e; rw [e, hpl] at hl; cases hl
  -- the head that comes in
  obtain ⟨m', y, hy, hfr, hpk⟩ : ∃ m' y, SC.den β (.h y) = .slice (β id) ln cap ∧ Frz m xs' sp ln cap m' y ∧ PoolOk (fun b => fp pid b ∨ fp id b) w E0 k0 m' := by
    have hok := hs.obj _ _ hl
    cases hb : β id with
    | none =>
      rw [hb] at hok
      obtain ⟨rfl, rfl⟩ := hok
      refine ⟨m, ⟨none, ln, cap⟩, rfl, .nil rfl, ⟨fun b xs sp hb => ?_, hpool.one⟩⟩
      obtain ⟨t1, t2, t3⟩ := hpool.row b xs sp hb
      exact ⟨t1, .inl t2, t3⟩
    | some x' =>
      rw [hb] at hok
      obtain ⟨hsp, hfp, pre, post, hh, hpre, hpost⟩ := hok
      have hnb : ∀ b z, lkA m b = some z → b.block ≠ x'.block := by
        intro b z hq e
        have := (hpool.row _ z.1 z.2 hq).2.1
        rw [e] at this
        exact hs.sep pid id _ _ hpl hl (fun e => hne e.symm) _ this hfp
      refine ⟨(x', xs', sp) :: m, ⟨some x', ln, cap⟩, rfl, .own ?_ hnb, ?_⟩
      · cases hq : lkA m x' with
        | none => rfl
        | some q => exact absurd rfl (hnb _ _ hq)
      · exact hpool.cons (y := (xs', sp)) hnb (fun _ _ => rfl) (fun _ hb => .inl hb) hsp (.inr hfp) ⟨pre, post, hh, hpre, hpost⟩
  have hgo := h m' y hfr
  have hs1 := hs.merge (p' := .pool E0 k0 m') hl hpl hne hpk trivial
  have hex' : a.eval x = .slice (β id) ln cap := by
    rw [hex]
    have hid : ∀ o : Option Addr, o.map (fun x => x.add (0 * sz)) = o := fun o => by cases o <;> simp [Addr.add]
    simp only [SV.den, SA.den, SC.den, hid]
  have hzv : z.cells.size = 1 := by rw [← Array.length_toList, hzc, EK.cells_length]; rfl
  have hrun : (execOp a.eval ⟨dst, .buildSlice T 1 parts, type, pos, after, guard⟩).run P w = .ok (.value (.slice (some ⟨w.heap.size, 0, none⟩) 1 1)) (w.alloc (.cells (flat .sli [y] ++ []).toArray E)) := by
    have hE' : ∀ w, (sizeOf E).run P w = .ok 1 w := hE
    have hm : (parts.map fun (i, x) => (i, a.eval x)).toList = [(0, .slice (β id) ln cap)] := by
      rw [Array.toList_map, hpa]; simp [hex']
    have hfl : flat .sli [y] = [.slice (β id) ln cap] := by
      have : EK.sli.cells y = [SC.den β (.h y)] := rfl
      simp [flat, this, hy]
    have hf2 : ∀ A : Array Value, A.size = 1 → Instr.fill (fun i => some (i * 1, 1)) A [(0, .slice (β id) ln cap)] = some #[.slice (β id) ln cap] := by
      intro A hA
      obtain ⟨l⟩ := A
      match l, hA with
      | [q], _ => rfl
    simp only [execOp, Instr.buildSlice, Sem.run_bind, run_underlying hu, Result.andThen_ok, hE']
    rw [if_neg (by omega)]
    simp only [Sem.run_bind, zeroValue, typeInfo, hi, hz, Sem.run_pure, run_program, Result.andThen_ok, if_neg (show ¬ (1 * 1 = 0) by omega), hm]
    rw [hf2 _ (by simp)]
    simp [newRow, hfl]
  obtain ⟨r, w', v', β', fp', s', R⟩ := l_arr (P := P) (k := k) (a := a) hs1 (E := E) (ek := .sli) (xs := [y]) (sp := 0) (post := []) hrun (fun b hb => heap_alloc_lt hb) (by simp) rfl rfl rfl (heap_alloc_at _) (by simp) hgo
  exact ⟨r, w', v', β', fp', s', R.run, R.val, R.env, R.ext, R.fr, R.nx, R.sat, R.lt, R.go⟩

theorem m_makeMap (hs : HSat β Z fp s w) {k : S → SV → Prop} {dst : Option Nat} {T : TypeId} {r : Option Operand} {type : TypeId} {pos : String}
    {after : Array Edge} {guard : Option (Nat × Bool)} (h : mOp ty (.makeMap T r) s k) : LOk P β Z s w a ⟨dst, .makeMap T r, type, pos, after, guard⟩ k := by
  cases r with
  | some r => exact h.elim
  | none =>
  simp only [mOp, S.go_eq] at h
  split at h <;> try exact h.elim
  rename_i d hd
  split at h <;> try exact h.elim
  rename_i kt kk vt vk hmp
  have hrun : (execOp a.eval ⟨dst, .makeMap T none, type, pos, after, guard⟩).run P w = .ok (.value (.map (some w.heap.size))) (w.alloc (.map #[] 0)) := by
    simp [execOp, Instr.makeMap, newObj, Sem.run]
  refine ⟨_, _, .c (.mp s.nx), β.add s.nx (some ⟨w.heap.size, 0, none⟩), _, ⟨s.fr, (s.nx, .map kk vk [] 0) :: s.hp, s.nx + 1⟩, hrun, .inl ?_, Env.add_lt, Ext.alloc _ hs.zlt, rfl, Nat.le_succ _, hs.add (o := .map kk vk [] 0) (q := fun b => b = w.heap.size) ?_ ?_ ?_ ?_ trivial, ?_, h⟩
  · simp [SV.den, SA.den, SC.den, Env.add_at]
  · exact fun b hb => heap_alloc_lt hb
  · simp
  · intro b hb; subst hb; simp
  · exact ⟨w.heap.size, rfl, rfl, by rw [heap_alloc_at]; rfl⟩
  · show s.nx < s.nx + 1; omega

theorem m_range (hty : TyOk P ty) (hs : HSat β Z fp s w) (hf : FSat β s N a) {k : S → SV → Prop} {dst : Option Nat} {T : TypeId} {x : Operand} {type : TypeId} {pos : String}
    {after : Array Edge} {guard : Option (Nat × Bool)} (h : mOp ty (.range T x) s k) : LOk P β Z s w a ⟨dst, .range T x, type, pos, after, guard⟩ k := by
  simp only [mOp, S.go_eq] at h
  split at h <;> try exact h.elim
  rename_i d id hd hx
  split at h <;> try exact h.elim
  rename_i q kk vk es clk hmp hl
  obtain ⟨kt, kk', vt, vk'⟩ := q
  obtain ⟨hex, hlt⟩ := ev_den hf hx
  obtain ⟨b, hb, _, hh⟩ := map_at hs hl
  have hm := (hty _ _ hd).mp _ _ _ _ hmp
  have hmap : a.eval x = .map (some b) := by rw [hex]; simp [SV.den, SA.den, SC.den, hb]
  have hrun : (execOp a.eval ⟨dst, .range T x, type, pos, after, guard⟩).run P w = .ok (.value (.pointer (some ⟨w.heap.size, 0, none⟩))) (w.alloc (.mapIter (some b) clk #[] clk)) := by
    simp [execOp, hmap, Instr.range, run_underlying hm.ty, run_getObj_at hh (by intro _ _ _ e; cases e), newObj, Sem.run]
  refine ⟨_, _, .c (.ptr s.nx 0), β.add s.nx (some ⟨w.heap.size, 0, none⟩), _, ⟨s.fr, (s.nx, .iter id clk [] clk 0) :: s.hp, s.nx + 1⟩, hrun, .inl ?_, Env.add_lt, Ext.alloc _ hs.zlt, rfl, Nat.le_succ _, hs.add (o := .iter id clk [] clk 0) (q := fun b => b = w.heap.size) ?_ ?_ ?_ ?_ hlt, ?_, h⟩
  · simp [SV.den, SA.den, SC.den, Env.add_at, Addr.add_lit]
  · exact fun b hb => heap_alloc_lt hb
  · simp
  · intro b hb; subst hb; simp
  · exact ⟨w.heap.size, b, rfl, rfl, (Env.add_lt id hlt).trans hb, by rw [heap_alloc_at]⟩
  · show s.nx < s.nx + 1; omega

theorem m_next (hs : HSat β Z fp s w) (hf : FSat β s N a) {k : S → SV → Prop} {dst : Option Nat} {x : Operand} {str : Bool} {type : TypeId} {pos : String}
    {after : Array Edge} {guard : Option (Nat × Bool)} (h : mOp ty (.next x str) s k) : LOk P β Z s w a ⟨dst, .next x str, type, pos, after, guard⟩ k := by
  cases str with
  | true => exact h.elim
  | false =>
  simp only [mOp, S.go_eq] at h
  split at h <;> try exact h.elim
  rename_i it hx
  split at h <;> try exact h.elim
  rename_i mid since seen last cur hl
  split at h <;> try exact h.elim
  rename_i kk vk es clk hl2
  obtain ⟨⟨hbo, e1, e2⟩, h1, h2⟩ := h
  rw [e2] at hl
  rw [e1] at hl h2
  clear e1 e2
  obtain ⟨hex, _⟩ := ev_den hf hx
  obtain ⟨b, r, hb, hfb, hr, hh⟩ : ∃ b r, β it = some ⟨b, 0, none⟩ ∧ fp it b ∧ β mid = some ⟨r, 0, none⟩ ∧ w.heap[b]? = some (.mapIter (some r) clk seen.toArray clk) := hs.obj it _ hl
  obtain ⟨r', hr', _, hh2⟩ := map_at hs hl2
  rw [hr] at hr'
  cases hr'
  have hp : a.eval x = .pointer (some ⟨b, 0, none⟩) := by rw [hex]; simp [SV.den, SA.den, SC.den, hb, Addr.add_lit]
  have hold : ∀ x ∈ (es.map (ent kk vk)).toArray.toList, x.born < clk := by
    intro x hx
    simp only [List.mem_map] at hx
    obtain ⟨e, he, rfl⟩ := hx
    exact hbo.2 e he
  rcases run_next_at (P := P) w type b r clk clk seen.toArray _ clk hh hh2 hold (Nat.le_refl _) with ⟨h0, hrun⟩ | ⟨e, he, w1, hw1, hrun⟩
  · have hall : ∀ e ∈ es, e.2.2 ∈ seen := by
      intro e he
      have h0' : leftOf (es.map (ent kk vk)).toArray seen.toArray = #[] := Array.eq_empty_of_size_eq_zero h0
      unfold leftOf at h0'
      rw [Array.filter_eq_empty_iff] at h0'
      have := h0' (ent kk vk e) (by rw [List.mem_toArray]; exact List.mem_map.2 ⟨e, he, rfl⟩)
      simpa [ent] using this
    refine ⟨.value (.tuple #[.bool false]), w, .tup [.c (.b false)], β, fp, s, ?_, .inl rfl, fun _ _ => rfl, Ext.refl _ _, rfl, Nat.le_refl _, hs, ?_, h1 hall⟩
    · simp only [execOp, hp, Sem.run_bind, hrun, Result.andThen_ok, Sem.run_pure]
    · intro c hc; simp only [List.mem_cons, List.not_mem_nil, or_false] at hc; subst hc; trivial
  · obtain ⟨i, hi, hie, hns⟩ : ∃ i, ∃ h : i < es.length, ent kk vk es[i] = e ∧ es[i].2.2 ∉ seen := by
      unfold leftOf at he
      simp only [Array.toList_filter, List.mem_filter, List.mem_map] at he
      obtain ⟨⟨e', he', rfl⟩, hn⟩ := he
      obtain ⟨i, hi, rfl⟩ := List.getElem_of_mem he'
      exact ⟨i, hi, rfl, by simpa [ent] using hn⟩
    have h := h2 i hi hns
    rw [updK_iff, forceA_iff, forceA_iff] at h
    have hw1h : w1.heap = w.heap := by rcases hw1 with rfl | rfl <;> rfl
    have hbz : ¬ Z b := (hs.flt _ _ hl b hfb).2
    have hother : ∀ c, c ≠ b → (setBlock w1 b (.mapIter (some r) clk (seen.toArray.push e.born) clk)).heap[c]? = w.heap[c]? := by
      intro c hc
      show (w1.heap.setIfInBounds b _)[c]? = _
      rw [hw1h, Array.getElem?_setIfInBounds, if_neg (fun e => hc e.symm)]
    have hblt : b < w.heap.size := (hs.flt _ _ hl b hfb).1
    have hsz : (setBlock w1 b (.mapIter (some r) clk (seen.toArray.push e.born) clk)).heap.size = w.heap.size := by
      show (w1.heap.setIfInBounds b _).size = _
      rw [hw1h]; simp
    refine ⟨_, _, .tup [.c (.b true), kk.symA es[i].1, vk.symA es[i].2.1], β, fp, ⟨s.fr, upd s.hp it (.iter mid clk (seen ++ [es[i].2.2]) clk i), s.nx⟩, ?_, .inl rfl, fun _ _ => rfl, ⟨?_, ?_, ?_, Nat.le_of_eq hsz.symm, fun c hc => hother c (fun e => hbz (e ▸ hc))⟩, rfl, Nat.le_refl _,
      hs.put hl (fun c hc => hother c (fun e => hc (e ▸ hfb))) hsz ?_ ((hs.lto _ _ hl).2), ?_, h⟩
    · simp only [execOp, hp, Sem.run_bind, hrun, Result.andThen_ok, Sem.run_pure]
      rw [← hie]
      simp [SV.den, EK.symA_den, ent]; rfl
    · rcases hw1 with rfl | rfl <;> rfl
    · rcases hw1 with rfl | rfl <;> rfl
    · rcases hw1 with rfl | rfl <;> rfl
    · refine ⟨b, r, hb, hfb, hr, ?_⟩
      show (w1.heap.setIfInBounds b _)[b]? = _
      rw [hw1h, Array.getElem?_setIfInBounds, if_pos rfl, if_pos hblt, ← hie]
      simp [ent]
    · intro c hc
      simp only [List.mem_cons, List.not_mem_nil, or_false] at hc
      rcases hc with rfl | rfl | rfl
      · trivial
      · exact EK.symA_lt _ _ _
      · exact EK.symA_lt _ _ _

theorem findE_none {kk vk : EK} {x : kk.ty} : ∀ {es : List (kk.ty × vk.ty × Nat)} {n : Nat}, findE kk vk x es n = none → (lkM es x).isSome = false := by
  intro es n h
  have := findE_lk kk vk x es n
  rw [h] at this
  cases hq : lkM es x with
  | none => rfl
  | some q => rw [hq] at this; cases this

theorem findE_some {kk vk : EK} {x : kk.ty} (nv : vk.ty) : ∀ {es : List (kk.ty × vk.ty × Nat)} {n i : Nat} {v : Value}, findE kk vk x es n = some (i, v) →
    ∃ j, i = n + j ∧ (es.map (ent kk vk)).modify j (fun e => { e with key := kk.val x, val := vk.val nv }) = (setM es x nv).map (ent kk vk) ∧ ((es.map (ent kk vk))[j]?).map (·.key) = some (kk.val x) ∧ (lkM es x).isSome = true
  | [], n, i, v, h => by cases h
  | (y, w, c) :: es, n, i, v, h => by
    simp only [findE] at h
    by_cases e : y = x
    · subst e
      rw [if_pos rfl] at h
      cases h
      exact ⟨0, rfl, by simp [setM, ent], by simp [ent], by simp [lkM]⟩
    · rw [if_neg e] at h
      obtain ⟨j, h1, h2, h3, h4⟩ := findE_some nv h
      refine ⟨j + 1, by omega, ?_, by simpa using h3, by simp [lkM, e, h4]⟩
      simp only [setM, if_neg e, List.map_cons, List.modify_succ_cons, h2]

theorem run_mapUpdate {T kt vt : Nat} {kk vk : EK} (hm : MapOk P T kt kk vt vk) {r clk : Nat} {es : List (kk.ty × vk.ty × Nat)} (hh : w.heap[r]? = some (.map (es.map (ent kk vk)).toArray clk)) (x : kk.ty) (nv : vk.ty) :
    (Instr.mapUpdate T (.map (some r)) (kk.val x) (vk.val nv)).run P w = .ok () { w with heap := w.heap.setIfInBounds r (.map ((insM es clk x nv).1.map (ent kk vk)).toArray (insM es clk x nv).2) } := by
  unfold Instr.mapUpdate
  have hso : ∀ o' : Obj, (setObj r o').run P w = .ok () { w with heap := w.heap.setIfInBounds r o' } := by
    intro o'; simp [setObj, Sem.run, hh]
  simp only [Sem.run_bind, run_underlying hm.ty, Result.andThen_ok, run_getObj_at hh (by intro _ _ _ e; cases e), hm.ck, hm.fk]
  cases hfe : findE kk vk x es 0 with
  | none =>
    have h1 := findE_none hfe
    simp only [hso]
    unfold insM
    rw [if_neg (by rw [h1]; simp)]
    simp [ent]
  | some p =>
    obtain ⟨i, v⟩ := p
    obtain ⟨j, h0, h2, h3, h4⟩ := findE_some nv hfe
    have e0 : i = j := by omega
    subst e0
    have hk : (((es.map (ent kk vk)).toArray[i]?).map (·.key)).getD (kk.val x) = kk.val x := by
      rw [List.getElem?_toArray, h3]; rfl
    simp only [hk, Instr.keyThatStays, hm.sb, if_true, Sem.run_bind, Sem.run_pure, Result.andThen_ok, hso]
    unfold insM
    rw [if_pos h4]
    simp only
    rw [← h2]
    simp

theorem m_map (hty : TyOk P ty) (hs : HSat β Z fp s w) (hf : FSat β s N a) {k : S → SV → Prop} {o : Oper} {T : TypeId} {x ix v : Operand}
    (hop : ∀ u w', (Instr.mapUpdate T (a.eval x) (a.eval ix) (a.eval v)).run P w = .ok u w' → (execOp a.eval o).run P w = .ok .skip w')
    (h : mapK ty T x ix v s.fr s.hp s.nx k) : LOk P β Z s w a o k := by
  unfold mapK at h
  split at h <;> try exact h.elim
  · rename_i d id kv bid hd hx hi hv
    split at h <;> try exact h.elim
    rename_i kt kk vt vk kk0 es clk cs hmp hl hcs
    split at h <;> try exact h.elim
    rename_i key hk hb1 hb2 hag
    have e1 := EK.beq_eq hb1
    have e2 := EK.beq_eq hb2
    subst e1 e2
    split at h <;> try exact h.elim
    rename_i T2 cells hbl
    split at h <;> try exact h.elim
    rename_i pid hpf
    split at h <;> try exact h.elim
    rename_i E1 k1 m hpl
    split at h <;> try exact h.elim
    rename_i e he hE
    rw [nbeq, decide_eq_true_eq] at hE
    subst hE
    simp only [delC_iff, updK_iff] at h
    obtain ⟨hex, _⟩ := ev_den hf hx
    obtain ⟨hei, _⟩ := ev_den hf hi
    obtain ⟨hev, _⟩ := ev_den hf hv
    obtain ⟨b, hb, hfb, hh⟩ := map_at hs hl
    have hm := (hty T d hd).mp _ _ _ _ hmp
    have hkv := key_val (β := β) hcs hk hag
    obtain ⟨c, hc, hfc, hch⟩ := box_at hs hbl
    have hpool : PoolOk (fp pid) w T2 k1 m := hs.obj _ _ hpl
    have hne : bid ≠ pid := by intro e; rw [e, hpl] at hbl; cases hbl
    have hne2 : id ≠ pid := by intro e; rw [e, hpl] at hl; cases hl
    have hne3 : bid ≠ id := by intro e; rw [e, hl] at hbl; cases hbl
    have hnb : ∀ b z, lkA m b = some z → b.block ≠ (⟨c, 0, none⟩ : Addr).block := by
      intro b z hq e
      have := (hpool.row _ z.1 z.2 hq).2.1
      rw [e] at this
      exact hs.sep pid bid _ _ hpl hbl (fun e => hne e.symm) _ this hfc
    have hnew : lkA m ⟨c, 0, none⟩ = none := by
      cases hq : lkA m ⟨c, 0, none⟩ with
      | none => rfl
      | some q => exact absurd rfl (hnb _ _ hq)
    have hgo := h ⟨c, 0, none⟩ hnew hnb
    have hcells : cells.map (SC.den β) = flat k1 [e] := by rw [ofSym_spec he]; simp [flat]
    have hs1 := hs.merge (p' := .pool T2 k1 ((⟨c, 0, none⟩, [e], 0) :: m)) hbl hpl hne (hpool.cons (y := ([e], 0)) hnb (fun _ _ => rfl) (fun _ hb => .inl hb) rfl (.inr hfc) ⟨[], [], by rw [hch, hcells]; simp, rfl, by simp⟩) trivial
    have hl1 : look (upd (delK s.hp bid) pid (.pool T2 k1 ((⟨c, 0, none⟩, [e], 0) :: m))) id = some (.map kk0 .adr es clk) := by
      rw [look_upd, if_neg (fun e => hne2 e.symm), look_delK, if_neg hne3, hl]
    have hmap : a.eval x = .map (some b) := by rw [hex]; simp [SV.den, SA.den, SC.den, hb]
    have hval : a.eval v = EK.adr.val (some ⟨c, 0, none⟩) := by
      rw [hev]; simp [SV.den, SA.den, SC.den, hc, Addr.add_lit]; rfl
    have hrun := hop () _ (by rw [hmap, hei, hkv, hval]; exact run_mapUpdate hm hh key (some ⟨c, 0, none⟩))
    have hbz : ¬ Z b := (hs.flt _ _ hl b hfb).2
    have hblt : b < w.heap.size := (hs.flt _ _ hl b hfb).1
    have hother : ∀ (o : Obj) (q : Nat), q ≠ b → (w.heap.setIfInBounds b o)[q]? = w.heap[q]? := fun o q hq => by rw [Array.getElem?_setIfInBounds, if_neg (fun e => hq e.symm)]
    refine ⟨_, _, .u, β, _, ⟨s.fr, upd (upd (delK s.hp bid) pid (.pool T2 k1 ((⟨c, 0, none⟩, [e], 0) :: m))) id (.map kk0 .adr (insM es clk key (some ⟨c, 0, none⟩)).1 (insM es clk key (some ⟨c, 0, none⟩)).2), s.nx⟩, hrun, .inr ⟨rfl, rfl⟩, fun _ _ => rfl,
      ⟨rfl, rfl, rfl, by simp, fun q hq => hother _ q (fun e => hbz (e ▸ hq))⟩, rfl, Nat.le_refl _, hs1.put hl1 (fun q hq => hother _ q (fun e => hq ?_)) (by simp) ?_ trivial, u_lt' _, hgo⟩
    · simp only [if_neg hne2]; rw [e]; exact hfb
    · refine ⟨b, hb, by simp only [if_neg hne2]; exact hfb, ?_⟩
      rw [Array.getElem?_setIfInBounds, if_pos rfl, if_pos hblt]
  · rename_i d id kv vv hnot hd hx hi hv
    split at h <;> try exact h.elim
    rename_i kt kk vt vk kk0 vk0 es clk cs vs hmp hl hcs hvs
    split at h <;> try exact h.elim
    rename_i key hk hb1 hb2 hag
    have e1 := EK.beq_eq hb1
    have e2 := EK.beq_eq hb2
    subst e1 e2
    split at h <;> try exact h.elim
    rename_i val hva hag2
    simp only [updK_iff] at h
    obtain ⟨hex, _⟩ := ev_den hf hx
    obtain ⟨hei, _⟩ := ev_den hf hi
    obtain ⟨hev, _⟩ := ev_den hf hv
    obtain ⟨b, hb, hfb, hh⟩ := map_at hs hl
    have hm := (hty T d hd).mp _ _ _ _ hmp
    have hkv := key_val (β := β) hcs hk hag
    have hvv := key_val (β := β) hvs hva hag2
    have hmap : a.eval x = .map (some b) := by rw [hex]; simp [SV.den, SA.den, SC.den, hb]
    have hrun := hop () _ (by rw [hmap, hei, hkv, hev, hvv]; exact run_mapUpdate hm hh key val)
    have hbz : ¬ Z b := (hs.flt _ _ hl b hfb).2
    have hblt : b < w.heap.size := (hs.flt _ _ hl b hfb).1
    have hother : ∀ (o : Obj) (q : Nat), q ≠ b → (w.heap.setIfInBounds b o)[q]? = w.heap[q]? := fun o q hq => by rw [Array.getElem?_setIfInBounds, if_neg (fun e => hq e.symm)]
    refine ⟨_, _, .u, β, _, ⟨s.fr, upd s.hp id (.map kk0 vk0 (insM es clk key val).1 (insM es clk key val).2), s.nx⟩, hrun, .inr ⟨rfl, rfl⟩, fun _ _ => rfl,
      ⟨rfl, rfl, rfl, by simp, fun q hq => hother _ q (fun e => hbz (e ▸ hq))⟩, rfl, Nat.le_refl _, hs.put hl (fun q hq => hother _ q (fun e => hq (e ▸ hfb))) (by simp) ?_ trivial, u_lt' _, h⟩
    refine ⟨b, hb, hfb, ?_⟩
    rw [Array.getElem?_setIfInBounds, if_pos rfl, if_pos hblt]

theorem mOp_sound (hty : TyOk P ty) (hs : HSat β Z fp s w) (hf : FSat β s N a) {k : S → SV → Prop} {o : Oper} (h : mOp ty o.op s k) : LOk P β Z s w a o k := by
  obtain ⟨dst, op, type, pos, after, guard⟩ := o
  have hmu : ∀ (T : Nat) (x ix v : Operand) (u : Unit) (w' : World), (Instr.mapUpdate T (a.eval x) (a.eval ix) (a.eval v)).run P w = .ok u w' →
      (execOp a.eval ⟨dst, .mapUpdate T x ix v, type, pos, after, guard⟩).run P w = .ok .skip w' ∧ (execOp a.eval ⟨dst, .insert T x ix v, type, pos, after, guard⟩).run P w = .ok .skip w' := by
    intro T x ix v u w' hr
    exact ⟨by simp only [execOp, Sem.run_bind, hr, Result.andThen_ok, Sem.run_pure], by simp only [execOp, Sem.run_bind, hr, Result.andThen_ok, Sem.run_pure]⟩
  cases op <;> try exact h.elim
  case store T x y => exact m_store hty hs hf h
  case buildSlice T n ps => exact m_build hty hs hf h
  case makeMap T r => exact m_makeMap hs h
  case range T x => exact m_range hty hs hf h
  case next x b => exact m_next hs hf h
  case insert T x ix v =>
    simp only [mOp, S.go_eq] at h
    exact m_map hty hs hf (fun u w' hr => (hmu T x ix v u w' hr).2) h
  case mapUpdate T x ix v =>
    simp only [mOp, S.go_eq] at h
    exact m_map hty hs hf (fun u w' hr => (hmu T x ix v u w' hr).1) h
  case call c =>
    obtain ⟨callee, args, argTypes⟩ := c
    cases callee <;> try exact h.elim
    rename_i bi
    cases bi <;> try exact h.elim
    exact m_append hty hs hf h

end
end Go.Fw

/-
  Single operations, regions in order.
-/
namespace Go.Fw
open Go

section
variable {P : Program} {ty : List (Nat × STy)} {β : Env} {Z : Nat → Prop} {fp : Nat → Nat → Prop} {s : S} {w : World} {N : NT} {a : Act}

theorem lOp_sound (hty : TyOk P ty) (hs : HSat β Z fp s w) (hf : FSat β s N a) {k : S → SV → Prop} {o : Oper} (h : lOp ty o.op s k) : LOk P β Z s w a o k := by
  obtain ⟨dst, op, type, pos, after, guard⟩ := o
  cases op <;> try exact h.elim
  case box T x => exact l_box hs hf h
  case alloc T => exact l_alloc hty hs h
  case buildSlice T n ps => exact l_buildSlice hty hs hf h
  case makeSlice T l c => exact l_makeSlice hty hs hf h
  case store T x y => exact l_store hty hs hf h
  case call c =>
    obtain ⟨callee, args, argTypes⟩ := c
    cases callee <;> try exact h.elim
    rename_i bi
    cases bi <;> try exact h.elim
    case append => exact l_append hty hs hf h
    case copy => exact l_copy hty hs hf h
end

/-- What comes behind one step, at the states' level. -/
structure Nxt (β : Env) (Z : Nat → Prop) (s : S) (w : World) (v : SV) (w' : World) (β' : Env) (Z' : Nat → Prop) (fp' : Nat → Nat → Prop) (s' : S) : Prop where
  env : ∀ id, id < s.nx → β' id = β id
  ext : Ext Z w w'
  zz : ∀ b, Z b → Z' b
  fr : s'.fr = s.fr
  nx : s.nx ≤ s'.nx
  sat : HSat β' Z' fp' s' w'
  lt : v.lt s'.nx

/-- One operation, from whatever memory fits the state. -/
def Sem1 (P : Program) (N : Nat) (o : Oper) (s : S) (k : S → SV → Prop) : Prop :=
  ∀ β Z fp w a df, HSat β Z fp s w → FSat β s (N, df) a → ∀ (next : Act → World → Prop) (Q : Exit → Act → World → Prop),
    (∀ v w' β' Z' fp' s', Nxt β Z s w v w' β' Z' fp' s' → k s' v → next (a.put o.dst (v.den β')) w') → o.wp P a w next Q

/-- A call. -/
@[irreducible] def CallK (P : Program) (f : Nat) (args : List SV) (ex : List Value) (s : S) (k : S → SV → Prop) : Prop :=
  (∀ args w, (callFunc f args).run P w = .ok (.enter f args) w) ∧
  ∀ β Z fp w, HSat β Z fp s w → Calls P f (args.map (SV.den β) ++ ex).toArray w fun e w' => ∃ v β' Z' fp' s', e = .returned (v.den β') ∧ Nxt β Z s w v w' β' Z' fp' s' ∧ k s' v

/-- An operation that the executor leaves to its user. -/
@[irreducible] def XOp (P : Program) (N : Nat) (o : Oper) (s : S) (k : S → SV → Prop) : Prop := Sem1 P N o s k

/-- 0: leaves the world alone; 1: makes or writes memory; 2: a call; 3: left to the user. -/
def kindOf : Op → Nat
  | .box _ _ | .alloc _ | .buildSlice _ _ _ | .makeSlice _ _ _ | .store _ _ _ | .makeMap _ _ | .insert _ _ _ _ | .mapUpdate _ _ _ _ | .range _ _ | .next _ _ => 1
  | .call { callee := .builtin .append, .. } => 1
  | .call { callee := .builtin .copy, .. } => 1
  | .call { callee := .builtin .len, .. } => 0
  | .call { callee := .value _, .. } => 2
  | .move _ | .assign _ | .pick _ _ _ | .fieldAddr _ _ _ | .load _ _ | .nilCheck _ | .binOp .. | .unOp .. | .convert .. | .indexAddr .. | .slice .. | .extract .. | .build .. | .makeFunc .. | .lookup .. | .entry _ | .index .. => 0
  | _ => 3

def evL (fr : List (Nat × SV)) : List Operand → (List SV → Prop) → Prop
  | [], k => k []
  | x :: l, k => match ev fr x with
    | some v => evL fr l fun vs => k (v :: vs)
    | none => False

def ptrs : List (Nat × Nat) → List SV
  | [] => []
  | (id, off) :: l => .c (.ptr id off) :: ptrs l

def callOp (P : Program) (op : Op) (s : S) (k : S → SV → Prop) : Prop :=
  match op with
  | .call { callee := .value f, args, .. } => match ev s.fr f with
    | some (.a (.c (.fn g caps))) => evL s.fr args.toList fun vs => CallK P g (appN vs (ptrs caps)) [] s k
    | some (.a (.c (.fnv g caps))) => evL s.fr args.toList fun vs => CallK P g vs caps s k
    | some (.a (.c (.fm g id off))) => evL s.fr args.toList fun vs => CallK P g (.c (.ptr id off) :: vs) [] s k
    | _ => False
  | _ => False

def opK (P : Program) (ty : List (Nat × STy)) (N : Nat) (o : Oper) (s : S) (k : S → SV → Prop) : Prop :=
  match kindOf o.op with
  | 0 => qOp ty o.op s (k s)
  | 1 => match pooly ty s.fr o.op with
    | true => mOp ty o.op s k
    | false => lOp ty o.op s k
  | 2 => callOp P o.op s k
  | _ => XOp P N o s k

theorem evL_sound {β : Env} {s : S} {N : NT} {a : Act} (hf : FSat β s N a) : ∀ (l : List Operand) (k : List SV → Prop), evL s.fr l k → ∃ vs : List SV, l.map a.eval = vs.map (SV.den β) ∧ k vs
  | [], k, h => ⟨[], rfl, h⟩
  | x :: l, k, h => by
    simp only [evL] at h
    split at h <;> try exact h.elim
    rename_i v hx
    obtain ⟨he, _⟩ := ev_den hf hx
    obtain ⟨vs, hvs, hk⟩ := evL_sound hf l _ h
    exact ⟨v :: vs, by simp [he, hvs], hk⟩

theorem ptrs_den (β : Env) (l : List (Nat × Nat)) : (ptrs l).map (SV.den β) = l.map fun p => Value.pointer ((β p.1).map (·.add p.2)) := by
  induction l with
  | nil => rfl
  | cons p l ih => obtain ⟨id, off⟩ := p; simp [ptrs, ih, SV.den, SA.den, SC.den]

theorem opK_sound {P : Program} {ty : List (Nat × STy)} (hty : TyOk P ty) {N : Nat} {o : Oper} {s : S} {k : S → SV → Prop} (h : opK P ty N o s k) : Sem1 P N o s k := by
  intro β Z fp w a df hs hf next Q hn
  unfold opK at h
  split at h
  · obtain ⟨v, hr, hl, hk⟩ := qOp_sound hty hs hf h
    unfold Oper.wp
    rw [hr]
    exact hn v w β Z fp s ⟨fun _ _ => rfl, Ext.refl _ _, fun _ h => h, rfl, Nat.le_refl _, hs, hl⟩ hk
  · have hlk : LOk P β Z s w a o k := by
      split at h
      · exact mOp_sound hty hs hf h
      · exact lOp_sound hty hs hf h
    obtain ⟨r, w', v, β', fp', s', R⟩ := hlk
    unfold Oper.wp
    rw [R.run]
    have := hn v w' β' Z fp' s' ⟨R.env, R.ext, fun _ h => h, R.fr, R.nx, R.sat, R.lt⟩ R.go
    rcases R.val with rfl | ⟨rfl, rfl⟩
    · exact this
    · exact this
  · unfold callOp at h
    split at h <;> try exact h.elim
    rename_i op f args argTypes hop
    obtain ⟨dst, op', type, pos, after, guard⟩ := o
    simp only at hop
    subst hop
    split at h <;> try exact h.elim
    · rename_i g caps hx
      obtain ⟨he, _⟩ := ev_den hf hx
      obtain ⟨vs, hvs, hk⟩ := evL_sound hf _ _ h
      unfold CallK at hk
      obtain ⟨hcf, hc⟩ := hk
      have hc := hc β Z fp w hs
      unfold Oper.wp
      have hr : (execOp a.eval ⟨dst, .call ⟨.value f, args, argTypes⟩, type, pos, after, guard⟩).run P w = .ok (.enter g ((appN vs (ptrs caps)).map (SV.den β) ++ []).toArray) w := by
        have e1 : (args.map a.eval) ++ (caps.map fun p => Value.pointer ((β p.1).map (·.add p.2))).toArray = ((appN vs (ptrs caps)).map (SV.den β) ++ []).toArray := by
          apply Array.ext'
          simp [appN_eq, ptrs_den, hvs]
        simp only [execOp, resolve, he, SV.den, SA.den, SC.den, Deferred.ofValue, pure_bind, invoke, Array.empty_append]
        rw [hcf, e1]
      rw [hr]
      refine hc.mono ?_
      rintro e w' ⟨v, β', Z', fp', s', rfl, hnx, hk⟩
      exact hn v w' β' Z' fp' s' hnx hk
    · rename_i g caps hx
      obtain ⟨he, _⟩ := ev_den hf hx
      obtain ⟨vs, hvs, hk⟩ := evL_sound hf _ _ h
      unfold CallK at hk
      obtain ⟨hcf, hc⟩ := hk
      have hc := hc β Z fp w hs
      unfold Oper.wp
      have hr : (execOp a.eval ⟨dst, .call ⟨.value f, args, argTypes⟩, type, pos, after, guard⟩).run P w = .ok (.enter g (vs.map (SV.den β) ++ caps).toArray) w := by
        have e1 : (args.map a.eval) ++ caps.toArray = (vs.map (SV.den β) ++ caps).toArray := by
          apply Array.ext'
          simp [hvs]
        simp only [execOp, resolve, he, SV.den, SA.den, SC.den, Deferred.ofValue, pure_bind, invoke, Array.empty_append]
        rw [hcf, e1]
      rw [hr]
      refine hc.mono ?_
      rintro e w' ⟨v, β', Z', fp', s', rfl, hnx, hk⟩
      exact hn v w' β' Z' fp' s' hnx hk
    · rename_i g id off hx
      obtain ⟨he, _⟩ := ev_den hf hx
      obtain ⟨vs, hvs, hk⟩ := evL_sound hf _ _ h
      unfold CallK at hk
      obtain ⟨hcf, hc⟩ := hk
      have hc := hc β Z fp w hs
      unfold Oper.wp
      have hr : (execOp a.eval ⟨dst, .call ⟨.value f, args, argTypes⟩, type, pos, after, guard⟩).run P w = .ok (.enter g ((SV.c (.ptr id off) :: vs).map (SV.den β) ++ []).toArray) w := by
        have e1 : #[Value.pointer ((β id).map (·.add off))] ++ (args.map a.eval) ++ #[] = ((SV.c (.ptr id off) :: vs).map (SV.den β) ++ []).toArray := by
          apply Array.ext'
          simp [hvs, SV.den, SA.den, SC.den]
        simp only [execOp, resolve, he, SV.den, SA.den, SC.den, Deferred.ofValue, pure_bind, invoke, Array.append_empty]
        rw [hcf]
        rw [Array.append_empty] at e1
        rw [e1]
      rw [hr]
      refine hc.mono ?_
      rintro e w' ⟨v, β', Z', fp', s', rfl, hnx, hk⟩
      exact hn v w' β' Z' fp' s' hnx hk
  · unfold XOp at h
    exact h β Z fp w a df hs hf next Q hn

end Go.Fw

/-
  One state in the place of another: with other numbers for its objects, and less said.
-/
namespace Go.Fw
open Go

def rn (ren : List (Nat × Option Nat)) (id : Nat) : Option Nat := match look ren id with
  | some r => r
  | none => some id

def eqCaps (ren : List (Nat × Option Nat)) (nx : Nat) : List (Nat × Nat) → List (Nat × Nat) → Prop
  | [], [] => True
  | (i, o) :: l, (j, p) :: m => (rn ren i = some j ∧ o = p ∧ i < nx) ∧ eqCaps ren nx l m
  | _, _ => False

def eqC (ren : List (Nat × Option Nat)) (nx : Nat) (c c' : SC) : Prop :=
  match c, c' with
  | .i n, .i m => n = m
  | .b n, .b m => n = m
  | .v x, .v y => x = y
  | .ptr i o, .ptr j p => rn ren i = some j ∧ o = p ∧ i < nx
  | .elt i sz k o, .elt j sz' k' o' => rn ren i = some j ∧ sz = sz' ∧ k = k' ∧ o = o' ∧ i < nx
  | .sl i sz lo len cap, .sl j sz' lo' len' cap' => rn ren i = some j ∧ sz = sz' ∧ lo = lo' ∧ len = len' ∧ cap = cap' ∧ i < nx
  | .sl i _ _ len cap, .v y => rn ren i = none ∧ y = .slice none 0 0 ∧ len = 0 ∧ cap = 0 ∧ i < nx
  | .fn f l, .fn g m => f = g ∧ eqCaps ren nx l m
  | .fnv f l, .fnv g m => f = g ∧ l = m
  | .u n, .u m => n = m
  | .h n, .h m => n = m
  | .q n, .q m => n = m
  | .mp i, .mp j => rn ren i = some j ∧ i < nx
  | .fm f i o, .fm g j p => f = g ∧ rn ren i = some j ∧ o = p ∧ i < nx
  | .pe i sz a k o, .pe j sz' a' k' o' => rn ren i = some j ∧ sz = sz' ∧ a = a' ∧ k = k' ∧ o = o' ∧ i < nx
  | _, _ => False

def eqCs (ren : List (Nat × Option Nat)) (nx : Nat) : List SC → List SC → Prop
  | [], [] => True
  | c :: l, d :: m => eqC ren nx c d ∧ eqCs ren nx l m
  | _, _ => False

def eqA (ren : List (Nat × Option Nat)) (nx : Nat) : SA → SA → Prop
  | .c x, .c y => eqC ren nx x y
  | .agg l, .agg m => eqCs ren nx l m
  | _, _ => False

def eqAs (ren : List (Nat × Option Nat)) (nx : Nat) : List SA → List SA → Prop
  | [], [] => True
  | c :: l, d :: m => eqA ren nx c d ∧ eqAs ren nx l m
  | _, _ => False

def eqV (ren : List (Nat × Option Nat)) (nx : Nat) : SV → SV → Prop
  | .a x, .a y => eqA ren nx x y
  | .tup l, .tup m => eqAs ren nx l m
  | _, _ => False

def eqFr (ren : List (Nat × Option Nat)) (nx : Nat) (fr : List (Nat × SV)) : List (Nat × SV) → Prop
  | [] => True
  | (t, v) :: l => (match look fr t with
    | some u => eqV ren nx v u
    | none => False) ∧ eqFr ren nx fr l

def eqO (ren : List (Nat × Option Nat)) (nx : Nat) : SO → SO → Prop
  | .box T cs, .box T' cs' => T = T' ∧ eqCs ren nx cs cs'
  | .arr own E k xs sp, .arr own' E' k' xs' sp' => own = own' ∧ E = E' ∧ (match EK.cast k' k xs' with
    | some ys => xs = ys
    | none => False) ∧ sp = sp'
  | .gen A, .gen A' => A = A'
  | .pool E k m, .pool E' k' m' => E = E' ∧ k = k' ∧ HEq m m'
  | .map kk vk es c, .map kk' vk' es' c' => kk = kk' ∧ vk = vk' ∧ HEq es es' ∧ c = c'
  | .iter i a l b d, .iter j a' l' b' d' => rn ren i = some j ∧ a = a' ∧ l = l' ∧ b = b' ∧ d = d' ∧ i < nx
  | _, _ => False

def nilO : SO → Prop
  | .arr _ _ _ xs sp => xs = [] ∧ sp = 0
  | .pool _ _ m => m = []
  | _ => False

def eqHp (ren : List (Nat × Option Nat)) (nx : Nat) (hp : List (Nat × SO)) : List (Nat × SO) → Prop
  | [] => True
  | (id, o) :: l => (id < nx ∧ match rn ren id with
    | some j => (match look hp j with
      | some o' => eqO ren nx o o'
      | none => False)
    | none => nilO o) ∧ eqHp ren nx hp l

/-- No two objects come from one. -/
def apart (ren : List (Nat × Option Nat)) (j : Option Nat) : List (Nat × SO) → Bool
  | [] => true
  | (id, _) :: l => (match j, rn ren id with
    | some i, some i' => !Nat.beq i i'
    | _, _ => true) && apart ren j l

def apartAll (ren : List (Nat × Option Nat)) : List (Nat × SO) → Bool
  | [] => true
  | (id, _) :: l => apart ren (rn ren id) l && apartAll ren l

def keepsB (n0 : Nat) : List (Nat × Option Nat) → Bool
  | [] => true
  | (id, r) :: l => (Nat.ble n0 id || match r with
    | some j => Nat.beq j id
    | none => false) && keepsB n0 l

structure Sub (n0 : Nat) (ren : List (Nat × Option Nat)) (s1 s : S) : Prop where
  ok : (apartAll ren s1.hp && keepsB n0 ren && Nat.ble n0 s1.nx) = true
  fr : eqFr ren s1.nx s.fr s1.fr
  hp : eqHp ren s1.nx s.hp s1.hp

def renE (ren : List (Nat × Option Nat)) (β : Env) : Env := fun id => match rn ren id with
  | some j => β j
  | none => none

theorem renE_some {ren : List (Nat × Option Nat)} {β : Env} {i j : Nat} (h : rn ren i = some j) : renE ren β i = β j := by unfold renE; rw [h]

theorem eqCaps_spec {ren : List (Nat × Option Nat)} {nx : Nat} {β : Env} : ∀ {l m : List (Nat × Nat)}, eqCaps ren nx l m →
    (l.map fun p => Value.pointer ((renE ren β p.1).map (·.add p.2))) = (m.map fun p => Value.pointer ((β p.1).map (·.add p.2))) ∧ ∀ p ∈ l, p.1 < nx
  | [], [], _ => ⟨rfl, by simp⟩
  | (i, o) :: l, (j, p) :: m, h => by
    obtain ⟨⟨h1, h2, h3⟩, h⟩ := h
    obtain ⟨e1, e2⟩ := eqCaps_spec (β := β) h
    subst h2
    refine ⟨by simp only [List.map_cons, renE_some h1, e1], ?_⟩
    intro q hq
    simp only [List.mem_cons] at hq
    rcases hq with rfl | hq
    · exact h3
    · exact e2 q hq
  | [], _ :: _, h => h.elim
  | _ :: _, [], h => h.elim

theorem eqC_spec {ren : List (Nat × Option Nat)} {nx n : Nat} {β : Env} {c d : SC} (h : eqC ren nx c d) (hd : d.lt n) : c.den (renE ren β) = d.den β ∧ c.lt nx := by
  unfold eqC at h
  split at h <;> try exact h.elim
  · subst h; exact ⟨rfl, trivial⟩
  · subst h; exact ⟨rfl, trivial⟩
  · subst h; exact ⟨rfl, hd⟩
  · obtain ⟨h1, rfl, h3⟩ := h
    exact ⟨by simp [SC.den, renE, h1], h3⟩
  · obtain ⟨h1, rfl, rfl, rfl, h3⟩ := h
    exact ⟨by simp [SC.den, renE, h1], h3⟩
  · obtain ⟨h1, rfl, rfl, rfl, rfl, h3⟩ := h
    exact ⟨by simp [SC.den, renE, h1], h3⟩
  · obtain ⟨h1, rfl, rfl, rfl, h3⟩ := h
    exact ⟨by simp [SC.den, renE, h1], h3⟩
  · obtain ⟨rfl, h⟩ := h
    obtain ⟨e1, e2⟩ := eqCaps_spec (β := β) h
    exact ⟨by simp [SC.den, e1], e2⟩
  · obtain ⟨rfl, rfl⟩ := h
    exact ⟨rfl, trivial⟩
  · subst h; exact ⟨rfl, trivial⟩
  · subst h; exact ⟨rfl, trivial⟩
  · subst h; exact ⟨rfl, trivial⟩
  · obtain ⟨h1, h3⟩ := h
    exact ⟨by simp [SC.den, renE, h1], h3⟩
  · obtain ⟨rfl, h1, rfl, h3⟩ := h
    exact ⟨by simp [SC.den, renE, h1], h3⟩
  · obtain ⟨_, rfl, rfl, rfl, rfl, h3⟩ := h
    exact ⟨rfl, h3⟩

theorem eqCs_spec {ren : List (Nat × Option Nat)} {nx n : Nat} {β : Env} : ∀ {l m : List SC}, eqCs ren nx l m → (∀ c ∈ m, SC.lt n c) → l.map (SC.den (renE ren β)) = m.map (SC.den β) ∧ ∀ c ∈ l, SC.lt nx c
  | [], [], _, _ => ⟨rfl, by simp⟩
  | c :: l, d :: m, h, hm => by
    obtain ⟨e1, e2⟩ := eqC_spec (β := β) h.1 (hm d (by simp))
    obtain ⟨f1, f2⟩ := eqCs_spec (β := β) h.2 (fun c hc => hm c (by simp [hc]))
    refine ⟨by simp [e1, f1], ?_⟩
    intro x hx
    simp only [List.mem_cons] at hx
    rcases hx with rfl | hx
    · exact e2
    · exact f2 x hx
  | [], _ :: _, h, _ => h.elim
  | _ :: _, [], h, _ => h.elim

theorem eqA_spec {ren : List (Nat × Option Nat)} {nx n : Nat} {β : Env} {x y : SA} (h : eqA ren nx x y) (hy : y.lt n) : x.den (renE ren β) = y.den β ∧ x.lt nx := by
  unfold eqA at h
  split at h <;> try exact h.elim
  · exact eqC_spec h hy
  · obtain ⟨e1, e2⟩ := eqCs_spec (β := β) h hy
    exact ⟨by simp [SA.den, e1], e2⟩

theorem eqAs_spec {ren : List (Nat × Option Nat)} {nx n : Nat} {β : Env} : ∀ {l m : List SA}, eqAs ren nx l m → (∀ c ∈ m, SA.lt n c) → l.map (SA.den (renE ren β)) = m.map (SA.den β) ∧ ∀ c ∈ l, SA.lt nx c
  | [], [], _, _ => ⟨rfl, by simp⟩
  | c :: l, d :: m, h, hm => by
    obtain ⟨e1, e2⟩ := eqA_spec (β := β) h.1 (hm d (by simp))
    obtain ⟨f1, f2⟩ := eqAs_spec (β := β) h.2 (fun c hc => hm c (by simp [hc]))
    refine ⟨by simp [e1, f1], ?_⟩
    intro x hx
    simp only [List.mem_cons] at hx
    rcases hx with rfl | hx
    · exact e2
    · exact f2 x hx
  | [], _ :: _, h, _ => h.elim
  | _ :: _, [], h, _ => h.elim

theorem eqV_spec {ren : List (Nat × Option Nat)} {nx n : Nat} {β : Env} {x y : SV} (h : eqV ren nx x y) (hy : y.lt n) : x.den (renE ren β) = y.den β ∧ x.lt nx := by
  unfold eqV at h
  split at h <;> try exact h.elim
  · exact eqA_spec h hy
  · obtain ⟨e1, e2⟩ := eqAs_spec (β := β) h hy
    exact ⟨by simp [SV.den, e1], e2⟩

theorem eqFr_look {ren : List (Nat × Option Nat)} {nx : Nat} {fr : List (Nat × SV)} : ∀ {l : List (Nat × SV)}, eqFr ren nx fr l → ∀ t v, look l t = some v → ∃ u, look fr t = some u ∧ eqV ren nx v u
  | [], _, t, v, h => by cases h
  | (t', v') :: l, h, t, v, hl => by
    rw [look_cons] at hl
    split at hl
    · rename_i e
      subst e
      cases hl
      have h1 := h.1
      split at h1
      · rename_i u hu; exact ⟨u, hu, h1⟩
      · exact h1.elim
    · exact eqFr_look h.2 t v hl

theorem eqHp_look {ren : List (Nat × Option Nat)} {nx : Nat} {hp : List (Nat × SO)} : ∀ {l : List (Nat × SO)}, eqHp ren nx hp l → ∀ id o, look l id = some o →
    id < nx ∧ ((∃ j o', rn ren id = some j ∧ look hp j = some o' ∧ eqO ren nx o o') ∨ (rn ren id = none ∧ nilO o))
  | [], _, t, v, h => by cases h
  | (t', v') :: l, h, t, v, hl => by
    rw [look_cons] at hl
    split at hl
    · rename_i e
      subst e
      cases hl
      obtain ⟨h0, h1⟩ := h.1
      refine ⟨h0, ?_⟩
      split at h1
      · rename_i j hj
        split at h1
        · rename_i o' ho'; exact .inl ⟨j, o', hj, ho', h1⟩
        · exact h1.elim
      · rename_i hj; exact .inr ⟨hj, h1⟩
    · exact eqHp_look h.2 t v hl

theorem apart_spec {ren : List (Nat × Option Nat)} {i : Nat} : ∀ {l : List (Nat × SO)}, apart ren (some i) l = true → ∀ id o, look l id = some o → rn ren id ≠ some i
  | [], _, t, v, h => by cases h
  | (t', v') :: l, h, t, v, hl => by
    simp only [apart, Bool.and_eq_true] at h
    rw [look_cons] at hl
    split at hl
    · rename_i e
      subst e
      intro e
      have h1 := h.1
      rw [e] at h1
      simp at h1
    · exact apart_spec h.2 t v hl

theorem apartAll_spec {ren : List (Nat × Option Nat)} : ∀ {l : List (Nat × SO)}, apartAll ren l = true → ∀ id id' o o' i, look l id = some o → look l id' = some o' → id ≠ id' → rn ren id = some i → rn ren id' ≠ some i
  | [], _, _, _, _, _, _, h, _, _, _ => by cases h
  | (t, v) :: l, h, id, id', o, o', i, h1, h2, hne, hr => by
    simp only [apartAll, Bool.and_eq_true] at h
    rw [look_cons] at h1 h2
    split at h1 <;> split at h2
    · rename_i e1 e2; exact absurd (e1.symm.trans e2) hne
    · rename_i e1 e2
      subst e1
      rw [hr] at h
      exact apart_spec h.1 _ _ h2
    · rename_i e1 e2
      subst e2
      intro e
      rw [e] at h
      exact apart_spec h.1 _ _ h1 hr
    · exact apartAll_spec h.2 id id' o o' i h1 h2 hne hr

theorem keeps_spec {n0 : Nat} : ∀ {l : List (Nat × Option Nat)}, keepsB n0 l = true → ∀ id, id < n0 → rn l id = some id
  | [], _, id, _ => rfl
  | (t, r) :: l, h, id, hid => by
    simp only [keepsB, Bool.and_eq_true, Bool.or_eq_true] at h
    unfold rn
    rw [look_cons]
    by_cases e : t = id
    · subst e
      rw [if_pos rfl]
      rcases h.1 with h1 | h1
      · rw [nble, decide_eq_true_eq] at h1; omega
      · cases r with
        | none => cases h1
        | some j =>
          simp only [nbeq, decide_eq_true_eq] at h1
          rw [h1]
    · rw [if_neg e]
      exact keeps_spec h.2 id hid

theorem eqO_ok {ren : List (Nat × Option Nat)} {nx n : Nat} {β : Env} {Z fp : Nat → Prop} {w : World} {oa : Option Addr} {o o' : SO} (h : eqO ren nx o o') (ho : o'.ok β Z fp w oa) (hlt : o'.lt n) :
    o.ok (renE ren β) Z fp w oa ∧ o.lt nx := by
  unfold eqO at h
  split at h <;> try exact h.elim
  · obtain ⟨rfl, h⟩ := h
    obtain ⟨e1, e2⟩ := eqCs_spec (β := β) h hlt
    obtain ⟨b, h1, h2, h3⟩ := ho
    exact ⟨⟨b, h1, h2, by rw [h3, e1]⟩, e2⟩
  · rename_i own E k xs sp own' E' k' xs' sp'
    obtain ⟨rfl, rfl, h, rfl⟩ := h
    split at h
    · rename_i ys hc
      obtain ⟨e, he⟩ := EK.cast_spec hc
      subst e
      change ys = xs' at he
      subst he
      subst h
      exact ⟨ho, trivial⟩
    · exact h.elim
  · subst h; exact ⟨ho, trivial⟩
  · obtain ⟨rfl, rfl, h⟩ := h
    cases h
    exact ⟨ho, trivial⟩
  · obtain ⟨rfl, rfl, h, rfl⟩ := h
    cases h
    exact ⟨ho, trivial⟩
  · obtain ⟨h1, rfl, rfl, rfl, rfl, h3⟩ := h
    obtain ⟨b, r, g1, g2, g3, g4⟩ := ho
    exact ⟨⟨b, r, g1, g2, by rw [renE_some h1]; exact g3, g4⟩, h3⟩

theorem Sub.sat {n0 : Nat} {ren : List (Nat × Option Nat)} {s1 s : S} (h : Sub n0 ren s1 s) {β : Env} {Z : Nat → Prop} {fp : Nat → Nat → Prop} {w : World} {a : Act} {N : NT}
    (hs : HSat β Z fp s w) (hf : FSat β s N a) : HSat (renE ren β) Z (fun id b => ∃ j, rn ren id = some j ∧ fp j b) s1 w ∧ FSat (renE ren β) s1 N a ∧ (∀ id, id < n0 → renE ren β id = β id) ∧ n0 ≤ s1.nx := by
  have hok := h.ok
  simp only [Bool.and_eq_true] at hok
  obtain ⟨⟨hap, hk⟩, hn⟩ := hok
  rw [nble, decide_eq_true_eq] at hn
  refine ⟨⟨hs.zlt', ?_, ?_, ?_, ?_⟩, ⟨?_, ?_, hf.size, hf.defers⟩, ?_, hn⟩
  · rintro id o hl b ⟨j, hj, hb⟩
    obtain ⟨_, h1 | h1⟩ := eqHp_look h.hp id o hl
    · obtain ⟨j', o', hj', hl', _⟩ := h1
      rw [hj] at hj'
      cases hj'
      exact hs.flt _ _ hl' b hb
    · rw [hj] at h1; cases h1.1
  · rintro id id' o o' hl hl' hne b ⟨j, hj, hb⟩ ⟨j', hj', hb'⟩
    have hjj : j ≠ j' := fun e => apartAll_spec hap id id' o o' j hl hl' hne hj (e ▸ hj')
    obtain ⟨_, h1 | h1⟩ := eqHp_look h.hp id o hl
    · obtain ⟨i, oi, hi, hli, _⟩ := h1
      obtain ⟨_, h2 | h2⟩ := eqHp_look h.hp id' o' hl'
      · obtain ⟨i', oi', hi', hli', _⟩ := h2
        rw [hj] at hi
        rw [hj'] at hi'
        cases hi
        cases hi'
        exact hs.sep j j' _ _ hli hli' hjj b hb hb'
      · rw [hj'] at h2; cases h2.1
    · rw [hj] at h1; cases h1.1
  · intro id o hl
    obtain ⟨_, h1 | h1⟩ := eqHp_look h.hp id o hl
    · obtain ⟨j, o', hj, hl', he⟩ := h1
      have := (eqO_ok he (hs.obj _ _ hl') (hs.lto _ _ hl').2).1
      have e1 : renE ren β id = β j := by simp [renE, hj]
      have e2 : (fun b => ∃ j, rn ren id = some j ∧ fp j b) = fp j := by
        funext b
        apply propext
        constructor
        · rintro ⟨i, hi, hb⟩; rw [hj] at hi; cases hi; exact hb
        · intro hb; exact ⟨j, hj, hb⟩
      rw [e1, e2]
      exact this
    · have e1 : renE ren β id = none := by simp [renE, h1.1]
      rw [e1]
      cases o with
      | arr own E k xs sp => exact h1.2
      | pool E k m =>
        have hm : m = [] := h1.2
        subst hm
        exact ⟨(fun a xs sp hl => by cases hl), (fun a a' x x' hl => by cases hl)⟩
      | box T cs => exact h1.2.elim
      | gen A => exact h1.2.elim
      | map kk vk es c => exact h1.2.elim
      | iter a b c d e => exact h1.2.elim
  · intro id o hl
    obtain ⟨h0, h1 | h1⟩ := eqHp_look h.hp id o hl
    · obtain ⟨j, o', hj, hl', he⟩ := h1
      exact ⟨h0, (eqO_ok he (hs.obj _ _ hl') (hs.lto _ _ hl').2).2⟩
    · refine ⟨h0, ?_⟩
      cases o with
      | arr own E k xs sp => trivial
      | pool E k m => trivial
      | box T cs => exact h1.2.elim
      | gen A => exact h1.2.elim
      | map kk vk es c => exact h1.2.elim
      | iter a b c d e => exact h1.2.elim
  · intro t v hl
    obtain ⟨u, hu, he⟩ := eqFr_look h.fr t v hl
    rw [hf.tmp t u hu, (eqV_spec (β := β) he (hf.lt t u hu)).1]
  · intro t v hl
    obtain ⟨u, hu, he⟩ := eqFr_look h.fr t v hl
    exact (eqV_spec (β := β) he (hf.lt t u hu)).2
  · intro id hid
    simp [renE, keeps_spec hk id hid]

end Go.Fw
