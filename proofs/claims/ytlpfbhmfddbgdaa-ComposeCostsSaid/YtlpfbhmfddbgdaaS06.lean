/-
  A function's text cut in two: what holds between.
-/
import Derived.Test.YtlpfbhmfddbgdaaS05
import Derived.RangeFuncIn
import Derived.RangeFuncRecord
import Derived.RangeFuncLeaves
import Derived.Test.YtlpfbhmfddbgdaaProg
import Derived.KernelRfl
import Derived.Deep.Slices
import Derived.Deep.Fields
import Derived.ChangeSame
import Derived.Lib.SmallJoins
import Derived.ProofKit
import Derived.SizedLaws
import Derived.Shelf.Bits.Mul64

set_option linter.unusedSimpArgs false
set_option linter.unusedVariables false

namespace Go.Fw
open Go

def takeC : Nat → Code → Code
  | 0, _ => .skip
  | k + 1, .seq a b => .seq a (takeC k b)
  | _ + 1, _ => .goto 0

def dropC : Nat → Code → Code
  | 0, c => c
  | k + 1, .seq _ b => dropC k b
  | _ + 1, _ => .skip

theorem SemC.of {P : Program} {ty : List (Nat × STy)} (hty : TyOk P ty) {N n0 : Nat} (n : Nat) (live : List Nat) {c : Code} {kn kr : S → Prop} {ke : Nat → S → Prop} {s : S} (h : exec P ty N AnyE n0 n live c kn kr ke s) : SemC P N n0 c kn kr ke s := by
  intro C hN h0 a w hs
  subst hN h0
  exact exec_sound hty (E := AnyE) (fun _ _ => trivial) c kn kr ke s a w h hs

theorem SemC.sub {P : Program} {N n0 : Nat} {c : Code} {kn kr : S → Prop} {ke : Nat → S → Prop} {s s1 : S} {ren : List (Nat × Option Nat)} (h : SemC P N n0 c kn kr ke s1) (hs : Sub n0 ren s1 s) : SemC P N n0 c kn kr ke s := by
  intro C hN h0 a w hsat
  subst h0
  exact h C hN rfl a w (hsat.sub hs)

/-- The text is cut behind its first k statements. -/
theorem SemC.cut {P : Program} {ty : List (Nat × STy)} (hty : TyOk P ty) {N n0 : Nat} (n : Nat) (live : List Nat) {kn kr : S → Prop} {ke : Nat → S → Prop} {α : Type} (pat : α → S) (inv : α → Prop) : ∀ (k : Nat) (c : Code) (s : S),
    exec P ty N AnyE n0 n live (takeC k c) (fun s' => ∃ x ren, Sub n0 ren (pat x) s' ∧ inv x) kr ke s → (∀ x, inv x → SemC P N n0 (dropC k c) kn kr ke (pat x)) → SemC P N n0 c kn kr ke s
  | 0, c, s, h, hk => by
    obtain ⟨x, ren, hsub, hi⟩ := h
    exact (hk x hi).sub hsub
  | k + 1, c, s, h, hk => by
    cases c <;> first
      | exact h.elim
      | skip
    rename_i x y
    intro C hN h0 a w hs
    subst hN h0
    refine wp_seq (wp_mono (exec_sound hty (E := AnyE) (fun _ _ => trivial) x _ kr ke s a w h hs) ?_)
    intro e a w hq
    cases e <;> first
      | exact hq
      | (obtain ⟨s', hk', hs'⟩ := hq; exact SemC.cut hty n live pat inv k y s' hk' hk C rfl rfl a w hs')

/-- A call of a function of the program, by its text. -/
theorem entryC {P : Program} {ty : List (Nat × STy)} (hty : TyOk P ty) {f : FuncId} {fn : Func} {c : Code} {R : Ending → World → Prop} (avs : List SV) (hp : List (Nat × SO)) (nx : Nat) (post : SV → S → Prop)
    {β : Env} {Z : Nat → Prop} {fp : Nat → Nat → Prop} {w : World} (hf : P.funcs[f]? = some fn) (hb : fn.body = some c) (hs : HSat β Z fp ⟨[], hp, nx⟩ w) (hlt : ∀ v ∈ avs, SV.lt nx v) (hn : avs.length ≤ fn.ntmps)
    {fr : List (Nat × SV)} (hfr : fr = enumL 0 avs)
    (hex : SemC P fn.ntmps nx c (retK ty fn.results.toList post) (retK ty fn.results.toList post) (fun _ _ => False) ⟨fr, hp, nx⟩)
    (hR : ∀ v w' β' Z' fp' s', Nxt β Z ⟨[], hp, nx⟩ w v w' β' Z' fp' ⟨[], s'.hp, s'.nx⟩ → post v s' → R (.returned (v.den β')) w') :
    Calls P f (avs.map (SV.den β)).toArray w R := by
  subst hfr
  refine calls_of_wp hf hb ?_
  let C : Ctx := ⟨w, Z, β, nx, fn.ntmps, []⟩
  have hsat : Sat C ⟨enumL 0 avs, hp, nx⟩ { tmps := (avs.map (SV.den β)).toArray ++ Array.replicate (fn.ntmps - (avs.map (SV.den β)).toArray.size) undef, defers := [] } w := by
    refine ⟨β, Z, fp, ⟨hs.zlt, hs.flt, hs.sep, hs.obj, hs.lto⟩, ⟨?_, ?_, ?_, rfl⟩, ⟨fun _ h => h, Ext.refl _ _, fun _ _ => rfl, Nat.le_refl _⟩⟩
    · intro t v ht
      obtain ⟨_, h2⟩ := look_enumL avs 0 t v ht
      rw [Nat.sub_zero] at h2
      have hlt' : t < avs.length := (List.getElem?_eq_some_iff.1 h2).1
      rw [Array.getElem?_append_left (by simpa using hlt')]
      simp [h2]
    · intro t v ht
      obtain ⟨_, h2⟩ := look_enumL avs 0 t v ht
      exact hlt v (List.mem_of_getElem? h2)
    · show _ = fn.ntmps
      simp; omega
  have hmain := hex C rfl rfl _ _ hsat
  have hres : ∀ s a w', retK ty fn.results.toList post s → Sat C s a w' → a.defers = [] ∧ ∃ v, (results fn a.tmps).run P w' = .ok v w' ∧ R (.returned v) w' := by
    intro s a w' hr hsat'
    obtain ⟨β', Z', fp', hs', hf', hc'⟩ := hsat'
    refine ⟨hf'.defers, ?_⟩
    obtain ⟨r, hk, hl, hrun⟩ := resK_sound hty hs' hf' _ _ hr
    have hnxt : ∀ v : SV, v.lt s.nx → Nxt β Z ⟨[], hp, nx⟩ w v w' β' Z' fp' ⟨[], s.hp, s.nx⟩ := fun v hv =>
      ⟨hc'.env, hc'.ext, hc'.zz, rfl, hc'.nx, ⟨hs'.zlt, hs'.flt, hs'.sep, hs'.obj, hs'.lto⟩, hv⟩
    have hrun2 : (results fn a.tmps).run P w' = .ok (if h : (r.map (SA.den β')).toArray.size = 1 then (r.map (SA.den β')).toArray[0] else .tuple (r.map (SA.den β')).toArray) w' := by
      have e1 : results fn a.tmps = (do let vs ← fn.results.mapM (resOne a.tmps); pure (if h : vs.size = 1 then vs[0] else .tuple vs)) := rfl
      rw [e1, Sem.run_bind, Array.mapM_eq_mapM_toList]
      simp only [Sem.run_map, hrun, Result.andThen_ok, Sem.run_pure]
    match r, hk, hl, hrun2 with
    | [x], hk, hl, hrun2 =>
      refine ⟨_, hrun2, ?_⟩
      have := hR (.a x) w' β' Z' fp' s (hnxt (.a x) (hl x (by simp))) hk
      simpa [SV.den] using this
    | [], hk, hl, hrun2 =>
      refine ⟨_, hrun2, ?_⟩
      have := hR (.tup []) w' β' Z' fp' s (hnxt (.tup []) hl) hk
      simpa [SV.den] using this
    | x :: y :: r, hk, hl, hrun2 =>
      refine ⟨_, hrun2, ?_⟩
      have := hR (.tup (x :: y :: r)) w' β' Z' fp' s (hnxt (.tup (x :: y :: r)) hl) hk
      rw [dif_neg (by simp)]
      exact this
  refine wp_mono hmain ?_
  intro e a w' hq
  cases e with
  | normal => obtain ⟨s, hr, hs'⟩ := hq; exact hres s a w' hr hs'
  | ret => obtain ⟨s, hr, hs'⟩ := hq; exact hres s a w' hr hs'
  | exit i => obtain ⟨s, hr, _⟩ := hq; exact hr.elim
  | goto l => exact hq.elim
  | panic ch => exact hq.elim
  | outgrown => exact hq.elim

theorem ctC {P : Program} {ty : List (Nat × STy)} (hty : TyOk P ty) {f : FuncId} {fn : Func} {c : Code} {avs : List SV} {hp : List (Nat × SO)} {nx : Nat} {post : SV → S → Prop}
    (hf : P.funcs[f]? = some fn) (hb : fn.body = some c) (hlt : ∀ v ∈ avs, SV.lt nx v) (hn : avs.length ≤ fn.ntmps) {fr : List (Nat × SV)} (hfr : fr = enumL 0 avs)
    (hex : SemC P fn.ntmps nx c (retK ty fn.results.toList (Back nx post)) (retK ty fn.results.toList (Back nx post)) (fun _ _ => False) ⟨fr, hp, nx⟩) : Ct P f avs [] hp nx post := by
  intro β Z fp w hs
  rw [List.append_nil]
  refine entryC hty avs hp nx (Back nx post) hf hb hs hlt hn hfr hex fun v w' β' Z' fp' s' hN hp => ?_
  obtain ⟨ren, hp1, nx1, v1, h1, h2, h3⟩ := hp
  obtain ⟨g1, _, g3, g4⟩ := h1.sat (N := (0, [])) (a := { tmps := #[], defers := [] }) hN.sat ⟨fun t v h => (by cases h), fun t v h => (by cases h), rfl, rfl⟩
  obtain ⟨e1, e2⟩ := eqV_spec (β := β') h2 hN.lt
  exact ⟨v1, renE ren β', Z', _, ⟨[], hp1, nx1⟩, by rw [e1], ⟨fun id hid => (g3 id hid).trans (hN.env id hid), hN.ext, hN.zz, rfl, g4, g1, e2⟩, h3⟩

end Go.Fw

/-
  The built-in clear over a list of one's own; a list of one's own cut short.
-/
namespace Go.Fw
open Go

section
variable {P : Program} {ty : List (Nat × STy)}

theorem clearX (hty : TyOk P ty) {N : Nat} {dst : Option Nat} {T E id lo len cap sp : Nat} {ek : EK} {bytes : Nat} {xs : List ek.ty} {x : Operand} {type : TypeId} {pos : String} {after : Array Edge} {guard : Option (Nat × Bool)} {s : S} {k : S → SV → Prop} {d : STy}
    (hd : look ty T = some d) (hsl : d.sl = some (E, ek, bytes)) (hx : ev s.fr x = some (.c (.sl id ek.sz lo len cap))) (hl : look s.hp id = some (.arr true E ek xs sp)) (hle : lo + len ≤ xs.length)
    (hk : updK s.hp id (.arr true E ek (xs.take lo ++ List.replicate len ek.dflt ++ xs.drop (lo + len)) sp) fun hp' => k ⟨s.fr, hp', s.nx⟩ .u) :
    XOp P N ⟨dst, .call ⟨.builtin .clear, #[x], #[T]⟩, type, pos, after, guard⟩ s k := by
  rw [updK_iff] at hk
  unfold XOp
  intro β Z fp w a df hs hf next Q hn
  obtain ⟨hu, hE, i, z, hi, hz, hisz, hib, hzc⟩ := (hty T d hd).sl _ _ _ hsl
  obtain ⟨hex, hltx⟩ := ev_den hf hx
  have hzsz : z.cells.size = ek.sz := by rw [← Array.length_toList, hzc, EK.cells_length]
  have hlk : LOk P β Z s w a ⟨dst, .call ⟨.builtin .clear, #[x], #[T]⟩, type, pos, after, guard⟩ k := by
    have hrun : ∀ w', (Builtin.clear_ #[T] type #[SV.den β (.a (.c (.sl id ek.sz lo len cap)))]).run P w = .ok (.tuple #[]) w' →
        (execOp a.eval ⟨dst, .call ⟨.builtin .clear, #[x], #[T]⟩, type, pos, after, guard⟩).run P w = .ok (.value (SV.u.den β)) w' := by
      intro w' hr
      simp only [SV.den] at hr
      simp [execOp, resolve, invoke, builtin, hex, hr, SV.den]
    have hok := hs.obj _ _ hl
    by_cases h0 : len = 0
    · subst h0
      have hr : (Builtin.clear_ #[T] type #[SV.den β (.a (.c (.sl id ek.sz lo 0 cap)))]).run P w = .ok (.tuple #[]) w := by
        simp only [SV.den, SA.den, SC.den]
        cases β id with
        | none => simp [Builtin.clear_, run_underlying hu]
        | some y => simp [Builtin.clear_, run_underlying hu]
      have e : xs.take lo ++ List.replicate 0 ek.dflt ++ xs.drop (lo + 0) = xs := by simp
      rw [e] at hk
      refine ⟨_, w, .u, β, fp, ⟨s.fr, upd s.hp id _, s.nx⟩, hrun _ hr, .inl rfl, fun _ _ => rfl, Ext.refl _ _, rfl, Nat.le_refl _, ?_, (by intro c hc; cases hc), hk⟩
      exact hs.put (w' := w) hl (fun _ _ => rfl) rfl hok trivial
    cases hb : β id with
    | none =>
      rw [hb] at hok
      obtain ⟨rfl, _⟩ := hok
      simp at hle
      omega
    | some x' =>
      rw [hb] at hok
      obtain ⟨hsp, hfp, pre, post, hh, hpre, hpost⟩ := hok
      have hml2 : lo * ek.sz + len * ek.sz ≤ (flat ek xs).length := by
        rw [flat_length, ← Nat.add_mul]; exact Nat.mul_le_mul_right _ hle
      have e2 : (flat ek (List.replicate len ek.dflt)).length = len * ek.sz := by rw [flat_length, List.length_replicate]
      have hst := run_storeCells_at P x'.block (x'.off + lo * ek.sz) E (flat ek (List.replicate len ek.dflt)) 0 (pre ++ flat ek xs ++ post).toArray w hh
        (by simp only [Nat.add_zero, e2, List.size_toArray, List.length_append]; omega) (flat_one ek _)
      simp only [Nat.add_zero] at hst
      have hzero : (Builtin.zeroCells z.cells len).toList = flat ek (List.replicate len ek.dflt) := by
        rw [← made_flat ek z.cells hzc]
        unfold Builtin.zeroCells madeCells
        rw [hzsz]
      have hzv : ∀ w, (zeroValue E).run P w = .ok z w := by intro w; simp [zeroValue, typeInfo, hi, hz]
      have hr : (Builtin.clear_ #[T] type #[SV.den β (.a (.c (.sl id ek.sz lo len cap)))]).run P w = .ok (.tuple #[]) (w.setRow x'.block (pre ++ flat ek (xs.take lo ++ List.replicate len ek.dflt ++ xs.drop (lo + len)) ++ post).toArray) := by
        obtain ⟨m, rfl⟩ : ∃ m, len = m + 1 := ⟨len - 1, by omega⟩
        simp only [SV.den, SA.den, SC.den, hb, Option.map_some, add_eq hsp]
        have e1 : (w.setRow x'.block ((pre ++ flat ek xs ++ post).take (x'.off + lo * ek.sz) ++ flat ek (List.replicate (m + 1) ek.dflt) ++ (pre ++ flat ek xs ++ post).drop (x'.off + lo * ek.sz + (flat ek (List.replicate (m + 1) ek.dflt)).length)).toArray) =
            (w.setRow x'.block (pre ++ flat ek (xs.take lo ++ List.replicate (m + 1) ek.dflt ++ xs.drop (lo + (m + 1))) ++ post).toArray) := by
          rw [e2, take_app pre (flat ek xs) post _ (lo * ek.sz) (by omega) (by omega), drop_app pre (flat ek xs) post _ (lo * ek.sz + (m + 1) * ek.sz) (by omega) hml2]
          congr 2
          rw [flat_append, flat_append]
          have l1 : flat ek (xs.take lo) = (flat ek xs).take (lo * ek.sz) := by
            have e3 : flat ek xs = flat ek (xs.take lo) ++ flat ek (xs.drop lo) := by rw [← flat_append, List.take_append_drop]
            have e4 : (flat ek (xs.take lo)).length = lo * ek.sz := by rw [flat_length, List.length_take, Nat.min_eq_left (by omega)]
            rw [e3, ← e4, List.take_left]
          have l2 : flat ek (xs.drop (lo + (m + 1))) = (flat ek xs).drop (lo * ek.sz + (m + 1) * ek.sz) := by
            have e3 : flat ek xs = flat ek (xs.take (lo + (m + 1))) ++ flat ek (xs.drop (lo + (m + 1))) := by rw [← flat_append, List.take_append_drop]
            have e4 : (flat ek (xs.take (lo + (m + 1)))).length = lo * ek.sz + (m + 1) * ek.sz := by rw [flat_length, List.length_take, Nat.min_eq_left hle, Nat.add_mul]
            rw [e3, ← e4, List.drop_left]
          rw [l1, l2]
          simp [List.append_assoc]
        rw [← e1]
        simp [Builtin.clear_, run_underlying hu, hzv, hzero, hst]
      refine l_put2 (v := .u) (ob' := .arr true E ek (xs.take lo ++ List.replicate len ek.dflt ++ xs.drop (lo + len)) sp) hs hl hfp (hrun _ hr) ?_ trivial (by intro c hc; cases hc) hk
      rw [hb]
      refine ⟨hsp, hfp, pre, post, ?_, hpre, hpost⟩
      rw [setRow_heap w _ _ _ E _ hh]
  obtain ⟨r, w', v, β', fp', s', R⟩ := hlk
  unfold Oper.wp
  rw [R.run]
  have := hn v w' β' Z fp' s' ⟨R.env, R.ext, fun _ h => h, R.fr, R.nx, R.sat, R.lt⟩ R.go
  rcases R.val with rfl | ⟨rfl, rfl⟩
  · exact this
  · exact this

/-- A list of one's own, of which the end is forgotten. -/
theorem HSat.short {β : Env} {Z : Nat → Prop} {fp : Nat → Nat → Prop} {w : World} {id E sp n : Nat} {ek : EK} {xs ys : List ek.ty} (hs : HSat β Z fp ⟨[], [(id, .arr true E ek (xs ++ ys) sp)], n⟩ w) :
    HSat β Z fp ⟨[], [(id, .arr true E ek xs (ys.length + sp))], n⟩ w := by
  have hl : look [(id, SO.arr true E ek (xs ++ ys) sp)] id = some (.arr true E ek (xs ++ ys) sp) := by rw [look_cons, if_pos rfl]
  have := hs.put (o' := .arr true E ek xs (ys.length + sp)) hl (w' := w) (fun _ _ => rfl) rfl ?_ trivial
  · rw [upd_cons, if_pos rfl] at this
    exact this
  · have hok := hs.obj _ _ hl
    cases hb : β id with
    | none =>
      rw [hb] at hok
      obtain ⟨h1, h2⟩ := hok
      have h3 := List.append_eq_nil_iff.1 h1
      exact ⟨h3.1, by rw [h3.2, h2]; rfl⟩
    | some x' =>
      rw [hb] at hok
      obtain ⟨hsp, hfp, pre, post, hh, hpre, hpost⟩ := hok
      refine ⟨hsp, hfp, pre, flat ek ys ++ post, ?_, hpre, ?_⟩
      · rw [hh, flat_append]; simp [List.append_assoc]
      · rw [List.length_append, flat_length, Nat.add_mul]; omega

/-- A contract of which the end of a list is forgotten. -/
theorem Ct.short {f : Nat} {args : List SV} {ex : List Value} {hp : List (Nat × SO)} {m : Nat} {p q : SV → S → Prop} (h : Ct P f args ex hp m p)
    (hpq : ∀ v s, p v s → ∃ (id E sp : Nat) (ek : EK) (xs ys : List ek.ty), s.hp = [(id, .arr true E ek (xs ++ ys) sp)] ∧ q v ⟨s.fr, [(id, .arr true E ek xs (ys.length + sp))], s.nx⟩) : Ct P f args ex hp m q :=
  fun β Z fp w hs => (h β Z fp w hs).mono fun e w' ⟨v, β', Z', fp', s', h1, h2, h3⟩ => by
    obtain ⟨id, E, sp, ek, xs, ys, e1, h4⟩ := hpq v s' h3
    have hsat := h2.sat
    rw [e1] at hsat
    exact ⟨v, β', Z', fp', (⟨s'.fr, [(id, .arr true E ek xs (ys.length + sp))], s'.nx⟩ : S), h1, ⟨h2.env, h2.ext, h2.zz, h2.fr, h2.nx, HSat.short hsat, h2.lt⟩, h4⟩
end
end Go.Fw

/-
  A range over a function: the call of yield; the statement.
-/
namespace Go.Fw
open Go

/-- The loop's record. -/
def loopO (l : Nat) (r : Loop) : SO := .gen fun oa _ fp w => oa = some ⟨l, 0, none⟩ ∧ fp l ∧ w.heap[l]? = some (.loop r)
/-- The block of the calls that its rounds have deferred: none. -/
def markO (D : Nat) : SO := .gen fun oa _ fp w => oa = some ⟨D, 0, none⟩ ∧ fp D ∧ w.heap[D]? = some (.deferred (some []))

section
variable {P : Program} {ty : List (Nat × STy)} {β : Env} {Z : Nat → Prop} {fp : Nat → Nat → Prop} {s : S} {w : World}

theorem putObj_other {l : Nat} {o : Obj} {b : Nat} (h : b ≠ l) : (w.putObj l o).heap[b]? = w.heap[b]? := World.putObj_heap_other h
end
end Go.Fw

/-
  A function that ranges over a function, from its text.
-/
namespace Go.Fw
open Go

/-- What is no longer looked at. -/
def junkO : SO := .gen fun _ _ _ _ => True
theorem junkO_ok {β : Env} {Z : Nat → Prop} {fp : Nat → Prop} {w : World} {oa : Option Addr} : junkO.ok β Z fp w oa := ⟨trivial, fun _ _ _ _ => trivial⟩

/-- The objects from of old lie where they lay. -/
def EIt (n1 : Nat) (β1 : Env) : Env → Prop := fun β => ∀ id, id < n1 → β id = β1 id

/-- The loop's record, as it stands between the rounds. -/
structure RecOk (N : Nat) (fr : List (Nat × SV)) (β1 : Env) (n1 p q i1 : Nat) (ops1 : Array Oper) (i2 : Nat) (ops2 : Array Oper) (b i3 : Nat) (ops3 : Array Oper) (r : Loop) : Prop where
  rd : r.state = .ready
  pd : r.pending = none
  ps : r.params = #[p, q]
  has : r.assign = .seq (.region i1 ops1 false) (.region i2 ops2 false)
  bo : r.body = .block b (.region i3 ops3 false)
  sz : r.tmps.size = N
  fr : ∀ t v, look fr t = some v → r.tmps[t]? = some (v.den β1) ∧ v.lt n1

theorem HSat.junk {β : Env} {Z : Nat → Prop} {fp : Nat → Nat → Prop} {s : S} {w : World} (hs : HSat β Z fp s w) {id l : Nat} {o : SO} (x : Obj) (hl : look s.hp id = some o) (hfl : fp id l) : HSat β Z fp ⟨s.fr, upd s.hp id junkO, s.nx⟩ (w.putObj l x) :=
  hs.put hl (fun b hb => putObj_other (fun e => hb (e ▸ hfl))) (by simp [World.putObj]) junkO_ok trivial

/-- The end behind a range over a function: the mark is taken away. -/
def markK (ty : List (Nat × STy)) (rs : List ResultVar) (n0 mid D : Nat) (post : SV → S → Prop) (s : S) : Prop :=
  Ob (look s.hp mid = some (markO D)) (updK s.hp mid junkO fun hp => retK ty rs (Back n0 post) ⟨s.fr, hp, s.nx⟩)

end Go.Fw

/-
  A range over a function whose head stands in one part with the region before it; an own empty list handed on.
-/
namespace Go.Fw
open Go

end Go.Fw

/-
  A part of a lent list handed on.
-/
namespace Go.Fw
open Go

end Go.Fw

/-
  Two pools of ints behind a call: one pool.
-/
namespace Go.Fw
open Go

section
variable {P : Program} {β : Env} {Z : Nat → Prop} {fp : Nat → Nat → Prop} {s : S} {w : World}

end
end Go.Fw

/-
  The types of the program as the executor sees them. (Printed by gentypes.py.)
-/
namespace Go.Fw
open Go Go.Proofs

def Try.ty : List (Nat × STy) := [
  (3, ⟨1, false, [], [.i 0], none, none⟩),
  (4, ⟨2, false, [], [.b false], none, none⟩),
  (9, ⟨3, false, [], [.v (.string ⟨#[]⟩)], none, none⟩),
  (22, ⟨6, false, [], [.v (.slice none 0 0)], some (3, .int, 8), none⟩),
  (23, ⟨6, false, [], [.v (.slice none 0 0)], some (47, .arc, 40), none⟩),
  (25, ⟨5, true, [(0, 1), (1, 1), (2, 1), (3, 1)], [.i 0, .i 0, .v (.slice none 0 0), .v (.slice none 0 0)], none, none⟩),
  (26, ⟨1, false, [], [.i 0], none, none⟩),
  (45, ⟨6, false, [], [.v (.slice none 0 0)], some (4, .bool, 1), none⟩),
  (47, ⟨7, true, [(0, 1), (1, 1), (2, 1), (3, 1), (4, 1)], [.i 0, .i 0, .i 0, .i 0, .i 0], none, none⟩),
  (60, ⟨6, false, [], [.v (.slice none 0 0)], some (25, .fst, 64), none⟩),
  (67, ⟨0, false, [], [.v (.pointer none)], none, none⟩),
  (69, ⟨7, true, [(0, 1), (1, 1), (2, 1)], [.i 0, .i 0, .i 0], none, none⟩),
  (72, ⟨6, false, [], [.v (.slice none 0 0)], some (75, .sli, 24), none⟩),
  (75, ⟨6, false, [], [.v (.slice none 0 0)], some (22, .sli, 24), none⟩),
  (95, ⟨0, false, [], [.v (.pointer none)], none, none⟩),
  (103, ⟨0, false, [], [.v (.pointer none)], none, none⟩),
  (104, ⟨0, false, [], [.v (.map none)], none, some (110, .trip, 3, .int)⟩),
  (105, ⟨6, false, [], [.v (.slice none 0 0)], some (110, .trip, 24), none⟩),
  (107, ⟨5, true, [(0, 4), (4, 4), (8, 1), (9, 1), (10, 4), (14, 1)], [.i 0, .i 0, .v (.slice none 0 0), .v (.slice none 0 0), .i 0, .i 0, .v (.slice none 0 0), .v (.slice none 0 0), .v (.map none), .v (.slice none 0 0), .i 0, .i 0, .v (.slice none 0 0), .v (.slice none 0 0), .b false], none, none⟩),
  (110, ⟨7, true, [(0, 1), (1, 1), (2, 1)], [.i 0, .i 0, .i 0], none, none⟩),
  (113, ⟨0, false, [], [.v (.map none)], none, some (69, .trip, 118, .adr)⟩),
  (115, ⟨5, true, [(0, 4), (4, 1), (5, 1), (6, 1), (7, 1)], [.i 0, .i 0, .v (.slice none 0 0), .v (.slice none 0 0), .v (.slice none 0 0), .v (.slice none 0 0), .v (.slice none 0 0), .v (.map none)], none, none⟩),
  (118, ⟨0, false, [], [.v (.pointer none)], none, none⟩),
  (120, ⟨5, true, [(0, 1), (1, 1), (2, 3), (5, 1)], [.i 0, .i 0, .i 0, .i 0, .i 0, .b false], none, none⟩),
  (130, ⟨5, true, [(0, 4)], [.i 0, .i 0, .v (.slice none 0 0), .v (.slice none 0 0)], none, none⟩),
  (142, ⟨4, false, [], [.u 0], none, none⟩),
  (147, ⟨0, false, [], [.v (.map none)], none, some (3, .int, 3, .int)⟩),
  (153, ⟨4, false, [], [.u 0], none, none⟩)]

set_option maxRecDepth 100000 in
theorem Try.cmp47 : CmpOk Try.prog 47 5 := by
    refine ⟨fun op x y xs ys w => run_eqGuard_agg w op 47 x y xs ys (by kernel_rfl), fun l m w hl hm => ?_⟩
    have h3 : Try.prog.underlying 3 = some (.int .i64) := by kernel_rfl
    have hp : ∀ (cs : Array Value) (i : Nat) (v : Value) (w : World), cs[i]? = some v → (part 3 cs i).run Try.prog w = .ok v w := by
      intro cs i v w h
      simp [part, (by kernel_rfl : (isAgg 3).run Try.prog w = .ok false w), h]
    have hi : ∀ (a b : Int) (w : World), (Op.equalIn 9999 3 (.int .i64 a) (.int .i64 b)).run Try.prog w = .ok (a == b) w := fun a b w => run_equalIn_int w 9998 3 .i64 .i64 a b h3
    match l, m, hl, hm with
    | [a0, a1, a2, a3, a4], [b0, b1, b2, b3, b4], _, _ =>
      rw [run_equalIn_struct w 9999 47 _ _ (by kernel_rfl) (by kernel_rfl)]
      unfold Program.fieldsOf
      rw [Try.underlying47]
      generalize hA : (List.map (Value.int .i64) [a0, a1, a2, a3, a4]).toArray = A
      generalize hB : (List.map (Value.int .i64) [b0, b1, b2, b3, b4]).toArray = B
      have g : ∀ (i : Nat) (x y : Int) (w : World) (r : Sem Bool), A[i]? = some (.int .i64 x) → B[i]? = some (.int .i64 y) → ((do let a ← part 3 A i; let b ← part 3 B i; let r' ← Op.equalIn 9999 3 a b; if (!r') = true then pure false else r : Sem Bool)).run Try.prog w = if x = y then r.run Try.prog w else .ok false w := by
        intro i x y w r h1 h2
        by_cases hxy : x = y <;> simp [hp A i _ w h1, hp B i _ w h2, hi, hxy]
      subst hA hB
      simp only [Op.eqFields, ne_eq, String.reduceEq, not_false_eq_true, if_true]
      rw [g 0 a0 b0 w _ rfl rfl, g 1 a1 b1 w _ rfl rfl, g 2 a2 b2 w _ rfl rfl, g 3 a3 b3 w _ rfl rfl, g 4 a4 b4 w _ rfl rfl]
      by_cases h0 : a0 = b0 <;> by_cases h1 : a1 = b1 <;> by_cases h2 : a2 = b2 <;> by_cases h3 : a3 = b3 <;> by_cases h4 : a4 = b4 <;> simp [h0, h1, h2, h3, h4]

set_option maxRecDepth 100000 in
theorem Try.cmp69 : CmpOk Try.prog 69 3 := by
    refine ⟨fun op x y xs ys w => run_eqGuard_agg w op 69 x y xs ys (by kernel_rfl), fun l m w hl hm => ?_⟩
    have h3 : Try.prog.underlying 3 = some (.int .i64) := by kernel_rfl
    have hp : ∀ (cs : Array Value) (i : Nat) (v : Value) (w : World), cs[i]? = some v → (part 3 cs i).run Try.prog w = .ok v w := by
      intro cs i v w h
      simp [part, (by kernel_rfl : (isAgg 3).run Try.prog w = .ok false w), h]
    have hi : ∀ (a b : Int) (w : World), (Op.equalIn 9999 3 (.int .i64 a) (.int .i64 b)).run Try.prog w = .ok (a == b) w := fun a b w => run_equalIn_int w 9998 3 .i64 .i64 a b h3
    match l, m, hl, hm with
    | [a0, a1, a2], [b0, b1, b2], _, _ =>
      rw [run_equalIn_struct w 9999 69 _ _ (by kernel_rfl) (by kernel_rfl)]
      unfold Program.fieldsOf
      rw [Try.underlying69]
      generalize hA : (List.map (Value.int .i64) [a0, a1, a2]).toArray = A
      generalize hB : (List.map (Value.int .i64) [b0, b1, b2]).toArray = B
      have g : ∀ (i : Nat) (x y : Int) (w : World) (r : Sem Bool), A[i]? = some (.int .i64 x) → B[i]? = some (.int .i64 y) → ((do let a ← part 3 A i; let b ← part 3 B i; let r' ← Op.equalIn 9999 3 a b; if (!r') = true then pure false else r : Sem Bool)).run Try.prog w = if x = y then r.run Try.prog w else .ok false w := by
        intro i x y w r h1 h2
        by_cases hxy : x = y <;> simp [hp A i _ w h1, hp B i _ w h2, hi, hxy]
      subst hA hB
      simp only [Op.eqFields, ne_eq, String.reduceEq, not_false_eq_true, if_true]
      rw [g 0 a0 b0 w _ rfl rfl, g 1 a1 b1 w _ rfl rfl, g 2 a2 b2 w _ rfl rfl]
      by_cases h0 : a0 = b0 <;> by_cases h1 : a1 = b1 <;> by_cases h2 : a2 = b2 <;> simp [h0, h1, h2]

set_option maxRecDepth 100000 in
theorem Try.cmp110 : CmpOk Try.prog 110 3 := by
    refine ⟨fun op x y xs ys w => run_eqGuard_agg w op 110 x y xs ys (by kernel_rfl), fun l m w hl hm => ?_⟩
    have h3 : Try.prog.underlying 3 = some (.int .i64) := by kernel_rfl
    have hp : ∀ (cs : Array Value) (i : Nat) (v : Value) (w : World), cs[i]? = some v → (part 3 cs i).run Try.prog w = .ok v w := by
      intro cs i v w h
      simp [part, (by kernel_rfl : (isAgg 3).run Try.prog w = .ok false w), h]
    have hi : ∀ (a b : Int) (w : World), (Op.equalIn 9999 3 (.int .i64 a) (.int .i64 b)).run Try.prog w = .ok (a == b) w := fun a b w => run_equalIn_int w 9998 3 .i64 .i64 a b h3
    match l, m, hl, hm with
    | [a0, a1, a2], [b0, b1, b2], _, _ =>
      rw [run_equalIn_struct w 9999 110 _ _ (by kernel_rfl) (by kernel_rfl)]
      unfold Program.fieldsOf
      rw [Try.underlying110]
      generalize hA : (List.map (Value.int .i64) [a0, a1, a2]).toArray = A
      generalize hB : (List.map (Value.int .i64) [b0, b1, b2]).toArray = B
      have g : ∀ (i : Nat) (x y : Int) (w : World) (r : Sem Bool), A[i]? = some (.int .i64 x) → B[i]? = some (.int .i64 y) → ((do let a ← part 3 A i; let b ← part 3 B i; let r' ← Op.equalIn 9999 3 a b; if (!r') = true then pure false else r : Sem Bool)).run Try.prog w = if x = y then r.run Try.prog w else .ok false w := by
        intro i x y w r h1 h2
        by_cases hxy : x = y <;> simp [hp A i _ w h1, hp B i _ w h2, hi, hxy]
      subst hA hB
      simp only [Op.eqFields, ne_eq, String.reduceEq, not_false_eq_true, if_true]
      rw [g 0 a0 b0 w _ rfl rfl, g 1 a1 b1 w _ rfl rfl, g 2 a2 b2 w _ rfl rfl]
      by_cases h0 : a0 = b0 <;> by_cases h1 : a1 = b1 <;> by_cases h2 : a2 = b2 <;> simp [h0, h1, h2]

set_option maxRecDepth 100000 in
theorem Try.tyOk3 : TyOk1 Try.prog 3 ⟨1, false, [], [.i 0], none, none⟩ where
  agg _ := by kernel_rfl
  size _ := by kernel_rfl
  zero _ := by kernel_rfl
  one _ := ⟨_, rfl⟩
  zlt := by simp [SC.lt]
  str h := by cases h
  bt h := by cases h
  sl _ _ _ h := by cases h
  mp _ _ _ _ h := by cases h
  kd1 _ := by kernel_rfl
  kd2 h := by cases h
  kd3 h := by cases h
  kd4 h := by cases h
  cmp h := by cases h

set_option maxRecDepth 100000 in
theorem Try.tyOk4 : TyOk1 Try.prog 4 ⟨2, false, [], [.b false], none, none⟩ where
  agg _ := by kernel_rfl
  size _ := by kernel_rfl
  zero _ := by kernel_rfl
  one _ := ⟨_, rfl⟩
  zlt := by simp [SC.lt]
  str h := by cases h
  bt h := by cases h
  sl _ _ _ h := by cases h
  mp _ _ _ _ h := by cases h
  kd1 h := by cases h
  kd2 _ := by kernel_rfl
  kd3 h := by cases h
  kd4 h := by cases h
  cmp h := by cases h

set_option maxRecDepth 100000 in
theorem Try.tyOk9 : TyOk1 Try.prog 9 ⟨3, false, [], [.v (.string ⟨#[]⟩)], none, none⟩ where
  agg _ := by kernel_rfl
  size _ := by kernel_rfl
  zero _ := by kernel_rfl
  one _ := ⟨_, rfl⟩
  zlt := by simp [SC.lt, Value.oneCell']
  str h := by cases h
  bt h := by cases h
  sl _ _ _ h := by cases h
  mp _ _ _ _ h := by cases h
  kd1 h := by cases h
  kd2 h := by cases h
  kd3 _ := by kernel_rfl
  kd4 h := by cases h
  cmp h := by cases h

set_option maxRecDepth 100000 in
theorem Try.tyOk22 : TyOk1 Try.prog 22 ⟨6, false, [], [.v (.slice none 0 0)], some (3, .int, 8), none⟩ where
  agg _ := by kernel_rfl
  size _ := by kernel_rfl
  zero _ := by kernel_rfl
  one _ := ⟨_, rfl⟩
  zlt := by simp [SC.lt, Value.oneCell']
  str h := by cases h
  bt h := by cases h
  sl _ _ _ h := by cases h; exact ⟨by kernel_rfl, fun _ => by kernel_rfl, Try.t3, _, by kernel_rfl, rfl, rfl, rfl, rfl⟩
  mp _ _ _ _ h := by cases h
  kd1 h := by cases h
  kd2 h := by cases h
  kd3 h := by cases h
  kd4 h := by cases h
  cmp h := by cases h

set_option maxRecDepth 100000 in
theorem Try.tyOk23 : TyOk1 Try.prog 23 ⟨6, false, [], [.v (.slice none 0 0)], some (47, .arc, 40), none⟩ where
  agg _ := by kernel_rfl
  size _ := by kernel_rfl
  zero _ := by kernel_rfl
  one _ := ⟨_, rfl⟩
  zlt := by simp [SC.lt, Value.oneCell']
  str h := by cases h
  bt h := by cases h
  sl _ _ _ h := by cases h; exact ⟨by kernel_rfl, fun _ => by kernel_rfl, Try.t47, _, by kernel_rfl, rfl, rfl, rfl, rfl⟩
  mp _ _ _ _ h := by cases h
  kd1 h := by cases h
  kd2 h := by cases h
  kd3 h := by cases h
  kd4 h := by cases h
  cmp h := by cases h

set_option maxRecDepth 100000 in
theorem Try.tyOk25 : TyOk1 Try.prog 25 ⟨5, true, [(0, 1), (1, 1), (2, 1), (3, 1)], [.i 0, .i 0, .v (.slice none 0 0), .v (.slice none 0 0)], none, none⟩ where
  agg _ := by kernel_rfl
  size _ := by kernel_rfl
  zero _ := by kernel_rfl
  one h := by cases h
  zlt := by simp [SC.lt, Value.oneCell']
  str _ := by
    refine ⟨_, Try.underlying25, ?_⟩
    intro i p h
    match i, h with
    | 0, h => cases h; exact ⟨_, rfl, rfl, fun _ => by kernel_rfl, by decide⟩
    | 1, h => cases h; exact ⟨_, rfl, rfl, fun _ => by kernel_rfl, by decide⟩
    | 2, h => cases h; exact ⟨_, rfl, rfl, fun _ => by kernel_rfl, by decide⟩
    | 3, h => cases h; exact ⟨_, rfl, rfl, fun _ => by kernel_rfl, by decide⟩
    | n + 4, h => simp at h
  bt _ parts := by kernel_rfl
  sl _ _ _ h := by cases h
  mp _ _ _ _ h := by cases h
  kd1 h := by cases h
  kd2 h := by cases h
  kd3 h := by cases h
  kd4 h := by cases h
  cmp h := by cases h

set_option maxRecDepth 100000 in
theorem Try.tyOk26 : TyOk1 Try.prog 26 ⟨1, false, [], [.i 0], none, none⟩ where
  agg _ := by kernel_rfl
  size _ := by kernel_rfl
  zero _ := by kernel_rfl
  one _ := ⟨_, rfl⟩
  zlt := by simp [SC.lt]
  str h := by cases h
  bt h := by cases h
  sl _ _ _ h := by cases h
  mp _ _ _ _ h := by cases h
  kd1 _ := by kernel_rfl
  kd2 h := by cases h
  kd3 h := by cases h
  kd4 h := by cases h
  cmp h := by cases h

set_option maxRecDepth 100000 in
theorem Try.tyOk45 : TyOk1 Try.prog 45 ⟨6, false, [], [.v (.slice none 0 0)], some (4, .bool, 1), none⟩ where
  agg _ := by kernel_rfl
  size _ := by kernel_rfl
  zero _ := by kernel_rfl
  one _ := ⟨_, rfl⟩
  zlt := by simp [SC.lt, Value.oneCell']
  str h := by cases h
  bt h := by cases h
  sl _ _ _ h := by cases h; exact ⟨by kernel_rfl, fun _ => by kernel_rfl, Try.t4, _, by kernel_rfl, rfl, rfl, rfl, rfl⟩
  mp _ _ _ _ h := by cases h
  kd1 h := by cases h
  kd2 h := by cases h
  kd3 h := by cases h
  kd4 h := by cases h
  cmp h := by cases h

set_option maxRecDepth 100000 in
theorem Try.tyOk47 : TyOk1 Try.prog 47 ⟨7, true, [(0, 1), (1, 1), (2, 1), (3, 1), (4, 1)], [.i 0, .i 0, .i 0, .i 0, .i 0], none, none⟩ where
  agg _ := by kernel_rfl
  size _ := by kernel_rfl
  zero _ := by kernel_rfl
  one h := by cases h
  zlt := by simp [SC.lt]
  str _ := by
    refine ⟨_, Try.underlying47, ?_⟩
    intro i p h
    match i, h with
    | 0, h => cases h; exact ⟨_, rfl, rfl, fun _ => by kernel_rfl, by decide⟩
    | 1, h => cases h; exact ⟨_, rfl, rfl, fun _ => by kernel_rfl, by decide⟩
    | 2, h => cases h; exact ⟨_, rfl, rfl, fun _ => by kernel_rfl, by decide⟩
    | 3, h => cases h; exact ⟨_, rfl, rfl, fun _ => by kernel_rfl, by decide⟩
    | 4, h => cases h; exact ⟨_, rfl, rfl, fun _ => by kernel_rfl, by decide⟩
    | n + 5, h => simp at h
  bt _ parts := by kernel_rfl
  sl _ _ _ h := by cases h
  mp _ _ _ _ h := by cases h
  kd1 h := by cases h
  kd2 h := by cases h
  kd3 h := by cases h
  kd4 h := by cases h
  cmp _ := Try.cmp47

set_option maxRecDepth 100000 in
theorem Try.tyOk60 : TyOk1 Try.prog 60 ⟨6, false, [], [.v (.slice none 0 0)], some (25, .fst, 64), none⟩ where
  agg _ := by kernel_rfl
  size _ := by kernel_rfl
  zero _ := by kernel_rfl
  one _ := ⟨_, rfl⟩
  zlt := by simp [SC.lt, Value.oneCell']
  str h := by cases h
  bt h := by cases h
  sl _ _ _ h := by cases h; exact ⟨by kernel_rfl, fun _ => by kernel_rfl, Try.t25, _, by kernel_rfl, rfl, rfl, rfl, rfl⟩
  mp _ _ _ _ h := by cases h
  kd1 h := by cases h
  kd2 h := by cases h
  kd3 h := by cases h
  kd4 h := by cases h
  cmp h := by cases h

set_option maxRecDepth 100000 in
theorem Try.tyOk67 : TyOk1 Try.prog 67 ⟨0, false, [], [.v (.pointer none)], none, none⟩ where
  agg _ := by kernel_rfl
  size _ := by kernel_rfl
  zero _ := by kernel_rfl
  one _ := ⟨_, rfl⟩
  zlt := by simp [SC.lt, Value.oneCell']
  str h := by cases h
  bt h := by cases h
  sl _ _ _ h := by cases h
  mp _ _ _ _ h := by cases h
  kd1 h := by cases h
  kd2 h := by cases h
  kd3 h := by cases h
  kd4 h := by cases h
  cmp h := by cases h

set_option maxRecDepth 100000 in
theorem Try.tyOk69 : TyOk1 Try.prog 69 ⟨7, true, [(0, 1), (1, 1), (2, 1)], [.i 0, .i 0, .i 0], none, none⟩ where
  agg _ := by kernel_rfl
  size _ := by kernel_rfl
  zero _ := by kernel_rfl
  one h := by cases h
  zlt := by simp [SC.lt]
  str _ := by
    refine ⟨_, Try.underlying69, ?_⟩
    intro i p h
    match i, h with
    | 0, h => cases h; exact ⟨_, rfl, rfl, fun _ => by kernel_rfl, by decide⟩
    | 1, h => cases h; exact ⟨_, rfl, rfl, fun _ => by kernel_rfl, by decide⟩
    | 2, h => cases h; exact ⟨_, rfl, rfl, fun _ => by kernel_rfl, by decide⟩
    | n + 3, h => simp at h
  bt _ parts := by kernel_rfl
  sl _ _ _ h := by cases h
  mp _ _ _ _ h := by cases h
  kd1 h := by cases h
  kd2 h := by cases h
  kd3 h := by cases h
  kd4 h := by cases h
  cmp _ := Try.cmp69

set_option maxRecDepth 100000 in
theorem Try.tyOk72 : TyOk1 Try.prog 72 ⟨6, false, [], [.v (.slice none 0 0)], some (75, .sli, 24), none⟩ where
  agg _ := by kernel_rfl
  size _ := by kernel_rfl
  zero _ := by kernel_rfl
  one _ := ⟨_, rfl⟩
  zlt := by simp [SC.lt, Value.oneCell']
  str h := by cases h
  bt h := by cases h
  sl _ _ _ h := by cases h; exact ⟨by kernel_rfl, fun _ => by kernel_rfl, Try.t75, _, by kernel_rfl, rfl, rfl, rfl, rfl⟩
  mp _ _ _ _ h := by cases h
  kd1 h := by cases h
  kd2 h := by cases h
  kd3 h := by cases h
  kd4 h := by cases h
  cmp h := by cases h

set_option maxRecDepth 100000 in
theorem Try.tyOk75 : TyOk1 Try.prog 75 ⟨6, false, [], [.v (.slice none 0 0)], some (22, .sli, 24), none⟩ where
  agg _ := by kernel_rfl
  size _ := by kernel_rfl
  zero _ := by kernel_rfl
  one _ := ⟨_, rfl⟩
  zlt := by simp [SC.lt, Value.oneCell']
  str h := by cases h
  bt h := by cases h
  sl _ _ _ h := by cases h; exact ⟨by kernel_rfl, fun _ => by kernel_rfl, Try.t22, _, by kernel_rfl, rfl, rfl, rfl, rfl⟩
  mp _ _ _ _ h := by cases h
  kd1 h := by cases h
  kd2 h := by cases h
  kd3 h := by cases h
  kd4 h := by cases h
  cmp h := by cases h

set_option maxRecDepth 100000 in
theorem Try.tyOk95 : TyOk1 Try.prog 95 ⟨0, false, [], [.v (.pointer none)], none, none⟩ where
  agg _ := by kernel_rfl
  size _ := by kernel_rfl
  zero _ := by kernel_rfl
  one _ := ⟨_, rfl⟩
  zlt := by simp [SC.lt, Value.oneCell']
  str h := by cases h
  bt h := by cases h
  sl _ _ _ h := by cases h
  mp _ _ _ _ h := by cases h
  kd1 h := by cases h
  kd2 h := by cases h
  kd3 h := by cases h
  kd4 h := by cases h
  cmp h := by cases h

set_option maxRecDepth 100000 in
theorem Try.tyOk103 : TyOk1 Try.prog 103 ⟨0, false, [], [.v (.pointer none)], none, none⟩ where
  agg _ := by kernel_rfl
  size _ := by kernel_rfl
  zero _ := by kernel_rfl
  one _ := ⟨_, rfl⟩
  zlt := by simp [SC.lt, Value.oneCell']
  str h := by cases h
  bt h := by cases h
  sl _ _ _ h := by cases h
  mp _ _ _ _ h := by cases h
  kd1 h := by cases h
  kd2 h := by cases h
  kd3 h := by cases h
  kd4 h := by cases h
  cmp h := by cases h

set_option maxRecDepth 100000 in
theorem Try.tyOk104 : TyOk1 Try.prog 104 ⟨0, false, [], [.v (.map none)], none, some (110, .trip, 3, .int)⟩ where
  agg _ := by kernel_rfl
  size _ := by kernel_rfl
  zero _ := by kernel_rfl
  one _ := ⟨_, rfl⟩
  zlt := by simp [SC.lt, Value.oneCell']
  str h := by cases h
  bt h := by cases h
  sl _ _ _ h := by cases h
  mp _ _ _ _ h := by
    cases h
    refine mapOk_trip (by kernel_rfl) Try.underlying110 ?_ (Try.cmp110).2 (fun _ => by kernel_rfl)
    intro x w e
    refine ck_str3 e 9998 _ w Try.underlying110 ?_
    intro f hf
    simp only [List.mem_cons, List.not_mem_nil, or_false] at hf
    have h3 : Try.prog.underlying 3 = some (.int .i64) := by kernel_rfl
    have hp : ∀ (cs : Array Value) (i : Nat) (v : Value) (w : World), cs[i]? = some v → (part 3 cs i).run Try.prog w = .ok v w := by
      intro cs i v w h
      simp [part, (by kernel_rfl : (isAgg 3).run Try.prog w = .ok false w), h]
    rcases hf with rfl | rfl | rfl
    · exact ⟨_, hp _ 0 _ w rfl, h3⟩
    · exact ⟨_, hp _ 1 _ w rfl, h3⟩
    · exact ⟨_, hp _ 2 _ w rfl, h3⟩
  kd1 h := by cases h
  kd2 h := by cases h
  kd3 h := by cases h
  kd4 h := by cases h
  cmp h := by cases h

set_option maxRecDepth 100000 in
theorem Try.tyOk105 : TyOk1 Try.prog 105 ⟨6, false, [], [.v (.slice none 0 0)], some (110, .trip, 24), none⟩ where
  agg _ := by kernel_rfl
  size _ := by kernel_rfl
  zero _ := by kernel_rfl
  one _ := ⟨_, rfl⟩
  zlt := by simp [SC.lt, Value.oneCell']
  str h := by cases h
  bt h := by cases h
  sl _ _ _ h := by cases h; exact ⟨by kernel_rfl, fun _ => by kernel_rfl, Try.t110, _, by kernel_rfl, rfl, rfl, rfl, rfl⟩
  mp _ _ _ _ h := by cases h
  kd1 h := by cases h
  kd2 h := by cases h
  kd3 h := by cases h
  kd4 h := by cases h
  cmp h := by cases h

set_option maxRecDepth 100000 in
theorem Try.tyOk107 : TyOk1 Try.prog 107 ⟨5, true, [(0, 4), (4, 4), (8, 1), (9, 1), (10, 4), (14, 1)], [.i 0, .i 0, .v (.slice none 0 0), .v (.slice none 0 0), .i 0, .i 0, .v (.slice none 0 0), .v (.slice none 0 0), .v (.map none), .v (.slice none 0 0), .i 0, .i 0, .v (.slice none 0 0), .v (.slice none 0 0), .b false], none, none⟩ where
  agg _ := by kernel_rfl
  size _ := by kernel_rfl
  zero _ := by kernel_rfl
  one h := by cases h
  zlt := by simp [SC.lt, Value.oneCell']
  str _ := by
    refine ⟨_, Try.underlying107, ?_⟩
    intro i p h
    match i, h with
    | 0, h => cases h; exact ⟨_, rfl, rfl, fun _ => by kernel_rfl, by decide⟩
    | 1, h => cases h; exact ⟨_, rfl, rfl, fun _ => by kernel_rfl, by decide⟩
    | 2, h => cases h; exact ⟨_, rfl, rfl, fun _ => by kernel_rfl, by decide⟩
    | 3, h => cases h; exact ⟨_, rfl, rfl, fun _ => by kernel_rfl, by decide⟩
    | 4, h => cases h; exact ⟨_, rfl, rfl, fun _ => by kernel_rfl, by decide⟩
    | 5, h => cases h; exact ⟨_, rfl, rfl, fun _ => by kernel_rfl, by decide⟩
    | n + 6, h => simp at h
  bt _ parts := by kernel_rfl
  sl _ _ _ h := by cases h
  mp _ _ _ _ h := by cases h
  kd1 h := by cases h
  kd2 h := by cases h
  kd3 h := by cases h
  kd4 h := by cases h
  cmp h := by cases h

set_option maxRecDepth 100000 in
theorem Try.tyOk110 : TyOk1 Try.prog 110 ⟨7, true, [(0, 1), (1, 1), (2, 1)], [.i 0, .i 0, .i 0], none, none⟩ where
  agg _ := by kernel_rfl
  size _ := by kernel_rfl
  zero _ := by kernel_rfl
  one h := by cases h
  zlt := by simp [SC.lt]
  str _ := by
    refine ⟨_, Try.underlying110, ?_⟩
    intro i p h
    match i, h with
    | 0, h => cases h; exact ⟨_, rfl, rfl, fun _ => by kernel_rfl, by decide⟩
    | 1, h => cases h; exact ⟨_, rfl, rfl, fun _ => by kernel_rfl, by decide⟩
    | 2, h => cases h; exact ⟨_, rfl, rfl, fun _ => by kernel_rfl, by decide⟩
    | n + 3, h => simp at h
  bt _ parts := by kernel_rfl
  sl _ _ _ h := by cases h
  mp _ _ _ _ h := by cases h
  kd1 h := by cases h
  kd2 h := by cases h
  kd3 h := by cases h
  kd4 h := by cases h
  cmp _ := Try.cmp110

set_option maxRecDepth 100000 in
theorem Try.tyOk113 : TyOk1 Try.prog 113 ⟨0, false, [], [.v (.map none)], none, some (69, .trip, 118, .adr)⟩ where
  agg _ := by kernel_rfl
  size _ := by kernel_rfl
  zero _ := by kernel_rfl
  one _ := ⟨_, rfl⟩
  zlt := by simp [SC.lt, Value.oneCell']
  str h := by cases h
  bt h := by cases h
  sl _ _ _ h := by cases h
  mp _ _ _ _ h := by
    cases h
    refine mapOk_trip (by kernel_rfl) Try.underlying69 ?_ (Try.cmp69).2 (fun _ => by kernel_rfl)
    intro x w e
    refine ck_str3 e 9998 _ w Try.underlying69 ?_
    intro f hf
    simp only [List.mem_cons, List.not_mem_nil, or_false] at hf
    have h3 : Try.prog.underlying 3 = some (.int .i64) := by kernel_rfl
    have hp : ∀ (cs : Array Value) (i : Nat) (v : Value) (w : World), cs[i]? = some v → (part 3 cs i).run Try.prog w = .ok v w := by
      intro cs i v w h
      simp [part, (by kernel_rfl : (isAgg 3).run Try.prog w = .ok false w), h]
    rcases hf with rfl | rfl | rfl
    · exact ⟨_, hp _ 0 _ w rfl, h3⟩
    · exact ⟨_, hp _ 1 _ w rfl, h3⟩
    · exact ⟨_, hp _ 2 _ w rfl, h3⟩
  kd1 h := by cases h
  kd2 h := by cases h
  kd3 h := by cases h
  kd4 h := by cases h
  cmp h := by cases h

set_option maxRecDepth 100000 in
theorem Try.tyOk115 : TyOk1 Try.prog 115 ⟨5, true, [(0, 4), (4, 1), (5, 1), (6, 1), (7, 1)], [.i 0, .i 0, .v (.slice none 0 0), .v (.slice none 0 0), .v (.slice none 0 0), .v (.slice none 0 0), .v (.slice none 0 0), .v (.map none)], none, none⟩ where
  agg _ := by kernel_rfl
  size _ := by kernel_rfl
  zero _ := by kernel_rfl
  one h := by cases h
  zlt := by simp [SC.lt, Value.oneCell']
  str _ := by
    refine ⟨_, Try.underlying115, ?_⟩
    intro i p h
    match i, h with
    | 0, h => cases h; exact ⟨_, rfl, rfl, fun _ => by kernel_rfl, by decide⟩
    | 1, h => cases h; exact ⟨_, rfl, rfl, fun _ => by kernel_rfl, by decide⟩
    | 2, h => cases h; exact ⟨_, rfl, rfl, fun _ => by kernel_rfl, by decide⟩
    | 3, h => cases h; exact ⟨_, rfl, rfl, fun _ => by kernel_rfl, by decide⟩
    | 4, h => cases h; exact ⟨_, rfl, rfl, fun _ => by kernel_rfl, by decide⟩
    | n + 5, h => simp at h
  bt _ parts := by kernel_rfl
  sl _ _ _ h := by cases h
  mp _ _ _ _ h := by cases h
  kd1 h := by cases h
  kd2 h := by cases h
  kd3 h := by cases h
  kd4 h := by cases h
  cmp h := by cases h

set_option maxRecDepth 100000 in
theorem Try.tyOk118 : TyOk1 Try.prog 118 ⟨0, false, [], [.v (.pointer none)], none, none⟩ where
  agg _ := by kernel_rfl
  size _ := by kernel_rfl
  zero _ := by kernel_rfl
  one _ := ⟨_, rfl⟩
  zlt := by simp [SC.lt, Value.oneCell']
  str h := by cases h
  bt h := by cases h
  sl _ _ _ h := by cases h
  mp _ _ _ _ h := by cases h
  kd1 h := by cases h
  kd2 h := by cases h
  kd3 h := by cases h
  kd4 h := by cases h
  cmp h := by cases h

set_option maxRecDepth 100000 in
theorem Try.tyOk120 : TyOk1 Try.prog 120 ⟨5, true, [(0, 1), (1, 1), (2, 3), (5, 1)], [.i 0, .i 0, .i 0, .i 0, .i 0, .b false], none, none⟩ where
  agg _ := by kernel_rfl
  size _ := by kernel_rfl
  zero _ := by kernel_rfl
  one h := by cases h
  zlt := by simp [SC.lt]
  str _ := by
    refine ⟨_, Try.underlying120, ?_⟩
    intro i p h
    match i, h with
    | 0, h => cases h; exact ⟨_, rfl, rfl, fun _ => by kernel_rfl, by decide⟩
    | 1, h => cases h; exact ⟨_, rfl, rfl, fun _ => by kernel_rfl, by decide⟩
    | 2, h => cases h; exact ⟨_, rfl, rfl, fun _ => by kernel_rfl, by decide⟩
    | 3, h => cases h; exact ⟨_, rfl, rfl, fun _ => by kernel_rfl, by decide⟩
    | n + 4, h => simp at h
  bt _ parts := by kernel_rfl
  sl _ _ _ h := by cases h
  mp _ _ _ _ h := by cases h
  kd1 h := by cases h
  kd2 h := by cases h
  kd3 h := by cases h
  kd4 h := by cases h
  cmp h := by cases h

set_option maxRecDepth 100000 in
theorem Try.tyOk130 : TyOk1 Try.prog 130 ⟨5, true, [(0, 4)], [.i 0, .i 0, .v (.slice none 0 0), .v (.slice none 0 0)], none, none⟩ where
  agg _ := by kernel_rfl
  size _ := by kernel_rfl
  zero _ := by kernel_rfl
  one h := by cases h
  zlt := by simp [SC.lt, Value.oneCell']
  str _ := by
    refine ⟨_, Try.underlying130, ?_⟩
    intro i p h
    match i, h with
    | 0, h => cases h; exact ⟨_, rfl, rfl, fun _ => by kernel_rfl, by decide⟩
    | n + 1, h => simp at h
  bt _ parts := by kernel_rfl
  sl _ _ _ h := by cases h
  mp _ _ _ _ h := by cases h
  kd1 h := by cases h
  kd2 h := by cases h
  kd3 h := by cases h
  kd4 h := by cases h
  cmp h := by cases h

set_option maxRecDepth 100000 in
theorem Try.tyOk142 : TyOk1 Try.prog 142 ⟨4, false, [], [.u 0], none, none⟩ where
  agg _ := by kernel_rfl
  size _ := by kernel_rfl
  zero _ := by kernel_rfl
  one _ := ⟨_, rfl⟩
  zlt := by simp [SC.lt]
  str h := by cases h
  bt h := by cases h
  sl _ _ _ h := by cases h
  mp _ _ _ _ h := by cases h
  kd1 h := by cases h
  kd2 h := by cases h
  kd3 h := by cases h
  kd4 _ := by kernel_rfl
  cmp h := by cases h

set_option maxRecDepth 100000 in
theorem Try.tyOk147 : TyOk1 Try.prog 147 ⟨0, false, [], [.v (.map none)], none, some (3, .int, 3, .int)⟩ where
  agg _ := by kernel_rfl
  size _ := by kernel_rfl
  zero _ := by kernel_rfl
  one _ := ⟨_, rfl⟩
  zlt := by simp [SC.lt, Value.oneCell']
  str h := by cases h
  bt h := by cases h
  sl _ _ _ h := by cases h
  mp _ _ _ _ h := by
    cases h
    exact mapOk_int (by kernel_rfl) (by kernel_rfl) (fun _ => by kernel_rfl)
  kd1 h := by cases h
  kd2 h := by cases h
  kd3 h := by cases h
  kd4 h := by cases h
  cmp h := by cases h

set_option maxRecDepth 100000 in
theorem Try.tyOk153 : TyOk1 Try.prog 153 ⟨4, false, [], [.u 0], none, none⟩ where
  agg _ := by kernel_rfl
  size _ := by kernel_rfl
  zero _ := by kernel_rfl
  one _ := ⟨_, rfl⟩
  zlt := by simp [SC.lt]
  str h := by cases h
  bt h := by cases h
  sl _ _ _ h := by cases h
  mp _ _ _ _ h := by cases h
  kd1 h := by cases h
  kd2 h := by cases h
  kd3 h := by cases h
  kd4 _ := by kernel_rfl
  cmp h := by cases h

theorem Try.tyOk : TyOk Try.prog Try.ty := by
  intro t d h
  unfold Try.ty at h
  rw [look_cons] at h
  split at h
  · rename_i e; subst e; cases h; exact Try.tyOk3
  rw [look_cons] at h
  split at h
  · rename_i e; subst e; cases h; exact Try.tyOk4
  rw [look_cons] at h
  split at h
  · rename_i e; subst e; cases h; exact Try.tyOk9
  rw [look_cons] at h
  split at h
  · rename_i e; subst e; cases h; exact Try.tyOk22
  rw [look_cons] at h
  split at h
  · rename_i e; subst e; cases h; exact Try.tyOk23
  rw [look_cons] at h
  split at h
  · rename_i e; subst e; cases h; exact Try.tyOk25
  rw [look_cons] at h
  split at h
  · rename_i e; subst e; cases h; exact Try.tyOk26
  rw [look_cons] at h
  split at h
  · rename_i e; subst e; cases h; exact Try.tyOk45
  rw [look_cons] at h
  split at h
  · rename_i e; subst e; cases h; exact Try.tyOk47
  rw [look_cons] at h
  split at h
  · rename_i e; subst e; cases h; exact Try.tyOk60
  rw [look_cons] at h
  split at h
  · rename_i e; subst e; cases h; exact Try.tyOk67
  rw [look_cons] at h
  split at h
  · rename_i e; subst e; cases h; exact Try.tyOk69
  rw [look_cons] at h
  split at h
  · rename_i e; subst e; cases h; exact Try.tyOk72
  rw [look_cons] at h
  split at h
  · rename_i e; subst e; cases h; exact Try.tyOk75
  rw [look_cons] at h
  split at h
  · rename_i e; subst e; cases h; exact Try.tyOk95
  rw [look_cons] at h
  split at h
  · rename_i e; subst e; cases h; exact Try.tyOk103
  rw [look_cons] at h
  split at h
  · rename_i e; subst e; cases h; exact Try.tyOk104
  rw [look_cons] at h
  split at h
  · rename_i e; subst e; cases h; exact Try.tyOk105
  rw [look_cons] at h
  split at h
  · rename_i e; subst e; cases h; exact Try.tyOk107
  rw [look_cons] at h
  split at h
  · rename_i e; subst e; cases h; exact Try.tyOk110
  rw [look_cons] at h
  split at h
  · rename_i e; subst e; cases h; exact Try.tyOk113
  rw [look_cons] at h
  split at h
  · rename_i e; subst e; cases h; exact Try.tyOk115
  rw [look_cons] at h
  split at h
  · rename_i e; subst e; cases h; exact Try.tyOk118
  rw [look_cons] at h
  split at h
  · rename_i e; subst e; cases h; exact Try.tyOk120
  rw [look_cons] at h
  split at h
  · rename_i e; subst e; cases h; exact Try.tyOk130
  rw [look_cons] at h
  split at h
  · rename_i e; subst e; cases h; exact Try.tyOk142
  rw [look_cons] at h
  split at h
  · rename_i e; subst e; cases h; exact Try.tyOk147
  rw [look_cons] at h
  split at h
  · rename_i e; subst e; cases h; exact Try.tyOk153
  cases h

theorem Try.mixed : Try.prog.follows .mixedOrders = true := by kernel_rfl

end Go.Fw

namespace Go.Fw
open Go Go.Proofs

def fCells (F : TF) : List SC := [.i F.st, .i F.start, .sl 0 1 0 F.fin.length F.capF, .sl 1 5 0 F.arcs.length F.capA]
def fV (F : TF) : SV := .a (.agg [.i F.st, .i F.start, .sl 0 1 0 F.fin.length F.capF, .sl 1 5 0 F.arcs.length F.capA])
abbrev hpF (F : TF) : List (Nat × SO) := [(0, .arr false 3 .int F.fin 0), (1, .arr false 47 .arc F.arcs 0)]

def arcV (a : Arc) : SV := .a (.agg [.i a.f, .i a.i, .i a.o, .i a.t, .i a.w])

theorem between_c (n l m : Int) : Ct Try.prog 59 [.i n, .i l, .i m] [] [] 0 (Is 0 (.b (decide (l ≤ n ∧ n ≤ m)))) := by
  refine ctW Try.tyOk 7 [] Try.func59 rfl (by simp [SV.lt, SA.lt, SC.lt]) (by simp) (fr := [(0, .i n), (1, .i l), (2, .i m)]) rfl ?_
  repeat' (first | exact rfl | ((conv => whnf); first | refine condP_mk (fun h => ?_) (fun h => ?_) | refine Ob.mk ?_ ?_ | refine Both.mk ?_ ?_))
  all_goals refine Back.is ?_
  all_goals simp only [eqV, eqA, eqC]
  all_goals simp only [decide_eq_true_eq, decide_eq_false_iff_not] at *
  all_goals simp [*]

theorem within_c (n l m : Int) : Ct Try.prog 98 [.i n, .i l, .i m] [] [] 0 (Is 0 (.b (decide (l ≤ n ∧ n ≤ m)))) := by
  refine ctW Try.tyOk 7 [] Try.func98 rfl (by simp [SV.lt, SA.lt, SC.lt]) (by simp) (fr := [(0, .i n), (1, .i l), (2, .i m)]) rfl ?_
  repeat' (first | exact rfl | ((conv => whnf); first | refine condP_mk (fun h => ?_) (fun h => ?_) | refine Ob.mk ?_ ?_ | refine Both.mk ?_ ?_))
  all_goals refine Back.is ?_
  all_goals simp only [eqV, eqA, eqC]
  all_goals simp only [decide_eq_true_eq, decide_eq_false_iff_not] at *
  all_goals simp [*]

theorem less_c (a b : Int) : Ct Try.prog 42 [.i a, .i b] [] [] 0 (Is 0 (.i (less a b))) := by
  refine ctW Try.tyOk 5 [] Try.func42 rfl (by simp [SV.lt, SA.lt, SC.lt]) (by simp) (fr := [(0, .i a), (1, .i b)]) rfl ?_
  repeat' (first | exact rfl | ((conv => whnf); first | refine condP_mk (fun h => ?_) (fun h => ?_) | refine Ob.mk ?_ ?_ | refine Both.mk ?_ ?_))
  all_goals refine Back.is ?_
  all_goals simp only [eqV, eqA, eqC]
  all_goals simp only [decide_eq_true_eq, decide_eq_false_iff_not] at *
  all_goals simp [less, *]

theorem plus_c (a b : Int) (h0 : InI (a + b)) : Ct Try.prog 67 [.i a, .i b] [] [] 0 (Is 0 (.i (plus a b))) := by
  refine ctW Try.tyOk 5 [] Try.func67 rfl (by simp [SV.lt, SA.lt, SC.lt]) (by simp) (fr := [(0, .i a), (1, .i b)]) rfl ?_
  repeat' ((conv => whnf); first | refine condP_mk (fun h => ?_) (fun h => ?_) | refine Ob.mk h0 ?_)
  all_goals refine Back.is ?_
  all_goals simp only [eqV, eqA, eqC]
  all_goals simp only [decide_eq_true_eq, decide_eq_false_iff_not] at *
  all_goals simp [plus, *]

theorem isNaN_c (a : Int) : Ct Try.prog 127 [.i a] [] [] 0 (Is 0 (.b false)) := by
  refine ctW Try.tyOk 3 [] Try.func127 rfl (by simp [SV.lt, SA.lt, SC.lt]) (by simp) (fr := [(0, .i a)]) rfl ?_
  repeat' (first | exact rfl | ((conv => whnf); first | refine condP_mk (fun h => ?_) (fun h => ?_) | refine Ob.mk ?_ ?_ | refine Both.mk ?_ ?_))
  all_goals refine Back.is ?_
  all_goals simp only [eqV, eqA, eqC]
  all_goals simp

theorem compare_c (a b : Int) : Ct Try.prog 117 [.i a, .i b] [] [] 0 (Is 0 (.i (cmpI a b))) := by
  refine ctW Try.tyOk 7 [] Try.func117 rfl (by simp [SV.lt, SA.lt, SC.lt]) (by simp) (fr := [(0, .i a), (1, .i b)]) rfl ?_
  conv => whnf
  refine callI (isNaN_c a) [] Try.call127 rfl trivial (by simp [appN, ptrs, eqVL, eqV, eqA, eqC, eqCs, eqAs, eqCaps, EK.sz, rn, renOf, look_cons, look, arcV, fV]) (by simp [appN, ptrs, SV.lt, SA.lt, SC.lt, arcV, fV]) ?_
  conv => whnf
  refine callI (isNaN_c b) [] Try.call127 rfl trivial (by simp [appN, ptrs, eqVL, eqV, eqA, eqC, eqCs, eqAs, eqCaps, EK.sz, rn, renOf, look_cons, look, arcV, fV]) (by simp [appN, ptrs, SV.lt, SA.lt, SC.lt, arcV, fV]) ?_
  repeat' (first | exact rfl | ((conv => whnf); first | refine condP_mk (fun h => ?_) (fun h => ?_) | refine Ob.mk ?_ ?_ | refine Both.mk ?_ ?_))
  all_goals refine Back.is ?_
  all_goals simp only [eqV, eqA, eqC]
  all_goals simp only [decide_eq_true_eq, decide_eq_false_iff_not] at *
  all_goals simp [cmpI, *]

theorem check2_c (a : Int) : Ct Try.prog 99 [.i a] [] [] 0 (Is 0 (.b (!decide (-1 ≤ a ∧ a ≤ 1000000000)))) := by
  refine ctW Try.tyOk 3 [] Try.func99 rfl (by simp [SV.lt, SA.lt, SC.lt]) (by simp) (fr := [(0, .i a)]) rfl ?_
  conv => whnf
  refine callI (within_c a (-1) 1000000000) [] Try.call98 rfl trivial (by simp [appN, ptrs, eqVL, eqV, eqA, eqC, eqCs, eqAs, eqCaps, EK.sz, rn, renOf, look_cons, look, arcV, fV]) (by simp [appN, ptrs, SV.lt, SA.lt, SC.lt, arcV, fV]) ?_
  conv => whnf
  refine Back.is ?_
  simp only [eqV, eqA, eqC]

/-- A slice that is read: object 0. -/
abbrev rdI (l : List Int) (cap : Nat) : SV := .c (.sl 0 1 0 l.length cap)

theorem checkWord_c (l : List Int) (cap : Nat) : Ct Try.prog 15 [.c (.sl 0 1 0 l.length cap)] [] [(0, .arr false 3 .int l 0)] 1 (Is 1 (.i (wordE l))) := by
  refine ctW Try.tyOk 4 [] Try.func15 rfl (by simp [SV.lt, SA.lt, SC.lt]) (by simp) (fr := [(0, .c (.sl 0 1 0 l.length cap))]) rfl ?_
  repeat' (first | exact rfl | ((conv => whnf); first | refine condP_mk (fun h => ?_) (fun h => ?_) | refine Ob.mk ?_ ?_ | refine Both.mk ?_ ?_))
  all_goals (conv => whnf)
  · refine Back.is ?_
    simp only [decide_eq_true_eq] at h
    have : 40 < l.length := by omega
    simp [eqV, eqA, eqC, wordE, this]
  · simp only [decide_eq_false_iff_not] at h
    have h40 := h
    refine loopI (fun k : Nat => ⟨[(0, .c (.sl 0 1 0 l.length cap)), (2, .i 0), (3, .i k)], [(0, .arr false 3 .int l 0)], 1⟩) (fun k => k ≤ l.length ∧ ∀ n ∈ l.take k, 1 ≤ n ∧ n ≤ 9) (fun k => l.length - k) 0 [] ⟨by rfl, ?_, ?_⟩ (by simp) ?_
    · simp [eqFr, eqHp, eqV, eqA, eqC, eqO, eqCs, eqAs, look_cons, look, rn, EK.cast, EK.sz, eqCaps]
    · simp [eqFr, eqHp, eqV, eqA, eqC, eqO, eqCs, eqAs, look_cons, look, rn, EK.cast, EK.sz, eqCaps]
    · intro k ⟨hk1, hk2⟩
      repeat' (first | exact rfl | ((conv => whnf); first | refine condP_mk (fun h => ?_) (fun h => ?_) | refine Ob.mk ?_ ?_ | refine Both.mk ?_ ?_))
      · simp only [decide_eq_true_eq] at h; omega
      · simp only [decide_eq_true_eq] at h; omega
      · simp only [decide_eq_true_eq] at h
        have hk : k < l.length := by omega
        (conv => whnf)
        simp only [Nat.zero_add, Int.toNat_natCast, EK.dflt]
        refine callI (between_c (l.getD k 0) 1 9) [] Try.call59 rfl trivial (by simp [appN, ptrs, eqVL, eqV, eqA, eqC, eqCs, eqAs, eqCaps, EK.sz, rn, renOf, look_cons, look, arcV, fV]) (by simp [appN, ptrs, SV.lt, SA.lt, SC.lt, arcV, fV]) ?_
        repeat' (first | exact rfl | ((conv => whnf); first | refine condP_mk (fun h => ?_) (fun h => ?_) | refine Ob.mk ?_ ?_ | refine Both.mk ?_ ?_))
        · refine Back.is ?_
          have h2 := getD_mem l k 0 hk
          simp only [Bool.not_eq_true', decide_eq_false_iff_not] at h
          have : ¬ ∀ n ∈ l, 1 ≤ n ∧ n ≤ 9 := fun H => h (H _ h2)
          have h41 : ¬ 40 < l.length := by omega
          simp only [eqV, eqA, eqC, wordE, if_neg h41, if_neg this]
        · unfold InI; omega
        · refine ⟨k + 1, [], ⟨by rfl, ?_, ?_⟩, ⟨hk, ?_⟩, by omega⟩
          · simp [eqFr, eqHp, eqV, eqA, eqC, eqO, eqCs, eqAs, look_cons, look, rn, EK.cast, EK.sz, eqCaps]
          · simp [eqFr, eqHp, eqV, eqA, eqC, eqO, eqCs, eqAs, look_cons, look, rn, EK.cast, EK.sz, eqCaps]
          · rw [take_succ_getD l k 0 hk]
            simp only [Bool.not_eq_false', decide_eq_true_eq] at h
            intro n hn
            simp only [List.mem_append, List.mem_singleton] at hn
            rcases hn with hn | rfl
            · exact hk2 n hn
            · exact h
      · refine Back.is ?_
        simp only [decide_eq_false_iff_not] at h
        rw [List.take_of_length_le (by omega)] at hk2
        have h41 : ¬ 40 < l.length := by omega
        simp only [eqV, eqA, eqC, wordE, if_neg h41, if_pos hk2]
end Go.Fw

/-
  What is handed in, as the executor's state has it.
-/
namespace Go.Fw
open Go Go.Proofs Go.ChangeShapes Go.WideShapes Go.ChangeAt Go.RowKit Go.Deep Go.Joins

/-- A list that lies in memory, to be read. -/
def Lent (W : World) (oa : Option Addr) (k : EK) (xs : List k.ty) : Prop := match oa with
  | none => xs = []
  | some a => xs ≠ [] → a.spot = none ∧ a.block < W.heap.size ∧ ∀ j v, (flat k xs)[j]? = some v → W.cell? (a.add j) = some v

/-- The state of what is handed in: each object is read only. -/
theorem lentSat {W : World} {hp : List (Nat × SO)} {n : Nat} (β : Env) (h : ∀ id o, look hp id = some o → id < n ∧ ∃ (E : Nat) (k : EK) (xs : List k.ty), o = .arr false E k xs 0 ∧ Lent W (β id) k xs) :
    HSat β (· < W.heap.size) (fun _ _ => False) ⟨[], hp, n⟩ W := by
  refine ⟨fun b hb => hb, fun _ _ _ _ hb => hb.elim, fun _ _ _ _ _ _ _ _ hb => hb.elim, fun id o hl => ?_, fun id o hl => ?_⟩
  · obtain ⟨_, E, k, xs, rfl, hx⟩ := h id o hl
    show SO.ok β _ _ W (β id) _
    unfold Lent at hx
    cases hb : β id with
    | none => rw [hb] at hx; exact ⟨hx, rfl⟩
    | some a =>
      rw [hb] at hx
      intro hne
      obtain ⟨h1, h2, h3⟩ := hx hne
      exact ⟨h1, h2, h2, h3⟩
  · obtain ⟨h1, E, k, xs, rfl, _⟩ := h id o hl
    exact ⟨h1, trivial⟩

section
variable {H : Type} {enc : TypeId × Value → H} {P : Program} {w : World} {base : Nat} {spare : Nat → Bool} {held : Bool}

theorem cell_lt {a : Addr} {v : Value} (h : w.cell? a = some v) : a.spot = none ∧ a.block < w.heap.size := by
  refine ⟨World.cell?_spot h, ?_⟩
  unfold World.cell? at h
  split at h
  · rename_i hb; exact (Array.getElem?_eq_some_iff.1 hb).1
  · cases h

theorem wfI {n : Int} (h : (Lit.int .i64 n).wf = true) : InI n := by
  have h1 : IntKind.i64.min = -9223372036854775808 := rfl
  have h2 : IntKind.i64.max = 9223372036854775807 := rfl
  simp only [Lit.wf, Bool.and_eq_true, decide_eq_true_eq, h1, h2] at h
  exact h

theorem lent_mk {oa : Option Addr} {k : EK} {xs : List k.ty} (a : Addr) (ho : oa = some a) (h : ∀ j v, (flat k xs)[j]? = some v → w.cell? (a.add j) = some v) : Lent w oa k xs := by
  subst ho
  intro hne
  have hpos : 0 < (flat k xs).length := by
    rw [flat_length]
    have : 0 < xs.length := List.length_pos_iff.2 hne
    have hk : 0 < k.sz := by cases k <;> decide
    exact Nat.mul_pos this hk
  have h0 := h 0 _ (List.getElem?_eq_getElem hpos)
  have h1 := cell_lt h0
  rw [Addr.add] at h1
  simp only [if_true] at h1
  exact ⟨h1.1, h1.2, h⟩

theorem flat_cases {k : EK} {xs : List k.ty} {j : Nat} {v : Value} (h : (flat k xs)[j]? = some v) : ∃ i off, j = i * k.sz + off ∧ i < xs.length ∧ off < k.sz ∧ (k.cells (xs.getD i k.dflt))[off]? = some v := by
  have hk : 0 < k.sz := by cases k <;> decide
  have hj := (List.getElem?_eq_some_iff.1 h).1
  rw [flat_length] at hj
  have h1 : j / k.sz < xs.length := (Nat.div_lt_iff_lt_mul hk).2 hj
  have h2 : j % k.sz < k.sz := Nat.mod_lt _ hk
  have h3 : j = j / k.sz * k.sz + j % k.sz := by rw [Nat.mul_comm]; exact (Nat.div_add_mod _ _).symm
  refine ⟨j / k.sz, j % k.sz, h3, h1, h2, ?_⟩
  rw [← flat_get k xs _ _ h1 h2, ← h3]
  exact h

/-- A slice of integers, opened. -/
theorem open_lentI {t e : TypeId} {fuel : Nat} {v : Value} {x : DataW H × List MemPlace} (ht : P.underlying t = some (.slice e)) (he : P.underlying e = some (.int .i64)) (hc : P.cellsOf e = 1)
    (h : DataW.trod enc P w base spare held fuel t [v] = some x) :
    ∃ (oa : Option Addr) (xs : List Int) (cap : Nat), v = .slice oa xs.length cap ∧ Lent w oa .int xs ∧ xs.length ≤ cap ∧ cap ≤ maxLen ∧ (oa = none → cap = 0) ∧ ∀ n ∈ xs, InI n := by
  rcases open_ints ht he hc h with ⟨hcs, _⟩ | ⟨a, len, cap, zs, hcs, _, hl, hm, hz, _, hcell, hwz⟩
  · simp only [List.cons.injEq, and_true] at hcs
    subst hcs
    exact ⟨none, [], 0, rfl, rfl, Nat.le_refl _, Nat.zero_le _, fun _ => rfl, fun n hn => by cases hn⟩
  · simp only [List.cons.injEq, and_true] at hcs
    subst hcs
    have hlz : len ≤ zs.length := by rw [hz]; split <;> omega
    have hlen : (zs.take len).length = len := by rw [List.length_take]; omega
    refine ⟨some a, zs.take len, cap, by rw [hlen], lent_mk a rfl ?_, by rw [hlen]; exact hl, hm, (fun h => by cases h), fun n hn => wfI (hwz n (List.mem_of_mem_take hn))⟩
    intro j v hj
    obtain ⟨i, off, rfl, hi, ho, hv⟩ := flat_cases hj
    rw [hlen] at hi
    have ho : off < 1 := ho
    have ho0 : off = 0 := by omega
    subst ho0
    have hcl := hcell i (by omega)
    have e1 : i * EK.int.sz + 0 = i := by show i * 1 + 0 = i; omega
    rw [e1, hcl]
    have e2 : (zs.take len).getD i EK.int.dflt = zs.getD i 0 := by
      have : i < zs.length := by omega
      simp [List.getD, hi, this, EK.dflt]
    rw [e2] at hv
    exact hv

theorem list_of {α : Type} (n : Nat) (R : Nat → α → Prop) (d : α) (h : ∀ i, i < n → ∃ x, R i x) : ∃ xs : List α, xs.length = n ∧ ∀ i, i < n → R i (xs.getD i d) := by
  induction n with
  | zero => exact ⟨[], rfl, fun i hi => by omega⟩
  | succ n ih =>
    obtain ⟨xs, h1, h2⟩ := ih fun i hi => h i (by omega)
    obtain ⟨x, hx⟩ := h n (by omega)
    refine ⟨xs ++ [x], by simp [h1], fun i hi => ?_⟩
    by_cases e : i = n
    · subst e
      have : (xs ++ [x]).getD i d = x := by simp [List.getD, ← h1]
      rw [this]; exact hx
    · have : (xs ++ [x]).getD i d = xs.getD i d := by
        have : i < xs.length := by omega
        simp [List.getD, List.getElem?_append_left this]
      rw [this]; exact h2 i (by omega)

/-- A slice of arcs, opened. -/
theorem open_lentA {t e : TypeId} {fuel : Nat} {v : Value} {x : DataW H × List MemPlace} {f0 f1 f2 f3 f4 : Field} (ht : P.underlying t = some (.slice e)) (he : P.underlying e = some (.struct #[f0, f1, f2, f3, f4]))
    (hone : oneCellFields P #[f0, f1, f2, f3, f4] = true) (hC : P.cellsOf e = 5) (hf : ∀ f ∈ [f0, f1, f2, f3, f4], P.underlying f.type = some (.int .i64))
    (h : DataW.trod enc P w base spare held fuel t [v] = some x) :
    ∃ (oa : Option Addr) (xs : List Arc) (cap : Nat), v = .slice oa xs.length cap ∧ Lent w oa .arc xs ∧ xs.length ≤ cap ∧ cap ≤ maxLen ∧ (oa = none → cap = 0) ∧ ∀ a ∈ xs, InI a.f ∧ InI a.i ∧ InI a.o ∧ InI a.t ∧ InI a.w := by
  rcases open_slice ht h with ⟨hcs, _⟩ | ⟨a, len, cap, m, n, D, Pl, hcs, _, hl, hm, hmm, _, hi⟩
  · simp only [List.cons.injEq, and_true] at hcs
    subst hcs
    exact ⟨none, [], 0, rfl, rfl, Nat.le_refl _, Nat.zero_le _, fun _ => rfl, fun n hn => by cases hn⟩
  · simp only [List.cons.injEq, and_true] at hcs
    subst hcs
    have hlm : len ≤ m := by rw [hmm]; split <;> omega
    obtain ⟨xs, hx1, hx2⟩ := list_of len (fun i (x : Arc) => (InI x.f ∧ InI x.i ∧ InI x.o ∧ InI x.t ∧ InI x.w) ∧ ∀ off v, (EK.arc.cells x)[off]? = some v → w.cell? (a.add (i * 5 + off)) = some v) EK.arc.dflt (fun i hil => by
      obtain ⟨cs, hc, ht'⟩ := hi i (by omega)
      rw [hC] at hc
      obtain ⟨ys, n', _, _, hlen, _, hg⟩ := DataW.trod_struct he ht'
      obtain ⟨_, hcl, hat⟩ := World.cells?_some hc
      rw [hC] at hlen
      match cs, hlen with
      | [c0, c1, c2, c3, c4], _ =>
        obtain ⟨o0, k0⟩ := hone_of hone 0 f0 rfl
        obtain ⟨o1, k1⟩ := hone_of hone 1 f1 rfl
        obtain ⟨o2, k2⟩ := hone_of hone 2 f2 rfl
        obtain ⟨o3, k3⟩ := hone_of hone 3 f3 rfl
        obtain ⟨o4, k4⟩ := hone_of hone 4 f4 rfl
        have g0 := hg 0 f0 rfl
        have g1 := hg 1 f1 rfl
        have g2 := hg 2 f2 rfl
        have g3 := hg 3 f3 rfl
        have g4 := hg 4 f4 rfl
        rw [o0, k0] at g0
        rw [o1, k1] at g1
        rw [o2, k2] at g2
        rw [o3, k3] at g3
        rw [o4, k4] at g4
        have some_of : ∀ {l : List Value} {f : Field} {i : Nat}, DataW.trod enc P w base spare held n' f.type l = ys[i]? → ys.length = 5 → i < 5 → P.underlying f.type = some (.int .i64) → ∃ q, l = [.int .i64 q] ∧ InI q := by
          intro l f i hq hl hi5 hu
          rw [List.getElem?_eq_getElem (by omega)] at hq
          obtain ⟨q, hq1, _, hq2⟩ := DataW.trod_int hu hq
          exact ⟨q, hq1, wfI hq2⟩
        have hyl : ys.length = 5 := by assumption
        obtain ⟨q0, e0, i0⟩ := some_of g0 hyl (by omega) (hf f0 (by simp))
        obtain ⟨q1, e1, i1⟩ := some_of g1 hyl (by omega) (hf f1 (by simp))
        obtain ⟨q2, e2, i2⟩ := some_of g2 hyl (by omega) (hf f2 (by simp))
        obtain ⟨q3, e3, i3⟩ := some_of g3 hyl (by omega) (hf f3 (by simp))
        obtain ⟨q4, e4, i4⟩ := some_of g4 hyl (by omega) (hf f4 (by simp))
        simp only [List.drop_succ_cons, List.drop_zero, List.take_succ_cons, List.take_zero, List.cons.injEq, and_true] at e0 e1 e2 e3 e4
        subst e0 e1 e2 e3 e4
        refine ⟨⟨q0, q1, q2, q3, q4⟩, ⟨i0, i1, i2, i3, i4⟩, fun off v hv => ?_⟩
        have hoff : off < 5 := by
          have := (List.getElem?_eq_some_iff.1 hv).1
          rwa [EK.cells_length] at this
        have := hat off (by omega)
        rw [← Go.Deep.add_add, this]
        exact hv)
    have hsz : (EK.arc.sz) = 5 := rfl
    refine ⟨some a, xs, cap, by rw [hx1], lent_mk a rfl ?_, by omega, hm, (fun h => by cases h), fun y hy => ?_⟩
    · intro j v hj
      obtain ⟨i, off, rfl, hil, ho, hv⟩ := flat_cases hj
      exact (hx2 i (by omega)).2 off v hv
    · obtain ⟨i, hil, rfl⟩ := List.getElem_of_mem hy
      have := (hx2 i (by omega)).1
      have e : xs.getD i EK.arc.dflt = xs[i] := by simp [List.getD, hil]
      rw [e] at this
      exact this

/-- A transducer that is handed in. -/
structure Hand (w : World) (F : TF) (a0 a1 : Option Addr) (v : Value) : Prop where
  val : v = .agg #[.int .i64 F.st, .int .i64 F.start, .slice a0 F.fin.length F.capF, .slice a1 F.arcs.length F.capA]
  l0 : Lent w a0 .int F.fin
  l1 : Lent w a1 .arc F.arcs
  c0 : F.capF ≤ maxLen
  c1 : F.capA ≤ maxLen
  k0 : F.fin.length ≤ F.capF
  k1 : F.arcs.length ≤ F.capA
  i0 : InI F.st
  i1 : InI F.start
  i2 : ∀ n ∈ F.fin, InI n
  i3 : ∀ a ∈ F.arcs, InI a.f ∧ InI a.i ∧ InI a.o ∧ InI a.t ∧ InI a.w

set_option maxRecDepth 100000 in
theorem open_hand {r : Go.Reach} {b0 : Nat} {v : Value} {d : DataW H} {p : List MemPlace} (hv : Value.okWide Try.prog w r b0 25 v) (h : DataW.Trod enc Try.prog w base spare held 25 v d p) : ∃ F a0 a1, Hand w F a0 a1 v := by
  obtain ⟨v0, v1, v2, v3, y0, y1, y2, y3, n, rfl, _, _, h0, h1, h2, h3⟩ := open_agg4 Try.underlying25 (by kernel_rfl) (by kernel_rfl) hv h
  obtain ⟨q0, e0, _, w0⟩ := DataW.trod_int Try.underlying3 h0
  obtain ⟨q1, e1, _, w1⟩ := DataW.trod_int Try.underlying3 h1
  simp only [List.cons.injEq, and_true] at e0 e1
  subst e0 e1
  obtain ⟨a0, xs, c0, rfl, l0, k0, m0, _, i2⟩ := open_lentI Try.underlying22 Try.underlying3 (by kernel_rfl) h2
  obtain ⟨a1, ys, c1, rfl, l1, k1, m1, _, i3⟩ := open_lentA Try.underlying23 Try.underlying47 (by kernel_rfl) (by kernel_rfl) (by
    intro f hf
    simp only [List.mem_cons, List.not_mem_nil, or_false] at hf
    rcases hf with rfl | rfl | rfl | rfl | rfl <;> exact Try.underlying3) h3
  exact ⟨⟨q0, q1, xs, ys, c0, c1⟩, a0, a1, rfl, l0, l1, m0, m1, k0, k1, wfI w0, wfI w1, i2, i3⟩

end
theorem add_zero (a : Addr) : a.add 0 = a := by simp [Addr.add]

theorem Ext.below {W W' : World} (h : Ext (· < W.heap.size) W W') : Below W.heap.size W W' := ⟨h.os, h.tape, h.output, h.size, fun k hk => h.block k hk⟩

theorem shut_bool {H : Type} {enc : TypeId × Value → H} {P : Program} {w : World} {base : Nat} {spare : Nat → Bool} {held : Bool} {t : TypeId} {b : Bool} (ht : P.underlying t = some .bool) : DataW.Trod enc P w base spare held t (.bool b) (.lit (.bool b)) [] :=
  ⟨1, by simp [DataW.trod, Value.cells, ht]⟩

end Go.Fw

namespace Go.Fw
open Go Go.Proofs

def rhoM : Go.Shelf.Ren where
  f := fun n => if n = 212 then 125 else if n = 263 then 131 else if n = 264 then 132 else n
  t := fun n => if n = 46 then 142 else if n = 51 then 150 else if n = 53 then 153 else if n = 146 then 151 else if n = 148 then 154 else n
  g := fun n => n

end Go.Fw

namespace Go.Fw
open Go Go.Proofs

set_option maxHeartbeats 2000000 in
set_option maxRecDepth 20000 in
theorem ahead_c (a b : Arc) : Ct Try.prog 66 [arcV a, arcV b] [] [] 0 (Is 0 (.b (aheadB a b))) := by
  refine ctW Try.tyOk 8 [] Try.func66 rfl (by simp [SV.lt, SA.lt, SC.lt, arcV, fV]) (by simp) (fr := [(0, arcV a), (1, arcV b)]) rfl ?_
  (conv => whnf)
  refine draw_of Try.mixed Try.tyOk 60 (by kernel_rfl) ?_
  repeat' (first | exact rfl | ((conv => whnf); first | refine condP_mk (fun h => ?_) (fun h => ?_) | refine Ob.mk ?_ ?_ | refine Both.mk ?_ ?_))
  all_goals (conv => whnf)
  all_goals first | (refine loopI (fun k : Nat => ⟨[(4, .b false), (5, .c (.sl 2 1 0 4 4)), (6, .c (.sl 3 1 0 4 4)), (7, .i k)], [(2, .arr true 3 .int [a.f, a.i, a.o, a.t] 0), (3, .arr true 3 .int [b.f, b.i, b.o, b.t] 0)], 4⟩) (fun k => k ≤ 4 ∧ ∀ j, j < k → [a.f, a.i, a.o, a.t].getD j 0 = [b.f, b.i, b.o, b.t].getD j 0) (fun k => 4 - k) 0 [] ⟨by rfl, ?_, ?_⟩ (by simp) ?_; (focus simp [eqFr, eqHp, eqV, eqA, eqC, eqO, eqCs, eqAs, look_cons, look, rn, EK.cast, EK.sz, eqCaps]); (focus simp [eqFr, eqHp, eqV, eqA, eqC, eqO, eqCs, eqAs, look_cons, look, rn, EK.cast, EK.sz, eqCaps])) | (refine loopI (fun k : Nat => ⟨[(4, .b false), (5, .c (.sl 2 1 0 4 4)), (6, .c (.sl 3 1 0 4 4)), (7, .i k)], [(2, .arr true 3 .int [a.f, a.i, a.o, a.t] 0), (3, .arr true 3 .int [b.f, b.i, b.o, b.t] 0)], 4⟩) (fun k => k ≤ 4 ∧ ∀ j, j < k → [a.f, a.i, a.o, a.t].getD j 0 = [b.f, b.i, b.o, b.t].getD j 0) (fun k => 4 - k) 0 [(2, some 3), (3, some 2)] ⟨by rfl, ?_, ?_⟩ (by simp) ?_; (focus simp [eqFr, eqHp, eqV, eqA, eqC, eqO, eqCs, eqAs, look_cons, look, rn, EK.cast, EK.sz, eqCaps]); (focus simp [eqFr, eqHp, eqV, eqA, eqC, eqO, eqCs, eqAs, look_cons, look, rn, EK.cast, EK.sz, eqCaps]))
  all_goals intro k hk
  all_goals obtain ⟨hk1, hk2⟩ := hk
  all_goals repeat' (first | exact rfl | ((conv => whnf); first | refine condP_mk (fun h => ?_) (fun h => ?_) | refine Ob.mk ?_ ?_ | refine Both.mk ?_ ?_))
  all_goals first | refine draw_of Try.mixed Try.tyOk 60 (by kernel_rfl) ?_ | skip
  all_goals repeat' (first | exact rfl | ((conv => whnf); first | refine condP_mk (fun h => ?_) (fun h => ?_) | refine Ob.mk ?_ ?_ | refine Both.mk ?_ ?_))
  all_goals simp only [decide_eq_true_eq, decide_eq_false_iff_not, bne_iff_ne, ne_eq, bne_eq_false_iff_eq, EK.dflt, Nat.zero_add, Int.toNat_natCast] at *
  all_goals first | (simp only [List.length_cons, List.length_nil]; omega) | (unfold InI; omega) | skip
  all_goals (conv => whnf)
  all_goals first | refine draw_of Try.mixed Try.tyOk 60 (by kernel_rfl) ?_ | skip
  all_goals repeat' (first | exact rfl | ((conv => whnf); first | refine condP_mk (fun h => ?_) (fun h => ?_) | refine Ob.mk ?_ ?_ | refine Both.mk ?_ ?_))
  all_goals first | (simp only [EK.dflt, Nat.zero_add, Int.toNat_natCast, List.length_cons, List.length_nil]; omega) | skip
  all_goals (conv => whnf)
  all_goals first | (refine Back.is ?_; have h4 : k = 4 := (by omega); subst h4; simp only [eqV, eqA, eqC]; exact aheadB_not a b hk2) | (refine Back.is ?_; simp only [eqV, eqA, eqC, EK.dflt, Nat.zero_add, Int.toNat_natCast]; exact aheadB_at a b k (by omega) hk2 h) | skip
  all_goals refine ⟨k + 1, [], ⟨by rfl, by simp [eqFr, eqHp, eqV, eqA, eqC, eqO, eqCs, eqAs, look_cons, look, rn, EK.cast, EK.sz, eqCaps], by simp [eqFr, eqHp, eqV, eqA, eqC, eqO, eqCs, eqAs, look_cons, look, rn, EK.cast, EK.sz, eqCaps]⟩, ⟨by omega, fun j hj => ?_⟩, by omega⟩
  all_goals exact if e : j = k then e ▸ h else hk2 j (by omega)
end Go.Fw
