/-
  Regions in order, control, calls entered.
-/
import Derived.Test.YtdijmfdanbnppaaDoorS03
import Derived.TacticsIn
import Derived.RangeFuncCalls

set_option linter.unusedSimpArgs false
set_option linter.unusedVariables false

namespace Go.Fw
open Go

structure Ctx where
  w0 : World
  Z0 : Nat → Prop
  β0 : Env
  n0 : Nat
  N : Nat
  df : List Deferred

structure Cok (C : Ctx) (β : Env) (Z : Nat → Prop) (s : S) (w : World) : Prop where
  zz : ∀ b, C.Z0 b → Z b
  ext : Ext C.Z0 C.w0 w
  env : ∀ id, id < C.n0 → β id = C.β0 id
  nx : C.n0 ≤ s.nx

/-- The state speaks of what is. -/
def Sat (C : Ctx) (s : S) (a : Act) (w : World) : Prop := ∃ β Z fp, HSat β Z fp s w ∧ FSat β s (C.N, C.df) a ∧ Cok C β Z s w

def S.putK (N : Nat) (dst : Option Nat) (v : SV) (s : S) (k : S → Prop) : Prop := match dst with
  | none => k s
  | some d => match Nat.blt d N with
    | true => s.go fun fr hp nx => updK fr d v fun fr' => k ⟨fr', hp, nx⟩
    | false => False

/-- The guard: run, or pass over. -/
def guardK (whole : List Oper) (g : Option (Nat × Bool)) (s : S) (kt kf : S → Prop) : Prop := match g with
  | none => kt s
  | some (j, want) => match nthN whole j with
    | some oj => match oj.dst with
      | some d => s.go fun fr hp nx => match look fr d with
        | some (.a (.c (.b c))) => condP c
          (updK fr d (.b true) fun fr' => match want with
            | true => kt ⟨fr', hp, nx⟩
            | false => kf ⟨fr', hp, nx⟩)
          (updK fr d (.b false) fun fr' => match want with
            | true => kf ⟨fr', hp, nx⟩
            | false => kt ⟨fr', hp, nx⟩)
        | some (.tup []) => kf s
        | _ => False
      | none => False
    | none => False

theorem blt_iff (a b : Nat) : Nat.blt a b = decide (a < b) := by
  rw [Bool.eq_iff_iff]; simp [Nat.blt]; omega

theorem putK_sound {C : Ctx} {β : Env} {Z : Nat → Prop} {s s' : S} {w w' : World} {a : Act} {v : SV} {β' : Env} {Z' : Nat → Prop} {fp' : Nat → Nat → Prop}
    (hf : FSat β s (C.N, C.df) a) (hc : Cok C β Z s w) (hn : Nxt β Z s w v w' β' Z' fp' s') {dst : Option Nat} {k : S → Prop} (h : S.putK C.N dst v s' k) :
    ∃ s'', k s'' ∧ Sat C s'' (a.put dst (v.den β')) w' := by
  have hc' : ∀ s'' : S, s''.nx = s'.nx → Cok C β' Z' s'' w' := fun s'' e => ⟨fun b hb => hn.zz b (hc.zz b hb), Ext.trans hc.ext hn.ext hc.zz, fun id hid => (hn.env id (Nat.lt_of_lt_of_le hid hc.nx)).trans (hc.env id hid), by
    have := hc.nx; have := hn.nx; omega⟩
  have hfr : ∀ t u, look s'.fr t = some u → a.tmps[t]? = some (u.den β') ∧ u.lt s'.nx := by
    intro t u ht
    rw [hn.fr] at ht
    have hl := hf.lt t u ht
    exact ⟨by rw [hf.tmp t u ht, SV.den_congr hn.env hl], SV.lt_mono hn.nx hl⟩
  cases dst with
  | none =>
    exact ⟨s', h, β', Z', fp', hn.sat, ⟨fun t u ht => (hfr t u ht).1, fun t u ht => (hfr t u ht).2, hf.size, hf.defers⟩, hc' s' rfl⟩
  | some d =>
    simp only [S.putK] at h
    split at h <;> try exact h.elim
    rename_i hd
    rw [blt_iff, decide_eq_true_eq] at hd
    rw [S.go_eq, updK_iff] at h
    refine ⟨_, h, β', Z', fp', ⟨hn.sat.zlt', hn.sat.flt, hn.sat.sep, hn.sat.obj, hn.sat.lto⟩, ⟨?_, ?_, by simp [Act.put, hf.size], hf.defers⟩, hc' _ rfl⟩
    · intro t u ht
      rw [look_upd] at ht
      simp only [Act.put, Array.getElem?_setIfInBounds]
      split at ht
      · rename_i e
        subst e
        cases ht
        simp [hf.size, hd]
      · rename_i e
        rw [if_neg e]
        exact (hfr t u ht).1
    · intro t u ht
      rw [look_upd] at ht
      split at ht
      · cases ht; exact hn.lt
      · exact (hfr t u ht).2

/-- A slot's Bool, known. -/
theorem Sat.set {C : Ctx} {s : S} {a : Act} {w : World} (h : Sat C s a w) {d : Nat} {c c' : Bool} (hl : look s.fr d = some (.b c)) (e : c = c') : Sat C ⟨upd s.fr d (.b c'), s.hp, s.nx⟩ a w := by
  obtain ⟨β, Z, fp, hs, hf, hc⟩ := h
  refine ⟨β, Z, fp, ⟨hs.zlt', hs.flt, hs.sep, hs.obj, hs.lto⟩, ⟨?_, ?_, hf.size, hf.defers⟩, ⟨hc.zz, hc.ext, hc.env, hc.nx⟩⟩
  · intro t u ht
    rw [look_upd] at ht
    split at ht
    · rename_i e'
      subst e'
      cases ht
      rw [hf.tmp _ _ hl, e]
    · exact hf.tmp t u ht
  · intro t u ht
    rw [look_upd] at ht
    split at ht
    · cases ht; trivial
    · exact hf.lt t u ht

theorem guardK_sound {C : Ctx} {whole : List Oper} {g : Option (Nat × Bool)} {s : S} {a : Act} {w : World} {kt kf : S → Prop} (h : guardK whole g s kt kf) (hs : Sat C s a w) (o : Oper) (ho : o.guard = g) :
    (Region.wanted o (yielded whole.toArray a.tmps) = true ∧ ∃ s', kt s' ∧ Sat C s' a w) ∨ (Region.wanted o (yielded whole.toArray a.tmps) = false ∧ ∃ s', kf s' ∧ Sat C s' a w) := by
  unfold guardK at h
  split at h
  · left
    exact ⟨by simp [Region.wanted, ho], s, h, hs⟩
  · rename_i j want
    split at h <;> try exact h.elim
    rename_i oj hoj
    rw [nthN_eq] at hoj
    split at h <;> try exact h.elim
    rename_i d hd
    have hy : ∀ v, a.tmps[d]? = some v → yielded whole.toArray a.tmps j = match v with
        | .bool b => some b
        | _ => none := by
      intro v hv
      unfold yielded
      simp only [List.getElem?_toArray, hoj, Option.bind_some, hd, hv]
      cases v <;> rfl
    have hs' := hs
    obtain ⟨β, Z, fp, hh, hf, hc⟩ := hs
    rw [S.go_eq] at h
    split at h <;> try exact h.elim
    · rename_i c hl
      rw [condP_iff, updK_iff, updK_iff] at h
      have hy' : yielded whole.toArray a.tmps j = some c := hy _ (hf.tmp _ _ hl)
      have hw : Region.wanted o (yielded whole.toArray a.tmps) = (some c == some want) := by simp [Region.wanted, ho, hy']
      rw [hw]
      have hc1 := hs'.set hl rfl
      cases c with
      | true =>
        rw [if_pos rfl] at h
        cases want with
        | true => exact .inl ⟨rfl, _, h, hc1⟩
        | false => exact .inr ⟨rfl, _, h, hc1⟩
      | false =>
        rw [if_neg (by simp)] at h
        cases want with
        | true => exact .inr ⟨rfl, _, h, hc1⟩
        | false => exact .inl ⟨rfl, _, h, hc1⟩
    · rename_i hl
      right
      have hy' : yielded whole.toArray a.tmps j = none := hy _ (hf.tmp _ _ hl)
      exact ⟨by simp [Region.wanted, ho, hy'], s, h, hs'⟩

/-- A fence that lets all by, of whatever make. -/
abbrev fnc (ro : Option Nat) : Fence := { Fence.wide with round := ro }

theorem wpIn_of_wp {P : Program} {o : Oper} {a : Act} {w : World} {next : Act → World → Prop} {Q : Exit → Act → World → Prop} (ro : Option Nat) (n : Nat) (h : o.wp P a w next Q) (hd : ∀ c, o.op ≠ .defer c) : o.wpIn (fnc ro) n P a w next Q := by
  unfold Oper.wpIn
  refine ⟨fun _ _ => trivial, ?_⟩
  rw [Oper.semAt_eq _ _ _ hd]
  unfold Oper.wp at h
  generalize (execOp a.eval o).run P w = r at h ⊢
  have hdep : (fnc ro).depth.isSome = true → 1 ≤ n := fun h => by cases h
  cases r with
  | ok x w' =>
    cases x with
    | enter f args => exact ⟨hdep, (callsIn_wide (n := n - 1)).2 h⟩
    | row row args =>
      refine ⟨hdep, fun c cs _ => ?_⟩
      obtain ⟨v, w2, hr, hs⟩ := h c cs
      exact ⟨v, w2, hr, stepsIn_wide.2 hs⟩
    | value v => exact h
    | skip => exact h
    | defer d => exact h
    | _ => exact h.elim
  | halt e w' =>
    cases e with
    | panic v => exact h
    | _ => exact h.elim

/-- One operation, within a fence of whatever make. -/
def SemF (P : Program) (N : Nat) (E : Env → Prop) (o : Oper) (s : S) (k : S → SV → Prop) : Prop :=
  ∀ (ro : Option Nat) (n : Nat) β Z fp w a df, E β → HSat β Z fp s w → FSat β s (N, df) a → ∀ (next : Act → World → Prop) (Q : Exit → Act → World → Prop),
    (∀ v w' β' Z' fp' s', Nxt β Z s w v w' β' Z' fp' s' → k s' v → next (a.put o.dst (v.den β')) w') → o.wpIn (fnc ro) n P a w next Q

/-- A call of yield: left to the user. -/
@[irreducible] def YieldX (P : Program) (N : Nat) (E : Env → Prop) (o : Oper) (s : S) (k : S → SV → Prop) : Prop := SemF P N E o s k

def opF (P : Program) (ty : List (Nat × STy)) (N : Nat) (E : Env → Prop) (o : Oper) (s : S) (k : S → SV → Prop) : Prop :=
  match o.op with
  | .defer _ => False
  | .call { callee := .value f, .. } => match ev s.fr f with
    | some (.a (.c (.v (.func (.yield _) _ _)))) => YieldX P N E o s k
    | _ => opK P ty N o s k
  | _ => opK P ty N o s k

theorem opF_sound {P : Program} {ty : List (Nat × STy)} (hty : TyOk P ty) {N : Nat} {E : Env → Prop} {o : Oper} {s : S} {k : S → SV → Prop} (h : opF P ty N E o s k) : SemF P N E o s k := by
  have key : opK P ty N o s k → (∀ c, o.op ≠ .defer c) → SemF P N E o s k := fun h hd ro n β Z fp w a df _ hs hf next Q hn =>
    wpIn_of_wp ro n (opK_sound hty h β Z fp w a df hs hf next Q hn) hd
  unfold opF at h
  split at h
  · exact h.elim
  · rename_i hop
    split at h
    · unfold YieldX at h; exact h
    · exact key h (fun c hc => by rw [hop] at hc; cases hc)
  · rename_i hop _
    exact key h (fun c hc => hop c hc)

section
variable (P : Program) (ty : List (Nat × STy)) (N : Nat) (E : Env → Prop)

def runOps (whole : List Oper) : List Oper → S → (S → Prop) → Prop
  | [], s, k => k s
  | o :: rest, s, k => guardK whole o.guard s
    (fun s' => opF P ty N E o s' fun s'' v => S.putK N o.dst v s'' fun s3 => runOps whole rest s3 k)
    (fun s' => S.putK N o.dst .u s' fun s3 => runOps whole rest s3 k)
end

theorem Nxt.refl {β : Env} {Z : Nat → Prop} {fp : Nat → Nat → Prop} {s : S} {w : World} (hs : HSat β Z fp s w) {v : SV} (hl : v.lt s.nx) : Nxt β Z s w v w β Z fp s :=
  ⟨fun _ _ => rfl, Ext.refl _ _, fun _ h => h, rfl, Nat.le_refl _, hs, hl⟩

theorem u_lt (n : Nat) : SV.u.lt n := by intro c hc; cases hc

/-- What is asked of the objects' addresses holds of what the context says. -/
def EOk (C : Ctx) (E : Env → Prop) : Prop := ∀ β : Env, (∀ id, id < C.n0 → β id = C.β0 id) → E β

abbrev AnyE : Env → Prop := fun _ => True

theorem runOps_sound {P : Program} {ty : List (Nat × STy)} (hty : TyOk P ty) {C : Ctx} {E : Env → Prop} (hE : EOk C E) (ro : Option Nat) (n : Nat) (whole : List Oper) {Q : Exit → Act → World → Prop} : ∀ (l : List Oper) (s : S) (k : S → Prop) (a : Act) (w : World),
    runOps P ty C.N E whole l s k → Sat C s a w → (∀ s a w, k s → Sat C s a w → Q .normal a w) → wpListIn (fnc ro) n P whole.toArray Q l a w
  | [], s, k, a, w, h, hs, hQ => hQ s a w h hs
  | o :: rest, s, k, a, w, h, hs, hQ => by
    simp only [runOps] at h
    unfold wpListIn
    rcases guardK_sound h hs o rfl with ⟨hw, s', hk, hs'⟩ | ⟨hw, s', hk, hs'⟩
    · rw [if_pos hw]
      have h1 := opF_sound hty hk
      obtain ⟨β, Z, fp, hh, hf, hc⟩ := hs'
      refine h1 ro n β Z fp w a C.df (hE β hc.env) hh hf _ _ ?_
      intro v w' β' Z' fp' s'' hn hk'
      obtain ⟨s3, hk3, hs3⟩ := putK_sound hf hc hn hk'
      exact runOps_sound hty hE ro n whole rest s3 k _ _ hk3 hs3 hQ
    · rw [if_neg (by rw [hw]; simp)]
      obtain ⟨β, Z, fp, hh, hf, hc⟩ := hs'
      obtain ⟨s3, hk3, hs3⟩ := putK_sound (v := .u) hf hc (Nxt.refl hh (u_lt _)) hk
      exact ⟨fun _ _ => trivial, runOps_sound hty hE ro n whole rest s3 k _ _ hk3 hs3 hQ⟩

end Go.Fw

/-
  Control; a call entered.
-/
namespace Go.Fw
open Go

/-- A region whose order is drawn. -/
@[irreducible] def DrawX (P : Program) (N n0 : Nat) (ops : Array Oper) (s : S) (kn : S → Prop) : Prop :=
  ∀ (C : Ctx) (id : Nat) (a : Act) (w : World) (Q : Exit → Act → World → Prop), C.N = N → C.n0 = n0 → Sat C s a w → (∀ s a w, kn s → Sat C s a w → Q .normal a w) → (Code.region id ops true).wp P Q a w

def QOf (C : Ctx) (kn kr : S → Prop) (ke : Nat → S → Prop) : Exit → Act → World → Prop
  | .normal, a, w => ∃ s, kn s ∧ Sat C s a w
  | .ret, a, w => ∃ s, kr s ∧ Sat C s a w
  | .exit i, a, w => ∃ s, ke i s ∧ Sat C s a w
  | _, _, _ => False

theorem wp_loop_ghost {P : Program} {c : Code} {Q : Exit → Act → World → Prop} {a : Act} {w : World} {α : Type} (I : α → Act → World → Prop) (μ : α → Nat) (x0 : α) (h₀ : I x0 a w)
    (round : ∀ x a w, I x a w → c.wp P (Exit.then (fun a' w' => ∃ x', I x' a' w' ∧ μ x' < μ x) Q) a w) : (Code.loop c).wp P Q a w := by
  intro b k cs
  have key : ∀ n x a w, μ x = n → I x a w →
      ∃ e a' w', Q e a' w' ∧ Arrives P (lone (b.at a (.code c :: .inLoop c :: k)) cs w) b k cs e a' w' := by
    intro n
    induction n using Nat.strongRecOn with
    | _ n ih =>
      intro x a w hn hI
      obtain ⟨e, a₁, w₁, hq, harr⟩ := round x a w hI b (.inLoop c :: k) cs
      cases e with
      | normal =>
        obtain ⟨x', hI₁, hlt⟩ := hq
        obtain ⟨e₂, a₂, w₂, hq₂, harr₂⟩ := ih (μ x') (hn ▸ hlt) x' a₁ w₁ rfl hI₁
        exact ⟨e₂, a₂, w₂, hq₂, .of_steps (Steps.trans harr (.one step_inLoop)) harr₂⟩
      | exit id => exact ⟨_, a₁, w₁, hq, .pass (x := .inLoop c) rfl (fun _ _ => .inl (by simp)) harr⟩
      | goto l => exact ⟨_, a₁, w₁, hq, .pass (x := .inLoop c) rfl (fun _ _ => .inl (by simp)) harr⟩
      | ret => exact ⟨_, a₁, w₁, hq, .pass (x := .inLoop c) rfl (fun _ _ => .inl (by simp)) harr⟩
      | panic ch => exact ⟨_, a₁, w₁, hq, .pass (x := .inLoop c) rfl (fun _ _ => .inl (by simp)) harr⟩
      | outgrown => exact ⟨_, a₁, w₁, hq, .pass (x := .inLoop c) rfl (fun _ _ => .inl (by simp)) harr⟩
  obtain ⟨e, a', w', hq, harr⟩ := key _ x0 a w rfl h₀
  exact ⟨e, a', w', hq, .of_steps (.one step_loop) harr⟩

/-- What code does, from a state on. -/
def SemC (P : Program) (N n0 : Nat) (c : Code) (kn kr : S → Prop) (ke : Nat → S → Prop) (s : S) : Prop :=
  ∀ C : Ctx, C.N = N → C.n0 = n0 → ∀ (a : Act) (w : World), Sat C s a w → c.wp P (QOf C kn kr ke) a w

/-- Code that is left to the user. -/
@[irreducible] def CodeX (P : Program) (N n0 : Nat) (c : Code) (kn kr : S → Prop) (ke : Nat → S → Prop) (s : S) : Prop := SemC P N n0 c kn kr ke s

/-- A loop: what holds at each round's head, and what goes down. -/
@[irreducible] def LoopK (n0 : Nat) (F : (S → Prop) → S → Prop) (s : S) : Prop :=
  ∃ (α : Type) (pat : α → S) (inv : α → Prop) (μ : α → Nat), (∃ x ren, Sub n0 ren (pat x) s ∧ inv x) ∧
    ∀ x, inv x → F (fun s' => ∃ x' ren, Sub n0 ren (pat x') s' ∧ inv x' ∧ μ x' < μ x) (pat x)

def memN : Nat → List Nat → Bool
  | _, [] => false
  | a, b :: l => match Nat.beq a b with
    | true => true
    | false => memN a l

def keepK (n : Nat) (live : List Nat) : List (Nat × SV) → (List (Nat × SV) → Prop) → Prop
  | [], k => k []
  | (t, v) :: l, k => match Nat.blt t n with
    | true => keepK n live l fun l' => k ((t, v) :: l')
    | false => match memN t live with
      | true => keepK n live l fun l' => k ((t, v) :: l')
      | false => keepK n live l k

def keptB (n : Nat) (live : List Nat) (t : Nat) : Bool := match Nat.blt t n with
  | true => true
  | false => memN t live

def keepF (n : Nat) (live : List Nat) : List (Nat × SV) → List (Nat × SV)
  | [] => []
  | (t, v) :: l => match keptB n live t with
    | true => (t, v) :: keepF n live l
    | false => keepF n live l

theorem keepK_iff (n : Nat) (live : List Nat) : ∀ (fr : List (Nat × SV)) (k : List (Nat × SV) → Prop), keepK n live fr k ↔ k (keepF n live fr)
  | [], k => Iff.rfl
  | (t, v) :: l, k => by
    simp only [keepK, keepF, keptB]
    cases Nat.blt t n with
    | true => exact keepK_iff n live l _
    | false =>
      simp only
      cases memN t live with
      | true => exact keepK_iff n live l _
      | false => exact keepK_iff n live l _

theorem look_keepF (n : Nat) (live : List Nat) : ∀ (fr : List (Nat × SV)) (u : Nat), look (keepF n live fr) u = match keptB n live u with
    | true => look fr u
    | false => none
  | [], u => by simp only [keepF, look]; split <;> rfl
  | (t, v) :: l, u => by
    have ih := look_keepF n live l u
    simp only [keepF]
    by_cases e : t = u
    · subst e
      cases hk : keptB n live t with
      | true => simp [look_cons]
      | false => rw [hk] at ih; simpa using ih
    · cases hk : keptB n live t with
      | true => simp only [look_cons, if_neg e]; exact ih
      | false => simp only [look_cons, if_neg e]; exact ih

theorem look_keep {n : Nat} {live : List Nat} {fr : List (Nat × SV)} {u : Nat} {v : SV} (h : look (keepF n live fr) u = some v) : look fr u = some v := by
  rw [look_keepF] at h
  split at h
  · exact h
  · cases h

theorem Sat.keep {C : Ctx} {s : S} {a : Act} {w : World} (h : Sat C s a w) (n : Nat) (live : List Nat) : Sat C ⟨keepF n live s.fr, s.hp, s.nx⟩ a w := by
  obtain ⟨β, Z, fp, hs, hf, hc⟩ := h
  exact ⟨β, Z, fp, ⟨hs.zlt', hs.flt, hs.sep, hs.obj, hs.lto⟩, ⟨fun t v ht => hf.tmp t v (look_keep ht), fun t v ht => hf.lt t v (look_keep ht), hf.size, hf.defers⟩, ⟨hc.zz, hc.ext, hc.env, hc.nx⟩⟩

section
variable (P : Program) (ty : List (Nat × STy)) (N : Nat) (E : Env → Prop) (n0 n : Nat) (live : List Nat)

def exec : Code → (S → Prop) → (S → Prop) → (Nat → S → Prop) → S → Prop
  | .skip, kn, _, _, s => kn s
  | .label _, kn, _, _, s => kn s
  | .region _ ops false, kn, _, _, s => s.go fun fr hp nx => keepK n live fr fun fr' => runOps P ty N E ops.toList ops.toList ⟨fr', hp, nx⟩ kn
  | .region _ ops true, kn, _, _, s => s.go fun fr hp nx => keepK n live fr fun fr' => DrawX P N n0 ops ⟨fr', hp, nx⟩ kn
  | .seq a b, kn, kr, ke, s => exec a (fun s' => exec b kn kr ke s') kr ke s
  | .cond c x y, kn, kr, ke, s => match ev s.fr c with
    | some (.a (.c (.b b))) => condP b (exec x kn kr ke s) (exec y kn kr ke s)
    | _ => False
  | .block id c, kn, kr, ke, s => exec c kn kr (fun i s' => match Nat.beq i id with
    | true => kn s'
    | false => ke i s') s
  | .exit id, _, _, ke, s => ke id s
  | .ret, _, kr, _, s => kr s
  | .loop c, _, kr, ke, s => s.go fun fr hp nx => keepK n live fr fun fr' => LoopK n0 (fun k s' => exec c k kr ke s') ⟨fr', hp, nx⟩
  | .goto _, _, _, _, _ => False
  | c, kn, kr, ke, s => CodeX P N n0 c kn kr ke s
end

theorem Sat.sub {C : Ctx} {s s1 : S} {a : Act} {w : World} (h : Sat C s a w) {ren : List (Nat × Option Nat)} (hsub : Sub C.n0 ren s1 s) : Sat C s1 a w := by
  obtain ⟨β, Z, fp, hs, hf, hc⟩ := h
  obtain ⟨h1, h2, h3, h4⟩ := hsub.sat hs hf
  exact ⟨_, Z, _, h1, h2, ⟨hc.zz, hc.ext, fun id hid => (h3 id hid).trans (hc.env id hid), h4⟩⟩

theorem CodeX.sem {P : Program} {C : Ctx} {c : Code} {kn kr : S → Prop} {ke : Nat → S → Prop} {s : S} {a : Act} {w : World} (h : CodeX P C.N C.n0 c kn kr ke s) (hs : Sat C s a w) : c.wp P (QOf C kn kr ke) a w := by
  unfold CodeX at h
  exact h C rfl rfl a w hs

theorem exec_sound {P : Program} {ty : List (Nat × STy)} (hty : TyOk P ty) {n : Nat} {live : List Nat} {C : Ctx} {E : Env → Prop} (hE : EOk C E) : ∀ (c : Code) (kn kr : S → Prop) (ke : Nat → S → Prop) (s : S) (a : Act) (w : World),
    exec P ty C.N E C.n0 n live c kn kr ke s → Sat C s a w → c.wp P (QOf C kn kr ke) a w
  | .skip, kn, kr, ke, s, a, w, h, hs => wp_skip ⟨s, h, hs⟩
  | .label _, kn, kr, ke, s, a, w, h, hs => wp_label ⟨s, h, hs⟩
  | .region id ops false, kn, kr, ke, s, a, w, h, hs => by
    simp only [exec] at h
    rw [S.go_eq, keepK_iff] at h
    refine wpIn_wide.1 (wpIn_region_list (n := 0) ?_)
    have := runOps_sound hty (C := C) hE none 0 ops.toList (Q := QOf C kn kr ke) ops.toList _ kn a w h (hs.keep n live) (fun s a w hk hs => ⟨s, hk, hs⟩)
    rw [Array.toArray_toList] at this
    exact this
  | .region id ops true, kn, kr, ke, s, a, w, h, hs => by
    simp only [exec] at h
    rw [S.go_eq, keepK_iff] at h
    unfold DrawX at h
    exact h C id a w _ rfl rfl (hs.keep n live) (fun s a w hk hs => ⟨s, hk, hs⟩)
  | .seq x y, kn, kr, ke, s, a, w, h, hs => by
    simp only [exec] at h
    refine wp_seq (wp_mono (exec_sound hty hE x _ kr ke s a w h hs) ?_)
    intro e a w hq
    cases e <;> first
      | exact hq
      | (obtain ⟨s', hk, hs'⟩ := hq; exact exec_sound hty hE y kn kr ke s' a w hk hs')
  | .cond c x y, kn, kr, ke, s, a, w, h, hs => by
    simp only [exec] at h
    split at h <;> try exact h.elim
    rename_i b hb
    rw [condP_iff] at h
    have he : a.eval c = .bool b := by
      obtain ⟨β, Z, fp, hh, hf, hc⟩ := hs
      exact (ev_den hf hb).1
    refine wp_cond he ?_
    split at h
    · rename_i hb'
      rw [if_pos hb']
      exact exec_sound hty hE x kn kr ke s a w h hs
    · rename_i hb'
      rw [if_neg hb']
      exact exec_sound hty hE y kn kr ke s a w h hs
  | .block id c, kn, kr, ke, s, a, w, h, hs => by
    simp only [exec] at h
    refine wp_block (wp_mono (exec_sound hty hE c _ kr _ s a w h hs) ?_)
    intro e a w hq
    cases e <;> try exact hq
    rename_i i
    obtain ⟨s', hk, hs'⟩ := hq
    simp only [Exit.inBlock]
    rw [nbeq] at hk
    by_cases hi : i = id
    · rw [if_pos hi]
      simp only [hi, decide_true] at hk
      exact ⟨s', hk, hs'⟩
    · rw [if_neg hi]
      simp only [hi, decide_false] at hk
      exact ⟨s', hk, hs'⟩
  | .exit id, kn, kr, ke, s, a, w, h, hs => wp_exit ⟨s, h, hs⟩
  | .ret, kn, kr, ke, s, a, w, h, hs => wp_ret ⟨s, h, hs⟩
  | .loop c, kn, kr, ke, s, a, w, h, hs => by
    simp only [exec] at h
    rw [S.go_eq, keepK_iff] at h
    unfold LoopK at h
    obtain ⟨α, pat, inv, μ, ⟨x0, ren, hsub, hinv⟩, hround⟩ := h
    refine wp_loop_ghost (fun x a w => inv x ∧ Sat C (pat x) a w) μ x0 ⟨hinv, (hs.keep n live).sub hsub⟩ ?_
    rintro x a w ⟨hi, hsat⟩
    refine wp_mono (exec_sound hty hE c _ kr ke _ a w (hround x hi) hsat) ?_
    intro e a w hq
    cases e <;> first
      | exact hq
      | (obtain ⟨s', ⟨x', ren', hsub', hi', hlt⟩, hs'⟩ := hq; exact ⟨x', ⟨hi', hs'.sub hsub'⟩, hlt⟩)

  | .rangeFunc _ _ _ _, kn, kr, ke, s, a, w, h, hs => CodeX.sem h hs
  | .scope _, kn, kr, ke, s, a, w, h, hs => CodeX.sem h hs
  | .refuse _, kn, kr, ke, s, a, w, h, hs => CodeX.sem h hs

/-! ### Results -/
def resK (ty : List (Nat × STy)) (s : S) : List ResultVar → (List SA → Prop) → Prop
  | [], k => k []
  | .tmp t :: l, k => match look s.fr t with
    | some (.a x) => resK ty s l fun r => k (x :: r)
    | _ => False
  | .cell t T :: l, k => match look ty T, look s.fr t with
    | some d, some (.a (.c (.ptr id 0))) => match look s.hp id with
      | some (.box _ cells) => match d.agg, Nat.ble (lenN d.zero) (lenN cells) with
        | true, true => forceC (takeN cells (lenN d.zero)) fun c => resK ty s l fun r => k (.agg c :: r)
        | false, _ => match cells with
          | c :: _ => resK ty s l fun r => k (.c c :: r)
          | [] => False
        | _, _ => False
      | _ => False
    | _, _ => False

def retK (ty : List (Nat × STy)) (rs : List ResultVar) (post : SV → S → Prop) (s : S) : Prop := resK ty s rs fun r => match r with
  | [x] => post (.a x) s
  | r => post (.tup r) s

def resOne (tmps : Array Value) : ResultVar → Sem Value
  | .tmp t => pure (tmps.getD t undef)
  | .cell a t => do loadVar t (← asAddr (tmps.getD a undef))

theorem resK_sound {P : Program} {ty : List (Nat × STy)} (hty : TyOk P ty) {β : Env} {Z : Nat → Prop} {fp : Nat → Nat → Prop} {s : S} {w : World} {N : NT} {a : Act} (hs : HSat β Z fp s w) (hf : FSat β s N a) :
    ∀ (l : List ResultVar) (k : List SA → Prop), resK ty s l k → ∃ r : List SA, k r ∧ (∀ x ∈ r, SA.lt s.nx x) ∧
      (l.mapM (resOne a.tmps)).run P w = .ok (r.map (SA.den β)) w
  | [], k, h => ⟨[], h, by simp, by simp⟩
  | .tmp t :: l, k, h => by
    simp only [resK] at h
    split at h <;> try exact h.elim
    rename_i x hx
    obtain ⟨r, hk, hl, hr⟩ := resK_sound hty hs hf l _ h
    refine ⟨x :: r, hk, ?_, ?_⟩
    · intro y hy
      simp only [List.mem_cons] at hy
      rcases hy with rfl | hy
      · exact hf.lt t _ hx
      · exact hl y hy
    · have h1 := hf.tmp t _ hx
      simp only [List.mapM_cons, resOne, pure_bind, Sem.run_bind, hr, Result.andThen_ok, Sem.run_pure, List.map_cons]
      simp [Array.getD_eq_getD_getElem?, h1, SV.den]
  | .cell t T :: l, k, h => by
    simp only [resK] at h
    split at h <;> try exact h.elim
    rename_i d id hd hx
    split at h <;> try exact h.elim
    rename_i T' cells hl
    obtain ⟨b, hb, _, _⟩ := box_at hs hl
    have hcl : ∀ c ∈ cells, SC.lt s.nx c := (hs.lto id _ hl).2
    have h1 := hf.tmp t _ hx
    have h2 : a.tmps.getD t undef = .pointer (some ⟨b, 0, none⟩) := by
      simp [Array.getD_eq_getD_getElem?, h1, SV.den, SA.den, SC.den, hb, Addr.add_lit]
    have hload := run_isAgg_load (w := w) (hty T d hd) ⟨b, 0, none⟩
    have hload' : (do loadVar T (← asAddr (a.tmps.getD t undef)) : Sem Value).run P w = (Instr.loadAt T (.pointer (some ⟨b, 0, none⟩))).run P w := by
      rw [h2]; rfl
    rw [hload] at hload'
    have fin : ∀ (x : SA), (resK ty s l fun r => k (x :: r)) → x.lt s.nx → (Instr.loadAt T (.pointer (some ⟨b, 0, none⟩))).run P w = .ok (x.den β) w →
        ∃ r : List SA, k r ∧ (∀ x ∈ r, SA.lt s.nx x) ∧
          ((ResultVar.cell t T :: l).mapM (resOne a.tmps)).run P w = .ok (r.map (SA.den β)) w := by
      intro x hx' hlt hrun
      obtain ⟨r, hk, hll, hr⟩ := resK_sound hty hs hf l _ hx'
      refine ⟨x :: r, hk, ?_, ?_⟩
      · intro y hy
        simp only [List.mem_cons] at hy
        rcases hy with rfl | hy
        · exact hlt
        · exact hll y hy
      · rw [hload, ← hload'] at hrun
        rw [List.mapM_cons, Sem.run_bind]
        simp only [resOne] at hrun ⊢
        rw [hrun]
        simp only [Result.andThen_ok, Sem.run_bind, hr, Sem.run_pure, List.map_cons]
    split at h <;> try exact h.elim
    · rename_i hagg hlen
      rw [nble, lenN_eq, lenN_eq, decide_eq_true_eq] at hlen
      rw [forceC_iff, takeN_eq, lenN_eq] at h
      refine fin _ h (fun c hc => hcl c (List.mem_of_mem_take hc)) ?_
      rw [hload, hagg]
      have := run_loadCells_list (P := P) w ⟨b, 0, none⟩ ((cells.take d.zero.length).map (SC.den β)) (fun j v hj => by
        rw [List.getElem?_map] at hj
        obtain ⟨c, hc, rfl⟩ := Option.map_eq_some_iff.1 hj
        rw [Addr.add_lit, Nat.zero_add]
        refine box_cell hs hl hb _ _ ?_
        rw [List.getElem?_take] at hc
        split at hc
        · exact hc
        · cases hc)
      rw [List.length_map, List.length_take, Nat.min_eq_left hlen] at this
      simp only [this, Result.andThen_ok, SA.den]
    · rename_i hagg
      cases cells with
      | nil => exact h.elim
      | cons c rest =>
        refine fin (.c c) h (hcl c (by simp)) ?_
        rw [hload, hagg]
        simp [run_load, box_cell hs hl hb 0 c (by simp), SA.den]

def enumL : Nat → List SV → List (Nat × SV)
  | _, [] => []
  | n, v :: l => (n, v) :: enumL (n + 1) l

theorem look_enumL : ∀ (l : List SV) (n t : Nat) (v : SV), look (enumL n l) t = some v → n ≤ t ∧ l[t - n]? = some v
  | [], n, t, v, h => by cases h
  | x :: l, n, t, v, h => by
    simp only [enumL, look_cons] at h
    split at h
    · rename_i e
      subst e
      cases h
      simp
    · rename_i e
      obtain ⟨h1, h2⟩ := look_enumL l (n + 1) t v h
      refine ⟨by omega, ?_⟩
      rw [show t - n = (t - (n + 1)) + 1 by omega, List.getElem?_cons_succ]
      exact h2

/-- A call of a function of the program, by its text. -/
theorem entry {P : Program} {ty : List (Nat × STy)} (hty : TyOk P ty) {f : FuncId} {fn : Func} {c : Code} {R : Ending → World → Prop} (n : Nat) (live : List Nat) (avs : List SV) (hp : List (Nat × SO)) (nx : Nat) (post : SV → S → Prop)
    {β : Env} {Z : Nat → Prop} {fp : Nat → Nat → Prop} {w : World} (hf : P.funcs[f]? = some fn) (hb : fn.body = some c) (hs : HSat β Z fp ⟨[], hp, nx⟩ w) (hlt : ∀ v ∈ avs, SV.lt nx v) (hn : avs.length ≤ fn.ntmps)
    {fr : List (Nat × SV)} (hfr : fr = enumL 0 avs)
    (hex : exec P ty fn.ntmps AnyE nx n live c (retK ty fn.results.toList post) (retK ty fn.results.toList post) (fun _ _ => False) ⟨fr, hp, nx⟩)
    (hR : ∀ v w' β' Z' fp' s', Nxt β Z ⟨[], hp, nx⟩ w v w' β' Z' fp' ⟨[], s'.hp, s'.nx⟩ → post v s' → R (.returned (v.den β')) w') :
    Calls P f (avs.map (SV.den β)).toArray w R := by
  subst hfr
  refine calls_of_wp hf hb ?_
  let C : Ctx := ⟨w, Z, β, nx, fn.ntmps, []⟩
  have hsat : Sat C ⟨enumL 0 avs, hp, nx⟩ { tmps := (avs.map (SV.den β)).toArray ++ Array.replicate (fn.ntmps - (avs.map (SV.den β)).toArray.size) undef, defers := [] } w := by
    refine ⟨β, Z, fp, ⟨hs.zlt', hs.flt, hs.sep, hs.obj, hs.lto⟩, ⟨?_, ?_, ?_, rfl⟩, ⟨fun _ h => h, Ext.refl _ _, fun _ _ => rfl, Nat.le_refl _⟩⟩
    · intro t v ht
      obtain ⟨_, h2⟩ := look_enumL avs 0 t v ht
      rw [Nat.sub_zero] at h2
      have hlt' : t < avs.length := (List.getElem?_eq_some_iff.1 h2).1
      rw [Array.getElem?_append_left (by simpa using hlt')]
      simp [h2]
    · intro t v ht
      obtain ⟨_, h2⟩ := look_enumL avs 0 t v ht
      exact hlt v (List.mem_of_getElem? h2)
    · show _ = fn.ntmps
      simp; omega
  have hmain := exec_sound hty (C := C) (E := AnyE) (fun _ _ => trivial) c _ _ _ _ _ _ hex hsat
  have hres : ∀ s a w', retK ty fn.results.toList post s → Sat C s a w' → a.defers = [] ∧ ∃ v, (results fn a.tmps).run P w' = .ok v w' ∧ R (.returned v) w' := by
    intro s a w' hr hsat'
    obtain ⟨β', Z', fp', hs', hf', hc'⟩ := hsat'
    refine ⟨hf'.defers, ?_⟩
    obtain ⟨r, hk, hl, hrun⟩ := resK_sound hty hs' hf' _ _ hr
    have hnxt : ∀ v : SV, v.lt s.nx → Nxt β Z ⟨[], hp, nx⟩ w v w' β' Z' fp' ⟨[], s.hp, s.nx⟩ := fun v hv =>
      ⟨hc'.env, hc'.ext, hc'.zz, rfl, hc'.nx, ⟨hs'.zlt', hs'.flt, hs'.sep, hs'.obj, hs'.lto⟩, hv⟩
    have hrun2 : (results fn a.tmps).run P w' = .ok (if h : (r.map (SA.den β')).toArray.size = 1 then (r.map (SA.den β')).toArray[0] else .tuple (r.map (SA.den β')).toArray) w' := by
      have e1 : results fn a.tmps = (do let vs ← fn.results.mapM (resOne a.tmps); pure (if h : vs.size = 1 then vs[0] else .tuple vs)) := rfl
      rw [e1, Sem.run_bind, Array.mapM_eq_mapM_toList]
      simp only [Sem.run_map, hrun, Result.andThen_ok, Sem.run_pure]
    match r, hk, hl, hrun2 with
    | [x], hk, hl, hrun2 =>
      refine ⟨_, hrun2, ?_⟩
      have := hR (.a x) w' β' Z' fp' s (hnxt (.a x) (hl x (by simp))) hk
      simpa [SV.den] using this
    | [], hk, hl, hrun2 =>
      refine ⟨_, hrun2, ?_⟩
      have := hR (.tup []) w' β' Z' fp' s (hnxt (.tup []) hl) hk
      simpa [SV.den] using this
    | x :: y :: r, hk, hl, hrun2 =>
      refine ⟨_, hrun2, ?_⟩
      have := hR (.tup (x :: y :: r)) w' β' Z' fp' s (hnxt (.tup (x :: y :: r)) hl) hk
      rw [dif_neg (by simp)]
      exact this
  refine wp_mono hmain ?_
  intro e a w' hq
  cases e with
  | normal => obtain ⟨s, hr, hs'⟩ := hq; exact hres s a w' hr hs'
  | ret => obtain ⟨s, hr, hs'⟩ := hq; exact hres s a w' hr hs'
  | exit i => obtain ⟨s, hr, _⟩ := hq; exact hr.elim
  | goto l => exact hq.elim
  | panic ch => exact hq.elim
  | outgrown => exact hq.elim

end Go.Fw

/-
  Contracts at the worlds' level, and how calls take them.
-/
namespace Go.Fw
open Go

def Old (w : World) : Nat → Prop := fun b => b < w.heap.size

/-- Nothing that was there has changed. -/
abbrev Kept (w w' : World) : Prop := Ext (Old w) w w'

theorem condP_mk {c : Bool} {x y : Prop} (h1 : c = true → x) (h2 : c = false → y) : condP c x y := by cases c; exact h2 rfl; exact h1 rfl

/-- A slice that reads as a list. -/
def Rd (w : World) (k : EK) (v : Value) (xs : List k.ty) : Prop :=
  ∃ a cap, v = .slice a xs.length cap ∧ (xs ≠ [] → ∃ x, a = some x ∧ x.spot = none ∧ x.block < w.heap.size ∧ ∀ j u, (flat k xs)[j]? = some u → w.cell? ⟨x.block, x.off + j, none⟩ = some u)

/-- A slice in memory of the callee's own. -/
def Mine (w w' : World) (E : Nat) (k : EK) (v : Value) (xs : List k.ty) (sp : Nat) : Prop :=
  (v = .slice none 0 0 ∧ xs = [] ∧ sp = 0) ∨ ∃ b off pre post, v = .slice (some ⟨b, off, none⟩) xs.length (xs.length + sp) ∧ w.heap.size ≤ b ∧ w'.heap[b]? = some (.cells (pre ++ flat k xs ++ post).toArray E (0, 0)) ∧ pre.length = off ∧ sp * k.sz ≤ post.length

section
variable {P : Program} {β : Env} {Z : Nat → Prop} {fp : Nat → Nat → Prop} {s : S} {w w' : World}

theorem Rd.kept {k : EK} {v : Value} {xs : List k.ty} (h : Rd w k v xs) (hk : Kept w w') : Rd w' k v xs := by
  obtain ⟨a, cap, rfl, h⟩ := h
  refine ⟨a, cap, rfl, fun hne => ?_⟩
  obtain ⟨x, rfl, hs, hb, hc⟩ := h hne
  refine ⟨x, rfl, hs, Nat.lt_of_lt_of_le hb hk.size, fun j u hj => ?_⟩
  have := hc j u hj
  simp only [World.cell?] at this ⊢
  rw [hk.block _ hb]
  exact this

/-- What a caller's slice reads as. -/
theorem HSat.rd (hs : HSat β Z fp s w) {id E : Nat} {own : Bool} {k : EK} {xs : List k.ty} {sp : Nat} (hl : look s.hp id = some (.arr own E k xs sp)) {sz lo len cap : Nat} (hsz : sz = k.sz) (hle : lo + len ≤ xs.length) :
    Rd w k ((SC.sl id sz lo len cap).den β) (sub xs lo len) := by
  subst hsz
  refine ⟨_, cap, by rw [sub_length _ _ _ hle]; rfl, fun hne => ?_⟩
  have hxs : xs ≠ [] := by
    intro e
    apply hne
    subst e
    simp [sub]
  have hok := hs.obj _ _ hl
  obtain ⟨x, hx, hsp, hc⟩ := SO.ok_cell hok hxs
  have hlt : x.block < w.heap.size := by
    rw [hx] at hok
    cases own with
    | true => obtain ⟨_, _, pre, post, hh, _⟩ := hok; exact (Array.getElem?_eq_some_iff.1 hh).1
    | false => exact (hok hxs).2.2.1
  refine ⟨x.add (lo * k.sz), by rw [hx]; rfl, by rw [add_eq hsp], by rw [add_eq hsp]; exact hlt, fun j u hj => ?_⟩
  have := flat_sub_cell hsp hle hc j u hj
  rw [add_eq hsp, Addr.add_lit] at this
  rw [add_eq hsp]
  exact this

theorem sub_all {α : Type} (xs : List α) : sub xs 0 xs.length = xs := by simp [sub]

/-- What was there is still there. -/
theorem HSat.kept (hs : HSat β Z fp s w) (hk : Kept w w') : HSat β Z fp s w' := by
  refine ⟨⟨hs.zlt'.1, fun b hb => Nat.lt_of_lt_of_le (hs.zlt b hb) hk.size⟩, fun id o hl b hb => ⟨Nat.lt_of_lt_of_le (hs.flt id o hl b hb).1 hk.size, (hs.flt id o hl b hb).2⟩, hs.sep, fun id o hl => ?_, hs.lto⟩
  refine SO.ok_mono (hs.obj id o hl) (hs.lto id o hl).2 (fun _ _ => rfl) (fun _ h => h) (fun b hb => hk.block b ?_) hk.size hs.zlt'.1
  rcases hb with hb | hb
  · exact hs.zlt b hb
  · exact (hs.flt id o hl b hb).1

theorem Nxt.kept (hs : HSat β Z fp s w) (hk : Kept w w') {v : SV} (hv : v.lt s.nx) : Nxt β Z s w v w' β Z fp s :=
  ⟨fun _ _ => rfl, hk.mono hs.zlt, fun _ h => h, rfl, Nat.le_refl _, hs.kept hk, hv⟩

end
end Go.Fw

/-
  Regions whose order is drawn: one walk, quiet operations as early as may be; what was loaded is looked at again behind each operation that makes or writes memory.
-/
namespace Go.Fw
open Go

def bindB : Ground → Bool
  | .textOnly _ | .gcOnly _ => false
  | _ => true

theorem bindB_eq (e : Edge) : Region.binds .any e = bindB e.ground := by
  unfold Region.binds bindB
  cases e.ground <;> rfl

def depsL : List Edge → List Nat
  | [] => []
  | e :: l => match bindB e.ground with
    | true => e.on :: depsL l
    | false => depsL l

def depsO (o : Oper) : List Nat := depsL o.after.toList

theorem mem_depsL {d : Nat} : ∀ {l : List Edge}, d ∈ depsL l ↔ ∃ e ∈ l, Region.binds .any e = true ∧ e.on = d
  | [] => by simp [depsL]
  | e :: l => by
    simp only [depsL]
    cases hb : bindB e.ground with
    | true =>
      simp only [List.mem_cons, mem_depsL (l := l)]
      constructor
      · rintro (rfl | ⟨e', h1, h2⟩)
        · exact ⟨e, .inl rfl, by rw [bindB_eq, hb], rfl⟩
        · exact ⟨e', .inr h1, h2⟩
      · rintro ⟨e', rfl | h1, h2, h3⟩
        · exact .inl h3.symm
        · exact .inr ⟨e', h1, h2, h3⟩
    | false =>
      simp only [mem_depsL (l := l), List.mem_cons]
      constructor
      · rintro ⟨e', h1, h2⟩; exact ⟨e', .inr h1, h2⟩
      · rintro ⟨e', rfl | h1, h2, h3⟩
        · rw [bindB_eq, hb] at h2; cases h2
        · exact ⟨e', h1, h2, h3⟩

inductive Anc (ops : List Oper) (i : Nat) : Nat → Prop
  | base {j : Nat} {o : Oper} (h : ops[j]? = some o) (hd : i ∈ depsO o) : Anc ops i j
  | step {j k : Nat} {o : Oper} (h : ops[j]? = some o) (hd : k ∈ depsO o) (ha : Anc ops i k) : Anc ops i j

def depsAt (ops : List Oper) (j : Nat) : List Nat := match nthN ops j with
  | some o => depsO o
  | none => []

def clo (ops : List Oper) : Nat → List Nat → List Nat → List Nat
  | 0, _, acc => acc
  | _, [], acc => acc
  | n + 1, x :: xs, acc => match memN x acc with
    | true => clo ops n xs acc
    | false => clo ops n (appN (depsAt ops x) xs) (x :: acc)

theorem memN_iff {a : Nat} : ∀ {l : List Nat}, memN a l = true ↔ a ∈ l
  | [] => by simp [memN]
  | b :: l => by
    simp only [memN, nbeq, List.mem_cons]
    by_cases h : a = b
    · simp [h]
    · simp only [h, decide_false, false_or]; exact memN_iff

theorem mem_depsAt {ops : List Oper} {i j : Nat} (h : i ∈ depsAt ops j) : Anc ops i j := by
  unfold depsAt at h
  split at h
  · rename_i o ho
    rw [nthN_eq] at ho
    exact .base ho h
  · cases h

theorem Anc.trans {ops : List Oper} {i j k : Nat} (h : Anc ops i j) (h' : Anc ops j k) : Anc ops i k := by
  induction h' with
  | base ho hd => exact .step ho hd h
  | step ho hd _ ih => exact .step ho hd ih

theorem clo_spec {ops : List Oper} {j : Nat} : ∀ (n : Nat) (fr acc : List Nat), (∀ x ∈ fr, Anc ops x j) → (∀ x ∈ acc, Anc ops x j) → ∀ x ∈ clo ops n fr acc, Anc ops x j
  | 0, _, _, _, ha => ha
  | n + 1, [], _, _, ha => ha
  | n + 1, x :: xs, acc, hf, ha => by
    simp only [clo]
    split
    · exact clo_spec n xs acc (fun y hy => hf y (List.mem_cons_of_mem _ hy)) ha
    · have hx := hf x (by simp)
      refine clo_spec n _ _ ?_ ?_
      · intro y hy
        rw [appN_eq, List.mem_append] at hy
        rcases hy with hy | hy
        · exact (mem_depsAt hy).trans hx
        · exact hf y (List.mem_cons_of_mem _ hy)
      · intro y hy
        simp only [List.mem_cons] at hy
        rcases hy with rfl | hy
        · exact hx
        · exact ha y hy

def ancs (ops : List Oper) (j : Nat) : List Nat := clo ops 400 (depsAt ops j) []

theorem ancs_spec {ops : List Oper} {i j : Nat} (h : i ∈ ancs ops j) : Anc ops i j :=
  clo_spec 400 _ _ (fun x hx => mem_depsAt hx) (by simp) i h

def quietB (op : Op) : Bool := match op with
  | .assign _ => false
  | op => Nat.beq (kindOf op) 0

def isSelect : Op → Bool
  | .select _ _ => true
  | _ => false

/-- What is asked of a region by its text alone. -/
def drawOk (ops : List Oper) : Bool :=
  ops.zipIdx.all fun (o, i) =>
    (depsO o).all (· < i) && !isSelect o.op &&
    match o.dst with
    | none => true
    | some d => ops.zipIdx.all fun (o', j) =>
      (if quietB o.op then (!(o'.looksAt ops.toArray).contains d || (ancs ops j).contains i) && (i == j || o'.dst != some d)
       else !quietB o'.op || (!(o'.looksAt ops.toArray).contains d || (ancs ops j).contains i || (ancs ops i).contains j))

structure DrawC (ops : List Oper) : Prop where
  lt : ∀ (i : Nat) (o : Oper), ops[i]? = some o → ∀ d ∈ depsO o, d < i
  sel : ∀ (i : Nat) (o : Oper), ops[i]? = some o → ∀ cs b, o.op ≠ .select cs b
  qu : ∀ (i : Nat) (o : Oper), ops[i]? = some o → quietB o.op = true → ∀ d, o.dst = some d → ∀ (j : Nat) (o' : Oper), ops[j]? = some o' → (d ∈ o'.looksAt ops.toArray → Anc ops i j) ∧ (i ≠ j → o'.dst ≠ some d)
  ld : ∀ (i : Nat) (o : Oper), ops[i]? = some o → quietB o.op = false → ∀ d, o.dst = some d → ∀ (j : Nat) (o' : Oper), ops[j]? = some o' → quietB o'.op = true → d ∈ o'.looksAt ops.toArray → Anc ops i j ∨ Anc ops j i

theorem mem_zip {ops : List Oper} {i : Nat} {o : Oper} (h : ops[i]? = some o) : (o, i) ∈ ops.zipIdx := by
  rw [List.mem_zipIdx_iff_getElem?]
  exact h

theorem drawOk_spec {ops : List Oper} (h : drawOk ops = true) : DrawC ops := by
  unfold drawOk at h
  rw [List.all_eq_true] at h
  refine ⟨?_, ?_, ?_, ?_⟩
  · intro i o ho d hd
    have := h _ (mem_zip ho)
    simp only [Bool.and_eq_true, List.all_eq_true, decide_eq_true_eq] at this
    exact this.1.1 d hd
  · intro i o ho cs b e
    have := h _ (mem_zip ho)
    simp only [Bool.and_eq_true] at this
    have := this.1.2
    rw [e] at this
    simp [isSelect] at this
  · intro i o ho hq d hd j o' ho'
    have := h _ (mem_zip ho)
    simp only [Bool.and_eq_true] at this
    have := this.2
    rw [hd] at this
    simp only [List.all_eq_true] at this
    have := this _ (mem_zip ho')
    simp only [hq, if_true, Bool.and_eq_true, Bool.or_eq_true, Bool.not_eq_true', List.contains_eq_mem, decide_eq_false_iff_not, decide_eq_true_eq, beq_iff_eq, bne_iff_ne] at this
    exact ⟨fun hm => ancs_spec (this.1.resolve_left (fun hn => hn hm)), fun hne => this.2.resolve_left hne⟩
  · intro i o ho hq d hd j o' ho' hq' hm
    have := h _ (mem_zip ho)
    simp only [Bool.and_eq_true] at this
    have := this.2
    rw [hd] at this
    simp only [List.all_eq_true] at this
    have := this _ (mem_zip ho')
    simp only [hq, hq', Bool.false_eq_true, if_false, Bool.or_eq_true, Bool.not_eq_true', List.contains_eq_mem, decide_eq_false_iff_not, decide_eq_true_eq, Bool.not_true, false_or] at this
    rcases this with (h1 | h1) | h1
    · exact absurd hm h1
    · exact .inl (ancs_spec h1)
    · exact .inr (ancs_spec h1)

theorem Anc.lt {ops : List Oper} (hc : DrawC ops) {i j : Nat} (h : Anc ops i j) : i < j := by
  induction h with
  | base ho hd => exact hc.lt _ _ ho _ hd
  | step ho hd _ ih => exact Nat.lt_trans ih (hc.lt _ _ ho _ hd)

/-- What two frames agree on, an operation cannot tell apart. -/
theorem agree_run {ops : List Oper} {o : Oper} {a b : Act} (hs : ∀ cs b, o.op ≠ .select cs b) (h : ∀ t ∈ o.looksAt ops.toArray, a.tmps[t]? = b.tmps[t]?) :
    execOp a.eval o = execOp b.eval o ∧ Region.wanted o (yielded ops.toArray a.tmps) = Region.wanted o (yielded ops.toArray b.tmps) := by
  constructor
  · refine execOp_congr o hs fun x hx => ?_
    cases x with
    | tmp t =>
      have := h t (List.mem_append_left _ (List.mem_filterMap.2 ⟨.tmp t, by simpa using hx, rfl⟩))
      simp [Act.eval, Array.getD_eq_getD_getElem?, this]
    | _ => rfl
  · unfold Region.wanted
    cases hg : o.guard with
    | none => rfl
    | some p =>
      obtain ⟨g, want⟩ := p
      simp only
      congr 1
      unfold yielded
      cases hd : (ops.toArray[g]?).bind (·.dst) with
      | none => rfl
      | some d =>
        have := h d (List.mem_append_right _ (by rw [hg]; simp only [hd]; simp))
        simp only [Option.bind_some, this]

end Go.Fw

/-
  Regions whose order is drawn (second part): the walk, and why it serves every order.
-/
namespace Go.Fw
open Go

section
variable (P : Program) (ty : List (Nat × STy)) (N : Nat) (whole : List Oper)

def depsIn (done : List Nat) : List Nat → Bool
  | [] => true
  | d :: l => match memN d done with
    | true => depsIn done l
    | false => false

def readyB (done : List Nat) (i : Nat) (o : Oper) : Bool := match memN i done with
  | true => false
  | false => depsIn done (depsO o)

def readyQ (done : List Nat) : List Oper → Nat → Option (Nat × Oper)
  | [], _ => none
  | o :: l, i => match quietB o.op with
    | true => match readyB done i o with
      | true => some (i, o)
      | false => readyQ done l (i + 1)
    | false => readyQ done l (i + 1)

def readyL (done : List Nat) : List Oper → Nat → List (Nat × Oper)
  | [], _ => []
  | o :: l, i => match readyB done i o with
    | true => (i, o) :: readyL done l (i + 1)
    | false => readyL done l (i + 1)

def keepP (as : List Nat) : List (Nat × SV) → List (Nat × SV)
  | [] => []
  | (i, v) :: l => match memN i as with
    | true => keepP as l
    | false => (i, v) :: keepP as l

def revalK : List (Nat × SV) → S → Prop → Prop
  | [], _, p => p
  | (i, v) :: l, s, p => match nthN whole i with
    | some o => qOp ty o.op s fun v' => Ob (v' = v) (revalK l s p)
    | none => False

def allK : List (Nat × Oper) → (Nat → Oper → Prop) → Prop
  | [], _ => True
  | [(i, o)], F => F i o
  | (i, o) :: l, F => Both (F i o) (allK l F)

def allDone : Nat → List Nat → Bool
  | 0, _ => true
  | n + 1, done => match memN n done with
    | true => allDone n done
    | false => false

def addP (b : Bool) (i : Nat) (v : SV) (pe : List (Nat × SV)) : List (Nat × SV) := match b with
  | true => (i, v) :: pe
  | false => pe

def drawP (kn : S → Prop) : Nat → List Nat → List (Nat × SV) → S → Prop
  | 0, _, _, _ => False
  | n + 1, done, pe, s => match readyQ done whole 0 with
    | some (i, o) => guardK whole o.guard s
      (fun s' => qOp ty o.op s' fun v => S.putK N o.dst v s' fun s'' => drawP kn n (i :: done) (addP (isLoad o.op) i v pe) s'')
      (fun s' => S.putK N o.dst .u s' fun s'' => drawP kn n (i :: done) pe s'')
    | none => match readyL done whole 0 with
      | [] => match allDone whole.length done with
        | true => kn s
        | false => False
      | l => allK l fun i o => guardK whole o.guard s
        (fun s' => opK P ty N o s' fun s1 v => S.putK N o.dst v s1 fun s2 => revalK ty whole (keepP (ancs whole i) pe) s2 (drawP kn n (i :: done) (keepP (ancs whole i) pe) s2))
        (fun s' => S.putK N o.dst .u s' fun s2 => drawP kn n (i :: done) pe s2)
end

theorem depsIn_iff {done : List Nat} : ∀ {l : List Nat}, depsIn done l = true ↔ ∀ d ∈ l, d ∈ done
  | [] => by simp [depsIn]
  | d :: l => by
    simp only [depsIn]
    cases h : memN d done with
    | true =>
      rw [memN_iff] at h
      simp only [depsIn_iff (l := l), List.mem_cons, forall_eq_or_imp, h, true_and]
    | false =>
      have h' : d ∉ done := fun hm => by rw [← memN_iff] at hm; rw [hm] at h; cases h
      simp only [List.mem_cons, forall_eq_or_imp, h', false_and, Bool.false_eq_true]

theorem readyB_iff {done : List Nat} {i : Nat} {o : Oper} : readyB done i o = true ↔ i ∉ done ∧ ∀ d ∈ depsO o, d ∈ done := by
  unfold readyB
  cases h : memN i done with
  | true => rw [memN_iff] at h; simp [h]
  | false =>
    have h' : i ∉ done := fun hm => by rw [← memN_iff] at hm; rw [hm] at h; cases h
    simp only [depsIn_iff, h', not_false_eq_true, true_and]

theorem readyQ_some {done : List Nat} : ∀ {l : List Oper} {k i : Nat} {o : Oper}, readyQ done l k = some (i, o) → k ≤ i ∧ l[i - k]? = some o ∧ quietB o.op = true ∧ readyB done i o = true
  | [], _, _, _, h => by cases h
  | x :: l, k, i, o, h => by
    simp only [readyQ] at h
    have tail : readyQ done l (k + 1) = some (i, o) → k ≤ i ∧ (x :: l)[i - k]? = some o ∧ quietB o.op = true ∧ readyB done i o = true := by
      intro h
      obtain ⟨h1, h2, h3⟩ := readyQ_some h
      refine ⟨by omega, ?_, h3⟩
      rw [show i - k = (i - (k + 1)) + 1 by omega, List.getElem?_cons_succ]
      exact h2
    split at h
    · rename_i hq
      split at h
      · rename_i hr
        cases h
        exact ⟨Nat.le_refl _, by simp, hq, hr⟩
      · exact tail h
    · exact tail h

theorem readyQ_none {done : List Nat} : ∀ {l : List Oper} {k : Nat}, readyQ done l k = none → ∀ (i : Nat) (o : Oper), l[i]? = some o → quietB o.op = true → readyB done (k + i) o = false
  | [], _, _, i, o, h, _ => by simp at h
  | x :: l, k, hn, i, o, h, hq => by
    simp only [readyQ] at hn
    have tail : readyQ done l (k + 1) = none → i ≠ 0 → readyB done (k + i) o = false := by
      intro hn hi
      obtain ⟨m, rfl⟩ := Nat.exists_eq_succ_of_ne_zero hi
      have := readyQ_none hn m o (by simpa using h) hq
      rw [show k + m.succ = k + 1 + m by omega]; exact this
    cases i with
    | zero =>
      simp only [List.getElem?_cons_zero, Option.some.injEq] at h
      subst h
      rw [hq] at hn
      simp only at hn
      split at hn
      · cases hn
      · rename_i hr; exact hr
    | succ m =>
      split at hn
      · split at hn
        · cases hn
        · exact tail hn (by simp)
      · exact tail hn (by simp)

theorem readyL_mem {done : List Nat} : ∀ {l : List Oper} {k i : Nat} {o : Oper}, l[i]? = some o → readyB done (k + i) o = true → (k + i, o) ∈ readyL done l k
  | [], _, _, _, h, _ => by simp at h
  | x :: l, k, i, o, h, hr => by
    simp only [readyL]
    cases i with
    | zero =>
      simp only [List.getElem?_cons_zero, Option.some.injEq] at h
      subst h
      simp only [Nat.add_zero] at hr ⊢
      rw [hr]
      simp
    | succ m =>
      have := readyL_mem (k := k + 1) (i := m) (o := o) (by simpa using h) (by rw [show k + 1 + m = k + (m + 1) by omega]; exact hr)
      rw [show k + 1 + m = k + (m + 1) by omega] at this
      split
      · exact List.mem_cons_of_mem _ this
      · exact this

theorem allK_mem : ∀ {l : List (Nat × Oper)} {F : Nat → Oper → Prop}, allK l F → ∀ i o, (i, o) ∈ l → F i o
  | [], _, _, _, _, h => by cases h
  | [(i, o)], F, h, i', o', hm => by simp only [List.mem_singleton] at hm; cases hm; exact h
  | (i, o) :: p :: l, F, h, i', o', hm => by
    simp only [List.mem_cons] at hm
    rcases hm with hm | hm
    · cases hm; exact h.one
    · exact allK_mem h.two i' o' (by simpa using hm)

theorem keepP_mem {as : List Nat} : ∀ {l : List (Nat × SV)} {i : Nat} {v : SV}, (i, v) ∈ l → i ∉ as → (i, v) ∈ keepP as l
  | (j, u) :: l, i, v, h, hn => by
    simp only [keepP]
    simp only [List.mem_cons] at h
    cases hm : memN j as with
    | true =>
      rcases h with h | h
      · cases h; exact absurd (memN_iff.1 hm) hn
      · exact keepP_mem h hn
    | false =>
      rcases h with h | h
      · cases h; simp
      · exact List.mem_cons_of_mem _ (keepP_mem h hn)

section
variable {P : Program} {ty : List (Nat × STy)} {ops : List Oper}

/-- The value that a quiet operation has left. -/
def Yd (P : Program) (ops : List Oper) (β : Env) (n : Nat) (pe : List (Nat × SV)) (i : Nat) (o : Oper) (a : Act) (w : World) : Prop :=
  (Region.wanted o (yielded ops.toArray a.tmps) = false ∧ ∀ d, o.dst = some d → a.tmps[d]? = some undef) ∨
  (Region.wanted o (yielded ops.toArray a.tmps) = true ∧ ∃ v : SV, v.lt n ∧ (execOp a.eval o).run P w = .ok (.value (v.den β)) w ∧ (∀ d, o.dst = some d → a.tmps[d]? = some (v.den β)) ∧
    ((∀ w', (execOp a.eval o).run P w' = .ok (.value (v.den β)) w') ∨ (i, v) ∈ pe))

structure Rel (P : Program) (ops : List Oper) (D : List Nat) (pe : List (Nat × SV)) (listed : Array Bool) (ae ar : Act) (β : Env) (n : Nat) (w : World) : Prop where
  lsz : listed.size = ops.length
  sub : ∀ i, listed[i]? = some true → i ∈ D
  down : ∀ (i : Nat) (o : Oper), listed[i]? = some true → ops[i]? = some o → ∀ d ∈ depsO o, listed[d]? = some true
  downD : ∀ (i : Nat) (o : Oper), i ∈ D → ops[i]? = some o → ∀ d ∈ depsO o, d ∈ D
  qu : ∀ (i : Nat) (o : Oper), i ∈ D → listed[i]? ≠ some true → ops[i]? = some o → quietB o.op = true ∧ Yd P ops β n pe i o ae w
  tm : ∀ t, (∀ (i : Nat) (o : Oper), i ∈ D → listed[i]? ≠ some true → ops[i]? = some o → o.dst ≠ some t) → ar.tmps[t]? = ae.tmps[t]?
  sz : ar.tmps.size = ae.tmps.size
  df : ar.defers = ae.defers

theorem anc_listed {ops : List Oper} {listed : Array Bool} (down : ∀ (i : Nat) (o : Oper), listed[i]? = some true → ops[i]? = some o → ∀ d ∈ depsO o, listed[d]? = some true) {i j : Nat} (h : Anc ops i j)
    (hj : ∀ o, ops[j]? = some o → ∀ d ∈ depsO o, listed[d]? = some true) : listed[i]? = some true := by
  induction h with
  | base ho hd => exact hj _ ho _ hd
  | step ho hd _ ih =>
    have hk := hj _ ho _ hd
    exact ih fun o ho' d hd' => down _ o hk ho' d hd'

theorem anc_done {ops : List Oper} {D : List Nat} (down : ∀ (i : Nat) (o : Oper), i ∈ D → ops[i]? = some o → ∀ d ∈ depsO o, d ∈ D) {i j : Nat} (h : Anc ops i j) (hj : j ∈ D) : i ∈ D := by
  induction h with
  | base ho hd => exact down _ _ hj ho _ hd
  | step ho hd _ ih => exact ih (down _ _ hj ho _ hd)

/-- What is ready looks alike in both frames. -/
theorem Rel.alike (hc : DrawC ops) {D : List Nat} {pe : List (Nat × SV)} {listed : Array Bool} {ae ar : Act} {β : Env} {n : Nat} {w : World} (h : Rel P ops D pe listed ae ar β n w) {i : Nat} {o : Oper} (ho : ops[i]? = some o)
    (hd : ∀ d ∈ depsO o, listed[d]? = some true) : execOp ar.eval o = execOp ae.eval o ∧ Region.wanted o (yielded ops.toArray ar.tmps) = Region.wanted o (yielded ops.toArray ae.tmps) := by
  refine agree_run (hc.sel i o ho) fun t ht => h.tm t ?_
  intro q oq hq hql hoq hdst
  have hquiet := (h.qu q oq hq hql hoq).1
  have hanc := (hc.qu q oq hoq hquiet t hdst i o ho).1 ht
  refine hql (anc_listed h.down hanc ?_)
  intro o' ho' d hd'
  rw [ho] at ho'
  cases ho'
  exact hd d hd'

theorem listed_set {listed : Array Bool} {i j : Nat} (hi : i < listed.size) : (listed.setIfInBounds i true)[j]? = some true ↔ j = i ∨ listed[j]? = some true := by
  rw [Array.getElem?_setIfInBounds]
  by_cases h : i = j
  · subst h; simp [hi]
  · simp only [if_neg h]
    constructor
    · exact .inr
    · rintro (rfl | h')
      · exact absurd rfl h
      · exact h'

end
end Go.Fw

/-
  Regions whose order is drawn (third part): every order comes to what the one walk comes to.
-/
namespace Go.Fw
open Go

theorem putK_soundB {C : Ctx} {β : Env} {Z : Nat → Prop} {s s' : S} {w w' : World} {a : Act} {v : SV} {β' : Env} {Z' : Nat → Prop} {fp' : Nat → Nat → Prop}
    (hf : FSat β s (C.N, C.df) a) (hc : Cok C β Z s w) (hn : Nxt β Z s w v w' β' Z' fp' s') {dst : Option Nat} {k : S → Prop} (h : S.putK C.N dst v s' k) :
    ∃ s'', k s'' ∧ s''.nx = s'.nx ∧ HSat β' Z' fp' s'' w' ∧ FSat β' s'' (C.N, C.df) (a.put dst (v.den β')) ∧ Cok C β' Z' s'' w' := by
  have hc' : ∀ s'' : S, s''.nx = s'.nx → Cok C β' Z' s'' w' := fun s'' e => ⟨fun b hb => hn.zz b (hc.zz b hb), Ext.trans hc.ext hn.ext hc.zz, fun id hid => (hn.env id (Nat.lt_of_lt_of_le hid hc.nx)).trans (hc.env id hid), by
    have := hc.nx; have := hn.nx; omega⟩
  have hfr : ∀ t u, look s'.fr t = some u → a.tmps[t]? = some (u.den β') ∧ u.lt s'.nx := by
    intro t u ht
    rw [hn.fr] at ht
    have hl := hf.lt t u ht
    exact ⟨by rw [hf.tmp t u ht, SV.den_congr hn.env hl], SV.lt_mono hn.nx hl⟩
  cases dst with
  | none =>
    exact ⟨s', h, rfl, hn.sat, ⟨fun t u ht => (hfr t u ht).1, fun t u ht => (hfr t u ht).2, hf.size, hf.defers⟩, hc' s' rfl⟩
  | some d =>
    simp only [S.putK] at h
    split at h <;> try exact h.elim
    rename_i hd
    rw [blt_iff, decide_eq_true_eq] at hd
    rw [S.go_eq, updK_iff] at h
    refine ⟨_, h, rfl, ⟨hn.sat.zlt', hn.sat.flt, hn.sat.sep, hn.sat.obj, hn.sat.lto⟩, ⟨?_, ?_, by simp [Act.put, hf.size], hf.defers⟩, hc' _ rfl⟩
    · intro t u ht
      rw [look_upd] at ht
      simp only [Act.put, Array.getElem?_setIfInBounds]
      split at ht
      · rename_i e
        subst e
        cases ht
        simp [hf.size, hd]
      · rename_i e
        rw [if_neg e]
        exact (hfr t u ht).1
    · intro t u ht
      rw [look_upd] at ht
      split at ht
      · cases ht; exact hn.lt
      · exact (hfr t u ht).2

theorem setB {C : Ctx} {β : Env} {Z : Nat → Prop} {fp : Nat → Nat → Prop} {s : S} {a : Act} {w : World} (hs : HSat β Z fp s w) (hf : FSat β s (C.N, C.df) a) (hc : Cok C β Z s w) {d : Nat} {c c' : Bool} (hl : look s.fr d = some (.b c)) (e : c = c') :
    HSat β Z fp ⟨upd s.fr d (.b c'), s.hp, s.nx⟩ w ∧ FSat β ⟨upd s.fr d (.b c'), s.hp, s.nx⟩ (C.N, C.df) a ∧ Cok C β Z ⟨upd s.fr d (.b c'), s.hp, s.nx⟩ w := by
  refine ⟨⟨hs.zlt', hs.flt, hs.sep, hs.obj, hs.lto⟩, ⟨?_, ?_, hf.size, hf.defers⟩, ⟨hc.zz, hc.ext, hc.env, hc.nx⟩⟩
  · intro t u ht
    rw [look_upd] at ht
    split at ht
    · rename_i e'
      subst e'
      cases ht
      rw [hf.tmp _ _ hl, e]
    · exact hf.tmp t u ht
  · intro t u ht
    rw [look_upd] at ht
    split at ht
    · cases ht; trivial
    · exact hf.lt t u ht

theorem guardK_soundB {C : Ctx} {whole : List Oper} {g : Option (Nat × Bool)} {s : S} {a : Act} {w : World} {kt kf : S → Prop} (h : guardK whole g s kt kf) {β : Env} {Z : Nat → Prop} {fp : Nat → Nat → Prop}
    (hs : HSat β Z fp s w) (hf : FSat β s (C.N, C.df) a) (hc : Cok C β Z s w) (o : Oper) (ho : o.guard = g) :
    (Region.wanted o (yielded whole.toArray a.tmps) = true ∧ ∃ s', kt s' ∧ s'.nx = s.nx ∧ HSat β Z fp s' w ∧ FSat β s' (C.N, C.df) a ∧ Cok C β Z s' w) ∨
    (Region.wanted o (yielded whole.toArray a.tmps) = false ∧ ∃ s', kf s' ∧ s'.nx = s.nx ∧ HSat β Z fp s' w ∧ FSat β s' (C.N, C.df) a ∧ Cok C β Z s' w) := by
  unfold guardK at h
  split at h
  · left
    exact ⟨by simp [Region.wanted, ho], s, h, rfl, hs, hf, hc⟩
  · rename_i j want
    split at h <;> try exact h.elim
    rename_i oj hoj
    rw [nthN_eq] at hoj
    split at h <;> try exact h.elim
    rename_i d hd
    have hy : ∀ v, a.tmps[d]? = some v → yielded whole.toArray a.tmps j = match v with
        | .bool b => some b
        | _ => none := by
      intro v hv
      unfold yielded
      simp only [List.getElem?_toArray, hoj, Option.bind_some, hd, hv]
      cases v <;> rfl
    rw [S.go_eq] at h
    split at h <;> try exact h.elim
    · rename_i c hl
      rw [condP_iff, updK_iff, updK_iff] at h
      have hy' : yielded whole.toArray a.tmps j = some c := hy _ (hf.tmp _ _ hl)
      have hw : Region.wanted o (yielded whole.toArray a.tmps) = (some c == some want) := by simp [Region.wanted, ho, hy']
      rw [hw]
      have hc1 := setB hs hf hc hl rfl
      cases c with
      | true =>
        rw [if_pos rfl] at h
        cases want with
        | true => exact .inl ⟨rfl, _, h, rfl, hc1⟩
        | false => exact .inr ⟨rfl, _, h, rfl, hc1⟩
      | false =>
        rw [if_neg (by simp)] at h
        cases want with
        | true => exact .inr ⟨rfl, _, h, rfl, hc1⟩
        | false => exact .inl ⟨rfl, _, h, rfl, hc1⟩
    · rename_i hl
      right
      have hy' : yielded whole.toArray a.tmps j = none := hy _ (hf.tmp _ _ hl)
      exact ⟨by simp [Region.wanted, ho, hy'], s, h, rfl, hs, hf, hc⟩

section
variable {P : Program} {ty : List (Nat × STy)} {ops : List Oper}

theorem revalK_sound (hty : TyOk P ty) {β : Env} {Z : Nat → Prop} {fp : Nat → Nat → Prop} {s : S} {w : World} {N : NT} {a : Act} (hs : HSat β Z fp s w) (hf : FSat β s N a) :
    ∀ {l : List (Nat × SV)} {p : Prop}, revalK ty ops l s p → p ∧ ∀ i v, (i, v) ∈ l → ∃ o, ops[i]? = some o ∧ (execOp a.eval o).run P w = .ok (.value (v.den β)) w
  | [], p, h => ⟨h, fun _ _ h => by cases h⟩
  | (i, v) :: l, p, h => by
    simp only [revalK] at h
    split at h <;> try exact h.elim
    rename_i o ho
    rw [nthN_eq] at ho
    obtain ⟨v', hr, _, e, h2⟩ := qOp_sound hty hs hf h
    subst e
    obtain ⟨hp, hl⟩ := revalK_sound hty hs hf h2
    refine ⟨hp, fun j u hm => ?_⟩
    simp only [List.mem_cons] at hm
    rcases hm with hm | hm
    · cases hm; exact ⟨o, ho, hr⟩
    · exact hl j u hm

theorem put_same {a b : Act} (hsz : a.tmps.size = b.tmps.size) (hdf : a.defers = b.defers) {dst : Option Nat} {u v : Value} (h : a.put dst u = a.put dst v) : b.put dst u = b.put dst v := by
  cases dst with
  | none => rfl
  | some d =>
    have h1 : a.tmps.setIfInBounds d u = a.tmps.setIfInBounds d v := by
      have := congrArg Act.tmps h
      exact this
    by_cases hd : d < a.tmps.size
    · have h2 := congrArg (fun t : Array Value => t[d]?) h1
      simp [hd] at h2
      rw [h2]
    · show ({ b with tmps := b.tmps.setIfInBounds d u } : Act) = { b with tmps := b.tmps.setIfInBounds d v }
      have h3 : ∀ x : Value, b.tmps.setIfInBounds d x = b.tmps := fun x => by
        apply Array.ext'
        simp only [Array.toList_setIfInBounds]
        exact List.set_eq_of_length_le (by simp; omega)
      rw [h3, h3]

theorem put_defers {a : Act} {d : Option Nat} {v : Value} : (a.put d v).defers = a.defers := by cases d <;> rfl

theorem wp_conv {o : Oper} {ae ar : Act} {w : World} (hsz : ae.tmps.size = ar.tmps.size) (hdf : ae.defers = ar.defers) (he : execOp ar.eval o = execOp ae.eval o) {K : Act → World → Prop} {Q : Exit → Act → World → Prop}
    (h : o.wp P ae w (fun a' w' => ∃ v, a' = ae.put o.dst v ∧ K (ar.put o.dst v) w') (fun _ _ _ => False)) : o.wp P ar w K Q := by
  have hk : ∀ v w', (∃ v', ae.put o.dst v = ae.put o.dst v' ∧ K (ar.put o.dst v') w') → K (ar.put o.dst v) w' := by
    rintro v w' ⟨v', e, hK⟩
    rw [put_same hsz hdf e]
    exact hK
  unfold Oper.wp at *
  rw [he]
  generalize (execOp ae.eval o).run P w = r at *
  cases r with
  | ok x w' =>
    cases x <;> simp only [Oper.upon] at h ⊢
    case value v => exact hk v w' h
    case skip => exact hk _ w' h
    case defer d =>
      obtain ⟨v', e, _⟩ := h
      have := congrArg (fun a : Act => a.defers.length) e
      simp [put_defers] at this
    case enter f args =>
      refine Calls.mono h ?_
      intro e w'' he'
      cases e with
      | returned v => exact hk v w'' he'
      | panicked c => exact he'.elim
      | outgrown => obtain ⟨_, _, hx⟩ := he'; exact hx.elim
    case row row args => exact Rows.mono h fun v w'' he' => hk v w'' he'
  | halt x w' => cases x <;> simp only [Oper.upon] at h ⊢ <;> exact h.elim

def cnt (l : List Bool) : Nat := l.countP (fun b => !b)

theorem cnt_set : ∀ (l : List Bool) (i : Nat), l[(i : Nat)]? = some false → cnt (l.set i true) + 1 = cnt l
  | [], i, h => by simp at h
  | b :: l, 0, h => by
    simp only [List.getElem?_cons_zero, Option.some.injEq] at h
    subst h
    simp [cnt]
  | b :: l, i + 1, h => by
    have := cnt_set l (i : Nat) (by simpa using h)
    simp only [cnt, List.set_cons_succ, List.countP_cons] at *
    omega

theorem cnt_zero : ∀ (l : List Bool), cnt l = 0 → ∀ (i : Nat), l[i]? ≠ some false
  | [], _, i => by simp
  | b :: l, h, i => by
    simp only [cnt, List.countP_cons] at h
    cases b with
    | false => simp at h
    | true =>
      cases i with
      | zero => simp
      | succ i => simpa using cnt_zero l (by simpa [cnt] using h) i

end
end Go.Fw

/-
  Regions whose order is drawn (fourth part): the induction.
-/
namespace Go.Fw
open Go

section
variable {P : Program} {ty : List (Nat × STy)} {ops : List Oper}

theorem putK_lt {N : Nat} {dst : Option Nat} {v : SV} {s : S} {k : S → Prop} (h : S.putK N dst v s k) : ∀ d, dst = some d → d < N := by
  intro d e
  subst e
  simp only [S.putK] at h
  split at h <;> try exact h.elim
  rename_i hd
  rw [blt_iff, decide_eq_true_eq] at hd
  exact hd

theorem put_at {a : Act} {dst : Option Nat} {v : Value} {d : Nat} (h : dst = some d) (hd : d < a.tmps.size) : (a.put dst v).tmps[d]? = some v := by
  subst h; simp [Act.put, hd]

theorem put_ne {a : Act} {dst : Option Nat} {v : Value} {d : Nat} (h : dst ≠ some d) : (a.put dst v).tmps[d]? = a.tmps[d]? := by
  cases dst with
  | none => rfl
  | some e => simp only [Act.put, Array.getElem?_setIfInBounds]; rw [if_neg (by rintro rfl; exact h rfl)]

theorem put_sz {a : Act} {dst : Option Nat} {v : Value} : (a.put dst v).tmps.size = a.tmps.size := by
  cases dst <;> simp [Act.put]

theorem put_tm {a b : Act} (hsz : a.tmps.size = b.tmps.size) {dst : Option Nat} {v : Value} {t : Nat} (h : dst ≠ some t → a.tmps[t]? = b.tmps[t]?) : (a.put dst v).tmps[t]? = (b.put dst v).tmps[t]? := by
  by_cases e : dst = some t
  · subst e
    simp only [Act.put, Array.getElem?_setIfInBounds, if_true, hsz]
  · rw [put_ne e, put_ne e]; exact h e

theorem Yd.move {β β' : Env} {n n' : Nat} {pe pe' : List (Nat × SV)} {q : Nat} {oq : Oper} {ae ae' : Act} {w w' : World} (h : Yd P ops β n pe q oq ae w)
    (hx : execOp ae'.eval oq = execOp ae.eval oq) (hw : Region.wanted oq (yielded ops.toArray ae'.tmps) = Region.wanted oq (yielded ops.toArray ae.tmps))
    (hd : ∀ d, oq.dst = some d → ae'.tmps[d]? = ae.tmps[d]?) (hn : n ≤ n') (hβ : ∀ id, id < n → β' id = β id)
    (hpe : ∀ v : SV, (q, v) ∈ pe → (execOp ae.eval oq).run P w = .ok (.value (v.den β)) w → (q, v) ∈ pe' ∧ (execOp ae.eval oq).run P w' = .ok (.value (v.den β')) w') : Yd P ops β' n' pe' q oq ae' w' := by
  unfold Yd at *
  rw [hx, hw]
  rcases h with ⟨h1, h2⟩ | ⟨h1, v, h2, h3, h4, h5⟩
  · exact .inl ⟨h1, fun d e => by rw [hd d e]; exact h2 d e⟩
  · have e := SV.den_congr hβ h2
    refine .inr ⟨h1, v, SV.lt_mono hn h2, ?_, fun d e' => by rw [hd d e', e]; exact h4 d e', ?_⟩
    · rcases h5 with h5 | h5
      · rw [e]; exact h5 w'
      · exact (hpe v h5 h3).2
    · rcases h5 with h5 | h5
      · left; rw [e]; exact h5
      · exact .inr (hpe v h5 h3).1

/-- The one walk takes a quiet operation. -/
theorem Rel.quiet (hc : DrawC ops) {D : List Nat} {pe pe' : List (Nat × SV)} {listed : Array Bool} {ae ar : Act} {β : Env} {n : Nat} {w : World} (h : Rel P ops D pe listed ae ar β n w) {i : Nat} {o : Oper} (ho : ops[i]? = some o)
    (hq : quietB o.op = true) (hi : i ∉ D) (hd : ∀ d ∈ depsO o, d ∈ D) {u : Value} (hpe : ∀ x ∈ pe, x ∈ pe')
    (hy : (Region.wanted o (yielded ops.toArray ae.tmps) = false ∧ ∀ d, o.dst = some d → (ae.put o.dst u).tmps[d]? = some undef) ∨
      (Region.wanted o (yielded ops.toArray ae.tmps) = true ∧ ∃ v : SV, v.lt n ∧ (execOp ae.eval o).run P w = .ok (.value (v.den β)) w ∧ (∀ d, o.dst = some d → (ae.put o.dst u).tmps[d]? = some (v.den β)) ∧
        ((∀ w', (execOp ae.eval o).run P w' = .ok (.value (v.den β)) w') ∨ (i, v) ∈ pe'))) :
    Rel P ops (i :: D) pe' listed (ae.put o.dst u) ar β n w := by
  have hil : listed[i]? ≠ some true := fun e => hi (h.sub i e)
  have same : ∀ (q : Nat) (oq : Oper), (q = i ∨ q ∈ D) → ops[q]? = some oq → execOp (ae.put o.dst u).eval oq = execOp ae.eval oq ∧ Region.wanted oq (yielded ops.toArray (ae.put o.dst u).tmps) = Region.wanted oq (yielded ops.toArray ae.tmps) := by
    intro q oq hqD hoq
    refine agree_run (hc.sel q oq hoq) fun t ht => put_ne ?_
    intro e
    have ha := (hc.qu i o ho hq t e q oq hoq).1 ht
    rcases hqD with rfl | hqD
    · exact absurd (ha.lt hc) (by omega)
    · exact hi (anc_done h.downD ha hqD)
  refine ⟨h.lsz, fun j hj => List.mem_cons_of_mem _ (h.sub j hj), h.down, ?_, ?_, ?_, by rw [put_sz]; exact h.sz, by rw [put_defers]; exact h.df⟩
  · intro j oj hj hoj d hdj
    simp only [List.mem_cons] at hj ⊢
    rcases hj with rfl | hj
    · rw [ho] at hoj; cases hoj; exact .inr (hd d hdj)
    · exact .inr (h.downD j oj hj hoj d hdj)
  · intro q oq hqD hql hoq
    simp only [List.mem_cons] at hqD
    by_cases e : q = i
    · subst e
      rw [ho] at hoq
      cases hoq
      refine ⟨hq, ?_⟩
      unfold Yd
      rw [(same q o (.inl rfl) ho).1, (same q o (.inl rfl) ho).2]
      exact hy
    · have hqD' := hqD.resolve_left e
      obtain ⟨h1, h2⟩ := h.qu q oq hqD' hql hoq
      refine ⟨h1, h2.move (same q oq hqD hoq).1 (same q oq hqD hoq).2 (fun d hdq => put_ne ?_) (Nat.le_refl _) (fun _ _ => rfl) (fun v hv hr => ⟨hpe _ hv, hr⟩)⟩
      intro e'
      exact (hc.qu i o ho hq d e' q oq hoq).2 (fun e'' => e e''.symm) hdq
  · intro t ht
    rw [put_ne (ht i o (by simp) hil ho)]
    exact h.tm t fun q oq hqD => ht q oq (List.mem_cons_of_mem _ hqD)

/-- What the one walk took already is listed. -/
theorem Rel.list (hc : DrawC ops) {D : List Nat} {pe : List (Nat × SV)} {listed : Array Bool} {ae ar : Act} {β : Env} {n : Nat} {w : World} (h : Rel P ops D pe listed ae ar β n w) {i : Nat} {o : Oper} (ho : ops[i]? = some o)
    (hi : i ∈ D) (hd : ∀ d ∈ depsO o, listed[d]? = some true) {u : Value} (hu : ∀ d, o.dst = some d → ae.tmps[d]? = some u) :
    Rel P ops D pe (listed.setIfInBounds i true) ae (ar.put o.dst u) β n w := by
  have hlt : i < listed.size := by rw [h.lsz]; exact (List.getElem?_eq_some_iff.1 ho).1
  refine ⟨by simp [h.lsz], ?_, ?_, h.downD, ?_, ?_, by rw [put_sz]; exact h.sz, by rw [put_defers]; exact h.df⟩
  · intro j hj
    rw [listed_set hlt] at hj
    rcases hj with rfl | hj
    · exact hi
    · exact h.sub j hj
  · intro j oj hj hoj d hdj
    rw [listed_set hlt] at hj ⊢
    rcases hj with rfl | hj
    · rw [ho] at hoj; cases hoj; exact .inr (hd d hdj)
    · exact .inr (h.down j oj hj hoj d hdj)
  · intro q oq hqD hql hoq
    exact h.qu q oq hqD (fun e => hql ((listed_set hlt).2 (.inr e))) hoq
  · intro t ht
    by_cases e : o.dst = some t
    · have h1 := hu t e
      have hts : t < ar.tmps.size := by rw [h.sz]; exact (Array.getElem?_eq_some_iff.1 h1).1
      rw [h1, put_at e hts]
    · rw [put_ne e]
      refine h.tm t fun q oq hqD hql hoq => ?_
      by_cases e' : q = i
      · subst e'; rw [ho] at hoq; cases hoq; exact e
      · exact ht q oq hqD (fun e'' => ((listed_set hlt).1 e'').elim e' hql) hoq

/-- What both take at once. -/
theorem Rel.both (hc : DrawC ops) {D : List Nat} {pe pe' : List (Nat × SV)} {listed : Array Bool} {ae ar : Act} {β β' : Env} {n n' : Nat} {w w' : World} (h : Rel P ops D pe listed ae ar β n w) {i : Nat} {o : Oper} (ho : ops[i]? = some o)
    (hq : quietB o.op = false) (hi : i ∉ D) (hd : ∀ d ∈ depsO o, listed[d]? = some true) (u : Value) (hn : n ≤ n') (hβ : ∀ id, id < n → β' id = β id)
    (hpe : ∀ (q : Nat) (oq : Oper) (v : SV), ops[q]? = some oq → q ∈ D → ¬ Anc ops q i → execOp (ae.put o.dst u).eval oq = execOp ae.eval oq → (q, v) ∈ pe → (execOp ae.eval oq).run P w = .ok (.value (v.den β)) w → (q, v) ∈ pe' ∧ (execOp ae.eval oq).run P w' = .ok (.value (v.den β')) w') :
    Rel P ops (i :: D) pe' (listed.setIfInBounds i true) (ae.put o.dst u) (ar.put o.dst u) β' n' w' := by
  have hlt : i < listed.size := by rw [h.lsz]; exact (List.getElem?_eq_some_iff.1 ho).1
  refine ⟨by simp [h.lsz], ?_, ?_, ?_, ?_, ?_, by rw [put_sz, put_sz]; exact h.sz, by rw [put_defers, put_defers]; exact h.df⟩
  · intro j hj
    rw [listed_set hlt] at hj
    rcases hj with rfl | hj
    · simp
    · exact List.mem_cons_of_mem _ (h.sub j hj)
  · intro j oj hj hoj d hdj
    rw [listed_set hlt] at hj ⊢
    rcases hj with rfl | hj
    · rw [ho] at hoj; cases hoj; exact .inr (hd d hdj)
    · exact .inr (h.down j oj hj hoj d hdj)
  · intro j oj hj hoj d hdj
    simp only [List.mem_cons] at hj ⊢
    rcases hj with rfl | hj
    · rw [ho] at hoj; cases hoj; exact .inr (h.sub d (hd d hdj))
    · exact .inr (h.downD j oj hj hoj d hdj)
  · intro q oq hqD hql hoq
    have hql' : q ≠ i ∧ listed[q]? ≠ some true := ⟨fun e => hql ((listed_set hlt).2 (.inl e)), fun e => hql ((listed_set hlt).2 (.inr e))⟩
    simp only [List.mem_cons] at hqD
    have hqD' := hqD.resolve_left hql'.1
    obtain ⟨h1, h2⟩ := h.qu q oq hqD' hql'.2 hoq
    have hna : ¬ Anc ops q i := fun ha => hql'.2 (anc_listed h.down ha fun o' ho' => by rw [ho] at ho'; cases ho'; exact hd)
    have same : execOp (ae.put o.dst u).eval oq = execOp ae.eval oq ∧ Region.wanted oq (yielded ops.toArray (ae.put o.dst u).tmps) = Region.wanted oq (yielded ops.toArray ae.tmps) := by
      refine agree_run (hc.sel q oq hoq) fun t ht => put_ne ?_
      intro e
      rcases hc.ld i o ho hq t e q oq hoq h1 ht with ha | ha
      · exact hi (anc_done h.downD ha hqD')
      · exact hna ha
    refine ⟨h1, h2.move same.1 same.2 (fun d hdq => put_ne ?_) hn hβ (fun v hv hr => hpe q oq v hoq hqD' hna same.1 hv hr)⟩
    exact (hc.qu q oq hoq h1 d hdq i o ho).2 hql'.1
  · intro t ht
    refine put_tm h.sz fun e => h.tm t fun q oq hqD hql hoq => ?_
    by_cases e' : q = i
    · subst e'; exact absurd hqD hi
    · exact ht q oq (List.mem_cons_of_mem _ hqD) (fun e'' => ((listed_set hlt).1 e'').elim e' hql) hoq

theorem ready_iff {listed : Array Bool} {i : Nat} (hl : listed.size = ops.length) : i ∈ Region.ready .any ops.toArray listed ↔ listed[i]? ≠ some true ∧ ∃ o, ops[i]? = some o ∧ ∀ d ∈ depsO o, listed[d]? = some true := by
  rw [mem_ready]
  have hg : ∀ j, listed.getD j false = true ↔ listed[j]? = some true := by
    intro j
    rw [Array.getD_eq_getD_getElem?]
    cases listed[j]? with
    | none => simp
    | some b => simp
  constructor
  · rintro ⟨h1, o, ho, h2⟩
    rw [List.getElem?_toArray] at ho
    refine ⟨?_, o, ho, ?_⟩
    · intro e
      rw [Array.getD_eq_getD_getElem?, e] at h1
      cases h1
    · intro d hd
      obtain ⟨e, he, hb, rfl⟩ := mem_depsL.1 hd
      exact (hg _).1 (h2 e (by simpa using he) hb)
  · rintro ⟨h1, o, ho, h2⟩
    have hlt : i < listed.size := by rw [hl]; exact (List.getElem?_eq_some_iff.1 ho).1
    refine ⟨?_, o, by rw [List.getElem?_toArray]; exact ho, ?_⟩
    · rw [Array.getD_eq_getD_getElem?]
      cases hx : listed[i]? with
      | none => rw [Array.getElem?_eq_none_iff] at hx; omega
      | some b =>
        cases b with
        | false => rfl
        | true => exact absurd hx h1
    · intro e he hb
      exact (hg _).2 (h2 _ (mem_depsL.2 ⟨e, by simpa using he, hb, rfl⟩))

/-- No operation is ready: all are listed. -/
theorem all_listed (hc : DrawC ops) {listed : Array Bool} (hl : listed.size = ops.length) (h : Region.ready .any ops.toArray listed = []) : ∀ i, i < ops.length → listed[i]? = some true := by
  intro i
  induction i using Nat.strongRecOn with
  | _ i ih =>
    intro hi
    refine Classical.byContradiction fun hn => ?_
    have : i ∈ Region.ready .any ops.toArray listed := (ready_iff hl).2 ⟨hn, ops[i], List.getElem?_eq_getElem hi, fun d hd => ih d (hc.lt i _ (List.getElem?_eq_getElem hi) d hd) (Nat.lt_trans (hc.lt i _ (List.getElem?_eq_getElem hi) d hd) hi)⟩
    rw [h] at this
    cases this

end
end Go.Fw
