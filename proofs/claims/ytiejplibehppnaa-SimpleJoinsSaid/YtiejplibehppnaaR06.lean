/-
  Rows of a pool lent to a callee.
-/
import Derived.Test.YtiejplibehppnaaR05
import Derived.RangeFuncIn
import Derived.RangeFuncRecord
import Derived.RangeFuncLeaves

set_option linter.unusedSimpArgs false
set_option linter.unusedVariables false

namespace Go.Fw
open Go

def rowAK (sz : Nat) : Nat → List Bool → List SV → (List SV → List Sli → Prop) → Prop
  | nx, true :: bs, .a (.c (.h x)) :: l, k => rowAK sz (nx + 1) bs l fun l' vs => k (.c (.sl nx sz 0 x.n x.c) :: l') (x :: vs)
  | nx, false :: bs, v :: l, k => rowAK sz nx bs l fun l' vs => k (v :: l') vs
  | _, [], l, k => k l []
  | _, _, _, _ => False

def rowsO (E : Nat) (k : EK) (m : List (Addr × List k.ty × Nat)) : Nat → List Sli → List (Nat × SO)
  | _, [] => []
  | nx, x :: l => (nx, .arr false E k (rowA m x.a) 0) :: rowsO E k m (nx + 1) l

def SO.strict : SO → Bool
  | .arr own _ _ _ _ => own
  | .gen _ => false
  | _ => true

def SO.ro : SO → Bool
  | .arr own _ _ _ _ => !own
  | _ => false

def filK (p : SO → Bool) : List (Nat × SO) → (List (Nat × SO) → Prop) → Prop
  | [], k => k []
  | (i, o) :: l, k => match p o with
    | true => filK p l fun l' => k ((i, o) :: l')
    | false => filK p l k

def filL (p : SO → Bool) : List (Nat × SO) → List (Nat × SO)
  | [] => []
  | (i, o) :: l => match p o with
    | true => (i, o) :: filL p l
    | false => filL p l

theorem filK_iff (p : SO → Bool) : ∀ (l : List (Nat × SO)) (k : List (Nat × SO) → Prop), filK p l k ↔ k (filL p l)
  | [], k => Iff.rfl
  | (i, o) :: l, k => by
    simp only [filK, filL]
    cases p o <;> exact filK_iff p l _

theorem rowAK_spec {sz n0 : Nat} : ∀ (bs : List Bool) (nx : Nat) (l : List SV) (k : List SV → List Sli → Prop), rowAK sz nx bs l k → n0 ≤ nx → (∀ v ∈ l, SV.lt n0 v) →
    ∃ l' vs, k l' vs ∧ ∀ β γ : Env, (∀ id, id < n0 → γ id = β id) → (∀ i x, vs[i]? = some x → γ (nx + i) = x.a) → l'.map (SV.den γ) = l.map (SV.den β)
  | [], nx, l, k, h, _, hl => by
    refine ⟨l, [], by cases l <;> exact h, fun β γ h1 _ => ?_⟩
    refine List.map_congr_left fun v hv => ?_
    exact SV.den_congr h1 (hl v hv)
  | true :: bs, nx, [], k, h, _, _ => h.elim
  | false :: bs, nx, [], k, h, _, _ => h.elim
  | false :: bs, nx, v :: l, k, h, hn, hl => by
    obtain ⟨l', vs, hk, hd⟩ := rowAK_spec bs nx l _ h hn (fun v hv => hl v (List.mem_cons_of_mem _ hv))
    refine ⟨_, _, hk, fun β γ h1 h2 => ?_⟩
    rw [List.map_cons, List.map_cons, hd β γ h1 h2, SV.den_congr h1 (hl v (List.mem_cons_self ..))]
  | true :: bs, nx, v :: l, k, h, hn, hl => by
    obtain ⟨x, rfl⟩ : ∃ x, v = .a (.c (.h x)) := by
      cases v with
      | tup _ => exact h.elim
      | a y => cases y with
        | agg _ => exact h.elim
        | c z => cases z <;> first | exact h.elim | exact ⟨_, rfl⟩
    obtain ⟨l', vs, hk, hd⟩ := rowAK_spec bs (nx + 1) l _ h (by omega) (fun v hv => hl v (List.mem_cons_of_mem _ hv))
    refine ⟨_, _, hk, fun β γ h1 h2 => ?_⟩
    have h0 := h2 0 x rfl
    rw [List.map_cons, List.map_cons, hd β γ h1 (fun i y hy => by have := h2 (i + 1) y (by simpa using hy); rw [← this]; congr 1; omega)]
    congr 1
    show Value.slice ((γ nx).map (·.add (0 * sz))) x.n x.c = Value.slice x.a x.n x.c
    rw [show γ nx = x.a from h0]
    congr 1
    cases x.a with
    | none => rfl
    | some a => simp [Addr.add]

theorem look_appN {α : Type} : ∀ (l m : List (Nat × α)) (i : Nat), look (appN l m) i = match look l i with
    | some x => some x
    | none => look m i
  | [], m, i => rfl
  | (j, x) :: l, m, i => by
    simp only [appN, look_cons]
    by_cases h : j = i
    · simp [h]
    · simp only [h, if_false]; exact look_appN l m i

theorem look_rowsO {E : Nat} {k : EK} {m : List (Addr × List k.ty × Nat)} : ∀ (vs : List Sli) (nx i : Nat), look (rowsO E k m nx vs) i = if nx ≤ i then (vs[i - nx]?).map (fun x => SO.arr false E k (rowA m x.a) 0) else none
  | [], nx, i => by simp [rowsO, look]
  | x :: l, nx, i => by
    simp only [rowsO, look_cons]
    by_cases h : nx = i
    · subst h; simp
    · rw [if_neg h, look_rowsO l (nx + 1) i]
      by_cases h2 : nx ≤ i
      · rw [if_pos h2, if_pos (by omega), show i - nx = (i - (nx + 1)) + 1 by omega, List.getElem?_cons_succ]
      · rw [if_neg h2, if_neg (by omega)]

theorem look_filL {p : SO → Bool} : ∀ {l : List (Nat × SO)} {i : Nat} {o : SO}, keyNd l = true → look (filL p l) i = some o → look l i = some o ∧ p o = true
  | [], _, _, _, h => by cases h
  | (j, x) :: l, i, o, hk, h => by
    simp only [keyNd, Bool.and_eq_true, Bool.not_eq_true'] at hk
    have tail : look (filL p l) i = some o → look ((j, x) :: l) i = some o ∧ p o = true := by
      intro h
      obtain ⟨h1, h2⟩ := look_filL hk.2 h
      refine ⟨?_, h2⟩
      rw [look_cons]
      split
      · rename_i e; subst e; rw [hasId_look hk.1] at h1; cases h1
      · exact h1
    simp only [filL] at h
    cases hp : p x with
    | true =>
      rw [hp] at h
      simp only [look_cons] at h
      split at h
      · rename_i e
        subst e
        cases h
        exact ⟨by simp [look_cons], hp⟩
      · exact tail (by assumption)
    | false =>
      rw [hp] at h
      exact tail h

/-- What does not lean on the zone. -/
theorem SO.strict_ok {β : Env} {Z Z' fp : Nat → Prop} {w : World} {oa : Option Addr} {o : SO} (hs : o.strict = true) (h : o.ok β Z fp w oa) : o.ok β Z' fp w oa := by
  cases o with
  | box T cs => exact h
  | gen A => cases hs
  | pool E k m => exact h
  | map kk vk es c => exact h
  | iter a b c d e => exact h
  | arr own E k xs sp =>
    cases own with
    | false => cases hs
    | true =>
      cases oa with
      | none => exact h
      | some a => exact h

theorem SO.ro_ok {β : Env} {Z fp fp' : Nat → Prop} {w : World} {oa : Option Addr} {o : SO} (hs : o.ro = true) (h : o.ok β Z fp w oa) : o.ok β Z fp' w oa := by
  cases o with
  | arr own E k xs sp =>
    cases own with
    | true => cases hs
    | false =>
      cases oa with
      | none => exact h
      | some a => exact h
  | box T cs => cases hs
  | gen A => cases hs
  | pool E k m => cases hs
  | map kk vk es c => cases hs
  | iter a b c d e => cases hs

section
variable {P : Program} {β : Env} {Z : Nat → Prop} {fp : Nat → Nat → Prop} {s : S} {w w' : World}

/-- Rows of a pool handed to a callee that only reads them: as objects of their own, as long as the call lasts. -/
theorem callRow {f : Nat} {args : List SV} {ex : List Value} {k : S → SV → Prop} (pid : Nat) (bs : List Bool) (hcf : ∀ args w, (callFunc f args).run P w = .ok (.enter f args) w) (hlt : ∀ v ∈ args, SV.lt s.nx v)
    (h : s.go fun fr hp nx => match look hp pid with
      | some (.pool E ek m) => match keyNd hp with
        | true => rowAK ek.sz nx bs args fun args1 vs => delC hp pid fun hp1 => filK SO.ro hp fun hpr => CallK P f args1 ex ⟨fr, appN (rowsO E ek m nx vs) hp1, nx + lenN vs⟩
          (fun s2 v => s2.go fun fr2 hp2 nx2 => match keyNd hp2 with
            | true => filK SO.strict hp2 fun hp3 => k ⟨fr2, (pid, .pool E ek m) :: appN hpr hp3, nx2⟩ v
            | false => False)
        | false => False
      | _ => False) : CallK P f args ex s k := by
  rw [S.go_eq] at h
  split at h <;> try exact h.elim
  rename_i E ek m hpool
  split at h <;> try exact h.elim
  rename_i hknd
  obtain ⟨args1, vs, h, hden⟩ := rowAK_spec (n0 := s.nx) bs s.nx args _ h (Nat.le_refl _) hlt
  rw [delC_iff, filK_iff] at h
  unfold CallK at h ⊢
  refine ⟨hcf, fun β Z fp w hs => ?_⟩
  let β1 : Env := fun id => if id < s.nx then β id else match vs[id - s.nx]? with
    | some x => x.a
    | none => none
  let Z1 : Nat → Prop := fun b => Z b ∨ fp pid b
  let fp1 : Nat → Nat → Prop := fun id b => id < s.nx ∧ fp id b
  have hβ1 : ∀ id, id < s.nx → β1 id = β id := fun id hid => if_pos hid
  have hβv : ∀ i x, vs[i]? = some x → β1 (s.nx + i) = x.a := by
    intro i x hx
    show (if s.nx + i < s.nx then _ else _) = _
    rw [if_neg (by omega), show s.nx + i - s.nx = i by omega, hx]
  have hpl := hs.obj pid _ hpool
  have hplt := (hs.lto pid _ hpool).1
  have hcase : ∀ id o, look (appN (rowsO E ek m s.nx vs) (delK s.hp pid)) id = some o → (∃ x, s.nx ≤ id ∧ vs[id - s.nx]? = some x ∧ o = .arr false E ek (rowA m x.a) 0) ∨ (look s.hp id = some o ∧ id ≠ pid) := by
    intro id o hl
    rw [look_appN, look_rowsO] at hl
    split at hl
    · rename_i y hy
      cases hl
      split at hy
      · rename_i h1
        obtain ⟨x, hx, rfl⟩ := Option.map_eq_some_iff.1 hy
        exact .inl ⟨x, h1, hx, rfl⟩
      · cases hy
    · rw [look_delK] at hl
      split at hl
      · cases hl
      · rename_i hne
        exact .inr ⟨hl, fun e => hne e.symm⟩
  have hs1 : HSat β1 Z1 fp1 ⟨s.fr, appN (rowsO E ek m s.nx vs) (delK s.hp pid), s.nx + lenN vs⟩ w := by
    refine ⟨?_, ?_, ?_, ?_, ?_⟩
    · rintro b (hb | hb)
      · exact hs.zlt b hb
      · exact (hs.flt pid _ hpool b hb).1
    · rintro id o hl b ⟨hid, hb⟩
      rcases hcase id o hl with ⟨x, hx, _⟩ | ⟨h1, h2⟩
      · omega
      · refine ⟨(hs.flt id o h1 b hb).1, ?_⟩
        rintro (hz | hz)
        · exact (hs.flt id o h1 b hb).2 hz
        · exact hs.sep id pid o _ h1 hpool h2 b hb hz
    · rintro id id' o o' hl hl' hne b ⟨hid, hb⟩ ⟨hid', hb'⟩
      rcases hcase id o hl with ⟨x, hx, _⟩ | ⟨h1, h2⟩
      · omega
      rcases hcase id' o' hl' with ⟨x, hx, _⟩ | ⟨h1', h2'⟩
      · omega
      exact hs.sep id id' o o' h1 h1' hne b hb hb'
    · intro id o hl
      rcases hcase id o hl with ⟨x, hx, hv, rfl⟩ | ⟨h1, h2⟩
      · have e := hβv (id - s.nx) x hv
        rw [show s.nx + (id - s.nx) = id by omega] at e
        show SO.ok β1 Z1 (fp1 id) w (β1 id) _
        rw [e]
        cases hxa : x.a with
        | none => exact ⟨rfl, rfl⟩
        | some a =>
          intro hne
          have hr : ∃ y, lkA m a = some y := by
            cases hla : lkA m a with
            | some y => exact ⟨y, rfl⟩
            | none => exfalso; apply hne; simp [rowA, hla]
          obtain ⟨⟨xs, sp⟩, hla⟩ := hr
          obtain ⟨g1, g2, pre, post, g3, g4, g5⟩ := hpl.row a xs sp hla
          have exs : rowA m (some a) = xs := by simp [rowA, hla]
          refine ⟨g1, .inr g2, (hs.flt pid _ hpool _ g2).1, ?_⟩
          intro j v hj
          rw [exs] at hj
          rw [add_eq g1]
          exact flat_cell g3 g4 j v hj
      · have hlo := hs.lto id o h1
        show SO.ok β1 Z1 (fp1 id) w (β1 id) o
        rw [hβ1 id hlo.1, show fp1 id = fp id from funext fun b => propext ⟨fun h => h.2, fun h => ⟨hlo.1, h⟩⟩]
        exact SO.ok_mono (hs.obj id o h1) hlo.2 hβ1 (fun b hb => .inl hb) (fun _ _ => rfl) (Nat.le_refl _)
    · intro id o hl
      show id < s.nx + lenN vs ∧ o.lt (s.nx + lenN vs)
      rw [lenN_eq]
      rcases hcase id o hl with ⟨x, hx, hv, rfl⟩ | ⟨h1, h2⟩
      · have := (List.getElem?_eq_some_iff.1 hv).1
        exact ⟨by omega, trivial⟩
      · have hlo := hs.lto id o h1
        exact ⟨by omega, SO.lt_mono (by omega) hlo.2⟩
  have hc := h.2 _ _ _ w hs1
  rw [hden β β1 hβ1 hβv] at hc
  refine hc.mono ?_
  rintro e w' ⟨v, β', Z', fp', s', rfl, hn, hk⟩
  rw [S.go_eq] at hk
  split at hk <;> try exact hk.elim
  rename_i hknd2
  rw [filK_iff] at hk
  have hbw : ∀ b, Z b ∨ fp pid b → w'.heap[b]? = w.heap[b]? := fun b hb => hn.ext.block b hb
  have hsz := hn.ext.size
  have henv : ∀ id, id < s.nx → β' id = β id := fun id hid => (hn.env id (Nat.lt_of_lt_of_le hid (Nat.le_add_right _ _))).trans (hβ1 id hid)
  have hnx : s.nx ≤ s'.nx := Nat.le_trans (Nat.le_add_right _ _) hn.nx
  let fp2 : Nat → Nat → Prop := fun id b => if id = pid then fp pid b else if (look (filL SO.ro s.hp) id).isSome = true then False else fp' id b
  have hc2 : ∀ id o, look ((pid, SO.pool E ek m) :: appN (filL SO.ro s.hp) (filL SO.strict s'.hp)) id = some o →
      (id = pid ∧ o = .pool E ek m ∧ ∀ b, fp2 id b ↔ fp pid b) ∨ (id ≠ pid ∧ look s.hp id = some o ∧ o.ro = true ∧ ∀ b, ¬ fp2 id b) ∨ (id ≠ pid ∧ look s'.hp id = some o ∧ o.strict = true ∧ ∀ b, fp2 id b ↔ fp' id b) := by
    intro id o hl
    rw [look_cons] at hl
    split at hl
    · rename_i e
      subst e
      cases hl
      exact .inl ⟨rfl, rfl, fun b => by simp [fp2]⟩
    · rename_i hne
      rw [look_appN] at hl
      split at hl
      · rename_i y hy
        cases hl
        obtain ⟨g1, g2⟩ := look_filL hknd hy
        exact .inr (.inl ⟨Ne.symm hne, g1, g2, fun b => by simp [fp2, Ne.symm hne, hy]⟩)
      · rename_i hno
        obtain ⟨g1, g2⟩ := look_filL hknd2 hl
        exact .inr (.inr ⟨Ne.symm hne, g1, g2, fun b => by simp [fp2, Ne.symm hne, hno]⟩)
  refine ⟨v, β', Z, fp2, ⟨s'.fr, (pid, SO.pool E ek m) :: appN (filL SO.ro s.hp) (filL SO.strict s'.hp), s'.nx⟩, rfl, ⟨henv, hn.ext.mono fun b hb => .inl hb, fun _ h => h, hn.fr, hnx, ⟨fun b hb => Nat.lt_of_lt_of_le (hs.zlt b hb) hsz, ?_, ?_, ?_, ?_⟩, hn.lt⟩, hk⟩
  · intro id o hl b hb
    rcases hc2 id o hl with ⟨_, _, g⟩ | ⟨_, _, _, g⟩ | ⟨_, g1, _, g⟩
    · have := hs.flt pid _ hpool b ((g b).1 hb)
      exact ⟨Nat.lt_of_lt_of_le this.1 hsz, this.2⟩
    · exact absurd hb (g b)
    · have := hn.sat.flt id o g1 b ((g b).1 hb)
      exact ⟨this.1, fun hz => this.2 (hn.zz b (.inl hz))⟩
  · intro id id' o o' hl hl' hne b hb hb'
    rcases hc2 id o hl with ⟨e, _, g⟩ | ⟨_, _, _, g⟩ | ⟨_, g1, _, g⟩ <;> rcases hc2 id' o' hl' with ⟨e', _, g'⟩ | ⟨_, _, _, g'⟩ | ⟨_, g1', _, g'⟩
    · exact hne (e.trans e'.symm)
    · exact g' b hb'
    · exact (hn.sat.flt id' o' g1' b ((g' b).1 hb')).2 (hn.zz b (.inr ((g b).1 hb)))
    · exact g b hb
    · exact g b hb
    · exact g b hb
    · exact (hn.sat.flt id o g1 b ((g b).1 hb)).2 (hn.zz b (.inr ((g' b).1 hb')))
    · exact g' b hb'
    · exact hn.sat.sep id id' o o' g1 g1' hne b ((g b).1 hb) ((g' b).1 hb')
  · intro id o hl
    show SO.ok β' Z (fp2 id) w' (β' id) o
    rcases hc2 id o hl with ⟨e, e2, g⟩ | ⟨_, g1, g2, g⟩ | ⟨_, g1, g2, g⟩
    · subst e e2
      rw [henv _ hplt, show fp2 id = fp id from funext fun b => propext (g b)]
      exact SO.ok_mono (n := s.nx) hpl (hs.lto id _ hpool).2 henv (fun _ h => h) hbw hsz
    · have hlo := hs.lto id o g1
      rw [henv id hlo.1]
      have g0 : o.ok β Z (fun _ => False) w (β id) := SO.ro_ok g2 (hs.obj id o g1)
      have g3 : o.ok β' Z (fun _ => False) w' (β id) := SO.ok_mono g0 hlo.2 henv (fun _ h => h) (fun b hb => hbw b (by rcases hb with hb | hb; exact .inl hb; exact hb.elim)) hsz
      exact SO.ro_ok g2 g3
    · rw [show fp2 id = fp' id from funext fun b => propext (g b)]
      exact SO.strict_ok g2 (hn.sat.obj id o g1)
  · intro id o hl
    rcases hc2 id o hl with ⟨e, e2, _⟩ | ⟨_, g1, g2, g⟩ | ⟨_, g1, g2, g⟩
    · subst e e2
      exact ⟨Nat.lt_of_lt_of_le hplt hnx, trivial⟩
    · have hlo := hs.lto id o g1
      exact ⟨Nat.lt_of_lt_of_le hlo.1 hnx, SO.lt_mono hnx hlo.2⟩
    · exact hn.sat.lto id o g1

end
end Go.Fw

/-
  A function's text cut in two: what holds between.
-/
namespace Go.Fw
open Go

def takeC : Nat → Code → Code
  | 0, _ => .skip
  | k + 1, .seq a b => .seq a (takeC k b)
  | _ + 1, _ => .goto 0

def dropC : Nat → Code → Code
  | 0, c => c
  | k + 1, .seq _ b => dropC k b
  | _ + 1, _ => .skip

theorem SemC.of {P : Program} {ty : List (Nat × STy)} (hty : TyOk P ty) {N n0 : Nat} (n : Nat) (live : List Nat) {c : Code} {kn kr : S → Prop} {ke : Nat → S → Prop} {s : S} (h : exec P ty N AnyE n0 n live c kn kr ke s) : SemC P N n0 c kn kr ke s := by
  intro C hN h0 a w hs
  subst hN h0
  exact exec_sound hty (E := AnyE) (fun _ _ => trivial) c kn kr ke s a w h hs

theorem SemC.sub {P : Program} {N n0 : Nat} {c : Code} {kn kr : S → Prop} {ke : Nat → S → Prop} {s s1 : S} {ren : List (Nat × Option Nat)} (h : SemC P N n0 c kn kr ke s1) (hs : Sub n0 ren s1 s) : SemC P N n0 c kn kr ke s := by
  intro C hN h0 a w hsat
  subst h0
  exact h C hN rfl a w (hsat.sub hs)

/-- The text is cut behind its first k statements. -/
theorem SemC.cut {P : Program} {ty : List (Nat × STy)} (hty : TyOk P ty) {N n0 : Nat} (n : Nat) (live : List Nat) {kn kr : S → Prop} {ke : Nat → S → Prop} {α : Type} (pat : α → S) (inv : α → Prop) : ∀ (k : Nat) (c : Code) (s : S),
    exec P ty N AnyE n0 n live (takeC k c) (fun s' => ∃ x ren, Sub n0 ren (pat x) s' ∧ inv x) kr ke s → (∀ x, inv x → SemC P N n0 (dropC k c) kn kr ke (pat x)) → SemC P N n0 c kn kr ke s
  | 0, c, s, h, hk => by
    obtain ⟨x, ren, hsub, hi⟩ := h
    exact (hk x hi).sub hsub
  | k + 1, c, s, h, hk => by
    cases c <;> first
      | exact h.elim
      | skip
    rename_i x y
    intro C hN h0 a w hs
    subst hN h0
    refine wp_seq (wp_mono (exec_sound hty (E := AnyE) (fun _ _ => trivial) x _ kr ke s a w h hs) ?_)
    intro e a w hq
    cases e <;> first
      | exact hq
      | (obtain ⟨s', hk', hs'⟩ := hq; exact SemC.cut hty n live pat inv k y s' hk' hk C rfl rfl a w hs')

/-- A call of a function of the program, by its text. -/
theorem entryC {P : Program} {ty : List (Nat × STy)} (hty : TyOk P ty) {f : FuncId} {fn : Func} {c : Code} {R : Ending → World → Prop} (avs : List SV) (hp : List (Nat × SO)) (nx : Nat) (post : SV → S → Prop)
    {β : Env} {Z : Nat → Prop} {fp : Nat → Nat → Prop} {w : World} (hf : P.funcs[f]? = some fn) (hb : fn.body = some c) (hs : HSat β Z fp ⟨[], hp, nx⟩ w) (hlt : ∀ v ∈ avs, SV.lt nx v) (hn : avs.length ≤ fn.ntmps)
    {fr : List (Nat × SV)} (hfr : fr = enumL 0 avs)
    (hex : SemC P fn.ntmps nx c (retK ty fn.results.toList post) (retK ty fn.results.toList post) (fun _ _ => False) ⟨fr, hp, nx⟩)
    (hR : ∀ v w' β' Z' fp' s', Nxt β Z ⟨[], hp, nx⟩ w v w' β' Z' fp' ⟨[], s'.hp, s'.nx⟩ → post v s' → R (.returned (v.den β')) w') :
    Calls P f (avs.map (SV.den β)).toArray w R := by
  subst hfr
  refine calls_of_wp hf hb ?_
  let C : Ctx := ⟨w, Z, β, nx, fn.ntmps, []⟩
  have hsat : Sat C ⟨enumL 0 avs, hp, nx⟩ { tmps := (avs.map (SV.den β)).toArray ++ Array.replicate (fn.ntmps - (avs.map (SV.den β)).toArray.size) undef, defers := [] } w := by
    refine ⟨β, Z, fp, ⟨hs.zlt, hs.flt, hs.sep, hs.obj, hs.lto⟩, ⟨?_, ?_, ?_, rfl⟩, ⟨fun _ h => h, Ext.refl _ _, fun _ _ => rfl, Nat.le_refl _⟩⟩
    · intro t v ht
      obtain ⟨_, h2⟩ := look_enumL avs 0 t v ht
      rw [Nat.sub_zero] at h2
      have hlt' : t < avs.length := (List.getElem?_eq_some_iff.1 h2).1
      rw [Array.getElem?_append_left (by simpa using hlt')]
      simp [h2]
    · intro t v ht
      obtain ⟨_, h2⟩ := look_enumL avs 0 t v ht
      exact hlt v (List.mem_of_getElem? h2)
    · show _ = fn.ntmps
      simp; omega
  have hmain := hex C rfl rfl _ _ hsat
  have hres : ∀ s a w', retK ty fn.results.toList post s → Sat C s a w' → a.defers = [] ∧ ∃ v, (results fn a.tmps).run P w' = .ok v w' ∧ R (.returned v) w' := by
    intro s a w' hr hsat'
    obtain ⟨β', Z', fp', hs', hf', hc'⟩ := hsat'
    refine ⟨hf'.defers, ?_⟩
    obtain ⟨r, hk, hl, hrun⟩ := resK_sound hty hs' hf' _ _ hr
    have hnxt : ∀ v : SV, v.lt s.nx → Nxt β Z ⟨[], hp, nx⟩ w v w' β' Z' fp' ⟨[], s.hp, s.nx⟩ := fun v hv =>
      ⟨hc'.env, hc'.ext, hc'.zz, rfl, hc'.nx, ⟨hs'.zlt, hs'.flt, hs'.sep, hs'.obj, hs'.lto⟩, hv⟩
    have hrun2 : (results fn a.tmps).run P w' = .ok (if h : (r.map (SA.den β')).toArray.size = 1 then (r.map (SA.den β')).toArray[0] else .tuple (r.map (SA.den β')).toArray) w' := by
      have e1 : results fn a.tmps = (do let vs ← fn.results.mapM (resOne a.tmps); pure (if h : vs.size = 1 then vs[0] else .tuple vs)) := rfl
      rw [e1, Sem.run_bind, Array.mapM_eq_mapM_toList]
      simp only [Sem.run_map, hrun, Result.andThen_ok, Sem.run_pure]
    match r, hk, hl, hrun2 with
    | [x], hk, hl, hrun2 =>
      refine ⟨_, hrun2, ?_⟩
      have := hR (.a x) w' β' Z' fp' s (hnxt (.a x) (hl x (by simp))) hk
      simpa [SV.den] using this
    | [], hk, hl, hrun2 =>
      refine ⟨_, hrun2, ?_⟩
      have := hR (.tup []) w' β' Z' fp' s (hnxt (.tup []) hl) hk
      simpa [SV.den] using this
    | x :: y :: r, hk, hl, hrun2 =>
      refine ⟨_, hrun2, ?_⟩
      have := hR (.tup (x :: y :: r)) w' β' Z' fp' s (hnxt (.tup (x :: y :: r)) hl) hk
      rw [dif_neg (by simp)]
      exact this
  refine wp_mono hmain ?_
  intro e a w' hq
  cases e with
  | normal => obtain ⟨s, hr, hs'⟩ := hq; exact hres s a w' hr hs'
  | ret => obtain ⟨s, hr, hs'⟩ := hq; exact hres s a w' hr hs'
  | exit i => obtain ⟨s, hr, _⟩ := hq; exact hr.elim
  | goto l => exact hq.elim
  | panic ch => exact hq.elim
  | outgrown => exact hq.elim

theorem ctC {P : Program} {ty : List (Nat × STy)} (hty : TyOk P ty) {f : FuncId} {fn : Func} {c : Code} {avs : List SV} {hp : List (Nat × SO)} {nx : Nat} {post : SV → S → Prop}
    (hf : P.funcs[f]? = some fn) (hb : fn.body = some c) (hlt : ∀ v ∈ avs, SV.lt nx v) (hn : avs.length ≤ fn.ntmps) {fr : List (Nat × SV)} (hfr : fr = enumL 0 avs)
    (hex : SemC P fn.ntmps nx c (retK ty fn.results.toList (Back nx post)) (retK ty fn.results.toList (Back nx post)) (fun _ _ => False) ⟨fr, hp, nx⟩) : Ct P f avs [] hp nx post := by
  intro β Z fp w hs
  rw [List.append_nil]
  refine entryC hty avs hp nx (Back nx post) hf hb hs hlt hn hfr hex fun v w' β' Z' fp' s' hN hp => ?_
  obtain ⟨ren, hp1, nx1, v1, h1, h2, h3⟩ := hp
  obtain ⟨g1, _, g3, g4⟩ := h1.sat (N := (0, [])) (a := { tmps := #[], defers := [] }) hN.sat ⟨fun t v h => (by cases h), fun t v h => (by cases h), rfl, rfl⟩
  obtain ⟨e1, e2⟩ := eqV_spec (β := β') h2 hN.lt
  exact ⟨v1, renE ren β', Z', _, ⟨[], hp1, nx1⟩, by rw [e1], ⟨fun id hid => (g3 id hid).trans (hN.env id hid), hN.ext, hN.zz, rfl, g4, g1, e2⟩, h3⟩

end Go.Fw

/-
  The built-in clear over a list of one's own; a list of one's own cut short.
-/
namespace Go.Fw
open Go

section
variable {P : Program} {ty : List (Nat × STy)}

theorem clearX (hty : TyOk P ty) {N : Nat} {dst : Option Nat} {T E id lo len cap sp : Nat} {ek : EK} {bytes : Nat} {xs : List ek.ty} {x : Operand} {type : TypeId} {pos : String} {after : Array Edge} {guard : Option (Nat × Bool)} {s : S} {k : S → SV → Prop} {d : STy}
    (hd : look ty T = some d) (hsl : d.sl = some (E, ek, bytes)) (hx : ev s.fr x = some (.c (.sl id ek.sz lo len cap))) (hl : look s.hp id = some (.arr true E ek xs sp)) (hle : lo + len ≤ xs.length)
    (hk : updK s.hp id (.arr true E ek (xs.take lo ++ List.replicate len ek.dflt ++ xs.drop (lo + len)) sp) fun hp' => k ⟨s.fr, hp', s.nx⟩ .u) :
    XOp P N ⟨dst, .call ⟨.builtin .clear, #[x], #[T]⟩, type, pos, after, guard⟩ s k := by
  rw [updK_iff] at hk
  unfold XOp
  intro β Z fp w a df hs hf next Q hn
  obtain ⟨hu, hE, i, z, hi, hz, hisz, hib, hzc⟩ := (hty T d hd).sl _ _ _ hsl
  obtain ⟨hex, hltx⟩ := ev_den hf hx
  have hzsz : z.cells.size = ek.sz := by rw [← Array.length_toList, hzc, EK.cells_length]
  have hlk : LOk P β Z s w a ⟨dst, .call ⟨.builtin .clear, #[x], #[T]⟩, type, pos, after, guard⟩ k := by
    have hrun : ∀ w', (Builtin.clear_ #[T] type #[SV.den β (.a (.c (.sl id ek.sz lo len cap)))]).run P w = .ok (.tuple #[]) w' →
        (execOp a.eval ⟨dst, .call ⟨.builtin .clear, #[x], #[T]⟩, type, pos, after, guard⟩).run P w = .ok (.value (SV.u.den β)) w' := by
      intro w' hr
      simp only [SV.den] at hr
      simp [execOp, resolve, invoke, builtin, hex, hr, SV.den]
    have hok := hs.obj _ _ hl
    by_cases h0 : len = 0
    · subst h0
      have hr : (Builtin.clear_ #[T] type #[SV.den β (.a (.c (.sl id ek.sz lo 0 cap)))]).run P w = .ok (.tuple #[]) w := by
        simp only [SV.den, SA.den, SC.den]
        cases β id with
        | none => simp [Builtin.clear_, run_underlying hu]
        | some y => simp [Builtin.clear_, run_underlying hu]
      have e : xs.take lo ++ List.replicate 0 ek.dflt ++ xs.drop (lo + 0) = xs := by simp
      rw [e] at hk
      refine ⟨_, w, .u, β, fp, ⟨s.fr, upd s.hp id _, s.nx⟩, hrun _ hr, .inl rfl, fun _ _ => rfl, Ext.refl _ _, rfl, Nat.le_refl _, ?_, (by intro c hc; cases hc), hk⟩
      exact hs.put (w' := w) hl (fun _ _ => rfl) rfl hok trivial
    cases hb : β id with
    | none =>
      rw [hb] at hok
      obtain ⟨rfl, _⟩ := hok
      simp at hle
      omega
    | some x' =>
      rw [hb] at hok
      obtain ⟨hsp, hfp, pre, post, hh, hpre, hpost⟩ := hok
      have hml2 : lo * ek.sz + len * ek.sz ≤ (flat ek xs).length := by
        rw [flat_length, ← Nat.add_mul]; exact Nat.mul_le_mul_right _ hle
      have e2 : (flat ek (List.replicate len ek.dflt)).length = len * ek.sz := by rw [flat_length, List.length_replicate]
      have hst := run_storeCells_at P x'.block (x'.off + lo * ek.sz) E (flat ek (List.replicate len ek.dflt)) 0 (pre ++ flat ek xs ++ post).toArray w hh
        (by simp only [Nat.add_zero, e2, List.size_toArray, List.length_append]; omega) (flat_one ek _)
      simp only [Nat.add_zero] at hst
      have hzero : (Builtin.zeroCells z.cells len).toList = flat ek (List.replicate len ek.dflt) := by
        rw [← made_flat ek z.cells hzc]
        unfold Builtin.zeroCells madeCells
        rw [hzsz]
      have hzv : ∀ w, (zeroValue E).run P w = .ok z w := by intro w; simp [zeroValue, typeInfo, hi, hz]
      have hr : (Builtin.clear_ #[T] type #[SV.den β (.a (.c (.sl id ek.sz lo len cap)))]).run P w = .ok (.tuple #[]) (w.setRow x'.block (pre ++ flat ek (xs.take lo ++ List.replicate len ek.dflt ++ xs.drop (lo + len)) ++ post).toArray) := by
        obtain ⟨m, rfl⟩ : ∃ m, len = m + 1 := ⟨len - 1, by omega⟩
        simp only [SV.den, SA.den, SC.den, hb, Option.map_some, add_eq hsp]
        have e1 : (w.setRow x'.block ((pre ++ flat ek xs ++ post).take (x'.off + lo * ek.sz) ++ flat ek (List.replicate (m + 1) ek.dflt) ++ (pre ++ flat ek xs ++ post).drop (x'.off + lo * ek.sz + (flat ek (List.replicate (m + 1) ek.dflt)).length)).toArray) =
            (w.setRow x'.block (pre ++ flat ek (xs.take lo ++ List.replicate (m + 1) ek.dflt ++ xs.drop (lo + (m + 1))) ++ post).toArray) := by
          rw [e2, take_app pre (flat ek xs) post _ (lo * ek.sz) (by omega) (by omega), drop_app pre (flat ek xs) post _ (lo * ek.sz + (m + 1) * ek.sz) (by omega) hml2]
          congr 2
          rw [flat_append, flat_append]
          have l1 : flat ek (xs.take lo) = (flat ek xs).take (lo * ek.sz) := by
            have e3 : flat ek xs = flat ek (xs.take lo) ++ flat ek (xs.drop lo) := by rw [← flat_append, List.take_append_drop]
            have e4 : (flat ek (xs.take lo)).length = lo * ek.sz := by rw [flat_length, List.length_take, Nat.min_eq_left (by omega)]
            rw [e3, ← e4, List.take_left]
          have l2 : flat ek (xs.drop (lo + (m + 1))) = (flat ek xs).drop (lo * ek.sz + (m + 1) * ek.sz) := by
            have e3 : flat ek xs = flat ek (xs.take (lo + (m + 1))) ++ flat ek (xs.drop (lo + (m + 1))) := by rw [← flat_append, List.take_append_drop]
            have e4 : (flat ek (xs.take (lo + (m + 1)))).length = lo * ek.sz + (m + 1) * ek.sz := by rw [flat_length, List.length_take, Nat.min_eq_left hle, Nat.add_mul]
            rw [e3, ← e4, List.drop_left]
          rw [l1, l2]
          simp [List.append_assoc]
        rw [← e1]
        simp [Builtin.clear_, run_underlying hu, hzv, hzero, hst]
      refine l_put2 (v := .u) (ob' := .arr true E ek (xs.take lo ++ List.replicate len ek.dflt ++ xs.drop (lo + len)) sp) hs hl hfp (hrun _ hr) ?_ trivial (by intro c hc; cases hc) hk
      rw [hb]
      refine ⟨hsp, hfp, pre, post, ?_, hpre, hpost⟩
      rw [setRow_heap w _ _ _ E _ hh]
  obtain ⟨r, w', v, β', fp', s', R⟩ := hlk
  unfold Oper.wp
  rw [R.run]
  have := hn v w' β' Z fp' s' ⟨R.env, R.ext, fun _ h => h, R.fr, R.nx, R.sat, R.lt⟩ R.go
  rcases R.val with rfl | ⟨rfl, rfl⟩
  · exact this
  · exact this

/-- A list of one's own, of which the end is forgotten. -/
theorem HSat.short {β : Env} {Z : Nat → Prop} {fp : Nat → Nat → Prop} {w : World} {id E sp n : Nat} {ek : EK} {xs ys : List ek.ty} (hs : HSat β Z fp ⟨[], [(id, .arr true E ek (xs ++ ys) sp)], n⟩ w) :
    HSat β Z fp ⟨[], [(id, .arr true E ek xs (ys.length + sp))], n⟩ w := by
  have hl : look [(id, SO.arr true E ek (xs ++ ys) sp)] id = some (.arr true E ek (xs ++ ys) sp) := by rw [look_cons, if_pos rfl]
  have := hs.put (o' := .arr true E ek xs (ys.length + sp)) hl (w' := w) (fun _ _ => rfl) rfl ?_ trivial
  · rw [upd_cons, if_pos rfl] at this
    exact this
  · have hok := hs.obj _ _ hl
    cases hb : β id with
    | none =>
      rw [hb] at hok
      obtain ⟨h1, h2⟩ := hok
      have h3 := List.append_eq_nil_iff.1 h1
      exact ⟨h3.1, by rw [h3.2, h2]; rfl⟩
    | some x' =>
      rw [hb] at hok
      obtain ⟨hsp, hfp, pre, post, hh, hpre, hpost⟩ := hok
      refine ⟨hsp, hfp, pre, flat ek ys ++ post, ?_, hpre, ?_⟩
      · rw [hh, flat_append]; simp [List.append_assoc]
      · rw [List.length_append, flat_length, Nat.add_mul]; omega

/-- A contract of which the end of a list is forgotten. -/
theorem Ct.short {f : Nat} {args : List SV} {ex : List Value} {hp : List (Nat × SO)} {m : Nat} {p q : SV → S → Prop} (h : Ct P f args ex hp m p)
    (hpq : ∀ v s, p v s → ∃ (id E sp : Nat) (ek : EK) (xs ys : List ek.ty), s.hp = [(id, .arr true E ek (xs ++ ys) sp)] ∧ q v ⟨s.fr, [(id, .arr true E ek xs (ys.length + sp))], s.nx⟩) : Ct P f args ex hp m q :=
  fun β Z fp w hs => (h β Z fp w hs).mono fun e w' ⟨v, β', Z', fp', s', h1, h2, h3⟩ => by
    obtain ⟨id, E, sp, ek, xs, ys, e1, h4⟩ := hpq v s' h3
    have hsat := h2.sat
    rw [e1] at hsat
    exact ⟨v, β', Z', fp', (⟨s'.fr, [(id, .arr true E ek xs (ys.length + sp))], s'.nx⟩ : S), h1, ⟨h2.env, h2.ext, h2.zz, h2.fr, h2.nx, HSat.short hsat, h2.lt⟩, h4⟩
end
end Go.Fw

/-
  A range over a function: the call of yield; the statement.
-/
namespace Go.Fw
open Go

/-- The loop's record. -/
def loopO (l : Nat) (r : Loop) : SO := .gen fun oa _ fp w => oa = some ⟨l, 0, none⟩ ∧ fp l ∧ w.heap[l]? = some (.loop r)
/-- The block of the calls that its rounds have deferred: none. -/
def markO (D : Nat) : SO := .gen fun oa _ fp w => oa = some ⟨D, 0, none⟩ ∧ fp D ∧ w.heap[D]? = some (.deferred (some []))

section
variable {P : Program} {ty : List (Nat × STy)} {β : Env} {Z : Nat → Prop} {fp : Nat → Nat → Prop} {s : S} {w : World}

theorem loop_at (hs : HSat β Z fp s w) {id l : Nat} {r : Loop} (hl : look s.hp id = some (loopO l r)) : β id = some ⟨l, 0, none⟩ ∧ fp id l ∧ w.heap[l]? = some (.loop r) := (hs.obj _ _ hl).1
theorem mark_at (hs : HSat β Z fp s w) {id D : Nat} (hl : look s.hp id = some (markO D)) : β id = some ⟨D, 0, none⟩ ∧ fp id D ∧ w.heap[D]? = some (.deferred (some [])) := (hs.obj _ _ hl).1

theorem loopO_ok {oa : Option Addr} {fp : Nat → Prop} {l : Nat} {r : Loop} (h1 : oa = some ⟨l, 0, none⟩) (h2 : fp l) (h3 : w.heap[l]? = some (.loop r)) : (loopO l r).ok β Z fp w oa :=
  ⟨⟨h1, h2, h3⟩, fun Z' w' _ hw => ⟨h1, h2, by rw [hw l (.inr h2)]; exact h3⟩⟩
theorem markO_ok {oa : Option Addr} {fp : Nat → Prop} {D : Nat} (h1 : oa = some ⟨D, 0, none⟩) (h2 : fp D) (h3 : w.heap[D]? = some (.deferred (some []))) : (markO D).ok β Z fp w oa :=
  ⟨⟨h1, h2, h3⟩, fun Z' w' _ hw => ⟨h1, h2, by rw [hw D (.inr h2)]; exact h3⟩⟩

theorem putObj_other {l : Nat} {o : Obj} {b : Nat} (h : b ≠ l) : (w.putObj l o).heap[b]? = w.heap[b]? := World.putObj_heap_other h
theorem putObj_at {l : Nat} {o o' : Obj} (h : w.heap[l]? = some o') : (w.putObj l o).heap[l]? = some o := by
  have hl := (Array.getElem?_eq_some_iff.1 h).1
  simp [World.putObj, hl]

theorem HSat.setLoop (hs : HSat β Z fp s w) {id l : Nat} {r : Loop} (r' : Loop) (hl : look s.hp id = some (loopO l r)) : HSat β Z fp ⟨s.fr, upd s.hp id (loopO l r'), s.nx⟩ (w.putObj l (.loop r')) := by
  obtain ⟨h1, h2, h3⟩ := loop_at hs hl
  refine hs.put hl (fun b hb => putObj_other (fun e => hb (e ▸ h2))) (by simp [World.putObj]) ?_ trivial
  exact loopO_ok h1 h2 (putObj_at h3)

theorem wpIn_eqC {F : Fence} {n : Nat} {c c' : Code} {Q : Exit → Act → World → Prop} {a : Act} {w : World} (h : c = c') (hw : c'.wpIn F n P Q a w) : c.wpIn F n P Q a w := h ▸ hw

theorem regionR (hty : TyOk P ty) {C : Ctx} {E : Env → Prop} (hE : EOk C E) {ro : Option Nat} {n i : Nat} {ops : Array Oper} {s : S} {k : S → Prop} {a : Act} {w : World} {Q : Exit → Act → World → Prop}
    (h : runOps P ty C.N E ops.toList ops.toList s k) (hs : Sat C s a w) (hQ : ∀ s a w, k s → Sat C s a w → Q .normal a w) : (Code.region i ops false).wpIn (fnc ro) n P Q a w := by
  refine wpIn_region_list ?_
  have := runOps_sound hty hE ro n ops.toList ops.toList s k a w h hs hQ
  rw [Array.toArray_toList] at this
  exact this

/-- The call of yield: a round of the loop. -/
theorem yieldX (hty : TyOk P ty) {N Nr : Nat} {E : Env → Prop} {k : S → SV → Prop} {f x y : Operand} {ats : Array TypeId} {dst : Option Nat} {type : TypeId} {pos : String} {after : Array Edge} {guard : Option (Nat × Bool)}
    {id l : Nat} {r : Loop} {n m : Int} {p q i1 i2 i3 b : Nat} {ops1 ops2 ops3 : Array Oper} {fr0 : List (Nat × SV)} {β1 : Env} {n1 : Nat}
    (hf : ev s.fr f = some (.c (.v (.func (.yield l) #[] #[])))) (hx : ev s.fr x = some (.i n)) (hy : ev s.fr y = some (.i m))
    (hl : look s.hp id = some (loopO l r)) (hrd : r.state = .ready) (hpd : r.pending = none) (hps : r.params = #[p, q]) (has : r.assign = .seq (.region i1 ops1 false) (.region i2 ops2 false)) (hbo : r.body = .block b (.region i3 ops3 false))
    (hE : ∀ β, E β → ∀ id, id < n1 → β id = β1 id) (hfr : ∀ t v, look fr0 t = some v → r.tmps[t]? = some (v.den β1) ∧ v.lt n1) (hsz : r.tmps.size = Nr) (hn1 : n1 ≤ s.nx) (hp : p < Nr) (hq : q < Nr)
    (hgo : runOps P ty Nr AnyE ops1.toList ops1.toList ⟨upd (upd fr0 p (.i n)) q (.i m), s.hp, s.nx⟩ fun s1 => runOps P ty Nr AnyE ops2.toList ops2.toList s1 fun s2 => Ob (s2.hp = s.hp ∧ s2.nx = s.nx)
      (updK s.hp id (loopO l { r with state := .busy }) fun hpb => runOps P ty Nr AnyE ops3.toList ops3.toList ⟨s2.fr, hpb, s.nx⟩ fun s3 => Ob (look s3.hp id = some (loopO l { r with state := .busy }))
        (updK s3.hp id (loopO l r) fun hpe => k ⟨s.fr, hpe, s3.nx⟩ (.b true)))) :
    YieldX P N E ⟨dst, .call ⟨.value f, #[x, y], ats⟩, type, pos, after, guard⟩ s k := by
  unfold YieldX
  intro ro n' β Z fp w a df hEβ hs hfs next Q hn
  obtain ⟨hb, hfl, hw⟩ := loop_at hs hl
  obtain ⟨hef, _⟩ := ev_den hfs hf
  obtain ⟨hex, _⟩ := ev_den hfs hx
  obtain ⟨hey, _⟩ := ev_den hfs hy
  refine ⟨fun _ _ => trivial, ?_⟩
  rw [Oper.semAt_eq _ _ _ (fun c h => by cases h)]
  have hrun : (execOp a.eval ⟨dst, .call ⟨.value f, #[x, y], ats⟩, type, pos, after, guard⟩).run P w = .ok (.round l r.fn ((r.tmps.setIfInBounds p (.int .i64 n)).setIfInBounds q (.int .i64 m)) r.assign r.body) w := by
    have hy := run_yield (P := P) (args := #[.int .i64 n, .int .i64 m]) hw (by rw [hps]; rfl)
    simp only [SV.den, SA.den, SC.den] at hef hex hey
    simp [execOp, resolve, invoke, Deferred.ofValue, hef, hex, hey, hy, hps]
  rw [hrun]
  refine ⟨fun h => (by cases h), roundIn_of_wpIn trivial ?_⟩
  rw [has]
  let C : Ctx := ⟨w, Z, β, s.nx, Nr, []⟩
  have hE1 : EOk C AnyE := fun _ _ => trivial
  have hsat : Sat C ⟨upd (upd fr0 p (.i n)) q (.i m), s.hp, s.nx⟩ { tmps := (r.tmps.setIfInBounds p (.int .i64 n)).setIfInBounds q (.int .i64 m), defers := [] } w := by
    refine ⟨β, Z, fp, ⟨hs.zlt, hs.flt, hs.sep, hs.obj, hs.lto⟩, ⟨?_, ?_, by simp [hsz, C], rfl⟩, ⟨fun _ h => h, Ext.refl _ _, fun _ _ => rfl, Nat.le_refl _⟩⟩
    · intro t v ht
      rw [look_upd] at ht
      simp only [Array.getElem?_setIfInBounds, Array.size_setIfInBounds]
      split at ht
      · rename_i e; subst e; cases ht; rw [if_pos rfl, if_pos (by omega)]; rfl
      · rename_i e
        rw [if_neg e]
        rw [look_upd] at ht
        split at ht
        · rename_i e; subst e; cases ht; rw [if_pos rfl, if_pos (by omega)]; rfl
        · rename_i e
          rw [if_neg e]
          obtain ⟨h1, h2⟩ := hfr t v ht
          rw [h1, SV.den_congr (fun id hid => (hE β hEβ id hid).symm) h2]
    · intro t v ht
      rw [look_upd] at ht
      split at ht
      · cases ht; trivial
      · rw [look_upd] at ht
        split at ht
        · cases ht; trivial
        · exact SV.lt_mono hn1 (hfr t v ht).2
  refine wpIn_seq (regionR hty (C := C) hE1 hgo hsat ?_)
  intro s1 a1 w1 hk1 hs1
  refine regionR hty (C := C) hE1 hk1 hs1 ?_
  rintro s2 a2 w2 ⟨⟨he1, he2⟩, hk2⟩ ⟨β2, Z2, fp2, hh2, hf2, hc2⟩
  have hl2 : look s2.hp id = some (loopO l r) := by rw [he1]; exact hl
  obtain ⟨_, _, hw2⟩ := loop_at hh2 hl2
  refine ⟨_, run_beginRound hw2 hrd, ?_⟩
  have hh3 := hh2.setLoop { r with state := .busy } hl2
  rw [updK_iff] at hk2
  rw [he1] at hh3
  have hsz2 : ∀ b : Nat, b < w2.heap.size → b < (w2.putObj l (.loop { r with state := .busy })).heap.size := fun b hb => by simpa [World.putObj] using hb
  have hs3 : Sat C ⟨s2.fr, upd s.hp id (loopO l { r with state := .busy }), s.nx⟩ a2 (w2.putObj l (.loop { r with state := .busy })) := by
    rw [he2] at hh3
    refine ⟨β2, Z2, fp2, hh3, ⟨hf2.tmp, fun t v ht => by rw [← he2]; exact hf2.lt t v ht, hf2.size, hf2.defers⟩, ⟨hc2.zz, ?_, hc2.env, Nat.le_refl _⟩⟩
    refine ⟨hc2.ext.os, hc2.ext.tape, hc2.ext.output, by simpa [World.putObj] using hc2.ext.size, fun b' hzb => ?_⟩
    rw [putObj_other (fun e => by subst e; exact (hs.flt _ _ hl _ hfl).2 hzb)]
    exact hc2.ext.block b' hzb
  refine wpIn_eqC hbo (wpIn_block (regionR hty (C := C) hE1 hk2 hs3 ?_))
  rintro s4 a4 w4 ⟨hl4, hk4⟩ ⟨β4, Z4, fp4, hh4, hf4, hc4⟩
  obtain ⟨hb4, hfl4, hw4⟩ := loop_at hh4 hl4
  refine ⟨_, _, run_endRound none hw4, ?_⟩
  rw [updK_iff] at hk4
  have hh5 := hh4.setLoop r hl4
  have er : ({ { r with state := .busy } with state := if (none : Option Code).isNone then .ready else .done, pending := none } : Loop) = r := by
    obtain ⟨st, pe, r3, r4, r5, r6, r7, r8⟩ := r
    simp only at hrd hpd
    subst hrd hpd
    rfl
  rw [er]
  refine hn (.b true) _ β4 Z4 fp4 ⟨s.fr, upd s4.hp id (loopO l r), s4.nx⟩ ⟨hc4.env, ?_, hc4.zz, rfl, hc4.nx, ⟨hh5.zlt, hh5.flt, hh5.sep, hh5.obj, hh5.lto⟩, trivial⟩ hk4
  refine ⟨hc4.ext.os, hc4.ext.tape, hc4.ext.output, by simpa [World.putObj] using hc4.ext.size, fun b' hzb => ?_⟩
  rw [putObj_other (fun e => by subst e; exact (hh4.flt _ _ hl4 _ hfl4).2 (hc4.zz _ hzb))]
  exact hc4.ext.block b' hzb
end
end Go.Fw

/-
  A function that ranges over a function, from its text.
-/
namespace Go.Fw
open Go

/-- What is no longer looked at. -/
def junkO : SO := .gen fun _ _ _ _ => True
theorem junkO_ok {β : Env} {Z : Nat → Prop} {fp : Nat → Prop} {w : World} {oa : Option Addr} : junkO.ok β Z fp w oa := ⟨trivial, fun _ _ _ _ => trivial⟩

/-- The objects from of old lie where they lay. -/
def EIt (n1 : Nat) (β1 : Env) : Env → Prop := fun β => ∀ id, id < n1 → β id = β1 id

/-- The loop's record, as it stands between the rounds. -/
structure RecOk (N : Nat) (fr : List (Nat × SV)) (β1 : Env) (n1 p q i1 : Nat) (ops1 : Array Oper) (i2 : Nat) (ops2 : Array Oper) (b i3 : Nat) (ops3 : Array Oper) (r : Loop) : Prop where
  rd : r.state = .ready
  pd : r.pending = none
  ps : r.params = #[p, q]
  has : r.assign = .seq (.region i1 ops1 false) (.region i2 ops2 false)
  bo : r.body = .block b (.region i3 ops3 false)
  sz : r.tmps.size = N
  fr : ∀ t v, look fr t = some v → r.tmps[t]? = some (v.den β1) ∧ v.lt n1

theorem HSat.junk {β : Env} {Z : Nat → Prop} {fp : Nat → Nat → Prop} {s : S} {w : World} (hs : HSat β Z fp s w) {id l : Nat} {o : SO} (x : Obj) (hl : look s.hp id = some o) (hfl : fp id l) : HSat β Z fp ⟨s.fr, upd s.hp id junkO, s.nx⟩ (w.putObj l x) :=
  hs.put hl (fun b hb => putObj_other (fun e => hb (e ▸ hfl))) (by simp [World.putObj]) junkO_ok trivial

theorem res_end {P : Program} {ty : List (Nat × STy)} (hty : TyOk P ty) {C : Ctx} {fn : Func} {post : SV → S → Prop} {s : S} {a : Act} {w' : World} (hr : retK ty fn.results.toList post s) (hsat' : Sat C s a w') :
    ∃ v β' Z' fp', (results fn a.tmps).run P w' = .ok (v.den β') w' ∧ HSat β' Z' fp' s w' ∧ Cok C β' Z' s w' ∧ v.lt s.nx ∧ post v s := by
  obtain ⟨β', Z', fp', hs', hf', hc'⟩ := hsat'
  obtain ⟨r, hk, hl, hrun⟩ := resK_sound hty hs' hf' _ _ hr
  have hrun2 : (results fn a.tmps).run P w' = .ok (if h : (r.map (SA.den β')).toArray.size = 1 then (r.map (SA.den β')).toArray[0] else .tuple (r.map (SA.den β')).toArray) w' := by
    have e1 : results fn a.tmps = (do let vs ← fn.results.mapM (resOne a.tmps); pure (if h : vs.size = 1 then vs[0] else .tuple vs)) := rfl
    rw [e1, Sem.run_bind, Array.mapM_eq_mapM_toList]
    simp only [Sem.run_map, hrun, Result.andThen_ok, Sem.run_pure]
  match r, hk, hl, hrun2 with
  | [x], hk, hl, hrun2 => exact ⟨.a x, β', Z', fp', by simpa [SV.den] using hrun2, hs', hc', hl x (by simp), hk⟩
  | [], hk, hl, hrun2 => exact ⟨.tup [], β', Z', fp', by simpa [SV.den] using hrun2, hs', hc', hl, hk⟩
  | x :: y :: r, hk, hl, hrun2 =>
    refine ⟨.tup (x :: y :: r), β', Z', fp', ?_, hs', hc', hl, hk⟩
    rw [dif_neg (by simp)] at hrun2
    exact hrun2

theorem sat_enter {β : Env} {Z : Nat → Prop} {fp : Nat → Nat → Prop} {hp : List (Nat × SO)} {nx nt : Nat} {w : World} (avs : List SV) (hs : HSat β Z fp ⟨[], hp, nx⟩ w) (hlt : ∀ v ∈ avs, SV.lt nx v) (hn : avs.length ≤ nt) :
    Sat ⟨w, Z, β, nx, nt, []⟩ ⟨enumL 0 avs, hp, nx⟩ { tmps := (avs.map (SV.den β)).toArray ++ Array.replicate (nt - (avs.map (SV.den β)).toArray.size) undef, defers := [] } w := by
  refine ⟨β, Z, fp, ⟨hs.zlt, hs.flt, hs.sep, hs.obj, hs.lto⟩, ⟨?_, ?_, ?_, rfl⟩, ⟨fun _ h => h, Ext.refl _ _, fun _ _ => rfl, Nat.le_refl _⟩⟩
  · intro t v ht
    obtain ⟨_, h2⟩ := look_enumL avs 0 t v ht
    rw [Nat.sub_zero] at h2
    have hlt' : t < avs.length := (List.getElem?_eq_some_iff.1 h2).1
    rw [Array.getElem?_append_left (by simpa using hlt')]
    simp [h2]
  · intro t v ht
    obtain ⟨_, h2⟩ := look_enumL avs 0 t v ht
    exact hlt v (List.mem_of_getElem? h2)
  · show _ = nt
    simp; omega

/-- A call, by its text; what is asked of the addresses may be used. -/
theorem entryG {P : Program} {ty : List (Nat × STy)} (hty : TyOk P ty) {f : FuncId} {fn : Func} {c : Code} {R : Ending → World → Prop} (avs : List SV) (hp : List (Nat × SO)) (nx n : Nat) (live : List Nat) (post : SV → S → Prop) (E : Env → Prop)
    {β : Env} {Z : Nat → Prop} {fp : Nat → Nat → Prop} {w : World} (hf : P.funcs[f]? = some fn) (hb : fn.body = some c) (hs : HSat β Z fp ⟨[], hp, nx⟩ w) (hlt : ∀ v ∈ avs, SV.lt nx v) (hn : avs.length ≤ fn.ntmps)
    (hE : ∀ β' : Env, (∀ id, id < nx → β' id = β id) → E β')
    (hex : exec P ty fn.ntmps E nx n live c (retK ty fn.results.toList post) (retK ty fn.results.toList post) (fun _ _ => False) ⟨enumL 0 avs, hp, nx⟩)
    (hR : ∀ v w' β' Z' fp' s', Nxt β Z ⟨[], hp, nx⟩ w v w' β' Z' fp' ⟨[], s'.hp, s'.nx⟩ → post v s' → R (.returned (v.den β')) w') :
    Calls P f (avs.map (SV.den β)).toArray w R := by
  refine calls_of_wp hf hb ?_
  have hmain := exec_sound hty (C := ⟨w, Z, β, nx, fn.ntmps, []⟩) (E := E) hE c _ _ _ _ _ _ hex (sat_enter avs hs hlt hn)
  have hres : ∀ s a w', retK ty fn.results.toList post s → Sat ⟨w, Z, β, nx, fn.ntmps, []⟩ s a w' → a.defers = [] ∧ ∃ v, (results fn a.tmps).run P w' = .ok v w' ∧ R (.returned v) w' := by
    intro s a w' hr hsat'
    obtain ⟨v, β', Z', fp', h1, h2, h3, h4, h5⟩ := res_end hty hr hsat'
    obtain ⟨_, _, _, _, hf', _⟩ := hsat'
    exact ⟨hf'.defers, _, h1, hR v w' β' Z' fp' s ⟨h3.env, h3.ext, h3.zz, rfl, h3.nx, ⟨h2.zlt, h2.flt, h2.sep, h2.obj, h2.lto⟩, h4⟩ h5⟩
  refine wp_mono hmain ?_
  intro e a w' hq
  cases e with
  | normal => obtain ⟨s, hr, hs'⟩ := hq; exact hres s a w' hr hs'
  | ret => obtain ⟨s, hr, hs'⟩ := hq; exact hres s a w' hr hs'
  | exit i => obtain ⟨s, hr, _⟩ := hq; exact hr.elim
  | goto l => exact hq.elim
  | panic ch => exact hq.elim
  | outgrown => exact hq.elim

theorem ptrs_mem {v : SV} : ∀ {l : List (Nat × Nat)}, v ∈ ptrs l → ∃ c ∈ l, v = .c (.ptr c.1 c.2)
  | [], h => by cases h
  | c :: l, h => by
    simp only [ptrs, List.mem_cons] at h
    rcases h with rfl | h
    · exact ⟨c, by simp, rfl⟩
    · obtain ⟨c', h1, h2⟩ := ptrs_mem h
      exact ⟨c', by simp [h1], h2⟩
theorem ptrs_len : ∀ l : List (Nat × Nat), (ptrs l).length = l.length
  | [] => rfl
  | c :: l => by simp [ptrs, ptrs_len l]

/-- The statement, from its state on. -/
theorem range_at {P : Program} {ty : List (Nat × STy)} (hty : TyOk P ty) {C : Ctx} (hdf : C.df = []) {s : S} {g p q i1 i2 b i3 : Nat} {ops1 ops2 ops3 : Array Oper} {fi : Nat} {fni : Func} {ci : Code} {caps : List (Nat × Nat)}
    (hfi : P.funcs[fi]? = some fni) (hci : fni.body = some ci) (hcf : ∀ args w, (callFunc fi args).run P w = .ok (.enter fi args) w) (hg : look s.fr g = some (.c (.fn fi caps))) (hnt : 1 + caps.length ≤ fni.ntmps) (hcl : ∀ c ∈ caps, c.1 < s.nx)
    (ni : Nat) (livei : List Nat) {krest : Nat → S → Prop}
    (h : ∀ (l D : Nat) (r : Loop) (β1 : Env), RecOk C.N s.fr β1 s.nx p q i1 ops1 i2 ops2 b i3 ops3 r → exec P ty fni.ntmps (EIt (s.nx + 2) β1) (s.nx + 2) ni livei ci
      (retK ty fni.results.toList fun _ s2 => Ob (look s2.hp (s.nx + 1) = some (loopO l r)) (updK s2.hp (s.nx + 1) junkO fun hp => krest D ⟨s.fr, hp, s2.nx⟩))
      (retK ty fni.results.toList fun _ s2 => Ob (look s2.hp (s.nx + 1) = some (loopO l r)) (updK s2.hp (s.nx + 1) junkO fun hp => krest D ⟨s.fr, hp, s2.nx⟩)) (fun _ _ => False)
      ⟨enumL 0 (appN [.c (.v (.func (.yield l) #[] #[]))] (ptrs caps)), (s.nx + 1, loopO l r) :: (s.nx, markO D) :: s.hp, s.nx + 2⟩)
    {a : Act} {w : World} (hs : Sat C s a w) {Q : Exit → Act → World → Prop}
    (hQ : ∀ D s' a' w', krest D s' → Sat { C with df := [⟨.collected D, #[]⟩] } s' a' w' → Q .normal a' w') :
    (Code.rangeFunc (.tmp g) #[p, q] (.seq (.region i1 ops1 false) (.region i2 ops2 false)) (.block b (.region i3 ops3 false))).wpIn Fence.wide 0 P Q a w := by
  obtain ⟨β, Z, fp, hh, hf, hc⟩ := hs
  refine wpIn_rangeFunc (fun fnid _ => ?_)
  let D := w.heap.size
  let w0 := w.alloc (.deferred (some []))
  let r : Loop := { state := .ready, pending := none, fn := fnid, tmps := a.tmps, params := #[p, q], assign := .seq (.region i1 ops1 false) (.region i2 ops2 false), body := .block b (.region i3 ops3 false), defers := D }
  let w1 := w0.alloc (.loop r)
  let β1 := (β.add s.nx (some ⟨D, 0, none⟩)).add (s.nx + 1) (some ⟨D + 1, 0, none⟩)
  have hβ : ∀ id, id < s.nx → β1 id = β id := fun id hid => (Env.add_lt id (by omega)).trans (Env.add_lt id hid)
  have hsz0 : w0.heap.size = D + 1 := by simp [w0, D]
  have hh0 : HSat (β.add s.nx (some ⟨D, 0, none⟩)) Z (fun i => if i = s.nx then (fun b => b = D) else fp i) ⟨[], (s.nx, markO D) :: s.hp, s.nx + 1⟩ w0 := by
    have := hh.add (o := markO D) (w' := w0) (x := some ⟨D, 0, none⟩) (q := fun b => b = D) (fun b hb => heap_alloc_lt hb) (by omega) (by rintro b rfl; constructor <;> omega) (markO_ok rfl rfl (heap_alloc_at _)) trivial
    exact ⟨this.zlt, this.flt, this.sep, this.obj, this.lto⟩
  have hh1 : HSat β1 Z (fun i => if i = s.nx + 1 then (fun b => b = D + 1) else if i = s.nx then (fun b => b = D) else fp i) ⟨[], (s.nx + 1, loopO (D + 1) r) :: (s.nx, markO D) :: s.hp, s.nx + 2⟩ w1 := by
    have := hh0.add (o := loopO (D + 1) r) (w' := w1) (x := some ⟨D + 1, 0, none⟩) (q := fun b => b = D + 1) (fun b hb => heap_alloc_lt hb) (by simp [w1]) (by rintro b rfl; simp [w1, hsz0]) (loopO_ok rfl rfl (by
      have := heap_alloc_at (w := w0) (.loop r)
      rw [hsz0] at this
      exact this)) trivial
    exact this
  obtain ⟨hev, _⟩ := ev_den hf (x := .tmp g) hg
  have hrec : RecOk C.N s.fr β1 s.nx p q i1 ops1 i2 ops2 b i3 ops3 r := by
    refine ⟨rfl, rfl, rfl, rfl, rfl, hf.size, fun t v ht => ?_⟩
    have hl := hf.lt t v ht
    exact ⟨by rw [SV.den_congr hβ hl]; exact hf.tmp t v ht, hl⟩
  have hcall := h (D + 1) D r β1 hrec
  have hargs : ((appN [SV.c (.v (.func (.yield (D + 1)) #[] #[]))] (ptrs caps)).map (SV.den β1)).toArray = #[Value.func (.yield (D + 1)) #[] #[]] ++ (caps.map fun p => Value.pointer ((β p.1).map (·.add p.2))).toArray := by
    apply Array.ext'
    have : (caps.map fun p => Value.pointer ((β1 p.1).map (·.add p.2))) = caps.map fun p => Value.pointer ((β p.1).map (·.add p.2)) := by
      apply List.map_congr_left
      intro c hcm
      rw [hβ _ (hcl c hcm)]
    simp [appN_eq, ptrs_den, this, SV.den, SA.den, SC.den]
  refine ⟨D + 1, [⟨.collected D, #[]⟩], w1, ⟨.fn (.func fi) (caps.map fun p => Value.pointer ((β p.1).map (·.add p.2))).toArray, #[Value.func (.yield (D + 1)) #[] #[]]⟩, w1, fi, #[Value.func (.yield (D + 1)) #[] #[]] ++ (caps.map fun p => Value.pointer ((β p.1).map (·.add p.2))).toArray, w1, ?_, ?_, fun _ _ => trivial, ?_, (fun h => by cases h), ?_⟩
  · exact run_enterLoop_outer fnid a.tmps _ _ _
  · simp only [resolve, hev, SV.den, SA.den, SC.den, Deferred.ofValue, pure_bind]
    simp [Act.eval]
  · simp only [invoke]
    exact hcf _ _
  · rw [← hargs]
    refine callsIn_wide.2 (entryG hty _ _ (s.nx + 2) ni livei _ (EIt (s.nx + 2) β1) hfi hci hh1 ?_ ?_ (fun _ h => h) hcall ?_)
    · intro v hv
      rw [appN_eq] at hv
      simp only [List.cons_append, List.nil_append, List.mem_cons] at hv
      rcases hv with rfl | hv
      · trivial
      · obtain ⟨c, hcm, rfl⟩ := ptrs_mem hv
        have := hcl c hcm
        show c.1 < s.nx + 2
        omega
    · rw [appN_eq]
      have := ptrs_len caps
      simp [this]; omega
    · rintro v w' β' Z' fp' s2 hN ⟨hlo, hk⟩
      have hs2 := hN.sat
      obtain ⟨hb2, hfl2, hw2⟩ := loop_at (s := ⟨[], s2.hp, s2.nx⟩) hs2 hlo
      refine ⟨none, _, run_endLoop hw2 (by simp [r]), ?_⟩
      rw [updK_iff] at hk
      refine hQ D _ _ _ hk ?_
      have hh3 := hs2.junk (.loop { r with state := .exhausted }) hlo hfl2
      have hnx : s.nx ≤ s2.nx := by have := hN.nx; simp only at this; omega
      have henv : ∀ id, id < s.nx → β' id = β id := fun id hid => (hN.env id (by show id < s.nx + 2; omega)).trans (hβ id hid)
      refine ⟨β', Z', fp', ⟨hh3.zlt, hh3.flt, hh3.sep, hh3.obj, hh3.lto⟩, ⟨?_, ?_, hf.size, ?_⟩, ⟨?_, ?_, ?_, ?_⟩⟩
      · intro t v ht
        have hl := hf.lt t v ht
        rw [SV.den_congr henv hl]
        exact hf.tmp t v ht
      · intro t v ht
        exact SV.lt_mono hnx (hf.lt t v ht)
      · show _ ++ a.defers = _
        rw [hf.defers, hdf]
        rfl
      · exact fun b hb => hN.zz b (hc.zz b hb)
      · have e1 : Ext Z w w0 := Ext.alloc _ hh.zlt
        have e2 : Ext Z w0 w1 := Ext.alloc _ hh0.zlt
        have e3 := Ext.trans (Ext.trans e1 e2 (fun _ h => h)) hN.ext (fun _ h => h)
        have e4 := Ext.trans hc.ext e3 hc.zz
        refine ⟨e4.os, e4.tape, e4.output, by simpa [World.putObj] using e4.size, fun b' hzb => ?_⟩
        rw [putObj_other (fun e => by subst e; exact (hs2.flt _ _ hlo _ hfl2).2 (hN.zz _ (hc.zz _ hzb)))]
        exact e4.block b' hzb
      · exact fun id hid => (henv id (Nat.lt_of_lt_of_le hid hc.nx)).trans (hc.env id hid)
      · exact Nat.le_trans hc.nx hnx

/-- The end behind a range over a function: the mark is taken away. -/
def markK (ty : List (Nat × STy)) (rs : List ResultVar) (n0 mid D : Nat) (post : SV → S → Prop) (s : S) : Prop :=
  Ob (look s.hp mid = some (markO D)) (updK s.hp mid junkO fun hp => retK ty rs (Back n0 post) ⟨s.fr, hp, s.nx⟩)

/-- The call of yield. -/
theorem yieldR {P : Program} {ty : List (Nat × STy)} (hty : TyOk P ty) {N Nr : Nat} {k : S → SV → Prop} {f x y : Operand} {ats : Array TypeId} {dst : Option Nat} {type : TypeId} {pos : String} {after : Array Edge} {guard : Option (Nat × Bool)}
    {id l : Nat} {r : Loop} {n m : Int} {p q i1 i2 b i3 : Nat} {ops1 ops2 ops3 : Array Oper} {fr0 : List (Nat × SV)} {β1 : Env} {n1 n2 : Nat} {s : S} (hrec : RecOk Nr fr0 β1 n1 p q i1 ops1 i2 ops2 b i3 ops3 r)
    (hf : ev s.fr f = some (.c (.v (.func (.yield l) #[] #[])))) (hx : ev s.fr x = some (.i n)) (hy : ev s.fr y = some (.i m)) (hl : look s.hp id = some (loopO l r)) (hn : Nat.ble n1 n2 = true) (hn1 : Nat.ble n1 s.nx = true) (hp : Nat.blt p Nr = true) (hq : Nat.blt q Nr = true)
    (hgo : updK fr0 p (.i n) fun fr1 => updK fr1 q (.i m) fun fr2 => runOps P ty Nr AnyE ops1.toList ops1.toList ⟨fr2, s.hp, s.nx⟩ fun s1 => runOps P ty Nr AnyE ops2.toList ops2.toList s1 fun s2 => Ob (s2.hp = s.hp ∧ s2.nx = s.nx)
      (updK s.hp id (loopO l { r with state := .busy }) fun hpb => runOps P ty Nr AnyE ops3.toList ops3.toList ⟨s2.fr, hpb, s.nx⟩ fun s3 => Ob (look s3.hp id = some (loopO l { r with state := .busy }))
        (updK s3.hp id (loopO l r) fun hpe => k ⟨s.fr, hpe, s3.nx⟩ (.b true)))) :
    YieldX P N (EIt n2 β1) ⟨dst, .call ⟨.value f, #[x, y], ats⟩, type, pos, after, guard⟩ s k := by
  rw [updK_iff, updK_iff] at hgo
  rw [blt_iff, decide_eq_true_eq] at hp hq
  have hn := Nat.le_of_ble_eq_true hn
  exact yieldX hty hf hx hy hl hrec.rd hrec.pd hrec.ps hrec.has hrec.bo (fun β hβ id hid => hβ id (Nat.lt_of_lt_of_le hid hn)) hrec.fr hrec.sz (Nat.le_of_ble_eq_true hn1) hp hq hgo

end Go.Fw

/-
  A range over a function whose head stands in one part with the region before it; an own empty list handed on.
-/
namespace Go.Fw
open Go

theorem cutK {P : Program} {ty : List (Nat × STy)} (hty : TyOk P ty) {C : Ctx} (n : Nat) (live : List Nat) {K kr : S → Prop} {Q : Exit → Act → World → Prop} (hret : ∀ s a w, kr s → Sat C s a w → Q .ret a w) : ∀ (k : Nat) (c : Code) (s : S) (a : Act) (w : World),
    exec P ty C.N AnyE C.n0 n live (takeC k c) K kr (fun _ _ => False) s → Sat C s a w → (∀ s a w, K s → Sat C s a w → (dropC k c).wpIn Fence.wide 0 P Q a w) → c.wpIn Fence.wide 0 P Q a w
  | 0, c, s, a, w, h, hs, hk => hk s a w h hs
  | k + 1, c, s, a, w, h, hs, hk => by
    cases c <;> first
      | exact h.elim
      | skip
    rename_i x y
    refine wpIn_seq (wpIn_mono (wpIn_wide.2 (exec_sound hty (E := AnyE) (fun _ _ => trivial) x _ kr _ s a w h hs)) ?_)
    intro e a w hq
    cases e <;> first
      | (obtain ⟨s', hk', hs'⟩ := hq; exact cutK hty n live hret k y s' a w hk' hs' hk)
      | (obtain ⟨s', hk', hs'⟩ := hq; exact hret s' a w hk' hs')
      | (obtain ⟨s', hk', _⟩ := hq; exact hk'.elim)
      | exact hq.elim

theorem ctR2 {P : Program} {ty : List (Nat × STy)} (hty : TyOk P ty) {f : FuncId} {fn : Func} {c : Code} {avs : List SV} {hp : List (Nat × SO)} {nx : Nat} {post : SV → S → Prop}
    (hf : P.funcs[f]? = some fn) (hb : fn.body = some c) (hlt : ∀ v ∈ avs, SV.lt nx v) (hn : avs.length ≤ fn.ntmps) {fr : List (Nat × SV)} (hfr : fr = enumL 0 avs)
    (n : Nat) (live : List Nat) (k : Nat) {α : Type} (pat : α → S) (inv : α → Prop) {b0 g p q i1 i2 b i3 : Nat} {ops1 ops2 ops3 : Array Oper} {r8 rest : Code}
    (hdrop : dropC k c = .seq (.seq r8 (.block b0 (.rangeFunc (.tmp g) #[p, q] (.seq (.region i1 ops1 false) (.region i2 ops2 false)) (.block b (.region i3 ops3 false))))) rest)
    {fi : Nat} {fni : Func} {ci : Code} {caps : List (Nat × Nat)}
    (hfi : P.funcs[fi]? = some fni) (hci : fni.body = some ci) (hcf : ∀ args w, (callFunc fi args).run P w = .ok (.enter fi args) w) (hg : ∀ x, look (pat x).fr g = some (.c (.fn fi caps))) (hnt : 1 + caps.length ≤ fni.ntmps) (hcl : ∀ x, ∀ c ∈ caps, c.1 < (pat x).nx)
    (ni : Nat) (livei : List Nat)
    (hpre : exec P ty fn.ntmps AnyE nx n live (takeC k c) (fun s1 => exec P ty fn.ntmps AnyE nx n live r8 (fun s' => ∃ x ren, Sub nx ren (pat x) s' ∧ inv x) (retK ty fn.results.toList (Back nx post)) (fun _ _ => False) s1) (retK ty fn.results.toList (Back nx post)) (fun _ _ => False) ⟨fr, hp, nx⟩)
    (hmain : ∀ x, inv x → ∀ (l D : Nat) (r : Loop) (β1 : Env), RecOk fn.ntmps (pat x).fr β1 (pat x).nx p q i1 ops1 i2 ops2 b i3 ops3 r → exec P ty fni.ntmps (EIt ((pat x).nx + 2) β1) ((pat x).nx + 2) ni livei ci
      (retK ty fni.results.toList fun _ s2 => Ob (look s2.hp ((pat x).nx + 1) = some (loopO l r)) (updK s2.hp ((pat x).nx + 1) junkO fun hp => exec P ty fn.ntmps AnyE nx n live rest (markK ty fn.results.toList nx (pat x).nx D post) (markK ty fn.results.toList nx (pat x).nx D post) (fun _ _ => False) ⟨(pat x).fr, hp, s2.nx⟩))
      (retK ty fni.results.toList fun _ s2 => Ob (look s2.hp ((pat x).nx + 1) = some (loopO l r)) (updK s2.hp ((pat x).nx + 1) junkO fun hp => exec P ty fn.ntmps AnyE nx n live rest (markK ty fn.results.toList nx (pat x).nx D post) (markK ty fn.results.toList nx (pat x).nx D post) (fun _ _ => False) ⟨(pat x).fr, hp, s2.nx⟩)) (fun _ _ => False)
      ⟨enumL 0 (appN [.c (.v (.func (.yield l) #[] #[]))] (ptrs caps)), ((pat x).nx + 1, loopO l r) :: ((pat x).nx, markO D) :: (pat x).hp, (pat x).nx + 2⟩) :
    Ct P f avs [] hp nx post := by
  intro β Z fp w hs
  rw [List.append_nil]
  subst hfr
  refine callsIn_wide.1 (callsIn_of_wp_marks (n := 0) hf hb trivial ?_)
  let C : Ctx := ⟨w, Z, β, nx, fn.ntmps, []⟩
  let R : Ending → World → Prop := fun e w' => ∃ v β' Z' fp' s', e = .returned (v.den β') ∧ Nxt β Z ⟨[], hp, nx⟩ w v w' β' Z' fp' ⟨[], s'.hp, s'.nx⟩ ∧ post v s'
  have hsat : Sat C ⟨enumL 0 avs, hp, nx⟩ _ w := sat_enter avs hs hlt hn
  have hback : ∀ s a w', retK ty fn.results.toList (Back nx post) s → Sat C s a w' → ∃ v, (results fn a.tmps).run P w' = .ok v w' ∧ R (.returned v) w' := by
    intro s a w' hr hsat'
    obtain ⟨v, β', Z', fp', h1, h2, h3, h4, ren, hp1, nx1, v1, h5, h6, h7⟩ := res_end hty hr hsat'
    have hN : Nxt β Z ⟨[], hp, nx⟩ w v w' β' Z' fp' ⟨[], s.hp, s.nx⟩ := ⟨h3.env, h3.ext, h3.zz, rfl, h3.nx, ⟨h2.zlt, h2.flt, h2.sep, h2.obj, h2.lto⟩, h4⟩
    obtain ⟨g1, _, g3, g4⟩ := h5.sat (N := (0, [])) (a := { tmps := #[], defers := [] }) hN.sat ⟨fun t v h => (by cases h), fun t v h => (by cases h), rfl, rfl⟩
    obtain ⟨e1, e2⟩ := eqV_spec (β := β') h6 hN.lt
    exact ⟨_, h1, v1, renE ren β', Z', _, ⟨[], hp1, nx1⟩, by rw [e1], ⟨fun id hid => (g3 id hid).trans (hN.env id hid), hN.ext, hN.zz, rfl, g4, g1, e2⟩, h7⟩
  have hret : ∀ s a w', retK ty fn.results.toList (Back nx post) s → Sat C s a w' → bodyPostM Fence.wide 0 P fn R .ret a w' := by
    intro s a w' hr hsat'
    have hd : a.defers = [] := by
      obtain ⟨_, _, _, _, hf', _⟩ := hsat'
      exact hf'.defers
    show LeavesInM Fence.wide 0 P fn a.tmps R a.defers .returning w'
    rw [hd]
    exact hback s a w' hr hsat'
  refine cutK hty (C := C) n live hret k c _ _ _ hpre hsat ?_
  intro s1 a1 w1 h1 hs1
  rw [hdrop]
  refine wpIn_seq (wpIn_seq (wpIn_mono (wpIn_wide.2 (exec_sound hty (C := C) (E := AnyE) (fun _ _ => trivial) r8 _ _ _ s1 a1 w1 h1 hs1)) ?_))
  intro e8 a' w' hq8
  cases e8 with
  | ret => obtain ⟨s', hk', hs'⟩ := hq8; exact hret s' a' w' hk' hs'
  | exit i => obtain ⟨s', hk', _⟩ := hq8; exact hk'.elim
  | goto l => exact hq8.elim
  | panic ch => exact hq8.elim
  | outgrown => exact hq8.elim
  | normal =>
  obtain ⟨s', ⟨x, ren, hsub, hi⟩, hs'⟩ := hq8
  have hsx := hs'.sub hsub
  refine wpIn_block (range_at hty (C := C) rfl hfi hci hcf (hg x) hnt (hcl x) ni livei (hmain x hi) hsx ?_)
  intro D s2 a2 w2 hk2 hs2
  show rest.wpIn Fence.wide 0 P _ a2 w2
  refine wpIn_wide.2 (wp_mono (exec_sound hty (C := { C with df := [⟨.collected D, #[]⟩] }) (E := AnyE) (fun _ _ => trivial) rest _ _ _ s2 a2 w2 hk2 hs2) ?_)
  have hend : ∀ s a w', markK ty fn.results.toList nx (pat x).nx D post s → Sat { C with df := [⟨.collected D, #[]⟩] } s a w' → LeavesInM Fence.wide 0 P fn a.tmps R a.defers .returning w' := by
    rintro s a w' ⟨hm, hr⟩ ⟨β', Z', fp', hs', hf', hc'⟩
    obtain ⟨hb2, hfl2, hw2⟩ := mark_at hs' hm
    rw [updK_iff] at hr
    rw [hf'.defers]
    refine ⟨fun h => (by cases h), .inl ⟨D, _, rfl, run_takeDeferred hw2, ?_⟩⟩
    have hj := hs'.junk (.deferred none) hm hfl2
    refine hback ⟨s.fr, upd s.hp (pat x).nx junkO, s.nx⟩ { tmps := a.tmps, defers := [] } _ hr ⟨β', Z', fp', hj, ⟨hf'.tmp, hf'.lt, hf'.size, rfl⟩, ⟨hc'.zz, ?_, hc'.env, hc'.nx⟩⟩
    refine ⟨hc'.ext.os, hc'.ext.tape, hc'.ext.output, by simpa [World.putObj] using hc'.ext.size, fun b' hzb => ?_⟩
    rw [putObj_other (fun e => by subst e; exact (hs'.flt _ _ hm _ hfl2).2 (hc'.zz _ hzb))]
    exact hc'.ext.block b' hzb
  intro e a3 w3 hq
  cases e with
  | normal => obtain ⟨s, hr, hs'⟩ := hq; exact hend s a3 w3 hr hs'
  | ret => obtain ⟨s, hr, hs'⟩ := hq; exact hend s a3 w3 hr hs'
  | exit i => obtain ⟨s, hr, _⟩ := hq; exact hr.elim
  | goto l => exact hq.elim
  | panic ch => exact hq.elim
  | outgrown => exact hq.elim

end Go.Fw

/-
  A part of a lent list handed on.
-/
namespace Go.Fw
open Go

theorem adr_zero (a : Addr) : a.add 0 = a := by simp [Addr.add]

theorem flat_part (k : EK) (xs : List k.ty) (lo n j : Nat) (v : Value) (h : lo + n ≤ xs.length) (hj : (flat k (sub xs lo n))[j]? = some v) : (flat k xs)[lo * k.sz + j]? = some v := by
  have e1 : xs = xs.take lo ++ (sub xs lo n ++ xs.drop (lo + n)) := by
    unfold sub
    rw [show xs.drop (lo + n) = (xs.drop lo).drop n by rw [List.drop_drop], List.take_append_drop, List.take_append_drop]
  have e2 : (flat k (xs.take lo)).length = lo * k.sz := by rw [flat_length, List.length_take, Nat.min_eq_left (by omega)]
  have hlt : j < (flat k (sub xs lo n)).length := by
    rcases Nat.lt_or_ge j (flat k (sub xs lo n)).length with h' | h'
    · exact h'
    · rw [List.getElem?_eq_none h'] at hj; cases hj
  rw [e1, flat_append, flat_append, List.getElem?_append_right (by omega), List.getElem?_append_left (by omega), ← hj, e2]
  congr 1
  omega

/-- A part of a lent list that is handed on: an object of its own. -/
theorem callSub {P : Program} {f : Nat} {args args' : List SV} {ex : List Value} {s : S} {k : S → SV → Prop} (id lo n : Nat) {E : Nat} {ek : EK} {xs : List ek.ty} (hl : look s.hp id = some (.arr false E ek xs 0)) (hlo : lo + n ≤ xs.length)
    (ha : ∀ β : Env, args'.map (SV.den (β.add s.nx ((β id).map fun a => a.add (lo * ek.sz)))) = args.map (SV.den β))
    (h : s.go fun fr hp nx => CallK P f args' ex ⟨fr, (nx, .arr false E ek (sub xs lo n) 0) :: hp, nx + 1⟩ k) : CallK P f args ex s k := by
  rw [S.go_eq] at h
  unfold CallK at h ⊢
  refine ⟨h.1, fun β Z fp w hs => ?_⟩
  have hok : SO.ok (β.add s.nx ((β id).map fun a => a.add (lo * ek.sz))) Z (fun _ => False) w ((β id).map fun a => a.add (lo * ek.sz)) (.arr false E ek (sub xs lo n) 0) := by
    have ho := hs.obj _ _ hl
    cases hb : β id with
    | none =>
      rw [hb] at ho
      obtain ⟨rfl, _⟩ := ho
      exact ⟨by simp [sub], rfl⟩
    | some a =>
      rw [hb] at ho
      by_cases hne : sub xs lo n = []
      · intro hc
        exact absurd hne hc
      · have hx : xs ≠ [] := by rintro rfl; exact hne (by simp [sub])
        obtain ⟨h1, h2, h3, h4⟩ := ho hx
        obtain ⟨b, o, sp⟩ := a
        cases h1
        show SO.ok _ Z _ w (some (Addr.add ⟨b, o, none⟩ (lo * ek.sz))) _
        rw [Addr.add_lit]
        intro _
        refine ⟨rfl, h2, h3, fun j v hj => ?_⟩
        have := h4 _ v (flat_part ek xs lo n j v hlo hj)
        rw [Addr.add_lit] at this ⊢
        rw [Nat.add_assoc]
        exact this
  have hs' := hs.add (o := .arr false E ek (sub xs lo n) 0) (x := (β id).map fun a => a.add (lo * ek.sz)) (q := fun _ => False) (fun _ _ => rfl) (Nat.le_refl _) (fun _ h => h.elim) hok trivial
  have hc := h.2 _ _ _ w hs'
  rw [ha] at hc
  refine hc.mono ?_
  rintro e w' ⟨v, β', Z', fp', s', rfl, hn, hk⟩
  exact ⟨v, β', Z', fp', s', rfl, ⟨fun id hid => (hn.env id (Nat.lt_succ_of_lt hid)).trans (Env.add_lt id hid), hn.ext, hn.zz, hn.fr, Nat.le_of_succ_le hn.nx, hn.sat, hn.lt⟩, hk⟩
end Go.Fw

/-
  Two pools of ints behind a call: one pool.
-/
namespace Go.Fw
open Go

theorem lkA_append {α : Type} (m m' : List (Addr × α)) (a : Addr) : lkA (m ++ m') a = match lkA m a with
    | some x => some x
    | none => lkA m' a := by
  induction m with
  | nil => rfl
  | cons p m ih =>
    obtain ⟨b, x⟩ := p
    simp only [List.cons_append, lkA]
    split
    · rfl
    · exact ih

section
variable {P : Program} {β : Env} {Z : Nat → Prop} {fp : Nat → Nat → Prop} {s : S} {w : World}

theorem HSat.joinP (hs : HSat β Z fp s w) {p q E : Nat} {m m' : List (Addr × List Int × Nat)} (hp : look s.hp p = some (.pool E .int m)) (hq : look s.hp q = some (.pool E .int m')) (hpq : p ≠ q) :
    HSat β Z (fun id => if id = p then (fun b => fp p b ∨ fp q b) else fp id) ⟨s.fr, (p, .pool E .int (m ++ m')) :: delK (delK s.hp p) q, s.nx⟩ w ∧ ∀ a x, lkA m' a = some x → lkA m a = none := by
  have hP := hs.obj _ _ hp
  have hQ := hs.obj _ _ hq
  have hdis : ∀ a x y, lkA m' a = some x → lkA m a = some y → False := by
    intro a x y h1 h2
    have g1 := (hQ.row a x.1 x.2 h1).2.1
    have g2 := (hP.row a y.1 y.2 h2).2.1
    exact hs.sep p q _ _ hp hq hpq _ g2 g1
  have hlook : ∀ id o, look ((p, SO.pool E .int (m ++ m')) :: delK (delK s.hp p) q) id = some o → (id = p ∧ o = .pool E .int (m ++ m')) ∨ (id ≠ p ∧ id ≠ q ∧ look s.hp id = some o) := by
    intro id o h
    rw [look_cons] at h
    split at h
    · rename_i e; exact .inl ⟨e.symm, by cases h; rfl⟩
    · rename_i e
      rw [look_delK] at h
      split at h
      · cases h
      · rename_i e2
        rw [look_delK] at h
        split at h
        · cases h
        · exact .inr ⟨fun c => e c.symm, fun c => e2 c.symm, h⟩
  refine ⟨⟨hs.zlt, ?_, ?_, ?_, ?_⟩, fun a x h => ?_⟩
  · intro id o h b hb
    rcases hlook _ _ h with ⟨rfl, rfl⟩ | ⟨h1, h2, h3⟩
    · rw [if_pos rfl] at hb
      rcases hb with hb | hb
      · exact hs.flt _ _ hp b hb
      · exact hs.flt _ _ hq b hb
    · rw [if_neg h1] at hb
      exact hs.flt _ _ h3 b hb
  · intro i j oi oj hi hj hij b hb hb'
    rcases hlook _ _ hi with ⟨rfl, rfl⟩ | ⟨h1, h2, h3⟩
    · rcases hlook _ _ hj with ⟨rfl, rfl⟩ | ⟨g1, g2, g3⟩
      · exact hij rfl
      · rw [if_pos rfl] at hb
        rw [if_neg g1] at hb'
        rcases hb with hb | hb
        · exact hs.sep _ _ _ _ hp g3 hij b hb hb'
        · exact hs.sep _ _ _ _ hq g3 (fun e => g2 e.symm) b hb hb'
    · rw [if_neg h1] at hb
      rcases hlook _ _ hj with ⟨rfl, rfl⟩ | ⟨g1, g2, g3⟩
      · rw [if_pos rfl] at hb'
        rcases hb' with hb' | hb'
        · exact hs.sep _ _ _ _ h3 hp hij b hb hb'
        · exact hs.sep _ _ _ _ h3 hq h2 b hb hb'
      · rw [if_neg g1] at hb'
        exact hs.sep _ _ _ _ h3 g3 hij b hb hb'
  · intro id o h
    rcases hlook _ _ h with ⟨rfl, rfl⟩ | ⟨h1, h2, h3⟩
    · rw [if_pos rfl]
      have hcase : ∀ a x, lkA (m ++ m') a = some x → (lkA m a = some x) ∨ (lkA m' a = some x) := by
        intro a x h
        rw [lkA_append] at h
        split at h
        · cases h; exact .inl ‹_›
        · exact .inr h
      refine ⟨fun a xs sp hl => ?_, fun a a' x x' hl hl' hb => ?_⟩
      · rcases hcase _ _ hl with hl | hl
        · obtain ⟨h1, h2, h3⟩ := hP.row a xs sp hl
          exact ⟨h1, .inl h2, h3⟩
        · obtain ⟨h1, h2, h3⟩ := hQ.row a xs sp hl
          exact ⟨h1, .inr h2, h3⟩
      · rcases hcase _ _ hl with hl | hl
        · rcases hcase _ _ hl' with hl' | hl'
          · exact hP.one a a' x x' hl hl' hb
          · have g1 := (hP.row a x.1 x.2 hl).2.1
            have g2 := (hQ.row a' x'.1 x'.2 hl').2.1
            rw [hb] at g1
            exact absurd g2 (hs.sep _ _ _ _ hp hq hpq _ g1)
        · rcases hcase _ _ hl' with hl' | hl'
          · have g1 := (hQ.row a x.1 x.2 hl).2.1
            have g2 := (hP.row a' x'.1 x'.2 hl').2.1
            rw [hb] at g1
            exact absurd g1 (hs.sep _ _ _ _ hp hq hpq _ g2)
          · exact hQ.one a a' x x' hl hl' hb
    · rw [if_neg h1]
      exact hs.obj _ _ h3
  · intro id o h
    rcases hlook _ _ h with ⟨rfl, rfl⟩ | ⟨h1, h2, h3⟩
    · exact ⟨(hs.lto _ _ hp).1, trivial⟩
    · exact hs.lto _ _ h3
  · cases h2 : lkA m a with
    | none => rfl
    | some y => exact (hdis a x y h h2).elim

/-- Behind a call two pools of ints are made one. -/
theorem callJoin {f : Nat} {args : List SV} {ex : List Value} {s : S} {k : S → SV → Prop} (p q : Nat) (hpq : p ≠ q)
    (h : CallK P f args ex s fun s2 v => s2.go fun fr hp nx => match look hp p, look hp q with
      | some (.pool E .int m), some (.pool E' .int m') => match Nat.beq E E' with
        | true => (∀ a x, lkA m' a = some x → lkA m a = none) → delC hp p fun hp1 => delC hp1 q fun hp2 => k ⟨fr, (p, .pool E .int (m ++ m')) :: hp2, nx⟩ v
        | false => False
      | _, _ => False) : CallK P f args ex s k := by
  unfold CallK at h ⊢
  refine ⟨h.1, fun β Z fp w hs => (h.2 β Z fp w hs).mono ?_⟩
  rintro e w' ⟨v, β', Z', fp', s', rfl, hn, hk⟩
  rw [S.go_eq] at hk
  split at hk <;> try exact hk.elim
  rename_i E m E' m' hp hq
  split at hk <;> try exact hk.elim
  rename_i hE
  have hE := Nat.eq_of_beq_eq_true hE
  subst hE
  obtain ⟨h1, h2⟩ := hn.sat.joinP hp hq hpq
  have hk := hk h2
  rw [delC_iff, delC_iff] at hk
  exact ⟨v, β', Z', _, ⟨s'.fr, (p, .pool E .int (m ++ m')) :: delK (delK s'.hp p) q, s'.nx⟩, rfl, ⟨hn.env, hn.ext, hn.zz, hn.fr, hn.nx, h1, hn.lt⟩, hk⟩
end
end Go.Fw
