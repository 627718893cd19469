/-
  Rows of a pool lent to a callee.
-/
import Derived.Test.YtlaenllbacalpaaDoorB05
import Derived.RangeFuncIn
import Derived.RangeFuncRecord
import Derived.RangeFuncLeaves
import Derived.Test.YtlaenllbacalpaaDoorProg
import Derived.KernelRfl

set_option linter.unusedSimpArgs false
set_option linter.unusedVariables false

namespace Go.Fw
open Go
def rowAK (sz : Nat) : Nat → List Bool → List SV → (List SV → List Sli → Prop) → Prop
  | nx, true :: bs, .a (.c (.h x)) :: l, k => rowAK sz (nx + 1) bs l fun l' vs => k (.c (.sl nx sz 0 x.n x.c) :: l') (x :: vs)
  | nx, false :: bs, v :: l, k => rowAK sz nx bs l fun l' vs => k (v :: l') vs
  | _, [], l, k => k l []
  | _, _, _, _ => False
def rowsO (E : Nat) (k : EK) (m : List (Addr × List k.ty × Nat)) : Nat → List Sli → List (Nat × SO)
  | _, [] => []
  | nx, x :: l => (nx, .arr false E k (rowA m x.a) 0) :: rowsO E k m (nx + 1) l
def SO.strict : SO → Bool
  | .arr own _ _ _ _ => own
  | _ => true
def SO.ro : SO → Bool
  | .arr own _ _ _ _ => !own
  | _ => false
def filK (p : SO → Bool) : List (Nat × SO) → (List (Nat × SO) → Prop) → Prop
  | [], k => k []
  | (i, o) :: l, k => match p o with
    | true => filK p l fun l' => k ((i, o) :: l')
    | false => filK p l k
def filL (p : SO → Bool) : List (Nat × SO) → List (Nat × SO)
  | [] => []
  | (i, o) :: l => match p o with
    | true => (i, o) :: filL p l
    | false => filL p l
theorem filK_iff (p : SO → Bool) : ∀ (l : List (Nat × SO)) (k : List (Nat × SO) → Prop), filK p l k ↔ k (filL p l)
  | [], k => Iff.rfl
  | (i, o) :: l, k => by
    simp only [filK, filL]
    cases p o <;> exact filK_iff p l _
theorem rowAK_spec {sz n0 : Nat} : ∀ (bs : List Bool) (nx : Nat) (l : List SV) (k : List SV → List Sli → Prop), rowAK sz nx bs l k → n0 ≤ nx → (∀ v ∈ l, SV.lt n0 v) →
    ∃ l' vs, k l' vs ∧ ∀ β γ : Env, (∀ id, id < n0 → γ id = β id) → (∀ i x, vs[i]? = some x → γ (nx + i) = x.a) → l'.map (SV.den γ) = l.map (SV.den β)
  | [], nx, l, k, h, _, hl => by
    refine ⟨l, [], by cases l <;> exact h, fun β γ h1 _ => ?_⟩
    refine List.map_congr_left fun v hv => ?_
    exact SV.den_congr h1 (hl v hv)
  | true :: bs, nx, [], k, h, _, _ => h.elim
  | false :: bs, nx, [], k, h, _, _ => h.elim
  | false :: bs, nx, v :: l, k, h, hn, hl => by
    obtain ⟨l', vs, hk, hd⟩ := rowAK_spec bs nx l _ h hn (fun v hv => hl v (List.mem_cons_of_mem _ hv))
    refine ⟨_, _, hk, fun β γ h1 h2 => ?_⟩
    rw [List.map_cons, List.map_cons, hd β γ h1 h2, SV.den_congr h1 (hl v (List.mem_cons_self ..))]
  | true :: bs, nx, v :: l, k, h, hn, hl => by
    obtain ⟨x, rfl⟩ : ∃ x, v = .a (.c (.h x)) := by
      cases v with
      | tup _ => exact h.elim
      | a y => cases y with
        | agg _ => exact h.elim
        | c z => cases z <;> first | exact h.elim | exact ⟨_, rfl⟩
    obtain ⟨l', vs, hk, hd⟩ := rowAK_spec bs (nx + 1) l _ h (by omega) (fun v hv => hl v (List.mem_cons_of_mem _ hv))
    refine ⟨_, _, hk, fun β γ h1 h2 => ?_⟩
    have h0 := h2 0 x rfl
    rw [List.map_cons, List.map_cons, hd β γ h1 (fun i y hy => by have := h2 (i + 1) y (by simpa using hy); rw [← this]; congr 1; omega)]
    congr 1
    show Value.slice ((γ nx).map (·.add (0 * sz))) x.n x.c = Value.slice x.a x.n x.c
    rw [show γ nx = x.a from h0]
    congr 1
    cases x.a with
    | none => rfl
    | some a => simp [Addr.add]
theorem look_appN {α : Type} : ∀ (l m : List (Nat × α)) (i : Nat), look (appN l m) i = match look l i with
    | some x => some x
    | none => look m i
  | [], m, i => rfl
  | (j, x) :: l, m, i => by
    simp only [appN, look_cons]
    by_cases h : j = i
    · simp [h]
    · simp only [h, if_false]; exact look_appN l m i
theorem look_rowsO {E : Nat} {k : EK} {m : List (Addr × List k.ty × Nat)} : ∀ (vs : List Sli) (nx i : Nat), look (rowsO E k m nx vs) i = if nx ≤ i then (vs[i - nx]?).map (fun x => SO.arr false E k (rowA m x.a) 0) else none
  | [], nx, i => by simp [rowsO, look]
  | x :: l, nx, i => by
    simp only [rowsO, look_cons]
    by_cases h : nx = i
    · subst h; simp
    · rw [if_neg h, look_rowsO l (nx + 1) i]
      by_cases h2 : nx ≤ i
      · rw [if_pos h2, if_pos (by omega), show i - nx = (i - (nx + 1)) + 1 by omega, List.getElem?_cons_succ]
      · rw [if_neg h2, if_neg (by omega)]
theorem look_filL {p : SO → Bool} : ∀ {l : List (Nat × SO)} {i : Nat} {o : SO}, keyNd l = true → look (filL p l) i = some o → look l i = some o ∧ p o = true
  | [], _, _, _, h => by cases h
  | (j, x) :: l, i, o, hk, h => by
    simp only [keyNd, Bool.and_eq_true, Bool.not_eq_true'] at hk
    have tail : look (filL p l) i = some o → look ((j, x) :: l) i = some o ∧ p o = true := by
      intro h
      obtain ⟨h1, h2⟩ := look_filL hk.2 h
      refine ⟨?_, h2⟩
      rw [look_cons]
      split
      · rename_i e; subst e; rw [hasId_look hk.1] at h1; cases h1
      · exact h1
    simp only [filL] at h
    cases hp : p x with
    | true =>
      rw [hp] at h
      simp only [look_cons] at h
      split at h
      · rename_i e
        subst e
        cases h
        exact ⟨by simp [look_cons], hp⟩
      · exact tail (by assumption)
    | false =>
      rw [hp] at h
      exact tail h
theorem SO.strict_ok {β : Env} {Z Z' fp : Nat → Prop} {w : World} {oa : Option Addr} {o : SO} (hs : o.strict = true) (h : o.ok β Z fp w oa) : o.ok β Z' fp w oa := by
  cases o with
  | box T cs => exact h
  | gen A => exact h
  | pool E k m => exact h
  | map kk vk es c => exact h
  | iter a b c d e => exact h
  | arr own E k xs sp =>
    cases own with
    | false => cases hs
    | true =>
      cases oa with
      | none => exact h
      | some a => exact h
theorem SO.ro_ok {β : Env} {Z fp fp' : Nat → Prop} {w : World} {oa : Option Addr} {o : SO} (hs : o.ro = true) (h : o.ok β Z fp w oa) : o.ok β Z fp' w oa := by
  cases o with
  | arr own E k xs sp =>
    cases own with
    | true => cases hs
    | false =>
      cases oa with
      | none => exact h
      | some a => exact h
  | box T cs => cases hs
  | gen A => cases hs
  | pool E k m => cases hs
  | map kk vk es c => cases hs
  | iter a b c d e => cases hs
section
variable {P : Program} {β : Env} {Z : Nat → Prop} {fp : Nat → Nat → Prop} {s : S} {w w' : World}
theorem callRow {f : Nat} {args : List SV} {ex : List Value} {k : S → SV → Prop} (pid : Nat) (bs : List Bool) (hcf : ∀ args w, (callFunc f args).run P w = .ok (.enter f args) w) (hlt : ∀ v ∈ args, SV.lt s.nx v)
    (h : s.go fun fr hp nx => match look hp pid with
      | some (.pool E ek m) => match keyNd hp with
        | true => rowAK ek.sz nx bs args fun args1 vs => delC hp pid fun hp1 => filK SO.ro hp fun hpr => CallK P f args1 ex ⟨fr, appN (rowsO E ek m nx vs) hp1, nx + lenN vs⟩
          (fun s2 v => s2.go fun fr2 hp2 nx2 => match keyNd hp2 with
            | true => filK SO.strict hp2 fun hp3 => k ⟨fr2, (pid, .pool E ek m) :: appN hpr hp3, nx2⟩ v
            | false => False)
        | false => False
      | _ => False) : CallK P f args ex s k := by
  rw [S.go_eq] at h
  split at h <;> try exact h.elim
  rename_i E ek m hpool
  split at h <;> try exact h.elim
  rename_i hknd
  obtain ⟨args1, vs, h, hden⟩ := rowAK_spec (n0 := s.nx) bs s.nx args _ h (Nat.le_refl _) hlt
  rw [delC_iff, filK_iff] at h
  unfold CallK at h ⊢
  refine ⟨hcf, fun β Z fp w hs => ?_⟩
  let β1 : Env := fun id => if id < s.nx then β id else match vs[id - s.nx]? with
    | some x => x.a
    | none => none
  let Z1 : Nat → Prop := fun b => Z b ∨ fp pid b
  let fp1 : Nat → Nat → Prop := fun id b => id < s.nx ∧ fp id b
  have hβ1 : ∀ id, id < s.nx → β1 id = β id := fun id hid => if_pos hid
  have hβv : ∀ i x, vs[i]? = some x → β1 (s.nx + i) = x.a := by
    intro i x hx
    show (if s.nx + i < s.nx then _ else _) = _
    rw [if_neg (by omega), show s.nx + i - s.nx = i by omega, hx]
  have hpl := hs.obj pid _ hpool
  have hplt := (hs.lto pid _ hpool).1
  have hcase : ∀ id o, look (appN (rowsO E ek m s.nx vs) (delK s.hp pid)) id = some o → (∃ x, s.nx ≤ id ∧ vs[id - s.nx]? = some x ∧ o = .arr false E ek (rowA m x.a) 0) ∨ (look s.hp id = some o ∧ id ≠ pid) := by
    intro id o hl
    rw [look_appN, look_rowsO] at hl
    split at hl
    · rename_i y hy
      cases hl
      split at hy
      · rename_i h1
        obtain ⟨x, hx, rfl⟩ := Option.map_eq_some_iff.1 hy
        exact .inl ⟨x, h1, hx, rfl⟩
      · cases hy
    · rw [look_delK] at hl
      split at hl
      · cases hl
      · rename_i hne
        exact .inr ⟨hl, fun e => hne e.symm⟩
  have hs1 : HSat β1 Z1 fp1 ⟨s.fr, appN (rowsO E ek m s.nx vs) (delK s.hp pid), s.nx + lenN vs⟩ w := by
    refine ⟨?_, ?_, ?_, ?_, ?_⟩
    · rintro b (hb | hb)
      · exact hs.zlt b hb
      · exact (hs.flt pid _ hpool b hb).1
    · rintro id o hl b ⟨hid, hb⟩
      rcases hcase id o hl with ⟨x, hx, _⟩ | ⟨h1, h2⟩
      · omega
      · refine ⟨(hs.flt id o h1 b hb).1, ?_⟩
        rintro (hz | hz)
        · exact (hs.flt id o h1 b hb).2 hz
        · exact hs.sep id pid o _ h1 hpool h2 b hb hz
    · rintro id id' o o' hl hl' hne b ⟨hid, hb⟩ ⟨hid', hb'⟩
      rcases hcase id o hl with ⟨x, hx, _⟩ | ⟨h1, h2⟩
      · omega
      rcases hcase id' o' hl' with ⟨x, hx, _⟩ | ⟨h1', h2'⟩
      · omega
      exact hs.sep id id' o o' h1 h1' hne b hb hb'
    · intro id o hl
      rcases hcase id o hl with ⟨x, hx, hv, rfl⟩ | ⟨h1, h2⟩
      · have e := hβv (id - s.nx) x hv
        rw [show s.nx + (id - s.nx) = id by omega] at e
        show SO.ok β1 Z1 (fp1 id) w (β1 id) _
        rw [e]
        cases hxa : x.a with
        | none => exact ⟨rfl, rfl⟩
        | some a =>
          intro hne
          have hr : ∃ y, lkA m a = some y := by
            cases hla : lkA m a with
            | some y => exact ⟨y, rfl⟩
            | none => exfalso; apply hne; simp [rowA, hla]
          obtain ⟨⟨xs, sp⟩, hla⟩ := hr
          obtain ⟨g1, g2, pre, post, g3, g4, g5⟩ := hpl.row a xs sp hla
          have exs : rowA m (some a) = xs := by simp [rowA, hla]
          refine ⟨g1, .inr g2, (hs.flt pid _ hpool _ g2).1, ?_⟩
          intro j v hj
          rw [exs] at hj
          rw [add_eq g1]
          exact flat_cell g3 g4 j v hj
      · have hlo := hs.lto id o h1
        show SO.ok β1 Z1 (fp1 id) w (β1 id) o
        rw [hβ1 id hlo.1, show fp1 id = fp id from funext fun b => propext ⟨fun h => h.2, fun h => ⟨hlo.1, h⟩⟩]
        exact SO.ok_mono (hs.obj id o h1) hlo.2 hβ1 (fun b hb => .inl hb) (fun _ _ => rfl) (Nat.le_refl _)
    · intro id o hl
      show id < s.nx + lenN vs ∧ o.lt (s.nx + lenN vs)
      rw [lenN_eq]
      rcases hcase id o hl with ⟨x, hx, hv, rfl⟩ | ⟨h1, h2⟩
      · have := (List.getElem?_eq_some_iff.1 hv).1
        exact ⟨by omega, trivial⟩
      · have hlo := hs.lto id o h1
        exact ⟨by omega, SO.lt_mono (by omega) hlo.2⟩
  have hc := h.2 _ _ _ w hs1
  rw [hden β β1 hβ1 hβv] at hc
  refine hc.mono ?_
  rintro e w' ⟨v, β', Z', fp', s', rfl, hn, hk⟩
  rw [S.go_eq] at hk
  split at hk <;> try exact hk.elim
  rename_i hknd2
  rw [filK_iff] at hk
  have hbw : ∀ b, Z b ∨ fp pid b → w'.heap[b]? = w.heap[b]? := fun b hb => hn.ext.block b hb
  have hsz := hn.ext.size
  have henv : ∀ id, id < s.nx → β' id = β id := fun id hid => (hn.env id (Nat.lt_of_lt_of_le hid (Nat.le_add_right _ _))).trans (hβ1 id hid)
  have hnx : s.nx ≤ s'.nx := Nat.le_trans (Nat.le_add_right _ _) hn.nx
  let fp2 : Nat → Nat → Prop := fun id b => if id = pid then fp pid b else if (look (filL SO.ro s.hp) id).isSome = true then False else fp' id b
  have hc2 : ∀ id o, look ((pid, SO.pool E ek m) :: appN (filL SO.ro s.hp) (filL SO.strict s'.hp)) id = some o →
      (id = pid ∧ o = .pool E ek m ∧ ∀ b, fp2 id b ↔ fp pid b) ∨ (id ≠ pid ∧ look s.hp id = some o ∧ o.ro = true ∧ ∀ b, ¬ fp2 id b) ∨ (id ≠ pid ∧ look s'.hp id = some o ∧ o.strict = true ∧ ∀ b, fp2 id b ↔ fp' id b) := by
    intro id o hl
    rw [look_cons] at hl
    split at hl
    · rename_i e
      subst e
      cases hl
      exact .inl ⟨rfl, rfl, fun b => by simp [fp2]⟩
    · rename_i hne
      rw [look_appN] at hl
      split at hl
      · rename_i y hy
        cases hl
        obtain ⟨g1, g2⟩ := look_filL hknd hy
        exact .inr (.inl ⟨Ne.symm hne, g1, g2, fun b => by simp [fp2, Ne.symm hne, hy]⟩)
      · rename_i hno
        obtain ⟨g1, g2⟩ := look_filL hknd2 hl
        exact .inr (.inr ⟨Ne.symm hne, g1, g2, fun b => by simp [fp2, Ne.symm hne, hno]⟩)
  refine ⟨v, β', Z, fp2, ⟨s'.fr, (pid, SO.pool E ek m) :: appN (filL SO.ro s.hp) (filL SO.strict s'.hp), s'.nx⟩, rfl, ⟨henv, hn.ext.mono fun b hb => .inl hb, fun _ h => h, hn.fr, hnx, ⟨fun b hb => Nat.lt_of_lt_of_le (hs.zlt b hb) hsz, ?_, ?_, ?_, ?_⟩, hn.lt⟩, hk⟩
  · intro id o hl b hb
    rcases hc2 id o hl with ⟨_, _, g⟩ | ⟨_, _, _, g⟩ | ⟨_, g1, _, g⟩
    · have := hs.flt pid _ hpool b ((g b).1 hb)
      exact ⟨Nat.lt_of_lt_of_le this.1 hsz, this.2⟩
    · exact absurd hb (g b)
    · have := hn.sat.flt id o g1 b ((g b).1 hb)
      exact ⟨this.1, fun hz => this.2 (hn.zz b (.inl hz))⟩
  · intro id id' o o' hl hl' hne b hb hb'
    rcases hc2 id o hl with ⟨e, _, g⟩ | ⟨_, _, _, g⟩ | ⟨_, g1, _, g⟩ <;> rcases hc2 id' o' hl' with ⟨e', _, g'⟩ | ⟨_, _, _, g'⟩ | ⟨_, g1', _, g'⟩
    · exact hne (e.trans e'.symm)
    · exact g' b hb'
    · exact (hn.sat.flt id' o' g1' b ((g' b).1 hb')).2 (hn.zz b (.inr ((g b).1 hb)))
    · exact g b hb
    · exact g b hb
    · exact g b hb
    · exact (hn.sat.flt id o g1 b ((g b).1 hb)).2 (hn.zz b (.inr ((g' b).1 hb')))
    · exact g' b hb'
    · exact hn.sat.sep id id' o o' g1 g1' hne b ((g b).1 hb) ((g' b).1 hb')
  · intro id o hl
    show SO.ok β' Z (fp2 id) w' (β' id) o
    rcases hc2 id o hl with ⟨e, e2, g⟩ | ⟨_, g1, g2, g⟩ | ⟨_, g1, g2, g⟩
    · subst e e2
      rw [henv _ hplt, show fp2 id = fp id from funext fun b => propext (g b)]
      exact SO.ok_mono (n := s.nx) hpl (hs.lto id _ hpool).2 henv (fun _ h => h) hbw hsz
    · have hlo := hs.lto id o g1
      rw [henv id hlo.1]
      have g0 : o.ok β Z (fun _ => False) w (β id) := SO.ro_ok g2 (hs.obj id o g1)
      have g3 : o.ok β' Z (fun _ => False) w' (β id) := SO.ok_mono g0 hlo.2 henv (fun _ h => h) (fun b hb => hbw b (by rcases hb with hb | hb; exact .inl hb; exact hb.elim)) hsz
      exact SO.ro_ok g2 g3
    · rw [show fp2 id = fp' id from funext fun b => propext (g b)]
      exact SO.strict_ok g2 (hn.sat.obj id o g1)
  · intro id o hl
    rcases hc2 id o hl with ⟨e, e2, _⟩ | ⟨_, g1, g2, g⟩ | ⟨_, g1, g2, g⟩
    · subst e e2
      exact ⟨Nat.lt_of_lt_of_le hplt hnx, trivial⟩
    · have hlo := hs.lto id o g1
      exact ⟨Nat.lt_of_lt_of_le hlo.1 hnx, SO.lt_mono hnx hlo.2⟩
    · exact hn.sat.lto id o g1
end
end Go.Fw

/-
  A function's text cut in two: what holds between.
-/
namespace Go.Fw
open Go
def takeC : Nat → Code → Code
  | 0, _ => .skip
  | k + 1, .seq a b => .seq a (takeC k b)
  | _ + 1, _ => .goto 0
def dropC : Nat → Code → Code
  | 0, c => c
  | k + 1, .seq _ b => dropC k b
  | _ + 1, _ => .skip
theorem SemC.of {P : Program} {ty : List (Nat × STy)} (hty : TyOk P ty) {N n0 : Nat} (n : Nat) (live : List Nat) {c : Code} {kn kr : S → Prop} {ke : Nat → S → Prop} {s : S} (h : exec P ty N AnyE n0 n live c kn kr ke s) : SemC P N n0 c kn kr ke s := by
  intro C hN h0 a w hs
  subst hN h0
  exact exec_sound hty (E := AnyE) (fun _ _ => trivial) c kn kr ke s a w h hs
theorem SemC.sub {P : Program} {N n0 : Nat} {c : Code} {kn kr : S → Prop} {ke : Nat → S → Prop} {s s1 : S} {ren : List (Nat × Option Nat)} (h : SemC P N n0 c kn kr ke s1) (hs : Sub n0 ren s1 s) : SemC P N n0 c kn kr ke s := by
  intro C hN h0 a w hsat
  subst h0
  exact h C hN rfl a w (hsat.sub hs)
theorem SemC.cut {P : Program} {ty : List (Nat × STy)} (hty : TyOk P ty) {N n0 : Nat} (n : Nat) (live : List Nat) {kn kr : S → Prop} {ke : Nat → S → Prop} {α : Type} (pat : α → S) (inv : α → Prop) : ∀ (k : Nat) (c : Code) (s : S),
    exec P ty N AnyE n0 n live (takeC k c) (fun s' => ∃ x ren, Sub n0 ren (pat x) s' ∧ inv x) kr ke s → (∀ x, inv x → SemC P N n0 (dropC k c) kn kr ke (pat x)) → SemC P N n0 c kn kr ke s
  | 0, c, s, h, hk => by
    obtain ⟨x, ren, hsub, hi⟩ := h
    exact (hk x hi).sub hsub
  | k + 1, c, s, h, hk => by
    cases c <;> first
      | exact h.elim
      | skip
    rename_i x y
    intro C hN h0 a w hs
    subst hN h0
    refine wp_seq (wp_mono (exec_sound hty (E := AnyE) (fun _ _ => trivial) x _ kr ke s a w h hs) ?_)
    intro e a w hq
    cases e <;> first
      | exact hq
      | (obtain ⟨s', hk', hs'⟩ := hq; exact SemC.cut hty n live pat inv k y s' hk' hk C rfl rfl a w hs')
theorem entryC {P : Program} {ty : List (Nat × STy)} (hty : TyOk P ty) {f : FuncId} {fn : Func} {c : Code} {R : Ending → World → Prop} (avs : List SV) (hp : List (Nat × SO)) (nx : Nat) (post : SV → S → Prop)
    {β : Env} {Z : Nat → Prop} {fp : Nat → Nat → Prop} {w : World} (hf : P.funcs[f]? = some fn) (hb : fn.body = some c) (hs : HSat β Z fp ⟨[], hp, nx⟩ w) (hlt : ∀ v ∈ avs, SV.lt nx v) (hn : avs.length ≤ fn.ntmps)
    {fr : List (Nat × SV)} (hfr : fr = enumL 0 avs)
    (hex : SemC P fn.ntmps nx c (retK ty fn.results.toList post) (retK ty fn.results.toList post) (fun _ _ => False) ⟨fr, hp, nx⟩)
    (hR : ∀ v w' β' Z' fp' s', Nxt β Z ⟨[], hp, nx⟩ w v w' β' Z' fp' ⟨[], s'.hp, s'.nx⟩ → post v s' → R (.returned (v.den β')) w') :
    Calls P f (avs.map (SV.den β)).toArray w R := by
  subst hfr
  refine calls_of_wp hf hb ?_
  let C : Ctx := ⟨w, Z, β, nx, fn.ntmps, []⟩
  have hsat : Sat C ⟨enumL 0 avs, hp, nx⟩ { tmps := (avs.map (SV.den β)).toArray ++ Array.replicate (fn.ntmps - (avs.map (SV.den β)).toArray.size) undef, defers := [] } w := by
    refine ⟨β, Z, fp, ⟨hs.zlt, hs.flt, hs.sep, hs.obj, hs.lto⟩, ⟨?_, ?_, ?_, rfl⟩, ⟨fun _ h => h, Ext.refl _ _, fun _ _ => rfl, Nat.le_refl _⟩⟩
    · intro t v ht
      obtain ⟨_, h2⟩ := look_enumL avs 0 t v ht
      rw [Nat.sub_zero] at h2
      have hlt' : t < avs.length := (List.getElem?_eq_some_iff.1 h2).1
      rw [Array.getElem?_append_left (by simpa using hlt')]
      simp [h2]
    · intro t v ht
      obtain ⟨_, h2⟩ := look_enumL avs 0 t v ht
      exact hlt v (List.mem_of_getElem? h2)
    · show _ = fn.ntmps
      simp; omega
  have hmain := hex C rfl rfl _ _ hsat
  have hres : ∀ s a w', retK ty fn.results.toList post s → Sat C s a w' → a.defers = [] ∧ ∃ v, (results fn a.tmps).run P w' = .ok v w' ∧ R (.returned v) w' := by
    intro s a w' hr hsat'
    obtain ⟨β', Z', fp', hs', hf', hc'⟩ := hsat'
    refine ⟨hf'.defers, ?_⟩
    obtain ⟨r, hk, hl, hrun⟩ := resK_sound hty hs' hf' _ _ hr
    have hnxt : ∀ v : SV, v.lt s.nx → Nxt β Z ⟨[], hp, nx⟩ w v w' β' Z' fp' ⟨[], s.hp, s.nx⟩ := fun v hv =>
      ⟨hc'.env, hc'.ext, hc'.zz, rfl, hc'.nx, ⟨hs'.zlt, hs'.flt, hs'.sep, hs'.obj, hs'.lto⟩, hv⟩
    have hrun2 : (results fn a.tmps).run P w' = .ok (if h : (r.map (SA.den β')).toArray.size = 1 then (r.map (SA.den β')).toArray[0] else .tuple (r.map (SA.den β')).toArray) w' := by
      have e1 : results fn a.tmps = (do let vs ← fn.results.mapM (resOne a.tmps); pure (if h : vs.size = 1 then vs[0] else .tuple vs)) := rfl
      rw [e1, Sem.run_bind, Array.mapM_eq_mapM_toList]
      simp only [Sem.run_map, hrun, Result.andThen_ok, Sem.run_pure]
    match r, hk, hl, hrun2 with
    | [x], hk, hl, hrun2 =>
      refine ⟨_, hrun2, ?_⟩
      have := hR (.a x) w' β' Z' fp' s (hnxt (.a x) (hl x (by simp))) hk
      simpa [SV.den] using this
    | [], hk, hl, hrun2 =>
      refine ⟨_, hrun2, ?_⟩
      have := hR (.tup []) w' β' Z' fp' s (hnxt (.tup []) hl) hk
      simpa [SV.den] using this
    | x :: y :: r, hk, hl, hrun2 =>
      refine ⟨_, hrun2, ?_⟩
      have := hR (.tup (x :: y :: r)) w' β' Z' fp' s (hnxt (.tup (x :: y :: r)) hl) hk
      rw [dif_neg (by simp)]
      exact this
  refine wp_mono hmain ?_
  intro e a w' hq
  cases e with
  | normal => obtain ⟨s, hr, hs'⟩ := hq; exact hres s a w' hr hs'
  | ret => obtain ⟨s, hr, hs'⟩ := hq; exact hres s a w' hr hs'
  | exit i => obtain ⟨s, hr, _⟩ := hq; exact hr.elim
  | goto l => exact hq.elim
  | panic ch => exact hq.elim
  | outgrown => exact hq.elim
theorem ctC {P : Program} {ty : List (Nat × STy)} (hty : TyOk P ty) {f : FuncId} {fn : Func} {c : Code} {avs : List SV} {hp : List (Nat × SO)} {nx : Nat} {post : SV → S → Prop}
    (hf : P.funcs[f]? = some fn) (hb : fn.body = some c) (hlt : ∀ v ∈ avs, SV.lt nx v) (hn : avs.length ≤ fn.ntmps) {fr : List (Nat × SV)} (hfr : fr = enumL 0 avs)
    (hex : SemC P fn.ntmps nx c (retK ty fn.results.toList (Back nx post)) (retK ty fn.results.toList (Back nx post)) (fun _ _ => False) ⟨fr, hp, nx⟩) : Ct P f avs [] hp nx post := by
  intro β Z fp w hs
  rw [List.append_nil]
  refine entryC hty avs hp nx (Back nx post) hf hb hs hlt hn hfr hex fun v w' β' Z' fp' s' hN hp => ?_
  obtain ⟨ren, hp1, nx1, v1, h1, h2, h3⟩ := hp
  obtain ⟨g1, _, g3, g4⟩ := h1.sat (N := (0, [])) (a := { tmps := #[], defers := [] }) hN.sat ⟨fun t v h => (by cases h), fun t v h => (by cases h), rfl, rfl⟩
  obtain ⟨e1, e2⟩ := eqV_spec (β := β') h2 hN.lt
  exact ⟨v1, renE ren β', Z', _, ⟨[], hp1, nx1⟩, by rw [e1], ⟨fun id hid => (g3 id hid).trans (hN.env id hid), hN.ext, hN.zz, rfl, g4, g1, e2⟩, h3⟩
end Go.Fw

/-
  The built-in clear over a list of one's own; a list of one's own cut short.
-/
namespace Go.Fw
open Go
section
variable {P : Program} {ty : List (Nat × STy)}
theorem HSat.short {β : Env} {Z : Nat → Prop} {fp : Nat → Nat → Prop} {w : World} {id E sp n : Nat} {ek : EK} {xs ys : List ek.ty} (hs : HSat β Z fp ⟨[], [(id, .arr true E ek (xs ++ ys) sp)], n⟩ w) :
    HSat β Z fp ⟨[], [(id, .arr true E ek xs (ys.length + sp))], n⟩ w := by
  have hl : look [(id, SO.arr true E ek (xs ++ ys) sp)] id = some (.arr true E ek (xs ++ ys) sp) := by rw [look_cons, if_pos rfl]
  have := hs.put (o' := .arr true E ek xs (ys.length + sp)) hl (w' := w) (fun _ _ => rfl) rfl ?_ trivial
  · rw [upd_cons, if_pos rfl] at this
    exact this
  · have hok := hs.obj _ _ hl
    cases hb : β id with
    | none =>
      rw [hb] at hok
      obtain ⟨h1, h2⟩ := hok
      have h3 := List.append_eq_nil_iff.1 h1
      exact ⟨h3.1, by rw [h3.2, h2]; rfl⟩
    | some x' =>
      rw [hb] at hok
      obtain ⟨hsp, hfp, pre, post, hh, hpre, hpost⟩ := hok
      refine ⟨hsp, hfp, pre, flat ek ys ++ post, ?_, hpre, ?_⟩
      · rw [hh, flat_append]; simp [List.append_assoc]
      · rw [List.length_append, flat_length, Nat.add_mul]; omega
theorem Ct.short {f : Nat} {args : List SV} {ex : List Value} {hp : List (Nat × SO)} {m : Nat} {p q : SV → S → Prop} (h : Ct P f args ex hp m p)
    (hpq : ∀ v s, p v s → ∃ (id E sp : Nat) (ek : EK) (xs ys : List ek.ty), s.hp = [(id, .arr true E ek (xs ++ ys) sp)] ∧ q v ⟨s.fr, [(id, .arr true E ek xs (ys.length + sp))], s.nx⟩) : Ct P f args ex hp m q :=
  fun β Z fp w hs => (h β Z fp w hs).mono fun e w' ⟨v, β', Z', fp', s', h1, h2, h3⟩ => by
    obtain ⟨id, E, sp, ek, xs, ys, e1, h4⟩ := hpq v s' h3
    have hsat := h2.sat
    rw [e1] at hsat
    exact ⟨v, β', Z', fp', (⟨s'.fr, [(id, .arr true E ek xs (ys.length + sp))], s'.nx⟩ : S), h1, ⟨h2.env, h2.ext, h2.zz, h2.fr, h2.nx, HSat.short hsat, h2.lt⟩, h4⟩
end
end Go.Fw

/-
  A range over a function: the call of yield; the statement.
-/
namespace Go.Fw
open Go
def loopO (l : Nat) (r : Loop) : SO := .gen fun oa fp w => oa = some ⟨l, 0, none⟩ ∧ fp l ∧ w.heap[l]? = some (.loop r)
def markO (D : Nat) : SO := .gen fun oa fp w => oa = some ⟨D, 0, none⟩ ∧ fp D ∧ w.heap[D]? = some (.deferred (some []))
section
variable {P : Program} {ty : List (Nat × STy)} {β : Env} {Z : Nat → Prop} {fp : Nat → Nat → Prop} {s : S} {w : World}
theorem putObj_other {l : Nat} {o : Obj} {b : Nat} (h : b ≠ l) : (w.putObj l o).heap[b]? = w.heap[b]? := World.putObj_heap_other h
end
end Go.Fw

/-
  A function that ranges over a function, from its text.
-/
namespace Go.Fw
open Go
def junkO : SO := .gen fun _ _ _ => True
theorem junkO_ok {β : Env} {Z : Nat → Prop} {fp : Nat → Prop} {w : World} {oa : Option Addr} : junkO.ok β Z fp w oa := ⟨trivial, fun _ _ => trivial⟩
def EIt (n1 : Nat) (β1 : Env) : Env → Prop := fun β => ∀ id, id < n1 → β id = β1 id
structure RecOk (N : Nat) (fr : List (Nat × SV)) (β1 : Env) (n1 p q i1 : Nat) (ops1 : Array Oper) (i2 : Nat) (ops2 : Array Oper) (b i3 : Nat) (ops3 : Array Oper) (r : Loop) : Prop where
  rd : r.state = .ready
  pd : r.pending = none
  ps : r.params = #[p, q]
  has : r.assign = .seq (.region i1 ops1 false) (.region i2 ops2 false)
  bo : r.body = .block b (.region i3 ops3 false)
  sz : r.tmps.size = N
  fr : ∀ t v, look fr t = some v → r.tmps[t]? = some (v.den β1) ∧ v.lt n1
theorem HSat.junk {β : Env} {Z : Nat → Prop} {fp : Nat → Nat → Prop} {s : S} {w : World} (hs : HSat β Z fp s w) {id l : Nat} {o : SO} (x : Obj) (hl : look s.hp id = some o) (hfl : fp id l) : HSat β Z fp ⟨s.fr, upd s.hp id junkO, s.nx⟩ (w.putObj l x) :=
  hs.put hl (fun b hb => putObj_other (fun e => hb (e ▸ hfl))) (by simp [World.putObj]) junkO_ok trivial
def markK (ty : List (Nat × STy)) (rs : List ResultVar) (n0 mid D : Nat) (post : SV → S → Prop) (s : S) : Prop :=
  Ob (look s.hp mid = some (markO D)) (updK s.hp mid junkO fun hp => retK ty rs (Back n0 post) ⟨s.fr, hp, s.nx⟩)
end Go.Fw

/-
  A range over a function whose head stands in one part with the region before it; an own empty list handed on.
-/
namespace Go.Fw
open Go
end Go.Fw

/-
  A part of a lent list handed on.
-/
namespace Go.Fw
open Go
theorem adr_zero (a : Addr) : a.add 0 = a := by simp [Addr.add]
theorem flat_part (k : EK) (xs : List k.ty) (lo n j : Nat) (v : Value) (h : lo + n ≤ xs.length) (hj : (flat k (sub xs lo n))[j]? = some v) : (flat k xs)[lo * k.sz + j]? = some v := by
  have e1 : xs = xs.take lo ++ (sub xs lo n ++ xs.drop (lo + n)) := by
    unfold sub
    rw [show xs.drop (lo + n) = (xs.drop lo).drop n by rw [List.drop_drop], List.take_append_drop, List.take_append_drop]
  have e2 : (flat k (xs.take lo)).length = lo * k.sz := by rw [flat_length, List.length_take, Nat.min_eq_left (by omega)]
  have hlt : j < (flat k (sub xs lo n)).length := by
    rcases Nat.lt_or_ge j (flat k (sub xs lo n)).length with h' | h'
    · exact h'
    · rw [List.getElem?_eq_none h'] at hj; cases hj
  rw [e1, flat_append, flat_append, List.getElem?_append_right (by omega), List.getElem?_append_left (by omega), ← hj, e2]
  congr 1
  omega
theorem callSub {P : Program} {f : Nat} {args args' : List SV} {ex : List Value} {s : S} {k : S → SV → Prop} (id lo n : Nat) {E : Nat} {ek : EK} {xs : List ek.ty} (hl : look s.hp id = some (.arr false E ek xs 0)) (hlo : lo + n ≤ xs.length)
    (ha : ∀ β : Env, args'.map (SV.den (β.add s.nx ((β id).map fun a => a.add (lo * ek.sz)))) = args.map (SV.den β))
    (h : s.go fun fr hp nx => CallK P f args' ex ⟨fr, (nx, .arr false E ek (sub xs lo n) 0) :: hp, nx + 1⟩ k) : CallK P f args ex s k := by
  rw [S.go_eq] at h
  unfold CallK at h ⊢
  refine ⟨h.1, fun β Z fp w hs => ?_⟩
  have hok : SO.ok (β.add s.nx ((β id).map fun a => a.add (lo * ek.sz))) Z (fun _ => False) w ((β id).map fun a => a.add (lo * ek.sz)) (.arr false E ek (sub xs lo n) 0) := by
    have ho := hs.obj _ _ hl
    cases hb : β id with
    | none =>
      rw [hb] at ho
      obtain ⟨rfl, _⟩ := ho
      exact ⟨by simp [sub], rfl⟩
    | some a =>
      rw [hb] at ho
      by_cases hne : sub xs lo n = []
      · intro hc
        exact absurd hne hc
      · have hx : xs ≠ [] := by rintro rfl; exact hne (by simp [sub])
        obtain ⟨h1, h2, h3, h4⟩ := ho hx
        obtain ⟨b, o, sp⟩ := a
        cases h1
        show SO.ok _ Z _ w (some (Addr.add ⟨b, o, none⟩ (lo * ek.sz))) _
        rw [Addr.add_lit]
        intro _
        refine ⟨rfl, h2, h3, fun j v hj => ?_⟩
        have := h4 _ v (flat_part ek xs lo n j v hlo hj)
        rw [Addr.add_lit] at this ⊢
        rw [Nat.add_assoc]
        exact this
  have hs' := hs.add (o := .arr false E ek (sub xs lo n) 0) (x := (β id).map fun a => a.add (lo * ek.sz)) (q := fun _ => False) (fun _ _ => rfl) (Nat.le_refl _) (fun _ h => h.elim) hok trivial
  have hc := h.2 _ _ _ w hs'
  rw [ha] at hc
  refine hc.mono ?_
  rintro e w' ⟨v, β', Z', fp', s', rfl, hn, hk⟩
  exact ⟨v, β', Z', fp', s', rfl, ⟨fun id hid => (hn.env id (Nat.lt_succ_of_lt hid)).trans (Env.add_lt id hid), hn.ext, hn.zz, hn.fr, Nat.le_of_succ_le hn.nx, hn.sat, hn.lt⟩, hk⟩
end Go.Fw

/-
  Two pools of ints behind a call: one pool.
-/
namespace Go.Fw
open Go
section
variable {P : Program} {β : Env} {Z : Nat → Prop} {fp : Nat → Nat → Prop} {s : S} {w : World}
end
end Go.Fw

/-
  A region's operations one by one: a sum that may overflow.
-/
namespace Go.Fw
open Go
def SemL (P : Program) (N n0 : Nat) (whole l : List Oper) (kn : S → Prop) (s : S) : Prop :=
  ∀ (C : Ctx), C.N = N → C.n0 = n0 → ∀ (ro : Option Nat) (n : Nat) (Q : Exit → Act → World → Prop) (a : Act) (w : World), Sat C s a w → (∀ s a w, kn s → Sat C s a w → Q .normal a w) → wpListIn (fnc ro) n P whole.toArray Q l a w
section
variable {P : Program} {ty : List (Nat × STy)} {N n0 : Nat} {whole : List Oper} {kn : S → Prop}
theorem SemL.of (hty : TyOk P ty) {l : List Oper} {s : S} (h : runOps P ty N AnyE whole l s kn) : SemL P N n0 whole l kn s := by
  intro C hN h0 ro n Q a w hs hQ
  subst hN h0
  exact runOps_sound hty (C := C) (E := AnyE) (fun _ _ => trivial) ro n whole l s kn a w h hs hQ
theorem SemL.sub {l : List Oper} {s s1 : S} {ren : List (Nat × Option Nat)} (h : SemL P N n0 whole l kn s1) (hs : Sub n0 ren s1 s) : SemL P N n0 whole l kn s := by
  intro C hN h0 ro n Q a w hsat hQ
  subst h0
  exact h C hN rfl ro n Q a w (hsat.sub hs) hQ
end
section
variable {P : Program} {ty : List (Nat × STy)} {N n0 : Nat} {whole : List Oper} {kn : S → Prop}
end
end Go.Fw

/-
  An own list goes into a pool ahead of a call that is handed it.
-/
namespace Go.Fw
open Go
theorem callFrz {P : Program} {f : Nat} {args : List SV} {ex : List Value} {s : S} {k : S → SV → Prop} (id pid ln cap : Nat) (args' : Sli → List SV) (hcf : ∀ args w, (callFunc f args).run P w = .ok (.enter f args) w)
    (ha : ∀ (β : Env) (y : Sli), SC.den β (.h y) = .slice (β id) ln cap → (args' y).map (SV.den β) = args.map (SV.den β))
    (h : s.go fun fr hp nx => match look hp id, look hp pid with
      | some (.arr true E0 k0 xs sp), some (.pool E1 k1 m) => match EK.cast k0 k1 xs, Nat.beq E0 E1, Nat.beq id pid with
        | some xs', true, false => Ob (ln = xs.length ∧ cap ≤ xs.length + sp) (∀ m' y, Frz m xs' sp ln cap m' y → delC hp id fun hp1 => updK hp1 pid (.pool E1 k1 m') fun hp2 => CallK P f (args' y) ex ⟨fr, hp2, nx⟩ k)
        | _, _, _ => False
      | _, _ => False) : CallK P f args ex s k := by
  rw [S.go_eq] at h
  split at h <;> try exact h.elim
  rename_i E0 k0 xs sp E1 k1 m hl hpl
  split at h <;> try exact h.elim
  rename_i xs' hcast hE0 hne
  rw [nbeq, decide_eq_true_eq] at hE0
  rw [nbeq, decide_eq_false_iff_not] at hne
  subst hE0
  obtain ⟨e, he⟩ := EK.cast_spec hcast
  subst e
  change xs' = xs at he
  subst he
  obtain ⟨⟨hln, hcap⟩, h⟩ := h
  simp only [delC_iff, updK_iff] at h
  unfold CallK
  refine ⟨hcf, fun β Z fp w hs => ?_⟩
  have hpool : PoolOk (fp pid) w E0 k0 m := hs.obj _ _ hpl
  obtain ⟨m', y, hy, hfr, hpk⟩ : ∃ m' y, SC.den β (.h y) = .slice (β id) ln cap ∧ Frz m xs' sp ln cap m' y ∧ PoolOk (fun b => fp pid b ∨ fp id b) w E0 k0 m' := by
    have hok := hs.obj _ _ hl
    cases hb : β id with
    | none =>
      rw [hb] at hok
      obtain ⟨rfl, rfl⟩ := hok
      refine ⟨m, ⟨none, ln, cap⟩, rfl, .nil rfl, ⟨fun b xs sp hb => ?_, hpool.one⟩⟩
      obtain ⟨t1, t2, t3⟩ := hpool.row b xs sp hb
      exact ⟨t1, .inl t2, t3⟩
    | some x' =>
      rw [hb] at hok
      obtain ⟨hsp, hfp, pre, post, hh, hpre, hpost⟩ := hok
      have hnb : ∀ b z, lkA m b = some z → b.block ≠ x'.block := by
        intro b z hq e
        have := (hpool.row _ z.1 z.2 hq).2.1
        rw [e] at this
        exact hs.sep pid id _ _ hpl hl (fun e => hne e.symm) _ this hfp
      refine ⟨(x', xs', sp) :: m, ⟨some x', ln, cap⟩, rfl, .own ?_ hnb, ?_⟩
      · cases hq : lkA m x' with
        | none => rfl
        | some q => exact absurd rfl (hnb _ _ hq)
      · exact hpool.cons (y := (xs', sp)) hnb (fun _ _ => rfl) (fun _ hb => .inl hb) hsp (.inr hfp) ⟨pre, post, hh, hpre, hpost⟩
  have hgo := h m' y hfr
  have hs1 := hs.merge (p' := .pool E0 k0 m') hl hpl hne hpk trivial
  unfold CallK at hgo
  have hc := hgo.2 _ _ _ w hs1
  rw [ha β y hy] at hc
  refine hc.mono ?_
  rintro e w' ⟨v, β', Z', fp', s', rfl, hn, hk⟩
  exact ⟨v, β', Z', fp', s', rfl, ⟨hn.env, hn.ext, hn.zz, hn.fr, hn.nx, hn.sat, hn.lt⟩, hk⟩
end Go.Fw

/-
  The types of the program as the executor sees them. (Printed by gentypes.py.)
-/
namespace Go.Fw
open Go Go.Proofs
def Tryd.ty : List (Nat × STy) := [
  (3, ⟨1, false, [], [.i 0], none, none⟩),
  (4, ⟨2, false, [], [.b false], none, none⟩),
  (9, ⟨3, false, [], [.v (.string ⟨#[]⟩)], none, none⟩),
  (22, ⟨6, false, [], [.v (.slice none 0 0)], some (3, .int, 8), none⟩),
  (23, ⟨6, false, [], [.v (.slice none 0 0)], some (50, .arc, 40), none⟩),
  (25, ⟨5, true, [(0, 1), (1, 1), (2, 1), (3, 1)], [.i 0, .i 0, .v (.slice none 0 0), .v (.slice none 0 0)], none, none⟩),
  (26, ⟨1, false, [], [.i 0], none, none⟩),
  (34, ⟨6, false, [], [.v (.slice none 0 0)], some (22, .sli, 24), none⟩),
  (36, ⟨5, true, [(0, 4), (4, 1), (5, 1), (6, 1)], [.i 0, .i 0, .v (.slice none 0 0), .v (.slice none 0 0), .v (.slice none 0 0), .v (.slice none 0 0), .v (.slice none 0 0)], none, none⟩),
  (50, ⟨7, true, [(0, 1), (1, 1), (2, 1), (3, 1), (4, 1)], [.i 0, .i 0, .i 0, .i 0, .i 0], none, none⟩),
  (52, ⟨6, false, [], [.v (.slice none 0 0)], some (4, .bool, 1), none⟩),
  (62, ⟨0, false, [], [.v (.pointer none)], none, none⟩),
  (64, ⟨7, true, [(0, 1), (1, 1), (2, 1)], [.i 0, .i 0, .i 0], none, none⟩),
  (75, ⟨0, false, [], [.v (.pointer none)], none, none⟩),
  (76, ⟨0, false, [], [.v (.map none)], none, some (9, .str, 3, .int)⟩),
  (77, ⟨6, false, [], [.v (.slice none 0 0)], some (82, .sli, 24), none⟩),
  (79, ⟨5, true, [(0, 4), (4, 1), (5, 1), (6, 4)], [.i 0, .i 0, .v (.slice none 0 0), .v (.slice none 0 0), .v (.map none), .v (.slice none 0 0), .i 0, .i 0, .v (.slice none 0 0), .v (.slice none 0 0)], none, none⟩),
  (80, ⟨7, true, [(0, 1), (1, 1)], [.i 0, .i 0], none, none⟩),
  (81, ⟨6, false, [], [.v (.slice none 0 0)], some (80, .duo, 16), none⟩),
  (82, ⟨6, false, [], [.v (.slice none 0 0)], some (80, .duo, 16), none⟩),
  (87, ⟨0, false, [], [.v (.pointer none)], none, none⟩),
  (88, ⟨0, false, [], [.v (.map none)], none, some (64, .trip, 87, .adr)⟩),
  (90, ⟨5, true, [(0, 4), (4, 1), (5, 1), (6, 1), (7, 1)], [.i 0, .i 0, .v (.slice none 0 0), .v (.slice none 0 0), .v (.slice none 0 0), .v (.slice none 0 0), .v (.slice none 0 0), .v (.map none)], none, none⟩),
  (92, ⟨5, true, [(0, 1), (1, 1), (2, 3), (5, 1)], [.i 0, .i 0, .i 0, .i 0, .i 0, .b false], none, none⟩),
  (98, ⟨0, false, [], [.v (.pointer none)], none, none⟩),
  (99, ⟨0, false, [], [.v (.map none)], none, some (3, .int, 3, .int)⟩),
  (101, ⟨5, true, [(0, 4), (4, 1), (5, 1), (6, 1), (7, 4)], [.i 0, .i 0, .v (.slice none 0 0), .v (.slice none 0 0), .v (.slice none 0 0), .v (.map none), .v (.slice none 0 0), .i 0, .i 0, .v (.slice none 0 0), .v (.slice none 0 0)], none, none⟩),
  (120, ⟨0, false, [], [.v (.pointer none)], none, none⟩),
  (126, ⟨4, false, [], [.u 0], none, none⟩),
  (135, ⟨4, false, [], [.u 0], none, none⟩)]
set_option maxRecDepth 100000 in
theorem Tryd.cmp50 : CmpOk Tryd.prog 50 5 := by
    refine ⟨fun op x y xs ys w => run_eqGuard_agg w op 50 x y xs ys (by kernel_rfl), fun l m w hl hm => ?_⟩
    have h3 : Tryd.prog.underlying 3 = some (.int .i64) := by kernel_rfl
    have hp : ∀ (cs : Array Value) (i : Nat) (v : Value) (w : World), cs[i]? = some v → (part 3 cs i).run Tryd.prog w = .ok v w := by
      intro cs i v w h
      simp [part, (by kernel_rfl : (isAgg 3).run Tryd.prog w = .ok false w), h]
    have hi : ∀ (a b : Int) (w : World), (Op.equalIn 9999 3 (.int .i64 a) (.int .i64 b)).run Tryd.prog w = .ok (a == b) w := fun a b w => run_equalIn_int w 9998 3 .i64 .i64 a b h3
    match l, m, hl, hm with
    | [a0, a1, a2, a3, a4], [b0, b1, b2, b3, b4], _, _ =>
      rw [run_equalIn_struct w 9999 50 _ _ (by kernel_rfl) (by kernel_rfl)]
      unfold Program.fieldsOf
      rw [Tryd.underlying50]
      generalize hA : (List.map (Value.int .i64) [a0, a1, a2, a3, a4]).toArray = A
      generalize hB : (List.map (Value.int .i64) [b0, b1, b2, b3, b4]).toArray = B
      have g : ∀ (i : Nat) (x y : Int) (w : World) (r : Sem Bool), A[i]? = some (.int .i64 x) → B[i]? = some (.int .i64 y) → ((do let a ← part 3 A i; let b ← part 3 B i; let r' ← Op.equalIn 9999 3 a b; if (!r') = true then pure false else r : Sem Bool)).run Tryd.prog w = if x = y then r.run Tryd.prog w else .ok false w := by
        intro i x y w r h1 h2
        by_cases hxy : x = y <;> simp [hp A i _ w h1, hp B i _ w h2, hi, hxy]
      subst hA hB
      simp only [Op.eqFields, ne_eq, String.reduceEq, not_false_eq_true, if_true]
      rw [g 0 a0 b0 w _ rfl rfl, g 1 a1 b1 w _ rfl rfl, g 2 a2 b2 w _ rfl rfl, g 3 a3 b3 w _ rfl rfl, g 4 a4 b4 w _ rfl rfl]
      by_cases h0 : a0 = b0 <;> by_cases h1 : a1 = b1 <;> by_cases h2 : a2 = b2 <;> by_cases h3 : a3 = b3 <;> by_cases h4 : a4 = b4 <;> simp [h0, h1, h2, h3, h4]
set_option maxRecDepth 100000 in
theorem Tryd.cmp64 : CmpOk Tryd.prog 64 3 := by
    refine ⟨fun op x y xs ys w => run_eqGuard_agg w op 64 x y xs ys (by kernel_rfl), fun l m w hl hm => ?_⟩
    have h3 : Tryd.prog.underlying 3 = some (.int .i64) := by kernel_rfl
    have hp : ∀ (cs : Array Value) (i : Nat) (v : Value) (w : World), cs[i]? = some v → (part 3 cs i).run Tryd.prog w = .ok v w := by
      intro cs i v w h
      simp [part, (by kernel_rfl : (isAgg 3).run Tryd.prog w = .ok false w), h]
    have hi : ∀ (a b : Int) (w : World), (Op.equalIn 9999 3 (.int .i64 a) (.int .i64 b)).run Tryd.prog w = .ok (a == b) w := fun a b w => run_equalIn_int w 9998 3 .i64 .i64 a b h3
    match l, m, hl, hm with
    | [a0, a1, a2], [b0, b1, b2], _, _ =>
      rw [run_equalIn_struct w 9999 64 _ _ (by kernel_rfl) (by kernel_rfl)]
      unfold Program.fieldsOf
      rw [Tryd.underlying64]
      generalize hA : (List.map (Value.int .i64) [a0, a1, a2]).toArray = A
      generalize hB : (List.map (Value.int .i64) [b0, b1, b2]).toArray = B
      have g : ∀ (i : Nat) (x y : Int) (w : World) (r : Sem Bool), A[i]? = some (.int .i64 x) → B[i]? = some (.int .i64 y) → ((do let a ← part 3 A i; let b ← part 3 B i; let r' ← Op.equalIn 9999 3 a b; if (!r') = true then pure false else r : Sem Bool)).run Tryd.prog w = if x = y then r.run Tryd.prog w else .ok false w := by
        intro i x y w r h1 h2
        by_cases hxy : x = y <;> simp [hp A i _ w h1, hp B i _ w h2, hi, hxy]
      subst hA hB
      simp only [Op.eqFields, ne_eq, String.reduceEq, not_false_eq_true, if_true]
      rw [g 0 a0 b0 w _ rfl rfl, g 1 a1 b1 w _ rfl rfl, g 2 a2 b2 w _ rfl rfl]
      by_cases h0 : a0 = b0 <;> by_cases h1 : a1 = b1 <;> by_cases h2 : a2 = b2 <;> simp [h0, h1, h2]
set_option maxRecDepth 100000 in
theorem Tryd.cmp80 : CmpOk Tryd.prog 80 2 := by
    refine ⟨fun op x y xs ys w => run_eqGuard_agg w op 80 x y xs ys (by kernel_rfl), fun l m w hl hm => ?_⟩
    have h3 : Tryd.prog.underlying 3 = some (.int .i64) := by kernel_rfl
    have hp : ∀ (cs : Array Value) (i : Nat) (v : Value) (w : World), cs[i]? = some v → (part 3 cs i).run Tryd.prog w = .ok v w := by
      intro cs i v w h
      simp [part, (by kernel_rfl : (isAgg 3).run Tryd.prog w = .ok false w), h]
    have hi : ∀ (a b : Int) (w : World), (Op.equalIn 9999 3 (.int .i64 a) (.int .i64 b)).run Tryd.prog w = .ok (a == b) w := fun a b w => run_equalIn_int w 9998 3 .i64 .i64 a b h3
    match l, m, hl, hm with
    | [a0, a1], [b0, b1], _, _ =>
      rw [run_equalIn_struct w 9999 80 _ _ (by kernel_rfl) (by kernel_rfl)]
      unfold Program.fieldsOf
      rw [Tryd.underlying80]
      generalize hA : (List.map (Value.int .i64) [a0, a1]).toArray = A
      generalize hB : (List.map (Value.int .i64) [b0, b1]).toArray = B
      have g : ∀ (i : Nat) (x y : Int) (w : World) (r : Sem Bool), A[i]? = some (.int .i64 x) → B[i]? = some (.int .i64 y) → ((do let a ← part 3 A i; let b ← part 3 B i; let r' ← Op.equalIn 9999 3 a b; if (!r') = true then pure false else r : Sem Bool)).run Tryd.prog w = if x = y then r.run Tryd.prog w else .ok false w := by
        intro i x y w r h1 h2
        by_cases hxy : x = y <;> simp [hp A i _ w h1, hp B i _ w h2, hi, hxy]
      subst hA hB
      simp only [Op.eqFields, ne_eq, String.reduceEq, not_false_eq_true, if_true]
      rw [g 0 a0 b0 w _ rfl rfl, g 1 a1 b1 w _ rfl rfl]
      by_cases h0 : a0 = b0 <;> by_cases h1 : a1 = b1 <;> simp [h0, h1]
set_option maxRecDepth 100000 in
theorem Tryd.tyOk3 : TyOk1 Tryd.prog 3 ⟨1, false, [], [.i 0], none, none⟩ where
  agg _ := by kernel_rfl
  size _ := by kernel_rfl
  zero _ := by kernel_rfl
  one _ := ⟨_, rfl⟩
  zlt := by simp [SC.lt]
  str h := by cases h
  bt h := by cases h
  sl _ _ _ h := by cases h
  mp _ _ _ _ h := by cases h
  kd1 _ := by kernel_rfl
  kd2 h := by cases h
  kd3 h := by cases h
  kd4 h := by cases h
  cmp h := by cases h
set_option maxRecDepth 100000 in
theorem Tryd.tyOk4 : TyOk1 Tryd.prog 4 ⟨2, false, [], [.b false], none, none⟩ where
  agg _ := by kernel_rfl
  size _ := by kernel_rfl
  zero _ := by kernel_rfl
  one _ := ⟨_, rfl⟩
  zlt := by simp [SC.lt]
  str h := by cases h
  bt h := by cases h
  sl _ _ _ h := by cases h
  mp _ _ _ _ h := by cases h
  kd1 h := by cases h
  kd2 _ := by kernel_rfl
  kd3 h := by cases h
  kd4 h := by cases h
  cmp h := by cases h
set_option maxRecDepth 100000 in
theorem Tryd.tyOk9 : TyOk1 Tryd.prog 9 ⟨3, false, [], [.v (.string ⟨#[]⟩)], none, none⟩ where
  agg _ := by kernel_rfl
  size _ := by kernel_rfl
  zero _ := by kernel_rfl
  one _ := ⟨_, rfl⟩
  zlt := by simp [SC.lt, Value.oneCell']
  str h := by cases h
  bt h := by cases h
  sl _ _ _ h := by cases h
  mp _ _ _ _ h := by cases h
  kd1 h := by cases h
  kd2 h := by cases h
  kd3 _ := by kernel_rfl
  kd4 h := by cases h
  cmp h := by cases h
set_option maxRecDepth 100000 in
theorem Tryd.tyOk22 : TyOk1 Tryd.prog 22 ⟨6, false, [], [.v (.slice none 0 0)], some (3, .int, 8), none⟩ where
  agg _ := by kernel_rfl
  size _ := by kernel_rfl
  zero _ := by kernel_rfl
  one _ := ⟨_, rfl⟩
  zlt := by simp [SC.lt, Value.oneCell']
  str h := by cases h
  bt h := by cases h
  sl _ _ _ h := by cases h; exact ⟨by kernel_rfl, fun _ => by kernel_rfl, Tryd.t3, _, by kernel_rfl, rfl, rfl, rfl, rfl⟩
  mp _ _ _ _ h := by cases h
  kd1 h := by cases h
  kd2 h := by cases h
  kd3 h := by cases h
  kd4 h := by cases h
  cmp h := by cases h
set_option maxRecDepth 100000 in
theorem Tryd.tyOk23 : TyOk1 Tryd.prog 23 ⟨6, false, [], [.v (.slice none 0 0)], some (50, .arc, 40), none⟩ where
  agg _ := by kernel_rfl
  size _ := by kernel_rfl
  zero _ := by kernel_rfl
  one _ := ⟨_, rfl⟩
  zlt := by simp [SC.lt, Value.oneCell']
  str h := by cases h
  bt h := by cases h
  sl _ _ _ h := by cases h; exact ⟨by kernel_rfl, fun _ => by kernel_rfl, Tryd.t50, _, by kernel_rfl, rfl, rfl, rfl, rfl⟩
  mp _ _ _ _ h := by cases h
  kd1 h := by cases h
  kd2 h := by cases h
  kd3 h := by cases h
  kd4 h := by cases h
  cmp h := by cases h
set_option maxRecDepth 100000 in
theorem Tryd.tyOk25 : TyOk1 Tryd.prog 25 ⟨5, true, [(0, 1), (1, 1), (2, 1), (3, 1)], [.i 0, .i 0, .v (.slice none 0 0), .v (.slice none 0 0)], none, none⟩ where
  agg _ := by kernel_rfl
  size _ := by kernel_rfl
  zero _ := by kernel_rfl
  one h := by cases h
  zlt := by simp [SC.lt, Value.oneCell']
  str _ := by
    refine ⟨_, Tryd.underlying25, ?_⟩
    intro i p h
    match i, h with
    | 0, h => cases h; exact ⟨_, rfl, rfl, fun _ => by kernel_rfl, by decide⟩
    | 1, h => cases h; exact ⟨_, rfl, rfl, fun _ => by kernel_rfl, by decide⟩
    | 2, h => cases h; exact ⟨_, rfl, rfl, fun _ => by kernel_rfl, by decide⟩
    | 3, h => cases h; exact ⟨_, rfl, rfl, fun _ => by kernel_rfl, by decide⟩
    | n + 4, h => simp at h
  bt _ parts := by kernel_rfl
  sl _ _ _ h := by cases h
  mp _ _ _ _ h := by cases h
  kd1 h := by cases h
  kd2 h := by cases h
  kd3 h := by cases h
  kd4 h := by cases h
  cmp h := by cases h
set_option maxRecDepth 100000 in
theorem Tryd.tyOk26 : TyOk1 Tryd.prog 26 ⟨1, false, [], [.i 0], none, none⟩ where
  agg _ := by kernel_rfl
  size _ := by kernel_rfl
  zero _ := by kernel_rfl
  one _ := ⟨_, rfl⟩
  zlt := by simp [SC.lt]
  str h := by cases h
  bt h := by cases h
  sl _ _ _ h := by cases h
  mp _ _ _ _ h := by cases h
  kd1 _ := by kernel_rfl
  kd2 h := by cases h
  kd3 h := by cases h
  kd4 h := by cases h
  cmp h := by cases h
set_option maxRecDepth 100000 in
theorem Tryd.tyOk34 : TyOk1 Tryd.prog 34 ⟨6, false, [], [.v (.slice none 0 0)], some (22, .sli, 24), none⟩ where
  agg _ := by kernel_rfl
  size _ := by kernel_rfl
  zero _ := by kernel_rfl
  one _ := ⟨_, rfl⟩
  zlt := by simp [SC.lt, Value.oneCell']
  str h := by cases h
  bt h := by cases h
  sl _ _ _ h := by cases h; exact ⟨by kernel_rfl, fun _ => by kernel_rfl, Tryd.t22, _, by kernel_rfl, rfl, rfl, rfl, rfl⟩
  mp _ _ _ _ h := by cases h
  kd1 h := by cases h
  kd2 h := by cases h
  kd3 h := by cases h
  kd4 h := by cases h
  cmp h := by cases h
set_option maxRecDepth 100000 in
theorem Tryd.tyOk36 : TyOk1 Tryd.prog 36 ⟨5, true, [(0, 4), (4, 1), (5, 1), (6, 1)], [.i 0, .i 0, .v (.slice none 0 0), .v (.slice none 0 0), .v (.slice none 0 0), .v (.slice none 0 0), .v (.slice none 0 0)], none, none⟩ where
  agg _ := by kernel_rfl
  size _ := by kernel_rfl
  zero _ := by kernel_rfl
  one h := by cases h
  zlt := by simp [SC.lt, Value.oneCell']
  str _ := by
    refine ⟨_, Tryd.underlying36, ?_⟩
    intro i p h
    match i, h with
    | 0, h => cases h; exact ⟨_, rfl, rfl, fun _ => by kernel_rfl, by decide⟩
    | 1, h => cases h; exact ⟨_, rfl, rfl, fun _ => by kernel_rfl, by decide⟩
    | 2, h => cases h; exact ⟨_, rfl, rfl, fun _ => by kernel_rfl, by decide⟩
    | 3, h => cases h; exact ⟨_, rfl, rfl, fun _ => by kernel_rfl, by decide⟩
    | n + 4, h => simp at h
  bt _ parts := by kernel_rfl
  sl _ _ _ h := by cases h
  mp _ _ _ _ h := by cases h
  kd1 h := by cases h
  kd2 h := by cases h
  kd3 h := by cases h
  kd4 h := by cases h
  cmp h := by cases h
set_option maxRecDepth 100000 in
theorem Tryd.tyOk50 : TyOk1 Tryd.prog 50 ⟨7, true, [(0, 1), (1, 1), (2, 1), (3, 1), (4, 1)], [.i 0, .i 0, .i 0, .i 0, .i 0], none, none⟩ where
  agg _ := by kernel_rfl
  size _ := by kernel_rfl
  zero _ := by kernel_rfl
  one h := by cases h
  zlt := by simp [SC.lt]
  str _ := by
    refine ⟨_, Tryd.underlying50, ?_⟩
    intro i p h
    match i, h with
    | 0, h => cases h; exact ⟨_, rfl, rfl, fun _ => by kernel_rfl, by decide⟩
    | 1, h => cases h; exact ⟨_, rfl, rfl, fun _ => by kernel_rfl, by decide⟩
    | 2, h => cases h; exact ⟨_, rfl, rfl, fun _ => by kernel_rfl, by decide⟩
    | 3, h => cases h; exact ⟨_, rfl, rfl, fun _ => by kernel_rfl, by decide⟩
    | 4, h => cases h; exact ⟨_, rfl, rfl, fun _ => by kernel_rfl, by decide⟩
    | n + 5, h => simp at h
  bt _ parts := by kernel_rfl
  sl _ _ _ h := by cases h
  mp _ _ _ _ h := by cases h
  kd1 h := by cases h
  kd2 h := by cases h
  kd3 h := by cases h
  kd4 h := by cases h
  cmp _ := Tryd.cmp50
set_option maxRecDepth 100000 in
theorem Tryd.tyOk52 : TyOk1 Tryd.prog 52 ⟨6, false, [], [.v (.slice none 0 0)], some (4, .bool, 1), none⟩ where
  agg _ := by kernel_rfl
  size _ := by kernel_rfl
  zero _ := by kernel_rfl
  one _ := ⟨_, rfl⟩
  zlt := by simp [SC.lt, Value.oneCell']
  str h := by cases h
  bt h := by cases h
  sl _ _ _ h := by cases h; exact ⟨by kernel_rfl, fun _ => by kernel_rfl, Tryd.t4, _, by kernel_rfl, rfl, rfl, rfl, rfl⟩
  mp _ _ _ _ h := by cases h
  kd1 h := by cases h
  kd2 h := by cases h
  kd3 h := by cases h
  kd4 h := by cases h
  cmp h := by cases h
set_option maxRecDepth 100000 in
theorem Tryd.tyOk62 : TyOk1 Tryd.prog 62 ⟨0, false, [], [.v (.pointer none)], none, none⟩ where
  agg _ := by kernel_rfl
  size _ := by kernel_rfl
  zero _ := by kernel_rfl
  one _ := ⟨_, rfl⟩
  zlt := by simp [SC.lt, Value.oneCell']
  str h := by cases h
  bt h := by cases h
  sl _ _ _ h := by cases h
  mp _ _ _ _ h := by cases h
  kd1 h := by cases h
  kd2 h := by cases h
  kd3 h := by cases h
  kd4 h := by cases h
  cmp h := by cases h
set_option maxRecDepth 100000 in
theorem Tryd.tyOk64 : TyOk1 Tryd.prog 64 ⟨7, true, [(0, 1), (1, 1), (2, 1)], [.i 0, .i 0, .i 0], none, none⟩ where
  agg _ := by kernel_rfl
  size _ := by kernel_rfl
  zero _ := by kernel_rfl
  one h := by cases h
  zlt := by simp [SC.lt]
  str _ := by
    refine ⟨_, Tryd.underlying64, ?_⟩
    intro i p h
    match i, h with
    | 0, h => cases h; exact ⟨_, rfl, rfl, fun _ => by kernel_rfl, by decide⟩
    | 1, h => cases h; exact ⟨_, rfl, rfl, fun _ => by kernel_rfl, by decide⟩
    | 2, h => cases h; exact ⟨_, rfl, rfl, fun _ => by kernel_rfl, by decide⟩
    | n + 3, h => simp at h
  bt _ parts := by kernel_rfl
  sl _ _ _ h := by cases h
  mp _ _ _ _ h := by cases h
  kd1 h := by cases h
  kd2 h := by cases h
  kd3 h := by cases h
  kd4 h := by cases h
  cmp _ := Tryd.cmp64
set_option maxRecDepth 100000 in
theorem Tryd.tyOk75 : TyOk1 Tryd.prog 75 ⟨0, false, [], [.v (.pointer none)], none, none⟩ where
  agg _ := by kernel_rfl
  size _ := by kernel_rfl
  zero _ := by kernel_rfl
  one _ := ⟨_, rfl⟩
  zlt := by simp [SC.lt, Value.oneCell']
  str h := by cases h
  bt h := by cases h
  sl _ _ _ h := by cases h
  mp _ _ _ _ h := by cases h
  kd1 h := by cases h
  kd2 h := by cases h
  kd3 h := by cases h
  kd4 h := by cases h
  cmp h := by cases h
set_option maxRecDepth 100000 in
theorem Tryd.tyOk76 : TyOk1 Tryd.prog 76 ⟨0, false, [], [.v (.map none)], none, some (9, .str, 3, .int)⟩ where
  agg _ := by kernel_rfl
  size _ := by kernel_rfl
  zero _ := by kernel_rfl
  one _ := ⟨_, rfl⟩
  zlt := by simp [SC.lt, Value.oneCell']
  str h := by cases h
  bt h := by cases h
  sl _ _ _ h := by cases h
  mp _ _ _ _ h := by
    cases h
    exact mapOk_str (by kernel_rfl) (by kernel_rfl) (fun _ => by kernel_rfl)
  kd1 h := by cases h
  kd2 h := by cases h
  kd3 h := by cases h
  kd4 h := by cases h
  cmp h := by cases h
set_option maxRecDepth 100000 in
theorem Tryd.tyOk77 : TyOk1 Tryd.prog 77 ⟨6, false, [], [.v (.slice none 0 0)], some (82, .sli, 24), none⟩ where
  agg _ := by kernel_rfl
  size _ := by kernel_rfl
  zero _ := by kernel_rfl
  one _ := ⟨_, rfl⟩
  zlt := by simp [SC.lt, Value.oneCell']
  str h := by cases h
  bt h := by cases h
  sl _ _ _ h := by cases h; exact ⟨by kernel_rfl, fun _ => by kernel_rfl, Tryd.t82, _, by kernel_rfl, rfl, rfl, rfl, rfl⟩
  mp _ _ _ _ h := by cases h
  kd1 h := by cases h
  kd2 h := by cases h
  kd3 h := by cases h
  kd4 h := by cases h
  cmp h := by cases h
set_option maxRecDepth 100000 in
theorem Tryd.tyOk79 : TyOk1 Tryd.prog 79 ⟨5, true, [(0, 4), (4, 1), (5, 1), (6, 4)], [.i 0, .i 0, .v (.slice none 0 0), .v (.slice none 0 0), .v (.map none), .v (.slice none 0 0), .i 0, .i 0, .v (.slice none 0 0), .v (.slice none 0 0)], none, none⟩ where
  agg _ := by kernel_rfl
  size _ := by kernel_rfl
  zero _ := by kernel_rfl
  one h := by cases h
  zlt := by simp [SC.lt, Value.oneCell']
  str _ := by
    refine ⟨_, Tryd.underlying79, ?_⟩
    intro i p h
    match i, h with
    | 0, h => cases h; exact ⟨_, rfl, rfl, fun _ => by kernel_rfl, by decide⟩
    | 1, h => cases h; exact ⟨_, rfl, rfl, fun _ => by kernel_rfl, by decide⟩
    | 2, h => cases h; exact ⟨_, rfl, rfl, fun _ => by kernel_rfl, by decide⟩
    | 3, h => cases h; exact ⟨_, rfl, rfl, fun _ => by kernel_rfl, by decide⟩
    | n + 4, h => simp at h
  bt _ parts := by kernel_rfl
  sl _ _ _ h := by cases h
  mp _ _ _ _ h := by cases h
  kd1 h := by cases h
  kd2 h := by cases h
  kd3 h := by cases h
  kd4 h := by cases h
  cmp h := by cases h
set_option maxRecDepth 100000 in
theorem Tryd.tyOk80 : TyOk1 Tryd.prog 80 ⟨7, true, [(0, 1), (1, 1)], [.i 0, .i 0], none, none⟩ where
  agg _ := by kernel_rfl
  size _ := by kernel_rfl
  zero _ := by kernel_rfl
  one h := by cases h
  zlt := by simp [SC.lt]
  str _ := by
    refine ⟨_, Tryd.underlying80, ?_⟩
    intro i p h
    match i, h with
    | 0, h => cases h; exact ⟨_, rfl, rfl, fun _ => by kernel_rfl, by decide⟩
    | 1, h => cases h; exact ⟨_, rfl, rfl, fun _ => by kernel_rfl, by decide⟩
    | n + 2, h => simp at h
  bt _ parts := by kernel_rfl
  sl _ _ _ h := by cases h
  mp _ _ _ _ h := by cases h
  kd1 h := by cases h
  kd2 h := by cases h
  kd3 h := by cases h
  kd4 h := by cases h
  cmp _ := Tryd.cmp80
set_option maxRecDepth 100000 in
theorem Tryd.tyOk81 : TyOk1 Tryd.prog 81 ⟨6, false, [], [.v (.slice none 0 0)], some (80, .duo, 16), none⟩ where
  agg _ := by kernel_rfl
  size _ := by kernel_rfl
  zero _ := by kernel_rfl
  one _ := ⟨_, rfl⟩
  zlt := by simp [SC.lt, Value.oneCell']
  str h := by cases h
  bt h := by cases h
  sl _ _ _ h := by cases h; exact ⟨by kernel_rfl, fun _ => by kernel_rfl, Tryd.t80, _, by kernel_rfl, rfl, rfl, rfl, rfl⟩
  mp _ _ _ _ h := by cases h
  kd1 h := by cases h
  kd2 h := by cases h
  kd3 h := by cases h
  kd4 h := by cases h
  cmp h := by cases h
set_option maxRecDepth 100000 in
theorem Tryd.tyOk82 : TyOk1 Tryd.prog 82 ⟨6, false, [], [.v (.slice none 0 0)], some (80, .duo, 16), none⟩ where
  agg _ := by kernel_rfl
  size _ := by kernel_rfl
  zero _ := by kernel_rfl
  one _ := ⟨_, rfl⟩
  zlt := by simp [SC.lt, Value.oneCell']
  str h := by cases h
  bt h := by cases h
  sl _ _ _ h := by cases h; exact ⟨by kernel_rfl, fun _ => by kernel_rfl, Tryd.t80, _, by kernel_rfl, rfl, rfl, rfl, rfl⟩
  mp _ _ _ _ h := by cases h
  kd1 h := by cases h
  kd2 h := by cases h
  kd3 h := by cases h
  kd4 h := by cases h
  cmp h := by cases h
set_option maxRecDepth 100000 in
theorem Tryd.tyOk87 : TyOk1 Tryd.prog 87 ⟨0, false, [], [.v (.pointer none)], none, none⟩ where
  agg _ := by kernel_rfl
  size _ := by kernel_rfl
  zero _ := by kernel_rfl
  one _ := ⟨_, rfl⟩
  zlt := by simp [SC.lt, Value.oneCell']
  str h := by cases h
  bt h := by cases h
  sl _ _ _ h := by cases h
  mp _ _ _ _ h := by cases h
  kd1 h := by cases h
  kd2 h := by cases h
  kd3 h := by cases h
  kd4 h := by cases h
  cmp h := by cases h
set_option maxRecDepth 100000 in
theorem Tryd.tyOk88 : TyOk1 Tryd.prog 88 ⟨0, false, [], [.v (.map none)], none, some (64, .trip, 87, .adr)⟩ where
  agg _ := by kernel_rfl
  size _ := by kernel_rfl
  zero _ := by kernel_rfl
  one _ := ⟨_, rfl⟩
  zlt := by simp [SC.lt, Value.oneCell']
  str h := by cases h
  bt h := by cases h
  sl _ _ _ h := by cases h
  mp _ _ _ _ h := by
    cases h
    refine mapOk_trip (by kernel_rfl) Tryd.underlying64 ?_ (Tryd.cmp64).2 (fun _ => by kernel_rfl)
    intro x w e
    refine ck_str3 e 9998 _ w Tryd.underlying64 ?_
    intro f hf
    simp only [List.mem_cons, List.not_mem_nil, or_false] at hf
    have h3 : Tryd.prog.underlying 3 = some (.int .i64) := by kernel_rfl
    have hp : ∀ (cs : Array Value) (i : Nat) (v : Value) (w : World), cs[i]? = some v → (part 3 cs i).run Tryd.prog w = .ok v w := by
      intro cs i v w h
      simp [part, (by kernel_rfl : (isAgg 3).run Tryd.prog w = .ok false w), h]
    rcases hf with rfl | rfl | rfl
    · exact ⟨_, hp _ 0 _ w rfl, h3⟩
    · exact ⟨_, hp _ 1 _ w rfl, h3⟩
    · exact ⟨_, hp _ 2 _ w rfl, h3⟩
  kd1 h := by cases h
  kd2 h := by cases h
  kd3 h := by cases h
  kd4 h := by cases h
  cmp h := by cases h
set_option maxRecDepth 100000 in
theorem Tryd.tyOk90 : TyOk1 Tryd.prog 90 ⟨5, true, [(0, 4), (4, 1), (5, 1), (6, 1), (7, 1)], [.i 0, .i 0, .v (.slice none 0 0), .v (.slice none 0 0), .v (.slice none 0 0), .v (.slice none 0 0), .v (.slice none 0 0), .v (.map none)], none, none⟩ where
  agg _ := by kernel_rfl
  size _ := by kernel_rfl
  zero _ := by kernel_rfl
  one h := by cases h
  zlt := by simp [SC.lt, Value.oneCell']
  str _ := by
    refine ⟨_, Tryd.underlying90, ?_⟩
    intro i p h
    match i, h with
    | 0, h => cases h; exact ⟨_, rfl, rfl, fun _ => by kernel_rfl, by decide⟩
    | 1, h => cases h; exact ⟨_, rfl, rfl, fun _ => by kernel_rfl, by decide⟩
    | 2, h => cases h; exact ⟨_, rfl, rfl, fun _ => by kernel_rfl, by decide⟩
    | 3, h => cases h; exact ⟨_, rfl, rfl, fun _ => by kernel_rfl, by decide⟩
    | 4, h => cases h; exact ⟨_, rfl, rfl, fun _ => by kernel_rfl, by decide⟩
    | n + 5, h => simp at h
  bt _ parts := by kernel_rfl
  sl _ _ _ h := by cases h
  mp _ _ _ _ h := by cases h
  kd1 h := by cases h
  kd2 h := by cases h
  kd3 h := by cases h
  kd4 h := by cases h
  cmp h := by cases h
set_option maxRecDepth 100000 in
theorem Tryd.tyOk92 : TyOk1 Tryd.prog 92 ⟨5, true, [(0, 1), (1, 1), (2, 3), (5, 1)], [.i 0, .i 0, .i 0, .i 0, .i 0, .b false], none, none⟩ where
  agg _ := by kernel_rfl
  size _ := by kernel_rfl
  zero _ := by kernel_rfl
  one h := by cases h
  zlt := by simp [SC.lt]
  str _ := by
    refine ⟨_, Tryd.underlying92, ?_⟩
    intro i p h
    match i, h with
    | 0, h => cases h; exact ⟨_, rfl, rfl, fun _ => by kernel_rfl, by decide⟩
    | 1, h => cases h; exact ⟨_, rfl, rfl, fun _ => by kernel_rfl, by decide⟩
    | 2, h => cases h; exact ⟨_, rfl, rfl, fun _ => by kernel_rfl, by decide⟩
    | 3, h => cases h; exact ⟨_, rfl, rfl, fun _ => by kernel_rfl, by decide⟩
    | n + 4, h => simp at h
  bt _ parts := by kernel_rfl
  sl _ _ _ h := by cases h
  mp _ _ _ _ h := by cases h
  kd1 h := by cases h
  kd2 h := by cases h
  kd3 h := by cases h
  kd4 h := by cases h
  cmp h := by cases h
set_option maxRecDepth 100000 in
theorem Tryd.tyOk98 : TyOk1 Tryd.prog 98 ⟨0, false, [], [.v (.pointer none)], none, none⟩ where
  agg _ := by kernel_rfl
  size _ := by kernel_rfl
  zero _ := by kernel_rfl
  one _ := ⟨_, rfl⟩
  zlt := by simp [SC.lt, Value.oneCell']
  str h := by cases h
  bt h := by cases h
  sl _ _ _ h := by cases h
  mp _ _ _ _ h := by cases h
  kd1 h := by cases h
  kd2 h := by cases h
  kd3 h := by cases h
  kd4 h := by cases h
  cmp h := by cases h
set_option maxRecDepth 100000 in
theorem Tryd.tyOk99 : TyOk1 Tryd.prog 99 ⟨0, false, [], [.v (.map none)], none, some (3, .int, 3, .int)⟩ where
  agg _ := by kernel_rfl
  size _ := by kernel_rfl
  zero _ := by kernel_rfl
  one _ := ⟨_, rfl⟩
  zlt := by simp [SC.lt, Value.oneCell']
  str h := by cases h
  bt h := by cases h
  sl _ _ _ h := by cases h
  mp _ _ _ _ h := by
    cases h
    exact mapOk_int (by kernel_rfl) (by kernel_rfl) (fun _ => by kernel_rfl)
  kd1 h := by cases h
  kd2 h := by cases h
  kd3 h := by cases h
  kd4 h := by cases h
  cmp h := by cases h
set_option maxRecDepth 100000 in
theorem Tryd.tyOk101 : TyOk1 Tryd.prog 101 ⟨5, true, [(0, 4), (4, 1), (5, 1), (6, 1), (7, 4)], [.i 0, .i 0, .v (.slice none 0 0), .v (.slice none 0 0), .v (.slice none 0 0), .v (.map none), .v (.slice none 0 0), .i 0, .i 0, .v (.slice none 0 0), .v (.slice none 0 0)], none, none⟩ where
  agg _ := by kernel_rfl
  size _ := by kernel_rfl
  zero _ := by kernel_rfl
  one h := by cases h
  zlt := by simp [SC.lt, Value.oneCell']
  str _ := by
    refine ⟨_, Tryd.underlying101, ?_⟩
    intro i p h
    match i, h with
    | 0, h => cases h; exact ⟨_, rfl, rfl, fun _ => by kernel_rfl, by decide⟩
    | 1, h => cases h; exact ⟨_, rfl, rfl, fun _ => by kernel_rfl, by decide⟩
    | 2, h => cases h; exact ⟨_, rfl, rfl, fun _ => by kernel_rfl, by decide⟩
    | 3, h => cases h; exact ⟨_, rfl, rfl, fun _ => by kernel_rfl, by decide⟩
    | 4, h => cases h; exact ⟨_, rfl, rfl, fun _ => by kernel_rfl, by decide⟩
    | n + 5, h => simp at h
  bt _ parts := by kernel_rfl
  sl _ _ _ h := by cases h
  mp _ _ _ _ h := by cases h
  kd1 h := by cases h
  kd2 h := by cases h
  kd3 h := by cases h
  kd4 h := by cases h
  cmp h := by cases h
set_option maxRecDepth 100000 in
theorem Tryd.tyOk120 : TyOk1 Tryd.prog 120 ⟨0, false, [], [.v (.pointer none)], none, none⟩ where
  agg _ := by kernel_rfl
  size _ := by kernel_rfl
  zero _ := by kernel_rfl
  one _ := ⟨_, rfl⟩
  zlt := by simp [SC.lt, Value.oneCell']
  str h := by cases h
  bt h := by cases h
  sl _ _ _ h := by cases h
  mp _ _ _ _ h := by cases h
  kd1 h := by cases h
  kd2 h := by cases h
  kd3 h := by cases h
  kd4 h := by cases h
  cmp h := by cases h
set_option maxRecDepth 100000 in
theorem Tryd.tyOk126 : TyOk1 Tryd.prog 126 ⟨4, false, [], [.u 0], none, none⟩ where
  agg _ := by kernel_rfl
  size _ := by kernel_rfl
  zero _ := by kernel_rfl
  one _ := ⟨_, rfl⟩
  zlt := by simp [SC.lt]
  str h := by cases h
  bt h := by cases h
  sl _ _ _ h := by cases h
  mp _ _ _ _ h := by cases h
  kd1 h := by cases h
  kd2 h := by cases h
  kd3 h := by cases h
  kd4 _ := by kernel_rfl
  cmp h := by cases h
set_option maxRecDepth 100000 in
theorem Tryd.tyOk135 : TyOk1 Tryd.prog 135 ⟨4, false, [], [.u 0], none, none⟩ where
  agg _ := by kernel_rfl
  size _ := by kernel_rfl
  zero _ := by kernel_rfl
  one _ := ⟨_, rfl⟩
  zlt := by simp [SC.lt]
  str h := by cases h
  bt h := by cases h
  sl _ _ _ h := by cases h
  mp _ _ _ _ h := by cases h
  kd1 h := by cases h
  kd2 h := by cases h
  kd3 h := by cases h
  kd4 _ := by kernel_rfl
  cmp h := by cases h
theorem Tryd.tyOk : TyOk Tryd.prog Tryd.ty := by
  intro t d h
  unfold Tryd.ty at h
  rw [look_cons] at h
  split at h
  · rename_i e; subst e; cases h; exact Tryd.tyOk3
  rw [look_cons] at h
  split at h
  · rename_i e; subst e; cases h; exact Tryd.tyOk4
  rw [look_cons] at h
  split at h
  · rename_i e; subst e; cases h; exact Tryd.tyOk9
  rw [look_cons] at h
  split at h
  · rename_i e; subst e; cases h; exact Tryd.tyOk22
  rw [look_cons] at h
  split at h
  · rename_i e; subst e; cases h; exact Tryd.tyOk23
  rw [look_cons] at h
  split at h
  · rename_i e; subst e; cases h; exact Tryd.tyOk25
  rw [look_cons] at h
  split at h
  · rename_i e; subst e; cases h; exact Tryd.tyOk26
  rw [look_cons] at h
  split at h
  · rename_i e; subst e; cases h; exact Tryd.tyOk34
  rw [look_cons] at h
  split at h
  · rename_i e; subst e; cases h; exact Tryd.tyOk36
  rw [look_cons] at h
  split at h
  · rename_i e; subst e; cases h; exact Tryd.tyOk50
  rw [look_cons] at h
  split at h
  · rename_i e; subst e; cases h; exact Tryd.tyOk52
  rw [look_cons] at h
  split at h
  · rename_i e; subst e; cases h; exact Tryd.tyOk62
  rw [look_cons] at h
  split at h
  · rename_i e; subst e; cases h; exact Tryd.tyOk64
  rw [look_cons] at h
  split at h
  · rename_i e; subst e; cases h; exact Tryd.tyOk75
  rw [look_cons] at h
  split at h
  · rename_i e; subst e; cases h; exact Tryd.tyOk76
  rw [look_cons] at h
  split at h
  · rename_i e; subst e; cases h; exact Tryd.tyOk77
  rw [look_cons] at h
  split at h
  · rename_i e; subst e; cases h; exact Tryd.tyOk79
  rw [look_cons] at h
  split at h
  · rename_i e; subst e; cases h; exact Tryd.tyOk80
  rw [look_cons] at h
  split at h
  · rename_i e; subst e; cases h; exact Tryd.tyOk81
  rw [look_cons] at h
  split at h
  · rename_i e; subst e; cases h; exact Tryd.tyOk82
  rw [look_cons] at h
  split at h
  · rename_i e; subst e; cases h; exact Tryd.tyOk87
  rw [look_cons] at h
  split at h
  · rename_i e; subst e; cases h; exact Tryd.tyOk88
  rw [look_cons] at h
  split at h
  · rename_i e; subst e; cases h; exact Tryd.tyOk90
  rw [look_cons] at h
  split at h
  · rename_i e; subst e; cases h; exact Tryd.tyOk92
  rw [look_cons] at h
  split at h
  · rename_i e; subst e; cases h; exact Tryd.tyOk98
  rw [look_cons] at h
  split at h
  · rename_i e; subst e; cases h; exact Tryd.tyOk99
  rw [look_cons] at h
  split at h
  · rename_i e; subst e; cases h; exact Tryd.tyOk101
  rw [look_cons] at h
  split at h
  · rename_i e; subst e; cases h; exact Tryd.tyOk120
  rw [look_cons] at h
  split at h
  · rename_i e; subst e; cases h; exact Tryd.tyOk126
  rw [look_cons] at h
  split at h
  · rename_i e; subst e; cases h; exact Tryd.tyOk135
  cases h
theorem Tryd.mixed : Tryd.prog.follows .mixedOrders = true := by kernel_rfl
attribute [simp] eqFr eqHp eqV eqA eqC eqO eqCs eqAs look_cons look rn EK.cast EK.sz eqCaps eqLs eqL renOf appN ptrs eqVL SV.lt SA.lt SC.lt lenN
theorem dR {N n0 : _} {ops : Array Oper} {s : S} {kn : S → Prop} (h : drawP Tryd.prog Tryd.ty N ops.toList kn 60 [] [] s) (hc : drawOk ops.toList = true := by kernel_rfl) : DrawX Tryd.prog N n0 ops s kn := draw_of Tryd.mixed Tryd.tyOk 60 hc h
theorem cF {f : Nat} {args : List SV} {ex : List Value} {s : S} {k : S → SV → Prop} {args0 : List SV} {hp0 : List (Nat × SO)} {m : Nat} {post : SV → S → Prop} (hc : Ct Tryd.prog f args0 ex hp0 m post) (ids : List Nat)
    (hcf : ∀ args w, (callFunc f args).run Tryd.prog w = .ok (.enter f args) w)
    (hpost : ∀ v s', post v s' → s.go fun fr hp nx => s'.go fun _ hp' nx' => dropK ids hp0 hp fun hpb => backK (gOf ids m nx) (qOf hp0 m) hp' hpb fun hp2 => mvVK (gOf ids m nx) v fun v2 => k ⟨fr, hp2, nx + (nx' - m)⟩ v2)
    (hok : (Nat.beq (lenN ids) m && ltB s.nx ids && ndB ids && keyNd hp0) = true := by rfl) (hhp : eqLs (renOf 0 ids) m s.hp hp0 := by simp) (hargs : eqVL (renOf 0 ids) m args0 args := by simp) (hlt : ∀ v ∈ args, SV.lt s.nx v := by simp) : CallK Tryd.prog f args ex s k := callF hc ids hcf hok hhp hargs hlt hpost
theorem cI {f : Nat} {args : List SV} {s : S} {k : S → SV → Prop} {args0 : List SV} {hp0 : List (Nat × SO)} {m : Nat} {x : SV} (hc : Ct Tryd.prog f args0 [] hp0 m (Is m x)) (ids : List Nat)
    (hcf : ∀ args w, (callFunc f args).run Tryd.prog w = .ok (.enter f args) w)
    (hpost : s.go fun fr hp nx => dropK ids hp0 hp fun hpb => mvVK (gOf ids m nx) x fun v2 => k ⟨fr, hpb, nx⟩ v2)
    (hok : (Nat.beq (lenN ids) m && ltB s.nx ids && ndB ids && keyNd hp0) = true := by rfl) (hhp : eqLs (renOf 0 ids) m s.hp hp0 := by simp) (hargs : eqVL (renOf 0 ids) m args0 args := by simp) (hlt : ∀ v ∈ args, SV.lt s.nx v := by simp) : CallK Tryd.prog f args [] s k := callI hc ids hcf hok hhp hargs hlt hpost
end Go.Fw

namespace Go.Fw
open Go Go.Proofs
def fCells (F : TF) : List SC := [.i F.st, .i F.start, .sl 0 1 0 F.fin.length F.capF, .sl 1 5 0 F.arcs.length F.capA]
@[simp] def fV (F : TF) : SV := .a (.agg [.i F.st, .i F.start, .sl 0 1 0 F.fin.length F.capF, .sl 1 5 0 F.arcs.length F.capA])
abbrev hpF (F : TF) : List (Nat × SO) := [(0, .arr false 3 .int F.fin 0), (1, .arr false 50 .arc F.arcs 0)]
@[simp] def arcV (a : Arc) : SV := .a (.agg [.i a.f, .i a.i, .i a.o, .i a.t, .i a.w])
theorem within_c (n l m : Int) : Ct Tryd.prog 56 [.i n, .i l, .i m] [] [] 0 (Is 0 (.b (decide (l ≤ n ∧ n ≤ m)))) := by
  refine ctW Tryd.tyOk 7 [] Tryd.func56 rfl (by simp) (by simp) (fr := [(0, .i n), (1, .i l), (2, .i m)]) rfl ?_
  repeat' (first | exact rfl | ((conv => whnf); first | refine condP_mk (fun h => ?_) (fun h => ?_) | refine Ob.mk ?_ ?_ | refine Both.mk ?_ ?_))
  all_goals refine Back.is ?_
  all_goals simp only [eqV, eqA, eqC]
  all_goals simp only [decide_eq_true_eq, decide_eq_false_iff_not] at *
  all_goals simp [*]
theorem better_c (a b : Int) : Ct Tryd.prog 105 [.i a, .i b] [] [] 0 (Is 0 (.b (better a b))) := by
  refine ctW Tryd.tyOk 5 [] Tryd.func105 rfl (by simp) (by simp) (fr := [(0, .i a), (1, .i b)]) rfl ?_
  repeat' (first | exact rfl | ((conv => whnf); first | refine condP_mk (fun h => ?_) (fun h => ?_) | refine Ob.mk ?_ ?_ | refine Both.mk ?_ ?_))
  all_goals refine Back.is ?_
  all_goals simp only [eqV, eqA, eqC]
  all_goals simp only [bne_iff_ne, beq_iff_eq, bne_eq_false_iff_eq, beq_eq_false_iff_ne, ne_eq] at *
  all_goals simp [better, *]
theorem isNaN_c (a : Int) : Ct Tryd.prog 96 [.i a] [] [] 0 (Is 0 (.b false)) := by
  refine ctW Tryd.tyOk 3 [] Tryd.func96 rfl (by simp) (by simp) (fr := [(0, .i a)]) rfl ?_
  repeat' (first | exact rfl | ((conv => whnf); first | refine condP_mk (fun h => ?_) (fun h => ?_) | refine Ob.mk ?_ ?_ | refine Both.mk ?_ ?_))
  all_goals refine Back.is ?_
  all_goals simp only [eqV, eqA, eqC]
  all_goals simp
theorem compare_c (a b : Int) : Ct Tryd.prog 82 [.i a, .i b] [] [] 0 (Is 0 (.i (cmpI a b))) := by
  refine ctW Tryd.tyOk 7 [] Tryd.func82 rfl (by simp) (by simp) (fr := [(0, .i a), (1, .i b)]) rfl ?_
  conv => whnf
  refine cI (isNaN_c a) [] Tryd.call96 ?_
  conv => whnf
  refine cI (isNaN_c b) [] Tryd.call96 ?_
  repeat' (first | exact rfl | ((conv => whnf); first | refine condP_mk (fun h => ?_) (fun h => ?_) | refine Ob.mk ?_ ?_ | refine Both.mk ?_ ?_))
  all_goals refine Back.is ?_
  all_goals simp only [eqV, eqA, eqC]
  all_goals simp only [decide_eq_true_eq, decide_eq_false_iff_not] at *
  all_goals simp [cmpI, *]
theorem check2_c (a : Int) : Ct Tryd.prog 58 [.i a] [] [] 0 (Is 0 (.b (!decide (-1 ≤ a ∧ a ≤ 1000000000)))) := by
  refine ctW Tryd.tyOk 3 [] Tryd.func58 rfl (by simp) (by simp) (fr := [(0, .i a)]) rfl ?_
  conv => whnf
  refine cI (within_c a (-1) 1000000000) [] Tryd.call56 ?_
  conv => whnf
  refine Back.is ?_
  simp only [eqV, eqA, eqC]
theorem on1_c (a : Arc) : Ct Tryd.prog 101 [arcV a] [] [] 0 (Is 0 (.tup [.c (.i a.t), .c (.i a.f)])) := by
  refine ctW Tryd.tyOk 4 [] Tryd.func101 rfl (by simp) (by simp) (fr := [(0, arcV a)]) rfl ?_
  conv => whnf
  refine dR ?_
  repeat' (first | exact rfl | ((conv => whnf); first | refine condP_mk (fun h => ?_) (fun h => ?_) | refine Ob.mk ?_ ?_ | refine Both.mk ?_ ?_))
  all_goals refine Back.is ?_
  simp only [eqV, eqA, eqC, eqAs]
  simp
abbrev rdI (l : List Int) (cap : Nat) : SV := .c (.sl 0 1 0 l.length cap)
end Go.Fw
