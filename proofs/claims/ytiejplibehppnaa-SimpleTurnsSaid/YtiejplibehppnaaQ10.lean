/-
  The built-in clear over a list of one's own; a list of one's own cut short.
-/
import Derived.Test.YtiejplibehppnaaQ08
import Derived.Test.YtiejplibehppnaaQ09
import Derived.Test.YtiejplibehppnaaQ06
import Derived.Shelf.Bits.Mul64
import Derived.Test.YtiejplibehppnaaQ07

set_option linter.unusedSimpArgs false
set_option linter.unusedVariables false

namespace Go.Fw
open Go

section
variable {P : Program} {ty : List (Nat × STy)}

theorem clearX (hty : TyOk P ty) {N : Nat} {dst : Option Nat} {T E id lo len cap sp : Nat} {ek : EK} {bytes : Nat} {xs : List ek.ty} {x : Operand} {type : TypeId} {pos : String} {after : Array Edge} {guard : Option (Nat × Bool)} {s : S} {k : S → SV → Prop} {d : STy}
    (hd : look ty T = some d) (hsl : d.sl = some (E, ek, bytes)) (hx : ev s.fr x = some (.c (.sl id ek.sz lo len cap))) (hl : look s.hp id = some (.arr true E ek xs sp)) (hle : lo + len ≤ xs.length)
    (hk : updK s.hp id (.arr true E ek (xs.take lo ++ List.replicate len ek.dflt ++ xs.drop (lo + len)) sp) fun hp' => k ⟨s.fr, hp', s.nx⟩ .u) :
    XOp P N ⟨dst, .call ⟨.builtin .clear, #[x], #[T]⟩, type, pos, after, guard⟩ s k := by
  rw [updK_iff] at hk
  unfold XOp
  intro β Z fp w a df hs hf next Q hn
  obtain ⟨hu, hE, i, z, hi, hz, hisz, hib, hzc⟩ := (hty T d hd).sl _ _ _ hsl
  obtain ⟨hex, hltx⟩ := ev_den hf hx
  have hzsz : z.cells.size = ek.sz := by rw [← Array.length_toList, hzc, EK.cells_length]
  have hlk : LOk P β Z s w a ⟨dst, .call ⟨.builtin .clear, #[x], #[T]⟩, type, pos, after, guard⟩ k := by
    have hrun : ∀ w', (Builtin.clear_ #[T] type #[SV.den β (.a (.c (.sl id ek.sz lo len cap)))]).run P w = .ok (.tuple #[]) w' →
        (execOp a.eval ⟨dst, .call ⟨.builtin .clear, #[x], #[T]⟩, type, pos, after, guard⟩).run P w = .ok (.value (SV.u.den β)) w' := by
      intro w' hr
      simp only [SV.den] at hr
      simp [execOp, resolve, invoke, builtin, hex, hr, SV.den]
    have hok := hs.obj _ _ hl
    by_cases h0 : len = 0
    · subst h0
      have hr : (Builtin.clear_ #[T] type #[SV.den β (.a (.c (.sl id ek.sz lo 0 cap)))]).run P w = .ok (.tuple #[]) w := by
        simp only [SV.den, SA.den, SC.den]
        cases β id with
        | none => simp [Builtin.clear_, run_underlying hu]
        | some y => simp [Builtin.clear_, run_underlying hu]
      have e : xs.take lo ++ List.replicate 0 ek.dflt ++ xs.drop (lo + 0) = xs := by simp
      rw [e] at hk
      refine ⟨_, w, .u, β, fp, ⟨s.fr, upd s.hp id _, s.nx⟩, hrun _ hr, .inl rfl, fun _ _ => rfl, Ext.refl _ _, rfl, Nat.le_refl _, ?_, (by intro c hc; cases hc), hk⟩
      exact hs.put (w' := w) hl (fun _ _ => rfl) rfl hok trivial
    cases hb : β id with
    | none =>
      rw [hb] at hok
      obtain ⟨rfl, _⟩ := hok
      simp at hle
      omega
    | some x' =>
      rw [hb] at hok
      obtain ⟨hsp, hfp, pre, post, hh, hpre, hpost⟩ := hok
      have hml2 : lo * ek.sz + len * ek.sz ≤ (flat ek xs).length := by
        rw [flat_length, ← Nat.add_mul]; exact Nat.mul_le_mul_right _ hle
      have e2 : (flat ek (List.replicate len ek.dflt)).length = len * ek.sz := by rw [flat_length, List.length_replicate]
      have hst := run_storeCells_at P x'.block (x'.off + lo * ek.sz) E (flat ek (List.replicate len ek.dflt)) 0 (pre ++ flat ek xs ++ post).toArray w hh
        (by simp only [Nat.add_zero, e2, List.size_toArray, List.length_append]; omega) (flat_one ek _)
      simp only [Nat.add_zero] at hst
      have hzero : (Builtin.zeroCells z.cells len).toList = flat ek (List.replicate len ek.dflt) := by
        rw [← made_flat ek z.cells hzc]
        unfold Builtin.zeroCells madeCells
        rw [hzsz]
      have hzv : ∀ w, (zeroValue E).run P w = .ok z w := by intro w; simp [zeroValue, typeInfo, hi, hz]
      have hr : (Builtin.clear_ #[T] type #[SV.den β (.a (.c (.sl id ek.sz lo len cap)))]).run P w = .ok (.tuple #[]) (w.setRow x'.block (pre ++ flat ek (xs.take lo ++ List.replicate len ek.dflt ++ xs.drop (lo + len)) ++ post).toArray) := by
        obtain ⟨m, rfl⟩ : ∃ m, len = m + 1 := ⟨len - 1, by omega⟩
        simp only [SV.den, SA.den, SC.den, hb, Option.map_some, add_eq hsp]
        have e1 : (w.setRow x'.block ((pre ++ flat ek xs ++ post).take (x'.off + lo * ek.sz) ++ flat ek (List.replicate (m + 1) ek.dflt) ++ (pre ++ flat ek xs ++ post).drop (x'.off + lo * ek.sz + (flat ek (List.replicate (m + 1) ek.dflt)).length)).toArray) =
            (w.setRow x'.block (pre ++ flat ek (xs.take lo ++ List.replicate (m + 1) ek.dflt ++ xs.drop (lo + (m + 1))) ++ post).toArray) := by
          rw [e2, take_app pre (flat ek xs) post _ (lo * ek.sz) (by omega) (by omega), drop_app pre (flat ek xs) post _ (lo * ek.sz + (m + 1) * ek.sz) (by omega) hml2]
          congr 2
          rw [flat_append, flat_append]
          have l1 : flat ek (xs.take lo) = (flat ek xs).take (lo * ek.sz) := by
            have e3 : flat ek xs = flat ek (xs.take lo) ++ flat ek (xs.drop lo) := by rw [← flat_append, List.take_append_drop]
            have e4 : (flat ek (xs.take lo)).length = lo * ek.sz := by rw [flat_length, List.length_take, Nat.min_eq_left (by omega)]
            rw [e3, ← e4, List.take_left]
          have l2 : flat ek (xs.drop (lo + (m + 1))) = (flat ek xs).drop (lo * ek.sz + (m + 1) * ek.sz) := by
            have e3 : flat ek xs = flat ek (xs.take (lo + (m + 1))) ++ flat ek (xs.drop (lo + (m + 1))) := by rw [← flat_append, List.take_append_drop]
            have e4 : (flat ek (xs.take (lo + (m + 1)))).length = lo * ek.sz + (m + 1) * ek.sz := by rw [flat_length, List.length_take, Nat.min_eq_left hle, Nat.add_mul]
            rw [e3, ← e4, List.drop_left]
          rw [l1, l2]
          simp [List.append_assoc]
        rw [← e1]
        simp [Builtin.clear_, run_underlying hu, hzv, hzero, hst]
      refine l_put2 (v := .u) (ob' := .arr true E ek (xs.take lo ++ List.replicate len ek.dflt ++ xs.drop (lo + len)) sp) hs hl hfp (hrun _ hr) ?_ trivial (by intro c hc; cases hc) hk
      rw [hb]
      refine ⟨hsp, hfp, pre, post, ?_, hpre, hpost⟩
      rw [setRow_heap w _ _ _ E _ hh]
  obtain ⟨r, w', v, β', fp', s', R⟩ := hlk
  unfold Oper.wp
  rw [R.run]
  have := hn v w' β' Z fp' s' ⟨R.env, R.ext, fun _ h => h, R.fr, R.nx, R.sat, R.lt⟩ R.go
  rcases R.val with rfl | ⟨rfl, rfl⟩
  · exact this
  · exact this

/-- A list of one's own, of which the end is forgotten. -/
theorem HSat.short {β : Env} {Z : Nat → Prop} {fp : Nat → Nat → Prop} {w : World} {id E sp n : Nat} {ek : EK} {xs ys : List ek.ty} (hs : HSat β Z fp ⟨[], [(id, .arr true E ek (xs ++ ys) sp)], n⟩ w) :
    HSat β Z fp ⟨[], [(id, .arr true E ek xs (ys.length + sp))], n⟩ w := by
  have hl : look [(id, SO.arr true E ek (xs ++ ys) sp)] id = some (.arr true E ek (xs ++ ys) sp) := by rw [look_cons, if_pos rfl]
  have := hs.put (o' := .arr true E ek xs (ys.length + sp)) hl (w' := w) (fun _ _ => rfl) rfl ?_ trivial
  · rw [upd_cons, if_pos rfl] at this
    exact this
  · have hok := hs.obj _ _ hl
    cases hb : β id with
    | none =>
      rw [hb] at hok
      obtain ⟨h1, h2⟩ := hok
      have h3 := List.append_eq_nil_iff.1 h1
      exact ⟨h3.1, by rw [h3.2, h2]; rfl⟩
    | some x' =>
      rw [hb] at hok
      obtain ⟨hsp, hfp, pre, post, hh, hpre, hpost⟩ := hok
      refine ⟨hsp, hfp, pre, flat ek ys ++ post, ?_, hpre, ?_⟩
      · rw [hh, flat_append]; simp [List.append_assoc]
      · rw [List.length_append, flat_length, Nat.add_mul]; omega

/-- A contract of which the end of a list is forgotten. -/
theorem Ct.short {f : Nat} {args : List SV} {ex : List Value} {hp : List (Nat × SO)} {m : Nat} {p q : SV → S → Prop} (h : Ct P f args ex hp m p)
    (hpq : ∀ v s, p v s → ∃ (id E sp : Nat) (ek : EK) (xs ys : List ek.ty), s.hp = [(id, .arr true E ek (xs ++ ys) sp)] ∧ q v ⟨s.fr, [(id, .arr true E ek xs (ys.length + sp))], s.nx⟩) : Ct P f args ex hp m q :=
  fun β Z fp w hs => (h β Z fp w hs).mono fun e w' ⟨v, β', Z', fp', s', h1, h2, h3⟩ => by
    obtain ⟨id, E, sp, ek, xs, ys, e1, h4⟩ := hpq v s' h3
    have hsat := h2.sat
    rw [e1] at hsat
    exact ⟨v, β', Z', fp', (⟨s'.fr, [(id, .arr true E ek xs (ys.length + sp))], s'.nx⟩ : S), h1, ⟨h2.env, h2.ext, h2.zz, h2.fr, h2.nx, HSat.short hsat, h2.lt⟩, h4⟩
end
end Go.Fw

/-
  Arcs in order, of those that are the same the least weight: told by what it is; there is one such list.
-/
namespace Go.Fw
open Go

/-- The same key. -/
def Key (a b : Arc) : Prop := a.f = b.f ∧ a.i = b.i ∧ a.o = b.o ∧ a.t = b.t

theorem aheadB_iff {a b : Arc} : aheadB a b = true ↔ a.f < b.f ∨ a.f = b.f ∧ (a.i < b.i ∨ a.i = b.i ∧ (a.o < b.o ∨ a.o = b.o ∧ a.t < b.t)) := by
  unfold aheadB
  by_cases h1 : a.f = b.f
  · by_cases h2 : a.i = b.i
    · by_cases h3 : a.o = b.o
      · by_cases h4 : a.t = b.t
        · simp [h1, h2, h3, h4]
        · simp [h1, h2, h3, h4]
      · simp [h1, h2, h3]
    · simp [h1, h2]
  · simp [h1]

theorem Key.not_ahead {a b : Arc} (h : Key a b) : aheadB a b = false := by
  rw [← Bool.not_eq_true, aheadB_iff]
  unfold Key at h
  omega

theorem ahead_total (a b : Arc) : aheadB a b = true ∨ Key a b ∨ aheadB b a = true := by
  rw [aheadB_iff, aheadB_iff]
  unfold Key
  omega

theorem sameK_iff {a b : Arc} : sameK a b = true ↔ Key a b := by
  unfold sameK Key
  rw [decide_eq_true_eq, orderI_zero]

theorem Key.symm {a b : Arc} (h : Key a b) : Key b a := ⟨h.1.symm, h.2.1.symm, h.2.2.1.symm, h.2.2.2.symm⟩
theorem Key.trans {a b c : Arc} (h : Key a b) (h' : Key b c) : Key a c := ⟨h.1.trans h'.1, h.2.1.trans h'.2.1, h.2.2.1.trans h'.2.2.1, h.2.2.2.trans h'.2.2.2⟩
theorem Key.refl (a : Arc) : Key a a := ⟨rfl, rfl, rfl, rfl⟩
theorem Key.eq {a b : Arc} (h : Key a b) (hw : a.w = b.w) : a = b := by
  obtain ⟨a1, a2, a3, a4, a5⟩ := a
  obtain ⟨b1, b2, b3, b4, b5⟩ := b
  obtain ⟨h1, h2, h3, h4⟩ := h
  simp only at *
  subst h1 h2 h3 h4 hw
  rfl
theorem Key.ahead_l {a b c : Arc} (h : Key a b) (h' : aheadB b c = true) : aheadB a c = true := by
  rw [aheadB_iff] at h' ⊢
  unfold Key at h
  omega
theorem Key.ahead_r {a b c : Arc} (h : Key b c) (h' : aheadB a b = true) : aheadB a c = true := by
  rw [aheadB_iff] at h' ⊢
  unfold Key at h
  omega

/-- zs: the arcs of xs in order, of those that are the same the one that weighs least. -/
structure IsNorm (xs zs : List Arc) : Prop where
  srt : Srt zs
  sub : ∀ z ∈ zs, z ∈ xs
  cov : ∀ x ∈ xs, ∃ z ∈ zs, Key z x ∧ z.w ≤ x.w

theorem Srt.key {l : List Arc} (h : Srt l) {a b : Arc} (ha : a ∈ l) (hb : b ∈ l) (hk : Key a b) : a = b := by
  induction l with
  | nil => cases ha
  | cons x l ih =>
    unfold Srt at h
    rw [List.pairwise_cons] at h
    rw [List.mem_cons] at ha hb
    rcases ha with ha | ha
    · rcases hb with hb | hb
      · rw [ha, hb]
      · have := h.1 b hb; rw [← ha, hk.not_ahead] at this; cases this
    · rcases hb with hb | hb
      · have := h.1 a ha; rw [← hb, hk.symm.not_ahead] at this; cases this
      · exact ih h.2 ha hb

theorem Srt.ext {l m : List Arc} (hl : Srt l) (hm : Srt m) (h : ∀ a, a ∈ l ↔ a ∈ m) : l = m := by
  induction l generalizing m with
  | nil =>
    cases m with
    | nil => rfl
    | cons y m => have := (h y).2 (by simp); cases this
  | cons x l ih =>
    cases m with
    | nil => have := (h x).1 (by simp); cases this
    | cons y m =>
      unfold Srt at hl hm
      rw [List.pairwise_cons] at hl hm
      have e : x = y := by
        rcases List.mem_cons.1 ((h x).1 (by simp)) with e | hx
        · exact e
        · rcases List.mem_cons.1 ((h y).2 (by simp)) with e | hy
          · exact e.symm
          · have h1 := hl.1 y hy
            have h2 := hm.1 x hx
            rw [aheadB_asymm h1] at h2
            cases h2
      subst e
      rw [ih hl.2 hm.2]
      intro a
      constructor
      · intro ha
        rcases List.mem_cons.1 ((h a).1 (List.mem_cons_of_mem _ ha)) with rfl | h'
        · have := hl.1 a ha; rw [aheadB_irr] at this; cases this
        · exact h'
      · intro ha
        rcases List.mem_cons.1 ((h a).2 (List.mem_cons_of_mem _ ha)) with rfl | h'
        · have := hm.1 a ha; rw [aheadB_irr] at this; cases this
        · exact h'

theorem IsNorm.uniq {xs zs zs' : List Arc} (h : IsNorm xs zs) (h' : IsNorm xs zs') : zs = zs' := by
  have key : ∀ {zs zs' : List Arc}, IsNorm xs zs → IsNorm xs zs' → ∀ z ∈ zs, z ∈ zs' := by
    intro zs zs' h h' z hz
    obtain ⟨y, hy, hk, hw⟩ := h'.cov z (h.sub z hz)
    obtain ⟨u, hu, hk2, hw2⟩ := h.cov y (h'.sub y hy)
    have e := h.srt.key hu hz (hk2.trans hk)
    subst e
    have : y = u := hk.eq (by omega)
    subst this
    exact hy
  exact h.srt.ext h'.srt fun a => ⟨key h h' a, key h' h a⟩

theorem compL_norm : ∀ (l : List Arc) (p : Arc), (p :: l).Pairwise (fun a b => ltW b a = false) →
    (∀ z ∈ compL p l, aheadB p z = true) ∧ Srt (compL p l) ∧ (∀ z ∈ compL p l, z ∈ l) ∧ ∀ x ∈ l, (Key p x ∧ p.w ≤ x.w) ∨ ∃ z ∈ compL p l, Key z x ∧ z.w ≤ x.w
  | [], p, _ => ⟨fun z h => (by cases h), .nil, fun z h => (by cases h), fun x h => (by cases h)⟩
  | x :: l, p, h => by
    have h2 := (List.pairwise_cons.1 h)
    obtain ⟨i1, i2, i3, i4⟩ := compL_norm l x h2.2
    have hpx := h2.1 x (by simp)
    rw [← Bool.not_eq_true, ltW_iff] at hpx
    simp only [compL]
    by_cases hk : sameK x p = true
    · rw [if_pos hk]
      have hk' := sameK_iff.1 hk
      have hw : p.w ≤ x.w := by obtain ⟨e1, e2, e3, e4⟩ := hk'; omega
      refine ⟨fun z hz => hk'.symm.ahead_l (i1 z hz), i2, fun z hz => List.mem_cons_of_mem _ (i3 z hz), fun y hy => ?_⟩
      rcases List.mem_cons.1 hy with rfl | hy
      · exact .inl ⟨hk'.symm, hw⟩
      · rcases i4 y hy with ⟨g1, g2⟩ | g
        · exact .inl ⟨hk'.symm.trans g1, by omega⟩
        · exact .inr g
    · rw [if_neg hk]
      have hne : ¬ Key x p := fun c => hk (sameK_iff.2 c)
      have ha : aheadB p x = true := by
        rw [aheadB_iff]
        unfold Key at hne
        omega
      refine ⟨fun z hz => ?_, ?_, fun z hz => ?_, fun y hy => ?_⟩
      · rcases List.mem_cons.1 hz with rfl | hz
        · exact ha
        · exact aheadB_trans ha (i1 z hz)
      · exact List.pairwise_cons.2 ⟨i1, i2⟩
      · rcases List.mem_cons.1 hz with rfl | hz
        · simp
        · exact List.mem_cons_of_mem _ (i3 z hz)
      · right
        rcases List.mem_cons.1 hy with rfl | hy
        · exact ⟨y, by simp, Key.refl y, Int.le_refl _⟩
        · rcases i4 y hy with ⟨g1, g2⟩ | ⟨z, g1, g2, g3⟩
          · exact ⟨x, by simp, g1, g2⟩
          · exact ⟨z, List.mem_cons_of_mem _ g1, g2, g3⟩

theorem comp_norm {ys : List Arc} (h : ys.Pairwise (fun a b => ltW b a = false)) : IsNorm ys (comp ys) := by
  cases ys with
  | nil => exact ⟨.nil, fun z h => (by cases h), fun x h => (by cases h)⟩
  | cons p l =>
    obtain ⟨i1, i2, i3, i4⟩ := compL_norm l p h
    refine ⟨List.pairwise_cons.2 ⟨i1, i2⟩, fun z hz => ?_, fun x hx => ?_⟩
    · rcases List.mem_cons.1 hz with rfl | hz
      · simp
      · exact List.mem_cons_of_mem _ (i3 z hz)
    · rcases List.mem_cons.1 hx with rfl | hx
      · exact ⟨x, by simp [comp], Key.refl x, Int.le_refl _⟩
      · rcases i4 x hx with ⟨g1, g2⟩ | ⟨z, g1, g2, g3⟩
        · exact ⟨p, by simp [comp], g1, g2⟩
        · exact ⟨z, List.mem_cons_of_mem _ g1, g2, g3⟩

/-- What sorting comes to. -/
def SortIs (xs zs : List Arc) : Prop := ∃ ys : List Arc, ys.Perm xs ∧ SrtOn aD ltW 0 xs.length ys ∧ zs = comp ys

theorem SortIs.norm {xs zs : List Arc} (h : SortIs xs zs) : IsNorm xs zs := by
  obtain ⟨ys, hp, hs, rfl⟩ := h
  have hl := hp.length_eq
  have := comp_norm (ys := ys) (by
    rw [List.pairwise_iff_getElem]
    intro i j hi hj hij
    have := hs i j (Nat.zero_le _) hij (by omega)
    simpa [List.getD, hi, hj] using this)
  exact ⟨this.srt, fun z hz => hp.mem_iff.1 (this.sub z hz), fun x hx => this.cov x (hp.mem_iff.2 hx)⟩

/-! ### One more, put where it goes -/
theorem IsNorm.nil : IsNorm [] [] := ⟨.nil, fun z h => (by cases h), fun x h => (by cases h)⟩

theorem Srt.at {l : List Arc} (h : Srt l) {i j : Nat} (hij : i < j) (hj : j < l.length) : aheadB (l.getD i aD) (l.getD j aD) = true := by
  have := (List.pairwise_iff_getElem.1 h) i j (by omega) hj hij
  simpa [List.getD, hj, show i < l.length by omega] using this

theorem mem_getD {l : List Arc} {z : Arc} (h : z ∈ l) : ∃ i, i < l.length ∧ l.getD i aD = z := by
  obtain ⟨i, hi, e⟩ := List.getElem_of_mem h
  exact ⟨i, hi, by simp [List.getD, hi, e]⟩

/-- It stands there already. -/
theorem IsNorm.meet {xs out : List Arc} {x : Arc} {at_ : Nat} (h : IsNorm xs out) (h1 : 0 < at_) (h2 : at_ ≤ out.length) (hk : Key (out.getD (at_ - 1) aD) x) (y : Arc) (hy : y = { out.getD (at_ - 1) aD with w := y.w })
    (hw : (y.w = (out.getD (at_ - 1) aD).w ∧ y.w ≤ x.w) ∨ (y.w = x.w ∧ x.w ≤ (out.getD (at_ - 1) aD).w)) : IsNorm (xs ++ [x]) (out.set (at_ - 1) y) := by
  have hyk : Key y (out.getD (at_ - 1) aD) := by rw [hy]; exact ⟨rfl, rfl, rfl, rfl⟩
  have hg : ∀ i, (out.set (at_ - 1) y).getD i aD = if at_ - 1 = i ∧ i < out.length then y else out.getD i aD := fun i => getD_set' _ _ _ _ _
  refine ⟨?_, ?_, ?_⟩
  · unfold Srt
    rw [List.pairwise_iff_getElem]
    intro i j hi hj hij
    rw [List.length_set] at hi hj
    have e1 : (out.set (at_ - 1) y)[i]'(by simpa using hi) = (out.set (at_ - 1) y).getD i aD := by simp [List.getD, hi]
    have e2 : (out.set (at_ - 1) y)[j]'(by simpa using hj) = (out.set (at_ - 1) y).getD j aD := by simp [List.getD, hj]
    rw [e1, e2, hg, hg]
    have hb := h.srt.at hij hj
    split
    · rename_i c1
      rw [if_neg (by omega)]
      rw [c1.1] at hyk
      exact hyk.ahead_l hb
    · split
      · rename_i c2
        rw [c2.1] at hyk
        exact hyk.symm.ahead_r hb
      · exact hb
  · intro z hz
    rcases List.mem_or_eq_of_mem_set hz with hz | rfl
    · exact List.mem_append_left _ (h.sub z hz)
    · rcases hw with ⟨e, _⟩ | ⟨e, _⟩
      · have : z = out.getD (at_ - 1) aD := hyk.eq e
        rw [this]
        exact List.mem_append_left _ (h.sub _ (getD_mem out _ _ (by omega)))
      · have : z = x := (hyk.trans hk).eq e
        rw [this]
        simp
  · intro u hu
    have hmem : y ∈ out.set (at_ - 1) y := List.mem_iff_getElem.2 ⟨at_ - 1, by simp; omega, by simp⟩
    rcases List.mem_append.1 hu with hu | hu
    · obtain ⟨z, hz, hzk, hzw⟩ := h.cov u hu
      obtain ⟨i, hi, e⟩ := mem_getD hz
      by_cases c : at_ - 1 = i
      · subst c
        exact ⟨y, hmem, by rw [e] at hyk; exact hyk.trans hzk, by rw [e] at hw; rcases hw with ⟨g, _⟩ | ⟨g, g2⟩ <;> omega⟩
      · refine ⟨z, ?_, hzk, hzw⟩
        have : (out.set (at_ - 1) y).getD i aD = z := by rw [hg, if_neg (fun c' => c c'.1)]; exact e
        rw [← this]
        exact getD_mem _ _ _ (by simpa using hi)
    · rw [List.mem_singleton] at hu
      subst hu
      exact ⟨y, hmem, hyk.trans hk, by rcases hw with ⟨_, g⟩ | ⟨g, _⟩ <;> omega⟩

/-- It is new. -/
theorem IsNorm.put {xs out : List Arc} {x : Arc} {at_ : Nat} (h : IsNorm xs out) (h2 : at_ ≤ out.length) (hb : ∀ j, at_ ≤ j → j < out.length → aheadB x (out.getD j aD) = true) (ha : at_ = 0 ∨ aheadB (out.getD (at_ - 1) aD) x = true) :
    IsNorm (xs ++ [x]) (out.take at_ ++ [x] ++ out.drop at_) := by
  have hlow : ∀ z ∈ out.take at_, aheadB z x = true := by
    intro z hz
    obtain ⟨i, hi, e⟩ := mem_getD hz
    rw [List.length_take] at hi
    have e2 : (out.take at_).getD i aD = out.getD i aD := by
      have : i < at_ := by omega
      simp [List.getD, this]
    rw [e2] at e
    rcases ha with ha | ha
    · omega
    · by_cases c : i = at_ - 1
      · rw [← e, c]; exact ha
      · rw [← e]; exact aheadB_trans (h.srt.at (by omega) (by omega)) ha
  have hup : ∀ z ∈ out.drop at_, aheadB x z = true := by
    intro z hz
    obtain ⟨i, hi, e⟩ := mem_getD hz
    rw [List.length_drop] at hi
    have e2 : (out.drop at_).getD i aD = out.getD (at_ + i) aD := by simp [List.getD]
    rw [e2] at e
    rw [← e]
    exact hb _ (by omega) (by omega)
  have hsp : Srt (out.take at_ ++ out.drop at_) := by rw [List.take_append_drop]; exact h.srt
  unfold Srt at hsp
  rw [List.pairwise_append] at hsp
  refine ⟨?_, ?_, ?_⟩
  · unfold Srt
    rw [List.append_assoc, List.pairwise_append]
    refine ⟨hsp.1, ?_, ?_⟩
    · exact List.pairwise_cons.2 ⟨fun z hz => hup z (by simpa using hz), hsp.2.1⟩
    · intro a ha' b hb'
      rcases List.mem_append.1 hb' with hb' | hb'
      · rw [List.mem_singleton] at hb'
        rw [hb']; exact hlow a ha'
      · exact hsp.2.2 a ha' b hb'
  · intro z hz
    rcases List.mem_append.1 hz with hz | hz
    · rcases List.mem_append.1 hz with hz | hz
      · exact List.mem_append_left _ (h.sub z (List.mem_of_mem_take hz))
      · exact List.mem_append_right _ hz
    · exact List.mem_append_left _ (h.sub z (List.mem_of_mem_drop hz))
  · intro u hu
    rcases List.mem_append.1 hu with hu | hu
    · obtain ⟨z, hz, hzk⟩ := h.cov u hu
      refine ⟨z, ?_, hzk⟩
      rw [← List.take_append_drop at_ out] at hz
      rcases List.mem_append.1 hz with hz | hz
      · exact List.mem_append_left _ (List.mem_append_left _ hz)
      · exact List.mem_append_right _ hz
    · rw [List.mem_singleton] at hu
      subst hu
      exact ⟨u, List.mem_append_left _ (List.mem_append_right _ (by simp)), Key.refl u, Int.le_refl _⟩

end Go.Fw

namespace Go.Fw
open Go Go.Proofs

set_option maxHeartbeats 8000000 in
set_option maxRecDepth 20000 in
theorem compact0_c (xs : List Arc) (cap sp : Nat) (hl : xs.length ≤ 1000000) (hcap : xs.length ≤ cap) : Ct Try.prog 118 [.c (.sl 0 5 0 xs.length cap), .c (.fn 119 [])] [] [(0, .arr true 47 .arc xs sp)] 1
    (fun v s => ∃ rest, v = .c (.sl 0 5 0 (comp xs).length cap) ∧ s = ⟨[], [(0, .arr true 47 .arc (comp xs ++ rest) sp)], 1⟩ ∧ (comp xs).length + rest.length = xs.length) := by
  refine ctW Try.tyOk 8 [] Try.func118 rfl (by simp [SV.lt, SA.lt, SC.lt, arcV, fV]) (by simp) (fr := [(0, .c (.sl 0 5 0 xs.length cap)), (1, .c (.fn 119 []))]) rfl ?_
  repeat' (first | exact rfl | ((conv => whnf); first | refine condP_dec (fun h => absurd h (by omega)) (fun h => ?_) | refine condP_dec (fun h => ?_) (fun h => absurd h (by omega)) | refine condP_dec (fun h => ?_) (fun h => ?_) | refine condP_ndec (fun h => absurd h (by omega)) (fun h => ?_) | refine condP_ndec (fun h => ?_) (fun h => absurd h (by omega)) | refine condP_ndec (fun h => ?_) (fun h => ?_) | refine condP_beq (fun h => absurd h (by omega)) (fun h => ?_) | refine condP_beq (fun h => ?_) (fun h => absurd h (by omega)) | refine condP_beq (fun h => ?_) (fun h => ?_) | refine condP_bne (fun h => absurd h (by omega)) (fun h => ?_) | refine condP_bne (fun h => ?_) (fun h => absurd h (by omega)) | refine condP_bne (fun h => ?_) (fun h => ?_) | refine condP_mk (fun h => ?_) (fun h => ?_) | refine Ob.mk (by (first | omega | (simp only [InI, nmin, List.length_append, List.length_replicate, List.length_cons, List.length_nil, List.length_map, List.length_set, List.length_take, List.length_drop, List.length_reverse, List.length_range, Nat.zero_add, Nat.add_zero, Int.toNat_natCast, EK.sz]; omega) | (simp only [InI, nmin, List.length_append, List.length_replicate, List.length_cons, List.length_nil, List.length_map, List.length_set, List.length_take, List.length_drop, List.length_reverse, List.length_range, Nat.zero_add, Nat.add_zero, Int.toNat_natCast, EK.sz] at *; omega))) ?_ | refine Ob.mk ?_ ?_ | refine Both.mk ?_ ?_ | refine draw_of Try.mixed Try.tyOk 60 (by kernel_rfl) ?_))
  · (conv => whnf)
    have e := comp_short xs (by omega)
    exact ⟨[], [(0, .arr true 47 .arc xs sp)], 1, .c (.sl 0 5 0 xs.length cap), ⟨by rfl, trivial, by simp [eqFr, eqHp, eqV, eqA, eqC, eqO, eqCs, eqAs, look_cons, look, rn, EK.cast, EK.sz, eqCaps]⟩, by simp [eqV, eqA, eqC, rn, look], [], by rw [e], by rw [e, List.append_nil], by rw [e]; rfl⟩
  · (conv => whnf)
    refine loopI (fun k : Nat => ⟨[(0, .c (.sl 0 5 0 xs.length cap)), (1, .c (.fn 119 [])), (5, .i k)], [(0, .arr true 47 .arc xs sp)], 1⟩)
      (fun k => 1 ≤ k ∧ k ≤ xs.length ∧ comp (xs.take k) = xs.take k) (fun k => xs.length - k) 1 [] ⟨by rfl, ?_, ?_⟩ ⟨Nat.le_refl _, by omega, comp_one xs⟩ ?_
    · simp [eqFr, eqHp, eqV, eqA, eqC, eqO, eqCs, eqAs, look_cons, look, rn, EK.cast, EK.sz, eqCaps]
    · simp [eqFr, eqHp, eqV, eqA, eqC, eqO, eqCs, eqAs, look_cons, look, rn, EK.cast, EK.sz, eqCaps]
    · rintro k ⟨hk1, hk2, hk3⟩
      have e0 : 0 + (k : Int).toNat = k := by omega
      have e1 : 0 + ((k : Int) - 1).toNat = k - 1 := by omega
      repeat' (first | exact rfl | ((conv => whnf); first | refine condP_dec (fun h => absurd h (by omega)) (fun h => ?_) | refine condP_dec (fun h => ?_) (fun h => absurd h (by omega)) | refine condP_dec (fun h => ?_) (fun h => ?_) | refine condP_ndec (fun h => absurd h (by omega)) (fun h => ?_) | refine condP_ndec (fun h => ?_) (fun h => absurd h (by omega)) | refine condP_ndec (fun h => ?_) (fun h => ?_) | refine condP_beq (fun h => absurd h (by omega)) (fun h => ?_) | refine condP_beq (fun h => ?_) (fun h => absurd h (by omega)) | refine condP_beq (fun h => ?_) (fun h => ?_) | refine condP_bne (fun h => absurd h (by omega)) (fun h => ?_) | refine condP_bne (fun h => ?_) (fun h => absurd h (by omega)) | refine condP_bne (fun h => ?_) (fun h => ?_) | refine condP_mk (fun h => ?_) (fun h => ?_) | refine Ob.mk (by (first | omega | (simp only [InI, nmin, List.length_append, List.length_replicate, List.length_cons, List.length_nil, List.length_map, List.length_set, List.length_take, List.length_drop, List.length_reverse, List.length_range, Nat.zero_add, Nat.add_zero, Int.toNat_natCast, EK.sz]; omega) | (simp only [InI, nmin, List.length_append, List.length_replicate, List.length_cons, List.length_nil, List.length_map, List.length_set, List.length_take, List.length_drop, List.length_reverse, List.length_range, Nat.zero_add, Nat.add_zero, Int.toNat_natCast, EK.sz] at *; omega))) ?_ | refine Ob.mk ?_ ?_ | refine Both.mk ?_ ?_ | refine draw_of Try.mixed Try.tyOk 60 (by kernel_rfl) ?_))
      · (conv => whnf)
        have ecm : sameK (xs.getD k aD) (xs.getD (k - 1) aD) = decide (orderI (xs.getD (0 + (k : Int).toNat) EK.arc.dflt) (xs.getD (0 + ((k : Int) - 1).toNat) EK.arc.dflt) = 0) := by rw [e0, e1]; rfl
        refine callF (sorted2_c (xs.getD (0 + (k : Int).toNat) EK.arc.dflt) (xs.getD (0 + ((k : Int) - 1).toNat) EK.arc.dflt)) [] Try.call119 rfl (by simp [eqLs, eqL, eqO, eqC, eqCs, rn, renOf, look_cons, look, EK.cast]) (by simp [appN, ptrs, eqVL, eqV, eqA, eqC, eqCs, eqAs, eqCaps, EK.sz, rn, renOf, look_cons, look, arcV, fV]) (by simp [appN, ptrs, SV.lt, SA.lt, SC.lt, arcV, fV, lenN]) ?_
        rintro _ _ ⟨rfl, rfl⟩
        repeat' (first | exact rfl | ((conv => whnf); first | refine condP_dec (fun h => absurd h (by omega)) (fun h => ?_) | refine condP_dec (fun h => ?_) (fun h => absurd h (by omega)) | refine condP_dec (fun h => ?_) (fun h => ?_) | refine condP_ndec (fun h => absurd h (by omega)) (fun h => ?_) | refine condP_ndec (fun h => ?_) (fun h => absurd h (by omega)) | refine condP_ndec (fun h => ?_) (fun h => ?_) | refine condP_beq (fun h => absurd h (by omega)) (fun h => ?_) | refine condP_beq (fun h => ?_) (fun h => absurd h (by omega)) | refine condP_beq (fun h => ?_) (fun h => ?_) | refine condP_bne (fun h => absurd h (by omega)) (fun h => ?_) | refine condP_bne (fun h => ?_) (fun h => absurd h (by omega)) | refine condP_bne (fun h => ?_) (fun h => ?_) | refine condP_mk (fun h => ?_) (fun h => ?_) | refine Ob.mk (by (first | omega | (simp only [InI, nmin, List.length_append, List.length_replicate, List.length_cons, List.length_nil, List.length_map, List.length_set, List.length_take, List.length_drop, List.length_reverse, List.length_range, Nat.zero_add, Nat.add_zero, Int.toNat_natCast, EK.sz]; omega) | (simp only [InI, nmin, List.length_append, List.length_replicate, List.length_cons, List.length_nil, List.length_map, List.length_set, List.length_take, List.length_drop, List.length_reverse, List.length_range, Nat.zero_add, Nat.add_zero, Int.toNat_natCast, EK.sz] at *; omega))) ?_ | refine Ob.mk ?_ ?_ | refine Both.mk ?_ ?_ | refine draw_of Try.mixed Try.tyOk 60 (by kernel_rfl) ?_))
        · rw [decide_eq_true (by assumption)] at ecm
          (conv => whnf)
          refine loopI (fun y : Nat × Nat × List Arc => ⟨[(0, .c (.sl 0 5 0 xs.length cap)), (1, .c (.fn 119 [])), (5, .i y.1), (6, .c (.sl 0 5 k (xs.length - k) (cap - k))), (7, .i (y.2.1 - k : Nat))], [(0, .arr true 47 .arc y.2.2 sp)], 1⟩)
            (fun y => k + 1 ≤ y.2.1 ∧ CompIn xs y.1 y.2.1 y.2.2) (fun y => xs.length - y.2.1) (k, k + 1, xs) [] ⟨by rfl, ?_, ?_⟩ ⟨Nat.le_refl _, CompIn.start hk1 (by omega) hk3 ecm⟩ ?_
          · simp [eqFr, eqHp, eqV, eqA, eqC, eqO, eqCs, eqAs, look_cons, look, rn, EK.cast, EK.sz, eqCaps]
          · simp [eqFr, eqHp, eqV, eqA, eqC, eqO, eqCs, eqAs, look_cons, look, rn, EK.cast, EK.sz, eqCaps]
          · rintro ⟨p, n, ys⟩ ⟨hkn, hin⟩
            have hyl := hin.len
            have hpn := hin.kn
            have hnl := hin.nl
            have hp1 := hin.k1
            simp only at hkn hyl hpn hnl hp1 ⊢
            have f0 : k + ((n - k : Nat) : Int).toNat = n := by omega
            have f1 : k + (((n - k : Nat) : Int) - 1).toNat = n - 1 := by omega
            have f2 : 0 + (p : Int).toNat = p := by omega
            repeat' (first | exact rfl | ((conv => whnf); first | refine condP_dec (fun h => absurd h (by omega)) (fun h => ?_) | refine condP_dec (fun h => ?_) (fun h => absurd h (by omega)) | refine condP_dec (fun h => ?_) (fun h => ?_) | refine condP_ndec (fun h => absurd h (by omega)) (fun h => ?_) | refine condP_ndec (fun h => ?_) (fun h => absurd h (by omega)) | refine condP_ndec (fun h => ?_) (fun h => ?_) | refine condP_beq (fun h => absurd h (by omega)) (fun h => ?_) | refine condP_beq (fun h => ?_) (fun h => absurd h (by omega)) | refine condP_beq (fun h => ?_) (fun h => ?_) | refine condP_bne (fun h => absurd h (by omega)) (fun h => ?_) | refine condP_bne (fun h => ?_) (fun h => absurd h (by omega)) | refine condP_bne (fun h => ?_) (fun h => ?_) | refine condP_mk (fun h => ?_) (fun h => ?_) | refine Ob.mk (by (first | omega | (simp only [InI, nmin, List.length_append, List.length_replicate, List.length_cons, List.length_nil, List.length_map, List.length_set, List.length_take, List.length_drop, List.length_reverse, List.length_range, Nat.zero_add, Nat.add_zero, Int.toNat_natCast, EK.sz]; omega) | (simp only [InI, nmin, List.length_append, List.length_replicate, List.length_cons, List.length_nil, List.length_map, List.length_set, List.length_take, List.length_drop, List.length_reverse, List.length_range, Nat.zero_add, Nat.add_zero, Int.toNat_natCast, EK.sz] at *; omega))) ?_ | refine Ob.mk ?_ ?_ | refine Both.mk ?_ ?_ | refine draw_of Try.mixed Try.tyOk 60 (by kernel_rfl) ?_))
            · (conv => whnf)
              have hu0 := hin.un n (by simp only; omega)
              have hu1 := hin.un (n - 1) (by simp only; omega)
              simp only at hu0 hu1
              have ecm2 : sameK (xs.getD n aD) (xs.getD (n - 1) aD) = decide (orderI (ys.getD (k + ((n - k : Nat) : Int).toNat) EK.arc.dflt) (ys.getD (k + (((n - k : Nat) : Int) - 1).toNat) EK.arc.dflt) = 0) := by rw [f0, f1, ← hu0, ← hu1]; rfl
              refine callF (sorted2_c (ys.getD (k + ((n - k : Nat) : Int).toNat) EK.arc.dflt) (ys.getD (k + (((n - k : Nat) : Int) - 1).toNat) EK.arc.dflt)) [] Try.call119 rfl (by simp [eqLs, eqL, eqO, eqC, eqCs, rn, renOf, look_cons, look, EK.cast]) (by simp [appN, ptrs, eqVL, eqV, eqA, eqC, eqCs, eqAs, eqCaps, EK.sz, rn, renOf, look_cons, look, arcV, fV]) (by simp [appN, ptrs, SV.lt, SA.lt, SC.lt, arcV, fV, lenN]) ?_
              rintro _ _ ⟨rfl, rfl⟩
              repeat' (first | exact rfl | ((conv => whnf); first | refine condP_dec (fun h => absurd h (by omega)) (fun h => ?_) | refine condP_dec (fun h => ?_) (fun h => absurd h (by omega)) | refine condP_dec (fun h => ?_) (fun h => ?_) | refine condP_ndec (fun h => absurd h (by omega)) (fun h => ?_) | refine condP_ndec (fun h => ?_) (fun h => absurd h (by omega)) | refine condP_ndec (fun h => ?_) (fun h => ?_) | refine condP_beq (fun h => absurd h (by omega)) (fun h => ?_) | refine condP_beq (fun h => ?_) (fun h => absurd h (by omega)) | refine condP_beq (fun h => ?_) (fun h => ?_) | refine condP_bne (fun h => absurd h (by omega)) (fun h => ?_) | refine condP_bne (fun h => ?_) (fun h => absurd h (by omega)) | refine condP_bne (fun h => ?_) (fun h => ?_) | refine condP_mk (fun h => ?_) (fun h => ?_) | refine Ob.mk (by (first | omega | (simp only [InI, nmin, List.length_append, List.length_replicate, List.length_cons, List.length_nil, List.length_map, List.length_set, List.length_take, List.length_drop, List.length_reverse, List.length_range, Nat.zero_add, Nat.add_zero, Int.toNat_natCast, EK.sz]; omega) | (simp only [InI, nmin, List.length_append, List.length_replicate, List.length_cons, List.length_nil, List.length_map, List.length_set, List.length_take, List.length_drop, List.length_reverse, List.length_range, Nat.zero_add, Nat.add_zero, Int.toNat_natCast, EK.sz] at *; omega))) ?_ | refine Ob.mk ?_ ?_ | refine Both.mk ?_ ?_ | refine draw_of Try.mixed Try.tyOk 60 (by kernel_rfl) ?_))
              · rw [decide_eq_false (by assumption)] at ecm2
                have hu0' : ys.getD n EK.arc.dflt = xs.getD n aD := hu0
                (conv => whnf)
                refine ⟨(p + 1, n + 1, ys.set p (xs.getD n aD)), [], ⟨by rfl, ?_, ?_⟩, ⟨by simp only; omega, hin.put (by simp only; omega) ecm2⟩, by simp only; omega⟩
                · simp [eqFr, eqHp, eqV, eqA, eqC, eqO, eqCs, eqAs, look_cons, look, rn, EK.cast, EK.sz, eqCaps]
                  omega
                · simp only [f0, f2, hu0']
                  simp [eqFr, eqHp, eqV, eqA, eqC, eqO, eqCs, eqAs, look_cons, look, rn, EK.cast, EK.sz, eqCaps]
              · rw [decide_eq_true (by assumption)] at ecm2
                (conv => whnf)
                refine ⟨(p, n + 1, ys), [], ⟨by rfl, ?_, ?_⟩, ⟨by simp only; omega, hin.skip (by simp only; omega) ecm2⟩, by simp only; omega⟩
                · simp [eqFr, eqHp, eqV, eqA, eqC, eqO, eqCs, eqAs, look_cons, look, rn, EK.cast, EK.sz, eqCaps]
                  omega
                · simp [eqFr, eqHp, eqV, eqA, eqC, eqO, eqCs, eqAs, look_cons, look, rn, EK.cast, EK.sz, eqCaps]
            · (conv => whnf)
              have e : n = xs.length := by omega
              subst e
              obtain ⟨d1, d2⟩ := hin.done
              have d3 : ys.take p = comp xs := by
                have := hin.tk
                rw [List.take_length] at this
                exact this
              simp only at d1 d2
              refine clearX Try.tyOk rfl rfl rfl rfl (by rw [hyl]; omega) ?_
              generalize hz : (List.take _ ys ++ List.replicate _ _ ++ List.drop _ ys) = zs
              have hz2 : zs = comp xs ++ List.replicate (xs.length - p) aD := by
                have e3 : 0 + (p : Int).toNat = p := by omega
                have e4 : ((xs.length : Int) - p).toNat = xs.length - p := by omega
                rw [← hz, e3, e4, d3, List.drop_of_length_le (by omega), List.append_nil]
                rfl
              clear hz
              subst hz2
              repeat' (first | exact rfl | ((conv => whnf); first | refine condP_dec (fun h => absurd h (by omega)) (fun h => ?_) | refine condP_dec (fun h => ?_) (fun h => absurd h (by omega)) | refine condP_dec (fun h => ?_) (fun h => ?_) | refine condP_ndec (fun h => absurd h (by omega)) (fun h => ?_) | refine condP_ndec (fun h => ?_) (fun h => absurd h (by omega)) | refine condP_ndec (fun h => ?_) (fun h => ?_) | refine condP_beq (fun h => absurd h (by omega)) (fun h => ?_) | refine condP_beq (fun h => ?_) (fun h => absurd h (by omega)) | refine condP_beq (fun h => ?_) (fun h => ?_) | refine condP_bne (fun h => absurd h (by omega)) (fun h => ?_) | refine condP_bne (fun h => ?_) (fun h => absurd h (by omega)) | refine condP_bne (fun h => ?_) (fun h => ?_) | refine condP_mk (fun h => ?_) (fun h => ?_) | refine Ob.mk (by (first | omega | (simp only [InI, nmin, List.length_append, List.length_replicate, List.length_cons, List.length_nil, List.length_map, List.length_set, List.length_take, List.length_drop, List.length_reverse, List.length_range, Nat.zero_add, Nat.add_zero, Int.toNat_natCast, EK.sz]; omega) | (simp only [InI, nmin, List.length_append, List.length_replicate, List.length_cons, List.length_nil, List.length_map, List.length_set, List.length_take, List.length_drop, List.length_reverse, List.length_range, Nat.zero_add, Nat.add_zero, Int.toNat_natCast, EK.sz] at *; omega))) ?_ | refine Ob.mk ?_ ?_ | refine Both.mk ?_ ?_ | refine draw_of Try.mixed Try.tyOk 60 (by kernel_rfl) ?_))
              (conv => whnf)
              exact ⟨[], [(0, .arr true 47 .arc (comp xs ++ List.replicate (xs.length - p) aD) sp)], 1, .c (.sl 0 5 0 (comp xs).length cap), ⟨by rfl, trivial, by simp [eqFr, eqHp, eqV, eqA, eqC, eqO, eqCs, eqAs, look_cons, look, rn, EK.cast, EK.sz, eqCaps]⟩, by rw [d1]; simp [eqV, eqA, eqC, rn, look], List.replicate (xs.length - p) aD, rfl, rfl, by rw [d1, List.length_replicate]; omega⟩
        · rw [decide_eq_false (by assumption)] at ecm
          (conv => whnf)
          refine ⟨k + 1, [], ⟨by rfl, ?_, ?_⟩, ⟨by omega, by omega, by rw [comp_take xs k hk1 (by omega), ecm, hk3, if_neg (by simp), take_succ_getD xs k aD (by omega)]⟩, by omega⟩
          · simp [eqFr, eqHp, eqV, eqA, eqC, eqO, eqCs, eqAs, look_cons, look, rn, EK.cast, EK.sz, eqCaps]
          · simp [eqFr, eqHp, eqV, eqA, eqC, eqO, eqCs, eqAs, look_cons, look, rn, EK.cast, EK.sz, eqCaps]
      · (conv => whnf)
        have e : k = xs.length := by omega
        subst e
        rw [List.take_length] at hk3
        exact ⟨[], [(0, .arr true 47 .arc xs sp)], 1, .c (.sl 0 5 0 xs.length cap), ⟨by rfl, trivial, by simp [eqFr, eqHp, eqV, eqA, eqC, eqO, eqCs, eqAs, look_cons, look, rn, EK.cast, EK.sz, eqCaps]⟩, by simp [eqV, eqA, eqC, rn, look], [], by rw [hk3], by rw [hk3, List.append_nil], by rw [hk3]; rfl⟩
theorem compact_c (xs : List Arc) (cap sp : Nat) (hl : xs.length ≤ 1000000) (hcap : xs.length ≤ cap) : Ct Try.prog 118 [.c (.sl 0 5 0 xs.length cap), .c (.fn 119 [])] [] [(0, .arr true 47 .arc xs sp)] 1
    (fun v s => ∃ sp', v = .c (.sl 0 5 0 (comp xs).length cap) ∧ s = ⟨[], [(0, .arr true 47 .arc (comp xs) sp')], 1⟩ ∧ xs.length + sp = (comp xs).length + sp') := by
  refine (compact0_c xs cap sp hl hcap).short ?_
  rintro v s ⟨rest, rfl, rfl, hr⟩
  exact ⟨0, 47, sp, .arc, comp xs, rest, rfl, rest.length + sp, rfl, rfl, by omega⟩

set_option maxHeartbeats 8000000 in
set_option maxRecDepth 20000 in
theorem sorted_c (xs : List Arc) (cap sp : Nat) (hl : xs.length ≤ 1000000) (hcap : xs.length ≤ cap) : Ct Try.prog 90 [.c (.sl 0 5 0 xs.length cap)] [] [(0, .arr true 47 .arc xs sp)] 1
    (fun v s => ∃ zs sp', v = .c (.sl 0 5 0 zs.length cap) ∧ s = ⟨[], [(0, .arr true 47 .arc zs sp')], 1⟩ ∧ xs.length + sp = zs.length + sp' ∧ SortIs xs zs) := by
  refine ctW Try.tyOk 3 [] Try.func90 rfl (by simp [SV.lt, SA.lt, SC.lt, arcV, fV]) (by simp) (fr := [(0, .c (.sl 0 5 0 xs.length cap))]) rfl ?_
  repeat' (first | exact rfl | ((conv => whnf); first | refine condP_dec (fun h => absurd h (by omega)) (fun h => ?_) | refine condP_dec (fun h => ?_) (fun h => absurd h (by omega)) | refine condP_dec (fun h => ?_) (fun h => ?_) | refine condP_ndec (fun h => absurd h (by omega)) (fun h => ?_) | refine condP_ndec (fun h => ?_) (fun h => absurd h (by omega)) | refine condP_ndec (fun h => ?_) (fun h => ?_) | refine condP_beq (fun h => absurd h (by omega)) (fun h => ?_) | refine condP_beq (fun h => ?_) (fun h => absurd h (by omega)) | refine condP_beq (fun h => ?_) (fun h => ?_) | refine condP_bne (fun h => absurd h (by omega)) (fun h => ?_) | refine condP_bne (fun h => ?_) (fun h => absurd h (by omega)) | refine condP_bne (fun h => ?_) (fun h => ?_) | refine condP_mk (fun h => ?_) (fun h => ?_) | refine Ob.mk (by (first | omega | (simp only [InI, nmin, List.length_append, List.length_replicate, List.length_cons, List.length_nil, List.length_map, List.length_set, List.length_take, List.length_drop, List.length_reverse, List.length_range, Nat.zero_add, Nat.add_zero, Int.toNat_natCast, EK.sz]; omega) | (simp only [InI, nmin, List.length_append, List.length_replicate, List.length_cons, List.length_nil, List.length_map, List.length_set, List.length_take, List.length_drop, List.length_reverse, List.length_range, Nat.zero_add, Nat.add_zero, Int.toNat_natCast, EK.sz] at *; omega))) ?_ | refine Ob.mk ?_ ?_ | refine Both.mk ?_ ?_ | refine draw_of Try.mixed Try.tyOk 60 (by kernel_rfl) ?_))
  (conv => whnf)
  refine callF (sortStable_c xs cap sp hl) [0] Try.call114 rfl (by simp [eqLs, eqL, eqO, eqC, eqCs, rn, renOf, look_cons, look, EK.cast]) (by simp [appN, ptrs, eqVL, eqV, eqA, eqC, eqCs, eqAs, eqCaps, EK.sz, rn, renOf, look_cons, look, arcV, fV]) (by simp [appN, ptrs, SV.lt, SA.lt, SC.lt, arcV, fV, lenN]) ?_
  rintro _ _ ⟨ys, rfl, rfl, hm, hs⟩
  have hyl := hm.len
  repeat' (first | exact rfl | ((conv => whnf); first | refine condP_dec (fun h => absurd h (by omega)) (fun h => ?_) | refine condP_dec (fun h => ?_) (fun h => absurd h (by omega)) | refine condP_dec (fun h => ?_) (fun h => ?_) | refine condP_ndec (fun h => absurd h (by omega)) (fun h => ?_) | refine condP_ndec (fun h => ?_) (fun h => absurd h (by omega)) | refine condP_ndec (fun h => ?_) (fun h => ?_) | refine condP_beq (fun h => absurd h (by omega)) (fun h => ?_) | refine condP_beq (fun h => ?_) (fun h => absurd h (by omega)) | refine condP_beq (fun h => ?_) (fun h => ?_) | refine condP_bne (fun h => absurd h (by omega)) (fun h => ?_) | refine condP_bne (fun h => ?_) (fun h => absurd h (by omega)) | refine condP_bne (fun h => ?_) (fun h => ?_) | refine condP_mk (fun h => ?_) (fun h => ?_) | refine Ob.mk (by (first | omega | (simp only [InI, nmin, List.length_append, List.length_replicate, List.length_cons, List.length_nil, List.length_map, List.length_set, List.length_take, List.length_drop, List.length_reverse, List.length_range, Nat.zero_add, Nat.add_zero, Int.toNat_natCast, EK.sz]; omega) | (simp only [InI, nmin, List.length_append, List.length_replicate, List.length_cons, List.length_nil, List.length_map, List.length_set, List.length_take, List.length_drop, List.length_reverse, List.length_range, Nat.zero_add, Nat.add_zero, Int.toNat_natCast, EK.sz] at *; omega))) ?_ | refine Ob.mk ?_ ?_ | refine Both.mk ?_ ?_ | refine draw_of Try.mixed Try.tyOk 60 (by kernel_rfl) ?_))
  (conv => whnf)
  refine callF (compact_c ys cap sp (by omega) (by omega)) [0] Try.call118 rfl (by simp [eqLs, eqL, eqO, eqC, eqCs, rn, renOf, look_cons, look, EK.cast, hyl]) (by simp [appN, ptrs, eqVL, eqV, eqA, eqC, eqCs, eqAs, eqCaps, EK.sz, rn, renOf, look_cons, look, arcV, fV, hyl]) (by simp [appN, ptrs, SV.lt, SA.lt, SC.lt, arcV, fV, lenN]) ?_
  rintro _ _ ⟨sp', rfl, rfl, hsp⟩
  repeat' (first | exact rfl | ((conv => whnf); first | refine condP_dec (fun h => absurd h (by omega)) (fun h => ?_) | refine condP_dec (fun h => ?_) (fun h => absurd h (by omega)) | refine condP_dec (fun h => ?_) (fun h => ?_) | refine condP_ndec (fun h => absurd h (by omega)) (fun h => ?_) | refine condP_ndec (fun h => ?_) (fun h => absurd h (by omega)) | refine condP_ndec (fun h => ?_) (fun h => ?_) | refine condP_beq (fun h => absurd h (by omega)) (fun h => ?_) | refine condP_beq (fun h => ?_) (fun h => absurd h (by omega)) | refine condP_beq (fun h => ?_) (fun h => ?_) | refine condP_bne (fun h => absurd h (by omega)) (fun h => ?_) | refine condP_bne (fun h => ?_) (fun h => absurd h (by omega)) | refine condP_bne (fun h => ?_) (fun h => ?_) | refine condP_mk (fun h => ?_) (fun h => ?_) | refine Ob.mk (by (first | omega | (simp only [InI, nmin, List.length_append, List.length_replicate, List.length_cons, List.length_nil, List.length_map, List.length_set, List.length_take, List.length_drop, List.length_reverse, List.length_range, Nat.zero_add, Nat.add_zero, Int.toNat_natCast, EK.sz]; omega) | (simp only [InI, nmin, List.length_append, List.length_replicate, List.length_cons, List.length_nil, List.length_map, List.length_set, List.length_take, List.length_drop, List.length_reverse, List.length_range, Nat.zero_add, Nat.add_zero, Int.toNat_natCast, EK.sz] at *; omega))) ?_ | refine Ob.mk ?_ ?_ | refine Both.mk ?_ ?_ | refine draw_of Try.mixed Try.tyOk 60 (by kernel_rfl) ?_))
  (conv => whnf)
  exact ⟨[], [(0, .arr true 47 .arc (comp ys) sp')], 1, .c (.sl 0 5 0 (comp ys).length cap), ⟨by rfl, trivial, by simp [eqFr, eqHp, eqV, eqA, eqC, eqO, eqCs, eqAs, look_cons, look, rn, EK.cast, EK.sz, eqCaps]⟩, by simp [eqV, eqA, eqC, rn, look], comp ys, sp', rfl, rfl, by omega, ys, hm.perm, hs, rfl⟩
end Go.Fw

namespace Go.Fw
open Go Go.Proofs

theorem put_apps (out : List Arc) (x : Arc) (k : Nat) (h : k ≤ out.length) (a1 b1 n1 n2 a2 b2 n3 : Nat) (h1 : a1 = 0) (h2 : b1 = k) (h3 : n1 = k) (h4 : n2 = k + 1) (h5 : a2 = k ∨ out.length = k) (h6 : b2 = out.length - k) (h7 : n3 = out.length - k) :
    lOp.appL (sub (lOp.appL (sub (lOp.appL (sub ([] : List Arc) 0 0) (sub out a1 b1)) 0 n1) (sub [x] 0 1)) 0 n2) (sub (lOp.appL (sub ([] : List Arc) 0 0) (sub out a2 b2)) 0 n3) = out.take k ++ [x] ++ out.drop k := by
  subst h1 h3 h4 h7
  subst h2 h6
  rcases h5 with h5 | h5
  · subst h5
    simp [lOp.appL, sub, List.take_append, List.length_take, Nat.min_eq_left h, List.take_take]
    exact List.take_of_length_le (by simp)
  · subst h5
    simp [lOp.appL, sub]
    exact List.take_of_length_le (by simp)

set_option maxHeartbeats 16000000 in
set_option maxRecDepth 20000 in
theorem mapped_c (xs : List Arc) (cap : Nat) (hl : xs.length ≤ 1000000) (hw : ∀ x ∈ xs, 0 ≤ x.w) : Ct Try.prog 73 [.c (.sl 0 5 0 xs.length cap)] [] [(0, .arr false 47 .arc xs 0)] 1
    (fun v s => ∃ zs sp, v = .c (.sl 1 5 0 zs.length (zs.length + sp)) ∧ s = ⟨[], [(0, .arr false 47 .arc xs 0), (1, .arr true 47 .arc zs sp)], 2⟩ ∧ IsNorm xs zs) := by
  refine ctW Try.tyOk 7 [] Try.func73 rfl (by simp [SV.lt, SA.lt, SC.lt, arcV, fV]) (by simp) (fr := [(0, .c (.sl 0 5 0 xs.length cap))]) rfl ?_
  repeat' (first | exact rfl | ((conv => whnf); first | refine condP_dec (fun h => absurd h (by omega)) (fun h => ?_) | refine condP_dec (fun h => ?_) (fun h => absurd h (by omega)) | refine condP_dec (fun h => ?_) (fun h => ?_) | refine condP_ndec (fun h => absurd h (by omega)) (fun h => ?_) | refine condP_ndec (fun h => ?_) (fun h => absurd h (by omega)) | refine condP_ndec (fun h => ?_) (fun h => ?_) | refine condP_beq (fun h => absurd h (by omega)) (fun h => ?_) | refine condP_beq (fun h => ?_) (fun h => absurd h (by omega)) | refine condP_beq (fun h => ?_) (fun h => ?_) | refine condP_bne (fun h => absurd h (by omega)) (fun h => ?_) | refine condP_bne (fun h => ?_) (fun h => absurd h (by omega)) | refine condP_bne (fun h => ?_) (fun h => ?_) | refine condP_mk (fun h => ?_) (fun h => ?_) | refine Ob.mk (by (first | omega | (simp only [InI, nmin, List.length_append, List.length_replicate, List.length_cons, List.length_nil, List.length_map, List.length_set, List.length_take, List.length_drop, List.length_reverse, List.length_range, Nat.zero_add, Nat.add_zero, Int.toNat_natCast, EK.sz]; omega) | (simp only [InI, nmin, List.length_append, List.length_replicate, List.length_cons, List.length_nil, List.length_map, List.length_set, List.length_take, List.length_drop, List.length_reverse, List.length_range, Nat.zero_add, Nat.add_zero, Int.toNat_natCast, EK.sz] at *; omega))) ?_ | refine Ob.mk ?_ ?_ | refine Both.mk ?_ ?_ | refine draw_of Try.mixed Try.tyOk 60 (by kernel_rfl) ?_))
  (conv => whnf)
  refine loopI (fun y : Nat × List Arc × Nat => ⟨[(0, .c (.sl 0 5 0 xs.length cap)), (3, .c (.sl 1 5 0 y.2.1.length (y.2.1.length + y.2.2))), (4, .i y.1)], [(0, .arr false 47 .arc xs 0), (1, .arr true 47 .arc y.2.1 y.2.2)], 2⟩)
    (fun y => y.1 ≤ xs.length ∧ y.2.1.length ≤ y.1 ∧ IsNorm (xs.take y.1) y.2.1) (fun y => xs.length - y.1) (0, [], 0) [(1, none)] ⟨by rfl, ?_, ?_⟩ ⟨Nat.zero_le _, Nat.le_refl _, IsNorm.nil⟩ ?_
  · simp [eqFr, eqHp, eqV, eqA, eqC, eqO, eqCs, eqAs, look_cons, look, rn, EK.cast, EK.sz, eqCaps]
  · simp [eqFr, eqHp, eqV, eqA, eqC, eqO, eqCs, eqAs, look_cons, look, rn, EK.cast, EK.sz, eqCaps, nilO]
  · rintro ⟨i, out, sp⟩ ⟨hi, hol, hn⟩
    simp only at hi hol hn ⊢
    have e0 : 0 + (i : Int).toNat = i := by omega
    repeat' (first | exact rfl | ((conv => whnf); first | refine condP_dec (fun h => absurd h (by omega)) (fun h => ?_) | refine condP_dec (fun h => ?_) (fun h => absurd h (by omega)) | refine condP_dec (fun h => ?_) (fun h => ?_) | refine condP_ndec (fun h => absurd h (by omega)) (fun h => ?_) | refine condP_ndec (fun h => ?_) (fun h => absurd h (by omega)) | refine condP_ndec (fun h => ?_) (fun h => ?_) | refine condP_beq (fun h => absurd h (by omega)) (fun h => ?_) | refine condP_beq (fun h => ?_) (fun h => absurd h (by omega)) | refine condP_beq (fun h => ?_) (fun h => ?_) | refine condP_bne (fun h => absurd h (by omega)) (fun h => ?_) | refine condP_bne (fun h => ?_) (fun h => absurd h (by omega)) | refine condP_bne (fun h => ?_) (fun h => ?_) | refine condP_mk (fun h => ?_) (fun h => ?_) | refine Ob.mk (by (first | omega | (simp only [InI, nmin, List.length_append, List.length_replicate, List.length_cons, List.length_nil, List.length_map, List.length_set, List.length_take, List.length_drop, List.length_reverse, List.length_range, Nat.zero_add, Nat.add_zero, Int.toNat_natCast, EK.sz]; omega) | (simp only [InI, nmin, List.length_append, List.length_replicate, List.length_cons, List.length_nil, List.length_map, List.length_set, List.length_take, List.length_drop, List.length_reverse, List.length_range, Nat.zero_add, Nat.add_zero, Int.toNat_natCast, EK.sz] at *; omega))) ?_ | refine Ob.mk ?_ ?_ | refine Both.mk ?_ ?_ | refine draw_of Try.mixed Try.tyOk 60 (by kernel_rfl) ?_))
    · (conv => whnf)
      refine loopI (fun k : Nat => ⟨[(0, .c (.sl 0 5 0 xs.length cap)), (3, .c (.sl 1 5 0 out.length (out.length + sp))), (4, .i i), (5, .i k)], [(0, .arr false 47 .arc xs 0), (1, .arr true 47 .arc out sp)], 2⟩)
        (fun k => k ≤ out.length ∧ ∀ j, k ≤ j → j < out.length → aheadB (xs.getD i aD) (out.getD j aD) = true) (fun k => k) out.length [] ⟨by rfl, ?_, ?_⟩ ⟨Nat.le_refl _, fun j h1 h2 => absurd h2 (by omega)⟩ ?_
      · simp [eqFr, eqHp, eqV, eqA, eqC, eqO, eqCs, eqAs, look_cons, look, rn, EK.cast, EK.sz, eqCaps]
      · simp [eqFr, eqHp, eqV, eqA, eqC, eqO, eqCs, eqAs, look_cons, look, rn, EK.cast, EK.sz, eqCaps]
      · rintro k ⟨hk, hb⟩
        have e1 : 0 + ((k : Int) - 1).toNat = k - 1 := by omega
        repeat' (first | exact rfl | ((conv => whnf); first | refine condP_dec (fun h => absurd h (by omega)) (fun h => ?_) | refine condP_dec (fun h => ?_) (fun h => absurd h (by omega)) | refine condP_dec (fun h => ?_) (fun h => ?_) | refine condP_ndec (fun h => absurd h (by omega)) (fun h => ?_) | refine condP_ndec (fun h => ?_) (fun h => absurd h (by omega)) | refine condP_ndec (fun h => ?_) (fun h => ?_) | refine condP_beq (fun h => absurd h (by omega)) (fun h => ?_) | refine condP_beq (fun h => ?_) (fun h => absurd h (by omega)) | refine condP_beq (fun h => ?_) (fun h => ?_) | refine condP_bne (fun h => absurd h (by omega)) (fun h => ?_) | refine condP_bne (fun h => ?_) (fun h => absurd h (by omega)) | refine condP_bne (fun h => ?_) (fun h => ?_) | refine condP_mk (fun h => ?_) (fun h => ?_) | refine Ob.mk (by (first | omega | (simp only [InI, nmin, List.length_append, List.length_replicate, List.length_cons, List.length_nil, List.length_map, List.length_set, List.length_take, List.length_drop, List.length_reverse, List.length_range, Nat.zero_add, Nat.add_zero, Int.toNat_natCast, EK.sz]; omega) | (simp only [InI, nmin, List.length_append, List.length_replicate, List.length_cons, List.length_nil, List.length_map, List.length_set, List.length_take, List.length_drop, List.length_reverse, List.length_range, Nat.zero_add, Nat.add_zero, Int.toNat_natCast, EK.sz] at *; omega))) ?_ | refine Ob.mk ?_ ?_ | refine Both.mk ?_ ?_ | refine draw_of Try.mixed Try.tyOk 60 (by kernel_rfl) ?_ | intro _))
        all_goals (conv => whnf)
        · refine callI (ahead_c (xs.getD (0 + (i : Int).toNat) EK.arc.dflt) (out.getD (0 + ((k : Int) - 1).toNat) EK.arc.dflt)) [] Try.call66 rfl trivial (by simp [appN, ptrs, eqVL, eqV, eqA, eqC, eqCs, eqAs, eqCaps, EK.sz, rn, renOf, look_cons, look, arcV, fV]) (by simp [appN, ptrs, SV.lt, SA.lt, SC.lt, arcV, fV]) ?_
          repeat' (first | exact rfl | ((conv => whnf); first | refine condP_dec (fun h => absurd h (by omega)) (fun h => ?_) | refine condP_dec (fun h => ?_) (fun h => absurd h (by omega)) | refine condP_dec (fun h => ?_) (fun h => ?_) | refine condP_ndec (fun h => absurd h (by omega)) (fun h => ?_) | refine condP_ndec (fun h => ?_) (fun h => absurd h (by omega)) | refine condP_ndec (fun h => ?_) (fun h => ?_) | refine condP_beq (fun h => absurd h (by omega)) (fun h => ?_) | refine condP_beq (fun h => ?_) (fun h => absurd h (by omega)) | refine condP_beq (fun h => ?_) (fun h => ?_) | refine condP_bne (fun h => absurd h (by omega)) (fun h => ?_) | refine condP_bne (fun h => ?_) (fun h => absurd h (by omega)) | refine condP_bne (fun h => ?_) (fun h => ?_) | refine condP_mk (fun h => ?_) (fun h => ?_) | refine Ob.mk (by (first | omega | (simp only [InI, nmin, List.length_append, List.length_replicate, List.length_cons, List.length_nil, List.length_map, List.length_set, List.length_take, List.length_drop, List.length_reverse, List.length_range, Nat.zero_add, Nat.add_zero, Int.toNat_natCast, EK.sz]; omega) | (simp only [InI, nmin, List.length_append, List.length_replicate, List.length_cons, List.length_nil, List.length_map, List.length_set, List.length_take, List.length_drop, List.length_reverse, List.length_range, Nat.zero_add, Nat.add_zero, Int.toNat_natCast, EK.sz] at *; omega))) ?_ | refine Ob.mk ?_ ?_ | refine Both.mk ?_ ?_ | refine draw_of Try.mixed Try.tyOk 60 (by kernel_rfl) ?_ | intro _))
          all_goals (conv => whnf)
          · rename_i h1
            rw [e0, e1] at h
            refine ⟨k - 1, [], ⟨by rfl, ?_, ?_⟩, ⟨by omega, fun j hj1 hj2 => ?_⟩, by omega⟩
            · simp [eqFr, eqHp, eqV, eqA, eqC, eqO, eqCs, eqAs, look_cons, look, rn, EK.cast, EK.sz, eqCaps]
              omega
            · simp [eqFr, eqHp, eqV, eqA, eqC, eqO, eqCs, eqAs, look_cons, look, rn, EK.cast, EK.sz, eqCaps]
            · by_cases c : j = k - 1
              · rw [c]; exact h
              · exact hb j (by omega) hj2
          · have hna : aheadB (xs.getD (0 + (i : Int).toNat) EK.arc.dflt) (out.getD (0 + ((k : Int) - 1).toNat) EK.arc.dflt) = false := by assumption
            rw [e0, e1] at hna
            refine callI (ahead_c (out.getD (0 + ((k : Int) - 1).toNat) EK.arc.dflt) (xs.getD (0 + (i : Int).toNat) EK.arc.dflt)) [] Try.call66 rfl trivial (by simp [appN, ptrs, eqVL, eqV, eqA, eqC, eqCs, eqAs, eqCaps, EK.sz, rn, renOf, look_cons, look, arcV, fV]) (by simp [appN, ptrs, SV.lt, SA.lt, SC.lt, arcV, fV]) ?_
            repeat' (first | exact rfl | ((conv => whnf); first | refine condP_dec (fun h => absurd h (by omega)) (fun h => ?_) | refine condP_dec (fun h => ?_) (fun h => absurd h (by omega)) | refine condP_dec (fun h => ?_) (fun h => ?_) | refine condP_ndec (fun h => absurd h (by omega)) (fun h => ?_) | refine condP_ndec (fun h => ?_) (fun h => absurd h (by omega)) | refine condP_ndec (fun h => ?_) (fun h => ?_) | refine condP_beq (fun h => absurd h (by omega)) (fun h => ?_) | refine condP_beq (fun h => ?_) (fun h => absurd h (by omega)) | refine condP_beq (fun h => ?_) (fun h => ?_) | refine condP_bne (fun h => absurd h (by omega)) (fun h => ?_) | refine condP_bne (fun h => ?_) (fun h => absurd h (by omega)) | refine condP_bne (fun h => ?_) (fun h => ?_) | refine condP_mk (fun h => ?_) (fun h => ?_) | refine Ob.mk (by (first | omega | (simp only [InI, nmin, List.length_append, List.length_replicate, List.length_cons, List.length_nil, List.length_map, List.length_set, List.length_take, List.length_drop, List.length_reverse, List.length_range, Nat.zero_add, Nat.add_zero, Int.toNat_natCast, EK.sz]; omega) | (simp only [InI, nmin, List.length_append, List.length_replicate, List.length_cons, List.length_nil, List.length_map, List.length_set, List.length_take, List.length_drop, List.length_reverse, List.length_range, Nat.zero_add, Nat.add_zero, Int.toNat_natCast, EK.sz] at *; omega))) ?_ | refine Ob.mk ?_ ?_ | refine Both.mk ?_ ?_ | refine draw_of Try.mixed Try.tyOk 60 (by kernel_rfl) ?_ | intro _))
            all_goals (conv => whnf)
            · have hkk : Key (out.getD (k - 1) aD) (xs.getD i aD) := by
                have h9 : (!aheadB (out.getD (0 + ((k : Int) - 1).toNat) EK.arc.dflt) (xs.getD (0 + (i : Int).toNat) EK.arc.dflt)) = true := by assumption
                rw [e0, e1] at h9
                have h10 : aheadB (out.getD (k - 1) EK.arc.dflt) (xs.getD i EK.arc.dflt) = false := by simpa only [Bool.not_eq_true'] using h9
                rcases ahead_total (out.getD (k - 1) aD) (xs.getD i aD) with c | c | c
                · exact absurd (c.symm.trans h10) (by simp)
                · exact c
                · exact absurd (c.symm.trans hna) (by simp)
              refine callI (less_c (out.getD (0 + ((k : Int) - 1).toNat) EK.arc.dflt).w (xs.getD (0 + (i : Int).toNat) EK.arc.dflt).w) [] Try.call42 rfl trivial (by simp [appN, ptrs, eqVL, eqV, eqA, eqC, eqCs, eqAs, eqCaps, EK.sz, rn, renOf, look_cons, look, arcV, fV]) (by simp [appN, ptrs, SV.lt, SA.lt, SC.lt, arcV, fV]) ?_
              repeat' (first | exact rfl | ((conv => whnf); first | refine condP_dec (fun h => absurd h (by omega)) (fun h => ?_) | refine condP_dec (fun h => ?_) (fun h => absurd h (by omega)) | refine condP_dec (fun h => ?_) (fun h => ?_) | refine condP_ndec (fun h => absurd h (by omega)) (fun h => ?_) | refine condP_ndec (fun h => ?_) (fun h => absurd h (by omega)) | refine condP_ndec (fun h => ?_) (fun h => ?_) | refine condP_beq (fun h => absurd h (by omega)) (fun h => ?_) | refine condP_beq (fun h => ?_) (fun h => absurd h (by omega)) | refine condP_beq (fun h => ?_) (fun h => ?_) | refine condP_bne (fun h => absurd h (by omega)) (fun h => ?_) | refine condP_bne (fun h => ?_) (fun h => absurd h (by omega)) | refine condP_bne (fun h => ?_) (fun h => ?_) | refine condP_mk (fun h => ?_) (fun h => ?_) | refine Ob.mk (by (first | omega | (simp only [InI, nmin, List.length_append, List.length_replicate, List.length_cons, List.length_nil, List.length_map, List.length_set, List.length_take, List.length_drop, List.length_reverse, List.length_range, Nat.zero_add, Nat.add_zero, Int.toNat_natCast, EK.sz]; omega) | (simp only [InI, nmin, List.length_append, List.length_replicate, List.length_cons, List.length_nil, List.length_map, List.length_set, List.length_take, List.length_drop, List.length_reverse, List.length_range, Nat.zero_add, Nat.add_zero, Int.toNat_natCast, EK.sz] at *; omega))) ?_ | refine Ob.mk ?_ ?_ | refine Both.mk ?_ ?_ | refine draw_of Try.mixed Try.tyOk 60 (by kernel_rfl) ?_ | intro _))
              (conv => whnf)
              simp only [e0, e1]
              have hx := hw _ (getD_mem xs i aD (by omega))
              refine ⟨(i + 1, out.set (k - 1) { out.getD (k - 1) EK.arc.dflt with w := less (out.getD (k - 1) EK.arc.dflt).w (xs.getD i EK.arc.dflt).w }, sp), [], ⟨by rfl, ?_, ?_⟩, ⟨by simp only; omega, by simp only [List.length_set]; omega, ?_⟩, by simp only; omega⟩
              · simp [eqFr, eqHp, eqV, eqA, eqC, eqO, eqCs, eqAs, look_cons, look, rn, EK.cast, EK.sz, eqCaps]
              · simp [eqFr, eqHp, eqV, eqA, eqC, eqO, eqCs, eqAs, look_cons, look, rn, EK.cast, EK.sz, eqCaps]
              · simp only
                rw [take_succ_getD xs i aD (by omega)]
                have hwo : 0 ≤ (out.getD (k - 1) aD).w := by
                  have := hn.sub _ (getD_mem out (k - 1) aD (by omega))
                  exact hw _ (List.mem_of_mem_take this)
                refine hn.meet (by omega) hk hkk _ rfl ?_
                show (less (out.getD (k - 1) aD).w (xs.getD i aD).w = _ ∧ less (out.getD (k - 1) aD).w (xs.getD i aD).w ≤ _) ∨ (less (out.getD (k - 1) aD).w (xs.getD i aD).w = _ ∧ _)
                unfold less
                by_cases c : (out.getD (k - 1) aD).w < (xs.getD i aD).w
                · rw [if_neg (by omega), if_pos (.inr c)]
                  left
                  exact ⟨rfl, by omega⟩
                · rw [if_neg (by omega), if_neg (by omega)]
                  right
                  exact ⟨rfl, by omega⟩
            all_goals
              have hah : aheadB (out.getD (k - 1) aD) (xs.getD i aD) = true := by
                have h9 : (!aheadB (out.getD (0 + ((k : Int) - 1).toNat) EK.arc.dflt) (xs.getD (0 + (i : Int).toNat) EK.arc.dflt)) = false := by assumption
                rw [e0, e1] at h9
                have h10 : aheadB (out.getD (k - 1) EK.arc.dflt) (xs.getD i EK.arc.dflt) = true := by simpa only [Bool.not_eq_false'] using h9
                exact h10
              first
                | (simp [lOp.appL, sub, Nat.le_eq]; omega)
                | (simp [lOp.appL, sub, Nat.le_eq]; done)
                | (generalize hz : lOp.appL (sub (lOp.appL (sub (lOp.appL (sub [] 0 0) (sub out _ _)) 0 _) (sub _ 0 1)) 0 _) (sub _ 0 _) = zs
                   have hz2 : zs = out.take k ++ [xs.getD i aD] ++ out.drop k := by
                     rw [← hz]
                     refine (put_apps out _ k hk _ _ _ _ _ _ _ (by omega) (by omega) (by omega) (by omega) (by omega) (by omega) (by omega)).trans ?_
                     rw [e0]
                     rfl
                   have hzl : zs.length = out.length + 1 := by rw [hz2]; simp; omega
                   clear hz
                   rename_i q
                   refine ⟨(i + 1, zs, q), [(1, some 8)], ⟨by rfl, ?_, ?_⟩, ⟨by simp only; omega, by simp only; omega, ?_⟩, by simp only; omega⟩
                   · simp [eqFr, eqHp, eqV, eqA, eqC, eqO, eqCs, eqAs, look_cons, look, rn, EK.cast, EK.sz, eqCaps]
                     omega
                   · simp [eqFr, eqHp, eqV, eqA, eqC, eqO, eqCs, eqAs, look_cons, look, rn, EK.cast, EK.sz, eqCaps]
                   · simp only
                     rw [take_succ_getD xs i aD (by omega), hz2]
                     exact hn.put hk hb (by first | (left; omega) | (right; exact hah)))
        all_goals
          first
            | (simp [lOp.appL, sub, Nat.le_eq]; omega)
            | (simp [lOp.appL, sub, Nat.le_eq]; done)
            | (generalize hz : lOp.appL (sub (lOp.appL (sub (lOp.appL (sub [] 0 0) (sub out _ _)) 0 _) (sub _ 0 1)) 0 _) (sub _ 0 _) = zs
               have hz2 : zs = out.take k ++ [xs.getD i aD] ++ out.drop k := by
                 rw [← hz]
                 refine (put_apps out _ k hk _ _ _ _ _ _ _ (by omega) (by omega) (by omega) (by omega) (by omega) (by omega) (by omega)).trans ?_
                 rw [e0]
                 rfl
               have hzl : zs.length = out.length + 1 := by rw [hz2]; simp; omega
               clear hz
               rename_i q
               refine ⟨(i + 1, zs, q), [(1, some 8)], ⟨by rfl, ?_, ?_⟩, ⟨by simp only; omega, by simp only; omega, ?_⟩, by simp only; omega⟩
               · simp [eqFr, eqHp, eqV, eqA, eqC, eqO, eqCs, eqAs, look_cons, look, rn, EK.cast, EK.sz, eqCaps]
                 omega
               · simp [eqFr, eqHp, eqV, eqA, eqC, eqO, eqCs, eqAs, look_cons, look, rn, EK.cast, EK.sz, eqCaps]
               · simp only
                 rw [take_succ_getD xs i aD (by omega), hz2]
                 exact hn.put hk hb (by first | (left; omega) | (right; exact hah)))
    · have e : i = xs.length := by omega
      subst e
      rw [List.take_length] at hn
      repeat' (first | exact rfl | ((conv => whnf); first | refine condP_dec (fun h => absurd h (by omega)) (fun h => ?_) | refine condP_dec (fun h => ?_) (fun h => absurd h (by omega)) | refine condP_dec (fun h => ?_) (fun h => ?_) | refine condP_ndec (fun h => absurd h (by omega)) (fun h => ?_) | refine condP_ndec (fun h => ?_) (fun h => absurd h (by omega)) | refine condP_ndec (fun h => ?_) (fun h => ?_) | refine condP_beq (fun h => absurd h (by omega)) (fun h => ?_) | refine condP_beq (fun h => ?_) (fun h => absurd h (by omega)) | refine condP_beq (fun h => ?_) (fun h => ?_) | refine condP_bne (fun h => absurd h (by omega)) (fun h => ?_) | refine condP_bne (fun h => ?_) (fun h => absurd h (by omega)) | refine condP_bne (fun h => ?_) (fun h => ?_) | refine condP_mk (fun h => ?_) (fun h => ?_) | refine Ob.mk (by (first | omega | (simp only [InI, nmin, List.length_append, List.length_replicate, List.length_cons, List.length_nil, List.length_map, List.length_set, List.length_take, List.length_drop, List.length_reverse, List.length_range, Nat.zero_add, Nat.add_zero, Int.toNat_natCast, EK.sz]; omega) | (simp only [InI, nmin, List.length_append, List.length_replicate, List.length_cons, List.length_nil, List.length_map, List.length_set, List.length_take, List.length_drop, List.length_reverse, List.length_range, Nat.zero_add, Nat.add_zero, Int.toNat_natCast, EK.sz] at *; omega))) ?_ | refine Ob.mk ?_ ?_ | refine Both.mk ?_ ?_ | refine draw_of Try.mixed Try.tyOk 60 (by kernel_rfl) ?_))
      (conv => whnf)
      exact ⟨[], [(0, .arr false 47 .arc xs 0), (1, .arr true 47 .arc out sp)], 2, .c (.sl 1 5 0 out.length (out.length + sp)), ⟨by rfl, trivial, by simp [eqFr, eqHp, eqV, eqA, eqC, eqO, eqCs, eqAs, look_cons, look, rn, EK.cast, EK.sz, eqCaps]⟩, by simp [eqV, eqA, eqC, rn, look], out, sp, rfl, rfl, hn⟩
end Go.Fw

namespace Go.Fw
open Go Go.Proofs

def rhoM : Go.Shelf.Ren where
  f := fun n => if n = 212 then 125 else if n = 263 then 131 else if n = 264 then 132 else n
  t := fun n => if n = 46 then 142 else if n = 51 then 150 else if n = 53 then 153 else if n = 146 then 151 else if n = 148 then 154 else n
  g := fun n => n

end Go.Fw

namespace Go.Fw
open Go Go.Proofs

/-- The answer: a slice of its own, numbered m. -/
def Sl (m E : Nat) (k : EK) (xs : List k.ty) (v : SV) (s : S) : Prop := ∃ sp, v = .c (.sl m k.sz 0 xs.length (xs.length + sp)) ∧ s = ⟨[], [(m, .arr true E k xs sp)], m + 1⟩

end Go.Fw

namespace Go.Fw
open Go Go.Proofs

end Go.Fw

namespace Go.Fw
open Go Go.Proofs

end Go.Fw

namespace Go.Fw
open Go Go.Proofs

theorem clone_c (l : List Int) (cap : Nat) (hl : l.length ≤ 1000000) : Ct Try.prog 104 [.c (.sl 0 1 0 l.length cap)] [] [(0, .arr false 3 .int l 0)] 1 (Sl 1 3 .int l) := by
  refine ctW Try.tyOk 3 [] Try.func104 rfl (by simp [SV.lt, SA.lt, SC.lt, arcV, fV]) (by simp) (fr := [(0, .c (.sl 0 1 0 l.length cap))]) rfl ?_
  (conv => whnf)
  intro c hc
  repeat' (first | exact rfl | ((conv => whnf); first | refine condP_mk (fun h => ?_) (fun h => ?_) | refine Ob.mk ?_ ?_ | refine Both.mk ?_ ?_))
  · (conv => whnf)
    have hl0 := hc h
    subst hl0
    exact ⟨[(1, none)], [(1, .arr true 3 .int [] 0)], 2, .c (.sl 1 1 0 0 0), ⟨by rfl, trivial, by simp [eqHp, rn, look, nilO]⟩, by simp [eqV, eqA, eqC, rn, look], ⟨0, rfl, rfl⟩⟩
  · simp
  · simp
  · omega
  · intro sp
    (conv => whnf)
    exact ⟨[(1, some 2)], [(1, .arr true 3 .int l sp)], 2, .c (.sl 1 1 0 l.length (l.length + sp)), ⟨by rfl, trivial, by simp [eqFr, eqHp, eqV, eqA, eqC, eqO, eqCs, eqAs, look_cons, look, rn, EK.cast, EK.sz, eqCaps]; exact (app_nil _ _ rfl).symm⟩, by simp [eqV, eqA, eqC, rn, look, EK.sz], ⟨sp, rfl, rfl⟩⟩

set_option maxHeartbeats 2000000 in
set_option maxRecDepth 20000 in
theorem sameInts_c (a b : List Int) (ca cb : Nat) (ha : a.length ≤ 9223372036854775807) (hl : b.length ≤ 9223372036854775807) :
    Ct Try.prog 24 [.c (.sl 0 1 0 a.length ca), .c (.sl 1 1 0 b.length cb)] [] [(0, .arr false 3 .int a 0), (1, .arr false 3 .int b 0)] 2 (Is 2 (.b (decide (a = b)))) := by
  refine ctW Try.tyOk 6 [] Try.func24 rfl (by simp [SV.lt, SA.lt, SC.lt, arcV, fV]) (by simp) (fr := [(0, .c (.sl 0 1 0 a.length ca)), (1, .c (.sl 1 1 0 b.length cb))]) rfl ?_
  repeat' (first | exact rfl | ((conv => whnf); first | refine condP_mk (fun h => ?_) (fun h => ?_) | refine Ob.mk ?_ ?_ | refine Both.mk ?_ ?_))
  · simp only [bne_iff_ne] at h
    have : a ≠ b := fun e => h (by rw [e])
    (conv => whnf)
    exact ⟨[], [], 2, .b (decide (a = b)), ⟨by rfl, trivial, trivial⟩, by simp [eqV, eqA, eqC, this], rfl, rfl⟩
  simp only [bne_eq_false_iff_eq] at h
  have hab : a.length = b.length := by omega
  clear h
  (conv => whnf)
  refine loopI (fun k : Nat => ⟨[(0, .c (.sl 0 1 0 a.length ca)), (1, .c (.sl 1 1 0 b.length cb)), (4, .b false), (5, .i k)], [(0, .arr false 3 .int a 0), (1, .arr false 3 .int b 0)], 2⟩) (fun k => k ≤ a.length ∧ ∀ j, j < k → a.getD j 0 = b.getD j 0) (fun k => a.length - k) 0 [] ⟨by rfl, ?_, ?_⟩ (by simp) ?_
  · simp [eqFr, eqHp, eqV, eqA, eqC, eqO, eqCs, eqAs, look_cons, look, rn, EK.cast, EK.sz, eqCaps]
  · simp [eqFr, eqHp, eqV, eqA, eqC, eqO, eqCs, eqAs, look_cons, look, rn, EK.cast, EK.sz, eqCaps]
  · intro k ⟨hk1, hk2⟩
    repeat' (first | exact rfl | ((conv => whnf); first | refine condP_mk (fun h => ?_) (fun h => ?_) | refine Ob.mk ?_ ?_ | refine Both.mk ?_ ?_))
    refine draw_of Try.mixed Try.tyOk 60 (by kernel_rfl) ?_
    repeat' (first | exact rfl | ((conv => whnf); first | refine condP_mk (fun h => ?_) (fun h => ?_) | refine Ob.mk ?_ ?_ | refine Both.mk ?_ ?_))
    · simp only [decide_eq_true_eq] at h; omega
    · simp only [decide_eq_true_eq] at h; omega
    · simp only [decide_eq_true_eq] at h; omega
    · simp only [decide_eq_true_eq] at h; omega
    · rename_i hk
      simp only [decide_eq_true_eq, bne_iff_ne, Nat.zero_add, Int.toNat_natCast, EK.dflt] at h hk
      have : a ≠ b := fun e => h (by rw [e])
      (conv => whnf)
      exact ⟨[], [], 2, .b (decide (a = b)), ⟨by rfl, trivial, trivial⟩, by simp [eqV, eqA, eqC, this], rfl, rfl⟩
    · rename_i hk
      simp only [decide_eq_true_eq] at hk
      unfold InI; omega
    · rename_i hk
      simp only [decide_eq_true_eq, bne_eq_false_iff_eq, Nat.zero_add, Int.toNat_natCast, EK.dflt] at h hk
      (conv => whnf)
      refine ⟨k + 1, [], ⟨by rfl, ?_, ?_⟩, ⟨by omega, fun j hj => ?_⟩, by omega⟩
      · simp [eqFr, eqHp, eqV, eqA, eqC, eqO, eqCs, eqAs, look_cons, look, rn, EK.cast, EK.sz, eqCaps]
      · simp [eqFr, eqHp, eqV, eqA, eqC, eqO, eqCs, eqAs, look_cons, look, rn, EK.cast, EK.sz, eqCaps]
      · exact if e : j = k then e ▸ h else hk2 j (by omega)
    · simp only [decide_eq_false_iff_not] at h
      have : a = b := sameTake a b hab fun j hj => hk2 j (by omega)
      (conv => whnf)
      exact ⟨[], [], 2, .b (decide (a = b)), ⟨by rfl, trivial, trivial⟩, by simp [eqV, eqA, eqC, this], rfl, rfl⟩
end Go.Fw

namespace Go.Fw
open Go Go.Proofs

def oneV (i j : Nat) : SV := .a (.agg [.i 2, .i 0, .sl i 1 0 2 2, .sl j 5 0 1 1])

theorem one_c : Ct Try.prog 55 [] [] [] 0 (fun v s => v = oneV 0 1 ∧ s = ⟨[], [(0, .arr true 3 .int [-1, 1] 0), (1, .arr true 47 .arc [⟨0, 1, 2, 1, 5⟩] 0)], 2⟩) := by
  refine ctW Try.tyOk 1 [] Try.func55 rfl (by simp) (by simp) (fr := []) rfl ?_
  repeat' (first | exact rfl | ((conv => whnf); first | refine condP_mk (fun h => ?_) (fun h => ?_) | refine Ob.mk ?_ ?_ | refine Both.mk ?_ ?_))
  (conv => whnf)
  exact ⟨[(0, some 1), (1, some 2)], [(0, .arr true 3 .int [-1, 1] 0), (1, .arr true 47 .arc [⟨0, 1, 2, 1, 5⟩] 0)], 2, oneV 0 1, ⟨by rfl, trivial, by simp [eqFr, eqHp, eqV, eqA, eqC, eqO, eqCs, eqAs, look_cons, look, rn, EK.cast, EK.sz, eqCaps]⟩, by simp [oneV, eqV, eqA, eqC, eqCs, rn, look, EK.sz], rfl, rfl⟩

/-- A transducer's two slices, wherever. -/
abbrev hpO (F : TF) (oa ob : Bool) (sa sb : Nat) : List (Nat × SO) := [(0, .arr oa 3 .int F.fin sa), (1, .arr ob 47 .arc F.arcs sb)]

end Go.Fw
