/- Walks of the functions: what each computes. -/
import Derived.Test.YtdijmfdanbnppaaDoorS09
import Derived.Test.YtdijmfdanbnppaaDoorS08
import Derived.Test.YtdijmfdanbnppaaDoorS05

set_option linter.unusedSimpArgs false
set_option linter.unusedVariables false

namespace Go.Fw
open Go Go.Proofs

/-- Back along the arcs. -/
def chain (D : Trip → Option Fnd) : Nat → Trip → List Int
  | 0, _ => []
  | n + 1, y => match D y with
    | none => []
    | some c => if 0 ≤ c.arc then c.arc :: chain D n ⟨c.s, c.i, c.o⟩ else []

theorem chain_stop {D : Trip → Option Fnd} {y : Trip} {c : Fnd} (h : D y = some c) (ha : ¬ c.arc ≥ 0) (n : Nat) : chain D n y = [] := by
  cases n with
  | zero => rfl
  | succ n => simp only [chain, h]; exact if_neg ha

theorem chain_on {D : Trip → Option Fnd} {y : Trip} {c : Fnd} (h : D y = some c) (ha : c.arc ≥ 0) (n : Nat) : chain D (n + 1) y = c.arc :: chain D n ⟨c.s, c.i, c.o⟩ := by
  simp only [chain, h]; exact if_pos ha

theorem endF_D {D : Trip → Option Int} {fin : List Int} {p q : Int} : ∀ k, (endF D fin p q k).2 ≠ -1 → ∃ d, D (endF D fin p q k).1 = some d
  | 0, h => absurd rfl h
  | k + 1, h => by
    cases hd : D ⟨k, p, q⟩ with
    | none => rw [endF_none hd] at h ⊢; exact endF_D k h
    | some d =>
      by_cases c : fin.getD k 0 ≠ -1 ∧ ((endF D fin p q k).2 = -1 ∨ d + fin.getD k 0 < (endF D fin p q k).2)
      · rw [endF_yes hd c.1 c.2]; exact ⟨d, hd⟩
      · have e : endF D fin p q (k + 1) = endF D fin p q k := by simp only [endF, hd]; exact if_neg c
        rw [e] at h ⊢
        exact endF_D k h

/-- What Walk tells. -/
def WalkIs (F : TF) (u v : List Int) (E : Trip × Int) (l : List Int) : Prop :=
  ∃ D ord rk B n, Dj F u v D ord rk B (fun _ _ => True) ∧ (∀ y d, D y = some d → d.dn = true) ∧ E = endF (fun y => (D y).map (·.cost)) F.fin u.length v.length F.fin.length ∧ rk E.1 < n ∧ l.reverse = chain D n E.1

set_option maxHeartbeats 8000000 in
set_option maxRecDepth 20000 in
theorem walkP_c (F : TF) (u v : List Int) (cu cv : Nat) (hl : F.fin.length ≤ 9223372036854775807) (hsc : scoreE F u v = 0) :
    Ct Tryd.prog 7 [fV F, .c (.sl 2 1 0 u.length cu), .c (.sl 3 1 0 v.length cv)] [] (hpQ F u v) 4 (fun x s =>
      (∃ A, IsLeast F u v (fromSt F) A ∧ (endF A F.fin u.length v.length F.fin.length).2 = -1 ∧ x = .tup [.c (.v (.slice none 0 0)), .c (.i (-1)), .c (.i 0)] ∧ s = ⟨[], [], 4⟩) ∨
      ∃ E l sp, WalkIs F u v E l ∧ E.2 ≠ -1 ∧ x = .tup [.c (.sl 4 1 0 l.length (l.length + sp)), .c (.i E.2), .c (.i 0)] ∧ s = ⟨[], [(4, .arr true 3 .int l sp)], 5⟩) := by
  refine ctW Tryd.tyOk 15 [] Tryd.func7 rfl (by simp) (by simp) (fr := [(0, fV F), (1, .c (.sl 2 1 0 u.length cu)), (2, .c (.sl 3 1 0 v.length cv))]) rfl ?_
  repeat' (first | exact rfl | ((conv => whnf); first | (refine qX (fun h => ?_) fun h => ?_ <;> try exact absurd h (by omega)) | refine oN ?_ | refine oM ?_ ?_ | refine bM ?_ ?_ | refine dR ?_))
  (conv => whnf)
  refine cF (walk_ok F u v cu cv hl hsc) [0, 1, 2, 3] Tryd.call21 ?_
  rintro _ _ ⟨rows, pi, es, clk, pf, ⟨hm, ord, rk, B, hol, hD, hB, hall⟩, rfl, rfl⟩
  have hL := hD.least hall
  have hed := endF_D (D := costOf es pf) (fin := F.fin) (p := u.length) (q := v.length) F.fin.length
  generalize hE : endF (costOf es pf) F.fin u.length v.length F.fin.length = E at *
  obtain ⟨⟨E1, E2, E3⟩, Ec⟩ := E
  simp only at hed ⊢
  repeat' (first | exact rfl | ((conv => whnf); first | (refine qX (fun h => ?_) fun h => ?_ <;> try exact absurd h (by omega)) | refine oN ?_ | refine oM ?_ ?_ | refine bM ?_ ?_ | refine dR ?_))
  · (conv => whnf)
    refine ⟨[], [], 4, .tup [.c (.v (.slice none 0 0)), .c (.i (-1)), .c (.i 0)], ⟨by rfl, trivial, trivial⟩, by simp [h], .inl ⟨costOf es pf, hL, ?_, rfl, rfl⟩⟩
    rw [hE]
    exact h
  obtain ⟨d0, hd0⟩ := hed h
  obtain ⟨d, hd, -⟩ := Option.map_eq_some_iff.1 hd0
  obtain ⟨a, nn, r1, r2, r3, r4⟩ := hm.of hd
  have e1 : (@lkM EK.trip.ty EK.adr.ty (EK.instDeq .trip) es (⟨E1, E2, E3⟩ : Trip)).getD EK.adr.dflt = some a := congrArg (fun x => Option.getD x none) r3
  have hmem : ∀ y d, metOf es pf y = some d → y ∈ ord := fun y d hy => (hD.dn y d hy).1 (hall y d hy)
  repeat' (first | exact rfl | ((conv => whnf); first | (refine qX (fun h => ?_) fun h => ?_ <;> try exact absurd h (by omega)) | refine oN ?_ | refine oM ?_ ?_ | refine bM ?_ ?_ | refine dR ?_))
  (conv => whnf)
  rw [e1]
  refine loopI (fun y : List Int × Nat × Addr × Trip × Nat => ⟨[(6, .c (.v (.slice none 0 0))), (7, .i 0), (8, .i 0), (9, .c (.ptr 5 0)), (10, .c (.ptr 10 0)), (11, .i Ec), (12, .i 0), (13, .c (.sl 11 1 0 y.1.length (y.1.length + y.2.1))), (14, .c (.q (some y.2.2.1)))],
    (4, .box 25 (fCells F)) :: (5, .box 58 [.i F.st, .i F.start, .sl 0 1 0 F.fin.length F.capF, .sl 1 5 0 F.arcs.length F.capA, .sl 2 1 0 u.length cu, .sl 3 1 0 v.length cv, .sl 6 1 0 rows.length rows.length, .mp 9]) :: (8, .pool 60 .fnd pf) :: (9, .map .trip .adr es clk) :: (10, .box 51 [.i E1, .i E2, .i E3]) :: (11, .arr true 3 .int y.1 y.2.1) :: hpQ F u v, 12⟩)
    (fun y => (∃ c, metOf es pf y.2.2.2.1 = some c ∧ rowA pf (some y.2.2.1) = [c]) ∧ rk y.2.2.2.1 < y.2.2.2.2 ∧ y.1 ++ chain (metOf es pf) y.2.2.2.2 y.2.2.2.1 = chain (metOf es pf) (rk ⟨E1, E2, E3⟩ + 1) ⟨E1, E2, E3⟩ ∧ y.1.length + y.2.2.2.2 ≤ 336200) (fun y => y.2.2.2.2) ([], 0, a, ⟨E1, E2, E3⟩, rk ⟨E1, E2, E3⟩ + 1) [(11, none)] ⟨by rfl, ?_, ?_⟩ ⟨⟨d, hd, r4⟩, Nat.lt_succ_self _, rfl, ?_⟩ ?_
  · simp
  · simp [fCells, nilO]
  · have := hD.rkl _ (hmem _ _ hd)
    simp only [List.length_nil]
    omega
  · rintro ⟨l, sp, b, y, fu⟩ ⟨⟨c, hc, hrow⟩, hfu, hch, hlen⟩
    simp only at hc hrow hfu hch hlen ⊢
    have hcl : 0 < (rowA pf (some b)).length := by rw [hrow]; exact Nat.one_pos
    have ec : (rowA pf (some b)).getD 0 EK.fnd.dflt = c := by rw [hrow]; rfl
    have hby := hD.by' y c hc
    repeat' (first | exact rfl | ((conv => whnf); first | (refine qX (fun h => ?_) fun h => ?_ <;> try exact absurd h (by omega)) | refine oN ?_ | refine oM ?_ ?_ | refine bM ?_ ?_ | refine dR ?_))
    · intro sp2
      repeat' (first | exact rfl | ((conv => whnf); first | (refine qX (fun h => ?_) fun h => ?_ <;> try exact absurd h (by omega)) | refine oN ?_ | refine oM ?_ ?_ | refine bM ?_ ?_ | refine dR ?_))
      rw [ec] at h
      obtain ⟨n, z, cz, w, g1, g2, g3, g4, g5, g6, g7, g8, g9⟩ : ∃ (n : Nat) (z : Trip) (cz : Fnd) (w : Int), c.arc = (n : Int) ∧ c.s = z.a ∧ c.i = z.b ∧ c.o = z.c ∧ z ∈ ord ∧ metOf es pf z = some cz ∧ Edge F u v z n y w ∧ c.cost = cz.cost + w ∧ (y ∈ ord → rk z < rk y) := by
        rcases hby with ⟨_, _, q⟩ | q
        · omega
        · exact q
      have hz : z = ⟨c.s, c.i, c.o⟩ := by rw [g2, g3, g4]
      subst hz
      obtain ⟨b', nb, s1, s2, s3, s4⟩ := hm.of g6
      have e2 : (@lkM EK.trip.ty EK.adr.ty (EK.instDeq .trip) es (⟨c.s, c.i, c.o⟩ : Trip)).getD EK.adr.dflt = some b' := congrArg (fun x => Option.getD x none) s3
      have hrk := g9 (hmem y c hc)
      obtain ⟨fu', rfl⟩ : ∃ fu', fu = fu' + 1 := ⟨fu - 1, by omega⟩
      rw [chain_on hc h] at hch
      (conv => whnf)
      rw [ec, e2]
      refine ⟨(l ++ [c.arc], sp2, b', ⟨c.s, c.i, c.o⟩, fu'), [(11, some 13)], ⟨by rfl, ?_, ?_⟩, ⟨⟨cz, g6, s4⟩, by simp only; omega, by simpa using hch, by simp only [List.length_append, List.length_cons, List.length_nil]; omega⟩, by simp only; omega⟩
      · simp
      · simp [fCells]
        exact (app_one l _ _ rfl).symm
    · rw [ec] at h
      rw [chain_stop hc h, List.append_nil] at hch
      (conv => whnf)
      refine cF (reverse_c l (l.length + sp) sp (by omega)) [11] Tryd.call22 ?_
      rintro _ _ ⟨rfl, rfl⟩
      repeat' (first | exact rfl | ((conv => whnf); first | (refine qX (fun h => ?_) fun h => ?_ <;> try exact absurd h (by omega)) | refine oN ?_ | refine oM ?_ ?_ | refine bM ?_ ?_ | refine dR ?_))
      (conv => whnf)
      refine ⟨[(4, some 11)], [(4, .arr true 3 .int l.reverse sp)], 5, .tup [.c (.sl 4 1 0 l.reverse.length (l.reverse.length + sp)), .c (.i Ec), .c (.i 0)], ⟨by rfl, trivial, by simp⟩, by simp, .inr ⟨(⟨E1, E2, E3⟩, Ec), l.reverse, sp, ⟨metOf es pf, ord, rk, B, rk ⟨E1, E2, E3⟩ + 1, hD, hall, hE.symm, Nat.lt_succ_self _, ?_⟩, by assumption, rfl, rfl⟩⟩
      rw [List.reverse_reverse]
      exact hch

end Go.Fw

/-
  Ways of a transducer, in the plain; what it is to be the least of some costs.
-/
namespace Go.Fw
open Go

/-! ### Arcs in order -/
theorem aheadB_trans {a b c : Arc} (h1 : aheadB a b = true) (h2 : aheadB b c = true) : aheadB a c = true := by
  unfold aheadB at *
  repeat' split at h1
  all_goals repeat' split at h2
  all_goals repeat' split
  all_goals simp only [decide_eq_true_eq, Bool.false_eq_true] at *
  all_goals omega

theorem aheadB_irr (a : Arc) : aheadB a a = false := by simp [aheadB]

theorem aheadB_asymm {a b : Arc} (h1 : aheadB a b = true) : aheadB b a = false := by
  cases h : aheadB b a with
  | false => rfl
  | true => have := aheadB_trans h1 h; rw [aheadB_irr] at this; cases this

def Srt (l : List Arc) : Prop := l.Pairwise fun a b => aheadB a b = true

theorem arcsE_iff {st : Int} : ∀ (l : List Arc) (p : Option Arc), arcsE st p l = 0 ↔ (∀ a ∈ l, ArcOk st a) ∧ Srt l ∧ ∀ b, p = some b → ∀ a ∈ l, aheadB b a = true
  | [], p => by simp [arcsE_nil, Srt]
  | x :: l, p => by
    rw [arcsE_cons]
    have ih := arcsE_iff (st := st) l (some x)
    have hx : ArcOk st x ↔ arcOk st x = true ∧ arcIn x = true := by
      simp only [arcOk, arcIn, Bool.and_eq_true, decide_eq_true_eq]
      constructor
      · intro h; have := h.f0; have := h.f1; have := h.t0; have := h.t1; have := h.w0; have := h.w1; have := h.i0; have := h.o0; omega
      · intro h; exact ⟨by omega, by omega, by omega, by omega, by omega, by omega, by omega, by omega⟩
    cases h1 : arcOk st x with
    | false =>
      simp only [Bool.not_false, if_true]
      constructor
      · intro h; cases h
      · intro h; have := hx.1 (h.1 x (by simp)); rw [h1] at this; cases this.1
    | true =>
      cases h2 : arcIn x with
      | false =>
        simp only [Bool.not_true, Bool.false_eq_true, if_false, Bool.not_false, if_true]
        constructor
        · intro h; cases h
        · intro h; have := hx.1 (h.1 x (by simp)); rw [h2] at this; cases this.2
      | true =>
        have hxo := hx.2 ⟨h1, h2⟩
        simp only [Bool.not_true, Bool.false_eq_true, if_false]
        cases p with
        | none =>
          simp only [Bool.false_eq_true, if_false, ih]
          simp only [List.mem_cons, forall_eq_or_imp, Srt, List.pairwise_cons, reduceCtorEq, false_implies, implies_true, and_true, Option.some.injEq, forall_eq']
          constructor
          · rintro ⟨g1, g2, g3⟩; exact ⟨⟨hxo, g1⟩, g3, g2⟩
          · rintro ⟨⟨_, g1⟩, g3, g2⟩; exact ⟨g1, g2, g3⟩
        | some b =>
          simp only
          by_cases h3 : aheadB b x = true
          · rw [if_neg (by rw [h3]; decide), ih]
            simp only [List.mem_cons, forall_eq_or_imp, Srt, List.pairwise_cons, Option.some.injEq, forall_eq']
            constructor
            · rintro ⟨g1, g2, g3⟩; exact ⟨⟨hxo, g1⟩, ⟨g3, g2⟩, h3, fun a ha => aheadB_trans h3 (g3 a ha)⟩
            · rintro ⟨⟨_, g1⟩, ⟨g3, g2⟩, _, _⟩; exact ⟨g1, g2, g3⟩
          · rw [if_pos (by simp [h3])]
            constructor
            · intro h; cases h
            · intro h; exact absurd (h.2.2 b rfl x (by simp)) h3

theorem fstE_iff {F : TF} : fstE F = 0 ↔ FOk F ∧ Srt F.arcs := by
  constructor
  · intro h
    refine ⟨fstE_ok h, ?_⟩
    unfold fstE at h
    split at h
    · cases h
    split at h
    · cases h
    split at h
    · cases h
    split at h
    · cases h
    split at h
    · cases h
    exact ((arcsE_iff _ _).1 h).2.1
  · rintro ⟨h, h2⟩
    have := h.st
    have := h.start
    have := h.arcl
    unfold fstE
    rw [if_neg (by omega), if_neg (by omega), if_neg (by have := h.finl; omega), if_neg (fun c => c h.fin), if_neg (by omega)]
    exact (arcsE_iff _ _).2 ⟨h.arc, h2, fun b hb => by cases hb⟩

/-! ### Ways -/
/-- What a label says. -/
def lab (x : Int) : List Int := if x = 0 then [] else [x]

/-- A way from a state to a state: what it reads, writes, costs. -/
inductive Way (L : List Arc) : Int → List Int → List Int → Int → Int → Prop
  | nil (s : Int) : Way L s [] [] s 0
  | cons {a : Arc} {u v : List Int} {t c : Int} (ha : a ∈ L) (h : Way L a.t u v t c) : Way L a.f (lab a.i ++ u) (lab a.o ++ v) t (a.w + c)

theorem Way.app {L : List Arc} {s t r : Int} {u v u' v' : List Int} {c d : Int} (h : Way L s u v t c) (h' : Way L t u' v' r d) : Way L s (u ++ u') (v ++ v') r (c + d) := by
  induction h with
  | nil s => simpa using h'
  | cons ha h ih =>
    rw [List.append_assoc, List.append_assoc, Int.add_assoc]
    exact .cons ha (ih h')

theorem Way.one {L : List Arc} {a : Arc} (ha : a ∈ L) : Way L a.f (lab a.i) (lab a.o) a.t a.w := by
  have := Way.cons ha (.nil a.t)
  simpa using this

theorem Way.snoc {L : List Arc} {s : Int} {u v : List Int} {c : Int} {a : Arc} (h : Way L s u v a.f c) (ha : a ∈ L) : Way L s (u ++ lab a.i) (v ++ lab a.o) a.t (c + a.w) := h.app (.one ha)

theorem Way.mono {L L' : List Arc} (hL : ∀ a ∈ L, a ∈ L') {s t : Int} {u v : List Int} {c : Int} (h : Way L s u v t c) : Way L' s u v t c := by
  induction h with
  | nil s => exact .nil s
  | cons ha h ih => exact .cons (hL _ ha) ih

theorem Way.pos {L : List Arc} {st : Int} (hL : ∀ a ∈ L, ArcOk st a) {s t : Int} {u v : List Int} {c : Int} (h : Way L s u v t c) : 0 ≤ c := by
  induction h with
  | nil s => exact Int.le_refl _
  | cons ha h ih => have := (hL _ ha).w0; omega

theorem Way.rng {L : List Arc} {st : Int} (hL : ∀ a ∈ L, ArcOk st a) {s t : Int} {u v : List Int} {c : Int} (h : Way L s u v t c) (hs : 0 ≤ s ∧ s < st) : 0 ≤ t ∧ t < st := by
  induction h with
  | nil s => exact hs
  | cons ha h ih => exact ih ⟨(hL _ ha).t0, (hL _ ha).t1⟩

/-- What a pair of words may cost. -/
def Wt (F : TF) (u v : List Int) (c : Int) : Prop := ∃ t d, Way F.arcs F.start u v t d ∧ F.fin.getD t.toNat 0 ≠ -1 ∧ c = d + F.fin.getD t.toNat 0

theorem Wt.pos {F : TF} (hF : FOk F) {u v : List Int} {c : Int} (h : Wt F u v c) : 0 ≤ c := by
  obtain ⟨t, d, h1, h2, rfl⟩ := h
  have h3 := h1.pos hF.arc
  have h4 := h1.rng hF.arc hF.start
  have h5 := hF.fin _ (getD_mem F.fin t.toNat 0 (by have := hF.finl; omega))
  omega

/-- The least of some costs; -1: there is none. -/
def MinOf (P : Int → Prop) (n : Int) : Prop := (n = -1 ∧ ∀ c, ¬ P c) ∨ (0 ≤ n ∧ P n ∧ ∀ c, P c → n ≤ c)

theorem MinOf.eq {P Q : Int → Prop} {m n : Int} (hm : MinOf P m) (hn : MinOf Q n) (h : ∀ c, P c ↔ Q c) : m = n := by
  rcases hm with ⟨rfl, h1⟩ | ⟨h0, h1, h2⟩ <;> rcases hn with ⟨rfl, g1⟩ | ⟨g0, g1, g2⟩
  · rfl
  · exact absurd ((h n).2 g1) (h1 n)
  · exact absurd ((h m).1 h1) (g1 m)
  · have := h2 n ((h n).2 g1); have := g2 m ((h m).1 h1); omega

theorem MinOf.le {P : Int → Prop} {n c : Int} (h : MinOf P n) (hc : P c) : n ≠ -1 ∧ n ≤ c := by
  rcases h with ⟨_, h⟩ | ⟨h0, _, h2⟩
  · exact absurd hc (h c)
  · exact ⟨by omega, h2 c hc⟩

theorem MinOf.is {P : Int → Prop} {n : Int} (h : MinOf P n) (hn : n ≠ -1) : P n := by
  rcases h with ⟨h, _⟩ | ⟨_, h, _⟩
  · exact absurd h hn
  · exact h

theorem MinOf.low {P : Int → Prop} {n : Int} (h : MinOf P n) : -1 ≤ n := by
  rcases h with ⟨h, _⟩ | ⟨h, _⟩ <;> omega

end Go.Fw

/-
  The best way of all; what is pushed costs the same but for what is told; in the plain.
-/
namespace Go.Fw
open Go

theorem begun_getD {F : TF} {n : Nat} (h : n < F.st.toNat) : (begun F).getD n 0 = begF F.start n := by
  simp [begun, List.getD, h]
theorem begun_ln (F : TF) : (begun F).length = F.st.toNat := by simp [begun]

theorem RN.way {F : TF} (hF : FOk F) {k v : Nat} {c : Int} (h : RN F.arcs (begun F) k v c) : ∃ u w, Way F.arcs F.start u w (v : Int) c := by
  induction h with
  | base h hc =>
    rename_i v
    rw [begun_ln] at h
    rw [begun_getD h] at hc ⊢
    unfold begF at hc ⊢
    split at hc
    · rename_i e
      rw [if_pos e, e]
      exact ⟨[], [], .nil _⟩
    · exact absurd rfl hc
  | step h ha ih =>
    rename_i k a c
    obtain ⟨u, w, ih⟩ := ih
    have h1 := (hF.arc a ha).f0
    have h2 := (hF.arc a ha).t0
    have e1 : (a.f.toNat : Int) = a.f := by omega
    have e2 : (a.t.toNat : Int) = a.t := by omega
    rw [e1] at ih
    rw [e2]
    exact ⟨_, _, ih.snoc ha⟩

theorem Way.rnOf {L : List Arc} {c0 : List Int} {s t : Int} {u v : List Int} {d : Int} (h : Way L s u v t d) : ∀ {k : Nat} {c : Int}, RN L c0 k s.toNat c → ∃ k', RN L c0 k' t.toNat (c + d) := by
  induction h with
  | nil s => intro k c h; exact ⟨k, by simpa using h⟩
  | cons ha h ih =>
    intro k c hr
    obtain ⟨k', h'⟩ := ih (.step hr ha)
    exact ⟨k', by rw [← Int.add_assoc]; exact h'⟩

theorem Way.rn {F : TF} (hF : FOk F) {t : Int} {u v : List Int} {d : Int} (h : Way F.arcs F.start u v t d) : ∃ k, RN F.arcs (begun F) k t.toNat d := by
  have hs := hF.start
  have h1 : F.start.toNat < F.st.toNat := by omega
  have h2 : (begun F).getD F.start.toNat 0 = 0 := by
    rw [begun_getD h1]
    unfold begF
    exact if_pos (by omega)
  have h3 : RN F.arcs (begun F) 0 F.start.toNat 0 := by
    have := RN.base (l := F.arcs) (c0 := begun F) (v := F.start.toNat) (by rw [begun_ln]; exact h1) (by rw [h2]; decide)
    rwa [h2] at this
  obtain ⟨k, hk⟩ := h.rnOf h3
  exact ⟨k, by simpa using hk⟩

theorem Sol.low {F : TF} (hF : FOk F) {D : List Int} (h : Sol F.arcs (begun F) D) : ∀ v, v < (begun F).length → -1 ≤ D.getD v 0 := by
  intro v hv
  by_cases e : D.getD v 0 = -1
  · omega
  · obtain ⟨k, _, hk⟩ := h.s3 v hv e
    have := hk.pos hF.arc (fun v hv => ((begun_bd hF).bd v hv).1)
    omega

/-! ### Pushed -/
structure Pot (F : TF) (D : List Int) : Prop where
  len : D.length = F.fin.length
  low : ∀ v, v < F.fin.length → -1 ≤ D.getD v 0
  fin : ∀ v, v < F.fin.length → Le (D.getD v 0) (F.fin.getD v 0)
  arc : ∀ a ∈ F.arcs, D.getD a.t.toNat 0 ≠ -1 → Le (D.getD a.f.toNat 0) (D.getD a.t.toNat 0 + a.w)

/-- A transducer that was pushed. -/
structure PushIs (F : TF) (D : List Int) (X : TF) : Prop where
  st : X.st = F.st
  start : X.start = F.start
  fin : X.fin = pushF D F.fin F.fin.length
  arcs : X.arcs = pushL D F.arcs

theorem pushL_mem {D : List Int} {l : List Arc} {b : Arc} : b ∈ pushL D l ↔ ∃ a ∈ l, D.getD a.f.toNat 0 ≠ -1 ∧ D.getD a.t.toNat 0 ≠ -1 ∧ b = ⟨a.f, a.i, a.o, a.t, a.w + (D.getD a.t.toNat 0 - D.getD a.f.toNat 0)⟩ := by
  unfold pushL
  rw [List.mem_filterMap]
  constructor
  · rintro ⟨a, ha, h⟩
    unfold pushA at h
    split at h
    · cases h
    · rename_i hh
      cases h
      exact ⟨a, ha, fun c => hh (.inl c), fun c => hh (.inr c), rfl⟩
  · rintro ⟨a, ha, h1, h2, rfl⟩
    refine ⟨a, ha, ?_⟩
    unfold pushA
    rw [if_neg (fun c => by rcases c with c | c; exact h1 c; exact h2 c)]

theorem push_way {F : TF} (hF : FOk F) {D : List Int} (hP : Pot F D) {s t : Int} {u v : List Int} {d : Int} (h : Way F.arcs s u v t d) (ht : D.getD t.toNat 0 ≠ -1) : D.getD s.toNat 0 ≠ -1 ∧ Way (pushL D F.arcs) s u v t (d + D.getD t.toNat 0 - D.getD s.toNat 0) := by
  induction h with
  | nil s => exact ⟨ht, by have : (0 + D.getD s.toNat 0 - D.getD s.toNat 0) = 0 := by omega
                           rw [this]; exact .nil s⟩
  | cons ha h ih =>
    rename_i a u v t c
    obtain ⟨h1, h2⟩ := ih ht
    have hx := hF.arc a ha
    have hn := hF.finl
    have h4 := hP.low a.t.toNat (by have := hx.t0; have := hx.t1; omega)
    have h5 := hP.arc a ha h1 (by have := hx.w0; omega)
    refine ⟨h5.1, ?_⟩
    have h6 : (⟨a.f, a.i, a.o, a.t, a.w + (D.getD a.t.toNat 0 - D.getD a.f.toNat 0)⟩ : Arc) ∈ pushL D F.arcs := pushL_mem.2 ⟨a, ha, h5.1, h1, rfl⟩
    have h7 := Way.cons h6 h2
    have e : (a.w + c + D.getD t.toNat 0 - D.getD a.f.toNat 0) = (a.w + (D.getD a.t.toNat 0 - D.getD a.f.toNat 0)) + (c + D.getD t.toNat 0 - D.getD a.t.toNat 0) := by omega
    rw [e]
    exact h7

theorem push_way' {F : TF} {D : List Int} {s t : Int} {u v : List Int} {d : Int} (h : Way (pushL D F.arcs) s u v t d) (ht : D.getD t.toNat 0 ≠ -1) : D.getD s.toNat 0 ≠ -1 ∧ Way F.arcs s u v t (d - D.getD t.toNat 0 + D.getD s.toNat 0) := by
  induction h with
  | nil s => exact ⟨ht, by have : (0 - D.getD s.toNat 0 + D.getD s.toNat 0) = 0 := by omega
                           rw [this]; exact .nil s⟩
  | cons ha h ih =>
    rename_i b u v t c
    obtain ⟨h1, h2⟩ := ih ht
    obtain ⟨a, ha', h3, h4, rfl⟩ := pushL_mem.1 ha
    refine ⟨h3, ?_⟩
    simp only at h2 h1 ⊢
    have h7 := Way.cons ha' h2
    have e : (a.w + (D.getD a.t.toNat 0 - D.getD a.f.toNat 0)) + c - D.getD t.toNat 0 + D.getD a.f.toNat 0 = a.w + (c - D.getD t.toNat 0 + D.getD a.t.toNat 0) := by omega
    rw [e]
    exact h7

/-- What is pushed costs less by what is told. -/
theorem PushIs.wt {F : TF} {D : List Int} {X : TF} (h : PushIs F D X) (hF : FOk F) (hP : Pot F D) {u v : List Int} {c : Int} : Wt X u v c ↔ Wt F u v (c + D.getD F.start.toNat 0) ∧ D.getD F.start.toNat 0 ≠ -1 := by
  have hs := hF.start
  have hn := hF.finl
  unfold Wt
  rw [h.start, h.arcs, h.fin]
  constructor
  · rintro ⟨t, d, h1, h2, rfl⟩
    have hr : 0 ≤ t ∧ t < F.st := by
      have : ∀ {s t : Int} {u v : List Int} {c : Int}, Way (pushL D F.arcs) s u v t c → 0 ≤ s ∧ s < F.st → 0 ≤ t ∧ t < F.st := by
        intro s t u v c hw
        induction hw with
        | nil s => exact id
        | cons ha h ih =>
          obtain ⟨a, ha', _, _, rfl⟩ := pushL_mem.1 ha
          exact fun _ => ih ⟨(hF.arc a ha').t0, (hF.arc a ha').t1⟩
      exact this h1 hs
    have ht : t.toNat < F.fin.length := by omega
    rw [pushF_getD _ _ _ _ ht] at h2 ⊢
    unfold pushV at h2 ⊢
    by_cases e : F.fin.getD t.toNat 0 = -1
    · rw [if_neg (fun hh => hh.2 e)] at h2; exact absurd e h2
    · rw [if_pos ⟨ht, e⟩]
      have h3 := hP.fin _ ht e
      obtain ⟨h4, h5⟩ := push_way' h1 h3.1
      exact ⟨⟨t, _, h5, e, by omega⟩, h4⟩
  · rintro ⟨⟨t, d, h1, h2, h3⟩, _⟩
    have hr := h1.rng hF.arc hs
    have ht : t.toNat < F.fin.length := by omega
    have h4 := hP.fin _ ht h2
    have h5 := hP.low _ ht
    obtain ⟨h6, h7⟩ := push_way hF hP h1 h4.1
    refine ⟨t, _, h7, ?_, ?_⟩
    · rw [pushF_getD _ _ _ _ ht]
      unfold pushV
      rw [if_pos ⟨ht, h2⟩]
      omega
    · rw [pushF_getD _ _ _ _ ht]
      unfold pushV
      rw [if_pos ⟨ht, h2⟩]
      omega

/-! ### The way itself -/
inductive GW (arcs : List Arc) (rk : Nat → Nat) (x : Int) : Int → List Int → Int → Prop
  | nil : GW arcs rk x x [] 0
  | cons {n : Nat} {a : Arc} {l : List Int} {c : Int} (hn : arcs[n]? = some a) (hr : rk a.f.toNat < rk a.t.toNat) (h : GW arcs rk x a.t l c) : GW arcs rk x a.f ((n : Int) :: l) (a.w + c)

theorem GW.snoc {arcs : List Arc} {rk : Nat → Nat} {x s : Int} {l : List Int} {c : Int} (h : GW arcs rk x s l c) : ∀ {n : Nat} {a : Arc}, arcs[n]? = some a → a.f = x → rk a.f.toNat < rk a.t.toNat → GW arcs rk a.t s (l ++ [(n : Int)]) (c + a.w) := by
  induction h with
  | nil =>
    intro n a h1 h2 h3
    subst h2
    have := GW.cons h1 h3 (.nil (arcs := arcs) (rk := rk) (x := a.t))
    simpa using this
  | cons h1 h2 h ih =>
    intro n a g1 g2 g3
    rw [Int.add_assoc]
    exact .cons h1 h2 (ih g1 g2 g3)

end Go.Fw

/-
  What score tells is the least of all ways.
-/
namespace Go.Fw
open Go Go.Proofs

theorem fitE_take {l : List Int} {p x : Int} (hp : 0 ≤ p ∧ p ≤ l.length) (h : (fitE l p x).2 = true) : l.take (fitE l p x).1.toNat = l.take p.toNat ++ lab x := by
  unfold fitE lab at *
  by_cases e : x = 0
  · simp [if_pos e]
  · rw [if_neg e] at h ⊢
    rw [if_neg e]
    simp only [decide_eq_true_eq] at h ⊢
    have h1 : (p + 1).toNat = p.toNat + 1 := by omega
    rw [h1, take_succ_getD l p.toNat 0 (by omega), h.2]

section
variable {F : TF} {u v : List Int}

theorem Reach.way (hF : FOk F) {c : Int} {y : Trip} (h : Reach F u v (fromSt F) c y) : InBox F u v y ∧ Way F.arcs F.start (u.take y.b.toNat) (v.take y.c.toNat) y.a c := by
  induction h with
  | here h =>
    obtain ⟨rfl, rfl⟩ := h
    have := hF.start
    refine ⟨⟨this, ⟨Int.le_refl _, ?_⟩, ⟨Int.le_refl _, ?_⟩⟩, .nil _⟩ <;> (show (0 : Int) ≤ _; omega)
  | on h he ih =>
    obtain ⟨hx, hw⟩ := ih
    have hb := he.box hF hx
    refine ⟨hb, ?_⟩
    obtain ⟨a, h1, h2, h3, h4, rfl, rfl⟩ := he
    have ha := List.mem_of_getElem? h1
    rw [← h2] at hw
    simp only
    rw [fitE_take hx.2.1 h3, fitE_take hx.2.2 h4]
    exact hw.snoc ha

theorem fitE_of {u1 u2 : List Int} {x : Int} : (fitE (u1 ++ (lab x ++ u2)) u1.length x).2 = true ∧ (fitE (u1 ++ (lab x ++ u2)) u1.length x).1 = ((u1 ++ lab x).length : Int) := by
  unfold fitE lab
  by_cases e : x = 0
  · simp [if_pos e]
  · rw [if_neg e, if_neg e]
    refine ⟨?_, by simp⟩
    simp only [decide_eq_true_eq, Int.toNat_natCast]
    refine ⟨by simp; omega, ?_⟩
    simp [List.getD]

theorem Way.reach {S : Trip → Int → Prop} {s t : Int} {p q : List Int} {c : Int} (h : Way F.arcs s p q t c) : ∀ {u1 u2 v1 v2 : List Int} {c0 : Int}, u = u1 ++ (p ++ u2) → v = v1 ++ (q ++ v2) → Reach F u v S c0 ⟨s, u1.length, v1.length⟩ →
    Reach F u v S (c0 + c) ⟨t, (u1 ++ p).length, (v1 ++ q).length⟩ := by
  induction h with
  | nil s => intro u1 u2 v1 v2 c0 _ _ h; simpa using h
  | cons ha h ih =>
    rename_i a p q t c
    intro u1 u2 v1 v2 c0 hu hv hr
    obtain ⟨n, hn, he⟩ := List.getElem_of_mem ha
    have f1 := fitE_of (u1 := u1) (u2 := p ++ u2) (x := a.i)
    have f2 := fitE_of (u1 := v1) (u2 := q ++ v2) (x := a.o)
    rw [List.append_assoc] at hu hv
    rw [← hu] at f1
    rw [← hv] at f2
    have hedge : Edge F u v ⟨a.f, u1.length, v1.length⟩ n ⟨a.t, (u1 ++ lab a.i).length, (v1 ++ lab a.o).length⟩ a.w :=
      ⟨a, by rw [List.getElem?_eq_getElem hn, he], rfl, f1.1, f2.1, by rw [f1.2, f2.2], rfl⟩
    have := ih (u1 := u1 ++ lab a.i) (u2 := u2) (v1 := v1 ++ lab a.o) (v2 := v2) (by simp [hu]) (by simp [hv]) (.on hr hedge)
    rw [← Int.add_assoc, ← List.append_assoc, ← List.append_assoc]
    exact this

theorem reach_way (hF : FOk F) {c t : Int} : Reach F u v (fromSt F) c ⟨t, u.length, v.length⟩ ↔ Way F.arcs F.start u v t c := by
  constructor
  · intro h
    have := (h.way hF).2
    simpa using this
  · intro h
    have := h.reach (u := u) (v := v) (S := fromSt F) (u1 := []) (u2 := []) (v1 := []) (v2 := []) (c0 := 0) (by simp) (by simp) (.here ⟨rfl, rfl⟩)
    simpa using this

theorem endF_min {A : Trip → Option Int} {fin : List Int} {p q : Int} (hf : ∀ x ∈ fin, -1 ≤ x) (hA : ∀ y d, A y = some d → 0 ≤ d) : ∀ k, k ≤ fin.length → MinOf (fun c => ∃ (n : Nat) (d : Int), n < k ∧ A ⟨n, p, q⟩ = some d ∧ fin.getD n 0 ≠ -1 ∧ c = d + fin.getD n 0) (endF A fin p q k).2
  | 0, _ => .inl ⟨rfl, fun c h => by obtain ⟨n, d, h, _⟩ := h; omega⟩
  | k + 1, hk => by
    have ih := endF_min (p := p) (q := q) hf hA k (by omega)
    have hfk := hf _ (getD_mem fin k 0 (by omega))
    cases hd : A ⟨k, p, q⟩ with
    | none =>
      rw [endF_none hd]
      rcases ih with ⟨h1, h2⟩ | ⟨h0, ⟨n, d, h1, h2⟩, h3⟩
      · left
        refine ⟨h1, ?_⟩
        rintro c ⟨n, d, g1, g2, g3⟩
        by_cases e : n = k
        · subst e; rw [hd] at g2; cases g2
        · exact h2 c ⟨n, d, by omega, g2, g3⟩
      · right
        refine ⟨h0, ⟨n, d, by omega, h2⟩, ?_⟩
        rintro c ⟨n, d, g1, g2, g3⟩
        by_cases e : n = k
        · subst e; rw [hd] at g2; cases g2
        · exact h3 c ⟨n, d, by omega, g2, g3⟩
    | some d =>
      have hd0 := hA _ _ hd
      by_cases q1 : fin.getD k 0 = -1
      · rw [endF_no hd (.inl q1)]
        rcases ih with ⟨h1, h2⟩ | ⟨h0, ⟨n, d, h1, h2⟩, h3⟩
        · left
          refine ⟨h1, ?_⟩
          rintro c ⟨n, d, g1, g2, g3, g4⟩
          by_cases e : n = k
          · subst e; exact g3 q1
          · exact h2 c ⟨n, d, by omega, g2, g3, g4⟩
        · right
          refine ⟨h0, ⟨n, d, by omega, h2⟩, ?_⟩
          rintro c ⟨n, d, g1, g2, g3, g4⟩
          by_cases e : n = k
          · subst e; exact absurd q1 g3
          · exact h3 c ⟨n, d, by omega, g2, g3, g4⟩
      · by_cases q2 : (endF A fin p q k).2 = -1 ∨ d + fin.getD k 0 < (endF A fin p q k).2
        · rw [endF_yes hd q1 q2]
          right
          refine ⟨by show 0 ≤ d + fin.getD k 0; omega, ⟨k, d, by omega, hd, q1, rfl⟩, ?_⟩
          rintro c ⟨n, d', g1, g2, g3, g4⟩
          by_cases e : n = k
          · subst e; rw [hd] at g2; cases g2; simp only; omega
          · rcases ih with ⟨h1, h2⟩ | ⟨h0, _, h3⟩
            · exact absurd ⟨n, d', by omega, g2, g3, g4⟩ (h2 c)
            · have := h3 c ⟨n, d', by omega, g2, g3, g4⟩
              simp only
              omega
        · rw [endF_no hd (.inr ⟨fun c => q2 (.inl c), fun c => q2 (.inr c)⟩)]
          rcases ih with ⟨h1, h2⟩ | ⟨h0, ⟨n, d', h1, h2⟩, h3⟩
          · exact absurd (.inl h1) q2
          · right
            refine ⟨h0, ⟨n, d', by omega, h2⟩, ?_⟩
            rintro c ⟨n, d', g1, g2, g3, g4⟩
            by_cases e : n = k
            · subst e; rw [hd] at g2; cases g2; omega
            · exact h3 c ⟨n, d', by omega, g2, g3, g4⟩

/-- What score tells. -/
theorem score_min (hF : FOk F) {A : Trip → Option Int} (hA : IsLeast F u v (fromSt F) A) : MinOf (Wt F u v) (endF A F.fin u.length v.length F.fin.length).2 := by
  have hfl := hF.finl
  have hpos : ∀ y d, A y = some d → 0 ≤ d := fun y d h => ((hA.path y d h).way hF).2.pos hF.arc
  have := endF_min (p := u.length) (q := v.length) (fun x hx => (hF.fin x hx).1) hpos F.fin.length (Nat.le_refl _)
  rcases this with ⟨h1, h2⟩ | ⟨h0, ⟨n, d, h1, h2, h3, h4⟩, h5⟩
  · left
    refine ⟨h1, ?_⟩
    rintro c ⟨t, d, g1, g2, g3⟩
    obtain ⟨c', g4, g5⟩ := hA.least _ _ ((reach_way hF).2 g1)
    have hr := g1.rng hF.arc hF.start
    have e : (t.toNat : Int) = t := by omega
    exact h2 _ ⟨t.toNat, c', by omega, by rw [e]; exact g4, g2, rfl⟩
  · right
    refine ⟨h0, ⟨n, d, (reach_way hF).1 (hA.path _ _ h2), by rw [Int.toNat_natCast]; exact h3, by rw [Int.toNat_natCast]; exact h4⟩, ?_⟩
    rintro c ⟨t, d, g1, g2, g3⟩
    obtain ⟨c', g4, g5⟩ := hA.least _ _ ((reach_way hF).2 g1)
    have hr := g1.rng hF.arc hF.start
    have e : (t.toNat : Int) = t := by omega
    have := h5 _ ⟨t.toNat, c', by omega, by rw [e]; exact g4, g2, rfl⟩
    omega
end

theorem endF_bd {A : Trip → Option Int} {fin : List Int} {p q : Int} (hf : ∀ x ∈ fin, x ≤ 1000000000) (hA : ∀ y d, A y = some d → d ≤ 1000000000000000) : ∀ k, k ≤ fin.length → (endF A fin p q k).2 ≤ 1000001000000000
  | 0, _ => by simp [endF]
  | k + 1, hk => by
    have ih := endF_bd (p := p) (q := q) hf hA k (by omega)
    have hfk := hf _ (getD_mem fin k 0 (by omega))
    cases hd : A ⟨k, p, q⟩ with
    | none => rw [endF_none hd]; exact ih
    | some d =>
      have := hA _ _ hd
      by_cases c : fin.getD k 0 ≠ -1 ∧ ((endF A fin p q k).2 = -1 ∨ d + fin.getD k 0 < (endF A fin p q k).2)
      · rw [endF_yes hd c.1 c.2]; show d + fin.getD k 0 ≤ _; omega
      · rw [endF_no hd]
        · exact ih
        · by_cases c1 : fin.getD k 0 = -1
          · exact .inl c1
          · exact .inr ⟨fun e => c ⟨c1, .inl e⟩, fun e => c ⟨c1, .inr e⟩⟩

end Go.Fw

namespace Go.Fw
open Go Go.Proofs

/-- What score answers, whatever it is handed. -/
def ScoreP (F : TF) (u v : List Int) (n : Int) : Prop := (scoreE F u v = 0 → MinOf (Wt F u v) n ∧ n ≤ 1000001000000000) ∧ (scoreE F u v ≠ 0 → n = 0)

set_option maxHeartbeats 4000000 in
set_option maxRecDepth 20000 in
theorem score_b (F : TF) (u v : List Int) (cu cv : Nat) (hl : F.fin.length ≤ 9223372036854775807) (hsc : scoreE F u v = 0) :
    Ct Tryd.prog 8 [fV F, .c (.sl 2 1 0 u.length cu), .c (.sl 3 1 0 v.length cv)] [] (hpQ F u v) 4 (fun x s => ∃ n, ScoreP F u v n ∧ x = .tup [.c (.i n), .c (.i 0)] ∧ s = ⟨[], [], 4⟩) := by
  have hF : FOk F := by
    refine fstE_ok ?_
    unfold scoreE at hsc
    by_cases h : fstE F = 0
    · exact h
    · rw [if_pos h] at hsc; exact absurd hsc h
  refine ctW Tryd.tyOk 12 [] Tryd.func8 rfl (by simp) (by simp) (fr := [(0, fV F), (1, .c (.sl 2 1 0 u.length cu)), (2, .c (.sl 3 1 0 v.length cv))]) rfl ?_
  repeat' (first | exact rfl | ((conv => whnf); first | (refine qX (fun h => ?_) fun h => ?_ <;> try exact absurd h (by omega)) | refine oN ?_ | refine oM ?_ ?_ | refine bM ?_ ?_ | refine dR ?_))
  (conv => whnf)
  refine cF (walk_ok F u v cu cv hl hsc) [0, 1, 2, 3] Tryd.call21 ?_
  rintro _ _ ⟨rows, pi, es, clk, pf, ⟨hm, ord, rk, B, hol, hD, hB, hall⟩, rfl, rfl⟩
  repeat' (first | exact rfl | ((conv => whnf); first | (refine qX (fun h => ?_) fun h => ?_ <;> try exact absurd h (by omega)) | refine oN ?_ | refine oM ?_ ?_ | refine bM ?_ ?_ | refine dR ?_))
  (conv => whnf)
  refine ⟨[], [], 4, .tup [.c (.i (endF (costOf es pf) F.fin u.length v.length F.fin.length).2), .c (.i 0)], ⟨by rfl, trivial, trivial⟩, by simp, _, ⟨fun _ => ⟨score_min hF (hD.least hall), ?_⟩, fun c => absurd hsc c⟩, rfl, rfl⟩
  refine endF_bd (fun x hx => (hF.fin x hx).2) (fun y d h => ?_) _ (Nat.le_refl _)
  obtain ⟨e, h1, rfl⟩ := Option.map_eq_some_iff.1 h
  have := (hD.cost y e h1).2
  omega

end Go.Fw

/-
  Sorting a range in place, in the plain: swaps, rotation, merging; whatever the elements, by an order.
-/
namespace Go.Fw
open Go

section
variable {α : Type} {d : α}

/-- ys came of xs by moves inside the places from a on, below b. -/
structure Mv (d : α) (a b : Nat) (xs ys : List α) : Prop where
  len : ys.length = xs.length
  perm : ys.Perm xs
  out : ∀ k, k < a ∨ b ≤ k → ys.getD k d = xs.getD k d
  ins : ∀ k, a ≤ k → k < b → ∃ k', a ≤ k' ∧ k' < b ∧ ys.getD k d = xs.getD k' d

theorem Mv.refl (a b : Nat) (xs : List α) : Mv d a b xs xs := ⟨rfl, .refl _, fun _ _ => rfl, fun k h1 h2 => ⟨k, h1, h2, rfl⟩⟩

theorem Mv.trans {a b : Nat} {xs ys zs : List α} (h : Mv d a b xs ys) (h' : Mv d a b ys zs) : Mv d a b xs zs where
  len := h'.len.trans h.len
  perm := h'.perm.trans h.perm
  out := fun k hk => (h'.out k hk).trans (h.out k hk)
  ins := fun k h1 h2 => by
    obtain ⟨k', g1, g2, g3⟩ := h'.ins k h1 h2
    obtain ⟨k'', f1, f2, f3⟩ := h.ins k' g1 g2
    exact ⟨k'', f1, f2, g3.trans f3⟩

theorem Mv.wide {a b a' b' : Nat} {xs ys : List α} (h : Mv d a b xs ys) (ha : a' ≤ a) (hb : b ≤ b') : Mv d a' b' xs ys where
  len := h.len
  perm := h.perm
  out := fun k hk => h.out k (by omega)
  ins := fun k h1 h2 => by
    by_cases hk : a ≤ k ∧ k < b
    · obtain ⟨k', g1, g2, g3⟩ := h.ins k hk.1 hk.2
      exact ⟨k', by omega, by omega, g3⟩
    · exact ⟨k, h1, h2, h.out k (by omega)⟩

/-- Two elements change places. -/
def swapL (d : α) (xs : List α) (i j : Nat) : List α := (xs.set i (xs.getD j d)).set j (xs.getD i d)

theorem getD_set' {β : Type} (c : List β) (i v : Nat) (x d : β) : (c.set i x).getD v d = if i = v ∧ v < c.length then x else c.getD v d := by
  by_cases h : i = v
  · subst h
    by_cases h2 : i < c.length
    · simp [List.getD, h2]
    · simp [List.getD, h2]
  · simp [List.getD, List.getElem?_set_ne h, h]

theorem swapL_getD {xs : List α} {i j : Nat} (hi : i < xs.length) (hj : j < xs.length) (k : Nat) : (swapL d xs i j).getD k d = if k = j then xs.getD i d else if k = i then xs.getD j d else xs.getD k d := by
  unfold swapL
  rw [getD_set', getD_set', List.length_set]
  by_cases h1 : k = j
  · subst h1
    rw [if_pos ⟨rfl, hj⟩, if_pos rfl]
  · rw [if_neg (fun c => h1 c.1.symm), if_neg h1]
    by_cases h2 : k = i
    · subst h2
      rw [if_pos ⟨rfl, hi⟩, if_pos rfl]
    · rw [if_neg (fun c => h2 c.1.symm), if_neg h2]

/-- An order: one stands ahead of another one. -/
structure LtOk (lt : α → α → Bool) : Prop where
  asym : ∀ x y, lt x y = true → lt y x = false
  trans : ∀ x y z, lt y x = false → lt z y = false → lt z x = false

variable {lt : α → α → Bool}

/-- In order, from a on, below b. -/
def SrtOn (d : α) (lt : α → α → Bool) (a b : Nat) (xs : List α) : Prop := ∀ i j, a ≤ i → i < j → j < b → lt (xs.getD j d) (xs.getD i d) = false

theorem SrtOn.cong {a b : Nat} {xs ys : List α} (h : SrtOn d lt a b xs) (he : ∀ k, a ≤ k → k < b → ys.getD k d = xs.getD k d) : SrtOn d lt a b ys := by
  intro i j h1 h2 h3
  rw [he i h1 (by omega), he j (by omega) h3]
  exact h i j h1 h2 h3

theorem SrtOn.one {a b : Nat} {xs : List α} (h : b ≤ a + 1) : SrtOn d lt a b xs := fun i j h1 h2 h3 => by omega

theorem LtOk.irr (h : LtOk lt) (x : α) : lt x x = false := by
  cases e : lt x x with
  | false => rfl
  | true => have := h.asym x x e; rw [e] at this; cases this

theorem SrtOn.le (hlt : LtOk lt) {a b : Nat} {xs : List α} (h : SrtOn d lt a b xs) {i j : Nat} (h1 : a ≤ i) (h2 : i ≤ j) (h3 : j < b) : lt (xs.getD j d) (xs.getD i d) = false := by
  by_cases e : i = j
  · subst e; exact hlt.irr _
  · exact h i j h1 (by omega) h3

/-! ### Insertion -/
/-- In order but for the one at j, which goes back. -/
def InsOn (d : α) (lt : α → α → Bool) (a i j : Nat) (xs : List α) : Prop := ∀ p q, a ≤ p → p < q → q ≤ i → q ≠ j → lt (xs.getD q d) (xs.getD p d) = false

theorem InsOn.start {a i : Nat} {xs : List α} (h : SrtOn d lt a i xs) : InsOn d lt a i i xs := fun p q h1 h2 h3 h4 => h p q h1 h2 (by omega)

theorem InsOn.step (hlt : LtOk lt) {a i j : Nat} {xs : List α} (h : InsOn d lt a i j xs) (hj : a < j) (hji : j ≤ i) (hi : i < xs.length) (hx : lt (xs.getD j d) (xs.getD (j - 1) d) = true) : InsOn d lt a i (j - 1) (swapL d xs j (j - 1)) := by
  intro p q h1 h2 h3 h4
  have hg := swapL_getD (d := d) (xs := xs) (i := j) (j := j - 1) (by omega) (by omega)
  rw [hg, hg, if_neg h4]
  by_cases e : q = j
  · subst e
    rw [if_pos rfl]
    by_cases e2 : p = q - 1
    · rw [if_pos e2]; exact hlt.asym _ _ hx
    · rw [if_neg e2, if_neg (by omega)]; exact h p (q - 1) h1 (by omega) (by omega) (by omega)
  · rw [if_neg e]
    by_cases e2 : p = j - 1
    · rw [if_pos e2]; exact h j q (by omega) (by omega) h3 e
    · rw [if_neg e2]
      by_cases e3 : p = j
      · rw [if_pos e3]; exact h (j - 1) q (by omega) (by omega) h3 e
      · rw [if_neg e3]; exact h p q h1 h2 h3 e

theorem InsOn.done (hlt : LtOk lt) {a i j : Nat} {xs : List α} (h : InsOn d lt a i j xs) (hji : j ≤ i) (hx : j ≤ a ∨ lt (xs.getD j d) (xs.getD (j - 1) d) = false) : SrtOn d lt a (i + 1) xs := by
  intro p q h1 h2 h3
  by_cases e : q = j
  · subst e
    rcases hx with hx | hx
    · omega
    · by_cases e2 : p = q - 1
      · rw [e2]; exact hx
      · exact hlt.trans _ _ _ (h p (q - 1) h1 (by omega) (by omega) (by omega)) hx
  · exact h p q h1 h2 (by omega) e

/-! ### Blocks change places -/
/-- The first k of two blocks of the places from a on and from b on have changed places. -/
def SwOn (d : α) (a b k : Nat) (xs ys : List α) : Prop := ∀ p, ys.getD p d = if a ≤ p ∧ p < a + k then xs.getD (p - a + b) d else if b ≤ p ∧ p < b + k then xs.getD (p - b + a) d else xs.getD p d

theorem SwOn.zero (a b : Nat) (xs : List α) : SwOn d a b 0 xs xs := fun p => by rw [if_neg (by omega), if_neg (by omega)]

theorem SwOn.step {a b k n : Nat} {xs ys : List α} (h : SwOn d a b k xs ys) (hl : ys.length = xs.length) (hk : k < n) (hab : a + n ≤ b) (hb : b + n ≤ xs.length) : SwOn d a b (k + 1) xs (swapL d ys (a + k) (b + k)) := by
  intro p
  rw [swapL_getD (by omega) (by omega)]
  have h1 := h p
  have h2 := h (a + k)
  have h3 := h (b + k)
  rw [if_neg (by omega), if_neg (by omega)] at h2 h3
  by_cases e1 : p = b + k
  · subst e1
    rw [if_pos rfl, if_neg (by omega), if_pos (by omega), h2]
    congr 1; omega
  · rw [if_neg e1]
    by_cases e2 : p = a + k
    · subst e2
      rw [if_pos rfl, if_pos (by omega), h3]
      congr 1; omega
    · rw [if_neg e2, h1]
      by_cases e3 : a ≤ p ∧ p < a + k
      · rw [if_pos e3, if_pos (by omega)]
      · by_cases e4 : b ≤ p ∧ p < b + k
        · rw [if_neg e3, if_pos e4, if_neg (by omega), if_pos (by omega)]
        · rw [if_neg e3, if_neg e4, if_neg (by omega), if_neg (by omega)]

/-! ### Rotation -/
/-- What lay from a on, below m, and what lay from m on, below b, have changed places. -/
def RotOn (d : α) (a m b : Nat) (xs ys : List α) : Prop := ∀ p, ys.getD p d = if a ≤ p ∧ p < a + (b - m) then xs.getD (p - a + m) d else if a + (b - m) ≤ p ∧ p < b then xs.getD (p - (b - m)) d else xs.getD p d

/-- What is left to do. -/
theorem RotOn.left {a m b i j : Nat} {xs ys zs : List α} (h : ∀ us, RotOn d (m - i) m (m + j) ys us → RotOn d a m b xs us) (hij : j < i) (him : i ≤ m) (hs : SwOn d (m - i) m j ys zs) : ∀ us, RotOn d (m - (i - j)) m (m + j) zs us → RotOn d a m b xs us := by
  intro us hu
  refine h us fun p => ?_
  rw [hu p]
  have h1 := hs p
  have h2 := hs (p - (m - (i - j)) + m)
  have h3 := hs (p - (m + j - m))
  by_cases c1 : m - i ≤ p ∧ p < m - i + j
  · rw [if_neg (by omega), if_neg (by omega), h1, if_pos c1, if_pos (by omega)]
  · by_cases c2 : m - (i - j) ≤ p ∧ p < m - (i - j) + j
    · rw [if_pos (by omega), h2, if_neg (by omega), if_pos (by omega), if_neg (by omega), if_pos (by omega)]
      congr 1; omega
    · by_cases c3 : m - (i - j) + j ≤ p ∧ p < m + j
      · rw [if_neg (by omega), if_pos (by omega), h3, if_neg (by omega), if_neg (by omega), if_neg (by omega), if_pos (by omega)]
      · rw [if_neg (by omega), if_neg (by omega), h1, if_neg (by omega), if_neg (by omega), if_neg (by omega), if_neg (by omega)]

theorem RotOn.right {a m b i j : Nat} {xs ys zs : List α} (h : ∀ us, RotOn d (m - i) m (m + j) ys us → RotOn d a m b xs us) (hij : i < j) (him : i ≤ m) (hs : SwOn d (m - i) (m + j - i) i ys zs) : ∀ us, RotOn d (m - i) m (m + (j - i)) zs us → RotOn d a m b xs us := by
  intro us hu
  refine h us fun p => ?_
  rw [hu p]
  have h1 := hs p
  have h2 := hs (p - (m - i) + m)
  have h3 := hs (p - (m + (j - i) - m))
  by_cases c1 : m - i ≤ p ∧ p < m - i + (j - i)
  · rw [if_pos (by omega), h2, if_neg (by omega), if_neg (by omega), if_pos (by omega)]
  · by_cases c2 : m - i + (j - i) ≤ p ∧ p < m + (j - i)
    · rw [if_neg (by omega), if_pos (by omega), h3, if_pos (by omega), if_pos (by omega)]
      congr 1; omega
    · by_cases c3 : m + (j - i) ≤ p ∧ p < m + j
      · rw [if_neg (by omega), if_neg (by omega), h1, if_neg (by omega), if_pos (by omega), if_neg (by omega), if_pos (by omega)]
        congr 1; omega
      · rw [if_neg (by omega), if_neg (by omega), h1, if_neg (by omega), if_neg (by omega), if_neg (by omega), if_neg (by omega)]

theorem RotOn.last {m i : Nat} {ys zs : List α} (him : i ≤ m) (hs : SwOn d (m - i) m i ys zs) : RotOn d (m - i) m (m + i) ys zs := by
  intro p
  rw [hs p]
  by_cases c1 : m - i ≤ p ∧ p < m - i + i
  · rw [if_pos c1, if_pos (by omega)]
  · by_cases c2 : m ≤ p ∧ p < m + i
    · rw [if_neg c1, if_pos c2, if_neg (by omega), if_pos (by omega)]
      congr 1; omega
    · rw [if_neg c1, if_neg c2, if_neg (by omega), if_neg (by omega)]

end
end Go.Fw

/-
  Merging in place, and block by block, in the plain.
-/
namespace Go.Fw
open Go

section
variable {α : Type} {d : α} {lt : α → α → Bool}

/-! ### One element is put in among others -/
theorem RotOn.none {a m b : Nat} {xs : List α} (h : m = a ∨ b = m) : RotOn d a m b xs xs := by
  intro p
  rcases h with rfl | rfl
  · by_cases c : m ≤ p ∧ p < m + (b - m)
    · rw [if_pos c]; congr 1; omega
    · rw [if_neg c, if_neg (by omega)]
  · rw [if_neg (by omega)]
    by_cases c : a + (b - b) ≤ p ∧ p < b
    · rw [if_pos c]; congr 1; omega
    · rw [if_neg c]

/-! ### The search -/
structure SymS (d : α) (lt : α → α → Bool) (lo hi p s r : Nat) (xs : List α) : Prop where
  l : lo ≤ s
  m : s ≤ r
  h : r ≤ hi
  lf : s = lo ∨ lt (xs.getD (p - (s - 1)) d) (xs.getD (s - 1) d) = false
  rt : r = hi ∨ lt (xs.getD (p - r) d) (xs.getD r d) = true

/-- All that goes left is no greater than all that goes right. -/
def Cross (d : α) (lt : α → α → Bool) (a mid b : Nat) (ys : List α) : Prop := ∀ i j, a ≤ i → i < mid → mid ≤ j → j < b → lt (ys.getD j d) (ys.getD i d) = false

/-! ### Block by block -/
/-- Whole blocks below a are in order. -/
def UpTo (d : α) (lt : α → α → Bool) (bs a : Nat) (ys : List α) : Prop := ∃ t, a = t * bs ∧ ∀ s, s < t → SrtOn d lt (s * bs) ((s + 1) * bs) ys
/-- All blocks are in order. -/
def AllBl (d : α) (lt : α → α → Bool) (bs n : Nat) (ys : List α) : Prop := ∀ s, SrtOn d lt (s * bs) (min ((s + 1) * bs) n) ys
/-- Below a in greater blocks, from there on in smaller ones. -/
def Half (d : α) (lt : α → α → Bool) (bs n a : Nat) (ys : List α) : Prop := ∃ t, a = t * (2 * bs) ∧ (∀ s, s < t → SrtOn d lt (s * (2 * bs)) ((s + 1) * (2 * bs)) ys) ∧ ∀ s, 2 * t ≤ s → SrtOn d lt (s * bs) (min ((s + 1) * bs) n) ys

theorem UpTo.zero (bs : Nat) (ys : List α) : UpTo d lt bs 0 ys := ⟨0, by simp, fun s h => by omega⟩

theorem UpTo.next {bs a : Nat} {ys zs : List α} (h : UpTo d lt bs a ys) (hm : Mv d a (a + bs) ys zs) (hs : SrtOn d lt a (a + bs) zs) : UpTo d lt bs (a + bs) zs := by
  obtain ⟨t, rfl, h2⟩ := h
  refine ⟨t + 1, by rw [Nat.succ_mul], fun s hst => ?_⟩
  by_cases e : s = t
  · subst e; rw [Nat.succ_mul]; exact hs
  · have hle : (s + 1) * bs ≤ t * bs := Nat.mul_le_mul_right _ (by omega)
    exact (h2 s (by omega)).cong fun k _ hk => hm.out k (.inl (by omega))

theorem UpTo.done {bs a n : Nat} {ys zs : List α} (h : UpTo d lt bs a ys) (han : a ≤ n) (hn : n < a + bs) (hm : Mv d a n ys zs) (hs : SrtOn d lt a n zs) : AllBl d lt bs n zs := by
  obtain ⟨t, rfl, h2⟩ := h
  intro s
  by_cases c : s < t
  · have hle : (s + 1) * bs ≤ t * bs := Nat.mul_le_mul_right _ (by omega)
    rw [Nat.min_eq_left (by omega)]
    exact (h2 s c).cong fun k _ hk => hm.out k (.inl (by omega))
  · by_cases e : s = t
    · subst e
      rw [Nat.min_eq_right (by rw [Nat.succ_mul]; omega)]
      exact hs
    · have hle : (t + 1) * bs ≤ s * bs := Nat.mul_le_mul_right _ (by omega)
      rw [Nat.succ_mul] at hle
      intro i j h1 h2 h3
      have := Nat.min_le_right ((s + 1) * bs) n
      omega

theorem Half.zero {bs n : Nat} {ys : List α} (h : AllBl d lt bs n ys) : Half d lt bs n 0 ys := ⟨0, by simp, fun s h => by omega, fun s _ => h s⟩

theorem Half.two {bs n a : Nat} {ys : List α} (h : Half d lt bs n a ys) (hab : a + bs ≤ n) : SrtOn d lt a (a + bs) ys ∧ SrtOn d lt (a + bs) (min (a + 2 * bs) n) ys := by
  obtain ⟨t, rfl, h2, h3⟩ := h
  have e1 : 2 * t * bs = t * (2 * bs) := by rw [Nat.mul_comm 2 t, Nat.mul_assoc]
  have e2 : (2 * t + 1) * bs = t * (2 * bs) + bs := by rw [Nat.succ_mul, e1]
  have e3 : (2 * t + 1 + 1) * bs = t * (2 * bs) + 2 * bs := by rw [Nat.succ_mul, e2]; omega
  have k1 := h3 (2 * t) (Nat.le_refl _)
  have k2 := h3 (2 * t + 1) (by omega)
  rw [e2, e1, Nat.min_eq_left hab] at k1
  rw [e3, e2] at k2
  exact ⟨k1, k2⟩

theorem Half.next {bs n a : Nat} {ys zs : List α} (h : Half d lt bs n a ys) (hm : Mv d a (a + 2 * bs) ys zs) (hs : SrtOn d lt a (a + 2 * bs) zs) : Half d lt bs n (a + 2 * bs) zs := by
  obtain ⟨t, rfl, h2, h3⟩ := h
  refine ⟨t + 1, (Nat.succ_mul t (2 * bs)).symm, fun s hst => ?_, fun s hst => ?_⟩
  · by_cases e : s = t
    · subst e; rw [Nat.succ_mul s (2 * bs)]; exact hs
    · have hle : (s + 1) * (2 * bs) ≤ t * (2 * bs) := Nat.mul_le_mul_right _ (by omega)
      exact (h2 s (by omega)).cong fun k _ hk => hm.out k (.inl (by omega))
  · have hle : (2 * t + 2) * bs ≤ s * bs := Nat.mul_le_mul_right _ (by omega)
    have e1 : (2 * t + 2) * bs = t * (2 * bs) + 2 * bs := by rw [Nat.add_mul, Nat.mul_comm 2 t, Nat.mul_assoc]
    exact (h3 s (by omega)).cong fun k hk _ => hm.out k (.inr (by omega))

theorem Half.done {bs n a : Nat} {ys zs : List α} (h : Half d lt bs n a ys) (han : a ≤ n) (hn : n < a + 2 * bs) (hm : Mv d a n ys zs) (hs : SrtOn d lt a n zs) : AllBl d lt (2 * bs) n zs := by
  obtain ⟨t, rfl, h2, _⟩ := h
  exact UpTo.done ⟨t, rfl, h2⟩ han hn hm hs

theorem AllBl.all {bs n : Nat} {ys : List α} (h : AllBl d lt bs n ys) (hn : n ≤ bs) : SrtOn d lt 0 n ys := by
  have := h 0
  rwa [Nat.zero_mul, Nat.zero_add, Nat.one_mul, Nat.min_eq_right hn] at this

end
end Go.Fw

/-
  The order by which arcs are sorted, in the plain.
-/
namespace Go.Fw
open Go

def cmpW (a b : Arc) : Int := orI [orderI a b, cmpI a.w b.w]
def ltW (a b : Arc) : Bool := decide (cmpW a b < 0)
def sameK (a b : Arc) : Bool := decide (orderI a b = 0)

theorem SrtOn.less {α : Type} {d : α} {lt : α → α → Bool} {a b c : Nat} {xs : List α} (h : SrtOn d lt a b xs) (hc : c ≤ b) : SrtOn d lt a c xs := fun i j h1 h2 h3 => h i j h1 h2 (by omega)

/-! ### Searches -/
section
variable {α : Type} {d : α} {lt : α → α → Bool}

/-- Where the first one goes, among those behind it. -/
structure SeaA (d : α) (lt : α → α → Bool) (a b i j : Nat) (xs : List α) : Prop where
  l : a + 1 ≤ i
  ij : i ≤ j
  h : j ≤ b
  lo : ∀ k, a + 1 ≤ k → k < i → lt (xs.getD k d) (xs.getD a d) = true
  hi : ∀ k, j ≤ k → k < b → lt (xs.getD k d) (xs.getD a d) = false

theorem SeaA.start {a b : Nat} {xs : List α} (h : a + 1 ≤ b) : SeaA d lt a b (a + 1) b xs := ⟨Nat.le_refl _, h, Nat.le_refl _, fun k h1 h2 => by omega, fun k h1 h2 => by omega⟩

theorem SeaA.up (hlt : LtOk lt) {a b i j : Nat} {xs : List α} (hs : SrtOn d lt (a + 1) b xs) (h : SeaA d lt a b i j xs) (hij : i < j) (hc : lt (xs.getD ((i + j) / 2) d) (xs.getD a d) = true) : SeaA d lt a b ((i + j) / 2 + 1) j xs := by
  have h1 := h.l
  have h2 := h.h
  refine ⟨by omega, by omega, h2, fun k g1 g2 => ?_, h.hi⟩
  cases e : lt (xs.getD k d) (xs.getD a d) with
  | true => rfl
  | false =>
    have := hlt.trans _ _ _ e (hs.le hlt (i := k) (j := (i + j) / 2) g1 (by omega) (by omega))
    rw [hc] at this; cases this

theorem SeaA.down (hlt : LtOk lt) {a b i j : Nat} {xs : List α} (hs : SrtOn d lt (a + 1) b xs) (h : SeaA d lt a b i j xs) (hij : i < j) (hc : lt (xs.getD ((i + j) / 2) d) (xs.getD a d) = false) : SeaA d lt a b i ((i + j) / 2) xs := by
  have h1 := h.l
  have h2 := h.h
  exact ⟨h1, by omega, by omega, h.lo, fun k g1 g2 => hlt.trans _ _ _ hc (hs.le hlt (i := (i + j) / 2) (j := k) (by omega) g1 g2)⟩

/-- Where the last one goes, among those ahead of it. -/
structure SeaB (d : α) (lt : α → α → Bool) (a m i j : Nat) (xs : List α) : Prop where
  l : a ≤ i
  ij : i ≤ j
  h : j ≤ m
  lo : ∀ k, a ≤ k → k < i → lt (xs.getD m d) (xs.getD k d) = false
  hi : ∀ k, j ≤ k → k < m → lt (xs.getD m d) (xs.getD k d) = true

theorem SeaB.start {a m : Nat} {xs : List α} (h : a ≤ m) : SeaB d lt a m a m xs := ⟨Nat.le_refl _, h, Nat.le_refl _, fun k h1 h2 => by omega, fun k h1 h2 => by omega⟩

theorem SeaB.up (hlt : LtOk lt) {a m i j : Nat} {xs : List α} (hs : SrtOn d lt a m xs) (h : SeaB d lt a m i j xs) (hij : i < j) (hc : lt (xs.getD m d) (xs.getD ((i + j) / 2) d) = false) : SeaB d lt a m ((i + j) / 2 + 1) j xs := by
  have h1 := h.l
  have h2 := h.h
  exact ⟨by omega, by omega, h2, fun k g1 g2 => hlt.trans _ _ _ (hs.le hlt (i := k) (j := (i + j) / 2) g1 (by omega) (by omega)) hc, h.hi⟩

theorem SeaB.down (hlt : LtOk lt) {a m i j : Nat} {xs : List α} (hs : SrtOn d lt a m xs) (h : SeaB d lt a m i j xs) (hij : i < j) (hc : lt (xs.getD m d) (xs.getD ((i + j) / 2) d) = true) : SeaB d lt a m i ((i + j) / 2) xs := by
  have h1 := h.l
  have h2 := h.h
  refine ⟨h1, by omega, by omega, h.lo, fun k g1 g2 => ?_⟩
  cases e : lt (xs.getD m d) (xs.getD k d) with
  | true => rfl
  | false =>
    have := hlt.trans _ _ _ (hs.le hlt (i := (i + j) / 2) (j := k) (by omega) g1 g2) e
    rw [hc] at this; cases this

theorem Half.low {bs n a : Nat} {ys : List α} (h : Half d lt bs n a ys) (hab : n ≤ a + bs) : SrtOn d lt a n ys := by
  obtain ⟨t, rfl, h2, h3⟩ := h
  have e1 : 2 * t * bs = t * (2 * bs) := by rw [Nat.mul_comm 2 t, Nat.mul_assoc]
  have e2 : (2 * t + 1) * bs = t * (2 * bs) + bs := by rw [Nat.succ_mul, e1]
  have k1 := h3 (2 * t) (Nat.le_refl _)
  rw [e2, e1, Nat.min_eq_right hab] at k1
  exact k1

theorem SymS.up {lo hi p s r : Nat} {xs : List α} (h : SymS d lt lo hi p s r xs) (hsr : s < r) (hc : lt (xs.getD (p - (s + r) / 2) d) (xs.getD ((s + r) / 2) d) = false) : SymS d lt lo hi p ((s + r) / 2 + 1) r xs := by
  have h1 := h.l
  have h2 := h.h
  exact ⟨by omega, by omega, h2, .inr (by rw [Nat.add_sub_cancel]; exact hc), h.rt⟩

theorem SymS.down {lo hi p s r : Nat} {xs : List α} (h : SymS d lt lo hi p s r xs) (hsr : s < r) (hc : lt (xs.getD (p - (s + r) / 2) d) (xs.getD ((s + r) / 2) d) = true) : SymS d lt lo hi p s ((s + r) / 2) xs := by
  have h1 := h.l
  have h2 := h.h
  exact ⟨h1, by omega, by omega, h.lf, .inr hc⟩

end
end Go.Fw

/-
  Of arcs that are the same the first one, in the plain.
-/
namespace Go.Fw
open Go

abbrev aD : Arc := ⟨0, 0, 0, 0, 0⟩

def compL : Arc → List Arc → List Arc
  | _, [] => []
  | p, x :: l => if sameK x p then compL x l else x :: compL x l
def comp : List Arc → List Arc
  | [] => []
  | x :: l => x :: compL x l

theorem compL_snoc : ∀ (l : List Arc) (p x : Arc), compL p (l ++ [x]) = compL p l ++ (if sameK x ((p :: l).getLast (by simp)) then [] else [x])
  | [], p, x => rfl
  | y :: l, p, x => by
    have ih := compL_snoc l y x
    simp only [List.cons_append, compL]
    have e : (p :: y :: l).getLast (by simp) = (y :: l).getLast (by simp) := by simp
    rw [e]
    split
    · exact ih
    · rw [ih]; rfl

theorem comp_snoc (l : List Arc) (x : Arc) (h : l ≠ []) : comp (l ++ [x]) = comp l ++ (if sameK x (l.getLast h) then [] else [x]) := by
  cases l with
  | nil => exact absurd rfl h
  | cons y l => simp only [List.cons_append, comp]; rw [compL_snoc]

theorem comp_take (l : List Arc) (k : Nat) (h1 : 1 ≤ k) (h2 : k < l.length) : comp (l.take (k + 1)) = comp (l.take k) ++ (if sameK (l.getD k aD) (l.getD (k - 1) aD) then [] else [l.getD k aD]) := by
  have hne : l.take k ≠ [] := by
    intro c
    have := congrArg List.length c
    rw [List.length_take, List.length_nil] at this
    omega
  rw [take_succ_getD l k aD h2, comp_snoc _ _ hne]
  have e : (l.take k).getLast hne = l.getD (k - 1) aD := by
    have hlt : k - 1 < (l.take k).length := by rw [List.length_take]; omega
    rw [List.getLast_eq_getElem]
    have e2 : (l.take k).length - 1 = k - 1 := by rw [List.length_take]; omega
    simp only [e2, List.getElem_take]
    simp [List.getD, show k - 1 < l.length by omega]
  rw [e]

/-- While the first k are put where they go. -/
structure CompIn (xs : List Arc) (k n : Nat) (ys : List Arc) : Prop where
  len : ys.length = xs.length
  kn : k + 1 ≤ n
  nl : n ≤ xs.length
  k1 : 1 ≤ k
  tk : ys.take k = comp (xs.take n)
  un : ∀ i, n - 1 ≤ i → ys.getD i aD = xs.getD i aD

theorem CompIn.start {xs : List Arc} {k : Nat} (h1 : 1 ≤ k) (h2 : k < xs.length) (hc : comp (xs.take k) = xs.take k) (hs : sameK (xs.getD k aD) (xs.getD (k - 1) aD) = true) : CompIn xs k (k + 1) xs :=
  ⟨rfl, Nat.le_refl _, h2, h1, by rw [comp_take xs k h1 h2, hs, if_pos rfl, List.append_nil, hc], fun _ _ => rfl⟩

theorem CompIn.skip {xs ys : List Arc} {k n : Nat} (h : CompIn xs k n ys) (hn : n < xs.length) (hs : sameK (xs.getD n aD) (xs.getD (n - 1) aD) = true) : CompIn xs k (n + 1) ys := by
  have := h.kn
  have := h.k1
  exact ⟨h.len, by omega, hn, h.k1, by rw [comp_take xs n (by omega) hn, hs, if_pos rfl, List.append_nil, h.tk], fun i hi => h.un i (by omega)⟩

theorem CompIn.put {xs ys : List Arc} {k n : Nat} (h : CompIn xs k n ys) (hn : n < xs.length) (hs : sameK (xs.getD n aD) (xs.getD (n - 1) aD) = false) : CompIn xs (k + 1) (n + 1) (ys.set k (xs.getD n aD)) := by
  have h1 := h.kn
  have h2 := h.k1
  have h3 := h.len
  refine ⟨by simp [h3], by omega, hn, by omega, ?_, fun i hi => ?_⟩
  · rw [comp_take xs n (by omega) hn, hs, if_neg (by simp), ← h.tk]
    rw [take_succ_getD _ k aD (by simp; omega), List.take_set_of_le (Nat.le_refl _)]
    congr 1
    simp [List.getD, show k < ys.length by omega]
  · rw [getD_set', if_neg (by omega)]
    exact h.un i (by omega)

theorem CompIn.done {xs ys : List Arc} {k : Nat} (h : CompIn xs k xs.length ys) : (comp xs).length = k ∧ ys = comp xs ++ ys.drop k := by
  have h1 := h.kn
  have h3 := h.len
  have e := h.tk
  rw [List.take_length] at e
  rw [← e, List.length_take]
  exact ⟨by omega, (List.take_append_drop k ys).symm⟩

end Go.Fw

/-
  Arcs in order, of those that are the same the least weight: told by what it is; there is one such list.
-/
namespace Go.Fw
open Go

/-- The same key. -/
def Key (a b : Arc) : Prop := a.f = b.f ∧ a.i = b.i ∧ a.o = b.o ∧ a.t = b.t

theorem aheadB_iff {a b : Arc} : aheadB a b = true ↔ a.f < b.f ∨ a.f = b.f ∧ (a.i < b.i ∨ a.i = b.i ∧ (a.o < b.o ∨ a.o = b.o ∧ a.t < b.t)) := by
  unfold aheadB
  by_cases h1 : a.f = b.f
  · by_cases h2 : a.i = b.i
    · by_cases h3 : a.o = b.o
      · by_cases h4 : a.t = b.t
        · simp [h1, h2, h3, h4]
        · simp [h1, h2, h3, h4]
      · simp [h1, h2, h3]
    · simp [h1, h2]
  · simp [h1]

theorem Key.not_ahead {a b : Arc} (h : Key a b) : aheadB a b = false := by
  rw [← Bool.not_eq_true, aheadB_iff]
  unfold Key at h
  omega

theorem Key.symm {a b : Arc} (h : Key a b) : Key b a := ⟨h.1.symm, h.2.1.symm, h.2.2.1.symm, h.2.2.2.symm⟩
theorem Key.trans {a b c : Arc} (h : Key a b) (h' : Key b c) : Key a c := ⟨h.1.trans h'.1, h.2.1.trans h'.2.1, h.2.2.1.trans h'.2.2.1, h.2.2.2.trans h'.2.2.2⟩
theorem Key.refl (a : Arc) : Key a a := ⟨rfl, rfl, rfl, rfl⟩
theorem Key.eq {a b : Arc} (h : Key a b) (hw : a.w = b.w) : a = b := by
  obtain ⟨a1, a2, a3, a4, a5⟩ := a
  obtain ⟨b1, b2, b3, b4, b5⟩ := b
  obtain ⟨h1, h2, h3, h4⟩ := h
  simp only at *
  subst h1 h2 h3 h4 hw
  rfl
/-- zs: the arcs of xs in order, of those that are the same the one that weighs least. -/
structure IsNorm (xs zs : List Arc) : Prop where
  srt : Srt zs
  sub : ∀ z ∈ zs, z ∈ xs
  cov : ∀ x ∈ xs, ∃ z ∈ zs, Key z x ∧ z.w ≤ x.w

theorem Srt.key {l : List Arc} (h : Srt l) {a b : Arc} (ha : a ∈ l) (hb : b ∈ l) (hk : Key a b) : a = b := by
  induction l with
  | nil => cases ha
  | cons x l ih =>
    unfold Srt at h
    rw [List.pairwise_cons] at h
    rw [List.mem_cons] at ha hb
    rcases ha with ha | ha
    · rcases hb with hb | hb
      · rw [ha, hb]
      · have := h.1 b hb; rw [← ha, hk.not_ahead] at this; cases this
    · rcases hb with hb | hb
      · have := h.1 a ha; rw [← hb, hk.symm.not_ahead] at this; cases this
      · exact ih h.2 ha hb

theorem Srt.ext {l m : List Arc} (hl : Srt l) (hm : Srt m) (h : ∀ a, a ∈ l ↔ a ∈ m) : l = m := by
  induction l generalizing m with
  | nil =>
    cases m with
    | nil => rfl
    | cons y m => have := (h y).2 (by simp); cases this
  | cons x l ih =>
    cases m with
    | nil => have := (h x).1 (by simp); cases this
    | cons y m =>
      unfold Srt at hl hm
      rw [List.pairwise_cons] at hl hm
      have e : x = y := by
        rcases List.mem_cons.1 ((h x).1 (by simp)) with e | hx
        · exact e
        · rcases List.mem_cons.1 ((h y).2 (by simp)) with e | hy
          · exact e.symm
          · have h1 := hl.1 y hy
            have h2 := hm.1 x hx
            rw [aheadB_asymm h1] at h2
            cases h2
      subst e
      rw [ih hl.2 hm.2]
      intro a
      constructor
      · intro ha
        rcases List.mem_cons.1 ((h a).1 (List.mem_cons_of_mem _ ha)) with rfl | h'
        · have := hl.1 a ha; rw [aheadB_irr] at this; cases this
        · exact h'
      · intro ha
        rcases List.mem_cons.1 ((h a).2 (List.mem_cons_of_mem _ ha)) with rfl | h'
        · have := hm.1 a ha; rw [aheadB_irr] at this; cases this
        · exact h'

/-- What sorting comes to. -/
def SortIs (xs zs : List Arc) : Prop := ∃ ys : List Arc, ys.Perm xs ∧ SrtOn aD ltW 0 xs.length ys ∧ zs = comp ys

/-! ### One more, put where it goes -/
theorem IsNorm.nil : IsNorm [] [] := ⟨.nil, fun z h => (by cases h), fun x h => (by cases h)⟩

theorem Srt.at {l : List Arc} (h : Srt l) {i j : Nat} (hij : i < j) (hj : j < l.length) : aheadB (l.getD i aD) (l.getD j aD) = true := by
  have := (List.pairwise_iff_getElem.1 h) i j (by omega) hj hij
  simpa [List.getD, hj, show i < l.length by omega] using this

theorem mem_getD {l : List Arc} {z : Arc} (h : z ∈ l) : ∃ i, i < l.length ∧ l.getD i aD = z := by
  obtain ⟨i, hi, e⟩ := List.getElem_of_mem h
  exact ⟨i, hi, by simp [List.getD, hi, e]⟩

/-- It is new. -/
theorem IsNorm.put {xs out : List Arc} {x : Arc} {at_ : Nat} (h : IsNorm xs out) (h2 : at_ ≤ out.length) (hb : ∀ j, at_ ≤ j → j < out.length → aheadB x (out.getD j aD) = true) (ha : at_ = 0 ∨ aheadB (out.getD (at_ - 1) aD) x = true) :
    IsNorm (xs ++ [x]) (out.take at_ ++ [x] ++ out.drop at_) := by
  have hlow : ∀ z ∈ out.take at_, aheadB z x = true := by
    intro z hz
    obtain ⟨i, hi, e⟩ := mem_getD hz
    rw [List.length_take] at hi
    have e2 : (out.take at_).getD i aD = out.getD i aD := by
      have : i < at_ := by omega
      simp [List.getD, this]
    rw [e2] at e
    rcases ha with ha | ha
    · omega
    · by_cases c : i = at_ - 1
      · rw [← e, c]; exact ha
      · rw [← e]; exact aheadB_trans (h.srt.at (by omega) (by omega)) ha
  have hup : ∀ z ∈ out.drop at_, aheadB x z = true := by
    intro z hz
    obtain ⟨i, hi, e⟩ := mem_getD hz
    rw [List.length_drop] at hi
    have e2 : (out.drop at_).getD i aD = out.getD (at_ + i) aD := by simp [List.getD]
    rw [e2] at e
    rw [← e]
    exact hb _ (by omega) (by omega)
  have hsp : Srt (out.take at_ ++ out.drop at_) := by rw [List.take_append_drop]; exact h.srt
  unfold Srt at hsp
  rw [List.pairwise_append] at hsp
  refine ⟨?_, ?_, ?_⟩
  · unfold Srt
    rw [List.append_assoc, List.pairwise_append]
    refine ⟨hsp.1, ?_, ?_⟩
    · exact List.pairwise_cons.2 ⟨fun z hz => hup z (by simpa using hz), hsp.2.1⟩
    · intro a ha' b hb'
      rcases List.mem_append.1 hb' with hb' | hb'
      · rw [List.mem_singleton] at hb'
        rw [hb']; exact hlow a ha'
      · exact hsp.2.2 a ha' b hb'
  · intro z hz
    rcases List.mem_append.1 hz with hz | hz
    · rcases List.mem_append.1 hz with hz | hz
      · exact List.mem_append_left _ (h.sub z (List.mem_of_mem_take hz))
      · exact List.mem_append_right _ hz
    · exact List.mem_append_left _ (h.sub z (List.mem_of_mem_drop hz))
  · intro u hu
    rcases List.mem_append.1 hu with hu | hu
    · obtain ⟨z, hz, hzk⟩ := h.cov u hu
      refine ⟨z, ?_, hzk⟩
      rw [← List.take_append_drop at_ out] at hz
      rcases List.mem_append.1 hz with hz | hz
      · exact List.mem_append_left _ (List.mem_append_left _ hz)
      · exact List.mem_append_right _ hz
    · rw [List.mem_singleton] at hu
      subst hu
      exact ⟨u, List.mem_append_left _ (List.mem_append_right _ (by simp)), Key.refl u, Int.le_refl _⟩

end Go.Fw

/-
  Turned: labels swapped, or the one for the other; twice swapped it is as it was.
-/
namespace Go.Fw
open Go

def invA (a : Arc) : Arc := ⟨a.f, a.o, a.i, a.t, a.w⟩
def prjA (side : Int) (a : Arc) : Arc := if side = 1 then ⟨a.f, a.i, a.i, a.t, a.w⟩ else ⟨a.f, a.o, a.o, a.t, a.w⟩
/-- Turned as R's TurnedOf does. -/
def turnA (side : Int) (a : Arc) : Arc := if side = 0 then invA a else if side = 1 then ⟨a.f, a.i, a.i, a.t, a.w⟩ else if side = 2 then ⟨a.f, a.o, a.o, a.t, a.w⟩ else a

theorem Srt.nodup {l : List Arc} (h : Srt l) : l.Nodup := by
  unfold Srt at h
  exact h.imp fun {a b} hab e => by rw [e, aheadB_irr] at hab; cases hab

theorem nodup_len {α : Type} [DecidableEq α] : ∀ (l m : List α), l.Nodup → (∀ a ∈ l, a ∈ m) → l.length ≤ m.length
  | [], m, _, _ => Nat.zero_le _
  | a :: l, m, hn, h => by
    rw [List.nodup_cons] at hn
    have ha := h a (by simp)
    have := nodup_len l (m.erase a) hn.2 (fun b hb => (List.mem_erase_of_ne (by rintro rfl; exact hn.1 hb)).2 (h b (List.mem_cons_of_mem _ hb)))
    rw [List.length_erase_of_mem ha] at this
    have : 0 < m.length := List.length_pos_of_mem ha
    simp only [List.length_cons]
    omega

theorem IsNorm.len {xs zs : List Arc} (h : IsNorm xs zs) : zs.length ≤ xs.length := nodup_len zs xs h.srt.nodup h.sub

end Go.Fw

/-
  Joined: either of two, one behind the other, again and again: the ways of what is joined.
-/
namespace Go.Fw
open Go

def shA (k : Int) (a : Arc) : Arc := ⟨a.f + k, a.i, a.o, a.t + k, a.w⟩
def silA (f t w : Int) : Arc := ⟨f, 0, 0, t, w⟩
/-- Silent arcs from the ends to a state. -/
def endsL (far to : Int) (fin : List Int) : Nat → List Arc
  | 0 => []
  | k + 1 => endsL far to fin k ++ (if fin.getD k 0 = -1 then [] else [silA (far + k) to (fin.getD k 0)])

/-- Normal: the ways are the same, but for what weighs more. -/
theorem IsNorm.way {xs zs : List Arc} (h : IsNorm xs zs) {s t : Int} {u v : List Int} {c : Int} (hw : Way xs s u v t c) : ∃ d, d ≤ c ∧ Way zs s u v t d := by
  induction hw with
  | nil s => exact ⟨0, Int.le_refl _, .nil s⟩
  | @cons a u v t c ha h2 ih =>
    obtain ⟨d, hd, hw⟩ := ih
    obtain ⟨z, hz, ⟨k1, k2, k3, k4⟩, hwz⟩ := h.cov a ha
    refine ⟨z.w + d, by omega, ?_⟩
    rw [← k1, ← k2, ← k3]
    rw [← k4] at hw
    exact .cons hz hw

/-- Costs of words over raw arcs. -/
def WtL (L : List Arc) (start : Int) (fin : List Int) (u v : List Int) (c : Int) : Prop := ∃ t d, Way L start u v t d ∧ fin.getD t.toNat 0 ≠ -1 ∧ c = d + fin.getD t.toNat 0

theorem IsNorm.min {xs : List Arc} {X : TF} (h : IsNorm xs X.arcs) {u v : List Int} {n : Int} (hn : MinOf (Wt X u v) n) : MinOf (WtL xs X.start X.fin u v) n := by
  have hup : ∀ c, WtL xs X.start X.fin u v c → ∃ d, d ≤ c ∧ Wt X u v d := by
    rintro c ⟨t, d, h1, h2, rfl⟩
    obtain ⟨e, he, hw⟩ := h.way h1
    exact ⟨e + X.fin.getD t.toNat 0, by omega, t, e, hw, h2, rfl⟩
  have hdn : ∀ c, Wt X u v c → WtL xs X.start X.fin u v c := by
    rintro c ⟨t, d, h1, h2, rfl⟩
    exact ⟨t, d, h1.mono h.sub, h2, rfl⟩
  rcases hn with ⟨rfl, h1⟩ | ⟨h0, h1, h2⟩
  · refine .inl ⟨rfl, fun c hc => ?_⟩
    obtain ⟨d, _, hd⟩ := hup c hc
    exact h1 d hd
  · refine .inr ⟨h0, hdn n h1, fun c hc => ?_⟩
    obtain ⟨d, hd, hw⟩ := hup c hc
    have := h2 d hw
    omega

theorem MinOf.cong {P Q : Int → Prop} {n : Int} (h : MinOf P n) (hpq : ∀ c, P c ↔ Q c) : MinOf Q n := by
  rcases h with ⟨rfl, h1⟩ | ⟨h0, h1, h2⟩
  · exact .inl ⟨rfl, fun c hc => h1 c ((hpq c).2 hc)⟩
  · exact .inr ⟨h0, (hpq n).1 h1, fun c hc => h2 c ((hpq c).2 hc)⟩

/-- One and then the other. -/
theorem MinOf.add {P Q : Int → Prop} {m n : Int} (hm : MinOf P m) (hn : MinOf Q n) : MinOf (fun c => ∃ a b, P a ∧ Q b ∧ c = a + b) (plus m n) := by
  unfold plus
  rcases hm with ⟨rfl, h1⟩ | ⟨h0, h1, h2⟩
  · rw [if_pos (.inl (by omega))]
    exact .inl ⟨rfl, fun c ⟨a, b, ha, _⟩ => h1 a ha⟩
  · rcases hn with ⟨rfl, g1⟩ | ⟨g0, g1, g2⟩
    · rw [if_pos (.inr (by omega))]
      exact .inl ⟨rfl, fun c ⟨a, b, _, hb, _⟩ => g1 b hb⟩
    · rw [if_neg (by omega)]
      refine .inr ⟨by omega, ⟨m, n, h1, g1, rfl⟩, ?_⟩
      rintro c ⟨a, b, ha, hb, rfl⟩
      have := h2 a ha
      have := g2 b hb
      omega

/-! ### Either -/
def eitherL (F G : TF) : List Arc := F.arcs.map (shA 1) ++ [silA 0 (1 + F.start) 0] ++ G.arcs.map (shA (1 + F.st)) ++ [silA 0 (1 + F.st + G.start) 0]

end Go.Fw

/-
  One behind the other, again and again: the ways of what is joined.
-/
namespace Go.Fw
open Go

def behindL (F G : TF) : List Arc := F.arcs.map (shA 1) ++ G.arcs.map (shA (1 + F.st)) ++ [silA 0 (1 + F.start) 0] ++ endsL 1 (1 + F.st + G.start) F.fin F.fin.length
def againL (F : TF) : List Arc := F.arcs.map (shA 1) ++ [silA 0 (1 + F.start) 0] ++ endsL 1 0 F.fin F.fin.length

/-- Two words cut in two: the first part by the one, the rest by the other. -/
def Cut2 (P Q : List Int → List Int → Int → Prop) (u v : List Int) (c : Int) : Prop := ∃ u1 u2 v1 v2 c1 c2, u = u1 ++ u2 ∧ v = v1 ++ v2 ∧ P u1 v1 c1 ∧ Q u2 v2 c2 ∧ c = c1 + c2

/-! ### Again -/
inductive Star (P : List Int → List Int → Int → Prop) : List Int → List Int → Int → Prop
  | nil : Star P [] [] 0
  | cons {u1 v1 u2 v2 : List Int} {c1 c2 : Int} (h1 : P u1 v1 c1) (h2 : Star P u2 v2 c2) : Star P (u1 ++ u2) (v1 ++ v2) (c1 + c2)

end Go.Fw

/-
  What is joined is a transducer again.
-/
namespace Go.Fw
open Go

/-! ### One arc -/
end Go.Fw
