/- Walks of the functions: what each computes. -/
import Derived.Test.YtiejplibehppnaaR10

set_option linter.unusedSimpArgs false
set_option linter.unusedVariables false

namespace Go.Fw
open Go Go.Proofs

/-- Back along the arcs. -/
def chain (D : Trip → Option Fnd) : Nat → Trip → List Int
  | 0, _ => []
  | n + 1, y => match D y with
    | none => []
    | some c => if 0 ≤ c.arc then c.arc :: chain D n ⟨c.s, c.i, c.o⟩ else []

theorem chain_stop {D : Trip → Option Fnd} {y : Trip} {c : Fnd} (h : D y = some c) (ha : ¬ c.arc ≥ 0) (n : Nat) : chain D n y = [] := by
  cases n with
  | zero => rfl
  | succ n => simp only [chain, h]; exact if_neg ha

theorem chain_on {D : Trip → Option Fnd} {y : Trip} {c : Fnd} (h : D y = some c) (ha : c.arc ≥ 0) (n : Nat) : chain D (n + 1) y = c.arc :: chain D n ⟨c.s, c.i, c.o⟩ := by
  simp only [chain, h]; exact if_pos ha

theorem endF_D {D : Trip → Option Int} {fin : List Int} {p q : Int} : ∀ k, (endF D fin p q k).2 ≠ -1 → ∃ d, D (endF D fin p q k).1 = some d
  | 0, h => absurd rfl h
  | k + 1, h => by
    cases hd : D ⟨k, p, q⟩ with
    | none => rw [endF_none hd] at h ⊢; exact endF_D k h
    | some d =>
      by_cases c : fin.getD k 0 ≠ -1 ∧ ((endF D fin p q k).2 = -1 ∨ d + fin.getD k 0 < (endF D fin p q k).2)
      · rw [endF_yes hd c.1 c.2]; exact ⟨d, hd⟩
      · have e : endF D fin p q (k + 1) = endF D fin p q k := by simp only [endF, hd]; exact if_neg c
        rw [e] at h ⊢
        exact endF_D k h

/-- What Walk tells. -/
def WalkIs (F : TF) (u v : List Int) (E : Trip × Int) (l : List Int) : Prop :=
  ∃ D ord rk B n, Dj F u v D ord rk B (fun _ _ => True) ∧ (∀ y d, D y = some d → d.dn = true) ∧ E = endF (fun y => (D y).map (·.cost)) F.fin u.length v.length F.fin.length ∧ rk E.1 < n ∧ l.reverse = chain D n E.1

set_option maxHeartbeats 8000000 in
set_option maxRecDepth 20000 in
theorem walkP_c (F : TF) (u v : List Int) (cu cv : Nat) (hl : F.fin.length ≤ 9223372036854775807) (hsc : scoreE F u v = 0) :
    Ct Try.prog 56 [fV F, .c (.sl 2 1 0 u.length cu), .c (.sl 3 1 0 v.length cv)] [] (hpQ F u v) 4 (fun x s =>
      (∃ A, IsLeast F u v (fromSt F) A ∧ (endF A F.fin u.length v.length F.fin.length).2 = -1 ∧ x = .tup [.c (.v (.slice none 0 0)), .c (.i (-1)), .c (.i 0)] ∧ s = ⟨[], [], 4⟩) ∨
      ∃ E l sp, WalkIs F u v E l ∧ E.2 ≠ -1 ∧ x = .tup [.c (.sl 4 1 0 l.length (l.length + sp)), .c (.i E.2), .c (.i 0)] ∧ s = ⟨[], [(4, .arr true 3 .int l sp)], 5⟩) := by
  refine ctW Try.tyOk 15 [] Try.func56 rfl (by simp [SV.lt, SA.lt, SC.lt, arcV, fV]) (by simp) (fr := [(0, fV F), (1, .c (.sl 2 1 0 u.length cu)), (2, .c (.sl 3 1 0 v.length cv))]) rfl ?_
  repeat' (first | exact rfl | ((conv => whnf); first | ((first | refine qA (fun h => ?_) fun h => ?_ | refine qN (fun h => ?_) fun h => ?_ | refine qB (fun h => ?_) fun h => ?_ | refine qC (fun h => ?_) fun h => ?_) <;> try exact absurd h (by omega)) | refine qM (fun h => ?_) fun h => ?_ | refine oM (by (first | omega | (simp only [lenS, InI, nmin, EK.sz]; omega) | (simp only [lenS, InI, nmin, EK.sz] at *; omega))) ?_ | refine oM ?_ ?_ | refine bM ?_ ?_ | refine draw_of Try.mixed Try.tyOk 60 (by kernel_rfl) ?_))
  (conv => whnf)
  refine callF (walk_ok F u v cu cv hl hsc) [0, 1, 2, 3] Try.call51 rfl (by simp [eqLs, eqL, eqO, eqC, eqCs, rn, renOf, look_cons, look, EK.cast]) (by simp [appN, ptrs, eqVL, eqV, eqA, eqC, eqCs, eqAs, eqCaps, EK.sz, rn, renOf, look_cons, look, arcV, fV]) (by simp [appN, ptrs, SV.lt, SA.lt, SC.lt, arcV, fV, lenN]) ?_
  rintro _ _ ⟨rows, pi, es, clk, pf, ⟨hm, ord, rk, B, hol, hD, hB, hall⟩, rfl, rfl⟩
  have hL := hD.least hall
  have hed := endF_D (D := costOf es pf) (fin := F.fin) (p := u.length) (q := v.length) F.fin.length
  generalize hE : endF (costOf es pf) F.fin u.length v.length F.fin.length = E at *
  obtain ⟨⟨E1, E2, E3⟩, Ec⟩ := E
  simp only at hed ⊢
  repeat' (first | exact rfl | ((conv => whnf); first | ((first | refine qA (fun h => ?_) fun h => ?_ | refine qN (fun h => ?_) fun h => ?_ | refine qB (fun h => ?_) fun h => ?_ | refine qC (fun h => ?_) fun h => ?_) <;> try exact absurd h (by omega)) | refine qM (fun h => ?_) fun h => ?_ | refine oM (by (first | omega | (simp only [lenS, InI, nmin, EK.sz]; omega) | (simp only [lenS, InI, nmin, EK.sz] at *; omega))) ?_ | refine oM ?_ ?_ | refine bM ?_ ?_ | refine draw_of Try.mixed Try.tyOk 60 (by kernel_rfl) ?_))
  · (conv => whnf)
    refine ⟨[], [], 4, .tup [.c (.v (.slice none 0 0)), .c (.i (-1)), .c (.i 0)], ⟨by rfl, trivial, trivial⟩, by simp [eqV, eqA, eqAs, eqC, eqCs, h], .inl ⟨costOf es pf, hL, ?_, rfl, rfl⟩⟩
    rw [hE]
    exact h
  obtain ⟨d0, hd0⟩ := hed h
  obtain ⟨d, hd, -⟩ := Option.map_eq_some_iff.1 hd0
  obtain ⟨a, nn, r1, r2, r3, r4⟩ := hm.of hd
  have e1 : (@lkM EK.trip.ty EK.adr.ty (EK.instDeq .trip) es (⟨E1, E2, E3⟩ : Trip)).getD EK.adr.dflt = some a := congrArg (fun x => Option.getD x none) r3
  have hmem : ∀ y d, metOf es pf y = some d → y ∈ ord := fun y d hy => (hD.dn y d hy).1 (hall y d hy)
  repeat' (first | exact rfl | ((conv => whnf); first | ((first | refine qA (fun h => ?_) fun h => ?_ | refine qN (fun h => ?_) fun h => ?_ | refine qB (fun h => ?_) fun h => ?_ | refine qC (fun h => ?_) fun h => ?_) <;> try exact absurd h (by omega)) | refine qM (fun h => ?_) fun h => ?_ | refine oM (by (first | omega | (simp only [lenS, InI, nmin, EK.sz]; omega) | (simp only [lenS, InI, nmin, EK.sz] at *; omega))) ?_ | refine oM ?_ ?_ | refine bM ?_ ?_ | refine draw_of Try.mixed Try.tyOk 60 (by kernel_rfl) ?_))
  (conv => whnf)
  rw [e1]
  refine loopI (fun y : List Int × Nat × Addr × Trip × Nat => ⟨[(6, .c (.v (.slice none 0 0))), (7, .i 0), (8, .i 0), (9, .c (.ptr 5 0)), (10, .c (.ptr 10 0)), (11, .i Ec), (12, .i 0), (13, .c (.sl 11 1 0 y.1.length (y.1.length + y.2.1))), (14, .c (.q (some y.2.2.1)))],
    (4, .box 25 (fCells F)) :: (5, .box 115 [.i F.st, .i F.start, .sl 0 1 0 F.fin.length F.capF, .sl 1 5 0 F.arcs.length F.capA, .sl 2 1 0 u.length cu, .sl 3 1 0 v.length cv, .sl 6 1 0 rows.length rows.length, .mp 9]) :: (8, .pool 120 .fnd pf) :: (9, .map .trip .adr es clk) :: (10, .box 69 [.i E1, .i E2, .i E3]) :: (11, .arr true 3 .int y.1 y.2.1) :: hpQ F u v, 12⟩)
    (fun y => (∃ c, metOf es pf y.2.2.2.1 = some c ∧ rowA pf (some y.2.2.1) = [c]) ∧ rk y.2.2.2.1 < y.2.2.2.2 ∧ y.1 ++ chain (metOf es pf) y.2.2.2.2 y.2.2.2.1 = chain (metOf es pf) (rk ⟨E1, E2, E3⟩ + 1) ⟨E1, E2, E3⟩ ∧ y.1.length + y.2.2.2.2 ≤ 336200) (fun y => y.2.2.2.2) ([], 0, a, ⟨E1, E2, E3⟩, rk ⟨E1, E2, E3⟩ + 1) [(11, none)] ⟨by rfl, ?_, ?_⟩ ⟨⟨d, hd, r4⟩, Nat.lt_succ_self _, rfl, ?_⟩ ?_
  · simp [eqFr, eqHp, eqV, eqA, eqC, eqO, eqCs, eqAs, look_cons, look, rn, EK.cast, EK.sz, eqCaps]
  · simp [eqFr, eqHp, eqV, eqA, eqC, eqO, eqCs, eqAs, look_cons, look, rn, EK.cast, EK.sz, eqCaps, fCells, nilO]
  · have := hD.rkl _ (hmem _ _ hd)
    simp only [List.length_nil]
    omega
  · rintro ⟨l, sp, b, y, fu⟩ ⟨⟨c, hc, hrow⟩, hfu, hch, hlen⟩
    simp only at hc hrow hfu hch hlen ⊢
    have hcl : 0 < (rowA pf (some b)).length := by rw [hrow]; exact Nat.one_pos
    have ec : (rowA pf (some b)).getD 0 EK.fnd.dflt = c := by rw [hrow]; rfl
    have hby := hD.by' y c hc
    repeat' (first | exact rfl | ((conv => whnf); first | ((first | refine qA (fun h => ?_) fun h => ?_ | refine qN (fun h => ?_) fun h => ?_ | refine qB (fun h => ?_) fun h => ?_ | refine qC (fun h => ?_) fun h => ?_) <;> try exact absurd h (by omega)) | refine qM (fun h => ?_) fun h => ?_ | refine oM (by (first | omega | (simp only [lenS, InI, nmin, EK.sz]; omega) | (simp only [lenS, InI, nmin, EK.sz] at *; omega))) ?_ | refine oM ?_ ?_ | refine bM ?_ ?_ | refine draw_of Try.mixed Try.tyOk 60 (by kernel_rfl) ?_))
    · intro sp2
      repeat' (first | exact rfl | ((conv => whnf); first | ((first | refine qA (fun h => ?_) fun h => ?_ | refine qN (fun h => ?_) fun h => ?_ | refine qB (fun h => ?_) fun h => ?_ | refine qC (fun h => ?_) fun h => ?_) <;> try exact absurd h (by omega)) | refine qM (fun h => ?_) fun h => ?_ | refine oM (by (first | omega | (simp only [lenS, InI, nmin, EK.sz]; omega) | (simp only [lenS, InI, nmin, EK.sz] at *; omega))) ?_ | refine oM ?_ ?_ | refine bM ?_ ?_ | refine draw_of Try.mixed Try.tyOk 60 (by kernel_rfl) ?_))
      rw [ec] at h
      obtain ⟨n, z, cz, w, g1, g2, g3, g4, g5, g6, g7, g8, g9⟩ : ∃ (n : Nat) (z : Trip) (cz : Fnd) (w : Int), c.arc = (n : Int) ∧ c.s = z.a ∧ c.i = z.b ∧ c.o = z.c ∧ z ∈ ord ∧ metOf es pf z = some cz ∧ Edge F u v z n y w ∧ c.cost = cz.cost + w ∧ (y ∈ ord → rk z < rk y) := by
        rcases hby with ⟨_, _, q⟩ | q
        · omega
        · exact q
      have hz : z = ⟨c.s, c.i, c.o⟩ := by rw [g2, g3, g4]
      subst hz
      obtain ⟨b', nb, s1, s2, s3, s4⟩ := hm.of g6
      have e2 : (@lkM EK.trip.ty EK.adr.ty (EK.instDeq .trip) es (⟨c.s, c.i, c.o⟩ : Trip)).getD EK.adr.dflt = some b' := congrArg (fun x => Option.getD x none) s3
      have hrk := g9 (hmem y c hc)
      obtain ⟨fu', rfl⟩ : ∃ fu', fu = fu' + 1 := ⟨fu - 1, by omega⟩
      rw [chain_on hc h] at hch
      (conv => whnf)
      rw [ec, e2]
      refine ⟨(l ++ [c.arc], sp2, b', ⟨c.s, c.i, c.o⟩, fu'), [(11, some 13)], ⟨by rfl, ?_, ?_⟩, ⟨⟨cz, g6, s4⟩, by simp only; omega, by simpa using hch, by simp only [List.length_append, List.length_cons, List.length_nil]; omega⟩, by simp only; omega⟩
      · simp [eqFr, eqHp, eqV, eqA, eqC, eqO, eqCs, eqAs, look_cons, look, rn, EK.cast, EK.sz, eqCaps]
      · simp [eqFr, eqHp, eqV, eqA, eqC, eqO, eqCs, eqAs, look_cons, look, rn, EK.cast, EK.sz, eqCaps, fCells]
        exact (app_one l _ _ rfl).symm
    · rw [ec] at h
      rw [chain_stop hc h, List.append_nil] at hch
      (conv => whnf)
      refine callF (reverse_c l (l.length + sp) sp (by omega)) [11] Try.call69 rfl (by simp [eqLs, eqL, eqO, eqC, eqCs, rn, renOf, look_cons, look, EK.cast]) (by simp [appN, ptrs, eqVL, eqV, eqA, eqC, eqCs, eqAs, eqCaps, EK.sz, rn, renOf, look_cons, look, arcV, fV]) (by simp [appN, ptrs, SV.lt, SA.lt, SC.lt, arcV, fV, lenN]) ?_
      rintro _ _ ⟨rfl, rfl⟩
      repeat' (first | exact rfl | ((conv => whnf); first | ((first | refine qA (fun h => ?_) fun h => ?_ | refine qN (fun h => ?_) fun h => ?_ | refine qB (fun h => ?_) fun h => ?_ | refine qC (fun h => ?_) fun h => ?_) <;> try exact absurd h (by omega)) | refine qM (fun h => ?_) fun h => ?_ | refine oM (by (first | omega | (simp only [lenS, InI, nmin, EK.sz]; omega) | (simp only [lenS, InI, nmin, EK.sz] at *; omega))) ?_ | refine oM ?_ ?_ | refine bM ?_ ?_ | refine draw_of Try.mixed Try.tyOk 60 (by kernel_rfl) ?_))
      (conv => whnf)
      refine ⟨[(4, some 11)], [(4, .arr true 3 .int l.reverse sp)], 5, .tup [.c (.sl 4 1 0 l.reverse.length (l.reverse.length + sp)), .c (.i Ec), .c (.i 0)], ⟨by rfl, trivial, by simp [eqFr, eqHp, eqV, eqA, eqC, eqO, eqCs, eqAs, look_cons, look, rn, EK.cast, EK.sz, eqCaps]⟩, by simp [eqV, eqA, eqAs, eqC, eqCs, rn, look, look_cons, EK.sz], .inr ⟨(⟨E1, E2, E3⟩, Ec), l.reverse, sp, ⟨metOf es pf, ord, rk, B, rk ⟨E1, E2, E3⟩ + 1, hD, hall, hE.symm, Nat.lt_succ_self _, ?_⟩, by assumption, rfl, rfl⟩⟩
      rw [List.reverse_reverse]
      exact hch

end Go.Fw

/-
  The table of costs, cell by cell.
-/
namespace Go.Fw
open Go

/-- What begins. -/
def srcS (F : TF) (first : List Int) : Trip → Int → Prop := fun x c => x.b = 0 ∧ x.c = 0 ∧ (0 ≤ x.a ∧ x.a < F.st) ∧ first.getD x.a.toNat 0 = c ∧ 0 ≤ c

theorem less_spec (p q : Int) : (0 ≤ p → 0 ≤ less p q ∧ less p q ≤ p) ∧ (0 ≤ q → 0 ≤ less p q ∧ less p q ≤ q) ∧ (less p q = p ∨ less p q = q) := by
  unfold less
  by_cases h1 : p < 0
  · rw [if_pos h1]; refine ⟨fun h => by omega, fun h => by omega, .inr rfl⟩
  · rw [if_neg h1]
    by_cases h2 : q < 0 ∨ p < q
    · rw [if_pos h2]; refine ⟨fun h => by omega, fun h => by omega, .inl rfl⟩
    · rw [if_neg h2]; refine ⟨fun h => by omega, fun h => by omega, .inr rfl⟩

theorem plus_spec (p q : Int) (hq : 0 ≤ q) : (0 ≤ p → plus p q = p + q) ∧ (p < 0 → plus p q = -1) := by
  unfold plus
  refine ⟨fun h => if_neg (by omega), fun h => if_pos (by omega)⟩

section
variable {F : TF} {u v : List Int} {S : Trip → Int → Prop}

theorem Reach.box (hF : FOk F) (hS : ∀ x c, S x c → InBox F u v x ∧ 0 ≤ c) {c : Int} {x : Trip} (h : Reach F u v S c x) : InBox F u v x ∧ 0 ≤ c := by
  induction h with
  | here h => exact hS _ _ h
  | on h he ih => exact ⟨he.box hF ih.1, by have := (he.wt hF).1; omega⟩

/-- A cell is right. -/
structure CellOk (F : TF) (u v : List Int) (S : Trip → Int → Prop) (B i o : Int) (l : List Int) : Prop where
  len : l.length = F.st.toNat
  bd : ∀ x ∈ l, -1 ≤ x ∧ x ≤ B
  snd : ∀ n : Nat, n < F.st.toNat → 0 ≤ l.getD n 0 → Reach F u v S (l.getD n 0) ⟨n, i, o⟩
  cpl : ∀ (n : Nat) c, Reach F u v S c ⟨n, i, o⟩ → 0 ≤ l.getD n 0 ∧ l.getD n 0 ≤ c

/-- A cell on its way. -/
structure CInv (F : TF) (u v : List Int) (S : Trip → Int → Prop) (i o : Int) (k : Nat) (l : List Int) : Prop where
  len : l.length = F.st.toNat
  snd : ∀ n : Nat, n < F.st.toNat → 0 ≤ l.getD n 0 → Reach F u v S (l.getD n 0) ⟨n, i, o⟩
  src : ∀ (n : Nat) c, S ⟨n, i, o⟩ c → 0 ≤ l.getD n 0 ∧ l.getD n 0 ≤ c
  psh : ∀ (j : Nat) a, j < k → F.arcs[j]? = some a → a.i + a.o ≠ 0 → ∀ x (n : Nat) w, Edge F u v x j ⟨n, i, o⟩ w → ∀ c, Reach F u v S c x → 0 ≤ l.getD n 0 ∧ l.getD n 0 ≤ c + w

theorem getD_setC (l : List Int) (t : Nat) (m : Int) (n : Nat) (ht : t < l.length) : (l.set t m).getD n 0 = if n = t then m else l.getD n 0 := by
  simp only [List.getD, List.getElem?_set]
  by_cases h : t = n
  · subst h; simp [ht]
  · simp [h, Ne.symm h]

/-- A state's cost made less. -/
theorem CInv.relax {i o : Int} {k : Nat} {l : List Int} (h : CInv F u v S i o k l) {t : Nat} (ht : t < F.st.toNat) {m : Int} (h1 : 0 ≤ l.getD t 0 → 0 ≤ m ∧ m ≤ l.getD t 0) (h2 : 0 ≤ m → Reach F u v S m ⟨t, i, o⟩) : CInv F u v S i o k (l.set t m) := by
  have htl : t < l.length := by rw [h.len]; exact ht
  have low : ∀ n : Nat, 0 ≤ l.getD n 0 → 0 ≤ (l.set t m).getD n 0 ∧ (l.set t m).getD n 0 ≤ l.getD n 0 := by
    intro n hn
    rw [getD_setC l t m n htl]
    by_cases e : n = t
    · rw [if_pos e]; subst e; exact h1 hn
    · rw [if_neg e]; omega
  refine ⟨by rw [List.length_set]; exact h.len, ?_, ?_, ?_⟩
  · intro n hn hp
    rw [getD_setC l t m n htl] at hp ⊢
    by_cases e : n = t
    · rw [if_pos e] at hp ⊢; subst e; exact h2 hp
    · rw [if_neg e] at hp ⊢; exact h.snd n hn hp
  · intro n c hs
    have g := h.src n c hs
    have := low n g.1
    omega
  · intro j a hj ha hs x n w he c hr
    have g := h.psh j a hj ha hs x n w he c hr
    have := low n g.1
    omega

theorem CInv.next {i o : Int} {k : Nat} {l : List Int} (h : CInv F u v S i o k l) (hk : ∀ a, F.arcs[k]? = some a → a.i + a.o ≠ 0 → ∀ x (n : Nat) w, Edge F u v x k ⟨n, i, o⟩ w → ∀ c, Reach F u v S c x → 0 ≤ l.getD n 0 ∧ l.getD n 0 ≤ c + w) : CInv F u v S i o (k + 1) l := by
  refine ⟨h.len, h.snd, h.src, fun j a hj ha hs x n w he c hr => ?_⟩
  by_cases e : j = k
  · subst e; exact hk a ha hs x n w he c hr
  · exact h.psh j a (by omega) ha hs x n w he c hr

/-- Where an arc that comes here comes from. -/
theorem Edge.back {x : Trip} {j : Nat} {n : Nat} {i o w : Int} {a : Arc} (ha : F.arcs[j]? = some a) (hi : 0 ≤ a.i) (ho : 0 ≤ a.o) (h : Edge F u v x j ⟨n, i, o⟩ w) :
    x = ⟨a.f, if 0 < a.i then i - 1 else i, if 0 < a.o then o - 1 else o⟩ ∧ (n : Int) = a.t ∧ w = a.w ∧ (0 < a.i → x.b < u.length ∧ u.getD x.b.toNat 0 = a.i) ∧ (0 < a.o → x.c < v.length ∧ v.getD x.c.toNat 0 = a.o) := by
  obtain ⟨b, h1, h2, h3, h4, h5, h6⟩ := h
  rw [ha] at h1
  cases h1
  obtain ⟨x1, x2, x3⟩ := x
  simp only at *
  simp only [Trip.mk.injEq] at h5
  obtain ⟨g1, g2, g3⟩ := h5
  unfold fitE at h3 h4 g2 g3
  have ei : (x2 = if 0 < a.i then i - 1 else i) ∧ (0 < a.i → x2 < u.length ∧ u.getD x2.toNat 0 = a.i) := by
    by_cases e : a.i = 0
    · rw [if_pos e] at g2
      simp only at g2
      rw [if_neg (by omega)]
      exact ⟨g2.symm, fun h => by omega⟩
    · rw [if_neg e] at g2 h3
      simp only [decide_eq_true_eq] at g2 h3
      rw [if_pos (by omega)]
      exact ⟨by omega, fun _ => h3⟩
  have eo : (x3 = if 0 < a.o then o - 1 else o) ∧ (0 < a.o → x3 < v.length ∧ v.getD x3.toNat 0 = a.o) := by
    by_cases e : a.o = 0
    · rw [if_pos e] at g3
      simp only at g3
      rw [if_neg (by omega)]
      exact ⟨g3.symm, fun h => by omega⟩
    · rw [if_neg e] at g3 h4
      simp only [decide_eq_true_eq] at g3 h4
      rw [if_pos (by omega)]
      exact ⟨by omega, fun _ => h4⟩
  refine ⟨?_, g1, h6, ei.2, eo.2⟩
  rw [← h2, ← ei.1, ← eo.1]

theorem Edge.make {j : Nat} {i o : Int} {a : Arc} (ha : F.arcs[j]? = some a) (hi : 0 ≤ a.i) (ho : 0 ≤ a.o) (h1 : 0 < a.i → i - 1 < u.length ∧ u.getD (i - 1).toNat 0 = a.i) (h2 : 0 < a.o → o - 1 < v.length ∧ v.getD (o - 1).toNat 0 = a.o) :
    Edge F u v ⟨a.f, if 0 < a.i then i - 1 else i, if 0 < a.o then o - 1 else o⟩ j ⟨a.t, i, o⟩ a.w := by
  refine ⟨a, ha, rfl, ?_, ?_, ?_, rfl⟩
  · show (fitE u (if 0 < a.i then i - 1 else i) a.i).2 = true
    unfold fitE
    by_cases e : a.i = 0
    · rw [if_pos e]
    · rw [if_neg e, if_pos (by omega)]
      simp only [decide_eq_true_eq]
      exact h1 (by omega)
  · show (fitE v (if 0 < a.o then o - 1 else o) a.o).2 = true
    unfold fitE
    by_cases e : a.o = 0
    · rw [if_pos e]
    · rw [if_neg e, if_pos (by omega)]
      simp only [decide_eq_true_eq]
      exact h2 (by omega)
  · show (⟨a.t, i, o⟩ : Trip) = ⟨a.t, (fitE u (if 0 < a.i then i - 1 else i) a.i).1, (fitE v (if 0 < a.o then o - 1 else o) a.o).1⟩
    have e1 : (fitE u (if 0 < a.i then i - 1 else i) a.i).1 = i := by
      unfold fitE
      by_cases e : a.i = 0
      · rw [if_pos e]; exact if_neg (by omega)
      · rw [if_neg e, if_pos (by omega)]; show i - 1 + 1 = i; omega
    have e2 : (fitE v (if 0 < a.o then o - 1 else o) a.o).1 = o := by
      unfold fitE
      by_cases e : a.o = 0
      · rw [if_pos e]; exact if_neg (by omega)
      · rw [if_neg e, if_pos (by omega)]; show o - 1 + 1 = o; omega
    rw [e1, e2]

/-- Nothing more to be made less by silent arcs. -/
def Still (F : TF) (k : Nat) (l : List Int) : Prop := ∀ (j : Nat) a, j < k → F.arcs[j]? = some a → a.i + a.o = 0 → less (l.getD a.t.toNat 0) (plus (l.getD a.f.toNat 0) a.w) = l.getD a.t.toNat 0

theorem CInv.done (hF : FOk F) {i o B : Int} {l : List Int} (h : CInv F u v S i o F.arcs.length l) (hs : Still F F.arcs.length l) (hbd : ∀ x ∈ l, -1 ≤ x ∧ x ≤ B) : CellOk F u v S B i o l := by
  refine ⟨h.len, hbd, h.snd, ?_⟩
  have key : ∀ c y, Reach F u v S c y → ∀ n : Nat, y = ⟨n, i, o⟩ → 0 ≤ l.getD n 0 ∧ l.getD n 0 ≤ c := by
    intro c y hr
    induction hr with
    | here hs' => rintro n rfl; exact h.src n _ hs'
    | @on x y c w j hr he ih =>
      rintro n rfl
      obtain ⟨a, ha, haf, _⟩ := id he
      have hao := hF.arc a (List.mem_of_getElem? ha)
      have hj := (List.getElem?_eq_some_iff.1 ha).1
      have hi0 := hao.i0.1
      have ho0 := hao.o0.1
      by_cases hsil : a.i + a.o = 0
      · obtain ⟨g1, g2, g3, _, _⟩ := he.back ha hi0 ho0
        rw [if_neg (by omega), if_neg (by omega)] at g1
        have hf0 := hao.f0
        have := ih a.f.toNat (by rw [g1, Int.toNat_of_nonneg hf0])
        have hst := hs j a hj ha hsil
        have hn : a.t.toNat = n := by omega
        rw [hn] at hst
        have hp := (plus_spec (l.getD a.f.toNat 0) a.w hao.w0).1 this.1
        rw [hp] at hst
        have hl := (less_spec (l.getD n 0) (l.getD a.f.toNat 0 + a.w)).2.1 (by have := hao.w0; omega)
        rw [hst] at hl
        omega
      · exact h.psh j a hj ha hsil x n w he c hr
  exact fun n c hr => key c _ hr n rfl

/-- How many are told. -/
def told (l : List Int) : Nat := (l.filter fun x => decide (0 ≤ x)).length

theorem told_set : ∀ (l : List Int) (t : Nat) (m : Int), t < l.length → 0 ≤ m → told (l.set t m) = told l + if l.getD t 0 < 0 then 1 else 0
  | [], t, m, h, _ => by simp at h
  | x :: l, 0, m, _, hm => by
    by_cases hx : x < 0
    · simp [told, hm, hx, show ¬ 0 ≤ x by omega]
    · simp [told, hm, hx, show 0 ≤ x by omega]
  | x :: l, t + 1, m, h, hm => by
    have ih := told_set l t m (by simpa using h) hm
    unfold told at ih ⊢
    by_cases hx : 0 ≤ x
    · simp only [List.set_cons_succ, List.getD_cons_succ, List.filter_cons, hx, decide_true, if_true, List.length_cons, ih]; omega
    · simp only [List.set_cons_succ, List.getD_cons_succ, List.filter_cons, hx, decide_false, if_false, ih, Bool.false_eq_true]

theorem told_le (l : List Int) : told l ≤ l.length := List.length_filter_le _ _

/-- What may still be made less. -/
def pot : List Int → Nat
  | [] => 0
  | x :: l => (if x < 0 then 10000000000000000 else x.toNat) + pot l

theorem pot_set : ∀ (l : List Int) (t : Nat) (m : Int), t < l.length → 0 ≤ m → m < 10000000000000000 → (l.getD t 0 < 0 ∨ m < l.getD t 0) → pot (l.set t m) < pot l
  | [], t, m, h, _, _, _ => by simp at h
  | x :: l, 0, m, _, h1, h2, h3 => by
    simp only [List.set_cons_zero, pot, List.getD_cons_zero] at h3 ⊢
    rw [if_neg (by omega)]
    split <;> omega
  | x :: l, t + 1, m, h, h1, h2, h3 => by
    have ih := pot_set l t m (by simpa using h) h1 h2 (by simpa using h3)
    simp only [List.set_cons_succ, pot]
    omega

/-- One silent arc. -/
theorem CInv.silent (hF : FOk F) {i o B : Int} {l : List Int} (h : CInv F u v S i o F.arcs.length l) (hbd : ∀ x ∈ l, -1 ≤ x ∧ x ≤ B + 1000000000 * told l) (hB : 0 ≤ B ∧ B ≤ 1000000000000000) {j : Nat} {a : Arc} (ha : F.arcs[j]? = some a) (hsil : a.i + a.o = 0)
    (hne : less (l.getD a.t.toNat 0) (plus (l.getD a.f.toNat 0) a.w) ≠ l.getD a.t.toNat 0) :
    CInv F u v S i o F.arcs.length (l.set a.t.toNat (less (l.getD a.t.toNat 0) (plus (l.getD a.f.toNat 0) a.w))) ∧
    (∀ x ∈ l.set a.t.toNat (less (l.getD a.t.toNat 0) (plus (l.getD a.f.toNat 0) a.w)), -1 ≤ x ∧ x ≤ B + 1000000000 * told (l.set a.t.toNat (less (l.getD a.t.toNat 0) (plus (l.getD a.f.toNat 0) a.w)))) ∧
    pot (l.set a.t.toNat (less (l.getD a.t.toNat 0) (plus (l.getD a.f.toNat 0) a.w))) < pot l := by
  have hao := hF.arc a (List.mem_of_getElem? ha)
  have hst := hF.st
  have hi0 := hao.i0.1
  have ho0 := hao.o0.1
  have ht0 := hao.t0
  have ht1 := hao.t1
  have hf0 := hao.f0
  have hf1 := hao.f1
  have hw0 := hao.w0
  have hw1 := hao.w1
  have hlen := h.len
  have htl : a.t.toNat < l.length := by omega
  have hfl : a.f.toNat < l.length := by omega
  have bt := hbd _ (getD_mem l a.t.toNat 0 htl)
  have bf := hbd _ (getD_mem l a.f.toNat 0 hfl)
  have hsp := less_spec (l.getD a.t.toNat 0) (plus (l.getD a.f.toNat 0) a.w)
  have hpl := plus_spec (l.getD a.f.toNat 0) a.w hw0
  have hcl := told_le l
  have hlt : l.getD a.f.toNat 0 ≥ 0 ∧ less (l.getD a.t.toNat 0) (plus (l.getD a.f.toNat 0) a.w) = l.getD a.f.toNat 0 + a.w ∧ (l.getD a.t.toNat 0 < 0 ∨ l.getD a.f.toNat 0 + a.w < l.getD a.t.toNat 0) := by
    by_cases hf : 0 ≤ l.getD a.f.toNat 0
    · have h1 := hpl.1 hf
      have h2 : less (l.getD a.t.toNat 0) (plus (l.getD a.f.toNat 0) a.w) = plus (l.getD a.f.toNat 0) a.w := by
        rcases hsp.2.2 with e | e
        · exact absurd e hne
        · exact e
      refine ⟨hf, by rw [h2, h1], ?_⟩
      by_cases h3 : l.getD a.t.toNat 0 < 0
      · exact .inl h3
      · right
        have := hsp.1 (by omega)
        omega
    · exfalso
      have h1 := hpl.2 (by omega)
      rw [h1] at hne hsp
      by_cases h3 : 0 ≤ l.getD a.t.toNat 0
      · rcases hsp.2.2 with e | e
        · exact hne e
        · have := hsp.1 h3; omega
      · rcases hsp.2.2 with e | e
        · exact hne e
        · exact hne (by rw [e]; omega)
  obtain ⟨k1, k2, k3⟩ := hlt
  rw [k2]
  have hc := told_set l a.t.toNat (l.getD a.f.toNat 0 + a.w) htl (by omega)
  refine ⟨h.relax (by omega) (fun hp => by omega) (fun _ => ?_), ?_, pot_set l a.t.toNat _ htl (by omega) (by omega) k3⟩
  · have hr := h.snd a.f.toNat (by omega) k1
    have he := Edge.make (F := F) (u := u) (v := v) (i := i) (o := o) ha hi0 ho0 (fun h => by omega) (fun h => by omega)
    rw [if_neg (by omega), if_neg (by omega)] at he
    rw [Int.toNat_of_nonneg hf0] at hr
    rw [Int.toNat_of_nonneg ht0]
    exact .on hr he
  · intro x hx
    rw [hc]
    obtain ⟨n, hn, rfl⟩ := List.getElem_of_mem hx
    rw [List.getElem_set]
    have hn2 : n < l.length := by simpa using hn
    split
    · constructor
      · omega
      · by_cases h3 : l.getD a.t.toNat 0 < 0
        · rw [if_pos h3]; omega
        · rw [if_neg h3]; omega
    · have := hbd _ (List.getElem_mem hn2)
      constructor
      · exact this.1
      · have : (0 : Int) ≤ (if l.getD a.t.toNat 0 < 0 then 1 else 0 : Nat) := by omega
        omega

end
end Go.Fw
