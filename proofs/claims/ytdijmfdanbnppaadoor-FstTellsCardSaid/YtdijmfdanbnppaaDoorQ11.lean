/- Walks of the functions: what each computes. -/
import Derived.Test.YtdijmfdanbnppaaDoorQ10
import Derived.Test.YtdijmfdanbnppaaDoorQ08
import Derived.Test.YtdijmfdanbnppaaDoorQ07
import Derived.Laws.IdiomStrings

set_option linter.unusedSimpArgs false
set_option linter.unusedVariables false

namespace Go.Fw
open Go Go.Proofs

set_option maxHeartbeats 16000000 in
set_option maxRecDepth 20000 in
theorem useful_c (F : TF) (hF : FRng F) (hs : 0 ≤ F.start ∧ F.start < F.st) :
    Ct Tryd.prog 25 [fV F] [] (hpF F) 2 (fun v s => ∃ p, UsOk F p ∧ OutPost (kT F p).st (kT F p).start (kT F p).fin (kT F p).arcs 2 v s) := by
  have hst := hF.st
  have hal := hF.arcl
  have hfl := hF.finl
  refine ctW Tryd.tyOk 8 [9, 10, 11] Tryd.func25 rfl (by simp) (by simp) (fr := [(0, fV F)]) rfl ?_
  repeat' (first | exact rfl | ((conv => whnf); first | (refine qX (fun h => ?_) fun h => ?_ <;> try exact absurd h (by omega)) | refine oN ?_ | refine oM ?_ ?_ | refine bM ?_ ?_ | refine dR ?_))
  (conv => whnf)
  refine loopI (fun z : Nat × Nat => ⟨[(1, .c (.ptr 2 0)), (2, .c (.ptr 3 0)), (3, .c (.sl 4 1 0 (endL F.fin z.1).length ((endL F.fin z.1).length + z.2))), (9, .c (.sl 0 1 0 F.fin.length F.capF)), (10, .i F.fin.length), (11, .i z.1)],
      hpF F ++ [(2, .box 25 (fCells F)), (3, .box 25 [.i 0, .i 0, .v (.slice none 0 0), .v (.slice none 0 0)]), (4, .arr true 3 .int (endL F.fin z.1) z.2)], 5⟩)
    (fun z => z.1 ≤ F.fin.length) (fun z => F.fin.length - z.1) (0, 0) [(4, none)] ⟨by rfl, ?_, ?_⟩ (Nat.zero_le _) ?_
  · simp [endL, nilO]
  · simp [fCells, nilO, endL]
  · rintro ⟨k, sp⟩ hk
    simp only at hk ⊢
    have hkl := endL_len F.fin k
    have e0 : 0 + (k : Int).toNat = k := by omega
    have hks : endL F.fin (k + 1) = if F.fin.getD k 0 ≠ -1 then endL F.fin k ++ [(k : Int)] else endL F.fin k := rfl
    repeat' (first | exact rfl | ((conv => whnf); first | (refine qX (fun h => ?_) fun h => ?_ <;> try exact absurd h (by omega)) | refine oN ?_ | refine oM ?_ ?_ | refine bM ?_ ?_))
    · have h3 : F.fin.getD k 0 ≠ -1 := e0 ▸ h
      rw [if_pos h3] at hks
      intro sp2
      repeat' (first | exact rfl | ((conv => whnf); first | (refine qX (fun h => ?_) fun h => ?_ <;> try exact absurd h (by omega)) | refine oN ?_ | refine oM ?_ ?_ | refine bM ?_ ?_))
      (conv => whnf)
      refine ⟨(k + 1, sp2), [(4, some 6)], ⟨by rfl, ?_, ?_⟩, by simp only; omega, by simp only; omega⟩
      · simp [hks]
      · simp [hks, fCells]
        exact (app_one (endL F.fin k) _ (k : Int) rfl).symm
    · have h3 : F.fin.getD k 0 = -1 := e0 ▸ h
      rw [if_neg (by simpa using h3)] at hks
      (conv => whnf)
      refine ⟨(k + 1, sp), [], ⟨by rfl, ?_, ?_⟩, by simp only; omega, by simp only; omega⟩
      · simp [hks]
      · simp [hks, fCells]
    · have e : k = F.fin.length := by omega
      subst e
      have hst2 : (F.st.toNat : Int) = F.st := by omega
      have hn2 : F.fin.length = F.st.toNat := by omega
      have hx1 : ∀ x ∈ [F.start], 0 ≤ x ∧ x < (F.st.toNat : Nat) := fun x hx => by rw [List.mem_singleton] at hx; subst hx; omega
      have hx2 : ∀ x ∈ endL F.fin F.fin.length, 0 ≤ x ∧ x < (F.st.toNat : Nat) := fun x hx => by
        obtain ⟨e, h1, h2, rfl⟩ := (mem_endL _).1 hx
        omega
      (conv => whnf)
      refine drawCut (fun z : List Bool × List Bool => ⟨[(1, .c (.ptr 2 0)), (2, .c (.ptr 3 0)), (6, .c (.ptr 6 0)), (7, .c (.ptr 7 0))],
        hpF F ++ [(2, .box 25 (fCells F)), (3, .box 25 [.i 0, .i 0, .v (.slice none 0 0), .v (.slice none 0 0)]), (4, .arr true 4 .bool z.1 0), (5, .arr true 4 .bool z.2 0), (6, .box 77 [.sl 4 1 0 z.1.length z.1.length]), (7, .box 77 [.sl 5 1 0 z.2.length z.2.length])], 8⟩)
        (fun z => z.1.length = F.st.toNat ∧ z.2.length = F.st.toNat ∧ (∀ j, j < F.st.toNat → (z.1.getD j false = true ↔ Rch F.arcs false [F.start] j)) ∧ ∀ j, j < F.st.toNat → (z.2.getD j false = true ↔ Rch F.arcs true (endL F.fin F.fin.length) j)) ?_ ?_
      · repeat' (first | exact rfl | ((conv => whnf); first | (refine qX (fun h => ?_) fun h => ?_ <;> try exact absurd h (by omega)) | refine oN ?_ | refine oM ?_ ?_ | refine bM ?_ ?_ | refine dR ?_))
        all_goals
          (conv => whnf)
          first
          | (refine callF (reached_c F hF [F.start] 0 false hx1 (by simp)) [0, 1, 5] Tryd.call49 rfl ?_ ?_ ?_ ?_; (focus (simp; done)); (focus (simp; done)); (focus (simp; done)))
          | (refine callF (reached_c F hF [F.start] 0 false hx1 (by simp)) [0, 1, 6] Tryd.call49 rfl ?_ ?_ ?_ ?_; (focus (simp; done)); (focus (simp; done)); (focus (simp; done)))
          | (refine callF (reached_c F hF [F.start] 0 false hx1 (by simp)) [0, 1, 7] Tryd.call49 rfl ?_ ?_ ?_ ?_; (focus (simp; done)); (focus (simp; done)); (focus (simp; done)))
          rintro _ _ ⟨m1, rfl, rfl, hl1, hr1⟩
          repeat' (first | exact rfl | ((conv => whnf); first | (refine qX (fun h => ?_) fun h => ?_ <;> try exact absurd h (by omega)) | refine oN ?_ | refine oM ?_ ?_ | refine bM ?_ ?_ | refine dR ?_))
          all_goals
            (conv => whnf)
            refine cF (reached_c F hF (endL F.fin F.fin.length) sp true hx2 (by omega)) [0, 1, 4] Tryd.call49 ?_
            rintro _ _ ⟨m2, rfl, rfl, hl2, hr2⟩
            repeat' (first | exact rfl | ((conv => whnf); first | (refine qX (fun h => ?_) fun h => ?_ <;> try exact absurd h (by omega)) | refine oN ?_ | refine oM ?_ ?_ | refine bM ?_ ?_ | refine dR ?_))
            all_goals
              (conv => whnf)
              first
              | (refine ⟨(m1, m2), [(4, some 8), (5, some 9), (6, some 5), (7, some 6)], ⟨by rfl, ?_, ?_⟩, hl1, hl2, hr1, hr2⟩; (focus (simp; done)); (simp [fCells]; done))
              | (refine ⟨(m1, m2), [(4, some 8), (5, some 9), (6, some 5), (7, some 7)], ⟨by rfl, ?_, ?_⟩, hl1, hl2, hr1, hr2⟩; (focus (simp; done)); (simp [fCells]; done))
              | (refine ⟨(m1, m2), [(4, some 7), (5, some 9), (6, some 5), (7, some 8)], ⟨by rfl, ?_, ?_⟩, hl1, hl2, hr1, hr2⟩; (focus (simp; done)); (simp [fCells]; done))
              | (refine ⟨(m1, m2), [(4, some 7), (5, some 8), (6, some 5), (7, some 9)], ⟨by rfl, ?_, ?_⟩, hl1, hl2, hr1, hr2⟩; (focus (simp; done)); (simp [fCells]; done))
              | (refine ⟨(m1, m2), [(4, some 8), (5, some 9), (6, some 6), (7, some 5)], ⟨by rfl, ?_, ?_⟩, hl1, hl2, hr1, hr2⟩; (focus (simp; done)); (simp [fCells]; done))
              | (refine ⟨(m1, m2), [(4, some 8), (5, some 9), (6, some 6), (7, some 7)], ⟨by rfl, ?_, ?_⟩, hl1, hl2, hr1, hr2⟩; (focus (simp; done)); (simp [fCells]; done))
              | (refine ⟨(m1, m2), [(4, some 7), (5, some 9), (6, some 6), (7, some 8)], ⟨by rfl, ?_, ?_⟩, hl1, hl2, hr1, hr2⟩; (focus (simp; done)); (simp [fCells]; done))
              | (refine ⟨(m1, m2), [(4, some 7), (5, some 8), (6, some 6), (7, some 9)], ⟨by rfl, ?_, ?_⟩, hl1, hl2, hr1, hr2⟩; (focus (simp; done)); (simp [fCells]; done))
              | (refine ⟨(m1, m2), [(4, some 8), (5, some 9), (6, some 7), (7, some 5)], ⟨by rfl, ?_, ?_⟩, hl1, hl2, hr1, hr2⟩; (focus (simp; done)); (simp [fCells]; done))
              | (refine ⟨(m1, m2), [(4, some 8), (5, some 9), (6, some 7), (7, some 6)], ⟨by rfl, ?_, ?_⟩, hl1, hl2, hr1, hr2⟩; (focus (simp; done)); (simp [fCells]; done))
              | (refine ⟨(m1, m2), [(4, some 6), (5, some 9), (6, some 7), (7, some 8)], ⟨by rfl, ?_, ?_⟩, hl1, hl2, hr1, hr2⟩; (focus (simp; done)); (simp [fCells]; done))
              | (refine ⟨(m1, m2), [(4, some 6), (5, some 8), (6, some 7), (7, some 9)], ⟨by rfl, ?_, ?_⟩, hl1, hl2, hr1, hr2⟩; (focus (simp; done)); (simp [fCells]; done))
              | (refine ⟨(m1, m2), [(4, some 7), (5, some 9), (6, some 8), (7, some 5)], ⟨by rfl, ?_, ?_⟩, hl1, hl2, hr1, hr2⟩; (focus (simp; done)); (simp [fCells]; done))
              | (refine ⟨(m1, m2), [(4, some 7), (5, some 9), (6, some 8), (7, some 6)], ⟨by rfl, ?_, ?_⟩, hl1, hl2, hr1, hr2⟩; (focus (simp; done)); (simp [fCells]; done))
              | (refine ⟨(m1, m2), [(4, some 6), (5, some 9), (6, some 8), (7, some 7)], ⟨by rfl, ?_, ?_⟩, hl1, hl2, hr1, hr2⟩; (focus (simp; done)); (simp [fCells]; done))
              | (refine ⟨(m1, m2), [(4, some 6), (5, some 7), (6, some 8), (7, some 9)], ⟨by rfl, ?_, ?_⟩, hl1, hl2, hr1, hr2⟩; (focus (simp; done)); (simp [fCells]; done))
              | (refine ⟨(m1, m2), [(4, some 7), (5, some 8), (6, some 9), (7, some 5)], ⟨by rfl, ?_, ?_⟩, hl1, hl2, hr1, hr2⟩; (focus (simp; done)); (simp [fCells]; done))
              | (refine ⟨(m1, m2), [(4, some 7), (5, some 8), (6, some 9), (7, some 6)], ⟨by rfl, ?_, ?_⟩, hl1, hl2, hr1, hr2⟩; (focus (simp; done)); (simp [fCells]; done))
              | (refine ⟨(m1, m2), [(4, some 6), (5, some 8), (6, some 9), (7, some 7)], ⟨by rfl, ?_, ?_⟩, hl1, hl2, hr1, hr2⟩; (focus (simp; done)); (simp [fCells]; done))
              | (refine ⟨(m1, m2), [(4, some 6), (5, some 7), (6, some 9), (7, some 8)], ⟨by rfl, ?_, ?_⟩, hl1, hl2, hr1, hr2⟩; (focus (simp; done)); (simp [fCells]; done))
      · rintro ⟨m1, m2⟩ ⟨hl1, hl2, hr1, hr2⟩
        simp only at hl1 hl2 hr1 hr2 ⊢
        repeat' (first | exact rfl | ((conv => whnf); first | (refine qX (fun h => ?_) fun h => ?_ <;> try exact absurd h (by omega)) | refine oN ?_ | refine oM ?_ ?_ | refine bM ?_ ?_ | refine dR ?_))
        (conv => whnf)
        refine callF (kept_c F hF hs m1 m2 m1.length m2.length rfl rfl (by omega) (by omega)) [0, 1, 4, 5, 6, 7] Tryd.call50 rfl (by simp) (by simp) (by simp; omega) ?_
        intro v s hv
        rw [keptPost_iff] at hv
        have hus : UsOk F (kpB m1 m2) := ⟨fun j hj => by
          unfold kpB
          rw [Bool.and_eq_true, hr1 j hj, hr2 j hj, rch_some (bk := true)]
          constructor
          · rintro ⟨h1, x, h2, h3⟩
            obtain ⟨e, h4, h5, rfl⟩ := (mem_endL _).1 h2
            exact ⟨h1, e, by omega, h5, h3⟩
          · rintro ⟨h1, e, h2, h3, h4⟩
            exact ⟨h1, e, (mem_endL _).2 ⟨e, by omega, h3, rfl⟩, h4⟩⟩
        generalize hT : kT F (kpB m1 m2) = T at hv
        obtain ⟨tst, tstart, tfin, tarcs, tc1, tc2⟩ := T
        obtain ⟨sp3, sq3, rfl, rfl⟩ := hv
        simp only at *
        repeat' (first | exact rfl | ((conv => whnf); first | (refine qX (fun h => ?_) fun h => ?_ <;> try exact absurd h (by omega)) | refine oN ?_ | refine oM ?_ ?_ | refine bM ?_ ?_ | refine dR ?_))
        (conv => whnf)
        refine ⟨[(2, some 8), (3, some 9)], [(2, .arr true 3 .int tfin sp3), (3, .arr true 35 .arc tarcs sq3)], 4, .a (.agg [.i tst, .i tstart, .sl 2 1 0 tfin.length (tfin.length + sp3), .sl 3 5 0 tarcs.length (tarcs.length + sq3)]), ⟨by rfl, trivial, by simp⟩, by simp, kpB m1 m2, hus, ?_⟩
        rw [hT]
        exact ⟨sp3, sq3, rfl, rfl⟩
end Go.Fw

/-
  What is useful alone costs the same.
-/
namespace Go.Fw
open Go

section
variable {p : Nat → Bool}

end

section
variable {F : TF} {p : Nat → Bool} (hF : FRng F) (hs : 0 ≤ F.start ∧ F.start < F.st) (hp : UsOk F p)
include hF hp

end
end Go.Fw

/-
  States without arcs that come to them go, over and over: what is left tells whether a way goes round.
-/
namespace Go.Fw

/-- How many places fit. -/
def cin (n : Nat) (p : Nat → Bool) : Nat := (List.range n).countP p

theorem cin_succ (n : Nat) (p : Nat → Bool) : cin (n + 1) p = cin n p + (if p n = true then 1 else 0) := by
  unfold cin
  rw [List.range_succ, List.countP_append, List.countP_singleton]
theorem cin_le (n : Nat) (p : Nat → Bool) : cin n p ≤ n := by
  have := List.countP_le_length (p := p) (l := List.range n)
  simpa [cin] using this
theorem cin_congr {n : Nat} {p q : Nat → Bool} (h : ∀ i, i < n → p i = q i) : cin n p = cin n q := by
  induction n with
  | zero => rfl
  | succ n ih => rw [cin_succ, cin_succ, ih (fun i hi => h i (by omega)), h n (by omega)]
theorem cin_one {n k : Nat} {p q : Nat → Bool} (hk : k < n) (hp : p k = true) (hq : q k = false) (h : ∀ i, i ≠ k → p i = q i) : cin n p = cin n q + 1 := by
  induction n with
  | zero => omega
  | succ n ih =>
    rw [cin_succ, cin_succ]
    by_cases e : k = n
    · subst e
      rw [cin_congr (p := p) (q := q) fun i hi => h i (by omega), hp, hq]
      simp
    · rw [ih (by omega), h n (fun c => e c.symm)]
      omega
theorem cin_zero {n : Nat} {p : Nat → Bool} : cin n p = 0 ↔ ∀ i, i < n → p i = false := by
  unfold cin
  rw [List.countP_eq_zero]
  constructor
  · intro h i hi
    have := h i (List.mem_range.2 hi)
    simpa using this
  · intro h a ha
    simp [h a (List.mem_range.1 ha)]
theorem cin_all {n : Nat} {p : Nat → Bool} : cin n p = n ↔ ∀ i, i < n → p i = true := by
  induction n with
  | zero => simp [cin]
  | succ n ih =>
    rw [cin_succ]
    have := cin_le n p
    constructor
    · intro h i hi
      by_cases hp : p n = true
      · rw [if_pos hp] at h
        by_cases e : i = n
        · subst e; exact hp
        · exact ih.1 (by omega) i (by omega)
      · rw [if_neg hp] at h; omega
    · intro h
      rw [if_pos (h n (by omega)), ih.2 fun i hi => h i (by omega)]

/-- Does a way of so many arcs end there? -/
def nowB (l : List Arc) : Nat → Int → Bool
  | 0, _ => true
  | k + 1, v => l.any fun a => a.t == v && nowB l k a.f
def roundB (l : List Arc) (n : Nat) : Bool := (List.range n).any fun v => nowB l n (v : Int)

structure Kh (l : List Arc) (n : Nat) (R st : List Int) (c : List Int) : Prop where
  len : c.length = n
  rng : ∀ v ∈ R ++ st, 0 ≤ v ∧ v < n
  nd : (R ++ st).Nodup
  cnt : ∀ v : Nat, v < n → c.getD v 0 = (cin l.length fun i => (l.getD i aD).t == (v : Int) && !decide ((l.getD i aD).f ∈ R) : Nat)
  zer : ∀ v : Nat, v < n → (c.getD v 0 = 0 ↔ (v : Int) ∈ R ++ st)
  top : ∀ a ∈ l, ∀ i : Nat, R[i]? = some a.t → ∃ j : Nat, j < i ∧ R[j]? = some a.f

structure KhM (l : List Arc) (n : Nat) (R : List Int) (x : Int) (st : List Int) (c : List Int) (k : Nat) : Prop where
  len : c.length = n
  rng : ∀ v ∈ R ++ (x :: st), 0 ≤ v ∧ v < n
  nd : (R ++ (x :: st)).Nodup
  cnt : ∀ v : Nat, v < n → c.getD v 0 = (cin l.length fun i => (l.getD i aD).t == (v : Int) && !decide ((l.getD i aD).f ∈ R) && !(decide (i < k) && (l.getD i aD).f == x) : Nat)
  zer : ∀ v : Nat, v < n → (c.getD v 0 = 0 ↔ (v : Int) ∈ R ++ (x :: st))
  top : ∀ a ∈ l, ∀ i : Nat, (R ++ [x])[i]? = some a.t → ∃ j : Nat, j < i ∧ (R ++ [x])[j]? = some a.f

section
variable {l : List Arc} {n : Nat} {R st c : List Int} {x : Int} {k : Nat}

theorem KhM.done (h : KhM l n R x st c l.length) : Kh l n (R ++ [x]) st c := by
  have e : R ++ [x] ++ st = R ++ (x :: st) := by simp
  refine ⟨h.len, fun v hv => h.rng v (by rw [← e]; exact hv), by rw [e]; exact h.nd, fun v hv => ?_, fun v hv => by rw [e]; exact h.zer v hv, h.top⟩
  rw [h.cnt v hv]
  congr 1
  apply cin_congr
  intro i hi
  have : ((l.getD i aD).f ∈ R ++ [x]) ↔ ((l.getD i aD).f ∈ R ∨ (l.getD i aD).f = x) := by simp
  rw [show decide ((l.getD i aD).f ∈ R ++ [x]) = (decide ((l.getD i aD).f ∈ R) || (l.getD i aD).f == x) by
    rw [decide_eq_decide.2 this, Bool.decide_or]; congr 1]
  simp only [hi, decide_true, Bool.true_and, Bool.not_or, Bool.and_assoc]

/-- How many are gone. -/
def goneN (n : Nat) (R : List Int) : Nat := cin n fun v => decide ((v : Int) ∈ R)
theorem goneN_le (n : Nat) (R : List Int) : goneN n R ≤ n := cin_le _ _
theorem gone_cons {n : Nat} {R R' : List Int} {x : Int} (hx : 0 ≤ x ∧ x < n) (hxR : x ∉ R) (hm : ∀ v, v ∈ R' ↔ v ∈ R ∨ v = x) : goneN n R' = goneN n R + 1 := by
  have hx0 : ((x.toNat : Nat) : Int) = x := by omega
  unfold goneN
  apply cin_one (k := x.toNat) (by omega)
  · rw [hx0]; exact decide_eq_true ((hm x).2 (.inr rfl))
  · rw [hx0]; exact decide_eq_false hxR
  · intro i hi
    apply decide_eq_decide.2
    rw [hm]
    constructor
    · rintro (h | h)
      · exact h
      · omega
    · exact .inl
theorem len_gone {n : Nat} : ∀ {R : List Int}, R.Nodup → (∀ v ∈ R, 0 ≤ v ∧ v < n) → R.length = goneN n R
  | [], _, _ => by
    unfold goneN
    rw [cin_zero.2 fun i _ => by simp]
    rfl
  | x :: R, hnd, hr => by
    rw [List.nodup_cons] at hnd
    rw [gone_cons (R := R) (hr x (by simp)) hnd.1 (fun v => by simp [or_comm]), List.length_cons, len_gone hnd.2 fun v hv => hr v (by simp [hv])]
theorem Kh.round (h : Kh l n R [] c) (hr : ∀ a ∈ l, (0 ≤ a.f ∧ a.f < n) ∧ 0 ≤ a.t ∧ a.t < n) : decide (goneN n R < n) = roundB l n := by
  by_cases hg : goneN n R < n
  · rw [decide_eq_true hg]
    have hex : ∃ v, v < n ∧ ((v : Nat) : Int) ∉ R := by
      refine Classical.byContradiction fun hc => ?_
      have : goneN n R = n := cin_all.2 fun i hi => by
        simp only [decide_eq_true_eq]
        exact Classical.byContradiction fun hn => hc ⟨i, hi, hn⟩
      omega
    have hall : ∀ k (v : Nat), v < n → ((v : Nat) : Int) ∉ R → nowB l k (v : Int) = true := by
      intro k
      induction k with
      | zero => intro v _ _; rfl
      | succ k ih =>
        intro v hv hn
        have hz : c.getD v 0 ≠ 0 := fun e => hn (by simpa using (h.zer v hv).1 e)
        rw [h.cnt v hv] at hz
        have hex2 : ∃ i, i < l.length ∧ ((l.getD i aD).t == (v : Int) && !decide ((l.getD i aD).f ∈ R)) = true := by
          refine Classical.byContradiction fun hc => hz ?_
          have : (cin l.length fun i => (l.getD i aD).t == (v : Int) && !decide ((l.getD i aD).f ∈ R)) = 0 := cin_zero.2 fun i hi => by
            cases hb : ((l.getD i aD).t == (v : Int) && !decide ((l.getD i aD).f ∈ R)) with
            | false => rfl
            | true => exact absurd ⟨i, hi, hb⟩ hc
          rw [this]; rfl
        obtain ⟨i, hi, hb⟩ := hex2
        simp only [Bool.and_eq_true, beq_iff_eq, Bool.not_eq_true', decide_eq_false_iff_not] at hb
        have ham := getD_mem l i aD hi
        have hr1 := (hr _ ham).1
        have hf0 : (((l.getD i aD).f.toNat : Nat) : Int) = (l.getD i aD).f := by omega
        have := ih (l.getD i aD).f.toNat (by omega) (by rw [hf0]; exact hb.2)
        rw [hf0] at this
        unfold nowB
        rw [List.any_eq_true]
        exact ⟨_, ham, by rw [this, hb.1]; simp⟩
    obtain ⟨v, hv, hn⟩ := hex
    unfold roundB
    symm
    rw [List.any_eq_true]
    exact ⟨v, List.mem_range.2 hv, hall n v hv hn⟩
  · rw [decide_eq_false hg]
    have hge : goneN n R = n := by have := goneN_le n R; omega
    have hin : ∀ v : Nat, v < n → (v : Int) ∈ R := fun v hv => by
      have := cin_all.1 hge v hv
      simpa using this
    have hrl : R.length ≤ n := by
      have hnd : R.Nodup := by have := h.nd; simpa using this
      rw [len_gone hnd fun v hv => h.rng v (by simpa using hv)]
      exact goneN_le n R
    have hlt : ∀ k (v : Int), nowB l k v = true → ∀ i, R[i]? = some v → k ≤ i := by
      intro k
      induction k with
      | zero => intro v _ i _; omega
      | succ k ih =>
        intro v hv i hi
        unfold nowB at hv
        rw [List.any_eq_true] at hv
        obtain ⟨a, ha, hb⟩ := hv
        simp only [Bool.and_eq_true, beq_iff_eq] at hb
        obtain ⟨j, hj, e⟩ := h.top a ha i (by rw [hi, hb.1])
        have := ih a.f hb.2 j e
        omega
    symm
    unfold roundB
    rw [List.any_eq_false]
    intro v hv
    have hv := List.mem_range.1 hv
    intro hb
    obtain ⟨i, hi, e⟩ := List.mem_iff_getElem.1 (hin v hv)
    have := hlt n v hb i (by rw [List.getElem?_eq_getElem hi, e])
    omega
end
end Go.Fw

/-
  Marks that go along arcs, over and over: as often as there are states is often enough.
-/
namespace Go.Fw

def mkP (l : List Arc) (bk : Bool) (ms : List Bool) : Nat → List Bool
  | 0 => ms
  | k + 1 => (mkP l bk ms k).set (dstA bk (l.getD k aD)).toNat ((mkP l bk ms k).getD (dstA bk (l.getD k aD)).toNat false || (mkP l bk ms k).getD (srcA bk (l.getD k aD)).toNat false)
def itM (l : List Arc) (bk : Bool) (ms : List Bool) : Nat → List Bool
  | 0 => ms
  | n + 1 => mkP l bk (itM l bk ms n) l.length

theorem mkP_len (l : List Arc) (bk : Bool) (ms : List Bool) (k : Nat) : (mkP l bk ms k).length = ms.length := by
  induction k with
  | zero => rfl
  | succ k ih => simp [mkP, ih]
theorem itM_len (l : List Arc) (bk : Bool) (ms : List Bool) (n : Nat) : (itM l bk ms n).length = ms.length := by
  induction n with
  | zero => rfl
  | succ n ih => simp [itM, mkP_len, ih]

section
variable {l : List Arc} {bk : Bool} {n : Nat}

theorem setB_getD (ms : List Bool) (i j : Nat) (b : Bool) (hi : i < ms.length) : (ms.set i b).getD j false = if j = i then b else ms.getD j false := by
  simp only [List.getD, List.getElem?_set]
  by_cases e : i = j
  · subst e; simp [hi]
  · rw [if_neg e, if_neg (fun c => e c.symm)]

theorem mkP_step {ms : List Bool} (hms : ms.length = n) (hl : ∀ a ∈ l, 0 ≤ srcA bk a ∧ srcA bk a < n ∧ 0 ≤ dstA bk a ∧ dstA bk a < n) {k : Nat} (hk : k < l.length) (j : Nat) :
    (mkP l bk ms (k + 1)).getD j false = ((mkP l bk ms k).getD j false || (j == (dstA bk (l.getD k aD)).toNat && (mkP l bk ms k).getD (srcA bk (l.getD k aD)).toNat false)) := by
  have ha := hl _ (getD_mem l k aD hk)
  have hlen := mkP_len l bk ms k
  show ((mkP l bk ms k).set _ _).getD j false = _
  rw [setB_getD _ _ _ _ (by omega)]
  by_cases e : j = (dstA bk (l.getD k aD)).toNat
  · rw [if_pos e, ← e, beq_self_eq_true, Bool.true_and]
  · rw [if_neg e, beq_eq_false_iff_ne.2 e, Bool.false_and, Bool.or_false]

theorem mkP_mono {ms : List Bool} (hms : ms.length = n) (hl : ∀ a ∈ l, 0 ≤ srcA bk a ∧ srcA bk a < n ∧ 0 ≤ dstA bk a ∧ dstA bk a < n) {j : Nat} : ∀ k, k ≤ l.length → ms.getD j false = true → (mkP l bk ms k).getD j false = true
  | 0, _, h => h
  | k + 1, hk, h => by rw [mkP_step hms hl (by omega), mkP_mono hms hl k (by omega) h, Bool.true_or]

/-- No arc leads from a mark to none. -/
def ClosedM (l : List Arc) (bk : Bool) (ms : List Bool) : Prop := ∀ a ∈ l, ms.getD (srcA bk a).toNat false = true → ms.getD (dstA bk a).toNat false = true

theorem mkP_closed {ms : List Bool} (hms : ms.length = n) (hl : ∀ a ∈ l, 0 ≤ srcA bk a ∧ srcA bk a < n ∧ 0 ≤ dstA bk a ∧ dstA bk a < n) (h : ClosedM l bk ms) : ∀ k, k ≤ l.length → ∀ j, (mkP l bk ms k).getD j false = ms.getD j false
  | 0, _, _ => rfl
  | k + 1, hk, j => by
    have ih := mkP_closed hms hl h k (by omega)
    rw [mkP_step hms hl (by omega), ih, ih]
    cases hb : (j == (dstA bk (l.getD k aD)).toNat && ms.getD (srcA bk (l.getD k aD)).toNat false) with
    | false => rw [Bool.or_false]
    | true =>
      rw [Bool.and_eq_true, beq_iff_eq] at hb
      rw [hb.1, h _ (getD_mem l k aD (by omega)) hb.2]
      rfl
/-- A pass marks one more, or nothing is left to be marked. -/
theorem mkP_more {ms : List Bool} (hms : ms.length = n) (hl : ∀ a ∈ l, 0 ≤ srcA bk a ∧ srcA bk a < n ∧ 0 ≤ dstA bk a ∧ dstA bk a < n) : ClosedM l bk ms ∨ ∃ j, j < n ∧ ms.getD j false = false ∧ (mkP l bk ms l.length).getD j false = true := by
  by_cases h : ClosedM l bk ms
  · exact .inl h
  · right
    unfold ClosedM at h
    obtain ⟨a, h⟩ := Classical.not_forall.1 h
    obtain ⟨ha, h⟩ := Classical.not_imp.1 h
    obtain ⟨h1, h2⟩ := Classical.not_imp.1 h
    have hr := hl a ha
    refine ⟨(dstA bk a).toNat, by omega, by simpa using h2, ?_⟩
    obtain ⟨k, hk, rfl⟩ := List.mem_iff_getElem.1 ha
    have e : l[k] = l.getD k aD := by simp [List.getD, hk]
    rw [e] at h1 h2 ⊢
    have hmono : ∀ d, k + 1 + d ≤ l.length → (mkP l bk ms (k + 1 + d)).getD (dstA bk (l.getD k aD)).toNat false = true := by
      intro d
      induction d with
      | zero =>
        intro _
        rw [Nat.add_zero, mkP_step hms hl hk, mkP_mono hms hl k (by omega) h1]
        simp
      | succ d ih =>
        intro hd
        rw [← Nat.add_assoc, mkP_step hms hl (by omega), ih (by omega), Bool.true_or]
    have := hmono (l.length - (k + 1)) (by omega)
    rwa [show k + 1 + (l.length - (k + 1)) = l.length by omega] at this

/-- How many are marked. -/
def mcnt (n : Nat) (ms : List Bool) : Nat := cin n fun j => ms.getD j false
theorem cin_mono {p q : Nat → Bool} : ∀ {n : Nat}, (∀ i, i < n → p i = true → q i = true) → cin n p ≤ cin n q
  | 0, _ => Nat.le_refl _
  | n + 1, h => by
    have := cin_mono (n := n) fun i hi => h i (by omega)
    rw [cin_succ, cin_succ]
    by_cases hp : p n = true
    · rw [if_pos hp, if_pos (h n (by omega) hp)]; omega
    · rw [if_neg hp]; omega
theorem cin_lt {p q : Nat → Bool} : ∀ {n : Nat}, (∀ i, i < n → p i = true → q i = true) → ∀ {j : Nat}, j < n → p j = false → q j = true → cin n p + 1 ≤ cin n q
  | 0, _, _, h, _, _ => by omega
  | n + 1, h, j, hj, h1, h2 => by
    rw [cin_succ, cin_succ]
    by_cases e : j = n
    · subst e
      have := cin_mono (p := p) (q := q) (n := j) fun i hi => h i (by omega)
      rw [if_neg (by rw [h1]; exact Bool.false_ne_true), if_pos h2]
      omega
    · have := cin_lt (n := n) (fun i hi => h i (by omega)) (show j < n by omega) h1 h2
      by_cases hp : p n = true
      · rw [if_pos hp, if_pos (h n (by omega) hp)]; omega
      · rw [if_neg hp]; omega

theorem itM_closed {ms : List Bool} (hms : ms.length = n) (hl : ∀ a ∈ l, 0 ≤ srcA bk a ∧ srcA bk a < n ∧ 0 ≤ dstA bk a ∧ dstA bk a < n) : ClosedM l bk (itM l bk ms n) := by
  have key : ∀ k, ClosedM l bk (itM l bk ms k) ∨ k ≤ mcnt n (itM l bk ms k) := by
    intro k
    induction k with
    | zero => exact .inr (Nat.zero_le _)
    | succ k ih =>
      have hlen : (itM l bk ms k).length = n := by rw [itM_len, hms]
      by_cases hc : ClosedM l bk (itM l bk ms k)
      · left
        intro a ha h
        unfold itM at h ⊢
        rw [mkP_closed hlen hl hc _ (Nat.le_refl _)] at h ⊢
        exact hc a ha h
      · right
        rcases mkP_more hlen hl with h | ⟨j, hj, h1, h2⟩
        · exact absurd h hc
        · rcases ih with ih | ih
          · exact absurd ih hc
          · have := cin_lt (p := fun j => (itM l bk ms k).getD j false) (q := fun j => (itM l bk ms (k + 1)).getD j false) (fun i hi h => mkP_mono hlen hl _ (Nat.le_refl _) h) hj h1 h2
            unfold mcnt at ih ⊢
            omega
  rcases key n with h | h
  · exact h
  · have hle := cin_le n fun j => (itM l bk ms n).getD j false
    have hall := cin_all.1 (show cin n (fun j => (itM l bk ms n).getD j false) = n by unfold mcnt at h; omega)
    intro a ha _
    have := hl a ha
    exact hall _ (by omega)

theorem mkP_sound {ms : List Bool} {first : List Int} (hms : ms.length = n) (hl : ∀ a ∈ l, 0 ≤ srcA bk a ∧ srcA bk a < n ∧ 0 ≤ dstA bk a ∧ dstA bk a < n) (h : ∀ j, j < n → ms.getD j false = true → Rch l bk first j) : ∀ k, k ≤ l.length → ∀ j, j < n → (mkP l bk ms k).getD j false = true → Rch l bk first j
  | 0, _, j, hj, hm => h j hj hm
  | k + 1, hk, j, hj, hm => by
    have ih := mkP_sound hms hl h k (by omega)
    rw [mkP_step hms hl (by omega), Bool.or_eq_true] at hm
    rcases hm with hm | hm
    · exact ih j hj hm
    · rw [Bool.and_eq_true, beq_iff_eq] at hm
      have ha := getD_mem l k aD (by omega)
      have hr := hl _ ha
      have h1 := ih _ (by omega) hm.2
      have e1 : (((srcA bk (l.getD k aD)).toNat : Nat) : Int) = srcA bk (l.getD k aD) := by omega
      have e2 : ((j : Nat) : Int) = dstA bk (l.getD k aD) := by rw [hm.1]; omega
      rw [e2]
      exact .on h1 ha e1.symm

theorem itM_iff {ms : List Bool} {first : List Int} (hms : ms.length = n) (hl : ∀ a ∈ l, 0 ≤ srcA bk a ∧ srcA bk a < n ∧ 0 ≤ dstA bk a ∧ dstA bk a < n) (hf : ∀ x ∈ first, 0 ≤ x ∧ x < n) (h : ∀ j : Nat, j < n → (ms.getD j false = true ↔ (j : Int) ∈ first)) {j : Nat} (hj : j < n) :
    (itM l bk ms n).getD j false = true ↔ Rch l bk first j := by
  constructor
  · have : ∀ k j, j < n → (itM l bk ms k).getD j false = true → Rch l bk first j := by
      intro k
      induction k with
      | zero => intro j hj hm; exact .here ((h j hj).1 hm)
      | succ k ih =>
        intro j hj hm
        exact mkP_sound (by rw [itM_len, hms]) hl ih _ (Nat.le_refl _) j hj hm
    exact this n j hj
  · intro hr
    have hcl := itM_closed (ms := ms) hms hl
    have hmo : ∀ k j, ms.getD j false = true → (itM l bk ms k).getD j false = true := by
      intro k
      induction k with
      | zero => intro j h; exact h
      | succ k ih => intro j h; exact mkP_mono (by rw [itM_len, hms]) hl _ (Nat.le_refl _) (ih j h)
    have : ∀ x, Rch l bk first x → (itM l bk ms n).getD x.toNat false = true := by
      intro x hx
      induction hx with
      | @here x hx =>
        have := hf x hx
        exact hmo n _ ((h x.toNat (by omega)).2 (by rw [show ((x.toNat : Nat) : Int) = x by omega]; exact hx))
      | on _ ha hs ih => exact hcl _ ha (by rw [hs]; exact ih)
    have h2 := this j hr
    simpa using h2
end
end Go.Fw

namespace Go.Fw
open Go Go.Proofs

abbrev zero25 : List SC := [.i 0, .i 0, .v (.slice none 0 0), .v (.slice none 0 0)]

/-- The number that a kept state has: those ahead of it. -/
def TrimTo (p : Nat → Bool) (k : Nat) (to : List Int) (n : Nat) : Prop := to.length = n ∧ ∀ j, j < k → p j = true → to.getD j 0 = (rkB p j : Nat)

set_option maxHeartbeats 16000000 in
set_option maxRecDepth 20000 in
theorem trimOf_c (F : TF) (hF : FRng F) (hs : 0 ≤ F.start ∧ F.start < F.st) (hfin : ∀ n ∈ F.fin, -1 ≤ n) :
    Ct Tryd.prog 15 [fV F] [] (hpF F) 2 (fun v s => ∃ p, UsOk F p ∧ OutPost (kT F p).st (kT F p).start (kT F p).fin (kT F p).arcs 2 v s) := by
  have hst := hF.st
  have hal := hF.arcl
  have hfl := hF.finl
  refine ctC Tryd.tyOk Tryd.func15 rfl (by simp) (by simp) (fr := [(0, fV F)]) rfl ?_
  refine SemC.cut Tryd.tyOk 14 [] (fun _ : Unit => ⟨[(1, .c (.ptr 2 0)), (2, .c (.ptr 3 0)), (3, .c (.sl 4 1 0 F.st.toNat F.st.toNat)), (4, .c (.sl 5 1 0 F.st.toNat F.st.toNat))], hpF F ++ [(2, .box 25 (fCells F)), (3, .box 25 zero25), (4, .arr true 4 .bool (List.replicate F.st.toNat false) 0), (5, .arr true 4 .bool (List.replicate F.st.toNat false) 0)], 6⟩) (fun _ => True) 2 _ _ ?_ ?_
  · repeat' (first | exact rfl | ((conv => whnf); first | (refine qX (fun h => ?_) fun h => ?_ <;> try exact absurd h (by omega)) | refine oN ?_ | refine oM ?_ ?_ | refine bM ?_ ?_ | refine dR ?_))
    all_goals
      (conv => whnf)
      first
      | (refine ⟨(), [], ⟨by rfl, ?_, ?_⟩, trivial⟩; (focus (simp; done)); (focus (simp [fCells, EK.dflt]; done)))
      | (refine ⟨(), [(4, some 5), (5, some 4)], ⟨by rfl, ?_, ?_⟩, trivial⟩; (focus (simp; done)); (focus (simp [fCells, EK.dflt]; done)))
  rintro _ -
  refine SemC.of Tryd.tyOk 14 [] ?_
  repeat' (first | exact rfl | ((conv => whnf); first | (refine qX (fun h => ?_) fun h => ?_ <;> try exact absurd h (by omega)) | refine oN ?_ | refine oM ?_ ?_ | refine bM ?_ ?_ | refine dR ?_))
  (conv => whnf)
  refine loopI (fun z : Nat × List Bool => ⟨[(1, .c (.ptr 2 0)), (2, .c (.ptr 3 0)), (3, .c (.sl 4 1 0 F.st.toNat F.st.toNat)), (4, .c (.sl 5 1 0 F.st.toNat F.st.toNat)), (5, .i z.1)], hpF F ++ [(2, .box 25 (fCells F)), (3, .box 25 zero25), (4, .arr true 4 .bool ((List.replicate F.st.toNat false).set F.start.toNat true) 0), (5, .arr true 4 .bool z.2 0)], 6⟩)
    (fun z => z.1 ≤ F.st.toNat ∧ z.2.length = F.st.toNat ∧ ∀ j, j < z.1 → (z.2.getD j false = true ↔ F.fin.getD j 0 ≠ -1)) (fun z => F.st.toNat - z.1) (0, List.replicate F.st.toNat false) [] ⟨by rfl, ?_, ?_⟩ ⟨Nat.zero_le _, by simp, fun j h => absurd h (Nat.not_lt_zero _)⟩ ?_
  · simp
  · simp [fCells, EK.dflt]
  · rintro ⟨k, on⟩ ⟨hk, hol, ho⟩
    simp only at hk hol ho ⊢
    (conv => whnf)
    refine condP_dec (fun hk2 => ?_) (fun hk2 => ?_)
    · have e0 : 0 + (k : Int).toNat = k := by omega
      have hfk := hfin _ (getD_mem F.fin k 0 (by omega))
      repeat' (first | exact rfl | ((conv => whnf); first | (refine qX (fun h => ?_) fun h => ?_ <;> try exact absurd h (by omega)) | refine oN ?_ | refine oM ?_ ?_ | refine bM ?_ ?_ | refine dR ?_))
      (conv => whnf)
      refine ⟨(k + 1, on.set (0 + (k : Int).toNat) (decide (F.fin.getD (0 + (k : Int).toNat) EK.int.dflt ≥ 0))), [], ⟨by rfl, ?_, ?_⟩, ⟨by simp only; omega, by simp [hol], fun j hj => ?_⟩, by simp only; omega⟩
      · simp
      · simp [fCells]
      · simp only at hj ⊢
        rw [e0, setB_getD _ _ _ _ (by omega)]
        by_cases e : j = k
        · rw [if_pos e, e, decide_eq_true_eq]
          have : F.fin.getD k EK.int.dflt = F.fin.getD k 0 := rfl
          rw [this]
          omega
        · rw [if_neg e]; exact ho j (by omega)
    · have e : k = F.st.toNat := by omega
      subst e
      have hsrF := fun a ha => hF.src (bk := false) (a := a) ha
      have hsrT := fun a ha => hF.src (bk := true) (a := a) ha
      have hth0 : ((List.replicate F.st.toNat false).set F.start.toNat true).length = F.st.toNat := by simp
      have hthi : ∀ j : Nat, j < F.st.toNat → (((List.replicate F.st.toNat false).set F.start.toNat true).getD j false = true ↔ (j : Int) ∈ [F.start]) := by
        intro j hj
        rw [setB_getD _ _ _ _ (by simp; omega)]
        by_cases e : j = F.start.toNat
        · rw [if_pos e]; simp; omega
        · rw [if_neg e]
          simp [List.getD, hj]
          omega
      generalize hth : (List.replicate F.st.toNat false).set F.start.toNat true = th0 at *
      repeat' (first | exact rfl | ((conv => whnf); first | (refine qX (fun h => ?_) fun h => ?_ <;> try exact absurd h (by omega)) | refine oN ?_ | refine oM ?_ ?_ | refine bM ?_ ?_ | refine dR ?_))
      (conv => whnf)
      refine loopI (fun n : Nat => ⟨[(1, .c (.ptr 2 0)), (2, .c (.ptr 3 0)), (3, .c (.sl 4 1 0 F.st.toNat F.st.toNat)), (4, .c (.sl 5 1 0 F.st.toNat F.st.toNat)), (6, .i n)], hpF F ++ [(2, .box 25 (fCells F)), (3, .box 25 zero25), (4, .arr true 4 .bool (itM F.arcs false th0 n) 0), (5, .arr true 4 .bool (itM F.arcs true on n) 0)], 6⟩)
        (fun n => n ≤ F.st.toNat) (fun n => F.st.toNat - n) 0 [] ⟨by rfl, ?_, ?_⟩ (Nat.zero_le _) ?_
      · simp
      · simp [fCells, itM]
      · clear hk2
        intro n hn
        (conv => whnf)
        refine condP_dec (fun hn2 => ?_) (fun hn2 => ?_)
        · have hT1 : itM F.arcs false th0 (n + 1) = mkP F.arcs false (itM F.arcs false th0 n) F.arcs.length := rfl
          have hT2 : itM F.arcs true on (n + 1) = mkP F.arcs true (itM F.arcs true on n) F.arcs.length := rfl
          have hl1 : (itM F.arcs false th0 n).length = F.st.toNat := by rw [itM_len, hth0]
          have hl2 : (itM F.arcs true on n).length = F.st.toNat := by rw [itM_len, hol]
          generalize hg1 : itM F.arcs false th0 n = t1 at *
          generalize hg2 : itM F.arcs true on n = o1 at *
          repeat' (first | exact rfl | ((conv => whnf); first | (refine qX (fun h => ?_) fun h => ?_ <;> try exact absurd h (by omega)) | refine oN ?_ | refine oM ?_ ?_ | refine bM ?_ ?_ | refine dR ?_))
          (conv => whnf)
          refine loopI (fun k : Nat => ⟨[(1, .c (.ptr 2 0)), (2, .c (.ptr 3 0)), (3, .c (.sl 4 1 0 F.st.toNat F.st.toNat)), (4, .c (.sl 5 1 0 F.st.toNat F.st.toNat)), (6, .i n), (7, .i k)], hpF F ++ [(2, .box 25 (fCells F)), (3, .box 25 zero25), (4, .arr true 4 .bool (mkP F.arcs false t1 k) 0), (5, .arr true 4 .bool (mkP F.arcs true o1 k) 0)], 6⟩)
            (fun k => k ≤ F.arcs.length) (fun k => F.arcs.length - k) 0 [] ⟨by rfl, ?_, ?_⟩ (Nat.zero_le _) ?_
          · simp
          · simp [fCells, mkP]
          · intro k hk
            have hm1 : (mkP F.arcs false t1 k).length = F.st.toNat := by rw [mkP_len, hl1]
            have hm2 : (mkP F.arcs true o1 k).length = F.st.toNat := by rw [mkP_len, hl2]
            have hs1 : mkP F.arcs false t1 (k + 1) = (mkP F.arcs false t1 k).set (F.arcs.getD k aD).t.toNat ((mkP F.arcs false t1 k).getD (F.arcs.getD k aD).t.toNat false || (mkP F.arcs false t1 k).getD (F.arcs.getD k aD).f.toNat false) := rfl
            have hs2 : mkP F.arcs true o1 (k + 1) = (mkP F.arcs true o1 k).set (F.arcs.getD k aD).f.toNat ((mkP F.arcs true o1 k).getD (F.arcs.getD k aD).f.toNat false || (mkP F.arcs true o1 k).getD (F.arcs.getD k aD).t.toNat false) := rfl
            generalize hgm1 : mkP F.arcs false t1 k = m1 at *
            generalize hgm2 : mkP F.arcs true o1 k = m2 at *
            (conv => whnf)
            refine condP_dec (fun hk2 => ?_) (fun hk2 => ?_)
            · have e0 : 0 + (k : Int).toNat = k := by omega
              have hb := hF.arc _ (getD_mem F.arcs k aD (by omega))
              have hb1 : (0 ≤ (F.arcs.getD (0 + (k : Int).toNat) EK.arc.dflt).t ∧ (F.arcs.getD (0 + (k : Int).toNat) EK.arc.dflt).t < F.st) ∧ 0 ≤ (F.arcs.getD (0 + (k : Int).toNat) EK.arc.dflt).f ∧ (F.arcs.getD (0 + (k : Int).toNat) EK.arc.dflt).f < F.st := by rw [e0]; exact ⟨hb.2.2, hb.1, hb.2.1⟩
              have hs1 : mkP F.arcs false t1 (k + 1) = m1.set (0 + (F.arcs.getD (0 + (k : Int).toNat) EK.arc.dflt).t.toNat) (m1.getD (0 + (F.arcs.getD (0 + (k : Int).toNat) EK.arc.dflt).t.toNat) EK.bool.dflt || m1.getD (0 + (F.arcs.getD (0 + (k : Int).toNat) EK.arc.dflt).f.toNat) EK.bool.dflt) := by rw [e0, Nat.zero_add, Nat.zero_add]; exact hs1
              have hs2 : mkP F.arcs true o1 (k + 1) = m2.set (0 + (F.arcs.getD (0 + (k : Int).toNat) EK.arc.dflt).f.toNat) (m2.getD (0 + (F.arcs.getD (0 + (k : Int).toNat) EK.arc.dflt).f.toNat) EK.bool.dflt || m2.getD (0 + (F.arcs.getD (0 + (k : Int).toNat) EK.arc.dflt).t.toNat) EK.bool.dflt) := by rw [e0, Nat.zero_add, Nat.zero_add]; exact hs2
              repeat' (first | exact rfl | ((conv => whnf); first | (refine qX (fun h => ?_) fun h => ?_ <;> try exact absurd h (by omega)) | refine oN ?_ | refine oM ?_ ?_ | refine bM ?_ ?_ | refine dR ?_))
              all_goals
                rename_i g
                rw [g] at hs1
                rw [h] at hs2
                simp only [Bool.true_or, Bool.false_or] at hs1 hs2
                (conv => whnf)
                refine ⟨k + 1, [], ⟨by rfl, ?_, ?_⟩, by omega, by omega⟩
                · simp
                · simp [fCells, hs1, hs2]
            · have e : k = F.arcs.length := by omega
              subst e
              repeat' (first | exact rfl | ((conv => whnf); first | (refine qX (fun h => ?_) fun h => ?_ <;> try exact absurd h (by omega)) | refine oN ?_ | refine oM ?_ ?_ | refine bM ?_ ?_ | refine dR ?_))
              (conv => whnf)
              refine ⟨n + 1, [], ⟨by rfl, ?_, ?_⟩, by omega, by omega⟩
              · simp
              · simp [fCells, hT1, hT2, hgm1, hgm2]
        · have e : n = F.st.toNat := by omega
          subst e
          have hT := fun j (hj : j < F.st.toNat) => itM_iff (n := F.st.toNat) (first := [F.start]) hth0 hsrF (fun x hx => by rw [List.mem_singleton] at hx; omega) hthi hj
          have hO := fun j (hj : j < F.st.toNat) => itM_iff (n := F.st.toNat) (first := endL F.fin F.st.toNat) hol hsrT (fun x hx => by obtain ⟨e, h1, h2, rfl⟩ := (mem_endL _).1 hx; omega) (fun j hj => by
            rw [ho j hj, mem_endL]
            refine ⟨fun h => ⟨j, hj, h, rfl⟩, fun ⟨e, _, h, he⟩ => ?_⟩
            have : j = e := by omega
            rw [this]; exact h) hj
          have hl1 : (itM F.arcs false th0 F.st.toNat).length = F.st.toNat := by rw [itM_len, hth0]
          have hl2 : (itM F.arcs true on F.st.toNat).length = F.st.toNat := by rw [itM_len, hol]
          generalize itM F.arcs false th0 F.st.toNat = T at *
          generalize itM F.arcs true on F.st.toNat = O at *
          have hU : UsOk F (kpB T O) := ⟨fun j hj => by
            unfold kpB
            rw [Bool.and_eq_true, hT j hj, hO j hj]
            constructor
            · rintro ⟨h1, h2⟩
              obtain ⟨e, he, h2⟩ := rch_some.1 h2
              obtain ⟨i, hi, h3, rfl⟩ := (mem_endL _).1 he
              exact ⟨h1, i, hi, h3, h2⟩
            · rintro ⟨h1, i, hi, h3, h2⟩
              exact ⟨h1, rch_some.2 ⟨_, (mem_endL _).2 ⟨i, hi, h3, rfl⟩, h2⟩⟩⟩
          have hT0 : T.getD F.start.toNat false = true := (hT _ (by omega)).2 (.here (by rw [List.mem_singleton]; omega))
          clear hT hO hthi hth ho hsrF hsrT
          generalize hp : kpB T O = p at hU
          repeat' (first | exact rfl | ((conv => whnf); first | (refine qX (fun h => ?_) fun h => ?_ <;> try exact absurd h (by omega)) | refine oN ?_ | refine oM ?_ ?_ | refine bM ?_ ?_ | refine dR ?_))
          · have hp0 : ¬ p F.start.toNat = true := by
              rw [← hp]; unfold kpB; rw [Nat.zero_add] at h; rw [hT0, Bool.true_and]
              simpa [EK.dflt] using h
            (conv => whnf)
            refine ⟨[(2, some 6), (3, none)], [(2, .arr true 3 .int [-1] 0), (3, .arr true 35 .arc [] 0)], 4, .a (.agg [.i 1, .i 0, .sl 2 1 0 1 1, .sl 3 5 0 0 0]), ⟨by rfl, trivial, by simp [nilO]⟩, by simp, p, hU, ?_⟩
            unfold kT
            rw [if_neg hp0]
            exact ⟨0, 0, rfl, rfl⟩
          · have hp0 : p F.start.toNat = true := by
              rw [← hp]; unfold kpB; rw [Nat.zero_add] at h; rw [hT0, Bool.true_and]
              simpa [EK.dflt] using h
            repeat' (first | exact rfl | ((conv => whnf); first | (refine qX (fun h => ?_) fun h => ?_ <;> try exact absurd h (by omega)) | refine oN ?_ | refine oM ?_ ?_ | refine bM ?_ ?_ | refine dR ?_))
            (conv => whnf)
            refine loopI (fun z : Nat × List Int × Nat => ⟨[(1, .c (.ptr 2 0)), (2, .c (.ptr 3 0)), (3, .c (.sl 4 1 0 F.st.toNat F.st.toNat)), (4, .c (.sl 5 1 0 F.st.toNat F.st.toNat)), (9, .c (.ptr 6 0)), (10, .c (.sl 7 1 0 F.st.toNat F.st.toNat)), (11, .i z.1)],
              hpF F ++ [(2, .box 25 (fCells F)), (3, .box 25 zero25), (4, .arr true 4 .bool T 0), (5, .arr true 4 .bool O 0), (6, .box 25 [.i (rkB p z.1), .i 0, .sl 8 1 0 (kfin p F.fin z.1).length ((kfin p F.fin z.1).length + z.2.2), .v (.slice none 0 0)]), (7, .arr true 3 .int z.2.1 0), (8, .arr true 3 .int (kfin p F.fin z.1) z.2.2)], 9⟩)
              (fun z => z.1 ≤ F.st.toNat ∧ TrimTo p z.1 z.2.1 F.st.toNat) (fun z => F.st.toNat - z.1) (0, List.replicate F.st.toNat 0, 0) [(8, none)] ⟨by rfl, ?_, ?_⟩ ⟨Nat.zero_le _, by simp, fun j h => absurd h (Nat.not_lt_zero _)⟩ ?_
            · simp
            · simp [fCells, nilO, rkB, kfin, EK.dflt]
            · rintro ⟨k, to, sp⟩ ⟨hk, htl, hto⟩
              simp only at hk htl hto ⊢
              have hkl := kfin_len p F.fin k
              have hrk := rkB_le p k
              have hkf0 : kfin p F.fin (k + 1) = if p k = true then kfin p F.fin k ++ [F.fin.getD k 0] else kfin p F.fin k := rfl
              have hr0 : rkB p (k + 1) = if p k = true then rkB p k + 1 else rkB p k := rfl
              generalize hpl : kfin p F.fin k = pl at *
              have e0 : 0 + (k : Int).toNat = k := by omega
              have hpk0 : p k = (T.getD (0 + (k : Int).toNat) EK.bool.dflt && O.getD (0 + (k : Int).toNat) EK.bool.dflt) := by rw [← hp, e0]; rfl
              (conv => whnf)
              refine condP_dec (fun hk2 => ?_) (fun hk2 => ?_)
              · repeat' (first | exact rfl | ((conv => whnf); first | (refine qX (fun h => ?_) fun h => ?_ <;> try exact absurd h (by omega)) | refine oN ?_ | refine oM ?_ ?_ | refine bM ?_ ?_ | refine dR ?_))
                · rename_i hT1
                  rw [hT1, h] at hpk0
                  rw [if_pos (show p k = true from hpk0)] at hkf0 hr0
                  repeat' (first | exact rfl | ((conv => whnf); first | (refine qX (fun h => ?_) fun h => ?_ <;> try exact absurd h (by omega)) | refine oN ?_ | refine oM ?_ ?_ | refine bM ?_ ?_ | refine dR ?_ | intro _))
                  (conv => whnf)
                  rename_i sp2
                  refine ⟨(k + 1, to.set (0 + (k : Int).toNat) (rkB p k : Nat), sp2), [(8, some 10)], ⟨by rfl, ?_, ?_⟩, ⟨by simp only; omega, by simp [htl], fun j hj hjp => ?_⟩, by simp only; omega⟩
                  · simp
                  · simp [hkf0, hr0, EK.dflt, e0, fCells]
                    simp [app_one]
                  · rw [getD_setJ _ _ _ _ _ (by omega), e0]
                    by_cases ej : j = k
                    · rw [if_pos ej, ej]
                    · rw [if_neg ej]
                      exact hto j (by simp only at hj; omega) hjp
                · rename_i hT1
                  rw [hT1, h, Bool.and_false] at hpk0
                  rw [if_neg (by rw [hpk0]; simp)] at hkf0 hr0
                  (conv => whnf)
                  refine ⟨(k + 1, to, sp), [], ⟨by rfl, ?_, ?_⟩, ⟨by simp only; omega, htl, fun j hj hjp => ?_⟩, by simp only; omega⟩
                  · simp
                  · simp [hkf0, hr0, fCells]
                  · by_cases ej : j = k
                    · rw [ej, hpk0] at hjp; cases hjp
                    · exact hto j (by simp only at hj; omega) hjp
                · rw [h] at hpk0
                  rw [Bool.false_and] at hpk0
                  rw [if_neg (by rw [hpk0]; simp)] at hkf0 hr0
                  (conv => whnf)
                  refine ⟨(k + 1, to, sp), [], ⟨by rfl, ?_, ?_⟩, ⟨by simp only; omega, htl, fun j hj hjp => ?_⟩, by simp only; omega⟩
                  · simp
                  · simp [hkf0, hr0, fCells]
                  · by_cases ej : j = k
                    · rw [ej, hpk0] at hjp; cases hjp
                    · exact hto j (by simp only at hj; omega) hjp
              · have e : k = F.st.toNat := by omega
                subst e
                subst hpl
                have hl0 : to.getD (0 + F.start.toNat) EK.int.dflt = (rkB p F.start.toNat : Nat) := by rw [Nat.zero_add]; exact hto _ (by omega) hp0
                repeat' (first | exact rfl | ((conv => whnf); first | (refine qX (fun h => ?_) fun h => ?_ <;> try exact absurd h (by omega)) | refine oN ?_ | refine oM ?_ ?_ | refine bM ?_ ?_ | refine dR ?_))
                (conv => whnf)
                refine loopI (fun z : Nat × Nat => ⟨[(1, .c (.ptr 2 0)), (2, .c (.ptr 3 0)), (3, .c (.sl 4 1 0 F.st.toNat F.st.toNat)), (4, .c (.sl 5 1 0 F.st.toNat F.st.toNat)), (9, .c (.ptr 6 0)), (10, .c (.sl 7 1 0 F.st.toNat F.st.toNat)), (12, .i z.1)],
                  hpF F ++ [(2, .box 25 (fCells F)), (3, .box 25 zero25), (4, .arr true 4 .bool T 0), (5, .arr true 4 .bool O 0), (6, .box 25 [.i (rkB p F.st.toNat), .i (rkB p F.start.toNat), .sl 8 1 0 (kfin p F.fin F.st.toNat).length ((kfin p F.fin F.st.toNat).length + sp), .sl 9 5 0 (karc p F.arcs z.1).length ((karc p F.arcs z.1).length + z.2)]), (7, .arr true 3 .int to 0), (8, .arr true 3 .int (kfin p F.fin F.st.toNat) sp), (9, .arr true 35 .arc (karc p F.arcs z.1) z.2)], 10⟩)
                  (fun z => z.1 ≤ F.arcs.length) (fun z => F.arcs.length - z.1) (0, 0) [(9, none)] ⟨by rfl, ?_, ?_⟩ (Nat.zero_le _) ?_
                · simp
                · simp [fCells, nilO, karc]
                  exact (show to[F.start.toNat]?.getD 0 = _ from hto _ (by omega) hp0).symm
                · rintro ⟨k, sq⟩ hk2
                  simp only at hk2 ⊢
                  have hlen := karc_len p F.arcs k
                  have hks : karc p F.arcs (k + 1) = if kOk p (F.arcs.getD k aD) = true then karc p F.arcs k ++ [kArc p (F.arcs.getD k aD)] else karc p F.arcs k := rfl
                  (conv => whnf)
                  refine condP_dec (fun hk3 => ?_) (fun hk3 => ?_)
                  · have e0 : 0 + (k : Int).toNat = k := by omega
                    have hb := hF.arc _ (getD_mem F.arcs k aD (by omega))
                    rw [← e0] at hb
                    have hax : F.arcs.getD (0 + (k : Int).toNat) EK.arc.dflt = F.arcs.getD k aD := by rw [e0]; rfl
                    have hb : (0 ≤ (F.arcs.getD (0 + (k : Int).toNat) EK.arc.dflt).f ∧ (F.arcs.getD (0 + (k : Int).toNat) EK.arc.dflt).f < F.st) ∧ 0 ≤ (F.arcs.getD (0 + (k : Int).toNat) EK.arc.dflt).t ∧ (F.arcs.getD (0 + (k : Int).toNat) EK.arc.dflt).t < F.st := ⟨⟨hb.1, hb.2.1⟩, hb.2.2⟩
                    repeat' (first | exact rfl | ((conv => whnf); first | (refine qX (fun h => ?_) fun h => ?_ <;> try exact absurd h (by omega)) | refine oN ?_ | refine oM ?_ ?_ | refine bM ?_ ?_ | refine dR ?_))
                    · rename_i g1 g2 g3
                      have hpf : p (F.arcs.getD k aD).f.toNat = true := by rw [← hp, ← hax]; rw [Nat.zero_add] at g1 g2; exact (congr (congrArg _ g1) g2)
                      have hpt : p (F.arcs.getD k aD).t.toNat = true := by rw [← hp, ← hax]; rw [Nat.zero_add] at g3 h; exact (congr (congrArg _ g3) h)
                      rw [if_pos (by unfold kOk; rw [hpf, hpt]; rfl)] at hks
                      have hl1 : to.getD (0 + (F.arcs.getD (0 + (k : Int).toNat) EK.arc.dflt).f.toNat) EK.int.dflt = (rkB p (F.arcs.getD k aD).f.toNat : Nat) := by rw [Nat.zero_add, hax]; exact hto _ (by rw [← hax]; omega) hpf
                      have hl2 : to.getD (0 + (F.arcs.getD (0 + (k : Int).toNat) EK.arc.dflt).t.toNat) EK.int.dflt = (rkB p (F.arcs.getD k aD).t.toNat : Nat) := by rw [Nat.zero_add, hax]; exact hto _ (by rw [← hax]; omega) hpt
                      repeat' (first | exact rfl | ((conv => whnf); first | (refine qX (fun h => ?_) fun h => ?_ <;> try exact absurd h (by omega)) | refine oN ?_ | refine oM ?_ ?_ | refine bM ?_ ?_ | refine dR ?_ | intro _))
                      (conv => whnf)
                      rw [hl1, hl2, hax]
                      rename_i sp2
                      refine ⟨(k + 1, sp2), [(9, some 12)], ⟨by rfl, ?_, ?_⟩, by simp only; omega, by simp only; omega⟩
                      · simp
                      · simp [hks, fCells]
                        exact (app_one (karc p F.arcs k) _ (kArc p (F.arcs.getD k aD)) rfl).symm
                    all_goals
                      have hno : kOk p (F.arcs.getD k aD) = false := by
                        rw [← hp]
                        unfold kOk kpB
                        rw [← hax]
                        simp only [Nat.zero_add] at *
                        simp_all [EK.dflt]
                      rw [hno, if_neg (by simp)] at hks
                      (conv => whnf)
                      refine ⟨(k + 1, sq), [], ⟨by rfl, ?_, ?_⟩, by simp only; omega, by simp only; omega⟩
                      · simp
                      · simp [hks, fCells]
                  · have e : k = F.arcs.length := by omega
                    subst e
                    repeat' (first | exact rfl | ((conv => whnf); first | (refine qX (fun h => ?_) fun h => ?_ <;> try exact absurd h (by omega)) | refine oN ?_ | refine oM ?_ ?_ | refine bM ?_ ?_ | refine dR ?_))
                    (conv => whnf)
                    refine ⟨[(2, some 8), (3, some 9)], [(2, .arr true 3 .int (kfin p F.fin F.st.toNat) sp), (3, .arr true 35 .arc (karc p F.arcs F.arcs.length) sq)], 4, .a (.agg [.i (rkB p F.st.toNat : Nat), .i (rkB p F.start.toNat : Nat), .sl 2 1 0 (kfin p F.fin F.st.toNat).length ((kfin p F.fin F.st.toNat).length + sp), .sl 3 5 0 (karc p F.arcs F.arcs.length).length ((karc p F.arcs F.arcs.length).length + sq)]), ⟨by rfl, trivial, by simp⟩, by simp, p, hU, ?_⟩
                    unfold kT
                    rw [if_pos hp0]
                    exact ⟨sp, sq, rfl, rfl⟩
end Go.Fw

/-
  Trim; what is useful is one thing alone.
-/
namespace Go.Fw
open Go Go.Proofs

theorem rkB_cong {p q : Nat → Bool} : ∀ k, (∀ j, j < k → p j = q j) → rkB p k = rkB q k
  | 0, _ => rfl
  | k + 1, h => by
    have := rkB_cong k fun j hj => h j (by omega)
    unfold rkB
    rw [h k (by omega), this]
theorem kfin_cong {p q : Nat → Bool} (fin : List Int) : ∀ k, (∀ j, j < k → p j = q j) → kfin p fin k = kfin q fin k
  | 0, _ => rfl
  | k + 1, h => by
    have := kfin_cong fin k fun j hj => h j (by omega)
    unfold kfin
    rw [h k (by omega), this]
theorem karc_cong {p q : Nat → Bool} {n : Nat} (hpq : ∀ j, j < n → p j = q j) {l : List Arc} (hl : ∀ a ∈ l, a.f.toNat < n ∧ a.t.toNat < n) : ∀ k, k ≤ l.length → karc p l k = karc q l k
  | 0, _ => rfl
  | k + 1, hk => by
    have ih := karc_cong hpq hl k (by omega)
    have ha := hl _ (getD_mem l k aD (by omega))
    unfold karc kOk kArc
    rw [ih, hpq _ ha.1, hpq _ ha.2, rkB_cong _ fun j hj => hpq j (by omega), rkB_cong (q := q) _ fun j hj => hpq j (by omega)]

theorem kT_cong {F : TF} (hF : FRng F) (hs : 0 ≤ F.start ∧ F.start < F.st) {p q : Nat → Bool} (hp : UsOk F p) (hq : UsOk F q) : kT F p = kT F q := by
  have hpq : ∀ j, j < F.st.toNat → p j = q j := fun j hj => by
    rw [Bool.eq_iff_iff, hp.iff j hj, hq.iff j hj]
  have h1 := rkB_cong F.st.toNat hpq
  have h2 := kfin_cong F.fin F.st.toNat hpq
  have h3 := karc_cong hpq (l := F.arcs) (fun a ha => by have := hF.arc a ha; omega) F.arcs.length (Nat.le_refl _)
  have h4 := rkB_cong (p := p) (q := q) F.start.toNat fun j hj => hpq j (by omega)
  unfold kT
  rw [hpq _ (by omega), h1, h2, h3, h4]

theorem fstE_rng {F : TF} (h : fstE F = 0) : FRng F ∧ (0 ≤ F.start ∧ F.start < F.st) ∧ ∀ n ∈ F.fin, -1 ≤ n := by
  have hF := fstE_ok h
  have h1 := hF.st
  have h2 := hF.start
  have h3 := hF.finl
  have h4 := hF.arcl
  refine ⟨⟨by omega, by omega, by omega, fun a ha => ?_⟩, by omega, fun n hn => by have := hF.fin n hn; omega⟩
  obtain ⟨q1, q2, q3, q4, q5, q6, q7, q8⟩ := hF.arc a ha
  omega

/-- What is trimmed. -/
def TrimU (F : TF) (st sa : Int) (fin : List Int) (arcs : List Arc) : Prop :=
  (fstE F ≠ 0 ∧ st = 0 ∧ sa = 0 ∧ fin = [] ∧ arcs = []) ∨ (fstE F = 0 ∧ ∃ p, UsOk F p ∧ st = (kT F p).st ∧ sa = (kT F p).start ∧ fin = (kT F p).fin ∧ arcs = (kT F p).arcs)
theorem TrimU.uniq {F : TF} {st sa st' sa' : Int} {fin fin' : List Int} {arcs arcs' : List Arc} (h : TrimU F st sa fin arcs) (h' : TrimU F st' sa' fin' arcs') : st = st' ∧ sa = sa' ∧ fin = fin' ∧ arcs = arcs' := by
  rcases h with ⟨h0, rfl, rfl, rfl, rfl⟩ | ⟨h0, p, hp, rfl, rfl, rfl, rfl⟩ <;> rcases h' with ⟨h1, rfl, rfl, rfl, rfl⟩ | ⟨h1, q, hq, rfl, rfl, rfl, rfl⟩
  · exact ⟨rfl, rfl, rfl, rfl⟩
  · exact absurd h1 h0
  · exact absurd h0 h1
  · obtain ⟨hr, hs, _⟩ := fstE_rng h0
    rw [kT_cong hr hs hp hq]
    exact ⟨rfl, rfl, rfl, rfl⟩
def TrimPost (F : TF) (v : SV) (s : S) : Prop := ∃ st sa fin arcs sp sq, TrimU F st sa fin arcs ∧ v = .tup [.agg [.i st, .i sa, .sl 2 1 0 fin.length (fin.length + sp), .sl 3 5 0 arcs.length (arcs.length + sq)], .c (.i (fstE F))] ∧
  s = ⟨[], [(2, .arr true 3 .int fin sp), (3, .arr true 35 .arc arcs sq)], 4⟩

theorem trim_c (F : TF) (hl : F.fin.length ≤ 9223372036854775807) : Ct Tryd.prog 11 [fV F] [] (hpF F) 2 (TrimPost F) := by
  refine ctW Tryd.tyOk 5 [] Tryd.func11 rfl (by simp) (by simp) (fr := [(0, fV F)]) rfl ?_
  repeat' (first | exact rfl | ((conv => whnf); first | (refine qX (fun h => ?_) fun h => ?_ <;> try exact absurd h (by omega)) | refine oN ?_ | refine oM ?_ ?_ | refine bM ?_ ?_ | refine dR ?_))
  (conv => whnf)
  refine cF (check_c F hl) [0, 1] Tryd.call16 ?_
  rintro _ _ ⟨rfl, rfl⟩
  repeat' (first | exact rfl | ((conv => whnf); first | (refine qX (fun h => ?_) fun h => ?_ <;> try exact absurd h (by omega)) | refine oN ?_ | refine oM ?_ ?_ | refine bM ?_ ?_ | refine dR ?_))
  · (conv => whnf)
    exact ⟨[(2, none), (3, none)], [(2, .arr true 3 .int [] 0), (3, .arr true 35 .arc [] 0)], 4, .tup [.agg [.i 0, .i 0, .sl 2 1 0 0 0, .sl 3 5 0 0 0], .c (.i (fstE F))], ⟨by rfl, trivial, by simp [nilO]⟩, by simp, 0, 0, [], [], 0, 0, .inl ⟨h, rfl, rfl, rfl, rfl⟩, rfl, rfl⟩
  · obtain ⟨hr, hs, _⟩ := fstE_rng h
    (conv => whnf)
    refine cF (useful_c F hr hs) [0, 1] Tryd.call25 ?_
    rintro _ _ ⟨p, hp, sp, sq, rfl, rfl⟩
    have hU : TrimU F (kT F p).st (kT F p).start (kT F p).fin (kT F p).arcs := .inr ⟨h, p, hp, rfl, rfl, rfl, rfl⟩
    generalize kT F p = K at *
    obtain ⟨a, b, c, d, e, f⟩ := K
    repeat' (first | exact rfl | ((conv => whnf); first | (refine qX (fun h => ?_) fun h => ?_ <;> try exact absurd h (by omega)) | refine oN ?_ | refine oM ?_ ?_ | refine bM ?_ ?_ | refine dR ?_))
    (conv => whnf)
    simp only [Nat.reduceAdd, Nat.reduceSub]
    refine ⟨[(2, some 4), (3, some 5)], [(2, .arr true 3 .int c sp), (3, .arr true 35 .arc d sq)], 4, .tup [.agg [.i a, .i b, .sl 2 1 0 c.length (c.length + sp), .sl 3 5 0 d.length (d.length + sq)], .c (.i (fstE F))], ⟨by rfl, trivial, by simp⟩, by simp [h], a, b, c, d, sp, sq, hU, rfl, rfl⟩
end Go.Fw

/-
  (*strings.Builder).WriteString and String: what they leave of all other blocks, block by block; a builder as an object.
-/
namespace Go.Fw
open Go Go.Proofs Go.Shelf Go.RowKit

/-- Where an appended row lies. -/
theorem append_where {P : Program} (w : World) (t u ty e : TypeId) (i : TypeInfo) (ht : P.underlying t = some (.slice e)) (hu : P.underlying u = some .string) (hi : P.info? e = some i) (hz : i.zero = some (.int .u8 0))
    (hsize : i.size = 1) (hby : i.bytes = 1) (v : Value) (n : Nat) (xs : List Value) (hown : w.ownsRow 0 e 1 v n xs) (s : ByteArray) (hbytes : n + s.size ≤ 140737488355328) :
    ∃ v' w', (Builtin.append_ #[t, u] ty #[v, .string s]).run P w = .ok v' w' ∧ w'.ownsRow 0 e 1 v' (n + s.size) (xs ++ Lib.strCells s) ∧ w.grownBy w' v.ownBlock ∧ (v'.ownBlock = none ∨ v'.ownBlock = v.ownBlock ∨ v'.ownBlock = some w.heap.size) := by
  obtain ⟨v', w', hr, h2, h3, h4⟩ := Lib.run_append_own_string (P := P) w 0 t u ty e i ht hu hi hz hsize hby v n xs hown s (by unfold maxLen; omega) hbytes (Nat.zero_le _)
  refine ⟨v', w', hr, h2, h3, ?_⟩
  have hxl : xs.length = n := by simpa using hown.1
  rcases hown.2 with ⟨rfl, rfl⟩ | ⟨g, cap, cur, rfl, hbg, hg, hnc, hcm, hcs, htake⟩
  · by_cases hm : s.size = 0
    · rw [h4.2 ⟨rfl, hm⟩]; exact .inl rfl
    · have hr2 := run_append_nil_string (P := P) w t u ty e i (.int .u8 0) ht hu hi hz s (by omega) (by omega) (by rw [hby]; omega)
      rw [hr2] at hr
      cases hr
      exact .inr (.inr rfl)
  · by_cases hroom : n + s.size ≤ cap
    · have hcs' : cur.size = cap := by simpa using hcs
      have hr2 := Lib.run_append_room_string (P := P) w t u ty e i ht hu hi hsize g n cap cur hg s hroom (by omega)
      rw [hr2] at hr
      cases hr
      exact .inr (.inl rfl)
    · have holds : ∀ j u, xs[j]? = some u → w.cell? ((⟨g, 0, none⟩ : Addr).add j) = some u := hown.cells (g := g) rfl
      have hr2 := Lib.run_append_grow_string (P := P) w t u ty e i (.int .u8 0) ht hu hi hz ⟨g, 0, none⟩ n cap xs (by rw [hsize]; simpa using hxl) holds s (by omega) (by omega) (by rw [hby]; exact growslice_fits (by omega) (by omega))
      rw [hr2] at hr
      cases hr
      exact .inr (.inr rfl)

theorem append_step {P : Program} {w : World} {ops : Array Oper} {rest : List Oper} {o : Oper} {a : Act} {Q : Exit → Act → World → Prop} (hgd : o.guard = none) (sl x : Operand) (t u : TypeId) {e : TypeId}
    (ho : o.op = .call { callee := .builtin .append, args := #[sl, x], argTypes := #[t, u] }) (ht : P.underlying t = some (.slice e)) (hu : P.underlying u = some .string) (i : TypeInfo) (hi : P.info? e = some i) (hz : i.zero = some (.int .u8 0))
    (hsize : i.size = 1) (hby : i.bytes = 1) (v : Value) (n : Nat) (xs : List Value) (hown : w.ownsRow 0 e 1 v n xs) (s : ByteArray) (hs : a.eval sl = v) (hx : a.eval x = .string s) (hbytes : n + s.size ≤ 140737488355328)
    (k : ∀ v' w', w'.ownsRow 0 e 1 v' (n + s.size) (xs ++ Lib.strCells s) → w.grownBy w' v.ownBlock → (v'.ownBlock = none ∨ v'.ownBlock = v.ownBlock ∨ v'.ownBlock = some w.heap.size) → wpList P ops Q rest (a.put o.dst v') w') : wpList P ops Q (o :: rest) a w := by
  refine wpList_plain hgd fun K hK => ?_
  obtain ⟨v', w', hr, k2, k3, k4⟩ := append_where (P := P) w t u o.type e i ht hu hi hz hsize hby v n xs hown s hbytes
  unfold Oper.wp execOp
  simp only [ho, resolve, invoke, builtin, Sem.run_bind, Sem.run_pure, Result.andThen_ok, List.map_toArray, List.map_cons, List.map_nil, hs, hx, hr]
  exact hK _ _ (k v' w' k2 k3 k4)

/-- A builder, written out. -/
structure BldAt (b : Nat) (p v : Value) (l : List UInt8) (w : World) : Prop where
  row : w.heap[b]? = some (.cells #[p, v] 67 (0, 0))
  ptr : p = .pointer none ∨ p = .pointer (some ⟨b, 0, none⟩)
  own : w.ownsRow 0 5 1 v l.length (Lib.byteCells l)
  ne : v.ownBlock ≠ some b

theorem BldAt.is {b : Nat} {p v : Value} {l : List UInt8} {w : World} (h : BldAt b p v l w) : Lib.BuilderAt 67 5 0 b p (Lib.byteCells l) w := ⟨Nat.zero_le _, v, h.row, by rw [Lib.byteCells_length]; exact h.own, h.ne⟩

theorem check_run {b : Nat} {p v : Value} {l : List UInt8} {w : World} (h : BldAt b p v l w) :
    Calls Tryd.prog 52 #[.pointer (some ⟨b, 0, none⟩)] w fun e w' => e = .returned (.tuple #[]) ∧ BldAt b (.pointer (some ⟨b, 0, none⟩)) v l w' ∧ w.grownBy w' (some b) := by
  rcases h.ptr with hp | hp
  · subst hp
    have key : Calls Tryd.prog 52 #[.pointer (some ⟨b, 0, none⟩)] w _ := Any.Builder_copyCheck_fresh { bldLays with } bldX.toX72 b w h.is.cell0 h.is.shape h.is.frozen0
    refine key.mono ?_
    rintro e w' ⟨rfl, rfl⟩
    refine ⟨rfl, ⟨?_, .inr rfl, ?_, h.ne⟩, ⟨rfl, rfl, rfl, by simp [World.setCell], fun k _ hk => Below.heap_setCell _ _ _ _ (fun e => hk (by simp [e]))⟩⟩
    · simp [World.setCell, Array.getElem?_modify, h.row]
    · exact h.own.kept (row := some b) ⟨rfl, rfl, rfl, by simp [World.setCell], fun k _ hk => Below.heap_setCell _ _ _ _ (fun e => hk (by simp [e]))⟩ (Or.inr h.ne)
  · subst hp
    have key : Calls Tryd.prog 52 #[.pointer (some ⟨b, 0, none⟩)] w _ := Any.Builder_copyCheck_used { bldLays with } bldX.toX72 b w h.is.cell0
    refine key.mono ?_
    rintro e w' ⟨rfl, rfl⟩
    exact ⟨rfl, h, ⟨rfl, rfl, rfl, Nat.le_refl _, fun _ _ _ => rfl⟩⟩

theorem strCells_bs (l : List UInt8) : Lib.strCells (bs l) = Lib.byteCells l := by rw [Lib.strCells_eq, bs_data]

/-- The row of a builder behind a write. -/
def RowAt (w : World) (v v' : Value) : Prop := v'.ownBlock = none ∨ v'.ownBlock = v.ownBlock ∨ ∃ k, v'.ownBlock = some k ∧ w.heap.size ≤ k

set_option maxHeartbeats 2000000 in
set_option maxRecDepth 100000 in
theorem write_run {b : Nat} {p v : Value} {l : List UInt8} {w : World} (h : BldAt b p v l w) (s : List UInt8) (hlen : l.length + s.length ≤ 140737488355328) :
    Calls Tryd.prog 26 #[.pointer (some ⟨b, 0, none⟩), .string (bs s)] w fun e w' => e = .returned (.tuple #[.int .i64 s.length, .nilIface]) ∧
      ∃ v', BldAt b (.pointer (some ⟨b, 0, none⟩)) v' (l ++ s) w' ∧ RowAt w v v' ∧ w.heap.size ≤ w'.heap.size ∧ Ext (fun k => k < w.heap.size ∧ k ≠ b ∧ some k ≠ v.ownBlock) w w' := by
  obtain ⟨i0, hi, hz0, hz1, hz2⟩ := info_parts bldX.infoByte
  have u65 : Tryd.prog.underlying 65 = some (.slice 5) := bldLays.t37
  have u9 : Tryd.prog.underlying 9 = some .string := bldLays.t9
  go_enter Tryd.func26, Tryd.ntmps26
  go_wp2_with (go_at_call 52; refine (check_run h).mono ?_)
  rintro e w1 ⟨rfl, h1, hg1⟩
  have c1 : w1.cell? ⟨b, 1, none⟩ = some v := by rw [Lib.cell_of_heap h1.row]; rfl
  have hblt : b < w1.heap.size := (Array.getElem?_eq_some_iff.1 h1.row).1
  go_wp2_with (at_builtin; refine append_step rfl _ _ 65 9 rfl u65 u9 i0 hi hz0 hz1 hz2 v _ _ h1.own (bs s) rfl rfl (by rw [bs_size]; omega) ?_)
  intro v' w2 hown' hgrow hwh
  have hb2 : w2.heap[b]? = some (.cells #[.pointer (some ⟨b, 0, none⟩), v] 67 (0, 0)) := by
    rw [hgrow.block b hblt (fun e => h1.ne e.symm)]
    exact h1.row
  have d0 : w2.cell? ⟨b, 0, none⟩ = some (.pointer (some ⟨b, 0, none⟩)) := by rw [Lib.cell_of_heap hb2]; rfl
  have d1 : w2.cell? ⟨b, 1, none⟩ = some v := by rw [Lib.cell_of_heap hb2]; rfl
  have f1 : w2.frozen? ⟨b, 1, none⟩ = false := Lib.frozen_of_heap hb2 1
  obtain ⟨ao, n', cap, rfl⟩ : ∃ ao n' cap, v' = .slice ao n' cap := by
    rcases hown'.2 with ⟨hv, _⟩ | ⟨g, cap, cur, hv, _⟩
    · exact ⟨_, _, _, hv⟩
    · exact ⟨_, _, _, hv⟩
  go_wp2
  go_ret2
  rw [strCells_bs, ← Lib.byteCells_append, bs_size] at hown'
  have hput := Lib.BuilderAt.put (T := 67) (e := 5) (Nat.zero_le b) hb2 (bs' := Lib.byteCells (l ++ s)) (by rw [Lib.byteCells_length, List.length_append]; exact hown') (by decide)
  obtain ⟨_, v3, hr3, ho3, hn3⟩ := hput
  have hv3 : v3 = .slice ao n' cap := by
    have h3 : (w2.setCell ⟨b, 1, none⟩ (.slice ao n' cap)).heap[b]? = some (.cells #[.pointer (some ⟨b, 0, none⟩), .slice ao n' cap] 67 (0, 0)) := by simp [World.setCell, Array.getElem?_modify, hb2]
    rw [h3] at hr3
    simp at hr3
    exact hr3.symm
  subst hv3
  refine ⟨by rw [bs_size]; rfl, .slice ao n' cap, ⟨hr3, .inr rfl, by rw [Lib.byteCells_length] at ho3; exact ho3, hn3⟩, ?_, ?_, ?_⟩
  · rcases hwh with h | h | h
    · exact .inl h
    · exact .inr (.inl h)
    · exact .inr (.inr ⟨_, h, hg1.size⟩)
  · have := hg1.size
    have := hgrow.size
    simp [World.setCell]
    omega
  · refine ⟨hgrow.os.trans hg1.os, hgrow.tape.trans hg1.tape, hgrow.output.trans hg1.output, ?_, ?_⟩
    · have := hg1.size
      have := hgrow.size
      simp [World.setCell]
      omega
    · rintro k ⟨hk1, hk2, hk3⟩
      rw [Below.heap_setCell _ _ _ _ hk2, hgrow.block k (Nat.lt_of_lt_of_le hk1 hg1.size) hk3]
      exact hg1.block k hk1 (fun e => hk2 (Option.some.inj e))

set_option maxHeartbeats 2000000 in
set_option maxRecDepth 100000 in
theorem string_run {b : Nat} {p v : Value} {l : List UInt8} {w : World} (h : BldAt b p v l w) (h0 : l ≠ []) :
    Calls Tryd.prog 29 #[.pointer (some ⟨b, 0, none⟩)] w fun e w' => e = .returned (.string (bs l)) ∧ Ext (fun k => some k ≠ v.ownBlock) w w' := by
  obtain ⟨hbk, hptr, hown, hne⟩ := h
  have hl0 : l.length ≠ 0 := by simpa using h0
  obtain ⟨g, cap, cur, rfl, hbg, hg, hnc, hcm, hcs, htake⟩ : ∃ g cap cur, v = .slice (some ⟨g, 0, none⟩) l.length cap ∧ 0 ≤ g ∧ w.heap[g]? = some (.cells cur 5 (0, 0)) ∧ l.length ≤ cap ∧ cap ≤ maxLen ∧ cur.size = cap * 1 ∧ cur.toList.take (l.length * 1) = Lib.byteCells l := by
    rcases hown.2 with ⟨_, hz⟩ | hr
    · exact absurd hz hl0
    · exact hr
  have u97 : Tryd.prog.underlying 97 = some (.pointer 5) := strLays.t127
  have c1 : w.drew.cell? ⟨b, 1, none⟩ = some (.slice (some ⟨g, 0, none⟩) l.length cap) := by
    have : w.drew.heap[b]? = some (.cells #[p, .slice (some ⟨g, 0, none⟩) l.length cap] 67 (0, 0)) := hbk
    rw [Lib.cell_of_heap this]; rfl
  have hSD : (Builtin.unsafeSliceData_ #[65] 97 #[.slice (some ⟨g, 0, none⟩) l.length cap]).run Tryd.prog w.drew = .ok (.pointer (some ⟨g, 0, none⟩)) w.drew := Lib.run_unsafeSliceData_row _ _ _ _ _ _ (by omega)
  have hUS : (Builtin.unsafeString_ #[97, 3] 9 #[.pointer (some ⟨g, 0, none⟩), .int .i64 l.length]).run Tryd.prog w.drew = .ok (.string ⟨l.toArray⟩) (w.drew.freeze ⟨g, 0, none⟩ l.length) := by
    refine Lib.run_unsafeString_row w.drew 97 3 9 5 u97 bldX.cellsByte g cur.size (by have hg' : w.drew.heap[g]? = some (.cells cur 5 (0, 0)) := hg; simp [World.shape?, hg']) l h0 (by omega) (by unfold maxLen at hcm; omega) ?_
    intro j x hx
    exact hown.cells (g := g) rfl j (.int .u8 x.toNat) (by simp [Lib.byteCells, hx])
  have hfin : Ext (fun k => some k ≠ (Value.slice (some ⟨g, 0, none⟩) l.length cap).ownBlock) w (w.drew.freeze ⟨g, 0, none⟩ l.length) := by
    have hb := Lib.below_freeze (B := 0) (Below.drew (Below.refl 0 w)) (p := ⟨g, 0, none⟩) (Nat.zero_le _) l.length
    refine ⟨hb.os, hb.tape, hb.output, hb.size, fun k hk => ?_⟩
    have hkg : k ≠ g := fun e => hk (by rw [e]; rfl)
    unfold World.freeze
    split
    · rfl
    · simp [Array.getElem?_modify, Ne.symm hkg]
      rfl
  have mixed := Tryd.mixed
  go_enter Tryd.func29, Tryd.ntmps29
  go_wp2
  go_region_o
  all_goals (go_wp2; go_ret; exact ⟨rfl, hfin⟩)
end Go.Fw

/-
  A builder as an object; its two functions' contracts.
-/
namespace Go.Fw
open Go Go.Proofs

def BldIs (l : List UInt8) (oa : Option Addr) (fp : Nat → Prop) (w : World) : Prop := ∃ b p v, oa = some ⟨b, 0, none⟩ ∧ fp b ∧ BldAt b p v l w ∧ ∀ k, v.ownBlock = some k → fp k
abbrev bldO (l : List UInt8) : SO := .gen (BldIs l)

theorem BldAt.kept {b : Nat} {p v : Value} {l : List UInt8} {w w' : World} (h : BldAt b p v l w) (h1 : w'.heap[b]? = w.heap[b]?) (h2 : ∀ k, v.ownBlock = some k → w'.heap[k]? = w.heap[k]?) : BldAt b p v l w' := by
  refine ⟨h1.trans h.row, h.ptr, ⟨h.own.1, ?_⟩, h.ne⟩
  rcases h.own.2 with hn | ⟨g, cap, cur, rfl, hbg, hg, hr⟩
  · exact .inl hn
  · exact .inr ⟨g, cap, cur, rfl, hbg, (h2 g rfl).trans hg, hr⟩

theorem BldIs.ok {l : List UInt8} {oa : Option Addr} {fp : Nat → Prop} {w : World} {β : Env} {Z : Nat → Prop} (h : BldIs l oa fp w) : SO.ok β Z fp w oa (bldO l) := by
  refine ⟨h, fun w' hw _ => ?_⟩
  obtain ⟨b, p, v, e, hb, hat, hk⟩ := h
  exact ⟨b, p, v, e, hb, hat.kept (hw b hb) (fun k hk2 => hw k (hk k hk2)), hk⟩

theorem write_go {β : Env} {Z : Nat → Prop} {fp : Nat → Nat → Prop} {w : World} {o : SO} (hs : HSat β Z fp ⟨[], [(0, o)], 1⟩ w) {l : List UInt8} (h : BldIs l (β 0) (fp 0) w) (s : List UInt8) (hlen : l.length + s.length ≤ 140737488355328) :
    Calls Tryd.prog 26 ([SV.c (.ptr 0 0), stV s].map (SV.den β) ++ []).toArray w fun e w' => ∃ v β' Z' fp' s', e = .returned (v.den β') ∧ Nxt β Z ⟨[], [(0, o)], 1⟩ w v w' β' Z' fp' ⟨[], s'.hp, s'.nx⟩ ∧
      (v = .tup [.c (.i s.length), .c (.v .nilIface)] ∧ s' = (⟨[], [(0, bldO (l ++ s))], 1⟩ : S)) := by
  obtain ⟨b, p, v, e, hb, hat, hk⟩ := h
  have harg : ([SV.c (.ptr 0 0), stV s].map (SV.den β) ++ []).toArray = #[Value.pointer (some ⟨b, 0, none⟩), .string (bs s)] := by
    simp [SV.den, SA.den, SC.den, e, Addr.add_lit]
  rw [harg]
  refine (write_run hat s hlen).mono ?_
  rintro e' w' ⟨rfl, v', hat', hrow, hsz, hext⟩
  have hfl := fun k hk => hs.flt 0 o rfl k hk
  have hfp : ∀ k, v'.ownBlock = some k → fp 0 k ∨ w.heap.size ≤ k := by
    intro k h'
    rcases hrow with h1 | h1 | ⟨k2, h1, h2⟩
    · rw [h1] at h'; cases h'
    · exact .inl (hk k (h1.symm.trans h'))
    · rw [h1] at h'; cases h'; exact .inr h2
  refine ⟨.tup [.c (.i s.length), .c (.v .nilIface)], β, Z, fun id k => id = 0 ∧ (fp 0 k ∨ v'.ownBlock = some k), ⟨[], [(0, bldO (l ++ s))], 1⟩, rfl, ⟨fun _ _ => rfl, ?_, fun _ h => h, rfl, Nat.le_refl _, ⟨?_, ?_, ?_, ?_, ?_⟩, ?_⟩, rfl, rfl⟩
  · refine hext.mono fun k hz => ⟨hs.zlt k hz, fun e => ?_, fun e => ?_⟩
    · subst e; exact (hfl _ hb).2 hz
    · exact (hfl k (hk k e.symm)).2 hz
  · exact ⟨hs.zlt'.1, fun k hz => Nat.lt_of_lt_of_le (hs.zlt k hz) hsz⟩
  · rintro id o' hl k ⟨rfl, hf⟩
    rcases hf with hf | hf
    · exact ⟨Nat.lt_of_lt_of_le (hfl k hf).1 hsz, (hfl k hf).2⟩
    · rcases hfp k hf with h1 | h1
      · exact ⟨Nat.lt_of_lt_of_le (hfl k h1).1 hsz, (hfl k h1).2⟩
      · exact ⟨(hat'.own.lt k hf).2, fun hz => absurd (hs.zlt k hz) (by omega)⟩
  · rintro id id' o1 o2 hl hl' hne k ⟨rfl, _⟩ ⟨rfl, _⟩
    exact hne rfl
  · intro id o' hl
    simp only [look_cons] at hl
    split at hl
    · rename_i e0
      subst e0
      cases hl
      exact BldIs.ok ⟨b, _, v', e, ⟨rfl, .inl hb⟩, hat', fun k hk' => ⟨rfl, .inr hk'⟩⟩
    · cases hl
  · intro id o' hl
    simp only [look_cons] at hl
    split at hl
    · rename_i e0
      subst e0
      cases hl
      exact ⟨Nat.one_pos, trivial⟩
    · cases hl
  · simp [SV.lt, SA.lt, SC.lt, Value.oneCell']

theorem write_c (l s : List UInt8) (hlen : l.length + s.length ≤ 140737488355328) :
    Ct Tryd.prog 26 [.c (.ptr 0 0), stV s] [] [(0, bldO l)] 1 (fun v s' => v = .tup [.c (.i s.length), .c (.v .nilIface)] ∧ s' = ⟨[], [(0, bldO (l ++ s))], 1⟩) :=
  fun _ _ _ _ hs => write_go hs (hs.obj 0 _ rfl).1 s hlen

theorem write0_c (s : List UInt8) (hlen : s.length ≤ 140737488355328) :
    Ct Tryd.prog 26 [.c (.ptr 0 0), stV s] [] [(0, .box 67 [.v (.pointer none), .v (.slice none 0 0)])] 1 (fun v s' => v = .tup [.c (.i s.length), .c (.v .nilIface)] ∧ s' = ⟨[], [(0, bldO s)], 1⟩) := by
  intro β Z fp w hs
  obtain ⟨b, e, hb, hh⟩ := hs.obj 0 _ rfl
  have := write_go hs (l := []) ⟨b, .pointer none, .slice none 0 0, e, hb, ⟨hh, .inl rfl, World.ownsRow_nil _ _ _ _, by simp [Value.ownBlock]⟩, fun k hk => by cases hk⟩ s (by simpa using hlen)
  rwa [List.nil_append] at this

theorem string_c (l : List UInt8) (h0 : l ≠ []) : Ct Tryd.prog 29 [.c (.ptr 0 0)] [] [(0, bldO l)] 1 (fun v s' => v = stV l ∧ s' = ⟨[], [], 1⟩) := by
  intro β Z fp w hs
  obtain ⟨b, p, v, e, hb, hat, hk⟩ := (hs.obj 0 _ rfl).1
  have harg : ([SV.c (.ptr 0 0)].map (SV.den β) ++ []).toArray = #[Value.pointer (some ⟨b, 0, none⟩)] := by
    simp [SV.den, SA.den, SC.den, e, Addr.add_lit]
  rw [harg]
  refine (string_run hat h0).mono ?_
  rintro e' w' ⟨rfl, hext⟩
  have hfl := fun k hk => hs.flt 0 _ rfl k hk
  refine ⟨stV l, β, Z, fun _ _ => False, ⟨[], [], 1⟩, rfl, ⟨fun _ _ => rfl, ?_, fun _ h => h, rfl, Nat.le_refl _, ⟨?_, ?_, ?_, ?_, ?_⟩, ?_⟩, rfl, rfl⟩
  · exact hext.mono fun k hz e => (hfl k (hk k e.symm)).2 hz
  · exact ⟨hs.zlt'.1, fun k hz => Nat.lt_of_lt_of_le (hs.zlt k hz) hext.size⟩
  · rintro id o' hl; cases hl
  · rintro id id' o1 o2 hl; cases hl
  · intro id o' hl; cases hl
  · intro id o' hl; cases hl
  · simp [SV.lt, SA.lt, SC.lt, Value.oneCell']
end Go.Fw

/-
  The reference's digits of a number.
-/
namespace Go.Fw
open Go Go.Proofs Go.RowKit

set_option maxHeartbeats 2000000 in
set_option maxRecDepth 100000 in
theorem digit_run (n : Nat) (w : World) (h10 : n < 10) : Calls Tryd.prog 32 #[.int .i64 n] w fun e w' => e = .returned (.string (bs (Lib.decDigits n))) ∧ Kept w w' := by
  have hd : (decide ((n : Int) < 10)) = true := decide_eq_true (by omega)
  go_enter Tryd.func32, Tryd.ntmps32
  go_wp2
  obtain ⟨c, hc0⟩ : ∃ c, c = UInt8.ofNat (48 + n) := ⟨_, rfl⟩
  have hb : c.toNat = 48 + n := by
    rw [hc0, UInt8.toNat_ofNat']
    omega
  have hc := run_convert_bytes_back (P := Tryd.prog) (w.alloc (Obj.cells #[Value.int IntKind.u8 (48 + ↑n)] 5)) 65 9 5 ⟨w.heap.size, 0, none⟩ 1 [c] bldLays.t37 bldX.t5 bldLays.t9 (by
    intro j hj
    have : j = 0 := by simpa using hj
    subst this
    have hh := alloc_newB w (Obj.cells #[Value.int IntKind.u8 (48 + ↑n)] 5)
    simp only [Addr.add, World.cell?, hh, if_true]
    simp only [List.getElem_cons_zero, hb]
    rfl)
  rw [show ([c] : List UInt8).length = 1 from rfl] at hc
  rw [hc]
  simp only [Result.andThen]
  rw [Oper.upon_value]
  go_wp2
  go_ret
  refine ⟨?_, rfl, rfl, rfl, by simp, fun b hb => alloc_oldB w _ hb⟩
  rw [Lib.decDigits_one h10, UInt8.ofNat_add]
  rfl
end Go.Fw
