/- Walks of the functions: what each computes. -/
import Derived.Test.YtlpfbhmfddbgdaaS12
import Derived.Test.YtlpfbhmfddbgdaaS06
import Derived.Test.YtlpfbhmfddbgdaaS11
import Derived.Test.YtlpfbhmfddbgdaaS10

set_option linter.unusedSimpArgs false
set_option linter.unusedVariables false

namespace Go.Fw
open Go Go.Proofs

/-- The joiner's cells. -/
abbrev jCells (st : Int) (i j : Nat) (l : List Int) (ar : List Arc) (sp sq : Nat) : List SC := [.i st, .i 0, .sl i 1 0 l.length (l.length + sp), .sl j 5 0 ar.length (ar.length + sq)]

/-- The ends, the arcs taken so far. -/
def finT (d : Int → Int) (l fin : List Int) (k : Nat) : List Int := l ++ (fin.take k).map d
def arcT (st : Int) (ar arcs : List Arc) (k : Nat) : List Arc := ar ++ (arcs.take k).map (shA st)
def stayF (x : Int) : Int := x
def goneF (_ : Int) : Int := -1

end Go.Fw

namespace Go.Fw
open Go Go.Proofs

def cellsAt (F : TF) (i j : Nat) : List SC := [.i F.st, .i F.start, .sl i 1 0 F.fin.length F.capF, .sl j 5 0 F.arcs.length F.capA]
abbrev hp2 (F G : TF) : List (Nat × SO) := [(0, .arr false 3 .int F.fin 0), (1, .arr false 47 .arc F.arcs 0), (2, .arr false 3 .int G.fin 0), (3, .arr false 47 .arc G.arcs 0)]
abbrev two (F G : TF) : List SC := [.i F.st, .i F.start, .sl 0 1 0 F.fin.length F.capF, .sl 1 5 0 F.arcs.length F.capA, .i G.st, .i G.start, .sl 2 1 0 G.fin.length G.capF, .sl 3 5 0 G.arcs.length G.capA]
abbrev onF (F : TF) : List SC := [.i F.st, .i F.start, .sl 0 1 0 F.fin.length F.capF, .sl 1 5 0 F.arcs.length F.capA]
def allE (F G : TF) : Int := if fstE F = 0 then fstE G else fstE F

set_option maxHeartbeats 4000000 in
set_option maxRecDepth 20000 in
theorem all2_c (F G : TF) (hF : F.fin.length ≤ 9223372036854775807) (hG : G.fin.length ≤ 9223372036854775807) : Ct Try.prog 87 [.c (.sl 4 4 0 2 2)] [] ((4, .box 25 (two F G)) :: hp2 F G) 5
    (fun v s => v = .i (allE F G) ∧ s = ⟨[], [(4, .box 25 (two F G))], 5⟩) := by
  refine ctW Try.tyOk 6 [6, 7, 8] Try.func87 rfl (by simp [SV.lt, SA.lt, SC.lt, arcV, fV]) (by simp) (fr := [(0, .c (.sl 4 4 0 2 2))]) rfl ?_
  repeat' (first | exact rfl | ((conv => whnf); first | ((first | refine qA (fun h => ?_) fun h => ?_ | refine qN (fun h => ?_) fun h => ?_ | refine qB (fun h => ?_) fun h => ?_ | refine qC (fun h => ?_) fun h => ?_) <;> try exact absurd h (by omega)) | refine qM (fun h => ?_) fun h => ?_ | refine oM (by (first | omega | (simp only [lenS, InI, nmin, EK.sz]; omega) | (simp only [lenS, InI, nmin, EK.sz] at *; omega))) ?_ | refine oM ?_ ?_ | refine bM ?_ ?_ | refine draw_of Try.mixed Try.tyOk 60 (by kernel_rfl) ?_))
  (conv => whnf)
  refine loopI (fun k : Nat => ⟨[(0, .c (.sl 4 4 0 2 2)), (2, .i 0), (6, .c (.sl 4 4 0 2 2)), (7, .i 2), (8, .i k)], (4, .box 25 (two F G)) :: hp2 F G, 5⟩)
    (fun k => k ≤ 2 ∧ (1 ≤ k → fstE F = 0) ∧ (2 ≤ k → fstE G = 0)) (fun k => 2 - k) 0 [] ⟨by rfl, ?_, ?_⟩ ⟨by omega, by omega, by omega⟩ ?_
  · simp [eqFr, eqHp, eqV, eqA, eqC, eqO, eqCs, eqAs, look_cons, look, rn, EK.cast, EK.sz, eqCaps]
  · simp [eqFr, eqHp, eqV, eqA, eqC, eqO, eqCs, eqAs, look_cons, look, rn, EK.cast, EK.sz, eqCaps]
  · rintro k ⟨hk, h1, h2⟩
    rcases (by omega : k = 0 ∨ k = 1 ∨ k = 2) with rfl | rfl | rfl
    · repeat' (first | exact rfl | ((conv => whnf); first | ((first | refine qA (fun h => ?_) fun h => ?_ | refine qN (fun h => ?_) fun h => ?_ | refine qB (fun h => ?_) fun h => ?_ | refine qC (fun h => ?_) fun h => ?_) <;> try exact absurd h (by omega)) | refine qM (fun h => ?_) fun h => ?_ | refine oM (by (first | omega | (simp only [lenS, InI, nmin, EK.sz]; omega) | (simp only [lenS, InI, nmin, EK.sz] at *; omega))) ?_ | refine oM ?_ ?_ | refine bM ?_ ?_ | refine draw_of Try.mixed Try.tyOk 60 (by kernel_rfl) ?_ | intro _))
      (conv => whnf)
      refine callF (check_c F hF) [0, 1] Try.call60 rfl (by simp [eqLs, eqL, eqO, eqC, eqCs, rn, renOf, look_cons, look, EK.cast]) (by simp [appN, ptrs, eqVL, eqV, eqA, eqC, eqCs, eqAs, eqCaps, EK.sz, rn, renOf, look_cons, look, arcV, fV]) (by simp [appN, ptrs, SV.lt, SA.lt, SC.lt, arcV, fV, lenN]) ?_
      rintro _ _ ⟨rfl, rfl⟩
      repeat' (first | exact rfl | ((conv => whnf); first | ((first | refine qA (fun h => ?_) fun h => ?_ | refine qN (fun h => ?_) fun h => ?_ | refine qB (fun h => ?_) fun h => ?_ | refine qC (fun h => ?_) fun h => ?_) <;> try exact absurd h (by omega)) | refine qM (fun h => ?_) fun h => ?_ | refine oM (by (first | omega | (simp only [lenS, InI, nmin, EK.sz]; omega) | (simp only [lenS, InI, nmin, EK.sz] at *; omega))) ?_ | refine oM ?_ ?_ | refine bM ?_ ?_ | refine draw_of Try.mixed Try.tyOk 60 (by kernel_rfl) ?_ | intro _))
      · (conv => whnf)
        refine ⟨[], [(4, .box 25 (two F G))], 5, .i (allE F G), ⟨by rfl, trivial, by simp [eqFr, eqHp, eqV, eqA, eqC, eqO, eqCs, eqAs, look_cons, look, rn, EK.cast, EK.sz, eqCaps]⟩, ?_, rfl, rfl⟩
        simp [eqV, eqA, eqC, allE, h]
      · (conv => whnf)
        refine ⟨1, [], ⟨by rfl, ?_, ?_⟩, ⟨by omega, fun _ => h, fun _ => absurd ‹_› (by omega)⟩, by omega⟩
        · simp [eqFr, eqHp, eqV, eqA, eqC, eqO, eqCs, eqAs, look_cons, look, rn, EK.cast, EK.sz, eqCaps]
        · simp [eqFr, eqHp, eqV, eqA, eqC, eqO, eqCs, eqAs, look_cons, look, rn, EK.cast, EK.sz, eqCaps]
    · have g1 := h1 (by omega)
      repeat' (first | exact rfl | ((conv => whnf); first | ((first | refine qA (fun h => ?_) fun h => ?_ | refine qN (fun h => ?_) fun h => ?_ | refine qB (fun h => ?_) fun h => ?_ | refine qC (fun h => ?_) fun h => ?_) <;> try exact absurd h (by omega)) | refine qM (fun h => ?_) fun h => ?_ | refine oM (by (first | omega | (simp only [lenS, InI, nmin, EK.sz]; omega) | (simp only [lenS, InI, nmin, EK.sz] at *; omega))) ?_ | refine oM ?_ ?_ | refine bM ?_ ?_ | refine draw_of Try.mixed Try.tyOk 60 (by kernel_rfl) ?_ | intro _))
      (conv => whnf)
      refine callF (check_c G hG) [2, 3] Try.call60 rfl (by simp [eqLs, eqL, eqO, eqC, eqCs, rn, renOf, look_cons, look, EK.cast]) (by simp [appN, ptrs, eqVL, eqV, eqA, eqC, eqCs, eqAs, eqCaps, EK.sz, rn, renOf, look_cons, look, arcV, fV]) (by simp [appN, ptrs, SV.lt, SA.lt, SC.lt, arcV, fV, lenN]) ?_
      rintro _ _ ⟨rfl, rfl⟩
      repeat' (first | exact rfl | ((conv => whnf); first | ((first | refine qA (fun h => ?_) fun h => ?_ | refine qN (fun h => ?_) fun h => ?_ | refine qB (fun h => ?_) fun h => ?_ | refine qC (fun h => ?_) fun h => ?_) <;> try exact absurd h (by omega)) | refine qM (fun h => ?_) fun h => ?_ | refine oM (by (first | omega | (simp only [lenS, InI, nmin, EK.sz]; omega) | (simp only [lenS, InI, nmin, EK.sz] at *; omega))) ?_ | refine oM ?_ ?_ | refine bM ?_ ?_ | refine draw_of Try.mixed Try.tyOk 60 (by kernel_rfl) ?_ | intro _))
      · (conv => whnf)
        refine ⟨[], [(4, .box 25 (two F G))], 5, .i (allE F G), ⟨by rfl, trivial, by simp [eqFr, eqHp, eqV, eqA, eqC, eqO, eqCs, eqAs, look_cons, look, rn, EK.cast, EK.sz, eqCaps]⟩, ?_, rfl, rfl⟩
        simp [eqV, eqA, eqC, allE, g1, h]
      · (conv => whnf)
        refine ⟨2, [], ⟨by rfl, ?_, ?_⟩, ⟨by omega, fun _ => g1, fun _ => h⟩, by omega⟩
        · simp [eqFr, eqHp, eqV, eqA, eqC, eqO, eqCs, eqAs, look_cons, look, rn, EK.cast, EK.sz, eqCaps]
        · simp [eqFr, eqHp, eqV, eqA, eqC, eqO, eqCs, eqAs, look_cons, look, rn, EK.cast, EK.sz, eqCaps]
    · have g1 := h1 (by omega)
      have g2 := h2 (by omega)
      repeat' (first | exact rfl | ((conv => whnf); first | ((first | refine qA (fun h => ?_) fun h => ?_ | refine qN (fun h => ?_) fun h => ?_ | refine qB (fun h => ?_) fun h => ?_ | refine qC (fun h => ?_) fun h => ?_) <;> try exact absurd h (by omega)) | refine qM (fun h => ?_) fun h => ?_ | refine oM (by (first | omega | (simp only [lenS, InI, nmin, EK.sz]; omega) | (simp only [lenS, InI, nmin, EK.sz] at *; omega))) ?_ | refine oM ?_ ?_ | refine bM ?_ ?_ | refine draw_of Try.mixed Try.tyOk 60 (by kernel_rfl) ?_ | intro _))
      (conv => whnf)
      refine ⟨[], [(4, .box 25 (two F G))], 5, .i (allE F G), ⟨by rfl, trivial, by simp [eqFr, eqHp, eqV, eqA, eqC, eqO, eqCs, eqAs, look_cons, look, rn, EK.cast, EK.sz, eqCaps]⟩, ?_, rfl, rfl⟩
      simp [eqV, eqA, eqC, allE, g1, g2]

def readyE (e st ar : Int) : Int := if e ≠ 0 then e else if 198 < st ∨ 2500 < ar then 2 else 0
theorem allE_ok {F G : TF} (h : allE F G = 0) : fstE F = 0 ∧ fstE G = 0 := by
  unfold allE at h
  split at h
  · exact ⟨by assumption, h⟩
  · exact absurd h (by assumption)

end Go.Fw

namespace Go.Fw
open Go Go.Proofs

/-- Is either, both ready? -/
abbrev ready2E (F G : TF) : Int := readyE (allE F G) (F.st + G.st) ((F.arcs.length : Int) + (G.arcs.length : Int))

/-- The joined one. -/
def JoinPost (st : Int) (fin : List Int) (raw : List Arc) (n : Nat) (v : SV) (s : S) : Prop := ∃ zs sp sq, v = .tup [.agg [.i st, .i 0, .sl n 1 0 fin.length (fin.length + sp), .sl (n + 1) 5 0 zs.length (zs.length + sq)], .c (.i 0)] ∧ s = ⟨[], [(n, .arr true 3 .int fin sp), (n + 1, .arr true 47 .arc zs sq)], n + 2⟩ ∧ IsNorm raw zs

end Go.Fw

/-
  One behind the other, again and again: the ways of what is joined.
-/
namespace Go.Fw
open Go

def behindL (F G : TF) : List Arc := F.arcs.map (shA 1) ++ G.arcs.map (shA (1 + F.st)) ++ [silA 0 (1 + F.start) 0] ++ endsL 1 (1 + F.st + G.start) F.fin F.fin.length
def againL (F : TF) : List Arc := F.arcs.map (shA 1) ++ [silA 0 (1 + F.start) 0] ++ endsL 1 0 F.fin F.fin.length

/-- Two words cut in two: the first part by the one, the rest by the other. -/
def Cut2 (P Q : List Int → List Int → Int → Prop) (u v : List Int) (c : Int) : Prop := ∃ u1 u2 v1 v2 c1 c2, u = u1 ++ u2 ∧ v = v1 ++ v2 ∧ P u1 v1 c1 ∧ Q u2 v2 c2 ∧ c = c1 + c2

/-! ### Again -/
inductive Star (P : List Int → List Int → Int → Prop) : List Int → List Int → Int → Prop
  | nil : Star P [] [] 0
  | cons {u1 v1 u2 v2 : List Int} {c1 c2 : Int} (h1 : P u1 v1 c1) (h2 : Star P u2 v2 c2) : Star P (u1 ++ u2) (v1 ++ v2) (c1 + c2)

end Go.Fw

namespace Go.Fw
open Go Go.Proofs

/-- Raw arcs of Behind before the silent arcs of the ends. -/
def behind0 (F G : TF) : List Arc := F.arcs.map (shA 1) ++ G.arcs.map (shA (1 + F.st)) ++ [silA 0 (1 + F.start) 0]
def behindF (F G : TF) : List Int := -1 :: (F.fin.map goneF ++ G.fin)

end Go.Fw

namespace Go.Fw
open Go Go.Proofs

abbrev ready1E (F : TF) : Int := readyE (fstE F) F.st (F.arcs.length : Int)

def again0 (F : TF) : List Arc := F.arcs.map (shA 1) ++ [silA 0 (1 + F.start) 0]
def againF (F : TF) : List Int := 0 :: F.fin.map goneF

end Go.Fw

/-
  What is joined is a transducer again.
-/
namespace Go.Fw
open Go

/-! ### One arc -/
theorem norm_one {a : Arc} {zs : List Arc} (h : IsNorm [a] zs) : zs = [a] := h.uniq ⟨List.pairwise_singleton _ _, fun z hz => hz, fun x hx => ⟨x, hx, Key.refl x, Int.le_refl _⟩⟩

/-- Two states, one arc. -/
theorem one_wt {i o : Int} {cf ca : Nat} {u v : List Int} {c : Int} : Wt ⟨2, 0, [-1, 1], [⟨0, i, o, 1, 5⟩], cf, ca⟩ u v c ↔ u = lab i ∧ v = lab o ∧ c = 6 := by
  constructor
  · rintro ⟨t, d, hw, hf, rfl⟩
    have key2 : ∀ s u v t d, Way [⟨0, i, o, 1, 5⟩] s u v t d → s ≠ 0 → s = t ∧ u = [] ∧ v = [] ∧ d = 0 := by
      intro s u v t d h hs
      cases h with
      | nil => exact ⟨rfl, rfl, rfl, rfl⟩
      | @cons a u v t c ha h =>
        rw [List.mem_singleton] at ha
        subst ha
        exact absurd rfl hs
    have key : ∀ s, Way [⟨0, i, o, 1, 5⟩] s u v t d → (s = t ∧ u = [] ∧ v = [] ∧ d = 0) ∨ (s = 0 ∧ t = 1 ∧ u = lab i ∧ v = lab o ∧ d = 5) := by
      intro s h
      cases h with
      | nil => exact .inl ⟨rfl, rfl, rfl, rfl⟩
      | @cons a u v t c ha h =>
        rw [List.mem_singleton] at ha
        subst ha
        obtain ⟨e1, rfl, rfl, rfl⟩ := key2 _ _ _ _ _ h (by show (1 : Int) ≠ 0; omega)
        exact .inr ⟨rfl, e1.symm, by simp, by simp, rfl⟩
    rcases key 0 hw with ⟨rfl, _, _, _⟩ | ⟨_, rfl, rfl, rfl, rfl⟩
    · exact absurd rfl hf
    · exact ⟨rfl, rfl, rfl⟩
  · rintro ⟨rfl, rfl, rfl⟩
    exact ⟨1, 5, by simpa using Way.one (L := [⟨0, i, o, 1, 5⟩]) (a := ⟨0, i, o, 1, 5⟩) (by simp), by simp, by simp⟩
end Go.Fw

/-
  The best way of all; what is pushed costs the same but for what is told; in the plain.
-/
namespace Go.Fw
open Go

theorem begun_getD {F : TF} {n : Nat} (h : n < F.st.toNat) : (begun F).getD n 0 = begF F.start n := by
  simp [begun, List.getD, h]
theorem begun_ln (F : TF) : (begun F).length = F.st.toNat := by simp [begun]

theorem RN.way {F : TF} (hF : FOk F) {k v : Nat} {c : Int} (h : RN F.arcs (begun F) k v c) : ∃ u w, Way F.arcs F.start u w (v : Int) c := by
  induction h with
  | base h hc =>
    rename_i v
    rw [begun_ln] at h
    rw [begun_getD h] at hc ⊢
    unfold begF at hc ⊢
    split at hc
    · rename_i e
      rw [if_pos e, e]
      exact ⟨[], [], .nil _⟩
    · exact absurd rfl hc
  | step h ha ih =>
    rename_i k a c
    obtain ⟨u, w, ih⟩ := ih
    have h1 := (hF.arc a ha).f0
    have h2 := (hF.arc a ha).t0
    have e1 : (a.f.toNat : Int) = a.f := by omega
    have e2 : (a.t.toNat : Int) = a.t := by omega
    rw [e1] at ih
    rw [e2]
    exact ⟨_, _, ih.snoc ha⟩

theorem Way.rnOf {L : List Arc} {c0 : List Int} {s t : Int} {u v : List Int} {d : Int} (h : Way L s u v t d) : ∀ {k : Nat} {c : Int}, RN L c0 k s.toNat c → ∃ k', RN L c0 k' t.toNat (c + d) := by
  induction h with
  | nil s => intro k c h; exact ⟨k, by simpa using h⟩
  | cons ha h ih =>
    intro k c hr
    obtain ⟨k', h'⟩ := ih (.step hr ha)
    exact ⟨k', by rw [← Int.add_assoc]; exact h'⟩

theorem Way.rn {F : TF} (hF : FOk F) {t : Int} {u v : List Int} {d : Int} (h : Way F.arcs F.start u v t d) : ∃ k, RN F.arcs (begun F) k t.toNat d := by
  have hs := hF.start
  have h1 : F.start.toNat < F.st.toNat := by omega
  have h2 : (begun F).getD F.start.toNat 0 = 0 := by
    rw [begun_getD h1]
    unfold begF
    exact if_pos (by omega)
  have h3 : RN F.arcs (begun F) 0 F.start.toNat 0 := by
    have := RN.base (l := F.arcs) (c0 := begun F) (v := F.start.toNat) (by rw [begun_ln]; exact h1) (by rw [h2]; decide)
    rwa [h2] at this
  obtain ⟨k, hk⟩ := h.rnOf h3
  exact ⟨k, by simpa using hk⟩

theorem Sol.low {F : TF} (hF : FOk F) {D : List Int} (h : Sol F.arcs (begun F) D) : ∀ v, v < (begun F).length → -1 ≤ D.getD v 0 := by
  intro v hv
  by_cases e : D.getD v 0 = -1
  · omega
  · obtain ⟨k, _, hk⟩ := h.s3 v hv e
    have := hk.pos hF.arc (fun v hv => ((begun_bd hF).bd v hv).1)
    omega

/-! ### Pushed -/
structure Pot (F : TF) (D : List Int) : Prop where
  len : D.length = F.fin.length
  low : ∀ v, v < F.fin.length → -1 ≤ D.getD v 0
  fin : ∀ v, v < F.fin.length → Le (D.getD v 0) (F.fin.getD v 0)
  arc : ∀ a ∈ F.arcs, D.getD a.t.toNat 0 ≠ -1 → Le (D.getD a.f.toNat 0) (D.getD a.t.toNat 0 + a.w)

/-- A transducer that was pushed. -/
structure PushIs (F : TF) (D : List Int) (X : TF) : Prop where
  st : X.st = F.st
  start : X.start = F.start
  fin : X.fin = pushF D F.fin F.fin.length
  arcs : X.arcs = pushL D F.arcs

theorem pushL_mem {D : List Int} {l : List Arc} {b : Arc} : b ∈ pushL D l ↔ ∃ a ∈ l, D.getD a.f.toNat 0 ≠ -1 ∧ D.getD a.t.toNat 0 ≠ -1 ∧ b = ⟨a.f, a.i, a.o, a.t, a.w + (D.getD a.t.toNat 0 - D.getD a.f.toNat 0)⟩ := by
  unfold pushL
  rw [List.mem_filterMap]
  constructor
  · rintro ⟨a, ha, h⟩
    unfold pushA at h
    split at h
    · cases h
    · rename_i hh
      cases h
      exact ⟨a, ha, fun c => hh (.inl c), fun c => hh (.inr c), rfl⟩
  · rintro ⟨a, ha, h1, h2, rfl⟩
    refine ⟨a, ha, ?_⟩
    unfold pushA
    rw [if_neg (fun c => by rcases c with c | c; exact h1 c; exact h2 c)]

theorem push_way {F : TF} (hF : FOk F) {D : List Int} (hP : Pot F D) {s t : Int} {u v : List Int} {d : Int} (h : Way F.arcs s u v t d) (ht : D.getD t.toNat 0 ≠ -1) : D.getD s.toNat 0 ≠ -1 ∧ Way (pushL D F.arcs) s u v t (d + D.getD t.toNat 0 - D.getD s.toNat 0) := by
  induction h with
  | nil s => exact ⟨ht, by have : (0 + D.getD s.toNat 0 - D.getD s.toNat 0) = 0 := by omega
                           rw [this]; exact .nil s⟩
  | cons ha h ih =>
    rename_i a u v t c
    obtain ⟨h1, h2⟩ := ih ht
    have hx := hF.arc a ha
    have hn := hF.finl
    have h4 := hP.low a.t.toNat (by have := hx.t0; have := hx.t1; omega)
    have h5 := hP.arc a ha h1 (by have := hx.w0; omega)
    refine ⟨h5.1, ?_⟩
    have h6 : (⟨a.f, a.i, a.o, a.t, a.w + (D.getD a.t.toNat 0 - D.getD a.f.toNat 0)⟩ : Arc) ∈ pushL D F.arcs := pushL_mem.2 ⟨a, ha, h5.1, h1, rfl⟩
    have h7 := Way.cons h6 h2
    have e : (a.w + c + D.getD t.toNat 0 - D.getD a.f.toNat 0) = (a.w + (D.getD a.t.toNat 0 - D.getD a.f.toNat 0)) + (c + D.getD t.toNat 0 - D.getD a.t.toNat 0) := by omega
    rw [e]
    exact h7

theorem push_way' {F : TF} {D : List Int} {s t : Int} {u v : List Int} {d : Int} (h : Way (pushL D F.arcs) s u v t d) (ht : D.getD t.toNat 0 ≠ -1) : D.getD s.toNat 0 ≠ -1 ∧ Way F.arcs s u v t (d - D.getD t.toNat 0 + D.getD s.toNat 0) := by
  induction h with
  | nil s => exact ⟨ht, by have : (0 - D.getD s.toNat 0 + D.getD s.toNat 0) = 0 := by omega
                           rw [this]; exact .nil s⟩
  | cons ha h ih =>
    rename_i b u v t c
    obtain ⟨h1, h2⟩ := ih ht
    obtain ⟨a, ha', h3, h4, rfl⟩ := pushL_mem.1 ha
    refine ⟨h3, ?_⟩
    simp only at h2 h1 ⊢
    have h7 := Way.cons ha' h2
    have e : (a.w + (D.getD a.t.toNat 0 - D.getD a.f.toNat 0)) + c - D.getD t.toNat 0 + D.getD a.f.toNat 0 = a.w + (c - D.getD t.toNat 0 + D.getD a.t.toNat 0) := by omega
    rw [e]
    exact h7

/-- What is pushed costs less by what is told. -/
theorem PushIs.wt {F : TF} {D : List Int} {X : TF} (h : PushIs F D X) (hF : FOk F) (hP : Pot F D) {u v : List Int} {c : Int} : Wt X u v c ↔ Wt F u v (c + D.getD F.start.toNat 0) ∧ D.getD F.start.toNat 0 ≠ -1 := by
  have hs := hF.start
  have hn := hF.finl
  unfold Wt
  rw [h.start, h.arcs, h.fin]
  constructor
  · rintro ⟨t, d, h1, h2, rfl⟩
    have hr : 0 ≤ t ∧ t < F.st := by
      have : ∀ {s t : Int} {u v : List Int} {c : Int}, Way (pushL D F.arcs) s u v t c → 0 ≤ s ∧ s < F.st → 0 ≤ t ∧ t < F.st := by
        intro s t u v c hw
        induction hw with
        | nil s => exact id
        | cons ha h ih =>
          obtain ⟨a, ha', _, _, rfl⟩ := pushL_mem.1 ha
          exact fun _ => ih ⟨(hF.arc a ha').t0, (hF.arc a ha').t1⟩
      exact this h1 hs
    have ht : t.toNat < F.fin.length := by omega
    rw [pushF_getD _ _ _ _ ht] at h2 ⊢
    unfold pushV at h2 ⊢
    by_cases e : F.fin.getD t.toNat 0 = -1
    · rw [if_neg (fun hh => hh.2 e)] at h2; exact absurd e h2
    · rw [if_pos ⟨ht, e⟩]
      have h3 := hP.fin _ ht e
      obtain ⟨h4, h5⟩ := push_way' h1 h3.1
      exact ⟨⟨t, _, h5, e, by omega⟩, h4⟩
  · rintro ⟨⟨t, d, h1, h2, h3⟩, _⟩
    have hr := h1.rng hF.arc hs
    have ht : t.toNat < F.fin.length := by omega
    have h4 := hP.fin _ ht h2
    have h5 := hP.low _ ht
    obtain ⟨h6, h7⟩ := push_way hF hP h1 h4.1
    refine ⟨t, _, h7, ?_, ?_⟩
    · rw [pushF_getD _ _ _ _ ht]
      unfold pushV
      rw [if_pos ⟨ht, h2⟩]
      omega
    · rw [pushF_getD _ _ _ _ ht]
      unfold pushV
      rw [if_pos ⟨ht, h2⟩]
      omega

/-! ### The way itself -/
inductive GW (arcs : List Arc) (rk : Nat → Nat) (x : Int) : Int → List Int → Int → Prop
  | nil : GW arcs rk x x [] 0
  | cons {n : Nat} {a : Arc} {l : List Int} {c : Int} (hn : arcs[n]? = some a) (hr : rk a.f.toNat < rk a.t.toNat) (h : GW arcs rk x a.t l c) : GW arcs rk x a.f ((n : Int) :: l) (a.w + c)

theorem GW.snoc {arcs : List Arc} {rk : Nat → Nat} {x s : Int} {l : List Int} {c : Int} (h : GW arcs rk x s l c) : ∀ {n : Nat} {a : Arc}, arcs[n]? = some a → a.f = x → rk a.f.toNat < rk a.t.toNat → GW arcs rk a.t s (l ++ [(n : Int)]) (c + a.w) := by
  induction h with
  | nil =>
    intro n a h1 h2 h3
    subst h2
    have := GW.cons h1 h3 (.nil (arcs := arcs) (rk := rk) (x := a.t))
    simpa using this
  | cons h1 h2 h ih =>
    intro n a g1 g2 g3
    rw [Int.add_assoc]
    exact .cons h1 h2 (ih g1 g2 g3)

end Go.Fw

/-
  What score tells is the least of all ways.
-/
namespace Go.Fw
open Go Go.Proofs

theorem fitE_take {l : List Int} {p x : Int} (hp : 0 ≤ p ∧ p ≤ l.length) (h : (fitE l p x).2 = true) : l.take (fitE l p x).1.toNat = l.take p.toNat ++ lab x := by
  unfold fitE lab at *
  by_cases e : x = 0
  · simp [if_pos e]
  · rw [if_neg e] at h ⊢
    rw [if_neg e]
    simp only [decide_eq_true_eq] at h ⊢
    have h1 : (p + 1).toNat = p.toNat + 1 := by omega
    rw [h1, take_succ_getD l p.toNat 0 (by omega), h.2]

section
variable {F : TF} {u v : List Int}

theorem Reach.way (hF : FOk F) {c : Int} {y : Trip} (h : Reach F u v (fromSt F) c y) : InBox F u v y ∧ Way F.arcs F.start (u.take y.b.toNat) (v.take y.c.toNat) y.a c := by
  induction h with
  | here h =>
    obtain ⟨rfl, rfl⟩ := h
    have := hF.start
    refine ⟨⟨this, ⟨Int.le_refl _, ?_⟩, ⟨Int.le_refl _, ?_⟩⟩, .nil _⟩ <;> (show (0 : Int) ≤ _; omega)
  | on h he ih =>
    obtain ⟨hx, hw⟩ := ih
    have hb := he.box hF hx
    refine ⟨hb, ?_⟩
    obtain ⟨a, h1, h2, h3, h4, rfl, rfl⟩ := he
    have ha := List.mem_of_getElem? h1
    rw [← h2] at hw
    simp only
    rw [fitE_take hx.2.1 h3, fitE_take hx.2.2 h4]
    exact hw.snoc ha

theorem fitE_of {u1 u2 : List Int} {x : Int} : (fitE (u1 ++ (lab x ++ u2)) u1.length x).2 = true ∧ (fitE (u1 ++ (lab x ++ u2)) u1.length x).1 = ((u1 ++ lab x).length : Int) := by
  unfold fitE lab
  by_cases e : x = 0
  · simp [if_pos e]
  · rw [if_neg e, if_neg e]
    refine ⟨?_, by simp⟩
    simp only [decide_eq_true_eq, Int.toNat_natCast]
    refine ⟨by simp; omega, ?_⟩
    simp [List.getD]

theorem Way.reach {S : Trip → Int → Prop} {s t : Int} {p q : List Int} {c : Int} (h : Way F.arcs s p q t c) : ∀ {u1 u2 v1 v2 : List Int} {c0 : Int}, u = u1 ++ (p ++ u2) → v = v1 ++ (q ++ v2) → Reach F u v S c0 ⟨s, u1.length, v1.length⟩ →
    Reach F u v S (c0 + c) ⟨t, (u1 ++ p).length, (v1 ++ q).length⟩ := by
  induction h with
  | nil s => intro u1 u2 v1 v2 c0 _ _ h; simpa using h
  | cons ha h ih =>
    rename_i a p q t c
    intro u1 u2 v1 v2 c0 hu hv hr
    obtain ⟨n, hn, he⟩ := List.getElem_of_mem ha
    have f1 := fitE_of (u1 := u1) (u2 := p ++ u2) (x := a.i)
    have f2 := fitE_of (u1 := v1) (u2 := q ++ v2) (x := a.o)
    rw [List.append_assoc] at hu hv
    rw [← hu] at f1
    rw [← hv] at f2
    have hedge : Edge F u v ⟨a.f, u1.length, v1.length⟩ n ⟨a.t, (u1 ++ lab a.i).length, (v1 ++ lab a.o).length⟩ a.w :=
      ⟨a, by rw [List.getElem?_eq_getElem hn, he], rfl, f1.1, f2.1, by rw [f1.2, f2.2], rfl⟩
    have := ih (u1 := u1 ++ lab a.i) (u2 := u2) (v1 := v1 ++ lab a.o) (v2 := v2) (by simp [hu]) (by simp [hv]) (.on hr hedge)
    rw [← Int.add_assoc, ← List.append_assoc, ← List.append_assoc]
    exact this

theorem reach_way (hF : FOk F) {c t : Int} : Reach F u v (fromSt F) c ⟨t, u.length, v.length⟩ ↔ Way F.arcs F.start u v t c := by
  constructor
  · intro h
    have := (h.way hF).2
    simpa using this
  · intro h
    have := h.reach (u := u) (v := v) (S := fromSt F) (u1 := []) (u2 := []) (v1 := []) (v2 := []) (c0 := 0) (by simp) (by simp) (.here ⟨rfl, rfl⟩)
    simpa using this

theorem endF_min {A : Trip → Option Int} {fin : List Int} {p q : Int} (hf : ∀ x ∈ fin, -1 ≤ x) (hA : ∀ y d, A y = some d → 0 ≤ d) : ∀ k, k ≤ fin.length → MinOf (fun c => ∃ (n : Nat) (d : Int), n < k ∧ A ⟨n, p, q⟩ = some d ∧ fin.getD n 0 ≠ -1 ∧ c = d + fin.getD n 0) (endF A fin p q k).2
  | 0, _ => .inl ⟨rfl, fun c h => by obtain ⟨n, d, h, _⟩ := h; omega⟩
  | k + 1, hk => by
    have ih := endF_min (p := p) (q := q) hf hA k (by omega)
    have hfk := hf _ (getD_mem fin k 0 (by omega))
    cases hd : A ⟨k, p, q⟩ with
    | none =>
      rw [endF_none hd]
      rcases ih with ⟨h1, h2⟩ | ⟨h0, ⟨n, d, h1, h2⟩, h3⟩
      · left
        refine ⟨h1, ?_⟩
        rintro c ⟨n, d, g1, g2, g3⟩
        by_cases e : n = k
        · subst e; rw [hd] at g2; cases g2
        · exact h2 c ⟨n, d, by omega, g2, g3⟩
      · right
        refine ⟨h0, ⟨n, d, by omega, h2⟩, ?_⟩
        rintro c ⟨n, d, g1, g2, g3⟩
        by_cases e : n = k
        · subst e; rw [hd] at g2; cases g2
        · exact h3 c ⟨n, d, by omega, g2, g3⟩
    | some d =>
      have hd0 := hA _ _ hd
      by_cases q1 : fin.getD k 0 = -1
      · rw [endF_no hd (.inl q1)]
        rcases ih with ⟨h1, h2⟩ | ⟨h0, ⟨n, d, h1, h2⟩, h3⟩
        · left
          refine ⟨h1, ?_⟩
          rintro c ⟨n, d, g1, g2, g3, g4⟩
          by_cases e : n = k
          · subst e; exact g3 q1
          · exact h2 c ⟨n, d, by omega, g2, g3, g4⟩
        · right
          refine ⟨h0, ⟨n, d, by omega, h2⟩, ?_⟩
          rintro c ⟨n, d, g1, g2, g3, g4⟩
          by_cases e : n = k
          · subst e; exact absurd q1 g3
          · exact h3 c ⟨n, d, by omega, g2, g3, g4⟩
      · by_cases q2 : (endF A fin p q k).2 = -1 ∨ d + fin.getD k 0 < (endF A fin p q k).2
        · rw [endF_yes hd q1 q2]
          right
          refine ⟨by show 0 ≤ d + fin.getD k 0; omega, ⟨k, d, by omega, hd, q1, rfl⟩, ?_⟩
          rintro c ⟨n, d', g1, g2, g3, g4⟩
          by_cases e : n = k
          · subst e; rw [hd] at g2; cases g2; simp only; omega
          · rcases ih with ⟨h1, h2⟩ | ⟨h0, _, h3⟩
            · exact absurd ⟨n, d', by omega, g2, g3, g4⟩ (h2 c)
            · have := h3 c ⟨n, d', by omega, g2, g3, g4⟩
              simp only
              omega
        · rw [endF_no hd (.inr ⟨fun c => q2 (.inl c), fun c => q2 (.inr c)⟩)]
          rcases ih with ⟨h1, h2⟩ | ⟨h0, ⟨n, d', h1, h2⟩, h3⟩
          · exact absurd (.inl h1) q2
          · right
            refine ⟨h0, ⟨n, d', by omega, h2⟩, ?_⟩
            rintro c ⟨n, d', g1, g2, g3, g4⟩
            by_cases e : n = k
            · subst e; rw [hd] at g2; cases g2; omega
            · exact h3 c ⟨n, d', by omega, g2, g3, g4⟩

/-- What score tells. -/
theorem score_min (hF : FOk F) {A : Trip → Option Int} (hA : IsLeast F u v (fromSt F) A) : MinOf (Wt F u v) (endF A F.fin u.length v.length F.fin.length).2 := by
  have hfl := hF.finl
  have hpos : ∀ y d, A y = some d → 0 ≤ d := fun y d h => ((hA.path y d h).way hF).2.pos hF.arc
  have := endF_min (p := u.length) (q := v.length) (fun x hx => (hF.fin x hx).1) hpos F.fin.length (Nat.le_refl _)
  rcases this with ⟨h1, h2⟩ | ⟨h0, ⟨n, d, h1, h2, h3, h4⟩, h5⟩
  · left
    refine ⟨h1, ?_⟩
    rintro c ⟨t, d, g1, g2, g3⟩
    obtain ⟨c', g4, g5⟩ := hA.least _ _ ((reach_way hF).2 g1)
    have hr := g1.rng hF.arc hF.start
    have e : (t.toNat : Int) = t := by omega
    exact h2 _ ⟨t.toNat, c', by omega, by rw [e]; exact g4, g2, rfl⟩
  · right
    refine ⟨h0, ⟨n, d, (reach_way hF).1 (hA.path _ _ h2), by rw [Int.toNat_natCast]; exact h3, by rw [Int.toNat_natCast]; exact h4⟩, ?_⟩
    rintro c ⟨t, d, g1, g2, g3⟩
    obtain ⟨c', g4, g5⟩ := hA.least _ _ ((reach_way hF).2 g1)
    have hr := g1.rng hF.arc hF.start
    have e : (t.toNat : Int) = t := by omega
    have := h5 _ ⟨t.toNat, c', by omega, by rw [e]; exact g4, g2, rfl⟩
    omega
end

theorem endF_bd {A : Trip → Option Int} {fin : List Int} {p q : Int} (hf : ∀ x ∈ fin, x ≤ 1000000000) (hA : ∀ y d, A y = some d → d ≤ 1000000000000000) : ∀ k, k ≤ fin.length → (endF A fin p q k).2 ≤ 1000001000000000
  | 0, _ => by simp [endF]
  | k + 1, hk => by
    have ih := endF_bd (p := p) (q := q) hf hA k (by omega)
    have hfk := hf _ (getD_mem fin k 0 (by omega))
    cases hd : A ⟨k, p, q⟩ with
    | none => rw [endF_none hd]; exact ih
    | some d =>
      have := hA _ _ hd
      by_cases c : fin.getD k 0 ≠ -1 ∧ ((endF A fin p q k).2 = -1 ∨ d + fin.getD k 0 < (endF A fin p q k).2)
      · rw [endF_yes hd c.1 c.2]; show d + fin.getD k 0 ≤ _; omega
      · rw [endF_no hd]
        · exact ih
        · by_cases c1 : fin.getD k 0 = -1
          · exact .inl c1
          · exact .inr ⟨fun e => c ⟨c1, .inl e⟩, fun e => c ⟨c1, .inr e⟩⟩

end Go.Fw

namespace Go.Fw
open Go Go.Proofs

/-- What score answers, whatever it is handed. -/
def ScoreP (F : TF) (u v : List Int) (n : Int) : Prop := (scoreE F u v = 0 → MinOf (Wt F u v) n ∧ n ≤ 1000001000000000) ∧ (scoreE F u v ≠ 0 → n = 0)

set_option maxHeartbeats 4000000 in
set_option maxRecDepth 20000 in
theorem score_b (F : TF) (u v : List Int) (cu cv : Nat) (hl : F.fin.length ≤ 9223372036854775807) (hsc : scoreE F u v = 0) :
    Ct Try.prog 10 [fV F, .c (.sl 2 1 0 u.length cu), .c (.sl 3 1 0 v.length cv)] [] (hpQ F u v) 4 (fun x s => ∃ n, ScoreP F u v n ∧ x = .tup [.c (.i n), .c (.i 0)] ∧ s = ⟨[], [], 4⟩) := by
  have hF : FOk F := by
    refine fstE_ok ?_
    unfold scoreE at hsc
    by_cases h : fstE F = 0
    · exact h
    · rw [if_pos h] at hsc; exact absurd hsc h
  refine ctW Try.tyOk 12 [] Try.func10 rfl (by simp [SV.lt, SA.lt, SC.lt, arcV, fV]) (by simp) (fr := [(0, fV F), (1, .c (.sl 2 1 0 u.length cu)), (2, .c (.sl 3 1 0 v.length cv))]) rfl ?_
  repeat' (first | exact rfl | ((conv => whnf); first | ((first | refine qA (fun h => ?_) fun h => ?_ | refine qN (fun h => ?_) fun h => ?_ | refine qB (fun h => ?_) fun h => ?_ | refine qC (fun h => ?_) fun h => ?_) <;> try exact absurd h (by omega)) | refine qM (fun h => ?_) fun h => ?_ | refine oM (by (first | omega | (simp only [lenS, InI, nmin, EK.sz]; omega) | (simp only [lenS, InI, nmin, EK.sz] at *; omega))) ?_ | refine oM ?_ ?_ | refine bM ?_ ?_ | refine draw_of Try.mixed Try.tyOk 60 (by kernel_rfl) ?_))
  (conv => whnf)
  refine callF (walk_ok F u v cu cv hl hsc) [0, 1, 2, 3] Try.call51 rfl (by simp [eqLs, eqL, eqO, eqC, eqCs, rn, renOf, look_cons, look, EK.cast]) (by simp [appN, ptrs, eqVL, eqV, eqA, eqC, eqCs, eqAs, eqCaps, EK.sz, rn, renOf, look_cons, look, arcV, fV]) (by simp [appN, ptrs, SV.lt, SA.lt, SC.lt, arcV, fV, lenN]) ?_
  rintro _ _ ⟨rows, pi, es, clk, pf, ⟨hm, ord, rk, B, hol, hD, hB, hall⟩, rfl, rfl⟩
  repeat' (first | exact rfl | ((conv => whnf); first | ((first | refine qA (fun h => ?_) fun h => ?_ | refine qN (fun h => ?_) fun h => ?_ | refine qB (fun h => ?_) fun h => ?_ | refine qC (fun h => ?_) fun h => ?_) <;> try exact absurd h (by omega)) | refine qM (fun h => ?_) fun h => ?_ | refine oM (by (first | omega | (simp only [lenS, InI, nmin, EK.sz]; omega) | (simp only [lenS, InI, nmin, EK.sz] at *; omega))) ?_ | refine oM ?_ ?_ | refine bM ?_ ?_ | refine draw_of Try.mixed Try.tyOk 60 (by kernel_rfl) ?_))
  (conv => whnf)
  refine ⟨[], [], 4, .tup [.c (.i (endF (costOf es pf) F.fin u.length v.length F.fin.length).2), .c (.i 0)], ⟨by rfl, trivial, trivial⟩, by simp [eqV, eqA, eqAs, eqC, eqCs], _, ⟨fun _ => ⟨score_min hF (hD.least hall), ?_⟩, fun c => absurd hsc c⟩, rfl, rfl⟩
  refine endF_bd (fun x hx => (hF.fin x hx).2) (fun y d h => ?_) _ (Nat.le_refl _)
  obtain ⟨e, h1, rfl⟩ := Option.map_eq_some_iff.1 h
  have := (hD.cost y e h1).2
  omega

/-- Score. -/
theorem score_a (F : TF) (u v : List Int) (cu cv : Nat) (hl : F.fin.length ≤ 9223372036854775807) :
    Ct Try.prog 10 [fV F, .c (.sl 2 1 0 u.length cu), .c (.sl 3 1 0 v.length cv)] [] (hpQ F u v) 4 (fun x s => ∃ n, ScoreP F u v n ∧ x = .tup [.c (.i n), .c (.i (scoreE F u v))] ∧ s = ⟨[], [], 4⟩) := by
  by_cases h : scoreE F u v = 0
  · refine (score_b F u v cu cv hl h).to ?_
    rintro x s ⟨n, h1, h2, h3⟩
    exact ⟨n, h1, by rw [h2, h], h3⟩
  · refine (score_no F u v cu cv hl h).to ?_
    rintro x s ⟨h2, h3⟩
    exact ⟨0, ⟨fun c => absurd c h, fun _ => rfl⟩, h2, h3⟩
end Go.Fw

namespace Go.Fw
open Go Go.Proofs

theorem min_is {P : Int → Prop} {n k : Int} (h : MinOf P n) (hp : ∀ c, P c ↔ c = k) : n = k := by
  rcases h with ⟨_, h⟩ | ⟨_, h, _⟩
  · exact absurd ((hp k).2 rfl) (h k)
  · exact (hp n).1 h

theorem scoreE_same {X F : TF} (u v : List Int) (h : fstE X = 0) (h2 : fstE F = 0) : scoreE X u v = scoreE F u v := by unfold scoreE; rw [h, h2]

def invT (sp sq : Nat) : TF := ⟨2, 0, [-1, 1], [⟨0, 2, 1, 1, 5⟩], 2 + sp, 1 + sq⟩
def prjT (sp sq : Nat) : TF := ⟨2, 0, [-1, 1], [⟨0, 2, 2, 1, 5⟩], 2 + sp, 1 + sq⟩
theorem inv_fst (sp sq : Nat) : fstE (invT sp sq) = 0 := by
  show fstE (invT 0 0) = 0
  decide
end Go.Fw

/-
  The best of all ways to cut two words; the best of any number of pieces.
-/
namespace Go.Fw
open Go

theorem MinOf.none : MinOf (fun _ => False) (-1) := .inl ⟨rfl, fun _ h => h⟩

/-! ### Cuts, one after the other -/
section
variable (P Q : List Int → List Int → Int → Prop) (u v : List Int)

def LexP (i o : Nat) (c : Int) : Prop := ∃ i' o' a b, (i' < i ∧ o' ≤ v.length ∨ i' = i ∧ o' < o) ∧ P (u.take i') (v.take o') a ∧ Q (u.drop i') (v.drop o') b ∧ c = a + b

variable {P Q u v}

end

/-! ### Any number of pieces -/
inductive StarR (P : List Int → List Int → Int → Prop) : List Int → List Int → Int → Prop
  | nil : StarR P [] [] 0
  | snoc {u1 v1 u2 v2 : List Int} {c1 c2 : Int} (h1 : StarR P u1 v1 c1) (h2 : P u2 v2 c2) : StarR P (u1 ++ u2) (v1 ++ v2) (c1 + c2)

theorem StarR.app {P : List Int → List Int → Int → Prop} {u v u' v' : List Int} {c d : Int} (h : StarR P u v c) (h' : Star P u' v' d) : StarR P (u ++ u') (v ++ v') (c + d) := by
  induction h' generalizing u v c with
  | nil => simpa using h
  | @cons u1 v1 u2 v2 c1 c2 h1 h2 ih =>
    have := ih (h.snoc h1)
    rw [← List.append_assoc, ← List.append_assoc, ← Int.add_assoc]
    exact this

theorem Star.app {P : List Int → List Int → Int → Prop} {u v u' v' : List Int} {c d : Int} (h : Star P u v c) (h' : P u' v' d) : Star P (u ++ u') (v ++ v') (c + d) := by
  induction h with
  | nil => simpa using Star.cons h' .nil
  | @cons u1 v1 u2 v2 c1 c2 h1 h2 ih =>
    rw [List.append_assoc, List.append_assoc, Int.add_assoc]
    exact .cons h1 ih

theorem StarR.pos {P : List Int → List Int → Int → Prop} (hP : ∀ u v c, P u v c → 0 ≤ c) {u v : List Int} {c : Int} (h : StarR P u v c) : 0 ≤ c := by
  induction h with
  | nil => exact Int.le_refl _
  | snoc h1 h2 ih => have := hP _ _ _ h2; omega

/-- The part of a word from a place to a place. -/
def seg (u : List Int) (a b : Nat) : List Int := (u.drop a).take (b - a)

theorem take_seg {u : List Int} {a b : Nat} (h : a ≤ b) : u.take a ++ seg u a b = u.take b := by
  unfold seg
  rw [← List.take_append_drop a (u.take b), List.take_take, Nat.min_eq_left h, List.drop_take]

/-- The table, the cells before a place done. -/
structure AgT (P : List Int → List Int → Int → Prop) (u v : List Int) (B : Int) (i o : Nat) (T : Nat → Nat → Int) : Prop where
  low : ∀ a b, a ≤ u.length → b ≤ v.length → -1 ≤ T a b ∧ T a b ≤ (a + b : Nat) * B
  snd : ∀ a b, a ≤ u.length → b ≤ v.length → 0 ≤ T a b → StarR P (u.take a) (v.take b) (T a b)
  org : T 0 0 = 0
  cpl : ∀ a b a' b' c1 c2, (a' < i ∧ b' ≤ v.length ∨ a' = i ∧ b' < o) → a' ≤ a → b' ≤ b → a ≤ u.length → b ≤ v.length → StarR P (u.take a') (v.take b') c1 → P (seg u a' a) (seg v b' b) c2 → 0 ≤ T a b ∧ T a b ≤ c1 + c2

section
variable {P : List Int → List Int → Int → Prop} {u v : List Int} {B : Int} {i o : Nat} {T : Nat → Nat → Int}

/-- What stands in a cell whose forerunners are done is the best. -/
theorem AgT.fin (h : AgT P u v B i o T) (hP : ∀ u v c, P u v c → 0 ≤ c) (hi : i ≤ u.length) (ho : o ≤ v.length) : MinOf (StarR P (u.take i) (v.take o)) (T i o) := by
  have key : ∀ x y c, StarR P x y c → x = u.take i → y = v.take o → 0 ≤ T i o ∧ T i o ≤ c := by
    intro x y c hs
    induction hs with
    | nil =>
      intro hx hy
      have h1 : i = 0 := by
        have := congrArg List.length hx
        rw [List.length_take] at this
        simp only [List.length_nil] at this
        omega
      have h2 : o = 0 := by
        have := congrArg List.length hy
        rw [List.length_take] at this
        simp only [List.length_nil] at this
        omega
      subst h1 h2
      rw [h.org]
      omega
    | @snoc u1 v1 u2 v2 c1 c2 h1 h2 ih =>
      intro hx hy
      have l1 : u1.length + u2.length = i := by
        have := congrArg List.length hx
        rw [List.length_take, List.length_append] at this
        omega
      have l2 : v1.length + v2.length = o := by
        have := congrArg List.length hy
        rw [List.length_take, List.length_append] at this
        omega
      have e1 : u1 = u.take u1.length := by
        have := congrArg (List.take u1.length) hx
        rw [List.take_left, List.take_take, Nat.min_eq_left (by omega)] at this
        exact this
      have e2 : v1 = v.take v1.length := by
        have := congrArg (List.take v1.length) hy
        rw [List.take_left, List.take_take, Nat.min_eq_left (by omega)] at this
        exact this
      have e3 : u2 = seg u u1.length i := by
        have := congrArg (List.drop u1.length) hx
        rw [List.drop_left, List.drop_take] at this
        exact this
      have e4 : v2 = seg v v1.length o := by
        have := congrArg (List.drop v1.length) hy
        rw [List.drop_left, List.drop_take] at this
        exact this
      have hc2 := hP _ _ _ h2
      by_cases q : u1.length = i ∧ v1.length = o
      · have g := ih (by rw [e1, q.1]) (by rw [e2, q.2])
        omega
      · rw [e1, e2] at h1
        rw [e3, e4] at h2
        exact h.cpl i o u1.length v1.length c1 c2 (by omega) (by omega) (by omega) hi ho h1 h2
  by_cases hn : 0 ≤ T i o
  · exact .inr ⟨hn, h.snd i o hi ho hn, fun c hc => (key _ _ c hc rfl rfl).2⟩
  · have := (h.low i o hi ho).1
    exact .inl ⟨by omega, fun c hc => hn (key _ _ c hc rfl rfl).1⟩

/-- A cell that none comes to is done with. -/
theorem AgT.skip (h : AgT P u v B i o T) (hP : ∀ u v c, P u v c → 0 ≤ c) (hi : i ≤ u.length) (ho : o ≤ v.length) (hn : T i o < 0) : AgT P u v B i (o + 1) T := by
  refine ⟨h.low, h.snd, h.org, fun a b a' b' c1 c2 hl h1 h2 h3 h4 h5 h6 => ?_⟩
  by_cases q : a' = i ∧ b' = o
  · obtain ⟨rfl, rfl⟩ := q
    rcases h.fin hP hi ho with ⟨_, g⟩ | ⟨g, _⟩
    · exact absurd h5 (g c1)
    · omega
  · exact h.cpl a b a' b' c1 c2 (by omega) h1 h2 h3 h4 h5 h6

theorem AgT.row (h : AgT P u v B i (v.length + 1) T) : AgT P u v B (i + 1) 0 T :=
  ⟨h.low, h.snd, h.org, fun a b a' b' c1 c2 hl h1 h2 h3 h4 h5 h6 => h.cpl a b a' b' c1 c2 (by omega) h1 h2 h3 h4 h5 h6⟩

/-- A cell on its way: the cells behind it, up to a place, are told. -/
structure AgW (P : List Int → List Int → Int → Prop) (u v : List Int) (B : Int) (i o x y : Nat) (t : Int) (T : Nat → Nat → Int) : Prop where
  tab : AgT P u v B i o T
  at_ : T i o = t
  don : ∀ x' y' c1 c2, (x' < x ∧ o + y' ≤ v.length ∨ x' = x ∧ y' < y) → i + x' ≤ u.length → o + y' ≤ v.length → StarR P (u.take i) (v.take o) c1 → P (seg u i (i + x')) (seg v o (o + y')) c2 → 0 ≤ T (i + x') (o + y') ∧ T (i + x') (o + y') ≤ c1 + c2

def up2 (T : Nat → Nat → Int) (a b : Nat) (n : Int) : Nat → Nat → Int := fun x y => if x = a ∧ y = b then n else T x y

theorem AgT.start (h : AgT P u v B i o T) : AgW P u v B i o 0 0 (T i o) T := ⟨h, rfl, fun x' y' c1 c2 h => by omega⟩

theorem AgW.done {t : Int} (h : AgW P u v B i o (u.length - i + 1) 0 t T) : AgT P u v B i (o + 1) T := by
  refine ⟨h.tab.low, h.tab.snd, h.tab.org, fun a b a' b' c1 c2 hl h1 h2 h3 h4 h5 h6 => ?_⟩
  by_cases q : a' = i ∧ b' = o
  · obtain ⟨rfl, rfl⟩ := q
    have e1 : a' + (a - a') = a := by omega
    have e2 : b' + (b - b') = b := by omega
    have := h.don (a - a') (b - b') c1 c2 (.inl ⟨by omega, by omega⟩) (by omega) (by omega) h5 (by rw [e1, e2]; exact h6)
    rw [e1, e2] at this
    exact this
  · exact h.tab.cpl a b a' b' c1 c2 (by omega) h1 h2 h3 h4 h5 h6

/-- One more is told. -/
theorem AgW.step {x y : Nat} {t p : Int} (h : AgW P u v B i o x y t T) (hP : ∀ u v c, P u v c → 0 ≤ c) (hB : 0 ≤ B) (ht : 0 ≤ t) (hx : i + x ≤ u.length) (hy : o + y ≤ v.length)
    (hp : MinOf (P (seg u i (i + x)) (seg v o (o + y))) p) (hpB : p ≤ B) (h00 : x = 0 → y = 0 → True) : AgW P u v B i o x (y + 1) t (up2 T (i + x) (o + y) (less (T (i + x) (o + y)) (plus t p))) := by
  have hi : i ≤ u.length := by omega
  have ho : o ≤ v.length := by omega
  have hpl := hp.low
  have hfin := h.tab.fin hP hi ho
  rw [h.at_] at hfin
  obtain ⟨hts, htl⟩ : StarR P (u.take i) (v.take o) t ∧ ∀ c, StarR P (u.take i) (v.take o) c → t ≤ c := by
    rcases hfin with ⟨g, _⟩ | ⟨_, g1, g2⟩
    · omega
    · exact ⟨g1, g2⟩
  have hTl := h.tab.low (i + x) (o + y) hx hy
  have hti := h.tab.low i o hi ho
  rw [h.at_] at hti
  -- the new value
  have hpv : (p < 0 ∧ plus t p = -1) ∨ (0 ≤ p ∧ plus t p = t + p) := by
    unfold plus
    by_cases q : p < 0
    · exact .inl ⟨q, if_pos (.inr q)⟩
    · exact .inr ⟨by omega, if_neg (by omega)⟩
  have hnew : less (T (i + x) (o + y)) (plus t p) = T (i + x) (o + y) ∨ (less (T (i + x) (o + y)) (plus t p) = t + p ∧ 0 ≤ p) := by
    rcases hpv with ⟨q, e⟩ | ⟨q, e⟩ <;> rw [e] <;> unfold less <;> (repeat' split) <;> omega
  have hle : (0 ≤ T (i + x) (o + y) → 0 ≤ less (T (i + x) (o + y)) (plus t p) ∧ less (T (i + x) (o + y)) (plus t p) ≤ T (i + x) (o + y)) ∧ (0 ≤ p → 0 ≤ less (T (i + x) (o + y)) (plus t p) ∧ less (T (i + x) (o + y)) (plus t p) ≤ t + p) := by
    rcases hpv with ⟨q, e⟩ | ⟨q, e⟩ <;> rw [e] <;> unfold less <;> (repeat' split) <;> omega
  have hat : ∀ a b, up2 T (i + x) (o + y) (less (T (i + x) (o + y)) (plus t p)) a b = if a = i + x ∧ b = o + y then less (T (i + x) (o + y)) (plus t p) else T a b := fun a b => rfl
  have hself : x = 0 → y = 0 → less (T (i + x) (o + y)) (plus t p) = t := by
    rintro rfl rfl
    rw [Nat.add_zero, Nat.add_zero, h.at_]
    rcases hpv with ⟨q, e⟩ | ⟨q, e⟩ <;> rw [e] <;> unfold less <;> (repeat' split) <;> omega
  generalize hn : less (T (i + x) (o + y)) (plus t p) = n at *
  refine ⟨⟨fun a b h1 h2 => ?_, fun a b h1 h2 h3 => ?_, ?_, fun a b a' b' c1 c2 hl h1 h2 h3 h4 h5 h6 => ?_⟩, ?_, fun x' y' c1 c2 hl h1 h2 h3 h4 => ?_⟩
  · rw [hat]
    split
    · rename_i e
      rw [e.1, e.2]
      rcases hnew with g | ⟨g, g0⟩
      · rw [g]; exact hTl
      · rw [g]
        refine ⟨by omega, ?_⟩
        by_cases q : x = 0 ∧ y = 0
        · have := hself q.1 q.2
          rw [q.1, q.2]
          simp only [Nat.add_zero]
          omega
        · have e1 : ((i + o : Nat) : Int) * B + B ≤ ((i + x + (o + y) : Nat) : Int) * B := by
            have : ((i + o : Nat) : Int) * B + B = ((i + o : Nat) + 1 : Int) * B := by rw [Int.add_mul, Int.one_mul]
            rw [this]
            exact Int.mul_le_mul_of_nonneg_right (by omega) hB
          omega
    · exact h.tab.low a b h1 h2
  · rw [hat] at h3 ⊢
    split at h3
    · rename_i e
      rw [if_pos e, e.1, e.2]
      rcases hnew with g | ⟨g, g0⟩
      · rw [g] at h3 ⊢; exact h.tab.snd _ _ hx hy h3
      · rw [g]
        have hpp : P (seg u i (i + x)) (seg v o (o + y)) p := hp.is (by omega)
        have := hts.snoc hpp
        rw [take_seg (by omega), take_seg (by omega)] at this
        exact this
    · rename_i e
      rw [if_neg e]
      exact h.tab.snd a b h1 h2 h3
  · rw [hat]
    split
    · rename_i e
      have e1 : x = 0 := by omega
      have e2 : y = 0 := by omega
      have e3 : i = 0 := by omega
      have e4 : o = 0 := by omega
      rw [hself e1 e2, ← h.at_, e3, e4]
      exact h.tab.org
    · exact h.tab.org
  · have g := h.tab.cpl a b a' b' c1 c2 hl h1 h2 h3 h4 h5 h6
    rw [hat]
    split
    · rename_i e
      rw [e.1, e.2] at g
      have := hle.1 g.1
      omega
    · exact g
  · rw [hat]
    split
    · rename_i e
      exact hself (by omega) (by omega)
    · exact h.at_
  · rw [hat]
    split
    · rename_i e
      have e1 : x' = x := by omega
      have e2 : y' = y := by omega
      subst e1 e2
      have g := hp.le h4
      have := hle.2 (by omega)
      have := htl c1 h3
      omega
    · rename_i e
      exact h.don x' y' c1 c2 (by omega) h1 h2 h3 h4
end
end Go.Fw

namespace Go.Fw
open Go Go.Proofs

section
variable {F : TF} {u v : List Int}

theorem plus_min (p q : Int) (hq : -1 ≤ q) : MinOf (fun c => 0 ≤ p ∧ q ≠ -1 ∧ c = p + q) (plus p q) := by
  unfold plus
  by_cases h : p < 0 ∨ q < 0
  · rw [if_pos h]
    refine .inl ⟨rfl, fun c ⟨h1, h2, _⟩ => ?_⟩
    omega
  · rw [if_neg h]
    exact .inr ⟨by omega, ⟨by omega, by omega, rfl⟩, fun c ⟨_, _, e⟩ => by omega⟩

end

end Go.Fw

namespace Go.Fw
open Go Go.Proofs

/-- A row of pieces: what the beginnings cost. -/
def RowVal (F : TF) (u v : List Int) (i : Nat) (l : List Int) (n : Nat) : Prop := l.length = n ∧ ∀ o, o < n → MinOf (Wt F (u.take i) (v.take o)) (l.getD o 0) ∧ l.getD o 0 ≤ 1000000000000000
def PcAt (F : TF) (u v : List Int) (m : List (Addr × List Int × Nat)) (xs : List Sli) (n : Nat) : Prop := xs.length = n ∧ ∀ i, i < n → Hd m (xs.getD i EK.sli.dflt) ∧ RowVal F u v i (rowA m (xs.getD i EK.sli.dflt).a) (v.length + 1)

section
variable {F : TF} {u v : List Int} {m : List (Addr × List Int × Nat)} {xs : List Sli} {n : Nat}

theorem PcAt.cons (h : PcAt F u v m xs n) {a : Addr} (ha : lkA m a = none) (z : List Int × Nat) : PcAt F u v ((a, z) :: m) xs n :=
  ⟨h.1, fun i hi => by
    obtain ⟨h1, h2⟩ := (h.2 i hi).1.cons ha z
    exact ⟨h1, by rw [h2]; exact (h.2 i hi).2⟩⟩

theorem PcAt.snoc (h : PcAt F u v m xs n) {l : List Int} (hl : RowVal F u v n l (v.length + 1)) {a : Addr} (ha : lkA m a = none) {sp cap : Nat} (hc : cap ≤ l.length + sp) : PcAt F u v ((a, l, sp) :: m) (xs ++ [⟨some a, l.length, cap⟩]) (n + 1) := by
  have h1 := h.1
  have h2 := h.cons ha (l, sp)
  refine ⟨by simp [h1], fun i hi => ?_⟩
  rw [getD_snoc]
  by_cases e : i < xs.length
  · rw [if_pos e]
    exact h2.2 i (by omega)
  · rw [if_neg e, if_pos (by omega)]
    have : i = n := by omega
    subst this
    have hk : lkA ((a, l, sp) :: m) a = some (l, sp) := by simp [lkA]
    exact ⟨Hd.of_some rfl hk rfl hc, by rw [rowA_some hk]; exact hl⟩
end

theorem RowVal.snoc {F : TF} {u v : List Int} {i : Nat} {l : List Int} {n : Nat} (h : RowVal F u v i l n) {p : Int} (hp : MinOf (Wt F (u.take i) (v.take n)) p ∧ p ≤ 1000000000000000) : RowVal F u v i (l ++ [p]) (n + 1) := by
  have h1 := h.1
  refine ⟨by simp [h1], fun o ho => ?_⟩
  rw [getD_snoc]
  by_cases e : o < l.length
  · rw [if_pos e]; exact h.2 o (by omega)
  · rw [if_neg e, if_pos (by omega)]
    have : o = n := by omega
    subst this
    exact hp

end Go.Fw

namespace Go.Fw
open Go Go.Proofs

end Go.Fw

namespace Go.Fw
open Go Go.Proofs

abbrev hpY (F G : TF) (u v : List Int) : List (Nat × SO) := [(0, .arr false 3 .int F.fin 0), (1, .arr false 47 .arc F.arcs 0), (2, .arr false 3 .int G.fin 0), (3, .arr false 47 .arc G.arcs 0), (4, .arr false 3 .int u 0), (5, .arr false 3 .int v 0)]

end Go.Fw

namespace Go.Fw
open Go Go.Proofs

/-- Rows in a pool, none on another. -/
structure Tab2 (m : List (Addr × List Int × Nat)) (rows : List Sli) (N : Nat) (L : Nat → List Int) : Prop where
  len : rows.length = N
  hd : ∀ j, j < N → Hd m (rows.getD j EK.sli.dflt)
  row : ∀ j, j < N → rowA m (rows.getD j EK.sli.dflt).a = L j
  dist : ∀ s t b, s < N → t < N → s ≠ t → (rows.getD s EK.sli.dflt).a = some b → (rows.getD t EK.sli.dflt).a ≠ some b

section
variable {m m' : List (Addr × List Int × Nat)} {rows : List Sli} {N : Nat} {L : Nat → List Int}

theorem keepHd {x : Sli} (h : Hd m x) (hk : ∀ b, x.a = some b → lkA m' b = lkA m b) : Hd m' x ∧ rowA m' x.a = rowA m x.a := by
  cases hx : x.a with
  | none =>
    refine ⟨?_, rfl⟩
    unfold Hd at h ⊢
    rw [hx] at h ⊢
    exact h
  | some b =>
    obtain ⟨y, h1, h2, h3⟩ := h.some hx
    have e := hk b hx
    exact ⟨Hd.of_some hx (by rw [e]; exact h1) h2 h3, rowA_congr e⟩

theorem Tab2.keep (h : Tab2 m rows N L) (hk : ∀ j b, j < N → (rows.getD j EK.sli.dflt).a = some b → lkA m' b = lkA m b) : Tab2 m' rows N L :=
  ⟨h.len, fun j hj => (keepHd (h.hd j hj) fun b hb => hk j b hj hb).1, fun j hj => by rw [(keepHd (h.hd j hj) fun b hb => hk j b hj hb).2]; exact h.row j hj, h.dist⟩

theorem Tab2.app (h : Tab2 m rows N L) {j : Nat} {n : Int} {h' : Sli} (hj : j < N) (ha : App m (rows.getD j EK.sli.dflt) [n] m' h') :
    Tab2 m' (rows.set j h') N (fun i => if i = j then L j ++ [n] else L i) := by
  have hl := h.len
  have hjr : j < rows.length := by omega
  generalize hx : rows.getD j EK.sli.dflt = x at ha
  have hdj := h.hd j hj
  have hrj := h.row j hj
  rw [hx] at hdj hrj
  cases ha with
  | stay h => cases h
  | @room a y sp h1 h2 h3 =>
    obtain ⟨y', g1, g2, g3⟩ := hdj.some h1
    rw [h2] at g1
    cases g1
    have hla : lkA (setA m a (y.1 ++ [n], sp)) a = some (y.1 ++ [n], sp) := by rw [lkA_setA, h2]; simp
    have hlb : ∀ b, b ≠ a → lkA (setA m a (y.1 ++ [n], sp)) b = lkA m b := by
      intro b hb
      rw [lkA_setA]
      simp only [hb, if_false]
      cases lkA m b <;> rfl
    have hoth : ∀ s, s < N → s ≠ j → ∀ b, (rows.getD s EK.sli.dflt).a = some b → b ≠ a := by
      intro s hs hsj b hb e
      subst e
      exact h.dist s j b hs hj hsj hb (by rw [hx]; exact h1)
    refine ⟨by rw [List.length_set]; exact hl, ?_, ?_, ?_⟩
    · intro s hs
      rw [getD_setJ _ _ _ _ _ hjr]
      by_cases e : s = j
      · rw [if_pos e]
        refine Hd.of_some rfl hla ?_ ?_
        · simp [g2]
        · simp only [List.length_append, List.length_cons, List.length_nil]
          simp only [List.length_cons, List.length_nil] at h3
          omega
      · rw [if_neg e]
        exact (keepHd (h.hd s hs) fun b hb => hlb b (hoth s hs e b hb)).1
    · intro s hs
      rw [getD_setJ _ _ _ _ _ hjr]
      by_cases e : s = j
      · rw [if_pos e, if_pos e, ← hrj, rowA_some hla, h1, rowA_some h2]
      · rw [if_neg e, if_neg e, ← h.row s hs]
        exact (keepHd (h.hd s hs) fun b hb => hlb b (hoth s hs e b hb)).2
    · intro s t b hs ht hst hb hc
      rw [getD_setJ _ _ _ _ _ hjr] at hb hc
      by_cases es : s = j
      · rw [if_pos es] at hb
        rw [if_neg (fun e => hst (es.trans e.symm))] at hc
        simp only [Option.some.injEq] at hb
        subst hb
        exact hoth t ht (fun e => hst (es.trans e.symm)) _ hc rfl
      · rw [if_neg es] at hb
        by_cases et : t = j
        · rw [if_pos et] at hc
          simp only [Option.some.injEq] at hc
          subst hc
          exact hoth s hs es _ hb rfl
        · rw [if_neg et] at hc
          exact h.dist s t b hs ht hst hb hc
  | @fresh a sp h1 h2 =>
    have hlb : ∀ b, b ≠ a → lkA ((a, rowA m x.a ++ [n], sp) :: m) b = lkA m b := fun b hb => by simp only [lkA, if_neg (Ne.symm hb)]
    have hla : lkA ((a, rowA m x.a ++ [n], sp) :: m) a = some (rowA m x.a ++ [n], sp) := by simp [lkA]
    have hoth : ∀ s, s < N → ∀ b, (rows.getD s EK.sli.dflt).a = some b → b ≠ a := by
      intro s hs b hb e
      subst e
      obtain ⟨z, k1, _⟩ := (h.hd s hs).some hb
      rw [h1] at k1
      cases k1
    refine ⟨by rw [List.length_set]; exact hl, ?_, ?_, ?_⟩
    · intro s hs
      rw [getD_setJ _ _ _ _ _ hjr]
      by_cases e : s = j
      · rw [if_pos e]
        refine Hd.of_some rfl hla ?_ ?_
        · simp [hdj.len]
        · simp [hdj.len]
      · rw [if_neg e]
        exact (keepHd (h.hd s hs) fun b hb => hlb b (hoth s hs b hb)).1
    · intro s hs
      rw [getD_setJ _ _ _ _ _ hjr]
      by_cases e : s = j
      · rw [if_pos e, if_pos e, ← hrj]
        exact rowA_some hla
      · rw [if_neg e, if_neg e, ← h.row s hs]
        exact (keepHd (h.hd s hs) fun b hb => hlb b (hoth s hs b hb)).2
    · intro s t b hs ht hst hb hc
      rw [getD_setJ _ _ _ _ _ hjr] at hb hc
      by_cases es : s = j
      · rw [if_pos es] at hb
        rw [if_neg (fun e => hst (es.trans e.symm))] at hc
        simp only [Option.some.injEq] at hb
        exact hoth t ht b hc hb.symm
      · rw [if_neg es] at hb
        by_cases et : t = j
        · rw [if_pos et] at hc
          simp only [Option.some.injEq] at hc
          exact hoth s hs b hb hc.symm
        · rw [if_neg et] at hc
          exact h.dist s t b hs ht hst hb hc

/-- A cell is set. -/
theorem Tab2.put (h : Tab2 m rows N L) {j k : Nat} {n : Int} (hj : j < N) (hk : k < (L j).length) :
    Tab2 (putA m (rows.getD j EK.sli.dflt).a k n) rows N (fun i => if i = j then (L j).set k n else L i) ∧
    ∀ b, (rows.getD j EK.sli.dflt).a ≠ some b → lkA (putA m (rows.getD j EK.sli.dflt).a k n) b = lkA m b := by
  have hrj := h.row j hj
  have hdj := h.hd j hj
  cases hx : (rows.getD j EK.sli.dflt).a with
  | none =>
    rw [hx] at hrj
    rw [← hrj] at hk
    exact absurd hk (by simp [rowA])
  | some a =>
    obtain ⟨y, g1, g2, g3⟩ := hdj.some hx
    have hy : y.1 = L j := by rw [← hrj, hx, rowA_some g1]
    have e : putA m (some a) k n = setA m a (y.1.set k n, y.2) := by unfold putA; simp [g1]
    rw [e]
    have hla : lkA (setA m a (y.1.set k n, y.2)) a = some (y.1.set k n, y.2) := by rw [lkA_setA, g1]; simp
    have hlb : ∀ b, b ≠ a → lkA (setA m a (y.1.set k n, y.2)) b = lkA m b := by
      intro b hb
      rw [lkA_setA]
      simp only [hb, if_false]
      cases lkA m b <;> rfl
    have hoth : ∀ s, s < N → s ≠ j → ∀ b, (rows.getD s EK.sli.dflt).a = some b → b ≠ a := by
      intro s hs hsj b hb e
      subst e
      exact h.dist s j b hs hj hsj hb hx
    refine ⟨⟨h.len, fun s hs => ?_, fun s hs => ?_, h.dist⟩, fun b hb => hlb b fun e => hb (by rw [e])⟩
    · by_cases e : s = j
      · subst e
        refine Hd.of_some hx hla ?_ ?_
        · show _ = (y.1.set k n).length
          rw [List.length_set]; exact g2
        · show _ ≤ (y.1.set k n).length + y.2
          rw [List.length_set]; exact g3
      · exact (keepHd (h.hd s hs) fun b hb => hlb b (hoth s hs e b hb)).1
    · by_cases e : s = j
      · subst e
        rw [if_pos rfl, hx, rowA_some hla, hy]
      · rw [if_neg e, ← h.row s hs]
        exact (keepHd (h.hd s hs) fun b hb => hlb b (hoth s hs e b hb)).2

theorem Tab2.cong (h : Tab2 m rows N L) {L' : Nat → List Int} (hL : ∀ j, j < N → L j = L' j) : Tab2 m rows N L' := ⟨h.len, h.hd, fun j hj => (h.row j hj).trans (hL j hj), h.dist⟩
end

section
variable {F : TF} {u v : List Int} {m m' : List (Addr × List Int × Nat)} {xs : List Sli} {n : Nat}

theorem PcAt.keep (h : PcAt F u v m xs n) (hk : ∀ j b, j < n → (xs.getD j EK.sli.dflt).a = some b → lkA m' b = lkA m b) : PcAt F u v m' xs n :=
  ⟨h.1, fun i hi => by
    obtain ⟨h1, h2⟩ := keepHd (h.2 i hi).1 (fun b hb => hk i b hi hb)
    exact ⟨h1, by rw [h2]; exact (h.2 i hi).2⟩⟩
end

/-- A row of a table. -/
def rowT (T : Nat → Nat → Int) (n j : Nat) : List Int := (List.range n).map (T j)
theorem rowT_len (T : Nat → Nat → Int) (n j : Nat) : (rowT T n j).length = n := by simp [rowT]
theorem rowT_set (T : Nat → Nat → Int) (n j o : Nat) (x : Int) : (rowT T n j).set o x = rowT (up2 T j o x) n j := by
  apply List.ext_getElem
  · simp [rowT]
  · intro k h1 h2
    simp only [rowT, List.getElem_set, List.getElem_map, List.getElem_range, up2]
    by_cases e : o = k
    · subst e; simp
    · rw [if_neg e, if_neg (fun c => e c.2.symm)]
theorem rowT_other (T : Nat → Nat → Int) (n : Nat) {a j : Nat} (o : Nat) (x : Int) (h : j ≠ a) : rowT (up2 T a o x) n j = rowT T n j := by
  unfold rowT
  apply List.map_congr_left
  intro k _
  unfold up2
  rw [if_neg (fun c => h c.1)]

/-- The table of the best of all, in a pool. -/
theorem Tab2.upd {m : List (Addr × List Int × Nat)} {rows : List Sli} {N n : Nat} {T : Nat → Nat → Int} (h : Tab2 m rows N (rowT T n)) {j k : Nat} {x : Int} (hj : j < N) (hk : k < n) :
    Tab2 (putA m (rows.getD j EK.sli.dflt).a k x) rows N (rowT (up2 T j k x) n) ∧ ∀ b, (rows.getD j EK.sli.dflt).a ≠ some b → lkA (putA m (rows.getD j EK.sli.dflt).a k x) b = lkA m b := by
  obtain ⟨h1, h2⟩ := h.put (n := x) hj (by rw [rowT_len]; exact hk)
  refine ⟨h1.cong fun i hi => ?_, h2⟩
  by_cases e : i = j
  · subst e; rw [if_pos rfl, rowT_set]
  · rw [if_neg e, rowT_other T n k x e]
end Go.Fw

/-
  Composed: the ways of pairs of states.
-/
namespace Go.Fw
open Go

/-- A step from a pair: what it reads, writes, costs, where it leads. -/
structure Stp where
  i : Int
  o : Int
  w : Int
  p : Trip

/-- The steps of a pair by an arc of the first one. -/
def stepA (G : TF) (p : Trip) (a : Arc) : List Stp :=
  if a.f ≠ p.a then [] else (if a.o = 0 ∧ p.c ≠ 2 then [⟨a.i, 0, a.w, ⟨a.t, p.b, 1⟩⟩] else []) ++ G.arcs.flatMap fun b => if b.f = p.b ∧ a.o = b.i ∧ a.o ≠ 0 then [⟨a.i, b.o, a.w + b.w, ⟨a.t, b.t, 0⟩⟩] else []
/-- Those of the second one alone. -/
def stepB (p : Trip) (b : Arc) : List Stp := if b.f = p.b ∧ b.i = 0 then [⟨0, b.o, b.w, ⟨p.a, b.t, 2⟩⟩] else []
def steps (F G : TF) (p : Trip) : List Stp := F.arcs.flatMap (stepA G p) ++ G.arcs.flatMap (stepB p)

theorem mem_stepA {G : TF} {p : Trip} {a : Arc} {s : Stp} : s ∈ stepA G p a ↔ a.f = p.a ∧ ((a.o = 0 ∧ p.c ≠ 2 ∧ s = ⟨a.i, 0, a.w, ⟨a.t, p.b, 1⟩⟩) ∨ ∃ b ∈ G.arcs, b.f = p.b ∧ a.o = b.i ∧ a.o ≠ 0 ∧ s = ⟨a.i, b.o, a.w + b.w, ⟨a.t, b.t, 0⟩⟩) := by
  unfold stepA
  by_cases h : a.f = p.a
  · rw [if_neg (fun c => c h), List.mem_append, List.mem_flatMap]
    constructor
    · rintro (h1 | ⟨b, hb, h1⟩)
      · split at h1
        · rename_i c
          exact ⟨h, .inl ⟨c.1, c.2, by simpa using h1⟩⟩
        · cases h1
      · split at h1
        · rename_i c
          exact ⟨h, .inr ⟨b, hb, c.1, c.2.1, c.2.2, by simpa using h1⟩⟩
        · cases h1
    · rintro ⟨_, ⟨h1, h2, rfl⟩ | ⟨b, hb, h1, h2, h3, rfl⟩⟩
      · left; rw [if_pos ⟨h1, h2⟩]; simp
      · right; exact ⟨b, hb, by rw [if_pos ⟨h1, h2, h3⟩]; simp⟩
  · rw [if_pos h]
    constructor
    · intro h1; cases h1
    · rintro ⟨h1, _⟩; exact absurd h1 h

theorem mem_steps {F G : TF} {p : Trip} {s : Stp} : s ∈ steps F G p ↔ (∃ a ∈ F.arcs, a.f = p.a ∧ a.o = 0 ∧ p.c ≠ 2 ∧ s = ⟨a.i, 0, a.w, ⟨a.t, p.b, 1⟩⟩) ∨ (∃ a ∈ F.arcs, ∃ b ∈ G.arcs, a.f = p.a ∧ b.f = p.b ∧ a.o = b.i ∧ a.o ≠ 0 ∧ s = ⟨a.i, b.o, a.w + b.w, ⟨a.t, b.t, 0⟩⟩) ∨
    (∃ b ∈ G.arcs, b.f = p.b ∧ b.i = 0 ∧ s = ⟨0, b.o, b.w, ⟨p.a, b.t, 2⟩⟩) := by
  unfold steps
  rw [List.mem_append, List.mem_flatMap, List.mem_flatMap]
  constructor
  · rintro (⟨a, ha, h⟩ | ⟨b, hb, h⟩)
    · obtain ⟨h1, ⟨h2, h3, rfl⟩ | ⟨b, hb, h2, h3, h4, rfl⟩⟩ := mem_stepA.1 h
      · exact .inl ⟨a, ha, h1, h2, h3, rfl⟩
      · exact .inr (.inl ⟨a, ha, b, hb, h1, h2, h3, h4, rfl⟩)
    · unfold stepB at h
      split at h
      · rename_i c
        exact .inr (.inr ⟨b, hb, c.1, c.2, by simpa using h⟩)
      · cases h
  · rintro (⟨a, ha, h1, h2, h3, rfl⟩ | ⟨a, ha, b, hb, h1, h2, h3, h4, rfl⟩ | ⟨b, hb, h1, h2, rfl⟩)
    · exact .inl ⟨a, ha, mem_stepA.2 ⟨h1, .inl ⟨h2, h3, rfl⟩⟩⟩
    · exact .inl ⟨a, ha, mem_stepA.2 ⟨h1, .inr ⟨b, hb, h2, h3, h4, rfl⟩⟩⟩
    · refine .inr ⟨b, hb, ?_⟩
      unfold stepB
      rw [if_pos ⟨h1, h2⟩]
      simp

/-- A way of pairs. -/
inductive PWay (F G : TF) : Trip → List Int → List Int → Trip → Int → Prop
  | nil (p : Trip) : PWay F G p [] [] p 0
  | cons {p : Trip} {s : Stp} {u v : List Int} {q : Trip} {c : Int} (hs : s ∈ steps F G p) (h : PWay F G s.p u v q c) : PWay F G p (lab s.i ++ u) (lab s.o ++ v) q (s.w + c)

theorem PWay.app {F G : TF} {p q r : Trip} {u v u' v' : List Int} {c d : Int} (h : PWay F G p u v q c) (h' : PWay F G q u' v' r d) : PWay F G p (u ++ u') (v ++ v') r (c + d) := by
  induction h with
  | nil p => simpa using h'
  | cons hs h ih =>
    rw [List.append_assoc, List.append_assoc, Int.add_assoc]
    exact .cons hs (ih h')

theorem lab_ne {x : Int} (h : x ≠ 0) : lab x = [x] := by unfold lab; rw [if_neg h]

/-- A way of pairs is two ways, one word between. -/
theorem PWay.two {F G : TF} {p q : Trip} {u v : List Int} {c : Int} (h : PWay F G p u v q c) : ∃ w c1 c2, Way F.arcs p.a u w q.a c1 ∧ Way G.arcs p.b w v q.b c2 ∧ c = c1 + c2 := by
  induction h with
  | nil p => exact ⟨[], 0, 0, .nil _, .nil _, rfl⟩
  | cons hs h ih =>
    obtain ⟨w, c1, c2, h1, h2, rfl⟩ := ih
    rcases mem_steps.1 hs with ⟨a, ha, e1, e2, _, rfl⟩ | ⟨a, ha, b, hb, e1, e2, e3, e4, rfl⟩ | ⟨b, hb, e1, e2, rfl⟩
    · refine ⟨w, a.w + c1, c2, ?_, by simpa [lab] using h2, by simp only; omega⟩
      have := Way.cons ha h1
      rw [e1, e2] at this
      simpa [lab] using this
    · refine ⟨lab a.o ++ w, a.w + c1, b.w + c2, ?_, ?_, by simp only; omega⟩
      · have := Way.cons ha h1
        rw [e1] at this
        exact this
      · have := Way.cons hb h2
        rw [e2, ← e3] at this
        exact this
    · refine ⟨w, c1, b.w + c2, by simpa [lab] using h1, ?_, by simp only; omega⟩
      have := Way.cons hb h2
      rw [e1, e2] at this
      simpa [lab] using this

/-- The second one goes alone till a letter comes. -/
theorem Way.till {F G : TF} {b b' : Int} {w v : List Int} {c : Int} (h : Way G.arcs b w v b' c) : ∀ (a k x : Int) (w' : List Int), w = x :: w' → x ≠ 0 → ∃ g ∈ G.arcs, ∃ k' v1 v2 d d2, g.i = x ∧ PWay F G ⟨a, b, k⟩ [] v1 ⟨a, g.f, k'⟩ d ∧ Way G.arcs g.t w' v2 b' d2 ∧ v = v1 ++ (lab g.o ++ v2) ∧ c = d + (g.w + d2) := by
  induction h with
  | nil s => intro a k x w' hw; cases hw
  | @cons g w v t c hg h ih =>
    intro a k x w' hw hx
    by_cases e : g.i = 0
    · rw [e] at hw
      have hw : w = x :: w' := by simpa [lab] using hw
      obtain ⟨g', hg', k', v1, v2, d, d2, h1, h2, h3, h4, h5⟩ := ih a 2 x w' hw hx
      refine ⟨g', hg', k', lab g.o ++ v1, v2, g.w + d, d2, h1, ?_, h3, by rw [h4, List.append_assoc], by omega⟩
      have := PWay.cons (F := F) (G := G) (p := ⟨a, g.f, k⟩) (mem_steps.2 (.inr (.inr ⟨g, hg, rfl, e, rfl⟩))) h2
      simpa [lab] using this
    · rw [lab_ne e] at hw
      simp only [List.cons_append, List.nil_append, List.cons.injEq] at hw
      obtain ⟨rfl, rfl⟩ := hw
      exact ⟨g, hg, k, [], v, 0, c, rfl, .nil _, h, by simp, by omega⟩

/-- The second one goes alone to the end. -/
theorem Way.alone {F G : TF} {b b' : Int} {w v : List Int} {c : Int} (h : Way G.arcs b w v b' c) : ∀ (a k : Int), w = [] → ∃ k', PWay F G ⟨a, b, k⟩ [] v ⟨a, b', k'⟩ c := by
  induction h with
  | nil s => intro a k _; exact ⟨k, .nil _⟩
  | @cons g w v t c hg h ih =>
    intro a k hw
    have e : g.i = 0 := by
      by_cases e : g.i = 0
      · exact e
      · rw [lab_ne e] at hw; cases hw
    rw [e] at hw
    obtain ⟨k', h1⟩ := ih a 2 (by simpa [lab] using hw)
    have := PWay.cons (F := F) (G := G) (p := ⟨a, g.f, k⟩) (mem_steps.2 (.inr (.inr ⟨g, hg, rfl, e, rfl⟩))) h1
    exact ⟨k', by simpa [lab] using this⟩

/-- Two ways with one word between are a way of pairs. -/
theorem Way.pair {F G : TF} {a a' : Int} {u w : List Int} {c1 : Int} (h : Way F.arcs a u w a' c1) : ∀ (b b' k : Int) (v : List Int) (c2 : Int), k ≠ 2 → Way G.arcs b w v b' c2 → ∃ k', PWay F G ⟨a, b, k⟩ u v ⟨a', b', k'⟩ (c1 + c2) := by
  induction h with
  | nil s =>
    intro b b' k v c2 _ hg
    obtain ⟨k', h⟩ := hg.alone (F := F) s k rfl
    exact ⟨k', by simpa using h⟩
  | @cons f u w t c hf h ih =>
    intro b b' k v c2 hk hg
    by_cases e : f.o = 0
    · rw [e] at hg
      obtain ⟨k', h1⟩ := ih b b' 1 v c2 (by omega) (by simpa [lab] using hg)
      have := PWay.cons (F := F) (G := G) (p := ⟨f.f, b, k⟩) (mem_steps.2 (.inl ⟨f, hf, rfl, e, hk, rfl⟩)) h1
      rw [← Int.add_assoc] at this
      exact ⟨k', by simpa [lab] using this⟩
    · rw [lab_ne e] at hg
      obtain ⟨g, hgm, k1, v1, v2, d, d2, h1, h2, h3, rfl, rfl⟩ := hg.till (F := F) f.f k f.o w rfl e
      obtain ⟨k', h4⟩ := ih g.t b' 0 v2 d2 (by omega) h3
      have h5 := PWay.cons (F := F) (G := G) (p := ⟨f.f, g.f, k1⟩) (mem_steps.2 (.inr (.inl ⟨f, hf, g, hgm, rfl, rfl, h1.symm, e, rfl⟩))) h4
      have h6 := h2.app h5
      refine ⟨k', ?_⟩
      rw [show f.w + c + (d + (g.w + d2)) = d + (f.w + g.w + (c + d2)) by omega]
      exact h6

/-- One word read, another one written, some word between. -/
def Comp (P Q : List Int → List Int → Int → Prop) (u v : List Int) (c : Int) : Prop := ∃ w a b, P u w a ∧ Q w v b ∧ c = a + b

/-- What pairs cost. -/
def PWt (F G : TF) (u v : List Int) (c : Int) : Prop := ∃ q d, PWay F G ⟨F.start, G.start, 0⟩ u v q d ∧ F.fin.getD q.a.toNat 0 ≠ -1 ∧ G.fin.getD q.b.toNat 0 ≠ -1 ∧ c = d + (F.fin.getD q.a.toNat 0 + G.fin.getD q.b.toNat 0)

theorem pwt_iff {F G : TF} {u v : List Int} {c : Int} : PWt F G u v c ↔ Comp (Wt F) (Wt G) u v c := by
  constructor
  · rintro ⟨q, d, hw, h1, h2, rfl⟩
    obtain ⟨w, c1, c2, g1, g2, rfl⟩ := hw.two
    exact ⟨w, _, _, ⟨q.a, c1, g1, h1, rfl⟩, ⟨q.b, c2, g2, h2, rfl⟩, by omega⟩
  · rintro ⟨w, _, _, ⟨a, c1, g1, h1, rfl⟩, ⟨b, c2, g2, h2, rfl⟩, rfl⟩
    obtain ⟨k, h⟩ := g1.pair (G := G) G.start b 0 v c2 (by omega) g2
    exact ⟨⟨a, b, k⟩, _, h, h1, h2, by simp only; omega⟩

/-! ### Numbered -/
/-- The pairs numbered, their arcs. -/
structure Numd (F G : TF) (ps : List Trip) (raw : List Arc) : Prop where
  first : ps.head? = some ⟨F.start, G.start, 0⟩
  nd : ps.Nodup
  snd : ∀ a ∈ raw, ∃ p ∈ ps, ∃ s ∈ steps F G p, s.p ∈ ps ∧ a = ⟨ps.idxOf p, s.i, s.o, ps.idxOf s.p, s.w⟩
  cpl : ∀ p ∈ ps, ∀ s ∈ steps F G p, s.p ∈ ps ∧ (⟨ps.idxOf p, s.i, s.o, ps.idxOf s.p, s.w⟩ : Arc) ∈ raw

theorem idx_at {ps : List Trip} {p : Trip} (hp : p ∈ ps) : ps[ps.idxOf p]? = some p := by
  have h := List.idxOf_lt_length_iff.2 hp
  rw [List.getElem?_eq_getElem h, List.getElem_idxOf h]

theorem idx_inj {ps : List Trip} {p q : Trip} (hp : p ∈ ps) (hq : q ∈ ps) (h : ps.idxOf p = ps.idxOf q) : p = q := by
  have h1 := idx_at hp
  have h2 := idx_at hq
  rw [h, h2] at h1
  exact (Option.some.inj h1).symm

theorem Numd.way {F G : TF} {ps : List Trip} {raw : List Arc} (h : Numd F G ps raw) {p : Trip} (hp : p ∈ ps) {u v : List Int} {q : Trip} {c : Int} (hw : PWay F G p u v q c) : q ∈ ps ∧ Way raw (ps.idxOf p) u v (ps.idxOf q) c := by
  induction hw with
  | nil p => exact ⟨hp, .nil _⟩
  | @cons p s u v q c hs hw ih =>
    obtain ⟨h1, h2⟩ := h.cpl p hp s hs
    obtain ⟨h3, h4⟩ := ih h1
    exact ⟨h3, Way.cons h2 h4⟩

theorem Numd.back {F G : TF} {ps : List Trip} {raw : List Arc} (h : Numd F G ps raw) {n t : Int} {u v : List Int} {c : Int} (hw : Way raw n u v t c) : ∀ p ∈ ps, n = ps.idxOf p → ∃ q ∈ ps, t = ps.idxOf q ∧ PWay F G p u v q c := by
  induction hw with
  | nil s => intro p hp e; exact ⟨p, hp, e, .nil _⟩
  | @cons a u v t c ha hw ih =>
    intro p hp e
    obtain ⟨p', hp', s, hs, hsp, rfl⟩ := h.snd a ha
    have : p' = p := idx_inj hp' hp (by simp only at e; omega)
    subst this
    obtain ⟨q, hq, e2, hw2⟩ := ih s.p hsp rfl
    exact ⟨q, hq, e2, .cons hs hw2⟩

/-- What the numbered ones cost. -/
theorem Numd.wt {F G : TF} {ps : List Trip} {raw : List Arc} (h : Numd F G ps raw) {fin : List Int} (hf : ∀ q ∈ ps, fin.getD (ps.idxOf q) 0 = if F.fin.getD q.a.toNat 0 ≠ -1 ∧ G.fin.getD q.b.toNat 0 ≠ -1 then F.fin.getD q.a.toNat 0 + G.fin.getD q.b.toNat 0 else -1)
    (hF : ∀ x ∈ F.fin, -1 ≤ x) (hG : ∀ x ∈ G.fin, -1 ≤ x) {u v : List Int} {c : Int} : WtL raw 0 fin u v c ↔ PWt F G u v c := by
  have h0 : (⟨F.start, G.start, 0⟩ : Trip) ∈ ps := by
    cases hps : ps with
    | nil => have := h.first; rw [hps] at this; cases this
    | cons x l => have := h.first; rw [hps] at this; simp at this; simp [this]
  have e0 : ps.idxOf (⟨F.start, G.start, 0⟩ : Trip) = 0 := by
    cases hps : ps with
    | nil => rw [hps] at h0; cases h0
    | cons x l => have := h.first; rw [hps] at this; simp at this; rw [this]; simp
  have hpos : ∀ (l : List Int) (n : Nat), (∀ x ∈ l, -1 ≤ x) → -1 ≤ l.getD n 0 := by
    intro l n hl
    by_cases hn : n < l.length
    · exact hl _ (getD_mem l n 0 hn)
    · simp [List.getD, List.getElem?_eq_none (by omega : l.length ≤ n)]
  constructor
  · rintro ⟨t, d, hw, hfin, rfl⟩
    obtain ⟨q, hq, rfl, hp⟩ := h.back hw _ h0 (by rw [e0]; rfl)
    rw [Int.toNat_natCast] at hfin ⊢
    rw [hf q hq] at hfin ⊢
    split at hfin
    · rename_i hc
      rw [if_pos hc]
      exact ⟨q, d, hp, hc.1, hc.2, rfl⟩
    · exact absurd rfl hfin
  · rintro ⟨q, d, hp, h1, h2, rfl⟩
    obtain ⟨hq, hw⟩ := h.way h0 hp
    rw [e0] at hw
    refine ⟨_, d, hw, ?_⟩
    rw [Int.toNat_natCast, hf q hq, if_pos ⟨h1, h2⟩]
    have := hpos F.fin q.a.toNat hF
    have := hpos G.fin q.b.toNat hG
    exact ⟨by omega, rfl⟩
end Go.Fw
