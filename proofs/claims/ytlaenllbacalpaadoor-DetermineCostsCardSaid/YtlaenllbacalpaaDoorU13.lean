/- Walks of the functions: what each computes. -/
import Derived.Test.YtlaenllbacalpaaDoorU12
import Derived.Test.YtlaenllbacalpaaDoorU07
import Derived.Test.YtlaenllbacalpaaDoorU06

set_option linter.unusedSimpArgs false
set_option linter.unusedVariables false

namespace Go.Fw
open Go Go.Proofs

/-- Bytes as a text. -/
def bs (l : List UInt8) : ByteArray := ⟨l.toArray⟩
theorem bs_app (a b : List UInt8) : bs a ++ bs b = bs (a ++ b) := by
  apply ByteArray.ext
  rw [ByteArray.data_append]
  simp [bs]
theorem bs_size (a : List UInt8) : (bs a).size = a.length := by simp [bs, ByteArray.size]

theorem dec_len : ∀ (n u : Nat), u ≤ n → (Lib.decDigits u).length ≤ u + 1
  | 0, u, h => by
    rw [Lib.decDigits, dif_pos (by omega)]; simp
  | n + 1, u, h => by
    rw [Lib.decDigits]
    split
    · simp
    · have := dec_len n (u / 10) (by omega)
      simp only [List.length_append, List.length_cons, List.length_nil]
      omega
theorem itoa_len {n B : Int} (h0 : 0 ≤ n) (h1 : n ≤ B) : ((Lib.itoa n).length : Int) ≤ B + 1 := by
  unfold Lib.itoa
  rw [if_neg (by omega)]
  have := dec_len n.toNat n.toNat (Nat.le_refl _)
  omega

/-- A subset's text. -/
def kyB (l : List Duo) : List UInt8 := l.flatMap fun e => Lib.itoa e.a ++ [58] ++ Lib.itoa e.b ++ [32]
theorem kyB_succ (l : List Duo) (k : Nat) (hk : k < l.length) : kyB (l.take (k + 1)) = kyB (l.take k) ++ (Lib.itoa (l.getD k ⟨0, 0⟩).a ++ [58] ++ Lib.itoa (l.getD k ⟨0, 0⟩).b ++ [32]) := by
  unfold kyB
  rw [List.take_add_one, List.flatMap_append]
  congr 1
  simp [List.getD, hk]
structure DOk (B : Int) (l : List Duo) : Prop where
  len : l.length ≤ 1000
  rng : ∀ e ∈ l, (0 ≤ e.a ∧ e.a ≤ 1000) ∧ 0 ≤ e.b ∧ e.b ≤ B

theorem kyB_len {l : List Duo} (h : DOk 10000000000000 l) (k : Nat) : ((kyB (l.take k)).length : Int) ≤ k * 20000000000000 := by
  induction k with
  | zero => simp [kyB]
  | succ k ih =>
    by_cases hk : k < l.length
    · rw [kyB_succ l k hk]
      have hr := h.rng _ (getD_mem l k ⟨0, 0⟩ hk)
      have h1 := itoa_len hr.1.1 hr.1.2
      have h2 := itoa_len hr.2.1 hr.2.2
      simp only [List.length_append, List.length_cons, List.length_nil]
      omega
    · rw [List.take_of_length_le (by omega), ← List.take_of_length_le (l := l) (i := k) (by omega)]
      omega

abbrev stV (l : List UInt8) : SV := .c (.v (.string (bs l)))

set_option maxHeartbeats 16000000 in
set_option maxRecDepth 20000 in
theorem key_c (x : Obj) (hx : TabX x) (l : List Duo) (cap : Nat) (hl : DOk 10000000000000 l) : Ct Tryd.prog 87 [.c (.sl 0 2 0 l.length cap)] [] [(0, .arr false 80 .duo l 0), (1, tabO x)] 2
    (fun v s => v = stV (kyB l) ∧ s = ⟨[], [(1, tabO x)], 2⟩) := by
  have hll := hl.len
  refine ctW Tryd.tyOk 6 [6, 7, 8] Tryd.func87 rfl (by simp [SV.lt, SA.lt, SC.lt, arcV, fV]) (by simp) (fr := [(0, .c (.sl 0 2 0 l.length cap))]) rfl ?_
  repeat' (first | exact rfl | ((conv => whnf); first | ((first | refine qA (fun h => ?_) fun h => ?_ | refine qN (fun h => ?_) fun h => ?_ | refine qB (fun h => ?_) fun h => ?_ | refine qC (fun h => ?_) fun h => ?_) <;> try exact absurd h (by omega)) | refine qM (fun h => ?_) fun h => ?_ | refine oM (by (first | omega | (simp only [lenS, InI, nmin, EK.sz]; omega) | (simp only [lenS, InI, nmin, EK.sz] at *; omega))) ?_ | refine oM ?_ ?_ | refine bM ?_ ?_ | refine draw_of Tryd.mixed Tryd.tyOk 60 (by kernel_rfl) ?_))
  (conv => whnf)
  refine loopI (fun k : Nat => ⟨[(3, stV (kyB (l.take k))), (6, .c (.sl 0 2 0 l.length cap)), (7, .i l.length), (8, .i k)], [(0, .arr false 80 .duo l 0), (1, tabO x)], 2⟩)
    (fun k => k ≤ l.length) (fun k => l.length - k) 0 [] ⟨by rfl, ?_, ?_⟩ (Nat.zero_le _) ?_
  · simp [eqFr, eqHp, eqV, eqA, eqC, eqO, eqCs, eqAs, look_cons, look, rn, EK.cast, EK.sz, eqCaps, kyB, bs]
  · simp [eqFr, eqHp, eqV, eqA, eqC, eqO, eqCs, eqAs, look_cons, look, rn, EK.cast, EK.sz, eqCaps, tabO]
  · intro k hk
    have hkl := kyB_len hl k
    (conv => whnf)
    refine condP_dec (fun hk2 => ?_) (fun hk2 => ?_)
    · have hks := kyB_succ l k (by omega)
      have e0 : 0 + (k : Int).toNat = k := by omega
      have hr := hl.rng _ (getD_mem l k ⟨0, 0⟩ (by omega))
      have hr1 : (0 ≤ (l.getD (0 + (k : Int).toNat) EK.duo.dflt).a ∧ (l.getD (0 + (k : Int).toNat) EK.duo.dflt).a ≤ 1000) ∧ 0 ≤ (l.getD (0 + (k : Int).toNat) EK.duo.dflt).b ∧ (l.getD (0 + (k : Int).toNat) EK.duo.dflt).b ≤ 10000000000000 := by rw [e0]; exact hr
      have hks2 : kyB (l.take (k + 1)) = kyB (l.take k) ++ (Lib.itoa (l.getD (0 + (k : Int).toNat) EK.duo.dflt).a ++ [58] ++ Lib.itoa (l.getD (0 + (k : Int).toNat) EK.duo.dflt).b ++ [32]) := by rw [e0]; exact hks
      have hi1 := itoa_len hr1.1.1 hr1.1.2
      have hi2 := itoa_len hr1.2.1 hr1.2.2
      clear hks hr
      generalize hky : kyB (l.take k) = ky at *
      repeat' (first | exact rfl | ((conv => whnf); first | ((first | refine qA (fun h => ?_) fun h => ?_ | refine qN (fun h => ?_) fun h => ?_ | refine qB (fun h => ?_) fun h => ?_ | refine qC (fun h => ?_) fun h => ?_) <;> try exact absurd h (by omega)) | refine qM (fun h => ?_) fun h => ?_ | refine oM (by (first | omega | (simp only [lenS, InI, nmin, EK.sz]; omega) | (simp only [lenS, InI, nmin, EK.sz] at *; omega))) ?_ | refine oM ?_ ?_ | refine bM ?_ ?_ | refine draw_of Tryd.mixed Tryd.tyOk 60 (by kernel_rfl) ?_))
      (conv => whnf)
      refine callF (itoa_c x hx (l.getD (0 + (k : Int).toNat) EK.duo.dflt).a (by omega) (by omega)) [1] Tryd.call97 rfl (by simp [eqLs, eqL, eqO, eqC, eqCs, rn, renOf, look_cons, look, EK.cast]) (by simp [appN, ptrs, eqVL, eqV, eqA, eqC, eqCs, eqAs, eqCaps, EK.sz, rn, renOf, look_cons, look, arcV, fV]) (by simp [appN, ptrs, SV.lt, SA.lt, SC.lt, arcV, fV, lenN]) ?_
      rintro _ _ ⟨rfl, rfl⟩
      have hfin : bs ky ++ ((((⟨(Lib.itoa (l.getD (0 + (k : Int).toNat) EK.duo.dflt).a).toArray⟩ : ByteArray) ++ (⟨#[58]⟩ : ByteArray)) ++ (⟨(Lib.itoa (l.getD (0 + (k : Int).toNat) EK.duo.dflt).b).toArray⟩ : ByteArray)) ++ (⟨#[32]⟩ : ByteArray)) = bs (kyB (l.take (k + 1))) := by
        show bs ky ++ (((bs (Lib.itoa (l.getD (0 + (k : Int).toNat) EK.duo.dflt).a) ++ bs [58]) ++ bs (Lib.itoa (l.getD (0 + (k : Int).toNat) EK.duo.dflt).b)) ++ bs [32]) = _
        rw [hks2]
        simp only [bs_app]
      repeat' (first | exact rfl | ((conv => whnf); first | ((first | refine qA (fun h => ?_) fun h => ?_ | refine qN (fun h => ?_) fun h => ?_ | refine qB (fun h => ?_) fun h => ?_ | refine qC (fun h => ?_) fun h => ?_) <;> try exact absurd h (by omega)) | refine qM (fun h => ?_) fun h => ?_ | refine oM (by (first | omega | (simp only [lenS, InI, nmin, EK.sz]; omega) | (simp only [lenS, InI, nmin, EK.sz] at *; omega))) ?_ | refine oM ?_ ?_ | refine bM ?_ ?_ | refine draw_of Tryd.mixed Tryd.tyOk 60 (by kernel_rfl) ?_ | intro _))
      · show (bs (Lib.itoa (l.getD (0 + (k : Int).toNat) EK.duo.dflt).a)).size + (bs [58]).size ≤ 9223372036854775807
        simp only [bs_size, List.length_cons, List.length_nil]
        omega
      (conv => whnf)
      refine callF (itoa_c x hx (l.getD (0 + (k : Int).toNat) EK.duo.dflt).b (by omega) (by omega)) [1] Tryd.call97 rfl (by simp [eqLs, eqL, eqO, eqC, eqCs, rn, renOf, look_cons, look, EK.cast]) (by simp [appN, ptrs, eqVL, eqV, eqA, eqC, eqCs, eqAs, eqCaps, EK.sz, rn, renOf, look_cons, look, arcV, fV]) (by simp [appN, ptrs, SV.lt, SA.lt, SC.lt, arcV, fV, lenN]) ?_
      rintro _ _ ⟨rfl, rfl⟩
      repeat' (first | exact rfl | ((conv => whnf); first | ((first | refine qA (fun h => ?_) fun h => ?_ | refine qN (fun h => ?_) fun h => ?_ | refine qB (fun h => ?_) fun h => ?_ | refine qC (fun h => ?_) fun h => ?_) <;> try exact absurd h (by omega)) | refine qM (fun h => ?_) fun h => ?_ | refine oM (by (first | omega | (simp only [lenS, InI, nmin, EK.sz]; omega) | (simp only [lenS, InI, nmin, EK.sz] at *; omega))) ?_ | refine oM ?_ ?_ | refine bM ?_ ?_ | refine draw_of Tryd.mixed Tryd.tyOk 60 (by kernel_rfl) ?_ | intro _))
      · show (bs (Lib.itoa (l.getD (0 + (k : Int).toNat) EK.duo.dflt).a) ++ bs [58]).size + (bs (Lib.itoa (l.getD (0 + (k : Int).toNat) EK.duo.dflt).b)).size ≤ 9223372036854775807
        simp only [bs_app, bs_size, List.length_append, List.length_cons, List.length_nil]
        omega
      · show (bs (Lib.itoa (l.getD (0 + (k : Int).toNat) EK.duo.dflt).a) ++ bs [58] ++ bs (Lib.itoa (l.getD (0 + (k : Int).toNat) EK.duo.dflt).b)).size + (bs [32]).size ≤ 9223372036854775807
        simp only [bs_app, bs_size, List.length_append, List.length_cons, List.length_nil]
        omega
      · show (bs ky).size + (bs (Lib.itoa (l.getD (0 + (k : Int).toNat) EK.duo.dflt).a) ++ bs [58] ++ bs (Lib.itoa (l.getD (0 + (k : Int).toNat) EK.duo.dflt).b) ++ bs [32]).size ≤ 9223372036854775807
        simp only [bs_app, bs_size, List.length_append, List.length_cons, List.length_nil]
        omega
      · (conv => whnf)
        rw [hfin]
        refine ⟨k + 1, [], ⟨by rfl, ?_, ?_⟩, by omega, by omega⟩
        · simp [eqFr, eqHp, eqV, eqA, eqC, eqO, eqCs, eqAs, look_cons, look, rn, EK.cast, EK.sz, eqCaps]
        · simp [eqFr, eqHp, eqV, eqA, eqC, eqO, eqCs, eqAs, look_cons, look, rn, EK.cast, EK.sz, eqCaps]
    · have e : k = l.length := by omega
      subst e
      rw [List.take_length]
      repeat' (first | exact rfl | ((conv => whnf); first | ((first | refine qA (fun h => ?_) fun h => ?_ | refine qN (fun h => ?_) fun h => ?_ | refine qB (fun h => ?_) fun h => ?_ | refine qC (fun h => ?_) fun h => ?_) <;> try exact absurd h (by omega)) | refine qM (fun h => ?_) fun h => ?_ | refine oM (by (first | omega | (simp only [lenS, InI, nmin, EK.sz]; omega) | (simp only [lenS, InI, nmin, EK.sz] at *; omega))) ?_ | refine oM ?_ ?_ | refine bM ?_ ?_ | refine draw_of Tryd.mixed Tryd.tyOk 60 (by kernel_rfl) ?_))
      (conv => whnf)
      exact ⟨[], [(1, tabO x)], 2, stV (kyB l), ⟨by rfl, trivial, by simp [eqFr, eqHp, eqV, eqA, eqC, eqO, eqCs, eqAs, look_cons, look, rn, EK.cast, EK.sz, eqCaps]⟩, by simp [eqV, eqA, eqC], rfl, rfl⟩
end Go.Fw

/-
  One way for each word: what a letter makes of some states, and what it costs.
-/
namespace Go.Fw

/-- The best cost of a state so far. -/
abbrev CM := Int → Option Int
def updC (m : CM) (t v : Int) : CM := fun u => if u = t then (match m t with | some o => if v < o then some v else some o | none => some v) else m u
def updB (b v : Int) : Int := if b = -1 ∨ v < b then v else b
def sbA (c : Int) (x : Duo) (st : CM × Int) (a : Arc) : CM × Int := if a.f = x.a ∧ a.i = c then (updC st.1 a.t (x.b + a.w), updB st.2 (x.b + a.w)) else st
def sbX (F : TF) (c : Int) (st : CM × Int) (x : Duo) : CM × Int := F.arcs.foldl (sbA c x) st
def sbR (F : TF) (s : List Duo) (c : Int) : CM × Int := s.foldl (sbX F c) (fun _ => none, -1)
def sbB (F : TF) (s : List Duo) (c : Int) : Int := (sbR F s c).2
def sbE (m : CM) (b : Int) (t : Nat) : Option Duo := (m t).map fun v => ⟨t, v - b⟩
def sbL (m : CM) (b : Int) (n : Nat) : List Duo := (List.range n).filterMap (sbE m b)
def sbS (F : TF) (s : List Duo) (c : Int) : List Duo := sbL (sbR F s c).1 (sbR F s c).2 F.st.toNat

theorem foldl_take {α β : Type} (f : β → α → β) (b : β) (l : List α) (d : α) (k : Nat) (hk : k < l.length) : (l.take (k + 1)).foldl f b = f ((l.take k).foldl f b) (l.getD k d) := by
  rw [List.take_add_one, List.foldl_append]
  simp [List.getD, hk]

theorem sbL_succ (m : CM) (b : Int) (n : Nat) : sbL m b (n + 1) = match m n with | some v => sbL m b n ++ [⟨n, v - b⟩] | none => sbL m b n := by
  unfold sbL
  rw [List.range_succ, List.filterMap_append]
  unfold sbE
  cases h : m (n : Int) with
  | some v => simp [h]
  | none => simp [h]
theorem sbL_len (m : CM) (b : Int) (n : Nat) : (sbL m b n).length ≤ n := by
  have := List.length_filterMap_le (sbE m b) (List.range n)
  simpa [sbL] using this
theorem sbL_mem {m : CM} {b : Int} {n : Nat} {e : Duo} : e ∈ sbL m b n ↔ ∃ t v, t < n ∧ m (t : Int) = some v ∧ e = ⟨t, v - b⟩ := by
  unfold sbL sbE
  simp only [List.mem_filterMap, List.mem_range, Option.map_eq_some_iff]
  constructor
  · rintro ⟨t, ht, v, hv, rfl⟩; exact ⟨t, v, ht, hv, rfl⟩
  · rintro ⟨t, v, ht, hv, rfl⟩; exact ⟨t, ht, v, hv, rfl⟩

/-- Costs in range, the best the least of all. -/
structure OnBd (B : Int) (st : CM × Int) : Prop where
  c : ∀ t v, st.1 t = some v → 0 ≤ v ∧ v ≤ B ∧ st.2 ≠ -1 ∧ st.2 ≤ v
  b : -1 ≤ st.2 ∧ st.2 ≤ B
  e : st.2 ≠ -1 → ∃ t, st.1 t = some st.2

theorem OnBd.start {B : Int} (hB : 0 ≤ B) : OnBd B (fun _ => none, -1) := ⟨fun t v h => (by cases h), ⟨by simp, by simp; omega⟩, fun h => absurd rfl h⟩

theorem OnBd.step {B : Int} {c : Int} {x : Duo} {st : CM × Int} {a : Arc} (h : OnBd B st) (h0 : 0 ≤ x.b + a.w) (h1 : x.b + a.w ≤ B) : OnBd B (sbA c x st a) := by
  unfold sbA
  split
  · generalize x.b + a.w = v at *
    have hb := h.b
    have hB : updB st.2 v = v ∧ (st.2 = -1 ∨ v < st.2) ∨ updB st.2 v = st.2 ∧ st.2 ≠ -1 ∧ st.2 ≤ v := by
      unfold updB
      split
      · rename_i h2; exact .inl ⟨rfl, h2⟩
      · rename_i h2; exact .inr ⟨rfl, by omega, by omega⟩
    have hle : updB st.2 v ≤ v ∧ updB st.2 v ≠ -1 ∧ -1 ≤ updB st.2 v ∧ updB st.2 v ≤ B := by omega
    have hkeep : ∀ t o, st.1 t = some o → updB st.2 v ≤ o := fun t o ho => by
      have := h.c t o ho
      omega
    refine ⟨fun t o ho => ?_, ⟨hle.2.2.1, hle.2.2.2⟩, fun _ => ?_⟩
    · simp only [updC] at ho
      split at ho
      · split at ho
        · rename_i o' ho'
          have := h.c _ _ ho'
          have := hkeep _ _ ho'
          split at ho <;> cases ho <;> exact ⟨by omega, by omega, hle.2.1, by omega⟩
        · cases ho
          exact ⟨h0, h1, hle.2.1, hle.1⟩
      · have := h.c _ _ ho
        have := hkeep _ _ ho
        exact ⟨by omega, by omega, hle.2.1, by omega⟩
    · rcases hB with ⟨e, h2⟩ | ⟨e, h2, h3⟩
      · refine ⟨a.t, ?_⟩
        simp only [e]
        unfold updC
        rw [if_pos rfl]
        split
        · rename_i o ho
          have := h.c _ _ ho
          rw [if_pos (by omega)]
        · rfl
      · obtain ⟨t, ht⟩ := h.e h2
        simp only [e]
        unfold updC
        by_cases e2 : t = a.t
        · refine ⟨t, ?_⟩
          rw [if_pos e2, ← e2, ht]
          simp only
          split
          · rename_i h4; omega
          · rfl
        · exact ⟨t, by rw [if_neg e2]; exact ht⟩
  · exact h

/-- What a subset tells. -/
def finS (F : TF) (r : Int) (x : Duo) : Int := if F.fin.getD x.a.toNat 0 ≠ -1 ∧ (r = -1 ∨ x.b + F.fin.getD x.a.toNat 0 < r) then x.b + F.fin.getD x.a.toNat 0 else r
def finD (F : TF) (s : List Duo) : Int := s.foldl (finS F) (-1)

/-- States with what they cost more, in range. -/
structure SOk (F : TF) (B : Int) (s : List Duo) : Prop where
  len : s.length ≤ F.st
  rng : ∀ e ∈ s, (0 ≤ e.a ∧ e.a < F.st) ∧ 0 ≤ e.b ∧ e.b ≤ B
theorem SOk.mono {F : TF} {B C : Int} {s : List Duo} (h : SOk F B s) (hBC : B ≤ C) : SOk F C s := ⟨h.len, fun e he => by have := h.rng e he; omega⟩

section
variable {F : TF} {B : Int} {s : List Duo} {c : Int}

theorem sbX_bd {st : CM × Int} {x : Duo} (hw : ∀ a ∈ F.arcs, 0 ≤ a.w ∧ a.w ≤ 1000000000) (h : OnBd (B + 1000000000) st) (h0 : 0 ≤ x.b) (h1 : x.b ≤ B) (k : Nat) : OnBd (B + 1000000000) ((F.arcs.take k).foldl (sbA c x) st) := by
  have : ∀ (l : List Arc), (∀ a ∈ l, 0 ≤ a.w ∧ a.w ≤ 1000000000) → ∀ st, OnBd (B + 1000000000) st → OnBd (B + 1000000000) (l.foldl (sbA c x) st) := by
    intro l
    induction l with
    | nil => intro _ st h; exact h
    | cons a l ih =>
      intro hl st h
      have := hl a (by simp)
      exact ih (fun a ha => hl a (by simp [ha])) _ (h.step (by omega) (by omega))
  exact this _ (fun a ha => hw a (List.mem_of_mem_take ha)) _ h
theorem sbR_bd (hs : SOk F B s) (hB : 0 ≤ B) (hw : ∀ a ∈ F.arcs, 0 ≤ a.w ∧ a.w ≤ 1000000000) (k : Nat) : OnBd (B + 1000000000) ((s.take k).foldl (sbX F c) (fun _ => none, -1)) := by
  have : ∀ (l : List Duo), (∀ e ∈ l, 0 ≤ e.b ∧ e.b ≤ B) → ∀ st, OnBd (B + 1000000000) st → OnBd (B + 1000000000) (l.foldl (sbX F c) st) := by
    intro l
    induction l with
    | nil => intro _ st h; exact h
    | cons e l ih =>
      intro hl st h
      have he := hl e (by simp)
      refine ih (fun a ha => hl a (by simp [ha])) _ ?_
      have := sbX_bd (F := F) (c := c) (x := e) hw h he.1 he.2 F.arcs.length
      rwa [List.take_length] at this
  exact this _ (fun a ha => (hs.rng a (List.mem_of_mem_take ha)).2) _ (OnBd.start (by omega))
theorem sbS_ok (hs : SOk F B s) (hB : 0 ≤ B) (hst : 0 ≤ F.st) (hw : ∀ a ∈ F.arcs, 0 ≤ a.w ∧ a.w ≤ 1000000000) : SOk F (B + 1000000000) (sbS F s c) ∧ -1 ≤ sbB F s c ∧ sbB F s c ≤ B + 1000000000 := by
  have h := sbR_bd (c := c) hs hB hw s.length
  rw [List.take_length] at h
  refine ⟨⟨?_, ?_⟩, h.b⟩
  · have := sbL_len (sbR F s c).1 (sbR F s c).2 F.st.toNat
    unfold sbS
    omega
  · intro e he
    obtain ⟨t, v, ht, hv, rfl⟩ := sbL_mem.1 he
    have h2 := h.c _ _ hv
    have h3 := h.b
    simp only
    refine ⟨⟨by omega, by omega⟩, ?_, ?_⟩
    · have : (sbR F s c).2 ≤ v := h2.2.2.2
      omega
    · have h4 : -1 ≤ (sbR F s c).2 := h3.1
      have h5 : (sbR F s c).2 ≠ -1 := h2.2.2.1
      omega
end
end Go.Fw

namespace Go.Fw
open Go Go.Proofs

/-- The determiner. -/
abbrev dC (F : TF) (il nl cl : Nat) (ost osr : Int) (jf nf cf ir nr cr : Nat) : List SC := [.i F.st, .i F.start, .sl 0 1 0 F.fin.length F.capF, .sl 1 5 0 F.arcs.length F.capA, .mp 4, .sl il 1 0 nl cl, .i ost, .i osr, .sl jf 1 0 nf cf, .sl ir 5 0 nr cr]

abbrev LkC (es : List (Int × Int × Nat)) (m : CM) : Prop := ∀ t : Int, @lkM EK.int.ty EK.int.ty (EK.instDeq .int) es t = m t

structure WOk (F : TF) : Prop extends FRng F where
  w : ∀ a ∈ F.arcs, 0 ≤ a.w ∧ a.w ≤ 1000000000
  fin : ∀ n ∈ F.fin, -1 ≤ n ∧ n ≤ 1000000000

theorem sbA_yes {c : Int} {x : Duo} {st : CM × Int} {a : Arc} (h1 : a.f = x.a) (h2 : a.i = c) : sbA c x st a = (updC st.1 a.t (x.b + a.w), updB st.2 (x.b + a.w)) := by unfold sbA; rw [if_pos ⟨h1, h2⟩]
theorem sbA_no1 {c : Int} {x : Duo} {st : CM × Int} {a : Arc} (h1 : ¬ a.f = x.a) : sbA c x st a = st := by unfold sbA; rw [if_neg (fun h => h1 h.1)]
theorem sbA_no2 {c : Int} {x : Duo} {st : CM × Int} {a : Arc} (h1 : ¬ a.i = c) : sbA c x st a = st := by unfold sbA; rw [if_neg (fun h => h1 h.2)]

section
variable {es : List (Int × Int × Nat)} {m : CM} {t v : Int} (clk : Nat)
theorem LkC.new (h : LkC es m) (ht : @lkM EK.int.ty EK.int.ty (EK.instDeq .int) es t = none) : LkC (@insM EK.int.ty EK.int.ty (EK.instDeq .int) es clk t v).1 (updC m t v) := by
  intro u
  rw [lkM_insM]
  have h2 := h t
  rw [ht] at h2
  unfold updC
  by_cases e : u = t
  · rw [if_pos e, if_pos e, ← h2]
  · rw [if_neg e, if_neg e, h u]
theorem LkC.less (h : LkC es m) {o : Int} (ht : @lkM EK.int.ty EK.int.ty (EK.instDeq .int) es t = some o) (hv : v < o) : LkC (@insM EK.int.ty EK.int.ty (EK.instDeq .int) es clk t v).1 (updC m t v) := by
  intro u
  rw [lkM_insM]
  have h2 := h t
  rw [ht] at h2
  unfold updC
  by_cases e : u = t
  · rw [if_pos e, if_pos e, ← h2]
    simp only [if_pos hv]
  · rw [if_neg e, if_neg e, h u]
theorem LkC.same (h : LkC es m) {o : Int} (ht : @lkM EK.int.ty EK.int.ty (EK.instDeq .int) es t = some o) (hv : ¬ v < o) : LkC es (updC m t v) := by
  intro u
  have h2 := h t
  rw [ht] at h2
  unfold updC
  by_cases e : u = t
  · rw [if_pos e, ← h2, e, ht]
    simp only [if_neg hv]
  · rw [if_neg e, h u]
end

set_option maxHeartbeats 16000000 in
set_option maxRecDepth 20000 in
theorem on2_c (F : TF) (hF : WOk F) (s : List Duo) (B : Int) (hB : 0 ≤ B ∧ B ≤ 10000000000000) (hs : SOk F B s) (cap : Nat) (c : Int) (nl cl nf cf nr cr : Nat) (ost osr : Int) :
    Ct Tryd.prog 66 [.c (.ptr 2 0), .c (.sl 3 2 0 s.length cap), .i c] [] [(1, .arr false 50 .arc F.arcs 0), (2, .box 79 (dC F 5 nl cl ost osr 7 nf cf 8 nr cr)), (3, .arr false 80 .duo s 0)] 9
    (fun v st => ∃ sp, v = .tup [.c (.sl 9 2 0 (sbS F s c).length ((sbS F s c).length + sp)), .c (.i (sbB F s c))] ∧ st = ⟨[], [(2, .box 79 (dC F 5 nl cl ost osr 7 nf cf 8 nr cr)), (9, .arr true 80 .duo (sbS F s c) sp)], 10⟩) := by
  have hst := hF.st
  have hal := hF.arcl
  have hsl := hs.len
  refine ctW Tryd.tyOk 21 [22, 23, 24, 32, 33, 34, 86, 87] Tryd.func66 rfl (by simp [SV.lt, SA.lt, SC.lt, arcV, fV]) (by simp) (fr := [(0, .c (.ptr 2 0)), (1, .c (.sl 3 2 0 s.length cap)), (2, .i c)]) rfl ?_
  repeat' (first | exact rfl | ((conv => whnf); first | ((first | refine qA (fun h => ?_) fun h => ?_ | refine qN (fun h => ?_) fun h => ?_ | refine qB (fun h => ?_) fun h => ?_ | refine qC (fun h => ?_) fun h => ?_) <;> try exact absurd h (by omega)) | refine qM (fun h => ?_) fun h => ?_ | refine oM (by (first | omega | (simp only [lenS, InI, nmin, EK.sz]; omega) | (simp only [lenS, InI, nmin, EK.sz] at *; omega))) ?_ | refine oM ?_ ?_ | refine bM ?_ ?_ | refine draw_of Tryd.mixed Tryd.tyOk 60 (by kernel_rfl) ?_))
  (conv => whnf)
  refine loopI (fun z : Nat × List (Int × Int × Nat) × Nat => ⟨[(0, .c (.ptr 2 0)), (2, .i c), (8, .c (.mp 9)), (9, .i (((s.take z.1).foldl (sbX F c) (fun _ => none, -1)).2)), (22, .c (.sl 3 2 0 s.length cap)), (23, .i s.length), (24, .i z.1)], [(1, .arr false 50 .arc F.arcs 0), (2, .box 79 (dC F 5 nl cl ost osr 7 nf cf 8 nr cr)), (3, .arr false 80 .duo s 0), (9, .map .int .int z.2.1 z.2.2)], 10⟩)
    (fun z => z.1 ≤ s.length ∧ LkC z.2.1 ((s.take z.1).foldl (sbX F c) (fun _ => none, -1)).1) (fun z => s.length - z.1) (0, [], 0) [] ⟨by rfl, ?_, ?_⟩ ⟨Nat.zero_le _, fun t => rfl⟩ ?_
  · simp [eqFr, eqHp, eqV, eqA, eqC, eqO, eqCs, eqAs, look_cons, look, rn, EK.cast, EK.sz, eqCaps]
  · simp [eqFr, eqHp, eqV, eqA, eqC, eqO, eqCs, eqAs, look_cons, look, rn, EK.cast, EK.sz, eqCaps]
  · rintro ⟨k, es, clk⟩ ⟨hk, hlk⟩
    simp only at hk hlk ⊢
    have hbd := sbR_bd (c := c) hs hB.1 hF.w k
    (conv => whnf)
    refine condP_dec (fun hk2 => ?_) (fun hk2 => ?_)
    · have e0 : 0 + (k : Int).toNat = k := by omega
      have hks := foldl_take (sbX F c) (fun _ => none, -1) s ⟨0, 0⟩ k (by omega)
      have hx := hs.rng _ (getD_mem s k ⟨0, 0⟩ (by omega))
      have hx1 : ((0 ≤ (s.getD (0 + (k : Int).toNat) EK.duo.dflt).a ∧ (s.getD (0 + (k : Int).toNat) EK.duo.dflt).a < F.st) ∧ 0 ≤ (s.getD (0 + (k : Int).toNat) EK.duo.dflt).b ∧ (s.getD (0 + (k : Int).toNat) EK.duo.dflt).b ≤ B) := by rw [e0]; exact hx
      have hks1 : (s.take (k + 1)).foldl (sbX F c) (fun _ => none, -1) = sbX F c ((s.take k).foldl (sbX F c) (fun _ => none, -1)) (s.getD (0 + (k : Int).toNat) EK.duo.dflt) := by rw [e0]; exact hks
      clear hks hx
      generalize hst0 : (s.take k).foldl (sbX F c) (fun _ => none, -1) = st0 at *
      repeat' (first | exact rfl | ((conv => whnf); first | ((first | refine qA (fun h => ?_) fun h => ?_ | refine qN (fun h => ?_) fun h => ?_ | refine qB (fun h => ?_) fun h => ?_ | refine qC (fun h => ?_) fun h => ?_) <;> try exact absurd h (by omega)) | refine qM (fun h => ?_) fun h => ?_ | refine oM (by (first | omega | (simp only [lenS, InI, nmin, EK.sz]; omega) | (simp only [lenS, InI, nmin, EK.sz] at *; omega))) ?_ | refine oM ?_ ?_ | refine bM ?_ ?_ | refine draw_of Tryd.mixed Tryd.tyOk 60 (by kernel_rfl) ?_))
      (conv => whnf)
      generalize s.getD (0 + (k : Int).toNat) EK.duo.dflt = x at *
      refine loopI (fun z : Nat × List (Int × Int × Nat) × Nat => ⟨[(0, .c (.ptr 2 0)), (2, .i c), (8, .c (.mp 9)), (9, .i (((F.arcs.take z.1).foldl (sbA c x) st0).2)), (11, .c (.ptr 10 0)), (22, .c (.sl 3 2 0 s.length cap)), (23, .i s.length), (24, .i k), (32, .c (.sl 1 5 0 F.arcs.length F.capA)), (33, .i F.arcs.length), (34, .i z.1)], [(1, .arr false 50 .arc F.arcs 0), (2, .box 79 (dC F 5 nl cl ost osr 7 nf cf 8 nr cr)), (3, .arr false 80 .duo s 0), (9, .map .int .int z.2.1 z.2.2), (10, .box 80 [.i x.a, .i x.b])], 11⟩)
        (fun z => z.1 ≤ F.arcs.length ∧ LkC z.2.1 ((F.arcs.take z.1).foldl (sbA c x) st0).1) (fun z => F.arcs.length - z.1) (0, es, clk) [] ⟨by rfl, ?_, ?_⟩ ⟨Nat.zero_le _, hlk⟩ ?_
      · simp [eqFr, eqHp, eqV, eqA, eqC, eqO, eqCs, eqAs, look_cons, look, rn, EK.cast, EK.sz, eqCaps]
      · simp [eqFr, eqHp, eqV, eqA, eqC, eqO, eqCs, eqAs, look_cons, look, rn, EK.cast, EK.sz, eqCaps]
      · clear hlk
        rintro ⟨j, es, clk⟩ ⟨hj, hlk⟩
        simp only at hj hlk ⊢
        have hbj := sbX_bd (F := F) (c := c) (x := x) hF.w hbd hx1.2.1 hx1.2.2 j
        (conv => whnf)
        refine condP_dec (fun hj2 => ?_) (fun hj2 => ?_)
        · have ej : 0 + (j : Int).toNat = j := by omega
          have hjs := foldl_take (sbA c x) st0 F.arcs aD j (by omega)
          have hw := hF.w _ (getD_mem F.arcs j aD (by omega))
          have hw1 : 0 ≤ (F.arcs.getD (0 + (j : Int).toNat) EK.arc.dflt).w ∧ (F.arcs.getD (0 + (j : Int).toNat) EK.arc.dflt).w ≤ 1000000000 := by rw [ej]; exact hw
          have hjs1 : (F.arcs.take (j + 1)).foldl (sbA c x) st0 = sbA c x ((F.arcs.take j).foldl (sbA c x) st0) (F.arcs.getD (0 + (j : Int).toNat) EK.arc.dflt) := by rw [ej]; exact hjs
          clear hjs hw
          generalize hst1 : (F.arcs.take j).foldl (sbA c x) st0 = st1 at *
          repeat' (first | exact rfl | ((conv => whnf); first | ((first | refine qA (fun h => ?_) fun h => ?_ | refine qN (fun h => ?_) fun h => ?_ | refine qB (fun h => ?_) fun h => ?_ | refine qC (fun h => ?_) fun h => ?_) <;> try exact absurd h (by omega)) | refine qM (fun h => ?_) fun h => ?_ | refine oM (by (first | omega | (simp only [lenS, InI, nmin, EK.sz]; omega) | (simp only [lenS, InI, nmin, EK.sz] at *; omega))) ?_ | refine oM ?_ ?_ | refine bM ?_ ?_ | refine draw_of Tryd.mixed Tryd.tyOk 60 (by kernel_rfl) ?_))
          · (conv => whnf)
            generalize F.arcs.getD (0 + (j : Int).toNat) EK.arc.dflt = a at *
            rw [sbA_no1 h] at hjs1
            refine ⟨(j + 1, es, clk), [], ⟨by rfl, ?_, ?_⟩, ⟨by simp only; omega, ?_⟩, by simp only; omega⟩
            · simp [eqFr, eqHp, eqV, eqA, eqC, eqO, eqCs, eqAs, look_cons, look, rn, EK.cast, EK.sz, eqCaps, hjs1]
            · simp [eqFr, eqHp, eqV, eqA, eqC, eqO, eqCs, eqAs, look_cons, look, rn, EK.cast, EK.sz, eqCaps]
            · simp only
              rw [hjs1]
              exact hlk
          · (conv => whnf)
            generalize F.arcs.getD (0 + (j : Int).toNat) EK.arc.dflt = a at *
            rw [sbA_no2 h] at hjs1
            refine ⟨(j + 1, es, clk), [], ⟨by rfl, ?_, ?_⟩, ⟨by simp only; omega, ?_⟩, by simp only; omega⟩
            · simp [eqFr, eqHp, eqV, eqA, eqC, eqO, eqCs, eqAs, look_cons, look, rn, EK.cast, EK.sz, eqCaps, hjs1]
            · simp [eqFr, eqHp, eqV, eqA, eqC, eqO, eqCs, eqAs, look_cons, look, rn, EK.cast, EK.sz, eqCaps]
            · simp only
              rw [hjs1]
              exact hlk
          · rename_i g1 g2 g3
            (conv => whnf)
            generalize F.arcs.getD (0 + (j : Int).toNat) EK.arc.dflt = a at *
            rw [sbA_yes g1 g2] at hjs1
            have hub : updB st1.2 (x.b + a.w) = x.b + a.w := by unfold updB; rw [if_pos (by omega)]
            have hn : @lkM EK.int.ty EK.int.ty (EK.instDeq .int) es a.t = none := by
              cases hq : @lkM EK.int.ty EK.int.ty (EK.instDeq .int) es a.t with
              | none => rfl
              | some o => rw [hq] at g3; cases g3
            refine ⟨(j + 1, (@insM EK.int.ty EK.int.ty (EK.instDeq .int) es clk a.t (x.b + a.w)).1, (@insM EK.int.ty EK.int.ty (EK.instDeq .int) es clk a.t (x.b + a.w)).2), [], ⟨by rfl, ?_, ?_⟩, ⟨by simp only; omega, ?_⟩, by simp only; omega⟩
            · simp [eqFr, eqHp, eqV, eqA, eqC, eqO, eqCs, eqAs, look_cons, look, rn, EK.cast, EK.sz, eqCaps, hjs1, hub]
            · simp [eqFr, eqHp, eqV, eqA, eqC, eqO, eqCs, eqAs, look_cons, look, rn, EK.cast, EK.sz, eqCaps]
            · simp only
              rw [hjs1]
              exact hlk.new clk hn
          · rename_i g1 g2 g3 g0
            (conv => whnf)
            generalize F.arcs.getD (0 + (j : Int).toNat) EK.arc.dflt = a at *
            rw [sbA_yes g1 g2] at hjs1
            have hub : updB st1.2 (x.b + a.w) = x.b + a.w := by unfold updB; rw [if_pos (by omega)]
            have hn : @lkM EK.int.ty EK.int.ty (EK.instDeq .int) es a.t = none := by
              cases hq : @lkM EK.int.ty EK.int.ty (EK.instDeq .int) es a.t with
              | none => rfl
              | some o => rw [hq] at g3; cases g3
            refine ⟨(j + 1, (@insM EK.int.ty EK.int.ty (EK.instDeq .int) es clk a.t (x.b + a.w)).1, (@insM EK.int.ty EK.int.ty (EK.instDeq .int) es clk a.t (x.b + a.w)).2), [], ⟨by rfl, ?_, ?_⟩, ⟨by simp only; omega, ?_⟩, by simp only; omega⟩
            · simp [eqFr, eqHp, eqV, eqA, eqC, eqO, eqCs, eqAs, look_cons, look, rn, EK.cast, EK.sz, eqCaps, hjs1, hub]
            · simp [eqFr, eqHp, eqV, eqA, eqC, eqO, eqCs, eqAs, look_cons, look, rn, EK.cast, EK.sz, eqCaps]
            · simp only
              rw [hjs1]
              exact hlk.new clk hn
          · rename_i g1 g2 g3 g0
            (conv => whnf)
            generalize F.arcs.getD (0 + (j : Int).toNat) EK.arc.dflt = a at *
            rw [sbA_yes g1 g2] at hjs1
            have hub : updB st1.2 (x.b + a.w) = st1.2 := by unfold updB; rw [if_neg (by omega)]
            have hn : @lkM EK.int.ty EK.int.ty (EK.instDeq .int) es a.t = none := by
              cases hq : @lkM EK.int.ty EK.int.ty (EK.instDeq .int) es a.t with
              | none => rfl
              | some o => rw [hq] at g3; cases g3
            refine ⟨(j + 1, (@insM EK.int.ty EK.int.ty (EK.instDeq .int) es clk a.t (x.b + a.w)).1, (@insM EK.int.ty EK.int.ty (EK.instDeq .int) es clk a.t (x.b + a.w)).2), [], ⟨by rfl, ?_, ?_⟩, ⟨by simp only; omega, ?_⟩, by simp only; omega⟩
            · simp [eqFr, eqHp, eqV, eqA, eqC, eqO, eqCs, eqAs, look_cons, look, rn, EK.cast, EK.sz, eqCaps, hjs1, hub]
            · simp [eqFr, eqHp, eqV, eqA, eqC, eqO, eqCs, eqAs, look_cons, look, rn, EK.cast, EK.sz, eqCaps]
            · simp only
              rw [hjs1]
              exact hlk.new clk hn
          · rename_i g1 g2 g3 g4
            (conv => whnf)
            generalize F.arcs.getD (0 + (j : Int).toNat) EK.arc.dflt = a at *
            rw [sbA_yes g1 g2] at hjs1
            have hub : updB st1.2 (x.b + a.w) = x.b + a.w := by unfold updB; rw [if_pos (by omega)]
            obtain ⟨o, hn⟩ : ∃ o, @lkM EK.int.ty EK.int.ty (EK.instDeq .int) es a.t = some o := by
              cases hq : @lkM EK.int.ty EK.int.ty (EK.instDeq .int) es a.t with
              | none => rw [hq] at g3; cases g3
              | some o => exact ⟨o, rfl⟩
            rw [hn] at g4
            refine ⟨(j + 1, (@insM EK.int.ty EK.int.ty (EK.instDeq .int) es clk a.t (x.b + a.w)).1, (@insM EK.int.ty EK.int.ty (EK.instDeq .int) es clk a.t (x.b + a.w)).2), [], ⟨by rfl, ?_, ?_⟩, ⟨by simp only; omega, ?_⟩, by simp only; omega⟩
            · simp [eqFr, eqHp, eqV, eqA, eqC, eqO, eqCs, eqAs, look_cons, look, rn, EK.cast, EK.sz, eqCaps, hjs1, hub]
            · simp [eqFr, eqHp, eqV, eqA, eqC, eqO, eqCs, eqAs, look_cons, look, rn, EK.cast, EK.sz, eqCaps]
            · simp only
              rw [hjs1]
              exact hlk.less clk hn g4
          · rename_i g1 g2 g3 g4 g0
            (conv => whnf)
            generalize F.arcs.getD (0 + (j : Int).toNat) EK.arc.dflt = a at *
            rw [sbA_yes g1 g2] at hjs1
            have hub : updB st1.2 (x.b + a.w) = x.b + a.w := by unfold updB; rw [if_pos (by omega)]
            obtain ⟨o, hn⟩ : ∃ o, @lkM EK.int.ty EK.int.ty (EK.instDeq .int) es a.t = some o := by
              cases hq : @lkM EK.int.ty EK.int.ty (EK.instDeq .int) es a.t with
              | none => rw [hq] at g3; cases g3
              | some o => exact ⟨o, rfl⟩
            rw [hn] at g4
            refine ⟨(j + 1, (@insM EK.int.ty EK.int.ty (EK.instDeq .int) es clk a.t (x.b + a.w)).1, (@insM EK.int.ty EK.int.ty (EK.instDeq .int) es clk a.t (x.b + a.w)).2), [], ⟨by rfl, ?_, ?_⟩, ⟨by simp only; omega, ?_⟩, by simp only; omega⟩
            · simp [eqFr, eqHp, eqV, eqA, eqC, eqO, eqCs, eqAs, look_cons, look, rn, EK.cast, EK.sz, eqCaps, hjs1, hub]
            · simp [eqFr, eqHp, eqV, eqA, eqC, eqO, eqCs, eqAs, look_cons, look, rn, EK.cast, EK.sz, eqCaps]
            · simp only
              rw [hjs1]
              exact hlk.less clk hn g4
          · rename_i g1 g2 g3 g4 g0
            (conv => whnf)
            generalize F.arcs.getD (0 + (j : Int).toNat) EK.arc.dflt = a at *
            rw [sbA_yes g1 g2] at hjs1
            have hub : updB st1.2 (x.b + a.w) = st1.2 := by unfold updB; rw [if_neg (by omega)]
            obtain ⟨o, hn⟩ : ∃ o, @lkM EK.int.ty EK.int.ty (EK.instDeq .int) es a.t = some o := by
              cases hq : @lkM EK.int.ty EK.int.ty (EK.instDeq .int) es a.t with
              | none => rw [hq] at g3; cases g3
              | some o => exact ⟨o, rfl⟩
            rw [hn] at g4
            refine ⟨(j + 1, (@insM EK.int.ty EK.int.ty (EK.instDeq .int) es clk a.t (x.b + a.w)).1, (@insM EK.int.ty EK.int.ty (EK.instDeq .int) es clk a.t (x.b + a.w)).2), [], ⟨by rfl, ?_, ?_⟩, ⟨by simp only; omega, ?_⟩, by simp only; omega⟩
            · simp [eqFr, eqHp, eqV, eqA, eqC, eqO, eqCs, eqAs, look_cons, look, rn, EK.cast, EK.sz, eqCaps, hjs1, hub]
            · simp [eqFr, eqHp, eqV, eqA, eqC, eqO, eqCs, eqAs, look_cons, look, rn, EK.cast, EK.sz, eqCaps]
            · simp only
              rw [hjs1]
              exact hlk.less clk hn g4
          · rename_i g1 g2 g3 g4
            (conv => whnf)
            generalize F.arcs.getD (0 + (j : Int).toNat) EK.arc.dflt = a at *
            rw [sbA_yes g1 g2] at hjs1
            have hub : updB st1.2 (x.b + a.w) = x.b + a.w := by unfold updB; rw [if_pos (by omega)]
            obtain ⟨o, hn⟩ : ∃ o, @lkM EK.int.ty EK.int.ty (EK.instDeq .int) es a.t = some o := by
              cases hq : @lkM EK.int.ty EK.int.ty (EK.instDeq .int) es a.t with
              | none => rw [hq] at g3; cases g3
              | some o => exact ⟨o, rfl⟩
            rw [hn] at g4
            refine ⟨(j + 1, es, clk), [], ⟨by rfl, ?_, ?_⟩, ⟨by simp only; omega, ?_⟩, by simp only; omega⟩
            · simp [eqFr, eqHp, eqV, eqA, eqC, eqO, eqCs, eqAs, look_cons, look, rn, EK.cast, EK.sz, eqCaps, hjs1, hub]
            · simp [eqFr, eqHp, eqV, eqA, eqC, eqO, eqCs, eqAs, look_cons, look, rn, EK.cast, EK.sz, eqCaps]
            · simp only
              rw [hjs1]
              exact hlk.same hn g4
          · rename_i g1 g2 g3 g4 g0
            (conv => whnf)
            generalize F.arcs.getD (0 + (j : Int).toNat) EK.arc.dflt = a at *
            rw [sbA_yes g1 g2] at hjs1
            have hub : updB st1.2 (x.b + a.w) = x.b + a.w := by unfold updB; rw [if_pos (by omega)]
            obtain ⟨o, hn⟩ : ∃ o, @lkM EK.int.ty EK.int.ty (EK.instDeq .int) es a.t = some o := by
              cases hq : @lkM EK.int.ty EK.int.ty (EK.instDeq .int) es a.t with
              | none => rw [hq] at g3; cases g3
              | some o => exact ⟨o, rfl⟩
            rw [hn] at g4
            refine ⟨(j + 1, es, clk), [], ⟨by rfl, ?_, ?_⟩, ⟨by simp only; omega, ?_⟩, by simp only; omega⟩
            · simp [eqFr, eqHp, eqV, eqA, eqC, eqO, eqCs, eqAs, look_cons, look, rn, EK.cast, EK.sz, eqCaps, hjs1, hub]
            · simp [eqFr, eqHp, eqV, eqA, eqC, eqO, eqCs, eqAs, look_cons, look, rn, EK.cast, EK.sz, eqCaps]
            · simp only
              rw [hjs1]
              exact hlk.same hn g4
          · rename_i g1 g2 g3 g4 g0
            (conv => whnf)
            generalize F.arcs.getD (0 + (j : Int).toNat) EK.arc.dflt = a at *
            rw [sbA_yes g1 g2] at hjs1
            have hub : updB st1.2 (x.b + a.w) = st1.2 := by unfold updB; rw [if_neg (by omega)]
            obtain ⟨o, hn⟩ : ∃ o, @lkM EK.int.ty EK.int.ty (EK.instDeq .int) es a.t = some o := by
              cases hq : @lkM EK.int.ty EK.int.ty (EK.instDeq .int) es a.t with
              | none => rw [hq] at g3; cases g3
              | some o => exact ⟨o, rfl⟩
            rw [hn] at g4
            refine ⟨(j + 1, es, clk), [], ⟨by rfl, ?_, ?_⟩, ⟨by simp only; omega, ?_⟩, by simp only; omega⟩
            · simp [eqFr, eqHp, eqV, eqA, eqC, eqO, eqCs, eqAs, look_cons, look, rn, EK.cast, EK.sz, eqCaps, hjs1, hub]
            · simp [eqFr, eqHp, eqV, eqA, eqC, eqO, eqCs, eqAs, look_cons, look, rn, EK.cast, EK.sz, eqCaps]
            · simp only
              rw [hjs1]
              exact hlk.same hn g4
        · have e : j = F.arcs.length := by omega
          subst e
          rw [List.take_length] at hlk
          have hks2 : (s.take (k + 1)).foldl (sbX F c) (fun _ => none, -1) = F.arcs.foldl (sbA c x) st0 := hks1
          rw [List.take_length]
          repeat' (first | exact rfl | ((conv => whnf); first | ((first | refine qA (fun h => ?_) fun h => ?_ | refine qN (fun h => ?_) fun h => ?_ | refine qB (fun h => ?_) fun h => ?_ | refine qC (fun h => ?_) fun h => ?_) <;> try exact absurd h (by omega)) | refine qM (fun h => ?_) fun h => ?_ | refine oM (by (first | omega | (simp only [lenS, InI, nmin, EK.sz]; omega) | (simp only [lenS, InI, nmin, EK.sz] at *; omega))) ?_ | refine oM ?_ ?_ | refine bM ?_ ?_ | refine draw_of Tryd.mixed Tryd.tyOk 60 (by kernel_rfl) ?_))
          (conv => whnf)
          refine ⟨(k + 1, es, clk), [], ⟨by rfl, ?_, ?_⟩, ⟨by simp only; omega, ?_⟩, by simp only; omega⟩
          · simp [eqFr, eqHp, eqV, eqA, eqC, eqO, eqCs, eqAs, look_cons, look, rn, EK.cast, EK.sz, eqCaps, hks2]
          · simp [eqFr, eqHp, eqV, eqA, eqC, eqO, eqCs, eqAs, look_cons, look, rn, EK.cast, EK.sz, eqCaps]
          · simp only
            rw [hks2]
            exact hlk
    · have e : k = s.length := by omega
      subst e
      rw [List.take_length] at hlk hbd
      rw [List.take_length]
      have hlk : LkC es (sbR F s c).1 := hlk
      have hbd : OnBd (B + 1000000000) (sbR F s c) := hbd
      have hfold : s.foldl (sbX F c) (fun _ => none, -1) = sbR F s c := rfl
      rw [hfold]
      have hmS : sbS F s c = sbL (sbR F s c).1 (sbR F s c).2 F.st.toNat := rfl
      have hmB : sbB F s c = (sbR F s c).2 := rfl
      rw [hmS, hmB]
      clear hfold hmS hmB
      generalize sbR F s c = st at *
      repeat' (first | exact rfl | ((conv => whnf); first | ((first | refine qA (fun h => ?_) fun h => ?_ | refine qN (fun h => ?_) fun h => ?_ | refine qB (fun h => ?_) fun h => ?_ | refine qC (fun h => ?_) fun h => ?_) <;> try exact absurd h (by omega)) | refine qM (fun h => ?_) fun h => ?_ | refine oM (by (first | omega | (simp only [lenS, InI, nmin, EK.sz]; omega) | (simp only [lenS, InI, nmin, EK.sz] at *; omega))) ?_ | refine oM ?_ ?_ | refine bM ?_ ?_ | refine draw_of Tryd.mixed Tryd.tyOk 60 (by kernel_rfl) ?_))
      (conv => whnf)
      refine loopI (fun z : Nat × Nat => ⟨[(8, .c (.mp 9)), (9, .i st.2), (17, .c (.sl 10 2 0 (sbL st.1 st.2 z.1).length ((sbL st.1 st.2 z.1).length + z.2))), (86, .i F.st), (87, .i z.1)], [(2, .box 79 (dC F 5 nl cl ost osr 7 nf cf 8 nr cr)), (9, .map .int .int es clk), (10, .arr true 80 .duo (sbL st.1 st.2 z.1) z.2)], 11⟩)
        (fun z => (z.1 : Int) ≤ F.st) (fun z => F.st.toNat - z.1) (0, 0) [(10, none)] ⟨by rfl, ?_, ?_⟩ (by simp only; omega) ?_
      · simp [eqFr, eqHp, eqV, eqA, eqC, eqO, eqCs, eqAs, look_cons, look, rn, EK.cast, EK.sz, eqCaps, sbL]
      · simp [eqFr, eqHp, eqV, eqA, eqC, eqO, eqCs, eqAs, look_cons, look, rn, EK.cast, EK.sz, eqCaps, nilO, sbL]
      · clear hk hk2
        rintro ⟨k, sp⟩ hk
        simp only at hk ⊢
        have hll := sbL_len st.1 st.2 k
        have hls := sbL_succ st.1 st.2 k
        have hbk := hbd.c (k : Int)
        have hl := hlk (k : Int)
        have hb := hbd.b
        generalize hql : sbL st.1 st.2 k = ql at hll hls ⊢
        (conv => whnf)
        refine condP_dec (fun hk2 => ?_) (fun hk2 => ?_)
        · cases hm : st.1 (k : Int) with
          | none =>
            rw [hm] at hl hls
            simp only at hls
            repeat' (first | exact rfl | ((conv => whnf); first | ((first | refine qA (fun h => ?_) fun h => ?_ | refine qN (fun h => ?_) fun h => ?_ | refine qB (fun h => ?_) fun h => ?_ | refine qC (fun h => ?_) fun h => ?_) <;> try exact absurd h (by omega)) | refine qM (fun h => ?_) fun h => ?_ | refine oM (by (first | omega | (simp only [lenS, InI, nmin, EK.sz]; omega) | (simp only [lenS, InI, nmin, EK.sz] at *; omega))) ?_ | refine oM ?_ ?_ | refine bM ?_ ?_ | refine draw_of Tryd.mixed Tryd.tyOk 60 (by kernel_rfl) ?_))
            all_goals try (rw [hl] at h; cases h; done)
            · (conv => whnf)
              refine ⟨(k + 1, sp), [], ⟨by rfl, ?_, ?_⟩, by simp only; omega, by simp only; omega⟩
              · simp [eqFr, eqHp, eqV, eqA, eqC, eqO, eqCs, eqAs, look_cons, look, rn, EK.cast, EK.sz, eqCaps, hls]
              · simp [eqFr, eqHp, eqV, eqA, eqC, eqO, eqCs, eqAs, look_cons, look, rn, EK.cast, EK.sz, eqCaps, hls]
          | some v =>
            rw [hm] at hl hls
            simp only at hls
            have hv := hbk v hm
            have hg : (@lkM EK.int.ty EK.int.ty (EK.instDeq .int) es (k : Int)).getD EK.int.dflt = v := by rw [hl]; rfl
            have hg0 : @LE.le Int _ 0 ((@lkM EK.int.ty EK.int.ty (EK.instDeq .int) es (k : Int)).getD EK.int.dflt) ∧ @LE.le Int _ ((@lkM EK.int.ty EK.int.ty (EK.instDeq .int) es (k : Int)).getD EK.int.dflt) 20000000000000 := by rw [hg]; exact ⟨hv.1, by omega⟩
            repeat' (first | exact rfl | ((conv => whnf); first | ((first | refine qA (fun h => ?_) fun h => ?_ | refine qN (fun h => ?_) fun h => ?_ | refine qB (fun h => ?_) fun h => ?_ | refine qC (fun h => ?_) fun h => ?_) <;> try exact absurd h (by omega)) | refine qM (fun h => ?_) fun h => ?_ | refine oM (by (first | omega | (simp only [lenS, InI, nmin, EK.sz]; omega) | (simp only [lenS, InI, nmin, EK.sz] at *; omega))) ?_ | refine oM ?_ ?_ | refine bM ?_ ?_ | refine draw_of Tryd.mixed Tryd.tyOk 60 (by kernel_rfl) ?_))
            all_goals try (rw [hl] at h; cases h; done)
            · intro sp2
              repeat' (first | exact rfl | ((conv => whnf); first | ((first | refine qA (fun h => ?_) fun h => ?_ | refine qN (fun h => ?_) fun h => ?_ | refine qB (fun h => ?_) fun h => ?_ | refine qC (fun h => ?_) fun h => ?_) <;> try exact absurd h (by omega)) | refine qM (fun h => ?_) fun h => ?_ | refine oM (by (first | omega | (simp only [lenS, InI, nmin, EK.sz]; omega) | (simp only [lenS, InI, nmin, EK.sz] at *; omega))) ?_ | refine oM ?_ ?_ | refine bM ?_ ?_ | refine draw_of Tryd.mixed Tryd.tyOk 60 (by kernel_rfl) ?_))
              (conv => whnf)
              rw [hg]
              refine ⟨(k + 1, sp2), [(10, some 12)], ⟨by rfl, ?_, ?_⟩, by simp only; omega, by simp only; omega⟩
              · simp [eqFr, eqHp, eqV, eqA, eqC, eqO, eqCs, eqAs, look_cons, look, rn, EK.cast, EK.sz, eqCaps, hls]
              · simp [eqFr, eqHp, eqV, eqA, eqC, eqO, eqCs, eqAs, look_cons, look, rn, EK.cast, EK.sz, eqCaps, hls]
                simp [app_one]
        · have e : k = F.st.toNat := by omega
          subst e
          rw [← hql]
          repeat' (first | exact rfl | ((conv => whnf); first | ((first | refine qA (fun h => ?_) fun h => ?_ | refine qN (fun h => ?_) fun h => ?_ | refine qB (fun h => ?_) fun h => ?_ | refine qC (fun h => ?_) fun h => ?_) <;> try exact absurd h (by omega)) | refine qM (fun h => ?_) fun h => ?_ | refine oM (by (first | omega | (simp only [lenS, InI, nmin, EK.sz]; omega) | (simp only [lenS, InI, nmin, EK.sz] at *; omega))) ?_ | refine oM ?_ ?_ | refine bM ?_ ?_ | refine draw_of Tryd.mixed Tryd.tyOk 60 (by kernel_rfl) ?_))
          (conv => whnf)
          exact ⟨[(9, some 10)], [(2, .box 79 (dC F 5 nl cl ost osr 7 nf cf 8 nr cr)), (9, .arr true 80 .duo (sbL st.1 st.2 F.st.toNat) sp)], 10, .tup [.c (.sl 9 2 0 (sbL st.1 st.2 F.st.toNat).length ((sbL st.1 st.2 F.st.toNat).length + sp)), .c (.i st.2)], ⟨by rfl, trivial, by simp [eqFr, eqHp, eqV, eqA, eqC, eqO, eqCs, eqAs, look_cons, look, rn, EK.cast, EK.sz, eqCaps]⟩, by simp [eqV, eqA, eqAs, eqC, eqCs, rn, look, look_cons], sp, rfl, rfl⟩
end Go.Fw

/-
  Texts of subsets tell them; numbers of subsets; rows of subsets in a pool.
-/
namespace Go.Fw
open Go Go.Proofs

def undec (l : List UInt8) : Nat := l.foldl (fun n c => 10 * n + (c.toNat - 48)) 0
theorem u8_toNat {n : Nat} (h : n < 256) : (UInt8.ofNat n).toNat = n := by
  simp [UInt8.toNat_ofNat']
  omega
theorem undec_dec : ∀ (n u : Nat), u ≤ n → undec (Lib.decDigits u) = u
  | 0, u, h => by
    have : u = 0 := by omega
    subst this
    rw [Lib.decDigits, dif_pos (by omega)]
    rfl
  | n + 1, u, h => by
    rw [Lib.decDigits]
    split
    · simp only [undec, List.foldl_cons, List.foldl_nil]
      rw [u8_toNat (by omega)]
      omega
    · have ih := undec_dec n (u / 10) (by omega)
      unfold undec at ih ⊢
      rw [List.foldl_append, ih]
      simp only [List.foldl_cons, List.foldl_nil]
      rw [u8_toNat (by omega)]
      omega
theorem dec_digit : ∀ (n u : Nat), u ≤ n → ∀ c ∈ Lib.decDigits u, 48 ≤ c.toNat ∧ c.toNat ≤ 57
  | 0, u, h => by
    have : u = 0 := by omega
    subst this
    rw [Lib.decDigits, dif_pos (by omega)]
    intro c hc
    simp only [List.mem_singleton] at hc
    subst hc
    rw [u8_toNat (by omega)]
    omega
  | n + 1, u, h => by
    rw [Lib.decDigits]
    split
    · intro c hc
      simp only [List.mem_singleton] at hc
      subst hc
      rw [u8_toNat (by omega)]
      omega
    · intro c hc
      rw [List.mem_append] at hc
      rcases hc with hc | hc
      · exact dec_digit n (u / 10) (by omega) c hc
      · simp only [List.mem_singleton] at hc
        subst hc
        rw [u8_toNat (by omega)]
        omega
theorem itoa_dec {n : Int} (h : 0 ≤ n) : Lib.itoa n = Lib.decDigits n.toNat := by unfold Lib.itoa; rw [if_neg (by omega)]
theorem itoa_digit {n : Int} (h : 0 ≤ n) : ∀ c ∈ Lib.itoa n, 48 ≤ c.toNat ∧ c.toNat ≤ 57 := by
  rw [itoa_dec h]
  exact dec_digit _ _ (Nat.le_refl _)
theorem itoa_inj {n m : Int} (hn : 0 ≤ n) (hm : 0 ≤ m) (h : Lib.itoa n = Lib.itoa m) : n = m := by
  rw [itoa_dec hn, itoa_dec hm] at h
  have := congrArg undec h
  rw [undec_dec _ _ (Nat.le_refl _), undec_dec _ _ (Nat.le_refl _)] at this
  omega
theorem cut_at {α : Type} {x : α} : ∀ {p q r t : List α}, x ∉ p → x ∉ q → p ++ x :: r = q ++ x :: t → p = q ∧ r = t
  | [], [], r, t, _, _, h => by simpa using h
  | [], y :: q, r, t, _, h2, h => by
    simp only [List.nil_append, List.cons_append, List.cons.injEq] at h
    exact absurd (by simp [h.1]) h2
  | y :: p, [], r, t, h1, _, h => by
    simp only [List.nil_append, List.cons_append, List.cons.injEq] at h
    exact absurd (by simp [h.1]) h1
  | y :: p, z :: q, r, t, h1, h2, h => by
    simp only [List.cons_append, List.cons.injEq] at h
    obtain ⟨e1, e2⟩ := cut_at (fun hx => h1 (by simp [hx])) (fun hx => h2 (by simp [hx])) h.2
    exact ⟨by rw [h.1, e1], e2⟩
theorem itoa_no {n : Int} (hn : 0 ≤ n) {x : UInt8} (hx : x.toNat < 48 ∨ 57 < x.toNat) : x ∉ Lib.itoa n := fun h => by
  have := itoa_digit hn x h
  omega

def Pos2 (l : List Duo) : Prop := ∀ e ∈ l, 0 ≤ e.a ∧ 0 ≤ e.b
theorem kyB_inj : ∀ {l m : List Duo}, Pos2 l → Pos2 m → kyB l = kyB m → l = m
  | [], [], _, _, _ => rfl
  | [], e :: m, _, _, h => by
    have := congrArg List.length h
    simp [kyB] at this
  | e :: l, [], _, _, h => by
    have := congrArg List.length h
    simp [kyB] at this
  | e :: l, g :: m, hl, hm, h => by
    have he := hl e (by simp)
    have hg := hm g (by simp)
    have h2 : Lib.itoa e.a ++ 58 :: (Lib.itoa e.b ++ 32 :: kyB l) = Lib.itoa g.a ++ 58 :: (Lib.itoa g.b ++ 32 :: kyB m) := by
      have : ∀ (x : Duo) (t : List Duo), kyB (x :: t) = Lib.itoa x.a ++ 58 :: (Lib.itoa x.b ++ 32 :: kyB t) := fun x t => by simp [kyB]
      rw [← this, ← this]; exact h
    obtain ⟨a1, a2⟩ := cut_at (itoa_no he.1 (by decide)) (itoa_no hg.1 (by decide)) h2
    obtain ⟨b1, b2⟩ := cut_at (itoa_no he.2 (by decide)) (itoa_no hg.2 (by decide)) a2
    have e1 := itoa_inj he.1 hg.1 a1
    have e2 := itoa_inj he.2 hg.2 b1
    rw [kyB_inj (fun x hx => hl x (by simp [hx])) (fun x hx => hm x (by simp [hx])) b2]
    cases e
    cases g
    simp only at e1 e2
    rw [e1, e2]
theorem bs_inj {a b : List UInt8} (h : bs a = bs b) : a = b := by
  have := congrArg ByteArray.data h
  simpa [bs] using this

/-- The numbers of subsets. -/
structure NumD (es : List (ByteArray × Int × Nat)) (L : List (List Duo)) : Prop where
  len : es.length = L.length
  lk : ∀ s, Pos2 s → @lkM EK.str.ty EK.int.ty (EK.instDeq .str) es (bs (kyB s)) = if s ∈ L then some ((L.idxOf s : Nat) : Int) else none

theorem idxOf_in {α : Type} [BEq α] [LawfulBEq α] {l m : List α} {x : α} (h : x ∈ l) : (l ++ m).idxOf x = l.idxOf x := by
  rw [List.idxOf_append, if_pos h]
theorem idxOf_out {α : Type} [BEq α] [LawfulBEq α] {l m : List α} {x : α} (h : x ∉ l) : (l ++ m).idxOf x = m.idxOf x + l.length := by
  rw [List.idxOf_append, if_neg h]

theorem NumD.new {es : List (ByteArray × Int × Nat)} {L : List (List Duo)} (h : NumD es L) {s : List Duo} (hp : Pos2 s) (hs : s ∉ L) (clk : Nat) : NumD (@insM EK.str.ty EK.int.ty (EK.instDeq .str) es clk (bs (kyB s)) ((L.length : Nat) : Int)).1 (L ++ [s]) := by
  have hn : ¬ (@lkM EK.str.ty EK.int.ty (EK.instDeq .str) es (bs (kyB s))).isSome = true := by rw [h.lk s hp, if_neg hs]; simp
  refine ⟨?_, fun t ht => ?_⟩
  · unfold insM
    rw [if_neg hn]
    simp [h.len]
  · rw [lkM_insM]
    by_cases e : bs (kyB t) = bs (kyB s)
    · have e2 := kyB_inj ht hp (bs_inj e)
      subst e2
      rw [if_pos rfl, if_pos (by simp), idxOf_out hs]
      simp
    · have e2 : t ≠ s := fun c => e (by rw [c])
      rw [if_neg e, h.lk t ht]
      by_cases hx : t ∈ L
      · rw [if_pos hx, if_pos (by simp [hx]), idxOf_in hx]
      · rw [if_neg hx, if_neg (by simp [hx, e2])]

/-- Rows of subsets in a pool. -/
structure TabD (m : List (Addr × List Duo × Nat)) (rows : List Sli) (L : List (List Duo)) : Prop where
  len : rows.length = L.length
  hd : ∀ j, j < L.length → Hd m (rows.getD j EK.sli.dflt)
  row : ∀ j, j < L.length → rowA m (rows.getD j EK.sli.dflt).a = L.getD j []

theorem TabD.nil : TabD [] [] [] := ⟨rfl, fun j h => absurd h (Nat.not_lt_zero _), fun j h => absurd h (Nat.not_lt_zero _)⟩

theorem TabD.frz {m m' : List (Addr × List Duo × Nat)} {rows : List Sli} {L : List (List Duo)} (h : TabD m rows L) {s : List Duo} {sp cap : Nat} {y : Sli} (hf : Frz m s sp s.length cap m' y) : TabD m' rows L := by
  cases hf with
  | nil _ => exact h
  | @own a hn _ =>
    have hk : ∀ b y, lkA m b = some y → lkA ((a, s, sp) :: m) b = some y := by
      intro b y hb
      unfold lkA
      split
      · rename_i e; rw [e, hb] at hn; cases hn
      · exact hb
    refine ⟨h.len, fun j hj => ?_, fun j hj => ?_⟩
    · have h2 := h.hd j hj
      unfold Hd at h2 ⊢
      split
      · rename_i e; rw [e] at h2; exact h2
      · rename_i b e
        rw [e] at h2
        simp only at h2 ⊢
        cases hl : lkA m b with
        | none => rw [hl] at h2; exact h2.elim
        | some y => rw [hl] at h2; rw [hk b y hl]; exact h2
    · rw [← h.row j hj]
      have h2 := h.hd j hj
      unfold Hd at h2
      split at h2
      · rename_i e; rw [e]; rfl
      · rename_i b e
        rw [e]
        cases hl : lkA m b with
        | none => rw [hl] at h2; exact h2.elim
        | some y =>
          unfold rowA
          simp only [hk b y hl, hl]

theorem TabD.add {m : List (Addr × List Duo × Nat)} {rows : List Sli} {L : List (List Duo)} (h : TabD m rows L) {s : List Duo} {y : Sli} (hy : Hd m y) (hr : rowA m y.a = s) : TabD m (rows ++ [y]) (L ++ [s]) := by
  have hg : ∀ j, j < L.length → (rows ++ [y]).getD j EK.sli.dflt = rows.getD j EK.sli.dflt := fun j hj => by
    simp only [List.getD]
    rw [List.getElem?_append_left (by rw [h.len]; exact hj)]
  have hg2 : (rows ++ [y]).getD L.length EK.sli.dflt = y := by
    simp only [List.getD]
    rw [List.getElem?_append_right (by rw [h.len]; exact Nat.le_refl _), h.len]
    simp
  refine ⟨by simp [h.len], fun j hj => ?_, fun j hj => ?_⟩
  · simp only [List.length_append, List.length_cons, List.length_nil] at hj
    by_cases e : j = L.length
    · subst e; rw [hg2]; exact hy
    · rw [hg j (by omega)]; exact h.hd j (by omega)
  · simp only [List.length_append, List.length_cons, List.length_nil] at hj
    by_cases e : j = L.length
    · subst e
      rw [hg2, hr]
      simp [List.getD]
    · rw [hg j (by omega), h.row j (by omega)]
      simp only [List.getD]
      rw [List.getElem?_append_left (by omega)]

theorem frz_hd {m m' : List (Addr × List Duo × Nat)} {s : List Duo} {sp cap : Nat} {y : Sli} (hf : Frz m s sp s.length cap m' y) (hc : cap ≤ s.length + sp) (hne : s ≠ []) : Hd m' y ∧ rowA m' y.a = s ∧ y.n = s.length ∧ y.c = cap := by
  cases hf with
  | nil h => exact absurd h hne
  | @own a hn _ =>
    have : lkA ((a, s, sp) :: m) a = some (s, sp) := by unfold lkA; rw [if_pos rfl]
    refine ⟨?_, ?_, rfl, rfl⟩
    · unfold Hd
      simp only [this]
      exact ⟨trivial, hc⟩
    · unfold rowA
      simp only [this]
end Go.Fw

namespace Go.Fw
open Go Go.Proofs

def numL (L : List (List Duo)) (s : List Duo) : List (List Duo) := if s ∈ L then L else L ++ [s]

theorem finS_bd {F : TF} {B : Int} (hfin : ∀ n ∈ F.fin, -1 ≤ n ∧ n ≤ 1000000000) (hB : 0 ≤ B) : ∀ (l : List Duo), (∀ e ∈ l, (0 ≤ e.a ∧ e.a < F.fin.length) ∧ 0 ≤ e.b ∧ e.b ≤ B) → ∀ r, -1 ≤ r ∧ r ≤ B + 1000000000 → -1 ≤ l.foldl (finS F) r ∧ l.foldl (finS F) r ≤ B + 1000000000
  | [], _, r, hr => hr
  | e :: l, hl, r, hr => by
    have he := hl e (by simp)
    have hf := hfin _ (getD_mem F.fin e.a.toNat 0 (by omega))
    refine finS_bd hfin hB l (fun x hx => hl x (by simp [hx])) _ ?_
    unfold finS
    split <;> omega

abbrev hpDo (F : TF) (L : List (List Duo)) (es : List (ByteArray × Int × Nat)) (clk : Nat) (rows : List Sli) (m : List (Addr × List Duo × Nat)) (spr spf nr cr : Nat) (il jf ir : Nat) (x : Obj) : List (Nat × SO) := [(2, .box 79 (dC F il rows.length (rows.length + spr) 0 0 jf (L.map (finD F)).length ((L.map (finD F)).length + spf) ir nr cr)), (4, .map .str .int es clk), (il, .arr true 82 .sli rows spr), (6, .pool 80 .duo m), (jf, .arr true 3 .int (L.map (finD F)) spf), (9, tabO x)]

section
variable (F : TF) (hF : WOk F) (hst1 : F.st ≤ 1000) (x : Obj) (hx : TabX x) (L : List (List Duo)) (es : List (ByteArray × Int × Nat)) (clk : Nat) (rows : List Sli) (m : List (Addr × List Duo × Nat)) (spr spf nr cr : Nat) (s : List Duo) (ya : Option Addr) (yc : Nat) (B : Int) (hB : 0 ≤ B ∧ B ≤ 1000000000000) (hs : SOk F B s) (hnum : NumD es L) (htab : TabD m rows L) (hy : Hd m ⟨ya, s.length, yc⟩) (hr : rowA m ya = s) (hL : L.length ≤ 100000)
include hF hst1 hx hB hs hnum htab hy hr hL

omit hy hL in
set_option maxHeartbeats 16000000 in
set_option maxRecDepth 20000 in
theorem numberD_in (hin : s ∈ L) :
    Ct Tryd.prog 65 [.c (.ptr 2 0), .c (.h ⟨ya, s.length, yc⟩)] [] ((0, .arr false 3 .int F.fin 0) :: hpDo F L es clk rows m spr spf nr cr 5 7 8 x) 10
    (fun v t => ∃ es' clk' rows' spr' spf', NumD es' L ∧ TabD m rows' L ∧ v = .i ((L.idxOf s : Nat) : Int) ∧ t = ⟨[], hpDo F L es' clk' rows' m spr' spf' nr cr 10 11 8 x, 12⟩) := by
  have hst := hF.st
  have hsl := hs.len
  have hp : Pos2 s := fun e he => by have := hs.rng e he; omega
  have hlk := hnum.lk s hp
  have hes := hnum.len
  rw [if_pos hin] at hlk
  have hdok : DOk 10000000000000 s := ⟨by omega, fun e he => by have := hs.rng e he; omega⟩
  refine ctW Tryd.tyOk 13 [47, 48, 49] Tryd.func65 rfl (by simp [SV.lt, SA.lt, SC.lt, arcV, fV]) (by simp) (fr := [(0, .c (.ptr 2 0)), (1, .c (.h ⟨ya, s.length, yc⟩))]) rfl ?_
  repeat' (first | exact rfl | ((conv => whnf); first | ((first | refine qA (fun h => ?_) fun h => ?_ | refine qN (fun h => ?_) fun h => ?_ | refine qB (fun h => ?_) fun h => ?_ | refine qC (fun h => ?_) fun h => ?_) <;> try exact absurd h (by omega)) | refine qM (fun h => ?_) fun h => ?_ | refine oM (by (first | omega | (simp only [lenS, InI, nmin, EK.sz]; omega) | (simp only [lenS, InI, nmin, EK.sz] at *; omega))) ?_ | refine oM ?_ ?_ | refine bM ?_ ?_ | refine draw_of Tryd.mixed Tryd.tyOk 60 (by kernel_rfl) ?_))
  (conv => whnf)
  refine callRow 6 [true] Tryd.call87 (by simp [appN, ptrs, SV.lt, SA.lt, SC.lt, fV]) ?_
  (conv => whnf)
  have hks := key_c x hx (rowA m ya) yc (by rw [hr]; exact hdok)
  rw [hr] at hks
  simp only [hr]
  refine callF (hks) [10, 9] Tryd.call87 rfl (by simp [eqLs, eqL, eqO, eqC, eqCs, rn, renOf, look_cons, look, EK.cast, rowsO, appN, lenN, hr]) (by simp [appN, ptrs, eqVL, eqV, eqA, eqC, eqCs, eqAs, eqCaps, EK.sz, rn, renOf, look_cons, look, arcV, fV, rowsO, appN, lenN, hr]) (by simp [appN, ptrs, SV.lt, SA.lt, SC.lt, arcV, fV, lenN]) ?_
  rintro _ _ ⟨rfl, rfl⟩
  repeat' (first | exact rfl | ((conv => whnf); first | ((first | refine qA (fun h => ?_) fun h => ?_ | refine qN (fun h => ?_) fun h => ?_ | refine qB (fun h => ?_) fun h => ?_ | refine qC (fun h => ?_) fun h => ?_) <;> try exact absurd h (by omega)) | refine qM (fun h => ?_) fun h => ?_ | refine oM (by (first | omega | (simp only [lenS, InI, nmin, EK.sz]; omega) | (simp only [lenS, InI, nmin, EK.sz] at *; omega))) ?_ | refine oM ?_ ?_ | refine bM ?_ ?_ | refine draw_of Tryd.mixed Tryd.tyOk 60 (by kernel_rfl) ?_ | intro _))
  · (conv => whnf)
    refine ⟨[(10, some 5), (11, some 7)], hpDo F L es clk rows m spr spf nr cr 10 11 8 x, 12, .i ((L.idxOf s : Nat) : Int), ⟨by rfl, trivial, by simp [eqFr, eqHp, eqV, eqA, eqC, eqO, eqCs, eqAs, look_cons, look, rn, EK.cast, EK.sz, eqCaps, appN]⟩, ?_, es, clk, rows, spr, spf, hnum, htab, rfl, rfl⟩
    simp only [eqV, eqA, eqC, hlk, Option.getD_some]
  all_goals (rw [hlk] at h; cases h)

set_option maxHeartbeats 16000000 in
set_option maxRecDepth 20000 in
theorem numberD_new (hin : s ∉ L) :
    Ct Tryd.prog 65 [.c (.ptr 2 0), .c (.h ⟨ya, s.length, yc⟩)] [] ((0, .arr false 3 .int F.fin 0) :: hpDo F L es clk rows m spr spf nr cr 5 7 8 x) 10
    (fun v t => ∃ es' clk' rows' spr' spf', NumD es' (L ++ [s]) ∧ TabD m rows' (L ++ [s]) ∧ v = .i (((L ++ [s]).idxOf s : Nat) : Int) ∧ t = ⟨[], hpDo F (L ++ [s]) es' clk' rows' m spr' spf' nr cr 10 11 8 x, 12⟩) := by
  have hst := hF.st
  have hsl := hs.len
  have hp : Pos2 s := fun e he => by have := hs.rng e he; omega
  have hlk := hnum.lk s hp
  have hes := hnum.len
  have htl := htab.len
  have hfl := hF.finl
  have hnew := hnum.new hp hin clk
  have htn := htab.add hy hr
  rw [← hes] at hnew
  rw [if_neg hin] at hlk
  have hidx : (L ++ [s]).idxOf s = es.length := by rw [idxOf_out hin, hes]; simp
  have hdok : DOk 10000000000000 s := ⟨by omega, fun e he => by have := hs.rng e he; omega⟩
  refine ctW Tryd.tyOk 13 [47, 48, 49] Tryd.func65 rfl (by simp [SV.lt, SA.lt, SC.lt, arcV, fV]) (by simp) (fr := [(0, .c (.ptr 2 0)), (1, .c (.h ⟨ya, s.length, yc⟩))]) rfl ?_
  repeat' (first | exact rfl | ((conv => whnf); first | ((first | refine qA (fun h => ?_) fun h => ?_ | refine qN (fun h => ?_) fun h => ?_ | refine qB (fun h => ?_) fun h => ?_ | refine qC (fun h => ?_) fun h => ?_) <;> try exact absurd h (by omega)) | refine qM (fun h => ?_) fun h => ?_ | refine oM (by (first | omega | (simp only [lenS, InI, nmin, EK.sz]; omega) | (simp only [lenS, InI, nmin, EK.sz] at *; omega))) ?_ | refine oM ?_ ?_ | refine bM ?_ ?_ | refine draw_of Tryd.mixed Tryd.tyOk 60 (by kernel_rfl) ?_))
  (conv => whnf)
  refine callRow 6 [true] Tryd.call87 (by simp [appN, ptrs, SV.lt, SA.lt, SC.lt, fV]) ?_
  (conv => whnf)
  have hks := key_c x hx (rowA m ya) yc (by rw [hr]; exact hdok)
  rw [hr] at hks
  simp only [hr]
  refine callF (hks) [10, 9] Tryd.call87 rfl (by simp [eqLs, eqL, eqO, eqC, eqCs, rn, renOf, look_cons, look, EK.cast, rowsO, appN, lenN, hr]) (by simp [appN, ptrs, eqVL, eqV, eqA, eqC, eqCs, eqAs, eqCaps, EK.sz, rn, renOf, look_cons, look, arcV, fV, rowsO, appN, lenN, hr]) (by simp [appN, ptrs, SV.lt, SA.lt, SC.lt, arcV, fV, lenN]) ?_
  rintro _ _ ⟨rfl, rfl⟩
  simp only [lenN, Nat.reduceAdd, Nat.reduceSub]
  repeat' (first | exact rfl | ((conv => whnf); first | ((first | refine qA (fun h => ?_) fun h => ?_ | refine qN (fun h => ?_) fun h => ?_ | refine qB (fun h => ?_) fun h => ?_ | refine qC (fun h => ?_) fun h => ?_) <;> try exact absurd h (by omega)) | refine qM (fun h => ?_) fun h => ?_ | refine oM (by (first | omega | (simp only [lenS, InI, nmin, EK.sz]; omega) | (simp only [lenS, InI, nmin, EK.sz] at *; omega))) ?_ | refine oM ?_ ?_ | refine bM ?_ ?_ | refine draw_of Tryd.mixed Tryd.tyOk 60 (by kernel_rfl) ?_ | intro _))
  · rw [hlk] at h; cases h
  · rename_i spr2
    have hap : lOp.appL (sub rows 0 rows.length) (sub [(⟨ya, s.length, yc⟩ : Sli)] 0 1) = rows ++ [⟨ya, s.length, yc⟩] := app_one rows rows.length _ rfl
    simp only [Nat.reduceAdd, Nat.reduceSub]
    refine loopI (fun k : Nat => ⟨[(0, .c (.ptr 2 0)), (8, .i es.length), (9, .i ((s.take k).foldl (finS F) (-1))), (47, .c (.h ⟨ya, s.length, yc⟩)), (48, .i s.length), (49, .i k)], (0, .arr false 3 .int F.fin 0) :: [(2, .box 79 (dC F 10 (rows ++ [(⟨ya, s.length, yc⟩ : Sli)]).length ((rows ++ [(⟨ya, s.length, yc⟩ : Sli)]).length + spr2) 0 0 7 (L.map (finD F)).length ((L.map (finD F)).length + spf) 8 nr cr)), (4, .map .str .int (@insM EK.str.ty EK.int.ty (EK.instDeq .str) es clk (bs (kyB s)) (es.length : Int)).1 (@insM EK.str.ty EK.int.ty (EK.instDeq .str) es clk (bs (kyB s)) (es.length : Int)).2), (10, .arr true 82 .sli (rows ++ [(⟨ya, s.length, yc⟩ : Sli)]) spr2), (6, .pool 80 .duo m), (7, .arr true 3 .int (L.map (finD F)) spf), (9, tabO x)], 11⟩)
      (fun k => k ≤ s.length) (fun k => s.length - k) 0 [(10, some 12)] ⟨by rfl, ?_, ?_⟩ (Nat.zero_le _) ?_
    · simp [eqFr, eqHp, eqV, eqA, eqC, eqO, eqCs, eqAs, look_cons, look, rn, EK.cast, EK.sz, eqCaps]
    · simp [eqFr, eqHp, eqV, eqA, eqC, eqO, eqCs, eqAs, look_cons, look, rn, EK.cast, EK.sz, eqCaps, hap]
    · intro k hk
      have hbk := finS_bd hF.fin hB.1 (s.take k) (fun e he => by have := hs.rng e (List.mem_of_mem_take he); omega) (-1) (by omega)
      (conv => whnf)
      refine condP_dec (fun hk2 => ?_) (fun hk2 => ?_)
      · have e0 : 0 + (k : Int).toNat = k := by omega
        have hks := foldl_take (finS F) (-1) s ⟨0, 0⟩ k (by omega)
        have hxr := hs.rng _ (getD_mem s k ⟨0, 0⟩ (by omega))
        have hrl : (rowA m ya).length = s.length := by rw [hr]
        have hee : ((rowA m (⟨ya, s.length, yc⟩ : Sli).a).getD (k : Int).toNat EK.duo.dflt) = s.getD k ⟨0, 0⟩ := by
          show (rowA m ya).getD (k : Int).toNat ⟨0, 0⟩ = _
          rw [hr, Int.toNat_natCast]
        have hxr1 : (0 ≤ ((rowA m (⟨ya, s.length, yc⟩ : Sli).a).getD (k : Int).toNat EK.duo.dflt).a ∧ ((rowA m (⟨ya, s.length, yc⟩ : Sli).a).getD (k : Int).toNat EK.duo.dflt).a < F.fin.length) ∧ 0 ≤ ((rowA m (⟨ya, s.length, yc⟩ : Sli).a).getD (k : Int).toNat EK.duo.dflt).b ∧ ((rowA m (⟨ya, s.length, yc⟩ : Sli).a).getD (k : Int).toNat EK.duo.dflt).b ≤ B := by rw [hee]; omega
        have hff : -1 ≤ F.fin.getD (0 + ((rowA m (⟨ya, s.length, yc⟩ : Sli).a).getD (k : Int).toNat EK.duo.dflt).a.toNat) EK.int.dflt ∧ F.fin.getD (0 + ((rowA m (⟨ya, s.length, yc⟩ : Sli).a).getD (k : Int).toNat EK.duo.dflt).a.toNat) EK.int.dflt ≤ 1000000000 := hF.fin _ (getD_mem _ _ _ (by omega))
        have hks1 : (s.take (k + 1)).foldl (finS F) (-1) = if F.fin.getD (0 + ((rowA m (⟨ya, s.length, yc⟩ : Sli).a).getD (k : Int).toNat EK.duo.dflt).a.toNat) EK.int.dflt ≠ -1 ∧ ((s.take k).foldl (finS F) (-1) = -1 ∨ ((rowA m (⟨ya, s.length, yc⟩ : Sli).a).getD (k : Int).toNat EK.duo.dflt).b + F.fin.getD (0 + ((rowA m (⟨ya, s.length, yc⟩ : Sli).a).getD (k : Int).toNat EK.duo.dflt).a.toNat) EK.int.dflt < (s.take k).foldl (finS F) (-1)) then ((rowA m (⟨ya, s.length, yc⟩ : Sli).a).getD (k : Int).toNat EK.duo.dflt).b + F.fin.getD (0 + ((rowA m (⟨ya, s.length, yc⟩ : Sli).a).getD (k : Int).toNat EK.duo.dflt).a.toNat) EK.int.dflt else (s.take k).foldl (finS F) (-1) := by
          rw [hks, hee, Nat.zero_add]
          rfl
        clear hks hxr
        generalize hrr : (s.take k).foldl (finS F) (-1) = r at *
        repeat' (first | exact rfl | ((conv => whnf); first | ((first | refine qA (fun h => ?_) fun h => ?_ | refine qN (fun h => ?_) fun h => ?_ | refine qB (fun h => ?_) fun h => ?_ | refine qC (fun h => ?_) fun h => ?_) <;> try exact absurd h (by omega)) | refine qM (fun h => ?_) fun h => ?_ | refine oM (by (first | omega | (simp only [lenS, InI, nmin, EK.sz]; omega) | (simp only [lenS, InI, nmin, EK.sz] at *; omega))) ?_ | refine oM ?_ ?_ | refine bM ?_ ?_ | refine draw_of Tryd.mixed Tryd.tyOk 60 (by kernel_rfl) ?_))
        · rename_i h2
          rw [if_pos ⟨h2, .inl h⟩] at hks1
          (conv => whnf)
          refine ⟨k + 1, [], ⟨by rfl, ?_, ?_⟩, by omega, by omega⟩
          · simp [eqFr, eqHp, eqV, eqA, eqC, eqO, eqCs, eqAs, look_cons, look, rn, EK.cast, EK.sz, eqCaps, hks1]
          · simp [eqFr, eqHp, eqV, eqA, eqC, eqO, eqCs, eqAs, look_cons, look, rn, EK.cast, EK.sz, eqCaps]
        · rename_i h2 h3
          rw [if_pos ⟨h2, .inr h⟩] at hks1
          (conv => whnf)
          refine ⟨k + 1, [], ⟨by rfl, ?_, ?_⟩, by omega, by omega⟩
          · simp [eqFr, eqHp, eqV, eqA, eqC, eqO, eqCs, eqAs, look_cons, look, rn, EK.cast, EK.sz, eqCaps, hks1]
          · simp [eqFr, eqHp, eqV, eqA, eqC, eqO, eqCs, eqAs, look_cons, look, rn, EK.cast, EK.sz, eqCaps]
        · rename_i h2 h3
          rw [if_neg (fun c => c.2.elim h3 h)] at hks1
          (conv => whnf)
          refine ⟨k + 1, [], ⟨by rfl, ?_, ?_⟩, by omega, by omega⟩
          · simp [eqFr, eqHp, eqV, eqA, eqC, eqO, eqCs, eqAs, look_cons, look, rn, EK.cast, EK.sz, eqCaps, hks1]
          · simp [eqFr, eqHp, eqV, eqA, eqC, eqO, eqCs, eqAs, look_cons, look, rn, EK.cast, EK.sz, eqCaps]
        · rw [if_neg (fun c => c.1 h)] at hks1
          (conv => whnf)
          refine ⟨k + 1, [], ⟨by rfl, ?_, ?_⟩, by omega, by omega⟩
          · simp [eqFr, eqHp, eqV, eqA, eqC, eqO, eqCs, eqAs, look_cons, look, rn, EK.cast, EK.sz, eqCaps, hks1]
          · simp [eqFr, eqHp, eqV, eqA, eqC, eqO, eqCs, eqAs, look_cons, look, rn, EK.cast, EK.sz, eqCaps]
      · have e : k = s.length := by omega
        subst e
        rw [List.take_length] at hbk ⊢
        have hfd : s.foldl (finS F) (-1) = finD F s := rfl
        rw [hfd] at hbk ⊢
        repeat' (first | exact rfl | ((conv => whnf); first | ((first | refine qA (fun h => ?_) fun h => ?_ | refine qN (fun h => ?_) fun h => ?_ | refine qB (fun h => ?_) fun h => ?_ | refine qC (fun h => ?_) fun h => ?_) <;> try exact absurd h (by omega)) | refine qM (fun h => ?_) fun h => ?_ | refine oM (by (first | omega | (simp only [lenS, InI, nmin, EK.sz]; omega) | (simp only [lenS, InI, nmin, EK.sz] at *; omega))) ?_ | refine oM ?_ ?_ | refine bM ?_ ?_ | refine draw_of Tryd.mixed Tryd.tyOk 60 (by kernel_rfl) ?_ | intro _))
        (conv => whnf)
        rename_i spf2
        refine ⟨[(11, some 12)], hpDo F (L ++ [s]) (@insM EK.str.ty EK.int.ty (EK.instDeq .str) es clk (bs (kyB s)) (es.length : Int)).1 (@insM EK.str.ty EK.int.ty (EK.instDeq .str) es clk (bs (kyB s)) (es.length : Int)).2 (rows ++ [(⟨ya, s.length, yc⟩ : Sli)]) m spr2 spf2 nr cr 10 11 8 x, 12, .i (es.length : Int), ⟨by rfl, trivial, ?_⟩, by simp [eqV, eqA, eqC], _, _, _, spr2, spf2, hnew, htn, by rw [hidx], rfl⟩
        simp [eqFr, eqHp, eqV, eqA, eqC, eqO, eqCs, eqAs, look_cons, look, rn, EK.cast, EK.sz, eqCaps, List.map_append]
        simp [app_one]
end
end Go.Fw
