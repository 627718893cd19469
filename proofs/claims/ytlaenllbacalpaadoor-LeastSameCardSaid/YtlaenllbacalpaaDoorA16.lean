/- Walks of the functions: what each computes. -/
import Derived.Test.YtlaenllbacalpaaDoorA15
import Derived.Test.YtlaenllbacalpaaDoorA12
import Derived.Test.YtlaenllbacalpaaDoorA14
import Derived.Test.YtlaenllbacalpaaDoorA13
import Derived.Test.YtlaenllbacalpaaDoorA10
import Derived.Test.YtlaenllbacalpaaDoorA07
import Derived.Test.YtlaenllbacalpaaDoorA09

set_option linter.unusedSimpArgs false
set_option linter.unusedVariables false

namespace Go.Fw
open Go Go.Proofs
def detE (F : TF) : Int := if fstE F ≠ 0 then fstE F else if fineB F = true then 0 else 4
theorem WOk.of {F : TF} (h : FOk F) : WOk F := ⟨FRng.of h, fun a ha => ⟨(h.arc a ha).w0, (h.arc a ha).w1⟩, h.fin⟩
def DetPost (F : TF) (x : Obj) (v : SV) (s : S) : Prop :=
  (detE F ≠ 0 ∧ v = .tup [.agg zero25, .c (.i (detE F))] ∧ s = ⟨[], [(2, tabO x)], 3⟩) ∨
  (detE F = 0 ∧ ∃ U, IsUs F U ∧
    (((200 < bgnF U 201 200 [⟨U.start, 0⟩] ∨ bgnF U 201 200 [⟨U.start, 0⟩] ≤ 200 ∧ ∃ st : DS, MDone U st ∧ greatB st.2 (st.1.map (finD U)) = true) ∧ v = .tup [.agg zero25, .c (.i 2)] ∧ s = ⟨[], [(2, tabO x)], 3⟩) ∨
     (bgnF U 201 200 [⟨U.start, 0⟩] ≤ 200 ∧ ∃ st : DS, MDone U st ∧ greatB st.2 (st.1.map (finD U)) = false ∧ ∃ sp sq, v = .tup [.agg [.i (st.1.length : Nat), .i 0, .sl 3 1 0 (st.1.map (finD U)).length ((st.1.map (finD U)).length + sp), .sl 4 5 0 st.2.length (st.2.length + sq)], .c (.i 0)] ∧
       s = ⟨[], [(2, tabO x), (3, .arr true 3 .int (st.1.map (finD U)) sp), (4, .arr true 50 .arc st.2 sq)], 5⟩)))
end Go.Fw

/-
  A state's text tells its end and its arcs.
-/
namespace Go.Fw
open Go Go.Proofs
def outA (F : TF) (cls : List Int) (n : Int) : Nat → List (Int × Int × Int)
  | 0 => []
  | k + 1 => if (F.arcs.getD k aD).f = n then outA F cls n k ++ [((F.arcs.getD k aD).i, (F.arcs.getD k aD).w, cls.getD (F.arcs.getD k aD).t.toNat 0)] else outA F cls n k
def encA (x : Int × Int × Int) : List UInt8 := 32 :: (Lib.itoa x.1 ++ 58 :: (Lib.itoa x.2.1 ++ 58 :: Lib.itoa x.2.2))
theorem sgB_out (F : TF) (cls : List Int) (n : Int) : ∀ k, sgB F cls n k = Lib.itoa (F.fin.getD n.toNat 0) ++ (outA F cls n k).flatMap encA
  | 0 => by simp [sgB, outA]
  | k + 1 => by
    unfold sgB outA
    rw [sgB_out F cls n k]
    split
    · rw [List.flatMap_append, ← List.append_assoc]
      simp [encA, sgA]
    · rfl
def NN (x : Int × Int × Int) : Prop := 0 ≤ x.1 ∧ 0 ≤ x.2.1 ∧ 0 ≤ x.2.2
theorem itoa_neg : Lib.itoa (-1) = [45, 49] := by decide +kernel
theorem itoa_no2 {n : Int} (hn : -1 ≤ n) {x : UInt8} (hx : x.toNat < 45 ∨ 57 < x.toNat) : x ∉ Lib.itoa n := fun h => by
  by_cases h0 : 0 ≤ n
  · have := itoa_digit h0 x h
    omega
  · have : n = -1 := by omega
    rw [this, itoa_neg] at h
    simp only [List.mem_cons, List.not_mem_nil, or_false] at h
    rcases h with rfl | rfl
    · revert hx; decide
    · revert hx; decide
theorem itoa_inj2 {n m : Int} (hn : -1 ≤ n) (hm : -1 ≤ m) (h : Lib.itoa n = Lib.itoa m) : n = m := by
  have key : ∀ k : Int, 0 ≤ k → Lib.itoa (-1) ≠ Lib.itoa k := fun k hk e => by
    have h1 : (45 : UInt8) ∈ Lib.itoa k := by rw [← e, itoa_neg]; simp
    have := itoa_digit hk _ h1
    revert this; decide
  by_cases h0 : 0 ≤ n <;> by_cases h1 : 0 ≤ m
  · exact itoa_inj h0 h1 h
  · have : m = -1 := by omega
    subst this; exact absurd h.symm (key n h0)
  · have : n = -1 := by omega
    subst this; exact absurd h (key m h1)
  · omega
theorem sg_inj : ∀ {l m : List (Int × Int × Int)} {a b : Int}, -1 ≤ a → -1 ≤ b → (∀ x ∈ l, NN x) → (∀ x ∈ m, NN x) → Lib.itoa a ++ l.flatMap encA = Lib.itoa b ++ m.flatMap encA → a = b ∧ l = m
  | [], [], a, b, ha, hb, _, _, h => by
    simp only [List.flatMap_nil, List.append_nil] at h
    exact ⟨itoa_inj2 ha hb h, rfl⟩
  | [], y :: m, a, b, ha, hb, _, _, h => by
    exfalso
    simp only [List.flatMap_nil, List.append_nil, List.flatMap_cons, encA] at h
    have : (32 : UInt8) ∈ Lib.itoa a := by rw [h]; simp
    exact itoa_no2 ha (by decide) this
  | x :: l, [], a, b, ha, hb, _, _, h => by
    exfalso
    simp only [List.flatMap_nil, List.append_nil, List.flatMap_cons, encA] at h
    have : (32 : UInt8) ∈ Lib.itoa b := by rw [← h]; simp
    exact itoa_no2 hb (by decide) this
  | x :: l, y :: m, a, b, ha, hb, hl, hm, h => by
    obtain ⟨x1, x2, x3⟩ := hl x (by simp)
    obtain ⟨y1, y2, y3⟩ := hm y (by simp)
    have e : ∀ (z : Int × Int × Int) (t : List (Int × Int × Int)), (z :: t).flatMap encA = 32 :: (Lib.itoa z.1 ++ 58 :: (Lib.itoa z.2.1 ++ 58 :: (Lib.itoa z.2.2 ++ t.flatMap encA))) := fun z t => by simp [encA]
    rw [e, e] at h
    obtain ⟨g1, g2⟩ := cut_at (itoa_no2 ha (by decide)) (itoa_no2 hb (by decide)) h
    obtain ⟨g3, g4⟩ := cut_at (itoa_no x1 (by decide)) (itoa_no y1 (by decide)) g2
    obtain ⟨g5, g6⟩ := cut_at (itoa_no x2 (by decide)) (itoa_no y2 (by decide)) g4
    obtain ⟨g7, g8⟩ := sg_inj (l := l) (m := m) (a := x.2.2) (b := y.2.2) (by omega) (by omega) (fun z hz => hl z (by simp [hz])) (fun z hz => hm z (by simp [hz])) g6
    refine ⟨itoa_inj2 ha hb g1, ?_⟩
    have h1 := itoa_inj x1 y1 g3
    have h2 := itoa_inj x2 y2 g5
    obtain ⟨p, q, r⟩ := x
    obtain ⟨p', q', r'⟩ := y
    simp only at h1 h2 g7
    rw [h1, h2, g7, g8]
theorem outA_nn {F : TF} {cls : List Int} {n : Int} (hF : DFst F) (hc : ∀ j, j < F.st.toNat → 0 ≤ cls.getD j 0) : ∀ k, k ≤ F.arcs.length → ∀ x ∈ outA F cls n k, NN x
  | 0, _ => fun x hx => by cases hx
  | k + 1, hk => by
    have ih := outA_nn (n := n) hF hc k (by omega)
    have hm := getD_mem F.arcs k aD (by omega)
    have h1 := hF.i _ hm
    have h2 := hF.w _ hm
    have h3 := hF.arc _ hm
    have h4 := hc (F.arcs.getD k aD).t.toNat (by omega)
    unfold outA
    split
    · intro x hx
      rcases List.mem_append.1 hx with hx | hx
      · exact ih x hx
      · rw [List.mem_singleton] at hx
        subst hx
        exact ⟨h1.1, h2.1, h4⟩
    · exact ih
theorem ClsOk.iff {F : TF} {cls : List Int} (h : ClsOk F cls) (hF : DFst F) {i j : Nat} (hi : i < F.st.toNat) (hj : j < F.st.toNat) :
    cls.getD i 0 = cls.getD j 0 ↔ F.fin.getD i 0 = F.fin.getD j 0 ∧ outA F cls i F.arcs.length = outA F cls j F.arcs.length := by
  rw [h.eq i j hi hj, sgB_out, sgB_out, Int.toNat_natCast, Int.toNat_natCast]
  have hfl := hF.finl
  constructor
  · intro e
    exact sg_inj (hF.fin _ (getD_mem F.fin i 0 (by omega))).1 (hF.fin _ (getD_mem F.fin j 0 (by omega))).1 (outA_nn hF (fun j hj => (h.bd j hj).1) _ (Nat.le_refl _)) (outA_nn hF (fun j hj => (h.bd j hj).1) _ (Nat.le_refl _)) e
  · rintro ⟨e1, e2⟩
    rw [e1, e2]
end Go.Fw

/-
  Two states have the same class just where each word costs the same from both.
-/
namespace Go.Fw
def CW (D : TF) (q : Int) (w : List Int) (c : Int) : Prop := ∃ t d, RdW D.arcs q w t d ∧ D.fin.getD t.toNat 0 ≠ -1 ∧ c = d + D.fin.getD t.toNat 0
theorem RdW.cons_inv {L : List Arc} {s t c x : Int} {u : List Int} (h : RdW L s (x :: u) t c) : ∃ a ∈ L, a.f = s ∧ a.i = x ∧ ∃ d, RdW L a.t u t d ∧ c = a.w + d := by
  generalize hw : x :: u = w at h
  cases h with
  | nil => cases hw
  | cons ha h =>
    have e := List.cons.inj hw
    exact ⟨_, ha, rfl, e.1.symm, _, e.2 ▸ h, rfl⟩
theorem CW.nil {D : TF} {q c : Int} : CW D q [] c ↔ D.fin.getD q.toNat 0 ≠ -1 ∧ c = D.fin.getD q.toNat 0 := by
  constructor
  · rintro ⟨t, d, h1, h2, h3⟩
    obtain ⟨rfl, rfl⟩ := h1.none rfl
    exact ⟨h2, by omega⟩
  · rintro ⟨h1, h2⟩
    exact ⟨q, 0, .nil _, h1, by omega⟩
theorem CW.cons {D : TF} {q c x : Int} {u : List Int} : CW D q (x :: u) c ↔ ∃ a ∈ D.arcs, a.f = q ∧ a.i = x ∧ CW D a.t u (c - a.w) := by
  constructor
  · rintro ⟨t, d, h1, h2, h3⟩
    obtain ⟨a, ha, e1, e2, d', h4, h5⟩ := h1.cons_inv
    exact ⟨a, ha, e1, e2, t, d', h4, h2, by omega⟩
  · rintro ⟨a, ha, rfl, rfl, t, d, h1, h2, h3⟩
    exact ⟨t, a.w + d, .cons ha h1, h2, by omega⟩
theorem outA_mem {D : TF} {cls : List Int} {n : Int} {x : Int × Int × Int} : ∀ {k : Nat}, x ∈ outA D cls n k ↔ ∃ j, j < k ∧ (D.arcs.getD j aD).f = n ∧ x = ((D.arcs.getD j aD).i, (D.arcs.getD j aD).w, cls.getD (D.arcs.getD j aD).t.toNat 0)
  | 0 => by simp [outA]
  | k + 1 => by
    have ih := outA_mem (D := D) (cls := cls) (n := n) (x := x) (k := k)
    unfold outA
    by_cases e : (D.arcs.getD k aD).f = n
    · rw [if_pos e, List.mem_append, ih, List.mem_singleton]
      constructor
      · rintro (⟨j, h1, h2⟩ | h)
        · exact ⟨j, by omega, h2⟩
        · exact ⟨k, by omega, e, h⟩
      · rintro ⟨j, h1, h2, h3⟩
        by_cases ej : j = k
        · subst ej; exact .inr h3
        · exact .inl ⟨j, by omega, h2, h3⟩
    · rw [if_neg e, ih]
      constructor
      · rintro ⟨j, h1, h2⟩; exact ⟨j, by omega, h2⟩
      · rintro ⟨j, h1, h2, h3⟩
        by_cases ej : j = k
        · subst ej; exact absurd h2 e
        · exact ⟨j, by omega, h2, h3⟩
theorem outA_all {D : TF} {cls : List Int} {n : Int} {x : Int × Int × Int} : x ∈ outA D cls n D.arcs.length ↔ ∃ a ∈ D.arcs, a.f = n ∧ x = (a.i, a.w, cls.getD a.t.toNat 0) := by
  rw [outA_mem]
  constructor
  · rintro ⟨j, h1, h2, h3⟩; exact ⟨_, getD_mem D.arcs j aD h1, h2, h3⟩
  · rintro ⟨a, ha, h2, h3⟩
    obtain ⟨j, hj, rfl⟩ := getD_ix ha
    exact ⟨j, hj, h2, h3⟩
structure DetD (D : TF) : Prop where
  srt : Srt D.arcs
  one : ∀ a ∈ D.arcs, ∀ b ∈ D.arcs, a.f = b.f → a.i = b.i → a = b
theorem outA_srt {D : TF} {cls : List Int} {n : Int} (h : DetD D) : ∀ k, k ≤ D.arcs.length → (outA D cls n k).Pairwise fun x y => x.1 < y.1
  | 0, _ => List.Pairwise.nil
  | k + 1, hk => by
    have ih := outA_srt (cls := cls) (n := n) h k (by omega)
    unfold outA
    split
    · rename_i e
      refine List.pairwise_append.2 ⟨ih, List.pairwise_singleton _ _, fun x hx y hy => ?_⟩
      rw [List.mem_singleton] at hy
      subst hy
      obtain ⟨j, hj, e2, rfl⟩ := outA_mem.1 hx
      have hmj := getD_mem D.arcs j aD (by omega)
      have hmk := getD_mem D.arcs k aD (by omega)
      have e3 : D.arcs.getD j aD = D.arcs[j]'(by omega) := by simp [List.getD, show j < D.arcs.length by omega]
      have e4 : D.arcs.getD k aD = D.arcs[k]'(by omega) := by simp [List.getD, show k < D.arcs.length by omega]
      have hah := List.pairwise_iff_getElem.1 h.srt j k (by omega) (by omega) hj
      rw [← e3, ← e4, aheadB_iff] at hah
      by_cases hi : (D.arcs.getD j aD).i = (D.arcs.getD k aD).i
      · have := h.one _ hmj _ hmk (e2.trans e.symm) hi
        rw [this] at hah
        omega
      · show (D.arcs.getD j aD).i < (D.arcs.getD k aD).i
        omega
    · exact ih
theorem srt_ext : ∀ {l m : List (Int × Int × Int)}, l.Pairwise (fun x y => x.1 < y.1) → m.Pairwise (fun x y => x.1 < y.1) → (∀ x, x ∈ l ↔ x ∈ m) → l = m
  | [], [], _, _, _ => rfl
  | [], y :: m, _, _, h => by have := (h y).2 (by simp); cases this
  | x :: l, [], _, _, h => by have := (h x).1 (by simp); cases this
  | x :: l, y :: m, hl, hm, h => by
    rw [List.pairwise_cons] at hl hm
    have e : x = y := by
      have h1 := (h x).1 (by simp)
      have h2 := (h y).2 (by simp)
      rcases List.mem_cons.1 h1 with h1 | h1
      · exact h1
      · rcases List.mem_cons.1 h2 with h2 | h2
        · exact h2.symm
        · have := hm.1 x h1
          have := hl.1 y h2
          omega
    subst e
    rw [srt_ext hl.2 hm.2 fun z => ?_]
    have hz := h z
    rw [List.mem_cons, List.mem_cons] at hz
    constructor
    · intro hzl
      rcases hz.1 (.inr hzl) with e | g
      · subst e; have := hl.1 z hzl; omega
      · exact g
    · intro hzm
      rcases hz.2 (.inr hzm) with e | g
      · subst e; have := hm.1 z hzm; omega
      · exact g
def Psh (D : TF) : Prop := ∀ q : Nat, q < D.st.toNat → (∃ w, CW D q w 0) ∧ ∀ w c, CW D q w c → 0 ≤ c
section
variable {D : TF} {cls : List Int} (hF : DFst D) (hc : ClsOk D cls) (hd : DetD D) (hp : Psh D)
include hF hc
theorem cls_cw : ∀ (w : List Int) (i j : Nat) (c : Int), i < D.st.toNat → j < D.st.toNat → cls.getD i 0 = cls.getD j 0 → CW D i w c → CW D j w c
  | [], i, j, c, hi, hj, he, h => by
    obtain ⟨e1, e2⟩ := (hc.iff hF hi hj).1 he
    rw [CW.nil, Int.toNat_natCast] at h ⊢
    rw [← e1]
    exact h
  | x :: u, i, j, c, hi, hj, he, h => by
    obtain ⟨e1, e2⟩ := (hc.iff hF hi hj).1 he
    obtain ⟨a, ha, f1, f2, f3⟩ := CW.cons.1 h
    have hm : (a.i, a.w, cls.getD a.t.toNat 0) ∈ outA D cls j D.arcs.length := by rw [← e2]; exact outA_all.2 ⟨a, ha, f1, rfl⟩
    obtain ⟨b, hb, g1, g2⟩ := outA_all.1 hm
    simp only [Prod.mk.injEq] at g2
    have ra := hF.arc a ha
    have rb := hF.arc b hb
    have ih := cls_cw u a.t.toNat b.t.toNat (c - a.w) (by omega) (by omega) g2.2.2 (by rw [show ((a.t.toNat : Nat) : Int) = a.t by omega]; exact f3)
    rw [show ((b.t.toNat : Nat) : Int) = b.t by omega, g2.2.1] at ih
    exact CW.cons.2 ⟨b, hb, g1, by rw [← g2.1]; exact f2, ih⟩
include hd hp
theorem cw_cls : ∀ (r : Nat) (i j : Nat), i < D.st.toNat → j < D.st.toNat → LvA D.arcs r i → LvA D.arcs r j → (∀ w c, CW D i w c ↔ CW D j w c) → cls.getD i 0 = cls.getD j 0
  | 0, i, j, hi, hj, h1, h2, h => by have := h1 [] _ _ (.nil _); simp at this
  | r + 1, i, j, hi, hj, h1, h2, h => by
    have incl : ∀ i j : Nat, i < D.st.toNat → j < D.st.toNat → LvA D.arcs (r + 1) i → LvA D.arcs (r + 1) j → (∀ w c, CW D i w c ↔ CW D j w c) → ∀ x ∈ outA D cls i D.arcs.length, x ∈ outA D cls j D.arcs.length := by
      intro i j hi hj h1 h2 h x hx
      obtain ⟨a, ha, f1, rfl⟩ := outA_all.1 hx
      have ra := hF.arc a ha
      have ea : ((a.t.toNat : Nat) : Int) = a.t := by omega
      obtain ⟨⟨v, hv⟩, ha0⟩ := hp a.t.toNat (by omega)
      rw [ea] at hv ha0
      have hi1 : CW D i (a.i :: v) a.w := CW.cons.2 ⟨a, ha, f1, rfl, by rw [show a.w - a.w = 0 by omega]; exact hv⟩
      obtain ⟨b, hb, g1, g2, g3⟩ := CW.cons.1 ((h _ _).1 hi1)
      have rb := hF.arc b hb
      have eb : ((b.t.toNat : Nat) : Int) = b.t := by omega
      obtain ⟨⟨v', hv'⟩, hb0⟩ := hp b.t.toNat (by omega)
      rw [eb] at hv' hb0
      have q1 := hb0 _ _ g3
      have hj1 : CW D j (a.i :: v') b.w := CW.cons.2 ⟨b, hb, g1, g2, by rw [show b.w - b.w = 0 by omega]; exact hv'⟩
      obtain ⟨a', ha', p1, p2, p3⟩ := CW.cons.1 ((h _ _).2 hj1)
      have ea' := hd.one a' ha' a ha (p1.trans f1.symm) p2
      subst ea'
      have q2 := ha0 _ _ p3
      have hwe : a'.w = b.w := by omega
      have hall : ∀ w c, CW D a'.t.toNat w c ↔ CW D b.t.toNat w c := fun w c => by
        rw [ea, eb]
        constructor
        · intro hw
          have : CW D i (a'.i :: w) (c + a'.w) := CW.cons.2 ⟨a', ha', f1, rfl, by rw [show c + a'.w - a'.w = c by omega]; exact hw⟩
          obtain ⟨b', hb', k1, k2, k3⟩ := CW.cons.1 ((h _ _).1 this)
          have := hd.one b' hb' b hb (k1.trans g1.symm) (k2.trans g2.symm)
          subst this
          rwa [show c + a'.w - b'.w = c by omega] at k3
        · intro hw
          have : CW D j (a'.i :: w) (c + b.w) := CW.cons.2 ⟨b, hb, g1, g2, by rw [show c + b.w - b.w = c by omega]; exact hw⟩
          obtain ⟨b', hb', k1, k2, k3⟩ := CW.cons.1 ((h _ _).2 this)
          have := hd.one b' hb' a' ha' (k1.trans f1.symm) k2
          subst this
          rwa [show c + b.w - b'.w = c by omega] at k3
      have hce := cw_cls r a'.t.toNat b.t.toNat (by omega) (by omega) (by rw [ea]; exact LvA.on ha' (f1 ▸ h1)) (by rw [eb]; exact LvA.on hb (g1 ▸ h2)) hall
      exact outA_all.2 ⟨b, hb, g1, by rw [g2, hwe, hce]⟩
    refine (hc.iff hF hi hj).2 ⟨?_, srt_ext (outA_srt hd _ (Nat.le_refl _)) (outA_srt hd _ (Nat.le_refl _)) fun x => ⟨incl i j hi hj h1 h2 h x, incl j i hj hi h2 h1 (fun w c => (h w c).symm) x⟩⟩
    have h0 := fun c => h [] c
    simp only [CW.nil, Int.toNat_natCast] at h0
    by_cases e : D.fin.getD i 0 = -1
    · by_cases e2 : D.fin.getD j 0 = -1
      · rw [e, e2]
      · exact absurd e ((h0 _).2 ⟨e2, rfl⟩).1
    · exact ((h0 _).1 ⟨e, rfl⟩).2
end
end Go.Fw

namespace Go.Fw
open Go Go.Proofs
def TrimTo (p : Nat → Bool) (k : Nat) (to : List Int) (n : Nat) : Prop := to.length = n ∧ ∀ j, j < k → p j = true → to.getD j 0 = (rkB p j : Nat)
set_option maxHeartbeats 16000000 in
set_option maxRecDepth 20000 in
theorem trimOf_c (F : TF) (hF : FRng F) (hs : 0 ≤ F.start ∧ F.start < F.st) (hfin : ∀ n ∈ F.fin, -1 ≤ n) :
    Ct Tryd.prog 39 [fV F] [] (hpF F) 2 (fun v s => ∃ p, UsOk F p ∧ OutPost (kT F p).st (kT F p).start (kT F p).fin (kT F p).arcs 2 v s) := by
  have hst := hF.st
  have hal := hF.arcl
  have hfl := hF.finl
  refine ctC Tryd.tyOk Tryd.func39 rfl (by simp) (by simp) (fr := [(0, fV F)]) rfl ?_
  refine SemC.cut Tryd.tyOk 14 [] (fun _ : Unit => ⟨[(1, .c (.ptr 2 0)), (2, .c (.ptr 3 0)), (3, .c (.sl 4 1 0 F.st.toNat F.st.toNat)), (4, .c (.sl 5 1 0 F.st.toNat F.st.toNat))], hpF F ++ [(2, .box 25 (fCells F)), (3, .box 25 zero25), (4, .arr true 4 .bool (List.replicate F.st.toNat false) 0), (5, .arr true 4 .bool (List.replicate F.st.toNat false) 0)], 6⟩) (fun _ => True) 2 _ _ ?_ ?_
  · repeat' (first | exact rfl | ((conv => whnf); first | (refine qX (fun h => ?_) fun h => ?_ <;> try exact absurd h (by omega)) | refine oN ?_ | refine oM ?_ ?_ | refine bM ?_ ?_ | refine dR ?_))
    all_goals
      (conv => whnf)
      first
      | (refine ⟨(), [], ⟨by rfl, ?_, ?_⟩, trivial⟩; (focus (simp; done)); (focus (simp [fCells, EK.dflt]; done)))
      | (refine ⟨(), [(4, some 5), (5, some 4)], ⟨by rfl, ?_, ?_⟩, trivial⟩; (focus (simp; done)); (focus (simp [fCells, EK.dflt]; done)))
  rintro _ -
  refine SemC.of Tryd.tyOk 14 [] ?_
  repeat' (first | exact rfl | ((conv => whnf); first | (refine qX (fun h => ?_) fun h => ?_ <;> try exact absurd h (by omega)) | refine oN ?_ | refine oM ?_ ?_ | refine bM ?_ ?_ | refine dR ?_))
  (conv => whnf)
  refine loopI (fun z : Nat × List Bool => ⟨[(1, .c (.ptr 2 0)), (2, .c (.ptr 3 0)), (3, .c (.sl 4 1 0 F.st.toNat F.st.toNat)), (4, .c (.sl 5 1 0 F.st.toNat F.st.toNat)), (5, .i z.1)], hpF F ++ [(2, .box 25 (fCells F)), (3, .box 25 zero25), (4, .arr true 4 .bool ((List.replicate F.st.toNat false).set F.start.toNat true) 0), (5, .arr true 4 .bool z.2 0)], 6⟩)
    (fun z => z.1 ≤ F.st.toNat ∧ z.2.length = F.st.toNat ∧ ∀ j, j < z.1 → (z.2.getD j false = true ↔ F.fin.getD j 0 ≠ -1)) (fun z => F.st.toNat - z.1) (0, List.replicate F.st.toNat false) [] ⟨by rfl, ?_, ?_⟩ ⟨Nat.zero_le _, by simp, fun j h => absurd h (Nat.not_lt_zero _)⟩ ?_
  · simp
  · simp [fCells, EK.dflt]
  · rintro ⟨k, on⟩ ⟨hk, hol, ho⟩
    simp only at hk hol ho ⊢
    (conv => whnf)
    refine condP_dec (fun hk2 => ?_) (fun hk2 => ?_)
    · have e0 : 0 + (k : Int).toNat = k := by omega
      have hfk := hfin _ (getD_mem F.fin k 0 (by omega))
      repeat' (first | exact rfl | ((conv => whnf); first | (refine qX (fun h => ?_) fun h => ?_ <;> try exact absurd h (by omega)) | refine oN ?_ | refine oM ?_ ?_ | refine bM ?_ ?_ | refine dR ?_))
      (conv => whnf)
      refine ⟨(k + 1, on.set (0 + (k : Int).toNat) (decide (F.fin.getD (0 + (k : Int).toNat) EK.int.dflt ≥ 0))), [], ⟨by rfl, ?_, ?_⟩, ⟨by simp only; omega, by simp [hol], fun j hj => ?_⟩, by simp only; omega⟩
      · simp
      · simp [fCells]
      · simp only at hj ⊢
        rw [e0, setB_getD _ _ _ _ (by omega)]
        by_cases e : j = k
        · rw [if_pos e, e, decide_eq_true_eq]
          have : F.fin.getD k EK.int.dflt = F.fin.getD k 0 := rfl
          rw [this]
          omega
        · rw [if_neg e]; exact ho j (by omega)
    · have e : k = F.st.toNat := by omega
      subst e
      have hsrF := fun a ha => hF.src (bk := false) (a := a) ha
      have hsrT := fun a ha => hF.src (bk := true) (a := a) ha
      have hth0 : ((List.replicate F.st.toNat false).set F.start.toNat true).length = F.st.toNat := by simp
      have hthi : ∀ j : Nat, j < F.st.toNat → (((List.replicate F.st.toNat false).set F.start.toNat true).getD j false = true ↔ (j : Int) ∈ [F.start]) := by
        intro j hj
        rw [setB_getD _ _ _ _ (by simp; omega)]
        by_cases e : j = F.start.toNat
        · rw [if_pos e]; simp; omega
        · rw [if_neg e]
          simp [List.getD, hj]
          omega
      generalize hth : (List.replicate F.st.toNat false).set F.start.toNat true = th0 at *
      repeat' (first | exact rfl | ((conv => whnf); first | (refine qX (fun h => ?_) fun h => ?_ <;> try exact absurd h (by omega)) | refine oN ?_ | refine oM ?_ ?_ | refine bM ?_ ?_ | refine dR ?_))
      (conv => whnf)
      refine loopI (fun n : Nat => ⟨[(1, .c (.ptr 2 0)), (2, .c (.ptr 3 0)), (3, .c (.sl 4 1 0 F.st.toNat F.st.toNat)), (4, .c (.sl 5 1 0 F.st.toNat F.st.toNat)), (6, .i n)], hpF F ++ [(2, .box 25 (fCells F)), (3, .box 25 zero25), (4, .arr true 4 .bool (itM F.arcs false th0 n) 0), (5, .arr true 4 .bool (itM F.arcs true on n) 0)], 6⟩)
        (fun n => n ≤ F.st.toNat) (fun n => F.st.toNat - n) 0 [] ⟨by rfl, ?_, ?_⟩ (Nat.zero_le _) ?_
      · simp
      · simp [fCells, itM]
      · clear hk2
        intro n hn
        (conv => whnf)
        refine condP_dec (fun hn2 => ?_) (fun hn2 => ?_)
        · have hT1 : itM F.arcs false th0 (n + 1) = mkP F.arcs false (itM F.arcs false th0 n) F.arcs.length := rfl
          have hT2 : itM F.arcs true on (n + 1) = mkP F.arcs true (itM F.arcs true on n) F.arcs.length := rfl
          have hl1 : (itM F.arcs false th0 n).length = F.st.toNat := by rw [itM_len, hth0]
          have hl2 : (itM F.arcs true on n).length = F.st.toNat := by rw [itM_len, hol]
          generalize hg1 : itM F.arcs false th0 n = t1 at *
          generalize hg2 : itM F.arcs true on n = o1 at *
          repeat' (first | exact rfl | ((conv => whnf); first | (refine qX (fun h => ?_) fun h => ?_ <;> try exact absurd h (by omega)) | refine oN ?_ | refine oM ?_ ?_ | refine bM ?_ ?_ | refine dR ?_))
          (conv => whnf)
          refine loopI (fun k : Nat => ⟨[(1, .c (.ptr 2 0)), (2, .c (.ptr 3 0)), (3, .c (.sl 4 1 0 F.st.toNat F.st.toNat)), (4, .c (.sl 5 1 0 F.st.toNat F.st.toNat)), (6, .i n), (7, .i k)], hpF F ++ [(2, .box 25 (fCells F)), (3, .box 25 zero25), (4, .arr true 4 .bool (mkP F.arcs false t1 k) 0), (5, .arr true 4 .bool (mkP F.arcs true o1 k) 0)], 6⟩)
            (fun k => k ≤ F.arcs.length) (fun k => F.arcs.length - k) 0 [] ⟨by rfl, ?_, ?_⟩ (Nat.zero_le _) ?_
          · simp
          · simp [fCells, mkP]
          · intro k hk
            have hm1 : (mkP F.arcs false t1 k).length = F.st.toNat := by rw [mkP_len, hl1]
            have hm2 : (mkP F.arcs true o1 k).length = F.st.toNat := by rw [mkP_len, hl2]
            have hs1 : mkP F.arcs false t1 (k + 1) = (mkP F.arcs false t1 k).set (F.arcs.getD k aD).t.toNat ((mkP F.arcs false t1 k).getD (F.arcs.getD k aD).t.toNat false || (mkP F.arcs false t1 k).getD (F.arcs.getD k aD).f.toNat false) := rfl
            have hs2 : mkP F.arcs true o1 (k + 1) = (mkP F.arcs true o1 k).set (F.arcs.getD k aD).f.toNat ((mkP F.arcs true o1 k).getD (F.arcs.getD k aD).f.toNat false || (mkP F.arcs true o1 k).getD (F.arcs.getD k aD).t.toNat false) := rfl
            generalize hgm1 : mkP F.arcs false t1 k = m1 at *
            generalize hgm2 : mkP F.arcs true o1 k = m2 at *
            (conv => whnf)
            refine condP_dec (fun hk2 => ?_) (fun hk2 => ?_)
            · have e0 : 0 + (k : Int).toNat = k := by omega
              have hb := hF.arc _ (getD_mem F.arcs k aD (by omega))
              have hb1 : (0 ≤ (F.arcs.getD (0 + (k : Int).toNat) EK.arc.dflt).t ∧ (F.arcs.getD (0 + (k : Int).toNat) EK.arc.dflt).t < F.st) ∧ 0 ≤ (F.arcs.getD (0 + (k : Int).toNat) EK.arc.dflt).f ∧ (F.arcs.getD (0 + (k : Int).toNat) EK.arc.dflt).f < F.st := by rw [e0]; exact ⟨hb.2.2, hb.1, hb.2.1⟩
              have hs1 : mkP F.arcs false t1 (k + 1) = m1.set (0 + (F.arcs.getD (0 + (k : Int).toNat) EK.arc.dflt).t.toNat) (m1.getD (0 + (F.arcs.getD (0 + (k : Int).toNat) EK.arc.dflt).t.toNat) EK.bool.dflt || m1.getD (0 + (F.arcs.getD (0 + (k : Int).toNat) EK.arc.dflt).f.toNat) EK.bool.dflt) := by rw [e0, Nat.zero_add, Nat.zero_add]; exact hs1
              have hs2 : mkP F.arcs true o1 (k + 1) = m2.set (0 + (F.arcs.getD (0 + (k : Int).toNat) EK.arc.dflt).f.toNat) (m2.getD (0 + (F.arcs.getD (0 + (k : Int).toNat) EK.arc.dflt).f.toNat) EK.bool.dflt || m2.getD (0 + (F.arcs.getD (0 + (k : Int).toNat) EK.arc.dflt).t.toNat) EK.bool.dflt) := by rw [e0, Nat.zero_add, Nat.zero_add]; exact hs2
              repeat' (first | exact rfl | ((conv => whnf); first | (refine qX (fun h => ?_) fun h => ?_ <;> try exact absurd h (by omega)) | refine oN ?_ | refine oM ?_ ?_ | refine bM ?_ ?_ | refine dR ?_))
              all_goals
                rename_i g
                rw [g] at hs1
                rw [h] at hs2
                simp only [Bool.true_or, Bool.false_or] at hs1 hs2
                (conv => whnf)
                refine ⟨k + 1, [], ⟨by rfl, ?_, ?_⟩, by omega, by omega⟩
                · simp
                · simp [fCells, hs1, hs2]
            · have e : k = F.arcs.length := by omega
              subst e
              repeat' (first | exact rfl | ((conv => whnf); first | (refine qX (fun h => ?_) fun h => ?_ <;> try exact absurd h (by omega)) | refine oN ?_ | refine oM ?_ ?_ | refine bM ?_ ?_ | refine dR ?_))
              (conv => whnf)
              refine ⟨n + 1, [], ⟨by rfl, ?_, ?_⟩, by omega, by omega⟩
              · simp
              · simp [fCells, hT1, hT2, hgm1, hgm2]
        · have e : n = F.st.toNat := by omega
          subst e
          have hT := fun j (hj : j < F.st.toNat) => itM_iff (n := F.st.toNat) (first := [F.start]) hth0 hsrF (fun x hx => by rw [List.mem_singleton] at hx; omega) hthi hj
          have hO := fun j (hj : j < F.st.toNat) => itM_iff (n := F.st.toNat) (first := endL F.fin F.st.toNat) hol hsrT (fun x hx => by obtain ⟨e, h1, h2, rfl⟩ := (mem_endL _).1 hx; omega) (fun j hj => by
            rw [ho j hj, mem_endL]
            refine ⟨fun h => ⟨j, hj, h, rfl⟩, fun ⟨e, _, h, he⟩ => ?_⟩
            have : j = e := by omega
            rw [this]; exact h) hj
          have hl1 : (itM F.arcs false th0 F.st.toNat).length = F.st.toNat := by rw [itM_len, hth0]
          have hl2 : (itM F.arcs true on F.st.toNat).length = F.st.toNat := by rw [itM_len, hol]
          generalize itM F.arcs false th0 F.st.toNat = T at *
          generalize itM F.arcs true on F.st.toNat = O at *
          have hU : UsOk F (kpB T O) := ⟨fun j hj => by
            unfold kpB
            rw [Bool.and_eq_true, hT j hj, hO j hj]
            constructor
            · rintro ⟨h1, h2⟩
              obtain ⟨e, he, h2⟩ := rch_some.1 h2
              obtain ⟨i, hi, h3, rfl⟩ := (mem_endL _).1 he
              exact ⟨h1, i, hi, h3, h2⟩
            · rintro ⟨h1, i, hi, h3, h2⟩
              exact ⟨h1, rch_some.2 ⟨_, (mem_endL _).2 ⟨i, hi, h3, rfl⟩, h2⟩⟩⟩
          have hT0 : T.getD F.start.toNat false = true := (hT _ (by omega)).2 (.here (by rw [List.mem_singleton]; omega))
          clear hT hO hthi hth ho hsrF hsrT
          generalize hp : kpB T O = p at hU
          repeat' (first | exact rfl | ((conv => whnf); first | (refine qX (fun h => ?_) fun h => ?_ <;> try exact absurd h (by omega)) | refine oN ?_ | refine oM ?_ ?_ | refine bM ?_ ?_ | refine dR ?_))
          · have hp0 : ¬ p F.start.toNat = true := by
              rw [← hp]; unfold kpB; rw [Nat.zero_add] at h; rw [hT0, Bool.true_and]
              simpa [EK.dflt] using h
            (conv => whnf)
            refine ⟨[(2, some 6), (3, none)], [(2, .arr true 3 .int [-1] 0), (3, .arr true 50 .arc [] 0)], 4, .a (.agg [.i 1, .i 0, .sl 2 1 0 1 1, .sl 3 5 0 0 0]), ⟨by rfl, trivial, by simp [nilO]⟩, by simp, p, hU, ?_⟩
            unfold kT
            rw [if_neg hp0]
            exact ⟨0, 0, rfl, rfl⟩
          · have hp0 : p F.start.toNat = true := by
              rw [← hp]; unfold kpB; rw [Nat.zero_add] at h; rw [hT0, Bool.true_and]
              simpa [EK.dflt] using h
            repeat' (first | exact rfl | ((conv => whnf); first | (refine qX (fun h => ?_) fun h => ?_ <;> try exact absurd h (by omega)) | refine oN ?_ | refine oM ?_ ?_ | refine bM ?_ ?_ | refine dR ?_))
            (conv => whnf)
            refine loopI (fun z : Nat × List Int × Nat => ⟨[(1, .c (.ptr 2 0)), (2, .c (.ptr 3 0)), (3, .c (.sl 4 1 0 F.st.toNat F.st.toNat)), (4, .c (.sl 5 1 0 F.st.toNat F.st.toNat)), (9, .c (.ptr 6 0)), (10, .c (.sl 7 1 0 F.st.toNat F.st.toNat)), (11, .i z.1)],
              hpF F ++ [(2, .box 25 (fCells F)), (3, .box 25 zero25), (4, .arr true 4 .bool T 0), (5, .arr true 4 .bool O 0), (6, .box 25 [.i (rkB p z.1), .i 0, .sl 8 1 0 (kfin p F.fin z.1).length ((kfin p F.fin z.1).length + z.2.2), .v (.slice none 0 0)]), (7, .arr true 3 .int z.2.1 0), (8, .arr true 3 .int (kfin p F.fin z.1) z.2.2)], 9⟩)
              (fun z => z.1 ≤ F.st.toNat ∧ TrimTo p z.1 z.2.1 F.st.toNat) (fun z => F.st.toNat - z.1) (0, List.replicate F.st.toNat 0, 0) [(8, none)] ⟨by rfl, ?_, ?_⟩ ⟨Nat.zero_le _, by simp, fun j h => absurd h (Nat.not_lt_zero _)⟩ ?_
            · simp
            · simp [fCells, nilO, rkB, kfin, EK.dflt]
            · rintro ⟨k, to, sp⟩ ⟨hk, htl, hto⟩
              simp only at hk htl hto ⊢
              have hkl := kfin_len p F.fin k
              have hrk := rkB_le p k
              have hkf0 : kfin p F.fin (k + 1) = if p k = true then kfin p F.fin k ++ [F.fin.getD k 0] else kfin p F.fin k := rfl
              have hr0 : rkB p (k + 1) = if p k = true then rkB p k + 1 else rkB p k := rfl
              generalize hpl : kfin p F.fin k = pl at *
              have e0 : 0 + (k : Int).toNat = k := by omega
              have hpk0 : p k = (T.getD (0 + (k : Int).toNat) EK.bool.dflt && O.getD (0 + (k : Int).toNat) EK.bool.dflt) := by rw [← hp, e0]; rfl
              (conv => whnf)
              refine condP_dec (fun hk2 => ?_) (fun hk2 => ?_)
              · repeat' (first | exact rfl | ((conv => whnf); first | (refine qX (fun h => ?_) fun h => ?_ <;> try exact absurd h (by omega)) | refine oN ?_ | refine oM ?_ ?_ | refine bM ?_ ?_ | refine dR ?_))
                · rename_i hT1
                  rw [hT1, h] at hpk0
                  rw [if_pos (show p k = true from hpk0)] at hkf0 hr0
                  repeat' (first | exact rfl | ((conv => whnf); first | (refine qX (fun h => ?_) fun h => ?_ <;> try exact absurd h (by omega)) | refine oN ?_ | refine oM ?_ ?_ | refine bM ?_ ?_ | refine dR ?_ | intro _))
                  (conv => whnf)
                  rename_i sp2
                  refine ⟨(k + 1, to.set (0 + (k : Int).toNat) (rkB p k : Nat), sp2), [(8, some 10)], ⟨by rfl, ?_, ?_⟩, ⟨by simp only; omega, by simp [htl], fun j hj hjp => ?_⟩, by simp only; omega⟩
                  · simp
                  · simp [hkf0, hr0, EK.dflt, e0, fCells]
                    simp [app_one]
                  · rw [getD_setJ _ _ _ _ _ (by omega), e0]
                    by_cases ej : j = k
                    · rw [if_pos ej, ej]
                    · rw [if_neg ej]
                      exact hto j (by simp only at hj; omega) hjp
                · rename_i hT1
                  rw [hT1, h, Bool.and_false] at hpk0
                  rw [if_neg (by rw [hpk0]; simp)] at hkf0 hr0
                  (conv => whnf)
                  refine ⟨(k + 1, to, sp), [], ⟨by rfl, ?_, ?_⟩, ⟨by simp only; omega, htl, fun j hj hjp => ?_⟩, by simp only; omega⟩
                  · simp
                  · simp [hkf0, hr0, fCells]
                  · by_cases ej : j = k
                    · rw [ej, hpk0] at hjp; cases hjp
                    · exact hto j (by simp only at hj; omega) hjp
                · rw [h] at hpk0
                  rw [Bool.false_and] at hpk0
                  rw [if_neg (by rw [hpk0]; simp)] at hkf0 hr0
                  (conv => whnf)
                  refine ⟨(k + 1, to, sp), [], ⟨by rfl, ?_, ?_⟩, ⟨by simp only; omega, htl, fun j hj hjp => ?_⟩, by simp only; omega⟩
                  · simp
                  · simp [hkf0, hr0, fCells]
                  · by_cases ej : j = k
                    · rw [ej, hpk0] at hjp; cases hjp
                    · exact hto j (by simp only at hj; omega) hjp
              · have e : k = F.st.toNat := by omega
                subst e
                subst hpl
                have hl0 : to.getD (0 + F.start.toNat) EK.int.dflt = (rkB p F.start.toNat : Nat) := by rw [Nat.zero_add]; exact hto _ (by omega) hp0
                repeat' (first | exact rfl | ((conv => whnf); first | (refine qX (fun h => ?_) fun h => ?_ <;> try exact absurd h (by omega)) | refine oN ?_ | refine oM ?_ ?_ | refine bM ?_ ?_ | refine dR ?_))
                (conv => whnf)
                refine loopI (fun z : Nat × Nat => ⟨[(1, .c (.ptr 2 0)), (2, .c (.ptr 3 0)), (3, .c (.sl 4 1 0 F.st.toNat F.st.toNat)), (4, .c (.sl 5 1 0 F.st.toNat F.st.toNat)), (9, .c (.ptr 6 0)), (10, .c (.sl 7 1 0 F.st.toNat F.st.toNat)), (12, .i z.1)],
                  hpF F ++ [(2, .box 25 (fCells F)), (3, .box 25 zero25), (4, .arr true 4 .bool T 0), (5, .arr true 4 .bool O 0), (6, .box 25 [.i (rkB p F.st.toNat), .i (rkB p F.start.toNat), .sl 8 1 0 (kfin p F.fin F.st.toNat).length ((kfin p F.fin F.st.toNat).length + sp), .sl 9 5 0 (karc p F.arcs z.1).length ((karc p F.arcs z.1).length + z.2)]), (7, .arr true 3 .int to 0), (8, .arr true 3 .int (kfin p F.fin F.st.toNat) sp), (9, .arr true 50 .arc (karc p F.arcs z.1) z.2)], 10⟩)
                  (fun z => z.1 ≤ F.arcs.length) (fun z => F.arcs.length - z.1) (0, 0) [(9, none)] ⟨by rfl, ?_, ?_⟩ (Nat.zero_le _) ?_
                · simp
                · simp [fCells, nilO, karc]
                  exact (show to[F.start.toNat]?.getD 0 = _ from hto _ (by omega) hp0).symm
                · rintro ⟨k, sq⟩ hk2
                  simp only at hk2 ⊢
                  have hlen := karc_len p F.arcs k
                  have hks : karc p F.arcs (k + 1) = if kOk p (F.arcs.getD k aD) = true then karc p F.arcs k ++ [kArc p (F.arcs.getD k aD)] else karc p F.arcs k := rfl
                  (conv => whnf)
                  refine condP_dec (fun hk3 => ?_) (fun hk3 => ?_)
                  · have e0 : 0 + (k : Int).toNat = k := by omega
                    have hb := hF.arc _ (getD_mem F.arcs k aD (by omega))
                    rw [← e0] at hb
                    have hax : F.arcs.getD (0 + (k : Int).toNat) EK.arc.dflt = F.arcs.getD k aD := by rw [e0]; rfl
                    have hb : (0 ≤ (F.arcs.getD (0 + (k : Int).toNat) EK.arc.dflt).f ∧ (F.arcs.getD (0 + (k : Int).toNat) EK.arc.dflt).f < F.st) ∧ 0 ≤ (F.arcs.getD (0 + (k : Int).toNat) EK.arc.dflt).t ∧ (F.arcs.getD (0 + (k : Int).toNat) EK.arc.dflt).t < F.st := ⟨⟨hb.1, hb.2.1⟩, hb.2.2⟩
                    repeat' (first | exact rfl | ((conv => whnf); first | (refine qX (fun h => ?_) fun h => ?_ <;> try exact absurd h (by omega)) | refine oN ?_ | refine oM ?_ ?_ | refine bM ?_ ?_ | refine dR ?_))
                    · rename_i g1 g2 g3
                      have hpf : p (F.arcs.getD k aD).f.toNat = true := by rw [← hp, ← hax]; rw [Nat.zero_add] at g1 g2; exact (congr (congrArg _ g1) g2)
                      have hpt : p (F.arcs.getD k aD).t.toNat = true := by rw [← hp, ← hax]; rw [Nat.zero_add] at g3 h; exact (congr (congrArg _ g3) h)
                      rw [if_pos (by unfold kOk; rw [hpf, hpt]; rfl)] at hks
                      have hl1 : to.getD (0 + (F.arcs.getD (0 + (k : Int).toNat) EK.arc.dflt).f.toNat) EK.int.dflt = (rkB p (F.arcs.getD k aD).f.toNat : Nat) := by rw [Nat.zero_add, hax]; exact hto _ (by rw [← hax]; omega) hpf
                      have hl2 : to.getD (0 + (F.arcs.getD (0 + (k : Int).toNat) EK.arc.dflt).t.toNat) EK.int.dflt = (rkB p (F.arcs.getD k aD).t.toNat : Nat) := by rw [Nat.zero_add, hax]; exact hto _ (by rw [← hax]; omega) hpt
                      repeat' (first | exact rfl | ((conv => whnf); first | (refine qX (fun h => ?_) fun h => ?_ <;> try exact absurd h (by omega)) | refine oN ?_ | refine oM ?_ ?_ | refine bM ?_ ?_ | refine dR ?_ | intro _))
                      (conv => whnf)
                      rw [hl1, hl2, hax]
                      rename_i sp2
                      refine ⟨(k + 1, sp2), [(9, some 12)], ⟨by rfl, ?_, ?_⟩, by simp only; omega, by simp only; omega⟩
                      · simp
                      · simp [hks, fCells]
                        exact (app_one (karc p F.arcs k) _ (kArc p (F.arcs.getD k aD)) rfl).symm
                    all_goals
                      have hno : kOk p (F.arcs.getD k aD) = false := by
                        rw [← hp]
                        unfold kOk kpB
                        rw [← hax]
                        simp only [Nat.zero_add] at *
                        simp_all [EK.dflt]
                      rw [hno, if_neg (by simp)] at hks
                      (conv => whnf)
                      refine ⟨(k + 1, sq), [], ⟨by rfl, ?_, ?_⟩, by simp only; omega, by simp only; omega⟩
                      · simp
                      · simp [hks, fCells]
                  · have e : k = F.arcs.length := by omega
                    subst e
                    repeat' (first | exact rfl | ((conv => whnf); first | (refine qX (fun h => ?_) fun h => ?_ <;> try exact absurd h (by omega)) | refine oN ?_ | refine oM ?_ ?_ | refine bM ?_ ?_ | refine dR ?_))
                    (conv => whnf)
                    refine ⟨[(2, some 8), (3, some 9)], [(2, .arr true 3 .int (kfin p F.fin F.st.toNat) sp), (3, .arr true 50 .arc (karc p F.arcs F.arcs.length) sq)], 4, .a (.agg [.i (rkB p F.st.toNat : Nat), .i (rkB p F.start.toNat : Nat), .sl 2 1 0 (kfin p F.fin F.st.toNat).length ((kfin p F.fin F.st.toNat).length + sp), .sl 3 5 0 (karc p F.arcs F.arcs.length).length ((karc p F.arcs F.arcs.length).length + sq)]), ⟨by rfl, trivial, by simp⟩, by simp, p, hU, ?_⟩
                    unfold kT
                    rw [if_pos hp0]
                    exact ⟨sp, sq, rfl, rfl⟩
end Go.Fw

namespace Go.Fw
open Go Go.Proofs
abbrev cWo (U : TF) (fi ai ci pi si : Nat) (rn rc pn pc sn sc : Nat) : List SC := [.i U.st, .i U.start, .sl fi 1 0 U.fin.length U.capF, .sl ai 5 0 U.arcs.length U.capA, .sl ci 1 0 rn rc, .sl pi 1 0 pn pc, .sl si 1 0 sn sc]
abbrev zero36 : List SC := [.i 0, .i 0, .v (.slice none 0 0), .v (.slice none 0 0), .v (.slice none 0 0), .v (.slice none 0 0), .v (.slice none 0 0)]
abbrev hpWo (F U : TF) (spU sqU : Nat) (rows : List Sli) (m : List (Addr × List Int × Nat)) (par sym : List Int) (sr sp sy : Nat) : List (Nat × SO) := hpF F ++ [(2, .box 25 (fCells F)), (3, .box 36 zero36), (4, .box 36 (cWo U 5 6 7 9 10 rows.length (rows.length + sr) par.length (par.length + sp) sym.length (sym.length + sy))), (5, .arr true 3 .int U.fin spU), (6, .arr true 50 .arc U.arcs sqU), (7, .arr true 22 .sli rows sr), (8, .pool 3 .int m), (9, .arr true 3 .int par sp), (10, .arr true 3 .int sym sy)]
theorem Tab2.one {xs : List Int} {sp : Nat} {m : List (Addr × List Int × Nat)} {y : Sli} (h : Frz [] xs sp xs.length (xs.length + sp) m y) (hx : xs ≠ []) : Tab2 m [y] 1 (fun _ => xs) := by
  cases h with
  | nil h => exact absurd h hx
  | @own a h hb =>
    have hl : lkA [(a, xs, sp)] a = some (xs, sp) := by simp [lkA]
    refine ⟨rfl, fun j hj => ?_, fun j hj => ?_, fun s t b h1 h2 h3 => by omega⟩
    · have : j = 0 := by omega
      subst this
      exact Hd.of_some rfl hl rfl (Nat.le_refl _)
    · have : j = 0 := by omega
      subst this
      exact rowA_some hl
set_option maxHeartbeats 16000000 in
set_option maxRecDepth 20000 in
theorem wordsA (F : TF) (hF : WOk F) (hF2 : F.st ≤ 200) (hs : 0 ≤ F.start ∧ F.start < F.st) {kn kr : S → Prop} {ke : Nat → S → Prop}
    (h : ∀ U spU sqU rows m sr sp sy, IsUs F U → U.capF = U.fin.length + spU → U.capA = U.arcs.length + sqU → Tab2 m rows 1 (fun _ => begun U) → SemC Tryd.prog 136 2 (dropC 1 (dropC 2 (Tryd.f17.body.getD .skip))) kn kr ke ⟨[(1, .c (.ptr 2 0)), (2, .c (.ptr 3 0)), (4, .c (.ptr 4 0))], hpWo F U spU sqU rows m [-1] [0] sr sp sy, 11⟩) :
    SemC Tryd.prog 136 2 (Tryd.f17.body.getD .skip) kn kr ke ⟨[(0, fV F)], hpF F, 2⟩ := by
  refine SemC.cut Tryd.tyOk 12 [] (fun z : TF × Nat × Nat => ⟨[(1, .c (.ptr 2 0)), (2, .c (.ptr 3 0)), (4, .c (.ptr 4 0))], hpWo F z.1 z.2.1 z.2.2 [] [] [] [] 0 0 0, 11⟩)
    (fun z => IsUs F z.1 ∧ z.1.capF = z.1.fin.length + z.2.1 ∧ z.1.capA = z.1.arcs.length + z.2.2) 2 _ _ ?_ ?_
  · repeat' (first | exact rfl | ((conv => whnf); first | (refine qX (fun h => ?_) fun h => ?_ <;> try exact absurd h (by omega)) | refine oN ?_ | refine oM ?_ ?_ | refine bM ?_ ?_ | refine dR ?_))
    (conv => whnf)
    refine cF (trimOf_c F hF.toFRng hs (fun n hn => (hF.fin n hn).1)) [0, 1] Tryd.call39 ?_
    rintro v s ⟨p, hus, hv⟩
    generalize hkT : kT F p = T at hv
    obtain ⟨tst, tstart, tfin, tarcs, tc1, tc2⟩ := T
    obtain ⟨sp3, sq3, rfl, rfl⟩ := hv
    repeat' (first | exact rfl | ((conv => whnf); first | (refine qX (fun h => ?_) fun h => ?_ <;> try exact absurd h (by omega)) | refine oN ?_ | refine oM ?_ ?_ | refine bM ?_ ?_ | refine dR ?_))
    (conv => whnf)
    simp only [Nat.reduceAdd, Nat.reduceSub]
    refine ⟨(⟨tst, tstart, tfin, tarcs, tfin.length + sp3, tarcs.length + sq3⟩, sp3, sq3), [(4, some 6), (5, some 4), (6, some 5), (7, none), (8, none), (9, none), (10, none)], ⟨by rfl, ?_, ?_⟩, ⟨p, hus, by rw [hkT], by rw [hkT], by rw [hkT], by rw [hkT]⟩, rfl, rfl⟩
    · simp
    · simp [nilO, fCells]
  · rintro ⟨U, spU, sqU⟩ ⟨hus, hcF, hcA⟩
    simp only at hus hcF hcA ⊢
    obtain ⟨hUw, hUs, hUst⟩ := hus.ok hF hs
    have hU0 := hUw.st
    have hUl := hUw.finl
    have hUa := hUw.arcl
    refine SemC.cut Tryd.tyOk 12 [] (fun z : List Sli × List (Addr × List Int × Nat) × Nat × Nat × Nat => ⟨[(1, .c (.ptr 2 0)), (2, .c (.ptr 3 0)), (4, .c (.ptr 4 0))], hpWo F U spU sqU z.1 z.2.1 [-1] [0] z.2.2.1 z.2.2.2.1 z.2.2.2.2, 11⟩)
      (fun z => Tab2 z.2.1 z.1 1 (fun _ => begun U)) 1 _ _ ?_ (fun z hz => h U spU sqU z.1 z.2.1 z.2.2.1 z.2.2.2.1 z.2.2.2.2 hus hcF hcA hz)
    have hbn : begun U ≠ [] := fun e => by
      have : (begun U).length = U.st.toNat := by simp [begun]
      rw [e] at this
      simp at this
      omega
    repeat' (first | exact rfl | ((conv => whnf); first | (refine qX (fun h => ?_) fun h => ?_ <;> try exact absurd h (by omega)) | refine oN ?_ | refine oM ?_ ?_ | refine bM ?_ ?_ | refine dR ?_))
    all_goals
      (conv => whnf)
      refine cF (begun_c U (by omega)) [5, 6] Tryd.call40 ?_
      rintro _ _ ⟨sp0, rfl, rfl⟩
      (conv => whnf)
    all_goals
      first
      | exact trivial
      | (
        simp only [Nat.reduceAdd, Nat.reduceSub]
        repeat' (first | exact rfl | ((conv => whnf); first | (refine qX (fun h => ?_) fun h => ?_ <;> try exact absurd h (by omega)) | refine oN ?_ | refine oM ?_ ?_ | refine bM ?_ ?_ | refine dR ?_ | intro _))
        all_goals
          first
          | exact trivial
          | (
            (conv => whnf)
            simp only [Nat.reduceAdd, Nat.reduceSub]
            rename_i m' y hfz q1 q2 q3
            have htab := Tab2.one hfz hbn
            first
            | (refine ⟨([y], m', q1, q2, q3), [(7, some 13), (9, some 15), (10, some 17)], ⟨by rfl, ?_, ?_⟩, htab⟩; (focus (simp; done)); (focus (simp [fCells, lOp.appL, sub]; done)))
            | (refine ⟨([y], m', q1, q2, q3), [(7, some 13), (9, some 16), (10, some 17)], ⟨by rfl, ?_, ?_⟩, htab⟩; (focus (simp; done)); (focus (simp [fCells, lOp.appL, sub]; done)))
            | (refine ⟨([y], m', q1, q2, q3), [(7, some 14), (9, some 15), (10, some 17)], ⟨by rfl, ?_, ?_⟩, htab⟩; (focus (simp; done)); (focus (simp [fCells, lOp.appL, sub]; done)))
            | (refine ⟨([y], m', q1, q2, q3), [(7, some 14), (9, some 16), (10, some 17)], ⟨by rfl, ?_, ?_⟩, htab⟩; (focus (simp; done)); (focus (simp [fCells, lOp.appL, sub]; done)))
            | (refine ⟨([y], m', q1, q2, q3), [(7, some 15), (9, some 16), (10, some 17)], ⟨by rfl, ?_, ?_⟩, htab⟩; (focus (simp; done)); (focus (simp [fCells, lOp.appL, sub]; done)))))
end Go.Fw

namespace Go.Fw
open Go Go.Proofs
theorem Tab2.congr {m : List (Addr × List Int × Nat)} {rows : List Sli} {N : Nat} {L L' : Nat → List Int} (h : Tab2 m rows N L) (he : ∀ j, j < N → L j = L' j) : Tab2 m rows N L' :=
  ⟨h.len, h.hd, fun j hj => by rw [← he j hj]; exact h.row j hj, h.dist⟩
theorem Tab2.push {m m' : List (Addr × List Int × Nat)} {rows : List Sli} {vs : List (List Int)} {xs : List Int} {sp : Nat} {y : Sli} (h : Tab2 m rows vs.length (fun j => vs.getD j [])) (hf : Frz m xs sp xs.length (xs.length + sp) m' y) (hx : xs ≠ []) :
    Tab2 m' (rows ++ [y]) (vs ++ [xs]).length (fun j => (vs ++ [xs]).getD j []) := by
  cases hf with
  | nil h => exact absurd h hx
  | @own a ha hb =>
    have hlen := h.len
    have hl : lkA ((a, xs, sp) :: m) a = some (xs, sp) := by simp [lkA]
    have hko : ∀ b, b ≠ a → lkA ((a, xs, sp) :: m) b = lkA m b := fun b hb => by simp only [lkA, if_neg (fun e => hb (e.symm) : ¬ a = b)]
    have hna : ∀ j, j < vs.length → (rows.getD j EK.sli.dflt).a ≠ some a := fun j hj e => by
      obtain ⟨y, g1, _⟩ := (h.hd j hj).some e
      rw [ha] at g1; cases g1
    have hkeep := h.keep (m' := (a, xs, sp) :: m) fun j b hj hb => hko b fun e => hna j hj (e ▸ hb)
    refine ⟨by simp [hlen], fun j hj => ?_, fun j hj => ?_, fun s t b h1 h2 h3 => ?_⟩
    · rw [snoc_getD]
      by_cases e : j = rows.length
      · rw [if_pos e]; exact Hd.of_some rfl hl rfl (Nat.le_refl _)
      · rw [if_neg e]; exact hkeep.hd j (by simp at hj; omega)
    · rw [snoc_getD, snoc_getD]
      by_cases e : j = rows.length
      · rw [if_pos e, if_pos (by omega)]; exact rowA_some hl
      · rw [if_neg e, if_neg (by omega)]; exact hkeep.row j (by simp at hj; omega)
    · rw [snoc_getD, snoc_getD]
      simp only [List.length_append, List.length_singleton] at h1 h2
      by_cases e : s = rows.length <;> by_cases e2 : t = rows.length
      · omega
      · rw [if_pos e, if_neg e2]
        intro q
        cases q
        exact hna t (by omega)
      · rw [if_neg e, if_pos e2]
        intro q1 q2
        cases q2
        exact hna s (by omega) q1
      · rw [if_neg e, if_neg e2]; exact h.dist s t b (by omega) (by omega) h3
def iniV (n k : Nat) : List Int := List.replicate k (-1) ++ List.replicate (n - k) 0
theorem iniV_len {n k : Nat} (h : k ≤ n) : (iniV n k).length = n := by simp [iniV]; omega
theorem iniV_set {n k : Nat} (h : k < n) : (iniV n k).set k (-1) = iniV n (k + 1) := by
  unfold iniV
  rw [List.set_append_right _ _ (by simp), List.length_replicate, Nat.sub_self]
  obtain ⟨m, hm⟩ : ∃ m, n - k = m + 1 := ⟨n - k - 1, by omega⟩
  rw [hm, show n - (k + 1) = m by omega, List.replicate_succ, List.set_cons_zero, List.replicate_succ', List.append_assoc]
  rfl
theorem iniV_end (n : Nat) : iniV n n = List.replicate n (-1) := by simp [iniV]
theorem begun_vec {U : TF} (hs : 0 ≤ U.start ∧ U.start < U.st) : VecOk U [] (begun U) := by
  refine ⟨by simp [begun], fun q hq => ?_⟩
  have e : (begun U).getD q 0 = if (q : Int) = U.start then 0 else -1 := by
    simp [begun, List.getD, hq, begF]
  rw [e]
  by_cases h : (q : Int) = U.start
  · rw [if_pos h]
    refine .inr ⟨Int.le_refl _, by rw [h]; exact .nil _, fun c hc => ?_⟩
    have := (hc.none rfl).2
    omega
  · rw [if_neg h]
    refine .inl ⟨rfl, fun c hc => h ?_⟩
    exact (hc.none rfl).1
def WordsPost (F : TF) (v : SV) (s : S) : Prop := ∃ (U : TF) (W vs : List (List Int)) (par sym : List Int) (i : Nat) (c : Int) (ok : Bool) (rows : List Sli) (m : List (Addr × List Int × Nat)) (spU sqU sr sp sy : Nat),
  IsUs F U ∧ U.capF = U.fin.length + spU ∧ U.capA = U.arcs.length + sqU ∧ WSt U W vs par sym i c ∧ Tab2 m rows vs.length (fun j => vs.getD j []) ∧ (ok = true ∧ W.length ≤ 200 ∧ i = W.length ∧ c = 1 ∨ ok = false ∧ W.length = 201) ∧
  v = .tup [.agg (cWo U 2 3 4 6 7 rows.length (rows.length + sr) par.length (par.length + sp) sym.length (sym.length + sy)), .c (.b ok)] ∧
  s = ⟨[], [(2, .arr true 3 .int U.fin spU), (3, .arr true 50 .arc U.arcs sqU), (4, .arr true 22 .sli rows sr), (5, .pool 3 .int m), (6, .arr true 3 .int par sp), (7, .arr true 3 .int sym sy)], 8⟩
structure WZ where
  W : List (List Int)
  vs : List (List Int)
  par : List Int
  sym : List Int
  rows : List Sli
  m : List (Addr × List Int × Nat)
  sr : Nat
  sp : Nat
  sy : Nat
structure WOkZ (U : TF) (z : WZ) (i : Nat) (c : Int) : Prop where
  st : WSt U z.W z.vs z.par z.sym i c
  tab : Tab2 z.m z.rows z.vs.length (fun j => z.vs.getD j [])
  len : z.W.length ≤ 200
set_option maxHeartbeats 16000000 in
set_option maxRecDepth 20000 in
theorem wordsOf_c (F : TF) (hF : WOk F) (hF2 : F.st ≤ 200) (hs : 0 ≤ F.start ∧ F.start < F.st) :
    Ct Tryd.prog 17 [fV F] [] (hpF F) 2 (WordsPost F) := by
  refine ctC Tryd.tyOk Tryd.func17 (c := Tryd.f17.body.getD .skip) rfl (by simp) (by simp) (fr := [(0, fV F)]) rfl ?_
  refine wordsA F hF hF2 hs fun U spU sqU rows m sr sp sy hus hcF hcA htab => ?_
  obtain ⟨hUw, hUs, hUst⟩ := hus.ok hF hs
  have hU0 := hUw.st
  have hUl := hUw.finl
  have hUa := hUw.arcl
  have hV0 := begun_vec hUs
  have hUr : ∀ a ∈ U.arcs, (0 ≤ a.f ∧ a.f < U.st) ∧ (0 ≤ a.t ∧ a.t < U.st) ∧ 0 ≤ a.w ∧ a.w ≤ 1000000000 := fun a ha => by
    have := hUw.arc a ha
    have := hUw.w a ha
    omega
  have hz0 : WOkZ U ⟨[[]], [begun U], [-1], [0], rows, m, sr, sp, sy⟩ 0 1 := ⟨WSt.start hV0, htab.congr fun j hj => by rw [show j = 0 by omega]; rfl, by simp⟩
  refine SemC.of Tryd.tyOk 12 [] ?_
  repeat' (first | exact rfl | ((conv => whnf); first | (refine qX (fun h => ?_) fun h => ?_ <;> try exact absurd h (by omega)) | refine oN ?_ | refine oM ?_ ?_ | refine bM ?_ ?_ | refine dR ?_))
  (conv => whnf)
  refine loopI (fun z : Nat × WZ => ⟨[(1, .c (.ptr 2 0)), (2, .c (.ptr 3 0)), (4, .c (.ptr 4 0)), (5, .i z.1)], hpWo F U spU sqU z.2.rows z.2.m z.2.par z.2.sym z.2.sr z.2.sp z.2.sy, 11⟩)
    (fun z => z.1 ≤ z.2.W.length ∧ WOkZ U z.2 z.1 1) (fun z => 200 - z.1) (0, ⟨[[]], [begun U], [-1], [0], rows, m, sr, sp, sy⟩) [] ⟨by rfl, ?_, ?_⟩ ⟨Nat.zero_le _, hz0⟩ ?_
  · simp
  · simp [fCells]
  · clear hz0 htab rows m sr sp sy
    rintro ⟨i, z⟩ ⟨hi, hz⟩
    simp only at hi hz ⊢
    have hrl := hz.tab.len
    have hlv := hz.st.lv
    have hlp := hz.st.lp
    have hls := hz.st.ls
    have hle := hz.len
    obtain ⟨W, vs, par, sym, rows, m, sr, sp, sy⟩ := z
    simp only at hi hrl hlv hlp hls hle ⊢
    (conv => whnf)
    refine condP_dec (fun hi2 => ?_) (fun hi2 => ?_)
    · repeat' (first | exact rfl | ((conv => whnf); first | (refine qX (fun h => ?_) fun h => ?_ <;> try exact absurd h (by omega)) | refine oN ?_ | refine oM ?_ ?_ | refine bM ?_ ?_ | refine dR ?_))
      (conv => whnf)
      refine loopI (fun z : Nat × WZ => ⟨[(1, .c (.ptr 2 0)), (2, .c (.ptr 3 0)), (4, .c (.ptr 4 0)), (5, .i i), (6, .i z.1)], hpWo F U spU sqU z.2.rows z.2.m z.2.par z.2.sym z.2.sr z.2.sp z.2.sy, 11⟩)
        (fun z => (1 ≤ z.1 ∧ z.1 ≤ 10) ∧ i < z.2.W.length ∧ WOkZ U z.2 i (z.1 : Nat)) (fun z => 10 - z.1) (1, ⟨W, vs, par, sym, rows, m, sr, sp, sy⟩) [] ⟨by rfl, ?_, ?_⟩ ⟨by simp, by simp only; omega, hz⟩ ?_
      · simp
      · simp [fCells]
      · clear hz hi hrl hlv hlp hls hle hi2 W vs par sym rows m sr sp sy
        rintro ⟨c, z⟩ ⟨hc, hi, hz⟩
        simp only at hc hi hz ⊢
        have hrl := hz.tab.len
        have hlv := hz.st.lv
        have hlp := hz.st.lp
        have hls := hz.st.ls
        have hle := hz.len
        obtain ⟨W, vs, par, sym, rows, m, sr, sp, sy⟩ := z
        simp only at hi hrl hlv hlp hls hle ⊢
        (conv => whnf)
        refine condP_dec (fun hc2 => ?_) (fun hc2 => ?_)
        · repeat' (first | exact rfl | ((conv => whnf); first | (refine qX (fun h => ?_) fun h => ?_ <;> try exact absurd h (by omega)) | refine oN ?_ | refine oM ?_ ?_ | refine bM ?_ ?_ | refine dR ?_))
          (conv => whnf)
          refine loopI (fun n : Nat => ⟨[(1, .c (.ptr 2 0)), (2, .c (.ptr 3 0)), (4, .c (.ptr 4 0)), (5, .i i), (6, .i c), (7, .c (.sl 11 1 0 U.st.toNat U.st.toNat)), (8, .b false), (9, .i n)], hpWo F U spU sqU rows m par sym sr sp sy ++ [(11, .arr true 3 .int (iniV U.st.toNat n) 0)], 12⟩)
            (fun n => n ≤ U.st.toNat) (fun n => U.st.toNat - n) 0 [] ⟨by rfl, ?_, ?_⟩ (Nat.zero_le _) ?_
          · simp
          · simp [fCells, iniV, EK.dflt]
          · intro n hn
            have hnl := iniV_len hn
            (conv => whnf)
            refine condP_dec (fun hn2 => ?_) (fun hn2 => ?_)
            · have hns := iniV_set (show n < U.st.toNat by omega)
              repeat' (first | exact rfl | ((conv => whnf); first | (refine qX (fun h => ?_) fun h => ?_ <;> try exact absurd h (by omega)) | refine oN ?_ | refine oM ?_ ?_ | refine bM ?_ ?_ | refine dR ?_))
              (conv => whnf)
              refine ⟨n + 1, [], ⟨by rfl, ?_, ?_⟩, by omega, by omega⟩
              · simp
              · simp [fCells, hns]
            · have e : n = U.st.toNat := by omega
              subst e
              rw [iniV_end]
              have hvi := hz.st.vec i hi
              have hrow := hz.tab.row i (by simp only; omega)
              have hvd := hvi.bd hUr
              have hwl := hz.st.wl i hi
              have hin := (hz.tab.hd i (by simp only; omega)).len
              have hvl := hvi.len
              have e0 : 0 + (i : Int).toNat = i := by omega
              simp only at hrow hin hvi hvl hvd hwl
              rw [hrow] at hin
              generalize hVe : vs.getD i [] = V at *
              rw [hvl, ← e0] at hin
              rw [← e0] at hrow
              have hr1 : (rowA m (rows.getD (0 + (i : Int).toNat) EK.sli.dflt).a).length = U.st.toNat := by rw [hrow, hvl]
              repeat' (first | exact rfl | ((conv => whnf); first | (refine qX (fun h => ?_) fun h => ?_ <;> try exact absurd h (by omega)) | refine oN ?_ | refine oM ?_ ?_ | refine bM ?_ ?_ | refine dR ?_))
              (conv => whnf)
              refine loopI (fun k : Nat => ⟨[(1, .c (.ptr 2 0)), (2, .c (.ptr 3 0)), (4, .c (.ptr 4 0)), (5, .i i), (6, .i c), (7, .c (.sl 11 1 0 U.st.toNat U.st.toNat)), (8, .b (nvA U.arcs V c k)), (10, .i k)], hpWo F U spU sqU rows m par sym sr sp sy ++ [(11, .arr true 3 .int (nvL U.arcs V c U.st.toNat k) 0)], 12⟩)
                (fun k => k ≤ U.arcs.length) (fun k => U.arcs.length - k) 0 [] ⟨by rfl, ?_, ?_⟩ (Nat.zero_le _) ?_
              · simp [nvA]
              · simp [fCells, nvL]
              · intro k hk
                have hnl := nvL_len U.arcs V c U.st.toNat k
                have hks : nvL U.arcs V c U.st.toNat (k + 1) = if nvB V c (U.arcs.getD k aD) = true then (nvL U.arcs V c U.st.toNat k).set (U.arcs.getD k aD).t.toNat (less ((nvL U.arcs V c U.st.toNat k).getD (U.arcs.getD k aD).t.toNat 0) (V.getD (U.arcs.getD k aD).f.toNat 0 + (U.arcs.getD k aD).w)) else nvL U.arcs V c U.st.toNat k := rfl
                have hka : nvA U.arcs V c (k + 1) = if nvB V c (U.arcs.getD k aD) = true then true else nvA U.arcs V c k := rfl
                (conv => whnf)
                refine condP_dec (fun hk2 => ?_) (fun hk2 => ?_)
                · have ek : 0 + (k : Int).toNat = k := by omega
                  have hb := hUr _ (getD_mem U.arcs k aD (by omega))
                  have hbb : nvB V c (U.arcs.getD k aD) = ((U.arcs.getD k aD).i == c && decide (0 ≤ V.getD (U.arcs.getD k aD).f.toNat 0)) := rfl
                  generalize hax : U.arcs.getD k aD = ax at *
                  have hax2 : U.arcs.getD (0 + (k : Int).toNat) EK.arc.dflt = ax := by rw [← hax, ek]; rfl
                  generalize hnv : nvL U.arcs V c U.st.toNat k = nv at *
                  rw [← hax2] at hb
                  have hv3 : -1 ≤ (rowA m (rows.getD (0 + (i : Int).toNat) EK.sli.dflt).a).getD (U.arcs.getD (0 + (k : Int).toNat) EK.arc.dflt).f.toNat EK.int.dflt ∧ (rowA m (rows.getD (0 + (i : Int).toNat) EK.sli.dflt).a).getD (U.arcs.getD (0 + (k : Int).toNat) EK.arc.dflt).f.toNat EK.int.dflt ≤ 1000000000 * 200 := by
                    rw [hrow]
                    have h9 : -1 ≤ V.getD (U.arcs.getD (0 + (k : Int).toNat) EK.arc.dflt).f.toNat 0 ∧ V.getD (U.arcs.getD (0 + (k : Int).toNat) EK.arc.dflt).f.toNat 0 ≤ 1000000000 * 200 := by
                      have := hvd (U.arcs.getD (0 + (k : Int).toNat) EK.arc.dflt).f.toNat
                      omega
                    exact h9
                  repeat' (first | exact rfl | ((conv => whnf); first | (refine qX (fun h => ?_) fun h => ?_ <;> try exact absurd h (by omega)) | refine oN ?_ | refine oM ?_ ?_ | refine bM ?_ ?_ | refine dR ?_))
                  · have hy : nvB V c ax = true := by
                      rename_i g
                      rw [hbb, ← hax2, g, beq_self_eq_true, Bool.true_and, decide_eq_true_eq]
                      rw [hrow] at h
                      exact h
                    rw [if_pos hy] at hks hka
                    (conv => whnf)
                    refine cF (less_c (nv.getD (0 + (U.arcs.getD (0 + (k : Int).toNat) EK.arc.dflt).t.toNat) EK.int.dflt) ((rowA m (rows.getD (0 + (i : Int).toNat) EK.sli.dflt).a).getD (U.arcs.getD (0 + (k : Int).toNat) EK.arc.dflt).f.toNat EK.int.dflt + (U.arcs.getD (0 + (k : Int).toNat) EK.arc.dflt).w)) [] Tryd.call41 ?_
                    rintro _ _ ⟨rfl, rfl⟩
                    repeat' (first | exact rfl | ((conv => whnf); first | (refine qX (fun h => ?_) fun h => ?_ <;> try exact absurd h (by omega)) | refine oN ?_ | refine oM ?_ ?_ | refine bM ?_ ?_ | refine dR ?_))
                    (conv => whnf)
                    refine ⟨k + 1, [], ⟨by rfl, ?_, ?_⟩, by omega, by omega⟩
                    · simp [hka]
                    · simp [fCells]
                      rw [hks, ← hax2, ← hrow]
                      simp [e0, ek, EK.dflt]
                  · have hy : nvB V c ax = false := by
                      rename_i g
                      rw [hbb, ← hax2, g, beq_self_eq_true, Bool.true_and, decide_eq_false_iff_not]
                      rw [hrow] at h
                      exact h
                    rw [hy, if_neg (by simp)] at hks hka
                    (conv => whnf)
                    refine ⟨k + 1, [], ⟨by rfl, ?_, ?_⟩, by omega, by omega⟩
                    · simp [hka]
                    · simp [fCells, hks]
                  · have hy : nvB V c ax = false := by
                      rw [hbb, ← hax2, beq_eq_false_iff_ne.2 h, Bool.false_and]
                    rw [hy, if_neg (by simp)] at hks hka
                    (conv => whnf)
                    refine ⟨k + 1, [], ⟨by rfl, ?_, ?_⟩, by omega, by omega⟩
                    · simp [hka]
                    · simp [fCells, hks]
                · have e : k = U.arcs.length := by omega
                  subst e
                  have hstep := hvi.step hUr c
                  have hany := hvi.any hUr c
                  have hne : nvL U.arcs V c U.st.toNat U.arcs.length ≠ [] := fun e => by
                    rw [e] at hnl
                    simp at hnl
                    omega
                  generalize nvL U.arcs V c U.st.toNat U.arcs.length = nv at *
                  generalize nvA U.arcs V c U.arcs.length = na at *
                  cases na with
                  | false =>
                    repeat' (first | exact rfl | ((conv => whnf); first | (refine qX (fun h => ?_) fun h => ?_ <;> try exact absurd h (by omega)) | refine oN ?_ | refine oM ?_ ?_ | refine bM ?_ ?_ | refine dR ?_))
                    (conv => whnf)
                    refine ⟨(c + 1, ⟨W, vs, par, sym, rows, m, sr, sp, sy⟩), [], ⟨by rfl, ?_, ?_⟩, ⟨by simp only; omega, hi, ⟨hz.st.skip (fun hb => (by have := hany.2 hb; cases this)), hz.tab, hz.len⟩⟩, by simp only; omega⟩
                    · simp
                    · simp [fCells]
                  | true =>
                    have hpu : WSt U (W ++ [W.getD i [] ++ [(c : Int)]]) (vs ++ [nv]) (par ++ [(i : Int)]) (sym ++ [(c : Int)]) i ((c : Int) + 1) := hz.st.push hi (by omega) hstep (hany.1 rfl)
                    repeat' (first | exact rfl | ((conv => whnf); first | (refine qX (fun h => ?_) fun h => ?_ <;> try exact absurd h (by omega)) | refine oN ?_ | refine oM ?_ ?_ | refine bM ?_ ?_))
                    (conv => whnf)
                    refine drawCut (fun z : List Sli × List (Addr × List Int × Nat) × Nat × Nat × Nat => ⟨[(1, .c (.ptr 2 0)), (2, .c (.ptr 3 0)), (4, .c (.ptr 4 0)), (5, .i i), (6, .i c)], hpWo F U spU sqU z.1 z.2.1 (par ++ [(i : Int)]) (sym ++ [(c : Int)]) z.2.2.1 z.2.2.2.1 z.2.2.2.2, 11⟩)
                      (fun z => Tab2 z.2.1 z.1 (vs ++ [nv]).length (fun j => (vs ++ [nv]).getD j [])) ?_ ?_
                    · repeat' (first | exact rfl | ((conv => whnf); first | (refine qX (fun h => ?_) fun h => ?_ <;> try exact absurd h (by omega)) | refine oN ?_ | refine oM ?_ ?_ | refine bM ?_ ?_ | refine dR ?_ | intro _))
                      all_goals
                        first
                        | exact trivial
                        | (
                          (conv => whnf)
                          simp only [Nat.reduceAdd, Nat.reduceSub]
                          rename_i m' y hfz q1 q2 q3
                          have htab := hz.tab.push (by rw [hnl]; exact hfz) hne
                          first
                          | (refine ⟨(rows ++ [y], m', q1, q2, q3), [(7, some 13), (9, some 15), (10, some 17)], ⟨by rfl, ?_, ?_⟩, htab⟩; (focus (simp; done)); (focus (simp [fCells, app_one]; done)))
                          | (refine ⟨(rows ++ [y], m', q1, q2, q3), [(7, some 13), (9, some 16), (10, some 17)], ⟨by rfl, ?_, ?_⟩, htab⟩; (focus (simp; done)); (focus (simp [fCells, app_one]; done)))
                          | (refine ⟨(rows ++ [y], m', q1, q2, q3), [(7, some 14), (9, some 15), (10, some 17)], ⟨by rfl, ?_, ?_⟩, htab⟩; (focus (simp; done)); (focus (simp [fCells, app_one]; done)))
                          | (refine ⟨(rows ++ [y], m', q1, q2, q3), [(7, some 14), (9, some 16), (10, some 17)], ⟨by rfl, ?_, ?_⟩, htab⟩; (focus (simp; done)); (focus (simp [fCells, app_one]; done)))
                          | (refine ⟨(rows ++ [y], m', q1, q2, q3), [(7, some 15), (9, some 16), (10, some 17)], ⟨by rfl, ?_, ?_⟩, htab⟩; (focus (simp; done)); (focus (simp [fCells, app_one]; done))))
                    · rintro ⟨rows2, m2, sr2, sp2, sy2⟩ htab2
                      simp only at htab2 ⊢
                      have hr2 := htab2.len
                      simp only [List.length_append, List.length_singleton] at hr2
                      repeat' (first | exact rfl | ((conv => whnf); first | (refine qX (fun h => ?_) fun h => ?_ <;> try exact absurd h (by omega)) | refine oN ?_ | refine oM ?_ ?_ | refine bM ?_ ?_ | refine dR ?_))
                      · (conv => whnf)
                        refine ⟨[(2, some 5), (3, some 6), (4, some 7), (5, some 8), (6, some 9), (7, some 10)], [(2, .arr true 3 .int U.fin spU), (3, .arr true 50 .arc U.arcs sqU), (4, .arr true 22 .sli rows2 sr2), (5, .pool 3 .int m2), (6, .arr true 3 .int (par ++ [(i : Int)]) sp2), (7, .arr true 3 .int (sym ++ [(c : Int)]) sy2)], 8, .tup [.agg (cWo U 2 3 4 6 7 rows2.length (rows2.length + sr2) (par ++ [(i : Int)]).length ((par ++ [(i : Int)]).length + sp2) (sym ++ [(c : Int)]).length ((sym ++ [(c : Int)]).length + sy2)), .c (.b false)], ⟨by rfl, trivial, by simp⟩, by simp, U, W ++ [W.getD i [] ++ [(c : Int)]], vs ++ [nv], par ++ [(i : Int)], sym ++ [(c : Int)], i, (c : Int) + 1, false, rows2, m2, spU, sqU, sr2, sp2, sy2, hus, hcF, hcA, hpu, htab2, .inr ⟨rfl, by rw [List.length_append, List.length_singleton]; omega⟩, rfl, rfl⟩
                      · (conv => whnf)
                        refine ⟨(c + 1, ⟨W ++ [W.getD i [] ++ [(c : Int)]], vs ++ [nv], par ++ [(i : Int)], sym ++ [(c : Int)], rows2, m2, sr2, sp2, sy2⟩), [], ⟨by rfl, ?_, ?_⟩, ⟨by simp only; omega, by simp only [List.length_append, List.length_singleton]; omega, ⟨hpu, htab2, by simp only [List.length_append, List.length_singleton]; omega⟩⟩, by simp only; omega⟩
                        · simp
                        · simp [fCells]
        · have e : c = 10 := by omega
          subst e
          repeat' (first | exact rfl | ((conv => whnf); first | (refine qX (fun h => ?_) fun h => ?_ <;> try exact absurd h (by omega)) | refine oN ?_ | refine oM ?_ ?_ | refine bM ?_ ?_ | refine dR ?_))
          (conv => whnf)
          refine ⟨(i + 1, ⟨W, vs, par, sym, rows, m, sr, sp, sy⟩), [], ⟨by rfl, ?_, ?_⟩, ⟨by simp only; omega, ⟨hz.st.next, hz.tab, hz.len⟩⟩, by simp only; omega⟩
          · simp
          · simp [fCells]
    · have e : i = W.length := by omega
      subst e
      repeat' (first | exact rfl | ((conv => whnf); first | (refine qX (fun h => ?_) fun h => ?_ <;> try exact absurd h (by omega)) | refine oN ?_ | refine oM ?_ ?_ | refine bM ?_ ?_ | refine dR ?_))
      (conv => whnf)
      refine ⟨[(2, some 5), (3, some 6), (4, some 7), (5, some 8), (6, some 9), (7, some 10)], [(2, .arr true 3 .int U.fin spU), (3, .arr true 50 .arc U.arcs sqU), (4, .arr true 22 .sli rows sr), (5, .pool 3 .int m), (6, .arr true 3 .int par sp), (7, .arr true 3 .int sym sy)], 8, .tup [.agg (cWo U 2 3 4 6 7 rows.length (rows.length + sr) par.length (par.length + sp) sym.length (sym.length + sy)), .c (.b true)], ⟨by rfl, trivial, by simp⟩, by simp, U, W, vs, par, sym, W.length, 1, true, rows, m, spU, sqU, sr, sp, sy, hus, hcF, hcA, hz.st, hz.tab, .inl ⟨rfl, hle, rfl, rfl⟩, rfl, rfl⟩
end Go.Fw

namespace Go.Fw
open Go Go.Proofs
def endG (l fin : List Int) : Nat → Int
  | 0 => -1
  | k + 1 => less (endG l fin k) (plus (l.getD k 0) (fin.getD k 0))
set_option maxHeartbeats 4000000 in
set_option maxRecDepth 20000 in
theorem ended_c (F : TF) (hF : FOk F) (l : List Int) (cap : Nat) (hl : l.length = F.st.toNat) (hb : ∀ x ∈ l, -1 ≤ x ∧ x ≤ 1000000000000000) :
    Ct Tryd.prog 77 [fV F, .c (.sl 2 1 0 l.length cap)] [] ((2, .arr false 3 .int l 0) :: hpF F) 3 (Is 3 (.i (endG l F.fin F.st.toNat))) := by
  have hst := hF.st
  have hfl := hF.finl
  refine ctW Tryd.tyOk 7 [] Tryd.func77 rfl (by simp) (by simp) (fr := [(0, fV F), (1, .c (.sl 2 1 0 l.length cap))]) rfl ?_
  repeat' (first | exact rfl | ((conv => whnf); first | (refine qX (fun h => ?_) fun h => ?_ <;> try exact absurd h (by omega)) | refine oN ?_ | refine oM ?_ ?_ | refine bM ?_ ?_ | refine dR ?_))
  (conv => whnf)
  refine loopI (fun k : Nat => ⟨[(1, .c (.sl 2 1 0 l.length cap)), (2, .c (.ptr 3 0)), (4, .i 0), (5, .i (endG l F.fin k)), (6, .i k)], (3, .box 25 (fCells F)) :: (2, .arr false 3 .int l 0) :: hpF F, 4⟩) (fun k => k ≤ F.st.toNat) (fun k => F.st.toNat - k) 0 [] ⟨by rfl, ?_, ?_⟩ (by omega) ?_
  · simp [endG]
  · simp [fCells]
  · intro k hk
    (conv => whnf)
    refine condP_dec (fun hk2 => ?_) (fun hk2 => ?_)
    · have e0 : 0 + (k : Int).toNat = k := by omega
      have b1 := hb _ (getD_mem l k 0 (by omega))
      have b2 := hF.fin _ (getD_mem F.fin k 0 (by omega))
      have e1 : l.getD (0 + (k : Int).toNat) EK.int.dflt = l.getD k 0 := by rw [e0]; rfl
      have e2 : F.fin.getD (0 + (k : Int).toNat) EK.int.dflt = F.fin.getD k 0 := by rw [e0]; rfl
      have hpi : InI (l.getD k 0 + F.fin.getD k 0) := by unfold InI; omega
      repeat' (first | exact rfl | ((conv => whnf); first | (refine qX (fun h => ?_) fun h => ?_ <;> try exact absurd h (by omega)) | refine oN ?_ | refine oM ?_ ?_ | refine bM ?_ ?_ | refine dR ?_))
      (conv => whnf)
      rw [e1, e2]
      refine cI (plus_c (l.getD k 0) (F.fin.getD k 0) hpi) [] Tryd.call95 ?_
      repeat' (first | exact rfl | ((conv => whnf); first | (refine qX (fun h => ?_) fun h => ?_ <;> try exact absurd h (by omega)) | refine oN ?_ | refine oM ?_ ?_ | refine bM ?_ ?_ | refine dR ?_))
      (conv => whnf)
      refine cI (less_c (endG l F.fin k) (plus (l.getD k 0) (F.fin.getD k 0))) [] Tryd.call41 ?_
      repeat' (first | exact rfl | ((conv => whnf); first | (refine qX (fun h => ?_) fun h => ?_ <;> try exact absurd h (by omega)) | refine oN ?_ | refine oM ?_ ?_ | refine bM ?_ ?_ | refine dR ?_))
      (conv => whnf)
      refine ⟨k + 1, [], ⟨by rfl, ?_, ?_⟩, by omega, by omega⟩
      · simp [endG]
      · simp [fCells]
    · have hkn : k = F.st.toNat := by omega
      subst hkn
      repeat' (first | exact rfl | ((conv => whnf); first | (refine qX (fun h => ?_) fun h => ?_ <;> try exact absurd h (by omega)) | refine oN ?_ | refine oM ?_ ?_ | refine bM ?_ ?_ | refine dR ?_))
      refine Back.is ?_
      simp
end Go.Fw
