/- Walks of the functions: what each computes. -/
import Derived.Test.YtiejplibehppnaaR11
import Derived.Test.YtiejplibehppnaaR10

set_option linter.unusedSimpArgs false
set_option linter.unusedVariables false

namespace Go.Fw
open Go Go.Proofs

def bndC (i o : Int) : Int := 1000000000000 + 202000000000 * (i + o + 1)
def bndD (i o : Int) : Int := 1000000000000 + 202000000000 * (i + o) + 1000000000

def CellAt (F : TF) (u v first : List Int) (m3 : List (Addr × List Int × Nat)) (y : Sli) (i o : Nat) : Prop := Hd m3 y ∧ CellOk F u v (srcS F first) (bndC i o) i o (rowA m3 y.a)
def RowAt (F : TF) (u v first : List Int) (m3 : List (Addr × List Int × Nat)) (ys : List Sli) (i n : Nat) : Prop := ys.length = n ∧ ∀ o, o < n → CellAt F u v first m3 (ys.getD o EK.sli.dflt) i o
def TabAt (F : TF) (u v first : List Int) (m22 : List (Addr × List Sli × Nat)) (m3 : List (Addr × List Int × Nat)) (xs : List Sli) (n : Nat) : Prop :=
  xs.length = n ∧ ∀ i, i < n → Hd m22 (xs.getD i EK.sli.dflt) ∧ RowAt F u v first m3 (rowA m22 (xs.getD i EK.sli.dflt).a) i (v.length + 1)

theorem Hd.cons {α : Type} {m : List (Addr × List α × Nat)} {x : Sli} (h : Hd m x) {a : Addr} (ha : lkA m a = none) (z : List α × Nat) : Hd ((a, z) :: m) x ∧ rowA ((a, z) :: m) x.a = rowA m x.a := by
  cases hx : x.a with
  | none =>
    refine ⟨?_, rfl⟩
    unfold Hd at h ⊢
    rw [hx] at h ⊢
    exact h
  | some b =>
    obtain ⟨y, h1, h2, h3⟩ := h.some hx
    have hne : a ≠ b := fun e => by rw [e, h1] at ha; cases ha
    have hl : lkA ((a, z) :: m) b = Option.some y := by simp only [lkA, if_neg hne, h1]
    exact ⟨Hd.of_some hx hl h2 h3, by rw [rowA_some hl, rowA_some h1]⟩

section
variable {F : TF} {u v first : List Int} {m22 : List (Addr × List Sli × Nat)} {m3 : List (Addr × List Int × Nat)}

theorem CellAt.cons {y : Sli} {i o : Nat} (h : CellAt F u v first m3 y i o) {a : Addr} (ha : lkA m3 a = none) (z : List Int × Nat) : CellAt F u v first ((a, z) :: m3) y i o := by
  obtain ⟨h1, h2⟩ := h.1.cons ha z
  exact ⟨h1, by rw [h2]; exact h.2⟩

theorem RowAt.cons {ys : List Sli} {i n : Nat} (h : RowAt F u v first m3 ys i n) {a : Addr} (ha : lkA m3 a = none) (z : List Int × Nat) : RowAt F u v first ((a, z) :: m3) ys i n :=
  ⟨h.1, fun o ho => (h.2 o ho).cons ha z⟩

theorem TabAt.cons {xs : List Sli} {n : Nat} (h : TabAt F u v first m22 m3 xs n) {a : Addr} (ha : lkA m3 a = none) (z : List Int × Nat) : TabAt F u v first m22 ((a, z) :: m3) xs n :=
  ⟨h.1, fun i hi => ⟨(h.2 i hi).1, (h.2 i hi).2.cons ha z⟩⟩

theorem getD_snoc {α : Type} (l : List α) (x d : α) (n : Nat) : (l ++ [x]).getD n d = if n < l.length then l.getD n d else if n = l.length then x else d := by
  simp only [List.getD]
  by_cases h : n < l.length
  · rw [if_pos h, List.getElem?_append_left h]
  · rw [if_neg h, List.getElem?_append_right (by omega)]
    by_cases h2 : n = l.length
    · rw [if_pos h2]; subst h2; simp
    · rw [if_neg h2, List.getElem?_eq_none (by simp; omega)]; rfl

theorem RowAt.snoc {ys : List Sli} {i n : Nat} (h : RowAt F u v first m3 ys i n) {y : Sli} (hy : CellAt F u v first m3 y i n) : RowAt F u v first m3 (ys ++ [y]) i (n + 1) := by
  refine ⟨by simp [h.1], fun o ho => ?_⟩
  rw [getD_snoc]
  by_cases e : o < ys.length
  · rw [if_pos e]; exact h.2 o (by rw [h.1] at e; exact e)
  · have h1 := h.1
    rw [if_neg e, if_pos (by omega)]
    have : o = n := by omega
    subst this
    exact hy

theorem TabAt.snoc {xs : List Sli} {n : Nat} (h : TabAt F u v first m22 m3 xs n) {ys : List Sli} (hr : RowAt F u v first m3 ys n (v.length + 1)) {a : Addr} (ha : lkA m22 a = none) {sp cap : Nat} (hc : cap ≤ ys.length + sp) : TabAt F u v first ((a, ys, sp) :: m22) m3 (xs ++ [⟨some a, ys.length, cap⟩]) (n + 1) := by
  refine ⟨by simp [h.1], fun i hi => ?_⟩
  rw [getD_snoc]
  have h1 := h.1
  by_cases e : i < xs.length
  · rw [if_pos e]
    obtain ⟨g1, g2⟩ := h.2 i (by omega)
    obtain ⟨g3, g4⟩ := g1.cons ha (ys, sp)
    exact ⟨g3, by rw [g4]; exact g2⟩
  · rw [if_neg e, if_pos (by omega)]
    have : i = n := by omega
    subst this
    have hl : lkA ((a, ys, sp) :: m22) a = some (ys, sp) := by simp [lkA]
    exact ⟨Hd.of_some rfl hl rfl hc, by rw [rowA_some hl]; exact hr⟩
end

section
variable {F : TF} {u v : List Int} {S : Trip → Int → Prop}

/-- An arc that does not come here. -/
theorem CInv.pass (hF : FOk F) (hS : ∀ x c, S x c → InBox F u v x ∧ 0 ≤ c) {i o : Int} {k : Nat} {l : List Int} (h : CInv F u v S i o k l) {a : Arc} (ha : F.arcs[k]? = some a)
    (hno : a.i + a.o = 0 ∨ (0 < a.i ∧ i - 1 < 0) ∨ (0 < a.o ∧ o - 1 < 0) ∨ (0 < a.i ∧ u.getD (i - 1).toNat 0 ≠ a.i) ∨ (0 < a.o ∧ v.getD (o - 1).toNat 0 ≠ a.o)) : CInv F u v S i o (k + 1) l := by
  refine h.next fun b hb hsil x n w he c hr => ?_
  rw [ha] at hb
  cases hb
  have hao := hF.arc a (List.mem_of_getElem? ha)
  exfalso
  obtain ⟨g1, g2, g3, g4, g5⟩ := he.back ha hao.i0.1 hao.o0.1
  obtain ⟨⟨_, b1, b2⟩, _⟩ := hr.box hF hS
  subst g1
  rcases hno with q | ⟨q, q2⟩ | ⟨q, q2⟩ | ⟨q, q2⟩ | ⟨q, q2⟩
  · exact hsil q
  · simp only [if_pos q] at b1; omega
  · simp only [if_pos q] at b2; omega
  · have := (g4 q).2; simp only [if_pos q] at this; exact q2 this
  · have := (g5 q).2; simp only [if_pos q] at this; exact q2 this

/-- An arc that comes here. -/
theorem CInv.push (hF : FOk F) {i o : Int} {k : Nat} {l cl : List Int} {B : Int} (h : CInv F u v S i o k l) {a : Arc} (ha : F.arcs[k]? = some a)
    (h1 : 0 < a.i → i - 1 < u.length ∧ u.getD (i - 1).toNat 0 = a.i) (h2 : 0 < a.o → o - 1 < v.length ∧ v.getD (o - 1).toNat 0 = a.o)
    (hcl : CellOk F u v S B (if 0 < a.i then i - 1 else i) (if 0 < a.o then o - 1 else o) cl) :
    CInv F u v S i o (k + 1) (l.set a.t.toNat (less (l.getD a.t.toNat 0) (plus (cl.getD a.f.toNat 0) a.w))) := by
  have hao := hF.arc a (List.mem_of_getElem? ha)
  have hf0 := hao.f0
  have hf1 := hao.f1
  have ht0 := hao.t0
  have ht1 := hao.t1
  have hw0 := hao.w0
  have hsp := less_spec (l.getD a.t.toNat 0) (plus (cl.getD a.f.toNat 0) a.w)
  have hpl := plus_spec (cl.getD a.f.toNat 0) a.w hw0
  have hlen := h.len
  refine (h.relax (by omega) hsp.1 (fun hp => ?_)).next fun b hb hsil x n w he c hr => ?_
  · by_cases hl : 0 ≤ l.getD a.t.toNat 0 ∧ less (l.getD a.t.toNat 0) (plus (cl.getD a.f.toNat 0) a.w) = l.getD a.t.toNat 0
    · rw [hl.2]; exact h.snd _ (by omega) hl.1
    · have e : less (l.getD a.t.toNat 0) (plus (cl.getD a.f.toNat 0) a.w) = plus (cl.getD a.f.toNat 0) a.w := by
        rcases hsp.2.2 with e | e
        · exact absurd ⟨by rw [e] at hp; exact hp, e⟩ hl
        · exact e
      rw [e] at hp ⊢
      have hfr : 0 ≤ cl.getD a.f.toNat 0 := by
        by_cases q : 0 ≤ cl.getD a.f.toNat 0
        · exact q
        · rw [hpl.2 (by omega)] at hp; omega
      rw [hpl.1 hfr]
      have hr := hcl.snd a.f.toNat (by omega) hfr
      rw [Int.toNat_of_nonneg hf0] at hr
      rw [Int.toNat_of_nonneg ht0]
      exact .on hr (Edge.make ha hao.i0.1 hao.o0.1 h1 h2)
  · rw [ha] at hb
    cases hb
    obtain ⟨g1, g2, g3, _, _⟩ := he.back ha hao.i0.1 hao.o0.1
    have hn : n = a.t.toNat := by omega
    subst hn
    rw [getD_setC _ _ _ _ (by omega), if_pos rfl]
    subst g1
    have := hcl.cpl a.f.toNat c (by rw [Int.toNat_of_nonneg hf0]; exact hr)
    have hp := hpl.1 this.1
    have := hsp.2.1 (by omega)
    omega
end

theorem CellOk.weak {F : TF} {u v : List Int} {S : Trip → Int → Prop} {B B' i o : Int} {l : List Int} (h : CellOk F u v S B i o l) (hB : B ≤ B') : CellOk F u v S B' i o l :=
  ⟨h.len, fun x hx => ⟨(h.bd x hx).1, Int.le_trans (h.bd x hx).2 hB⟩, h.snd, h.cpl⟩

theorem Still.next {F : TF} {k : Nat} {l : List Int} (h : Still F k l) (hk : ∀ a, F.arcs[k]? = some a → a.i + a.o = 0 → less (l.getD a.t.toNat 0) (plus (l.getD a.f.toNat 0) a.w) = l.getD a.t.toNat 0) : Still F (k + 1) l := by
  intro j a hj ha hs
  by_cases e : j = k
  · subst e; exact hk a ha hs
  · exact h j a (by omega) ha hs

theorem bd_set {l : List Int} {B : Int} (h : ∀ x ∈ l, -1 ≤ x ∧ x ≤ B) {t : Nat} {m : Int} (hm : -1 ≤ m ∧ m ≤ B) : ∀ x ∈ l.set t m, -1 ≤ x ∧ x ≤ B := by
  intro x hx
  rcases List.mem_or_eq_of_mem_set hx with hx | rfl
  · exact h x hx
  · exact hm

theorem CInv.pushB {F : TF} {u v : List Int} {S : Trip → Int → Prop} (hF : FOk F) {i o x y : Int} {k : Nat} {l cl : List Int} {B : Int} (h : CInv F u v S i o k l) (hbd : ∀ x ∈ l, -1 ≤ x ∧ x ≤ bndD i o) {a : Arc} (ha : F.arcs[k]? = some a)
    (h1 : 0 < a.i → i - 1 < u.length ∧ u.getD (i - 1).toNat 0 = a.i) (h2 : 0 < a.o → o - 1 < v.length ∧ v.getD (o - 1).toNat 0 = a.o)
    (hcl : CellOk F u v S B x y cl) (hx : x = if 0 < a.i then i - 1 else i) (hy : y = if 0 < a.o then o - 1 else o) (hB : B + 1000000000 ≤ bndD i o) :
    CInv F u v S i o (k + 1) (l.set a.t.toNat (less (l.getD a.t.toNat 0) (plus (cl.getD a.f.toNat 0) a.w))) ∧ ∀ x ∈ l.set a.t.toNat (less (l.getD a.t.toNat 0) (plus (cl.getD a.f.toNat 0) a.w)), -1 ≤ x ∧ x ≤ bndD i o := by
  subst hx hy
  refine ⟨h.push hF ha h1 h2 hcl, bd_set hbd ?_⟩
  have hao := hF.arc a (List.mem_of_getElem? ha)
  have hf0 := hao.f0
  have hf1 := hao.f1
  have ht0 := hao.t0
  have ht1 := hao.t1
  have hw0 := hao.w0
  have hw1 := hao.w1
  have hlen := h.len
  have hcn := hcl.len
  have b1 := hbd _ (getD_mem l a.t.toNat 0 (by omega))
  have b2 := hcl.bd _ (getD_mem cl a.f.toNat 0 (by omega))
  have hsp := less_spec (l.getD a.t.toNat 0) (plus (cl.getD a.f.toNat 0) a.w)
  have hpl := plus_spec (cl.getD a.f.toNat 0) a.w hw0
  rcases hsp.2.2 with e | e
  · rw [e]; exact b1
  · rw [e]
    by_cases q : 0 ≤ cl.getD a.f.toNat 0
    · rw [hpl.1 q]; omega
    · rw [hpl.2 (by omega)]; omega

abbrev hpK (F : TF) (first u v : List Int) (xs : List Sli) (sp : Nat) (m22 : List (Addr × List Sli × Nat)) (m3 : List (Addr × List Int × Nat)) : List (Nat × SO) :=
  [(5, .box 25 (fCells F)), (6, .arr true 75 .sli xs sp), (7, .pool 22 .sli m22), (8, .pool 3 .int m3), (0, .arr false 3 .int F.fin 0), (1, .arr false 47 .arc F.arcs 0), (2, .arr false 3 .int first 0), (3, .arr false 3 .int u 0), (4, .arr false 3 .int v 0)]

def initC (first : List Int) (i o m : Nat) : Int := if i = 0 ∧ o = 0 then first.getD m 0 else -1

set_option maxHeartbeats 16000000 in
set_option maxRecDepth 20000 in
theorem costs_c (F : TF) (first u v : List Int) (c1 cu cv : Nat) (hF : FOk F) (hu : u.length ≤ 40) (hv : v.length ≤ 40) (hf : first.length = F.st.toNat) (hfb : ∀ x ∈ first, -1 ≤ x ∧ x ≤ 1000000000000) :
    Ct Try.prog 52 [fV F, .c (.sl 2 1 0 first.length c1), .c (.sl 3 1 0 u.length cu), .c (.sl 4 1 0 v.length cv)] [] [(0, .arr false 3 .int F.fin 0), (1, .arr false 47 .arc F.arcs 0), (2, .arr false 3 .int first 0), (3, .arr false 3 .int u 0), (4, .arr false 3 .int v 0)] 5
      (fun x s => ∃ xs sp m22 m3, x = .c (.sl 5 1 0 xs.length (xs.length + sp)) ∧ s = ⟨[], [(5, .arr true 75 .sli xs sp), (6, .pool 22 .sli m22), (7, .pool 3 .int m3)], 8⟩ ∧ TabAt F u v first m22 m3 xs (u.length + 1)) := by
  have hst := hF.st
  have hfl := hF.finl
  have hal := hF.arcl
  have hS : ∀ x c, srcS F first x c → InBox F u v x ∧ 0 ≤ c := by
    rintro x c ⟨h1, h2, h3, h4, h5⟩
    exact ⟨⟨h3, by omega, by omega⟩, h5⟩
  refine ctW Try.tyOk 24 [] Try.func52 rfl (by simp [SV.lt, SA.lt, SC.lt, arcV, fV]) (by simp) (fr := [(0, fV F), (1, .c (.sl 2 1 0 first.length c1)), (2, .c (.sl 3 1 0 u.length cu)), (3, .c (.sl 4 1 0 v.length cv))]) rfl ?_
  repeat' (first | exact rfl | ((conv => whnf); first | ((first | refine qA (fun h => ?_) fun h => ?_ | refine qN (fun h => ?_) fun h => ?_ | refine qB (fun h => ?_) fun h => ?_ | refine qC (fun h => ?_) fun h => ?_) <;> try exact absurd h (by omega)) | refine qM (fun h => ?_) fun h => ?_ | refine oM (by (first | omega | (simp only [lenS, InI, nmin, EK.sz]; omega) | (simp only [lenS, InI, nmin, EK.sz] at *; omega))) ?_ | refine oM ?_ ?_ | refine bM ?_ ?_ | refine draw_of Try.mixed Try.tyOk 60 (by kernel_rfl) ?_))
  (conv => whnf)
  refine loopI (fun z : Nat × List Sli × Nat × List (Addr × List Sli × Nat) × List (Addr × List Int × Nat) => ⟨[(1, .c (.sl 2 1 0 first.length c1)), (2, .c (.sl 3 1 0 u.length cu)), (3, .c (.sl 4 1 0 v.length cv)), (4, .c (.ptr 5 0)), (9, .c (.sl 6 1 0 z.2.1.length (z.2.1.length + z.2.2.1))), (10, .i z.1)], hpK F first u v z.2.1 z.2.2.1 z.2.2.2.1 z.2.2.2.2, 9⟩)
    (fun z => z.1 ≤ u.length + 1 ∧ TabAt F u v first z.2.2.2.1 z.2.2.2.2 z.2.1 z.1) (fun z => u.length + 1 - z.1) (0, [], 0, [], []) [(6, none), (7, none), (8, none)] ⟨by rfl, ?_, ?_⟩ ⟨by omega, rfl, fun i hi => absurd hi (by omega)⟩ ?_
  · simp [eqFr, eqHp, eqV, eqA, eqC, eqO, eqCs, eqAs, look_cons, look, rn, EK.cast, EK.sz, eqCaps]
  · simp [eqFr, eqHp, eqV, eqA, eqC, eqO, eqCs, eqAs, look_cons, look, rn, EK.cast, EK.sz, eqCaps, fCells, nilO]
  · rintro ⟨i, xs, sp, m22, m3⟩ ⟨hi1, htab⟩
    simp only at hi1 htab ⊢
    have hxl := htab.1
    (conv => whnf)
    refine condP_dec (fun hi => ?_) (fun hi => ?_)
    · repeat' (first | exact rfl | ((conv => whnf); first | ((first | refine qA (fun h => ?_) fun h => ?_ | refine qN (fun h => ?_) fun h => ?_ | refine qB (fun h => ?_) fun h => ?_ | refine qC (fun h => ?_) fun h => ?_) <;> try exact absurd h (by omega)) | refine qM (fun h => ?_) fun h => ?_ | refine oM (by (first | omega | (simp only [lenS, InI, nmin, EK.sz]; omega) | (simp only [lenS, InI, nmin, EK.sz] at *; omega))) ?_ | refine oM ?_ ?_ | refine bM ?_ ?_ | refine draw_of Try.mixed Try.tyOk 60 (by kernel_rfl) ?_))
      (conv => whnf)
      refine loopI (fun z : Nat × List Sli × Nat × List (Addr × List Int × Nat) => ⟨[(1, .c (.sl 2 1 0 first.length c1)), (2, .c (.sl 3 1 0 u.length cu)), (3, .c (.sl 4 1 0 v.length cv)), (4, .c (.ptr 5 0)), (9, .c (.sl 6 1 0 xs.length (xs.length + sp))), (10, .i i), (11, .c (.sl 9 1 0 z.2.1.length (z.2.1.length + z.2.2.1))), (12, .i z.1)], (9, .arr true 22 .sli z.2.1 z.2.2.1) :: hpK F first u v xs sp m22 z.2.2.2, 10⟩)
        (fun z => z.1 ≤ v.length + 1 ∧ TabAt F u v first m22 z.2.2.2 xs i ∧ RowAt F u v first z.2.2.2 z.2.1 i z.1) (fun z => v.length + 1 - z.1) (0, [], 0, m3) [(9, none)] ⟨by rfl, ?_, ?_⟩ ⟨by omega, htab, rfl, fun o ho => absurd ho (by omega)⟩ ?_
      · simp [eqFr, eqHp, eqV, eqA, eqC, eqO, eqCs, eqAs, look_cons, look, rn, EK.cast, EK.sz, eqCaps]
      · simp [eqFr, eqHp, eqV, eqA, eqC, eqO, eqCs, eqAs, look_cons, look, rn, EK.cast, EK.sz, eqCaps, fCells, nilO]
      · rintro ⟨o, ys, sq, m3⟩ ⟨ho1, htab, hrow⟩
        simp only at ho1 htab hrow ⊢
        have hyl := hrow.1
        (conv => whnf)
        refine condP_dec (fun ho => ?_) (fun ho => ?_)
        · repeat' (first | exact rfl | ((conv => whnf); first | ((first | refine qA (fun h => ?_) fun h => ?_ | refine qN (fun h => ?_) fun h => ?_ | refine qB (fun h => ?_) fun h => ?_ | refine qC (fun h => ?_) fun h => ?_) <;> try exact absurd h (by omega)) | refine qM (fun h => ?_) fun h => ?_ | refine oM (by (first | omega | (simp only [lenS, InI, nmin, EK.sz]; omega) | (simp only [lenS, InI, nmin, EK.sz] at *; omega))) ?_ | refine oM ?_ ?_ | refine bM ?_ ?_ | refine draw_of Try.mixed Try.tyOk 60 (by kernel_rfl) ?_))
          (conv => whnf)
          refine loopI (fun z : Nat × List Int => ⟨[(1, .c (.sl 2 1 0 first.length c1)), (2, .c (.sl 3 1 0 u.length cu)), (3, .c (.sl 4 1 0 v.length cv)), (4, .c (.ptr 5 0)), (9, .c (.sl 6 1 0 xs.length (xs.length + sp))), (10, .i i), (11, .c (.sl 9 1 0 ys.length (ys.length + sq))), (12, .i o), (13, .c (.sl 10 1 0 z.2.length z.2.length)), (14, .i z.1)], (10, .arr true 3 .int z.2 0) :: (9, .arr true 22 .sli ys sq) :: hpK F first u v xs sp m22 m3, 11⟩)
            (fun z => z.1 ≤ F.st.toNat ∧ z.2.length = F.st.toNat ∧ ∀ m, m < z.1 → z.2.getD m 0 = initC first i o m) (fun z => F.st.toNat - z.1) (0, List.replicate F.st.toNat 0) [] ⟨by rfl, ?_, ?_⟩ ⟨by omega, by simp, fun m hm => absurd hm (by omega)⟩ ?_
          · simp [eqFr, eqHp, eqV, eqA, eqC, eqO, eqCs, eqAs, look_cons, look, rn, EK.cast, EK.sz, eqCaps]
          · simp [eqFr, eqHp, eqV, eqA, eqC, eqO, eqCs, eqAs, look_cons, look, rn, EK.cast, EK.sz, eqCaps, fCells, EK.dflt]
          · rintro ⟨n, l⟩ ⟨hn1, hll, hini⟩
            simp only at hn1 hll hini ⊢
            (conv => whnf)
            refine condP_dec (fun hn => ?_) (fun hn => ?_)
            · have e0 : 0 + (n : Int).toNat = n := by omega
              have key : ∀ (z : Int), z = initC first i o n → (l.set n z).length = F.st.toNat ∧ ∀ m, m < n + 1 → (l.set n z).getD m 0 = initC first i o m := by
                intro z hz
                refine ⟨by rw [List.length_set]; exact hll, fun m hm => ?_⟩
                rw [getD_setC l n z m (by omega)]
                by_cases e : m = n
                · rw [if_pos e, hz, e]
                · rw [if_neg e]; exact hini m (by omega)
              repeat' (first | exact rfl | ((conv => whnf); first | ((first | refine qA (fun h => ?_) fun h => ?_ | refine qN (fun h => ?_) fun h => ?_ | refine qB (fun h => ?_) fun h => ?_ | refine qC (fun h => ?_) fun h => ?_) <;> try exact absurd h (by omega)) | refine qM (fun h => ?_) fun h => ?_ | refine oM (by (first | omega | (simp only [lenS, InI, nmin, EK.sz]; omega) | (simp only [lenS, InI, nmin, EK.sz] at *; omega))) ?_ | refine oM ?_ ?_ | refine bM ?_ ?_ | refine draw_of Try.mixed Try.tyOk 60 (by kernel_rfl) ?_))
              · have hk := key (first.getD n 0) (by unfold initC; rw [if_pos ⟨by omega, by omega⟩])
                (conv => whnf)
                refine ⟨(n + 1, l.set n (first.getD n 0)), [], ⟨by rfl, ?_, ?_⟩, ⟨by omega, hk.1, hk.2⟩, by simp only; omega⟩
                · simp [eqFr, eqHp, eqV, eqA, eqC, eqO, eqCs, eqAs, look_cons, look, rn, EK.cast, EK.sz, eqCaps]
                · simp [eqFr, eqHp, eqV, eqA, eqC, eqO, eqCs, eqAs, look_cons, look, rn, EK.cast, EK.sz, eqCaps, fCells, EK.dflt, List.set_set]
              · have hk := key (-1) (by unfold initC; rw [if_neg (by omega)])
                (conv => whnf)
                refine ⟨(n + 1, l.set n (-1)), [], ⟨by rfl, ?_, ?_⟩, ⟨by omega, hk.1, hk.2⟩, by simp only; omega⟩
                · simp [eqFr, eqHp, eqV, eqA, eqC, eqO, eqCs, eqAs, look_cons, look, rn, EK.cast, EK.sz, eqCaps]
                · simp [eqFr, eqHp, eqV, eqA, eqC, eqO, eqCs, eqAs, look_cons, look, rn, EK.cast, EK.sz, eqCaps, fCells, EK.dflt]
              · have hk := key (-1) (by unfold initC; rw [if_neg (by omega)])
                (conv => whnf)
                refine ⟨(n + 1, l.set n (-1)), [], ⟨by rfl, ?_, ?_⟩, ⟨by omega, hk.1, hk.2⟩, by simp only; omega⟩
                · simp [eqFr, eqHp, eqV, eqA, eqC, eqO, eqCs, eqAs, look_cons, look, rn, EK.cast, EK.sz, eqCaps]
                · simp [eqFr, eqHp, eqV, eqA, eqC, eqO, eqCs, eqAs, look_cons, look, rn, EK.cast, EK.sz, eqCaps, fCells, EK.dflt]
            · have hnn : n = F.st.toNat := by omega
              subst hnn
              have hci : CInv F u v (srcS F first) i o 0 l := by
                refine ⟨hll, fun n hn hp => ?_, ?_, fun j a hj => absurd hj (by omega)⟩
                · rw [hini n hn] at hp ⊢
                  unfold initC at hp ⊢
                  by_cases e : i = 0 ∧ o = 0
                  · rw [if_pos e] at hp ⊢
                    exact .here ⟨by show (i : Int) = 0; omega, by show (o : Int) = 0; omega, ⟨by show (0 : Int) ≤ n; omega, by show (n : Int) < _; omega⟩, by simp only [Int.toNat_natCast], hp⟩
                  · rw [if_neg e] at hp; omega
                · rintro n c ⟨h1, h2, h3, h4, h5⟩
                  simp only at h1 h2 h3
                  rw [hini n (by omega)]
                  unfold initC
                  rw [if_pos ⟨by omega, by omega⟩]
                  simp only [Int.toNat_natCast] at h4
                  omega
              have hbd : ∀ x ∈ l, -1 ≤ x ∧ x ≤ bndD i o := by
                intro x hx
                obtain ⟨n, hn, rfl⟩ := List.getElem_of_mem hx
                have e : l[n] = l.getD n 0 := by simp [List.getD, hn]
                rw [e, hini n (by omega)]
                unfold initC bndD
                split
                · have := hfb _ (getD_mem first n 0 (by omega)); omega
                · omega
              clear hini
              repeat' (first | exact rfl | ((conv => whnf); first | ((first | refine qA (fun h => ?_) fun h => ?_ | refine qN (fun h => ?_) fun h => ?_ | refine qB (fun h => ?_) fun h => ?_ | refine qC (fun h => ?_) fun h => ?_) <;> try exact absurd h (by omega)) | refine qM (fun h => ?_) fun h => ?_ | refine oM (by (first | omega | (simp only [lenS, InI, nmin, EK.sz]; omega) | (simp only [lenS, InI, nmin, EK.sz] at *; omega))) ?_ | refine oM ?_ ?_ | refine bM ?_ ?_ | refine draw_of Try.mixed Try.tyOk 60 (by kernel_rfl) ?_))
              (conv => whnf)
              refine loopI (fun z : Nat × List Int => ⟨[(1, .c (.sl 2 1 0 first.length c1)), (2, .c (.sl 3 1 0 u.length cu)), (3, .c (.sl 4 1 0 v.length cv)), (4, .c (.ptr 5 0)), (9, .c (.sl 6 1 0 xs.length (xs.length + sp))), (10, .i i), (11, .c (.sl 9 1 0 ys.length (ys.length + sq))), (12, .i o), (13, .c (.sl 10 1 0 z.2.length z.2.length)), (15, .i z.1)], (10, .arr true 3 .int z.2 0) :: (9, .arr true 22 .sli ys sq) :: hpK F first u v xs sp m22 m3, 11⟩)
                (fun z => z.1 ≤ F.arcs.length ∧ CInv F u v (srcS F first) i o z.1 z.2 ∧ ∀ x ∈ z.2, -1 ≤ x ∧ x ≤ bndD i o) (fun z => F.arcs.length - z.1) (0, l) [] ⟨by rfl, ?_, ?_⟩ ⟨by omega, hci, hbd⟩ ?_
              · simp [eqFr, eqHp, eqV, eqA, eqC, eqO, eqCs, eqAs, look_cons, look, rn, EK.cast, EK.sz, eqCaps]
              · simp [eqFr, eqHp, eqV, eqA, eqC, eqO, eqCs, eqAs, look_cons, look, rn, EK.cast, EK.sz, eqCaps, fCells, EK.dflt]
              · clear hci hbd hll hn1
                rintro ⟨k, l⟩ ⟨hk1, hci, hbd⟩
                simp only at hk1 hci hbd ⊢
                have hll := hci.len
                (conv => whnf)
                refine condP_dec (fun hk => ?_) (fun hk => ?_)
                · have e0 : 0 + (k : Int).toNat = k := by omega
                  have ea : F.arcs.getD (0 + (k : Int).toNat) EK.arc.dflt = F.arcs.getD k EK.arc.dflt := by rw [e0]
                  have hka : F.arcs[k]? = some (F.arcs.getD k EK.arc.dflt) := by simp [List.getD, show k < F.arcs.length by omega]
                  have hao := hF.arc _ (getD_mem F.arcs k EK.arc.dflt (by omega))
                  rw [← ea] at hka hao
                  have hf0 := hao.f0
                  have hf1 := hao.f1
                  have ht0 := hao.t0
                  have ht1 := hao.t1
                  have hi0 := hao.i0
                  have ho0 := hao.o0
                  have hw0 := hao.w0
                  have hw1 := hao.w1
                  have eu : u.getD (0 + ((i : Int) - 1).toNat) EK.int.dflt = u.getD ((i : Int) - 1).toNat 0 := by rw [Nat.zero_add]; rfl
                  have ev : v.getD (0 + ((o : Int) - 1).toNat) EK.int.dflt = v.getD ((o : Int) - 1).toNat 0 := by rw [Nat.zero_add]; rfl
                  have hX : 1 ≤ i → (xs.getD (0 + ((i : Int) - 1).toNat) EK.sli.dflt).n = v.length + 1 ∧ (rowA m22 (xs.getD (0 + ((i : Int) - 1).toNat) EK.sli.dflt).a).length = v.length + 1 := by
                    intro h1
                    have g := htab.2 (i - 1) (by omega)
                    rw [show i - 1 = 0 + ((i : Int) - 1).toNat by omega] at g
                    have g2 := g.1.len
                    have g3 := g.2.1
                    omega
                  have hC1 : 1 ≤ i → 1 ≤ o → CellOk F u v (srcS F first) (bndC ((i : Int) - 1) ((o : Int) - 1)) ((i : Int) - 1) ((o : Int) - 1) (rowA m3 ((rowA m22 (xs.getD (0 + ((i : Int) - 1).toNat) EK.sli.dflt).a).getD ((o : Int) - 1).toNat EK.sli.dflt).a) ∧ ((rowA m22 (xs.getD (0 + ((i : Int) - 1).toNat) EK.sli.dflt).a).getD ((o : Int) - 1).toNat EK.sli.dflt).n = F.st.toNat := by
                    intro h1 h2
                    have g := (htab.2 (i - 1) (by omega)).2.2 (o - 1) (by omega)
                    rw [show i - 1 = 0 + ((i : Int) - 1).toNat by omega, show o - 1 = ((o : Int) - 1).toNat by omega] at g
                    obtain ⟨g1, g2⟩ := g
                    have g3 := g1.len
                    rw [g2.len] at g3
                    rw [show ((0 + ((i : Int) - 1).toNat : Nat) : Int) = (i : Int) - 1 by omega, show ((((o : Int) - 1).toNat : Nat) : Int) = (o : Int) - 1 by omega] at g2
                    exact ⟨g2, g3⟩
                  have hC2 : 1 ≤ i → CellOk F u v (srcS F first) (bndC ((i : Int) - 1) o) ((i : Int) - 1) o (rowA m3 ((rowA m22 (xs.getD (0 + ((i : Int) - 1).toNat) EK.sli.dflt).a).getD (o : Int).toNat EK.sli.dflt).a) ∧ ((rowA m22 (xs.getD (0 + ((i : Int) - 1).toNat) EK.sli.dflt).a).getD (o : Int).toNat EK.sli.dflt).n = F.st.toNat := by
                    intro h1
                    have g := (htab.2 (i - 1) (by omega)).2.2 o (by omega)
                    rw [show i - 1 = 0 + ((i : Int) - 1).toNat by omega] at g
                    obtain ⟨g1, g2⟩ := g
                    have g3 := g1.len
                    rw [g2.len] at g3
                    rw [show ((0 + ((i : Int) - 1).toNat : Nat) : Int) = (i : Int) - 1 by omega] at g2
                    rw [Int.toNat_natCast]
                    exact ⟨g2, g3⟩
                  have hC3 : 1 ≤ o → CellOk F u v (srcS F first) (bndC i ((o : Int) - 1)) i ((o : Int) - 1) (rowA m3 (ys.getD (0 + ((o : Int) - 1).toNat) EK.sli.dflt).a) ∧ (ys.getD (0 + ((o : Int) - 1).toNat) EK.sli.dflt).n = F.st.toNat := by
                    intro h1
                    have g := hrow.2 (o - 1) (by omega)
                    rw [show o - 1 = 0 + ((o : Int) - 1).toNat by omega] at g
                    obtain ⟨g1, g2⟩ := g
                    have g3 := g1.len
                    rw [g2.len] at g3
                    rw [show ((0 + ((o : Int) - 1).toNat : Nat) : Int) = (o : Int) - 1 by omega] at g2
                    exact ⟨g2, g3⟩
                  have hL1 : 1 ≤ i → 1 ≤ o → (rowA m3 ((rowA m22 (xs.getD (0 + ((i : Int) - 1).toNat) EK.sli.dflt).a).getD ((o : Int) - 1).toNat EK.sli.dflt).a).length = F.st.toNat ∧ ((rowA m22 (xs.getD (0 + ((i : Int) - 1).toNat) EK.sli.dflt).a).getD ((o : Int) - 1).toNat EK.sli.dflt).n = F.st.toNat := fun h1 h2 => ⟨(hC1 h1 h2).1.len, (hC1 h1 h2).2⟩
                  have hL2 : 1 ≤ i → (rowA m3 ((rowA m22 (xs.getD (0 + ((i : Int) - 1).toNat) EK.sli.dflt).a).getD (o : Int).toNat EK.sli.dflt).a).length = F.st.toNat ∧ ((rowA m22 (xs.getD (0 + ((i : Int) - 1).toNat) EK.sli.dflt).a).getD (o : Int).toNat EK.sli.dflt).n = F.st.toNat := fun h1 => ⟨(hC2 h1).1.len, (hC2 h1).2⟩
                  have hL3 : 1 ≤ o → (rowA m3 (ys.getD (0 + ((o : Int) - 1).toNat) EK.sli.dflt).a).length = F.st.toNat ∧ (ys.getD (0 + ((o : Int) - 1).toNat) EK.sli.dflt).n = F.st.toNat := fun h1 => ⟨(hC3 h1).1.len, (hC3 h1).2⟩
                  clear htab hrow
                  repeat' (first | exact rfl | ((conv => whnf); first | ((first | refine qA (fun h => ?_) fun h => ?_ | refine qN (fun h => ?_) fun h => ?_ | refine qB (fun h => ?_) fun h => ?_ | refine qC (fun h => ?_) fun h => ?_) <;> try exact absurd h (by omega)) | refine qM (fun h => ?_) fun h => ?_ | refine oM (by (first | omega | (simp only [lenS, InI, nmin, EK.sz]; omega) | (simp only [lenS, InI, nmin, EK.sz] at *; omega))) ?_ | refine oM ?_ ?_ | refine bM ?_ ?_ | refine draw_of Try.mixed Try.tyOk 60 (by kernel_rfl) ?_))
                  · (conv => whnf)
                    refine ⟨(k + 1, l), [], ⟨by rfl, ?_, ?_⟩, ⟨by simp only; omega, hci.pass hF hS hka (by omega), hbd⟩, by simp only; omega⟩
                    · simp [eqFr, eqHp, eqV, eqA, eqC, eqO, eqCs, eqAs, look_cons, look, rn, EK.cast, EK.sz, eqCaps]
                    · simp [eqFr, eqHp, eqV, eqA, eqC, eqO, eqCs, eqAs, look_cons, look, rn, EK.cast, EK.sz, eqCaps, fCells, EK.dflt]
                  · (conv => whnf)
                    refine ⟨(k + 1, l), [], ⟨by rfl, ?_, ?_⟩, ⟨by simp only; omega, hci.pass hF hS hka (by omega), hbd⟩, by simp only; omega⟩
                    · simp [eqFr, eqHp, eqV, eqA, eqC, eqO, eqCs, eqAs, look_cons, look, rn, EK.cast, EK.sz, eqCaps]
                    · simp [eqFr, eqHp, eqV, eqA, eqC, eqO, eqCs, eqAs, look_cons, look, rn, EK.cast, EK.sz, eqCaps, fCells, EK.dflt]
                  · (conv => whnf)
                    refine ⟨(k + 1, l), [], ⟨by rfl, ?_, ?_⟩, ⟨by simp only; omega, hci.pass hF hS hka (by omega), hbd⟩, by simp only; omega⟩
                    · simp [eqFr, eqHp, eqV, eqA, eqC, eqO, eqCs, eqAs, look_cons, look, rn, EK.cast, EK.sz, eqCaps]
                    · simp [eqFr, eqHp, eqV, eqA, eqC, eqO, eqCs, eqAs, look_cons, look, rn, EK.cast, EK.sz, eqCaps, fCells, EK.dflt]
                  · (conv => whnf)
                    refine ⟨(k + 1, l), [], ⟨by rfl, ?_, ?_⟩, ⟨by simp only; omega, hci.pass hF hS hka (by omega), hbd⟩, by simp only; omega⟩
                    · simp [eqFr, eqHp, eqV, eqA, eqC, eqO, eqCs, eqAs, look_cons, look, rn, EK.cast, EK.sz, eqCaps]
                    · simp [eqFr, eqHp, eqV, eqA, eqC, eqO, eqCs, eqAs, look_cons, look, rn, EK.cast, EK.sz, eqCaps, fCells, EK.dflt]
                  · have hcn := (hC1 (by omega) (by omega)).1.len
                    have hpb := (hC1 (by omega) (by omega)).1.bd _ (getD_mem _ (F.arcs.getD (0 + (k : Int).toNat) EK.arc.dflt).f.toNat 0 (by rw [hcn]; omega))
                    have hpi : InI ((rowA m3 ((rowA m22 (xs.getD (0 + ((i : Int) - 1).toNat) EK.sli.dflt).a).getD ((o : Int) - 1).toNat EK.sli.dflt).a).getD (F.arcs.getD (0 + (k : Int).toNat) EK.arc.dflt).f.toNat EK.int.dflt + (F.arcs.getD (0 + (k : Int).toNat) EK.arc.dflt).w) := by
                      have hpb2 : -1 ≤ (rowA m3 ((rowA m22 (xs.getD (0 + ((i : Int) - 1).toNat) EK.sli.dflt).a).getD ((o : Int) - 1).toNat EK.sli.dflt).a).getD (F.arcs.getD (0 + (k : Int).toNat) EK.arc.dflt).f.toNat EK.int.dflt ∧ (rowA m3 ((rowA m22 (xs.getD (0 + ((i : Int) - 1).toNat) EK.sli.dflt).a).getD ((o : Int) - 1).toNat EK.sli.dflt).a).getD (F.arcs.getD (0 + (k : Int).toNat) EK.arc.dflt).f.toNat EK.int.dflt ≤ bndC _ _ := hpb
                      unfold InI
                      unfold bndC at hpb2
                      omega
                    have hps := hci.pushB hF hbd hka (fun _ => ⟨by omega, by omega⟩) (fun _ => ⟨by omega, by omega⟩) (hC1 (by omega) (by omega)).1 (by rw [if_pos (by omega)]) (by rw [if_pos (by omega)]) (by unfold bndC bndD; omega)
                    (conv => whnf)
                    refine callI (plus_c ((rowA m3 ((rowA m22 (xs.getD (0 + ((i : Int) - 1).toNat) EK.sli.dflt).a).getD ((o : Int) - 1).toNat EK.sli.dflt).a).getD (F.arcs.getD (0 + (k : Int).toNat) EK.arc.dflt).f.toNat EK.int.dflt) (F.arcs.getD (0 + (k : Int).toNat) EK.arc.dflt).w hpi) [] Try.call67 rfl trivial (by simp [appN, ptrs, eqVL, eqV, eqA, eqC, eqCs, eqAs, eqCaps, EK.sz, rn, renOf, look_cons, look, arcV, fV]) (by simp [appN, ptrs, SV.lt, SA.lt, SC.lt, arcV, fV]) ?_
                    repeat' (first | exact rfl | ((conv => whnf); first | ((first | refine qA (fun h => ?_) fun h => ?_ | refine qN (fun h => ?_) fun h => ?_ | refine qB (fun h => ?_) fun h => ?_ | refine qC (fun h => ?_) fun h => ?_) <;> try exact absurd h (by omega)) | refine qM (fun h => ?_) fun h => ?_ | refine oM (by (first | omega | (simp only [lenS, InI, nmin, EK.sz]; omega) | (simp only [lenS, InI, nmin, EK.sz] at *; omega))) ?_ | refine oM ?_ ?_ | refine bM ?_ ?_ | refine draw_of Try.mixed Try.tyOk 60 (by kernel_rfl) ?_))
                    (conv => whnf)
                    refine callI (less_c (l.getD (0 + (F.arcs.getD (0 + (k : Int).toNat) EK.arc.dflt).t.toNat) EK.int.dflt) (plus ((rowA m3 ((rowA m22 (xs.getD (0 + ((i : Int) - 1).toNat) EK.sli.dflt).a).getD ((o : Int) - 1).toNat EK.sli.dflt).a).getD (F.arcs.getD (0 + (k : Int).toNat) EK.arc.dflt).f.toNat EK.int.dflt) (F.arcs.getD (0 + (k : Int).toNat) EK.arc.dflt).w)) [] Try.call42 rfl trivial (by simp [appN, ptrs, eqVL, eqV, eqA, eqC, eqCs, eqAs, eqCaps, EK.sz, rn, renOf, look_cons, look, arcV, fV]) (by simp [appN, ptrs, SV.lt, SA.lt, SC.lt, arcV, fV]) ?_
                    repeat' (first | exact rfl | ((conv => whnf); first | ((first | refine qA (fun h => ?_) fun h => ?_ | refine qN (fun h => ?_) fun h => ?_ | refine qB (fun h => ?_) fun h => ?_ | refine qC (fun h => ?_) fun h => ?_) <;> try exact absurd h (by omega)) | refine qM (fun h => ?_) fun h => ?_ | refine oM (by (first | omega | (simp only [lenS, InI, nmin, EK.sz]; omega) | (simp only [lenS, InI, nmin, EK.sz] at *; omega))) ?_ | refine oM ?_ ?_ | refine bM ?_ ?_ | refine draw_of Try.mixed Try.tyOk 60 (by kernel_rfl) ?_))
                    (conv => whnf)
                    refine ⟨(k + 1, l.set (0 + (F.arcs.getD (0 + (k : Int).toNat) EK.arc.dflt).t.toNat) (less (l.getD (0 + (F.arcs.getD (0 + (k : Int).toNat) EK.arc.dflt).t.toNat) EK.int.dflt) (plus ((rowA m3 ((rowA m22 (xs.getD (0 + ((i : Int) - 1).toNat) EK.sli.dflt).a).getD ((o : Int) - 1).toNat EK.sli.dflt).a).getD (F.arcs.getD (0 + (k : Int).toNat) EK.arc.dflt).f.toNat EK.int.dflt) (F.arcs.getD (0 + (k : Int).toNat) EK.arc.dflt).w))), [], ⟨by rfl, ?_, ?_⟩, ⟨by simp only; omega, ?_⟩, by simp only; omega⟩
                    · simp [eqFr, eqHp, eqV, eqA, eqC, eqO, eqCs, eqAs, look_cons, look, rn, EK.cast, EK.sz, eqCaps]
                    · simp [eqFr, eqHp, eqV, eqA, eqC, eqO, eqCs, eqAs, look_cons, look, rn, EK.cast, EK.sz, eqCaps, fCells, EK.dflt]
                    · simp only [Nat.zero_add] at hps ⊢
                      exact hps
                  · (conv => whnf)
                    refine ⟨(k + 1, l), [], ⟨by rfl, ?_, ?_⟩, ⟨by simp only; omega, hci.pass hF hS hka (by omega), hbd⟩, by simp only; omega⟩
                    · simp [eqFr, eqHp, eqV, eqA, eqC, eqO, eqCs, eqAs, look_cons, look, rn, EK.cast, EK.sz, eqCaps]
                    · simp [eqFr, eqHp, eqV, eqA, eqC, eqO, eqCs, eqAs, look_cons, look, rn, EK.cast, EK.sz, eqCaps, fCells, EK.dflt]
                  · (conv => whnf)
                    refine ⟨(k + 1, l), [], ⟨by rfl, ?_, ?_⟩, ⟨by simp only; omega, hci.pass hF hS hka (by omega), hbd⟩, by simp only; omega⟩
                    · simp [eqFr, eqHp, eqV, eqA, eqC, eqO, eqCs, eqAs, look_cons, look, rn, EK.cast, EK.sz, eqCaps]
                    · simp [eqFr, eqHp, eqV, eqA, eqC, eqO, eqCs, eqAs, look_cons, look, rn, EK.cast, EK.sz, eqCaps, fCells, EK.dflt]
                  · have hcn := (hC2 (by omega)).1.len
                    have hpb := (hC2 (by omega)).1.bd _ (getD_mem _ (F.arcs.getD (0 + (k : Int).toNat) EK.arc.dflt).f.toNat 0 (by rw [hcn]; omega))
                    have hpi : InI ((rowA m3 ((rowA m22 (xs.getD (0 + ((i : Int) - 1).toNat) EK.sli.dflt).a).getD (o : Int).toNat EK.sli.dflt).a).getD (F.arcs.getD (0 + (k : Int).toNat) EK.arc.dflt).f.toNat EK.int.dflt + (F.arcs.getD (0 + (k : Int).toNat) EK.arc.dflt).w) := by
                      have hpb2 : -1 ≤ (rowA m3 ((rowA m22 (xs.getD (0 + ((i : Int) - 1).toNat) EK.sli.dflt).a).getD (o : Int).toNat EK.sli.dflt).a).getD (F.arcs.getD (0 + (k : Int).toNat) EK.arc.dflt).f.toNat EK.int.dflt ∧ (rowA m3 ((rowA m22 (xs.getD (0 + ((i : Int) - 1).toNat) EK.sli.dflt).a).getD (o : Int).toNat EK.sli.dflt).a).getD (F.arcs.getD (0 + (k : Int).toNat) EK.arc.dflt).f.toNat EK.int.dflt ≤ bndC _ _ := hpb
                      unfold InI
                      unfold bndC at hpb2
                      omega
                    have hps := hci.pushB hF hbd hka (fun _ => ⟨by omega, by omega⟩) (fun _ => ⟨by omega, by omega⟩) (hC2 (by omega)).1 (by rw [if_pos (by omega)]) (by rw [if_neg (by omega)]) (by unfold bndC bndD; omega)
                    (conv => whnf)
                    refine callI (plus_c ((rowA m3 ((rowA m22 (xs.getD (0 + ((i : Int) - 1).toNat) EK.sli.dflt).a).getD (o : Int).toNat EK.sli.dflt).a).getD (F.arcs.getD (0 + (k : Int).toNat) EK.arc.dflt).f.toNat EK.int.dflt) (F.arcs.getD (0 + (k : Int).toNat) EK.arc.dflt).w hpi) [] Try.call67 rfl trivial (by simp [appN, ptrs, eqVL, eqV, eqA, eqC, eqCs, eqAs, eqCaps, EK.sz, rn, renOf, look_cons, look, arcV, fV]) (by simp [appN, ptrs, SV.lt, SA.lt, SC.lt, arcV, fV]) ?_
                    repeat' (first | exact rfl | ((conv => whnf); first | ((first | refine qA (fun h => ?_) fun h => ?_ | refine qN (fun h => ?_) fun h => ?_ | refine qB (fun h => ?_) fun h => ?_ | refine qC (fun h => ?_) fun h => ?_) <;> try exact absurd h (by omega)) | refine qM (fun h => ?_) fun h => ?_ | refine oM (by (first | omega | (simp only [lenS, InI, nmin, EK.sz]; omega) | (simp only [lenS, InI, nmin, EK.sz] at *; omega))) ?_ | refine oM ?_ ?_ | refine bM ?_ ?_ | refine draw_of Try.mixed Try.tyOk 60 (by kernel_rfl) ?_))
                    (conv => whnf)
                    refine callI (less_c (l.getD (0 + (F.arcs.getD (0 + (k : Int).toNat) EK.arc.dflt).t.toNat) EK.int.dflt) (plus ((rowA m3 ((rowA m22 (xs.getD (0 + ((i : Int) - 1).toNat) EK.sli.dflt).a).getD (o : Int).toNat EK.sli.dflt).a).getD (F.arcs.getD (0 + (k : Int).toNat) EK.arc.dflt).f.toNat EK.int.dflt) (F.arcs.getD (0 + (k : Int).toNat) EK.arc.dflt).w)) [] Try.call42 rfl trivial (by simp [appN, ptrs, eqVL, eqV, eqA, eqC, eqCs, eqAs, eqCaps, EK.sz, rn, renOf, look_cons, look, arcV, fV]) (by simp [appN, ptrs, SV.lt, SA.lt, SC.lt, arcV, fV]) ?_
                    repeat' (first | exact rfl | ((conv => whnf); first | ((first | refine qA (fun h => ?_) fun h => ?_ | refine qN (fun h => ?_) fun h => ?_ | refine qB (fun h => ?_) fun h => ?_ | refine qC (fun h => ?_) fun h => ?_) <;> try exact absurd h (by omega)) | refine qM (fun h => ?_) fun h => ?_ | refine oM (by (first | omega | (simp only [lenS, InI, nmin, EK.sz]; omega) | (simp only [lenS, InI, nmin, EK.sz] at *; omega))) ?_ | refine oM ?_ ?_ | refine bM ?_ ?_ | refine draw_of Try.mixed Try.tyOk 60 (by kernel_rfl) ?_))
                    (conv => whnf)
                    refine ⟨(k + 1, l.set (0 + (F.arcs.getD (0 + (k : Int).toNat) EK.arc.dflt).t.toNat) (less (l.getD (0 + (F.arcs.getD (0 + (k : Int).toNat) EK.arc.dflt).t.toNat) EK.int.dflt) (plus ((rowA m3 ((rowA m22 (xs.getD (0 + ((i : Int) - 1).toNat) EK.sli.dflt).a).getD (o : Int).toNat EK.sli.dflt).a).getD (F.arcs.getD (0 + (k : Int).toNat) EK.arc.dflt).f.toNat EK.int.dflt) (F.arcs.getD (0 + (k : Int).toNat) EK.arc.dflt).w))), [], ⟨by rfl, ?_, ?_⟩, ⟨by simp only; omega, ?_⟩, by simp only; omega⟩
                    · simp [eqFr, eqHp, eqV, eqA, eqC, eqO, eqCs, eqAs, look_cons, look, rn, EK.cast, EK.sz, eqCaps]
                    · simp [eqFr, eqHp, eqV, eqA, eqC, eqO, eqCs, eqAs, look_cons, look, rn, EK.cast, EK.sz, eqCaps, fCells, EK.dflt]
                    · simp only [Nat.zero_add] at hps ⊢
                      exact hps
                  · (conv => whnf)
                    refine ⟨(k + 1, l), [], ⟨by rfl, ?_, ?_⟩, ⟨by simp only; omega, hci.pass hF hS hka (by omega), hbd⟩, by simp only; omega⟩
                    · simp [eqFr, eqHp, eqV, eqA, eqC, eqO, eqCs, eqAs, look_cons, look, rn, EK.cast, EK.sz, eqCaps]
                    · simp [eqFr, eqHp, eqV, eqA, eqC, eqO, eqCs, eqAs, look_cons, look, rn, EK.cast, EK.sz, eqCaps, fCells, EK.dflt]
                  · (conv => whnf)
                    refine ⟨(k + 1, l), [], ⟨by rfl, ?_, ?_⟩, ⟨by simp only; omega, hci.pass hF hS hka (by omega), hbd⟩, by simp only; omega⟩
                    · simp [eqFr, eqHp, eqV, eqA, eqC, eqO, eqCs, eqAs, look_cons, look, rn, EK.cast, EK.sz, eqCaps]
                    · simp [eqFr, eqHp, eqV, eqA, eqC, eqO, eqCs, eqAs, look_cons, look, rn, EK.cast, EK.sz, eqCaps, fCells, EK.dflt]
                  · have hcn := (hC3 (by omega)).1.len
                    have hpb := (hC3 (by omega)).1.bd _ (getD_mem _ (F.arcs.getD (0 + (k : Int).toNat) EK.arc.dflt).f.toNat 0 (by rw [hcn]; omega))
                    have hpi : InI ((rowA m3 (ys.getD (0 + ((o : Int) - 1).toNat) EK.sli.dflt).a).getD (F.arcs.getD (0 + (k : Int).toNat) EK.arc.dflt).f.toNat EK.int.dflt + (F.arcs.getD (0 + (k : Int).toNat) EK.arc.dflt).w) := by
                      have hpb2 : -1 ≤ (rowA m3 (ys.getD (0 + ((o : Int) - 1).toNat) EK.sli.dflt).a).getD (F.arcs.getD (0 + (k : Int).toNat) EK.arc.dflt).f.toNat EK.int.dflt ∧ (rowA m3 (ys.getD (0 + ((o : Int) - 1).toNat) EK.sli.dflt).a).getD (F.arcs.getD (0 + (k : Int).toNat) EK.arc.dflt).f.toNat EK.int.dflt ≤ bndC _ _ := hpb
                      unfold InI
                      unfold bndC at hpb2
                      omega
                    have hps := hci.pushB hF hbd hka (fun _ => ⟨by omega, by omega⟩) (fun _ => ⟨by omega, by omega⟩) (hC3 (by omega)).1 (by rw [if_neg (by omega)]) (by rw [if_pos (by omega)]) (by unfold bndC bndD; omega)
                    (conv => whnf)
                    refine callI (plus_c ((rowA m3 (ys.getD (0 + ((o : Int) - 1).toNat) EK.sli.dflt).a).getD (F.arcs.getD (0 + (k : Int).toNat) EK.arc.dflt).f.toNat EK.int.dflt) (F.arcs.getD (0 + (k : Int).toNat) EK.arc.dflt).w hpi) [] Try.call67 rfl trivial (by simp [appN, ptrs, eqVL, eqV, eqA, eqC, eqCs, eqAs, eqCaps, EK.sz, rn, renOf, look_cons, look, arcV, fV]) (by simp [appN, ptrs, SV.lt, SA.lt, SC.lt, arcV, fV]) ?_
                    repeat' (first | exact rfl | ((conv => whnf); first | ((first | refine qA (fun h => ?_) fun h => ?_ | refine qN (fun h => ?_) fun h => ?_ | refine qB (fun h => ?_) fun h => ?_ | refine qC (fun h => ?_) fun h => ?_) <;> try exact absurd h (by omega)) | refine qM (fun h => ?_) fun h => ?_ | refine oM (by (first | omega | (simp only [lenS, InI, nmin, EK.sz]; omega) | (simp only [lenS, InI, nmin, EK.sz] at *; omega))) ?_ | refine oM ?_ ?_ | refine bM ?_ ?_ | refine draw_of Try.mixed Try.tyOk 60 (by kernel_rfl) ?_))
                    (conv => whnf)
                    refine callI (less_c (l.getD (0 + (F.arcs.getD (0 + (k : Int).toNat) EK.arc.dflt).t.toNat) EK.int.dflt) (plus ((rowA m3 (ys.getD (0 + ((o : Int) - 1).toNat) EK.sli.dflt).a).getD (F.arcs.getD (0 + (k : Int).toNat) EK.arc.dflt).f.toNat EK.int.dflt) (F.arcs.getD (0 + (k : Int).toNat) EK.arc.dflt).w)) [] Try.call42 rfl trivial (by simp [appN, ptrs, eqVL, eqV, eqA, eqC, eqCs, eqAs, eqCaps, EK.sz, rn, renOf, look_cons, look, arcV, fV]) (by simp [appN, ptrs, SV.lt, SA.lt, SC.lt, arcV, fV]) ?_
                    repeat' (first | exact rfl | ((conv => whnf); first | ((first | refine qA (fun h => ?_) fun h => ?_ | refine qN (fun h => ?_) fun h => ?_ | refine qB (fun h => ?_) fun h => ?_ | refine qC (fun h => ?_) fun h => ?_) <;> try exact absurd h (by omega)) | refine qM (fun h => ?_) fun h => ?_ | refine oM (by (first | omega | (simp only [lenS, InI, nmin, EK.sz]; omega) | (simp only [lenS, InI, nmin, EK.sz] at *; omega))) ?_ | refine oM ?_ ?_ | refine bM ?_ ?_ | refine draw_of Try.mixed Try.tyOk 60 (by kernel_rfl) ?_))
                    (conv => whnf)
                    refine ⟨(k + 1, l.set (0 + (F.arcs.getD (0 + (k : Int).toNat) EK.arc.dflt).t.toNat) (less (l.getD (0 + (F.arcs.getD (0 + (k : Int).toNat) EK.arc.dflt).t.toNat) EK.int.dflt) (plus ((rowA m3 (ys.getD (0 + ((o : Int) - 1).toNat) EK.sli.dflt).a).getD (F.arcs.getD (0 + (k : Int).toNat) EK.arc.dflt).f.toNat EK.int.dflt) (F.arcs.getD (0 + (k : Int).toNat) EK.arc.dflt).w))), [], ⟨by rfl, ?_, ?_⟩, ⟨by simp only; omega, ?_⟩, by simp only; omega⟩
                    · simp [eqFr, eqHp, eqV, eqA, eqC, eqO, eqCs, eqAs, look_cons, look, rn, EK.cast, EK.sz, eqCaps]
                    · simp [eqFr, eqHp, eqV, eqA, eqC, eqO, eqCs, eqAs, look_cons, look, rn, EK.cast, EK.sz, eqCaps, fCells, EK.dflt]
                    · simp only [Nat.zero_add] at hps ⊢
                      exact hps
                  · (conv => whnf)
                    refine ⟨(k + 1, l), [], ⟨by rfl, ?_, ?_⟩, ⟨by simp only; omega, hci.pass hF hS hka (by omega), hbd⟩, by simp only; omega⟩
                    · simp [eqFr, eqHp, eqV, eqA, eqC, eqO, eqCs, eqAs, look_cons, look, rn, EK.cast, EK.sz, eqCaps]
                    · simp [eqFr, eqHp, eqV, eqA, eqC, eqO, eqCs, eqAs, look_cons, look, rn, EK.cast, EK.sz, eqCaps, fCells, EK.dflt]
                · have hkk : k = F.arcs.length := by omega
                  subst hkk
                  repeat' (first | exact rfl | ((conv => whnf); first | ((first | refine qA (fun h => ?_) fun h => ?_ | refine qN (fun h => ?_) fun h => ?_ | refine qB (fun h => ?_) fun h => ?_ | refine qC (fun h => ?_) fun h => ?_) <;> try exact absurd h (by omega)) | refine qM (fun h => ?_) fun h => ?_ | refine oM (by (first | omega | (simp only [lenS, InI, nmin, EK.sz]; omega) | (simp only [lenS, InI, nmin, EK.sz] at *; omega))) ?_ | refine oM ?_ ?_ | refine bM ?_ ?_ | refine draw_of Try.mixed Try.tyOk 60 (by kernel_rfl) ?_))
                  (conv => whnf)
                  refine loopI (fun z : List Int × Bool => ⟨[(1, .c (.sl 2 1 0 first.length c1)), (2, .c (.sl 3 1 0 u.length cu)), (3, .c (.sl 4 1 0 v.length cv)), (4, .c (.ptr 5 0)), (9, .c (.sl 6 1 0 xs.length (xs.length + sp))), (10, .i i), (11, .c (.sl 9 1 0 ys.length (ys.length + sq))), (12, .i o), (13, .c (.sl 10 1 0 z.1.length z.1.length)), (20, .b z.2)], (10, .arr true 3 .int z.1 0) :: (9, .arr true 22 .sli ys sq) :: hpK F first u v xs sp m22 m3, 11⟩)
                    (fun z => CInv F u v (srcS F first) i o F.arcs.length z.1 ∧ (∀ x ∈ z.1, -1 ≤ x ∧ x ≤ bndD i o + 1000000000 * told z.1) ∧ (z.2 = false → Still F F.arcs.length z.1)) (fun z => 2 * pot z.1 + z.2.toNat) (l, true) [] ⟨by rfl, ?_, ?_⟩ ⟨hci, fun x hx => ⟨(hbd x hx).1, by have := (hbd x hx).2; omega⟩, fun h => by cases h⟩ ?_
                  · simp [eqFr, eqHp, eqV, eqA, eqC, eqO, eqCs, eqAs, look_cons, look, rn, EK.cast, EK.sz, eqCaps]
                  · simp [eqFr, eqHp, eqV, eqA, eqC, eqO, eqCs, eqAs, look_cons, look, rn, EK.cast, EK.sz, eqCaps, fCells, EK.dflt]
                  · clear hci hbd hll hk hk1
                    rintro ⟨l, ch⟩ ⟨hci, hbd, hsl⟩
                    simp only at hci hbd hsl ⊢
                    cases ch with
                    | false =>
                      have htl := told_le l
                      have hll := hci.len
                      have hcell := (hci.done hF (hsl rfl) (B := bndD i o + 1000000000 * told l) hbd).weak (B' := bndC i o) (by unfold bndC bndD; omega)
                      repeat' (first | exact rfl | ((conv => whnf); first | ((first | refine qA (fun h => ?_) fun h => ?_ | refine qN (fun h => ?_) fun h => ?_ | refine qB (fun h => ?_) fun h => ?_ | refine qC (fun h => ?_) fun h => ?_) <;> try exact absurd h (by omega)) | refine qM (fun h => ?_) fun h => ?_ | refine oM (by (first | omega | (simp only [lenS, InI, nmin, EK.sz]; omega) | (simp only [lenS, InI, nmin, EK.sz] at *; omega))) ?_ | refine oM ?_ ?_ | refine bM ?_ ?_ | refine draw_of Try.mixed Try.tyOk 60 (by kernel_rfl) ?_))
                      (conv => whnf)
                      intro m' y hfrz
                      cases hfrz with
                      | nil h => rw [h] at hll; simp only [List.length_nil] at hll; omega
                      | @own a ha hb =>
                        have hla : lkA ((a, l, 0) :: m3) a = some (l, 0) := by simp [lkA]
                        have hy : CellAt F u v first ((a, l, 0) :: m3) ⟨some a, l.length, l.length⟩ i o := ⟨Hd.of_some rfl hla rfl (Nat.le_refl _), by rw [rowA_some hla]; exact hcell⟩
                        repeat' (first | exact rfl | ((conv => whnf); first | ((first | refine qA (fun h => ?_) fun h => ?_ | refine qN (fun h => ?_) fun h => ?_ | refine qB (fun h => ?_) fun h => ?_ | refine qC (fun h => ?_) fun h => ?_) <;> try exact absurd h (by omega)) | refine qM (fun h => ?_) fun h => ?_ | refine oM (by (first | omega | (simp only [lenS, InI, nmin, EK.sz]; omega) | (simp only [lenS, InI, nmin, EK.sz] at *; omega))) ?_ | refine oM ?_ ?_ | refine bM ?_ ?_ | refine draw_of Try.mixed Try.tyOk 60 (by kernel_rfl) ?_))
                        intro sp2
                        repeat' (first | exact rfl | ((conv => whnf); first | ((first | refine qA (fun h => ?_) fun h => ?_ | refine qN (fun h => ?_) fun h => ?_ | refine qB (fun h => ?_) fun h => ?_ | refine qC (fun h => ?_) fun h => ?_) <;> try exact absurd h (by omega)) | refine qM (fun h => ?_) fun h => ?_ | refine oM (by (first | omega | (simp only [lenS, InI, nmin, EK.sz]; omega) | (simp only [lenS, InI, nmin, EK.sz] at *; omega))) ?_ | refine oM ?_ ?_ | refine bM ?_ ?_ | refine draw_of Try.mixed Try.tyOk 60 (by kernel_rfl) ?_))
                        (conv => whnf)
                        refine ⟨(o + 1, ys ++ [⟨some a, l.length, l.length⟩], sp2, (a, l, 0) :: m3), [(9, some 12)], ⟨by rfl, ?_, ?_⟩, ⟨by simp only; omega, htab.cons ha _, (hrow.cons ha _).snoc hy⟩, by simp only; omega⟩
                        · simp [eqFr, eqHp, eqV, eqA, eqC, eqO, eqCs, eqAs, look_cons, look, rn, EK.cast, EK.sz, eqCaps]
                        · simp [eqFr, eqHp, eqV, eqA, eqC, eqO, eqCs, eqAs, look_cons, look, rn, EK.cast, EK.sz, eqCaps, fCells]
                          exact (app_one ys _ _ rfl).symm
                    | true =>
                      repeat' (first | exact rfl | ((conv => whnf); first | ((first | refine qA (fun h => ?_) fun h => ?_ | refine qN (fun h => ?_) fun h => ?_ | refine qB (fun h => ?_) fun h => ?_ | refine qC (fun h => ?_) fun h => ?_) <;> try exact absurd h (by omega)) | refine qM (fun h => ?_) fun h => ?_ | refine oM (by (first | omega | (simp only [lenS, InI, nmin, EK.sz]; omega) | (simp only [lenS, InI, nmin, EK.sz] at *; omega))) ?_ | refine oM ?_ ?_ | refine bM ?_ ?_ | refine draw_of Try.mixed Try.tyOk 60 (by kernel_rfl) ?_))
                      (conv => whnf)
                      refine loopI (fun z : List Int × Bool × Nat => ⟨[(1, .c (.sl 2 1 0 first.length c1)), (2, .c (.sl 3 1 0 u.length cu)), (3, .c (.sl 4 1 0 v.length cv)), (4, .c (.ptr 5 0)), (9, .c (.sl 6 1 0 xs.length (xs.length + sp))), (10, .i i), (11, .c (.sl 9 1 0 ys.length (ys.length + sq))), (12, .i o), (13, .c (.sl 10 1 0 z.1.length z.1.length)), (20, .b z.2.1), (21, .i z.2.2)], (10, .arr true 3 .int z.1 0) :: (9, .arr true 22 .sli ys sq) :: hpK F first u v xs sp m22 m3, 11⟩)
                        (fun z => z.2.2 ≤ F.arcs.length ∧ CInv F u v (srcS F first) i o F.arcs.length z.1 ∧ (∀ x ∈ z.1, -1 ≤ x ∧ x ≤ bndD i o + 1000000000 * told z.1) ∧ ((z.2.1 = false ∧ z.1 = l ∧ Still F z.2.2 z.1) ∨ (z.2.1 = true ∧ pot z.1 < pot l))) (fun z => F.arcs.length - z.2.2) (l, false, 0) [] ⟨by rfl, ?_, ?_⟩ ⟨Nat.zero_le _, hci, hbd, .inl ⟨rfl, rfl, fun j a hj => absurd hj (Nat.not_lt_zero _)⟩⟩ ?_
                      · simp [eqFr, eqHp, eqV, eqA, eqC, eqO, eqCs, eqAs, look_cons, look, rn, EK.cast, EK.sz, eqCaps]
                      · simp [eqFr, eqHp, eqV, eqA, eqC, eqO, eqCs, eqAs, look_cons, look, rn, EK.cast, EK.sz, eqCaps, fCells, EK.dflt]
                      · clear hci hbd hsl
                        generalize hl0 : l = l0
                        clear hl0 l
                        rintro ⟨l, ch, k⟩ ⟨hk1, hci, hbd, hch⟩
                        simp only at hk1 hci hbd hch ⊢
                        have hll := hci.len
                        have htl := told_le l
                        (conv => whnf)
                        refine condP_dec (fun hk => ?_) (fun hk => ?_)
                        · have e0 : 0 + (k : Int).toNat = k := by omega
                          have ea : F.arcs.getD (0 + (k : Int).toNat) EK.arc.dflt = F.arcs.getD k EK.arc.dflt := by rw [e0]
                          have hka : F.arcs[k]? = some (F.arcs.getD k EK.arc.dflt) := by simp [List.getD, show k < F.arcs.length by omega]
                          have hao := hF.arc _ (getD_mem F.arcs k EK.arc.dflt (by omega))
                          rw [← ea] at hka hao
                          have hf0 := hao.f0
                          have hf1 := hao.f1
                          have ht0 := hao.t0
                          have ht1 := hao.t1
                          have hw0 := hao.w0
                          have hw1 := hao.w1
                          have hpi : InI (l.getD (0 + (F.arcs.getD (0 + (k : Int).toNat) EK.arc.dflt).f.toNat) EK.int.dflt + (F.arcs.getD (0 + (k : Int).toNat) EK.arc.dflt).w) := by
                            have hb2 : -1 ≤ l.getD (F.arcs.getD (0 + (k : Int).toNat) EK.arc.dflt).f.toNat EK.int.dflt ∧ l.getD (F.arcs.getD (0 + (k : Int).toNat) EK.arc.dflt).f.toNat EK.int.dflt ≤ bndD i o + 1000000000 * told l := hbd _ (getD_mem l (F.arcs.getD (0 + (k : Int).toNat) EK.arc.dflt).f.toNat 0 (by omega))
                            rw [Nat.zero_add]
                            unfold InI
                            unfold bndD at hb2
                            omega
                          repeat' (first | exact rfl | ((conv => whnf); first | ((first | refine qA (fun h => ?_) fun h => ?_ | refine qN (fun h => ?_) fun h => ?_ | refine qB (fun h => ?_) fun h => ?_ | refine qC (fun h => ?_) fun h => ?_) <;> try exact absurd h (by omega)) | refine qM (fun h => ?_) fun h => ?_ | refine oM (by (first | omega | (simp only [lenS, InI, nmin, EK.sz]; omega) | (simp only [lenS, InI, nmin, EK.sz] at *; omega))) ?_ | refine oM ?_ ?_ | refine bM ?_ ?_ | refine draw_of Try.mixed Try.tyOk 60 (by kernel_rfl) ?_))
                          (conv => whnf)
                          refine callI (plus_c (l.getD (0 + (F.arcs.getD (0 + (k : Int).toNat) EK.arc.dflt).f.toNat) EK.int.dflt) (F.arcs.getD (0 + (k : Int).toNat) EK.arc.dflt).w hpi) [] Try.call67 rfl trivial (by simp [appN, ptrs, eqVL, eqV, eqA, eqC, eqCs, eqAs, eqCaps, EK.sz, rn, renOf, look_cons, look, arcV, fV]) (by simp [appN, ptrs, SV.lt, SA.lt, SC.lt, arcV, fV]) ?_
                          repeat' (first | exact rfl | ((conv => whnf); first | ((first | refine qA (fun h => ?_) fun h => ?_ | refine qN (fun h => ?_) fun h => ?_ | refine qB (fun h => ?_) fun h => ?_ | refine qC (fun h => ?_) fun h => ?_) <;> try exact absurd h (by omega)) | refine qM (fun h => ?_) fun h => ?_ | refine oM (by (first | omega | (simp only [lenS, InI, nmin, EK.sz]; omega) | (simp only [lenS, InI, nmin, EK.sz] at *; omega))) ?_ | refine oM ?_ ?_ | refine bM ?_ ?_ | refine draw_of Try.mixed Try.tyOk 60 (by kernel_rfl) ?_))
                          (conv => whnf)
                          refine callI (less_c (l.getD (0 + (F.arcs.getD (0 + (k : Int).toNat) EK.arc.dflt).t.toNat) EK.int.dflt) (plus (l.getD (0 + (F.arcs.getD (0 + (k : Int).toNat) EK.arc.dflt).f.toNat) EK.int.dflt) (F.arcs.getD (0 + (k : Int).toNat) EK.arc.dflt).w)) [] Try.call42 rfl trivial (by simp [appN, ptrs, eqVL, eqV, eqA, eqC, eqCs, eqAs, eqCaps, EK.sz, rn, renOf, look_cons, look, arcV, fV]) (by simp [appN, ptrs, SV.lt, SA.lt, SC.lt, arcV, fV]) ?_
                          have hi0 := hao.i0
                          have ho0 := hao.o0
                          have e1 : l.getD (0 + (F.arcs.getD (0 + (k : Int).toNat) EK.arc.dflt).t.toNat) EK.int.dflt = l.getD (F.arcs.getD (0 + (k : Int).toNat) EK.arc.dflt).t.toNat 0 := by rw [Nat.zero_add]; rfl
                          have e2 : l.getD (0 + (F.arcs.getD (0 + (k : Int).toNat) EK.arc.dflt).f.toNat) EK.int.dflt = l.getD (F.arcs.getD (0 + (k : Int).toNat) EK.arc.dflt).f.toNat 0 := by rw [Nat.zero_add]; rfl
                          repeat' (first | exact rfl | ((conv => whnf); first | ((first | refine qA (fun h => ?_) fun h => ?_ | refine qN (fun h => ?_) fun h => ?_ | refine qB (fun h => ?_) fun h => ?_ | refine qC (fun h => ?_) fun h => ?_) <;> try exact absurd h (by omega)) | refine qM (fun h => ?_) fun h => ?_ | refine oM (by (first | omega | (simp only [lenS, InI, nmin, EK.sz]; omega) | (simp only [lenS, InI, nmin, EK.sz] at *; omega))) ?_ | refine oM ?_ ?_ | refine bM ?_ ?_ | refine draw_of Try.mixed Try.tyOk 60 (by kernel_rfl) ?_))
                          · rename_i hsil
                            rw [e1, e2] at h
                            have hs := hci.silent hF hbd ⟨by unfold bndD; omega, by unfold bndD; omega⟩ hka hsil h
                            (conv => whnf)
                            refine ⟨(l.set (F.arcs.getD (0 + (k : Int).toNat) EK.arc.dflt).t.toNat (less (l.getD (F.arcs.getD (0 + (k : Int).toNat) EK.arc.dflt).t.toNat 0) (plus (l.getD (F.arcs.getD (0 + (k : Int).toNat) EK.arc.dflt).f.toNat 0) (F.arcs.getD (0 + (k : Int).toNat) EK.arc.dflt).w)), true, k + 1), [], ⟨by rfl, ?_, ?_⟩, ⟨by simp only; omega, hs.1, hs.2.1, .inr ⟨rfl, ?_⟩⟩, by simp only; omega⟩
                            · simp [eqFr, eqHp, eqV, eqA, eqC, eqO, eqCs, eqAs, look_cons, look, rn, EK.cast, EK.sz, eqCaps]
                            · simp [eqFr, eqHp, eqV, eqA, eqC, eqO, eqCs, eqAs, look_cons, look, rn, EK.cast, EK.sz, eqCaps, fCells, EK.dflt]
                            · have := hs.2.2
                              rcases hch with ⟨_, rfl, _⟩ | ⟨_, hpt⟩
                              · exact this
                              · exact Nat.lt_trans this hpt
                          · rw [e1, e2] at h
                            have hst3 : ch = false → Still F k l → Still F (k + 1) l := fun _ hs => hs.next (fun b hb _ => by
                              rw [hka] at hb
                              cases hb
                              exact h)
                            (conv => whnf)
                            refine ⟨(l, ch, k + 1), [], ⟨by rfl, ?_, ?_⟩, ⟨by simp only; omega, hci, hbd, ?_⟩, by simp only; omega⟩
                            · simp [eqFr, eqHp, eqV, eqA, eqC, eqO, eqCs, eqAs, look_cons, look, rn, EK.cast, EK.sz, eqCaps]
                            · simp [eqFr, eqHp, eqV, eqA, eqC, eqO, eqCs, eqAs, look_cons, look, rn, EK.cast, EK.sz, eqCaps, fCells, EK.dflt]
                            · rcases hch with ⟨q1, q2, q3⟩ | q
                              · exact .inl ⟨q1, q2, hst3 q1 q3⟩
                              · exact .inr q
                          · have hst3 : ch = false → Still F k l → Still F (k + 1) l := fun _ hs => hs.next (fun b hb hsil => by
                              rw [hka] at hb
                              cases hb
                              exact absurd hsil h)
                            (conv => whnf)
                            refine ⟨(l, ch, k + 1), [], ⟨by rfl, ?_, ?_⟩, ⟨by simp only; omega, hci, hbd, ?_⟩, by simp only; omega⟩
                            · simp [eqFr, eqHp, eqV, eqA, eqC, eqO, eqCs, eqAs, look_cons, look, rn, EK.cast, EK.sz, eqCaps]
                            · simp [eqFr, eqHp, eqV, eqA, eqC, eqO, eqCs, eqAs, look_cons, look, rn, EK.cast, EK.sz, eqCaps, fCells, EK.dflt]
                            · rcases hch with ⟨q1, q2, q3⟩ | q
                              · exact .inl ⟨q1, q2, hst3 q1 q3⟩
                              · exact .inr q
                        · have hkk : k = F.arcs.length := by omega
                          subst hkk
                          repeat' (first | exact rfl | ((conv => whnf); first | ((first | refine qA (fun h => ?_) fun h => ?_ | refine qN (fun h => ?_) fun h => ?_ | refine qB (fun h => ?_) fun h => ?_ | refine qC (fun h => ?_) fun h => ?_) <;> try exact absurd h (by omega)) | refine qM (fun h => ?_) fun h => ?_ | refine oM (by (first | omega | (simp only [lenS, InI, nmin, EK.sz]; omega) | (simp only [lenS, InI, nmin, EK.sz] at *; omega))) ?_ | refine oM ?_ ?_ | refine bM ?_ ?_ | refine draw_of Try.mixed Try.tyOk 60 (by kernel_rfl) ?_))
                          (conv => whnf)
                          rcases hch with ⟨rfl, rfl, hst2⟩ | ⟨rfl, hpt⟩
                          · refine ⟨(l, false), [], ⟨by rfl, ?_, ?_⟩, ⟨hci, hbd, fun _ => hst2⟩, by simp⟩
                            · simp [eqFr, eqHp, eqV, eqA, eqC, eqO, eqCs, eqAs, look_cons, look, rn, EK.cast, EK.sz, eqCaps]
                            · simp [eqFr, eqHp, eqV, eqA, eqC, eqO, eqCs, eqAs, look_cons, look, rn, EK.cast, EK.sz, eqCaps, fCells, EK.dflt]
                          · refine ⟨(l, true), [], ⟨by rfl, ?_, ?_⟩, ⟨hci, hbd, fun h => by cases h⟩, by simp; omega⟩
                            · simp [eqFr, eqHp, eqV, eqA, eqC, eqO, eqCs, eqAs, look_cons, look, rn, EK.cast, EK.sz, eqCaps]
                            · simp [eqFr, eqHp, eqV, eqA, eqC, eqO, eqCs, eqAs, look_cons, look, rn, EK.cast, EK.sz, eqCaps, fCells, EK.dflt]
        · have hoo : o = v.length + 1 := by omega
          subst hoo
          repeat' (first | exact rfl | ((conv => whnf); first | ((first | refine qA (fun h => ?_) fun h => ?_ | refine qN (fun h => ?_) fun h => ?_ | refine qB (fun h => ?_) fun h => ?_ | refine qC (fun h => ?_) fun h => ?_) <;> try exact absurd h (by omega)) | refine qM (fun h => ?_) fun h => ?_ | refine oM (by (first | omega | (simp only [lenS, InI, nmin, EK.sz]; omega) | (simp only [lenS, InI, nmin, EK.sz] at *; omega))) ?_ | refine oM ?_ ?_ | refine bM ?_ ?_ | refine draw_of Try.mixed Try.tyOk 60 (by kernel_rfl) ?_))
          (conv => whnf)
          intro m' y hfrz
          cases hfrz with
          | nil h => rw [h] at hyl; simp only [List.length_nil] at hyl; omega
          | @own a ha hb =>
            have hnew := htab.snoc hrow (a := a) (sp := sq) (cap := ys.length + sq) ha (Nat.le_refl _)
            repeat' (first | exact rfl | ((conv => whnf); first | ((first | refine qA (fun h => ?_) fun h => ?_ | refine qN (fun h => ?_) fun h => ?_ | refine qB (fun h => ?_) fun h => ?_ | refine qC (fun h => ?_) fun h => ?_) <;> try exact absurd h (by omega)) | refine qM (fun h => ?_) fun h => ?_ | refine oM (by (first | omega | (simp only [lenS, InI, nmin, EK.sz]; omega) | (simp only [lenS, InI, nmin, EK.sz] at *; omega))) ?_ | refine oM ?_ ?_ | refine bM ?_ ?_ | refine draw_of Try.mixed Try.tyOk 60 (by kernel_rfl) ?_))
            intro sp2
            repeat' (first | exact rfl | ((conv => whnf); first | ((first | refine qA (fun h => ?_) fun h => ?_ | refine qN (fun h => ?_) fun h => ?_ | refine qB (fun h => ?_) fun h => ?_ | refine qC (fun h => ?_) fun h => ?_) <;> try exact absurd h (by omega)) | refine qM (fun h => ?_) fun h => ?_ | refine oM (by (first | omega | (simp only [lenS, InI, nmin, EK.sz]; omega) | (simp only [lenS, InI, nmin, EK.sz] at *; omega))) ?_ | refine oM ?_ ?_ | refine bM ?_ ?_ | refine draw_of Try.mixed Try.tyOk 60 (by kernel_rfl) ?_))
            (conv => whnf)
            refine ⟨(i + 1, xs ++ [⟨some a, ys.length, ys.length + sq⟩], sp2, (a, ys, sq) :: m22, m3), [(6, some 11)], ⟨by rfl, ?_, ?_⟩, ⟨by simp only; omega, hnew⟩, by simp only; omega⟩
            · simp [eqFr, eqHp, eqV, eqA, eqC, eqO, eqCs, eqAs, look_cons, look, rn, EK.cast, EK.sz, eqCaps]
            · simp [eqFr, eqHp, eqV, eqA, eqC, eqO, eqCs, eqAs, look_cons, look, rn, EK.cast, EK.sz, eqCaps, fCells]
              exact (app_one xs _ _ rfl).symm
    · have hii : i = u.length + 1 := by omega
      subst hii
      repeat' (first | exact rfl | ((conv => whnf); first | ((first | refine qA (fun h => ?_) fun h => ?_ | refine qN (fun h => ?_) fun h => ?_ | refine qB (fun h => ?_) fun h => ?_ | refine qC (fun h => ?_) fun h => ?_) <;> try exact absurd h (by omega)) | refine qM (fun h => ?_) fun h => ?_ | refine oM (by (first | omega | (simp only [lenS, InI, nmin, EK.sz]; omega) | (simp only [lenS, InI, nmin, EK.sz] at *; omega))) ?_ | refine oM ?_ ?_ | refine bM ?_ ?_ | refine draw_of Try.mixed Try.tyOk 60 (by kernel_rfl) ?_))
      (conv => whnf)
      exact ⟨[(5, some 6), (6, some 7), (7, some 8)], [(5, .arr true 75 .sli xs sp), (6, .pool 22 .sli m22), (7, .pool 3 .int m3)], 8, .c (.sl 5 1 0 xs.length (xs.length + sp)), ⟨by rfl, trivial, by simp [eqFr, eqHp, eqV, eqA, eqC, eqO, eqCs, eqAs, look_cons, look, rn, EK.cast, EK.sz, eqCaps]⟩, by simp [eqV, eqA, eqAs, eqC, eqCs, rn, look, look_cons, EK.sz], xs, sp, m22, m3, rfl, rfl, htab⟩

end Go.Fw

namespace Go.Fw
open Go Go.Proofs

/-- What it costs at least to end. -/
def endG (l fin : List Int) : Nat → Int
  | 0 => -1
  | k + 1 => less (endG l fin k) (plus (l.getD k 0) (fin.getD k 0))

set_option maxHeartbeats 4000000 in
set_option maxRecDepth 20000 in
theorem ended_c (F : TF) (hF : FOk F) (l : List Int) (cap : Nat) (hl : l.length = F.st.toNat) (hb : ∀ x ∈ l, -1 ≤ x ∧ x ≤ 1000000000000000) :
    Ct Try.prog 54 [fV F, .c (.sl 2 1 0 l.length cap)] [] ((2, .arr false 3 .int l 0) :: hpF F) 3 (Is 3 (.i (endG l F.fin F.st.toNat))) := by
  have hst := hF.st
  have hfl := hF.finl
  refine ctW Try.tyOk 7 [] Try.func54 rfl (by simp [SV.lt, SA.lt, SC.lt, arcV, fV]) (by simp) (fr := [(0, fV F), (1, .c (.sl 2 1 0 l.length cap))]) rfl ?_
  repeat' (first | exact rfl | ((conv => whnf); first | ((first | refine qA (fun h => ?_) fun h => ?_ | refine qN (fun h => ?_) fun h => ?_ | refine qB (fun h => ?_) fun h => ?_ | refine qC (fun h => ?_) fun h => ?_) <;> try exact absurd h (by omega)) | refine qM (fun h => ?_) fun h => ?_ | refine oM (by (first | omega | (simp only [lenS, InI, nmin, EK.sz]; omega) | (simp only [lenS, InI, nmin, EK.sz] at *; omega))) ?_ | refine oM ?_ ?_ | refine bM ?_ ?_ | refine draw_of Try.mixed Try.tyOk 60 (by kernel_rfl) ?_))
  (conv => whnf)
  refine loopI (fun k : Nat => ⟨[(1, .c (.sl 2 1 0 l.length cap)), (2, .c (.ptr 3 0)), (4, .i 0), (5, .i (endG l F.fin k)), (6, .i k)], (3, .box 25 (fCells F)) :: (2, .arr false 3 .int l 0) :: hpF F, 4⟩) (fun k => k ≤ F.st.toNat) (fun k => F.st.toNat - k) 0 [] ⟨by rfl, ?_, ?_⟩ (by omega) ?_
  · simp [eqFr, eqHp, eqV, eqA, eqC, eqO, eqCs, eqAs, look_cons, look, rn, EK.cast, EK.sz, eqCaps, endG]
  · simp [eqFr, eqHp, eqV, eqA, eqC, eqO, eqCs, eqAs, look_cons, look, rn, EK.cast, EK.sz, eqCaps, fCells]
  · intro k hk
    (conv => whnf)
    refine condP_dec (fun hk2 => ?_) (fun hk2 => ?_)
    · have e0 : 0 + (k : Int).toNat = k := by omega
      have b1 := hb _ (getD_mem l k 0 (by omega))
      have b2 := hF.fin _ (getD_mem F.fin k 0 (by omega))
      have e1 : l.getD (0 + (k : Int).toNat) EK.int.dflt = l.getD k 0 := by rw [e0]; rfl
      have e2 : F.fin.getD (0 + (k : Int).toNat) EK.int.dflt = F.fin.getD k 0 := by rw [e0]; rfl
      have hpi : InI (l.getD k 0 + F.fin.getD k 0) := by unfold InI; omega
      repeat' (first | exact rfl | ((conv => whnf); first | ((first | refine qA (fun h => ?_) fun h => ?_ | refine qN (fun h => ?_) fun h => ?_ | refine qB (fun h => ?_) fun h => ?_ | refine qC (fun h => ?_) fun h => ?_) <;> try exact absurd h (by omega)) | refine qM (fun h => ?_) fun h => ?_ | refine oM (by (first | omega | (simp only [lenS, InI, nmin, EK.sz]; omega) | (simp only [lenS, InI, nmin, EK.sz] at *; omega))) ?_ | refine oM ?_ ?_ | refine bM ?_ ?_ | refine draw_of Try.mixed Try.tyOk 60 (by kernel_rfl) ?_))
      (conv => whnf)
      rw [e1, e2]
      refine callI (plus_c (l.getD k 0) (F.fin.getD k 0) hpi) [] Try.call67 rfl trivial (by simp [appN, ptrs, eqVL, eqV, eqA, eqC, eqCs, eqAs, eqCaps, EK.sz, rn, renOf, look_cons, look, arcV, fV]) (by simp [appN, ptrs, SV.lt, SA.lt, SC.lt, arcV, fV]) ?_
      repeat' (first | exact rfl | ((conv => whnf); first | ((first | refine qA (fun h => ?_) fun h => ?_ | refine qN (fun h => ?_) fun h => ?_ | refine qB (fun h => ?_) fun h => ?_ | refine qC (fun h => ?_) fun h => ?_) <;> try exact absurd h (by omega)) | refine qM (fun h => ?_) fun h => ?_ | refine oM (by (first | omega | (simp only [lenS, InI, nmin, EK.sz]; omega) | (simp only [lenS, InI, nmin, EK.sz] at *; omega))) ?_ | refine oM ?_ ?_ | refine bM ?_ ?_ | refine draw_of Try.mixed Try.tyOk 60 (by kernel_rfl) ?_))
      (conv => whnf)
      refine callI (less_c (endG l F.fin k) (plus (l.getD k 0) (F.fin.getD k 0))) [] Try.call42 rfl trivial (by simp [appN, ptrs, eqVL, eqV, eqA, eqC, eqCs, eqAs, eqCaps, EK.sz, rn, renOf, look_cons, look, arcV, fV]) (by simp [appN, ptrs, SV.lt, SA.lt, SC.lt, arcV, fV]) ?_
      repeat' (first | exact rfl | ((conv => whnf); first | ((first | refine qA (fun h => ?_) fun h => ?_ | refine qN (fun h => ?_) fun h => ?_ | refine qB (fun h => ?_) fun h => ?_ | refine qC (fun h => ?_) fun h => ?_) <;> try exact absurd h (by omega)) | refine qM (fun h => ?_) fun h => ?_ | refine oM (by (first | omega | (simp only [lenS, InI, nmin, EK.sz]; omega) | (simp only [lenS, InI, nmin, EK.sz] at *; omega))) ?_ | refine oM ?_ ?_ | refine bM ?_ ?_ | refine draw_of Try.mixed Try.tyOk 60 (by kernel_rfl) ?_))
      (conv => whnf)
      refine ⟨k + 1, [], ⟨by rfl, ?_, ?_⟩, by omega, by omega⟩
      · simp [eqFr, eqHp, eqV, eqA, eqC, eqO, eqCs, eqAs, look_cons, look, rn, EK.cast, EK.sz, eqCaps, endG]
      · simp [eqFr, eqHp, eqV, eqA, eqC, eqO, eqCs, eqAs, look_cons, look, rn, EK.cast, EK.sz, eqCaps, fCells]
    · have hkn : k = F.st.toNat := by omega
      subst hkn
      repeat' (first | exact rfl | ((conv => whnf); first | ((first | refine qA (fun h => ?_) fun h => ?_ | refine qN (fun h => ?_) fun h => ?_ | refine qB (fun h => ?_) fun h => ?_ | refine qC (fun h => ?_) fun h => ?_) <;> try exact absurd h (by omega)) | refine qM (fun h => ?_) fun h => ?_ | refine oM (by (first | omega | (simp only [lenS, InI, nmin, EK.sz]; omega) | (simp only [lenS, InI, nmin, EK.sz] at *; omega))) ?_ | refine oM ?_ ?_ | refine bM ?_ ?_ | refine draw_of Try.mixed Try.tyOk 60 (by kernel_rfl) ?_))
      refine Back.is ?_
      simp [eqV, eqA, eqAs, eqC, eqCs]

end Go.Fw

namespace Go.Fw
open Go Go.Proofs

theorem fromSt_src {F : TF} (hF : FOk F) : fromSt F = srcS F (begun F) := by
  have hs := hF.start
  funext x c
  apply propext
  have hg : ∀ n : Nat, n < F.st.toNat → (begun F).getD n 0 = begF F.start n := by
    intro n hn
    simp [begun, List.getD, hn]
  constructor
  · rintro ⟨rfl, rfl⟩
    refine ⟨rfl, rfl, hs, ?_, Int.le_refl _⟩
    show (begun F).getD F.start.toNat 0 = 0
    rw [hg _ (by omega)]
    unfold begF
    exact if_pos (by omega)
  · rintro ⟨h1, h2, h3, h4, h5⟩
    rw [hg _ (by omega)] at h4
    unfold begF at h4
    split at h4
    · rename_i e
      refine ⟨?_, h4.symm⟩
      obtain ⟨a, b, c⟩ := x
      simp only at *
      unfold st0
      congr 1
      omega
    · omega
end Go.Fw
