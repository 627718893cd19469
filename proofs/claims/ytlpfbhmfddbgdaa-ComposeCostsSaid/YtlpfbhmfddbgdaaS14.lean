/-
  What is reached by arcs, or back by them.
-/
import Derived.Test.YtlpfbhmfddbgdaaS13
import Derived.Test.YtlpfbhmfddbgdaaS08

set_option linter.unusedSimpArgs false
set_option linter.unusedVariables false

namespace Go.Fw
open Go

def srcA (bk : Bool) (a : Arc) : Int := if bk then a.t else a.f
def dstA (bk : Bool) (a : Arc) : Int := if bk then a.f else a.t

/-- Where the first k arcs lead from a state. -/
def nxL (l : List Arc) (bk : Bool) : Nat → Nat → List Int
  | 0, _ => []
  | k + 1, j => if (j : Int) = srcA bk (l.getD k aD) then nxL l bk k j ++ [dstA bk (l.getD k aD)] else nxL l bk k j

theorem nxL_mem {l : List Arc} {bk : Bool} {j : Nat} {y : Int} : ∀ k, k ≤ l.length → (y ∈ nxL l bk k j ↔ ∃ i, i < k ∧ srcA bk (l.getD i aD) = j ∧ dstA bk (l.getD i aD) = y)
  | 0, _ => by simp [nxL]
  | k + 1, hk => by
    have ih := nxL_mem (l := l) (bk := bk) (j := j) (y := y) k (by omega)
    unfold nxL
    by_cases e : (j : Int) = srcA bk (l.getD k aD)
    · rw [if_pos e, List.mem_append, ih, List.mem_singleton]
      constructor
      · rintro (⟨i, h1, h2⟩ | rfl)
        · exact ⟨i, by omega, h2⟩
        · exact ⟨k, by omega, e.symm, rfl⟩
      · rintro ⟨i, h1, h2, h3⟩
        by_cases q : i = k
        · subst q; exact .inr h3.symm
        · exact .inl ⟨i, by omega, h2, h3⟩
    · rw [if_neg e, ih]
      constructor
      · rintro ⟨i, h1, h2⟩
        exact ⟨i, by omega, h2⟩
      · rintro ⟨i, h1, h2, h3⟩
        by_cases q : i = k
        · subst q; exact absurd h2.symm e
        · exact ⟨i, by omega, h2, h3⟩

theorem nxL_len {l : List Arc} {bk : Bool} {j : Nat} : ∀ k, (nxL l bk k j).length ≤ k
  | 0 => Nat.le_refl _
  | k + 1 => by
    have := nxL_len (l := l) (bk := bk) (j := j) k
    unfold nxL
    split
    · simp; omega
    · omega

/-- What some lead to. -/
inductive Rch (l : List Arc) (bk : Bool) (first : List Int) : Int → Prop
  | here {x : Int} (h : x ∈ first) : Rch l bk first x
  | on {x : Int} {a : Arc} (h : Rch l bk first x) (ha : a ∈ l) (hs : srcA bk a = x) : Rch l bk first (dstA bk a)

/-- The marks and the heap of what is to be looked at. -/
structure ChInv (l : List Arc) (bk : Bool) (first : List Int) (n : Nat) (ms : List Bool) (st : List Int) : Prop where
  len : ms.length = n
  rng : ∀ x ∈ st, 0 ≤ x ∧ x < n
  snd : ∀ j, j < n → ms.getD j false = true → Rch l bk first j
  sst : ∀ x ∈ st, Rch l bk first x
  fst : ∀ x ∈ first, ms.getD x.toNat false = true ∨ x ∈ st
  cpl : ∀ j, j < n → ms.getD j false = true → ∀ y ∈ nxL l bk l.length j, ms.getD y.toNat false = true ∨ y ∈ st

section
variable {l : List Arc} {bk : Bool} {first : List Int} {n : Nat} {ms : List Bool} {st : List Int}

theorem ChInv.start (hf : ∀ x ∈ first, 0 ≤ x ∧ x < n) : ChInv l bk first n (List.replicate n false) first := by
  have e : ∀ j, (List.replicate n false).getD j false = false := fun j => by simp [List.getD, List.getElem?_replicate]; split <;> rfl
  exact ⟨by simp, hf, fun j _ h => (by rw [e] at h; cases h), fun x hx => .here hx, fun x hx => .inr hx, fun j _ h => (by rw [e] at h; cases h)⟩

theorem nxL_rch (hl : ∀ a ∈ l, 0 ≤ srcA bk a ∧ srcA bk a < n ∧ 0 ≤ dstA bk a ∧ dstA bk a < n) {j : Nat} (h : Rch l bk first j) {y : Int} (hy : y ∈ nxL l bk l.length j) : Rch l bk first y ∧ 0 ≤ y ∧ y < n := by
  obtain ⟨i, h1, h2, rfl⟩ := (nxL_mem l.length (Nat.le_refl _)).1 hy
  have hm := getD_mem l i aD h1
  have := hl _ hm
  exact ⟨.on h hm h2, this.2.2.1, this.2.2.2⟩

/-- One that is marked already. -/
theorem ChInv.pass {x : Int} (h : ChInv l bk first n ms (st ++ [x])) (hx : ms.getD x.toNat false = true) : ChInv l bk first n ms st :=
  ⟨h.len, fun y hy => h.rng y (by simp [hy]), h.snd, fun y hy => h.sst y (by simp [hy]), fun y hy => by
    rcases h.fst y hy with q | q
    · exact .inl q
    · rcases List.mem_append.1 q with q | q
      · exact .inr q
      · rw [List.mem_singleton] at q; subst q; exact .inl hx, fun j hj hm y hy => by
    rcases h.cpl j hj hm y hy with q | q
    · exact .inl q
    · rcases List.mem_append.1 q with q | q
      · exact .inr q
      · rw [List.mem_singleton] at q; subst q; exact .inl hx⟩

theorem getD_setB (ms : List Bool) (i j : Nat) (hi : i < ms.length) : (ms.set i true).getD j false = if j = i then true else ms.getD j false := by
  simp only [List.getD, List.getElem?_set]
  by_cases e : i = j
  · subst e; simp [hi]
  · simp [e, Ne.symm e]

/-- One that is new. -/
theorem ChInv.mark (hl : ∀ a ∈ l, 0 ≤ srcA bk a ∧ srcA bk a < n ∧ 0 ≤ dstA bk a ∧ dstA bk a < n) {x : Int} (h : ChInv l bk first n ms (st ++ [x])) : ChInv l bk first n (ms.set x.toNat true) (st ++ nxL l bk l.length x.toNat) := by
  have hxr := h.rng x (by simp)
  have hln := h.len
  have hx := h.sst x (by simp)
  have ex : ((x.toNat : Nat) : Int) = x := by omega
  have hg : ∀ j, (ms.set x.toNat true).getD j false = if j = x.toNat then true else ms.getD j false := fun j => getD_setB ms _ j (by omega)
  have hxn : Rch l bk first (x.toNat : Nat) := by rw [ex]; exact hx
  refine ⟨by simp [hln], fun y hy => ?_, fun j hj hm => ?_, fun y hy => ?_, fun y hy => ?_, fun j hj hm y hy => ?_⟩
  · rcases List.mem_append.1 hy with hy | hy
    · exact h.rng y (by simp [hy])
    · exact (nxL_rch hl hxn hy).2
  · rw [hg] at hm
    split at hm
    · rename_i e; rw [e, ex]; exact hx
    · exact h.snd j hj hm
  · rcases List.mem_append.1 hy with hy | hy
    · exact h.sst y (by simp [hy])
    · exact (nxL_rch hl hxn hy).1
  · rw [hg]
    rcases h.fst y hy with q | q
    · left; split
      · rfl
      · exact q
    · rcases List.mem_append.1 q with q | q
      · exact .inr (by simp [q])
      · rw [List.mem_singleton] at q; subst q; left; rw [if_pos rfl]
  · rw [hg] at hm ⊢
    split at hm
    · rename_i e; subst e; exact .inr (by simp [hy])
    · rcases h.cpl j hj hm y hy with q | q
      · left; split
        · rfl
        · exact q
      · rcases List.mem_append.1 q with q | q
        · exact .inr (by simp [q])
        · rw [List.mem_singleton] at q; subst q; left; rw [if_pos rfl]

theorem ChInv.done (hl : ∀ a ∈ l, 0 ≤ srcA bk a ∧ srcA bk a < n ∧ 0 ≤ dstA bk a ∧ dstA bk a < n) (hf : ∀ x ∈ first, 0 ≤ x ∧ x < n) (h : ChInv l bk first n ms []) {j : Nat} (hj : j < n) : ms.getD j false = true ↔ Rch l bk first j := by
  refine ⟨h.snd j hj, fun hr => ?_⟩
  have key : ∀ x, Rch l bk first x → 0 ≤ x ∧ x < n ∧ ms.getD x.toNat false = true := by
    intro x hx
    induction hx with
    | here hx =>
      have := hf _ hx
      rcases h.fst _ hx with q | q
      · exact ⟨this.1, this.2, q⟩
      · cases q
    | @on x a hr ha hs ih =>
      obtain ⟨h1, h2, h3⟩ := ih
      have hb := hl a ha
      obtain ⟨i, hi, e⟩ := List.getElem_of_mem ha
      have e2 : l.getD i aD = a := by simp [List.getD, hi, e]
      have hm : dstA bk a ∈ nxL l bk l.length x.toNat := (nxL_mem l.length (Nat.le_refl _)).2 ⟨i, hi, by rw [e2, hs]; omega, by rw [e2]⟩
      rcases h.cpl x.toNat (by omega) h3 _ hm with q | q
      · exact ⟨hb.2.2.1, hb.2.2.2, q⟩
      · cases q
  have := (key j hr).2.2
  simpa using this
end

/-- What is yet to be looked at. -/
def potR (L : Nat → Nat) (ms : List Bool) : Nat → Nat
  | 0 => 0
  | k + 1 => potR L ms k + if ms.getD k false = true then 0 else L k

theorem potR_set {L : Nat → Nat} {ms : List Bool} {i : Nat} (hi : i < ms.length) (hm : ms.getD i false ≠ true) : ∀ k, potR L (ms.set i true) k + (if i < k then L i else 0) = potR L ms k
  | 0 => by simp [potR]
  | k + 1 => by
    have ih := potR_set hi hm k (L := L)
    unfold potR
    rw [getD_setB ms i k hi]
    by_cases e : k = i
    · subst e
      rw [if_neg (by omega)] at ih
      rw [if_pos rfl, if_pos rfl, if_pos (by omega), if_neg hm]
      omega
    · rw [if_neg e]
      generalize (if ms.getD k false = true then 0 else L k) = z
      by_cases e2 : i < k
      · rw [if_pos e2] at ih
        rw [if_pos (by omega)]
        omega
      · rw [if_neg e2] at ih
        rw [if_neg (by omega)]
        omega
end Go.Fw

namespace Go.Fw
open Go Go.Proofs

/-- States and arcs that fit together. -/
structure FRng (F : TF) : Prop where
  st : 0 ≤ F.st ∧ F.st ≤ 100000
  finl : (F.fin.length : Int) = F.st
  arcl : F.arcs.length ≤ 100000
  arc : ∀ a ∈ F.arcs, 0 ≤ a.f ∧ a.f < F.st ∧ 0 ≤ a.t ∧ a.t < F.st

theorem FRng.src {F : TF} (h : FRng F) {bk : Bool} {a : Arc} (ha : a ∈ F.arcs) : 0 ≤ srcA bk a ∧ srcA bk a < (F.st.toNat : Nat) ∧ 0 ≤ dstA bk a ∧ dstA bk a < (F.st.toNat : Nat) := by
  have := h.arc a ha
  have := h.st
  unfold srcA dstA
  cases bk <;> simp only [Bool.false_eq_true, if_false, if_true, reduceIte] <;> omega

theorem nxL_app {l : List Arc} {bk : Bool} {k n : Nat} (h : 0 ≤ srcA bk (l.getD k aD)) (i : Nat) : (if i = (srcA bk (l.getD k aD)).toNat then nxL l bk k (srcA bk (l.getD k aD)).toNat ++ [dstA bk (l.getD k aD)] else nxL l bk k i) = nxL l bk (k + 1) i := by
  show _ = if (i : Int) = srcA bk (l.getD k aD) then nxL l bk k i ++ [dstA bk (l.getD k aD)] else nxL l bk k i
  by_cases e : (i : Int) = srcA bk (l.getD k aD)
  · rw [if_pos e, if_pos (by omega), show (srcA bk (l.getD k aD)).toNat = i by omega]
  · rw [if_neg e, if_neg (by omega)]

theorem potR_le {L : Nat → Nat} {ms : List Bool} {B : Nat} (h : ∀ j, L j ≤ B) : ∀ k, potR L ms k ≤ k * B
  | 0 => by simp [potR]
  | k + 1 => by
    have := potR_le (ms := ms) h k
    have := h k
    rw [Nat.succ_mul]
    unfold potR
    split <;> omega

theorem tab2_none (N : Nat) : Tab2 [] (List.replicate N EK.sli.dflt) N fun _ => ([] : List Int) := by
  have e : ∀ j, j < N → (List.replicate N EK.sli.dflt).getD j EK.sli.dflt = EK.sli.dflt := fun j hj => by simp [List.getD, hj]
  refine ⟨by simp, fun j hj => ?_, fun j hj => ?_, fun s t b hs ht hst hb => ?_⟩
  · rewrite [e j hj]; exact (⟨Eq.refl 0, Eq.refl 0⟩ : (0 : Nat) = 0 ∧ (0 : Nat) = 0)
  · rewrite [e j hj]; show rowA [] none = []; rfl
  · rewrite [e s hs] at hb; cases hb

abbrev hpRe (F : TF) (ms : List Bool) (rows : List Sli) (m : List (Addr × List Int × Nat)) : List (Nat × SO) := [(0, .arr false 3 .int F.fin 0), (1, .arr false 47 .arc F.arcs 0), (3, .box 25 (onF F)), (4, .arr true 4 .bool ms 0), (5, .arr true 22 .sli rows 0), (6, .pool 3 .int m)]

set_option maxHeartbeats 16000000 in
set_option maxRecDepth 20000 in
theorem reached_c (F : TF) (hF : FRng F) (xs : List Int) (sp : Nat) (bk : Bool) (hx : ∀ x ∈ xs, 0 ≤ x ∧ x < (F.st.toNat : Nat)) (hxl : xs.length ≤ 1000000) :
    Ct Try.prog 120 [fV F, .c (.sl 2 1 0 xs.length (xs.length + sp)), .b bk] [] ((2, .arr true 3 .int xs sp) :: hpF F) 3
    (fun v s => ∃ ms : List Bool, v = .c (.sl 3 1 0 ms.length ms.length) ∧ s = ⟨[], [(3, .arr true 4 .bool ms 0)], 4⟩ ∧ ms.length = F.st.toNat ∧ ∀ j, j < F.st.toNat → (ms.getD j false = true ↔ Rch F.arcs bk xs j)) := by
  have hst := hF.st
  have hal := hF.arcl
  refine ctW Try.tyOk 12 [19, 20, 21] Try.func120 rfl (by simp [SV.lt, SA.lt, SC.lt, arcV, fV]) (by simp) (fr := [(0, fV F), (1, .c (.sl 2 1 0 xs.length (xs.length + sp))), (2, .b bk)]) rfl ?_
  repeat' (first | exact rfl | ((conv => whnf); first | ((first | refine qA (fun h => ?_) fun h => ?_ | refine qN (fun h => ?_) fun h => ?_ | refine qB (fun h => ?_) fun h => ?_ | refine qC (fun h => ?_) fun h => ?_) <;> try exact absurd h (by omega)) | refine qM (fun h => ?_) fun h => ?_ | refine oM (by (first | omega | (simp only [lenS, InI, nmin, EK.sz]; omega) | (simp only [lenS, InI, nmin, EK.sz] at *; omega))) ?_ | refine oM ?_ ?_ | refine bM ?_ ?_ | refine draw_of Try.mixed Try.tyOk 60 (by kernel_rfl) ?_))
  (conv => whnf)
  refine loopI (fun z : Nat × List Sli × List (Addr × List Int × Nat) => ⟨[(1, .c (.sl 2 1 0 xs.length (xs.length + sp))), (2, .b bk), (3, .c (.ptr 3 0)), (7, .c (.sl 4 1 0 F.st.toNat F.st.toNat)), (8, .c (.sl 5 1 0 F.st.toNat F.st.toNat)), (19, .c (.sl 1 5 0 F.arcs.length F.capA)), (20, .i F.arcs.length), (21, .i z.1)], (2, .arr true 3 .int xs sp) :: hpRe F (List.replicate F.st.toNat false) z.2.1 z.2.2, 7⟩)
    (fun z => z.1 ≤ F.arcs.length ∧ Tab2 z.2.2 z.2.1 F.st.toNat (nxL F.arcs bk z.1)) (fun z => F.arcs.length - z.1) (0, List.replicate F.st.toNat EK.sli.dflt, []) [(6, none)] ⟨by rfl, ?_, ?_⟩ ⟨Nat.zero_le _, (tab2_none _).cong fun j _ => rfl⟩ ?_
  · simp [eqFr, eqHp, eqV, eqA, eqC, eqO, eqCs, eqAs, look_cons, look, rn, EK.cast, EK.sz, eqCaps]
  · simp [eqFr, eqHp, eqV, eqA, eqC, eqO, eqCs, eqAs, look_cons, look, rn, EK.cast, EK.sz, eqCaps, EK.dflt, nilO]
  · rintro ⟨k, rows, m⟩ ⟨hk, htab⟩
    simp only at hk htab ⊢
    have hrl := htab.len
    (conv => whnf)
    refine condP_dec (fun hk2 => ?_) (fun hk2 => ?_)
    · have e0 : 0 + (k : Int).toNat = k := by omega
      have hm := getD_mem F.arcs k aD (by omega)
      have hb := hF.arc _ hm
      have hsr := hF.src (bk := bk) hm
      have hj : (srcA bk (F.arcs.getD k aD)).toNat < F.st.toNat := by omega
      have hhd := htab.hd _ hj
      have hnl := hhd.len
      rw [htab.row _ hj] at hnl
      have hll := nxL_len (l := F.arcs) (bk := bk) (j := (srcA bk (F.arcs.getD k aD)).toNat) k
      cases bk with
      | true =>
        have hb1 : 0 ≤ (F.arcs.getD (0 + (k : Int).toNat) EK.arc.dflt).t ∧ (F.arcs.getD (0 + (k : Int).toNat) EK.arc.dflt).t < F.st := by rw [e0]; exact ⟨hb.2.2.1, hb.2.2.2⟩
        have hhd1 : Hd m (rows.getD (0 + (F.arcs.getD (0 + (k : Int).toNat) EK.arc.dflt).t.toNat) EK.sli.dflt) := by rw [Nat.zero_add, e0]; exact hhd
        have hnl1 : (rows.getD (0 + (F.arcs.getD (0 + (k : Int).toNat) EK.arc.dflt).t.toNat) EK.sli.dflt).n ≤ k := by rw [Nat.zero_add, e0]; exact hnl ▸ hll
        repeat' (first | exact rfl | ((conv => whnf); first | ((first | refine qA (fun h => ?_) fun h => ?_ | refine qN (fun h => ?_) fun h => ?_ | refine qB (fun h => ?_) fun h => ?_ | refine qC (fun h => ?_) fun h => ?_) <;> try exact absurd h (by omega)) | refine qM (fun h => ?_) fun h => ?_ | refine oM (by (first | omega | (simp only [lenS, InI, nmin, EK.sz]; omega) | (simp only [lenS, InI, nmin, EK.sz] at *; omega))) ?_ | refine oM ?_ ?_ | refine bM ?_ ?_ | refine draw_of Try.mixed Try.tyOk 60 (by kernel_rfl) ?_))
        · exact ⟨hhd1, by omega, by omega⟩
        · intro m' h' happ
          have happ2 : App m (rows.getD (srcA true (F.arcs.getD k aD)).toNat EK.sli.dflt) [dstA true (F.arcs.getD k aD)] m' h' := by
            rw [Nat.zero_add, e0] at happ
            exact happ
          have htab2 := (htab.app hj happ2).cong fun i _ => nxL_app (n := 0) hsr.1 i
          have es : (srcA true (F.arcs.getD k aD)).toNat = 0 + (F.arcs.getD (0 + (k : Int).toNat) EK.arc.dflt).t.toNat := by rw [Nat.zero_add, e0]; rfl
          rw [es] at htab2
          clear htab happ happ2 hhd hhd1 hnl hnl1
          repeat' (first | exact rfl | ((conv => whnf); first | ((first | refine qA (fun h => ?_) fun h => ?_ | refine qN (fun h => ?_) fun h => ?_ | refine qB (fun h => ?_) fun h => ?_ | refine qC (fun h => ?_) fun h => ?_) <;> try exact absurd h (by omega)) | refine qM (fun h => ?_) fun h => ?_ | refine oM (by (first | omega | (simp only [lenS, InI, nmin, EK.sz]; omega) | (simp only [lenS, InI, nmin, EK.sz] at *; omega))) ?_ | refine oM ?_ ?_ | refine bM ?_ ?_ | refine draw_of Try.mixed Try.tyOk 60 (by kernel_rfl) ?_))
          (conv => whnf)
          refine ⟨(k + 1, rows.set (0 + (F.arcs.getD (0 + (k : Int).toNat) EK.arc.dflt).t.toNat) h', m'), [], ⟨by rfl, ?_, ?_⟩, ⟨by simp only; omega, htab2⟩, by simp only; omega⟩
          · simp [eqFr, eqHp, eqV, eqA, eqC, eqO, eqCs, eqAs, look_cons, look, rn, EK.cast, EK.sz, eqCaps]
          · simp [eqFr, eqHp, eqV, eqA, eqC, eqO, eqCs, eqAs, look_cons, look, rn, EK.cast, EK.sz, eqCaps]
      | false =>
        have hb1 : 0 ≤ (F.arcs.getD (0 + (k : Int).toNat) EK.arc.dflt).f ∧ (F.arcs.getD (0 + (k : Int).toNat) EK.arc.dflt).f < F.st := by rw [e0]; exact ⟨hb.1, hb.2.1⟩
        have hhd1 : Hd m (rows.getD (0 + (F.arcs.getD (0 + (k : Int).toNat) EK.arc.dflt).f.toNat) EK.sli.dflt) := by rw [Nat.zero_add, e0]; exact hhd
        have hnl1 : (rows.getD (0 + (F.arcs.getD (0 + (k : Int).toNat) EK.arc.dflt).f.toNat) EK.sli.dflt).n ≤ k := by rw [Nat.zero_add, e0]; exact hnl ▸ hll
        repeat' (first | exact rfl | ((conv => whnf); first | ((first | refine qA (fun h => ?_) fun h => ?_ | refine qN (fun h => ?_) fun h => ?_ | refine qB (fun h => ?_) fun h => ?_ | refine qC (fun h => ?_) fun h => ?_) <;> try exact absurd h (by omega)) | refine qM (fun h => ?_) fun h => ?_ | refine oM (by (first | omega | (simp only [lenS, InI, nmin, EK.sz]; omega) | (simp only [lenS, InI, nmin, EK.sz] at *; omega))) ?_ | refine oM ?_ ?_ | refine bM ?_ ?_ | refine draw_of Try.mixed Try.tyOk 60 (by kernel_rfl) ?_))
        · exact ⟨hhd1, by omega, by omega⟩
        · intro m' h' happ
          have happ2 : App m (rows.getD (srcA false (F.arcs.getD k aD)).toNat EK.sli.dflt) [dstA false (F.arcs.getD k aD)] m' h' := by
            rw [Nat.zero_add, e0] at happ
            exact happ
          have htab2 := (htab.app hj happ2).cong fun i _ => nxL_app (n := 0) hsr.1 i
          have es : (srcA false (F.arcs.getD k aD)).toNat = 0 + (F.arcs.getD (0 + (k : Int).toNat) EK.arc.dflt).f.toNat := by rw [Nat.zero_add, e0]; rfl
          rw [es] at htab2
          clear htab happ happ2 hhd hhd1 hnl hnl1
          repeat' (first | exact rfl | ((conv => whnf); first | ((first | refine qA (fun h => ?_) fun h => ?_ | refine qN (fun h => ?_) fun h => ?_ | refine qB (fun h => ?_) fun h => ?_ | refine qC (fun h => ?_) fun h => ?_) <;> try exact absurd h (by omega)) | refine qM (fun h => ?_) fun h => ?_ | refine oM (by (first | omega | (simp only [lenS, InI, nmin, EK.sz]; omega) | (simp only [lenS, InI, nmin, EK.sz] at *; omega))) ?_ | refine oM ?_ ?_ | refine bM ?_ ?_ | refine draw_of Try.mixed Try.tyOk 60 (by kernel_rfl) ?_))
          (conv => whnf)
          refine ⟨(k + 1, rows.set (0 + (F.arcs.getD (0 + (k : Int).toNat) EK.arc.dflt).f.toNat) h', m'), [], ⟨by rfl, ?_, ?_⟩, ⟨by simp only; omega, htab2⟩, by simp only; omega⟩
          · simp [eqFr, eqHp, eqV, eqA, eqC, eqO, eqCs, eqAs, look_cons, look, rn, EK.cast, EK.sz, eqCaps]
          · simp [eqFr, eqHp, eqV, eqA, eqC, eqO, eqCs, eqAs, look_cons, look, rn, EK.cast, EK.sz, eqCaps]
    · have e : k = F.arcs.length := by omega
      subst e
      have hL : ∀ j, (nxL F.arcs bk F.arcs.length j).length ≤ 100000 := fun j => Nat.le_trans (nxL_len _) hal
      have hP0 := potR_le (ms := List.replicate F.st.toNat false) hL F.st.toNat
      generalize hpt : potR (fun j => (nxL F.arcs bk F.arcs.length j).length) (List.replicate F.st.toNat false) F.st.toNat = P0 at hP0
      repeat' (first | exact rfl | ((conv => whnf); first | ((first | refine qA (fun h => ?_) fun h => ?_ | refine qN (fun h => ?_) fun h => ?_ | refine qB (fun h => ?_) fun h => ?_ | refine qC (fun h => ?_) fun h => ?_) <;> try exact absurd h (by omega)) | refine qM (fun h => ?_) fun h => ?_ | refine oM (by (first | omega | (simp only [lenS, InI, nmin, EK.sz]; omega) | (simp only [lenS, InI, nmin, EK.sz] at *; omega))) ?_ | refine oM ?_ ?_ | refine bM ?_ ?_ | refine draw_of Try.mixed Try.tyOk 60 (by kernel_rfl) ?_))
      (conv => whnf)
      refine loopI (fun z : List Int × List Int × Nat × Nat × List Bool => ⟨[(1, .c (.sl 7 1 0 z.1.length z.2.2.2.1)), (7, .c (.sl 4 1 0 F.st.toNat F.st.toNat)), (8, .c (.sl 5 1 0 F.st.toNat F.st.toNat))], (7, .arr true 3 .int (z.1 ++ z.2.1) z.2.2.1) :: hpRe F z.2.2.2.2 rows m, 8⟩)
        (fun z => ChInv F.arcs bk xs F.st.toNat z.2.2.2.2 z.1 ∧ z.2.2.2.1 ≤ z.1.length + z.2.1.length + z.2.2.1 ∧ z.1.length ≤ z.2.2.2.1 ∧ z.1.length + potR (fun j => (nxL F.arcs bk F.arcs.length j).length) z.2.2.2.2 F.st.toNat ≤ xs.length + P0) (fun z => z.1.length + potR (fun j => (nxL F.arcs bk F.arcs.length j).length) z.2.2.2.2 F.st.toNat) (xs, [], sp, xs.length + sp, List.replicate F.st.toNat false) [(7, some 2)] ⟨by rfl, ?_, ?_⟩ ⟨ChInv.start hx, by simp, by simp, by simp only [hpt]; exact Nat.le_refl _⟩ ?_
      · simp [eqFr, eqHp, eqV, eqA, eqC, eqO, eqCs, eqAs, look_cons, look, rn, EK.cast, EK.sz, eqCaps]
      · simp [eqFr, eqHp, eqV, eqA, eqC, eqO, eqCs, eqAs, look_cons, look, rn, EK.cast, EK.sz, eqCaps]
      · rintro ⟨st, junk, sp2, cap, ms⟩ ⟨hinv, hcap, hlc, hpo⟩
        simp only at hinv hcap hlc hpo ⊢
        have hml := hinv.len
        have hP1 : P0 ≤ 10000000000 := by omega
        have hnil : st = [] ∨ ∃ l x, st = l ++ [x] := by
          rcases st.eq_nil_or_concat with h | ⟨l, x, h⟩
          · exact .inl h
          · exact .inr ⟨l, x, by rw [h, List.concat_eq_append]⟩
        rcases hnil with rfl | ⟨st, x, rfl⟩
        · repeat' (first | exact rfl | ((conv => whnf); first | ((first | refine qA (fun h => ?_) fun h => ?_ | refine qN (fun h => ?_) fun h => ?_ | refine qB (fun h => ?_) fun h => ?_ | refine qC (fun h => ?_) fun h => ?_) <;> try exact absurd h (by omega)) | refine qM (fun h => ?_) fun h => ?_ | refine oM (by (first | omega | (simp only [lenS, InI, nmin, EK.sz]; omega) | (simp only [lenS, InI, nmin, EK.sz] at *; omega))) ?_ | refine oM ?_ ?_ | refine bM ?_ ?_ | refine draw_of Try.mixed Try.tyOk 60 (by kernel_rfl) ?_ | intro _))
          (conv => whnf)
          exact ⟨[(3, some 4)], [(3, .arr true 4 .bool ms 0)], 4, .c (.sl 3 1 0 ms.length ms.length), ⟨by rfl, trivial, by simp [eqFr, eqHp, eqV, eqA, eqC, eqO, eqCs, eqAs, look_cons, look, rn, EK.cast, EK.sz, eqCaps]⟩, by simp [eqV, eqA, eqC, rn, look, hml], ms, rfl, rfl, hml, fun j hj => hinv.done (fun a ha => hF.src ha) hx hj⟩
        · have ee : ((st ++ [x] ++ junk).getD (0 + (((st ++ [x]).length : Int) - 1).toNat) EK.int.dflt) = x := by
            have e1 : 0 + (((st ++ [x]).length : Int) - 1).toNat = st.length := by simp
            rw [e1, List.append_assoc]
            simp [List.getD]
          have hxr := hinv.rng x (by simp)
          have hr0 := @id (@LE.le Int _ 0 ((st ++ [x] ++ junk).getD (0 + (((st ++ [x]).length : Int) - 1).toNat) EK.int.dflt)) (by rw [ee]; exact hxr.1)
          have hr1 := @id (@LT.lt Int _ ((st ++ [x] ++ junk).getD (0 + (((st ++ [x]).length : Int) - 1).toNat) EK.int.dflt) (F.st.toNat : Int)) (by rw [ee]; exact hxr.2)
          have hhd : Hd m (rows.getD (0 + Int.toNat ((st ++ [x] ++ junk).getD (0 + (((st ++ [x]).length : Int) - 1).toNat) EK.int.dflt)) EK.sli.dflt) := htab.hd _ (by omega)
          have hrw : rowA m (rows.getD (0 + Int.toNat ((st ++ [x] ++ junk).getD (0 + (((st ++ [x]).length : Int) - 1).toNat) EK.int.dflt)) EK.sli.dflt).a = nxL F.arcs bk F.arcs.length x.toNat := by rw [htab.row _ (by omega), ee, Nat.zero_add]
          have hnn := hhd.len
          rw [hrw] at hnn
          have hnl := hL x.toNat
          have hsl : (st ++ [x]).length = st.length + 1 := by simp
          have hA : (((st ++ [x]).length : Int) - 1 - 0).toNat = st.length := by simp
          have hsb0 : sub (st ++ [x] ++ junk) 0 st.length = st := by simp [sub]
          have hsb : sub (st ++ [x] ++ junk) (0 + Int.toNat 0) st.length = st := hsb0
          rw [hsl] at hpo hlc hcap
          repeat' (first | exact rfl | ((conv => whnf); first | ((first | refine qA (fun h => ?_) fun h => ?_ | refine qN (fun h => ?_) fun h => ?_ | refine qB (fun h => ?_) fun h => ?_ | refine qC (fun h => ?_) fun h => ?_) <;> try exact absurd h (by omega)) | refine qM (fun h => ?_) fun h => ?_ | refine oM (by (first | omega | (simp only [lenS, InI, nmin, EK.sz]; omega) | (simp only [lenS, InI, nmin, EK.sz] at *; omega))) ?_ | refine oM ?_ ?_ | refine bM ?_ ?_ | refine draw_of Try.mixed Try.tyOk 60 (by kernel_rfl) ?_))
          · intro sp3
            repeat' (first | exact rfl | ((conv => whnf); first | ((first | refine qA (fun h => ?_) fun h => ?_ | refine qN (fun h => ?_) fun h => ?_ | refine qB (fun h => ?_) fun h => ?_ | refine qC (fun h => ?_) fun h => ?_) <;> try exact absurd h (by omega)) | refine qM (fun h => ?_) fun h => ?_ | refine oM (by (first | omega | (simp only [lenS, InI, nmin, EK.sz]; omega) | (simp only [lenS, InI, nmin, EK.sz] at *; omega))) ?_ | refine oM ?_ ?_ | refine bM ?_ ?_ | refine draw_of Try.mixed Try.tyOk 60 (by kernel_rfl) ?_))
            (conv => whnf)
            rw [ee, Nat.zero_add] at h
            have hmk2 : ms.getD x.toNat false ≠ true := by
              intro q
              rw [show EK.bool.dflt = false from rfl, q] at h
              cases h
            have hps := potR_set (L := fun j => (nxL F.arcs bk F.arcs.length j).length) (i := x.toNat) (by omega) hmk2 F.st.toNat
            rw [if_pos (by omega)] at hps
            simp only [ee] at hrw hnn
            simp only [hA, ee, hsb, hsb0, hrw, hnn]
            refine ⟨(st ++ nxL F.arcs bk F.arcs.length x.toNat, [], sp3, (st ++ nxL F.arcs bk F.arcs.length x.toNat).length + sp3, ms.set x.toNat true), [(7, some 8)], ⟨by rfl, ?_, ?_⟩, ⟨hinv.mark fun a ha => hF.src ha, ?_, ?_, ?_⟩, ?_⟩
            · simp [eqFr, eqHp, eqV, eqA, eqC, eqO, eqCs, eqAs, look_cons, look, rn, EK.cast, EK.sz, eqCaps, List.length_append]
            · simp [eqFr, eqHp, eqV, eqA, eqC, eqO, eqCs, eqAs, look_cons, look, rn, EK.cast, EK.sz, eqCaps, List.append_nil, lOp.appL]
            all_goals simp only [List.length_append, List.length_cons, List.length_nil] at *
            all_goals omega
          · (conv => whnf)
            rw [ee, Nat.zero_add] at h
            have hmk2 : ms.getD x.toNat false = true := by
              rw [show EK.bool.dflt = false from rfl] at h
              simpa using h
            simp only [hA]
            refine ⟨(st, x :: junk, sp2, cap, ms), [], ⟨by rfl, ?_, ?_⟩, ⟨hinv.pass hmk2, ?_, ?_, ?_⟩, ?_⟩
            · simp [eqFr, eqHp, eqV, eqA, eqC, eqO, eqCs, eqAs, look_cons, look, rn, EK.cast, EK.sz, eqCaps]
            · simp [eqFr, eqHp, eqV, eqA, eqC, eqO, eqCs, eqAs, look_cons, look, rn, EK.cast, EK.sz, eqCaps]
            all_goals simp only [List.length_append, List.length_cons, List.length_nil] at *
            all_goals omega
end Go.Fw

namespace Go.Fw
open Go Go.Proofs

/-- Kept: marked twice. -/
def kpB (m1 m2 : List Bool) (j : Nat) : Bool := m1.getD j false && m2.getD j false

theorem keep1_c (m1 m2 : List Bool) (n1 n2 : Nat) (hn1 : n1 = m1.length) (hn2 : n2 = m2.length) (x : Int) (hx : 0 ≤ x) (h1 : x < m1.length) (h2 : x < m2.length) :
    Ct Try.prog 122 [.i x, .c (.ptr 2 0), .c (.ptr 3 0)] [] [(0, .arr false 4 .bool m1 0), (1, .arr false 4 .bool m2 0), (2, .box 45 [.sl 0 1 0 n1 n1]), (3, .box 45 [.sl 1 1 0 n2 n2])] 4
    (fun v s => v = .b (kpB m1 m2 x.toNat) ∧ s = ⟨[], [(2, .box 45 [.sl 0 1 0 n1 n1]), (3, .box 45 [.sl 1 1 0 n2 n2])], 4⟩) := by
  subst hn1 hn2
  refine ctW Try.tyOk 5 [] Try.func122 rfl (by simp [SV.lt, SA.lt, SC.lt, arcV, fV]) (by simp) (fr := [(0, .i x), (1, .c (.ptr 2 0)), (2, .c (.ptr 3 0))]) rfl ?_
  repeat' (first | exact rfl | ((conv => whnf); first | ((first | refine qA (fun h => ?_) fun h => ?_ | refine qN (fun h => ?_) fun h => ?_ | refine qB (fun h => ?_) fun h => ?_ | refine qC (fun h => ?_) fun h => ?_) <;> try exact absurd h (by omega)) | refine qM (fun h => ?_) fun h => ?_ | refine oM (by (first | omega | (simp only [lenS, InI, nmin, EK.sz]; omega) | (simp only [lenS, InI, nmin, EK.sz] at *; omega))) ?_ | refine oM ?_ ?_ | refine bM ?_ ?_ | refine draw_of Try.mixed Try.tyOk 60 (by kernel_rfl) ?_))
  all_goals
    (conv => whnf)
    refine ⟨[], [(2, .box 45 [.sl 0 1 0 m1.length m1.length]), (3, .box 45 [.sl 1 1 0 m2.length m2.length])], 4, .b (kpB m1 m2 x.toNat), ⟨by rfl, trivial, by simp [eqFr, eqHp, eqV, eqA, eqC, eqO, eqCs, eqAs, look_cons, look, rn, EK.cast, EK.sz, eqCaps]⟩, ?_, rfl, rfl⟩
    simp_all [eqV, eqA, eqC, kpB, EK.dflt]

/-- What comes out: 0 final, 1 arcs. -/
def OutPost (st start : Int) (fin : List Int) (arcs : List Arc) (n : Nat) (v : SV) (s : S) : Prop := ∃ sp sq, v = .a (.agg [.i st, .i start, .sl n 1 0 fin.length (fin.length + sp), .sl (n + 1) 5 0 arcs.length (arcs.length + sq)]) ∧ s = ⟨[], [(n, .arr true 3 .int fin sp), (n + 1, .arr true 47 .arc arcs sq)], n + 2⟩

theorem nothing_c : Ct Try.prog 128 [] [] [] 0 (OutPost 1 0 [-1] [] 0) := by
  refine ctW Try.tyOk 1 [] Try.func128 rfl (by simp [SV.lt, SA.lt, SC.lt, arcV, fV]) (by simp) (fr := []) rfl ?_
  repeat' (first | exact rfl | ((conv => whnf); first | ((first | refine qA (fun h => ?_) fun h => ?_ | refine qN (fun h => ?_) fun h => ?_ | refine qB (fun h => ?_) fun h => ?_ | refine qC (fun h => ?_) fun h => ?_) <;> try exact absurd h (by omega)) | refine qM (fun h => ?_) fun h => ?_ | refine oM (by (first | omega | (simp only [lenS, InI, nmin, EK.sz]; omega) | (simp only [lenS, InI, nmin, EK.sz] at *; omega))) ?_ | refine oM ?_ ?_ | refine bM ?_ ?_ | refine draw_of Try.mixed Try.tyOk 60 (by kernel_rfl) ?_))
  (conv => whnf)
  exact ⟨[(0, some 1), (1, none)], [(0, .arr true 3 .int [-1] 0), (1, .arr true 47 .arc [] 0)], 2, .a (.agg [.i 1, .i 0, .sl 0 1 0 1 1, .sl 1 5 0 0 0]), ⟨by rfl, trivial, by simp [eqFr, eqHp, eqV, eqA, eqC, eqO, eqCs, eqAs, look_cons, look, rn, EK.cast, EK.sz, eqCaps, nilO]⟩, by simp [eqV, eqA, eqAs, eqC, eqCs, rn, look, look_cons, EK.sz], 0, 0, rfl, rfl⟩

/-- How many are kept below k. -/
def rkB (p : Nat → Bool) : Nat → Nat
  | 0 => 0
  | k + 1 => if p k = true then rkB p k + 1 else rkB p k

/-- What they tell. -/
def kfin (p : Nat → Bool) (fin : List Int) : Nat → List Int
  | 0 => []
  | k + 1 => if p k = true then kfin p fin k ++ [fin.getD k 0] else kfin p fin k

theorem kfin_len (p : Nat → Bool) (fin : List Int) : ∀ k, (kfin p fin k).length = rkB p k
  | 0 => rfl
  | k + 1 => by
    have := kfin_len p fin k
    unfold kfin rkB
    split <;> simp [this]
theorem rkB_le (p : Nat → Bool) : ∀ k, rkB p k ≤ k
  | 0 => Nat.le_refl _
  | k + 1 => by
    have := rkB_le p k
    unfold rkB
    split <;> omega

def kArc (p : Nat → Bool) (a : Arc) : Arc := ⟨(rkB p a.f.toNat : Nat), a.i, a.o, (rkB p a.t.toNat : Nat), a.w⟩
def kOk (p : Nat → Bool) (a : Arc) : Bool := p a.f.toNat && p a.t.toNat
def karc (p : Nat → Bool) (l : List Arc) : Nat → List Arc
  | 0 => []
  | k + 1 => if kOk p (l.getD k aD) = true then karc p l k ++ [kArc p (l.getD k aD)] else karc p l k

theorem karc_len (p : Nat → Bool) (l : List Arc) : ∀ k, (karc p l k).length ≤ k
  | 0 => Nat.le_refl _
  | k + 1 => by
    have := karc_len p l k
    unfold karc
    split
    · simp; omega
    · omega

abbrev LkI (es : List (Int × Int × Nat)) (p : Nat → Bool) (k : Nat) : Prop := ∀ j : Int, 0 ≤ j → j < k → p j.toNat = true → @lkM EK.int.ty EK.int.ty (EK.instDeq .int) es j = some ((rkB p j.toNat : Nat) : Int)

/-- What Kept answers. -/
def keptPost (F : TF) (p : Nat → Bool) (n : Nat) (v : SV) (s : S) : Prop :=
  if p F.start.toNat = true then OutPost (rkB p F.st.toNat : Nat) (rkB p F.start.toNat : Nat) (kfin p F.fin F.st.toNat) (karc p F.arcs F.arcs.length) n v s else OutPost 1 0 [-1] [] n v s

abbrev hpKe (F : TF) (m1 m2 : List Bool) (n1 n2 : Nat) : List (Nat × SO) := [(0, .arr false 3 .int F.fin 0), (1, .arr false 47 .arc F.arcs 0), (2, .arr false 4 .bool m1 0), (3, .arr false 4 .bool m2 0), (4, .box 45 [.sl 2 1 0 n1 n1]), (5, .box 45 [.sl 3 1 0 n2 n2])]

set_option maxHeartbeats 16000000 in
set_option maxRecDepth 20000 in
theorem kept_c (F : TF) (hF : FRng F) (hs : 0 ≤ F.start ∧ F.start < F.st) (m1 m2 : List Bool) (n1 n2 : Nat) (hn1 : n1 = m1.length) (hn2 : n2 = m2.length) (hm1 : (m1.length : Int) = F.st) (hm2 : (m2.length : Int) = F.st) :
    Ct Try.prog 121 [fV F, .c (.fn 122 [(4, 0), (5, 0)])] [] (hpKe F m1 m2 n1 n2) 6 (keptPost F (kpB m1 m2) 6) := by
  have hst := hF.st
  have hal := hF.arcl
  have hfl := hF.finl
  generalize hp : kpB m1 m2 = p
  refine ctW Try.tyOk 10 [13, 14, 51, 52, 53] Try.func121 rfl (by simp [SV.lt, SA.lt, SC.lt, fV]; omega) (by simp) (fr := [(0, fV F), (1, .c (.fn 122 [(4, 0), (5, 0)]))]) rfl ?_
  repeat' (first | exact rfl | ((conv => whnf); first | ((first | refine qA (fun h => ?_) fun h => ?_ | refine qN (fun h => ?_) fun h => ?_ | refine qB (fun h => ?_) fun h => ?_ | refine qC (fun h => ?_) fun h => ?_) <;> try exact absurd h (by omega)) | refine qM (fun h => ?_) fun h => ?_ | refine oM (by (first | omega | (simp only [lenS, InI, nmin, EK.sz]; omega) | (simp only [lenS, InI, nmin, EK.sz] at *; omega))) ?_ | refine oM ?_ ?_ | refine bM ?_ ?_ | refine draw_of Try.mixed Try.tyOk 60 (by kernel_rfl) ?_))
  (conv => whnf)
  refine loopI (fun z : Nat × Nat × List (Int × Int × Nat) × Nat => ⟨[(1, .c (.fn 122 [(4, 0), (5, 0)])), (2, .c (.ptr 6 0)), (4, .c (.ptr 7 0)), (5, .c (.mp 8)), (6, .c (.ptr 9 0)), (13, .i F.st), (14, .i z.1)],
      hpKe F m1 m2 n1 n2 ++ [(6, .box 25 (fCells F)), (7, .box 25 [.i 0, .i 0, .v (.slice none 0 0), .v (.slice none 0 0)]), (8, .map .int .int z.2.2.1 z.2.2.2), (9, .box 25 [.i (rkB p z.1), .i 0, .sl 10 1 0 (kfin p F.fin z.1).length ((kfin p F.fin z.1).length + z.2.1), .v (.slice none 0 0)]), (10, .arr true 3 .int (kfin p F.fin z.1) z.2.1)], 11⟩)
    (fun z => (z.1 : Int) ≤ F.st ∧ LkI z.2.2.1 p z.1) (fun z => F.st.toNat - z.1) (0, 0, [], 0) [(10, none)] ⟨by rfl, ?_, ?_⟩ ⟨by simp only; omega, fun j h0 h1 => by simp only at h1; omega⟩ ?_
  · simp [eqFr, eqHp, eqV, eqA, eqC, eqO, eqCs, eqAs, look_cons, look, rn, EK.cast, EK.sz, eqCaps]
  · simp [eqFr, eqHp, eqV, eqA, eqC, eqO, eqCs, eqAs, look_cons, look, rn, EK.cast, EK.sz, eqCaps, fCells, nilO, rkB, kfin]
  · rintro ⟨k, sp, es, clk⟩ ⟨hk, hlk⟩
    simp only at hk hlk ⊢
    have hkl := kfin_len p F.fin k
    have hrk := rkB_le p k
    generalize hpl : kfin p F.fin k = pl at hkl ⊢
    repeat' (first | exact rfl | ((conv => whnf); first | ((first | refine qA (fun h => ?_) fun h => ?_ | refine qN (fun h => ?_) fun h => ?_ | refine qB (fun h => ?_) fun h => ?_ | refine qC (fun h => ?_) fun h => ?_) <;> try exact absurd h (by omega)) | refine qM (fun h => ?_) fun h => ?_ | refine oM (by (first | omega | (simp only [lenS, InI, nmin, EK.sz]; omega) | (simp only [lenS, InI, nmin, EK.sz] at *; omega))) ?_ | refine oM ?_ ?_ | refine bM ?_ ?_ | refine draw_of Try.mixed Try.tyOk 60 (by kernel_rfl) ?_))
    · have hk1 : F.st.toNat - (k + 1) < F.st.toNat - k := by omega
      (conv => whnf)
      refine callF (keep1_c m1 m2 n1 n2 hn1 hn2 (k : Int) (by omega) (by omega) (by omega)) [2, 3, 4, 5] Try.call122 rfl (by simp [eqLs, eqL, eqO, eqC, eqCs, rn, renOf, look_cons, look, EK.cast]) (by simp [appN, ptrs, eqVL, eqV, eqA, eqC, eqCs, eqAs, eqCaps, EK.sz, rn, renOf, look_cons, look, arcV, fV]) (by simp [appN, ptrs, SV.lt, SA.lt, SC.lt, arcV, fV, lenN]) ?_
      rintro _ _ ⟨rfl, rfl⟩
      have e0 : 0 + (k : Int).toNat = k := by omega
      rw [hp, Int.toNat_natCast]
      by_cases hpk : p k = true
      · have hr2 : rkB p (k + 1) = rkB p k + 1 := by show (if p k = true then _ else _) = _; rw [if_pos hpk]
        have hkf : kfin p F.fin (k + 1) = pl ++ [F.fin.getD k 0] := by show (if p k = true then _ else _) = _; rw [if_pos hpk, hpl]
        rw [hpk]
        repeat' (first | exact rfl | ((conv => whnf); first | ((first | refine qA (fun h => ?_) fun h => ?_ | refine qN (fun h => ?_) fun h => ?_ | refine qB (fun h => ?_) fun h => ?_ | refine qC (fun h => ?_) fun h => ?_) <;> try exact absurd h (by omega)) | refine qM (fun h => ?_) fun h => ?_ | refine oM (by (first | omega | (simp only [lenS, InI, nmin, EK.sz]; omega) | (simp only [lenS, InI, nmin, EK.sz] at *; omega))) ?_ | refine oM ?_ ?_ | refine bM ?_ ?_ | refine draw_of Try.mixed Try.tyOk 60 (by kernel_rfl) ?_ | intro _))
        (conv => whnf)
        rename_i sp2
        refine ⟨(k + 1, sp2, (@insM EK.int.ty EK.int.ty (EK.instDeq .int) es clk (k : Int) ((rkB p k : Nat) : Int)).1, (@insM EK.int.ty EK.int.ty (EK.instDeq .int) es clk (k : Int) ((rkB p k : Nat) : Int)).2), [(10, some 12)], ⟨by rfl, ?_, ?_⟩, ⟨by simp only; omega, fun j h0 h1 hj => ?_⟩, by simp only; omega⟩
        · simp [eqFr, eqHp, eqV, eqA, eqC, eqO, eqCs, eqAs, look_cons, look, rn, EK.cast, EK.sz, eqCaps]
        · simp [eqFr, eqHp, eqV, eqA, eqC, eqO, eqCs, eqAs, look_cons, look, rn, EK.cast, EK.sz, eqCaps, hkf, hr2, EK.dflt, e0, fCells]
          simp [app_one]
        · rw [lkM_insM]
          by_cases ej : j = k
          · rw [if_pos ej, ej, Int.toNat_natCast]
          · rw [if_neg ej]
            exact hlk j h0 (by simp only at h1; omega) hj
      · have hr2 : rkB p (k + 1) = rkB p k := by show (if p k = true then _ else _) = _; rw [if_neg hpk]
        have hkf : kfin p F.fin (k + 1) = pl := by show (if p k = true then _ else _) = _; rw [if_neg hpk, hpl]
        have hpk2 : p k = false := by simpa using hpk
        rw [hpk2]
        repeat' (first | exact rfl | ((conv => whnf); first | ((first | refine qA (fun h => ?_) fun h => ?_ | refine qN (fun h => ?_) fun h => ?_ | refine qB (fun h => ?_) fun h => ?_ | refine qC (fun h => ?_) fun h => ?_) <;> try exact absurd h (by omega)) | refine qM (fun h => ?_) fun h => ?_ | refine oM (by (first | omega | (simp only [lenS, InI, nmin, EK.sz]; omega) | (simp only [lenS, InI, nmin, EK.sz] at *; omega))) ?_ | refine oM ?_ ?_ | refine bM ?_ ?_ | refine draw_of Try.mixed Try.tyOk 60 (by kernel_rfl) ?_ | intro _))
        (conv => whnf)
        refine ⟨(k + 1, sp, es, clk), [], ⟨by rfl, ?_, ?_⟩, ⟨by simp only; omega, fun j h0 h1 hj => ?_⟩, by simp only; omega⟩
        · simp [eqFr, eqHp, eqV, eqA, eqC, eqO, eqCs, eqAs, look_cons, look, rn, EK.cast, EK.sz, eqCaps]
        · simp [eqFr, eqHp, eqV, eqA, eqC, eqO, eqCs, eqAs, look_cons, look, rn, EK.cast, EK.sz, eqCaps, hkf, hr2, fCells]
        · by_cases ej : j = k
          · rw [ej, Int.toNat_natCast, hpk2] at hj; cases hj
          · exact hlk j h0 (by simp only at h1; omega) hj
    · have e : k = F.st.toNat := by omega
      subst e
      subst hpl
      repeat' (first | exact rfl | ((conv => whnf); first | ((first | refine qA (fun h => ?_) fun h => ?_ | refine qN (fun h => ?_) fun h => ?_ | refine qB (fun h => ?_) fun h => ?_ | refine qC (fun h => ?_) fun h => ?_) <;> try exact absurd h (by omega)) | refine qM (fun h => ?_) fun h => ?_ | refine oM (by (first | omega | (simp only [lenS, InI, nmin, EK.sz]; omega) | (simp only [lenS, InI, nmin, EK.sz] at *; omega))) ?_ | refine oM ?_ ?_ | refine bM ?_ ?_ | refine draw_of Try.mixed Try.tyOk 60 (by kernel_rfl) ?_))
      (conv => whnf)
      refine callF (keep1_c m1 m2 n1 n2 hn1 hn2 F.start (by omega) (by omega) (by omega)) [2, 3, 4, 5] Try.call122 rfl (by simp [eqLs, eqL, eqO, eqC, eqCs, rn, renOf, look_cons, look, EK.cast]) (by simp [appN, ptrs, eqVL, eqV, eqA, eqC, eqCs, eqAs, eqCaps, EK.sz, rn, renOf, look_cons, look, arcV, fV]) (by simp [appN, ptrs, SV.lt, SA.lt, SC.lt, arcV, fV, lenN]) ?_
      rintro _ _ ⟨rfl, rfl⟩
      rw [hp]
      by_cases hps : p F.start.toNat = true
      · have hl0 := hlk F.start hs.1 (by omega) hps
        rw [hps]
        repeat' (first | exact rfl | ((conv => whnf); first | ((first | refine qA (fun h => ?_) fun h => ?_ | refine qN (fun h => ?_) fun h => ?_ | refine qB (fun h => ?_) fun h => ?_ | refine qC (fun h => ?_) fun h => ?_) <;> try exact absurd h (by omega)) | refine qM (fun h => ?_) fun h => ?_ | refine oM (by (first | omega | (simp only [lenS, InI, nmin, EK.sz]; omega) | (simp only [lenS, InI, nmin, EK.sz] at *; omega))) ?_ | refine oM ?_ ?_ | refine bM ?_ ?_ | refine draw_of Try.mixed Try.tyOk 60 (by kernel_rfl) ?_ | intro _))
        (conv => whnf)
        refine loopI (fun z : Nat × Nat => ⟨[(1, .c (.fn 122 [(4, 0), (5, 0)])), (2, .c (.ptr 6 0)), (4, .c (.ptr 7 0)), (5, .c (.mp 8)), (6, .c (.ptr 9 0)), (51, .c (.sl 1 5 0 F.arcs.length F.capA)), (52, .i F.arcs.length), (53, .i z.1)],
            hpKe F m1 m2 n1 n2 ++ [(6, .box 25 (fCells F)), (7, .box 25 [.i 0, .i 0, .v (.slice none 0 0), .v (.slice none 0 0)]), (8, .map .int .int es clk), (9, .box 25 [.i (rkB p F.st.toNat), .i (rkB p F.start.toNat), .sl 10 1 0 (kfin p F.fin F.st.toNat).length ((kfin p F.fin F.st.toNat).length + sp), .sl 11 5 0 (karc p F.arcs z.1).length ((karc p F.arcs z.1).length + z.2)]), (10, .arr true 3 .int (kfin p F.fin F.st.toNat) sp), (11, .arr true 47 .arc (karc p F.arcs z.1) z.2)], 12⟩)
          (fun z => z.1 ≤ F.arcs.length) (fun z => F.arcs.length - z.1) (0, 0) [(11, none)] ⟨by rfl, ?_, ?_⟩ (Nat.zero_le _) ?_
        · simp [eqFr, eqHp, eqV, eqA, eqC, eqO, eqCs, eqAs, look_cons, look, rn, EK.cast, EK.sz, eqCaps]
        · simp [eqFr, eqHp, eqV, eqA, eqC, eqO, eqCs, eqAs, look_cons, look, rn, EK.cast, EK.sz, eqCaps, fCells, nilO, karc, hl0]
        · rintro ⟨k, sq⟩ hk2
          simp only at hk2 ⊢
          have hlen := karc_len p F.arcs k
          repeat' (first | exact rfl | ((conv => whnf); first | ((first | refine qA (fun h => ?_) fun h => ?_ | refine qN (fun h => ?_) fun h => ?_ | refine qB (fun h => ?_) fun h => ?_ | refine qC (fun h => ?_) fun h => ?_) <;> try exact absurd h (by omega)) | refine qM (fun h => ?_) fun h => ?_ | refine oM (by (first | omega | (simp only [lenS, InI, nmin, EK.sz]; omega) | (simp only [lenS, InI, nmin, EK.sz] at *; omega))) ?_ | refine oM ?_ ?_ | refine bM ?_ ?_ | refine draw_of Try.mixed Try.tyOk 60 (by kernel_rfl) ?_))
          · have e0 : 0 + (k : Int).toNat = k := by omega
            have hb := hF.arc _ (getD_mem F.arcs k aD (by omega))
            rw [← e0] at hb
            generalize hax : F.arcs.getD (0 + (k : Int).toNat) aD = ax at hb
            have hax0 : F.arcs.getD k aD = ax := by rw [← hax, e0]
            have hax2 : F.arcs.getD (0 + (k : Int).toNat) EK.arc.dflt = ax := hax
            rw [hax2]
            (conv => whnf)
            refine callF (keep1_c m1 m2 n1 n2 hn1 hn2 ax.f (by omega) (by omega) (by omega)) [2, 3, 4, 5] Try.call122 rfl (by simp [eqLs, eqL, eqO, eqC, eqCs, rn, renOf, look_cons, look, EK.cast]) (by simp [appN, ptrs, eqVL, eqV, eqA, eqC, eqCs, eqAs, eqCaps, EK.sz, rn, renOf, look_cons, look, arcV, fV]) (by simp [appN, ptrs, SV.lt, SA.lt, SC.lt, arcV, fV, lenN]) ?_
            rintro _ _ ⟨rfl, rfl⟩
            rw [hp]
            have hks : karc p F.arcs (k + 1) = if kOk p ax = true then karc p F.arcs k ++ [kArc p ax] else karc p F.arcs k := by
              show (if kOk p (F.arcs.getD k aD) = true then _ else _) = _
              rw [hax0]
            by_cases hpf : p ax.f.toNat = true
            · rw [hpf]
              repeat' (first | exact rfl | ((conv => whnf); first | ((first | refine qA (fun h => ?_) fun h => ?_ | refine qN (fun h => ?_) fun h => ?_ | refine qB (fun h => ?_) fun h => ?_ | refine qC (fun h => ?_) fun h => ?_) <;> try exact absurd h (by omega)) | refine qM (fun h => ?_) fun h => ?_ | refine oM (by (first | omega | (simp only [lenS, InI, nmin, EK.sz]; omega) | (simp only [lenS, InI, nmin, EK.sz] at *; omega))) ?_ | refine oM ?_ ?_ | refine bM ?_ ?_ | refine draw_of Try.mixed Try.tyOk 60 (by kernel_rfl) ?_ | intro _))
              (conv => whnf)
              refine callF (keep1_c m1 m2 n1 n2 hn1 hn2 ax.t (by omega) (by omega) (by omega)) [2, 3, 4, 5] Try.call122 rfl (by simp [eqLs, eqL, eqO, eqC, eqCs, rn, renOf, look_cons, look, EK.cast]) (by simp [appN, ptrs, eqVL, eqV, eqA, eqC, eqCs, eqAs, eqCaps, EK.sz, rn, renOf, look_cons, look, arcV, fV]) (by simp [appN, ptrs, SV.lt, SA.lt, SC.lt, arcV, fV, lenN]) ?_
              rintro _ _ ⟨rfl, rfl⟩
              rw [hp]
              by_cases hpt : p ax.t.toNat = true
              · rw [hpt]
                have hl1 := hlk ax.f hb.1 (by omega) hpf
                have hl2 := hlk ax.t hb.2.2.1 (by omega) hpt
                rw [if_pos (by unfold kOk; rw [hpf, hpt]; rfl)] at hks
                repeat' (first | exact rfl | ((conv => whnf); first | ((first | refine qA (fun h => ?_) fun h => ?_ | refine qN (fun h => ?_) fun h => ?_ | refine qB (fun h => ?_) fun h => ?_ | refine qC (fun h => ?_) fun h => ?_) <;> try exact absurd h (by omega)) | refine qM (fun h => ?_) fun h => ?_ | refine oM (by (first | omega | (simp only [lenS, InI, nmin, EK.sz]; omega) | (simp only [lenS, InI, nmin, EK.sz] at *; omega))) ?_ | refine oM ?_ ?_ | refine bM ?_ ?_ | refine draw_of Try.mixed Try.tyOk 60 (by kernel_rfl) ?_ | intro _))
                (conv => whnf)
                rename_i sp2
                rw [hl1, hl2]
                refine ⟨(k + 1, sp2), [(11, some 14)], ⟨by rfl, ?_, ?_⟩, by simp only; omega, by simp only; omega⟩
                · simp [eqFr, eqHp, eqV, eqA, eqC, eqO, eqCs, eqAs, look_cons, look, rn, EK.cast, EK.sz, eqCaps]
                · simp [eqFr, eqHp, eqV, eqA, eqC, eqO, eqCs, eqAs, look_cons, look, rn, EK.cast, EK.sz, eqCaps, hks, fCells]
                  exact (app_one (karc p F.arcs k) _ (kArc p ax) rfl).symm
              · have hpt2 : p ax.t.toNat = false := by simpa using hpt
                rw [hpt2]
                rw [if_neg (by unfold kOk; rw [hpt2]; simp)] at hks
                repeat' (first | exact rfl | ((conv => whnf); first | ((first | refine qA (fun h => ?_) fun h => ?_ | refine qN (fun h => ?_) fun h => ?_ | refine qB (fun h => ?_) fun h => ?_ | refine qC (fun h => ?_) fun h => ?_) <;> try exact absurd h (by omega)) | refine qM (fun h => ?_) fun h => ?_ | refine oM (by (first | omega | (simp only [lenS, InI, nmin, EK.sz]; omega) | (simp only [lenS, InI, nmin, EK.sz] at *; omega))) ?_ | refine oM ?_ ?_ | refine bM ?_ ?_ | refine draw_of Try.mixed Try.tyOk 60 (by kernel_rfl) ?_ | intro _))
                (conv => whnf)
                refine ⟨(k + 1, sq), [], ⟨by rfl, ?_, ?_⟩, by simp only; omega, by simp only; omega⟩
                · simp [eqFr, eqHp, eqV, eqA, eqC, eqO, eqCs, eqAs, look_cons, look, rn, EK.cast, EK.sz, eqCaps]
                · simp [eqFr, eqHp, eqV, eqA, eqC, eqO, eqCs, eqAs, look_cons, look, rn, EK.cast, EK.sz, eqCaps, hks, fCells]
            · have hpf2 : p ax.f.toNat = false := by simpa using hpf
              rw [hpf2]
              rw [if_neg (by unfold kOk; rw [hpf2]; simp)] at hks
              repeat' (first | exact rfl | ((conv => whnf); first | ((first | refine qA (fun h => ?_) fun h => ?_ | refine qN (fun h => ?_) fun h => ?_ | refine qB (fun h => ?_) fun h => ?_ | refine qC (fun h => ?_) fun h => ?_) <;> try exact absurd h (by omega)) | refine qM (fun h => ?_) fun h => ?_ | refine oM (by (first | omega | (simp only [lenS, InI, nmin, EK.sz]; omega) | (simp only [lenS, InI, nmin, EK.sz] at *; omega))) ?_ | refine oM ?_ ?_ | refine bM ?_ ?_ | refine draw_of Try.mixed Try.tyOk 60 (by kernel_rfl) ?_ | intro _))
              (conv => whnf)
              refine ⟨(k + 1, sq), [], ⟨by rfl, ?_, ?_⟩, by simp only; omega, by simp only; omega⟩
              · simp [eqFr, eqHp, eqV, eqA, eqC, eqO, eqCs, eqAs, look_cons, look, rn, EK.cast, EK.sz, eqCaps]
              · simp [eqFr, eqHp, eqV, eqA, eqC, eqO, eqCs, eqAs, look_cons, look, rn, EK.cast, EK.sz, eqCaps, hks, fCells]
          · have e : k = F.arcs.length := by omega
            subst e
            repeat' (first | exact rfl | ((conv => whnf); first | ((first | refine qA (fun h => ?_) fun h => ?_ | refine qN (fun h => ?_) fun h => ?_ | refine qB (fun h => ?_) fun h => ?_ | refine qC (fun h => ?_) fun h => ?_) <;> try exact absurd h (by omega)) | refine qM (fun h => ?_) fun h => ?_ | refine oM (by (first | omega | (simp only [lenS, InI, nmin, EK.sz]; omega) | (simp only [lenS, InI, nmin, EK.sz] at *; omega))) ?_ | refine oM ?_ ?_ | refine bM ?_ ?_ | refine draw_of Try.mixed Try.tyOk 60 (by kernel_rfl) ?_ | intro _))
            (conv => whnf)
            refine ⟨[(6, some 10), (7, some 11)], [(6, .arr true 3 .int (kfin p F.fin F.st.toNat) sp), (7, .arr true 47 .arc (karc p F.arcs F.arcs.length) sq)], 8, .a (.agg [.i (rkB p F.st.toNat : Nat), .i (rkB p F.start.toNat : Nat), .sl 6 1 0 (kfin p F.fin F.st.toNat).length ((kfin p F.fin F.st.toNat).length + sp), .sl 7 5 0 (karc p F.arcs F.arcs.length).length ((karc p F.arcs F.arcs.length).length + sq)]), ⟨by rfl, trivial, by simp [eqFr, eqHp, eqV, eqA, eqC, eqO, eqCs, eqAs, look_cons, look, rn, EK.cast, EK.sz, eqCaps]⟩, by simp [eqV, eqA, eqAs, eqC, eqCs, rn, look, look_cons, EK.sz], ?_⟩
            unfold keptPost
            rw [if_pos hps]
            exact ⟨sp, sq, rfl, rfl⟩
      · have hpk2 : p F.start.toNat = false := by simpa using hps
        rw [hpk2]
        repeat' (first | exact rfl | ((conv => whnf); first | ((first | refine qA (fun h => ?_) fun h => ?_ | refine qN (fun h => ?_) fun h => ?_ | refine qB (fun h => ?_) fun h => ?_ | refine qC (fun h => ?_) fun h => ?_) <;> try exact absurd h (by omega)) | refine qM (fun h => ?_) fun h => ?_ | refine oM (by (first | omega | (simp only [lenS, InI, nmin, EK.sz]; omega) | (simp only [lenS, InI, nmin, EK.sz] at *; omega))) ?_ | refine oM ?_ ?_ | refine bM ?_ ?_ | refine draw_of Try.mixed Try.tyOk 60 (by kernel_rfl) ?_ | intro _))
        (conv => whnf)
        refine callF (nothing_c) [] Try.call128 rfl (by simp [eqLs, eqL, eqO, eqC, eqCs, rn, renOf, look_cons, look, EK.cast]) (by simp [appN, ptrs, eqVL, eqV, eqA, eqC, eqCs, eqAs, eqCaps, EK.sz, rn, renOf, look_cons, look, arcV, fV]) (by simp [appN, ptrs, SV.lt, SA.lt, SC.lt, arcV, fV, lenN]) ?_
        rintro _ _ ⟨sp3, sq3, rfl, rfl⟩
        repeat' (first | exact rfl | ((conv => whnf); first | ((first | refine qA (fun h => ?_) fun h => ?_ | refine qN (fun h => ?_) fun h => ?_ | refine qB (fun h => ?_) fun h => ?_ | refine qC (fun h => ?_) fun h => ?_) <;> try exact absurd h (by omega)) | refine qM (fun h => ?_) fun h => ?_ | refine oM (by (first | omega | (simp only [lenS, InI, nmin, EK.sz]; omega) | (simp only [lenS, InI, nmin, EK.sz] at *; omega))) ?_ | refine oM ?_ ?_ | refine bM ?_ ?_ | refine draw_of Try.mixed Try.tyOk 60 (by kernel_rfl) ?_ | intro _))
        (conv => whnf)
        refine ⟨[(6, some 11), (7, some 12)], [(6, .arr true 3 .int [-1] sp3), (7, .arr true 47 .arc [] sq3)], 8, .a (.agg [.i 1, .i 0, .sl 6 1 0 [(-1 : Int)].length ([(-1 : Int)].length + sp3), .sl 7 5 0 ([] : List Arc).length (([] : List Arc).length + sq3)]), ⟨by rfl, trivial, by simp [eqFr, eqHp, eqV, eqA, eqC, eqO, eqCs, eqAs, look_cons, look, rn, EK.cast, EK.sz, eqCaps]⟩, by simp [eqV, eqA, eqAs, eqC, eqCs, rn, look, look_cons, EK.sz], ?_⟩
        unfold keptPost
        rw [if_neg hps]
        exact ⟨sp3, sq3, rfl, rfl⟩

/-- What is kept. -/
def kT (F : TF) (p : Nat → Bool) : TF := if p F.start.toNat = true then ⟨(rkB p F.st.toNat : Nat), (rkB p F.start.toNat : Nat), kfin p F.fin F.st.toNat, karc p F.arcs F.arcs.length, 0, 0⟩ else ⟨1, 0, [-1], [], 0, 0⟩

theorem keptPost_iff {F : TF} {p : Nat → Bool} {n : Nat} {v : SV} {s : S} : keptPost F p n v s ↔ OutPost (kT F p).st (kT F p).start (kT F p).fin (kT F p).arcs n v s := by
  unfold keptPost kT
  split <;> exact Iff.rfl

/-- Useful: reached from the start, and some end reached from it. -/
structure UsOk (F : TF) (p : Nat → Bool) : Prop where
  iff : ∀ j, j < F.st.toNat → (p j = true ↔ Rch F.arcs false [F.start] j ∧ ∃ e : Nat, e < F.st.toNat ∧ F.fin.getD e 0 ≠ -1 ∧ Rch F.arcs true [(e : Int)] j)

/-- The ends below k. -/
def endL (fin : List Int) : Nat → List Int
  | 0 => []
  | k + 1 => if fin.getD k 0 ≠ -1 then endL fin k ++ [(k : Int)] else endL fin k
theorem endL_len (fin : List Int) : ∀ k, (endL fin k).length ≤ k
  | 0 => Nat.le_refl _
  | k + 1 => by
    have := endL_len fin k
    unfold endL
    split
    · simp; omega
    · omega
theorem mem_endL {fin : List Int} {x : Int} : ∀ k, x ∈ endL fin k ↔ ∃ e : Nat, e < k ∧ fin.getD e 0 ≠ -1 ∧ x = e
  | 0 => by simp [endL]
  | k + 1 => by
    have ih := mem_endL (fin := fin) (x := x) k
    unfold endL
    split
    · rename_i h
      rw [List.mem_append, ih, List.mem_singleton]
      constructor
      · rintro (⟨e, h1, h2⟩ | rfl)
        · exact ⟨e, by omega, h2⟩
        · exact ⟨k, by omega, h, rfl⟩
      · rintro ⟨e, h1, h2, h3⟩
        by_cases q : e = k
        · subst q; exact .inr h3
        · exact .inl ⟨e, by omega, h2, h3⟩
    · rename_i h
      rw [ih]
      constructor
      · rintro ⟨e, h1, h2⟩
        exact ⟨e, by omega, h2⟩
      · rintro ⟨e, h1, h2, h3⟩
        by_cases q : e = k
        · subst q; exact absurd h2 h
        · exact ⟨e, by omega, h2, h3⟩
theorem rch_some {l : List Arc} {bk : Bool} {first : List Int} {x : Int} : Rch l bk first x ↔ ∃ e ∈ first, Rch l bk [e] x := by
  constructor
  · intro h
    induction h with
    | here h => exact ⟨_, h, .here (by simp)⟩
    | on h ha hs ih =>
      obtain ⟨e, he, hr⟩ := ih
      exact ⟨e, he, .on hr ha hs⟩
  · rintro ⟨e, he, h⟩
    induction h with
    | here h => rw [List.mem_singleton] at h; subst h; exact .here he
    | on h ha hs ih => exact .on ih ha hs
end Go.Fw

namespace Go.Fw
open Go Go.Proofs

set_option maxHeartbeats 16000000 in
set_option maxRecDepth 20000 in
theorem useful_c (F : TF) (hF : FRng F) (hs : 0 ≤ F.start ∧ F.start < F.st) :
    Ct Try.prog 91 [fV F] [] (hpF F) 2 (fun v s => ∃ p, UsOk F p ∧ OutPost (kT F p).st (kT F p).start (kT F p).fin (kT F p).arcs 2 v s) := by
  have hst := hF.st
  have hal := hF.arcl
  have hfl := hF.finl
  refine ctW Try.tyOk 8 [9, 10, 11] Try.func91 rfl (by simp [SV.lt, SA.lt, SC.lt, arcV, fV]) (by simp) (fr := [(0, fV F)]) rfl ?_
  repeat' (first | exact rfl | ((conv => whnf); first | ((first | refine qA (fun h => ?_) fun h => ?_ | refine qN (fun h => ?_) fun h => ?_ | refine qB (fun h => ?_) fun h => ?_ | refine qC (fun h => ?_) fun h => ?_) <;> try exact absurd h (by omega)) | refine qM (fun h => ?_) fun h => ?_ | refine oM (by (first | omega | (simp only [lenS, InI, nmin, EK.sz]; omega) | (simp only [lenS, InI, nmin, EK.sz] at *; omega))) ?_ | refine oM ?_ ?_ | refine bM ?_ ?_ | refine draw_of Try.mixed Try.tyOk 60 (by kernel_rfl) ?_))
  (conv => whnf)
  refine loopI (fun z : Nat × Nat => ⟨[(1, .c (.ptr 2 0)), (2, .c (.ptr 3 0)), (3, .c (.sl 4 1 0 (endL F.fin z.1).length ((endL F.fin z.1).length + z.2))), (9, .c (.sl 0 1 0 F.fin.length F.capF)), (10, .i F.fin.length), (11, .i z.1)],
      hpF F ++ [(2, .box 25 (fCells F)), (3, .box 25 [.i 0, .i 0, .v (.slice none 0 0), .v (.slice none 0 0)]), (4, .arr true 3 .int (endL F.fin z.1) z.2)], 5⟩)
    (fun z => z.1 ≤ F.fin.length) (fun z => F.fin.length - z.1) (0, 0) [(4, none)] ⟨by rfl, ?_, ?_⟩ (Nat.zero_le _) ?_
  · simp [eqFr, eqHp, eqV, eqA, eqC, eqO, eqCs, eqAs, look_cons, look, rn, EK.cast, EK.sz, eqCaps, endL, nilO]
  · simp [eqFr, eqHp, eqV, eqA, eqC, eqO, eqCs, eqAs, look_cons, look, rn, EK.cast, EK.sz, eqCaps, fCells, nilO, endL]
  · rintro ⟨k, sp⟩ hk
    simp only at hk ⊢
    have hkl := endL_len F.fin k
    have e0 : 0 + (k : Int).toNat = k := by omega
    have hks : endL F.fin (k + 1) = if F.fin.getD k 0 ≠ -1 then endL F.fin k ++ [(k : Int)] else endL F.fin k := rfl
    repeat' (first | exact rfl | ((conv => whnf); first | ((first | refine qA (fun h => ?_) fun h => ?_ | refine qN (fun h => ?_) fun h => ?_ | refine qB (fun h => ?_) fun h => ?_ | refine qC (fun h => ?_) fun h => ?_) <;> try exact absurd h (by omega)) | refine qM (fun h => ?_) fun h => ?_ | refine oM (by (first | omega | (simp only [lenS, InI, nmin, EK.sz]; omega) | (simp only [lenS, InI, nmin, EK.sz] at *; omega))) ?_ | refine oM ?_ ?_ | refine bM ?_ ?_))
    · have h3 : F.fin.getD k 0 ≠ -1 := e0 ▸ h
      rw [if_pos h3] at hks
      intro sp2
      repeat' (first | exact rfl | ((conv => whnf); first | ((first | refine qA (fun h => ?_) fun h => ?_ | refine qN (fun h => ?_) fun h => ?_ | refine qB (fun h => ?_) fun h => ?_ | refine qC (fun h => ?_) fun h => ?_) <;> try exact absurd h (by omega)) | refine qM (fun h => ?_) fun h => ?_ | refine oM (by (first | omega | (simp only [lenS, InI, nmin, EK.sz]; omega) | (simp only [lenS, InI, nmin, EK.sz] at *; omega))) ?_ | refine oM ?_ ?_ | refine bM ?_ ?_))
      (conv => whnf)
      refine ⟨(k + 1, sp2), [(4, some 6)], ⟨by rfl, ?_, ?_⟩, by simp only; omega, by simp only; omega⟩
      · simp [eqFr, eqHp, eqV, eqA, eqC, eqO, eqCs, eqAs, look_cons, look, rn, EK.cast, EK.sz, eqCaps, hks]
      · simp [eqFr, eqHp, eqV, eqA, eqC, eqO, eqCs, eqAs, look_cons, look, rn, EK.cast, EK.sz, eqCaps, hks, fCells]
        exact (app_one (endL F.fin k) _ (k : Int) rfl).symm
    · have h3 : F.fin.getD k 0 = -1 := e0 ▸ h
      rw [if_neg (by simpa using h3)] at hks
      (conv => whnf)
      refine ⟨(k + 1, sp), [], ⟨by rfl, ?_, ?_⟩, by simp only; omega, by simp only; omega⟩
      · simp [eqFr, eqHp, eqV, eqA, eqC, eqO, eqCs, eqAs, look_cons, look, rn, EK.cast, EK.sz, eqCaps, hks]
      · simp [eqFr, eqHp, eqV, eqA, eqC, eqO, eqCs, eqAs, look_cons, look, rn, EK.cast, EK.sz, eqCaps, hks, fCells]
    · have e : k = F.fin.length := by omega
      subst e
      have hst2 : (F.st.toNat : Int) = F.st := by omega
      have hn2 : F.fin.length = F.st.toNat := by omega
      have hx1 : ∀ x ∈ [F.start], 0 ≤ x ∧ x < (F.st.toNat : Nat) := fun x hx => by rw [List.mem_singleton] at hx; subst hx; omega
      have hx2 : ∀ x ∈ endL F.fin F.fin.length, 0 ≤ x ∧ x < (F.st.toNat : Nat) := fun x hx => by
        obtain ⟨e, h1, h2, rfl⟩ := (mem_endL _).1 hx
        omega
      (conv => whnf)
      refine drawCut (fun z : List Bool × List Bool => ⟨[(1, .c (.ptr 2 0)), (2, .c (.ptr 3 0)), (6, .c (.ptr 6 0)), (7, .c (.ptr 7 0))],
        hpF F ++ [(2, .box 25 (fCells F)), (3, .box 25 [.i 0, .i 0, .v (.slice none 0 0), .v (.slice none 0 0)]), (4, .arr true 4 .bool z.1 0), (5, .arr true 4 .bool z.2 0), (6, .box 45 [.sl 4 1 0 z.1.length z.1.length]), (7, .box 45 [.sl 5 1 0 z.2.length z.2.length])], 8⟩)
        (fun z => z.1.length = F.st.toNat ∧ z.2.length = F.st.toNat ∧ (∀ j, j < F.st.toNat → (z.1.getD j false = true ↔ Rch F.arcs false [F.start] j)) ∧ ∀ j, j < F.st.toNat → (z.2.getD j false = true ↔ Rch F.arcs true (endL F.fin F.fin.length) j)) ?_ ?_
      · repeat' (first | exact rfl | ((conv => whnf); first | ((first | refine qA (fun h => ?_) fun h => ?_ | refine qN (fun h => ?_) fun h => ?_ | refine qB (fun h => ?_) fun h => ?_ | refine qC (fun h => ?_) fun h => ?_) <;> try exact absurd h (by omega)) | refine qM (fun h => ?_) fun h => ?_ | refine oM (by (first | omega | (simp only [lenS, InI, nmin, EK.sz]; omega) | (simp only [lenS, InI, nmin, EK.sz] at *; omega))) ?_ | refine oM ?_ ?_ | refine bM ?_ ?_ | refine draw_of Try.mixed Try.tyOk 60 (by kernel_rfl) ?_))
        all_goals
          (conv => whnf)
          first
          | (refine callF (reached_c F hF [F.start] 0 false hx1 (by simp)) [0, 1, 5] Try.call120 rfl ?_ ?_ ?_ ?_; (focus (simp [eqLs, eqL, eqO, eqC, eqCs, rn, renOf, look_cons, look, EK.cast]; done)); (focus (simp [appN, ptrs, eqVL, eqV, eqA, eqC, eqCs, eqAs, eqCaps, EK.sz, rn, renOf, look_cons, look, arcV, fV]; done)); (focus (simp [appN, ptrs, SV.lt, SA.lt, SC.lt, arcV, fV, lenN]; done)))
          | (refine callF (reached_c F hF [F.start] 0 false hx1 (by simp)) [0, 1, 6] Try.call120 rfl ?_ ?_ ?_ ?_; (focus (simp [eqLs, eqL, eqO, eqC, eqCs, rn, renOf, look_cons, look, EK.cast]; done)); (focus (simp [appN, ptrs, eqVL, eqV, eqA, eqC, eqCs, eqAs, eqCaps, EK.sz, rn, renOf, look_cons, look, arcV, fV]; done)); (focus (simp [appN, ptrs, SV.lt, SA.lt, SC.lt, arcV, fV, lenN]; done)))
          | (refine callF (reached_c F hF [F.start] 0 false hx1 (by simp)) [0, 1, 7] Try.call120 rfl ?_ ?_ ?_ ?_; (focus (simp [eqLs, eqL, eqO, eqC, eqCs, rn, renOf, look_cons, look, EK.cast]; done)); (focus (simp [appN, ptrs, eqVL, eqV, eqA, eqC, eqCs, eqAs, eqCaps, EK.sz, rn, renOf, look_cons, look, arcV, fV]; done)); (focus (simp [appN, ptrs, SV.lt, SA.lt, SC.lt, arcV, fV, lenN]; done)))
          rintro _ _ ⟨m1, rfl, rfl, hl1, hr1⟩
          repeat' (first | exact rfl | ((conv => whnf); first | ((first | refine qA (fun h => ?_) fun h => ?_ | refine qN (fun h => ?_) fun h => ?_ | refine qB (fun h => ?_) fun h => ?_ | refine qC (fun h => ?_) fun h => ?_) <;> try exact absurd h (by omega)) | refine qM (fun h => ?_) fun h => ?_ | refine oM (by (first | omega | (simp only [lenS, InI, nmin, EK.sz]; omega) | (simp only [lenS, InI, nmin, EK.sz] at *; omega))) ?_ | refine oM ?_ ?_ | refine bM ?_ ?_ | refine draw_of Try.mixed Try.tyOk 60 (by kernel_rfl) ?_))
          all_goals
            (conv => whnf)
            refine callF (reached_c F hF (endL F.fin F.fin.length) sp true hx2 (by omega)) [0, 1, 4] Try.call120 rfl (by simp [eqLs, eqL, eqO, eqC, eqCs, rn, renOf, look_cons, look, EK.cast]) (by simp [appN, ptrs, eqVL, eqV, eqA, eqC, eqCs, eqAs, eqCaps, EK.sz, rn, renOf, look_cons, look, arcV, fV]) (by simp [appN, ptrs, SV.lt, SA.lt, SC.lt, arcV, fV, lenN]) ?_
            rintro _ _ ⟨m2, rfl, rfl, hl2, hr2⟩
            repeat' (first | exact rfl | ((conv => whnf); first | ((first | refine qA (fun h => ?_) fun h => ?_ | refine qN (fun h => ?_) fun h => ?_ | refine qB (fun h => ?_) fun h => ?_ | refine qC (fun h => ?_) fun h => ?_) <;> try exact absurd h (by omega)) | refine qM (fun h => ?_) fun h => ?_ | refine oM (by (first | omega | (simp only [lenS, InI, nmin, EK.sz]; omega) | (simp only [lenS, InI, nmin, EK.sz] at *; omega))) ?_ | refine oM ?_ ?_ | refine bM ?_ ?_ | refine draw_of Try.mixed Try.tyOk 60 (by kernel_rfl) ?_))
            all_goals
              (conv => whnf)
              first
              | (refine ⟨(m1, m2), [(4, some 8), (5, some 9), (6, some 5), (7, some 6)], ⟨by rfl, ?_, ?_⟩, hl1, hl2, hr1, hr2⟩; (focus (simp [eqFr, eqHp, eqV, eqA, eqC, eqO, eqCs, eqAs, look_cons, look, rn, EK.cast, EK.sz, eqCaps]; done)); (simp [eqFr, eqHp, eqV, eqA, eqC, eqO, eqCs, eqAs, look_cons, look, rn, EK.cast, EK.sz, eqCaps, fCells]; done))
              | (refine ⟨(m1, m2), [(4, some 8), (5, some 9), (6, some 5), (7, some 7)], ⟨by rfl, ?_, ?_⟩, hl1, hl2, hr1, hr2⟩; (focus (simp [eqFr, eqHp, eqV, eqA, eqC, eqO, eqCs, eqAs, look_cons, look, rn, EK.cast, EK.sz, eqCaps]; done)); (simp [eqFr, eqHp, eqV, eqA, eqC, eqO, eqCs, eqAs, look_cons, look, rn, EK.cast, EK.sz, eqCaps, fCells]; done))
              | (refine ⟨(m1, m2), [(4, some 7), (5, some 9), (6, some 5), (7, some 8)], ⟨by rfl, ?_, ?_⟩, hl1, hl2, hr1, hr2⟩; (focus (simp [eqFr, eqHp, eqV, eqA, eqC, eqO, eqCs, eqAs, look_cons, look, rn, EK.cast, EK.sz, eqCaps]; done)); (simp [eqFr, eqHp, eqV, eqA, eqC, eqO, eqCs, eqAs, look_cons, look, rn, EK.cast, EK.sz, eqCaps, fCells]; done))
              | (refine ⟨(m1, m2), [(4, some 7), (5, some 8), (6, some 5), (7, some 9)], ⟨by rfl, ?_, ?_⟩, hl1, hl2, hr1, hr2⟩; (focus (simp [eqFr, eqHp, eqV, eqA, eqC, eqO, eqCs, eqAs, look_cons, look, rn, EK.cast, EK.sz, eqCaps]; done)); (simp [eqFr, eqHp, eqV, eqA, eqC, eqO, eqCs, eqAs, look_cons, look, rn, EK.cast, EK.sz, eqCaps, fCells]; done))
              | (refine ⟨(m1, m2), [(4, some 8), (5, some 9), (6, some 6), (7, some 5)], ⟨by rfl, ?_, ?_⟩, hl1, hl2, hr1, hr2⟩; (focus (simp [eqFr, eqHp, eqV, eqA, eqC, eqO, eqCs, eqAs, look_cons, look, rn, EK.cast, EK.sz, eqCaps]; done)); (simp [eqFr, eqHp, eqV, eqA, eqC, eqO, eqCs, eqAs, look_cons, look, rn, EK.cast, EK.sz, eqCaps, fCells]; done))
              | (refine ⟨(m1, m2), [(4, some 8), (5, some 9), (6, some 6), (7, some 7)], ⟨by rfl, ?_, ?_⟩, hl1, hl2, hr1, hr2⟩; (focus (simp [eqFr, eqHp, eqV, eqA, eqC, eqO, eqCs, eqAs, look_cons, look, rn, EK.cast, EK.sz, eqCaps]; done)); (simp [eqFr, eqHp, eqV, eqA, eqC, eqO, eqCs, eqAs, look_cons, look, rn, EK.cast, EK.sz, eqCaps, fCells]; done))
              | (refine ⟨(m1, m2), [(4, some 7), (5, some 9), (6, some 6), (7, some 8)], ⟨by rfl, ?_, ?_⟩, hl1, hl2, hr1, hr2⟩; (focus (simp [eqFr, eqHp, eqV, eqA, eqC, eqO, eqCs, eqAs, look_cons, look, rn, EK.cast, EK.sz, eqCaps]; done)); (simp [eqFr, eqHp, eqV, eqA, eqC, eqO, eqCs, eqAs, look_cons, look, rn, EK.cast, EK.sz, eqCaps, fCells]; done))
              | (refine ⟨(m1, m2), [(4, some 7), (5, some 8), (6, some 6), (7, some 9)], ⟨by rfl, ?_, ?_⟩, hl1, hl2, hr1, hr2⟩; (focus (simp [eqFr, eqHp, eqV, eqA, eqC, eqO, eqCs, eqAs, look_cons, look, rn, EK.cast, EK.sz, eqCaps]; done)); (simp [eqFr, eqHp, eqV, eqA, eqC, eqO, eqCs, eqAs, look_cons, look, rn, EK.cast, EK.sz, eqCaps, fCells]; done))
              | (refine ⟨(m1, m2), [(4, some 8), (5, some 9), (6, some 7), (7, some 5)], ⟨by rfl, ?_, ?_⟩, hl1, hl2, hr1, hr2⟩; (focus (simp [eqFr, eqHp, eqV, eqA, eqC, eqO, eqCs, eqAs, look_cons, look, rn, EK.cast, EK.sz, eqCaps]; done)); (simp [eqFr, eqHp, eqV, eqA, eqC, eqO, eqCs, eqAs, look_cons, look, rn, EK.cast, EK.sz, eqCaps, fCells]; done))
              | (refine ⟨(m1, m2), [(4, some 8), (5, some 9), (6, some 7), (7, some 6)], ⟨by rfl, ?_, ?_⟩, hl1, hl2, hr1, hr2⟩; (focus (simp [eqFr, eqHp, eqV, eqA, eqC, eqO, eqCs, eqAs, look_cons, look, rn, EK.cast, EK.sz, eqCaps]; done)); (simp [eqFr, eqHp, eqV, eqA, eqC, eqO, eqCs, eqAs, look_cons, look, rn, EK.cast, EK.sz, eqCaps, fCells]; done))
              | (refine ⟨(m1, m2), [(4, some 6), (5, some 9), (6, some 7), (7, some 8)], ⟨by rfl, ?_, ?_⟩, hl1, hl2, hr1, hr2⟩; (focus (simp [eqFr, eqHp, eqV, eqA, eqC, eqO, eqCs, eqAs, look_cons, look, rn, EK.cast, EK.sz, eqCaps]; done)); (simp [eqFr, eqHp, eqV, eqA, eqC, eqO, eqCs, eqAs, look_cons, look, rn, EK.cast, EK.sz, eqCaps, fCells]; done))
              | (refine ⟨(m1, m2), [(4, some 6), (5, some 8), (6, some 7), (7, some 9)], ⟨by rfl, ?_, ?_⟩, hl1, hl2, hr1, hr2⟩; (focus (simp [eqFr, eqHp, eqV, eqA, eqC, eqO, eqCs, eqAs, look_cons, look, rn, EK.cast, EK.sz, eqCaps]; done)); (simp [eqFr, eqHp, eqV, eqA, eqC, eqO, eqCs, eqAs, look_cons, look, rn, EK.cast, EK.sz, eqCaps, fCells]; done))
              | (refine ⟨(m1, m2), [(4, some 7), (5, some 9), (6, some 8), (7, some 5)], ⟨by rfl, ?_, ?_⟩, hl1, hl2, hr1, hr2⟩; (focus (simp [eqFr, eqHp, eqV, eqA, eqC, eqO, eqCs, eqAs, look_cons, look, rn, EK.cast, EK.sz, eqCaps]; done)); (simp [eqFr, eqHp, eqV, eqA, eqC, eqO, eqCs, eqAs, look_cons, look, rn, EK.cast, EK.sz, eqCaps, fCells]; done))
              | (refine ⟨(m1, m2), [(4, some 7), (5, some 9), (6, some 8), (7, some 6)], ⟨by rfl, ?_, ?_⟩, hl1, hl2, hr1, hr2⟩; (focus (simp [eqFr, eqHp, eqV, eqA, eqC, eqO, eqCs, eqAs, look_cons, look, rn, EK.cast, EK.sz, eqCaps]; done)); (simp [eqFr, eqHp, eqV, eqA, eqC, eqO, eqCs, eqAs, look_cons, look, rn, EK.cast, EK.sz, eqCaps, fCells]; done))
              | (refine ⟨(m1, m2), [(4, some 6), (5, some 9), (6, some 8), (7, some 7)], ⟨by rfl, ?_, ?_⟩, hl1, hl2, hr1, hr2⟩; (focus (simp [eqFr, eqHp, eqV, eqA, eqC, eqO, eqCs, eqAs, look_cons, look, rn, EK.cast, EK.sz, eqCaps]; done)); (simp [eqFr, eqHp, eqV, eqA, eqC, eqO, eqCs, eqAs, look_cons, look, rn, EK.cast, EK.sz, eqCaps, fCells]; done))
              | (refine ⟨(m1, m2), [(4, some 6), (5, some 7), (6, some 8), (7, some 9)], ⟨by rfl, ?_, ?_⟩, hl1, hl2, hr1, hr2⟩; (focus (simp [eqFr, eqHp, eqV, eqA, eqC, eqO, eqCs, eqAs, look_cons, look, rn, EK.cast, EK.sz, eqCaps]; done)); (simp [eqFr, eqHp, eqV, eqA, eqC, eqO, eqCs, eqAs, look_cons, look, rn, EK.cast, EK.sz, eqCaps, fCells]; done))
              | (refine ⟨(m1, m2), [(4, some 7), (5, some 8), (6, some 9), (7, some 5)], ⟨by rfl, ?_, ?_⟩, hl1, hl2, hr1, hr2⟩; (focus (simp [eqFr, eqHp, eqV, eqA, eqC, eqO, eqCs, eqAs, look_cons, look, rn, EK.cast, EK.sz, eqCaps]; done)); (simp [eqFr, eqHp, eqV, eqA, eqC, eqO, eqCs, eqAs, look_cons, look, rn, EK.cast, EK.sz, eqCaps, fCells]; done))
              | (refine ⟨(m1, m2), [(4, some 7), (5, some 8), (6, some 9), (7, some 6)], ⟨by rfl, ?_, ?_⟩, hl1, hl2, hr1, hr2⟩; (focus (simp [eqFr, eqHp, eqV, eqA, eqC, eqO, eqCs, eqAs, look_cons, look, rn, EK.cast, EK.sz, eqCaps]; done)); (simp [eqFr, eqHp, eqV, eqA, eqC, eqO, eqCs, eqAs, look_cons, look, rn, EK.cast, EK.sz, eqCaps, fCells]; done))
              | (refine ⟨(m1, m2), [(4, some 6), (5, some 8), (6, some 9), (7, some 7)], ⟨by rfl, ?_, ?_⟩, hl1, hl2, hr1, hr2⟩; (focus (simp [eqFr, eqHp, eqV, eqA, eqC, eqO, eqCs, eqAs, look_cons, look, rn, EK.cast, EK.sz, eqCaps]; done)); (simp [eqFr, eqHp, eqV, eqA, eqC, eqO, eqCs, eqAs, look_cons, look, rn, EK.cast, EK.sz, eqCaps, fCells]; done))
              | (refine ⟨(m1, m2), [(4, some 6), (5, some 7), (6, some 9), (7, some 8)], ⟨by rfl, ?_, ?_⟩, hl1, hl2, hr1, hr2⟩; (focus (simp [eqFr, eqHp, eqV, eqA, eqC, eqO, eqCs, eqAs, look_cons, look, rn, EK.cast, EK.sz, eqCaps]; done)); (simp [eqFr, eqHp, eqV, eqA, eqC, eqO, eqCs, eqAs, look_cons, look, rn, EK.cast, EK.sz, eqCaps, fCells]; done))
      · rintro ⟨m1, m2⟩ ⟨hl1, hl2, hr1, hr2⟩
        simp only at hl1 hl2 hr1 hr2 ⊢
        repeat' (first | exact rfl | ((conv => whnf); first | ((first | refine qA (fun h => ?_) fun h => ?_ | refine qN (fun h => ?_) fun h => ?_ | refine qB (fun h => ?_) fun h => ?_ | refine qC (fun h => ?_) fun h => ?_) <;> try exact absurd h (by omega)) | refine qM (fun h => ?_) fun h => ?_ | refine oM (by (first | omega | (simp only [lenS, InI, nmin, EK.sz]; omega) | (simp only [lenS, InI, nmin, EK.sz] at *; omega))) ?_ | refine oM ?_ ?_ | refine bM ?_ ?_ | refine draw_of Try.mixed Try.tyOk 60 (by kernel_rfl) ?_))
        (conv => whnf)
        refine callF (kept_c F hF hs m1 m2 m1.length m2.length rfl rfl (by omega) (by omega)) [0, 1, 4, 5, 6, 7] Try.call121 rfl (by simp [eqLs, eqL, eqO, eqC, eqCs, rn, renOf, look_cons, look, EK.cast]) (by simp [appN, ptrs, eqVL, eqV, eqA, eqC, eqCs, eqAs, eqCaps, EK.sz, rn, renOf, look_cons, look, arcV, fV]) (by simp [appN, ptrs, SV.lt, SA.lt, SC.lt, arcV, fV, lenN]; omega) ?_
        intro v s hv
        rw [keptPost_iff] at hv
        have hus : UsOk F (kpB m1 m2) := ⟨fun j hj => by
          unfold kpB
          rw [Bool.and_eq_true, hr1 j hj, hr2 j hj, rch_some (bk := true)]
          constructor
          · rintro ⟨h1, x, h2, h3⟩
            obtain ⟨e, h4, h5, rfl⟩ := (mem_endL _).1 h2
            exact ⟨h1, e, by omega, h5, h3⟩
          · rintro ⟨h1, e, h2, h3, h4⟩
            exact ⟨h1, e, (mem_endL _).2 ⟨e, by omega, h3, rfl⟩, h4⟩⟩
        generalize hT : kT F (kpB m1 m2) = T at hv
        obtain ⟨tst, tstart, tfin, tarcs, tc1, tc2⟩ := T
        obtain ⟨sp3, sq3, rfl, rfl⟩ := hv
        simp only at *
        repeat' (first | exact rfl | ((conv => whnf); first | ((first | refine qA (fun h => ?_) fun h => ?_ | refine qN (fun h => ?_) fun h => ?_ | refine qB (fun h => ?_) fun h => ?_ | refine qC (fun h => ?_) fun h => ?_) <;> try exact absurd h (by omega)) | refine qM (fun h => ?_) fun h => ?_ | refine oM (by (first | omega | (simp only [lenS, InI, nmin, EK.sz]; omega) | (simp only [lenS, InI, nmin, EK.sz] at *; omega))) ?_ | refine oM ?_ ?_ | refine bM ?_ ?_ | refine draw_of Try.mixed Try.tyOk 60 (by kernel_rfl) ?_))
        (conv => whnf)
        refine ⟨[(2, some 8), (3, some 9)], [(2, .arr true 3 .int tfin sp3), (3, .arr true 47 .arc tarcs sq3)], 4, .a (.agg [.i tst, .i tstart, .sl 2 1 0 tfin.length (tfin.length + sp3), .sl 3 5 0 tarcs.length (tarcs.length + sq3)]), ⟨by rfl, trivial, by simp [eqFr, eqHp, eqV, eqA, eqC, eqO, eqCs, eqAs, look_cons, look, rn, EK.cast, EK.sz, eqCaps]⟩, by simp [eqV, eqA, eqAs, eqC, eqCs, rn, look, look_cons, EK.sz], kpB m1 m2, hus, ?_⟩
        rw [hT]
        exact ⟨sp3, sq3, rfl, rfl⟩
end Go.Fw
