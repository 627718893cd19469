/- Walks of the functions: what each computes. -/
import Derived.Test.YtlaenllbacalpaaDoorU11
import Derived.Test.YtlaenllbacalpaaDoorU06

set_option linter.unusedSimpArgs false
set_option linter.unusedVariables false

namespace Go.Fw
open Go Go.Proofs

/-- States and arcs that fit together. -/
structure FRng (F : TF) : Prop where
  st : 0 ≤ F.st ∧ F.st ≤ 100000
  finl : (F.fin.length : Int) = F.st
  arcl : F.arcs.length ≤ 100000
  arc : ∀ a ∈ F.arcs, 0 ≤ a.f ∧ a.f < F.st ∧ 0 ≤ a.t ∧ a.t < F.st

theorem FRng.src {F : TF} (h : FRng F) {bk : Bool} {a : Arc} (ha : a ∈ F.arcs) : 0 ≤ srcA bk a ∧ srcA bk a < (F.st.toNat : Nat) ∧ 0 ≤ dstA bk a ∧ dstA bk a < (F.st.toNat : Nat) := by
  have := h.arc a ha
  have := h.st
  unfold srcA dstA
  cases bk <;> simp only [Bool.false_eq_true, if_false, if_true, reduceIte] <;> omega

theorem nxL_app {l : List Arc} {bk : Bool} {k n : Nat} (h : 0 ≤ srcA bk (l.getD k aD)) (i : Nat) : (if i = (srcA bk (l.getD k aD)).toNat then nxL l bk k (srcA bk (l.getD k aD)).toNat ++ [dstA bk (l.getD k aD)] else nxL l bk k i) = nxL l bk (k + 1) i := by
  show _ = if (i : Int) = srcA bk (l.getD k aD) then nxL l bk k i ++ [dstA bk (l.getD k aD)] else nxL l bk k i
  by_cases e : (i : Int) = srcA bk (l.getD k aD)
  · rw [if_pos e, if_pos (by omega), show (srcA bk (l.getD k aD)).toNat = i by omega]
  · rw [if_neg e, if_neg (by omega)]

theorem potR_le {L : Nat → Nat} {ms : List Bool} {B : Nat} (h : ∀ j, L j ≤ B) : ∀ k, potR L ms k ≤ k * B
  | 0 => by simp [potR]
  | k + 1 => by
    have := potR_le (ms := ms) h k
    have := h k
    rw [Nat.succ_mul]
    unfold potR
    split <;> omega

theorem tab2_none (N : Nat) : Tab2 [] (List.replicate N EK.sli.dflt) N fun _ => ([] : List Int) := by
  have e : ∀ j, j < N → (List.replicate N EK.sli.dflt).getD j EK.sli.dflt = EK.sli.dflt := fun j hj => by simp [List.getD, hj]
  refine ⟨by simp, fun j hj => ?_, fun j hj => ?_, fun s t b hs ht hst hb => ?_⟩
  · rewrite [e j hj]; exact (⟨Eq.refl 0, Eq.refl 0⟩ : (0 : Nat) = 0 ∧ (0 : Nat) = 0)
  · rewrite [e j hj]; show rowA [] none = []; rfl
  · rewrite [e s hs] at hb; cases hb

abbrev hpRe (F : TF) (ms : List Bool) (rows : List Sli) (m : List (Addr × List Int × Nat)) : List (Nat × SO) := [(0, .arr false 3 .int F.fin 0), (1, .arr false 50 .arc F.arcs 0), (3, .box 25 (onF F)), (4, .arr true 4 .bool ms 0), (5, .arr true 22 .sli rows 0), (6, .pool 3 .int m)]

set_option maxHeartbeats 16000000 in
set_option maxRecDepth 20000 in
theorem reached_c (F : TF) (hF : FRng F) (xs : List Int) (sp : Nat) (bk : Bool) (hx : ∀ x ∈ xs, 0 ≤ x ∧ x < (F.st.toNat : Nat)) (hxl : xs.length ≤ 1000000) :
    Ct Tryd.prog 84 [fV F, .c (.sl 2 1 0 xs.length (xs.length + sp)), .b bk] [] ((2, .arr true 3 .int xs sp) :: hpF F) 3
    (fun v s => ∃ ms : List Bool, v = .c (.sl 3 1 0 ms.length ms.length) ∧ s = ⟨[], [(3, .arr true 4 .bool ms 0)], 4⟩ ∧ ms.length = F.st.toNat ∧ ∀ j, j < F.st.toNat → (ms.getD j false = true ↔ Rch F.arcs bk xs j)) := by
  have hst := hF.st
  have hal := hF.arcl
  refine ctW Tryd.tyOk 12 [19, 20, 21] Tryd.func84 rfl (by simp [SV.lt, SA.lt, SC.lt, arcV, fV]) (by simp) (fr := [(0, fV F), (1, .c (.sl 2 1 0 xs.length (xs.length + sp))), (2, .b bk)]) rfl ?_
  repeat' (first | exact rfl | ((conv => whnf); first | ((first | refine qA (fun h => ?_) fun h => ?_ | refine qN (fun h => ?_) fun h => ?_ | refine qB (fun h => ?_) fun h => ?_ | refine qC (fun h => ?_) fun h => ?_) <;> try exact absurd h (by omega)) | refine qM (fun h => ?_) fun h => ?_ | refine oM (by (first | omega | (simp only [lenS, InI, nmin, EK.sz]; omega) | (simp only [lenS, InI, nmin, EK.sz] at *; omega))) ?_ | refine oM ?_ ?_ | refine bM ?_ ?_ | refine draw_of Tryd.mixed Tryd.tyOk 60 (by kernel_rfl) ?_))
  (conv => whnf)
  refine loopI (fun z : Nat × List Sli × List (Addr × List Int × Nat) => ⟨[(1, .c (.sl 2 1 0 xs.length (xs.length + sp))), (2, .b bk), (3, .c (.ptr 3 0)), (7, .c (.sl 4 1 0 F.st.toNat F.st.toNat)), (8, .c (.sl 5 1 0 F.st.toNat F.st.toNat)), (19, .c (.sl 1 5 0 F.arcs.length F.capA)), (20, .i F.arcs.length), (21, .i z.1)], (2, .arr true 3 .int xs sp) :: hpRe F (List.replicate F.st.toNat false) z.2.1 z.2.2, 7⟩)
    (fun z => z.1 ≤ F.arcs.length ∧ Tab2 z.2.2 z.2.1 F.st.toNat (nxL F.arcs bk z.1)) (fun z => F.arcs.length - z.1) (0, List.replicate F.st.toNat EK.sli.dflt, []) [(6, none)] ⟨by rfl, ?_, ?_⟩ ⟨Nat.zero_le _, (tab2_none _).cong fun j _ => rfl⟩ ?_
  · simp [eqFr, eqHp, eqV, eqA, eqC, eqO, eqCs, eqAs, look_cons, look, rn, EK.cast, EK.sz, eqCaps]
  · simp [eqFr, eqHp, eqV, eqA, eqC, eqO, eqCs, eqAs, look_cons, look, rn, EK.cast, EK.sz, eqCaps, EK.dflt, nilO]
  · rintro ⟨k, rows, m⟩ ⟨hk, htab⟩
    simp only at hk htab ⊢
    have hrl := htab.len
    (conv => whnf)
    refine condP_dec (fun hk2 => ?_) (fun hk2 => ?_)
    · have e0 : 0 + (k : Int).toNat = k := by omega
      have hm := getD_mem F.arcs k aD (by omega)
      have hb := hF.arc _ hm
      have hsr := hF.src (bk := bk) hm
      have hj : (srcA bk (F.arcs.getD k aD)).toNat < F.st.toNat := by omega
      have hhd := htab.hd _ hj
      have hnl := hhd.len
      rw [htab.row _ hj] at hnl
      have hll := nxL_len (l := F.arcs) (bk := bk) (j := (srcA bk (F.arcs.getD k aD)).toNat) k
      cases bk with
      | true =>
        have hb1 : 0 ≤ (F.arcs.getD (0 + (k : Int).toNat) EK.arc.dflt).t ∧ (F.arcs.getD (0 + (k : Int).toNat) EK.arc.dflt).t < F.st := by rw [e0]; exact ⟨hb.2.2.1, hb.2.2.2⟩
        have hhd1 : Hd m (rows.getD (0 + (F.arcs.getD (0 + (k : Int).toNat) EK.arc.dflt).t.toNat) EK.sli.dflt) := by rw [Nat.zero_add, e0]; exact hhd
        have hnl1 : (rows.getD (0 + (F.arcs.getD (0 + (k : Int).toNat) EK.arc.dflt).t.toNat) EK.sli.dflt).n ≤ k := by rw [Nat.zero_add, e0]; exact hnl ▸ hll
        repeat' (first | exact rfl | ((conv => whnf); first | ((first | refine qA (fun h => ?_) fun h => ?_ | refine qN (fun h => ?_) fun h => ?_ | refine qB (fun h => ?_) fun h => ?_ | refine qC (fun h => ?_) fun h => ?_) <;> try exact absurd h (by omega)) | refine qM (fun h => ?_) fun h => ?_ | refine oM (by (first | omega | (simp only [lenS, InI, nmin, EK.sz]; omega) | (simp only [lenS, InI, nmin, EK.sz] at *; omega))) ?_ | refine oM ?_ ?_ | refine bM ?_ ?_ | refine draw_of Tryd.mixed Tryd.tyOk 60 (by kernel_rfl) ?_))
        · exact ⟨hhd1, by omega, by omega⟩
        · intro m' h' happ
          have happ2 : App m (rows.getD (srcA true (F.arcs.getD k aD)).toNat EK.sli.dflt) [dstA true (F.arcs.getD k aD)] m' h' := by
            rw [Nat.zero_add, e0] at happ
            exact happ
          have htab2 := (htab.app hj happ2).cong fun i _ => nxL_app (n := 0) hsr.1 i
          have es : (srcA true (F.arcs.getD k aD)).toNat = 0 + (F.arcs.getD (0 + (k : Int).toNat) EK.arc.dflt).t.toNat := by rw [Nat.zero_add, e0]; rfl
          rw [es] at htab2
          clear htab happ happ2 hhd hhd1 hnl hnl1
          repeat' (first | exact rfl | ((conv => whnf); first | ((first | refine qA (fun h => ?_) fun h => ?_ | refine qN (fun h => ?_) fun h => ?_ | refine qB (fun h => ?_) fun h => ?_ | refine qC (fun h => ?_) fun h => ?_) <;> try exact absurd h (by omega)) | refine qM (fun h => ?_) fun h => ?_ | refine oM (by (first | omega | (simp only [lenS, InI, nmin, EK.sz]; omega) | (simp only [lenS, InI, nmin, EK.sz] at *; omega))) ?_ | refine oM ?_ ?_ | refine bM ?_ ?_ | refine draw_of Tryd.mixed Tryd.tyOk 60 (by kernel_rfl) ?_))
          (conv => whnf)
          refine ⟨(k + 1, rows.set (0 + (F.arcs.getD (0 + (k : Int).toNat) EK.arc.dflt).t.toNat) h', m'), [], ⟨by rfl, ?_, ?_⟩, ⟨by simp only; omega, htab2⟩, by simp only; omega⟩
          · simp [eqFr, eqHp, eqV, eqA, eqC, eqO, eqCs, eqAs, look_cons, look, rn, EK.cast, EK.sz, eqCaps]
          · simp [eqFr, eqHp, eqV, eqA, eqC, eqO, eqCs, eqAs, look_cons, look, rn, EK.cast, EK.sz, eqCaps]
      | false =>
        have hb1 : 0 ≤ (F.arcs.getD (0 + (k : Int).toNat) EK.arc.dflt).f ∧ (F.arcs.getD (0 + (k : Int).toNat) EK.arc.dflt).f < F.st := by rw [e0]; exact ⟨hb.1, hb.2.1⟩
        have hhd1 : Hd m (rows.getD (0 + (F.arcs.getD (0 + (k : Int).toNat) EK.arc.dflt).f.toNat) EK.sli.dflt) := by rw [Nat.zero_add, e0]; exact hhd
        have hnl1 : (rows.getD (0 + (F.arcs.getD (0 + (k : Int).toNat) EK.arc.dflt).f.toNat) EK.sli.dflt).n ≤ k := by rw [Nat.zero_add, e0]; exact hnl ▸ hll
        repeat' (first | exact rfl | ((conv => whnf); first | ((first | refine qA (fun h => ?_) fun h => ?_ | refine qN (fun h => ?_) fun h => ?_ | refine qB (fun h => ?_) fun h => ?_ | refine qC (fun h => ?_) fun h => ?_) <;> try exact absurd h (by omega)) | refine qM (fun h => ?_) fun h => ?_ | refine oM (by (first | omega | (simp only [lenS, InI, nmin, EK.sz]; omega) | (simp only [lenS, InI, nmin, EK.sz] at *; omega))) ?_ | refine oM ?_ ?_ | refine bM ?_ ?_ | refine draw_of Tryd.mixed Tryd.tyOk 60 (by kernel_rfl) ?_))
        · exact ⟨hhd1, by omega, by omega⟩
        · intro m' h' happ
          have happ2 : App m (rows.getD (srcA false (F.arcs.getD k aD)).toNat EK.sli.dflt) [dstA false (F.arcs.getD k aD)] m' h' := by
            rw [Nat.zero_add, e0] at happ
            exact happ
          have htab2 := (htab.app hj happ2).cong fun i _ => nxL_app (n := 0) hsr.1 i
          have es : (srcA false (F.arcs.getD k aD)).toNat = 0 + (F.arcs.getD (0 + (k : Int).toNat) EK.arc.dflt).f.toNat := by rw [Nat.zero_add, e0]; rfl
          rw [es] at htab2
          clear htab happ happ2 hhd hhd1 hnl hnl1
          repeat' (first | exact rfl | ((conv => whnf); first | ((first | refine qA (fun h => ?_) fun h => ?_ | refine qN (fun h => ?_) fun h => ?_ | refine qB (fun h => ?_) fun h => ?_ | refine qC (fun h => ?_) fun h => ?_) <;> try exact absurd h (by omega)) | refine qM (fun h => ?_) fun h => ?_ | refine oM (by (first | omega | (simp only [lenS, InI, nmin, EK.sz]; omega) | (simp only [lenS, InI, nmin, EK.sz] at *; omega))) ?_ | refine oM ?_ ?_ | refine bM ?_ ?_ | refine draw_of Tryd.mixed Tryd.tyOk 60 (by kernel_rfl) ?_))
          (conv => whnf)
          refine ⟨(k + 1, rows.set (0 + (F.arcs.getD (0 + (k : Int).toNat) EK.arc.dflt).f.toNat) h', m'), [], ⟨by rfl, ?_, ?_⟩, ⟨by simp only; omega, htab2⟩, by simp only; omega⟩
          · simp [eqFr, eqHp, eqV, eqA, eqC, eqO, eqCs, eqAs, look_cons, look, rn, EK.cast, EK.sz, eqCaps]
          · simp [eqFr, eqHp, eqV, eqA, eqC, eqO, eqCs, eqAs, look_cons, look, rn, EK.cast, EK.sz, eqCaps]
    · have e : k = F.arcs.length := by omega
      subst e
      have hL : ∀ j, (nxL F.arcs bk F.arcs.length j).length ≤ 100000 := fun j => Nat.le_trans (nxL_len _) hal
      have hP0 := potR_le (ms := List.replicate F.st.toNat false) hL F.st.toNat
      generalize hpt : potR (fun j => (nxL F.arcs bk F.arcs.length j).length) (List.replicate F.st.toNat false) F.st.toNat = P0 at hP0
      repeat' (first | exact rfl | ((conv => whnf); first | ((first | refine qA (fun h => ?_) fun h => ?_ | refine qN (fun h => ?_) fun h => ?_ | refine qB (fun h => ?_) fun h => ?_ | refine qC (fun h => ?_) fun h => ?_) <;> try exact absurd h (by omega)) | refine qM (fun h => ?_) fun h => ?_ | refine oM (by (first | omega | (simp only [lenS, InI, nmin, EK.sz]; omega) | (simp only [lenS, InI, nmin, EK.sz] at *; omega))) ?_ | refine oM ?_ ?_ | refine bM ?_ ?_ | refine draw_of Tryd.mixed Tryd.tyOk 60 (by kernel_rfl) ?_))
      (conv => whnf)
      refine loopI (fun z : List Int × List Int × Nat × Nat × List Bool => ⟨[(1, .c (.sl 7 1 0 z.1.length z.2.2.2.1)), (7, .c (.sl 4 1 0 F.st.toNat F.st.toNat)), (8, .c (.sl 5 1 0 F.st.toNat F.st.toNat))], (7, .arr true 3 .int (z.1 ++ z.2.1) z.2.2.1) :: hpRe F z.2.2.2.2 rows m, 8⟩)
        (fun z => ChInv F.arcs bk xs F.st.toNat z.2.2.2.2 z.1 ∧ z.2.2.2.1 ≤ z.1.length + z.2.1.length + z.2.2.1 ∧ z.1.length ≤ z.2.2.2.1 ∧ z.1.length + potR (fun j => (nxL F.arcs bk F.arcs.length j).length) z.2.2.2.2 F.st.toNat ≤ xs.length + P0) (fun z => z.1.length + potR (fun j => (nxL F.arcs bk F.arcs.length j).length) z.2.2.2.2 F.st.toNat) (xs, [], sp, xs.length + sp, List.replicate F.st.toNat false) [(7, some 2)] ⟨by rfl, ?_, ?_⟩ ⟨ChInv.start hx, by simp, by simp, by simp only [hpt]; exact Nat.le_refl _⟩ ?_
      · simp [eqFr, eqHp, eqV, eqA, eqC, eqO, eqCs, eqAs, look_cons, look, rn, EK.cast, EK.sz, eqCaps]
      · simp [eqFr, eqHp, eqV, eqA, eqC, eqO, eqCs, eqAs, look_cons, look, rn, EK.cast, EK.sz, eqCaps]
      · rintro ⟨st, junk, sp2, cap, ms⟩ ⟨hinv, hcap, hlc, hpo⟩
        simp only at hinv hcap hlc hpo ⊢
        have hml := hinv.len
        have hP1 : P0 ≤ 10000000000 := by omega
        have hnil : st = [] ∨ ∃ l x, st = l ++ [x] := by
          rcases st.eq_nil_or_concat with h | ⟨l, x, h⟩
          · exact .inl h
          · exact .inr ⟨l, x, by rw [h, List.concat_eq_append]⟩
        rcases hnil with rfl | ⟨st, x, rfl⟩
        · repeat' (first | exact rfl | ((conv => whnf); first | ((first | refine qA (fun h => ?_) fun h => ?_ | refine qN (fun h => ?_) fun h => ?_ | refine qB (fun h => ?_) fun h => ?_ | refine qC (fun h => ?_) fun h => ?_) <;> try exact absurd h (by omega)) | refine qM (fun h => ?_) fun h => ?_ | refine oM (by (first | omega | (simp only [lenS, InI, nmin, EK.sz]; omega) | (simp only [lenS, InI, nmin, EK.sz] at *; omega))) ?_ | refine oM ?_ ?_ | refine bM ?_ ?_ | refine draw_of Tryd.mixed Tryd.tyOk 60 (by kernel_rfl) ?_ | intro _))
          (conv => whnf)
          exact ⟨[(3, some 4)], [(3, .arr true 4 .bool ms 0)], 4, .c (.sl 3 1 0 ms.length ms.length), ⟨by rfl, trivial, by simp [eqFr, eqHp, eqV, eqA, eqC, eqO, eqCs, eqAs, look_cons, look, rn, EK.cast, EK.sz, eqCaps]⟩, by simp [eqV, eqA, eqC, rn, look, hml], ms, rfl, rfl, hml, fun j hj => hinv.done (fun a ha => hF.src ha) hx hj⟩
        · have ee : ((st ++ [x] ++ junk).getD (0 + (((st ++ [x]).length : Int) - 1).toNat) EK.int.dflt) = x := by
            have e1 : 0 + (((st ++ [x]).length : Int) - 1).toNat = st.length := by simp
            rw [e1, List.append_assoc]
            simp [List.getD]
          have hxr := hinv.rng x (by simp)
          have hr0 := @id (@LE.le Int _ 0 ((st ++ [x] ++ junk).getD (0 + (((st ++ [x]).length : Int) - 1).toNat) EK.int.dflt)) (by rw [ee]; exact hxr.1)
          have hr1 := @id (@LT.lt Int _ ((st ++ [x] ++ junk).getD (0 + (((st ++ [x]).length : Int) - 1).toNat) EK.int.dflt) (F.st.toNat : Int)) (by rw [ee]; exact hxr.2)
          have hhd : Hd m (rows.getD (0 + Int.toNat ((st ++ [x] ++ junk).getD (0 + (((st ++ [x]).length : Int) - 1).toNat) EK.int.dflt)) EK.sli.dflt) := htab.hd _ (by omega)
          have hrw : rowA m (rows.getD (0 + Int.toNat ((st ++ [x] ++ junk).getD (0 + (((st ++ [x]).length : Int) - 1).toNat) EK.int.dflt)) EK.sli.dflt).a = nxL F.arcs bk F.arcs.length x.toNat := by rw [htab.row _ (by omega), ee, Nat.zero_add]
          have hnn := hhd.len
          rw [hrw] at hnn
          have hnl := hL x.toNat
          have hsl : (st ++ [x]).length = st.length + 1 := by simp
          have hA : (((st ++ [x]).length : Int) - 1 - 0).toNat = st.length := by simp
          have hsb0 : sub (st ++ [x] ++ junk) 0 st.length = st := by simp [sub]
          have hsb : sub (st ++ [x] ++ junk) (0 + Int.toNat 0) st.length = st := hsb0
          rw [hsl] at hpo hlc hcap
          repeat' (first | exact rfl | ((conv => whnf); first | ((first | refine qA (fun h => ?_) fun h => ?_ | refine qN (fun h => ?_) fun h => ?_ | refine qB (fun h => ?_) fun h => ?_ | refine qC (fun h => ?_) fun h => ?_) <;> try exact absurd h (by omega)) | refine qM (fun h => ?_) fun h => ?_ | refine oM (by (first | omega | (simp only [lenS, InI, nmin, EK.sz]; omega) | (simp only [lenS, InI, nmin, EK.sz] at *; omega))) ?_ | refine oM ?_ ?_ | refine bM ?_ ?_ | refine draw_of Tryd.mixed Tryd.tyOk 60 (by kernel_rfl) ?_))
          · intro sp3
            repeat' (first | exact rfl | ((conv => whnf); first | ((first | refine qA (fun h => ?_) fun h => ?_ | refine qN (fun h => ?_) fun h => ?_ | refine qB (fun h => ?_) fun h => ?_ | refine qC (fun h => ?_) fun h => ?_) <;> try exact absurd h (by omega)) | refine qM (fun h => ?_) fun h => ?_ | refine oM (by (first | omega | (simp only [lenS, InI, nmin, EK.sz]; omega) | (simp only [lenS, InI, nmin, EK.sz] at *; omega))) ?_ | refine oM ?_ ?_ | refine bM ?_ ?_ | refine draw_of Tryd.mixed Tryd.tyOk 60 (by kernel_rfl) ?_))
            (conv => whnf)
            rw [ee, Nat.zero_add] at h
            have hmk2 : ms.getD x.toNat false ≠ true := by
              intro q
              rw [show EK.bool.dflt = false from rfl, q] at h
              cases h
            have hps := potR_set (L := fun j => (nxL F.arcs bk F.arcs.length j).length) (i := x.toNat) (by omega) hmk2 F.st.toNat
            rw [if_pos (by omega)] at hps
            simp only [ee] at hrw hnn
            simp only [hA, ee, hsb, hsb0, hrw, hnn]
            refine ⟨(st ++ nxL F.arcs bk F.arcs.length x.toNat, [], sp3, (st ++ nxL F.arcs bk F.arcs.length x.toNat).length + sp3, ms.set x.toNat true), [(7, some 8)], ⟨by rfl, ?_, ?_⟩, ⟨hinv.mark fun a ha => hF.src ha, ?_, ?_, ?_⟩, ?_⟩
            · simp [eqFr, eqHp, eqV, eqA, eqC, eqO, eqCs, eqAs, look_cons, look, rn, EK.cast, EK.sz, eqCaps, List.length_append]
            · simp [eqFr, eqHp, eqV, eqA, eqC, eqO, eqCs, eqAs, look_cons, look, rn, EK.cast, EK.sz, eqCaps, List.append_nil, lOp.appL]
            all_goals simp only [List.length_append, List.length_cons, List.length_nil] at *
            all_goals omega
          · (conv => whnf)
            rw [ee, Nat.zero_add] at h
            have hmk2 : ms.getD x.toNat false = true := by
              rw [show EK.bool.dflt = false from rfl] at h
              simpa using h
            simp only [hA]
            refine ⟨(st, x :: junk, sp2, cap, ms), [], ⟨by rfl, ?_, ?_⟩, ⟨hinv.pass hmk2, ?_, ?_, ?_⟩, ?_⟩
            · simp [eqFr, eqHp, eqV, eqA, eqC, eqO, eqCs, eqAs, look_cons, look, rn, EK.cast, EK.sz, eqCaps]
            · simp [eqFr, eqHp, eqV, eqA, eqC, eqO, eqCs, eqAs, look_cons, look, rn, EK.cast, EK.sz, eqCaps]
            all_goals simp only [List.length_append, List.length_cons, List.length_nil] at *
            all_goals omega
end Go.Fw

/-
  States without arcs that come to them go, over and over: what is left tells whether a way goes round.
-/
namespace Go.Fw

/-- How many places fit. -/
def cin (n : Nat) (p : Nat → Bool) : Nat := (List.range n).countP p

theorem cin_succ (n : Nat) (p : Nat → Bool) : cin (n + 1) p = cin n p + (if p n = true then 1 else 0) := by
  unfold cin
  rw [List.range_succ, List.countP_append, List.countP_singleton]
theorem cin_le (n : Nat) (p : Nat → Bool) : cin n p ≤ n := by
  have := List.countP_le_length (p := p) (l := List.range n)
  simpa [cin] using this
theorem cin_congr {n : Nat} {p q : Nat → Bool} (h : ∀ i, i < n → p i = q i) : cin n p = cin n q := by
  induction n with
  | zero => rfl
  | succ n ih => rw [cin_succ, cin_succ, ih (fun i hi => h i (by omega)), h n (by omega)]
theorem cin_one {n k : Nat} {p q : Nat → Bool} (hk : k < n) (hp : p k = true) (hq : q k = false) (h : ∀ i, i ≠ k → p i = q i) : cin n p = cin n q + 1 := by
  induction n with
  | zero => omega
  | succ n ih =>
    rw [cin_succ, cin_succ]
    by_cases e : k = n
    · subst e
      rw [cin_congr (p := p) (q := q) fun i hi => h i (by omega), hp, hq]
      simp
    · rw [ih (by omega), h n (fun c => e c.symm)]
      omega
theorem cin_zero {n : Nat} {p : Nat → Bool} : cin n p = 0 ↔ ∀ i, i < n → p i = false := by
  unfold cin
  rw [List.countP_eq_zero]
  constructor
  · intro h i hi
    have := h i (List.mem_range.2 hi)
    simpa using this
  · intro h a ha
    simp [h a (List.mem_range.1 ha)]
theorem cin_all {n : Nat} {p : Nat → Bool} : cin n p = n ↔ ∀ i, i < n → p i = true := by
  induction n with
  | zero => simp [cin]
  | succ n ih =>
    rw [cin_succ]
    have := cin_le n p
    constructor
    · intro h i hi
      by_cases hp : p n = true
      · rw [if_pos hp] at h
        by_cases e : i = n
        · subst e; exact hp
        · exact ih.1 (by omega) i (by omega)
      · rw [if_neg hp] at h; omega
    · intro h
      rw [if_pos (h n (by omega)), ih.2 fun i hi => h i (by omega)]

/-- Does a way of so many arcs end there? -/
def nowB (l : List Arc) : Nat → Int → Bool
  | 0, _ => true
  | k + 1, v => l.any fun a => a.t == v && nowB l k a.f
def roundB (l : List Arc) (n : Nat) : Bool := (List.range n).any fun v => nowB l n (v : Int)

structure Kh (l : List Arc) (n : Nat) (R st : List Int) (c : List Int) : Prop where
  len : c.length = n
  rng : ∀ v ∈ R ++ st, 0 ≤ v ∧ v < n
  nd : (R ++ st).Nodup
  cnt : ∀ v : Nat, v < n → c.getD v 0 = (cin l.length fun i => (l.getD i aD).t == (v : Int) && !decide ((l.getD i aD).f ∈ R) : Nat)
  zer : ∀ v : Nat, v < n → (c.getD v 0 = 0 ↔ (v : Int) ∈ R ++ st)
  top : ∀ a ∈ l, ∀ i : Nat, R[i]? = some a.t → ∃ j : Nat, j < i ∧ R[j]? = some a.f

structure KhM (l : List Arc) (n : Nat) (R : List Int) (x : Int) (st : List Int) (c : List Int) (k : Nat) : Prop where
  len : c.length = n
  rng : ∀ v ∈ R ++ (x :: st), 0 ≤ v ∧ v < n
  nd : (R ++ (x :: st)).Nodup
  cnt : ∀ v : Nat, v < n → c.getD v 0 = (cin l.length fun i => (l.getD i aD).t == (v : Int) && !decide ((l.getD i aD).f ∈ R) && !(decide (i < k) && (l.getD i aD).f == x) : Nat)
  zer : ∀ v : Nat, v < n → (c.getD v 0 = 0 ↔ (v : Int) ∈ R ++ (x :: st))
  top : ∀ a ∈ l, ∀ i : Nat, (R ++ [x])[i]? = some a.t → ∃ j : Nat, j < i ∧ (R ++ [x])[j]? = some a.f

section
variable {l : List Arc} {n : Nat} {R st c : List Int} {x : Int} {k : Nat}

theorem Kh.pop (h : Kh l n R (st ++ [x]) c) : KhM l n R x st c 0 := by
  have hp : (R ++ (st ++ [x])).Perm (R ++ (x :: st)) := List.Perm.append_left R (List.perm_append_comm (l₁ := st) (l₂ := [x]))
  have hx := h.rng x (by simp)
  have hxn : x.toNat < n := by omega
  have hx0 : ((x.toNat : Nat) : Int) = x := by omega
  refine ⟨h.len, fun v hv => h.rng v (hp.mem_iff.2 hv), hp.nodup_iff.1 h.nd, fun v hv => ?_, fun v hv => ?_, fun a ha i hi => ?_⟩
  · rw [h.cnt v hv]
    congr 1
    apply cin_congr
    intro i _
    simp
  · rw [h.zer v hv]; exact hp.mem_iff
  · have hz : c.getD x.toNat 0 = 0 := (h.zer _ hxn).2 (by rw [hx0]; simp)
    rw [h.cnt _ hxn, hx0] at hz
    have hz0 := cin_zero.1 (Int.ofNat_eq_zero.1 hz)
    by_cases hi2 : i < R.length
    · rw [List.getElem?_append_left hi2] at hi
      obtain ⟨j, hj, e⟩ := h.top a ha i hi
      exact ⟨j, hj, by rw [List.getElem?_append_left (by omega)]; exact e⟩
    · have hi3 : i = R.length := by
        have := (List.getElem?_eq_some_iff.1 hi).1
        simp at this
        omega
      subst hi3
      rw [List.getElem?_append_right (Nat.le_refl _)] at hi
      simp only [Nat.sub_self, List.getElem?_cons_zero, Option.some.injEq] at hi
      obtain ⟨j, hj, e⟩ := List.mem_iff_getElem.1 ha
      have := hz0 j hj
      simp only [List.getD, List.getElem?_eq_getElem hj, Option.getD_some, e, hi, beq_self_eq_true, Bool.true_and, Bool.not_eq_false', decide_eq_true_eq] at this
      obtain ⟨m, hm, e2⟩ := List.mem_iff_getElem.1 this
      exact ⟨m, hm, by rw [List.getElem?_append_left hm, List.getElem?_eq_getElem hm, e2]⟩

theorem KhM.other (h : KhM l n R x st c k) (hf : (l.getD k aD).f ≠ x) : KhM l n R x st c (k + 1) := by
  refine ⟨h.len, h.rng, h.nd, fun v hv => ?_, h.zer, h.top⟩
  rw [h.cnt v hv]
  congr 1
  apply cin_congr
  intro i _
  by_cases e : i = k
  · subst e
    simp only [beq_eq_false_iff_ne.2 hf, Bool.and_false]
  · have : decide (i < k + 1) = decide (i < k) := by
      apply decide_eq_decide.2; omega
    rw [this]

theorem KhM.hit (h : KhM l n R x st c k) (hk : k < l.length) (hf : (l.getD k aD).f = x) (ht : 0 ≤ (l.getD k aD).t ∧ (l.getD k aD).t < n) :
    0 < c.getD (l.getD k aD).t.toNat 0 ∧ KhM l n R x (if c.getD (l.getD k aD).t.toNat 0 - 1 = 0 then st ++ [(l.getD k aD).t] else st) (c.set (l.getD k aD).t.toNat (c.getD (l.getD k aD).t.toNat 0 - 1)) (k + 1) := by
  generalize hT : (l.getD k aD).t = t at *
  have htn : t.toNat < n := by omega
  have ht0 : ((t.toNat : Nat) : Int) = t := by omega
  have hxR : x ∉ R := by
    have := h.nd
    rw [List.nodup_append] at this
    intro hx
    exact this.2.2 x hx x (by simp) rfl
  have hc := h.cnt _ htn
  have hone : (cin l.length fun i => (l.getD i aD).t == ((t.toNat : Nat) : Int) && !decide ((l.getD i aD).f ∈ R) && !(decide (i < k) && (l.getD i aD).f == x)) = (cin l.length fun i => (l.getD i aD).t == ((t.toNat : Nat) : Int) && !decide ((l.getD i aD).f ∈ R) && !(decide (i < k + 1) && (l.getD i aD).f == x)) + 1 := by
    apply cin_one hk
    · simp only [hT, ht0, hf, hxR, beq_self_eq_true, decide_false, Bool.not_false, Nat.lt_irrefl, Bool.false_and, Bool.and_self]
    · simp only [hf, beq_self_eq_true, Nat.lt_succ_self, decide_true, Bool.and_self, Bool.not_true, Bool.and_false]
    · intro i hi
      have : decide (i < k + 1) = decide (i < k) := by
        apply decide_eq_decide.2; omega
      rw [this]
  have hpos : 0 < c.getD t.toNat 0 := by rw [hc, hone]; omega
  refine ⟨hpos, ?_⟩
  have hset : ∀ v : Nat, v < n → (c.set t.toNat (c.getD t.toNat 0 - 1)).getD v 0 = if v = t.toNat then c.getD t.toNat 0 - 1 else c.getD v 0 := by
    intro v hv
    simp only [List.getD, List.getElem?_set]
    by_cases e : t.toNat = v
    · subst e; simp [h.len, hv]
    · rw [if_neg e, if_neg (fun x => e x.symm)]
  have htD : t ∉ R ++ (x :: st) := by
    intro hm
    have := (h.zer _ htn).2 (by rw [ht0]; exact hm)
    omega
  have hcnt : ∀ v : Nat, v < n → (c.set t.toNat (c.getD t.toNat 0 - 1)).getD v 0 = (cin l.length fun i => (l.getD i aD).t == (v : Int) && !decide ((l.getD i aD).f ∈ R) && !(decide (i < k + 1) && (l.getD i aD).f == x) : Nat) := by
    intro v hv
    rw [hset v hv]
    by_cases e : v = t.toNat
    · rw [if_pos e, hc, hone, e]; omega
    · rw [if_neg e, h.cnt v hv]
      congr 1
      apply cin_congr
      intro i _
      by_cases e2 : i = k
      · subst e2
        have : ((l.getD i aD).t == (v : Int)) = false := by
          rw [beq_eq_false_iff_ne, hT]; omega
        rw [this]; rfl
      · have : decide (i < k + 1) = decide (i < k) := by
          apply decide_eq_decide.2; omega
        rw [this]
  split
  · rename_i h0
    refine ⟨by simp [h.len], ?_, ?_, hcnt, ?_, h.top⟩
    · intro v hv
      have hv2 : v ∈ (R ++ (x :: st)) ++ [t] := by simpa using hv
      rcases List.mem_append.1 hv2 with hv | hv
      · exact h.rng v hv
      · simp at hv; subst hv; omega
    · have : (R ++ (x :: (st ++ [t]))) = (R ++ (x :: st)) ++ [t] := by simp
      rw [this, List.nodup_append]
      refine ⟨h.nd, by simp, fun a ha b hb => ?_⟩
      simp at hb
      subst hb
      exact fun e => htD (e ▸ ha)
    · intro v hv
      have : (R ++ (x :: (st ++ [t]))) = (R ++ (x :: st)) ++ [t] := by simp
      rw [hset v hv, this, List.mem_append]
      by_cases e : v = t.toNat
      · rw [if_pos e]
        constructor
        · intro _; right; simp; omega
        · intro _; exact h0
      · rw [if_neg e, h.zer v hv]
        constructor
        · intro h; exact .inl h
        · rintro (h | h)
          · exact h
          · simp at h; omega
  · rename_i h0
    refine ⟨by simp [h.len], h.rng, h.nd, hcnt, ?_, h.top⟩
    intro v hv
    rw [hset v hv]
    by_cases e : v = t.toNat
    · rw [if_pos e]
      constructor
      · intro h; exact absurd h h0
      · intro hm; rw [e, ht0] at hm; exact absurd hm htD
    · rw [if_neg e]; exact h.zer v hv

theorem KhM.done (h : KhM l n R x st c l.length) : Kh l n (R ++ [x]) st c := by
  have e : R ++ [x] ++ st = R ++ (x :: st) := by simp
  refine ⟨h.len, fun v hv => h.rng v (by rw [← e]; exact hv), by rw [e]; exact h.nd, fun v hv => ?_, fun v hv => by rw [e]; exact h.zer v hv, h.top⟩
  rw [h.cnt v hv]
  congr 1
  apply cin_congr
  intro i hi
  have : ((l.getD i aD).f ∈ R ++ [x]) ↔ ((l.getD i aD).f ∈ R ∨ (l.getD i aD).f = x) := by simp
  rw [show decide ((l.getD i aD).f ∈ R ++ [x]) = (decide ((l.getD i aD).f ∈ R) || (l.getD i aD).f == x) by
    rw [decide_eq_decide.2 this, Bool.decide_or]; congr 1]
  simp only [hi, decide_true, Bool.true_and, Bool.not_or, Bool.and_assoc]

/-- How many are gone. -/
def goneN (n : Nat) (R : List Int) : Nat := cin n fun v => decide ((v : Int) ∈ R)
theorem goneN_le (n : Nat) (R : List Int) : goneN n R ≤ n := cin_le _ _
theorem gone_cons {n : Nat} {R R' : List Int} {x : Int} (hx : 0 ≤ x ∧ x < n) (hxR : x ∉ R) (hm : ∀ v, v ∈ R' ↔ v ∈ R ∨ v = x) : goneN n R' = goneN n R + 1 := by
  have hx0 : ((x.toNat : Nat) : Int) = x := by omega
  unfold goneN
  apply cin_one (k := x.toNat) (by omega)
  · rw [hx0]; exact decide_eq_true ((hm x).2 (.inr rfl))
  · rw [hx0]; exact decide_eq_false hxR
  · intro i hi
    apply decide_eq_decide.2
    rw [hm]
    constructor
    · rintro (h | h)
      · exact h
      · omega
    · exact .inl
theorem len_gone {n : Nat} : ∀ {R : List Int}, R.Nodup → (∀ v ∈ R, 0 ≤ v ∧ v < n) → R.length = goneN n R
  | [], _, _ => by
    unfold goneN
    rw [cin_zero.2 fun i _ => by simp]
    rfl
  | x :: R, hnd, hr => by
    rw [List.nodup_cons] at hnd
    rw [gone_cons (R := R) (hr x (by simp)) hnd.1 (fun v => by simp [or_comm]), List.length_cons, len_gone hnd.2 fun v hv => hr v (by simp [hv])]
theorem KhM.gone (h : KhM l n R x st c k) : goneN n (R ++ [x]) = goneN n R + 1 := by
  have hx := h.rng x (by simp)
  have hxR : x ∉ R := by
    have := h.nd
    rw [List.nodup_append] at this
    intro hx
    exact this.2.2 x hx x (by simp) rfl
  exact gone_cons hx hxR fun v => by simp

theorem Kh.round (h : Kh l n R [] c) (hr : ∀ a ∈ l, (0 ≤ a.f ∧ a.f < n) ∧ 0 ≤ a.t ∧ a.t < n) : decide (goneN n R < n) = roundB l n := by
  by_cases hg : goneN n R < n
  · rw [decide_eq_true hg]
    have hex : ∃ v, v < n ∧ ((v : Nat) : Int) ∉ R := by
      refine Classical.byContradiction fun hc => ?_
      have : goneN n R = n := cin_all.2 fun i hi => by
        simp only [decide_eq_true_eq]
        exact Classical.byContradiction fun hn => hc ⟨i, hi, hn⟩
      omega
    have hall : ∀ k (v : Nat), v < n → ((v : Nat) : Int) ∉ R → nowB l k (v : Int) = true := by
      intro k
      induction k with
      | zero => intro v _ _; rfl
      | succ k ih =>
        intro v hv hn
        have hz : c.getD v 0 ≠ 0 := fun e => hn (by simpa using (h.zer v hv).1 e)
        rw [h.cnt v hv] at hz
        have hex2 : ∃ i, i < l.length ∧ ((l.getD i aD).t == (v : Int) && !decide ((l.getD i aD).f ∈ R)) = true := by
          refine Classical.byContradiction fun hc => hz ?_
          have : (cin l.length fun i => (l.getD i aD).t == (v : Int) && !decide ((l.getD i aD).f ∈ R)) = 0 := cin_zero.2 fun i hi => by
            cases hb : ((l.getD i aD).t == (v : Int) && !decide ((l.getD i aD).f ∈ R)) with
            | false => rfl
            | true => exact absurd ⟨i, hi, hb⟩ hc
          rw [this]; rfl
        obtain ⟨i, hi, hb⟩ := hex2
        simp only [Bool.and_eq_true, beq_iff_eq, Bool.not_eq_true', decide_eq_false_iff_not] at hb
        have ham := getD_mem l i aD hi
        have hr1 := (hr _ ham).1
        have hf0 : (((l.getD i aD).f.toNat : Nat) : Int) = (l.getD i aD).f := by omega
        have := ih (l.getD i aD).f.toNat (by omega) (by rw [hf0]; exact hb.2)
        rw [hf0] at this
        unfold nowB
        rw [List.any_eq_true]
        exact ⟨_, ham, by rw [this, hb.1]; simp⟩
    obtain ⟨v, hv, hn⟩ := hex
    unfold roundB
    symm
    rw [List.any_eq_true]
    exact ⟨v, List.mem_range.2 hv, hall n v hv hn⟩
  · rw [decide_eq_false hg]
    have hge : goneN n R = n := by have := goneN_le n R; omega
    have hin : ∀ v : Nat, v < n → (v : Int) ∈ R := fun v hv => by
      have := cin_all.1 hge v hv
      simpa using this
    have hrl : R.length ≤ n := by
      have hnd : R.Nodup := by have := h.nd; simpa using this
      rw [len_gone hnd fun v hv => h.rng v (by simpa using hv)]
      exact goneN_le n R
    have hlt : ∀ k (v : Int), nowB l k v = true → ∀ i, R[i]? = some v → k ≤ i := by
      intro k
      induction k with
      | zero => intro v _ i _; omega
      | succ k ih =>
        intro v hv i hi
        unfold nowB at hv
        rw [List.any_eq_true] at hv
        obtain ⟨a, ha, hb⟩ := hv
        simp only [Bool.and_eq_true, beq_iff_eq] at hb
        obtain ⟨j, hj, e⟩ := h.top a ha i (by rw [hi, hb.1])
        have := ih a.f hb.2 j e
        omega
    symm
    unfold roundB
    rw [List.any_eq_false]
    intro v hv
    have hv := List.mem_range.1 hv
    intro hb
    obtain ⟨i, hi, e⟩ := List.mem_iff_getElem.1 (hin v hv)
    have := hlt n v hb i (by rw [List.getElem?_eq_getElem hi, e])
    omega
end
end Go.Fw

namespace Go.Fw
open Go Go.Proofs

/-- The states to which nothing comes. -/
def zerosL (c : List Int) (k : Nat) : List Int := ((List.range k).filter fun v => c.getD v 0 == 0).map fun v : Nat => (v : Int)
theorem zerosL_succ (c : List Int) (k : Nat) : zerosL c (k + 1) = if c.getD k 0 = 0 then zerosL c k ++ [(k : Int)] else zerosL c k := by
  unfold zerosL
  rw [List.range_succ, List.filter_append, List.map_append]
  by_cases h : c.getD k 0 = 0
  · rw [if_pos h]
    simp only [List.filter_cons, h, beq_self_eq_true, if_true, List.filter_nil, List.map_cons, List.map_nil]
  · rw [if_neg h]
    simp only [List.filter_cons, beq_eq_false_iff_ne.2 h, Bool.false_eq_true, if_false, List.filter_nil, List.map_nil, List.append_nil]
theorem zerosL_len (c : List Int) (k : Nat) : (zerosL c k).length ≤ k := by
  unfold zerosL
  rw [List.length_map]
  have := List.length_filter_le (fun v => c.getD v 0 == 0) (List.range k)
  simpa using this
theorem zerosL_mem {c : List Int} {k : Nat} {x : Int} : x ∈ zerosL c k ↔ ∃ v : Nat, v < k ∧ c.getD v 0 = 0 ∧ x = (v : Int) := by
  unfold zerosL
  simp only [List.mem_map, List.mem_filter, List.mem_range, beq_iff_eq]
  constructor
  · rintro ⟨v, ⟨h1, h2⟩, rfl⟩; exact ⟨v, h1, h2, rfl⟩
  · rintro ⟨v, h1, h2, rfl⟩; exact ⟨v, ⟨h1, h2⟩, rfl⟩
theorem zerosL_nd (c : List Int) (k : Nat) : (zerosL c k).Nodup := by
  induction k with
  | zero => simp [zerosL]
  | succ k ih =>
    rw [zerosL_succ]
    split
    · rw [List.nodup_append]
      refine ⟨ih, by simp, fun a ha b hb => ?_⟩
      obtain ⟨v, hv, _, rfl⟩ := zerosL_mem.1 ha
      simp only [List.mem_singleton] at hb
      omega
    · exact ih

/-- The first count. -/
def ComeIs (l : List Arc) (n k : Nat) (c : List Int) : Prop := c.length = n ∧ ∀ v : Nat, v < n → c.getD v 0 = (cin k fun i => (l.getD i aD).t == (v : Int) : Nat)
theorem ComeIs.start (l : List Arc) (n : Nat) : ComeIs l n 0 (List.replicate n 0) := by
  refine ⟨by simp, fun v hv => ?_⟩
  simp [List.getD, hv, cin]
theorem ComeIs.step {l : List Arc} {n k : Nat} {c : List Int} (h : ComeIs l n k c) (ht : 0 ≤ (l.getD k aD).t ∧ (l.getD k aD).t < n) : ComeIs l n (k + 1) (c.set (l.getD k aD).t.toNat (c.getD (l.getD k aD).t.toNat 0 + 1)) := by
  refine ⟨by simp [h.1], fun v hv => ?_⟩
  rw [cin_succ]
  have hs : (c.set (l.getD k aD).t.toNat (c.getD (l.getD k aD).t.toNat 0 + 1)).getD v 0 = if v = (l.getD k aD).t.toNat then c.getD (l.getD k aD).t.toNat 0 + 1 else c.getD v 0 := getD_setJ _ _ _ _ v (by rw [h.1]; omega)
  rw [hs]
  by_cases e : v = (l.getD k aD).t.toNat
  · rw [if_pos e, ← e, h.2 v hv, if_pos (by rw [beq_iff_eq]; omega)]
    omega
  · rw [if_neg e, h.2 v hv, if_neg (by rw [beq_iff_eq]; omega)]
    omega
theorem ComeIs.kh {l : List Arc} {n : Nat} {c : List Int} (h : ComeIs l n l.length c) : Kh l n [] (zerosL c n) c := by
  refine ⟨h.1, fun v hv => ?_, by simpa using zerosL_nd c n, fun v hv => ?_, fun v hv => ?_, fun a _ i hi => by simp at hi⟩
  · obtain ⟨w, hw, _, rfl⟩ := zerosL_mem.1 (by simpa using hv)
    omega
  · rw [h.2 v hv]
    congr 1
    apply cin_congr
    intro i _
    simp
  · rw [List.nil_append, zerosL_mem]
    constructor
    · intro h0; exact ⟨v, hv, h0, rfl⟩
    · rintro ⟨w, _, h0, e⟩
      have : v = w := by omega
      subst this; exact h0

set_option maxHeartbeats 16000000 in
set_option maxRecDepth 20000 in
theorem circles_c (F : TF) (hF : FRng F) : Ct Tryd.prog 32 [fV F] [] (hpF F) 2 (Is 2 (.b (roundB F.arcs F.st.toNat))) := by
  have hst := hF.st
  have hal := hF.arcl
  refine ctW Tryd.tyOk 13 [17, 18, 19, 31, 32, 33, 62, 63, 64] Tryd.func32 rfl (by simp [SV.lt, SA.lt, SC.lt, arcV, fV]) (by simp) (fr := [(0, fV F)]) rfl ?_
  repeat' (first | exact rfl | ((conv => whnf); first | ((first | refine qA (fun h => ?_) fun h => ?_ | refine qN (fun h => ?_) fun h => ?_ | refine qB (fun h => ?_) fun h => ?_ | refine qC (fun h => ?_) fun h => ?_) <;> try exact absurd h (by omega)) | refine qM (fun h => ?_) fun h => ?_ | refine oM (by (first | omega | (simp only [lenS, InI, nmin, EK.sz]; omega) | (simp only [lenS, InI, nmin, EK.sz] at *; omega))) ?_ | refine oM ?_ ?_ | refine bM ?_ ?_ | refine draw_of Tryd.mixed Tryd.tyOk 60 (by kernel_rfl) ?_))
  (conv => whnf)
  refine loopI (fun z : Nat × List Int => ⟨[(1, .c (.ptr 2 0)), (2, .b false), (3, .c (.sl 3 1 0 F.st.toNat F.st.toNat)), (17, .c (.sl 1 5 0 F.arcs.length F.capA)), (18, .i F.arcs.length), (19, .i z.1)], hpF F ++ [(2, .box 25 (fCells F)), (3, .arr true 3 .int z.2 0)], 4⟩)
    (fun z => z.1 ≤ F.arcs.length ∧ ComeIs F.arcs F.st.toNat z.1 z.2) (fun z => F.arcs.length - z.1) (0, List.replicate F.st.toNat 0) [] ⟨by rfl, ?_, ?_⟩ ⟨Nat.zero_le _, ComeIs.start _ _⟩ ?_
  · simp [eqFr, eqHp, eqV, eqA, eqC, eqO, eqCs, eqAs, look_cons, look, rn, EK.cast, EK.sz, eqCaps]
  · simp [eqFr, eqHp, eqV, eqA, eqC, eqO, eqCs, eqAs, look_cons, look, rn, EK.cast, EK.sz, eqCaps, fCells, EK.dflt]
  · rintro ⟨k, c⟩ ⟨hk, hc⟩
    simp only at hk hc ⊢
    have hcl := hc.1
    (conv => whnf)
    refine condP_dec (fun hk2 => ?_) (fun hk2 => ?_)
    · have e0 : 0 + (k : Int).toNat = k := by omega
      have hb := hF.arc _ (getD_mem F.arcs k aD (by omega))
      have hb1 : 0 ≤ (F.arcs.getD (0 + (k : Int).toNat) EK.arc.dflt).t ∧ (F.arcs.getD (0 + (k : Int).toNat) EK.arc.dflt).t < F.st := by rw [e0]; exact ⟨hb.2.2.1, hb.2.2.2⟩
      have hs := hc.step (k := k) ⟨hb.2.2.1, by omega⟩
      have hv := hc.2 (F.arcs.getD k aD).t.toNat (by omega)
      have hcb := cin_le k fun i => (F.arcs.getD i aD).t == (((F.arcs.getD k aD).t.toNat : Nat) : Int)
      have hv1 : 0 ≤ c.getD (0 + (F.arcs.getD (0 + (k : Int).toNat) EK.arc.dflt).t.toNat) EK.int.dflt ∧ c.getD (0 + (F.arcs.getD (0 + (k : Int).toNat) EK.arc.dflt).t.toNat) EK.int.dflt ≤ 100000 := by
        rw [e0, Nat.zero_add]
        have : c.getD (F.arcs.getD k EK.arc.dflt).t.toNat EK.int.dflt = _ := hv
        rw [this]
        omega
      repeat' (first | exact rfl | ((conv => whnf); first | ((first | refine qA (fun h => ?_) fun h => ?_ | refine qN (fun h => ?_) fun h => ?_ | refine qB (fun h => ?_) fun h => ?_ | refine qC (fun h => ?_) fun h => ?_) <;> try exact absurd h (by omega)) | refine qM (fun h => ?_) fun h => ?_ | refine oM (by (first | omega | (simp only [lenS, InI, nmin, EK.sz]; omega) | (simp only [lenS, InI, nmin, EK.sz] at *; omega))) ?_ | refine oM ?_ ?_ | refine bM ?_ ?_ | refine draw_of Tryd.mixed Tryd.tyOk 60 (by kernel_rfl) ?_))
      (conv => whnf)
      refine ⟨(k + 1, c.set (0 + (F.arcs.getD (0 + (k : Int).toNat) EK.arc.dflt).t.toNat) (c.getD (0 + (F.arcs.getD (0 + (k : Int).toNat) EK.arc.dflt).t.toNat) EK.int.dflt + 1)), [], ⟨by rfl, ?_, ?_⟩, ⟨by simp only; omega, ?_⟩, by simp only; omega⟩
      · simp [eqFr, eqHp, eqV, eqA, eqC, eqO, eqCs, eqAs, look_cons, look, rn, EK.cast, EK.sz, eqCaps]
      · simp [eqFr, eqHp, eqV, eqA, eqC, eqO, eqCs, eqAs, look_cons, look, rn, EK.cast, EK.sz, eqCaps, fCells]
      · simp only
        rw [e0, Nat.zero_add]
        exact hs
    · have e : k = F.arcs.length := by omega
      subst e
      repeat' (first | exact rfl | ((conv => whnf); first | ((first | refine qA (fun h => ?_) fun h => ?_ | refine qN (fun h => ?_) fun h => ?_ | refine qB (fun h => ?_) fun h => ?_ | refine qC (fun h => ?_) fun h => ?_) <;> try exact absurd h (by omega)) | refine qM (fun h => ?_) fun h => ?_ | refine oM (by (first | omega | (simp only [lenS, InI, nmin, EK.sz]; omega) | (simp only [lenS, InI, nmin, EK.sz] at *; omega))) ?_ | refine oM ?_ ?_ | refine bM ?_ ?_ | refine draw_of Tryd.mixed Tryd.tyOk 60 (by kernel_rfl) ?_))
      (conv => whnf)
      refine loopI (fun z : Nat × Nat => ⟨[(1, .c (.ptr 2 0)), (2, .b false), (3, .c (.sl 3 1 0 F.st.toNat F.st.toNat)), (6, .c (.sl 4 1 0 (zerosL c z.1).length ((zerosL c z.1).length + z.2))), (31, .c (.sl 3 1 0 F.st.toNat F.st.toNat)), (32, .i (F.st.toNat : Nat)), (33, .i z.1)], hpF F ++ [(2, .box 25 (fCells F)), (3, .arr true 3 .int c 0), (4, .arr true 3 .int (zerosL c z.1) z.2)], 5⟩)
        (fun z => z.1 ≤ F.st.toNat) (fun z => F.st.toNat - z.1) (0, 0) [(4, none)] ⟨by rfl, ?_, ?_⟩ (Nat.zero_le _) ?_
      · simp [eqFr, eqHp, eqV, eqA, eqC, eqO, eqCs, eqAs, look_cons, look, rn, EK.cast, EK.sz, eqCaps, zerosL]
      · simp [eqFr, eqHp, eqV, eqA, eqC, eqO, eqCs, eqAs, look_cons, look, rn, EK.cast, EK.sz, eqCaps, fCells, nilO, zerosL]
      · rintro ⟨k, sp⟩ hk3
        simp only at hk3 ⊢
        have hzl := zerosL_len c k
        have hzs := zerosL_succ c k
        generalize hz : zerosL c k = zl at hzl hzs ⊢
        (conv => whnf)
        refine condP_dec (fun hk4 => ?_) (fun hk4 => ?_)
        · have e0 : 0 + (k : Int).toNat = k := by omega
          repeat' (first | exact rfl | ((conv => whnf); first | ((first | refine qA (fun h => ?_) fun h => ?_ | refine qN (fun h => ?_) fun h => ?_ | refine qB (fun h => ?_) fun h => ?_ | refine qC (fun h => ?_) fun h => ?_) <;> try exact absurd h (by omega)) | refine qM (fun h => ?_) fun h => ?_ | refine oM (by (first | omega | (simp only [lenS, InI, nmin, EK.sz]; omega) | (simp only [lenS, InI, nmin, EK.sz] at *; omega))) ?_ | refine oM ?_ ?_ | refine bM ?_ ?_ | refine draw_of Tryd.mixed Tryd.tyOk 60 (by kernel_rfl) ?_))
          · rw [e0] at h
            rw [if_pos (show c.getD k 0 = 0 from h)] at hzs
            intro sp2
            repeat' (first | exact rfl | ((conv => whnf); first | ((first | refine qA (fun h => ?_) fun h => ?_ | refine qN (fun h => ?_) fun h => ?_ | refine qB (fun h => ?_) fun h => ?_ | refine qC (fun h => ?_) fun h => ?_) <;> try exact absurd h (by omega)) | refine qM (fun h => ?_) fun h => ?_ | refine oM (by (first | omega | (simp only [lenS, InI, nmin, EK.sz]; omega) | (simp only [lenS, InI, nmin, EK.sz] at *; omega))) ?_ | refine oM ?_ ?_ | refine bM ?_ ?_ | refine draw_of Tryd.mixed Tryd.tyOk 60 (by kernel_rfl) ?_))
            (conv => whnf)
            refine ⟨(k + 1, sp2), [(4, some 6)], ⟨by rfl, ?_, ?_⟩, by simp only; omega, by simp only; omega⟩
            · simp [eqFr, eqHp, eqV, eqA, eqC, eqO, eqCs, eqAs, look_cons, look, rn, EK.cast, EK.sz, eqCaps, hzs]
            · simp [eqFr, eqHp, eqV, eqA, eqC, eqO, eqCs, eqAs, look_cons, look, rn, EK.cast, EK.sz, eqCaps, fCells, hzs]
              simp [app_one]
          · rw [e0] at h
            rw [if_neg (show ¬ c.getD k 0 = 0 from h)] at hzs
            (conv => whnf)
            refine ⟨(k + 1, sp), [], ⟨by rfl, ?_, ?_⟩, by simp only; omega, by simp only; omega⟩
            · simp [eqFr, eqHp, eqV, eqA, eqC, eqO, eqCs, eqAs, look_cons, look, rn, EK.cast, EK.sz, eqCaps, hzs]
            · simp [eqFr, eqHp, eqV, eqA, eqC, eqO, eqCs, eqAs, look_cons, look, rn, EK.cast, EK.sz, eqCaps, fCells, hzs]
        · have e : k = F.st.toNat := by omega
          subst e
          have hkh := hc.kh
          rw [hz] at hkh
          clear hz hzs
          repeat' (first | exact rfl | ((conv => whnf); first | ((first | refine qA (fun h => ?_) fun h => ?_ | refine qN (fun h => ?_) fun h => ?_ | refine qB (fun h => ?_) fun h => ?_ | refine qC (fun h => ?_) fun h => ?_) <;> try exact absurd h (by omega)) | refine qM (fun h => ?_) fun h => ?_ | refine oM (by (first | omega | (simp only [lenS, InI, nmin, EK.sz]; omega) | (simp only [lenS, InI, nmin, EK.sz] at *; omega))) ?_ | refine oM ?_ ?_ | refine bM ?_ ?_ | refine draw_of Tryd.mixed Tryd.tyOk 60 (by kernel_rfl) ?_))
          (conv => whnf)
          refine loopI (fun z : List Int × List Int × List Int × Nat × Nat × List Int => ⟨[(1, .c (.ptr 2 0)), (2, .b false), (3, .c (.sl 3 1 0 F.st.toNat F.st.toNat)), (6, .c (.sl 4 1 0 z.2.1.length z.2.2.2.2.1)), (9, .i (goneN F.st.toNat z.1))], hpF F ++ [(2, .box 25 (fCells F)), (3, .arr true 3 .int z.2.2.2.2.2 0), (4, .arr true 3 .int (z.2.1 ++ z.2.2.1) z.2.2.2.1)], 5⟩)
            (fun z => Kh F.arcs F.st.toNat z.1 z.2.1 z.2.2.2.2.2 ∧ z.2.2.2.2.1 ≤ z.2.1.length + z.2.2.1.length + z.2.2.2.1 ∧ z.2.1.length ≤ z.2.2.2.2.1) (fun z => F.st.toNat - goneN F.st.toNat z.1) ([], zl, [], sp, zl.length + sp, c) [] ⟨by rfl, ?_, ?_⟩ ⟨hkh, by simp, by simp⟩ ?_
          · simp [eqFr, eqHp, eqV, eqA, eqC, eqO, eqCs, eqAs, look_cons, look, rn, EK.cast, EK.sz, eqCaps, goneN, cin]
          · simp [eqFr, eqHp, eqV, eqA, eqC, eqO, eqCs, eqAs, look_cons, look, rn, EK.cast, EK.sz, eqCaps, fCells]
          · clear hkh hzl hc hcl
            rintro ⟨R, st, junk, sp, cap, c⟩ ⟨hkh, hcap, hlc⟩
            simp only at hkh hcap hlc ⊢
            have hcl := hkh.len
            have hgl := goneN_le F.st.toNat R
            have hnil : st = [] ∨ ∃ l x, st = l ++ [x] := by
              rcases st.eq_nil_or_concat with h | ⟨l, x, h⟩
              · exact .inl h
              · exact .inr ⟨l, x, by rw [h, List.concat_eq_append]⟩
            rcases hnil with rfl | ⟨st, x, rfl⟩
            · have hrd := hkh.round fun a ha => by have := hF.arc a ha; omega
              repeat' (first | exact rfl | ((conv => whnf); first | ((first | refine qA (fun h => ?_) fun h => ?_ | refine qN (fun h => ?_) fun h => ?_ | refine qB (fun h => ?_) fun h => ?_ | refine qC (fun h => ?_) fun h => ?_) <;> try exact absurd h (by omega)) | refine qM (fun h => ?_) fun h => ?_ | refine oM (by (first | omega | (simp only [lenS, InI, nmin, EK.sz]; omega) | (simp only [lenS, InI, nmin, EK.sz] at *; omega))) ?_ | refine oM ?_ ?_ | refine bM ?_ ?_ | refine draw_of Tryd.mixed Tryd.tyOk 60 (by kernel_rfl) ?_))
              (conv => whnf)
              refine Back.is ?_
              rw [← hrd]
              simp only [eqV, eqA, eqC]
              apply decide_eq_decide.2
              omega
            · have hm := hkh.pop
              have hgx := hm.gone
              have hgl2 := goneN_le F.st.toNat (R ++ [x])
              have hxr := hm.rng x (by simp)
              have hsl : (st ++ [x]).length = st.length + 1 := by simp
              have ee : ((st ++ [x] ++ junk).getD (0 + (((st ++ [x]).length : Int) - 1).toNat) EK.int.dflt) = x := by
                have e1 : 0 + (((st ++ [x]).length : Int) - 1).toNat = st.length := by simp
                rw [e1, List.append_assoc]
                simp [List.getD]
              have hA : (((st ++ [x]).length : Int) - 1 - 0).toNat = st.length := by simp
              have hst2 : st.length ≤ 100000 := by
                have h1 := len_gone (n := F.st.toNat) (List.nodup_append.1 hkh.nd).2.1 (fun v hv => hkh.rng v (List.mem_append_right _ hv))
                have h2 := goneN_le F.st.toNat (st ++ [x])
                omega
              rw [hsl] at hcap hlc
              repeat' (first | exact rfl | ((conv => whnf); first | ((first | refine qA (fun h => ?_) fun h => ?_ | refine qN (fun h => ?_) fun h => ?_ | refine qB (fun h => ?_) fun h => ?_ | refine qC (fun h => ?_) fun h => ?_) <;> try exact absurd h (by omega)) | refine qM (fun h => ?_) fun h => ?_ | refine oM (by (first | omega | (simp only [lenS, InI, nmin, EK.sz]; omega) | (simp only [lenS, InI, nmin, EK.sz] at *; omega))) ?_ | refine oM ?_ ?_ | refine bM ?_ ?_ | refine draw_of Tryd.mixed Tryd.tyOk 60 (by kernel_rfl) ?_))
              (conv => whnf)
              simp only [ee, hA]
              refine loopI (fun y : Nat × List Int × List Int × Nat × Nat × List Int => ⟨[(1, .c (.ptr 2 0)), (2, .b false), (3, .c (.sl 3 1 0 F.st.toNat F.st.toNat)), (6, .c (.sl 4 1 0 y.2.1.length y.2.2.2.2.1)), (9, .i (goneN F.st.toNat R + 1)), (10, .i x), (62, .c (.sl 1 5 0 F.arcs.length F.capA)), (63, .i F.arcs.length), (64, .i y.1)], hpF F ++ [(2, .box 25 (fCells F)), (3, .arr true 3 .int y.2.2.2.2.2 0), (4, .arr true 3 .int (y.2.1 ++ y.2.2.1) y.2.2.2.1)], 5⟩)
                (fun y => y.1 ≤ F.arcs.length ∧ KhM F.arcs F.st.toNat R x y.2.1 y.2.2.2.2.2 y.1 ∧ y.2.2.2.2.1 ≤ y.2.1.length + y.2.2.1.length + y.2.2.2.1 ∧ y.2.1.length ≤ y.2.2.2.2.1) (fun y => F.arcs.length - y.1) (0, st, x :: junk, sp, cap, c) [] ⟨by rfl, ?_, ?_⟩ ⟨Nat.zero_le _, hm, by simp only [List.length_cons]; omega, by simp only; omega⟩ ?_
              · simp [eqFr, eqHp, eqV, eqA, eqC, eqO, eqCs, eqAs, look_cons, look, rn, EK.cast, EK.sz, eqCaps]
              · simp [eqFr, eqHp, eqV, eqA, eqC, eqO, eqCs, eqAs, look_cons, look, rn, EK.cast, EK.sz, eqCaps, fCells]
              · clear hm hkh hcap hlc ee hA hsl hcl hst2
                rintro ⟨k, st, junk, sp, cap, c⟩ ⟨hk, hm, hcap, hlc⟩
                simp only at hk hm hcap hlc ⊢
                have hcl := hm.len
                have hst2 : st.length ≤ 100000 := by
                  have h0 := (List.nodup_cons.1 (List.nodup_append.1 hm.nd).2.1).2
                  have h1 := len_gone (n := F.st.toNat) h0 (fun v hv => hm.rng v (List.mem_append_right _ (List.mem_cons_of_mem _ hv)))
                  have h2 := goneN_le F.st.toNat st
                  omega
                (conv => whnf)
                refine condP_dec (fun hk5 => ?_) (fun hk5 => ?_)
                · have e0 : 0 + (k : Int).toNat = k := by omega
                  have hb := hF.arc _ (getD_mem F.arcs k aD (by omega))
                  have hb1 : 0 ≤ (F.arcs.getD (0 + (k : Int).toNat) EK.arc.dflt).t ∧ (F.arcs.getD (0 + (k : Int).toNat) EK.arc.dflt).t < F.st := by rw [e0]; exact ⟨hb.2.2.1, hb.2.2.2⟩
                  by_cases hfx : (F.arcs.getD k aD).f = x
                  · obtain ⟨hpos, hstp⟩ := hm.hit (by omega) hfx ⟨hb.2.2.1, by omega⟩
                    have hv := hm.cnt (F.arcs.getD k aD).t.toNat (by omega)
                    have hcb := cin_le F.arcs.length fun i => (F.arcs.getD i aD).t == (((F.arcs.getD k aD).t.toNat : Nat) : Int) && !decide ((F.arcs.getD i aD).f ∈ R) && !(decide (i < k) && (F.arcs.getD i aD).f == x)
                    have hv1 : 0 < c.getD (0 + (F.arcs.getD (0 + (k : Int).toNat) EK.arc.dflt).t.toNat) EK.int.dflt ∧ c.getD (0 + (F.arcs.getD (0 + (k : Int).toNat) EK.arc.dflt).t.toNat) EK.int.dflt ≤ 100000 := by
                      rw [e0, Nat.zero_add]
                      refine ⟨hpos, ?_⟩
                      have : c.getD (F.arcs.getD k EK.arc.dflt).t.toNat EK.int.dflt = _ := hv
                      rw [this]
                      omega
                    have hfx1 : (F.arcs.getD (0 + (k : Int).toNat) EK.arc.dflt).f = x := by rw [e0]; exact hfx
                    repeat' (first | exact rfl | ((conv => whnf); first | ((first | refine qA (fun h => ?_) fun h => ?_ | refine qN (fun h => ?_) fun h => ?_ | refine qB (fun h => ?_) fun h => ?_ | refine qC (fun h => ?_) fun h => ?_) <;> try exact absurd h (by omega)) | refine qM (fun h => ?_) fun h => ?_ | refine oM (by (first | omega | (simp only [lenS, InI, nmin, EK.sz]; omega) | (simp only [lenS, InI, nmin, EK.sz] at *; omega))) ?_ | refine oM ?_ ?_ | refine bM ?_ ?_ | refine draw_of Tryd.mixed Tryd.tyOk 60 (by kernel_rfl) ?_))
                    · have hz : c.getD (F.arcs.getD k aD).t.toNat 0 - 1 = 0 := by
                        rw [e0, Nat.zero_add] at h
                        have h2 := getD_setJ c (F.arcs.getD k aD).t.toNat (c.getD (F.arcs.getD k aD).t.toNat 0 - 1) 0 (F.arcs.getD k aD).t.toNat (by omega)
                        rw [if_pos rfl] at h2
                        exact h2.symm.trans h
                      rw [if_pos hz] at hstp
                      intro sp2
                      have hsb : st ++ [(F.arcs.getD k aD).t] = lOp.appL (sub (st ++ junk) 0 st.length) (sub [(F.arcs.getD k EK.arc.dflt).t] 0 1) := by
                        simp [sub, lOp.appL]
                        rfl
                      repeat' (first | exact rfl | ((conv => whnf); first | ((first | refine qA (fun h => ?_) fun h => ?_ | refine qN (fun h => ?_) fun h => ?_ | refine qB (fun h => ?_) fun h => ?_ | refine qC (fun h => ?_) fun h => ?_) <;> try exact absurd h (by omega)) | refine qM (fun h => ?_) fun h => ?_ | refine oM (by (first | omega | (simp only [lenS, InI, nmin, EK.sz]; omega) | (simp only [lenS, InI, nmin, EK.sz] at *; omega))) ?_ | refine oM ?_ ?_ | refine bM ?_ ?_ | refine draw_of Tryd.mixed Tryd.tyOk 60 (by kernel_rfl) ?_))
                      (conv => whnf)
                      refine ⟨(k + 1, st ++ [(F.arcs.getD k aD).t], [], sp2, (st ++ [(F.arcs.getD k aD).t]).length + sp2, c.set (0 + (F.arcs.getD (0 + (k : Int).toNat) EK.arc.dflt).t.toNat) (c.getD (0 + (F.arcs.getD (0 + (k : Int).toNat) EK.arc.dflt).t.toNat) EK.int.dflt - 1)), [(4, some 7)], ⟨by rfl, ?_, ?_⟩, ⟨by simp only; omega, ?_, by simp, by simp⟩, by simp only; omega⟩
                      · simp [eqFr, eqHp, eqV, eqA, eqC, eqO, eqCs, eqAs, look_cons, look, rn, EK.cast, EK.sz, eqCaps]
                      · simp [eqFr, eqHp, eqV, eqA, eqC, eqO, eqCs, eqAs, look_cons, look, rn, EK.cast, EK.sz, eqCaps, fCells]
                        exact hsb
                      · simp only
                        rw [e0, Nat.zero_add]
                        exact hstp
                    · have hz : ¬ c.getD (F.arcs.getD k aD).t.toNat 0 - 1 = 0 := by
                        rw [e0, Nat.zero_add] at h
                        have h2 := getD_setJ c (F.arcs.getD k aD).t.toNat (c.getD (F.arcs.getD k aD).t.toNat 0 - 1) 0 (F.arcs.getD k aD).t.toNat (by omega)
                        rw [if_pos rfl] at h2
                        exact fun e => h (h2.trans e)
                      rw [if_neg hz] at hstp
                      (conv => whnf)
                      refine ⟨(k + 1, st, junk, sp, cap, c.set (0 + (F.arcs.getD (0 + (k : Int).toNat) EK.arc.dflt).t.toNat) (c.getD (0 + (F.arcs.getD (0 + (k : Int).toNat) EK.arc.dflt).t.toNat) EK.int.dflt - 1)), [], ⟨by rfl, ?_, ?_⟩, ⟨by simp only; omega, ?_, hcap, hlc⟩, by simp only; omega⟩
                      · simp [eqFr, eqHp, eqV, eqA, eqC, eqO, eqCs, eqAs, look_cons, look, rn, EK.cast, EK.sz, eqCaps]
                      · simp [eqFr, eqHp, eqV, eqA, eqC, eqO, eqCs, eqAs, look_cons, look, rn, EK.cast, EK.sz, eqCaps, fCells]
                      · simp only
                        rw [e0, Nat.zero_add]
                        exact hstp
                  · have hfx1 : ¬ (F.arcs.getD (0 + (k : Int).toNat) EK.arc.dflt).f = x := by rw [e0]; exact hfx
                    have hstp := hm.other hfx
                    repeat' (first | exact rfl | ((conv => whnf); first | ((first | refine qA (fun h => ?_) fun h => ?_ | refine qN (fun h => ?_) fun h => ?_ | refine qB (fun h => ?_) fun h => ?_ | refine qC (fun h => ?_) fun h => ?_) <;> try exact absurd h (by omega)) | refine qM (fun h => ?_) fun h => ?_ | refine oM (by (first | omega | (simp only [lenS, InI, nmin, EK.sz]; omega) | (simp only [lenS, InI, nmin, EK.sz] at *; omega))) ?_ | refine oM ?_ ?_ | refine bM ?_ ?_ | refine draw_of Tryd.mixed Tryd.tyOk 60 (by kernel_rfl) ?_))
                    (conv => whnf)
                    refine ⟨(k + 1, st, junk, sp, cap, c), [], ⟨by rfl, ?_, ?_⟩, ⟨by simp only; omega, hstp, hcap, hlc⟩, by simp only; omega⟩
                    · simp [eqFr, eqHp, eqV, eqA, eqC, eqO, eqCs, eqAs, look_cons, look, rn, EK.cast, EK.sz, eqCaps]
                    · simp [eqFr, eqHp, eqV, eqA, eqC, eqO, eqCs, eqAs, look_cons, look, rn, EK.cast, EK.sz, eqCaps, fCells]
                · have e : k = F.arcs.length := by omega
                  subst e
                  have hd := hm.done
                  (conv => whnf)
                  refine ⟨(R ++ [x], st, junk, sp, cap, c), [], ⟨by rfl, ?_, ?_⟩, ⟨hd, hcap, hlc⟩, by simp only; omega⟩
                  · simp [eqFr, eqHp, eqV, eqA, eqC, eqO, eqCs, eqAs, look_cons, look, rn, EK.cast, EK.sz, eqCaps, hgx]
                  · simp [eqFr, eqHp, eqV, eqA, eqC, eqO, eqCs, eqAs, look_cons, look, rn, EK.cast, EK.sz, eqCaps, fCells]
end Go.Fw

namespace Go.Fw
open Go Go.Proofs

/-- Which states a way of so many arcs ends at, as a list. -/
def NowIs (l : List Arc) (n k : Nat) (c : List Bool) : Prop := c.length = n ∧ ∀ v : Nat, v < n → c.getD v false = nowB l k (v : Int)
def NxtIs (l : List Arc) (n k j : Nat) (c : List Bool) : Prop := c.length = n ∧ ∀ v : Nat, v < n → c.getD v false = (l.take j).any fun a => a.t == (v : Int) && nowB l k a.f

theorem NxtIs.step {l : List Arc} {n k j : Nat} {c d : List Bool} (h : NxtIs l n k j c) (hd : NowIs l n k d) (hj : j < l.length) (ht : 0 ≤ (l.getD j aD).t ∧ (l.getD j aD).t < n) (hf : 0 ≤ (l.getD j aD).f ∧ (l.getD j aD).f < n) :
    NxtIs l n k (j + 1) (c.set (l.getD j aD).t.toNat (c.getD (l.getD j aD).t.toNat false || d.getD (l.getD j aD).f.toNat false)) := by
  refine ⟨by simp [h.1], fun v hv => ?_⟩
  rw [any_take _ _ aD j hj, getD_setJ _ _ _ _ _ (by rw [h.1]; omega)]
  have e2 := hd.2 (l.getD j aD).f.toNat (by omega)
  rw [show (((l.getD j aD).f.toNat : Nat) : Int) = (l.getD j aD).f by omega] at e2
  by_cases e : v = (l.getD j aD).t.toNat
  · rw [if_pos e, ← e, h.2 v hv, e2, show ((l.getD j aD).t == (v : Int)) = true by rw [beq_iff_eq]; omega, Bool.true_and]
  · rw [if_neg e, h.2 v hv, show ((l.getD j aD).t == (v : Int)) = false by rw [beq_eq_false_iff_ne]; omega, Bool.false_and, Bool.or_false]

set_option maxHeartbeats 16000000 in
set_option maxRecDepth 20000 in
theorem isRound_c (F : TF) (hF : FRng F) : Ct Tryd.prog 13 [fV F] [] (hpF F) 2 (Is 2 (.b (roundB F.arcs F.st.toNat))) := by
  have hst := hF.st
  have hal := hF.arcl
  refine ctW Tryd.tyOk 9 [] Tryd.func13 rfl (by simp [SV.lt, SA.lt, SC.lt, arcV, fV]) (by simp) (fr := [(0, fV F)]) rfl ?_
  repeat' (first | exact rfl | ((conv => whnf); first | ((first | refine qA (fun h => ?_) fun h => ?_ | refine qN (fun h => ?_) fun h => ?_ | refine qB (fun h => ?_) fun h => ?_ | refine qC (fun h => ?_) fun h => ?_) <;> try exact absurd h (by omega)) | refine qM (fun h => ?_) fun h => ?_ | refine oM (by (first | omega | (simp only [lenS, InI, nmin, EK.sz]; omega) | (simp only [lenS, InI, nmin, EK.sz] at *; omega))) ?_ | refine oM ?_ ?_ | refine bM ?_ ?_ | refine draw_of Tryd.mixed Tryd.tyOk 60 (by kernel_rfl) ?_))
  (conv => whnf)
  refine loopI (fun z : Nat × List Bool => ⟨[(1, .c (.ptr 2 0)), (2, .b false), (3, .c (.sl 3 1 0 F.st.toNat F.st.toNat)), (4, .i z.1)], hpF F ++ [(2, .box 25 (fCells F)), (3, .arr true 4 .bool z.2 0)], 4⟩)
    (fun z => z.1 ≤ F.st.toNat ∧ z.2.length = F.st.toNat ∧ ∀ v : Nat, v < z.1 → z.2.getD v false = true) (fun z => F.st.toNat - z.1) (0, List.replicate F.st.toNat false) [] ⟨by rfl, ?_, ?_⟩ ⟨Nat.zero_le _, by simp, fun v h => absurd h (Nat.not_lt_zero _)⟩ ?_
  · simp [eqFr, eqHp, eqV, eqA, eqC, eqO, eqCs, eqAs, look_cons, look, rn, EK.cast, EK.sz, eqCaps]
  · simp [eqFr, eqHp, eqV, eqA, eqC, eqO, eqCs, eqAs, look_cons, look, rn, EK.cast, EK.sz, eqCaps, fCells, EK.dflt]
  · rintro ⟨k, c⟩ ⟨hk, hcl, hc⟩
    simp only at hk hcl hc ⊢
    (conv => whnf)
    refine condP_dec (fun hk2 => ?_) (fun hk2 => ?_)
    · have e0 : 0 + (k : Int).toNat = k := by omega
      repeat' (first | exact rfl | ((conv => whnf); first | ((first | refine qA (fun h => ?_) fun h => ?_ | refine qN (fun h => ?_) fun h => ?_ | refine qB (fun h => ?_) fun h => ?_ | refine qC (fun h => ?_) fun h => ?_) <;> try exact absurd h (by omega)) | refine qM (fun h => ?_) fun h => ?_ | refine oM (by (first | omega | (simp only [lenS, InI, nmin, EK.sz]; omega) | (simp only [lenS, InI, nmin, EK.sz] at *; omega))) ?_ | refine oM ?_ ?_ | refine bM ?_ ?_ | refine draw_of Tryd.mixed Tryd.tyOk 60 (by kernel_rfl) ?_))
      (conv => whnf)
      refine ⟨(k + 1, c.set (0 + (k : Int).toNat) true), [], ⟨by rfl, ?_, ?_⟩, ⟨by simp only; omega, by simp [hcl], fun v hv => ?_⟩, by simp only; omega⟩
      · simp [eqFr, eqHp, eqV, eqA, eqC, eqO, eqCs, eqAs, look_cons, look, rn, EK.cast, EK.sz, eqCaps]
      · simp [eqFr, eqHp, eqV, eqA, eqC, eqO, eqCs, eqAs, look_cons, look, rn, EK.cast, EK.sz, eqCaps, fCells]
      · simp only at hv ⊢
        rw [e0, getD_setJ _ _ _ _ _ (by omega)]
        by_cases e : v = k
        · rw [if_pos e]
        · rw [if_neg e]; exact hc v (by omega)
    · have e : k = F.st.toNat := by omega
      subst e
      repeat' (first | exact rfl | ((conv => whnf); first | ((first | refine qA (fun h => ?_) fun h => ?_ | refine qN (fun h => ?_) fun h => ?_ | refine qB (fun h => ?_) fun h => ?_ | refine qC (fun h => ?_) fun h => ?_) <;> try exact absurd h (by omega)) | refine qM (fun h => ?_) fun h => ?_ | refine oM (by (first | omega | (simp only [lenS, InI, nmin, EK.sz]; omega) | (simp only [lenS, InI, nmin, EK.sz] at *; omega))) ?_ | refine oM ?_ ?_ | refine bM ?_ ?_ | refine draw_of Tryd.mixed Tryd.tyOk 60 (by kernel_rfl) ?_))
      (conv => whnf)
      refine loopI (fun z : Nat × List Bool => ⟨[(1, .c (.ptr 2 0)), (2, .b false), (3, .c (.sl 3 1 0 F.st.toNat F.st.toNat)), (5, .i z.1)], hpF F ++ [(2, .box 25 (fCells F)), (3, .arr true 4 .bool z.2 0)], 4⟩)
        (fun z => z.1 ≤ F.st.toNat ∧ NowIs F.arcs F.st.toNat z.1 z.2) (fun z => F.st.toNat - z.1) (0, c) [] ⟨by rfl, ?_, ?_⟩ ⟨Nat.zero_le _, hcl, fun v hv => hc v hv⟩ ?_
      · simp [eqFr, eqHp, eqV, eqA, eqC, eqO, eqCs, eqAs, look_cons, look, rn, EK.cast, EK.sz, eqCaps]
      · simp [eqFr, eqHp, eqV, eqA, eqC, eqO, eqCs, eqAs, look_cons, look, rn, EK.cast, EK.sz, eqCaps, fCells]
      · clear hc hcl
        rintro ⟨k, d⟩ ⟨hk, hd⟩
        simp only at hk hd ⊢
        have hdl := hd.1
        (conv => whnf)
        refine condP_dec (fun hk2 => ?_) (fun hk2 => ?_)
        · repeat' (first | exact rfl | ((conv => whnf); first | ((first | refine qA (fun h => ?_) fun h => ?_ | refine qN (fun h => ?_) fun h => ?_ | refine qB (fun h => ?_) fun h => ?_ | refine qC (fun h => ?_) fun h => ?_) <;> try exact absurd h (by omega)) | refine qM (fun h => ?_) fun h => ?_ | refine oM (by (first | omega | (simp only [lenS, InI, nmin, EK.sz]; omega) | (simp only [lenS, InI, nmin, EK.sz] at *; omega))) ?_ | refine oM ?_ ?_ | refine bM ?_ ?_ | refine draw_of Tryd.mixed Tryd.tyOk 60 (by kernel_rfl) ?_))
          (conv => whnf)
          refine loopI (fun z : Nat × List Bool => ⟨[(1, .c (.ptr 2 0)), (2, .b false), (3, .c (.sl 3 1 0 F.st.toNat F.st.toNat)), (5, .i k), (6, .c (.sl 4 1 0 F.st.toNat F.st.toNat)), (7, .i z.1)], hpF F ++ [(2, .box 25 (fCells F)), (3, .arr true 4 .bool d 0), (4, .arr true 4 .bool z.2 0)], 5⟩)
            (fun z => z.1 ≤ F.arcs.length ∧ NxtIs F.arcs F.st.toNat k z.1 z.2) (fun z => F.arcs.length - z.1) (0, List.replicate F.st.toNat false) [] ⟨by rfl, ?_, ?_⟩ ⟨Nat.zero_le _, by simp, fun v hv => by simp [List.getD, hv]⟩ ?_
          · simp [eqFr, eqHp, eqV, eqA, eqC, eqO, eqCs, eqAs, look_cons, look, rn, EK.cast, EK.sz, eqCaps]
          · simp [eqFr, eqHp, eqV, eqA, eqC, eqO, eqCs, eqAs, look_cons, look, rn, EK.cast, EK.sz, eqCaps, fCells, EK.dflt]
          · rintro ⟨j, c⟩ ⟨hj, hc⟩
            simp only at hj hc ⊢
            have hcl := hc.1
            (conv => whnf)
            refine condP_dec (fun hj2 => ?_) (fun hj2 => ?_)
            · have e0 : 0 + (j : Int).toNat = j := by omega
              have hb := hF.arc _ (getD_mem F.arcs j aD (by omega))
              have hb1 : (0 ≤ (F.arcs.getD (0 + (j : Int).toNat) EK.arc.dflt).t ∧ (F.arcs.getD (0 + (j : Int).toNat) EK.arc.dflt).t < F.st) ∧ 0 ≤ (F.arcs.getD (0 + (j : Int).toNat) EK.arc.dflt).f ∧ (F.arcs.getD (0 + (j : Int).toNat) EK.arc.dflt).f < F.st := by rw [e0]; exact ⟨hb.2.2, hb.1, hb.2.1⟩
              have hs := hc.step hd (by omega) ⟨hb.2.2.1, by omega⟩ ⟨hb.1, by omega⟩
              repeat' (first | exact rfl | ((conv => whnf); first | ((first | refine qA (fun h => ?_) fun h => ?_ | refine qN (fun h => ?_) fun h => ?_ | refine qB (fun h => ?_) fun h => ?_ | refine qC (fun h => ?_) fun h => ?_) <;> try exact absurd h (by omega)) | refine qM (fun h => ?_) fun h => ?_ | refine oM (by (first | omega | (simp only [lenS, InI, nmin, EK.sz]; omega) | (simp only [lenS, InI, nmin, EK.sz] at *; omega))) ?_ | refine oM ?_ ?_ | refine bM ?_ ?_ | refine draw_of Tryd.mixed Tryd.tyOk 60 (by kernel_rfl) ?_))
              · have h3 : c.getD (F.arcs.getD j aD).t.toNat false = true := by rw [e0, Nat.zero_add] at h; exact h
                rw [h3, Bool.true_or] at hs
                (conv => whnf)
                refine ⟨(j + 1, c.set (0 + (F.arcs.getD (0 + (j : Int).toNat) EK.arc.dflt).t.toNat) true), [], ⟨by rfl, ?_, ?_⟩, ⟨by simp only; omega, ?_⟩, by simp only; omega⟩
                · simp [eqFr, eqHp, eqV, eqA, eqC, eqO, eqCs, eqAs, look_cons, look, rn, EK.cast, EK.sz, eqCaps]
                · simp [eqFr, eqHp, eqV, eqA, eqC, eqO, eqCs, eqAs, look_cons, look, rn, EK.cast, EK.sz, eqCaps, fCells]
                · simp only
                  rw [e0, Nat.zero_add]
                  exact hs
              · have h3 : c.getD (F.arcs.getD j aD).t.toNat false = false := by rw [e0, Nat.zero_add] at h; exact h
                rw [h3, Bool.false_or] at hs
                (conv => whnf)
                refine ⟨(j + 1, c.set (0 + (F.arcs.getD (0 + (j : Int).toNat) EK.arc.dflt).t.toNat) (d.getD (0 + (F.arcs.getD (0 + (j : Int).toNat) EK.arc.dflt).f.toNat) EK.bool.dflt)), [], ⟨by rfl, ?_, ?_⟩, ⟨by simp only; omega, ?_⟩, by simp only; omega⟩
                · simp [eqFr, eqHp, eqV, eqA, eqC, eqO, eqCs, eqAs, look_cons, look, rn, EK.cast, EK.sz, eqCaps]
                · simp [eqFr, eqHp, eqV, eqA, eqC, eqO, eqCs, eqAs, look_cons, look, rn, EK.cast, EK.sz, eqCaps, fCells]
                · simp only
                  rw [e0, Nat.zero_add, Nat.zero_add]
                  exact hs
            · have e : j = F.arcs.length := by omega
              subst e
              have hn : NowIs F.arcs F.st.toNat (k + 1) c := ⟨hcl, fun v hv => by rw [hc.2 v hv, List.take_length]; rfl⟩
              repeat' (first | exact rfl | ((conv => whnf); first | ((first | refine qA (fun h => ?_) fun h => ?_ | refine qN (fun h => ?_) fun h => ?_ | refine qB (fun h => ?_) fun h => ?_ | refine qC (fun h => ?_) fun h => ?_) <;> try exact absurd h (by omega)) | refine qM (fun h => ?_) fun h => ?_ | refine oM (by (first | omega | (simp only [lenS, InI, nmin, EK.sz]; omega) | (simp only [lenS, InI, nmin, EK.sz] at *; omega))) ?_ | refine oM ?_ ?_ | refine bM ?_ ?_ | refine draw_of Tryd.mixed Tryd.tyOk 60 (by kernel_rfl) ?_))
              (conv => whnf)
              refine ⟨(k + 1, c), [(3, some 4)], ⟨by rfl, ?_, ?_⟩, ⟨by simp only; omega, hn⟩, by simp only; omega⟩
              · simp [eqFr, eqHp, eqV, eqA, eqC, eqO, eqCs, eqAs, look_cons, look, rn, EK.cast, EK.sz, eqCaps]
              · simp [eqFr, eqHp, eqV, eqA, eqC, eqO, eqCs, eqAs, look_cons, look, rn, EK.cast, EK.sz, eqCaps, fCells]
        · have e : k = F.st.toNat := by omega
          subst e
          repeat' (first | exact rfl | ((conv => whnf); first | ((first | refine qA (fun h => ?_) fun h => ?_ | refine qN (fun h => ?_) fun h => ?_ | refine qB (fun h => ?_) fun h => ?_ | refine qC (fun h => ?_) fun h => ?_) <;> try exact absurd h (by omega)) | refine qM (fun h => ?_) fun h => ?_ | refine oM (by (first | omega | (simp only [lenS, InI, nmin, EK.sz]; omega) | (simp only [lenS, InI, nmin, EK.sz] at *; omega))) ?_ | refine oM ?_ ?_ | refine bM ?_ ?_ | refine draw_of Tryd.mixed Tryd.tyOk 60 (by kernel_rfl) ?_))
          (conv => whnf)
          refine loopI (fun k : Nat => ⟨[(1, .c (.ptr 2 0)), (2, .b false), (3, .c (.sl 3 1 0 F.st.toNat F.st.toNat)), (8, .i k)], hpF F ++ [(2, .box 25 (fCells F)), (3, .arr true 4 .bool d 0)], 4⟩)
            (fun k => k ≤ F.st.toNat ∧ ∀ v : Nat, v < k → nowB F.arcs F.st.toNat (v : Int) = false) (fun k => F.st.toNat - k) 0 [] ⟨by rfl, ?_, ?_⟩ ⟨Nat.zero_le _, fun v h => absurd h (Nat.not_lt_zero _)⟩ ?_
          · simp [eqFr, eqHp, eqV, eqA, eqC, eqO, eqCs, eqAs, look_cons, look, rn, EK.cast, EK.sz, eqCaps]
          · simp [eqFr, eqHp, eqV, eqA, eqC, eqO, eqCs, eqAs, look_cons, look, rn, EK.cast, EK.sz, eqCaps, fCells]
          · rintro k ⟨hk, hv⟩
            have e0 : 0 + (k : Int).toNat = k := by omega
            have hno : k = F.st.toNat → roundB F.arcs F.st.toNat = false := fun e => range_no fun v h => hv v (by omega)
            repeat' (first | exact rfl | ((conv => whnf); first | ((first | refine qA (fun h => ?_) fun h => ?_ | refine qN (fun h => ?_) fun h => ?_ | refine qB (fun h => ?_) fun h => ?_ | refine qC (fun h => ?_) fun h => ?_) <;> try exact absurd h (by omega)) | refine qM (fun h => ?_) fun h => ?_ | refine oM (by (first | omega | (simp only [lenS, InI, nmin, EK.sz]; omega) | (simp only [lenS, InI, nmin, EK.sz] at *; omega))) ?_ | refine oM ?_ ?_ | refine bM ?_ ?_ | refine draw_of Tryd.mixed Tryd.tyOk 60 (by kernel_rfl) ?_))
            · rename_i h2
              rw [e0] at h
              have hx : roundB F.arcs F.st.toNat = true := range_any (k := k) (by omega) ((hd.2 k (by omega)).symm.trans h)
              (conv => whnf)
              refine Back.is ?_
              simp [eqV, eqA, eqC, hx]
            · rename_i h2
              rw [e0] at h
              have hx : nowB F.arcs F.st.toNat (k : Int) = false := (hd.2 k (by omega)).symm.trans h
              (conv => whnf)
              refine ⟨k + 1, [], ⟨by rfl, ?_, ?_⟩, ⟨by omega, fun v hv2 => ?_⟩, by omega⟩
              · simp [eqFr, eqHp, eqV, eqA, eqC, eqO, eqCs, eqAs, look_cons, look, rn, EK.cast, EK.sz, eqCaps]
              · simp [eqFr, eqHp, eqV, eqA, eqC, eqO, eqCs, eqAs, look_cons, look, rn, EK.cast, EK.sz, eqCaps, fCells]
              · by_cases e : v = k
                · rw [e]; exact hx
                · exact hv v (by omega)
            · have hx := hno (by omega)
              (conv => whnf)
              refine Back.is ?_
              simp [eqV, eqA, eqC, hx]
end Go.Fw
