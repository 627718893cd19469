/- Walks of the functions: what each computes. -/
import Derived.Test.YtlaenllbacalpaaDoorB09
import Derived.Test.YtlaenllbacalpaaDoorB05
import Derived.Test.YtlaenllbacalpaaDoorB08

set_option linter.unusedSimpArgs false
set_option linter.unusedVariables false

namespace Go.Fw
open Go Go.Proofs
def scoreE (F : TF) (u v : List Int) : Int := if fstE F ≠ 0 then fstE F else if wordE u ≠ 0 then wordE u else wordE v
abbrev hpQ (F : TF) (u v : List Int) : List (Nat × SO) := [(0, .arr false 3 .int F.fin 0), (1, .arr false 50 .arc F.arcs 0), (2, .arr false 3 .int u 0), (3, .arr false 3 .int v 0)]
section
variable (F : TF) (u v : List Int) (cu cv : Nat) (rows : List Sli) (pi : List (Addr × List Int × Nat))
theorem run_l (hF : FOk F) (hu : u.length ≤ 40) (hv : v.length ≤ 40) (hr : RowsOk F rows pi) :
    Ct Tryd.prog 71 [.c (.ptr 0 0)] [] [(0, .box 90 [.i F.st, .i F.start, .sl 1 1 0 F.fin.length F.capF, .sl 2 5 0 F.arcs.length F.capA, .sl 3 1 0 u.length cu, .sl 4 1 0 v.length cv, .sl 5 1 0 rows.length rows.length, .v (.map none)]), (1, .arr false 3 .int F.fin 0), (2, .arr false 50 .arc F.arcs 0), (3, .arr false 3 .int u 0), (4, .arr false 3 .int v 0), (5, .arr true 22 .sli rows 0), (6, .pool 3 .int pi), (7, .pool 92 .fnd [])] 8 (fun x s => ∃ es clk pf, x = .tup [] ∧ s = ⟨[], [(0, .box 90 [.i F.st, .i F.start, .sl 1 1 0 F.fin.length F.capF, .sl 2 5 0 F.arcs.length F.capA, .sl 3 1 0 u.length cu, .sl 4 1 0 v.length cv, .sl 5 1 0 rows.length rows.length, .mp 8]), (5, .arr true 22 .sli rows 0), (6, .pool 3 .int pi), (7, .pool 92 .fnd pf), (8, .map .trip .adr es clk)], 9⟩ ∧ Ran ⟨F, u, v, cu, cv, rows, pi, es, clk, pf⟩ es clk pf) :=
  (run_c ⟨F, u, v, cu, cv, rows, pi, [], 0, []⟩ hF hu hv hr).to (fun x s ⟨es, clk, pf, h1, h2, h3⟩ => ⟨es, clk, pf, h1, h2, h3⟩)
theorem end_l (es : List (Trip × Option Addr × Nat)) (clk : Nat) (pf : List (Addr × List Fnd × Nat)) (hF : FOk F) (hu : u.length ≤ 40) (hv : v.length ≤ 40) (hm : MetOk es clk pf) (hb : ∀ y d, metOf es pf y = some d → 0 ≤ d.cost ∧ d.cost ≤ 1000000000000000) :
    Ct Tryd.prog 72 [.c (.ptr 0 0)] [] [(0, .box 90 [.i F.st, .i F.start, .sl 1 1 0 F.fin.length F.capF, .sl 2 5 0 F.arcs.length F.capA, .sl 3 1 0 u.length cu, .sl 4 1 0 v.length cv, .sl 5 1 0 rows.length rows.length, .mp 7]), (1, .arr false 3 .int F.fin 0), (2, .arr false 50 .arc F.arcs 0), (3, .arr false 3 .int u 0), (4, .arr false 3 .int v 0), (5, .arr true 22 .sli rows 0), (6, .pool 3 .int pi), (7, .map .trip .adr es clk), (8, .pool 92 .fnd pf)] 9 (fun x s => x = .tup [.agg [.i (endF (costOf es pf) F.fin u.length v.length F.fin.length).1.a, .i (endF (costOf es pf) F.fin u.length v.length F.fin.length).1.b, .i (endF (costOf es pf) F.fin u.length v.length F.fin.length).1.c], .c (.i (endF (costOf es pf) F.fin u.length v.length F.fin.length).2)] ∧
      s = ⟨[], [(0, .box 90 [.i F.st, .i F.start, .sl 1 1 0 F.fin.length F.capF, .sl 2 5 0 F.arcs.length F.capA, .sl 3 1 0 u.length cu, .sl 4 1 0 v.length cv, .sl 5 1 0 rows.length rows.length, .mp 7]), (5, .arr true 22 .sli rows 0), (6, .pool 3 .int pi), (7, .map .trip .adr es clk), (8, .pool 92 .fnd pf)], 9⟩) :=
  end_c ⟨F, u, v, cu, cv, rows, pi, [], 0, []⟩ hF hu hv es clk pf hm hb
end
set_option maxHeartbeats 4000000 in
set_option maxRecDepth 20000 in
theorem walk_no (F : TF) (u v : List Int) (cu cv : Nat) (hl : F.fin.length ≤ 9223372036854775807) (hsc : scoreE F u v ≠ 0) :
    Ct Tryd.prog 45 [fV F, .c (.sl 2 1 0 u.length cu), .c (.sl 3 1 0 v.length cv)] [] (hpQ F u v) 4 (Is 4 (.tup [.c (.v (.pointer none)), .agg [.i 0, .i 0, .i 0], .c (.i 0), .c (.i (scoreE F u v))])) := by
  unfold scoreE at hsc ⊢
  refine ctW Tryd.tyOk 16 [39, 40, 41] Tryd.func45 rfl (by simp) (by simp) (fr := [(0, fV F), (1, .c (.sl 2 1 0 u.length cu)), (2, .c (.sl 3 1 0 v.length cv))]) rfl ?_
  repeat' (first | exact rfl | ((conv => whnf); first | (refine qX (fun h => ?_) fun h => ?_ <;> try exact absurd h (by omega)) | refine oN ?_ | refine oM ?_ ?_ | refine bM ?_ ?_ | refine dR ?_))
  refine cI (check_c F hl) [0, 1] Tryd.call29 ?_
  by_cases h1 : fstE F = 0
  · rw [if_neg (by omega)] at hsc ⊢
    repeat' (first | exact rfl | ((conv => whnf); first | (refine qX (fun h => ?_) fun h => ?_ <;> try exact absurd h (by omega)) | refine oN ?_ | refine oM ?_ ?_ | refine bM ?_ ?_ | refine dR ?_))
    (conv => whnf)
    refine cI (word_c u cu) [2] Tryd.call44 ?_
    by_cases h2 : wordE u = 0
    · rw [if_neg (by omega)] at hsc ⊢
      repeat' (first | exact rfl | ((conv => whnf); first | (refine qX (fun h => ?_) fun h => ?_ <;> try exact absurd h (by omega)) | refine oN ?_ | refine oM ?_ ?_ | refine bM ?_ ?_ | refine dR ?_))
      (conv => whnf)
      refine cI (word_c v cv) [3] Tryd.call44 ?_
      repeat' (first | exact rfl | ((conv => whnf); first | (refine qX (fun h => ?_) fun h => ?_ <;> try exact absurd h (by omega)) | refine oN ?_ | refine oM ?_ ?_ | refine bM ?_ ?_ | refine dR ?_))
      refine Back.is ?_
      simp
    · rw [if_pos h2]
      repeat' (first | exact rfl | ((conv => whnf); first | (refine qX (fun h => ?_) fun h => ?_ <;> try exact absurd h (by omega)) | refine oN ?_ | refine oM ?_ ?_ | refine bM ?_ ?_ | refine dR ?_))
      refine Back.is ?_
      simp
  · rw [if_pos h1]
    repeat' (first | exact rfl | ((conv => whnf); first | (refine qX (fun h => ?_) fun h => ?_ <;> try exact absurd h (by omega)) | refine oN ?_ | refine oM ?_ ?_ | refine bM ?_ ?_ | refine dR ?_))
    refine Back.is ?_
    simp
set_option maxHeartbeats 8000000 in
set_option maxRecDepth 20000 in
theorem walk_ok (F : TF) (u v : List Int) (cu cv : Nat) (hl : F.fin.length ≤ 9223372036854775807) (h : scoreE F u v = 0) :
    Ct Tryd.prog 45 [fV F, .c (.sl 2 1 0 u.length cu), .c (.sl 3 1 0 v.length cv)] [] (hpQ F u v) 4 (fun x s => ∃ rows pi es clk pf, Ran ⟨F, u, v, cu, cv, rows, pi, es, clk, pf⟩ es clk pf ∧
      x = .tup [.c (.ptr 4 0), .agg [.i (endF (costOf es pf) F.fin u.length v.length F.fin.length).1.a, .i (endF (costOf es pf) F.fin u.length v.length F.fin.length).1.b, .i (endF (costOf es pf) F.fin u.length v.length F.fin.length).1.c], .c (.i (endF (costOf es pf) F.fin u.length v.length F.fin.length).2), .c (.i 0)] ∧
      s = ⟨[], [(4, .box 90 [.i F.st, .i F.start, .sl 0 1 0 F.fin.length F.capF, .sl 1 5 0 F.arcs.length F.capA, .sl 2 1 0 u.length cu, .sl 3 1 0 v.length cv, .sl 5 1 0 rows.length rows.length, .mp 8]), (5, .arr true 22 .sli rows 0), (6, .pool 3 .int pi), (7, .pool 92 .fnd pf), (8, .map .trip .adr es clk)], 9⟩) := by
  have h1 : fstE F = 0 := by
    unfold scoreE at h
    split at h
    · omega
    · omega
  have h2 : wordE u = 0 := by
    unfold scoreE at h
    rw [if_neg (by omega)] at h
    split at h <;> omega
  have h3 : wordE v = 0 := by
    unfold scoreE at h
    rw [if_neg (by omega), if_neg (by omega)] at h
    exact h
  have hu : u.length ≤ 40 := by
    unfold wordE at h2
    split at h2
    · cases h2
    · omega
  have hv : v.length ≤ 40 := by
    unfold wordE at h3
    split at h3
    · cases h3
    · omega
  have hF := fstE_ok h1
  have hst := hF.st
  have hfl := hF.finl
  have hal := hF.arcl
  refine ctW Tryd.tyOk 16 [39, 40, 41] Tryd.func45 rfl (by simp) (by simp) (fr := [(0, fV F), (1, .c (.sl 2 1 0 u.length cu)), (2, .c (.sl 3 1 0 v.length cv))]) rfl ?_
  repeat' (first | exact rfl | ((conv => whnf); first | (refine qX (fun h => ?_) fun h => ?_ <;> try exact absurd h (by omega)) | refine oN ?_ | refine oM ?_ ?_ | refine bM ?_ ?_ | refine dR ?_))
  refine cI (check_c F hl) [0, 1] Tryd.call29 ?_
  rw [h1]
  repeat' (first | exact rfl | ((conv => whnf); first | (refine qX (fun h => ?_) fun h => ?_ <;> try exact absurd h (by omega)) | refine oN ?_ | refine oM ?_ ?_ | refine bM ?_ ?_ | refine dR ?_))
  (conv => whnf)
  refine cI (word_c u cu) [2] Tryd.call44 ?_
  rw [h2]
  repeat' (first | exact rfl | ((conv => whnf); first | (refine qX (fun h => ?_) fun h => ?_ <;> try exact absurd h (by omega)) | refine oN ?_ | refine oM ?_ ?_ | refine bM ?_ ?_ | refine dR ?_))
  (conv => whnf)
  refine cI (word_c v cv) [3] Tryd.call44 ?_
  rw [h3]
  repeat' (first | exact rfl | ((conv => whnf); first | (refine qX (fun h => ?_) fun h => ?_ <;> try exact absurd h (by omega)) | refine oN ?_ | refine oM ?_ ?_ | refine bM ?_ ?_ | refine dR ?_))
  (conv => whnf)
  refine loopI (fun y : Nat × List Sli × List (Addr × List Int × Nat) => ⟨[(1, .c (.sl 2 1 0 u.length cu)), (2, .c (.sl 3 1 0 v.length cv)), (3, .c (.ptr 4 0)), (6, .c (.v (.pointer none))), (7, .c (.ptr 5 0)), (8, .i 0), (9, .i 0), (10, .i 0), (11, .c (.ptr 7 0)), (39, .c (.sl 1 5 0 F.arcs.length F.capA)), (40, .i F.arcs.length), (41, .i y.1)],
    (4, .box 25 (fCells F)) :: (5, .box 64 [.i 0, .i 0, .i 0]) :: (6, .arr true 22 .sli y.2.1 0) :: (7, .box 90 [.i F.st, .i F.start, .sl 0 1 0 F.fin.length F.capF, .sl 1 5 0 F.arcs.length F.capA, .sl 2 1 0 u.length cu, .sl 3 1 0 v.length cv, .sl 6 1 0 y.2.1.length y.2.1.length, .v (.map none)]) :: (8, .pool 3 .int y.2.2) :: hpQ F u v, 9⟩)
    (fun y => y.1 ≤ F.arcs.length ∧ RowsK F y.2.1 y.2.2 y.1) (fun y => F.arcs.length - y.1) (0, List.replicate F.st.toNat ⟨none, 0, 0⟩, []) [(8, none)] ⟨by rfl, ?_, ?_⟩ ⟨by omega, RowsK.zero F⟩ ?_
  · simp
  · simp [fCells, nilO]
    exact .inr rfl
  · rintro ⟨k, rows, pi⟩ ⟨i1, i2⟩
    simp only at i1 i2 ⊢
    have hrl := i2.len
    (conv => whnf)
    refine condP_dec (fun hk => ?_) (fun hk => ?_)
    · have e0 : 0 + (k : Int).toNat = k := by omega
      have ea : F.arcs.getD (0 + (k : Int).toNat) EK.arc.dflt = F.arcs.getD k EK.arc.dflt := by rw [e0]
      have hao := hF.arc _ (getD_mem F.arcs k EK.arc.dflt (by omega))
      rw [← ea] at hao
      have hf0 := hao.f0
      have hf1 := hao.f1
      have hj : (F.arcs.getD (0 + (k : Int).toNat) EK.arc.dflt).f.toNat < F.st.toNat := by omega
      have hd := i2.hd _ hj
      have hln := hd.len
      rw [i2.row _ hj] at hln
      have hnl := numsK_len F k ((F.arcs.getD (0 + (k : Int).toNat) EK.arc.dflt).f.toNat)
      have ej : 0 + (F.arcs.getD (0 + (k : Int).toNat) EK.arc.dflt).f.toNat = (F.arcs.getD (0 + (k : Int).toNat) EK.arc.dflt).f.toNat := by omega
      repeat' (first | exact rfl | ((conv => whnf); first | (refine qX (fun h => ?_) fun h => ?_ <;> try exact absurd h (by omega)) | refine oN ?_ | refine oM ?_ ?_ | refine bM ?_ ?_ | refine dR ?_))
      · rw [ej]
        exact ⟨hd, by omega, by omega⟩
      · (conv => whnf)
        intro m' h' happ
        rw [ej] at happ
        have hstep := i2.step hj (by rw [← ea]; omega) happ
        repeat' (first | exact rfl | ((conv => whnf); first | (refine qX (fun h => ?_) fun h => ?_ <;> try exact absurd h (by omega)) | refine oN ?_ | refine oM ?_ ?_ | refine bM ?_ ?_ | refine dR ?_))
        (conv => whnf)
        refine ⟨(k + 1, rows.set (F.arcs.getD (0 + (k : Int).toNat) EK.arc.dflt).f.toNat h', m'), [], ⟨by rfl, ?_, ?_⟩, ⟨by simp only; omega, hstep⟩, by simp only; omega⟩
        · simp
        · simp [fCells]
    · have hkn : k = F.arcs.length := by omega
      subst hkn
      have hro := i2.ok
      repeat' (first | exact rfl | ((conv => whnf); first | (refine qX (fun h => ?_) fun h => ?_ <;> try exact absurd h (by omega)) | refine oN ?_ | refine oM ?_ ?_ | refine bM ?_ ?_ | refine dR ?_))
      (conv => whnf)
      refine callPool 92 .fnd (by simp) ?_
      (conv => whnf)
      refine cF (run_l F u v cu cv rows pi hF hu hv hro) [7, 0, 1, 2, 3, 6, 8, 9] Tryd.call71 ?_
      rintro _ _ ⟨es, clk, pf, rfl, rfl, hran⟩
      have hran2 := hran
      obtain ⟨hm, ord, rk, B, hol, hD, hB, hall⟩ := hran2
      repeat' (first | exact rfl | ((conv => whnf); first | (refine qX (fun h => ?_) fun h => ?_ <;> try exact absurd h (by omega)) | refine oN ?_ | refine oM ?_ ?_ | refine bM ?_ ?_ | refine dR ?_))
      (conv => whnf)
      refine cF (end_l F u v cu cv rows pi es clk pf hF hu hv hm (fun y d hy => ⟨(hD.cost y d hy).1, Int.le_trans (hD.cost y d hy).2 hB⟩)) [7, 0, 1, 2, 3, 6, 8, 10, 9] Tryd.call72 ?_
      rintro _ _ ⟨rfl, rfl⟩
      repeat' (first | exact rfl | ((conv => whnf); first | (refine qX (fun h => ?_) fun h => ?_ <;> try exact absurd h (by omega)) | refine oN ?_ | refine oM ?_ ?_ | refine bM ?_ ?_ | refine dR ?_))
      (conv => whnf)
      generalize hE : endF (costOf es pf) F.fin u.length v.length F.fin.length = E at *
      refine ⟨[(4, some 7), (5, some 6), (6, some 8), (7, some 9), (8, some 10)], [(4, .box 90 [.i F.st, .i F.start, .sl 0 1 0 F.fin.length F.capF, .sl 1 5 0 F.arcs.length F.capA, .sl 2 1 0 u.length cu, .sl 3 1 0 v.length cv, .sl 5 1 0 rows.length rows.length, .mp 8]), (5, .arr true 22 .sli rows 0), (6, .pool 3 .int pi), (7, .pool 92 .fnd pf), (8, .map .trip .adr es clk)], 9, .tup [.c (.ptr 4 0), .agg [.i E.1.a, .i E.1.b, .i E.1.c], .c (.i E.2), .c (.i 0)], ⟨by rfl, trivial, by simp⟩, by simp, rows, pi, es, clk, pf, hran, ?_, rfl⟩
      rw [hE]
end Go.Fw

namespace Go.Fw
open Go Go.Proofs
set_option maxHeartbeats 4000000 in
set_option maxRecDepth 20000 in
theorem score_no (F : TF) (u v : List Int) (cu cv : Nat) (hl : F.fin.length ≤ 9223372036854775807) (hsc : scoreE F u v ≠ 0) :
    Ct Tryd.prog 20 [fV F, .c (.sl 2 1 0 u.length cu), .c (.sl 3 1 0 v.length cv)] [] (hpQ F u v) 4 (Is 4 (.tup [.c (.i 0), .c (.i (scoreE F u v))])) := by
  refine ctW Tryd.tyOk 12 [] Tryd.func20 rfl (by simp) (by simp) (fr := [(0, fV F), (1, .c (.sl 2 1 0 u.length cu)), (2, .c (.sl 3 1 0 v.length cv))]) rfl ?_
  repeat' (first | exact rfl | ((conv => whnf); first | (refine qX (fun h => ?_) fun h => ?_ <;> try exact absurd h (by omega)) | refine oN ?_ | refine oM ?_ ?_ | refine bM ?_ ?_ | refine dR ?_))
  (conv => whnf)
  refine cI (walk_no F u v cu cv hl hsc) [0, 1, 2, 3] Tryd.call45 ?_
  repeat' (first | exact rfl | ((conv => whnf); first | (refine qX (fun h => ?_) fun h => ?_ <;> try exact absurd h (by omega)) | refine oN ?_ | refine oM ?_ ?_ | refine bM ?_ ?_ | refine dR ?_))
  refine Back.is ?_
  simp
set_option maxHeartbeats 4000000 in
set_option maxRecDepth 20000 in
theorem score_ok (F : TF) (u v : List Int) (cu cv : Nat) (hl : F.fin.length ≤ 9223372036854775807) (hsc : scoreE F u v = 0) :
    Ct Tryd.prog 20 [fV F, .c (.sl 2 1 0 u.length cu), .c (.sl 3 1 0 v.length cv)] [] (hpQ F u v) 4 (fun x s => ∃ A, IsLeast F u v (fromSt F) A ∧ x = .tup [.c (.i (endF A F.fin u.length v.length F.fin.length).2), .c (.i 0)] ∧ s = ⟨[], [], 4⟩) := by
  refine ctW Tryd.tyOk 12 [] Tryd.func20 rfl (by simp) (by simp) (fr := [(0, fV F), (1, .c (.sl 2 1 0 u.length cu)), (2, .c (.sl 3 1 0 v.length cv))]) rfl ?_
  repeat' (first | exact rfl | ((conv => whnf); first | (refine qX (fun h => ?_) fun h => ?_ <;> try exact absurd h (by omega)) | refine oN ?_ | refine oM ?_ ?_ | refine bM ?_ ?_ | refine dR ?_))
  (conv => whnf)
  refine cF (walk_ok F u v cu cv hl hsc) [0, 1, 2, 3] Tryd.call45 ?_
  rintro _ _ ⟨rows, pi, es, clk, pf, ⟨hm, ord, rk, B, hol, hD, hB, hall⟩, rfl, rfl⟩
  repeat' (first | exact rfl | ((conv => whnf); first | (refine qX (fun h => ?_) fun h => ?_ <;> try exact absurd h (by omega)) | refine oN ?_ | refine oM ?_ ?_ | refine bM ?_ ?_ | refine dR ?_))
  (conv => whnf)
  exact ⟨[], [], 4, .tup [.c (.i (endF (costOf es pf) F.fin u.length v.length F.fin.length).2), .c (.i 0)], ⟨by rfl, trivial, trivial⟩, by simp, costOf es pf, hD.least hall, rfl, rfl⟩
end Go.Fw

/-
  Sorting a range in place, in the plain: swaps, rotation, merging; whatever the elements, by an order.
-/
namespace Go.Fw
open Go
section
variable {α : Type} {d : α}
structure Mv (d : α) (a b : Nat) (xs ys : List α) : Prop where
  len : ys.length = xs.length
  perm : ys.Perm xs
  out : ∀ k, k < a ∨ b ≤ k → ys.getD k d = xs.getD k d
  ins : ∀ k, a ≤ k → k < b → ∃ k', a ≤ k' ∧ k' < b ∧ ys.getD k d = xs.getD k' d
theorem Mv.refl (a b : Nat) (xs : List α) : Mv d a b xs xs := ⟨rfl, .refl _, fun _ _ => rfl, fun k h1 h2 => ⟨k, h1, h2, rfl⟩⟩
theorem Mv.trans {a b : Nat} {xs ys zs : List α} (h : Mv d a b xs ys) (h' : Mv d a b ys zs) : Mv d a b xs zs where
  len := h'.len.trans h.len
  perm := h'.perm.trans h.perm
  out := fun k hk => (h'.out k hk).trans (h.out k hk)
  ins := fun k h1 h2 => by
    obtain ⟨k', g1, g2, g3⟩ := h'.ins k h1 h2
    obtain ⟨k'', f1, f2, f3⟩ := h.ins k' g1 g2
    exact ⟨k'', f1, f2, g3.trans f3⟩
theorem Mv.wide {a b a' b' : Nat} {xs ys : List α} (h : Mv d a b xs ys) (ha : a' ≤ a) (hb : b ≤ b') : Mv d a' b' xs ys where
  len := h.len
  perm := h.perm
  out := fun k hk => h.out k (by omega)
  ins := fun k h1 h2 => by
    by_cases hk : a ≤ k ∧ k < b
    · obtain ⟨k', g1, g2, g3⟩ := h.ins k hk.1 hk.2
      exact ⟨k', by omega, by omega, g3⟩
    · exact ⟨k, h1, h2, h.out k (by omega)⟩
def swapL (d : α) (xs : List α) (i j : Nat) : List α := (xs.set i (xs.getD j d)).set j (xs.getD i d)
theorem getD_set' {β : Type} (c : List β) (i v : Nat) (x d : β) : (c.set i x).getD v d = if i = v ∧ v < c.length then x else c.getD v d := by
  by_cases h : i = v
  · subst h
    by_cases h2 : i < c.length
    · simp [List.getD, h2]
    · simp [List.getD, h2]
  · simp [List.getD, List.getElem?_set_ne h, h]
theorem swapL_getD {xs : List α} {i j : Nat} (hi : i < xs.length) (hj : j < xs.length) (k : Nat) : (swapL d xs i j).getD k d = if k = j then xs.getD i d else if k = i then xs.getD j d else xs.getD k d := by
  unfold swapL
  rw [getD_set', getD_set', List.length_set]
  by_cases h1 : k = j
  · subst h1
    rw [if_pos ⟨rfl, hj⟩, if_pos rfl]
  · rw [if_neg (fun c => h1 c.1.symm), if_neg h1]
    by_cases h2 : k = i
    · subst h2
      rw [if_pos ⟨rfl, hi⟩, if_pos rfl]
    · rw [if_neg (fun c => h2 c.1.symm), if_neg h2]
structure LtOk (lt : α → α → Bool) : Prop where
  asym : ∀ x y, lt x y = true → lt y x = false
  trans : ∀ x y z, lt y x = false → lt z y = false → lt z x = false
variable {lt : α → α → Bool}
def SrtOn (d : α) (lt : α → α → Bool) (a b : Nat) (xs : List α) : Prop := ∀ i j, a ≤ i → i < j → j < b → lt (xs.getD j d) (xs.getD i d) = false
theorem SrtOn.cong {a b : Nat} {xs ys : List α} (h : SrtOn d lt a b xs) (he : ∀ k, a ≤ k → k < b → ys.getD k d = xs.getD k d) : SrtOn d lt a b ys := by
  intro i j h1 h2 h3
  rw [he i h1 (by omega), he j (by omega) h3]
  exact h i j h1 h2 h3
theorem SrtOn.one {a b : Nat} {xs : List α} (h : b ≤ a + 1) : SrtOn d lt a b xs := fun i j h1 h2 h3 => by omega
theorem LtOk.irr (h : LtOk lt) (x : α) : lt x x = false := by
  cases e : lt x x with
  | false => rfl
  | true => have := h.asym x x e; rw [e] at this; cases this
theorem SrtOn.le (hlt : LtOk lt) {a b : Nat} {xs : List α} (h : SrtOn d lt a b xs) {i j : Nat} (h1 : a ≤ i) (h2 : i ≤ j) (h3 : j < b) : lt (xs.getD j d) (xs.getD i d) = false := by
  by_cases e : i = j
  · subst e; exact hlt.irr _
  · exact h i j h1 (by omega) h3
def InsOn (d : α) (lt : α → α → Bool) (a i j : Nat) (xs : List α) : Prop := ∀ p q, a ≤ p → p < q → q ≤ i → q ≠ j → lt (xs.getD q d) (xs.getD p d) = false
theorem InsOn.start {a i : Nat} {xs : List α} (h : SrtOn d lt a i xs) : InsOn d lt a i i xs := fun p q h1 h2 h3 h4 => h p q h1 h2 (by omega)
theorem InsOn.step (hlt : LtOk lt) {a i j : Nat} {xs : List α} (h : InsOn d lt a i j xs) (hj : a < j) (hji : j ≤ i) (hi : i < xs.length) (hx : lt (xs.getD j d) (xs.getD (j - 1) d) = true) : InsOn d lt a i (j - 1) (swapL d xs j (j - 1)) := by
  intro p q h1 h2 h3 h4
  have hg := swapL_getD (d := d) (xs := xs) (i := j) (j := j - 1) (by omega) (by omega)
  rw [hg, hg, if_neg h4]
  by_cases e : q = j
  · subst e
    rw [if_pos rfl]
    by_cases e2 : p = q - 1
    · rw [if_pos e2]; exact hlt.asym _ _ hx
    · rw [if_neg e2, if_neg (by omega)]; exact h p (q - 1) h1 (by omega) (by omega) (by omega)
  · rw [if_neg e]
    by_cases e2 : p = j - 1
    · rw [if_pos e2]; exact h j q (by omega) (by omega) h3 e
    · rw [if_neg e2]
      by_cases e3 : p = j
      · rw [if_pos e3]; exact h (j - 1) q (by omega) (by omega) h3 e
      · rw [if_neg e3]; exact h p q h1 h2 h3 e
theorem InsOn.done (hlt : LtOk lt) {a i j : Nat} {xs : List α} (h : InsOn d lt a i j xs) (hji : j ≤ i) (hx : j ≤ a ∨ lt (xs.getD j d) (xs.getD (j - 1) d) = false) : SrtOn d lt a (i + 1) xs := by
  intro p q h1 h2 h3
  by_cases e : q = j
  · subst e
    rcases hx with hx | hx
    · omega
    · by_cases e2 : p = q - 1
      · rw [e2]; exact hx
      · exact hlt.trans _ _ _ (h p (q - 1) h1 (by omega) (by omega) (by omega)) hx
  · exact h p q h1 h2 (by omega) e
def SwOn (d : α) (a b k : Nat) (xs ys : List α) : Prop := ∀ p, ys.getD p d = if a ≤ p ∧ p < a + k then xs.getD (p - a + b) d else if b ≤ p ∧ p < b + k then xs.getD (p - b + a) d else xs.getD p d
theorem SwOn.zero (a b : Nat) (xs : List α) : SwOn d a b 0 xs xs := fun p => by rw [if_neg (by omega), if_neg (by omega)]
theorem SwOn.step {a b k n : Nat} {xs ys : List α} (h : SwOn d a b k xs ys) (hl : ys.length = xs.length) (hk : k < n) (hab : a + n ≤ b) (hb : b + n ≤ xs.length) : SwOn d a b (k + 1) xs (swapL d ys (a + k) (b + k)) := by
  intro p
  rw [swapL_getD (by omega) (by omega)]
  have h1 := h p
  have h2 := h (a + k)
  have h3 := h (b + k)
  rw [if_neg (by omega), if_neg (by omega)] at h2 h3
  by_cases e1 : p = b + k
  · subst e1
    rw [if_pos rfl, if_neg (by omega), if_pos (by omega), h2]
    congr 1; omega
  · rw [if_neg e1]
    by_cases e2 : p = a + k
    · subst e2
      rw [if_pos rfl, if_pos (by omega), h3]
      congr 1; omega
    · rw [if_neg e2, h1]
      by_cases e3 : a ≤ p ∧ p < a + k
      · rw [if_pos e3, if_pos (by omega)]
      · by_cases e4 : b ≤ p ∧ p < b + k
        · rw [if_neg e3, if_pos e4, if_neg (by omega), if_pos (by omega)]
        · rw [if_neg e3, if_neg e4, if_neg (by omega), if_neg (by omega)]
def RotOn (d : α) (a m b : Nat) (xs ys : List α) : Prop := ∀ p, ys.getD p d = if a ≤ p ∧ p < a + (b - m) then xs.getD (p - a + m) d else if a + (b - m) ≤ p ∧ p < b then xs.getD (p - (b - m)) d else xs.getD p d
theorem RotOn.left {a m b i j : Nat} {xs ys zs : List α} (h : ∀ us, RotOn d (m - i) m (m + j) ys us → RotOn d a m b xs us) (hij : j < i) (him : i ≤ m) (hs : SwOn d (m - i) m j ys zs) : ∀ us, RotOn d (m - (i - j)) m (m + j) zs us → RotOn d a m b xs us := by
  intro us hu
  refine h us fun p => ?_
  rw [hu p]
  have h1 := hs p
  have h2 := hs (p - (m - (i - j)) + m)
  have h3 := hs (p - (m + j - m))
  by_cases c1 : m - i ≤ p ∧ p < m - i + j
  · rw [if_neg (by omega), if_neg (by omega), h1, if_pos c1, if_pos (by omega)]
  · by_cases c2 : m - (i - j) ≤ p ∧ p < m - (i - j) + j
    · rw [if_pos (by omega), h2, if_neg (by omega), if_pos (by omega), if_neg (by omega), if_pos (by omega)]
      congr 1; omega
    · by_cases c3 : m - (i - j) + j ≤ p ∧ p < m + j
      · rw [if_neg (by omega), if_pos (by omega), h3, if_neg (by omega), if_neg (by omega), if_neg (by omega), if_pos (by omega)]
      · rw [if_neg (by omega), if_neg (by omega), h1, if_neg (by omega), if_neg (by omega), if_neg (by omega), if_neg (by omega)]
theorem RotOn.right {a m b i j : Nat} {xs ys zs : List α} (h : ∀ us, RotOn d (m - i) m (m + j) ys us → RotOn d a m b xs us) (hij : i < j) (him : i ≤ m) (hs : SwOn d (m - i) (m + j - i) i ys zs) : ∀ us, RotOn d (m - i) m (m + (j - i)) zs us → RotOn d a m b xs us := by
  intro us hu
  refine h us fun p => ?_
  rw [hu p]
  have h1 := hs p
  have h2 := hs (p - (m - i) + m)
  have h3 := hs (p - (m + (j - i) - m))
  by_cases c1 : m - i ≤ p ∧ p < m - i + (j - i)
  · rw [if_pos (by omega), h2, if_neg (by omega), if_neg (by omega), if_pos (by omega)]
  · by_cases c2 : m - i + (j - i) ≤ p ∧ p < m + (j - i)
    · rw [if_neg (by omega), if_pos (by omega), h3, if_pos (by omega), if_pos (by omega)]
      congr 1; omega
    · by_cases c3 : m + (j - i) ≤ p ∧ p < m + j
      · rw [if_neg (by omega), if_neg (by omega), h1, if_neg (by omega), if_pos (by omega), if_neg (by omega), if_pos (by omega)]
        congr 1; omega
      · rw [if_neg (by omega), if_neg (by omega), h1, if_neg (by omega), if_neg (by omega), if_neg (by omega), if_neg (by omega)]
theorem RotOn.last {m i : Nat} {ys zs : List α} (him : i ≤ m) (hs : SwOn d (m - i) m i ys zs) : RotOn d (m - i) m (m + i) ys zs := by
  intro p
  rw [hs p]
  by_cases c1 : m - i ≤ p ∧ p < m - i + i
  · rw [if_pos c1, if_pos (by omega)]
  · by_cases c2 : m ≤ p ∧ p < m + i
    · rw [if_neg c1, if_pos c2, if_neg (by omega), if_pos (by omega)]
      congr 1; omega
    · rw [if_neg c1, if_neg c2, if_neg (by omega), if_neg (by omega)]
end
end Go.Fw

/-
  Merging in place, and block by block, in the plain.
-/
namespace Go.Fw
open Go
section
variable {α : Type} {d : α} {lt : α → α → Bool}
theorem RotOn.none {a m b : Nat} {xs : List α} (h : m = a ∨ b = m) : RotOn d a m b xs xs := by
  intro p
  rcases h with rfl | rfl
  · by_cases c : m ≤ p ∧ p < m + (b - m)
    · rw [if_pos c]; congr 1; omega
    · rw [if_neg c, if_neg (by omega)]
  · rw [if_neg (by omega)]
    by_cases c : a + (b - b) ≤ p ∧ p < b
    · rw [if_pos c]; congr 1; omega
    · rw [if_neg c]
structure SymS (d : α) (lt : α → α → Bool) (lo hi p s r : Nat) (xs : List α) : Prop where
  l : lo ≤ s
  m : s ≤ r
  h : r ≤ hi
  lf : s = lo ∨ lt (xs.getD (p - (s - 1)) d) (xs.getD (s - 1) d) = false
  rt : r = hi ∨ lt (xs.getD (p - r) d) (xs.getD r d) = true
def Cross (d : α) (lt : α → α → Bool) (a mid b : Nat) (ys : List α) : Prop := ∀ i j, a ≤ i → i < mid → mid ≤ j → j < b → lt (ys.getD j d) (ys.getD i d) = false
def UpTo (d : α) (lt : α → α → Bool) (bs a : Nat) (ys : List α) : Prop := ∃ t, a = t * bs ∧ ∀ s, s < t → SrtOn d lt (s * bs) ((s + 1) * bs) ys
def AllBl (d : α) (lt : α → α → Bool) (bs n : Nat) (ys : List α) : Prop := ∀ s, SrtOn d lt (s * bs) (min ((s + 1) * bs) n) ys
def Half (d : α) (lt : α → α → Bool) (bs n a : Nat) (ys : List α) : Prop := ∃ t, a = t * (2 * bs) ∧ (∀ s, s < t → SrtOn d lt (s * (2 * bs)) ((s + 1) * (2 * bs)) ys) ∧ ∀ s, 2 * t ≤ s → SrtOn d lt (s * bs) (min ((s + 1) * bs) n) ys
theorem UpTo.zero (bs : Nat) (ys : List α) : UpTo d lt bs 0 ys := ⟨0, by simp, fun s h => by omega⟩
theorem UpTo.next {bs a : Nat} {ys zs : List α} (h : UpTo d lt bs a ys) (hm : Mv d a (a + bs) ys zs) (hs : SrtOn d lt a (a + bs) zs) : UpTo d lt bs (a + bs) zs := by
  obtain ⟨t, rfl, h2⟩ := h
  refine ⟨t + 1, by rw [Nat.succ_mul], fun s hst => ?_⟩
  by_cases e : s = t
  · subst e; rw [Nat.succ_mul]; exact hs
  · have hle : (s + 1) * bs ≤ t * bs := Nat.mul_le_mul_right _ (by omega)
    exact (h2 s (by omega)).cong fun k _ hk => hm.out k (.inl (by omega))
theorem UpTo.done {bs a n : Nat} {ys zs : List α} (h : UpTo d lt bs a ys) (han : a ≤ n) (hn : n < a + bs) (hm : Mv d a n ys zs) (hs : SrtOn d lt a n zs) : AllBl d lt bs n zs := by
  obtain ⟨t, rfl, h2⟩ := h
  intro s
  by_cases c : s < t
  · have hle : (s + 1) * bs ≤ t * bs := Nat.mul_le_mul_right _ (by omega)
    rw [Nat.min_eq_left (by omega)]
    exact (h2 s c).cong fun k _ hk => hm.out k (.inl (by omega))
  · by_cases e : s = t
    · subst e
      rw [Nat.min_eq_right (by rw [Nat.succ_mul]; omega)]
      exact hs
    · have hle : (t + 1) * bs ≤ s * bs := Nat.mul_le_mul_right _ (by omega)
      rw [Nat.succ_mul] at hle
      intro i j h1 h2 h3
      have := Nat.min_le_right ((s + 1) * bs) n
      omega
theorem Half.zero {bs n : Nat} {ys : List α} (h : AllBl d lt bs n ys) : Half d lt bs n 0 ys := ⟨0, by simp, fun s h => by omega, fun s _ => h s⟩
theorem Half.two {bs n a : Nat} {ys : List α} (h : Half d lt bs n a ys) (hab : a + bs ≤ n) : SrtOn d lt a (a + bs) ys ∧ SrtOn d lt (a + bs) (min (a + 2 * bs) n) ys := by
  obtain ⟨t, rfl, h2, h3⟩ := h
  have e1 : 2 * t * bs = t * (2 * bs) := by rw [Nat.mul_comm 2 t, Nat.mul_assoc]
  have e2 : (2 * t + 1) * bs = t * (2 * bs) + bs := by rw [Nat.succ_mul, e1]
  have e3 : (2 * t + 1 + 1) * bs = t * (2 * bs) + 2 * bs := by rw [Nat.succ_mul, e2]; omega
  have k1 := h3 (2 * t) (Nat.le_refl _)
  have k2 := h3 (2 * t + 1) (by omega)
  rw [e2, e1, Nat.min_eq_left hab] at k1
  rw [e3, e2] at k2
  exact ⟨k1, k2⟩
theorem Half.next {bs n a : Nat} {ys zs : List α} (h : Half d lt bs n a ys) (hm : Mv d a (a + 2 * bs) ys zs) (hs : SrtOn d lt a (a + 2 * bs) zs) : Half d lt bs n (a + 2 * bs) zs := by
  obtain ⟨t, rfl, h2, h3⟩ := h
  refine ⟨t + 1, (Nat.succ_mul t (2 * bs)).symm, fun s hst => ?_, fun s hst => ?_⟩
  · by_cases e : s = t
    · subst e; rw [Nat.succ_mul s (2 * bs)]; exact hs
    · have hle : (s + 1) * (2 * bs) ≤ t * (2 * bs) := Nat.mul_le_mul_right _ (by omega)
      exact (h2 s (by omega)).cong fun k _ hk => hm.out k (.inl (by omega))
  · have hle : (2 * t + 2) * bs ≤ s * bs := Nat.mul_le_mul_right _ (by omega)
    have e1 : (2 * t + 2) * bs = t * (2 * bs) + 2 * bs := by rw [Nat.add_mul, Nat.mul_comm 2 t, Nat.mul_assoc]
    exact (h3 s (by omega)).cong fun k hk _ => hm.out k (.inr (by omega))
theorem Half.done {bs n a : Nat} {ys zs : List α} (h : Half d lt bs n a ys) (han : a ≤ n) (hn : n < a + 2 * bs) (hm : Mv d a n ys zs) (hs : SrtOn d lt a n zs) : AllBl d lt (2 * bs) n zs := by
  obtain ⟨t, rfl, h2, _⟩ := h
  exact UpTo.done ⟨t, rfl, h2⟩ han hn hm hs
theorem AllBl.all {bs n : Nat} {ys : List α} (h : AllBl d lt bs n ys) (hn : n ≤ bs) : SrtOn d lt 0 n ys := by
  have := h 0
  rwa [Nat.zero_mul, Nat.zero_add, Nat.one_mul, Nat.min_eq_right hn] at this
end
end Go.Fw

/-
  Ways of a transducer, in the plain; what it is to be the least of some costs.
-/
namespace Go.Fw
open Go
theorem aheadB_trans {a b c : Arc} (h1 : aheadB a b = true) (h2 : aheadB b c = true) : aheadB a c = true := by
  unfold aheadB at *
  repeat' split at h1
  all_goals repeat' split at h2
  all_goals repeat' split
  all_goals simp only [decide_eq_true_eq, Bool.false_eq_true] at *
  all_goals omega
theorem aheadB_irr (a : Arc) : aheadB a a = false := by simp [aheadB]
theorem aheadB_asymm {a b : Arc} (h1 : aheadB a b = true) : aheadB b a = false := by
  cases h : aheadB b a with
  | false => rfl
  | true => have := aheadB_trans h1 h; rw [aheadB_irr] at this; cases this
def Srt (l : List Arc) : Prop := l.Pairwise fun a b => aheadB a b = true
theorem arcsE_iff {st : Int} : ∀ (l : List Arc) (p : Option Arc), arcsE st p l = 0 ↔ (∀ a ∈ l, ArcOk st a) ∧ Srt l ∧ ∀ b, p = some b → ∀ a ∈ l, aheadB b a = true
  | [], p => by simp [arcsE_nil, Srt]
  | x :: l, p => by
    rw [arcsE_cons]
    have ih := arcsE_iff (st := st) l (some x)
    have hx : ArcOk st x ↔ arcOk st x = true ∧ arcIn x = true := by
      simp only [arcOk, arcIn, Bool.and_eq_true, decide_eq_true_eq]
      constructor
      · intro h; have := h.f0; have := h.f1; have := h.t0; have := h.t1; have := h.w0; have := h.w1; have := h.i0; have := h.o0; omega
      · intro h; exact ⟨by omega, by omega, by omega, by omega, by omega, by omega, by omega, by omega⟩
    cases h1 : arcOk st x with
    | false =>
      simp only [Bool.not_false, if_true]
      constructor
      · intro h; cases h
      · intro h; have := hx.1 (h.1 x (by simp)); rw [h1] at this; cases this.1
    | true =>
      cases h2 : arcIn x with
      | false =>
        simp only [Bool.not_true, Bool.false_eq_true, if_false, Bool.not_false, if_true]
        constructor
        · intro h; cases h
        · intro h; have := hx.1 (h.1 x (by simp)); rw [h2] at this; cases this.2
      | true =>
        have hxo := hx.2 ⟨h1, h2⟩
        simp only [Bool.not_true, Bool.false_eq_true, if_false]
        cases p with
        | none =>
          simp only [Bool.false_eq_true, if_false, ih]
          simp only [List.mem_cons, forall_eq_or_imp, Srt, List.pairwise_cons, reduceCtorEq, false_implies, implies_true, and_true, Option.some.injEq, forall_eq']
          constructor
          · rintro ⟨g1, g2, g3⟩; exact ⟨⟨hxo, g1⟩, g3, g2⟩
          · rintro ⟨⟨_, g1⟩, g3, g2⟩; exact ⟨g1, g2, g3⟩
        | some b =>
          simp only
          by_cases h3 : aheadB b x = true
          · rw [if_neg (by rw [h3]; decide), ih]
            simp only [List.mem_cons, forall_eq_or_imp, Srt, List.pairwise_cons, Option.some.injEq, forall_eq']
            constructor
            · rintro ⟨g1, g2, g3⟩; exact ⟨⟨hxo, g1⟩, ⟨g3, g2⟩, h3, fun a ha => aheadB_trans h3 (g3 a ha)⟩
            · rintro ⟨⟨_, g1⟩, ⟨g3, g2⟩, _, _⟩; exact ⟨g1, g2, g3⟩
          · rw [if_pos (by simp [h3])]
            constructor
            · intro h; cases h
            · intro h; exact absurd (h.2.2 b rfl x (by simp)) h3
theorem fstE_iff {F : TF} : fstE F = 0 ↔ FOk F ∧ Srt F.arcs := by
  constructor
  · intro h
    refine ⟨fstE_ok h, ?_⟩
    unfold fstE at h
    split at h
    · cases h
    split at h
    · cases h
    split at h
    · cases h
    split at h
    · cases h
    split at h
    · cases h
    exact ((arcsE_iff _ _).1 h).2.1
  · rintro ⟨h, h2⟩
    have := h.st
    have := h.start
    have := h.arcl
    unfold fstE
    rw [if_neg (by omega), if_neg (by omega), if_neg (by have := h.finl; omega), if_neg (fun c => c h.fin), if_neg (by omega)]
    exact (arcsE_iff _ _).2 ⟨h.arc, h2, fun b hb => by cases hb⟩
def lab (x : Int) : List Int := if x = 0 then [] else [x]
inductive Way (L : List Arc) : Int → List Int → List Int → Int → Int → Prop
  | nil (s : Int) : Way L s [] [] s 0
  | cons {a : Arc} {u v : List Int} {t c : Int} (ha : a ∈ L) (h : Way L a.t u v t c) : Way L a.f (lab a.i ++ u) (lab a.o ++ v) t (a.w + c)
theorem Way.app {L : List Arc} {s t r : Int} {u v u' v' : List Int} {c d : Int} (h : Way L s u v t c) (h' : Way L t u' v' r d) : Way L s (u ++ u') (v ++ v') r (c + d) := by
  induction h with
  | nil s => simpa using h'
  | cons ha h ih =>
    rw [List.append_assoc, List.append_assoc, Int.add_assoc]
    exact .cons ha (ih h')
theorem Way.one {L : List Arc} {a : Arc} (ha : a ∈ L) : Way L a.f (lab a.i) (lab a.o) a.t a.w := by
  have := Way.cons ha (.nil a.t)
  simpa using this
theorem Way.snoc {L : List Arc} {s : Int} {u v : List Int} {c : Int} {a : Arc} (h : Way L s u v a.f c) (ha : a ∈ L) : Way L s (u ++ lab a.i) (v ++ lab a.o) a.t (c + a.w) := h.app (.one ha)
theorem Way.mono {L L' : List Arc} (hL : ∀ a ∈ L, a ∈ L') {s t : Int} {u v : List Int} {c : Int} (h : Way L s u v t c) : Way L' s u v t c := by
  induction h with
  | nil s => exact .nil s
  | cons ha h ih => exact .cons (hL _ ha) ih
theorem Way.pos {L : List Arc} {st : Int} (hL : ∀ a ∈ L, ArcOk st a) {s t : Int} {u v : List Int} {c : Int} (h : Way L s u v t c) : 0 ≤ c := by
  induction h with
  | nil s => exact Int.le_refl _
  | cons ha h ih => have := (hL _ ha).w0; omega
theorem Way.rng {L : List Arc} {st : Int} (hL : ∀ a ∈ L, ArcOk st a) {s t : Int} {u v : List Int} {c : Int} (h : Way L s u v t c) (hs : 0 ≤ s ∧ s < st) : 0 ≤ t ∧ t < st := by
  induction h with
  | nil s => exact hs
  | cons ha h ih => exact ih ⟨(hL _ ha).t0, (hL _ ha).t1⟩
def Wt (F : TF) (u v : List Int) (c : Int) : Prop := ∃ t d, Way F.arcs F.start u v t d ∧ F.fin.getD t.toNat 0 ≠ -1 ∧ c = d + F.fin.getD t.toNat 0
theorem Wt.pos {F : TF} (hF : FOk F) {u v : List Int} {c : Int} (h : Wt F u v c) : 0 ≤ c := by
  obtain ⟨t, d, h1, h2, rfl⟩ := h
  have h3 := h1.pos hF.arc
  have h4 := h1.rng hF.arc hF.start
  have h5 := hF.fin _ (getD_mem F.fin t.toNat 0 (by have := hF.finl; omega))
  omega
def MinOf (P : Int → Prop) (n : Int) : Prop := (n = -1 ∧ ∀ c, ¬ P c) ∨ (0 ≤ n ∧ P n ∧ ∀ c, P c → n ≤ c)
theorem MinOf.eq {P Q : Int → Prop} {m n : Int} (hm : MinOf P m) (hn : MinOf Q n) (h : ∀ c, P c ↔ Q c) : m = n := by
  rcases hm with ⟨rfl, h1⟩ | ⟨h0, h1, h2⟩ <;> rcases hn with ⟨rfl, g1⟩ | ⟨g0, g1, g2⟩
  · rfl
  · exact absurd ((h n).2 g1) (h1 n)
  · exact absurd ((h m).1 h1) (g1 m)
  · have := h2 n ((h n).2 g1); have := g2 m ((h m).1 h1); omega
theorem MinOf.le {P : Int → Prop} {n c : Int} (h : MinOf P n) (hc : P c) : n ≠ -1 ∧ n ≤ c := by
  rcases h with ⟨_, h⟩ | ⟨h0, _, h2⟩
  · exact absurd hc (h c)
  · exact ⟨by omega, h2 c hc⟩
theorem MinOf.is {P : Int → Prop} {n : Int} (h : MinOf P n) (hn : n ≠ -1) : P n := by
  rcases h with ⟨h, _⟩ | ⟨_, h, _⟩
  · exact absurd h hn
  · exact h
theorem MinOf.low {P : Int → Prop} {n : Int} (h : MinOf P n) : -1 ≤ n := by
  rcases h with ⟨h, _⟩ | ⟨h, _⟩ <;> omega
end Go.Fw

/-
  The order by which arcs are sorted, in the plain.
-/
namespace Go.Fw
open Go
def cmpW (a b : Arc) : Int := orI [orderI a b, cmpI a.w b.w]
def ltW (a b : Arc) : Bool := decide (cmpW a b < 0)
def sameK (a b : Arc) : Bool := decide (orderI a b = 0)
theorem SrtOn.less {α : Type} {d : α} {lt : α → α → Bool} {a b c : Nat} {xs : List α} (h : SrtOn d lt a b xs) (hc : c ≤ b) : SrtOn d lt a c xs := fun i j h1 h2 h3 => h i j h1 h2 (by omega)
section
variable {α : Type} {d : α} {lt : α → α → Bool}
structure SeaA (d : α) (lt : α → α → Bool) (a b i j : Nat) (xs : List α) : Prop where
  l : a + 1 ≤ i
  ij : i ≤ j
  h : j ≤ b
  lo : ∀ k, a + 1 ≤ k → k < i → lt (xs.getD k d) (xs.getD a d) = true
  hi : ∀ k, j ≤ k → k < b → lt (xs.getD k d) (xs.getD a d) = false
theorem SeaA.start {a b : Nat} {xs : List α} (h : a + 1 ≤ b) : SeaA d lt a b (a + 1) b xs := ⟨Nat.le_refl _, h, Nat.le_refl _, fun k h1 h2 => by omega, fun k h1 h2 => by omega⟩
theorem SeaA.up (hlt : LtOk lt) {a b i j : Nat} {xs : List α} (hs : SrtOn d lt (a + 1) b xs) (h : SeaA d lt a b i j xs) (hij : i < j) (hc : lt (xs.getD ((i + j) / 2) d) (xs.getD a d) = true) : SeaA d lt a b ((i + j) / 2 + 1) j xs := by
  have h1 := h.l
  have h2 := h.h
  refine ⟨by omega, by omega, h2, fun k g1 g2 => ?_, h.hi⟩
  cases e : lt (xs.getD k d) (xs.getD a d) with
  | true => rfl
  | false =>
    have := hlt.trans _ _ _ e (hs.le hlt (i := k) (j := (i + j) / 2) g1 (by omega) (by omega))
    rw [hc] at this; cases this
theorem SeaA.down (hlt : LtOk lt) {a b i j : Nat} {xs : List α} (hs : SrtOn d lt (a + 1) b xs) (h : SeaA d lt a b i j xs) (hij : i < j) (hc : lt (xs.getD ((i + j) / 2) d) (xs.getD a d) = false) : SeaA d lt a b i ((i + j) / 2) xs := by
  have h1 := h.l
  have h2 := h.h
  exact ⟨h1, by omega, by omega, h.lo, fun k g1 g2 => hlt.trans _ _ _ hc (hs.le hlt (i := (i + j) / 2) (j := k) (by omega) g1 g2)⟩
structure SeaB (d : α) (lt : α → α → Bool) (a m i j : Nat) (xs : List α) : Prop where
  l : a ≤ i
  ij : i ≤ j
  h : j ≤ m
  lo : ∀ k, a ≤ k → k < i → lt (xs.getD m d) (xs.getD k d) = false
  hi : ∀ k, j ≤ k → k < m → lt (xs.getD m d) (xs.getD k d) = true
theorem SeaB.start {a m : Nat} {xs : List α} (h : a ≤ m) : SeaB d lt a m a m xs := ⟨Nat.le_refl _, h, Nat.le_refl _, fun k h1 h2 => by omega, fun k h1 h2 => by omega⟩
theorem SeaB.up (hlt : LtOk lt) {a m i j : Nat} {xs : List α} (hs : SrtOn d lt a m xs) (h : SeaB d lt a m i j xs) (hij : i < j) (hc : lt (xs.getD m d) (xs.getD ((i + j) / 2) d) = false) : SeaB d lt a m ((i + j) / 2 + 1) j xs := by
  have h1 := h.l
  have h2 := h.h
  exact ⟨by omega, by omega, h2, fun k g1 g2 => hlt.trans _ _ _ (hs.le hlt (i := k) (j := (i + j) / 2) g1 (by omega) (by omega)) hc, h.hi⟩
theorem SeaB.down (hlt : LtOk lt) {a m i j : Nat} {xs : List α} (hs : SrtOn d lt a m xs) (h : SeaB d lt a m i j xs) (hij : i < j) (hc : lt (xs.getD m d) (xs.getD ((i + j) / 2) d) = true) : SeaB d lt a m i ((i + j) / 2) xs := by
  have h1 := h.l
  have h2 := h.h
  refine ⟨h1, by omega, by omega, h.lo, fun k g1 g2 => ?_⟩
  cases e : lt (xs.getD m d) (xs.getD k d) with
  | true => rfl
  | false =>
    have := hlt.trans _ _ _ (hs.le hlt (i := (i + j) / 2) (j := k) (by omega) g1 g2) e
    rw [hc] at this; cases this
theorem Half.low {bs n a : Nat} {ys : List α} (h : Half d lt bs n a ys) (hab : n ≤ a + bs) : SrtOn d lt a n ys := by
  obtain ⟨t, rfl, h2, h3⟩ := h
  have e1 : 2 * t * bs = t * (2 * bs) := by rw [Nat.mul_comm 2 t, Nat.mul_assoc]
  have e2 : (2 * t + 1) * bs = t * (2 * bs) + bs := by rw [Nat.succ_mul, e1]
  have k1 := h3 (2 * t) (Nat.le_refl _)
  rw [e2, e1, Nat.min_eq_right hab] at k1
  exact k1
theorem SymS.up {lo hi p s r : Nat} {xs : List α} (h : SymS d lt lo hi p s r xs) (hsr : s < r) (hc : lt (xs.getD (p - (s + r) / 2) d) (xs.getD ((s + r) / 2) d) = false) : SymS d lt lo hi p ((s + r) / 2 + 1) r xs := by
  have h1 := h.l
  have h2 := h.h
  exact ⟨by omega, by omega, h2, .inr (by rw [Nat.add_sub_cancel]; exact hc), h.rt⟩
theorem SymS.down {lo hi p s r : Nat} {xs : List α} (h : SymS d lt lo hi p s r xs) (hsr : s < r) (hc : lt (xs.getD (p - (s + r) / 2) d) (xs.getD ((s + r) / 2) d) = true) : SymS d lt lo hi p s ((s + r) / 2) xs := by
  have h1 := h.l
  have h2 := h.h
  exact ⟨h1, by omega, by omega, h.lf, .inr hc⟩
end
end Go.Fw

/-
  Of arcs that are the same the first one, in the plain.
-/
namespace Go.Fw
open Go
abbrev aD : Arc := ⟨0, 0, 0, 0, 0⟩
def compL : Arc → List Arc → List Arc
  | _, [] => []
  | p, x :: l => if sameK x p then compL x l else x :: compL x l
def comp : List Arc → List Arc
  | [] => []
  | x :: l => x :: compL x l
theorem compL_snoc : ∀ (l : List Arc) (p x : Arc), compL p (l ++ [x]) = compL p l ++ (if sameK x ((p :: l).getLast (by simp)) then [] else [x])
  | [], p, x => rfl
  | y :: l, p, x => by
    have ih := compL_snoc l y x
    simp only [List.cons_append, compL]
    have e : (p :: y :: l).getLast (by simp) = (y :: l).getLast (by simp) := by simp
    rw [e]
    split
    · exact ih
    · rw [ih]; rfl
theorem comp_snoc (l : List Arc) (x : Arc) (h : l ≠ []) : comp (l ++ [x]) = comp l ++ (if sameK x (l.getLast h) then [] else [x]) := by
  cases l with
  | nil => exact absurd rfl h
  | cons y l => simp only [List.cons_append, comp]; rw [compL_snoc]
theorem comp_take (l : List Arc) (k : Nat) (h1 : 1 ≤ k) (h2 : k < l.length) : comp (l.take (k + 1)) = comp (l.take k) ++ (if sameK (l.getD k aD) (l.getD (k - 1) aD) then [] else [l.getD k aD]) := by
  have hne : l.take k ≠ [] := by
    intro c
    have := congrArg List.length c
    rw [List.length_take, List.length_nil] at this
    omega
  rw [take_succ_getD l k aD h2, comp_snoc _ _ hne]
  have e : (l.take k).getLast hne = l.getD (k - 1) aD := by
    have hlt : k - 1 < (l.take k).length := by rw [List.length_take]; omega
    rw [List.getLast_eq_getElem]
    have e2 : (l.take k).length - 1 = k - 1 := by rw [List.length_take]; omega
    simp only [e2, List.getElem_take]
    simp [List.getD, show k - 1 < l.length by omega]
  rw [e]
structure CompIn (xs : List Arc) (k n : Nat) (ys : List Arc) : Prop where
  len : ys.length = xs.length
  kn : k + 1 ≤ n
  nl : n ≤ xs.length
  k1 : 1 ≤ k
  tk : ys.take k = comp (xs.take n)
  un : ∀ i, n - 1 ≤ i → ys.getD i aD = xs.getD i aD
theorem CompIn.start {xs : List Arc} {k : Nat} (h1 : 1 ≤ k) (h2 : k < xs.length) (hc : comp (xs.take k) = xs.take k) (hs : sameK (xs.getD k aD) (xs.getD (k - 1) aD) = true) : CompIn xs k (k + 1) xs :=
  ⟨rfl, Nat.le_refl _, h2, h1, by rw [comp_take xs k h1 h2, hs, if_pos rfl, List.append_nil, hc], fun _ _ => rfl⟩
theorem CompIn.skip {xs ys : List Arc} {k n : Nat} (h : CompIn xs k n ys) (hn : n < xs.length) (hs : sameK (xs.getD n aD) (xs.getD (n - 1) aD) = true) : CompIn xs k (n + 1) ys := by
  have := h.kn
  have := h.k1
  exact ⟨h.len, by omega, hn, h.k1, by rw [comp_take xs n (by omega) hn, hs, if_pos rfl, List.append_nil, h.tk], fun i hi => h.un i (by omega)⟩
theorem CompIn.put {xs ys : List Arc} {k n : Nat} (h : CompIn xs k n ys) (hn : n < xs.length) (hs : sameK (xs.getD n aD) (xs.getD (n - 1) aD) = false) : CompIn xs (k + 1) (n + 1) (ys.set k (xs.getD n aD)) := by
  have h1 := h.kn
  have h2 := h.k1
  have h3 := h.len
  refine ⟨by simp [h3], by omega, hn, by omega, ?_, fun i hi => ?_⟩
  · rw [comp_take xs n (by omega) hn, hs, if_neg (by simp), ← h.tk]
    rw [take_succ_getD _ k aD (by simp; omega), List.take_set_of_le (Nat.le_refl _)]
    congr 1
    simp [List.getD, show k < ys.length by omega]
  · rw [getD_set', if_neg (by omega)]
    exact h.un i (by omega)
theorem CompIn.done {xs ys : List Arc} {k : Nat} (h : CompIn xs k xs.length ys) : (comp xs).length = k ∧ ys = comp xs ++ ys.drop k := by
  have h1 := h.kn
  have h3 := h.len
  have e := h.tk
  rw [List.take_length] at e
  rw [← e, List.length_take]
  exact ⟨by omega, (List.take_append_drop k ys).symm⟩
end Go.Fw

/-
  Arcs in order, of those that are the same the least weight: told by what it is; there is one such list.
-/
namespace Go.Fw
open Go
def Key (a b : Arc) : Prop := a.f = b.f ∧ a.i = b.i ∧ a.o = b.o ∧ a.t = b.t
theorem aheadB_iff {a b : Arc} : aheadB a b = true ↔ a.f < b.f ∨ a.f = b.f ∧ (a.i < b.i ∨ a.i = b.i ∧ (a.o < b.o ∨ a.o = b.o ∧ a.t < b.t)) := by
  unfold aheadB
  by_cases h1 : a.f = b.f
  · by_cases h2 : a.i = b.i
    · by_cases h3 : a.o = b.o
      · by_cases h4 : a.t = b.t
        · simp [h1, h2, h3, h4]
        · simp [h1, h2, h3, h4]
      · simp [h1, h2, h3]
    · simp [h1, h2]
  · simp [h1]
theorem Key.not_ahead {a b : Arc} (h : Key a b) : aheadB a b = false := by
  rw [← Bool.not_eq_true, aheadB_iff]
  unfold Key at h
  omega
theorem Key.symm {a b : Arc} (h : Key a b) : Key b a := ⟨h.1.symm, h.2.1.symm, h.2.2.1.symm, h.2.2.2.symm⟩
theorem Key.trans {a b c : Arc} (h : Key a b) (h' : Key b c) : Key a c := ⟨h.1.trans h'.1, h.2.1.trans h'.2.1, h.2.2.1.trans h'.2.2.1, h.2.2.2.trans h'.2.2.2⟩
theorem Key.refl (a : Arc) : Key a a := ⟨rfl, rfl, rfl, rfl⟩
theorem Key.eq {a b : Arc} (h : Key a b) (hw : a.w = b.w) : a = b := by
  obtain ⟨a1, a2, a3, a4, a5⟩ := a
  obtain ⟨b1, b2, b3, b4, b5⟩ := b
  obtain ⟨h1, h2, h3, h4⟩ := h
  simp only at *
  subst h1 h2 h3 h4 hw
  rfl
structure IsNorm (xs zs : List Arc) : Prop where
  srt : Srt zs
  sub : ∀ z ∈ zs, z ∈ xs
  cov : ∀ x ∈ xs, ∃ z ∈ zs, Key z x ∧ z.w ≤ x.w
theorem Srt.key {l : List Arc} (h : Srt l) {a b : Arc} (ha : a ∈ l) (hb : b ∈ l) (hk : Key a b) : a = b := by
  induction l with
  | nil => cases ha
  | cons x l ih =>
    unfold Srt at h
    rw [List.pairwise_cons] at h
    rw [List.mem_cons] at ha hb
    rcases ha with ha | ha
    · rcases hb with hb | hb
      · rw [ha, hb]
      · have := h.1 b hb; rw [← ha, hk.not_ahead] at this; cases this
    · rcases hb with hb | hb
      · have := h.1 a ha; rw [← hb, hk.symm.not_ahead] at this; cases this
      · exact ih h.2 ha hb
theorem Srt.ext {l m : List Arc} (hl : Srt l) (hm : Srt m) (h : ∀ a, a ∈ l ↔ a ∈ m) : l = m := by
  induction l generalizing m with
  | nil =>
    cases m with
    | nil => rfl
    | cons y m => have := (h y).2 (by simp); cases this
  | cons x l ih =>
    cases m with
    | nil => have := (h x).1 (by simp); cases this
    | cons y m =>
      unfold Srt at hl hm
      rw [List.pairwise_cons] at hl hm
      have e : x = y := by
        rcases List.mem_cons.1 ((h x).1 (by simp)) with e | hx
        · exact e
        · rcases List.mem_cons.1 ((h y).2 (by simp)) with e | hy
          · exact e.symm
          · have h1 := hl.1 y hy
            have h2 := hm.1 x hx
            rw [aheadB_asymm h1] at h2
            cases h2
      subst e
      rw [ih hl.2 hm.2]
      intro a
      constructor
      · intro ha
        rcases List.mem_cons.1 ((h a).1 (List.mem_cons_of_mem _ ha)) with rfl | h'
        · have := hl.1 a ha; rw [aheadB_irr] at this; cases this
        · exact h'
      · intro ha
        rcases List.mem_cons.1 ((h a).2 (List.mem_cons_of_mem _ ha)) with rfl | h'
        · have := hm.1 a ha; rw [aheadB_irr] at this; cases this
        · exact h'
theorem IsNorm.uniq {xs zs zs' : List Arc} (h : IsNorm xs zs) (h' : IsNorm xs zs') : zs = zs' := by
  have key : ∀ {zs zs' : List Arc}, IsNorm xs zs → IsNorm xs zs' → ∀ z ∈ zs, z ∈ zs' := by
    intro zs zs' h h' z hz
    obtain ⟨y, hy, hk, hw⟩ := h'.cov z (h.sub z hz)
    obtain ⟨u, hu, hk2, hw2⟩ := h.cov y (h'.sub y hy)
    have e := h.srt.key hu hz (hk2.trans hk)
    subst e
    have : y = u := hk.eq (by omega)
    subst this
    exact hy
  exact h.srt.ext h'.srt fun a => ⟨key h h' a, key h' h a⟩
def SortIs (xs zs : List Arc) : Prop := ∃ ys : List Arc, ys.Perm xs ∧ SrtOn aD ltW 0 xs.length ys ∧ zs = comp ys
theorem IsNorm.nil : IsNorm [] [] := ⟨.nil, fun z h => (by cases h), fun x h => (by cases h)⟩
theorem Srt.at {l : List Arc} (h : Srt l) {i j : Nat} (hij : i < j) (hj : j < l.length) : aheadB (l.getD i aD) (l.getD j aD) = true := by
  have := (List.pairwise_iff_getElem.1 h) i j (by omega) hj hij
  simpa [List.getD, hj, show i < l.length by omega] using this
theorem mem_getD {l : List Arc} {z : Arc} (h : z ∈ l) : ∃ i, i < l.length ∧ l.getD i aD = z := by
  obtain ⟨i, hi, e⟩ := List.getElem_of_mem h
  exact ⟨i, hi, by simp [List.getD, hi, e]⟩
theorem IsNorm.put {xs out : List Arc} {x : Arc} {at_ : Nat} (h : IsNorm xs out) (h2 : at_ ≤ out.length) (hb : ∀ j, at_ ≤ j → j < out.length → aheadB x (out.getD j aD) = true) (ha : at_ = 0 ∨ aheadB (out.getD (at_ - 1) aD) x = true) :
    IsNorm (xs ++ [x]) (out.take at_ ++ [x] ++ out.drop at_) := by
  have hlow : ∀ z ∈ out.take at_, aheadB z x = true := by
    intro z hz
    obtain ⟨i, hi, e⟩ := mem_getD hz
    rw [List.length_take] at hi
    have e2 : (out.take at_).getD i aD = out.getD i aD := by
      have : i < at_ := by omega
      simp [List.getD, this]
    rw [e2] at e
    rcases ha with ha | ha
    · omega
    · by_cases c : i = at_ - 1
      · rw [← e, c]; exact ha
      · rw [← e]; exact aheadB_trans (h.srt.at (by omega) (by omega)) ha
  have hup : ∀ z ∈ out.drop at_, aheadB x z = true := by
    intro z hz
    obtain ⟨i, hi, e⟩ := mem_getD hz
    rw [List.length_drop] at hi
    have e2 : (out.drop at_).getD i aD = out.getD (at_ + i) aD := by simp [List.getD]
    rw [e2] at e
    rw [← e]
    exact hb _ (by omega) (by omega)
  have hsp : Srt (out.take at_ ++ out.drop at_) := by rw [List.take_append_drop]; exact h.srt
  unfold Srt at hsp
  rw [List.pairwise_append] at hsp
  refine ⟨?_, ?_, ?_⟩
  · unfold Srt
    rw [List.append_assoc, List.pairwise_append]
    refine ⟨hsp.1, ?_, ?_⟩
    · exact List.pairwise_cons.2 ⟨fun z hz => hup z (by simpa using hz), hsp.2.1⟩
    · intro a ha' b hb'
      rcases List.mem_append.1 hb' with hb' | hb'
      · rw [List.mem_singleton] at hb'
        rw [hb']; exact hlow a ha'
      · exact hsp.2.2 a ha' b hb'
  · intro z hz
    rcases List.mem_append.1 hz with hz | hz
    · rcases List.mem_append.1 hz with hz | hz
      · exact List.mem_append_left _ (h.sub z (List.mem_of_mem_take hz))
      · exact List.mem_append_right _ hz
    · exact List.mem_append_left _ (h.sub z (List.mem_of_mem_drop hz))
  · intro u hu
    rcases List.mem_append.1 hu with hu | hu
    · obtain ⟨z, hz, hzk⟩ := h.cov u hu
      refine ⟨z, ?_, hzk⟩
      rw [← List.take_append_drop at_ out] at hz
      rcases List.mem_append.1 hz with hz | hz
      · exact List.mem_append_left _ (List.mem_append_left _ hz)
      · exact List.mem_append_right _ hz
    · rw [List.mem_singleton] at hu
      subst hu
      exact ⟨u, List.mem_append_left _ (List.mem_append_right _ (by simp)), Key.refl u, Int.le_refl _⟩
end Go.Fw

/-
  Turned: labels swapped, or the one for the other; twice swapped it is as it was.
-/
namespace Go.Fw
open Go
def invA (a : Arc) : Arc := ⟨a.f, a.o, a.i, a.t, a.w⟩
def prjA (side : Int) (a : Arc) : Arc := if side = 1 then ⟨a.f, a.i, a.i, a.t, a.w⟩ else ⟨a.f, a.o, a.o, a.t, a.w⟩
def turnA (side : Int) (a : Arc) : Arc := if side = 0 then invA a else if side = 1 then ⟨a.f, a.i, a.i, a.t, a.w⟩ else if side = 2 then ⟨a.f, a.o, a.o, a.t, a.w⟩ else a
theorem Srt.nodup {l : List Arc} (h : Srt l) : l.Nodup := by
  unfold Srt at h
  exact h.imp fun {a b} hab e => by rw [e, aheadB_irr] at hab; cases hab
theorem nodup_len {α : Type} [DecidableEq α] : ∀ (l m : List α), l.Nodup → (∀ a ∈ l, a ∈ m) → l.length ≤ m.length
  | [], m, _, _ => Nat.zero_le _
  | a :: l, m, hn, h => by
    rw [List.nodup_cons] at hn
    have ha := h a (by simp)
    have := nodup_len l (m.erase a) hn.2 (fun b hb => (List.mem_erase_of_ne (by rintro rfl; exact hn.1 hb)).2 (h b (List.mem_cons_of_mem _ hb)))
    rw [List.length_erase_of_mem ha] at this
    have : 0 < m.length := List.length_pos_of_mem ha
    simp only [List.length_cons]
    omega
theorem IsNorm.len {xs zs : List Arc} (h : IsNorm xs zs) : zs.length ≤ xs.length := nodup_len zs xs h.srt.nodup h.sub
end Go.Fw

/-
  Joined: either of two, one behind the other, again and again: the ways of what is joined.
-/
namespace Go.Fw
open Go
def shA (k : Int) (a : Arc) : Arc := ⟨a.f + k, a.i, a.o, a.t + k, a.w⟩
def silA (f t w : Int) : Arc := ⟨f, 0, 0, t, w⟩
def endsL (far to : Int) (fin : List Int) : Nat → List Arc
  | 0 => []
  | k + 1 => endsL far to fin k ++ (if fin.getD k 0 = -1 then [] else [silA (far + k) to (fin.getD k 0)])
theorem IsNorm.way {xs zs : List Arc} (h : IsNorm xs zs) {s t : Int} {u v : List Int} {c : Int} (hw : Way xs s u v t c) : ∃ d, d ≤ c ∧ Way zs s u v t d := by
  induction hw with
  | nil s => exact ⟨0, Int.le_refl _, .nil s⟩
  | @cons a u v t c ha h2 ih =>
    obtain ⟨d, hd, hw⟩ := ih
    obtain ⟨z, hz, ⟨k1, k2, k3, k4⟩, hwz⟩ := h.cov a ha
    refine ⟨z.w + d, by omega, ?_⟩
    rw [← k1, ← k2, ← k3]
    rw [← k4] at hw
    exact .cons hz hw
def WtL (L : List Arc) (start : Int) (fin : List Int) (u v : List Int) (c : Int) : Prop := ∃ t d, Way L start u v t d ∧ fin.getD t.toNat 0 ≠ -1 ∧ c = d + fin.getD t.toNat 0
theorem IsNorm.min {xs : List Arc} {X : TF} (h : IsNorm xs X.arcs) {u v : List Int} {n : Int} (hn : MinOf (Wt X u v) n) : MinOf (WtL xs X.start X.fin u v) n := by
  have hup : ∀ c, WtL xs X.start X.fin u v c → ∃ d, d ≤ c ∧ Wt X u v d := by
    rintro c ⟨t, d, h1, h2, rfl⟩
    obtain ⟨e, he, hw⟩ := h.way h1
    exact ⟨e + X.fin.getD t.toNat 0, by omega, t, e, hw, h2, rfl⟩
  have hdn : ∀ c, Wt X u v c → WtL xs X.start X.fin u v c := by
    rintro c ⟨t, d, h1, h2, rfl⟩
    exact ⟨t, d, h1.mono h.sub, h2, rfl⟩
  rcases hn with ⟨rfl, h1⟩ | ⟨h0, h1, h2⟩
  · refine .inl ⟨rfl, fun c hc => ?_⟩
    obtain ⟨d, _, hd⟩ := hup c hc
    exact h1 d hd
  · refine .inr ⟨h0, hdn n h1, fun c hc => ?_⟩
    obtain ⟨d, hd, hw⟩ := hup c hc
    have := h2 d hw
    omega
theorem MinOf.cong {P Q : Int → Prop} {n : Int} (h : MinOf P n) (hpq : ∀ c, P c ↔ Q c) : MinOf Q n := by
  rcases h with ⟨rfl, h1⟩ | ⟨h0, h1, h2⟩
  · exact .inl ⟨rfl, fun c hc => h1 c ((hpq c).2 hc)⟩
  · exact .inr ⟨h0, (hpq n).1 h1, fun c hc => h2 c ((hpq c).2 hc)⟩
theorem MinOf.or {P Q : Int → Prop} {m n : Int} (hm : MinOf P m) (hn : MinOf Q n) : MinOf (fun c => P c ∨ Q c) (less m n) := by
  unfold less
  rcases hm with ⟨rfl, h1⟩ | ⟨h0, h1, h2⟩
  · rw [if_pos (by omega)]
    exact hn.cong fun c => ⟨.inr, fun h => h.elim (fun h => absurd h (h1 c)) id⟩
  · rw [if_neg (by omega)]
    rcases hn with ⟨rfl, g1⟩ | ⟨g0, g1, g2⟩
    · rw [if_pos (.inl (by omega))]
      exact .inr ⟨h0, .inl h1, fun c hc => hc.elim (h2 c) fun h => absurd h (g1 c)⟩
    · split
      · refine .inr ⟨h0, .inl h1, fun c hc => hc.elim (h2 c) fun h => ?_⟩
        have := g2 c h
        omega
      · refine .inr ⟨g0, .inr g1, fun c hc => hc.elim (fun h => ?_) (g2 c)⟩
        have := h2 c h
        omega
theorem MinOf.add {P Q : Int → Prop} {m n : Int} (hm : MinOf P m) (hn : MinOf Q n) : MinOf (fun c => ∃ a b, P a ∧ Q b ∧ c = a + b) (plus m n) := by
  unfold plus
  rcases hm with ⟨rfl, h1⟩ | ⟨h0, h1, h2⟩
  · rw [if_pos (.inl (by omega))]
    exact .inl ⟨rfl, fun c ⟨a, b, ha, _⟩ => h1 a ha⟩
  · rcases hn with ⟨rfl, g1⟩ | ⟨g0, g1, g2⟩
    · rw [if_pos (.inr (by omega))]
      exact .inl ⟨rfl, fun c ⟨a, b, _, hb, _⟩ => g1 b hb⟩
    · rw [if_neg (by omega)]
      refine .inr ⟨by omega, ⟨m, n, h1, g1, rfl⟩, ?_⟩
      rintro c ⟨a, b, ha, hb, rfl⟩
      have := h2 a ha
      have := g2 b hb
      omega
def eitherL (F G : TF) : List Arc := F.arcs.map (shA 1) ++ [silA 0 (1 + F.start) 0] ++ G.arcs.map (shA (1 + F.st)) ++ [silA 0 (1 + F.st + G.start) 0]
end Go.Fw

/-
  One behind the other, again and again: the ways of what is joined.
-/
namespace Go.Fw
open Go
def behindL (F G : TF) : List Arc := F.arcs.map (shA 1) ++ G.arcs.map (shA (1 + F.st)) ++ [silA 0 (1 + F.start) 0] ++ endsL 1 (1 + F.st + G.start) F.fin F.fin.length
def againL (F : TF) : List Arc := F.arcs.map (shA 1) ++ [silA 0 (1 + F.start) 0] ++ endsL 1 0 F.fin F.fin.length
def Cut2 (P Q : List Int → List Int → Int → Prop) (u v : List Int) (c : Int) : Prop := ∃ u1 u2 v1 v2 c1 c2, u = u1 ++ u2 ∧ v = v1 ++ v2 ∧ P u1 v1 c1 ∧ Q u2 v2 c2 ∧ c = c1 + c2
inductive Star (P : List Int → List Int → Int → Prop) : List Int → List Int → Int → Prop
  | nil : Star P [] [] 0
  | cons {u1 v1 u2 v2 : List Int} {c1 c2 : Int} (h1 : P u1 v1 c1) (h2 : Star P u2 v2 c2) : Star P (u1 ++ u2) (v1 ++ v2) (c1 + c2)
end Go.Fw

/-
  What is joined is a transducer again.
-/
namespace Go.Fw
open Go
theorem one_wt {i o : Int} {cf ca : Nat} {u v : List Int} {c : Int} : Wt ⟨2, 0, [-1, 1], [⟨0, i, o, 1, 5⟩], cf, ca⟩ u v c ↔ u = lab i ∧ v = lab o ∧ c = 6 := by
  constructor
  · rintro ⟨t, d, hw, hf, rfl⟩
    have key2 : ∀ s u v t d, Way [⟨0, i, o, 1, 5⟩] s u v t d → s ≠ 0 → s = t ∧ u = [] ∧ v = [] ∧ d = 0 := by
      intro s u v t d h hs
      cases h with
      | nil => exact ⟨rfl, rfl, rfl, rfl⟩
      | @cons a u v t c ha h =>
        rw [List.mem_singleton] at ha
        subst ha
        exact absurd rfl hs
    have key : ∀ s, Way [⟨0, i, o, 1, 5⟩] s u v t d → (s = t ∧ u = [] ∧ v = [] ∧ d = 0) ∨ (s = 0 ∧ t = 1 ∧ u = lab i ∧ v = lab o ∧ d = 5) := by
      intro s h
      cases h with
      | nil => exact .inl ⟨rfl, rfl, rfl, rfl⟩
      | @cons a u v t c ha h =>
        rw [List.mem_singleton] at ha
        subst ha
        obtain ⟨e1, rfl, rfl, rfl⟩ := key2 _ _ _ _ _ h (by show (1 : Int) ≠ 0; omega)
        exact .inr ⟨rfl, e1.symm, by simp, by simp, rfl⟩
    rcases key 0 hw with ⟨rfl, _, _, _⟩ | ⟨_, rfl, rfl, rfl, rfl⟩
    · exact absurd rfl hf
    · exact ⟨rfl, rfl, rfl⟩
  · rintro ⟨rfl, rfl, rfl⟩
    exact ⟨1, 5, by simpa using Way.one (L := [⟨0, i, o, 1, 5⟩]) (a := ⟨0, i, o, 1, 5⟩) (by simp), by simp, by simp⟩
end Go.Fw

/-
  The best of all ways to cut two words; the best of any number of pieces.
-/
namespace Go.Fw
open Go
theorem MinOf.dom {P Q : Int → Prop} {n : Int} (h : MinOf P n) (hs : ∀ c, P c → Q c) (hc : ∀ c, Q c → ∃ d, d ≤ c ∧ P d) : MinOf Q n := by
  rcases h with ⟨rfl, h1⟩ | ⟨h0, h1, h2⟩
  · refine .inl ⟨rfl, fun c hq => ?_⟩
    obtain ⟨d, _, hd⟩ := hc c hq
    exact h1 d hd
  · refine .inr ⟨h0, hs n h1, fun c hq => ?_⟩
    obtain ⟨d, hd, hp⟩ := hc c hq
    have := h2 d hp
    omega
theorem MinOf.none : MinOf (fun _ => False) (-1) := .inl ⟨rfl, fun _ h => h⟩
section
variable (P Q : List Int → List Int → Int → Prop) (u v : List Int)
def LexP (i o : Nat) (c : Int) : Prop := ∃ i' o' a b, (i' < i ∧ o' ≤ v.length ∨ i' = i ∧ o' < o) ∧ P (u.take i') (v.take o') a ∧ Q (u.drop i') (v.drop o') b ∧ c = a + b
variable {P Q u v}
end
inductive StarR (P : List Int → List Int → Int → Prop) : List Int → List Int → Int → Prop
  | nil : StarR P [] [] 0
  | snoc {u1 v1 u2 v2 : List Int} {c1 c2 : Int} (h1 : StarR P u1 v1 c1) (h2 : P u2 v2 c2) : StarR P (u1 ++ u2) (v1 ++ v2) (c1 + c2)
theorem StarR.app {P : List Int → List Int → Int → Prop} {u v u' v' : List Int} {c d : Int} (h : StarR P u v c) (h' : Star P u' v' d) : StarR P (u ++ u') (v ++ v') (c + d) := by
  induction h' generalizing u v c with
  | nil => simpa using h
  | @cons u1 v1 u2 v2 c1 c2 h1 h2 ih =>
    have := ih (h.snoc h1)
    rw [← List.append_assoc, ← List.append_assoc, ← Int.add_assoc]
    exact this
theorem Star.app {P : List Int → List Int → Int → Prop} {u v u' v' : List Int} {c d : Int} (h : Star P u v c) (h' : P u' v' d) : Star P (u ++ u') (v ++ v') (c + d) := by
  induction h with
  | nil => simpa using Star.cons h' .nil
  | @cons u1 v1 u2 v2 c1 c2 h1 h2 ih =>
    rw [List.append_assoc, List.append_assoc, Int.add_assoc]
    exact .cons h1 ih
theorem StarR.pos {P : List Int → List Int → Int → Prop} (hP : ∀ u v c, P u v c → 0 ≤ c) {u v : List Int} {c : Int} (h : StarR P u v c) : 0 ≤ c := by
  induction h with
  | nil => exact Int.le_refl _
  | snoc h1 h2 ih => have := hP _ _ _ h2; omega
def seg (u : List Int) (a b : Nat) : List Int := (u.drop a).take (b - a)
theorem take_seg {u : List Int} {a b : Nat} (h : a ≤ b) : u.take a ++ seg u a b = u.take b := by
  unfold seg
  rw [← List.take_append_drop a (u.take b), List.take_take, Nat.min_eq_left h, List.drop_take]
structure AgT (P : List Int → List Int → Int → Prop) (u v : List Int) (B : Int) (i o : Nat) (T : Nat → Nat → Int) : Prop where
  low : ∀ a b, a ≤ u.length → b ≤ v.length → -1 ≤ T a b ∧ T a b ≤ (a + b : Nat) * B
  snd : ∀ a b, a ≤ u.length → b ≤ v.length → 0 ≤ T a b → StarR P (u.take a) (v.take b) (T a b)
  org : T 0 0 = 0
  cpl : ∀ a b a' b' c1 c2, (a' < i ∧ b' ≤ v.length ∨ a' = i ∧ b' < o) → a' ≤ a → b' ≤ b → a ≤ u.length → b ≤ v.length → StarR P (u.take a') (v.take b') c1 → P (seg u a' a) (seg v b' b) c2 → 0 ≤ T a b ∧ T a b ≤ c1 + c2
section
variable {P : List Int → List Int → Int → Prop} {u v : List Int} {B : Int} {i o : Nat} {T : Nat → Nat → Int}
theorem AgT.fin (h : AgT P u v B i o T) (hP : ∀ u v c, P u v c → 0 ≤ c) (hi : i ≤ u.length) (ho : o ≤ v.length) : MinOf (StarR P (u.take i) (v.take o)) (T i o) := by
  have key : ∀ x y c, StarR P x y c → x = u.take i → y = v.take o → 0 ≤ T i o ∧ T i o ≤ c := by
    intro x y c hs
    induction hs with
    | nil =>
      intro hx hy
      have h1 : i = 0 := by
        have := congrArg List.length hx
        rw [List.length_take] at this
        simp only [List.length_nil] at this
        omega
      have h2 : o = 0 := by
        have := congrArg List.length hy
        rw [List.length_take] at this
        simp only [List.length_nil] at this
        omega
      subst h1 h2
      rw [h.org]
      omega
    | @snoc u1 v1 u2 v2 c1 c2 h1 h2 ih =>
      intro hx hy
      have l1 : u1.length + u2.length = i := by
        have := congrArg List.length hx
        rw [List.length_take, List.length_append] at this
        omega
      have l2 : v1.length + v2.length = o := by
        have := congrArg List.length hy
        rw [List.length_take, List.length_append] at this
        omega
      have e1 : u1 = u.take u1.length := by
        have := congrArg (List.take u1.length) hx
        rw [List.take_left, List.take_take, Nat.min_eq_left (by omega)] at this
        exact this
      have e2 : v1 = v.take v1.length := by
        have := congrArg (List.take v1.length) hy
        rw [List.take_left, List.take_take, Nat.min_eq_left (by omega)] at this
        exact this
      have e3 : u2 = seg u u1.length i := by
        have := congrArg (List.drop u1.length) hx
        rw [List.drop_left, List.drop_take] at this
        exact this
      have e4 : v2 = seg v v1.length o := by
        have := congrArg (List.drop v1.length) hy
        rw [List.drop_left, List.drop_take] at this
        exact this
      have hc2 := hP _ _ _ h2
      by_cases q : u1.length = i ∧ v1.length = o
      · have g := ih (by rw [e1, q.1]) (by rw [e2, q.2])
        omega
      · rw [e1, e2] at h1
        rw [e3, e4] at h2
        exact h.cpl i o u1.length v1.length c1 c2 (by omega) (by omega) (by omega) hi ho h1 h2
  by_cases hn : 0 ≤ T i o
  · exact .inr ⟨hn, h.snd i o hi ho hn, fun c hc => (key _ _ c hc rfl rfl).2⟩
  · have := (h.low i o hi ho).1
    exact .inl ⟨by omega, fun c hc => hn (key _ _ c hc rfl rfl).1⟩
theorem AgT.skip (h : AgT P u v B i o T) (hP : ∀ u v c, P u v c → 0 ≤ c) (hi : i ≤ u.length) (ho : o ≤ v.length) (hn : T i o < 0) : AgT P u v B i (o + 1) T := by
  refine ⟨h.low, h.snd, h.org, fun a b a' b' c1 c2 hl h1 h2 h3 h4 h5 h6 => ?_⟩
  by_cases q : a' = i ∧ b' = o
  · obtain ⟨rfl, rfl⟩ := q
    rcases h.fin hP hi ho with ⟨_, g⟩ | ⟨g, _⟩
    · exact absurd h5 (g c1)
    · omega
  · exact h.cpl a b a' b' c1 c2 (by omega) h1 h2 h3 h4 h5 h6
theorem AgT.row (h : AgT P u v B i (v.length + 1) T) : AgT P u v B (i + 1) 0 T :=
  ⟨h.low, h.snd, h.org, fun a b a' b' c1 c2 hl h1 h2 h3 h4 h5 h6 => h.cpl a b a' b' c1 c2 (by omega) h1 h2 h3 h4 h5 h6⟩
structure AgW (P : List Int → List Int → Int → Prop) (u v : List Int) (B : Int) (i o x y : Nat) (t : Int) (T : Nat → Nat → Int) : Prop where
  tab : AgT P u v B i o T
  at_ : T i o = t
  don : ∀ x' y' c1 c2, (x' < x ∧ o + y' ≤ v.length ∨ x' = x ∧ y' < y) → i + x' ≤ u.length → o + y' ≤ v.length → StarR P (u.take i) (v.take o) c1 → P (seg u i (i + x')) (seg v o (o + y')) c2 → 0 ≤ T (i + x') (o + y') ∧ T (i + x') (o + y') ≤ c1 + c2
def up2 (T : Nat → Nat → Int) (a b : Nat) (n : Int) : Nat → Nat → Int := fun x y => if x = a ∧ y = b then n else T x y
theorem AgT.start (h : AgT P u v B i o T) : AgW P u v B i o 0 0 (T i o) T := ⟨h, rfl, fun x' y' c1 c2 h => by omega⟩
theorem AgW.done {t : Int} (h : AgW P u v B i o (u.length - i + 1) 0 t T) : AgT P u v B i (o + 1) T := by
  refine ⟨h.tab.low, h.tab.snd, h.tab.org, fun a b a' b' c1 c2 hl h1 h2 h3 h4 h5 h6 => ?_⟩
  by_cases q : a' = i ∧ b' = o
  · obtain ⟨rfl, rfl⟩ := q
    have e1 : a' + (a - a') = a := by omega
    have e2 : b' + (b - b') = b := by omega
    have := h.don (a - a') (b - b') c1 c2 (.inl ⟨by omega, by omega⟩) (by omega) (by omega) h5 (by rw [e1, e2]; exact h6)
    rw [e1, e2] at this
    exact this
  · exact h.tab.cpl a b a' b' c1 c2 (by omega) h1 h2 h3 h4 h5 h6
theorem AgW.step {x y : Nat} {t p : Int} (h : AgW P u v B i o x y t T) (hP : ∀ u v c, P u v c → 0 ≤ c) (hB : 0 ≤ B) (ht : 0 ≤ t) (hx : i + x ≤ u.length) (hy : o + y ≤ v.length)
    (hp : MinOf (P (seg u i (i + x)) (seg v o (o + y))) p) (hpB : p ≤ B) (h00 : x = 0 → y = 0 → True) : AgW P u v B i o x (y + 1) t (up2 T (i + x) (o + y) (less (T (i + x) (o + y)) (plus t p))) := by
  have hi : i ≤ u.length := by omega
  have ho : o ≤ v.length := by omega
  have hpl := hp.low
  have hfin := h.tab.fin hP hi ho
  rw [h.at_] at hfin
  obtain ⟨hts, htl⟩ : StarR P (u.take i) (v.take o) t ∧ ∀ c, StarR P (u.take i) (v.take o) c → t ≤ c := by
    rcases hfin with ⟨g, _⟩ | ⟨_, g1, g2⟩
    · omega
    · exact ⟨g1, g2⟩
  have hTl := h.tab.low (i + x) (o + y) hx hy
  have hti := h.tab.low i o hi ho
  rw [h.at_] at hti
  
  have hpv : (p < 0 ∧ plus t p = -1) ∨ (0 ≤ p ∧ plus t p = t + p) := by
    unfold plus
    by_cases q : p < 0
    · exact .inl ⟨q, if_pos (.inr q)⟩
    · exact .inr ⟨by omega, if_neg (by omega)⟩
  have hnew : less (T (i + x) (o + y)) (plus t p) = T (i + x) (o + y) ∨ (less (T (i + x) (o + y)) (plus t p) = t + p ∧ 0 ≤ p) := by
    rcases hpv with ⟨q, e⟩ | ⟨q, e⟩ <;> rw [e] <;> unfold less <;> (repeat' split) <;> omega
  have hle : (0 ≤ T (i + x) (o + y) → 0 ≤ less (T (i + x) (o + y)) (plus t p) ∧ less (T (i + x) (o + y)) (plus t p) ≤ T (i + x) (o + y)) ∧ (0 ≤ p → 0 ≤ less (T (i + x) (o + y)) (plus t p) ∧ less (T (i + x) (o + y)) (plus t p) ≤ t + p) := by
    rcases hpv with ⟨q, e⟩ | ⟨q, e⟩ <;> rw [e] <;> unfold less <;> (repeat' split) <;> omega
  have hat : ∀ a b, up2 T (i + x) (o + y) (less (T (i + x) (o + y)) (plus t p)) a b = if a = i + x ∧ b = o + y then less (T (i + x) (o + y)) (plus t p) else T a b := fun a b => rfl
  have hself : x = 0 → y = 0 → less (T (i + x) (o + y)) (plus t p) = t := by
    rintro rfl rfl
    rw [Nat.add_zero, Nat.add_zero, h.at_]
    rcases hpv with ⟨q, e⟩ | ⟨q, e⟩ <;> rw [e] <;> unfold less <;> (repeat' split) <;> omega
  generalize hn : less (T (i + x) (o + y)) (plus t p) = n at *
  refine ⟨⟨fun a b h1 h2 => ?_, fun a b h1 h2 h3 => ?_, ?_, fun a b a' b' c1 c2 hl h1 h2 h3 h4 h5 h6 => ?_⟩, ?_, fun x' y' c1 c2 hl h1 h2 h3 h4 => ?_⟩
  · rw [hat]
    split
    · rename_i e
      rw [e.1, e.2]
      rcases hnew with g | ⟨g, g0⟩
      · rw [g]; exact hTl
      · rw [g]
        refine ⟨by omega, ?_⟩
        by_cases q : x = 0 ∧ y = 0
        · have := hself q.1 q.2
          rw [q.1, q.2]
          simp only [Nat.add_zero]
          omega
        · have e1 : ((i + o : Nat) : Int) * B + B ≤ ((i + x + (o + y) : Nat) : Int) * B := by
            have : ((i + o : Nat) : Int) * B + B = ((i + o : Nat) + 1 : Int) * B := by rw [Int.add_mul, Int.one_mul]
            rw [this]
            exact Int.mul_le_mul_of_nonneg_right (by omega) hB
          omega
    · exact h.tab.low a b h1 h2
  · rw [hat] at h3 ⊢
    split at h3
    · rename_i e
      rw [if_pos e, e.1, e.2]
      rcases hnew with g | ⟨g, g0⟩
      · rw [g] at h3 ⊢; exact h.tab.snd _ _ hx hy h3
      · rw [g]
        have hpp : P (seg u i (i + x)) (seg v o (o + y)) p := hp.is (by omega)
        have := hts.snoc hpp
        rw [take_seg (by omega), take_seg (by omega)] at this
        exact this
    · rename_i e
      rw [if_neg e]
      exact h.tab.snd a b h1 h2 h3
  · rw [hat]
    split
    · rename_i e
      have e1 : x = 0 := by omega
      have e2 : y = 0 := by omega
      have e3 : i = 0 := by omega
      have e4 : o = 0 := by omega
      rw [hself e1 e2, ← h.at_, e3, e4]
      exact h.tab.org
    · exact h.tab.org
  · have g := h.tab.cpl a b a' b' c1 c2 hl h1 h2 h3 h4 h5 h6
    rw [hat]
    split
    · rename_i e
      rw [e.1, e.2] at g
      have := hle.1 g.1
      omega
    · exact g
  · rw [hat]
    split
    · rename_i e
      exact hself (by omega) (by omega)
    · exact h.at_
  · rw [hat]
    split
    · rename_i e
      have e1 : x' = x := by omega
      have e2 : y' = y := by omega
      subst e1 e2
      have g := hp.le h4
      have := hle.2 (by omega)
      have := htl c1 h3
      omega
    · rename_i e
      exact h.don x' y' c1 c2 (by omega) h1 h2 h3 h4
end
end Go.Fw
