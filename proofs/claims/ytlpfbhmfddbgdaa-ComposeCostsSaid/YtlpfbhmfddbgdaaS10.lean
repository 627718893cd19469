/- Walks of the functions: what each computes. -/
import Derived.Test.YtlpfbhmfddbgdaaS09
import Derived.Test.YtlpfbhmfddbgdaaS05

set_option linter.unusedSimpArgs false
set_option linter.unusedVariables false

namespace Go.Fw
open Go Go.Proofs

/-- What is wrong with what is handed to Score. -/
def scoreE (F : TF) (u v : List Int) : Int := if fstE F ≠ 0 then fstE F else if wordE u ≠ 0 then wordE u else wordE v

/-- A transducer and two words: 0 final, 1 arcs, 2 in, 3 out. -/
abbrev hpQ (F : TF) (u v : List Int) : List (Nat × SO) := [(0, .arr false 3 .int F.fin 0), (1, .arr false 47 .arc F.arcs 0), (2, .arr false 3 .int u 0), (3, .arr false 3 .int v 0)]

section
variable (F : TF) (u v : List Int) (cu cv : Nat) (rows : List Sli) (pi : List (Addr × List Int × Nat))
theorem run_l (hF : FOk F) (hu : u.length ≤ 40) (hv : v.length ≤ 40) (hr : RowsOk F rows pi) :
    Ct Try.prog 94 [.c (.ptr 0 0)] [] [(0, .box 115 [.i F.st, .i F.start, .sl 1 1 0 F.fin.length F.capF, .sl 2 5 0 F.arcs.length F.capA, .sl 3 1 0 u.length cu, .sl 4 1 0 v.length cv, .sl 5 1 0 rows.length rows.length, .v (.map none)]), (1, .arr false 3 .int F.fin 0), (2, .arr false 47 .arc F.arcs 0), (3, .arr false 3 .int u 0), (4, .arr false 3 .int v 0), (5, .arr true 22 .sli rows 0), (6, .pool 3 .int pi), (7, .pool 120 .fnd [])] 8 (fun x s => ∃ es clk pf, x = .tup [] ∧ s = ⟨[], [(0, .box 115 [.i F.st, .i F.start, .sl 1 1 0 F.fin.length F.capF, .sl 2 5 0 F.arcs.length F.capA, .sl 3 1 0 u.length cu, .sl 4 1 0 v.length cv, .sl 5 1 0 rows.length rows.length, .mp 8]), (5, .arr true 22 .sli rows 0), (6, .pool 3 .int pi), (7, .pool 120 .fnd pf), (8, .map .trip .adr es clk)], 9⟩ ∧ Ran ⟨F, u, v, cu, cv, rows, pi, es, clk, pf⟩ es clk pf) :=
  (run_c ⟨F, u, v, cu, cv, rows, pi, [], 0, []⟩ hF hu hv hr).to (fun x s ⟨es, clk, pf, h1, h2, h3⟩ => ⟨es, clk, pf, h1, h2, h3⟩)

theorem end_l (es : List (Trip × Option Addr × Nat)) (clk : Nat) (pf : List (Addr × List Fnd × Nat)) (hF : FOk F) (hu : u.length ≤ 40) (hv : v.length ≤ 40) (hm : MetOk es clk pf) (hb : ∀ y d, metOf es pf y = some d → 0 ≤ d.cost ∧ d.cost ≤ 1000000000000000) :
    Ct Try.prog 95 [.c (.ptr 0 0)] [] [(0, .box 115 [.i F.st, .i F.start, .sl 1 1 0 F.fin.length F.capF, .sl 2 5 0 F.arcs.length F.capA, .sl 3 1 0 u.length cu, .sl 4 1 0 v.length cv, .sl 5 1 0 rows.length rows.length, .mp 7]), (1, .arr false 3 .int F.fin 0), (2, .arr false 47 .arc F.arcs 0), (3, .arr false 3 .int u 0), (4, .arr false 3 .int v 0), (5, .arr true 22 .sli rows 0), (6, .pool 3 .int pi), (7, .map .trip .adr es clk), (8, .pool 120 .fnd pf)] 9 (fun x s => x = .tup [.agg [.i (endF (costOf es pf) F.fin u.length v.length F.fin.length).1.a, .i (endF (costOf es pf) F.fin u.length v.length F.fin.length).1.b, .i (endF (costOf es pf) F.fin u.length v.length F.fin.length).1.c], .c (.i (endF (costOf es pf) F.fin u.length v.length F.fin.length).2)] ∧
      s = ⟨[], [(0, .box 115 [.i F.st, .i F.start, .sl 1 1 0 F.fin.length F.capF, .sl 2 5 0 F.arcs.length F.capA, .sl 3 1 0 u.length cu, .sl 4 1 0 v.length cv, .sl 5 1 0 rows.length rows.length, .mp 7]), (5, .arr true 22 .sli rows 0), (6, .pool 3 .int pi), (7, .map .trip .adr es clk), (8, .pool 120 .fnd pf)], 9⟩) :=
  end_c ⟨F, u, v, cu, cv, rows, pi, [], 0, []⟩ hF hu hv es clk pf hm hb
end

set_option maxHeartbeats 4000000 in
set_option maxRecDepth 20000 in
theorem walk_no (F : TF) (u v : List Int) (cu cv : Nat) (hl : F.fin.length ≤ 9223372036854775807) (hsc : scoreE F u v ≠ 0) :
    Ct Try.prog 51 [fV F, .c (.sl 2 1 0 u.length cu), .c (.sl 3 1 0 v.length cv)] [] (hpQ F u v) 4 (Is 4 (.tup [.c (.v (.pointer none)), .agg [.i 0, .i 0, .i 0], .c (.i 0), .c (.i (scoreE F u v))])) := by
  unfold scoreE at hsc ⊢
  refine ctW Try.tyOk 16 [39, 40, 41] Try.func51 rfl (by simp [SV.lt, SA.lt, SC.lt, arcV, fV]) (by simp) (fr := [(0, fV F), (1, .c (.sl 2 1 0 u.length cu)), (2, .c (.sl 3 1 0 v.length cv))]) rfl ?_
  repeat' (first | exact rfl | ((conv => whnf); first | ((first | refine qA (fun h => ?_) fun h => ?_ | refine qN (fun h => ?_) fun h => ?_ | refine qB (fun h => ?_) fun h => ?_ | refine qC (fun h => ?_) fun h => ?_) <;> try exact absurd h (by omega)) | refine qM (fun h => ?_) fun h => ?_ | refine oM (by (first | omega | (simp only [lenS, InI, nmin, EK.sz]; omega) | (simp only [lenS, InI, nmin, EK.sz] at *; omega))) ?_ | refine oM ?_ ?_ | refine bM ?_ ?_ | refine draw_of Try.mixed Try.tyOk 60 (by kernel_rfl) ?_))
  refine callI (check_c F hl) [0, 1] Try.call60 rfl (by simp [eqLs, eqL, eqO, eqC, eqCs, rn, renOf, look_cons, look, EK.cast]) (by simp [appN, ptrs, eqVL, eqV, eqA, eqC, eqCs, eqAs, eqCaps, EK.sz, rn, renOf, look_cons, look, arcV, fV]) (by simp [appN, ptrs, SV.lt, SA.lt, SC.lt, arcV, fV]) ?_
  by_cases h1 : fstE F = 0
  · rw [if_neg (by omega)] at hsc ⊢
    repeat' (first | exact rfl | ((conv => whnf); first | ((first | refine qA (fun h => ?_) fun h => ?_ | refine qN (fun h => ?_) fun h => ?_ | refine qB (fun h => ?_) fun h => ?_ | refine qC (fun h => ?_) fun h => ?_) <;> try exact absurd h (by omega)) | refine qM (fun h => ?_) fun h => ?_ | refine oM (by (first | omega | (simp only [lenS, InI, nmin, EK.sz]; omega) | (simp only [lenS, InI, nmin, EK.sz] at *; omega))) ?_ | refine oM ?_ ?_ | refine bM ?_ ?_ | refine draw_of Try.mixed Try.tyOk 60 (by kernel_rfl) ?_))
    (conv => whnf)
    refine callI (word_c u cu) [2] Try.call14 rfl (by simp [eqLs, eqL, eqO, eqC, eqCs, rn, renOf, look_cons, look, EK.cast]) (by simp [appN, ptrs, eqVL, eqV, eqA, eqC, eqCs, eqAs, eqCaps, EK.sz, rn, renOf, look_cons, look, arcV, fV]) (by simp [appN, ptrs, SV.lt, SA.lt, SC.lt, arcV, fV]) ?_
    by_cases h2 : wordE u = 0
    · rw [if_neg (by omega)] at hsc ⊢
      repeat' (first | exact rfl | ((conv => whnf); first | ((first | refine qA (fun h => ?_) fun h => ?_ | refine qN (fun h => ?_) fun h => ?_ | refine qB (fun h => ?_) fun h => ?_ | refine qC (fun h => ?_) fun h => ?_) <;> try exact absurd h (by omega)) | refine qM (fun h => ?_) fun h => ?_ | refine oM (by (first | omega | (simp only [lenS, InI, nmin, EK.sz]; omega) | (simp only [lenS, InI, nmin, EK.sz] at *; omega))) ?_ | refine oM ?_ ?_ | refine bM ?_ ?_ | refine draw_of Try.mixed Try.tyOk 60 (by kernel_rfl) ?_))
      (conv => whnf)
      refine callI (word_c v cv) [3] Try.call14 rfl (by simp [eqLs, eqL, eqO, eqC, eqCs, rn, renOf, look_cons, look, EK.cast]) (by simp [appN, ptrs, eqVL, eqV, eqA, eqC, eqCs, eqAs, eqCaps, EK.sz, rn, renOf, look_cons, look, arcV, fV]) (by simp [appN, ptrs, SV.lt, SA.lt, SC.lt, arcV, fV]) ?_
      repeat' (first | exact rfl | ((conv => whnf); first | ((first | refine qA (fun h => ?_) fun h => ?_ | refine qN (fun h => ?_) fun h => ?_ | refine qB (fun h => ?_) fun h => ?_ | refine qC (fun h => ?_) fun h => ?_) <;> try exact absurd h (by omega)) | refine qM (fun h => ?_) fun h => ?_ | refine oM (by (first | omega | (simp only [lenS, InI, nmin, EK.sz]; omega) | (simp only [lenS, InI, nmin, EK.sz] at *; omega))) ?_ | refine oM ?_ ?_ | refine bM ?_ ?_ | refine draw_of Try.mixed Try.tyOk 60 (by kernel_rfl) ?_))
      refine Back.is ?_
      simp [eqV, eqA, eqAs, eqC, eqCs]
    · rw [if_pos h2]
      repeat' (first | exact rfl | ((conv => whnf); first | ((first | refine qA (fun h => ?_) fun h => ?_ | refine qN (fun h => ?_) fun h => ?_ | refine qB (fun h => ?_) fun h => ?_ | refine qC (fun h => ?_) fun h => ?_) <;> try exact absurd h (by omega)) | refine qM (fun h => ?_) fun h => ?_ | refine oM (by (first | omega | (simp only [lenS, InI, nmin, EK.sz]; omega) | (simp only [lenS, InI, nmin, EK.sz] at *; omega))) ?_ | refine oM ?_ ?_ | refine bM ?_ ?_ | refine draw_of Try.mixed Try.tyOk 60 (by kernel_rfl) ?_))
      refine Back.is ?_
      simp [eqV, eqA, eqAs, eqC, eqCs]
  · rw [if_pos h1]
    repeat' (first | exact rfl | ((conv => whnf); first | ((first | refine qA (fun h => ?_) fun h => ?_ | refine qN (fun h => ?_) fun h => ?_ | refine qB (fun h => ?_) fun h => ?_ | refine qC (fun h => ?_) fun h => ?_) <;> try exact absurd h (by omega)) | refine qM (fun h => ?_) fun h => ?_ | refine oM (by (first | omega | (simp only [lenS, InI, nmin, EK.sz]; omega) | (simp only [lenS, InI, nmin, EK.sz] at *; omega))) ?_ | refine oM ?_ ?_ | refine bM ?_ ?_ | refine draw_of Try.mixed Try.tyOk 60 (by kernel_rfl) ?_))
    refine Back.is ?_
    simp [eqV, eqA, eqAs, eqC, eqCs]

set_option maxHeartbeats 8000000 in
set_option maxRecDepth 20000 in
theorem walk_ok (F : TF) (u v : List Int) (cu cv : Nat) (hl : F.fin.length ≤ 9223372036854775807) (h : scoreE F u v = 0) :
    Ct Try.prog 51 [fV F, .c (.sl 2 1 0 u.length cu), .c (.sl 3 1 0 v.length cv)] [] (hpQ F u v) 4 (fun x s => ∃ rows pi es clk pf, Ran ⟨F, u, v, cu, cv, rows, pi, es, clk, pf⟩ es clk pf ∧
      x = .tup [.c (.ptr 4 0), .agg [.i (endF (costOf es pf) F.fin u.length v.length F.fin.length).1.a, .i (endF (costOf es pf) F.fin u.length v.length F.fin.length).1.b, .i (endF (costOf es pf) F.fin u.length v.length F.fin.length).1.c], .c (.i (endF (costOf es pf) F.fin u.length v.length F.fin.length).2), .c (.i 0)] ∧
      s = ⟨[], [(4, .box 115 [.i F.st, .i F.start, .sl 0 1 0 F.fin.length F.capF, .sl 1 5 0 F.arcs.length F.capA, .sl 2 1 0 u.length cu, .sl 3 1 0 v.length cv, .sl 5 1 0 rows.length rows.length, .mp 8]), (5, .arr true 22 .sli rows 0), (6, .pool 3 .int pi), (7, .pool 120 .fnd pf), (8, .map .trip .adr es clk)], 9⟩) := by
  have h1 : fstE F = 0 := by
    unfold scoreE at h
    split at h
    · omega
    · omega
  have h2 : wordE u = 0 := by
    unfold scoreE at h
    rw [if_neg (by omega)] at h
    split at h <;> omega
  have h3 : wordE v = 0 := by
    unfold scoreE at h
    rw [if_neg (by omega), if_neg (by omega)] at h
    exact h
  have hu : u.length ≤ 40 := by
    unfold wordE at h2
    split at h2
    · cases h2
    · omega
  have hv : v.length ≤ 40 := by
    unfold wordE at h3
    split at h3
    · cases h3
    · omega
  have hF := fstE_ok h1
  have hst := hF.st
  have hfl := hF.finl
  have hal := hF.arcl
  refine ctW Try.tyOk 16 [39, 40, 41] Try.func51 rfl (by simp [SV.lt, SA.lt, SC.lt, arcV, fV]) (by simp) (fr := [(0, fV F), (1, .c (.sl 2 1 0 u.length cu)), (2, .c (.sl 3 1 0 v.length cv))]) rfl ?_
  repeat' (first | exact rfl | ((conv => whnf); first | ((first | refine qA (fun h => ?_) fun h => ?_ | refine qN (fun h => ?_) fun h => ?_ | refine qB (fun h => ?_) fun h => ?_ | refine qC (fun h => ?_) fun h => ?_) <;> try exact absurd h (by omega)) | refine qM (fun h => ?_) fun h => ?_ | refine oM (by (first | omega | (simp only [lenS, InI, nmin, EK.sz]; omega) | (simp only [lenS, InI, nmin, EK.sz] at *; omega))) ?_ | refine oM ?_ ?_ | refine bM ?_ ?_ | refine draw_of Try.mixed Try.tyOk 60 (by kernel_rfl) ?_))
  refine callI (check_c F hl) [0, 1] Try.call60 rfl (by simp [eqLs, eqL, eqO, eqC, eqCs, rn, renOf, look_cons, look, EK.cast]) (by simp [appN, ptrs, eqVL, eqV, eqA, eqC, eqCs, eqAs, eqCaps, EK.sz, rn, renOf, look_cons, look, arcV, fV]) (by simp [appN, ptrs, SV.lt, SA.lt, SC.lt, arcV, fV]) ?_
  rw [h1]
  repeat' (first | exact rfl | ((conv => whnf); first | ((first | refine qA (fun h => ?_) fun h => ?_ | refine qN (fun h => ?_) fun h => ?_ | refine qB (fun h => ?_) fun h => ?_ | refine qC (fun h => ?_) fun h => ?_) <;> try exact absurd h (by omega)) | refine qM (fun h => ?_) fun h => ?_ | refine oM (by (first | omega | (simp only [lenS, InI, nmin, EK.sz]; omega) | (simp only [lenS, InI, nmin, EK.sz] at *; omega))) ?_ | refine oM ?_ ?_ | refine bM ?_ ?_ | refine draw_of Try.mixed Try.tyOk 60 (by kernel_rfl) ?_))
  (conv => whnf)
  refine callI (word_c u cu) [2] Try.call14 rfl (by simp [eqLs, eqL, eqO, eqC, eqCs, rn, renOf, look_cons, look, EK.cast]) (by simp [appN, ptrs, eqVL, eqV, eqA, eqC, eqCs, eqAs, eqCaps, EK.sz, rn, renOf, look_cons, look, arcV, fV]) (by simp [appN, ptrs, SV.lt, SA.lt, SC.lt, arcV, fV]) ?_
  rw [h2]
  repeat' (first | exact rfl | ((conv => whnf); first | ((first | refine qA (fun h => ?_) fun h => ?_ | refine qN (fun h => ?_) fun h => ?_ | refine qB (fun h => ?_) fun h => ?_ | refine qC (fun h => ?_) fun h => ?_) <;> try exact absurd h (by omega)) | refine qM (fun h => ?_) fun h => ?_ | refine oM (by (first | omega | (simp only [lenS, InI, nmin, EK.sz]; omega) | (simp only [lenS, InI, nmin, EK.sz] at *; omega))) ?_ | refine oM ?_ ?_ | refine bM ?_ ?_ | refine draw_of Try.mixed Try.tyOk 60 (by kernel_rfl) ?_))
  (conv => whnf)
  refine callI (word_c v cv) [3] Try.call14 rfl (by simp [eqLs, eqL, eqO, eqC, eqCs, rn, renOf, look_cons, look, EK.cast]) (by simp [appN, ptrs, eqVL, eqV, eqA, eqC, eqCs, eqAs, eqCaps, EK.sz, rn, renOf, look_cons, look, arcV, fV]) (by simp [appN, ptrs, SV.lt, SA.lt, SC.lt, arcV, fV]) ?_
  rw [h3]
  repeat' (first | exact rfl | ((conv => whnf); first | ((first | refine qA (fun h => ?_) fun h => ?_ | refine qN (fun h => ?_) fun h => ?_ | refine qB (fun h => ?_) fun h => ?_ | refine qC (fun h => ?_) fun h => ?_) <;> try exact absurd h (by omega)) | refine qM (fun h => ?_) fun h => ?_ | refine oM (by (first | omega | (simp only [lenS, InI, nmin, EK.sz]; omega) | (simp only [lenS, InI, nmin, EK.sz] at *; omega))) ?_ | refine oM ?_ ?_ | refine bM ?_ ?_ | refine draw_of Try.mixed Try.tyOk 60 (by kernel_rfl) ?_))
  (conv => whnf)
  refine loopI (fun y : Nat × List Sli × List (Addr × List Int × Nat) => ⟨[(1, .c (.sl 2 1 0 u.length cu)), (2, .c (.sl 3 1 0 v.length cv)), (3, .c (.ptr 4 0)), (6, .c (.v (.pointer none))), (7, .c (.ptr 5 0)), (8, .i 0), (9, .i 0), (10, .i 0), (11, .c (.ptr 7 0)), (39, .c (.sl 1 5 0 F.arcs.length F.capA)), (40, .i F.arcs.length), (41, .i y.1)],
    (4, .box 25 (fCells F)) :: (5, .box 69 [.i 0, .i 0, .i 0]) :: (6, .arr true 22 .sli y.2.1 0) :: (7, .box 115 [.i F.st, .i F.start, .sl 0 1 0 F.fin.length F.capF, .sl 1 5 0 F.arcs.length F.capA, .sl 2 1 0 u.length cu, .sl 3 1 0 v.length cv, .sl 6 1 0 y.2.1.length y.2.1.length, .v (.map none)]) :: (8, .pool 3 .int y.2.2) :: hpQ F u v, 9⟩)
    (fun y => y.1 ≤ F.arcs.length ∧ RowsK F y.2.1 y.2.2 y.1) (fun y => F.arcs.length - y.1) (0, List.replicate F.st.toNat ⟨none, 0, 0⟩, []) [(8, none)] ⟨by rfl, ?_, ?_⟩ ⟨by omega, RowsK.zero F⟩ ?_
  · simp [eqFr, eqHp, eqV, eqA, eqC, eqO, eqCs, eqAs, look_cons, look, rn, EK.cast, EK.sz, eqCaps]
  · simp [eqFr, eqHp, eqV, eqA, eqC, eqO, eqCs, eqAs, look_cons, look, rn, EK.cast, EK.sz, eqCaps, fCells, nilO]
    exact .inr rfl
  · rintro ⟨k, rows, pi⟩ ⟨i1, i2⟩
    simp only at i1 i2 ⊢
    have hrl := i2.len
    (conv => whnf)
    refine condP_dec (fun hk => ?_) (fun hk => ?_)
    · have e0 : 0 + (k : Int).toNat = k := by omega
      have ea : F.arcs.getD (0 + (k : Int).toNat) EK.arc.dflt = F.arcs.getD k EK.arc.dflt := by rw [e0]
      have hao := hF.arc _ (getD_mem F.arcs k EK.arc.dflt (by omega))
      rw [← ea] at hao
      have hf0 := hao.f0
      have hf1 := hao.f1
      have hj : (F.arcs.getD (0 + (k : Int).toNat) EK.arc.dflt).f.toNat < F.st.toNat := by omega
      have hd := i2.hd _ hj
      have hln := hd.len
      rw [i2.row _ hj] at hln
      have hnl := numsK_len F k ((F.arcs.getD (0 + (k : Int).toNat) EK.arc.dflt).f.toNat)
      have ej : 0 + (F.arcs.getD (0 + (k : Int).toNat) EK.arc.dflt).f.toNat = (F.arcs.getD (0 + (k : Int).toNat) EK.arc.dflt).f.toNat := by omega
      repeat' (first | exact rfl | ((conv => whnf); first | ((first | refine qA (fun h => ?_) fun h => ?_ | refine qN (fun h => ?_) fun h => ?_ | refine qB (fun h => ?_) fun h => ?_ | refine qC (fun h => ?_) fun h => ?_) <;> try exact absurd h (by omega)) | refine qM (fun h => ?_) fun h => ?_ | refine oM (by (first | omega | (simp only [lenS, InI, nmin, EK.sz]; omega) | (simp only [lenS, InI, nmin, EK.sz] at *; omega))) ?_ | refine oM ?_ ?_ | refine bM ?_ ?_ | refine draw_of Try.mixed Try.tyOk 60 (by kernel_rfl) ?_))
      · rw [ej]
        exact ⟨hd, by omega, by omega⟩
      · (conv => whnf)
        intro m' h' happ
        rw [ej] at happ
        have hstep := i2.step hj (by rw [← ea]; omega) happ
        repeat' (first | exact rfl | ((conv => whnf); first | ((first | refine qA (fun h => ?_) fun h => ?_ | refine qN (fun h => ?_) fun h => ?_ | refine qB (fun h => ?_) fun h => ?_ | refine qC (fun h => ?_) fun h => ?_) <;> try exact absurd h (by omega)) | refine qM (fun h => ?_) fun h => ?_ | refine oM (by (first | omega | (simp only [lenS, InI, nmin, EK.sz]; omega) | (simp only [lenS, InI, nmin, EK.sz] at *; omega))) ?_ | refine oM ?_ ?_ | refine bM ?_ ?_ | refine draw_of Try.mixed Try.tyOk 60 (by kernel_rfl) ?_))
        (conv => whnf)
        refine ⟨(k + 1, rows.set (F.arcs.getD (0 + (k : Int).toNat) EK.arc.dflt).f.toNat h', m'), [], ⟨by rfl, ?_, ?_⟩, ⟨by simp only; omega, hstep⟩, by simp only; omega⟩
        · simp [eqFr, eqHp, eqV, eqA, eqC, eqO, eqCs, eqAs, look_cons, look, rn, EK.cast, EK.sz, eqCaps]
        · simp [eqFr, eqHp, eqV, eqA, eqC, eqO, eqCs, eqAs, look_cons, look, rn, EK.cast, EK.sz, eqCaps, fCells]
    · have hkn : k = F.arcs.length := by omega
      subst hkn
      have hro := i2.ok
      repeat' (first | exact rfl | ((conv => whnf); first | ((first | refine qA (fun h => ?_) fun h => ?_ | refine qN (fun h => ?_) fun h => ?_ | refine qB (fun h => ?_) fun h => ?_ | refine qC (fun h => ?_) fun h => ?_) <;> try exact absurd h (by omega)) | refine qM (fun h => ?_) fun h => ?_ | refine oM (by (first | omega | (simp only [lenS, InI, nmin, EK.sz]; omega) | (simp only [lenS, InI, nmin, EK.sz] at *; omega))) ?_ | refine oM ?_ ?_ | refine bM ?_ ?_ | refine draw_of Try.mixed Try.tyOk 60 (by kernel_rfl) ?_))
      (conv => whnf)
      refine callPool 120 .fnd (by simp [appN, ptrs, SV.lt, SA.lt, SC.lt]) ?_
      (conv => whnf)
      refine callF (run_l F u v cu cv rows pi hF hu hv hro) [7, 0, 1, 2, 3, 6, 8, 9] Try.call94 rfl (by simp [eqLs, eqL, eqO, eqC, eqCs, rn, renOf, look_cons, look, EK.cast]) (by simp [appN, ptrs, eqVL, eqV, eqA, eqC, eqCs, eqAs, eqCaps, EK.sz, rn, renOf, look_cons, look, arcV, fV]) (by simp [appN, ptrs, SV.lt, SA.lt, SC.lt, arcV, fV, lenN]) ?_
      rintro _ _ ⟨es, clk, pf, rfl, rfl, hran⟩
      have hran2 := hran
      obtain ⟨hm, ord, rk, B, hol, hD, hB, hall⟩ := hran2
      repeat' (first | exact rfl | ((conv => whnf); first | ((first | refine qA (fun h => ?_) fun h => ?_ | refine qN (fun h => ?_) fun h => ?_ | refine qB (fun h => ?_) fun h => ?_ | refine qC (fun h => ?_) fun h => ?_) <;> try exact absurd h (by omega)) | refine qM (fun h => ?_) fun h => ?_ | refine oM (by (first | omega | (simp only [lenS, InI, nmin, EK.sz]; omega) | (simp only [lenS, InI, nmin, EK.sz] at *; omega))) ?_ | refine oM ?_ ?_ | refine bM ?_ ?_ | refine draw_of Try.mixed Try.tyOk 60 (by kernel_rfl) ?_))
      (conv => whnf)
      refine callF (end_l F u v cu cv rows pi es clk pf hF hu hv hm (fun y d hy => ⟨(hD.cost y d hy).1, Int.le_trans (hD.cost y d hy).2 hB⟩)) [7, 0, 1, 2, 3, 6, 8, 10, 9] Try.call95 rfl (by simp [eqLs, eqL, eqO, eqC, eqCs, rn, renOf, look_cons, look, EK.cast]) (by simp [appN, ptrs, eqVL, eqV, eqA, eqC, eqCs, eqAs, eqCaps, EK.sz, rn, renOf, look_cons, look, arcV, fV]) (by simp [appN, ptrs, SV.lt, SA.lt, SC.lt, arcV, fV, lenN]) ?_
      rintro _ _ ⟨rfl, rfl⟩
      repeat' (first | exact rfl | ((conv => whnf); first | ((first | refine qA (fun h => ?_) fun h => ?_ | refine qN (fun h => ?_) fun h => ?_ | refine qB (fun h => ?_) fun h => ?_ | refine qC (fun h => ?_) fun h => ?_) <;> try exact absurd h (by omega)) | refine qM (fun h => ?_) fun h => ?_ | refine oM (by (first | omega | (simp only [lenS, InI, nmin, EK.sz]; omega) | (simp only [lenS, InI, nmin, EK.sz] at *; omega))) ?_ | refine oM ?_ ?_ | refine bM ?_ ?_ | refine draw_of Try.mixed Try.tyOk 60 (by kernel_rfl) ?_))
      (conv => whnf)
      generalize hE : endF (costOf es pf) F.fin u.length v.length F.fin.length = E at *
      refine ⟨[(4, some 7), (5, some 6), (6, some 8), (7, some 9), (8, some 10)], [(4, .box 115 [.i F.st, .i F.start, .sl 0 1 0 F.fin.length F.capF, .sl 1 5 0 F.arcs.length F.capA, .sl 2 1 0 u.length cu, .sl 3 1 0 v.length cv, .sl 5 1 0 rows.length rows.length, .mp 8]), (5, .arr true 22 .sli rows 0), (6, .pool 3 .int pi), (7, .pool 120 .fnd pf), (8, .map .trip .adr es clk)], 9, .tup [.c (.ptr 4 0), .agg [.i E.1.a, .i E.1.b, .i E.1.c], .c (.i E.2), .c (.i 0)], ⟨by rfl, trivial, by simp [eqFr, eqHp, eqV, eqA, eqC, eqO, eqCs, eqAs, look_cons, look, rn, EK.cast, EK.sz, eqCaps]⟩, by simp [eqV, eqA, eqAs, eqC, eqCs, rn, look, look_cons], rows, pi, es, clk, pf, hran, ?_, rfl⟩
      rw [hE]

end Go.Fw

namespace Go.Fw
open Go Go.Proofs

set_option maxHeartbeats 4000000 in
set_option maxRecDepth 20000 in
theorem score_no (F : TF) (u v : List Int) (cu cv : Nat) (hl : F.fin.length ≤ 9223372036854775807) (hsc : scoreE F u v ≠ 0) :
    Ct Try.prog 10 [fV F, .c (.sl 2 1 0 u.length cu), .c (.sl 3 1 0 v.length cv)] [] (hpQ F u v) 4 (Is 4 (.tup [.c (.i 0), .c (.i (scoreE F u v))])) := by
  refine ctW Try.tyOk 12 [] Try.func10 rfl (by simp [SV.lt, SA.lt, SC.lt, arcV, fV]) (by simp) (fr := [(0, fV F), (1, .c (.sl 2 1 0 u.length cu)), (2, .c (.sl 3 1 0 v.length cv))]) rfl ?_
  repeat' (first | exact rfl | ((conv => whnf); first | ((first | refine qA (fun h => ?_) fun h => ?_ | refine qN (fun h => ?_) fun h => ?_ | refine qB (fun h => ?_) fun h => ?_ | refine qC (fun h => ?_) fun h => ?_) <;> try exact absurd h (by omega)) | refine qM (fun h => ?_) fun h => ?_ | refine oM (by (first | omega | (simp only [lenS, InI, nmin, EK.sz]; omega) | (simp only [lenS, InI, nmin, EK.sz] at *; omega))) ?_ | refine oM ?_ ?_ | refine bM ?_ ?_ | refine draw_of Try.mixed Try.tyOk 60 (by kernel_rfl) ?_))
  (conv => whnf)
  refine callI (walk_no F u v cu cv hl hsc) [0, 1, 2, 3] Try.call51 rfl (by simp [eqLs, eqL, eqO, eqC, eqCs, rn, renOf, look_cons, look, EK.cast]) (by simp [appN, ptrs, eqVL, eqV, eqA, eqC, eqCs, eqAs, eqCaps, EK.sz, rn, renOf, look_cons, look, arcV, fV]) (by simp [appN, ptrs, SV.lt, SA.lt, SC.lt, arcV, fV]) ?_
  repeat' (first | exact rfl | ((conv => whnf); first | ((first | refine qA (fun h => ?_) fun h => ?_ | refine qN (fun h => ?_) fun h => ?_ | refine qB (fun h => ?_) fun h => ?_ | refine qC (fun h => ?_) fun h => ?_) <;> try exact absurd h (by omega)) | refine qM (fun h => ?_) fun h => ?_ | refine oM (by (first | omega | (simp only [lenS, InI, nmin, EK.sz]; omega) | (simp only [lenS, InI, nmin, EK.sz] at *; omega))) ?_ | refine oM ?_ ?_ | refine bM ?_ ?_ | refine draw_of Try.mixed Try.tyOk 60 (by kernel_rfl) ?_))
  refine Back.is ?_
  simp [eqV, eqA, eqAs, eqC, eqCs]

set_option maxHeartbeats 4000000 in
set_option maxRecDepth 20000 in
theorem score_ok (F : TF) (u v : List Int) (cu cv : Nat) (hl : F.fin.length ≤ 9223372036854775807) (hsc : scoreE F u v = 0) :
    Ct Try.prog 10 [fV F, .c (.sl 2 1 0 u.length cu), .c (.sl 3 1 0 v.length cv)] [] (hpQ F u v) 4 (fun x s => ∃ A, IsLeast F u v (fromSt F) A ∧ x = .tup [.c (.i (endF A F.fin u.length v.length F.fin.length).2), .c (.i 0)] ∧ s = ⟨[], [], 4⟩) := by
  refine ctW Try.tyOk 12 [] Try.func10 rfl (by simp [SV.lt, SA.lt, SC.lt, arcV, fV]) (by simp) (fr := [(0, fV F), (1, .c (.sl 2 1 0 u.length cu)), (2, .c (.sl 3 1 0 v.length cv))]) rfl ?_
  repeat' (first | exact rfl | ((conv => whnf); first | ((first | refine qA (fun h => ?_) fun h => ?_ | refine qN (fun h => ?_) fun h => ?_ | refine qB (fun h => ?_) fun h => ?_ | refine qC (fun h => ?_) fun h => ?_) <;> try exact absurd h (by omega)) | refine qM (fun h => ?_) fun h => ?_ | refine oM (by (first | omega | (simp only [lenS, InI, nmin, EK.sz]; omega) | (simp only [lenS, InI, nmin, EK.sz] at *; omega))) ?_ | refine oM ?_ ?_ | refine bM ?_ ?_ | refine draw_of Try.mixed Try.tyOk 60 (by kernel_rfl) ?_))
  (conv => whnf)
  refine callF (walk_ok F u v cu cv hl hsc) [0, 1, 2, 3] Try.call51 rfl (by simp [eqLs, eqL, eqO, eqC, eqCs, rn, renOf, look_cons, look, EK.cast]) (by simp [appN, ptrs, eqVL, eqV, eqA, eqC, eqCs, eqAs, eqCaps, EK.sz, rn, renOf, look_cons, look, arcV, fV]) (by simp [appN, ptrs, SV.lt, SA.lt, SC.lt, arcV, fV, lenN]) ?_
  rintro _ _ ⟨rows, pi, es, clk, pf, ⟨hm, ord, rk, B, hol, hD, hB, hall⟩, rfl, rfl⟩
  repeat' (first | exact rfl | ((conv => whnf); first | ((first | refine qA (fun h => ?_) fun h => ?_ | refine qN (fun h => ?_) fun h => ?_ | refine qB (fun h => ?_) fun h => ?_ | refine qC (fun h => ?_) fun h => ?_) <;> try exact absurd h (by omega)) | refine qM (fun h => ?_) fun h => ?_ | refine oM (by (first | omega | (simp only [lenS, InI, nmin, EK.sz]; omega) | (simp only [lenS, InI, nmin, EK.sz] at *; omega))) ?_ | refine oM ?_ ?_ | refine bM ?_ ?_ | refine draw_of Try.mixed Try.tyOk 60 (by kernel_rfl) ?_))
  (conv => whnf)
  exact ⟨[], [], 4, .tup [.c (.i (endF (costOf es pf) F.fin u.length v.length F.fin.length).2), .c (.i 0)], ⟨by rfl, trivial, trivial⟩, by simp [eqV, eqA, eqAs, eqC, eqCs], costOf es pf, hD.least hall, rfl, rfl⟩

end Go.Fw

namespace Go.Fw
open Go Go.Proofs

/-- Back along the arcs. -/
def chain (D : Trip → Option Fnd) : Nat → Trip → List Int
  | 0, _ => []
  | n + 1, y => match D y with
    | none => []
    | some c => if 0 ≤ c.arc then c.arc :: chain D n ⟨c.s, c.i, c.o⟩ else []

theorem chain_stop {D : Trip → Option Fnd} {y : Trip} {c : Fnd} (h : D y = some c) (ha : ¬ c.arc ≥ 0) (n : Nat) : chain D n y = [] := by
  cases n with
  | zero => rfl
  | succ n => simp only [chain, h]; exact if_neg ha

theorem chain_on {D : Trip → Option Fnd} {y : Trip} {c : Fnd} (h : D y = some c) (ha : c.arc ≥ 0) (n : Nat) : chain D (n + 1) y = c.arc :: chain D n ⟨c.s, c.i, c.o⟩ := by
  simp only [chain, h]; exact if_pos ha

theorem endF_D {D : Trip → Option Int} {fin : List Int} {p q : Int} : ∀ k, (endF D fin p q k).2 ≠ -1 → ∃ d, D (endF D fin p q k).1 = some d
  | 0, h => absurd rfl h
  | k + 1, h => by
    cases hd : D ⟨k, p, q⟩ with
    | none => rw [endF_none hd] at h ⊢; exact endF_D k h
    | some d =>
      by_cases c : fin.getD k 0 ≠ -1 ∧ ((endF D fin p q k).2 = -1 ∨ d + fin.getD k 0 < (endF D fin p q k).2)
      · rw [endF_yes hd c.1 c.2]; exact ⟨d, hd⟩
      · have e : endF D fin p q (k + 1) = endF D fin p q k := by simp only [endF, hd]; exact if_neg c
        rw [e] at h ⊢
        exact endF_D k h

/-- What Walk tells. -/
def WalkIs (F : TF) (u v : List Int) (E : Trip × Int) (l : List Int) : Prop :=
  ∃ D ord rk B n, Dj F u v D ord rk B (fun _ _ => True) ∧ (∀ y d, D y = some d → d.dn = true) ∧ E = endF (fun y => (D y).map (·.cost)) F.fin u.length v.length F.fin.length ∧ rk E.1 < n ∧ l.reverse = chain D n E.1

set_option maxHeartbeats 8000000 in
set_option maxRecDepth 20000 in
theorem walkP_c (F : TF) (u v : List Int) (cu cv : Nat) (hl : F.fin.length ≤ 9223372036854775807) (hsc : scoreE F u v = 0) :
    Ct Try.prog 56 [fV F, .c (.sl 2 1 0 u.length cu), .c (.sl 3 1 0 v.length cv)] [] (hpQ F u v) 4 (fun x s =>
      (∃ A, IsLeast F u v (fromSt F) A ∧ (endF A F.fin u.length v.length F.fin.length).2 = -1 ∧ x = .tup [.c (.v (.slice none 0 0)), .c (.i (-1)), .c (.i 0)] ∧ s = ⟨[], [], 4⟩) ∨
      ∃ E l sp, WalkIs F u v E l ∧ E.2 ≠ -1 ∧ x = .tup [.c (.sl 4 1 0 l.length (l.length + sp)), .c (.i E.2), .c (.i 0)] ∧ s = ⟨[], [(4, .arr true 3 .int l sp)], 5⟩) := by
  refine ctW Try.tyOk 15 [] Try.func56 rfl (by simp [SV.lt, SA.lt, SC.lt, arcV, fV]) (by simp) (fr := [(0, fV F), (1, .c (.sl 2 1 0 u.length cu)), (2, .c (.sl 3 1 0 v.length cv))]) rfl ?_
  repeat' (first | exact rfl | ((conv => whnf); first | ((first | refine qA (fun h => ?_) fun h => ?_ | refine qN (fun h => ?_) fun h => ?_ | refine qB (fun h => ?_) fun h => ?_ | refine qC (fun h => ?_) fun h => ?_) <;> try exact absurd h (by omega)) | refine qM (fun h => ?_) fun h => ?_ | refine oM (by (first | omega | (simp only [lenS, InI, nmin, EK.sz]; omega) | (simp only [lenS, InI, nmin, EK.sz] at *; omega))) ?_ | refine oM ?_ ?_ | refine bM ?_ ?_ | refine draw_of Try.mixed Try.tyOk 60 (by kernel_rfl) ?_))
  (conv => whnf)
  refine callF (walk_ok F u v cu cv hl hsc) [0, 1, 2, 3] Try.call51 rfl (by simp [eqLs, eqL, eqO, eqC, eqCs, rn, renOf, look_cons, look, EK.cast]) (by simp [appN, ptrs, eqVL, eqV, eqA, eqC, eqCs, eqAs, eqCaps, EK.sz, rn, renOf, look_cons, look, arcV, fV]) (by simp [appN, ptrs, SV.lt, SA.lt, SC.lt, arcV, fV, lenN]) ?_
  rintro _ _ ⟨rows, pi, es, clk, pf, ⟨hm, ord, rk, B, hol, hD, hB, hall⟩, rfl, rfl⟩
  have hL := hD.least hall
  have hed := endF_D (D := costOf es pf) (fin := F.fin) (p := u.length) (q := v.length) F.fin.length
  generalize hE : endF (costOf es pf) F.fin u.length v.length F.fin.length = E at *
  obtain ⟨⟨E1, E2, E3⟩, Ec⟩ := E
  simp only at hed ⊢
  repeat' (first | exact rfl | ((conv => whnf); first | ((first | refine qA (fun h => ?_) fun h => ?_ | refine qN (fun h => ?_) fun h => ?_ | refine qB (fun h => ?_) fun h => ?_ | refine qC (fun h => ?_) fun h => ?_) <;> try exact absurd h (by omega)) | refine qM (fun h => ?_) fun h => ?_ | refine oM (by (first | omega | (simp only [lenS, InI, nmin, EK.sz]; omega) | (simp only [lenS, InI, nmin, EK.sz] at *; omega))) ?_ | refine oM ?_ ?_ | refine bM ?_ ?_ | refine draw_of Try.mixed Try.tyOk 60 (by kernel_rfl) ?_))
  · (conv => whnf)
    refine ⟨[], [], 4, .tup [.c (.v (.slice none 0 0)), .c (.i (-1)), .c (.i 0)], ⟨by rfl, trivial, trivial⟩, by simp [eqV, eqA, eqAs, eqC, eqCs, h], .inl ⟨costOf es pf, hL, ?_, rfl, rfl⟩⟩
    rw [hE]
    exact h
  obtain ⟨d0, hd0⟩ := hed h
  obtain ⟨d, hd, -⟩ := Option.map_eq_some_iff.1 hd0
  obtain ⟨a, nn, r1, r2, r3, r4⟩ := hm.of hd
  have e1 : (@lkM EK.trip.ty EK.adr.ty (EK.instDeq .trip) es (⟨E1, E2, E3⟩ : Trip)).getD EK.adr.dflt = some a := congrArg (fun x => Option.getD x none) r3
  have hmem : ∀ y d, metOf es pf y = some d → y ∈ ord := fun y d hy => (hD.dn y d hy).1 (hall y d hy)
  repeat' (first | exact rfl | ((conv => whnf); first | ((first | refine qA (fun h => ?_) fun h => ?_ | refine qN (fun h => ?_) fun h => ?_ | refine qB (fun h => ?_) fun h => ?_ | refine qC (fun h => ?_) fun h => ?_) <;> try exact absurd h (by omega)) | refine qM (fun h => ?_) fun h => ?_ | refine oM (by (first | omega | (simp only [lenS, InI, nmin, EK.sz]; omega) | (simp only [lenS, InI, nmin, EK.sz] at *; omega))) ?_ | refine oM ?_ ?_ | refine bM ?_ ?_ | refine draw_of Try.mixed Try.tyOk 60 (by kernel_rfl) ?_))
  (conv => whnf)
  rw [e1]
  refine loopI (fun y : List Int × Nat × Addr × Trip × Nat => ⟨[(6, .c (.v (.slice none 0 0))), (7, .i 0), (8, .i 0), (9, .c (.ptr 5 0)), (10, .c (.ptr 10 0)), (11, .i Ec), (12, .i 0), (13, .c (.sl 11 1 0 y.1.length (y.1.length + y.2.1))), (14, .c (.q (some y.2.2.1)))],
    (4, .box 25 (fCells F)) :: (5, .box 115 [.i F.st, .i F.start, .sl 0 1 0 F.fin.length F.capF, .sl 1 5 0 F.arcs.length F.capA, .sl 2 1 0 u.length cu, .sl 3 1 0 v.length cv, .sl 6 1 0 rows.length rows.length, .mp 9]) :: (8, .pool 120 .fnd pf) :: (9, .map .trip .adr es clk) :: (10, .box 69 [.i E1, .i E2, .i E3]) :: (11, .arr true 3 .int y.1 y.2.1) :: hpQ F u v, 12⟩)
    (fun y => (∃ c, metOf es pf y.2.2.2.1 = some c ∧ rowA pf (some y.2.2.1) = [c]) ∧ rk y.2.2.2.1 < y.2.2.2.2 ∧ y.1 ++ chain (metOf es pf) y.2.2.2.2 y.2.2.2.1 = chain (metOf es pf) (rk ⟨E1, E2, E3⟩ + 1) ⟨E1, E2, E3⟩ ∧ y.1.length + y.2.2.2.2 ≤ 336200) (fun y => y.2.2.2.2) ([], 0, a, ⟨E1, E2, E3⟩, rk ⟨E1, E2, E3⟩ + 1) [(11, none)] ⟨by rfl, ?_, ?_⟩ ⟨⟨d, hd, r4⟩, Nat.lt_succ_self _, rfl, ?_⟩ ?_
  · simp [eqFr, eqHp, eqV, eqA, eqC, eqO, eqCs, eqAs, look_cons, look, rn, EK.cast, EK.sz, eqCaps]
  · simp [eqFr, eqHp, eqV, eqA, eqC, eqO, eqCs, eqAs, look_cons, look, rn, EK.cast, EK.sz, eqCaps, fCells, nilO]
  · have := hD.rkl _ (hmem _ _ hd)
    simp only [List.length_nil]
    omega
  · rintro ⟨l, sp, b, y, fu⟩ ⟨⟨c, hc, hrow⟩, hfu, hch, hlen⟩
    simp only at hc hrow hfu hch hlen ⊢
    have hcl : 0 < (rowA pf (some b)).length := by rw [hrow]; exact Nat.one_pos
    have ec : (rowA pf (some b)).getD 0 EK.fnd.dflt = c := by rw [hrow]; rfl
    have hby := hD.by' y c hc
    repeat' (first | exact rfl | ((conv => whnf); first | ((first | refine qA (fun h => ?_) fun h => ?_ | refine qN (fun h => ?_) fun h => ?_ | refine qB (fun h => ?_) fun h => ?_ | refine qC (fun h => ?_) fun h => ?_) <;> try exact absurd h (by omega)) | refine qM (fun h => ?_) fun h => ?_ | refine oM (by (first | omega | (simp only [lenS, InI, nmin, EK.sz]; omega) | (simp only [lenS, InI, nmin, EK.sz] at *; omega))) ?_ | refine oM ?_ ?_ | refine bM ?_ ?_ | refine draw_of Try.mixed Try.tyOk 60 (by kernel_rfl) ?_))
    · intro sp2
      repeat' (first | exact rfl | ((conv => whnf); first | ((first | refine qA (fun h => ?_) fun h => ?_ | refine qN (fun h => ?_) fun h => ?_ | refine qB (fun h => ?_) fun h => ?_ | refine qC (fun h => ?_) fun h => ?_) <;> try exact absurd h (by omega)) | refine qM (fun h => ?_) fun h => ?_ | refine oM (by (first | omega | (simp only [lenS, InI, nmin, EK.sz]; omega) | (simp only [lenS, InI, nmin, EK.sz] at *; omega))) ?_ | refine oM ?_ ?_ | refine bM ?_ ?_ | refine draw_of Try.mixed Try.tyOk 60 (by kernel_rfl) ?_))
      rw [ec] at h
      obtain ⟨n, z, cz, w, g1, g2, g3, g4, g5, g6, g7, g8, g9⟩ : ∃ (n : Nat) (z : Trip) (cz : Fnd) (w : Int), c.arc = (n : Int) ∧ c.s = z.a ∧ c.i = z.b ∧ c.o = z.c ∧ z ∈ ord ∧ metOf es pf z = some cz ∧ Edge F u v z n y w ∧ c.cost = cz.cost + w ∧ (y ∈ ord → rk z < rk y) := by
        rcases hby with ⟨_, _, q⟩ | q
        · omega
        · exact q
      have hz : z = ⟨c.s, c.i, c.o⟩ := by rw [g2, g3, g4]
      subst hz
      obtain ⟨b', nb, s1, s2, s3, s4⟩ := hm.of g6
      have e2 : (@lkM EK.trip.ty EK.adr.ty (EK.instDeq .trip) es (⟨c.s, c.i, c.o⟩ : Trip)).getD EK.adr.dflt = some b' := congrArg (fun x => Option.getD x none) s3
      have hrk := g9 (hmem y c hc)
      obtain ⟨fu', rfl⟩ : ∃ fu', fu = fu' + 1 := ⟨fu - 1, by omega⟩
      rw [chain_on hc h] at hch
      (conv => whnf)
      rw [ec, e2]
      refine ⟨(l ++ [c.arc], sp2, b', ⟨c.s, c.i, c.o⟩, fu'), [(11, some 13)], ⟨by rfl, ?_, ?_⟩, ⟨⟨cz, g6, s4⟩, by simp only; omega, by simpa using hch, by simp only [List.length_append, List.length_cons, List.length_nil]; omega⟩, by simp only; omega⟩
      · simp [eqFr, eqHp, eqV, eqA, eqC, eqO, eqCs, eqAs, look_cons, look, rn, EK.cast, EK.sz, eqCaps]
      · simp [eqFr, eqHp, eqV, eqA, eqC, eqO, eqCs, eqAs, look_cons, look, rn, EK.cast, EK.sz, eqCaps, fCells]
        exact (app_one l _ _ rfl).symm
    · rw [ec] at h
      rw [chain_stop hc h, List.append_nil] at hch
      (conv => whnf)
      refine callF (reverse_c l (l.length + sp) sp (by omega)) [11] Try.call69 rfl (by simp [eqLs, eqL, eqO, eqC, eqCs, rn, renOf, look_cons, look, EK.cast]) (by simp [appN, ptrs, eqVL, eqV, eqA, eqC, eqCs, eqAs, eqCaps, EK.sz, rn, renOf, look_cons, look, arcV, fV]) (by simp [appN, ptrs, SV.lt, SA.lt, SC.lt, arcV, fV, lenN]) ?_
      rintro _ _ ⟨rfl, rfl⟩
      repeat' (first | exact rfl | ((conv => whnf); first | ((first | refine qA (fun h => ?_) fun h => ?_ | refine qN (fun h => ?_) fun h => ?_ | refine qB (fun h => ?_) fun h => ?_ | refine qC (fun h => ?_) fun h => ?_) <;> try exact absurd h (by omega)) | refine qM (fun h => ?_) fun h => ?_ | refine oM (by (first | omega | (simp only [lenS, InI, nmin, EK.sz]; omega) | (simp only [lenS, InI, nmin, EK.sz] at *; omega))) ?_ | refine oM ?_ ?_ | refine bM ?_ ?_ | refine draw_of Try.mixed Try.tyOk 60 (by kernel_rfl) ?_))
      (conv => whnf)
      refine ⟨[(4, some 11)], [(4, .arr true 3 .int l.reverse sp)], 5, .tup [.c (.sl 4 1 0 l.reverse.length (l.reverse.length + sp)), .c (.i Ec), .c (.i 0)], ⟨by rfl, trivial, by simp [eqFr, eqHp, eqV, eqA, eqC, eqO, eqCs, eqAs, look_cons, look, rn, EK.cast, EK.sz, eqCaps]⟩, by simp [eqV, eqA, eqAs, eqC, eqCs, rn, look, look_cons, EK.sz], .inr ⟨(⟨E1, E2, E3⟩, Ec), l.reverse, sp, ⟨metOf es pf, ord, rk, B, rk ⟨E1, E2, E3⟩ + 1, hD, hall, hE.symm, Nat.lt_succ_self _, ?_⟩, by assumption, rfl, rfl⟩⟩
      rw [List.reverse_reverse]
      exact hch

end Go.Fw

/-
  The table of costs, cell by cell.
-/
namespace Go.Fw
open Go

/-- What begins. -/
def srcS (F : TF) (first : List Int) : Trip → Int → Prop := fun x c => x.b = 0 ∧ x.c = 0 ∧ (0 ≤ x.a ∧ x.a < F.st) ∧ first.getD x.a.toNat 0 = c ∧ 0 ≤ c

theorem less_spec (p q : Int) : (0 ≤ p → 0 ≤ less p q ∧ less p q ≤ p) ∧ (0 ≤ q → 0 ≤ less p q ∧ less p q ≤ q) ∧ (less p q = p ∨ less p q = q) := by
  unfold less
  by_cases h1 : p < 0
  · rw [if_pos h1]; refine ⟨fun h => by omega, fun h => by omega, .inr rfl⟩
  · rw [if_neg h1]
    by_cases h2 : q < 0 ∨ p < q
    · rw [if_pos h2]; refine ⟨fun h => by omega, fun h => by omega, .inl rfl⟩
    · rw [if_neg h2]; refine ⟨fun h => by omega, fun h => by omega, .inr rfl⟩

theorem plus_spec (p q : Int) (hq : 0 ≤ q) : (0 ≤ p → plus p q = p + q) ∧ (p < 0 → plus p q = -1) := by
  unfold plus
  refine ⟨fun h => if_neg (by omega), fun h => if_pos (by omega)⟩

section
variable {F : TF} {u v : List Int} {S : Trip → Int → Prop}

theorem Reach.box (hF : FOk F) (hS : ∀ x c, S x c → InBox F u v x ∧ 0 ≤ c) {c : Int} {x : Trip} (h : Reach F u v S c x) : InBox F u v x ∧ 0 ≤ c := by
  induction h with
  | here h => exact hS _ _ h
  | on h he ih => exact ⟨he.box hF ih.1, by have := (he.wt hF).1; omega⟩

/-- A cell is right. -/
structure CellOk (F : TF) (u v : List Int) (S : Trip → Int → Prop) (B i o : Int) (l : List Int) : Prop where
  len : l.length = F.st.toNat
  bd : ∀ x ∈ l, -1 ≤ x ∧ x ≤ B
  snd : ∀ n : Nat, n < F.st.toNat → 0 ≤ l.getD n 0 → Reach F u v S (l.getD n 0) ⟨n, i, o⟩
  cpl : ∀ (n : Nat) c, Reach F u v S c ⟨n, i, o⟩ → 0 ≤ l.getD n 0 ∧ l.getD n 0 ≤ c

/-- A cell on its way. -/
structure CInv (F : TF) (u v : List Int) (S : Trip → Int → Prop) (i o : Int) (k : Nat) (l : List Int) : Prop where
  len : l.length = F.st.toNat
  snd : ∀ n : Nat, n < F.st.toNat → 0 ≤ l.getD n 0 → Reach F u v S (l.getD n 0) ⟨n, i, o⟩
  src : ∀ (n : Nat) c, S ⟨n, i, o⟩ c → 0 ≤ l.getD n 0 ∧ l.getD n 0 ≤ c
  psh : ∀ (j : Nat) a, j < k → F.arcs[j]? = some a → a.i + a.o ≠ 0 → ∀ x (n : Nat) w, Edge F u v x j ⟨n, i, o⟩ w → ∀ c, Reach F u v S c x → 0 ≤ l.getD n 0 ∧ l.getD n 0 ≤ c + w

theorem getD_setC (l : List Int) (t : Nat) (m : Int) (n : Nat) (ht : t < l.length) : (l.set t m).getD n 0 = if n = t then m else l.getD n 0 := by
  simp only [List.getD, List.getElem?_set]
  by_cases h : t = n
  · subst h; simp [ht]
  · simp [h, Ne.symm h]

/-- A state's cost made less. -/
theorem CInv.relax {i o : Int} {k : Nat} {l : List Int} (h : CInv F u v S i o k l) {t : Nat} (ht : t < F.st.toNat) {m : Int} (h1 : 0 ≤ l.getD t 0 → 0 ≤ m ∧ m ≤ l.getD t 0) (h2 : 0 ≤ m → Reach F u v S m ⟨t, i, o⟩) : CInv F u v S i o k (l.set t m) := by
  have htl : t < l.length := by rw [h.len]; exact ht
  have low : ∀ n : Nat, 0 ≤ l.getD n 0 → 0 ≤ (l.set t m).getD n 0 ∧ (l.set t m).getD n 0 ≤ l.getD n 0 := by
    intro n hn
    rw [getD_setC l t m n htl]
    by_cases e : n = t
    · rw [if_pos e]; subst e; exact h1 hn
    · rw [if_neg e]; omega
  refine ⟨by rw [List.length_set]; exact h.len, ?_, ?_, ?_⟩
  · intro n hn hp
    rw [getD_setC l t m n htl] at hp ⊢
    by_cases e : n = t
    · rw [if_pos e] at hp ⊢; subst e; exact h2 hp
    · rw [if_neg e] at hp ⊢; exact h.snd n hn hp
  · intro n c hs
    have g := h.src n c hs
    have := low n g.1
    omega
  · intro j a hj ha hs x n w he c hr
    have g := h.psh j a hj ha hs x n w he c hr
    have := low n g.1
    omega

theorem CInv.next {i o : Int} {k : Nat} {l : List Int} (h : CInv F u v S i o k l) (hk : ∀ a, F.arcs[k]? = some a → a.i + a.o ≠ 0 → ∀ x (n : Nat) w, Edge F u v x k ⟨n, i, o⟩ w → ∀ c, Reach F u v S c x → 0 ≤ l.getD n 0 ∧ l.getD n 0 ≤ c + w) : CInv F u v S i o (k + 1) l := by
  refine ⟨h.len, h.snd, h.src, fun j a hj ha hs x n w he c hr => ?_⟩
  by_cases e : j = k
  · subst e; exact hk a ha hs x n w he c hr
  · exact h.psh j a (by omega) ha hs x n w he c hr

/-- Where an arc that comes here comes from. -/
theorem Edge.back {x : Trip} {j : Nat} {n : Nat} {i o w : Int} {a : Arc} (ha : F.arcs[j]? = some a) (hi : 0 ≤ a.i) (ho : 0 ≤ a.o) (h : Edge F u v x j ⟨n, i, o⟩ w) :
    x = ⟨a.f, if 0 < a.i then i - 1 else i, if 0 < a.o then o - 1 else o⟩ ∧ (n : Int) = a.t ∧ w = a.w ∧ (0 < a.i → x.b < u.length ∧ u.getD x.b.toNat 0 = a.i) ∧ (0 < a.o → x.c < v.length ∧ v.getD x.c.toNat 0 = a.o) := by
  obtain ⟨b, h1, h2, h3, h4, h5, h6⟩ := h
  rw [ha] at h1
  cases h1
  obtain ⟨x1, x2, x3⟩ := x
  simp only at *
  simp only [Trip.mk.injEq] at h5
  obtain ⟨g1, g2, g3⟩ := h5
  unfold fitE at h3 h4 g2 g3
  have ei : (x2 = if 0 < a.i then i - 1 else i) ∧ (0 < a.i → x2 < u.length ∧ u.getD x2.toNat 0 = a.i) := by
    by_cases e : a.i = 0
    · rw [if_pos e] at g2
      simp only at g2
      rw [if_neg (by omega)]
      exact ⟨g2.symm, fun h => by omega⟩
    · rw [if_neg e] at g2 h3
      simp only [decide_eq_true_eq] at g2 h3
      rw [if_pos (by omega)]
      exact ⟨by omega, fun _ => h3⟩
  have eo : (x3 = if 0 < a.o then o - 1 else o) ∧ (0 < a.o → x3 < v.length ∧ v.getD x3.toNat 0 = a.o) := by
    by_cases e : a.o = 0
    · rw [if_pos e] at g3
      simp only at g3
      rw [if_neg (by omega)]
      exact ⟨g3.symm, fun h => by omega⟩
    · rw [if_neg e] at g3 h4
      simp only [decide_eq_true_eq] at g3 h4
      rw [if_pos (by omega)]
      exact ⟨by omega, fun _ => h4⟩
  refine ⟨?_, g1, h6, ei.2, eo.2⟩
  rw [← h2, ← ei.1, ← eo.1]

theorem Edge.make {j : Nat} {i o : Int} {a : Arc} (ha : F.arcs[j]? = some a) (hi : 0 ≤ a.i) (ho : 0 ≤ a.o) (h1 : 0 < a.i → i - 1 < u.length ∧ u.getD (i - 1).toNat 0 = a.i) (h2 : 0 < a.o → o - 1 < v.length ∧ v.getD (o - 1).toNat 0 = a.o) :
    Edge F u v ⟨a.f, if 0 < a.i then i - 1 else i, if 0 < a.o then o - 1 else o⟩ j ⟨a.t, i, o⟩ a.w := by
  refine ⟨a, ha, rfl, ?_, ?_, ?_, rfl⟩
  · show (fitE u (if 0 < a.i then i - 1 else i) a.i).2 = true
    unfold fitE
    by_cases e : a.i = 0
    · rw [if_pos e]
    · rw [if_neg e, if_pos (by omega)]
      simp only [decide_eq_true_eq]
      exact h1 (by omega)
  · show (fitE v (if 0 < a.o then o - 1 else o) a.o).2 = true
    unfold fitE
    by_cases e : a.o = 0
    · rw [if_pos e]
    · rw [if_neg e, if_pos (by omega)]
      simp only [decide_eq_true_eq]
      exact h2 (by omega)
  · show (⟨a.t, i, o⟩ : Trip) = ⟨a.t, (fitE u (if 0 < a.i then i - 1 else i) a.i).1, (fitE v (if 0 < a.o then o - 1 else o) a.o).1⟩
    have e1 : (fitE u (if 0 < a.i then i - 1 else i) a.i).1 = i := by
      unfold fitE
      by_cases e : a.i = 0
      · rw [if_pos e]; exact if_neg (by omega)
      · rw [if_neg e, if_pos (by omega)]; show i - 1 + 1 = i; omega
    have e2 : (fitE v (if 0 < a.o then o - 1 else o) a.o).1 = o := by
      unfold fitE
      by_cases e : a.o = 0
      · rw [if_pos e]; exact if_neg (by omega)
      · rw [if_neg e, if_pos (by omega)]; show o - 1 + 1 = o; omega
    rw [e1, e2]

/-- Nothing more to be made less by silent arcs. -/
def Still (F : TF) (k : Nat) (l : List Int) : Prop := ∀ (j : Nat) a, j < k → F.arcs[j]? = some a → a.i + a.o = 0 → less (l.getD a.t.toNat 0) (plus (l.getD a.f.toNat 0) a.w) = l.getD a.t.toNat 0

theorem CInv.done (hF : FOk F) {i o B : Int} {l : List Int} (h : CInv F u v S i o F.arcs.length l) (hs : Still F F.arcs.length l) (hbd : ∀ x ∈ l, -1 ≤ x ∧ x ≤ B) : CellOk F u v S B i o l := by
  refine ⟨h.len, hbd, h.snd, ?_⟩
  have key : ∀ c y, Reach F u v S c y → ∀ n : Nat, y = ⟨n, i, o⟩ → 0 ≤ l.getD n 0 ∧ l.getD n 0 ≤ c := by
    intro c y hr
    induction hr with
    | here hs' => rintro n rfl; exact h.src n _ hs'
    | @on x y c w j hr he ih =>
      rintro n rfl
      obtain ⟨a, ha, haf, _⟩ := id he
      have hao := hF.arc a (List.mem_of_getElem? ha)
      have hj := (List.getElem?_eq_some_iff.1 ha).1
      have hi0 := hao.i0.1
      have ho0 := hao.o0.1
      by_cases hsil : a.i + a.o = 0
      · obtain ⟨g1, g2, g3, _, _⟩ := he.back ha hi0 ho0
        rw [if_neg (by omega), if_neg (by omega)] at g1
        have hf0 := hao.f0
        have := ih a.f.toNat (by rw [g1, Int.toNat_of_nonneg hf0])
        have hst := hs j a hj ha hsil
        have hn : a.t.toNat = n := by omega
        rw [hn] at hst
        have hp := (plus_spec (l.getD a.f.toNat 0) a.w hao.w0).1 this.1
        rw [hp] at hst
        have hl := (less_spec (l.getD n 0) (l.getD a.f.toNat 0 + a.w)).2.1 (by have := hao.w0; omega)
        rw [hst] at hl
        omega
      · exact h.psh j a hj ha hsil x n w he c hr
  exact fun n c hr => key c _ hr n rfl

/-- How many are told. -/
def told (l : List Int) : Nat := (l.filter fun x => decide (0 ≤ x)).length

/-- What may still be made less. -/
def pot : List Int → Nat
  | [] => 0
  | x :: l => (if x < 0 then 10000000000000000 else x.toNat) + pot l

end
end Go.Fw

namespace Go.Fw
open Go Go.Proofs

def bndC (i o : Int) : Int := 1000000000000 + 202000000000 * (i + o + 1)
def bndD (i o : Int) : Int := 1000000000000 + 202000000000 * (i + o) + 1000000000

def CellAt (F : TF) (u v first : List Int) (m3 : List (Addr × List Int × Nat)) (y : Sli) (i o : Nat) : Prop := Hd m3 y ∧ CellOk F u v (srcS F first) (bndC i o) i o (rowA m3 y.a)
def RowAt (F : TF) (u v first : List Int) (m3 : List (Addr × List Int × Nat)) (ys : List Sli) (i n : Nat) : Prop := ys.length = n ∧ ∀ o, o < n → CellAt F u v first m3 (ys.getD o EK.sli.dflt) i o
def TabAt (F : TF) (u v first : List Int) (m22 : List (Addr × List Sli × Nat)) (m3 : List (Addr × List Int × Nat)) (xs : List Sli) (n : Nat) : Prop :=
  xs.length = n ∧ ∀ i, i < n → Hd m22 (xs.getD i EK.sli.dflt) ∧ RowAt F u v first m3 (rowA m22 (xs.getD i EK.sli.dflt).a) i (v.length + 1)

theorem Hd.cons {α : Type} {m : List (Addr × List α × Nat)} {x : Sli} (h : Hd m x) {a : Addr} (ha : lkA m a = none) (z : List α × Nat) : Hd ((a, z) :: m) x ∧ rowA ((a, z) :: m) x.a = rowA m x.a := by
  cases hx : x.a with
  | none =>
    refine ⟨?_, rfl⟩
    unfold Hd at h ⊢
    rw [hx] at h ⊢
    exact h
  | some b =>
    obtain ⟨y, h1, h2, h3⟩ := h.some hx
    have hne : a ≠ b := fun e => by rw [e, h1] at ha; cases ha
    have hl : lkA ((a, z) :: m) b = Option.some y := by simp only [lkA, if_neg hne, h1]
    exact ⟨Hd.of_some hx hl h2 h3, by rw [rowA_some hl, rowA_some h1]⟩

section
variable {F : TF} {u v first : List Int} {m22 : List (Addr × List Sli × Nat)} {m3 : List (Addr × List Int × Nat)}

theorem CellAt.cons {y : Sli} {i o : Nat} (h : CellAt F u v first m3 y i o) {a : Addr} (ha : lkA m3 a = none) (z : List Int × Nat) : CellAt F u v first ((a, z) :: m3) y i o := by
  obtain ⟨h1, h2⟩ := h.1.cons ha z
  exact ⟨h1, by rw [h2]; exact h.2⟩

theorem RowAt.cons {ys : List Sli} {i n : Nat} (h : RowAt F u v first m3 ys i n) {a : Addr} (ha : lkA m3 a = none) (z : List Int × Nat) : RowAt F u v first ((a, z) :: m3) ys i n :=
  ⟨h.1, fun o ho => (h.2 o ho).cons ha z⟩

theorem TabAt.cons {xs : List Sli} {n : Nat} (h : TabAt F u v first m22 m3 xs n) {a : Addr} (ha : lkA m3 a = none) (z : List Int × Nat) : TabAt F u v first m22 ((a, z) :: m3) xs n :=
  ⟨h.1, fun i hi => ⟨(h.2 i hi).1, (h.2 i hi).2.cons ha z⟩⟩

theorem getD_snoc {α : Type} (l : List α) (x d : α) (n : Nat) : (l ++ [x]).getD n d = if n < l.length then l.getD n d else if n = l.length then x else d := by
  simp only [List.getD]
  by_cases h : n < l.length
  · rw [if_pos h, List.getElem?_append_left h]
  · rw [if_neg h, List.getElem?_append_right (by omega)]
    by_cases h2 : n = l.length
    · rw [if_pos h2]; subst h2; simp
    · rw [if_neg h2, List.getElem?_eq_none (by simp; omega)]; rfl

theorem RowAt.snoc {ys : List Sli} {i n : Nat} (h : RowAt F u v first m3 ys i n) {y : Sli} (hy : CellAt F u v first m3 y i n) : RowAt F u v first m3 (ys ++ [y]) i (n + 1) := by
  refine ⟨by simp [h.1], fun o ho => ?_⟩
  rw [getD_snoc]
  by_cases e : o < ys.length
  · rw [if_pos e]; exact h.2 o (by rw [h.1] at e; exact e)
  · have h1 := h.1
    rw [if_neg e, if_pos (by omega)]
    have : o = n := by omega
    subst this
    exact hy

theorem TabAt.snoc {xs : List Sli} {n : Nat} (h : TabAt F u v first m22 m3 xs n) {ys : List Sli} (hr : RowAt F u v first m3 ys n (v.length + 1)) {a : Addr} (ha : lkA m22 a = none) {sp cap : Nat} (hc : cap ≤ ys.length + sp) : TabAt F u v first ((a, ys, sp) :: m22) m3 (xs ++ [⟨some a, ys.length, cap⟩]) (n + 1) := by
  refine ⟨by simp [h.1], fun i hi => ?_⟩
  rw [getD_snoc]
  have h1 := h.1
  by_cases e : i < xs.length
  · rw [if_pos e]
    obtain ⟨g1, g2⟩ := h.2 i (by omega)
    obtain ⟨g3, g4⟩ := g1.cons ha (ys, sp)
    exact ⟨g3, by rw [g4]; exact g2⟩
  · rw [if_neg e, if_pos (by omega)]
    have : i = n := by omega
    subst this
    have hl : lkA ((a, ys, sp) :: m22) a = some (ys, sp) := by simp [lkA]
    exact ⟨Hd.of_some rfl hl rfl hc, by rw [rowA_some hl]; exact hr⟩
end

section
variable {F : TF} {u v : List Int} {S : Trip → Int → Prop}

/-- An arc that does not come here. -/
theorem CInv.pass (hF : FOk F) (hS : ∀ x c, S x c → InBox F u v x ∧ 0 ≤ c) {i o : Int} {k : Nat} {l : List Int} (h : CInv F u v S i o k l) {a : Arc} (ha : F.arcs[k]? = some a)
    (hno : a.i + a.o = 0 ∨ (0 < a.i ∧ i - 1 < 0) ∨ (0 < a.o ∧ o - 1 < 0) ∨ (0 < a.i ∧ u.getD (i - 1).toNat 0 ≠ a.i) ∨ (0 < a.o ∧ v.getD (o - 1).toNat 0 ≠ a.o)) : CInv F u v S i o (k + 1) l := by
  refine h.next fun b hb hsil x n w he c hr => ?_
  rw [ha] at hb
  cases hb
  have hao := hF.arc a (List.mem_of_getElem? ha)
  exfalso
  obtain ⟨g1, g2, g3, g4, g5⟩ := he.back ha hao.i0.1 hao.o0.1
  obtain ⟨⟨_, b1, b2⟩, _⟩ := hr.box hF hS
  subst g1
  rcases hno with q | ⟨q, q2⟩ | ⟨q, q2⟩ | ⟨q, q2⟩ | ⟨q, q2⟩
  · exact hsil q
  · simp only [if_pos q] at b1; omega
  · simp only [if_pos q] at b2; omega
  · have := (g4 q).2; simp only [if_pos q] at this; exact q2 this
  · have := (g5 q).2; simp only [if_pos q] at this; exact q2 this

/-- An arc that comes here. -/
theorem CInv.push (hF : FOk F) {i o : Int} {k : Nat} {l cl : List Int} {B : Int} (h : CInv F u v S i o k l) {a : Arc} (ha : F.arcs[k]? = some a)
    (h1 : 0 < a.i → i - 1 < u.length ∧ u.getD (i - 1).toNat 0 = a.i) (h2 : 0 < a.o → o - 1 < v.length ∧ v.getD (o - 1).toNat 0 = a.o)
    (hcl : CellOk F u v S B (if 0 < a.i then i - 1 else i) (if 0 < a.o then o - 1 else o) cl) :
    CInv F u v S i o (k + 1) (l.set a.t.toNat (less (l.getD a.t.toNat 0) (plus (cl.getD a.f.toNat 0) a.w))) := by
  have hao := hF.arc a (List.mem_of_getElem? ha)
  have hf0 := hao.f0
  have hf1 := hao.f1
  have ht0 := hao.t0
  have ht1 := hao.t1
  have hw0 := hao.w0
  have hsp := less_spec (l.getD a.t.toNat 0) (plus (cl.getD a.f.toNat 0) a.w)
  have hpl := plus_spec (cl.getD a.f.toNat 0) a.w hw0
  have hlen := h.len
  refine (h.relax (by omega) hsp.1 (fun hp => ?_)).next fun b hb hsil x n w he c hr => ?_
  · by_cases hl : 0 ≤ l.getD a.t.toNat 0 ∧ less (l.getD a.t.toNat 0) (plus (cl.getD a.f.toNat 0) a.w) = l.getD a.t.toNat 0
    · rw [hl.2]; exact h.snd _ (by omega) hl.1
    · have e : less (l.getD a.t.toNat 0) (plus (cl.getD a.f.toNat 0) a.w) = plus (cl.getD a.f.toNat 0) a.w := by
        rcases hsp.2.2 with e | e
        · exact absurd ⟨by rw [e] at hp; exact hp, e⟩ hl
        · exact e
      rw [e] at hp ⊢
      have hfr : 0 ≤ cl.getD a.f.toNat 0 := by
        by_cases q : 0 ≤ cl.getD a.f.toNat 0
        · exact q
        · rw [hpl.2 (by omega)] at hp; omega
      rw [hpl.1 hfr]
      have hr := hcl.snd a.f.toNat (by omega) hfr
      rw [Int.toNat_of_nonneg hf0] at hr
      rw [Int.toNat_of_nonneg ht0]
      exact .on hr (Edge.make ha hao.i0.1 hao.o0.1 h1 h2)
  · rw [ha] at hb
    cases hb
    obtain ⟨g1, g2, g3, _, _⟩ := he.back ha hao.i0.1 hao.o0.1
    have hn : n = a.t.toNat := by omega
    subst hn
    rw [getD_setC _ _ _ _ (by omega), if_pos rfl]
    subst g1
    have := hcl.cpl a.f.toNat c (by rw [Int.toNat_of_nonneg hf0]; exact hr)
    have hp := hpl.1 this.1
    have := hsp.2.1 (by omega)
    omega
end

theorem CellOk.weak {F : TF} {u v : List Int} {S : Trip → Int → Prop} {B B' i o : Int} {l : List Int} (h : CellOk F u v S B i o l) (hB : B ≤ B') : CellOk F u v S B' i o l :=
  ⟨h.len, fun x hx => ⟨(h.bd x hx).1, Int.le_trans (h.bd x hx).2 hB⟩, h.snd, h.cpl⟩

theorem Still.next {F : TF} {k : Nat} {l : List Int} (h : Still F k l) (hk : ∀ a, F.arcs[k]? = some a → a.i + a.o = 0 → less (l.getD a.t.toNat 0) (plus (l.getD a.f.toNat 0) a.w) = l.getD a.t.toNat 0) : Still F (k + 1) l := by
  intro j a hj ha hs
  by_cases e : j = k
  · subst e; exact hk a ha hs
  · exact h j a (by omega) ha hs

abbrev hpK (F : TF) (first u v : List Int) (xs : List Sli) (sp : Nat) (m22 : List (Addr × List Sli × Nat)) (m3 : List (Addr × List Int × Nat)) : List (Nat × SO) :=
  [(5, .box 25 (fCells F)), (6, .arr true 75 .sli xs sp), (7, .pool 22 .sli m22), (8, .pool 3 .int m3), (0, .arr false 3 .int F.fin 0), (1, .arr false 47 .arc F.arcs 0), (2, .arr false 3 .int first 0), (3, .arr false 3 .int u 0), (4, .arr false 3 .int v 0)]

def initC (first : List Int) (i o m : Nat) : Int := if i = 0 ∧ o = 0 then first.getD m 0 else -1

end Go.Fw

namespace Go.Fw
open Go Go.Proofs

/-- What it costs at least to end. -/
def endG (l fin : List Int) : Nat → Int
  | 0 => -1
  | k + 1 => less (endG l fin k) (plus (l.getD k 0) (fin.getD k 0))

end Go.Fw

namespace Go.Fw
open Go Go.Proofs

end Go.Fw

namespace Go.Fw
open Go Go.Proofs

end Go.Fw

/-
  Sorting a range in place, in the plain: swaps, rotation, merging; whatever the elements, by an order.
-/
namespace Go.Fw
open Go

section
variable {α : Type} {d : α}

/-- ys came of xs by moves inside the places from a on, below b. -/
structure Mv (d : α) (a b : Nat) (xs ys : List α) : Prop where
  len : ys.length = xs.length
  perm : ys.Perm xs
  out : ∀ k, k < a ∨ b ≤ k → ys.getD k d = xs.getD k d
  ins : ∀ k, a ≤ k → k < b → ∃ k', a ≤ k' ∧ k' < b ∧ ys.getD k d = xs.getD k' d

theorem Mv.refl (a b : Nat) (xs : List α) : Mv d a b xs xs := ⟨rfl, .refl _, fun _ _ => rfl, fun k h1 h2 => ⟨k, h1, h2, rfl⟩⟩

theorem Mv.trans {a b : Nat} {xs ys zs : List α} (h : Mv d a b xs ys) (h' : Mv d a b ys zs) : Mv d a b xs zs where
  len := h'.len.trans h.len
  perm := h'.perm.trans h.perm
  out := fun k hk => (h'.out k hk).trans (h.out k hk)
  ins := fun k h1 h2 => by
    obtain ⟨k', g1, g2, g3⟩ := h'.ins k h1 h2
    obtain ⟨k'', f1, f2, f3⟩ := h.ins k' g1 g2
    exact ⟨k'', f1, f2, g3.trans f3⟩

theorem Mv.wide {a b a' b' : Nat} {xs ys : List α} (h : Mv d a b xs ys) (ha : a' ≤ a) (hb : b ≤ b') : Mv d a' b' xs ys where
  len := h.len
  perm := h.perm
  out := fun k hk => h.out k (by omega)
  ins := fun k h1 h2 => by
    by_cases hk : a ≤ k ∧ k < b
    · obtain ⟨k', g1, g2, g3⟩ := h.ins k hk.1 hk.2
      exact ⟨k', by omega, by omega, g3⟩
    · exact ⟨k, h1, h2, h.out k (by omega)⟩

/-- Two elements change places. -/
def swapL (d : α) (xs : List α) (i j : Nat) : List α := (xs.set i (xs.getD j d)).set j (xs.getD i d)

theorem swapL_len (xs : List α) (i j : Nat) : (swapL d xs i j).length = xs.length := by simp [swapL]

theorem getD_set' {β : Type} (c : List β) (i v : Nat) (x d : β) : (c.set i x).getD v d = if i = v ∧ v < c.length then x else c.getD v d := by
  by_cases h : i = v
  · subst h
    by_cases h2 : i < c.length
    · simp [List.getD, h2]
    · simp [List.getD, h2]
  · simp [List.getD, List.getElem?_set_ne h, h]

theorem swapL_getD {xs : List α} {i j : Nat} (hi : i < xs.length) (hj : j < xs.length) (k : Nat) : (swapL d xs i j).getD k d = if k = j then xs.getD i d else if k = i then xs.getD j d else xs.getD k d := by
  unfold swapL
  rw [getD_set', getD_set', List.length_set]
  by_cases h1 : k = j
  · subst h1
    rw [if_pos ⟨rfl, hj⟩, if_pos rfl]
  · rw [if_neg (fun c => h1 c.1.symm), if_neg h1]
    by_cases h2 : k = i
    · subst h2
      rw [if_pos ⟨rfl, hi⟩, if_pos rfl]
    · rw [if_neg (fun c => h2 c.1.symm), if_neg h2]

theorem swapL_mv {xs : List α} {a b i j : Nat} (hi : a ≤ i ∧ i < b) (hj : a ≤ j ∧ j < b) (hb : b ≤ xs.length) : Mv d a b xs (swapL d xs i j) where
  len := swapL_len xs i j
  perm := by
    have e1 : xs.getD j d = xs[j]'(by omega) := by simp [List.getD, show j < xs.length by omega]
    have e2 : xs.getD i d = xs[i]'(by omega) := by simp [List.getD, show i < xs.length by omega]
    unfold swapL
    rw [e1, e2]
    exact List.set_set_perm (by omega) (by omega)
  out := fun k hk => by rw [swapL_getD (by omega) (by omega), if_neg (by omega), if_neg (by omega)]
  ins := fun k h1 h2 => by
    rw [swapL_getD (by omega) (by omega)]
    by_cases e : k = j
    · exact ⟨i, hi.1, hi.2, by rw [if_pos e]⟩
    · by_cases e' : k = i
      · exact ⟨j, hj.1, hj.2, by rw [if_neg e, if_pos e']⟩
      · exact ⟨k, h1, h2, by rw [if_neg e, if_neg e']⟩

/-- An order: one stands ahead of another one. -/
structure LtOk (lt : α → α → Bool) : Prop where
  asym : ∀ x y, lt x y = true → lt y x = false
  trans : ∀ x y z, lt y x = false → lt z y = false → lt z x = false

variable {lt : α → α → Bool}

/-- In order, from a on, below b. -/
def SrtOn (d : α) (lt : α → α → Bool) (a b : Nat) (xs : List α) : Prop := ∀ i j, a ≤ i → i < j → j < b → lt (xs.getD j d) (xs.getD i d) = false

theorem SrtOn.cong {a b : Nat} {xs ys : List α} (h : SrtOn d lt a b xs) (he : ∀ k, a ≤ k → k < b → ys.getD k d = xs.getD k d) : SrtOn d lt a b ys := by
  intro i j h1 h2 h3
  rw [he i h1 (by omega), he j (by omega) h3]
  exact h i j h1 h2 h3

theorem SrtOn.one {a b : Nat} {xs : List α} (h : b ≤ a + 1) : SrtOn d lt a b xs := fun i j h1 h2 h3 => by omega

theorem LtOk.irr (h : LtOk lt) (x : α) : lt x x = false := by
  cases e : lt x x with
  | false => rfl
  | true => have := h.asym x x e; rw [e] at this; cases this

theorem SrtOn.le (hlt : LtOk lt) {a b : Nat} {xs : List α} (h : SrtOn d lt a b xs) {i j : Nat} (h1 : a ≤ i) (h2 : i ≤ j) (h3 : j < b) : lt (xs.getD j d) (xs.getD i d) = false := by
  by_cases e : i = j
  · subst e; exact hlt.irr _
  · exact h i j h1 (by omega) h3

/-! ### Insertion -/
/-- In order but for the one at j, which goes back. -/
def InsOn (d : α) (lt : α → α → Bool) (a i j : Nat) (xs : List α) : Prop := ∀ p q, a ≤ p → p < q → q ≤ i → q ≠ j → lt (xs.getD q d) (xs.getD p d) = false

theorem InsOn.start {a i : Nat} {xs : List α} (h : SrtOn d lt a i xs) : InsOn d lt a i i xs := fun p q h1 h2 h3 h4 => h p q h1 h2 (by omega)

theorem InsOn.step (hlt : LtOk lt) {a i j : Nat} {xs : List α} (h : InsOn d lt a i j xs) (hj : a < j) (hji : j ≤ i) (hi : i < xs.length) (hx : lt (xs.getD j d) (xs.getD (j - 1) d) = true) : InsOn d lt a i (j - 1) (swapL d xs j (j - 1)) := by
  intro p q h1 h2 h3 h4
  have hg := swapL_getD (d := d) (xs := xs) (i := j) (j := j - 1) (by omega) (by omega)
  rw [hg, hg, if_neg h4]
  by_cases e : q = j
  · subst e
    rw [if_pos rfl]
    by_cases e2 : p = q - 1
    · rw [if_pos e2]; exact hlt.asym _ _ hx
    · rw [if_neg e2, if_neg (by omega)]; exact h p (q - 1) h1 (by omega) (by omega) (by omega)
  · rw [if_neg e]
    by_cases e2 : p = j - 1
    · rw [if_pos e2]; exact h j q (by omega) (by omega) h3 e
    · rw [if_neg e2]
      by_cases e3 : p = j
      · rw [if_pos e3]; exact h (j - 1) q (by omega) (by omega) h3 e
      · rw [if_neg e3]; exact h p q h1 h2 h3 e

theorem InsOn.done (hlt : LtOk lt) {a i j : Nat} {xs : List α} (h : InsOn d lt a i j xs) (hji : j ≤ i) (hx : j ≤ a ∨ lt (xs.getD j d) (xs.getD (j - 1) d) = false) : SrtOn d lt a (i + 1) xs := by
  intro p q h1 h2 h3
  by_cases e : q = j
  · subst e
    rcases hx with hx | hx
    · omega
    · by_cases e2 : p = q - 1
      · rw [e2]; exact hx
      · exact hlt.trans _ _ _ (h p (q - 1) h1 (by omega) (by omega) (by omega)) hx
  · exact h p q h1 h2 (by omega) e

/-! ### Blocks change places -/
/-- The first k of two blocks of the places from a on and from b on have changed places. -/
def SwOn (d : α) (a b k : Nat) (xs ys : List α) : Prop := ∀ p, ys.getD p d = if a ≤ p ∧ p < a + k then xs.getD (p - a + b) d else if b ≤ p ∧ p < b + k then xs.getD (p - b + a) d else xs.getD p d

theorem SwOn.zero (a b : Nat) (xs : List α) : SwOn d a b 0 xs xs := fun p => by rw [if_neg (by omega), if_neg (by omega)]

theorem SwOn.step {a b k n : Nat} {xs ys : List α} (h : SwOn d a b k xs ys) (hl : ys.length = xs.length) (hk : k < n) (hab : a + n ≤ b) (hb : b + n ≤ xs.length) : SwOn d a b (k + 1) xs (swapL d ys (a + k) (b + k)) := by
  intro p
  rw [swapL_getD (by omega) (by omega)]
  have h1 := h p
  have h2 := h (a + k)
  have h3 := h (b + k)
  rw [if_neg (by omega), if_neg (by omega)] at h2 h3
  by_cases e1 : p = b + k
  · subst e1
    rw [if_pos rfl, if_neg (by omega), if_pos (by omega), h2]
    congr 1; omega
  · rw [if_neg e1]
    by_cases e2 : p = a + k
    · subst e2
      rw [if_pos rfl, if_pos (by omega), h3]
      congr 1; omega
    · rw [if_neg e2, h1]
      by_cases e3 : a ≤ p ∧ p < a + k
      · rw [if_pos e3, if_pos (by omega)]
      · by_cases e4 : b ≤ p ∧ p < b + k
        · rw [if_neg e3, if_pos e4, if_neg (by omega), if_pos (by omega)]
        · rw [if_neg e3, if_neg e4, if_neg (by omega), if_neg (by omega)]

/-! ### Rotation -/
/-- What lay from a on, below m, and what lay from m on, below b, have changed places. -/
def RotOn (d : α) (a m b : Nat) (xs ys : List α) : Prop := ∀ p, ys.getD p d = if a ≤ p ∧ p < a + (b - m) then xs.getD (p - a + m) d else if a + (b - m) ≤ p ∧ p < b then xs.getD (p - (b - m)) d else xs.getD p d

/-- What is left to do. -/
theorem RotOn.left {a m b i j : Nat} {xs ys zs : List α} (h : ∀ us, RotOn d (m - i) m (m + j) ys us → RotOn d a m b xs us) (hij : j < i) (him : i ≤ m) (hs : SwOn d (m - i) m j ys zs) : ∀ us, RotOn d (m - (i - j)) m (m + j) zs us → RotOn d a m b xs us := by
  intro us hu
  refine h us fun p => ?_
  rw [hu p]
  have h1 := hs p
  have h2 := hs (p - (m - (i - j)) + m)
  have h3 := hs (p - (m + j - m))
  by_cases c1 : m - i ≤ p ∧ p < m - i + j
  · rw [if_neg (by omega), if_neg (by omega), h1, if_pos c1, if_pos (by omega)]
  · by_cases c2 : m - (i - j) ≤ p ∧ p < m - (i - j) + j
    · rw [if_pos (by omega), h2, if_neg (by omega), if_pos (by omega), if_neg (by omega), if_pos (by omega)]
      congr 1; omega
    · by_cases c3 : m - (i - j) + j ≤ p ∧ p < m + j
      · rw [if_neg (by omega), if_pos (by omega), h3, if_neg (by omega), if_neg (by omega), if_neg (by omega), if_pos (by omega)]
      · rw [if_neg (by omega), if_neg (by omega), h1, if_neg (by omega), if_neg (by omega), if_neg (by omega), if_neg (by omega)]

theorem RotOn.right {a m b i j : Nat} {xs ys zs : List α} (h : ∀ us, RotOn d (m - i) m (m + j) ys us → RotOn d a m b xs us) (hij : i < j) (him : i ≤ m) (hs : SwOn d (m - i) (m + j - i) i ys zs) : ∀ us, RotOn d (m - i) m (m + (j - i)) zs us → RotOn d a m b xs us := by
  intro us hu
  refine h us fun p => ?_
  rw [hu p]
  have h1 := hs p
  have h2 := hs (p - (m - i) + m)
  have h3 := hs (p - (m + (j - i) - m))
  by_cases c1 : m - i ≤ p ∧ p < m - i + (j - i)
  · rw [if_pos (by omega), h2, if_neg (by omega), if_neg (by omega), if_pos (by omega)]
  · by_cases c2 : m - i + (j - i) ≤ p ∧ p < m + (j - i)
    · rw [if_neg (by omega), if_pos (by omega), h3, if_pos (by omega), if_pos (by omega)]
      congr 1; omega
    · by_cases c3 : m + (j - i) ≤ p ∧ p < m + j
      · rw [if_neg (by omega), if_neg (by omega), h1, if_neg (by omega), if_pos (by omega), if_neg (by omega), if_pos (by omega)]
        congr 1; omega
      · rw [if_neg (by omega), if_neg (by omega), h1, if_neg (by omega), if_neg (by omega), if_neg (by omega), if_neg (by omega)]

theorem RotOn.last {m i : Nat} {ys zs : List α} (him : i ≤ m) (hs : SwOn d (m - i) m i ys zs) : RotOn d (m - i) m (m + i) ys zs := by
  intro p
  rw [hs p]
  by_cases c1 : m - i ≤ p ∧ p < m - i + i
  · rw [if_pos c1, if_pos (by omega)]
  · by_cases c2 : m ≤ p ∧ p < m + i
    · rw [if_neg c1, if_pos c2, if_neg (by omega), if_pos (by omega)]
      congr 1; omega
    · rw [if_neg c1, if_neg c2, if_neg (by omega), if_neg (by omega)]

end
end Go.Fw
