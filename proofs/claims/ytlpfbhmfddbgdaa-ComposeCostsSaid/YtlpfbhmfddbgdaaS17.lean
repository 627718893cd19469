/- Walks of the functions: what each computes. -/
import Derived.Test.YtlpfbhmfddbgdaaS16
import Derived.Test.YtlpfbhmfddbgdaaS14
import Derived.Test.YtlpfbhmfddbgdaaS13

set_option linter.unusedSimpArgs false
set_option linter.unusedVariables false

namespace Go.Fw
open Go Go.Proofs

/-- What is wrong with what is handed to Compose. -/
def composeE (F G : TF) : Int := if allE F G ≠ 0 then allE F G else if 12 < F.st ∨ 100 < (F.arcs.length : Int) ∨ 12 < G.st ∨ 100 < (G.arcs.length : Int) then 2 else 0

abbrev c25F (F : TF) : List SC := [.i F.st, .i F.start, .sl 0 1 0 F.fin.length F.capF, .sl 1 5 0 F.arcs.length F.capA]
abbrev c25G (F : TF) : List SC := [.i F.st, .i F.start, .sl 2 1 0 F.fin.length F.capF, .sl 3 5 0 F.arcs.length F.capA]
abbrev zero25 : List SC := [.i 0, .i 0, .v (.slice none 0 0), .v (.slice none 0 0)]

set_option maxHeartbeats 4000000 in
set_option maxRecDepth 20000 in
theorem compose_no (F G : TF) (hF : F.fin.length ≤ 9223372036854775807) (hG : G.fin.length ≤ 9223372036854775807) (h : composeE F G ≠ 0) : Ct Try.prog 46 [fV F, gV G] [] (hpG F G) 4 (Is 4 (noT (composeE F G))) := by
  refine ctW Try.tyOk 12 [22, 23, 24] Try.func46 rfl (by simp [SV.lt, SA.lt, SC.lt, fV, gV]) (by simp) (fr := [(0, fV F), (1, gV G)]) rfl ?_
  repeat' (first | exact rfl | ((conv => whnf); first | ((first | refine qA (fun h => ?_) fun h => ?_ | refine qN (fun h => ?_) fun h => ?_ | refine qB (fun h => ?_) fun h => ?_ | refine qC (fun h => ?_) fun h => ?_) <;> try exact absurd h (by omega)) | refine qM (fun h => ?_) fun h => ?_ | refine oM (by (first | omega | (simp only [lenS, InI, nmin, EK.sz]; omega) | (simp only [lenS, InI, nmin, EK.sz] at *; omega))) ?_ | refine oM ?_ ?_ | refine bM ?_ ?_ | refine draw_of Try.mixed Try.tyOk 60 (by kernel_rfl) ?_))
  (conv => whnf)
  refine callF (all2_c F G hF hG) [0, 1, 2, 3, 7] Try.call87 rfl (by simp [eqLs, eqL, eqO, eqC, eqCs, rn, renOf, look_cons, look, EK.cast, gV, two, appN]) (by simp [appN, ptrs, eqVL, eqV, eqA, eqC, eqCs, eqAs, eqCaps, EK.sz, rn, renOf, look_cons, look, arcV, fV, gV, two, appN]) (by simp [appN, ptrs, SV.lt, SA.lt, SC.lt, arcV, fV, lenN]) ?_
  rintro _ _ ⟨rfl, rfl⟩
  unfold composeE at h ⊢
  by_cases ha : allE F G = 0
  · rw [if_neg (fun c => c ha)] at h ⊢
    rw [ha]
    have hh : 12 < F.st ∨ 100 < (F.arcs.length : Int) ∨ 12 < G.st ∨ 100 < (G.arcs.length : Int) := by
      by_cases q : 12 < F.st ∨ 100 < (F.arcs.length : Int) ∨ 12 < G.st ∨ 100 < (G.arcs.length : Int)
      · exact q
      · rw [if_neg q] at h; exact absurd rfl h
    rw [if_pos hh]
    repeat' (first | exact rfl | ((conv => whnf); first | ((first | refine qA (fun h => ?_) fun h => ?_ | refine qN (fun h => ?_) fun h => ?_ | refine qB (fun h => ?_) fun h => ?_ | refine qC (fun h => ?_) fun h => ?_) <;> try exact absurd h (by omega)) | refine qM (fun h => ?_) fun h => ?_ | refine oM (by (first | omega | (simp only [lenS, InI, nmin, EK.sz]; omega) | (simp only [lenS, InI, nmin, EK.sz] at *; omega))) ?_ | refine oM ?_ ?_ | refine bM ?_ ?_ | refine draw_of Try.mixed Try.tyOk 60 (by kernel_rfl) ?_))
    (conv => whnf)
    refine loopI (fun k : Nat => ⟨[(2, .c (.ptr 4 0)), (3, .c (.ptr 5 0)), (4, .c (.ptr 6 0)), (22, .c (.sl 8 4 0 2 2)), (23, .i 2), (24, .i k)], hpG F G ++ [(6, .box 25 zero25), (8, .box 25 (two F G))], 9⟩)
      (fun k => k ≤ 2 ∧ (1 ≤ k → ¬ 12 < F.st ∧ ¬ 100 < (F.arcs.length : Int)) ∧ (2 ≤ k → ¬ 12 < G.st ∧ ¬ 100 < (G.arcs.length : Int))) (fun k => 2 - k) 0 [] ⟨by rfl, ?_, ?_⟩ ⟨by omega, by omega, by omega⟩ ?_
    · simp [eqFr, eqHp, eqV, eqA, eqC, eqO, eqCs, eqAs, look_cons, look, rn, EK.cast, EK.sz, eqCaps]
    · simp [eqFr, eqHp, eqV, eqA, eqC, eqO, eqCs, eqAs, look_cons, look, rn, EK.cast, EK.sz, eqCaps, two, appN]
    · rintro k ⟨hk, h1, h2⟩
      rcases (by omega : k = 0 ∨ k = 1 ∨ k = 2) with rfl | rfl | rfl
      · repeat' (first | exact rfl | ((conv => whnf); first | ((first | refine qA (fun h => ?_) fun h => ?_ | refine qN (fun h => ?_) fun h => ?_ | refine qB (fun h => ?_) fun h => ?_ | refine qC (fun h => ?_) fun h => ?_) <;> try exact absurd h (by omega)) | refine qM (fun h => ?_) fun h => ?_ | refine oM (by (first | omega | (simp only [lenS, InI, nmin, EK.sz]; omega) | (simp only [lenS, InI, nmin, EK.sz] at *; omega))) ?_ | refine oM ?_ ?_ | refine bM ?_ ?_ | refine draw_of Try.mixed Try.tyOk 60 (by kernel_rfl) ?_))
        all_goals (conv => whnf)
        all_goals first
          | (refine Back.is ?_
             simp [eqV, eqA, eqAs, eqC, eqCs]; done)
          | (refine ⟨1, [], ⟨by rfl, ?_, ?_⟩, ⟨by omega, fun _ => ⟨by omega, by omega⟩, fun _ => absurd ‹_› (by omega)⟩, by omega⟩
             · simp [eqFr, eqHp, eqV, eqA, eqC, eqO, eqCs, eqAs, look_cons, look, rn, EK.cast, EK.sz, eqCaps]
             · simp [eqFr, eqHp, eqV, eqA, eqC, eqO, eqCs, eqAs, look_cons, look, rn, EK.cast, EK.sz, eqCaps])
      · have g1 := h1 (by omega)
        repeat' (first | exact rfl | ((conv => whnf); first | ((first | refine qA (fun h => ?_) fun h => ?_ | refine qN (fun h => ?_) fun h => ?_ | refine qB (fun h => ?_) fun h => ?_ | refine qC (fun h => ?_) fun h => ?_) <;> try exact absurd h (by omega)) | refine qM (fun h => ?_) fun h => ?_ | refine oM (by (first | omega | (simp only [lenS, InI, nmin, EK.sz]; omega) | (simp only [lenS, InI, nmin, EK.sz] at *; omega))) ?_ | refine oM ?_ ?_ | refine bM ?_ ?_ | refine draw_of Try.mixed Try.tyOk 60 (by kernel_rfl) ?_))
        all_goals (conv => whnf)
        all_goals first
          | (refine Back.is ?_
             simp [eqV, eqA, eqAs, eqC, eqCs]; done)
          | (refine ⟨2, [], ⟨by rfl, ?_, ?_⟩, ⟨by omega, fun _ => g1, fun _ => ⟨by omega, by omega⟩⟩, by omega⟩
             · simp [eqFr, eqHp, eqV, eqA, eqC, eqO, eqCs, eqAs, look_cons, look, rn, EK.cast, EK.sz, eqCaps]
             · simp [eqFr, eqHp, eqV, eqA, eqC, eqO, eqCs, eqAs, look_cons, look, rn, EK.cast, EK.sz, eqCaps])
      · have g1 := h1 (by omega)
        have g2 := h2 (by omega)
        omega
  · rw [if_pos ha]
    repeat' (first | exact rfl | ((conv => whnf); first | ((first | refine qA (fun h => ?_) fun h => ?_ | refine qN (fun h => ?_) fun h => ?_ | refine qB (fun h => ?_) fun h => ?_ | refine qC (fun h => ?_) fun h => ?_) <;> try exact absurd h (by omega)) | refine qM (fun h => ?_) fun h => ?_ | refine oM (by (first | omega | (simp only [lenS, InI, nmin, EK.sz]; omega) | (simp only [lenS, InI, nmin, EK.sz] at *; omega))) ?_ | refine oM ?_ ?_ | refine bM ?_ ?_ | refine draw_of Try.mixed Try.tyOk 60 (by kernel_rfl) ?_))
    (conv => whnf)
    refine Back.is ?_
    simp [eqV, eqA, eqAs, eqC, eqCs]

/-- The composer with any ids. -/
abbrev cD (F G : TF) (im il lo nl cl jf nf cf ir nr cr : Nat) (g : Bool) : List SC := [.i F.st, .i F.start, .sl 0 1 0 F.fin.length F.capF, .sl 1 5 0 F.arcs.length F.capA, .i G.st, .i G.start, .sl 2 1 0 G.fin.length G.capF, .sl 3 5 0 G.arcs.length G.capA, .mp im, .sl il 3 lo nl cl, .i 0, .i 0, .sl jf 1 0 nf cf, .sl ir 5 0 nr cr, .b g]

/-- What is composed, before it is trimmed. -/
def F0 (F G : TF) (ps : List Trip) (zs : List Arc) : TF := ⟨(ps.length : Nat), 0, ps.map (finP F G), zs, 0, 0⟩

/-- What Compose answers. -/
def ComPost (F G : TF) (n : Nat) (v : SV) (s : S) : Prop := ∃ (x : CS) (zs : List Arc), CDone F G x.1.length x ∧ IsNorm x.2.1 zs ∧
  ((v = noT 2 ∧ s = ⟨[], [], n⟩ ∧ (x.2.2 = true ∨ ∃ p, UsOk (F0 F G x.1 zs) p ∧ (200 < (kT (F0 F G x.1 zs) p).st ∨ 3000 < (kT (F0 F G x.1 zs) p).arcs.length))) ∨
  (x.2.2 = false ∧ ∃ p, UsOk (F0 F G x.1 zs) p ∧ (kT (F0 F G x.1 zs) p).st ≤ 200 ∧ (kT (F0 F G x.1 zs) p).arcs.length ≤ 3000 ∧ ∃ sp sq, v = .tup [.agg [.i (kT (F0 F G x.1 zs) p).st, .i (kT (F0 F G x.1 zs) p).start, .sl n 1 0 (kT (F0 F G x.1 zs) p).fin.length ((kT (F0 F G x.1 zs) p).fin.length + sp), .sl (n + 1) 5 0 (kT (F0 F G x.1 zs) p).arcs.length ((kT (F0 F G x.1 zs) p).arcs.length + sq)], .c (.i 0)] ∧
    s = ⟨[], [(n, .arr true 3 .int (kT (F0 F G x.1 zs) p).fin sp), (n + 1, .arr true 47 .arc (kT (F0 F G x.1 zs) p).arcs sq)], n + 2⟩))

theorem LeftOk.head {L : List Trip} {lo cl sp : Nat} {ls l : List Trip} {p d : Trip} (h : LeftOk L lo cl sp ls) (hd : ls = p :: l) : L.getD (lo + 0) d = p := by
  have h1 := h.is
  have h2 := h.le
  subst hd
  have h3 : (sub L lo (p :: l).length)[0]? = some p := by rw [h1]; rfl
  unfold sub at h3
  rw [List.getElem?_take_of_lt (by simp), List.getElem?_drop] at h3
  rw [Nat.add_zero] at h3
  simp [List.getD, h3]
theorem LeftOk.tail {L : List Trip} {lo cl sp : Nat} {ls l : List Trip} {p : Trip} (h : LeftOk L lo cl sp ls) (hd : ls = p :: l) : LeftOk L (lo + 1) (cl - 1) sp l := by
  have h1 := h.is
  have h2 := h.le
  have h3 := h.cp
  have h4 := h.ca
  subst hd
  simp only [List.length_cons] at h2 h3
  refine ⟨?_, by omega, by omega, by omega⟩
  unfold sub at h1 ⊢
  rw [List.drop_eq_getElem_cons (show lo < L.length by omega), List.length_cons, List.take_succ_cons] at h1
  exact (List.cons.inj h1).2
theorem LeftOk.gone {L : List Trip} {lo cl sp : Nat} {ls : List Trip} (h : LeftOk L lo cl sp ls) (n : Nat) (hn : n ≤ cl) : LeftOk L lo n sp [] := by
  have h1 := h.le
  have h4 := h.ca
  exact ⟨by simp [sub], by simp; omega, by simp, by omega⟩

/-- How many steps a pair has. -/
theorem steps_most {F G : TF} (hF : FOk F) (hG : FOk G) (l2 : (F.arcs.length : Int) ≤ 100) (l4 : (G.arcs.length : Int) ≤ 100) {p : Trip} (hp : PRng F G p) : (steps F G p).length ≤ 10200 := by
  have h := steps_len F G p hp.a0 hp.b0
  have hd : ∀ (l : List Arc) (n : Nat), degA l n ≤ l.length := fun l n => by
    unfold degA
    induction l with
    | nil => exact Nat.le_refl _
    | cons x l ih => simp only [sumF, List.length_cons]; split <;> omega
  have h1 := hd F.arcs p.a.toNat
  have h2 := hd G.arcs p.b.toNat
  have h3 := Nat.mul_le_mul (show degA F.arcs p.a.toNat ≤ 100 by omega) (show degA G.arcs p.b.toNat ≤ 100 by omega)
  omega

theorem CDone.frng {F G : TF} {ps : List Trip} {raw zs : List Arc} {g : Bool} (h : CDone F G ps.length (ps, raw, g)) (hn : IsNorm raw zs) (h1 : ps.length ≤ 100000) (h2 : zs.length ≤ 100000) (cf ca : Nat) : FRng ⟨(ps.length : Nat), 0, ps.map (finP F G), zs, cf, ca⟩ := by
  refine ⟨⟨by simp only; omega, by simp only; omega⟩, by simp, h2, fun a ha => ?_⟩
  have hr := h.raw
  have hc := h.cl
  simp only [List.take_length] at hr hc
  have ha := hn.sub a ha
  rw [hr] at ha
  obtain ⟨p, hp, ha⟩ := List.mem_flatMap.1 ha
  obtain ⟨s, hs, rfl⟩ := List.mem_map.1 ha
  have q1 := List.idxOf_lt_length_iff.2 hp
  have q2 := List.idxOf_lt_length_iff.2 (hc p hp s hs)
  simp only
  omega

set_option maxHeartbeats 16000000 in
set_option maxRecDepth 20000 in
theorem compose_ok (F G : TF) (hF : F.fin.length ≤ 9223372036854775807) (hG : G.fin.length ≤ 9223372036854775807) (h : composeE F G = 0) : Ct Try.prog 46 [fV F, gV G] [] (hpG F G) 4 (ComPost F G 4) := by
  have ha : allE F G = 0 := by
    unfold composeE at h
    by_cases q : allE F G = 0
    · exact q
    · rw [if_pos q] at h; exact h
  have hlim : F.st ≤ 12 ∧ (F.arcs.length : Int) ≤ 100 ∧ G.st ≤ 12 ∧ (G.arcs.length : Int) ≤ 100 := by
    unfold composeE at h
    rw [if_neg (fun c => c ha)] at h
    by_cases q : 12 < F.st ∨ 100 < (F.arcs.length : Int) ∨ 12 < G.st ∨ 100 < (G.arcs.length : Int)
    · rw [if_pos q] at h; cases h
    · omega
  obtain ⟨l1, l2, l3, l4⟩ := hlim
  have oF := fstE_ok (allE_ok ha).1
  have oG := fstE_ok (allE_ok ha).2
  refine ctC Try.tyOk Try.func46 rfl (by simp [SV.lt, SA.lt, SC.lt, fV, gV]) (by simp) (fr := [(0, fV F), (1, gV G)]) rfl ?_
  refine SemC.cut Try.tyOk 12 [22, 23, 24] (fun _ : Unit => ⟨[(2, .c (.ptr 4 0)), (3, .c (.ptr 5 0)), (4, .c (.ptr 6 0)), (9, .c (.ptr 8 0))],
    hpG F G ++ [(4, .box 25 (c25F F)), (5, .box 25 (c25G G)), (6, .box 25 zero25), (8, .box 107 (cD F G 9 10 0 0 0 11 0 0 12 0 0 false)), (9, .map .trip .int [] 0), (10, .arr true 110 .trip [] 0), (11, .arr true 3 .int [] 0), (12, .arr true 47 .arc [] 0)], 13⟩) (fun _ => True) 4 _ _ ?_ ?_
  · repeat' (first | exact rfl | ((conv => whnf); first | ((first | refine qA (fun h => ?_) fun h => ?_ | refine qN (fun h => ?_) fun h => ?_ | refine qB (fun h => ?_) fun h => ?_ | refine qC (fun h => ?_) fun h => ?_) <;> try exact absurd h (by omega)) | refine qM (fun h => ?_) fun h => ?_ | refine oM (by (first | omega | (simp only [lenS, InI, nmin, EK.sz]; omega) | (simp only [lenS, InI, nmin, EK.sz] at *; omega))) ?_ | refine oM ?_ ?_ | refine bM ?_ ?_ | refine draw_of Try.mixed Try.tyOk 60 (by kernel_rfl) ?_))
    (conv => whnf)
    refine callF (all2_c F G hF hG) [0, 1, 2, 3, 7] Try.call87 rfl (by simp [eqLs, eqL, eqO, eqC, eqCs, rn, renOf, look_cons, look, EK.cast, gV, two, appN]) (by simp [appN, ptrs, eqVL, eqV, eqA, eqC, eqCs, eqAs, eqCaps, EK.sz, rn, renOf, look_cons, look, arcV, fV, gV, two, appN]) (by simp [appN, ptrs, SV.lt, SA.lt, SC.lt, arcV, fV, lenN]) ?_
    rintro _ _ ⟨rfl, rfl⟩
    rw [ha]
    repeat' (first | exact rfl | ((conv => whnf); first | ((first | refine qA (fun h => ?_) fun h => ?_ | refine qN (fun h => ?_) fun h => ?_ | refine qB (fun h => ?_) fun h => ?_ | refine qC (fun h => ?_) fun h => ?_) <;> try exact absurd h (by omega)) | refine qM (fun h => ?_) fun h => ?_ | refine oM (by (first | omega | (simp only [lenS, InI, nmin, EK.sz]; omega) | (simp only [lenS, InI, nmin, EK.sz] at *; omega))) ?_ | refine oM ?_ ?_ | refine bM ?_ ?_ | refine draw_of Try.mixed Try.tyOk 60 (by kernel_rfl) ?_))
    (conv => whnf)
    refine loopI (fun k : Nat => ⟨[(2, .c (.ptr 4 0)), (3, .c (.ptr 5 0)), (4, .c (.ptr 6 0)), (22, .c (.sl 8 4 0 2 2)), (23, .i 2), (24, .i k)], hpG F G ++ [(4, .box 25 (c25F F)), (5, .box 25 (c25G G)), (6, .box 25 zero25), (8, .box 25 (two F G))], 9⟩)
      (fun k => k ≤ 2) (fun k => 2 - k) 0 [] ⟨by rfl, ?_, ?_⟩ (by omega) ?_
    · simp [eqFr, eqHp, eqV, eqA, eqC, eqO, eqCs, eqAs, look_cons, look, rn, EK.cast, EK.sz, eqCaps]
    · simp [eqFr, eqHp, eqV, eqA, eqC, eqO, eqCs, eqAs, look_cons, look, rn, EK.cast, EK.sz, eqCaps, two, appN]
    · rintro k hk
      rcases (by omega : k = 0 ∨ k = 1 ∨ k = 2) with rfl | rfl | rfl
      · repeat' (first | exact rfl | ((conv => whnf); first | ((first | refine qA (fun h => ?_) fun h => ?_ | refine qN (fun h => ?_) fun h => ?_ | refine qB (fun h => ?_) fun h => ?_ | refine qC (fun h => ?_) fun h => ?_) <;> try exact absurd h (by omega)) | refine qM (fun h => ?_) fun h => ?_ | refine oM (by (first | omega | (simp only [lenS, InI, nmin, EK.sz]; omega) | (simp only [lenS, InI, nmin, EK.sz] at *; omega))) ?_ | refine oM ?_ ?_ | refine bM ?_ ?_ | refine draw_of Try.mixed Try.tyOk 60 (by kernel_rfl) ?_))
        (conv => whnf)
        refine ⟨1, [], ⟨by rfl, ?_, ?_⟩, by omega, by omega⟩
        · simp [eqFr, eqHp, eqV, eqA, eqC, eqO, eqCs, eqAs, look_cons, look, rn, EK.cast, EK.sz, eqCaps]
        · simp [eqFr, eqHp, eqV, eqA, eqC, eqO, eqCs, eqAs, look_cons, look, rn, EK.cast, EK.sz, eqCaps]
      · repeat' (first | exact rfl | ((conv => whnf); first | ((first | refine qA (fun h => ?_) fun h => ?_ | refine qN (fun h => ?_) fun h => ?_ | refine qB (fun h => ?_) fun h => ?_ | refine qC (fun h => ?_) fun h => ?_) <;> try exact absurd h (by omega)) | refine qM (fun h => ?_) fun h => ?_ | refine oM (by (first | omega | (simp only [lenS, InI, nmin, EK.sz]; omega) | (simp only [lenS, InI, nmin, EK.sz] at *; omega))) ?_ | refine oM ?_ ?_ | refine bM ?_ ?_ | refine draw_of Try.mixed Try.tyOk 60 (by kernel_rfl) ?_))
        (conv => whnf)
        refine ⟨2, [], ⟨by rfl, ?_, ?_⟩, by omega, by omega⟩
        · simp [eqFr, eqHp, eqV, eqA, eqC, eqO, eqCs, eqAs, look_cons, look, rn, EK.cast, EK.sz, eqCaps]
        · simp [eqFr, eqHp, eqV, eqA, eqC, eqO, eqCs, eqAs, look_cons, look, rn, EK.cast, EK.sz, eqCaps]
      · repeat' (first | exact rfl | ((conv => whnf); first | ((first | refine qA (fun h => ?_) fun h => ?_ | refine qN (fun h => ?_) fun h => ?_ | refine qB (fun h => ?_) fun h => ?_ | refine qC (fun h => ?_) fun h => ?_) <;> try exact absurd h (by omega)) | refine qM (fun h => ?_) fun h => ?_ | refine oM (by (first | omega | (simp only [lenS, InI, nmin, EK.sz]; omega) | (simp only [lenS, InI, nmin, EK.sz] at *; omega))) ?_ | refine oM ?_ ?_ | refine bM ?_ ?_ | refine draw_of Try.mixed Try.tyOk 60 (by kernel_rfl) ?_))
        (conv => whnf)
        exact ⟨(), [(8, some 10), (10, none), (11, none), (12, none)], ⟨by rfl, by simp [eqFr, eqHp, eqV, eqA, eqC, eqO, eqCs, eqAs, look_cons, look, rn, EK.cast, EK.sz, eqCaps], by simp [eqFr, eqHp, eqV, eqA, eqC, eqO, eqCs, eqAs, look_cons, look, rn, EK.cast, EK.sz, eqCaps, nilO]⟩, trivial⟩
  · intro _ _
    refine SemC.of Try.tyOk 12 [22, 23, 24] ?_
    have oO : TwoOk F G := ⟨Nat.le_trans oF.arcl (by decide), Nat.le_trans oG.arcl (by decide), oF.fin, oG.fin, fun a ha => ⟨⟨(oF.arc a ha).t0, by have := (oF.arc a ha).t1; have := oF.finl; omega⟩, (oF.arc a ha).w0, (oF.arc a ha).w1⟩, fun a ha => ⟨⟨(oG.arc a ha).t0, by have := (oG.arc a ha).t1; have := oG.finl; omega⟩, (oG.arc a ha).w0, (oG.arc a ha).w1⟩⟩
    have c0 := CDone.start oF oG
    have hst : PRng F G ⟨F.start, G.start, 0⟩ := (c0.rng _ (show (⟨F.start, G.start, 0⟩ : Trip) ∈ numP [] ⟨F.start, G.start, 0⟩ from numP_mem.2 (.inr rfl))).1
    repeat' (first | exact rfl | ((conv => whnf); first | ((first | refine qA (fun h => ?_) fun h => ?_ | refine qN (fun h => ?_) fun h => ?_ | refine qB (fun h => ?_) fun h => ?_ | refine qC (fun h => ?_) fun h => ?_) <;> try exact absurd h (by omega)) | refine qM (fun h => ?_) fun h => ?_ | refine oM (by (first | omega | (simp only [lenS, InI, nmin, EK.sz]; omega) | (simp only [lenS, InI, nmin, EK.sz] at *; omega))) ?_ | refine oM ?_ ?_ | refine bM ?_ ?_ | refine draw_of Try.mixed Try.tyOk 60 (by kernel_rfl) ?_))
    (conv => whnf)
    refine callF (number_c F G [] 0 [] [] 0 0 0 0 0 0 0 false ⟨F.start, G.start, 0⟩ oF.fin oG.fin hst ⟨rfl, fun _ => rfl⟩ (Nat.zero_le _) (LeftOk.all [] 0) (Nat.le_refl _)) [0, 1, 2, 3, 8, 9, 10, 11, 12] Try.call88 rfl (by simp [eqLs, eqL, eqO, eqC, eqCs, rn, renOf, look_cons, look, EK.cast]) (by simp [appN, ptrs, eqVL, eqV, eqA, eqC, eqCs, eqAs, eqCaps, EK.sz, rn, renOf, look_cons, look, arcV, fV]) (by simp [appN, ptrs, SV.lt, SA.lt, SC.lt, arcV, fV, lenN]) ?_
    rintro _ _ ⟨es', clk', L', lo', cl', sl', sf', hm', rfl, hp', rfl⟩
    generalize numP [] (⟨F.start, G.start, 0⟩ : Trip) = ps1 at hm' c0 hp' ⊢
    generalize greatP F G [] false ⟨F.start, G.start, 0⟩ = g1 at c0 ⊢
    repeat' (first | exact rfl | ((conv => whnf); first | ((first | refine qA (fun h => ?_) fun h => ?_ | refine qN (fun h => ?_) fun h => ?_ | refine qB (fun h => ?_) fun h => ?_ | refine qC (fun h => ?_) fun h => ?_) <;> try exact absurd h (by omega)) | refine qM (fun h => ?_) fun h => ?_ | refine oM (by (first | omega | (simp only [lenS, InI, nmin, EK.sz]; omega) | (simp only [lenS, InI, nmin, EK.sz] at *; omega))) ?_ | refine oM ?_ ?_ | refine bM ?_ ?_ | refine draw_of Try.mixed Try.tyOk 60 (by kernel_rfl) ?_))
    (conv => whnf)
    refine loopI (fun z : Nat × List Trip × List Arc × Bool × List (Trip × Int × Nat) × Nat × List Trip × Nat × Nat × Nat × Nat × Nat => ⟨[(2, .c (.ptr 4 0)), (3, .c (.ptr 5 0)), (4, .c (.ptr 6 0)), (9, .c (.ptr 8 0))],
        hpG F G ++ [(4, .box 25 (c25F F)), (5, .box 25 (c25G G)), (6, .box 25 zero25), (8, .box 107 (cD F G 9 10 z.2.2.2.2.2.2.2.1 (z.2.1.drop z.1).length z.2.2.2.2.2.2.2.2.1 11 (z.2.1.map (finP F G)).length ((z.2.1.map (finP F G)).length + z.2.2.2.2.2.2.2.2.2.2.1) 12 z.2.2.1.length (z.2.2.1.length + z.2.2.2.2.2.2.2.2.2.2.2) z.2.2.2.1)), (9, .map .trip .int z.2.2.2.2.1 z.2.2.2.2.2.1), (10, .arr true 110 .trip z.2.2.2.2.2.2.1 z.2.2.2.2.2.2.2.2.2.1), (11, .arr true 3 .int (z.2.1.map (finP F G)) z.2.2.2.2.2.2.2.2.2.2.1), (12, .arr true 47 .arc z.2.2.1 z.2.2.2.2.2.2.2.2.2.2.2)], 13⟩)
      (fun z => CDone F G z.1 (z.2.1, z.2.2.1, z.2.2.2.1) ∧ NumM z.2.2.2.2.1 z.2.1 ∧ LeftOk z.2.2.2.2.2.2.1 z.2.2.2.2.2.2.2.1 z.2.2.2.2.2.2.2.2.1 z.2.2.2.2.2.2.2.2.2.1 (z.2.1.drop z.1)) (fun z => 3 * F.st.toNat * G.st.toNat - z.1) (0, ps1, [], g1, es', clk', L', lo', cl', sl', sf', 0) [(10, some 13), (11, some 14)] ⟨by rfl, ?_, ?_⟩ ⟨c0, hm', hp'⟩ ?_
    · simp [eqFr, eqHp, eqV, eqA, eqC, eqO, eqCs, eqAs, look_cons, look, rn, EK.cast, EK.sz, eqCaps]
    · simp [eqFr, eqHp, eqV, eqA, eqC, eqO, eqCs, eqAs, look_cons, look, rn, EK.cast, EK.sz, eqCaps]
    · clear c0 hm' hp'
      rintro ⟨k, ps, raw, g, es, clk, L, lo, cl, sl, sf, sr⟩ ⟨hC, hm, hL⟩
      simp only at hC hm hL ⊢
      have hpsl := hC.psl oF oG
      have hrl := hC.rawl oF oG
      have hkl := hC.kl
      simp only at hpsl hrl hkl
      have hmul : 3 * F.st.toNat * G.st.toNat ≤ 432 := by
        have := Nat.mul_le_mul (show 3 * F.st.toNat ≤ 36 by omega) (show G.st.toNat ≤ 12 by omega)
        omega
      have hmo : mostA F G ≤ 12400 := by
        have h1 := Nat.mul_le_mul (show F.arcs.length ≤ 100 by omega) (show G.arcs.length ≤ 100 by omega)
        have h2 := Nat.mul_le_mul (show F.arcs.length ≤ 100 by omega) (show G.st.toNat ≤ 12 by omega)
        have h3 := Nat.mul_le_mul (show G.arcs.length ≤ 100 by omega) (show F.st.toNat ≤ 12 by omega)
        unfold mostA
        omega
      have hdl : (ps.drop k).length = ps.length - k := List.length_drop
      have hdl2 : (ps.drop (k + 1)).length = ps.length - (k + 1) := List.length_drop
      have q1 := hL.le
      have q2 := hL.cp
      have q3 := hL.ca
      by_cases hk : k < ps.length
      · have hpm := getD_mem ps k ⟨0, 0, 0⟩ hk
        have hd := drop_getDc ps k ⟨0, 0, 0⟩ hk
        have hCs := hC.step oF oG hk
        have hrg := (hC.rng _ hpm).1
        generalize hpe : ps.getD k ⟨0, 0, 0⟩ = p at hpm hd hCs hrg
        have hgp : L.getD (lo + Int.toNat 0) EK.trip.dflt = p := hL.head hd
        have hd2 : (((ps.drop k).length : Int) - 1).toNat = (ps.drop (k + 1)).length := by omega
        have hI : ∀ {lo' cl'}, LeftOk L lo' cl' sl (ps.drop (k + 1)) → CoInv F G (ps.idxOf p : Nat) (k + 1) ((steps F G p).foldl (oneC F G (ps.idxOf p : Nat)) (ps, raw, g)) ps raw g es L lo' cl' sl (steps F G p) := fun hl => ⟨rfl, hm, hl, by omega, by have := steps_most oF oG l2 l4 hrg; omega, by have := steps_most oF oG l2 l4 hrg; omega⟩
        generalize (steps F G p).foldl (oneC F G (ps.idxOf p : Nat)) (ps, raw, g) = y at hCs hI
        repeat' (first | exact rfl | ((conv => whnf); first | ((first | refine qA (fun h => ?_) fun h => ?_ | refine qN (fun h => ?_) fun h => ?_ | refine qB (fun h => ?_) fun h => ?_ | refine qC (fun h => ?_) fun h => ?_) <;> try exact absurd h (by omega)) | refine qM (fun h => ?_) fun h => ?_ | refine oM (by (first | omega | (simp only [lenS, InI, nmin, EK.sz]; omega) | (simp only [lenS, InI, nmin, EK.sz] at *; omega))) ?_ | refine oM ?_ ?_ | refine bM ?_ ?_ | refine draw_of Try.mixed Try.tyOk 60 (by kernel_rfl) ?_))
        · (conv => whnf)
          simp only [hgp, hd2]
          refine callF (steps_c F G oO p hrg ps hpm raw g (k + 1) es clk L (lo + Int.toNat 1) (cl - Int.toNat 1) sl sf sr y (hI (hL.tail hd))) [0, 1, 2, 3, 8, 9, 10, 11, 12] Try.call89 rfl (by simp [eqLs, eqL, eqO, eqC, eqCs, rn, renOf, look_cons, look, EK.cast, gV]) (by simp [appN, ptrs, eqVL, eqV, eqA, eqC, eqCs, eqAs, eqCaps, EK.sz, rn, renOf, look_cons, look, arcV, fV, gV]) (by simp [appN, ptrs, SV.lt, SA.lt, SC.lt, arcV, fV, lenN]) ?_
          rintro _ _ ⟨es', clk', L', lo', cl', sl', sf', sr', hm', rfl, hp', rfl⟩
          repeat' (first | exact rfl | ((conv => whnf); first | ((first | refine qA (fun h => ?_) fun h => ?_ | refine qN (fun h => ?_) fun h => ?_ | refine qB (fun h => ?_) fun h => ?_ | refine qC (fun h => ?_) fun h => ?_) <;> try exact absurd h (by omega)) | refine qM (fun h => ?_) fun h => ?_ | refine oM (by (first | omega | (simp only [lenS, InI, nmin, EK.sz]; omega) | (simp only [lenS, InI, nmin, EK.sz] at *; omega))) ?_ | refine oM ?_ ?_ | refine bM ?_ ?_ | refine draw_of Try.mixed Try.tyOk 60 (by kernel_rfl) ?_))
          (conv => whnf)
          refine ⟨(k + 1, y.1, y.2.1, y.2.2, es', clk', L', lo', cl', sl', sf', sr'), [(10, some 14), (11, some 15), (12, some 16)], ⟨by rfl, ?_, ?_⟩, ⟨hCs, hm', hp'⟩, by simp only; omega⟩
          · simp [eqFr, eqHp, eqV, eqA, eqC, eqO, eqCs, eqAs, look_cons, look, rn, EK.cast, EK.sz, eqCaps]
          · simp [eqFr, eqHp, eqV, eqA, eqC, eqO, eqCs, eqAs, look_cons, look, rn, EK.cast, EK.sz, eqCaps]
        · have hgone : ps.drop (k + 1) = [] := by
            have : (ps.drop (k + 1)).length = 0 := by omega
            exact List.eq_nil_of_length_eq_zero this
          (conv => whnf)
          simp only [hgp, hd2]
          refine callF (steps_c F G oO p hrg ps hpm raw g (k + 1) es clk L (lo) (cl - Int.toNat 1) sl sf sr y (hI (hgone ▸ hL.gone _ (Nat.sub_le _ _)))) [0, 1, 2, 3, 8, 9, 10, 11, 12] Try.call89 rfl (by simp [eqLs, eqL, eqO, eqC, eqCs, rn, renOf, look_cons, look, EK.cast, gV]) (by simp [appN, ptrs, eqVL, eqV, eqA, eqC, eqCs, eqAs, eqCaps, EK.sz, rn, renOf, look_cons, look, arcV, fV, gV]) (by simp [appN, ptrs, SV.lt, SA.lt, SC.lt, arcV, fV, lenN]) ?_
          rintro _ _ ⟨es', clk', L', lo', cl', sl', sf', sr', hm', rfl, hp', rfl⟩
          repeat' (first | exact rfl | ((conv => whnf); first | ((first | refine qA (fun h => ?_) fun h => ?_ | refine qN (fun h => ?_) fun h => ?_ | refine qB (fun h => ?_) fun h => ?_ | refine qC (fun h => ?_) fun h => ?_) <;> try exact absurd h (by omega)) | refine qM (fun h => ?_) fun h => ?_ | refine oM (by (first | omega | (simp only [lenS, InI, nmin, EK.sz]; omega) | (simp only [lenS, InI, nmin, EK.sz] at *; omega))) ?_ | refine oM ?_ ?_ | refine bM ?_ ?_ | refine draw_of Try.mixed Try.tyOk 60 (by kernel_rfl) ?_))
          (conv => whnf)
          refine ⟨(k + 1, y.1, y.2.1, y.2.2, es', clk', L', lo', cl', sl', sf', sr'), [(10, some 14), (11, some 15), (12, some 16)], ⟨by rfl, ?_, ?_⟩, ⟨hCs, hm', hp'⟩, by simp only; omega⟩
          · simp [eqFr, eqHp, eqV, eqA, eqC, eqO, eqCs, eqAs, look_cons, look, rn, EK.cast, EK.sz, eqCaps]
          · simp [eqFr, eqHp, eqV, eqA, eqC, eqO, eqCs, eqAs, look_cons, look, rn, EK.cast, EK.sz, eqCaps]
      · have hke : k = ps.length := by omega
        subst hke
        have hel := hm.len
        repeat' (first | exact rfl | ((conv => whnf); first | ((first | refine qA (fun h => ?_) fun h => ?_ | refine qN (fun h => ?_) fun h => ?_ | refine qB (fun h => ?_) fun h => ?_ | refine qC (fun h => ?_) fun h => ?_) <;> try exact absurd h (by omega)) | refine qM (fun h => ?_) fun h => ?_ | refine oM (by (first | omega | (simp only [lenS, InI, nmin, EK.sz]; omega) | (simp only [lenS, InI, nmin, EK.sz] at *; omega))) ?_ | refine oM ?_ ?_ | refine bM ?_ ?_ | refine draw_of Try.mixed Try.tyOk 60 (by kernel_rfl) ?_))
        (conv => whnf)
        refine callF (sorted_c raw (raw.length + sr) sr (by omega) (by omega)) [12] Try.call90 rfl (by simp [eqLs, eqL, eqO, eqC, eqCs, rn, renOf, look_cons, look, EK.cast]) (by simp [appN, ptrs, eqVL, eqV, eqA, eqC, eqCs, eqAs, eqCaps, EK.sz, rn, renOf, look_cons, look, arcV, fV]) (by simp [appN, ptrs, SV.lt, SA.lt, SC.lt, arcV, fV, lenN]) ?_
        rintro _ _ ⟨zs, sq', rfl, rfl, hzl, hso⟩
        have hno := hso.norm
        have hzr := hno.len
        cases g with
        | true =>
          repeat' (first | exact rfl | ((conv => whnf); first | ((first | refine qA (fun h => ?_) fun h => ?_ | refine qN (fun h => ?_) fun h => ?_ | refine qB (fun h => ?_) fun h => ?_ | refine qC (fun h => ?_) fun h => ?_) <;> try exact absurd h (by omega)) | refine qM (fun h => ?_) fun h => ?_ | refine oM (by (first | omega | (simp only [lenS, InI, nmin, EK.sz]; omega) | (simp only [lenS, InI, nmin, EK.sz] at *; omega))) ?_ | refine oM ?_ ?_ | refine bM ?_ ?_ | refine draw_of Try.mixed Try.tyOk 60 (by kernel_rfl) ?_))
          (conv => whnf)
          refine ⟨[], [], 4, noT 2, ⟨by rfl, trivial, trivial⟩, by simp [eqV, eqA, eqAs, eqC, eqCs], (ps, raw, true), zs, hC, hno, .inl ⟨rfl, rfl, .inl rfl⟩⟩
        | false =>
          have hfr := hC.frng hno (by omega) (by omega) ((ps.map (finP F G)).length + sf) (raw.length + sr)
          have hp0 : 0 < ps.length := by
            have := hC.first
            cases hps : ps with
            | nil => rw [hps] at this; cases this
            | cons a l => simp
          have hs00 : (0 : Int) ≤ 0 ∧ (0 : Int) < (ps.length : Nat) := by omega
          repeat' (first | exact rfl | ((conv => whnf); first | ((first | refine qA (fun h => ?_) fun h => ?_ | refine qN (fun h => ?_) fun h => ?_ | refine qB (fun h => ?_) fun h => ?_ | refine qC (fun h => ?_) fun h => ?_) <;> try exact absurd h (by omega)) | refine qM (fun h => ?_) fun h => ?_ | refine oM (by (first | omega | (simp only [lenS, InI, nmin, EK.sz]; omega) | (simp only [lenS, InI, nmin, EK.sz] at *; omega))) ?_ | refine oM ?_ ?_ | refine bM ?_ ?_ | refine draw_of Try.mixed Try.tyOk 60 (by kernel_rfl) ?_))
          (conv => whnf)
          rw [hel]
          refine callF (useful_c ⟨(ps.length : Nat), 0, ps.map (finP F G), zs, (ps.map (finP F G)).length + sf, raw.length + sr⟩ hfr hs00) [11, 12] Try.call91 rfl (by simp [eqLs, eqL, eqO, eqC, eqCs, rn, renOf, look_cons, look, EK.cast]) (by simp [appN, ptrs, eqVL, eqV, eqA, eqC, eqCs, eqAs, eqCaps, EK.sz, rn, renOf, look_cons, look, arcV, fV]) (by simp [appN, ptrs, SV.lt, SA.lt, SC.lt, arcV, fV, lenN]) ?_
          rintro v s ⟨p, hus, hv⟩
          have hus0 : UsOk (F0 F G ps zs) p := ⟨hus.iff⟩
          have hkT : kT (F0 F G ps zs) p = kT ⟨(ps.length : Nat), 0, ps.map (finP F G), zs, (ps.map (finP F G)).length + sf, raw.length + sr⟩ p := rfl
          generalize kT ⟨(ps.length : Nat), 0, ps.map (finP F G), zs, (ps.map (finP F G)).length + sf, raw.length + sr⟩ p = T at hv hkT
          have hT0 : 0 ≤ T.st ∧ T.arcs.length ≤ zs.length := by
            rw [← hkT]
            unfold kT
            split
            · exact ⟨by simp only; omega, karc_len _ _ _⟩
            · exact ⟨by simp only; omega, Nat.zero_le _⟩
          obtain ⟨tst, tstart, tfin, tarcs, tc1, tc2⟩ := T
          obtain ⟨sp3, sq3, rfl, rfl⟩ := hv
          simp only at hT0 ⊢
          repeat' (first | exact rfl | ((conv => whnf); first | ((first | refine qA (fun h => ?_) fun h => ?_ | refine qN (fun h => ?_) fun h => ?_ | refine qB (fun h => ?_) fun h => ?_ | refine qC (fun h => ?_) fun h => ?_) <;> try exact absurd h (by omega)) | refine qM (fun h => ?_) fun h => ?_ | refine oM (by (first | omega | (simp only [lenS, InI, nmin, EK.sz]; omega) | (simp only [lenS, InI, nmin, EK.sz] at *; omega))) ?_ | refine oM ?_ ?_ | refine bM ?_ ?_ | refine draw_of Try.mixed Try.tyOk 60 (by kernel_rfl) ?_))
          · (conv => whnf)
            refine ⟨[], [], 4, noT 2, ⟨by rfl, trivial, trivial⟩, by simp [eqV, eqA, eqAs, eqC, eqCs], (ps, raw, false), zs, hC, hno, .inl ⟨rfl, rfl, .inr ⟨p, hus0, ?_⟩⟩⟩
            rw [hkT]
            simp only
            omega
          · (conv => whnf)
            refine ⟨[], [], 4, noT 2, ⟨by rfl, trivial, trivial⟩, by simp [eqV, eqA, eqAs, eqC, eqCs], (ps, raw, false), zs, hC, hno, .inl ⟨rfl, rfl, .inr ⟨p, hus0, ?_⟩⟩⟩
            rw [hkT]
            simp only
            omega
          · (conv => whnf)
            refine ⟨[(4, some 13), (5, some 14)], [(4, .arr true 3 .int tfin sp3), (5, .arr true 47 .arc tarcs sq3)], 6, .tup [.agg [.i tst, .i tstart, .sl 4 1 0 tfin.length (tfin.length + sp3), .sl 5 5 0 tarcs.length (tarcs.length + sq3)], .c (.i 0)], ⟨by rfl, trivial, by simp [eqFr, eqHp, eqV, eqA, eqC, eqO, eqCs, eqAs, look_cons, look, rn, EK.cast, EK.sz, eqCaps]⟩, by simp [eqV, eqA, eqAs, eqC, eqCs, rn, look, look_cons], (ps, raw, false), zs, hC, hno, .inr ⟨rfl, p, hus0, ?_⟩⟩
            rw [hkT]
            simp only
            exact ⟨by omega, by omega, sp3, sq3, rfl, rfl⟩
end Go.Fw

namespace Go.Fw
open Go Go.Proofs

/-- Of no great size. -/
structure Small (F G : TF) (u v : List Int) : Prop where
  ft : F.st ≤ 12
  gt : G.st ≤ 12
  ul : u.length ≤ 12
  vl : v.length ≤ 12

theorem mul_b {x y X Y : Int} (hx : 0 ≤ x) (hX : x ≤ X) (hy : 0 ≤ y) (hY : y ≤ Y) : 0 ≤ x * y ∧ x * y ≤ X * Y :=
  ⟨Int.mul_nonneg hx hy, Int.mul_le_mul hX hY hy (by omega)⟩

theorem atI_int {F G : TF} {v : List Int} {i j a b : Int} (hF : 0 ≤ F.st) (hG : 0 ≤ G.st) (hi : 0 ≤ i) (hj : 0 ≤ j) (ha : 0 ≤ a) (hb : 0 ≤ b) :
    ((atI F G v i.toNat j.toNat a.toNat b.toNat : Nat) : Int) = (a * ((v.length : Int) + 1) + b) * (F.st * G.st) + i * G.st + j := by
  unfold atI pN
  rw [Int.natCast_add, Int.natCast_add, Int.natCast_mul, Int.natCast_mul, Int.natCast_mul, Int.natCast_add, Int.natCast_mul, Int.toNat_of_nonneg hF, Int.toNat_of_nonneg hG, Int.toNat_of_nonneg hi, Int.toNat_of_nonneg hj, Int.toNat_of_nonneg ha, Int.toNat_of_nonneg hb]
  rfl

set_option maxHeartbeats 4000000 in
set_option maxRecDepth 20000 in
theorem at_c (F G : TF) (u v : List Int) (cv : Nat) (hS : Small F G u v) (i j a b : Int) (hF : 0 ≤ F.st) (hG : 0 ≤ G.st) (hi : 0 ≤ i ∧ i < F.st) (hj : 0 ≤ j ∧ j < G.st) (ha : 0 ≤ a ∧ a ≤ u.length) (hb : 0 ≤ b ∧ b ≤ v.length) :
    Ct Try.prog 92 [.i i, .i j, .i a, .i b, .c (.ptr 3 0), .c (.ptr 4 0), .c (.ptr 5 0)] [] [(0, .arr false 3 .int v 0), (3, .box 22 [.sl 0 1 0 v.length cv]), (4, .box 3 [.i (F.st * G.st)]), (5, .box 25 [.i G.st, .i G.start, .sl 1 1 0 G.fin.length G.capF, .sl 2 5 0 G.arcs.length G.capA])] 6
    (fun w s => w = .i (atI F G v i.toNat j.toNat a.toNat b.toNat : Nat) ∧ s = ⟨[], [(3, .box 22 [.sl 0 1 0 v.length cv]), (4, .box 3 [.i (F.st * G.st)]), (5, .box 25 [.i G.st, .i G.start, .sl 1 1 0 G.fin.length G.capF, .sl 2 5 0 G.arcs.length G.capA])], 6⟩) := by
  rw [atI_int hF hG hi.1 hj.1 ha.1 hb.1]
  obtain ⟨s1, s2, s3, s4⟩ := hS
  have b1 := mul_b hF s1 hG s2
  have b2 := mul_b (y := (v.length : Int) + 1) (Y := 13) ha.1 (show a ≤ 12 by omega) (by omega) (by omega)
  have b3 := mul_b (x := a * ((v.length : Int) + 1) + b) (X := 168) (by omega) (by omega) b1.1 b1.2
  have b4 := mul_b hi.1 (show i ≤ 12 by omega) hG s2
  refine ctW Try.tyOk 12 [] Try.func92 rfl (by simp [SV.lt, SA.lt, SC.lt, arcV, fV]) (by simp) (fr := [(0, .i i), (1, .i j), (2, .i a), (3, .i b), (4, .c (.ptr 3 0)), (5, .c (.ptr 4 0)), (6, .c (.ptr 5 0))]) rfl ?_
  repeat' (first | exact rfl | ((conv => whnf); first | ((first | refine qA (fun h => ?_) fun h => ?_ | refine qN (fun h => ?_) fun h => ?_ | refine qB (fun h => ?_) fun h => ?_ | refine qC (fun h => ?_) fun h => ?_) <;> try exact absurd h (by omega)) | refine qM (fun h => ?_) fun h => ?_ | refine oM (by (first | omega | (simp only [lenS, InI, nmin, EK.sz]; omega) | (simp only [lenS, InI, nmin, EK.sz] at *; omega))) ?_ | refine oM ?_ ?_ | refine bM ?_ ?_ | refine draw_of Try.mixed Try.tyOk 60 (by kernel_rfl) ?_))
  (conv => whnf)
  exact ⟨[], [(3, .box 22 [.sl 0 1 0 v.length cv]), (4, .box 3 [.i (F.st * G.st)]), (5, .box 25 [.i G.st, .i G.start, .sl 1 1 0 G.fin.length G.capF, .sl 2 5 0 G.arcs.length G.capA])], 6, .i ((a * ((v.length : Int) + 1) + b) * (F.st * G.st) + i * G.st + j), ⟨by rfl, trivial, by simp [eqFr, eqHp, eqV, eqA, eqC, eqO, eqCs, eqAs, look_cons, look, rn, EK.cast, EK.sz, eqCaps]⟩, by simp [eqV, eqA, eqC], rfl, rfl⟩

set_option maxHeartbeats 4000000 in
set_option maxRecDepth 20000 in
theorem relax_c (c : List Int) (n : Nat) (g : Bool) (f t : Int) (w : Int) (hT : TB n c) (hn : n ≤ 1000000) (hf : 0 ≤ f ∧ f < n) (ht : 0 ≤ t ∧ t < n) (hw : 0 ≤ w ∧ w ≤ 2000000000) :
    Ct Try.prog 93 [.i f, .i t, .i w, .c (.ptr 1 0), .c (.ptr 2 0)] [] [(0, .arr true 3 .int c 0), (1, .box 22 [.sl 0 1 0 n n]), (2, .box 4 [.b g])] 3
    (fun x s => x = .tup [] ∧ s = ⟨[], [(0, .arr true 3 .int (rel1 (c, g) ⟨f.toNat, t.toNat, w⟩).1 0), (1, .box 22 [.sl 0 1 0 n n]), (2, .box 4 [.b (rel1 (c, g) ⟨f.toNat, t.toNat, w⟩).2])], 3⟩) := by
  have hl := hT.len
  have hfl := finC_le c
  have h1 := hT.low f.toNat (by omega)
  have h2 := hT.high f.toNat (by omega)
  refine ctW Try.tyOk 9 [] Try.func93 rfl (by simp [SV.lt, SA.lt, SC.lt, arcV, fV]) (by simp) (fr := [(0, .i f), (1, .i t), (2, .i w), (3, .c (.ptr 1 0)), (4, .c (.ptr 2 0))]) rfl ?_
  have e1 : 0 + f.toNat = f.toNat := Nat.zero_add _
  have e2 : 0 + t.toNat = t.toNat := Nat.zero_add _
  have hInI : InI (c.getD (0 + f.toNat) EK.int.dflt + w) := by
    rw [e1]
    show InI (c.getD f.toNat 0 + w)
    unfold InI
    omega
  have hlen : t.toNat < c.length := by omega
  repeat' (first | exact rfl | ((conv => whnf); first | ((first | refine qA (fun h => ?_) fun h => ?_ | refine qN (fun h => ?_) fun h => ?_ | refine qB (fun h => ?_) fun h => ?_ | refine qC (fun h => ?_) fun h => ?_) <;> try exact absurd h (by omega)) | refine qM (fun h => ?_) fun h => ?_ | refine oM (by (first | omega | (simp only [lenS, InI, nmin, EK.sz]; omega) | (simp only [lenS, InI, nmin, EK.sz] at *; omega))) ?_ | refine oM ?_ ?_ | refine bM ?_ ?_ | refine draw_of Try.mixed Try.tyOk 60 (by kernel_rfl) ?_))
  (conv => whnf)
  refine callI (plus_c (c.getD (0 + f.toNat) EK.int.dflt) w hInI) [] Try.call67 rfl trivial (by simp [appN, ptrs, eqVL, eqV, eqA, eqC, eqCs, eqAs, eqCaps, EK.sz, rn, renOf, look_cons, look, arcV, fV]) (by simp [appN, ptrs, SV.lt, SA.lt, SC.lt, arcV, fV]) ?_
  repeat' (first | exact rfl | ((conv => whnf); first | ((first | refine qA (fun h => ?_) fun h => ?_ | refine qN (fun h => ?_) fun h => ?_ | refine qB (fun h => ?_) fun h => ?_ | refine qC (fun h => ?_) fun h => ?_) <;> try exact absurd h (by omega)) | refine qM (fun h => ?_) fun h => ?_ | refine oM (by (first | omega | (simp only [lenS, InI, nmin, EK.sz]; omega) | (simp only [lenS, InI, nmin, EK.sz] at *; omega))) ?_ | refine oM ?_ ?_ | refine bM ?_ ?_ | refine draw_of Try.mixed Try.tyOk 60 (by kernel_rfl) ?_))
  (conv => whnf)
  refine callI (less_c (c.getD (0 + t.toNat) EK.int.dflt) (plus (c.getD (0 + f.toNat) EK.int.dflt) w)) [] Try.call42 rfl trivial (by simp [appN, ptrs, eqVL, eqV, eqA, eqC, eqCs, eqAs, eqCaps, EK.sz, rn, renOf, look_cons, look, arcV, fV]) (by simp [appN, ptrs, SV.lt, SA.lt, SC.lt, arcV, fV]) ?_
  have hto : less (c.getD (0 + t.toNat) EK.int.dflt) (plus (c.getD (0 + f.toNat) EK.int.dflt) w) = tOf c ⟨f.toNat, t.toNat, w⟩ := by
    rw [e1, e2]; rfl
  have hcg : c.getD (0 + t.toNat) EK.int.dflt = c.getD t.toNat 0 := by rw [e2]; rfl
  repeat' (first | exact rfl | ((conv => whnf); first | ((first | refine qA (fun h => ?_) fun h => ?_ | refine qN (fun h => ?_) fun h => ?_ | refine qB (fun h => ?_) fun h => ?_ | refine qC (fun h => ?_) fun h => ?_) <;> try exact absurd h (by omega)) | refine qM (fun h => ?_) fun h => ?_ | refine oM (by (first | omega | (simp only [lenS, InI, nmin, EK.sz]; omega) | (simp only [lenS, InI, nmin, EK.sz] at *; omega))) ?_ | refine oM ?_ ?_ | refine bM ?_ ?_ | refine draw_of Try.mixed Try.tyOk 60 (by kernel_rfl) ?_))
  · (conv => whnf)
    rw [hto, hcg] at h
    have hr : rel1 (c, g) ⟨f.toNat, t.toNat, w⟩ = (c.set t.toNat (tOf c ⟨f.toNat, t.toNat, w⟩), true) := if_neg h
    rw [hr]
    simp only [hto]
    exact ⟨[], [(0, .arr true 3 .int (c.set t.toNat (tOf c ⟨f.toNat, t.toNat, w⟩)) 0), (1, .box 22 [.sl 0 1 0 n n]), (2, .box 4 [.b true])], 3, .tup [], ⟨by rfl, trivial, by simp [eqFr, eqHp, eqV, eqA, eqC, eqO, eqCs, eqAs, look_cons, look, rn, EK.cast, EK.sz, eqCaps]⟩, by simp [eqV, eqAs], rfl, rfl⟩
  · (conv => whnf)
    rw [hto, hcg] at h
    have hr : rel1 (c, g) ⟨f.toNat, t.toNat, w⟩ = (c, g) := if_pos (by simpa using h)
    rw [hr]
    exact ⟨[], [(0, .arr true 3 .int c 0), (1, .box 22 [.sl 0 1 0 n n]), (2, .box 4 [.b g])], 3, .tup [], ⟨by rfl, trivial, by simp [eqFr, eqHp, eqV, eqA, eqC, eqO, eqCs, eqAs, look_cons, look, rn, EK.cast, EK.sz, eqCaps]⟩, by simp [eqV, eqAs], rfl, rfl⟩
end Go.Fw

/-
  The round of the table as what is left of it, and its steps.
-/
namespace Go.Fw
open Go

/-- What is done so far, and what is left. -/
structure RlInv (n : Nat) (y x : List Int × Bool) (l : List Rlx) : Prop where
  tb : TB n x.1
  ok : ∀ r ∈ l, RlxOk n r
  fin : l.foldl rel1 x = y

theorem RlInv.next {n : Nat} {y x : List Int × Bool} {r : Rlx} {l : List Rlx} (h : RlInv n y x (r :: l)) : RlInv n y (rel1 x r) l :=
  ⟨h.tb.rel (h.ok r (by simp)), fun q hq => h.ok q (by simp [hq]), h.fin⟩

section
variable (F G : TF) (u v : List Int)
def rPass (a : Nat) : List Rlx := ((List.range (u.length + 1)).drop a).flatMap (rowR F G u v)
def rRow (a b : Nat) : List Rlx := ((List.range (v.length + 1)).drop b).flatMap (placeR F G u v a) ++ rPass F G u v (a + 1)
def rG (a b k : Nat) : List Rlx := (G.arcs.drop k).flatMap (rlB F G v a b) ++ rRow F G u v a (b + 1)
def rArc (a b k : Nat) : List Rlx := (F.arcs.drop k).flatMap (rlA F G u v a b) ++ rG F G u v a b 0
def rSil (a b k : Nat) (x : Arc) (j : Nat) : List Rlx := ((List.range G.st.toNat).drop j).map (rlSil F G v a b x) ++ rArc F G u v a b (k + 1)
def rTwo (a b k : Nat) (x : Arc) (j : Nat) : List Rlx := (G.arcs.drop j).flatMap (rlTwo F G v a b x) ++ rArc F G u v a b (k + 1)
def rOne (a b k : Nat) (y : Arc) (i : Nat) : List Rlx := ((List.range F.st.toNat).drop i).map (rlOne F G v a b y) ++ rG F G u v a b (k + 1)
end

theorem range_drop {n k : Nat} (h : k < n) : (List.range n).drop k = k :: (List.range n).drop (k + 1) := by
  rw [List.drop_eq_getElem_cons (by simpa using h), List.getElem_range]
theorem range_dend {n k : Nat} (h : n ≤ k) : (List.range n).drop k = [] := List.drop_eq_nil_of_le (by simpa using h)
theorem arcs_drop {l : List Arc} {k : Nat} (h : k < l.length) : l.drop k = l.getD k aD :: l.drop (k + 1) := drop_getDc l k aD h

section
variable {F G : TF} {u v : List Int}
theorem rPass_next {a : Nat} (h : a ≤ u.length) : rPass F G u v a = rRow F G u v a 0 := by
  unfold rPass rRow
  rw [range_drop (by omega), List.flatMap_cons]; rfl
theorem rPass_end {a : Nat} (h : u.length < a) : rPass F G u v a = [] := by
  unfold rPass
  rw [range_dend (by omega)]; rfl
theorem rRow_next {a b : Nat} (h : b ≤ v.length) : rRow F G u v a b = rArc F G u v a b 0 := by
  unfold rArc rG
  show _ = F.arcs.flatMap _ ++ (G.arcs.flatMap _ ++ _)
  rw [← List.append_assoc]
  unfold rRow
  rw [range_drop (by omega), List.flatMap_cons, List.append_assoc]; rfl
theorem rRow_end {a b : Nat} (h : v.length < b) : rRow F G u v a b = rPass F G u v (a + 1) := by
  unfold rRow
  rw [range_dend (by omega)]; rfl
theorem rArc_cons {a b k : Nat} (h : k < F.arcs.length) : rArc F G u v a b k = rlA F G u v a b (F.arcs.getD k aD) ++ rArc F G u v a b (k + 1) := by
  unfold rArc
  rw [arcs_drop h, List.flatMap_cons, List.append_assoc]
theorem rArc_bad {a b k : Nat} (h : k < F.arcs.length) (hb : badW u a (F.arcs.getD k aD).i) : rArc F G u v a b k = rArc F G u v a b (k + 1) := by
  rw [rArc_cons h]; unfold rlA; rw [if_pos hb]; rfl
theorem rArc_sil {a b k : Nat} (h : k < F.arcs.length) (hb : ¬ badW u a (F.arcs.getD k aD).i) (ho : (F.arcs.getD k aD).o = 0) : rArc F G u v a b k = rSil F G u v a b k (F.arcs.getD k aD) 0 := by
  rw [rArc_cons h]; unfold rlA; rw [if_neg hb, if_pos ho]; rfl
theorem rArc_two {a b k : Nat} (h : k < F.arcs.length) (hb : ¬ badW u a (F.arcs.getD k aD).i) (ho : (F.arcs.getD k aD).o ≠ 0) : rArc F G u v a b k = rTwo F G u v a b k (F.arcs.getD k aD) 0 := by
  rw [rArc_cons h]; unfold rlA; rw [if_neg hb, if_neg ho]; rfl
theorem rArc_end {a b k : Nat} (h : F.arcs.length ≤ k) : rArc F G u v a b k = rG F G u v a b 0 := by
  unfold rArc
  rw [List.drop_eq_nil_of_le h]; rfl
theorem rSil_next {a b k j : Nat} {x : Arc} (h : j < G.st.toNat) : rSil F G u v a b k x j = rlSil F G v a b x j :: rSil F G u v a b k x (j + 1) := by
  unfold rSil
  rw [range_drop h]; rfl
theorem rSil_end {a b k j : Nat} {x : Arc} (h : G.st.toNat ≤ j) : rSil F G u v a b k x j = rArc F G u v a b (k + 1) := by
  unfold rSil
  rw [range_dend h]; rfl
theorem rTwo_no {a b k j : Nat} {x : Arc} (h : j < G.arcs.length) (hb : (G.arcs.getD j aD).i ≠ x.o ∨ badW v b (G.arcs.getD j aD).o) : rTwo F G u v a b k x j = rTwo F G u v a b k x (j + 1) := by
  unfold rTwo
  rw [arcs_drop h, List.flatMap_cons]
  unfold rlTwo
  rw [if_pos hb]; rfl
theorem rTwo_yes {a b k j : Nat} {x : Arc} (h : j < G.arcs.length) (hb : ¬ ((G.arcs.getD j aD).i ≠ x.o ∨ badW v b (G.arcs.getD j aD).o)) : rTwo F G u v a b k x j = ⟨atI F G v x.f.toNat (G.arcs.getD j aD).f.toNat a b, atI F G v x.t.toNat (G.arcs.getD j aD).t.toNat (nxW a x.i) (nxW b (G.arcs.getD j aD).o), x.w + (G.arcs.getD j aD).w⟩ :: rTwo F G u v a b k x (j + 1) := by
  unfold rTwo
  rw [arcs_drop h, List.flatMap_cons]
  conv => lhs; unfold rlTwo
  rw [if_neg hb]; rfl
theorem rTwo_end {a b k j : Nat} {x : Arc} (h : G.arcs.length ≤ j) : rTwo F G u v a b k x j = rArc F G u v a b (k + 1) := by
  unfold rTwo
  rw [List.drop_eq_nil_of_le h]; rfl
theorem rG_cons {a b k : Nat} (h : k < G.arcs.length) : rG F G u v a b k = rlB F G v a b (G.arcs.getD k aD) ++ rG F G u v a b (k + 1) := by
  unfold rG
  rw [arcs_drop h, List.flatMap_cons, List.append_assoc]
theorem rG_no {a b k : Nat} (h : k < G.arcs.length) (hb : (G.arcs.getD k aD).i ≠ 0 ∨ badW v b (G.arcs.getD k aD).o) : rG F G u v a b k = rG F G u v a b (k + 1) := by
  rw [rG_cons h]; unfold rlB; rw [if_pos hb]; rfl
theorem rG_yes {a b k : Nat} (h : k < G.arcs.length) (hb : ¬ ((G.arcs.getD k aD).i ≠ 0 ∨ badW v b (G.arcs.getD k aD).o)) : rG F G u v a b k = rOne F G u v a b k (G.arcs.getD k aD) 0 := by
  rw [rG_cons h]; unfold rlB; rw [if_neg hb]; rfl
theorem rG_end {a b k : Nat} (h : G.arcs.length ≤ k) : rG F G u v a b k = rRow F G u v a (b + 1) := by
  unfold rG
  rw [List.drop_eq_nil_of_le h]; rfl
theorem rOne_next {a b k i : Nat} {y : Arc} (h : i < F.st.toNat) : rOne F G u v a b k y i = rlOne F G v a b y i :: rOne F G u v a b k y (i + 1) := by
  unfold rOne
  rw [range_drop h]; rfl
theorem rOne_end {a b k i : Nat} {y : Arc} (h : F.st.toNat ≤ i) : rOne F G u v a b k y i = rG F G u v a b (k + 1) := by
  unfold rOne
  rw [range_dend h]; rfl
end
end Go.Fw

/-
  What is useful alone costs the same.
-/
namespace Go.Fw
open Go

section
variable {p : Nat → Bool}

theorem rkB_mono : ∀ {j k : Nat}, j ≤ k → rkB p j ≤ rkB p k
  | j, 0, h => by rw [Nat.le_zero.1 h]; exact Nat.le_refl _
  | j, k + 1, h => by
    by_cases e : j = k + 1
    · rw [e]; exact Nat.le_refl _
    · have := rkB_mono (j := j) (k := k) (by omega)
      show _ ≤ if p k = true then rkB p k + 1 else rkB p k
      split <;> omega

theorem rkB_lt {j k : Nat} (h : j < k) (hj : p j = true) : rkB p j < rkB p k := by
  have h1 : rkB p (j + 1) = rkB p j + 1 := by show (if p j = true then _ else _) = _; rw [if_pos hj]
  have := rkB_mono (p := p) (j := j + 1) (k := k) h
  omega

theorem rkB_inj {j k : Nat} (hj : p j = true) (hk : p k = true) (h : rkB p j = rkB p k) : j = k := by
  rcases Nat.lt_trichotomy j k with q | q | q
  · have := rkB_lt q hj; omega
  · exact q
  · have := rkB_lt q hk; omega

theorem kfin_get (fin : List Int) : ∀ {n j : Nat}, j < n → p j = true → (kfin p fin n).getD (rkB p j) 0 = fin.getD j 0
  | 0, j, h, _ => by omega
  | n + 1, j, h, hj => by
    have hl := kfin_len p fin n
    have hs : kfin p fin (n + 1) = if p n = true then kfin p fin n ++ [fin.getD n 0] else kfin p fin n := rfl
    by_cases e : j = n
    · subst e
      rw [hs, if_pos hj]
      simp [List.getD, hl]
    · have ih := kfin_get fin (n := n) (j := j) (by omega) hj
      have hlt := rkB_lt (p := p) (show j < n by omega) hj
      rw [hs]
      split
      · rw [← ih]
        simp only [List.getD]
        rw [List.getElem?_append_left (by omega)]
      · exact ih

theorem kfin_mem (fin : List Int) : ∀ {n : Nat} {x : Int}, x ∈ kfin p fin n → ∃ j, j < n ∧ x = fin.getD j 0
  | 0, x, h => by cases h
  | n + 1, x, h => by
    have hs : kfin p fin (n + 1) = if p n = true then kfin p fin n ++ [fin.getD n 0] else kfin p fin n := rfl
    rw [hs] at h
    split at h
    · rcases List.mem_append.1 h with h | h
      · obtain ⟨j, h1, h2⟩ := kfin_mem fin h
        exact ⟨j, by omega, h2⟩
      · rw [List.mem_singleton] at h; exact ⟨n, by omega, h⟩
    · obtain ⟨j, h1, h2⟩ := kfin_mem fin h
      exact ⟨j, by omega, h2⟩

theorem mem_karc {l : List Arc} {b : Arc} : ∀ k, k ≤ l.length → (b ∈ karc p l k ↔ ∃ i, i < k ∧ kOk p (l.getD i aD) = true ∧ b = kArc p (l.getD i aD))
  | 0, _ => by simp [karc]
  | k + 1, hk => by
    have ih := mem_karc (l := l) (b := b) k (by omega)
    have hs : karc p l (k + 1) = if kOk p (l.getD k aD) = true then karc p l k ++ [kArc p (l.getD k aD)] else karc p l k := rfl
    rw [hs]
    split
    · rename_i h
      rw [List.mem_append, ih, List.mem_singleton]
      constructor
      · rintro (⟨i, h1, h2⟩ | rfl)
        · exact ⟨i, by omega, h2⟩
        · exact ⟨k, by omega, h, rfl⟩
      · rintro ⟨i, h1, h2, h3⟩
        by_cases q : i = k
        · subst q; exact .inr h3
        · exact .inl ⟨i, by omega, h2, h3⟩
    · rename_i h
      rw [ih]
      constructor
      · rintro ⟨i, h1, h2⟩
        exact ⟨i, by omega, h2⟩
      · rintro ⟨i, h1, h2, h3⟩
        by_cases q : i = k
        · subst q; exact absurd h2 h
        · exact ⟨i, by omega, h2, h3⟩

theorem mem_karcs {l : List Arc} {b : Arc} : b ∈ karc p l l.length ↔ ∃ a ∈ l, p a.f.toNat = true ∧ p a.t.toNat = true ∧ b = kArc p a := by
  rw [mem_karc _ (Nat.le_refl _)]
  constructor
  · rintro ⟨i, h1, h2, h3⟩
    unfold kOk at h2
    rw [Bool.and_eq_true] at h2
    exact ⟨_, getD_mem l i aD h1, h2.1, h2.2, h3⟩
  · rintro ⟨a, ha, h1, h2, h3⟩
    obtain ⟨i, hi, e⟩ := List.getElem_of_mem ha
    have e2 : l.getD i aD = a := by simp [List.getD, hi, e]
    exact ⟨i, hi, by rw [e2]; unfold kOk; rw [h1, h2]; rfl, by rw [e2]; exact h3⟩

theorem kArc_ahead {a b : Arc} (ha : 0 ≤ a.f ∧ 0 ≤ a.t) (hb : 0 ≤ b.f ∧ 0 ≤ b.t) (h1 : p a.f.toNat = true) (h2 : p a.t.toNat = true) (h : aheadB a b = true) : aheadB (kArc p a) (kArc p b) = true := by
  rw [aheadB_iff] at h ⊢
  have key : ∀ x y : Int, 0 ≤ x → 0 ≤ y → p x.toNat = true → (x < y → ((rkB p x.toNat : Nat) : Int) < (rkB p y.toNat : Nat)) ∧ (x = y → ((rkB p x.toNat : Nat) : Int) = (rkB p y.toNat : Nat)) := fun x y hx hy hp =>
    ⟨fun h => by have := rkB_lt (p := p) (show x.toNat < y.toNat by omega) hp; omega, fun h => by rw [h]⟩
  have k1 := key a.f b.f ha.1 hb.1 h1
  have k2 := key a.t b.t ha.2 hb.2 h2
  show ((rkB p a.f.toNat : Nat) : Int) < (rkB p b.f.toNat : Nat) ∨ ((rkB p a.f.toNat : Nat) : Int) = (rkB p b.f.toNat : Nat) ∧ (a.i < b.i ∨ a.i = b.i ∧ (a.o < b.o ∨ a.o = b.o ∧ ((rkB p a.t.toNat : Nat) : Int) < (rkB p b.t.toNat : Nat)))
  rcases h with h | ⟨h, h3⟩
  · exact .inl (k1.1 h)
  · refine .inr ⟨k1.2 h, ?_⟩
    rcases h3 with h3 | ⟨h3, h4⟩
    · exact .inl h3
    · refine .inr ⟨h3, ?_⟩
      rcases h4 with h4 | ⟨h4, h5⟩
      · exact .inl h4
      · exact .inr ⟨h4, k2.1 h5⟩

theorem karc_srt {l : List Arc} (hr : ∀ a ∈ l, 0 ≤ a.f ∧ 0 ≤ a.t) (hs : Srt l) : ∀ k, k ≤ l.length → Srt (karc p l k)
  | 0, _ => List.Pairwise.nil
  | k + 1, hk => by
    have ih := karc_srt hr hs k (by omega)
    have hs1 : karc p l (k + 1) = if kOk p (l.getD k aD) = true then karc p l k ++ [kArc p (l.getD k aD)] else karc p l k := rfl
    rw [hs1]
    split
    · refine List.pairwise_append.2 ⟨ih, List.pairwise_singleton _ _, fun x hx y hy => ?_⟩
      rw [List.mem_singleton] at hy
      subst hy
      obtain ⟨i, hi, hok, rfl⟩ := (mem_karc k (by omega)).1 hx
      unfold kOk at hok
      rw [Bool.and_eq_true] at hok
      have hmi := getD_mem l i aD (by omega)
      have hmk := getD_mem l k aD (by omega)
      refine kArc_ahead (hr _ hmi) (hr _ hmk) hok.1 hok.2 ?_
      have e1 : l.getD i aD = l[i]'(by omega) := by simp [List.getD, show i < l.length by omega]
      have e2 : l.getD k aD = l[k]'(by omega) := by simp [List.getD, show k < l.length by omega]
      rw [e1, e2]
      exact List.pairwise_iff_getElem.1 hs i k (by omega) (by omega) hi
    · exact ih
end

theorem way_none {s t : Int} {u v : List Int} {d : Int} (h : Way [] s u v t d) : t = s := by
  induction h with
  | nil s => rfl
  | cons ha _ _ => cases ha

section
variable {F : TF} {p : Nat → Bool} (hF : FRng F) (hs : 0 ≤ F.start ∧ F.start < F.st) (hp : UsOk F p)
include hF hp

theorem keep_way {s t : Int} {u v : List Int} {d : Int} (hw : Way F.arcs s u v t d) : 0 ≤ s ∧ s < F.st → Rch F.arcs false [F.start] s → F.fin.getD t.toNat 0 ≠ -1 →
    0 ≤ t ∧ t < F.st ∧ p t.toNat = true ∧ Rch F.arcs true [t] s ∧ p s.toNat = true ∧ Way (karc p F.arcs F.arcs.length) (rkB p s.toNat : Nat) u v (rkB p t.toNat : Nat) d := by
  induction hw with
  | nil s =>
    intro h1 h2 h3
    have e : ((s.toNat : Nat) : Int) = s := by omega
    have : p s.toNat = true := (hp.iff s.toNat (by omega)).2 ⟨by rw [e]; exact h2, s.toNat, by omega, h3, by rw [e]; exact .here (by simp)⟩
    exact ⟨h1.1, h1.2, this, .here (by simp), this, .nil _⟩
  | @cons a u v t c ha hw ih =>
    intro h1 h2 h3
    have hb := hF.arc a ha
    have h2' : Rch F.arcs false [F.start] a.t := Rch.on (bk := false) h2 ha rfl
    obtain ⟨i1, i2, i3, i4, i5, i6⟩ := ih ⟨hb.2.2.1, hb.2.2.2⟩ h2' h3
    have h5 : Rch F.arcs true [t] a.f := Rch.on (bk := true) i4 ha rfl
    have e : ((a.f.toNat : Nat) : Int) = a.f := by omega
    have e2 : ((t.toNat : Nat) : Int) = t := by omega
    have hpf : p a.f.toNat = true := (hp.iff a.f.toNat (by omega)).2 ⟨by rw [e]; exact h2, t.toNat, by omega, h3, by rw [e, e2]; exact h5⟩
    refine ⟨i1, i2, i3, h5, hpf, ?_⟩
    exact Way.cons (a := kArc p a) (mem_karcs.2 ⟨a, ha, hpf, i5, rfl⟩) i6

omit hp in
theorem kept_way {r r' : Int} {u v : List Int} {d : Int} (hw : Way (karc p F.arcs F.arcs.length) r u v r' d) : ∀ j : Int, 0 ≤ j ∧ j < F.st → p j.toNat = true → r = (rkB p j.toNat : Nat) → ∃ j' : Int, 0 ≤ j' ∧ j' < F.st ∧ p j'.toNat = true ∧ r' = (rkB p j'.toNat : Nat) ∧ Way F.arcs j u v j' d := by
  induction hw with
  | nil s => intro j h1 h2 h3; exact ⟨j, h1.1, h1.2, h2, h3, .nil _⟩
  | @cons b u v t c hb hw ih =>
    intro j h1 h2 h3
    obtain ⟨a, ha, h4, h5, rfl⟩ := mem_karcs.1 hb
    have hr := hF.arc a ha
    have e : a.f = j := by
      have e1 : ((rkB p a.f.toNat : Nat) : Int) = (rkB p j.toNat : Nat) := h3
      have := rkB_inj h4 h2 (by omega)
      omega
    obtain ⟨j', q1, q2, q3, q4, q5⟩ := ih a.t ⟨hr.2.2.1, hr.2.2.2⟩ h5 rfl
    refine ⟨j', q1, q2, q3, q4, ?_⟩
    rw [← e]
    exact Way.cons ha q5

include hs
/-- What is useful costs the same. -/
theorem useful_wt {u v : List Int} {c : Int} : Wt (kT F p) u v c ↔ Wt F u v c := by
  by_cases h : p F.start.toNat = true
  · have e : kT F p = ⟨(rkB p F.st.toNat : Nat), (rkB p F.start.toNat : Nat), kfin p F.fin F.st.toNat, karc p F.arcs F.arcs.length, 0, 0⟩ := by unfold kT; rw [if_pos h]
    rw [e]
    constructor
    · rintro ⟨t, d, h1, h2, rfl⟩
      simp only at h1 h2 ⊢
      obtain ⟨j, q1, q2, q3, rfl, q5⟩ := kept_way hF h1 F.start hs h rfl
      rw [Int.toNat_natCast, kfin_get F.fin (by omega) q3] at h2 ⊢
      exact ⟨j, d, q5, h2, rfl⟩
    · rintro ⟨t, d, h1, h2, rfl⟩
      obtain ⟨i1, i2, i3, i4, i5, i6⟩ := keep_way hF hp h1 hs (.here (by simp)) h2
      refine ⟨_, d, i6, ?_⟩
      simp only
      rw [Int.toNat_natCast, kfin_get F.fin (by omega) i3]
      exact ⟨h2, rfl⟩
  · have e : kT F p = ⟨1, 0, [-1], [], 0, 0⟩ := by unfold kT; rw [if_neg h]
    rw [e]
    constructor
    · rintro ⟨t, d, h1, h2, rfl⟩
      simp only at h1 h2
      rw [way_none h1] at h2
      exact absurd rfl h2
    · rintro ⟨t, d, h1, h2, rfl⟩
      obtain ⟨i1, i2, i3, i4, i5, i6⟩ := keep_way hF hp h1 hs (.here (by simp)) h2
      exact absurd i5 h

omit hp in
/-- What is useful is a transducer. -/
theorem useful_fst (hsr : Srt F.arcs) (ha : ∀ a ∈ F.arcs, (0 ≤ a.i ∧ a.i ≤ 9) ∧ (0 ≤ a.o ∧ a.o ≤ 9) ∧ 0 ≤ a.w ∧ a.w ≤ 1000000000) (hf : ∀ n ∈ F.fin, -1 ≤ n ∧ n ≤ 1000000000)
    (h1 : (kT F p).st ≤ 200) (h2 : (kT F p).arcs.length ≤ 3000) : fstE (kT F p) = 0 := by
  have hfl := hF.finl
  by_cases h : p F.start.toNat = true
  · have e : kT F p = ⟨(rkB p F.st.toNat : Nat), (rkB p F.start.toNat : Nat), kfin p F.fin F.st.toNat, karc p F.arcs F.arcs.length, 0, 0⟩ := by unfold kT; rw [if_pos h]
    rw [e] at h1 h2 ⊢
    simp only at h1 h2
    have hlt := rkB_lt (p := p) (show F.start.toNat < F.st.toNat by omega) h
    have hkl := kfin_len p F.fin F.st.toNat
    refine fstE_iff.2 ⟨⟨⟨by simp only; omega, h1⟩, ⟨by simp only; omega, by simp only; omega⟩, by simp only; omega, fun n hn => ?_, h2, fun b hb => ?_⟩, karc_srt (fun a ha => ⟨(hF.arc a ha).1, (hF.arc a ha).2.2.1⟩) hsr _ (Nat.le_refl _)⟩
    · simp only at hn
      obtain ⟨j, hj, rfl⟩ := kfin_mem F.fin hn
      exact hf _ (getD_mem F.fin j 0 (by omega))
    · simp only at hb ⊢
      obtain ⟨a, ha', q1, q2, rfl⟩ := mem_karcs.1 hb
      have hr := hF.arc a ha'
      have hx := ha a ha'
      have l1 := rkB_lt (p := p) (show a.f.toNat < F.st.toNat by omega) q1
      have l2 := rkB_lt (p := p) (show a.t.toNat < F.st.toNat by omega) q2
      exact ⟨by simp only [kArc]; omega, by simp only [kArc]; omega, by simp only [kArc]; omega, by simp only [kArc]; omega, hx.1, hx.2.1, hx.2.2.1, hx.2.2.2⟩
  · have e : kT F p = ⟨1, 0, [-1], [], 0, 0⟩ := by unfold kT; rw [if_neg h]
    rw [e]
    exact fstE_iff.2 ⟨⟨⟨by simp only; omega, by simp only; omega⟩, ⟨by simp only; omega, by simp only; omega⟩, by simp, by simp, by simp, by simp⟩, List.Pairwise.nil⟩
end
end Go.Fw

/-
  What is composed: when it may be too great, and what it costs.
-/
namespace Go.Fw
open Go

/-! ### The most of a list -/
def mostL (l : List Int) (m : Int) : Int := l.foldl (fun m x => if m < x then x else m) m
theorem mostL_ge : ∀ (l : List Int) (m : Int), m ≤ mostL l m ∧ ∀ x ∈ l, x ≤ mostL l m
  | [], m => ⟨Int.le_refl _, fun x h => (by cases h)⟩
  | y :: l, m => by
    obtain ⟨h1, h2⟩ := mostL_ge l (if m < y then y else m)
    have e : mostL (y :: l) m = mostL l (if m < y then y else m) := rfl
    rw [e]
    refine ⟨?_, fun x hx => ?_⟩
    · split at h1 <;> split <;> omega
    · rcases List.mem_cons.1 hx with rfl | hx
      · split at h1 <;> split <;> omega
      · exact h2 x hx
theorem mostL_le {B : Int} : ∀ (l : List Int) (m : Int), m ≤ B → (∀ x ∈ l, x ≤ B) → mostL l m ≤ B
  | [], m, h, _ => h
  | y :: l, m, h, hl => by
    have e : mostL (y :: l) m = mostL l (if m < y then y else m) := rfl
    rw [e]
    refine mostL_le l _ ?_ fun x hx => hl x (by simp [hx])
    have := hl y (by simp)
    split <;> omega
theorem mostL_take (l : List Int) (m : Int) (k : Nat) (h : k < l.length) : mostL (l.take (k + 1)) m = if mostL (l.take k) m < l.getD k 0 then l.getD k 0 else mostL (l.take k) m := by
  rw [take_succ_getD l k 0 h]
  unfold mostL
  rw [List.foldl_append]
  rfl
def mostW (F : TF) : Int := mostL F.fin (mostL (F.arcs.map (·.w)) 0)
theorem mostW_arc {F : TF} {a : Arc} (h : a ∈ F.arcs) : a.w ≤ mostW F := by
  have h1 := (mostL_ge (F.arcs.map (·.w)) 0).2 a.w (List.mem_map.2 ⟨a, h, rfl⟩)
  have h2 := (mostL_ge F.fin (mostL (F.arcs.map (·.w)) 0)).1
  unfold mostW
  omega
theorem mostW_fin {F : TF} {x : Int} (h : x ∈ F.fin) : x ≤ mostW F := (mostL_ge F.fin _).2 x h
theorem mostW_ok {F : TF} (hF : FOk F) : 0 ≤ mostW F ∧ mostW F ≤ 1000000000 := by
  refine ⟨?_, mostL_le _ _ (mostL_le _ _ (by omega) fun x hx => ?_) fun x hx => (hF.fin x hx).2⟩
  · have h1 := (mostL_ge (F.arcs.map (·.w)) 0).1
    have h2 := (mostL_ge F.fin (mostL (F.arcs.map (·.w)) 0)).1
    unfold mostW
    omega
  · obtain ⟨a, ha, rfl⟩ := List.mem_map.1 hx
    exact (hF.arc a ha).w1

section
variable {F G : TF} (hF : FOk F) (hG : FOk G)
include hF hG

theorem finP_le {q : Trip} (hq : PRng F G q) : -1 ≤ finP F G q ∧ (finP F G q ≤ mostW F + mostW G) := by
  have hf := hF.finl
  have hg := hG.finl
  have h1 := mostW_ok hF
  have h2 := mostW_ok hG
  have a0 := hq.a0
  have a1 := hq.a1
  have b0 := hq.b0
  have b1 := hq.b1
  have m1 := getD_mem F.fin q.a.toNat 0 (by omega)
  have m2 := getD_mem G.fin q.b.toNat 0 (by omega)
  have k1 := mostW_fin m1
  have k2 := mostW_fin m2
  have l1 := hF.fin _ m1
  have l2 := hG.fin _ m2
  unfold finP
  split <;> omega

theorem steps_le {p : Trip} {s : Stp} (hs : s ∈ steps F G p) : 1000000000 < s.w → 1000000000 < mostW F + mostW G := by
  rcases mem_steps.1 hs with ⟨a, ha, e1, e2, _, rfl⟩ | ⟨a, ha, b, hb, e1, e2, e3, e4, rfl⟩ | ⟨b, hb, e1, e2, rfl⟩
  · intro h
    have h : 1000000000 < a.w := h
    have := (hF.arc a ha).w1
    omega
  · intro h
    have h : 1000000000 < a.w + b.w := h
    have := mostW_arc ha
    have := mostW_arc hb
    omega
  · intro h
    have h : 1000000000 < b.w := h
    have := (hG.arc b hb).w1
    omega

/-- It is too great just if it could be. -/
theorem comp_bad {x : CS} {zs : List Arc} (h : CDone F G x.1.length x) (hn : IsNorm x.2.1 zs) (hb : x.2.2 = true ∨ ∃ p, UsOk (F0 F G x.1 zs) p ∧ (200 < (kT (F0 F G x.1 zs) p).st ∨ 3000 < (kT (F0 F G x.1 zs) p).arcs.length)) :
    200 < 3 * F.st * G.st ∨ 3000 < 3 * ((F.arcs.length : Int) * (G.arcs.length : Int) + (F.arcs.length : Int) * G.st + (G.arcs.length : Int) * F.st) ∨ 1000000000 < mostW F + mostW G := by
  have f1 := hF.st
  have g1 := hG.st
  rcases hb with hb | ⟨p, _, hb⟩
  · refine .inr (.inr ?_)
    rcases h.g hb with ⟨q, hq, hw⟩ | ⟨q, hq, s, hs, hw⟩
    · have := (finP_le hF hG (h.rng q hq).1).2
      omega
    · exact steps_le hF hG hs hw
  · by_cases q : p 0 = true
    · have e : kT (F0 F G x.1 zs) p = ⟨(rkB p x.1.length : Nat), (rkB p 0 : Nat), kfin p (F0 F G x.1 zs).fin x.1.length, karc p zs zs.length, 0, 0⟩ := by
        unfold kT
        have e1 : (F0 F G x.1 zs).start.toNat = 0 := rfl
        have e2 : (F0 F G x.1 zs).st.toNat = x.1.length := Int.toNat_natCast _
        rw [e1, e2, if_pos q]
        rfl
      rw [e] at hb
      simp only at hb
      rcases hb with hb | hb
      · have h1 := rkB_le p x.1.length
        have h2 := CDone.psl hF hG h
        have e3 : ((3 * F.st.toNat * G.st.toNat : Nat) : Int) = 3 * F.st * G.st := by
          rw [Int.natCast_mul, Int.natCast_mul, Int.toNat_of_nonneg (by omega), Int.toNat_of_nonneg (by omega)]
          rfl
        refine .inl ?_
        rw [← e3]
        omega
      · have h1 := karc_len p zs zs.length
        have h2 := CDone.rawl hF hG h
        have h3 := hn.len
        have e3 : ((mostA F G : Nat) : Int) = (F.arcs.length : Int) * (G.arcs.length : Int) + (F.arcs.length : Int) * G.st + (G.arcs.length : Int) * F.st := by
          unfold mostA
          rw [Int.natCast_add, Int.natCast_add, Int.natCast_mul, Int.natCast_mul, Int.natCast_mul, Int.toNat_of_nonneg (by omega), Int.toNat_of_nonneg (by omega)]
        refine .inr (.inl ?_)
        rw [← e3]
        omega
    · have e : kT (F0 F G x.1 zs) p = ⟨1, 0, [-1], [], 0, 0⟩ := by
        unfold kT
        have e1 : (F0 F G x.1 zs).start.toNat = 0 := rfl
        rw [e1, if_neg q]
      rw [e] at hb
      simp only [List.length_nil] at hb
      omega

/-- What is composed is a transducer, and costs the best of all words between. -/
theorem comp_good {x : CS} {zs : List Arc} (l1 : F.st ≤ 12) (l2 : (F.arcs.length : Int) ≤ 100) (l3 : G.st ≤ 12) (l4 : (G.arcs.length : Int) ≤ 100) (h : CDone F G x.1.length x) (hn : IsNorm x.2.1 zs) (hg : x.2.2 = false) {p : Nat → Bool} (hp : UsOk (F0 F G x.1 zs) p)
    (h1 : (kT (F0 F G x.1 zs) p).st ≤ 200) (h2 : (kT (F0 F G x.1 zs) p).arcs.length ≤ 3000) :
    fstE (kT (F0 F G x.1 zs) p) = 0 ∧ ∀ u v n, MinOf (Wt (kT (F0 F G x.1 zs) p) u v) n → MinOf (Comp (Wt F) (Wt G) u v) n := by
  have f1 := hF.st
  have g1 := hG.st
  have hps := CDone.psl hF hG h
  have hraw := CDone.rawl hF hG h
  have hzl := hn.len
  have hnd := h.numd
  obtain ⟨gq, gs⟩ := h.g2 hg
  have b1 : 3 * F.st.toNat * G.st.toNat ≤ 3 * 12 * 12 := Nat.mul_le_mul (Nat.mul_le_mul_left 3 (by omega)) (by omega)
  have b2 : mostA F G ≤ 100 * 100 + 100 * 12 + 100 * 12 := by
    unfold mostA
    have := Nat.mul_le_mul (show F.arcs.length ≤ 100 by omega) (show G.arcs.length ≤ 100 by omega)
    have := Nat.mul_le_mul (show F.arcs.length ≤ 100 by omega) (show G.st.toNat ≤ 12 by omega)
    have := Nat.mul_le_mul (show G.arcs.length ≤ 100 by omega) (show F.st.toNat ≤ 12 by omega)
    omega
  have hfr : FRng (F0 F G x.1 zs) := CDone.frng (ps := x.1) (raw := x.2.1) (g := x.2.2) h hn (by omega) (by omega) 0 0
  have hx : x.1 ≠ [] := fun e => by have := h.first; rw [e] at this; cases this
  have hxl : 0 < x.1.length := List.length_pos_iff.2 hx
  have hs : 0 ≤ (F0 F G x.1 zs).start ∧ (F0 F G x.1 zs).start < (F0 F G x.1 zs).st := ⟨Int.le_refl _, by show (0 : Int) < ((x.1.length : Nat) : Int); omega⟩
  refine ⟨useful_fst hfr hs hn.srt (fun a ha => ?_) (fun n hn => ?_) h1 h2, fun u v n hm => ?_⟩
  · have ha := hn.sub a ha
    obtain ⟨q, hq, s, hs, _, rfl⟩ := hnd.snd a ha
    obtain ⟨k1, k2, k3⟩ := steps_ok hF hG hs
    exact ⟨k1, k2, k3, gs q (by rw [List.take_length]; exact hq) s hs⟩
  · obtain ⟨q, hq, rfl⟩ := List.mem_map.1 hn
    exact ⟨(finP_le hF hG (h.rng q hq).1).1, gq q hq⟩
  · have m1 : MinOf (Wt (F0 F G x.1 zs) u v) n := hm.cong fun c => useful_wt hfr hs hp
    have m2 := IsNorm.min (X := F0 F G x.1 zs) hn m1
    refine m2.cong fun c => ?_
    rw [← pwt_iff]
    refine hnd.wt (fun q hq => ?_) (fun x hx => (hF.fin x hx).1) (fun x hx => (hG.fin x hx).1)
    have := idx_at hq
    show (List.map (finP F G) x.1).getD _ 0 = finP F G q
    rw [List.getD, List.getElem?_map, this]
    rfl
end

/-- The best is no more than what one word between costs. -/
theorem comp_word {F G : TF} {u w v : List Int} {n a b : Int} (h : MinOf (Comp (Wt F) (Wt G) u v) n) (ha : MinOf (Wt F u w) a) (hb : MinOf (Wt G w v) b) (h1 : a ≠ -1) (h2 : b ≠ -1) : n ≠ -1 ∧ n ≤ a + b := by
  rcases ha with ⟨e, _⟩ | ⟨_, ha, _⟩
  · exact absurd e h1
  rcases hb with ⟨e, _⟩ | ⟨_, hb, _⟩
  · exact absurd e h2
  have hc : Comp (Wt F) (Wt G) u v (a + b) := ⟨w, a, b, ha, hb, rfl⟩
  rcases h with ⟨_, h⟩ | ⟨h0, _, h⟩
  · exact absurd hc (h _)
  · exact ⟨by omega, h _ hc⟩
end Go.Fw

namespace Go.Fw
open Go Go.Proofs

end Go.Fw
