/- Walks of the functions: what each computes. -/
import Derived.Test.YtlaenllbacalpaaDoorB18
import Derived.Test.YtlaenllbacalpaaDoorB16
import Derived.Test.YtlaenllbacalpaaDoorB08
import Derived.Test.YtlaenllbacalpaaDoorB10
import Derived.Test.YtlaenllbacalpaaDoorB17

set_option linter.unusedSimpArgs false
set_option linter.unusedVariables false

namespace Go.Fw
open Go Go.Proofs
def LeastOfPost (F : TF) (v : SV) (s : S) : Prop := ∃ (U : TF) (W vs : List (List Int)) (par sym : List Int), IsUs F U ∧
  ((∃ i c, WSt U W vs par sym i c ∧ W.length = 201 ∧ v = .tup [.agg zero25, .c (.i 2)] ∧ s = ⟨[], [], 2⟩) ∨
   (WSt U W vs par sym W.length 1 ∧ W.length ≤ 200 ∧ ∃ (n : Nat) (ff : List Int) (oo : List Arc),
     ((¬ (∃ w c, CW U U.start w c) ∧ n = 1 ∧ ff = [-1] ∧ oo = []) ∨
      ((∃ w c, CW U U.start w c) ∧ ∃ first, lrRows U W vs first.length = (first, oo) ∧ (∀ j, j < first.length → j < (lrRows U W vs j).1.length) ∧ n = first.length ∧ ff = lrF U W vs first first.length)) ∧
     ((greatB oo ff = true ∧ v = .tup [.agg zero25, .c (.i 2)] ∧ s = ⟨[], [], 2⟩) ∨
      (greatB oo ff = false ∧ ∃ sp sq, v = .tup [.agg [.i (n : Nat), .i 0, .sl 2 1 0 ff.length (ff.length + sp), .sl 3 5 0 oo.length (oo.length + sq)], .c (.i 0)] ∧
        s = ⟨[], [(2, .arr true 3 .int ff sp), (3, .arr true 50 .arc oo sq)], 4⟩))))
theorem IsUs.fok {F U : TF} (h : IsUs F U) (hF : FOk F) : FOk U := by
  have hw := WOk.of hF
  obtain ⟨h1, h2, h3⟩ := h.ok hw hF.start
  have hst := hF.st
  have hal := hF.arcl
  have hu1 : 1 ≤ U.st := by omega
  refine ⟨⟨hu1, by omega⟩, h2, h1.finl, h1.fin, ?_, fun a ha => ?_⟩
  · obtain ⟨p, hp, _, _, _, e⟩ := h
    rw [e]
    unfold kT
    split
    · have := karc_len p F.arcs F.arcs.length
      show (karc p F.arcs F.arcs.length).length ≤ 3000
      omega
    · simp
  · obtain ⟨b, hb, e1, e2, e3⟩ := h.arcs ha
    have hb := hF.arc b hb
    have hr := h1.arc a ha
    exact ⟨hr.1, hr.2.1, hr.2.2.1, hr.2.2.2, e1 ▸ hb.i0, e2 ▸ hb.o0, by rw [e3]; exact hb.w0, by rw [e3]; exact hb.w1⟩
structure LZ where
  U : TF
  W : List (List Int)
  vs : List (List Int)
  par : List Int
  sym : List Int
  rows : List Sli
  m : List (Addr × List Int × Nat)
  spU : Nat
  sqU : Nat
  sr : Nat
  sp : Nat
  sy : Nat
abbrev hpLs (U : TF) (W vs : List (List Int)) (rows : List Sli) (m : List (Addr × List Int × Nat)) (par sym : List Int) (spU sqU sr sp sy : Nat) (first : List Nat) (sf sb : Nat) : List (Nat × SO) :=
  [(2, .arr true 3 .int U.fin spU), (3, .arr true 50 .arc U.arcs sqU), (4, .arr true 22 .sli rows sr), (5, .pool 3 .int m), (6, .arr true 3 .int par sp), (7, .arr true 3 .int sym sy),
   (8, .box 36 (cWo U 2 3 4 6 7 rows.length (rows.length + sr) par.length (par.length + sp) sym.length (sym.length + sy))), (9, .box 22 [.sl 11 1 0 first.length (first.length + sf)]), (10, .box 22 [.sl 12 1 0 first.length (first.length + sb)]),
   (11, .arr true 3 .int (first.map fun j : Nat => (j : Int)) sf), (12, .arr true 3 .int (first.map fun j => bstW U W vs W.length j) sb), (13, .box 25 zero25)]
abbrev frLs : List (Nat × SV) := [(2, .c (.ptr 13 0)), (4, .c (.ptr 8 0)), (6, .c (.ptr 9 0)), (7, .c (.ptr 10 0)), (8, .c (.fn 48 [(8, 0), (9, 0), (10, 0)]))]
structure LY where
  first : List Nat
  outs : List Arc
  fi : List Int
  sf : Nat
  sb : Nat
  si : Nat
  so : Nat
abbrev hpLo (U : TF) (W vs : List (List Int)) (rows : List Sli) (m : List (Addr × List Int × Nat)) (par sym : List Int) (spU sqU sr sp sy : Nat) (first : List Nat) (outs : List Arc) (fi : List Int) (sf sb si so : Nat) : List (Nat × SO) :=
  hpLs U W vs rows m par sym spU sqU sr sp sy first sf sb ++ [(14, .box 25 [.i 0, .i 0, .sl 15 1 0 fi.length (fi.length + si), .sl 16 5 0 outs.length (outs.length + so)]), (15, .arr true 3 .int fi si), (16, .arr true 50 .arc outs so)]
end Go.Fw

namespace Go.Fw
open Go Go.Proofs
set_option maxHeartbeats 4000000 in
set_option maxRecDepth 20000 in
theorem equalI_c (a b : List Int) (ca cb : Nat) (ha : a.length ≤ 9223372036854775807) (hl : b.length ≤ 9223372036854775807) :
    Ct Tryd.prog 78 [.c (.sl 0 1 0 a.length ca), .c (.sl 1 1 0 b.length cb)] [] [(0, .arr false 3 .int a 0), (1, .arr false 3 .int b 0)] 2 (fun v s => v = .b (decide (a = b)) ∧ s = ⟨[], [], 2⟩) := by
  refine ctW Tryd.tyOk 6 [12, 13] Tryd.func78 rfl (by simp) (by simp) (fr := [(0, .c (.sl 0 1 0 a.length ca)), (1, .c (.sl 1 1 0 b.length cb))]) rfl ?_
  repeat' (first | exact rfl | ((conv => whnf); first | (refine qX (fun h => ?_) fun h => ?_ <;> try exact absurd h (by omega)) | refine oN ?_ | refine oM ?_ ?_ | refine bM ?_ ?_ | refine dR ?_))
  · have : a ≠ b := fun e => by rw [e] at h; omega
    (conv => whnf)
    exact ⟨[], [], 2, .b (decide (a = b)), ⟨by rfl, trivial, trivial⟩, by simp [this], rfl, rfl⟩
  have hab : a.length = b.length := by omega
  clear h
  (conv => whnf)
  refine loopI (fun k : Nat => ⟨[(0, .c (.sl 0 1 0 a.length ca)), (1, .c (.sl 1 1 0 b.length cb)), (12, .i a.length), (13, .i k)], [(0, .arr false 3 .int a 0), (1, .arr false 3 .int b 0)], 2⟩) (fun k => k ≤ a.length ∧ ∀ j, j < k → a.getD j 0 = b.getD j 0) (fun k => a.length - k) 0 [] ⟨by rfl, ?_, ?_⟩ ⟨Nat.zero_le _, fun j h => absurd h (Nat.not_lt_zero _)⟩ ?_
  · simp
  · simp
  · intro k ⟨hk1, hk2⟩
    (conv => whnf)
    refine condP_dec (fun hk => ?_) (fun hk => ?_)
    · have e0 : 0 + (k : Int).toNat = k := by omega
      repeat' (first | exact rfl | ((conv => whnf); first | (refine qX (fun h => ?_) fun h => ?_ <;> try exact absurd h (by omega)) | refine oN ?_ | refine oM ?_ ?_ | refine bM ?_ ?_ | refine dR ?_))
      · simp only [Nat.zero_add, Int.toNat_natCast, EK.dflt] at h
        have : a ≠ b := fun e => h (by rw [e])
        (conv => whnf)
        exact ⟨[], [], 2, .b (decide (a = b)), ⟨by rfl, trivial, trivial⟩, by simp [this], rfl, rfl⟩
      · simp only [Nat.zero_add, Int.toNat_natCast, EK.dflt] at h
        (conv => whnf)
        refine ⟨k + 1, [], ⟨by rfl, ?_, ?_⟩, ⟨by omega, fun j hj => ?_⟩, by omega⟩
        · simp
        · simp
        · exact if e : j = k then e ▸ (by omega) else hk2 j (by omega)
    · have : a = b := sameTake a b hab fun j hj => hk2 j (by omega)
      repeat' (first | exact rfl | ((conv => whnf); first | (refine qX (fun h => ?_) fun h => ?_ <;> try exact absurd h (by omega)) | refine oN ?_ | refine oM ?_ ?_ | refine bM ?_ ?_ | refine dR ?_))
      (conv => whnf)
      exact ⟨[], [], 2, .b (decide (a = b)), ⟨by rfl, trivial, trivial⟩, by simp [this], rfl, rfl⟩
set_option maxHeartbeats 4000000 in
set_option maxRecDepth 20000 in
theorem equalA_c (a b : List Arc) (ca cb : Nat) (ha : a.length ≤ 9223372036854775807) (hl : b.length ≤ 9223372036854775807) :
    Ct Tryd.prog 79 [.c (.sl 0 5 0 a.length ca), .c (.sl 1 5 0 b.length cb)] [] [(0, .arr false 50 .arc a 0), (1, .arr false 50 .arc b 0)] 2 (fun v s => v = .b (decide (a = b)) ∧ s = ⟨[], [], 2⟩) := by
  refine ctW Tryd.tyOk 6 [12, 13] Tryd.func79 rfl (by simp) (by simp) (fr := [(0, .c (.sl 0 5 0 a.length ca)), (1, .c (.sl 1 5 0 b.length cb))]) rfl ?_
  repeat' (first | exact rfl | ((conv => whnf); first | (refine qX (fun h => ?_) fun h => ?_ <;> try exact absurd h (by omega)) | refine oN ?_ | refine oM ?_ ?_ | refine bM ?_ ?_ | refine dR ?_))
  · have : a ≠ b := fun e => by rw [e] at h; omega
    (conv => whnf)
    exact ⟨[], [], 2, .b (decide (a = b)), ⟨by rfl, trivial, trivial⟩, by simp [this], rfl, rfl⟩
  have hab : a.length = b.length := by omega
  clear h
  (conv => whnf)
  refine loopI (fun k : Nat => ⟨[(0, .c (.sl 0 5 0 a.length ca)), (1, .c (.sl 1 5 0 b.length cb)), (12, .i a.length), (13, .i k)], [(0, .arr false 50 .arc a 0), (1, .arr false 50 .arc b 0)], 2⟩) (fun k => k ≤ a.length ∧ ∀ j, j < k → a.getD j EK.arc.dflt = b.getD j EK.arc.dflt) (fun k => a.length - k) 0 [] ⟨by rfl, ?_, ?_⟩ ⟨Nat.zero_le _, fun j h => absurd h (Nat.not_lt_zero _)⟩ ?_
  · simp
  · simp
  · intro k ⟨hk1, hk2⟩
    (conv => whnf)
    refine condP_dec (fun hk => ?_) (fun hk => ?_)
    · have e0 : 0 + (k : Int).toNat = k := by omega
      repeat' (first | exact rfl | ((conv => whnf); first | (refine qX (fun h => ?_) fun h => ?_ <;> try exact absurd h (by omega)) | refine oN ?_ | refine oM ?_ ?_ | refine bM ?_ ?_ | refine dR ?_))
      · rw [arcEq] at h
        simp only [Nat.zero_add, Int.toNat_natCast, Bool.not_eq_true', decide_eq_false_iff_not] at h
        have : a ≠ b := fun e => h (by rw [e])
        (conv => whnf)
        exact ⟨[], [], 2, .b (decide (a = b)), ⟨by rfl, trivial, trivial⟩, by simp [this], rfl, rfl⟩
      · rw [arcEq] at h
        simp only [Nat.zero_add, Int.toNat_natCast, Bool.not_eq_false', decide_eq_true_eq, Bool.not_eq_true', Bool.not_eq_false, decide_eq_false_iff_not, Decidable.not_not] at h
        (conv => whnf)
        refine ⟨k + 1, [], ⟨by rfl, ?_, ?_⟩, ⟨by omega, fun j hj => ?_⟩, by omega⟩
        · simp
        · simp
        · exact if e : j = k then e ▸ h else hk2 j (by omega)
    · have : a = b := sameTakeA a b hab fun j hj => hk2 j (by omega)
      repeat' (first | exact rfl | ((conv => whnf); first | (refine qX (fun h => ?_) fun h => ?_ <;> try exact absurd h (by omega)) | refine oN ?_ | refine oM ?_ ?_ | refine bM ?_ ?_ | refine dR ?_))
      (conv => whnf)
      exact ⟨[], [], 2, .b (decide (a = b)), ⟨by rfl, trivial, trivial⟩, by simp [this], rfl, rfl⟩
set_option maxHeartbeats 4000000 in
set_option maxRecDepth 20000 in
theorem same2_c (F G : TF) (h1 : F.fin.length ≤ 9223372036854775807) (h2 : G.fin.length ≤ 9223372036854775807) (h3 : F.arcs.length ≤ 9223372036854775807) (h4 : G.arcs.length ≤ 9223372036854775807) :
    Ct Tryd.prog 54 [fV F, gV G] [] (hpG F G) 4 (fun v s => v = .b (sameF F G) ∧ s = ⟨[], [], 4⟩) := by
  have hs : sameF F G = (decide (F.st = G.st) && (decide (F.start = G.start) && (decide (F.fin = G.fin) && decide (F.arcs = G.arcs)))) := by
    unfold sameF
    simp only [Bool.decide_and]
  have cI := equalI_c F.fin G.fin F.capF G.capF h1 h2
  have cA := equalA_c F.arcs G.arcs F.capA G.capA h3 h4
  generalize decide (F.fin = G.fin) = bf at *
  generalize decide (F.arcs = G.arcs) = ba at *
  refine ctC Tryd.tyOk Tryd.func54 rfl (by simp [gV]) (by simp) (fr := [(0, fV F), (1, gV G)]) rfl ?_
  refine SemC.of Tryd.tyOk 5 [] ?_
  by_cases e1 : F.st = G.st
  · by_cases e2 : F.start = G.start
    · rw [decide_eq_true e1, decide_eq_true e2, Bool.true_and, Bool.true_and] at hs
      repeat' (first | exact rfl | ((conv => whnf); first | (refine qX (fun h => ?_) fun h => ?_ <;> try exact absurd h (by omega)) | refine oN ?_ | refine oM ?_ ?_ | refine bM ?_ ?_ | refine dR ?_))
      all_goals try (exfalso; omega)
      all_goals (conv => whnf)
      refine cF (cI) [0, 2] Tryd.call78 ?_
      rintro _ _ ⟨rfl, rfl⟩
      cases bf with
      | false =>
        repeat' (first | exact rfl | ((conv => whnf); first | (refine qX (fun h => ?_) fun h => ?_ <;> try exact absurd h (by omega)) | refine oN ?_ | refine oM ?_ ?_ | refine bM ?_ ?_ | refine dR ?_ | intro _))
        (conv => whnf)
        exact ⟨[], [], 4, .b (sameF F G), ⟨by rfl, trivial, by simp⟩, by simp [hs], rfl, rfl⟩
      | true =>
        repeat' (first | exact rfl | ((conv => whnf); first | (refine qX (fun h => ?_) fun h => ?_ <;> try exact absurd h (by omega)) | refine oN ?_ | refine oM ?_ ?_ | refine bM ?_ ?_ | refine dR ?_ | intro _))
        (conv => whnf)
        refine cF (cA) [1, 3] Tryd.call79 ?_
        rintro _ _ ⟨rfl, rfl⟩
        repeat' (first | exact rfl | ((conv => whnf); first | (refine qX (fun h => ?_) fun h => ?_ <;> try exact absurd h (by omega)) | refine oN ?_ | refine oM ?_ ?_ | refine bM ?_ ?_ | refine dR ?_ | intro _))
        (conv => whnf)
        exact ⟨[], [], 4, .b (sameF F G), ⟨by rfl, trivial, by simp⟩, by simp [hs], rfl, rfl⟩
    · rw [decide_eq_true e1, decide_eq_false e2, Bool.true_and, Bool.false_and] at hs
      repeat' (first | exact rfl | ((conv => whnf); first | (refine qX (fun h => ?_) fun h => ?_ <;> try exact absurd h (by omega)) | refine oN ?_ | refine oM ?_ ?_ | refine bM ?_ ?_ | refine dR ?_))
      all_goals try (exfalso; omega)
      all_goals
        (conv => whnf)
        exact ⟨[], [], 4, .b (sameF F G), ⟨by rfl, trivial, by simp⟩, by simp [hs, e1, e2], rfl, rfl⟩
  · rw [decide_eq_false e1, Bool.false_and] at hs
    repeat' (first | exact rfl | ((conv => whnf); first | (refine qX (fun h => ?_) fun h => ?_ <;> try exact absurd h (by omega)) | refine oN ?_ | refine oM ?_ ?_ | refine bM ?_ ?_ | refine dR ?_))
    all_goals try (exfalso; omega)
    all_goals
      (conv => whnf)
      exact ⟨[], [], 4, .b (sameF F G), ⟨by rfl, trivial, by simp⟩, by simp [hs, e1], rfl, rfl⟩
set_option maxHeartbeats 4000000 in
set_option maxRecDepth 20000 in
theorem Least_c (F : TF) (hl : F.fin.length ≤ 9223372036854775807) (x : Obj) (hx : TabX x) : Ct Tryd.prog 21 [fV F] [] (hpF F ++ [(2, tabO x)]) 3 (LeastPost F x) := by
  refine ctW Tryd.tyOk 4 [] Tryd.func21 rfl (by simp) (by simp) (fr := [(0, fV F)]) rfl ?_
  repeat' (first | exact rfl | ((conv => whnf); first | (refine qX (fun h => ?_) fun h => ?_ <;> try exact absurd h (by omega)) | refine oN ?_ | refine oM ?_ ?_ | refine bM ?_ ?_ | refine dR ?_))
  (conv => whnf)
  refine cF (least_c F hl x hx) [0, 1, 2] Tryd.call46 ?_
  rintro v s (⟨h1, rfl, rfl⟩ | ⟨h1, U, hus, ⟨h2, rfl, rfl⟩ | ⟨h2, st, hmd, n, ff, oo, hls, ⟨hg, rfl, rfl⟩ | ⟨hg, sp, sq, rfl, rfl⟩⟩⟩)
  · repeat' (first | exact rfl | ((conv => whnf); first | (refine qX (fun h => ?_) fun h => ?_ <;> try exact absurd h (by omega)) | refine oN ?_ | refine oM ?_ ?_ | refine bM ?_ ?_ | refine dR ?_ | intro _))
    (conv => whnf)
    exact ⟨[], [(2, tabO x)], 3, .tup [.agg zero25, .c (.i (leastE F))], ⟨by rfl, trivial, by simp⟩, by simp, .inl ⟨h1, rfl, rfl⟩⟩
  · repeat' (first | exact rfl | ((conv => whnf); first | (refine qX (fun h => ?_) fun h => ?_ <;> try exact absurd h (by omega)) | refine oN ?_ | refine oM ?_ ?_ | refine bM ?_ ?_ | refine dR ?_ | intro _))
    (conv => whnf)
    exact ⟨[], [(2, tabO x)], 3, .tup [.agg zero25, .c (.i 2)], ⟨by rfl, trivial, by simp⟩, by simp, .inr ⟨h1, U, hus, .inl ⟨h2, rfl, rfl⟩⟩⟩
  · repeat' (first | exact rfl | ((conv => whnf); first | (refine qX (fun h => ?_) fun h => ?_ <;> try exact absurd h (by omega)) | refine oN ?_ | refine oM ?_ ?_ | refine bM ?_ ?_ | refine dR ?_ | intro _))
    (conv => whnf)
    exact ⟨[], [(2, tabO x)], 3, .tup [.agg zero25, .c (.i 2)], ⟨by rfl, trivial, by simp⟩, by simp, .inr ⟨h1, U, hus, .inr ⟨h2, st, hmd, n, ff, oo, hls, .inl ⟨hg, rfl, rfl⟩⟩⟩⟩
  · repeat' (first | exact rfl | ((conv => whnf); first | (refine qX (fun h => ?_) fun h => ?_ <;> try exact absurd h (by omega)) | refine oN ?_ | refine oM ?_ ?_ | refine bM ?_ ?_ | refine dR ?_ | intro _))
    (conv => whnf)
    try simp only [Nat.reduceAdd, Nat.reduceSub]
    exact ⟨[(3, some 5), (4, some 6)], [(2, tabO x), (3, .arr true 3 .int ff sp), (4, .arr true 50 .arc oo sq)], 5, .tup [.agg [.i (n : Nat), .i 0, .sl 3 1 0 ff.length (ff.length + sp), .sl 4 5 0 oo.length (oo.length + sq)], .c (.i 0)], ⟨by rfl, trivial, by simp⟩, by simp, .inr ⟨h1, U, hus, .inr ⟨h2, st, hmd, n, ff, oo, hls, .inr ⟨hg, sp, sq, rfl, rfl⟩⟩⟩⟩
end Go.Fw

namespace Go.Fw
open Go Go.Proofs
def chain (D : Trip → Option Fnd) : Nat → Trip → List Int
  | 0, _ => []
  | n + 1, y => match D y with
    | none => []
    | some c => if 0 ≤ c.arc then c.arc :: chain D n ⟨c.s, c.i, c.o⟩ else []
theorem chain_stop {D : Trip → Option Fnd} {y : Trip} {c : Fnd} (h : D y = some c) (ha : ¬ c.arc ≥ 0) (n : Nat) : chain D n y = [] := by
  cases n with
  | zero => rfl
  | succ n => simp only [chain, h]; exact if_neg ha
theorem chain_on {D : Trip → Option Fnd} {y : Trip} {c : Fnd} (h : D y = some c) (ha : c.arc ≥ 0) (n : Nat) : chain D (n + 1) y = c.arc :: chain D n ⟨c.s, c.i, c.o⟩ := by
  simp only [chain, h]; exact if_pos ha
theorem endF_D {D : Trip → Option Int} {fin : List Int} {p q : Int} : ∀ k, (endF D fin p q k).2 ≠ -1 → ∃ d, D (endF D fin p q k).1 = some d
  | 0, h => absurd rfl h
  | k + 1, h => by
    cases hd : D ⟨k, p, q⟩ with
    | none => rw [endF_none hd] at h ⊢; exact endF_D k h
    | some d =>
      by_cases c : fin.getD k 0 ≠ -1 ∧ ((endF D fin p q k).2 = -1 ∨ d + fin.getD k 0 < (endF D fin p q k).2)
      · rw [endF_yes hd c.1 c.2]; exact ⟨d, hd⟩
      · have e : endF D fin p q (k + 1) = endF D fin p q k := by simp only [endF, hd]; exact if_neg c
        rw [e] at h ⊢
        exact endF_D k h
def WalkIs (F : TF) (u v : List Int) (E : Trip × Int) (l : List Int) : Prop :=
  ∃ D ord rk B n, Dj F u v D ord rk B (fun _ _ => True) ∧ (∀ y d, D y = some d → d.dn = true) ∧ E = endF (fun y => (D y).map (·.cost)) F.fin u.length v.length F.fin.length ∧ rk E.1 < n ∧ l.reverse = chain D n E.1
set_option maxHeartbeats 8000000 in
set_option maxRecDepth 20000 in
theorem walkP_c (F : TF) (u v : List Int) (cu cv : Nat) (hl : F.fin.length ≤ 9223372036854775807) (hsc : scoreE F u v = 0) :
    Ct Tryd.prog 43 [fV F, .c (.sl 2 1 0 u.length cu), .c (.sl 3 1 0 v.length cv)] [] (hpQ F u v) 4 (fun x s =>
      (∃ A, IsLeast F u v (fromSt F) A ∧ (endF A F.fin u.length v.length F.fin.length).2 = -1 ∧ x = .tup [.c (.v (.slice none 0 0)), .c (.i (-1)), .c (.i 0)] ∧ s = ⟨[], [], 4⟩) ∨
      ∃ E l sp, WalkIs F u v E l ∧ E.2 ≠ -1 ∧ x = .tup [.c (.sl 4 1 0 l.length (l.length + sp)), .c (.i E.2), .c (.i 0)] ∧ s = ⟨[], [(4, .arr true 3 .int l sp)], 5⟩) := by
  refine ctW Tryd.tyOk 15 [] Tryd.func43 rfl (by simp) (by simp) (fr := [(0, fV F), (1, .c (.sl 2 1 0 u.length cu)), (2, .c (.sl 3 1 0 v.length cv))]) rfl ?_
  repeat' (first | exact rfl | ((conv => whnf); first | (refine qX (fun h => ?_) fun h => ?_ <;> try exact absurd h (by omega)) | refine oN ?_ | refine oM ?_ ?_ | refine bM ?_ ?_ | refine dR ?_))
  (conv => whnf)
  refine cF (walk_ok F u v cu cv hl hsc) [0, 1, 2, 3] Tryd.call45 ?_
  rintro _ _ ⟨rows, pi, es, clk, pf, ⟨hm, ord, rk, B, hol, hD, hB, hall⟩, rfl, rfl⟩
  have hL := hD.least hall
  have hed := endF_D (D := costOf es pf) (fin := F.fin) (p := u.length) (q := v.length) F.fin.length
  generalize hE : endF (costOf es pf) F.fin u.length v.length F.fin.length = E at *
  obtain ⟨⟨E1, E2, E3⟩, Ec⟩ := E
  simp only at hed ⊢
  repeat' (first | exact rfl | ((conv => whnf); first | (refine qX (fun h => ?_) fun h => ?_ <;> try exact absurd h (by omega)) | refine oN ?_ | refine oM ?_ ?_ | refine bM ?_ ?_ | refine dR ?_))
  · (conv => whnf)
    refine ⟨[], [], 4, .tup [.c (.v (.slice none 0 0)), .c (.i (-1)), .c (.i 0)], ⟨by rfl, trivial, trivial⟩, by simp [h], .inl ⟨costOf es pf, hL, ?_, rfl, rfl⟩⟩
    rw [hE]
    exact h
  obtain ⟨d0, hd0⟩ := hed h
  obtain ⟨d, hd, -⟩ := Option.map_eq_some_iff.1 hd0
  obtain ⟨a, nn, r1, r2, r3, r4⟩ := hm.of hd
  have e1 : (@lkM EK.trip.ty EK.adr.ty (EK.instDeq .trip) es (⟨E1, E2, E3⟩ : Trip)).getD EK.adr.dflt = some a := congrArg (fun x => Option.getD x none) r3
  have hmem : ∀ y d, metOf es pf y = some d → y ∈ ord := fun y d hy => (hD.dn y d hy).1 (hall y d hy)
  repeat' (first | exact rfl | ((conv => whnf); first | (refine qX (fun h => ?_) fun h => ?_ <;> try exact absurd h (by omega)) | refine oN ?_ | refine oM ?_ ?_ | refine bM ?_ ?_ | refine dR ?_))
  (conv => whnf)
  rw [e1]
  refine loopI (fun y : List Int × Nat × Addr × Trip × Nat => ⟨[(6, .c (.v (.slice none 0 0))), (7, .i 0), (8, .i 0), (9, .c (.ptr 5 0)), (10, .c (.ptr 10 0)), (11, .i Ec), (12, .i 0), (13, .c (.sl 11 1 0 y.1.length (y.1.length + y.2.1))), (14, .c (.q (some y.2.2.1)))],
    (4, .box 25 (fCells F)) :: (5, .box 90 [.i F.st, .i F.start, .sl 0 1 0 F.fin.length F.capF, .sl 1 5 0 F.arcs.length F.capA, .sl 2 1 0 u.length cu, .sl 3 1 0 v.length cv, .sl 6 1 0 rows.length rows.length, .mp 9]) :: (8, .pool 92 .fnd pf) :: (9, .map .trip .adr es clk) :: (10, .box 64 [.i E1, .i E2, .i E3]) :: (11, .arr true 3 .int y.1 y.2.1) :: hpQ F u v, 12⟩)
    (fun y => (∃ c, metOf es pf y.2.2.2.1 = some c ∧ rowA pf (some y.2.2.1) = [c]) ∧ rk y.2.2.2.1 < y.2.2.2.2 ∧ y.1 ++ chain (metOf es pf) y.2.2.2.2 y.2.2.2.1 = chain (metOf es pf) (rk ⟨E1, E2, E3⟩ + 1) ⟨E1, E2, E3⟩ ∧ y.1.length + y.2.2.2.2 ≤ 336200) (fun y => y.2.2.2.2) ([], 0, a, ⟨E1, E2, E3⟩, rk ⟨E1, E2, E3⟩ + 1) [(11, none)] ⟨by rfl, ?_, ?_⟩ ⟨⟨d, hd, r4⟩, Nat.lt_succ_self _, rfl, ?_⟩ ?_
  · simp
  · simp [fCells, nilO]
  · have := hD.rkl _ (hmem _ _ hd)
    simp only [List.length_nil]
    omega
  · rintro ⟨l, sp, b, y, fu⟩ ⟨⟨c, hc, hrow⟩, hfu, hch, hlen⟩
    simp only at hc hrow hfu hch hlen ⊢
    have hcl : 0 < (rowA pf (some b)).length := by rw [hrow]; exact Nat.one_pos
    have ec : (rowA pf (some b)).getD 0 EK.fnd.dflt = c := by rw [hrow]; rfl
    have hby := hD.by' y c hc
    repeat' (first | exact rfl | ((conv => whnf); first | (refine qX (fun h => ?_) fun h => ?_ <;> try exact absurd h (by omega)) | refine oN ?_ | refine oM ?_ ?_ | refine bM ?_ ?_ | refine dR ?_))
    · intro sp2
      repeat' (first | exact rfl | ((conv => whnf); first | (refine qX (fun h => ?_) fun h => ?_ <;> try exact absurd h (by omega)) | refine oN ?_ | refine oM ?_ ?_ | refine bM ?_ ?_ | refine dR ?_))
      rw [ec] at h
      obtain ⟨n, z, cz, w, g1, g2, g3, g4, g5, g6, g7, g8, g9⟩ : ∃ (n : Nat) (z : Trip) (cz : Fnd) (w : Int), c.arc = (n : Int) ∧ c.s = z.a ∧ c.i = z.b ∧ c.o = z.c ∧ z ∈ ord ∧ metOf es pf z = some cz ∧ Edge F u v z n y w ∧ c.cost = cz.cost + w ∧ (y ∈ ord → rk z < rk y) := by
        rcases hby with ⟨_, _, q⟩ | q
        · omega
        · exact q
      have hz : z = ⟨c.s, c.i, c.o⟩ := by rw [g2, g3, g4]
      subst hz
      obtain ⟨b', nb, s1, s2, s3, s4⟩ := hm.of g6
      have e2 : (@lkM EK.trip.ty EK.adr.ty (EK.instDeq .trip) es (⟨c.s, c.i, c.o⟩ : Trip)).getD EK.adr.dflt = some b' := congrArg (fun x => Option.getD x none) s3
      have hrk := g9 (hmem y c hc)
      obtain ⟨fu', rfl⟩ : ∃ fu', fu = fu' + 1 := ⟨fu - 1, by omega⟩
      rw [chain_on hc h] at hch
      (conv => whnf)
      rw [ec, e2]
      refine ⟨(l ++ [c.arc], sp2, b', ⟨c.s, c.i, c.o⟩, fu'), [(11, some 13)], ⟨by rfl, ?_, ?_⟩, ⟨⟨cz, g6, s4⟩, by simp only; omega, by simpa using hch, by simp only [List.length_append, List.length_cons, List.length_nil]; omega⟩, by simp only; omega⟩
      · simp
      · simp [fCells]
        exact (app_one l _ _ rfl).symm
    · rw [ec] at h
      rw [chain_stop hc h, List.append_nil] at hch
      (conv => whnf)
      refine cF (reverse_c l (l.length + sp) sp (by omega)) [11] Tryd.call69 ?_
      rintro _ _ ⟨rfl, rfl⟩
      repeat' (first | exact rfl | ((conv => whnf); first | (refine qX (fun h => ?_) fun h => ?_ <;> try exact absurd h (by omega)) | refine oN ?_ | refine oM ?_ ?_ | refine bM ?_ ?_ | refine dR ?_))
      (conv => whnf)
      refine ⟨[(4, some 11)], [(4, .arr true 3 .int l.reverse sp)], 5, .tup [.c (.sl 4 1 0 l.reverse.length (l.reverse.length + sp)), .c (.i Ec), .c (.i 0)], ⟨by rfl, trivial, by simp⟩, by simp, .inr ⟨(⟨E1, E2, E3⟩, Ec), l.reverse, sp, ⟨metOf es pf, ord, rk, B, rk ⟨E1, E2, E3⟩ + 1, hD, hall, hE.symm, Nat.lt_succ_self _, ?_⟩, by assumption, rfl, rfl⟩⟩
      rw [List.reverse_reverse]
      exact hch
end Go.Fw

namespace Go.Fw
open Go Go.Proofs
theorem one_edge {u v : List Int} {x y : Trip} {n : Nat} {w : Int} (h : Edge oneT u v x n y w) : n = 0 ∧ x.a = 0 ∧ w = 5 ∧ (fitE u x.b 1).2 = true ∧ (fitE v x.c 2).2 = true ∧ y = ⟨1, (fitE u x.b 1).1, (fitE v x.c 2).1⟩ := by
  obtain ⟨a, h1, h2, h3, h4, h5, h6⟩ := h
  have hn : n = 0 := by
    have := (List.getElem?_eq_some_iff.1 h1).1
    simp only [oneT, List.length_cons, List.length_nil] at this
    omega
  subst hn
  simp only [oneT, List.getElem?_cons_zero, Option.some.injEq] at h1
  subst h1
  exact ⟨rfl, h2.symm, h6, h3, h4, h5⟩
theorem one_reach {u v : List Int} {c : Int} {y : Trip} (h : Reach oneT u v (fromSt oneT) c y) : (y = ⟨0, 0, 0⟩ ∧ c = 0) ∨ (y = ⟨1, 1, 1⟩ ∧ c = 5 ∧ 0 < u.length) := by
  induction h with
  | here h => exact .inl ⟨h.1, h.2⟩
  | on hr he ih =>
    obtain ⟨_, h2, h3, h4, h5, h6⟩ := one_edge he
    rcases ih with ⟨rfl, rfl⟩ | ⟨rfl, _⟩
    · right
      refine ⟨?_, by omega, ?_⟩
      · rw [h6]
        rfl
      · unfold fitE at h4
        simp only [show (1 : Int) ≠ 0 by decide, if_false, decide_eq_true_eq] at h4
        omega
    · cases h2
theorem one_end {A : Trip → Option Int} (hA : IsLeast oneT [1] [2] (fromSt oneT) A) : A ⟨1, 1, 1⟩ = some 5 ∧ endF A [-1, 1] 1 1 2 = (⟨1, 1, 1⟩, 6) := by
  have h0 : Reach oneT [1] [2] (fromSt oneT) 0 ⟨0, 0, 0⟩ := .here ⟨rfl, rfl⟩
  have he : Edge oneT [1] [2] ⟨0, 0, 0⟩ 0 ⟨1, 1, 1⟩ 5 := ⟨⟨0, 1, 2, 1, 5⟩, rfl, rfl, rfl, rfl, rfl, rfl⟩
  have h1 : Reach oneT [1] [2] (fromSt oneT) (0 + 5) ⟨1, 1, 1⟩ := .on h0 he
  obtain ⟨c, h2, h3⟩ := hA.least _ _ h1
  have h4 : A ⟨1, 1, 1⟩ = some 5 := by
    rcases one_reach (hA.path _ _ h2) with ⟨q, _⟩ | ⟨_, q, _⟩
    · cases q
    · rw [h2, q]
  refine ⟨h4, ?_⟩
  have e1 : endF A [-1, 1] 1 1 1 = (⟨0, 0, 0⟩, -1) := by
    cases hd : A ⟨((0 : Nat) : Int), 1, 1⟩ with
    | none => exact endF_none hd
    | some d => exact endF_no hd (.inl rfl)
  have := endF_yes (D := A) (fin := [-1, 1]) (p := 1) (q := 1) (k := 1) (d := 5) h4 (by decide) (.inl (by rw [e1]))
  exact this
theorem one_nil {A : Trip → Option Int} (hA : IsLeast oneT [] [] (fromSt oneT) A) : (endF A [-1, 1] 0 0 2).2 = -1 := by
  have h4 : A ⟨((1 : Nat) : Int), 0, 0⟩ = none := by
    cases h : A ⟨((1 : Nat) : Int), 0, 0⟩ with
    | none => rfl
    | some c =>
      rcases one_reach (hA.path _ _ h) with ⟨q, _⟩ | ⟨q, _⟩
      · cases q
      · cases q
  have e1 : endF A [-1, 1] 0 0 1 = (⟨0, 0, 0⟩, -1) := by
    cases hd : A ⟨((0 : Nat) : Int), 0, 0⟩ with
    | none => exact endF_none hd
    | some d => exact endF_no hd (.inl rfl)
  rw [endF_none h4, e1]
theorem one_walk {E : Trip × Int} {l : List Int} (h : WalkIs oneT [1] [2] E l) : E.2 = 6 ∧ l = [0] := by
  obtain ⟨D, ord, rk, B, n, hD, hall, hE, hn, hl⟩ := h
  have h1 := one_end (hD.least hall)
  have hE2 : E = (⟨1, 1, 1⟩, 6) := hE.trans h1.2
  subst hE2
  refine ⟨rfl, ?_⟩
  obtain ⟨d, hd, _⟩ := Option.map_eq_some_iff.1 h1.1
  obtain ⟨m, rfl⟩ : ∃ m, n = m + 1 := ⟨n - 1, by omega⟩
  have key : chain D (m + 1) ⟨1, 1, 1⟩ = [0] := by
    rcases hD.by' _ d hd with ⟨q, _⟩ | ⟨k, x, c, w, g1, g2, g3, g4, g5, g6, g7, _, _⟩
    · cases q
    · obtain ⟨rfl, q2, q3, q4, q5, q6⟩ := one_edge g7
      have hx : x = ⟨0, 0, 0⟩ := by
        rcases one_reach ((hD.least hall).path x c.cost (by simp [g6])) with ⟨q, _⟩ | ⟨q, _⟩
        · exact q
        · rw [q] at q2; cases q2
      subst hx
      have e : (⟨d.s, d.i, d.o⟩ : Trip) = ⟨0, 0, 0⟩ := by rw [g2, g3, g4]
      rw [chain_on hd (by omega), g1, e]
      congr 1
      rcases hD.by' _ c g6 with ⟨_, _, q⟩ | ⟨k, x, c', w, _, _, _, _, _, _, q, _, _⟩
      · exact chain_stop g6 (by omega) m
      · have := (one_edge q).2.2.2.2.2
        cases this
  rw [key] at hl
  have := congrArg List.reverse hl
  rwa [List.reverse_reverse] at this
end Go.Fw

namespace Go.Fw
open Go Go.Proofs
theorem one_sc1 : scoreE oneT [1] [2] = 0 := by decide
theorem one_sc0 : scoreE oneT [] [] = 0 := by decide
set_option maxHeartbeats 8000000 in
set_option maxRecDepth 20000 in
theorem scoreBegun_c : Ct Tryd.prog 18 [] [] [] 0 (Is 0 (.b true)) := by
  refine ctW Tryd.tyOk 8 [] Tryd.func18 rfl (by simp) (by simp) (fr := []) rfl ?_
  repeat' (first | exact rfl | ((conv => whnf); first | (refine qX (fun h => ?_) fun h => ?_ <;> try exact absurd h (by omega)) | refine oN ?_ | refine oM ?_ ?_ | refine bM ?_ ?_ | refine dR ?_))
  (conv => whnf)
  refine cF (one_c) [] Tryd.call42 ?_
  rintro _ _ ⟨rfl, rfl⟩
  (conv => whnf)
  refine callF (score_ok oneT [1] [2] 1 1 (by decide) one_sc1) [0, 1, 2, 3] Tryd.call20 rfl (by simp [oneT, oneV]) (by simp [oneT, oneV]) (by simp) ?_
  rintro _ _ ⟨A, hA, rfl, rfl⟩
  have hA2 := (one_end hA).2
  rw [show (endF A oneT.fin (([1] : List Int).length : Int) (([2] : List Int).length : Int) oneT.fin.length) = endF A [-1, 1] 1 1 2 from rfl, hA2]
  clear hA hA2
  repeat' (first | exact rfl | ((conv => whnf); first | (refine qX (fun h => ?_) fun h => ?_ <;> try exact absurd h (by omega)) | refine oN ?_ | refine oM ?_ ?_ | refine bM ?_ ?_ | refine dR ?_))
  (conv => whnf)
  refine cF (one_c) [] Tryd.call42 ?_
  rintro _ _ ⟨rfl, rfl⟩
  (conv => whnf)
  refine callNil 3 .int (args' := [SV.a (SA.agg [SC.i 2, SC.i 0, SC.sl 4 1 0 2 2, SC.sl 5 5 0 1 1]), .c (.sl 6 1 0 0 0), .c (.v (.slice none 0 0))]) (fun β => by simp [SV.den, SA.den, SC.den, Env.add]) ?_
  (conv => whnf)
  refine callNil 3 .int (args' := [SV.a (SA.agg [SC.i 2, SC.i 0, SC.sl 4 1 0 2 2, SC.sl 5 5 0 1 1]), .c (.sl 6 1 0 0 0), .c (.sl 7 1 0 0 0)]) (fun β => by simp [SV.den, SA.den, SC.den, Env.add]) ?_
  (conv => whnf)
  refine callF (score_ok oneT [] [] 0 0 (by decide) one_sc0) [4, 5, 6, 7] Tryd.call20 rfl (by simp [oneT, oneV]) (by simp [oneT, oneV]) (by simp) ?_
  rintro _ _ ⟨A, hA, rfl, rfl⟩
  have hA2 := one_nil hA
  rw [show (endF A oneT.fin (([] : List Int).length : Int) (([] : List Int).length : Int) oneT.fin.length).2 = (endF A [-1, 1] 0 0 2).2 from rfl, hA2]
  clear hA hA2
  repeat' (first | exact rfl | ((conv => whnf); first | (refine qX (fun h => ?_) fun h => ?_ <;> try exact absurd h (by omega)) | refine oN ?_ | refine oM ?_ ?_ | refine bM ?_ ?_ | refine dR ?_))
  (conv => whnf)
  refine cF (one_c) [] Tryd.call42 ?_
  rintro _ _ ⟨rfl, rfl⟩
  (conv => whnf)
  refine callF (walkP_c oneT [1] [2] 1 1 (by decide) one_sc1) [8, 9, 10, 11] Tryd.call43 rfl (by simp [oneT, oneV]) (by simp [oneT, oneV]) (by simp) ?_
  rintro x s (⟨A, hA, hA2, _⟩ | ⟨E, l, sp, hW, hE, rfl, rfl⟩)
  · have h1 := (one_end hA).2
    have h2 : (endF A [-1, 1] 1 1 2).2 = -1 := hA2
    rw [h1] at h2
    cases h2
  obtain ⟨h1, rfl⟩ := one_walk hW
  rw [h1]
  clear hW hE h1
  repeat' (first | exact rfl | ((conv => whnf); first | (refine qX (fun h => ?_) fun h => ?_ <;> try exact absurd h (by omega)) | refine oN ?_ | refine oM ?_ ?_ | refine bM ?_ ?_ | refine dR ?_))
  (conv => whnf)
  refine cF (word_c [1] 1) [13] Tryd.call44 ?_
  rintro _ _ ⟨rfl, rfl⟩
  rw [show wordE [1] = 0 by decide]
  repeat' (first | exact rfl | ((conv => whnf); first | (refine qX (fun h => ?_) fun h => ?_ <;> try exact absurd h (by omega)) | refine oN ?_ | refine oM ?_ ?_ | refine bM ?_ ?_ | refine dR ?_))
  refine Back.is ?_
  simp only [eqV, eqA, eqC]
  rfl
end Go.Fw

namespace Go.Fw
open Go Go.Proofs
abbrev samT : TF := ⟨2, 0, [-1, 1], [⟨0, 1, 1, 1, 5⟩], 2, 1⟩
abbrev samV (i j : Nat) : SV := .a (.agg [.i 2, .i 0, .sl i 1 0 2 2, .sl j 5 0 1 1])
theorem same_c : Ct Tryd.prog 35 [] [] [] 0 (fun v s => v = samV 0 1 ∧ s = ⟨[], [(0, .arr true 3 .int [-1, 1] 0), (1, .arr true 50 .arc [⟨0, 1, 1, 1, 5⟩] 0)], 2⟩) := by
  refine ctW Tryd.tyOk 2 [] Tryd.func35 rfl (by simp) (by simp) (fr := []) rfl ?_
  repeat' (first | exact rfl | ((conv => whnf); first | (refine qX (fun h => ?_) fun h => ?_ <;> try exact absurd h (by omega)) | refine oN ?_ | refine oM ?_ ?_ | refine bM ?_ ?_ | refine dR ?_))
  (conv => whnf)
  refine cF (one_c) [] Tryd.call42 ?_
  rintro _ _ ⟨rfl, rfl⟩
  repeat' (first | exact rfl | ((conv => whnf); first | (refine qX (fun h => ?_) fun h => ?_ <;> try exact absurd h (by omega)) | refine oN ?_ | refine oM ?_ ?_ | refine bM ?_ ?_ | refine dR ?_ | intro _))
  (conv => whnf)
  try simp only [Nat.reduceAdd, Nat.reduceSub]
  exact ⟨[(0, some 1), (1, some 4)], [(0, .arr true 3 .int [-1, 1] 0), (1, .arr true 50 .arc [⟨0, 1, 1, 1, 5⟩] 0)], 2, samV 0 1, ⟨by rfl, trivial, by simp⟩, by simp, rfl, rfl⟩
theorem sam_p {p : Nat → Bool} (h : UsOk samT p) : p 0 = true ∧ p 1 = true := by
  have ha : (⟨0, 1, 1, 1, 5⟩ : Arc) ∈ samT.arcs := by simp
  have r0 : Rch samT.arcs false [samT.start] 0 := .here (by simp)
  have r1 : Rch samT.arcs false [samT.start] 1 := Rch.on r0 ha rfl
  have b1 : Rch samT.arcs true [((1 : Nat) : Int)] 1 := .here (by simp)
  have b0 : Rch samT.arcs true [((1 : Nat) : Int)] 0 := Rch.on b1 ha rfl
  exact ⟨(h.iff 0 (by decide)).2 ⟨r0, 1, by decide, by decide, b0⟩, (h.iff 1 (by decide)).2 ⟨r1, 1, by decide, by decide, b1⟩⟩
theorem sam_us {U : TF} (h : IsUs samT U) : U = ⟨2, 0, [-1, 1], [⟨0, 1, 1, 1, 5⟩], U.capF, U.capA⟩ := by
  obtain ⟨p, hp, h1, h2, h3, h4⟩ := h
  obtain ⟨p0, p1⟩ := sam_p hp
  have hk : kT samT p = ⟨2, 0, [-1, 1], [⟨0, 1, 1, 1, 5⟩], 0, 0⟩ := by
    simp [kT, samT, rkB, kfin, karc, kOk, kArc, p0, p1, List.getD, aD]
  rw [hk] at h1 h2 h3 h4
  obtain ⟨a, b, c, d, e, f⟩ := U
  simp only at h1 h2 h3 h4 ⊢
  rw [h1, h2, h3, h4]
theorem sam_bgn (c d : Nat) : bgnF ⟨2, 0, [-1, 1], [⟨0, 1, 1, 1, 5⟩], c, d⟩ 201 200 [⟨0, 0⟩] = 2 := by kernel_rfl
theorem sam_rows (c d : Nat) : rowsD ⟨2, 0, [-1, 1], [⟨0, 1, 1, 1, 5⟩], c, d⟩ 2 = ([[⟨0, 0⟩], [⟨1, 0⟩]], [⟨0, 1, 1, 1, 5⟩]) := by kernel_rfl
theorem sam_fin (c d : Nat) : ([[⟨0, 0⟩], [⟨1, 0⟩]] : List (List Duo)).map (finD ⟨2, 0, [-1, 1], [⟨0, 1, 1, 1, 5⟩], c, d⟩) = [-1, 1] := by kernel_rfl
theorem sam_done {c d : Nat} {st : DS} (h : MDone ⟨2, 0, [-1, 1], [⟨0, 1, 1, 1, 5⟩], c, d⟩ st) : st = ([[⟨0, 0⟩], [⟨1, 0⟩]], [⟨0, 1, 1, 1, 5⟩]) :=
  h.uniq ⟨2, sam_rows c d, rfl⟩
theorem sam_det {x : Obj} {v : SV} {s : S} (h : DetPost samT x v s) : ∃ sp sq, v = .tup [.agg [.i 2, .i 0, .sl 3 1 0 2 (2 + sp), .sl 4 5 0 1 (1 + sq)], .c (.i 0)] ∧
    s = ⟨[], [(2, tabO x), (3, .arr true 3 .int [-1, 1] sp), (4, .arr true 50 .arc [⟨0, 1, 1, 1, 5⟩] sq)], 5⟩ := by
  rcases h with ⟨h, _⟩ | ⟨_, U, hus, ⟨h, _, _⟩ | ⟨_, st, hmd, _, sp, sq, h1, h2⟩⟩
  · exact absurd (by decide : detE samT = 0) h
  · have hU := sam_us hus
    rw [hU] at h
    rcases h with h | ⟨_, st, hmd, hg⟩
    · rw [sam_bgn] at h; omega
    · have := sam_done hmd
      subst this
      rw [sam_fin] at hg
      exact absurd hg (by decide)
  · have hU := sam_us hus
    rw [hU] at hmd h1 h2
    have := sam_done hmd
    subst this
    simp only [sam_fin] at h1 h2
    exact ⟨sp, sq, h1, h2⟩
theorem sam_score {cf ca : Nat} {n : Int} (h : ScoreP ⟨2, 0, [-1, 1], [⟨0, 1, 1, 1, 5⟩], cf, ca⟩ [1] [1] n) : n = 6 := by
  have h1 := (h.1 (by kernel_rfl)).1
  have hw : Wt ⟨2, 0, [-1, 1], [⟨0, 1, 1, 1, 5⟩], cf, ca⟩ [1] [1] 6 := one_wt.2 ⟨by decide, by decide, rfl⟩
  rcases h1 with ⟨_, h2⟩ | ⟨_, h2, _⟩
  · exact absurd hw (h2 6)
  · exact (one_wt.1 h2).2.2
abbrev sam2T : TF := ⟨2, 0, [-1, 1], [⟨0, 1, 1, 0, 2⟩, ⟨0, 1, 1, 1, 5⟩], 2, 2⟩
theorem sam2_round : roundV sam2T = .tup [.c (.b true), .c (.i 0)] := by kernel_rfl
theorem sam2_is : isV sam2T = .tup [.c (.b false), .c (.i 0)] := by kernel_rfl
theorem sam_is (c d : Nat) : isV ⟨2, 0, [-1, 1], [⟨0, 1, 1, 1, 5⟩], c, d⟩ = .tup [.c (.b true), .c (.i 0)] := by kernel_rfl
set_option maxHeartbeats 8000000 in
set_option maxRecDepth 20000 in
theorem determineBegun_c (x : Obj) (hx : TabX x) : Ct Tryd.prog 14 [] [] [(0, tabO x)] 1 (fun v s => v = .b true ∧ s = ⟨[], [(0, tabO x)], 1⟩) := by
  refine ctW Tryd.tyOk 12 [] Tryd.func14 rfl (by simp) (by simp) (fr := []) rfl ?_
  repeat' (first | exact rfl | ((conv => whnf); first | (refine qX (fun h => ?_) fun h => ?_ <;> try exact absurd h (by omega)) | refine oN ?_ | refine oM ?_ ?_ | refine bM ?_ ?_ | refine dR ?_))
  (conv => whnf)
  refine cF (same_c) [] Tryd.call35 ?_
  rintro _ _ ⟨rfl, rfl⟩
  repeat' (first | exact rfl | ((conv => whnf); first | (refine qX (fun h => ?_) fun h => ?_ <;> try exact absurd h (by omega)) | refine oN ?_ | refine oM ?_ ?_ | refine bM ?_ ?_ | refine dR ?_ | intro _))
  (conv => whnf)
  try simp only [Nat.reduceAdd, Nat.reduceSub]
  refine cI (round_c sam2T (by decide)) [1, 4] Tryd.call9 ?_
  rw [sam2_round]
  repeat' (first | exact rfl | ((conv => whnf); first | (refine qX (fun h => ?_) fun h => ?_ <;> try exact absurd h (by omega)) | refine oN ?_ | refine oM ?_ ?_ | refine bM ?_ ?_ | refine dR ?_ | intro _))
  (conv => whnf)
  try simp only [Nat.reduceAdd, Nat.reduceSub]
  refine cI (is_c sam2T (by decide)) [1, 4] Tryd.call8 ?_
  rw [sam2_is]
  repeat' (first | exact rfl | ((conv => whnf); first | (refine qX (fun h => ?_) fun h => ?_ <;> try exact absurd h (by omega)) | refine oN ?_ | refine oM ?_ ?_ | refine bM ?_ ?_ | refine dR ?_ | intro _))
  (conv => whnf)
  try simp only [Nat.reduceAdd, Nat.reduceSub]
  refine cF (same_c) [] Tryd.call35 ?_
  rintro _ _ ⟨rfl, rfl⟩
  repeat' (first | exact rfl | ((conv => whnf); first | (refine qX (fun h => ?_) fun h => ?_ <;> try exact absurd h (by omega)) | refine oN ?_ | refine oM ?_ ?_ | refine bM ?_ ?_ | refine dR ?_ | intro _))
  (conv => whnf)
  try simp only [Nat.reduceAdd, Nat.reduceSub]
  refine cF (determine_c samT (by decide) x hx) [5, 6, 0] Tryd.call15 ?_
  rintro v s hd
  obtain ⟨sp, sq, rfl, rfl⟩ := sam_det hd
  clear hd
  try simp only [Nat.reduceAdd, Nat.reduceSub]
  repeat' (first | exact rfl | ((conv => whnf); first | (refine qX (fun h => ?_) fun h => ?_ <;> try exact absurd h (by omega)) | refine oN ?_ | refine oM ?_ ?_ | refine bM ?_ ?_ | refine dR ?_ | intro _))
  (conv => whnf)
  try simp only [Nat.reduceAdd, Nat.reduceSub]
  refine cF (score_b ⟨2, 0, [-1, 1], [⟨0, 1, 1, 1, 5⟩], 2 + sp, 1 + sq⟩ [1] [1] 1 1 (show ([-1, 1] : List Int).length ≤ 9223372036854775807 by decide) (by kernel_rfl)) [7, 8, 10, 11] Tryd.call20 ?_
  rintro _ _ ⟨n, hn, rfl, rfl⟩
  have hn6 := sam_score hn
  subst hn6
  clear hn
  try simp only [Nat.reduceAdd, Nat.reduceSub]
  repeat' (first | exact rfl | ((conv => whnf); first | (refine qX (fun h => ?_) fun h => ?_ <;> try exact absurd h (by omega)) | refine oN ?_ | refine oM ?_ ?_ | refine bM ?_ ?_ | refine dR ?_ | intro _))
  (conv => whnf)
  try simp only [Nat.reduceAdd, Nat.reduceSub]
  refine cI (is_c ⟨2, 0, [-1, 1], [⟨0, 1, 1, 1, 5⟩], 2 + sp, 1 + sq⟩ (show ([-1, 1] : List Int).length ≤ 9223372036854775807 by decide)) [7, 8] Tryd.call8 ?_
  rw [sam_is]
  repeat' (first | exact rfl | ((conv => whnf); first | (refine qX (fun h => ?_) fun h => ?_ <;> try exact absurd h (by omega)) | refine oN ?_ | refine oM ?_ ?_ | refine bM ?_ ?_ | refine dR ?_ | intro _))
  (conv => whnf)
  exact ⟨[], [(0, tabO x)], 1, .b true, ⟨by rfl, trivial, by simp⟩, by simp, rfl, rfl⟩
end Go.Fw

namespace Go.Fw
open Go Go.Proofs
def LAns (F : TF) (e : Int) (n : Nat) (ff : List Int) (oo : List Arc) : Prop :=
  (leastE F ≠ 0 ∧ e = leastE F) ∨
  (leastE F = 0 ∧ ∃ U, IsUs F U ∧ ((200 < bgnF U 201 200 [⟨U.start, 0⟩] ∧ e = 2) ∨
    (bgnF U 201 200 [⟨U.start, 0⟩] ≤ 200 ∧ ∃ st : DS, MDone U st ∧ IsLs U st n ff oo ∧ (greatB oo ff = true ∧ e = 2 ∨ greatB oo ff = false ∧ e = 0))))
def LOut (x : Obj) (e : Int) (n : Nat) (ff : List Int) (oo : List Arc) (v : SV) (s : S) : Prop :=
  (e ≠ 0 ∧ v = .tup [.agg zero25, .c (.i e)] ∧ s = ⟨[], [(2, tabO x)], 3⟩) ∨
  (e = 0 ∧ ∃ sp sq, v = .tup [.agg [.i (n : Nat), .i 0, .sl 3 1 0 ff.length (ff.length + sp), .sl 4 5 0 oo.length (oo.length + sq)], .c (.i 0)] ∧
    s = ⟨[], [(2, tabO x), (3, .arr true 3 .int ff sp), (4, .arr true 50 .arc oo sq)], 5⟩)
theorem LeastPost.split {F : TF} {x : Obj} {v : SV} {s : S} (h : LeastPost F x v s) : ∃ e n ff oo, LAns F e n ff oo ∧ LOut x e n ff oo v s := by
  rcases h with ⟨h1, h2, h3⟩ | ⟨h1, U, hus, ⟨h2, h3, h4⟩ | ⟨h2, st, hmd, n, ff, oo, hls, ⟨hg, h3, h4⟩ | ⟨hg, sp, sq, h3, h4⟩⟩⟩
  · exact ⟨leastE F, 0, [], [], .inl ⟨h1, rfl⟩, .inl ⟨h1, h2, h3⟩⟩
  · exact ⟨2, 0, [], [], .inr ⟨h1, U, hus, .inl ⟨h2, rfl⟩⟩, .inl ⟨by decide, h3, h4⟩⟩
  · exact ⟨2, n, ff, oo, .inr ⟨h1, U, hus, .inr ⟨h2, st, hmd, hls, .inl ⟨hg, rfl⟩⟩⟩, .inl ⟨by decide, h3, h4⟩⟩
  · exact ⟨0, n, ff, oo, .inr ⟨h1, U, hus, .inr ⟨h2, st, hmd, hls, .inr ⟨hg, rfl⟩⟩⟩, .inr ⟨rfl, sp, sq, h3, h4⟩⟩
theorem LAns.len {F : TF} {n : Nat} {ff : List Int} {oo : List Arc} (h : LAns F 0 n ff oo) (hF : FOk F) (h12 : F.st ≤ 12) (hf : fineB F = true) : ff.length = n ∧ n ≤ 200 ∧ oo.length ≤ 9223372036854775807 := by
  rcases h with ⟨h1, h2⟩ | ⟨_, U, hus, ⟨_, h2⟩ | ⟨h2, st, hmd, hls, _⟩⟩
  · exact absurd h2.symm h1
  · cases h2
  · have hD : DetH F U st := ⟨hF, hf, hus, h2, hmd⟩
    rcases hls with ⟨_, rfl, rfl, rfl⟩ | ⟨hn, c1, c2, cls, left, outs, hc, m1, m2, m3, rfl, rfl, rfl⟩
    · simp
    · have hB := (hD.fokB h12 0 0).1
      have hX := ph_dfst hB (c1 := c1) (c2 := c2) fun q hq => by
        have hq : q < ((st.1.length : Nat) : Int).toNat := hq
        have := dsD_is hD h12 hn (q := q) (by omega)
        unfold dsD at this
        omega
      have hs := hD.small.2.1
      have e : (phT (mkD U st 0 0) c1 c2).st = ((st.1.length : Nat) : Int) := rfl
      have e2 : (adF (dsD U st 0) (left.map (fiA (phT (mkD U st 0 0) c1 c2)))).length = left.length := by unfold adF; split <;> simp
      have hl := m3.le hX.st.1 hc.bd
      simp only at hl
      have hk : ∀ k, (mgRows (phT (mkD U st 0 0) c1 c2) cls k).2.length ≤ k * (phT (mkD U st 0 0) c1 c2).arcs.length := fun k => by
        induction k with
        | zero => simp [mgRows]
        | succ k ih =>
          have := (mgP_len (D := phT (mkD U st 0 0) c1 c2) (cls := cls) (i := k) (s := (mgRows (phT (mkD U st 0 0) c1 c2) cls k).1.getD k 0) (st := mgRows (phT (mkD U st 0 0) c1 c2) cls k) (phT (mkD U st 0 0) c1 c2).arcs.length).1
          show (mgP _ _ _ _ _ _).2.length ≤ _
          rw [Nat.succ_mul]
          omega
      have h2 := hk left.length
      rw [m1] at h2
      have h4 : left.length * (phT (mkD U st 0 0) c1 c2).arcs.length ≤ 200 * (phT (mkD U st 0 0) c1 c2).arcs.length := Nat.mul_le_mul_right _ (by omega)
      have h5 := hX.arc1
      refine ⟨e2, by omega, ?_⟩
      rw [List.length_map]
      simp only at h2
      omega
theorem LAns.len2 {F : TF} {n : Nat} {ff : List Int} {oo : List Arc} (h : LAns F 0 n ff oo) : ff.length = n ∧ n ≤ 200 ∧ oo.length ≤ 9223372036854775807 := by
  by_cases h0 : fstE F = 0
  · by_cases h12 : F.st ≤ 12
    · by_cases hf : fineB F = true
      · exact h.len (fstE_ok h0) h12 hf
      · exfalso
        have hd : leastE F = 4 := by unfold leastE; rw [if_neg (fun c => c h0), if_neg (by omega), if_neg hf]
        rcases h with ⟨h1, h2⟩ | ⟨h1, _⟩ <;> omega
    · exfalso
      have hd : leastE F = 2 := by unfold leastE; rw [if_neg (fun c => c h0), if_pos (by omega)]
      rcases h with ⟨h1, h2⟩ | ⟨h1, _⟩ <;> omega
  · exfalso
    have hd : leastE F = fstE F := by unfold leastE; rw [if_pos h0]
    rcases h with ⟨h1, h2⟩ | ⟨h1, _⟩ <;> omega
def SamePost (F G : TF) (x : Obj) (v : SV) (s : S) : Prop := ∃ e n ff oo, LAns F e n ff oo ∧
  ((e ≠ 0 ∧ v = .tup [.c (.b false), .c (.i e)]) ∨
   (e = 0 ∧ ∃ e' n' ff' oo', LAns G e' n' ff' oo' ∧ ((e' ≠ 0 ∧ v = .tup [.c (.b false), .c (.i e')]) ∨ (e' = 0 ∧ v = .tup [.c (.b (decide (n = n' ∧ ff = ff' ∧ oo = oo'))), .c (.i 0)])))) ∧
  s = ⟨[], [(4, tabO x)], 5⟩
set_option maxHeartbeats 8000000 in
set_option maxRecDepth 20000 in
theorem Same_c (F G : TF) (h1 : F.fin.length ≤ 9223372036854775807) (h2 : G.fin.length ≤ 9223372036854775807) (x : Obj) (hx : TabX x) : Ct Tryd.prog 26 [fV F, gV G] [] (hpG F G ++ [(4, tabO x)]) 5 (SamePost F G x) := by
  refine ctC Tryd.tyOk Tryd.func26 rfl (by simp [gV]) (by simp) (fr := [(0, fV F), (1, gV G)]) rfl ?_
  refine SemC.of Tryd.tyOk 9 [] ?_
  repeat' (first | exact rfl | ((conv => whnf); first | (refine qX (fun h => ?_) fun h => ?_ <;> try exact absurd h (by omega)) | refine oN ?_ | refine oM ?_ ?_ | refine bM ?_ ?_ | refine dR ?_))
  (conv => whnf)
  refine cF (least_c F h1 x hx) [0, 1, 4] Tryd.call46 ?_
  rintro v s hp
  obtain ⟨e, n, ff, oo, hA, hO⟩ := hp.split
  clear hp
  rcases hO with ⟨h0, rfl, rfl⟩ | ⟨rfl, sp, sq, rfl, rfl⟩
  · repeat' (first | exact rfl | ((conv => whnf); first | (refine qX (fun h => ?_) fun h => ?_ <;> try exact absurd h (by omega)) | refine oN ?_ | refine oM ?_ ?_ | refine bM ?_ ?_ | refine dR ?_ | intro _))
    all_goals try (exfalso; omega)
    (conv => whnf)
    try simp only [Nat.reduceAdd, Nat.reduceSub]
    exact ⟨[], [(4, tabO x)], 5, .tup [.c (.b false), .c (.i e)], ⟨by rfl, trivial, by simp⟩, by simp, e, n, ff, oo, hA, .inl ⟨h0, rfl⟩, rfl⟩
  · have hlen := hA.len2
    repeat' (first | exact rfl | ((conv => whnf); first | (refine qX (fun h => ?_) fun h => ?_ <;> try exact absurd h (by omega)) | refine oN ?_ | refine oM ?_ ?_ | refine bM ?_ ?_ | refine dR ?_ | intro _))
    (conv => whnf)
    try simp only [Nat.reduceAdd, Nat.reduceSub]
    refine callF (least_c G h2 x hx) [2, 3, 4] Tryd.call46 rfl (by simp [gV]) (by simp [gV]) (by simp) ?_
    rintro v s hp
    obtain ⟨e', n', ff', oo', hA', hO⟩ := hp.split
    clear hp
    rcases hO with ⟨h0, rfl, rfl⟩ | ⟨rfl, sp', sq', rfl, rfl⟩
    · repeat' (first | exact rfl | ((conv => whnf); first | (refine qX (fun h => ?_) fun h => ?_ <;> try exact absurd h (by omega)) | refine oN ?_ | refine oM ?_ ?_ | refine bM ?_ ?_ | refine dR ?_ | intro _))
      all_goals try (exfalso; omega)
      (conv => whnf)
      try simp only [Nat.reduceAdd, Nat.reduceSub]
      exact ⟨[], [(4, tabO x)], 5, .tup [.c (.b false), .c (.i e')], ⟨by rfl, trivial, by simp⟩, by simp, 0, n, ff, oo, hA, .inr ⟨rfl, e', n', ff', oo', hA', .inl ⟨h0, rfl⟩⟩, rfl⟩
    · have hlen' := hA'.len2
      repeat' (first | exact rfl | ((conv => whnf); first | (refine qX (fun h => ?_) fun h => ?_ <;> try exact absurd h (by omega)) | refine oN ?_ | refine oM ?_ ?_ | refine bM ?_ ?_ | refine dR ?_ | intro _))
      (conv => whnf)
      try simp only [Nat.reduceAdd, Nat.reduceSub]
      have cS := same2_c ⟨(n : Nat), 0, ff, oo, ff.length + sp, oo.length + sq⟩ ⟨(n' : Nat), 0, ff', oo', ff'.length + sp', oo'.length + sq'⟩ (by simp only; omega) (by simp only; omega) hlen.2.2 hlen'.2.2
      have hse : sameF ⟨(n : Nat), 0, ff, oo, ff.length + sp, oo.length + sq⟩ ⟨(n' : Nat), 0, ff', oo', ff'.length + sp', oo'.length + sq'⟩ = decide (n = n' ∧ ff = ff' ∧ oo = oo') := by
        unfold sameF
        refine decide_eq_decide.2 ⟨fun ⟨a, _, b, c⟩ => ⟨by simp only at a; omega, b, c⟩, fun ⟨a, b, c⟩ => ⟨by rw [a], rfl, b, c⟩⟩
      rw [hse] at cS
      have hpo : SamePost F G x (.tup [.c (.b (decide (n = n' ∧ ff = ff' ∧ oo = oo'))), .c (.i 0)]) ⟨[], [(4, tabO x)], 5⟩ := ⟨0, n, ff, oo, hA, .inr ⟨rfl, 0, n', ff', oo', hA', .inr ⟨rfl, rfl⟩⟩, rfl⟩
      generalize decide (n = n' ∧ ff = ff' ∧ oo = oo') = r at *
      clear hA hA' hse
      refine callF (cS) [7, 8, 10, 11] Tryd.call54 rfl (by simp [gV]) (by simp [gV]) (by simp) ?_
      rintro _ _ ⟨rfl, rfl⟩
      repeat' (first | exact rfl | ((conv => whnf); first | (refine qX (fun h => ?_) fun h => ?_ <;> try exact absurd h (by omega)) | refine oN ?_ | refine oM ?_ ?_ | refine bM ?_ ?_ | refine dR ?_ | intro _))
      (conv => whnf)
      exact ⟨[], [(4, tabO x)], 5, .tup [.c (.b r), .c (.i 0)], ⟨by rfl, trivial, by simp⟩, by simp, hpo⟩
theorem smp_p {F : TF} {a b : Int} (hb : b ≠ -1) (c d : Nat) (hF : F = ⟨2, 0, [-1, b], [⟨0, 1, 1, 1, a⟩], c, d⟩) {p : Nat → Bool} (h : UsOk F p) : p 0 = true ∧ p 1 = true := by
  subst hF
  have ha : (⟨0, 1, 1, 1, a⟩ : Arc) ∈ ([⟨0, 1, 1, 1, a⟩] : List Arc) := by simp
  have r0 : Rch ([⟨0, 1, 1, 1, a⟩] : List Arc) false [0] 0 := .here (by simp)
  have r1 : Rch ([⟨0, 1, 1, 1, a⟩] : List Arc) false [0] 1 := Rch.on r0 ha rfl
  have b1 : Rch ([⟨0, 1, 1, 1, a⟩] : List Arc) true [((1 : Nat) : Int)] 1 := .here (by simp)
  have b0 : Rch ([⟨0, 1, 1, 1, a⟩] : List Arc) true [((1 : Nat) : Int)] 0 := Rch.on b1 ha rfl
  exact ⟨(h.iff 0 (by simp)).2 ⟨r0, 1, by simp, by simpa using hb, b0⟩, (h.iff 1 (by simp)).2 ⟨r1, 1, by simp, by simpa using hb, b1⟩⟩
theorem smp_us {F U : TF} {a b : Int} (hb : b ≠ -1) {c d : Nat} (hF : F = ⟨2, 0, [-1, b], [⟨0, 1, 1, 1, a⟩], c, d⟩) (h : IsUs F U) : U = ⟨2, 0, [-1, b], [⟨0, 1, 1, 1, a⟩], U.capF, U.capA⟩ := by
  obtain ⟨p, hp, h1, h2, h3, h4⟩ := h
  obtain ⟨p0, p1⟩ := smp_p hb c d hF hp
  have hk : kT F p = ⟨2, 0, [-1, b], [⟨0, 1, 1, 1, a⟩], 0, 0⟩ := by
    rw [hF]
    simp [kT, rkB, kfin, karc, kOk, kArc, p0, p1, List.getD, aD]
  rw [hk] at h1 h2 h3 h4
  obtain ⟨a, b, c, d, e, f⟩ := U
  simp only at h1 h2 h3 h4 ⊢
  rw [h1, h2, h3, h4]
theorem smp_ls {F : TF} {a b : Int} (hb : 0 ≤ b) {c d : Nat} (hF : F = ⟨2, 0, [-1, b], [⟨0, 1, 1, 1, a⟩], c, d⟩) (h0 : leastE F = 0)
    (h1 : ∀ c d, bgnF ⟨2, 0, [-1, b], [⟨0, 1, 1, 1, a⟩], c, d⟩ 201 200 [⟨0, 0⟩] = 2) (h2 : ∀ c d, rowsD ⟨2, 0, [-1, b], [⟨0, 1, 1, 1, a⟩], c, d⟩ 2 = ([[⟨0, 0⟩], [⟨1, 0⟩]], [⟨0, 1, 1, 1, a⟩]))
    (h3 : ∀ c d, ([[⟨0, 0⟩], [⟨1, 0⟩]] : List (List Duo)).map (finD ⟨2, 0, [-1, b], [⟨0, 1, 1, 1, a⟩], c, d⟩) = [-1, b]) (h4 : (onS ⟨2, 0, [-1, b], [⟨0, 1, 1, 1, a⟩], 0, 0⟩).1 = [a + b, b])
    (h5 : a + b = 6) (ha : a ≠ -1)
    {e : Int} {n : Nat} {ff : List Int} {oo : List Arc} (h : LAns F e n ff oo) : e = 0 ∧ n = 2 ∧ ff = [-1, 0] ∧ oo = [⟨0, 1, 1, 1, 6⟩] := by
  rcases h with ⟨h, _⟩ | ⟨_, U, hus, ⟨h, _⟩ | ⟨h, st, hmd, hls, hg⟩⟩
  · exact absurd h0 h
  · have hU := smp_us (by omega) hF hus
    rw [hU] at h
    have := h1 U.capF U.capA
    simp only at h
    omega
  · have hU := smp_us (by omega) hF hus
    generalize U.capF = cu at hU
    generalize U.capA = du at hU
    subst hU
    have hst := hmd.uniq ⟨2, h2 cu du, rfl⟩
    subst hst
    have hD : mkD ⟨2, 0, [-1, b], [⟨0, 1, 1, 1, a⟩], cu, du⟩ ([[⟨0, 0⟩], [⟨1, 0⟩]], [⟨0, 1, 1, 1, a⟩]) 0 0 = ⟨2, 0, [-1, b], [⟨0, 1, 1, 1, a⟩], 0, 0⟩ := by
      unfold mkD
      simp only [h3]
      rfl
    have hX : ∀ c1 c2, phT ⟨2, 0, [-1, b], [⟨0, 1, 1, 1, a⟩], 0, 0⟩ c1 c2 = ⟨2, 0, [-1, 0], [⟨0, 1, 1, 1, 0⟩], c1, c2⟩ := fun c1 c2 => by
      unfold phT
      simp only [h4]
      have hbn : ¬ b = -1 := by omega
      have hb6 : ¬ a + b = -1 := by omega
      simp [pushF, pushV, pushL, pushA, hbn, hb6, List.range_succ]
      omega
    rcases hls with ⟨hn, _⟩ | ⟨_, c1, c2, cls, left, outs, hc, m1, m2, m3, rfl, rfl, rfl⟩
    · exfalso
      refine hn ⟨[1], a + b, 1, a, ?_, ?_, ?_⟩
      · have := RdW.cons (L := [⟨0, 1, 1, 1, a⟩]) (a := ⟨0, 1, 1, 1, a⟩) (by simp) (.nil _)
        simpa using this
      · simp; omega
      · simp
    · have hds : dsD ⟨2, 0, [-1, b], [⟨0, 1, 1, 1, a⟩], cu, du⟩ ([[⟨0, 0⟩], [⟨1, 0⟩]], [⟨0, 1, 1, 1, a⟩]) 0 = 6 := by
        unfold dsD
        rw [hD, h4]
        simpa using h5
      rw [hD, hX] at hc m1 m2 m3
      rw [hds, hD, hX]
      have hne : cls.getD 0 0 ≠ cls.getD 1 0 := fun he => by
        have hDF : DFst ⟨2, 0, [-1, 0], [⟨0, 1, 1, 1, 0⟩], c1, c2⟩ := ⟨⟨by simp, by simp, by simp, by simp⟩, by simp, by simp, by simp, by simp, by simp⟩
        have := ((hc.iff hDF (i := 0) (j := 1) (by simp) (by simp)).1 he).1
        simp at this
      have k1 : clA cls 1 ≠ clA cls 0 := fun he => hne he.symm
      have g1 : mgRows ⟨2, 0, [-1, 0], [⟨0, 1, 1, 1, 0⟩], c1, c2⟩ cls 1 = ([0, 1], [⟨0, 1, 1, 1, 0⟩]) := by
        simp [mgRows, mgP, mgStep, mgL, mgN, k1, List.getD, List.idxOf_cons, show (clA cls 0 == clA cls 1) = false by simpa using fun h => k1 h.symm]
      have g2 : mgRows ⟨2, 0, [-1, 0], [⟨0, 1, 1, 1, 0⟩], c1, c2⟩ cls 2 = ([0, 1], [⟨0, 1, 1, 1, 0⟩]) := by
        show mgP _ cls 1 ((mgRows _ cls 1).1.getD 1 0) (mgRows _ cls 1) 1 = _
        rw [g1]
        simp [mgP, mgStep, List.getD]
      have hL : left.length = 2 := by
        rcases Nat.lt_trichotomy left.length 2 with g | g | g
        · exfalso
          rcases (show left.length = 0 ∨ left.length = 1 by omega) with e | e
          · rw [e] at m1
            have : (mgRows ⟨2, 0, [-1, 0], [⟨0, 1, 1, 1, 0⟩], c1, c2⟩ cls 0).1.length = 1 := rfl
            rw [m1] at this
            simp only at this
            omega
          · rw [e, g1] at m1
            have := congrArg (fun p : List Int × List Arc => p.1.length) m1
            simp only [List.length_cons, List.length_nil] at this
            omega
        · exact g
        · exfalso
          have := m2 2 g
          rw [g2] at this
          simp at this
      rw [hL, g2] at m1
      simp only [Prod.mk.injEq] at m1
      obtain ⟨rfl, rfl⟩ := m1
      have hff : adF 6 (([0, 1] : List Int).map (fiA ⟨2, 0, [-1, 0], [⟨0, 1, 1, 1, 0⟩], c1, c2⟩)) = [-1, 0] := by simp [adF, fiA, List.getD]
      have hoo : ([⟨0, 1, 1, 1, 0⟩] : List Arc).map (adA 6) = [⟨0, 1, 1, 1, 6⟩] := by simp [adA]
      rw [hds, hD, hX] at hg
      rw [hff, hoo] at hg
      refine ⟨?_, hL, hff, hoo⟩
      rcases hg with ⟨hg, _⟩ | ⟨_, hg⟩
      · exact absurd hg (by decide)
      · exact hg
theorem sam_ls {e : Int} {n : Nat} {ff : List Int} {oo : List Arc} (h : LAns samT e n ff oo) : e = 0 ∧ n = 2 ∧ ff = [-1, 0] ∧ oo = [⟨0, 1, 1, 1, 6⟩] :=
  smp_ls (a := 5) (b := 1) (by omega) rfl (by decide) (fun c d => by kernel_rfl) (fun c d => by kernel_rfl) (fun c d => by kernel_rfl) (by kernel_rfl) (by omega) (by omega) h
theorem sam_ls2 {c d : Nat} {e : Int} {n : Nat} {ff : List Int} {oo : List Arc} (h : LAns ⟨2, 0, [-1, 0], [⟨0, 1, 1, 1, 6⟩], c, d⟩ e n ff oo) : e = 0 ∧ n = 2 ∧ ff = [-1, 0] ∧ oo = [⟨0, 1, 1, 1, 6⟩] :=
  smp_ls (a := 6) (b := 0) (by omega) rfl (by kernel_rfl) (fun c d => by kernel_rfl) (fun c d => by kernel_rfl) (fun c d => by kernel_rfl) (by kernel_rfl) (by omega) (by omega) h
set_option maxHeartbeats 8000000 in
set_option maxRecDepth 20000 in
theorem leastBegun_c (x : Obj) (hx : TabX x) : Ct Tryd.prog 24 [] [] [(0, tabO x)] 1 (fun v s => v = .b true ∧ s = ⟨[], [(0, tabO x)], 1⟩) := by
  refine ctW Tryd.tyOk 5 [] Tryd.func24 rfl (by simp) (by simp) (fr := []) rfl ?_
  repeat' (first | exact rfl | ((conv => whnf); first | (refine qX (fun h => ?_) fun h => ?_ <;> try exact absurd h (by omega)) | refine oN ?_ | refine oM ?_ ?_ | refine bM ?_ ?_ | refine dR ?_))
  (conv => whnf)
  refine cF (same_c) [] Tryd.call35 ?_
  rintro _ _ ⟨rfl, rfl⟩
  repeat' (first | exact rfl | ((conv => whnf); first | (refine qX (fun h => ?_) fun h => ?_ <;> try exact absurd h (by omega)) | refine oN ?_ | refine oM ?_ ?_ | refine bM ?_ ?_ | refine dR ?_ | intro _))
  (conv => whnf)
  try simp only [Nat.reduceAdd, Nat.reduceSub]
  refine cF (Least_c samT (by decide) x hx) [1, 2, 0] Tryd.call21 ?_
  rintro v s hp
  obtain ⟨e, n, ff, oo, hA, hO⟩ := hp.split
  obtain ⟨rfl, rfl, rfl, rfl⟩ := sam_ls hA
  clear hp hA
  rcases hO with ⟨h0, _⟩ | ⟨_, sp, sq, rfl, rfl⟩
  · exact absurd rfl h0
  repeat' (first | exact rfl | ((conv => whnf); first | (refine qX (fun h => ?_) fun h => ?_ <;> try exact absurd h (by omega)) | refine oN ?_ | refine oM ?_ ?_ | refine bM ?_ ?_ | refine dR ?_ | intro _))
  (conv => whnf)
  try simp only [Nat.reduceAdd, Nat.reduceSub]
  refine cF (same_c) [] Tryd.call35 ?_
  rintro _ _ ⟨rfl, rfl⟩
  repeat' (first | exact rfl | ((conv => whnf); first | (refine qX (fun h => ?_) fun h => ?_ <;> try exact absurd h (by omega)) | refine oN ?_ | refine oM ?_ ?_ | refine bM ?_ ?_ | refine dR ?_ | intro _))
  (conv => whnf)
  try simp only [Nat.reduceAdd, Nat.reduceSub]
  refine callF (Same_c samT ⟨2, 0, [-1, 0], [⟨0, 1, 1, 1, 6⟩], 2 + sp, 1 + sq⟩ (by decide) (by simp) x hx) [6, 7, 3, 4, 0] Tryd.call26 rfl (by simp [gV]) (by simp [gV]) (by simp) ?_
  rintro v s ⟨e, n, ff, oo, hA, hR, rfl⟩
  obtain ⟨rfl, rfl, rfl, rfl⟩ := sam_ls hA
  rcases hR with ⟨h0, _⟩ | ⟨_, e', n', ff', oo', hA', hR'⟩
  · exact absurd rfl h0
  obtain ⟨rfl, rfl, rfl, rfl⟩ := sam_ls2 hA'
  rcases hR' with ⟨h0, _⟩ | ⟨_, rfl⟩
  · exact absurd rfl h0
  rw [decide_eq_true (show 2 = 2 ∧ ([-1, 0] : List Int) = [-1, 0] ∧ ([⟨0, 1, 1, 1, 6⟩] : List Arc) = [⟨0, 1, 1, 1, 6⟩] from ⟨rfl, rfl, rfl⟩)]
  clear hA hA'
  repeat' (first | exact rfl | ((conv => whnf); first | (refine qX (fun h => ?_) fun h => ?_ <;> try exact absurd h (by omega)) | refine oN ?_ | refine oM ?_ ?_ | refine bM ?_ ?_ | refine dR ?_ | intro _))
  (conv => whnf)
  try simp only [Nat.reduceAdd, Nat.reduceSub]
  refine cF (sameInts_c [-1, 0] [-1, 0] (2 + sp) 2 (by decide) (by decide)) [3, 8] Tryd.call53 ?_
  rintro _ _ ⟨rfl, rfl⟩
  repeat' (first | exact rfl | ((conv => whnf); first | (refine qX (fun h => ?_) fun h => ?_ <;> try exact absurd h (by omega)) | refine oN ?_ | refine oM ?_ ?_ | refine bM ?_ ?_ | refine dR ?_ | intro _))
  all_goals
    (conv => whnf)
    exact ⟨[], [(0, tabO x)], 1, .b true, ⟨by rfl, trivial, by simp⟩, by simp, rfl, rfl⟩
end Go.Fw

namespace Go.Fw
open Go Go.Proofs
def RAns (F : TF) (e : Int) (n : Nat) (ff : List Int) (oo : List Arc) : Prop := ∃ (U : TF) (W vs : List (List Int)) (par sym : List Int), IsUs F U ∧
  ((∃ i c, WSt U W vs par sym i c ∧ W.length = 201 ∧ e = 2) ∨
   (WSt U W vs par sym W.length 1 ∧ W.length ≤ 200 ∧
     ((¬ (∃ w c, CW U U.start w c) ∧ n = 1 ∧ ff = [-1] ∧ oo = []) ∨
      ((∃ w c, CW U U.start w c) ∧ ∃ first, lrRows U W vs first.length = (first, oo) ∧ (∀ j, j < first.length → j < (lrRows U W vs j).1.length) ∧ n = first.length ∧ ff = lrF U W vs first first.length)) ∧
     (greatB oo ff = true ∧ e = 2 ∨ greatB oo ff = false ∧ e = 0)))
def ROut (e : Int) (n : Nat) (ff : List Int) (oo : List Arc) (v : SV) (s : S) : Prop :=
  (e ≠ 0 ∧ v = .tup [.agg zero25, .c (.i e)] ∧ s = ⟨[], [], 2⟩) ∨
  (e = 0 ∧ ∃ sp sq, v = .tup [.agg [.i (n : Nat), .i 0, .sl 2 1 0 ff.length (ff.length + sp), .sl 3 5 0 oo.length (oo.length + sq)], .c (.i 0)] ∧
    s = ⟨[], [(2, .arr true 3 .int ff sp), (3, .arr true 50 .arc oo sq)], 4⟩)
theorem LeastOfPost.split {F : TF} {v : SV} {s : S} (h : LeastOfPost F v s) : ∃ e n ff oo, RAns F e n ff oo ∧ ROut e n ff oo v s := by
  obtain ⟨U, W, vs, par, sym, hus, ⟨i, c, h1, h2, h3, h4⟩ | ⟨h1, h2, n, ff, oo, h3, ⟨hg, h4, h5⟩ | ⟨hg, sp, sq, h4, h5⟩⟩⟩ := h
  · exact ⟨2, 0, [], [], ⟨U, W, vs, par, sym, hus, .inl ⟨i, c, h1, h2, rfl⟩⟩, .inl ⟨by decide, h3, h4⟩⟩
  · exact ⟨2, n, ff, oo, ⟨U, W, vs, par, sym, hus, .inr ⟨h1, h2, h3, .inl ⟨hg, rfl⟩⟩⟩, .inl ⟨by decide, h4, h5⟩⟩
  · exact ⟨0, n, ff, oo, ⟨U, W, vs, par, sym, hus, .inr ⟨h1, h2, h3, .inr ⟨hg, rfl⟩⟩⟩, .inr ⟨rfl, sp, sq, h4, h5⟩⟩
theorem IsLs.cap {U V : TF} {st : DS} {n : Nat} {ff : List Int} {oo : List Arc} (h : IsLs U st n ff oo) (h1 : U.st = V.st) (h2 : U.start = V.start) (h3 : U.fin = V.fin) (h4 : U.arcs = V.arcs) : IsLs V st n ff oo := by
  obtain ⟨a, b, c, d, e, f⟩ := U
  obtain ⟨a', b', c', d', e', f'⟩ := V
  simp only at h1 h2 h3 h4
  subst h1 h2 h3 h4
  exact h
end Go.Fw

namespace Go.Fw
open Go Go.Proofs
abbrev wV2 (U : TF) (rows : List Sli) (par sym : List Int) (rc pc sc : Nat) : SV := .a (.agg (cWo U 6 7 8 10 11 rows.length rc par.length pc sym.length sc))
abbrev hpWd2 (U : TF) (rows : List Sli) (m : List (Addr × List Int × Nat)) (par sym : List Int) : List (Nat × SO) := [(6, .arr false 3 .int U.fin 0), (7, .arr false 50 .arc U.arcs 0), (8, .arr false 22 .sli rows 0), (9, .pool 3 .int m), (10, .arr false 3 .int par 0), (11, .arr false 3 .int sym 0)]
end Go.Fw
