/-
  What score tells is the least of all ways.
-/
import Derived.Test.YtlaenllbacalpaaDoorT10
import Derived.Test.YtlaenllbacalpaaDoorT15

set_option linter.unusedSimpArgs false
set_option linter.unusedVariables false

namespace Go.Fw
open Go Go.Proofs

theorem fitE_take {l : List Int} {p x : Int} (hp : 0 ≤ p ∧ p ≤ l.length) (h : (fitE l p x).2 = true) : l.take (fitE l p x).1.toNat = l.take p.toNat ++ lab x := by
  unfold fitE lab at *
  by_cases e : x = 0
  · simp [if_pos e]
  · rw [if_neg e] at h ⊢
    rw [if_neg e]
    simp only [decide_eq_true_eq] at h ⊢
    have h1 : (p + 1).toNat = p.toNat + 1 := by omega
    rw [h1, take_succ_getD l p.toNat 0 (by omega), h.2]

section
variable {F : TF} {u v : List Int}

theorem Reach.way (hF : FOk F) {c : Int} {y : Trip} (h : Reach F u v (fromSt F) c y) : InBox F u v y ∧ Way F.arcs F.start (u.take y.b.toNat) (v.take y.c.toNat) y.a c := by
  induction h with
  | here h =>
    obtain ⟨rfl, rfl⟩ := h
    have := hF.start
    refine ⟨⟨this, ⟨Int.le_refl _, ?_⟩, ⟨Int.le_refl _, ?_⟩⟩, .nil _⟩ <;> (show (0 : Int) ≤ _; omega)
  | on h he ih =>
    obtain ⟨hx, hw⟩ := ih
    have hb := he.box hF hx
    refine ⟨hb, ?_⟩
    obtain ⟨a, h1, h2, h3, h4, rfl, rfl⟩ := he
    have ha := List.mem_of_getElem? h1
    rw [← h2] at hw
    simp only
    rw [fitE_take hx.2.1 h3, fitE_take hx.2.2 h4]
    exact hw.snoc ha

theorem fitE_of {u1 u2 : List Int} {x : Int} : (fitE (u1 ++ (lab x ++ u2)) u1.length x).2 = true ∧ (fitE (u1 ++ (lab x ++ u2)) u1.length x).1 = ((u1 ++ lab x).length : Int) := by
  unfold fitE lab
  by_cases e : x = 0
  · simp [if_pos e]
  · rw [if_neg e, if_neg e]
    refine ⟨?_, by simp⟩
    simp only [decide_eq_true_eq, Int.toNat_natCast]
    refine ⟨by simp; omega, ?_⟩
    simp [List.getD]

theorem Way.reach {S : Trip → Int → Prop} {s t : Int} {p q : List Int} {c : Int} (h : Way F.arcs s p q t c) : ∀ {u1 u2 v1 v2 : List Int} {c0 : Int}, u = u1 ++ (p ++ u2) → v = v1 ++ (q ++ v2) → Reach F u v S c0 ⟨s, u1.length, v1.length⟩ →
    Reach F u v S (c0 + c) ⟨t, (u1 ++ p).length, (v1 ++ q).length⟩ := by
  induction h with
  | nil s => intro u1 u2 v1 v2 c0 _ _ h; simpa using h
  | cons ha h ih =>
    rename_i a p q t c
    intro u1 u2 v1 v2 c0 hu hv hr
    obtain ⟨n, hn, he⟩ := List.getElem_of_mem ha
    have f1 := fitE_of (u1 := u1) (u2 := p ++ u2) (x := a.i)
    have f2 := fitE_of (u1 := v1) (u2 := q ++ v2) (x := a.o)
    rw [List.append_assoc] at hu hv
    rw [← hu] at f1
    rw [← hv] at f2
    have hedge : Edge F u v ⟨a.f, u1.length, v1.length⟩ n ⟨a.t, (u1 ++ lab a.i).length, (v1 ++ lab a.o).length⟩ a.w :=
      ⟨a, by rw [List.getElem?_eq_getElem hn, he], rfl, f1.1, f2.1, by rw [f1.2, f2.2], rfl⟩
    have := ih (u1 := u1 ++ lab a.i) (u2 := u2) (v1 := v1 ++ lab a.o) (v2 := v2) (by simp [hu]) (by simp [hv]) (.on hr hedge)
    rw [← Int.add_assoc, ← List.append_assoc, ← List.append_assoc]
    exact this

theorem reach_way (hF : FOk F) {c t : Int} : Reach F u v (fromSt F) c ⟨t, u.length, v.length⟩ ↔ Way F.arcs F.start u v t c := by
  constructor
  · intro h
    have := (h.way hF).2
    simpa using this
  · intro h
    have := h.reach (u := u) (v := v) (S := fromSt F) (u1 := []) (u2 := []) (v1 := []) (v2 := []) (c0 := 0) (by simp) (by simp) (.here ⟨rfl, rfl⟩)
    simpa using this

theorem endF_min {A : Trip → Option Int} {fin : List Int} {p q : Int} (hf : ∀ x ∈ fin, -1 ≤ x) (hA : ∀ y d, A y = some d → 0 ≤ d) : ∀ k, k ≤ fin.length → MinOf (fun c => ∃ (n : Nat) (d : Int), n < k ∧ A ⟨n, p, q⟩ = some d ∧ fin.getD n 0 ≠ -1 ∧ c = d + fin.getD n 0) (endF A fin p q k).2
  | 0, _ => .inl ⟨rfl, fun c h => by obtain ⟨n, d, h, _⟩ := h; omega⟩
  | k + 1, hk => by
    have ih := endF_min (p := p) (q := q) hf hA k (by omega)
    have hfk := hf _ (getD_mem fin k 0 (by omega))
    cases hd : A ⟨k, p, q⟩ with
    | none =>
      rw [endF_none hd]
      rcases ih with ⟨h1, h2⟩ | ⟨h0, ⟨n, d, h1, h2⟩, h3⟩
      · left
        refine ⟨h1, ?_⟩
        rintro c ⟨n, d, g1, g2, g3⟩
        by_cases e : n = k
        · subst e; rw [hd] at g2; cases g2
        · exact h2 c ⟨n, d, by omega, g2, g3⟩
      · right
        refine ⟨h0, ⟨n, d, by omega, h2⟩, ?_⟩
        rintro c ⟨n, d, g1, g2, g3⟩
        by_cases e : n = k
        · subst e; rw [hd] at g2; cases g2
        · exact h3 c ⟨n, d, by omega, g2, g3⟩
    | some d =>
      have hd0 := hA _ _ hd
      by_cases q1 : fin.getD k 0 = -1
      · rw [endF_no hd (.inl q1)]
        rcases ih with ⟨h1, h2⟩ | ⟨h0, ⟨n, d, h1, h2⟩, h3⟩
        · left
          refine ⟨h1, ?_⟩
          rintro c ⟨n, d, g1, g2, g3, g4⟩
          by_cases e : n = k
          · subst e; exact g3 q1
          · exact h2 c ⟨n, d, by omega, g2, g3, g4⟩
        · right
          refine ⟨h0, ⟨n, d, by omega, h2⟩, ?_⟩
          rintro c ⟨n, d, g1, g2, g3, g4⟩
          by_cases e : n = k
          · subst e; exact absurd q1 g3
          · exact h3 c ⟨n, d, by omega, g2, g3, g4⟩
      · by_cases q2 : (endF A fin p q k).2 = -1 ∨ d + fin.getD k 0 < (endF A fin p q k).2
        · rw [endF_yes hd q1 q2]
          right
          refine ⟨by show 0 ≤ d + fin.getD k 0; omega, ⟨k, d, by omega, hd, q1, rfl⟩, ?_⟩
          rintro c ⟨n, d', g1, g2, g3, g4⟩
          by_cases e : n = k
          · subst e; rw [hd] at g2; cases g2; simp only; omega
          · rcases ih with ⟨h1, h2⟩ | ⟨h0, _, h3⟩
            · exact absurd ⟨n, d', by omega, g2, g3, g4⟩ (h2 c)
            · have := h3 c ⟨n, d', by omega, g2, g3, g4⟩
              simp only
              omega
        · rw [endF_no hd (.inr ⟨fun c => q2 (.inl c), fun c => q2 (.inr c)⟩)]
          rcases ih with ⟨h1, h2⟩ | ⟨h0, ⟨n, d', h1, h2⟩, h3⟩
          · exact absurd (.inl h1) q2
          · right
            refine ⟨h0, ⟨n, d', by omega, h2⟩, ?_⟩
            rintro c ⟨n, d', g1, g2, g3, g4⟩
            by_cases e : n = k
            · subst e; rw [hd] at g2; cases g2; omega
            · exact h3 c ⟨n, d', by omega, g2, g3, g4⟩

/-- What score tells. -/
theorem score_min (hF : FOk F) {A : Trip → Option Int} (hA : IsLeast F u v (fromSt F) A) : MinOf (Wt F u v) (endF A F.fin u.length v.length F.fin.length).2 := by
  have hfl := hF.finl
  have hpos : ∀ y d, A y = some d → 0 ≤ d := fun y d h => ((hA.path y d h).way hF).2.pos hF.arc
  have := endF_min (p := u.length) (q := v.length) (fun x hx => (hF.fin x hx).1) hpos F.fin.length (Nat.le_refl _)
  rcases this with ⟨h1, h2⟩ | ⟨h0, ⟨n, d, h1, h2, h3, h4⟩, h5⟩
  · left
    refine ⟨h1, ?_⟩
    rintro c ⟨t, d, g1, g2, g3⟩
    obtain ⟨c', g4, g5⟩ := hA.least _ _ ((reach_way hF).2 g1)
    have hr := g1.rng hF.arc hF.start
    have e : (t.toNat : Int) = t := by omega
    exact h2 _ ⟨t.toNat, c', by omega, by rw [e]; exact g4, g2, rfl⟩
  · right
    refine ⟨h0, ⟨n, d, (reach_way hF).1 (hA.path _ _ h2), by rw [Int.toNat_natCast]; exact h3, by rw [Int.toNat_natCast]; exact h4⟩, ?_⟩
    rintro c ⟨t, d, g1, g2, g3⟩
    obtain ⟨c', g4, g5⟩ := hA.least _ _ ((reach_way hF).2 g1)
    have hr := g1.rng hF.arc hF.start
    have e : (t.toNat : Int) = t := by omega
    have := h5 _ ⟨t.toNat, c', by omega, by rw [e]; exact g4, g2, rfl⟩
    omega
end

theorem endF_bd {A : Trip → Option Int} {fin : List Int} {p q : Int} (hf : ∀ x ∈ fin, x ≤ 1000000000) (hA : ∀ y d, A y = some d → d ≤ 1000000000000000) : ∀ k, k ≤ fin.length → (endF A fin p q k).2 ≤ 1000001000000000
  | 0, _ => by simp [endF]
  | k + 1, hk => by
    have ih := endF_bd (p := p) (q := q) hf hA k (by omega)
    have hfk := hf _ (getD_mem fin k 0 (by omega))
    cases hd : A ⟨k, p, q⟩ with
    | none => rw [endF_none hd]; exact ih
    | some d =>
      have := hA _ _ hd
      by_cases c : fin.getD k 0 ≠ -1 ∧ ((endF A fin p q k).2 = -1 ∨ d + fin.getD k 0 < (endF A fin p q k).2)
      · rw [endF_yes hd c.1 c.2]; show d + fin.getD k 0 ≤ _; omega
      · rw [endF_no hd]
        · exact ih
        · by_cases c1 : fin.getD k 0 = -1
          · exact .inl c1
          · exact .inr ⟨fun e => c ⟨c1, .inl e⟩, fun e => c ⟨c1, .inr e⟩⟩

end Go.Fw

namespace Go.Fw
open Go Go.Proofs

/-- What score answers, whatever it is handed. -/
def ScoreP (F : TF) (u v : List Int) (n : Int) : Prop := (scoreE F u v = 0 → MinOf (Wt F u v) n ∧ n ≤ 1000001000000000) ∧ (scoreE F u v ≠ 0 → n = 0)

set_option maxHeartbeats 4000000 in
set_option maxRecDepth 20000 in
theorem score_b (F : TF) (u v : List Int) (cu cv : Nat) (hl : F.fin.length ≤ 9223372036854775807) (hsc : scoreE F u v = 0) :
    Ct Tryd.prog 20 [fV F, .c (.sl 2 1 0 u.length cu), .c (.sl 3 1 0 v.length cv)] [] (hpQ F u v) 4 (fun x s => ∃ n, ScoreP F u v n ∧ x = .tup [.c (.i n), .c (.i 0)] ∧ s = ⟨[], [], 4⟩) := by
  have hF : FOk F := by
    refine fstE_ok ?_
    unfold scoreE at hsc
    by_cases h : fstE F = 0
    · exact h
    · rw [if_pos h] at hsc; exact absurd hsc h
  refine ctW Tryd.tyOk 12 [] Tryd.func20 rfl (by simp [SV.lt, SA.lt, SC.lt, arcV, fV]) (by simp) (fr := [(0, fV F), (1, .c (.sl 2 1 0 u.length cu)), (2, .c (.sl 3 1 0 v.length cv))]) rfl ?_
  repeat' (first | exact rfl | ((conv => whnf); first | ((first | refine qA (fun h => ?_) fun h => ?_ | refine qN (fun h => ?_) fun h => ?_ | refine qB (fun h => ?_) fun h => ?_ | refine qC (fun h => ?_) fun h => ?_) <;> try exact absurd h (by omega)) | refine qM (fun h => ?_) fun h => ?_ | refine oM (by (first | omega | (simp only [lenS, InI, nmin, EK.sz]; omega) | (simp only [lenS, InI, nmin, EK.sz] at *; omega))) ?_ | refine oM ?_ ?_ | refine bM ?_ ?_ | refine draw_of Tryd.mixed Tryd.tyOk 60 (by kernel_rfl) ?_))
  (conv => whnf)
  refine callF (walk_ok F u v cu cv hl hsc) [0, 1, 2, 3] Tryd.call45 rfl (by simp [eqLs, eqL, eqO, eqC, eqCs, rn, renOf, look_cons, look, EK.cast]) (by simp [appN, ptrs, eqVL, eqV, eqA, eqC, eqCs, eqAs, eqCaps, EK.sz, rn, renOf, look_cons, look, arcV, fV]) (by simp [appN, ptrs, SV.lt, SA.lt, SC.lt, arcV, fV, lenN]) ?_
  rintro _ _ ⟨rows, pi, es, clk, pf, ⟨hm, ord, rk, B, hol, hD, hB, hall⟩, rfl, rfl⟩
  repeat' (first | exact rfl | ((conv => whnf); first | ((first | refine qA (fun h => ?_) fun h => ?_ | refine qN (fun h => ?_) fun h => ?_ | refine qB (fun h => ?_) fun h => ?_ | refine qC (fun h => ?_) fun h => ?_) <;> try exact absurd h (by omega)) | refine qM (fun h => ?_) fun h => ?_ | refine oM (by (first | omega | (simp only [lenS, InI, nmin, EK.sz]; omega) | (simp only [lenS, InI, nmin, EK.sz] at *; omega))) ?_ | refine oM ?_ ?_ | refine bM ?_ ?_ | refine draw_of Tryd.mixed Tryd.tyOk 60 (by kernel_rfl) ?_))
  (conv => whnf)
  refine ⟨[], [], 4, .tup [.c (.i (endF (costOf es pf) F.fin u.length v.length F.fin.length).2), .c (.i 0)], ⟨by rfl, trivial, trivial⟩, by simp [eqV, eqA, eqAs, eqC, eqCs], _, ⟨fun _ => ⟨score_min hF (hD.least hall), ?_⟩, fun c => absurd hsc c⟩, rfl, rfl⟩
  refine endF_bd (fun x hx => (hF.fin x hx).2) (fun y d h => ?_) _ (Nat.le_refl _)
  obtain ⟨e, h1, rfl⟩ := Option.map_eq_some_iff.1 h
  have := (hD.cost y e h1).2
  omega

end Go.Fw

namespace Go.Fw
open Go Go.Proofs

abbrev samT : TF := ⟨2, 0, [-1, 1], [⟨0, 1, 1, 1, 5⟩], 2, 1⟩
abbrev samV (i j : Nat) : SV := .a (.agg [.i 2, .i 0, .sl i 1 0 2 2, .sl j 5 0 1 1])

theorem same_c : Ct Tryd.prog 35 [] [] [] 0 (fun v s => v = samV 0 1 ∧ s = ⟨[], [(0, .arr true 3 .int [-1, 1] 0), (1, .arr true 50 .arc [⟨0, 1, 1, 1, 5⟩] 0)], 2⟩) := by
  refine ctW Tryd.tyOk 2 [] Tryd.func35 rfl (by simp) (by simp) (fr := []) rfl ?_
  repeat' (first | exact rfl | ((conv => whnf); first | ((first | refine qA (fun h => ?_) fun h => ?_ | refine qN (fun h => ?_) fun h => ?_ | refine qB (fun h => ?_) fun h => ?_ | refine qC (fun h => ?_) fun h => ?_) <;> try exact absurd h (by omega)) | refine qM (fun h => ?_) fun h => ?_ | refine oM (by (first | omega | (simp only [lenS, InI, nmin, EK.sz]; omega) | (simp only [lenS, InI, nmin, EK.sz] at *; omega))) ?_ | refine oM ?_ ?_ | refine bM ?_ ?_ | refine draw_of Tryd.mixed Tryd.tyOk 60 (by kernel_rfl) ?_))
  (conv => whnf)
  refine callF (one_c) [] Tryd.call42 rfl (by simp [eqLs, eqL, eqO, eqC, eqCs, rn, renOf, look_cons, look, EK.cast]) (by simp [appN, ptrs, eqVL, eqV, eqA, eqC, eqCs, eqAs, eqCaps, EK.sz, rn, renOf, look_cons, look, arcV, fV]) (by simp [appN, ptrs, SV.lt, SA.lt, SC.lt, arcV, fV, lenN]) ?_
  rintro _ _ ⟨rfl, rfl⟩
  repeat' (first | exact rfl | ((conv => whnf); first | ((first | refine qA (fun h => ?_) fun h => ?_ | refine qN (fun h => ?_) fun h => ?_ | refine qB (fun h => ?_) fun h => ?_ | refine qC (fun h => ?_) fun h => ?_) <;> try exact absurd h (by omega)) | refine qM (fun h => ?_) fun h => ?_ | refine oM (by (first | omega | (simp only [lenS, InI, nmin, EK.sz]; omega) | (simp only [lenS, InI, nmin, EK.sz] at *; omega))) ?_ | refine oM ?_ ?_ | refine bM ?_ ?_ | refine draw_of Tryd.mixed Tryd.tyOk 60 (by kernel_rfl) ?_ | intro _))
  (conv => whnf)
  try simp only [Nat.reduceAdd, Nat.reduceSub]
  exact ⟨[(0, some 1), (1, some 4)], [(0, .arr true 3 .int [-1, 1] 0), (1, .arr true 50 .arc [⟨0, 1, 1, 1, 5⟩] 0)], 2, samV 0 1, ⟨by rfl, trivial, by simp [eqFr, eqHp, eqV, eqA, eqC, eqO, eqCs, eqAs, look_cons, look, rn, EK.cast, EK.sz, eqCaps]⟩, by simp [eqV, eqA, eqAs, eqC, eqCs, rn, look, look_cons, EK.sz], rfl, rfl⟩

/-! ### What Determine makes of it -/
theorem sam_p {p : Nat → Bool} (h : UsOk samT p) : p 0 = true ∧ p 1 = true := by
  have ha : (⟨0, 1, 1, 1, 5⟩ : Arc) ∈ samT.arcs := by simp
  have r0 : Rch samT.arcs false [samT.start] 0 := .here (by simp)
  have r1 : Rch samT.arcs false [samT.start] 1 := Rch.on r0 ha rfl
  have b1 : Rch samT.arcs true [((1 : Nat) : Int)] 1 := .here (by simp)
  have b0 : Rch samT.arcs true [((1 : Nat) : Int)] 0 := Rch.on b1 ha rfl
  exact ⟨(h.iff 0 (by decide)).2 ⟨r0, 1, by decide, by decide, b0⟩, (h.iff 1 (by decide)).2 ⟨r1, 1, by decide, by decide, b1⟩⟩
theorem sam_us {U : TF} (h : IsUs samT U) : U = ⟨2, 0, [-1, 1], [⟨0, 1, 1, 1, 5⟩], U.capF, U.capA⟩ := by
  obtain ⟨p, hp, h1, h2, h3, h4⟩ := h
  obtain ⟨p0, p1⟩ := sam_p hp
  have hk : kT samT p = ⟨2, 0, [-1, 1], [⟨0, 1, 1, 1, 5⟩], 0, 0⟩ := by
    simp [kT, samT, rkB, kfin, karc, kOk, kArc, p0, p1, List.getD, aD]
  rw [hk] at h1 h2 h3 h4
  obtain ⟨a, b, c, d, e, f⟩ := U
  simp only at h1 h2 h3 h4 ⊢
  rw [h1, h2, h3, h4]
theorem sam_bgn (c d : Nat) : bgnF ⟨2, 0, [-1, 1], [⟨0, 1, 1, 1, 5⟩], c, d⟩ 201 200 [⟨0, 0⟩] = 2 := by kernel_rfl
theorem sam_rows (c d : Nat) : rowsD ⟨2, 0, [-1, 1], [⟨0, 1, 1, 1, 5⟩], c, d⟩ 2 = ([[⟨0, 0⟩], [⟨1, 0⟩]], [⟨0, 1, 1, 1, 5⟩]) := by kernel_rfl
theorem sam_fin (c d : Nat) : ([[⟨0, 0⟩], [⟨1, 0⟩]] : List (List Duo)).map (finD ⟨2, 0, [-1, 1], [⟨0, 1, 1, 1, 5⟩], c, d⟩) = [-1, 1] := by kernel_rfl
theorem sam_done {c d : Nat} {st : DS} (h : MDone ⟨2, 0, [-1, 1], [⟨0, 1, 1, 1, 5⟩], c, d⟩ st) : st = ([[⟨0, 0⟩], [⟨1, 0⟩]], [⟨0, 1, 1, 1, 5⟩]) :=
  h.uniq ⟨2, sam_rows c d, rfl⟩
theorem sam_det {x : Obj} {v : SV} {s : S} (h : DetPost samT x v s) : ∃ sp sq, v = .tup [.agg [.i 2, .i 0, .sl 3 1 0 2 (2 + sp), .sl 4 5 0 1 (1 + sq)], .c (.i 0)] ∧
    s = ⟨[], [(2, tabO x), (3, .arr true 3 .int [-1, 1] sp), (4, .arr true 50 .arc [⟨0, 1, 1, 1, 5⟩] sq)], 5⟩ := by
  rcases h with ⟨h, _⟩ | ⟨_, U, hus, ⟨h, _, _⟩ | ⟨_, st, hmd, _, sp, sq, h1, h2⟩⟩
  · exact absurd (by decide : detE samT = 0) h
  · have hU := sam_us hus
    rw [hU] at h
    rcases h with h | ⟨_, st, hmd, hg⟩
    · rw [sam_bgn] at h; omega
    · have := sam_done hmd
      subst this
      rw [sam_fin] at hg
      exact absurd hg (by decide)
  · have hU := sam_us hus
    rw [hU] at hmd h1 h2
    have := sam_done hmd
    subst this
    simp only [sam_fin] at h1 h2
    exact ⟨sp, sq, h1, h2⟩

theorem sam_score {cf ca : Nat} {n : Int} (h : ScoreP ⟨2, 0, [-1, 1], [⟨0, 1, 1, 1, 5⟩], cf, ca⟩ [1] [1] n) : n = 6 := by
  have h1 := (h.1 (by kernel_rfl)).1
  have hw : Wt ⟨2, 0, [-1, 1], [⟨0, 1, 1, 1, 5⟩], cf, ca⟩ [1] [1] 6 := one_wt.2 ⟨by decide, by decide, rfl⟩
  rcases h1 with ⟨_, h2⟩ | ⟨_, h2, _⟩
  · exact absurd hw (h2 6)
  · exact (one_wt.1 h2).2.2

abbrev sam2T : TF := ⟨2, 0, [-1, 1], [⟨0, 1, 1, 0, 2⟩, ⟨0, 1, 1, 1, 5⟩], 2, 2⟩
theorem sam2_round : roundV sam2T = .tup [.c (.b true), .c (.i 0)] := by kernel_rfl
theorem sam2_is : isV sam2T = .tup [.c (.b false), .c (.i 0)] := by kernel_rfl
theorem sam_is (c d : Nat) : isV ⟨2, 0, [-1, 1], [⟨0, 1, 1, 1, 5⟩], c, d⟩ = .tup [.c (.b true), .c (.i 0)] := by kernel_rfl

set_option maxHeartbeats 8000000 in
set_option maxRecDepth 20000 in
theorem determineBegun_c (x : Obj) (hx : TabX x) : Ct Tryd.prog 14 [] [] [(0, tabO x)] 1 (fun v s => v = .b true ∧ s = ⟨[], [(0, tabO x)], 1⟩) := by
  refine ctW Tryd.tyOk 12 [] Tryd.func14 rfl (by simp) (by simp) (fr := []) rfl ?_
  repeat' (first | exact rfl | ((conv => whnf); first | ((first | refine qA (fun h => ?_) fun h => ?_ | refine qN (fun h => ?_) fun h => ?_ | refine qB (fun h => ?_) fun h => ?_ | refine qC (fun h => ?_) fun h => ?_) <;> try exact absurd h (by omega)) | refine qM (fun h => ?_) fun h => ?_ | refine oM (by (first | omega | (simp only [lenS, InI, nmin, EK.sz]; omega) | (simp only [lenS, InI, nmin, EK.sz] at *; omega))) ?_ | refine oM ?_ ?_ | refine bM ?_ ?_ | refine draw_of Tryd.mixed Tryd.tyOk 60 (by kernel_rfl) ?_))
  (conv => whnf)
  refine callF (same_c) [] Tryd.call35 rfl (by simp [eqLs, eqL, eqO, eqC, eqCs, rn, renOf, look_cons, look, EK.cast]) (by simp [appN, ptrs, eqVL, eqV, eqA, eqC, eqCs, eqAs, eqCaps, EK.sz, rn, renOf, look_cons, look, arcV, fV]) (by simp [appN, ptrs, SV.lt, SA.lt, SC.lt, arcV, fV, lenN]) ?_
  rintro _ _ ⟨rfl, rfl⟩
  repeat' (first | exact rfl | ((conv => whnf); first | ((first | refine qA (fun h => ?_) fun h => ?_ | refine qN (fun h => ?_) fun h => ?_ | refine qB (fun h => ?_) fun h => ?_ | refine qC (fun h => ?_) fun h => ?_) <;> try exact absurd h (by omega)) | refine qM (fun h => ?_) fun h => ?_ | refine oM (by (first | omega | (simp only [lenS, InI, nmin, EK.sz]; omega) | (simp only [lenS, InI, nmin, EK.sz] at *; omega))) ?_ | refine oM ?_ ?_ | refine bM ?_ ?_ | refine draw_of Tryd.mixed Tryd.tyOk 60 (by kernel_rfl) ?_ | intro _))
  (conv => whnf)
  try simp only [Nat.reduceAdd, Nat.reduceSub]
  refine callI (round_c sam2T (by decide)) [1, 4] Tryd.call9 rfl (by simp [eqLs, eqL, eqO, eqC, eqCs, rn, renOf, look_cons, look, EK.cast]) (by simp [appN, ptrs, eqVL, eqV, eqA, eqC, eqCs, eqAs, eqCaps, EK.sz, rn, renOf, look_cons, look, arcV, fV]) (by simp [appN, ptrs, SV.lt, SA.lt, SC.lt, arcV, fV]) ?_
  rw [sam2_round]
  repeat' (first | exact rfl | ((conv => whnf); first | ((first | refine qA (fun h => ?_) fun h => ?_ | refine qN (fun h => ?_) fun h => ?_ | refine qB (fun h => ?_) fun h => ?_ | refine qC (fun h => ?_) fun h => ?_) <;> try exact absurd h (by omega)) | refine qM (fun h => ?_) fun h => ?_ | refine oM (by (first | omega | (simp only [lenS, InI, nmin, EK.sz]; omega) | (simp only [lenS, InI, nmin, EK.sz] at *; omega))) ?_ | refine oM ?_ ?_ | refine bM ?_ ?_ | refine draw_of Tryd.mixed Tryd.tyOk 60 (by kernel_rfl) ?_ | intro _))
  (conv => whnf)
  try simp only [Nat.reduceAdd, Nat.reduceSub]
  refine callI (is_c sam2T (by decide)) [1, 4] Tryd.call8 rfl (by simp [eqLs, eqL, eqO, eqC, eqCs, rn, renOf, look_cons, look, EK.cast]) (by simp [appN, ptrs, eqVL, eqV, eqA, eqC, eqCs, eqAs, eqCaps, EK.sz, rn, renOf, look_cons, look, arcV, fV]) (by simp [appN, ptrs, SV.lt, SA.lt, SC.lt, arcV, fV]) ?_
  rw [sam2_is]
  repeat' (first | exact rfl | ((conv => whnf); first | ((first | refine qA (fun h => ?_) fun h => ?_ | refine qN (fun h => ?_) fun h => ?_ | refine qB (fun h => ?_) fun h => ?_ | refine qC (fun h => ?_) fun h => ?_) <;> try exact absurd h (by omega)) | refine qM (fun h => ?_) fun h => ?_ | refine oM (by (first | omega | (simp only [lenS, InI, nmin, EK.sz]; omega) | (simp only [lenS, InI, nmin, EK.sz] at *; omega))) ?_ | refine oM ?_ ?_ | refine bM ?_ ?_ | refine draw_of Tryd.mixed Tryd.tyOk 60 (by kernel_rfl) ?_ | intro _))
  (conv => whnf)
  try simp only [Nat.reduceAdd, Nat.reduceSub]
  refine callF (same_c) [] Tryd.call35 rfl (by simp [eqLs, eqL, eqO, eqC, eqCs, rn, renOf, look_cons, look, EK.cast]) (by simp [appN, ptrs, eqVL, eqV, eqA, eqC, eqCs, eqAs, eqCaps, EK.sz, rn, renOf, look_cons, look, arcV, fV]) (by simp [appN, ptrs, SV.lt, SA.lt, SC.lt, arcV, fV, lenN]) ?_
  rintro _ _ ⟨rfl, rfl⟩
  repeat' (first | exact rfl | ((conv => whnf); first | ((first | refine qA (fun h => ?_) fun h => ?_ | refine qN (fun h => ?_) fun h => ?_ | refine qB (fun h => ?_) fun h => ?_ | refine qC (fun h => ?_) fun h => ?_) <;> try exact absurd h (by omega)) | refine qM (fun h => ?_) fun h => ?_ | refine oM (by (first | omega | (simp only [lenS, InI, nmin, EK.sz]; omega) | (simp only [lenS, InI, nmin, EK.sz] at *; omega))) ?_ | refine oM ?_ ?_ | refine bM ?_ ?_ | refine draw_of Tryd.mixed Tryd.tyOk 60 (by kernel_rfl) ?_ | intro _))
  (conv => whnf)
  try simp only [Nat.reduceAdd, Nat.reduceSub]
  refine callF (determine_c samT (by decide) x hx) [5, 6, 0] Tryd.call15 rfl (by simp [eqLs, eqL, eqO, eqC, eqCs, rn, renOf, look_cons, look, EK.cast]) (by simp [appN, ptrs, eqVL, eqV, eqA, eqC, eqCs, eqAs, eqCaps, EK.sz, rn, renOf, look_cons, look, arcV, fV]) (by simp [appN, ptrs, SV.lt, SA.lt, SC.lt, arcV, fV, lenN]) ?_
  rintro v s hd
  obtain ⟨sp, sq, rfl, rfl⟩ := sam_det hd
  clear hd
  try simp only [Nat.reduceAdd, Nat.reduceSub]
  repeat' (first | exact rfl | ((conv => whnf); first | ((first | refine qA (fun h => ?_) fun h => ?_ | refine qN (fun h => ?_) fun h => ?_ | refine qB (fun h => ?_) fun h => ?_ | refine qC (fun h => ?_) fun h => ?_) <;> try exact absurd h (by omega)) | refine qM (fun h => ?_) fun h => ?_ | refine oM (by (first | omega | (simp only [lenS, InI, nmin, EK.sz]; omega) | (simp only [lenS, InI, nmin, EK.sz] at *; omega))) ?_ | refine oM ?_ ?_ | refine bM ?_ ?_ | refine draw_of Tryd.mixed Tryd.tyOk 60 (by kernel_rfl) ?_ | intro _))
  (conv => whnf)
  try simp only [Nat.reduceAdd, Nat.reduceSub]
  refine callF (score_b ⟨2, 0, [-1, 1], [⟨0, 1, 1, 1, 5⟩], 2 + sp, 1 + sq⟩ [1] [1] 1 1 (show ([-1, 1] : List Int).length ≤ 9223372036854775807 by decide) (by kernel_rfl)) [7, 8, 10, 11] Tryd.call20 rfl (by simp [eqLs, eqL, eqO, eqC, eqCs, rn, renOf, look_cons, look, EK.cast]) (by simp [appN, ptrs, eqVL, eqV, eqA, eqC, eqCs, eqAs, eqCaps, EK.sz, rn, renOf, look_cons, look, arcV, fV]) (by simp [appN, ptrs, SV.lt, SA.lt, SC.lt, arcV, fV, lenN]) ?_
  rintro _ _ ⟨n, hn, rfl, rfl⟩
  have hn6 := sam_score hn
  subst hn6
  clear hn
  try simp only [Nat.reduceAdd, Nat.reduceSub]
  repeat' (first | exact rfl | ((conv => whnf); first | ((first | refine qA (fun h => ?_) fun h => ?_ | refine qN (fun h => ?_) fun h => ?_ | refine qB (fun h => ?_) fun h => ?_ | refine qC (fun h => ?_) fun h => ?_) <;> try exact absurd h (by omega)) | refine qM (fun h => ?_) fun h => ?_ | refine oM (by (first | omega | (simp only [lenS, InI, nmin, EK.sz]; omega) | (simp only [lenS, InI, nmin, EK.sz] at *; omega))) ?_ | refine oM ?_ ?_ | refine bM ?_ ?_ | refine draw_of Tryd.mixed Tryd.tyOk 60 (by kernel_rfl) ?_ | intro _))
  (conv => whnf)
  try simp only [Nat.reduceAdd, Nat.reduceSub]
  refine callI (is_c ⟨2, 0, [-1, 1], [⟨0, 1, 1, 1, 5⟩], 2 + sp, 1 + sq⟩ (show ([-1, 1] : List Int).length ≤ 9223372036854775807 by decide)) [7, 8] Tryd.call8 rfl (by simp [eqLs, eqL, eqO, eqC, eqCs, rn, renOf, look_cons, look, EK.cast]) (by simp [appN, ptrs, eqVL, eqV, eqA, eqC, eqCs, eqAs, eqCaps, EK.sz, rn, renOf, look_cons, look, arcV, fV]) (by simp [appN, ptrs, SV.lt, SA.lt, SC.lt, arcV, fV]) ?_
  rw [sam_is]
  repeat' (first | exact rfl | ((conv => whnf); first | ((first | refine qA (fun h => ?_) fun h => ?_ | refine qN (fun h => ?_) fun h => ?_ | refine qB (fun h => ?_) fun h => ?_ | refine qC (fun h => ?_) fun h => ?_) <;> try exact absurd h (by omega)) | refine qM (fun h => ?_) fun h => ?_ | refine oM (by (first | omega | (simp only [lenS, InI, nmin, EK.sz]; omega) | (simp only [lenS, InI, nmin, EK.sz] at *; omega))) ?_ | refine oM ?_ ?_ | refine bM ?_ ?_ | refine draw_of Tryd.mixed Tryd.tyOk 60 (by kernel_rfl) ?_ | intro _))
  (conv => whnf)
  exact ⟨[], [(0, tabO x)], 1, .b true, ⟨by rfl, trivial, by simp [eqFr, eqHp, eqV, eqA, eqC, eqO, eqCs, eqAs, look_cons, look, rn, EK.cast, EK.sz, eqCaps]⟩, by simp [eqV, eqA, eqC], rfl, rfl⟩
end Go.Fw

namespace Go.Fw
open Go Go.Proofs

set_option maxHeartbeats 8000000 in
set_option maxRecDepth 20000 in
theorem determineTells_c (F : TF) (hl : F.fin.length ≤ 9223372036854775807) (x : Obj) (hx : TabX x) : Ct Tryd.prog 3 [fV F] [] (hpF F ++ [(2, tabO x)]) 3 (fun v s => v = .b true ∧ s = ⟨[], [(2, tabO x)], 3⟩) := by
  by_cases h : fstE F = 0
  · have hF := fstE_ok h
    have hal := hF.arcl
    have hsr := (fstE_iff.1 h).2
    have hsg : sglB F.arcs = (!dblB F.arcs && !silB F) := sgl_eq hsr
    have hi : isV F = .tup [.c (.b (bothB F && sglB F.arcs)), .c (.i 0)] := if_pos h
    have hr : roundV F = .tup [.c (.b (roundB F.arcs F.st.toNat)), .c (.i 0)] := if_pos h
    refine ctW Tryd.tyOk 10 [] Tryd.func3 rfl (by simp [SV.lt, SA.lt, SC.lt, arcV, fV]) (by simp) (fr := [(0, fV F)]) rfl ?_
    repeat' (first | exact rfl | ((conv => whnf); first | ((first | refine qA (fun h => ?_) fun h => ?_ | refine qN (fun h => ?_) fun h => ?_ | refine qB (fun h => ?_) fun h => ?_ | refine qC (fun h => ?_) fun h => ?_) <;> try exact absurd h (by omega)) | refine qM (fun h => ?_) fun h => ?_ | refine oM (by (first | omega | (simp only [lenS, InI, nmin, EK.sz]; omega) | (simp only [lenS, InI, nmin, EK.sz] at *; omega))) ?_ | refine oM ?_ ?_ | refine bM ?_ ?_ | refine draw_of Tryd.mixed Tryd.tyOk 60 (by kernel_rfl) ?_))
    refine callI (is_c F hl) [0, 1] Tryd.call8 rfl (by simp [eqLs, eqL, eqO, eqC, eqCs, rn, renOf, look_cons, look, EK.cast]) (by simp [appN, ptrs, eqVL, eqV, eqA, eqC, eqCs, eqAs, eqCaps, EK.sz, rn, renOf, look_cons, look, arcV, fV]) (by simp [appN, ptrs, SV.lt, SA.lt, SC.lt, arcV, fV]) ?_
    rw [hi]
    repeat' (first | exact rfl | ((conv => whnf); first | ((first | refine qA (fun h => ?_) fun h => ?_ | refine qN (fun h => ?_) fun h => ?_ | refine qB (fun h => ?_) fun h => ?_ | refine qC (fun h => ?_) fun h => ?_) <;> try exact absurd h (by omega)) | refine qM (fun h => ?_) fun h => ?_ | refine oM (by (first | omega | (simp only [lenS, InI, nmin, EK.sz]; omega) | (simp only [lenS, InI, nmin, EK.sz] at *; omega))) ?_ | refine oM ?_ ?_ | refine bM ?_ ?_ | refine draw_of Tryd.mixed Tryd.tyOk 60 (by kernel_rfl) ?_))
    (conv => whnf)
    refine callI (round_c F hl) [0, 1] Tryd.call9 rfl (by simp [eqLs, eqL, eqO, eqC, eqCs, rn, renOf, look_cons, look, EK.cast]) (by simp [appN, ptrs, eqVL, eqV, eqA, eqC, eqCs, eqAs, eqCaps, EK.sz, rn, renOf, look_cons, look, arcV, fV]) (by simp [appN, ptrs, SV.lt, SA.lt, SC.lt, arcV, fV]) ?_
    rw [hr]
    repeat' (first | exact rfl | ((conv => whnf); first | ((first | refine qA (fun h => ?_) fun h => ?_ | refine qN (fun h => ?_) fun h => ?_ | refine qB (fun h => ?_) fun h => ?_ | refine qC (fun h => ?_) fun h => ?_) <;> try exact absurd h (by omega)) | refine qM (fun h => ?_) fun h => ?_ | refine oM (by (first | omega | (simp only [lenS, InI, nmin, EK.sz]; omega) | (simp only [lenS, InI, nmin, EK.sz] at *; omega))) ?_ | refine oM ?_ ?_ | refine bM ?_ ?_ | refine draw_of Tryd.mixed Tryd.tyOk 60 (by kernel_rfl) ?_))
    (conv => whnf)
    refine callI (checkFst_c F) [0, 1] Tryd.call10 rfl (by simp [eqLs, eqL, eqO, eqC, eqCs, rn, renOf, look_cons, look, EK.cast]) (by simp [appN, ptrs, eqVL, eqV, eqA, eqC, eqCs, eqAs, eqCaps, EK.sz, rn, renOf, look_cons, look, arcV, fV]) (by simp [appN, ptrs, SV.lt, SA.lt, SC.lt, arcV, fV]) ?_
    rw [h]
    repeat' (first | exact rfl | ((conv => whnf); first | ((first | refine qA (fun h => ?_) fun h => ?_ | refine qN (fun h => ?_) fun h => ?_ | refine qB (fun h => ?_) fun h => ?_ | refine qC (fun h => ?_) fun h => ?_) <;> try exact absurd h (by omega)) | refine qM (fun h => ?_) fun h => ?_ | refine oM (by (first | omega | (simp only [lenS, InI, nmin, EK.sz]; omega) | (simp only [lenS, InI, nmin, EK.sz] at *; omega))) ?_ | refine oM ?_ ?_ | refine bM ?_ ?_ | refine draw_of Tryd.mixed Tryd.tyOk 60 (by kernel_rfl) ?_))
    (conv => whnf)
    have c1 := isBoth_c F (by omega)
    have c2 := isSingle_c F (by omega)
    have c3 := isRound_c F (FRng.of hF)
    have c4 := determineBegun_c x hx
    rw [hsg]
    generalize bothB F = b1 at *
    generalize dblB F.arcs = b2 at *
    generalize silB F = b3 at *
    generalize roundB F.arcs F.st.toNat = b4 at *
    clear hi hr hsg
    refine callI (c1) [0, 1] Tryd.call11 rfl (by simp [eqLs, eqL, eqO, eqC, eqCs, rn, renOf, look_cons, look, EK.cast]) (by simp [appN, ptrs, eqVL, eqV, eqA, eqC, eqCs, eqAs, eqCaps, EK.sz, rn, renOf, look_cons, look, arcV, fV]) (by simp [appN, ptrs, SV.lt, SA.lt, SC.lt, arcV, fV]) ?_
    cases b1 with
    | true =>
      repeat' (first | exact rfl | ((conv => whnf); first | ((first | refine qA (fun h => ?_) fun h => ?_ | refine qN (fun h => ?_) fun h => ?_ | refine qB (fun h => ?_) fun h => ?_ | refine qC (fun h => ?_) fun h => ?_) <;> try exact absurd h (by omega)) | refine qM (fun h => ?_) fun h => ?_ | refine oM (by (first | omega | (simp only [lenS, InI, nmin, EK.sz]; omega) | (simp only [lenS, InI, nmin, EK.sz] at *; omega))) ?_ | refine oM ?_ ?_ | refine bM ?_ ?_ | refine draw_of Tryd.mixed Tryd.tyOk 60 (by kernel_rfl) ?_))
      (conv => whnf)
      refine callI (c2) [0, 1] Tryd.call12 rfl (by simp [eqLs, eqL, eqO, eqC, eqCs, rn, renOf, look_cons, look, EK.cast]) (by simp [appN, ptrs, eqVL, eqV, eqA, eqC, eqCs, eqAs, eqCaps, EK.sz, rn, renOf, look_cons, look, arcV, fV]) (by simp [appN, ptrs, SV.lt, SA.lt, SC.lt, arcV, fV]) ?_
      repeat' (first | exact rfl | ((conv => whnf); first | ((first | refine qA (fun h => ?_) fun h => ?_ | refine qN (fun h => ?_) fun h => ?_ | refine qB (fun h => ?_) fun h => ?_ | refine qC (fun h => ?_) fun h => ?_) <;> try exact absurd h (by omega)) | refine qM (fun h => ?_) fun h => ?_ | refine oM (by (first | omega | (simp only [lenS, InI, nmin, EK.sz]; omega) | (simp only [lenS, InI, nmin, EK.sz] at *; omega))) ?_ | refine oM ?_ ?_ | refine bM ?_ ?_ | refine draw_of Tryd.mixed Tryd.tyOk 60 (by kernel_rfl) ?_))
      (conv => whnf)
      refine callI (c3) [0, 1] Tryd.call13 rfl (by simp [eqLs, eqL, eqO, eqC, eqCs, rn, renOf, look_cons, look, EK.cast]) (by simp [appN, ptrs, eqVL, eqV, eqA, eqC, eqCs, eqAs, eqCaps, EK.sz, rn, renOf, look_cons, look, arcV, fV]) (by simp [appN, ptrs, SV.lt, SA.lt, SC.lt, arcV, fV]) ?_
      repeat' (first | exact rfl | ((conv => whnf); first | ((first | refine qA (fun h => ?_) fun h => ?_ | refine qN (fun h => ?_) fun h => ?_ | refine qB (fun h => ?_) fun h => ?_ | refine qC (fun h => ?_) fun h => ?_) <;> try exact absurd h (by omega)) | refine qM (fun h => ?_) fun h => ?_ | refine oM (by (first | omega | (simp only [lenS, InI, nmin, EK.sz]; omega) | (simp only [lenS, InI, nmin, EK.sz] at *; omega))) ?_ | refine oM ?_ ?_ | refine bM ?_ ?_ | refine draw_of Tryd.mixed Tryd.tyOk 60 (by kernel_rfl) ?_))
      (conv => whnf)
      refine callF (c4) [2] Tryd.call14 rfl (by simp [eqLs, eqL, eqO, eqC, eqCs, rn, renOf, look_cons, look, EK.cast]) (by simp [appN, ptrs, eqVL, eqV, eqA, eqC, eqCs, eqAs, eqCaps, EK.sz, rn, renOf, look_cons, look, arcV, fV]) (by simp [appN, ptrs, SV.lt, SA.lt, SC.lt, arcV, fV, lenN]) ?_
      rintro _ _ ⟨rfl, rfl⟩
      cases b2 <;> cases b3 <;> cases b4
      all_goals
        repeat' (first | exact rfl | ((conv => whnf); first | ((first | refine qA (fun h => ?_) fun h => ?_ | refine qN (fun h => ?_) fun h => ?_ | refine qB (fun h => ?_) fun h => ?_ | refine qC (fun h => ?_) fun h => ?_) <;> try exact absurd h (by omega)) | refine qM (fun h => ?_) fun h => ?_ | refine oM (by (first | omega | (simp only [lenS, InI, nmin, EK.sz]; omega) | (simp only [lenS, InI, nmin, EK.sz] at *; omega))) ?_ | refine oM ?_ ?_ | refine bM ?_ ?_ | refine draw_of Tryd.mixed Tryd.tyOk 60 (by kernel_rfl) ?_ | intro _))
        (conv => whnf)
        exact ⟨[], [(2, tabO x)], 3, .b true, ⟨by rfl, trivial, by simp [eqFr, eqHp, eqV, eqA, eqC, eqO, eqCs, eqAs, look_cons, look, rn, EK.cast, EK.sz, eqCaps]⟩, by simp [eqV, eqA, eqC], rfl, rfl⟩
    | false =>
      repeat' (first | exact rfl | ((conv => whnf); first | ((first | refine qA (fun h => ?_) fun h => ?_ | refine qN (fun h => ?_) fun h => ?_ | refine qB (fun h => ?_) fun h => ?_ | refine qC (fun h => ?_) fun h => ?_) <;> try exact absurd h (by omega)) | refine qM (fun h => ?_) fun h => ?_ | refine oM (by (first | omega | (simp only [lenS, InI, nmin, EK.sz]; omega) | (simp only [lenS, InI, nmin, EK.sz] at *; omega))) ?_ | refine oM ?_ ?_ | refine bM ?_ ?_ | refine draw_of Tryd.mixed Tryd.tyOk 60 (by kernel_rfl) ?_))
      (conv => whnf)
      refine callI (c3) [0, 1] Tryd.call13 rfl (by simp [eqLs, eqL, eqO, eqC, eqCs, rn, renOf, look_cons, look, EK.cast]) (by simp [appN, ptrs, eqVL, eqV, eqA, eqC, eqCs, eqAs, eqCaps, EK.sz, rn, renOf, look_cons, look, arcV, fV]) (by simp [appN, ptrs, SV.lt, SA.lt, SC.lt, arcV, fV]) ?_
      repeat' (first | exact rfl | ((conv => whnf); first | ((first | refine qA (fun h => ?_) fun h => ?_ | refine qN (fun h => ?_) fun h => ?_ | refine qB (fun h => ?_) fun h => ?_ | refine qC (fun h => ?_) fun h => ?_) <;> try exact absurd h (by omega)) | refine qM (fun h => ?_) fun h => ?_ | refine oM (by (first | omega | (simp only [lenS, InI, nmin, EK.sz]; omega) | (simp only [lenS, InI, nmin, EK.sz] at *; omega))) ?_ | refine oM ?_ ?_ | refine bM ?_ ?_ | refine draw_of Tryd.mixed Tryd.tyOk 60 (by kernel_rfl) ?_))
      (conv => whnf)
      refine callF (c4) [2] Tryd.call14 rfl (by simp [eqLs, eqL, eqO, eqC, eqCs, rn, renOf, look_cons, look, EK.cast]) (by simp [appN, ptrs, eqVL, eqV, eqA, eqC, eqCs, eqAs, eqCaps, EK.sz, rn, renOf, look_cons, look, arcV, fV]) (by simp [appN, ptrs, SV.lt, SA.lt, SC.lt, arcV, fV, lenN]) ?_
      rintro _ _ ⟨rfl, rfl⟩
      cases b4
      all_goals
        repeat' (first | exact rfl | ((conv => whnf); first | ((first | refine qA (fun h => ?_) fun h => ?_ | refine qN (fun h => ?_) fun h => ?_ | refine qB (fun h => ?_) fun h => ?_ | refine qC (fun h => ?_) fun h => ?_) <;> try exact absurd h (by omega)) | refine qM (fun h => ?_) fun h => ?_ | refine oM (by (first | omega | (simp only [lenS, InI, nmin, EK.sz]; omega) | (simp only [lenS, InI, nmin, EK.sz] at *; omega))) ?_ | refine oM ?_ ?_ | refine bM ?_ ?_ | refine draw_of Tryd.mixed Tryd.tyOk 60 (by kernel_rfl) ?_ | intro _))
        (conv => whnf)
        exact ⟨[], [(2, tabO x)], 3, .b true, ⟨by rfl, trivial, by simp [eqFr, eqHp, eqV, eqA, eqC, eqO, eqCs, eqAs, look_cons, look, rn, EK.cast, EK.sz, eqCaps]⟩, by simp [eqV, eqA, eqC], rfl, rfl⟩
  · have hi : isV F = .tup [.c (.b false), .c (.i (fstE F))] := if_neg h
    have hr : roundV F = .tup [.c (.b false), .c (.i (fstE F))] := if_neg h
    refine ctW Tryd.tyOk 10 [] Tryd.func3 rfl (by simp [SV.lt, SA.lt, SC.lt, arcV, fV]) (by simp) (fr := [(0, fV F)]) rfl ?_
    repeat' (first | exact rfl | ((conv => whnf); first | ((first | refine qA (fun h => ?_) fun h => ?_ | refine qN (fun h => ?_) fun h => ?_ | refine qB (fun h => ?_) fun h => ?_ | refine qC (fun h => ?_) fun h => ?_) <;> try exact absurd h (by omega)) | refine qM (fun h => ?_) fun h => ?_ | refine oM (by (first | omega | (simp only [lenS, InI, nmin, EK.sz]; omega) | (simp only [lenS, InI, nmin, EK.sz] at *; omega))) ?_ | refine oM ?_ ?_ | refine bM ?_ ?_ | refine draw_of Tryd.mixed Tryd.tyOk 60 (by kernel_rfl) ?_))
    refine callI (is_c F hl) [0, 1] Tryd.call8 rfl (by simp [eqLs, eqL, eqO, eqC, eqCs, rn, renOf, look_cons, look, EK.cast]) (by simp [appN, ptrs, eqVL, eqV, eqA, eqC, eqCs, eqAs, eqCaps, EK.sz, rn, renOf, look_cons, look, arcV, fV]) (by simp [appN, ptrs, SV.lt, SA.lt, SC.lt, arcV, fV]) ?_
    rw [hi]
    repeat' (first | exact rfl | ((conv => whnf); first | ((first | refine qA (fun h => ?_) fun h => ?_ | refine qN (fun h => ?_) fun h => ?_ | refine qB (fun h => ?_) fun h => ?_ | refine qC (fun h => ?_) fun h => ?_) <;> try exact absurd h (by omega)) | refine qM (fun h => ?_) fun h => ?_ | refine oM (by (first | omega | (simp only [lenS, InI, nmin, EK.sz]; omega) | (simp only [lenS, InI, nmin, EK.sz] at *; omega))) ?_ | refine oM ?_ ?_ | refine bM ?_ ?_ | refine draw_of Tryd.mixed Tryd.tyOk 60 (by kernel_rfl) ?_))
    (conv => whnf)
    refine callI (round_c F hl) [0, 1] Tryd.call9 rfl (by simp [eqLs, eqL, eqO, eqC, eqCs, rn, renOf, look_cons, look, EK.cast]) (by simp [appN, ptrs, eqVL, eqV, eqA, eqC, eqCs, eqAs, eqCaps, EK.sz, rn, renOf, look_cons, look, arcV, fV]) (by simp [appN, ptrs, SV.lt, SA.lt, SC.lt, arcV, fV]) ?_
    rw [hr]
    repeat' (first | exact rfl | ((conv => whnf); first | ((first | refine qA (fun h => ?_) fun h => ?_ | refine qN (fun h => ?_) fun h => ?_ | refine qB (fun h => ?_) fun h => ?_ | refine qC (fun h => ?_) fun h => ?_) <;> try exact absurd h (by omega)) | refine qM (fun h => ?_) fun h => ?_ | refine oM (by (first | omega | (simp only [lenS, InI, nmin, EK.sz]; omega) | (simp only [lenS, InI, nmin, EK.sz] at *; omega))) ?_ | refine oM ?_ ?_ | refine bM ?_ ?_ | refine draw_of Tryd.mixed Tryd.tyOk 60 (by kernel_rfl) ?_))
    (conv => whnf)
    refine callI (checkFst_c F) [0, 1] Tryd.call10 rfl (by simp [eqLs, eqL, eqO, eqC, eqCs, rn, renOf, look_cons, look, EK.cast]) (by simp [appN, ptrs, eqVL, eqV, eqA, eqC, eqCs, eqAs, eqCaps, EK.sz, rn, renOf, look_cons, look, arcV, fV]) (by simp [appN, ptrs, SV.lt, SA.lt, SC.lt, arcV, fV]) ?_
    repeat' (first | exact rfl | ((conv => whnf); first | ((first | refine qA (fun h => ?_) fun h => ?_ | refine qN (fun h => ?_) fun h => ?_ | refine qB (fun h => ?_) fun h => ?_ | refine qC (fun h => ?_) fun h => ?_) <;> try exact absurd h (by omega)) | refine qM (fun h => ?_) fun h => ?_ | refine oM (by (first | omega | (simp only [lenS, InI, nmin, EK.sz]; omega) | (simp only [lenS, InI, nmin, EK.sz] at *; omega))) ?_ | refine oM ?_ ?_ | refine bM ?_ ?_ | refine draw_of Tryd.mixed Tryd.tyOk 60 (by kernel_rfl) ?_))
    (conv => whnf)
    refine callF (determineBegun_c x hx) [2] Tryd.call14 rfl (by simp [eqLs, eqL, eqO, eqC, eqCs, rn, renOf, look_cons, look, EK.cast]) (by simp [appN, ptrs, eqVL, eqV, eqA, eqC, eqCs, eqAs, eqCaps, EK.sz, rn, renOf, look_cons, look, arcV, fV]) (by simp [appN, ptrs, SV.lt, SA.lt, SC.lt, arcV, fV, lenN]) ?_
    rintro _ _ ⟨rfl, rfl⟩
    repeat' (first | exact rfl | ((conv => whnf); first | ((first | refine qA (fun h => ?_) fun h => ?_ | refine qN (fun h => ?_) fun h => ?_ | refine qB (fun h => ?_) fun h => ?_ | refine qC (fun h => ?_) fun h => ?_) <;> try exact absurd h (by omega)) | refine qM (fun h => ?_) fun h => ?_ | refine oM (by (first | omega | (simp only [lenS, InI, nmin, EK.sz]; omega) | (simp only [lenS, InI, nmin, EK.sz] at *; omega))) ?_ | refine oM ?_ ?_ | refine bM ?_ ?_ | refine draw_of Tryd.mixed Tryd.tyOk 60 (by kernel_rfl) ?_ | intro _))
    · (conv => whnf)
      exact ⟨[], [(2, tabO x)], 3, .b true, ⟨by rfl, trivial, by simp [eqFr, eqHp, eqV, eqA, eqC, eqO, eqCs, eqAs, look_cons, look, rn, EK.cast, EK.sz, eqCaps]⟩, by simp [eqV, eqA, eqC], rfl, rfl⟩
    all_goals (exfalso; simp_all)
end Go.Fw
