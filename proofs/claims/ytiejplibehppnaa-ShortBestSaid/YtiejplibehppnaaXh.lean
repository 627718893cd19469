/- Walks of the functions: what each computes. -/
import Derived.Test.YtiejplibehppnaaXg

set_option linter.unusedSimpArgs false
set_option linter.unusedVariables false

namespace Go.Fw
open Go Go.Proofs

/-- The best end so far. -/
def endF (D : Trip → Option Int) (fin : List Int) (p q : Int) : Nat → Trip × Int
  | 0 => (⟨0, 0, 0⟩, -1)
  | k + 1 => match D ⟨k, p, q⟩ with
    | none => endF D fin p q k
    | some d => if fin.getD k 0 ≠ -1 ∧ ((endF D fin p q k).2 = -1 ∨ d + fin.getD k 0 < (endF D fin p q k).2) then (⟨k, p, q⟩, d + fin.getD k 0) else endF D fin p q k

theorem endF_none {D : Trip → Option Int} {fin : List Int} {p q : Int} {k : Nat} (h : D ⟨k, p, q⟩ = none) : endF D fin p q (k + 1) = endF D fin p q k := by simp [endF, h]
theorem endF_yes {D : Trip → Option Int} {fin : List Int} {p q : Int} {k : Nat} {d : Int} (h : D ⟨k, p, q⟩ = some d) (h1 : fin.getD k 0 ≠ -1) (h2 : (endF D fin p q k).2 = -1 ∨ d + fin.getD k 0 < (endF D fin p q k).2) : endF D fin p q (k + 1) = (⟨k, p, q⟩, d + fin.getD k 0) := by
  simp only [endF, h]
  exact if_pos ⟨h1, h2⟩
theorem endF_no {D : Trip → Option Int} {fin : List Int} {p q : Int} {k : Nat} {d : Int} (h : D ⟨k, p, q⟩ = some d) (h2 : fin.getD k 0 = -1 ∨ ((endF D fin p q k).2 ≠ -1 ∧ ¬ d + fin.getD k 0 < (endF D fin p q k).2)) : endF D fin p q (k + 1) = endF D fin p q k := by
  simp only [endF, h]
  refine if_neg (fun c => ?_)
  rcases h2 with h2 | h2
  · exact c.1 h2
  · rcases c.2 with c | c
    · exact h2.1 c
    · exact h2.2 c

/-- The costs alone. -/
abbrev costOf (es : List (Trip × Option Addr × Nat)) (pf : List (Addr × List Fnd × Nat)) : Trip → Option Int := fun y => (metOf es pf y).map (·.cost)

set_option maxHeartbeats 4000000 in
set_option maxRecDepth 20000 in
theorem end_c (W : Wk) (hF : FOk W.F) (hu : W.u.length ≤ 40) (hv : W.v.length ≤ 40) (es : List (Trip × Option Addr × Nat)) (clk : Nat) (pf : List (Addr × List Fnd × Nat)) (hm : MetOk es clk pf) (hb : ∀ y d, metOf es pf y = some d → 0 ≤ d.cost ∧ d.cost ≤ 1000000000000000) :
    Ct Try.prog 95 [.c (.ptr 0 0)] [] (hpL W es clk pf) 9 (fun v s => v = .tup [.agg [.i (endF (costOf es pf) W.F.fin W.u.length W.v.length W.F.fin.length).1.a, .i (endF (costOf es pf) W.F.fin W.u.length W.v.length W.F.fin.length).1.b, .i (endF (costOf es pf) W.F.fin W.u.length W.v.length W.F.fin.length).1.c], .c (.i (endF (costOf es pf) W.F.fin W.u.length W.v.length W.F.fin.length).2)] ∧
      s = ⟨[], [(0, .box 115 [.i W.F.st, .i W.F.start, .sl 1 1 0 W.F.fin.length W.F.capF, .sl 2 5 0 W.F.arcs.length W.F.capA, .sl 3 1 0 W.u.length W.cu, .sl 4 1 0 W.v.length W.cv, .sl 5 1 0 W.rows.length W.rows.length, .mp 7]), (5, .arr true 22 .sli W.rows 0), (6, .pool 3 .int W.pi), (7, .map .trip .adr es clk), (8, .pool 120 .fnd pf)], 9⟩) := by
  have hst := hF.st
  have hfl := hF.finl
  have hD : ∀ y d, costOf es pf y = some d → 0 ≤ d ∧ d ≤ 1000000000000000 := by
    intro y d h
    obtain ⟨e, h1, rfl⟩ := Option.map_eq_some_iff.1 h
    exact hb y e h1
  generalize hDD : costOf es pf = D at *
  refine ctW Try.tyOk 11 [16, 17, 18] Try.func95 rfl (by simp [SV.lt, SA.lt, SC.lt, arcV, fV]) (by simp) (fr := [(0, .c (.ptr 0 0))]) rfl ?_
  repeat' (first | exact rfl | ((conv => whnf); first | refine condP_dec (fun h => absurd h (by omega)) (fun h => ?_) | refine condP_dec (fun h => ?_) (fun h => absurd h (by omega)) | refine condP_dec (fun h => ?_) (fun h => ?_) | refine condP_ndec (fun h => absurd h (by omega)) (fun h => ?_) | refine condP_ndec (fun h => ?_) (fun h => absurd h (by omega)) | refine condP_ndec (fun h => ?_) (fun h => ?_) | refine condP_beq (fun h => absurd h (by omega)) (fun h => ?_) | refine condP_beq (fun h => ?_) (fun h => absurd h (by omega)) | refine condP_beq (fun h => ?_) (fun h => ?_) | refine condP_bne (fun h => absurd h (by omega)) (fun h => ?_) | refine condP_bne (fun h => ?_) (fun h => absurd h (by omega)) | refine condP_bne (fun h => ?_) (fun h => ?_) | refine condP_mk (fun h => ?_) (fun h => ?_) | refine Ob.mk (by (first | omega | (simp only [InI, nmin, List.length_append, List.length_replicate, List.length_cons, List.length_nil, List.length_map, List.length_set, List.length_take, List.length_drop, List.length_reverse, List.length_range, Nat.zero_add, Nat.add_zero, Int.toNat_natCast, EK.sz]; omega) | (simp only [InI, nmin, List.length_append, List.length_replicate, List.length_cons, List.length_nil, List.length_map, List.length_set, List.length_take, List.length_drop, List.length_reverse, List.length_range, Nat.zero_add, Nat.add_zero, Int.toNat_natCast, EK.sz] at *; omega))) ?_ | refine Ob.mk ?_ ?_ | refine Both.mk ?_ ?_ | refine draw_of Try.mixed Try.tyOk 60 (by kernel_rfl) ?_))
  (conv => whnf)
  refine loopI (fun k : Nat => ⟨[(0, .c (.ptr 0 0)), (2, .c (.ptr 9 0)), (4, .c (.ptr 10 0)), (5, .i (endF D W.F.fin W.u.length W.v.length k).2), (16, .c (.sl 1 1 0 W.F.fin.length W.F.capF)), (17, .i W.F.fin.length), (18, .i k)], (9, .box 69 [.i 0, .i 0, .i 0]) :: (10, .box 69 [.i (endF D W.F.fin W.u.length W.v.length k).1.a, .i (endF D W.F.fin W.u.length W.v.length k).1.b, .i (endF D W.F.fin W.u.length W.v.length k).1.c]) :: hpL W es clk pf, 11⟩)
    (fun k => k ≤ W.F.fin.length) (fun k => W.F.fin.length - k) 0 [] ⟨by rfl, ?_, ?_⟩ (by omega) ?_
  · simp [eqFr, eqHp, eqV, eqA, eqC, eqO, eqCs, eqAs, look_cons, look, rn, EK.cast, EK.sz, eqCaps, endF]
  · simp [eqFr, eqHp, eqV, eqA, eqC, eqO, eqCs, eqAs, look_cons, look, rn, EK.cast, EK.sz, eqCaps, endF]
  · intro k hk
    have e0 : 0 + (k : Int).toNat = k := by omega
    have ef : W.F.fin.getD (0 + (k : Int).toNat) EK.int.dflt = W.F.fin.getD k 0 := by rw [e0]; rfl
    (conv => whnf)
    refine condP_dec (fun hk2 => ?_) (fun hk2 => ?_)
    · have hf := hF.fin _ (getD_mem W.F.fin k 0 (by omega))
      rw [← ef] at hf
      cases hx : (metOf es pf ⟨k, W.u.length, W.v.length⟩) with
      | none =>
        have hsn : ¬ (@lkM EK.trip.ty EK.adr.ty (EK.instDeq .trip) es (⟨k, W.u.length, W.v.length⟩ : Trip)).isSome = true := by
          intro hh
          obtain ⟨b, d, g1, g2, g3⟩ := hm.get (y := ⟨k, W.u.length, W.v.length⟩) (by rw [hh]; rfl)
          rw [hx] at g3
          cases g3
        have e := endF_none (D := D) (fin := W.F.fin) (k := k) (p := W.u.length) (q := W.v.length) (by rw [← hDD]; simp [costOf, hx])
        repeat' (first | exact rfl | ((conv => whnf); first | refine condP_dec (fun h => absurd h (by omega)) (fun h => ?_) | refine condP_dec (fun h => ?_) (fun h => absurd h (by omega)) | refine condP_dec (fun h => ?_) (fun h => ?_) | refine condP_ndec (fun h => absurd h (by omega)) (fun h => ?_) | refine condP_ndec (fun h => ?_) (fun h => absurd h (by omega)) | refine condP_ndec (fun h => ?_) (fun h => ?_) | refine condP_beq (fun h => absurd h (by omega)) (fun h => ?_) | refine condP_beq (fun h => ?_) (fun h => absurd h (by omega)) | refine condP_beq (fun h => ?_) (fun h => ?_) | refine condP_bne (fun h => absurd h (by omega)) (fun h => ?_) | refine condP_bne (fun h => ?_) (fun h => absurd h (by omega)) | refine condP_bne (fun h => ?_) (fun h => ?_) | refine condP_mk (fun h => ?_) (fun h => ?_) | refine Ob.mk (by (first | omega | (simp only [InI, nmin, List.length_append, List.length_replicate, List.length_cons, List.length_nil, List.length_map, List.length_set, List.length_take, List.length_drop, List.length_reverse, List.length_range, Nat.zero_add, Nat.add_zero, Int.toNat_natCast, EK.sz]; omega) | (simp only [InI, nmin, List.length_append, List.length_replicate, List.length_cons, List.length_nil, List.length_map, List.length_set, List.length_take, List.length_drop, List.length_reverse, List.length_range, Nat.zero_add, Nat.add_zero, Int.toNat_natCast, EK.sz] at *; omega))) ?_ | refine Ob.mk ?_ ?_ | refine Both.mk ?_ ?_ | refine draw_of Try.mixed Try.tyOk 60 (by kernel_rfl) ?_))
        all_goals first | exact absurd (by assumption) hsn | skip
        all_goals (conv => whnf)
        all_goals refine ⟨k + 1, [], ⟨by rfl, ?_, ?_⟩, by omega, by omega⟩
        · simp [eqFr, eqHp, eqV, eqA, eqC, eqO, eqCs, eqAs, look_cons, look, rn, EK.cast, EK.sz, eqCaps, e]
        · simp [eqFr, eqHp, eqV, eqA, eqC, eqO, eqCs, eqAs, look_cons, look, rn, EK.cast, EK.sz, eqCaps, e]
      | some d =>
        have hs : (@lkM EK.trip.ty EK.adr.ty (EK.instDeq .trip) es (⟨k, W.u.length, W.v.length⟩ : Trip)).isSome = true := by
          cases hh : (@lkM EK.trip.ty EK.adr.ty (EK.instDeq .trip) es (⟨k, W.u.length, W.v.length⟩ : Trip)).isSome with
          | true => rfl
          | false =>
            have := MetOk.none (es := es) (pf := pf) (y := ⟨k, W.u.length, W.v.length⟩) (by rw [hh]; rfl)
            rw [hx] at this
            cases this
        obtain ⟨b, d', g1, g2, g3⟩ := hm.get (y := ⟨k, W.u.length, W.v.length⟩) (by rw [hs]; rfl)
        rw [hx] at g3
        cases g3
        have gd : (rowA pf (some b)).getD 0 EK.fnd.dflt = d := by rw [g2]; rfl
        have hdb := hb _ _ hx
        have hDk : D ⟨k, W.u.length, W.v.length⟩ = some d.cost := by rw [← hDD]; simp [costOf, hx]
        repeat' (first | exact rfl | ((conv => whnf); first | refine condP_dec (fun h => absurd h (by omega)) (fun h => ?_) | refine condP_dec (fun h => ?_) (fun h => absurd h (by omega)) | refine condP_dec (fun h => ?_) (fun h => ?_) | refine condP_ndec (fun h => absurd h (by omega)) (fun h => ?_) | refine condP_ndec (fun h => ?_) (fun h => absurd h (by omega)) | refine condP_ndec (fun h => ?_) (fun h => ?_) | refine condP_beq (fun h => absurd h (by omega)) (fun h => ?_) | refine condP_beq (fun h => ?_) (fun h => absurd h (by omega)) | refine condP_beq (fun h => ?_) (fun h => ?_) | refine condP_bne (fun h => absurd h (by omega)) (fun h => ?_) | refine condP_bne (fun h => ?_) (fun h => absurd h (by omega)) | refine condP_bne (fun h => ?_) (fun h => ?_) | refine condP_mk (fun h => ?_) (fun h => ?_) | refine Ob.mk (by (first | omega | (simp only [InI, nmin, List.length_append, List.length_replicate, List.length_cons, List.length_nil, List.length_map, List.length_set, List.length_take, List.length_drop, List.length_reverse, List.length_range, Nat.zero_add, Nat.add_zero, Int.toNat_natCast, EK.sz]; omega) | (simp only [InI, nmin, List.length_append, List.length_replicate, List.length_cons, List.length_nil, List.length_map, List.length_set, List.length_take, List.length_drop, List.length_reverse, List.length_range, Nat.zero_add, Nat.add_zero, Int.toNat_natCast, EK.sz] at *; omega))) ?_ | refine Ob.mk ?_ ?_ | refine Both.mk ?_ ?_ | refine draw_of Try.mixed Try.tyOk 60 (by kernel_rfl) ?_))
        all_goals first | exact absurd hs (Bool.eq_false_iff.1 (by assumption)) | skip
        all_goals first | (rw [g1]; rfl) | (rw [g1, g2]; exact Nat.one_pos) | (rw [g1, gd]; unfold InI; omega) | skip
        · have e := endF_yes hDk (by rw [← ef]; assumption) (.inl (by assumption))
          (conv => whnf)
          refine ⟨k + 1, [], ⟨by rfl, ?_, ?_⟩, by omega, by omega⟩
          · simp [eqFr, eqHp, eqV, eqA, eqC, eqO, eqCs, eqAs, look_cons, look, rn, EK.cast, EK.sz, eqCaps, e, g1, g2]
            exact rfl
          · simp [eqFr, eqHp, eqV, eqA, eqC, eqO, eqCs, eqAs, look_cons, look, rn, EK.cast, EK.sz, eqCaps, e]
        · rename_i hh
          rw [g1, gd, ef] at h
          have e := endF_yes hDk (by rw [← ef]; assumption) (.inr h)
          (conv => whnf)
          refine ⟨k + 1, [], ⟨by rfl, ?_, ?_⟩, by omega, by omega⟩
          · simp [eqFr, eqHp, eqV, eqA, eqC, eqO, eqCs, eqAs, look_cons, look, rn, EK.cast, EK.sz, eqCaps, e, g1, g2]
            exact rfl
          · simp [eqFr, eqHp, eqV, eqA, eqC, eqO, eqCs, eqAs, look_cons, look, rn, EK.cast, EK.sz, eqCaps, e]
        · rename_i hh
          rw [g1, gd, ef] at h
          have e := endF_no hDk (.inr ⟨hh, h⟩)
          (conv => whnf)
          refine ⟨k + 1, [], ⟨by rfl, ?_, ?_⟩, by omega, by omega⟩
          · simp [eqFr, eqHp, eqV, eqA, eqC, eqO, eqCs, eqAs, look_cons, look, rn, EK.cast, EK.sz, eqCaps, e, g1, gd, ef]
          · simp [eqFr, eqHp, eqV, eqA, eqC, eqO, eqCs, eqAs, look_cons, look, rn, EK.cast, EK.sz, eqCaps, e, g1, gd, ef]
        · rw [ef] at h
          have e := endF_no hDk (.inl h)
          (conv => whnf)
          refine ⟨k + 1, [], ⟨by rfl, ?_, ?_⟩, by omega, by omega⟩
          · simp [eqFr, eqHp, eqV, eqA, eqC, eqO, eqCs, eqAs, look_cons, look, rn, EK.cast, EK.sz, eqCaps, e, g1, gd, ef]
          · simp [eqFr, eqHp, eqV, eqA, eqC, eqO, eqCs, eqAs, look_cons, look, rn, EK.cast, EK.sz, eqCaps, e, g1, gd, ef]
    · have hkn : k = W.F.fin.length := by omega
      subst hkn
      repeat' (first | exact rfl | ((conv => whnf); first | refine condP_dec (fun h => absurd h (by omega)) (fun h => ?_) | refine condP_dec (fun h => ?_) (fun h => absurd h (by omega)) | refine condP_dec (fun h => ?_) (fun h => ?_) | refine condP_ndec (fun h => absurd h (by omega)) (fun h => ?_) | refine condP_ndec (fun h => ?_) (fun h => absurd h (by omega)) | refine condP_ndec (fun h => ?_) (fun h => ?_) | refine condP_beq (fun h => absurd h (by omega)) (fun h => ?_) | refine condP_beq (fun h => ?_) (fun h => absurd h (by omega)) | refine condP_beq (fun h => ?_) (fun h => ?_) | refine condP_bne (fun h => absurd h (by omega)) (fun h => ?_) | refine condP_bne (fun h => ?_) (fun h => absurd h (by omega)) | refine condP_bne (fun h => ?_) (fun h => ?_) | refine condP_mk (fun h => ?_) (fun h => ?_) | refine Ob.mk (by (first | omega | (simp only [InI, nmin, List.length_append, List.length_replicate, List.length_cons, List.length_nil, List.length_map, List.length_set, List.length_take, List.length_drop, List.length_reverse, List.length_range, Nat.zero_add, Nat.add_zero, Int.toNat_natCast, EK.sz]; omega) | (simp only [InI, nmin, List.length_append, List.length_replicate, List.length_cons, List.length_nil, List.length_map, List.length_set, List.length_take, List.length_drop, List.length_reverse, List.length_range, Nat.zero_add, Nat.add_zero, Int.toNat_natCast, EK.sz] at *; omega))) ?_ | refine Ob.mk ?_ ?_ | refine Both.mk ?_ ?_ | refine draw_of Try.mixed Try.tyOk 60 (by kernel_rfl) ?_))
      (conv => whnf)
      exact ⟨[], [(0, .box 115 [.i W.F.st, .i W.F.start, .sl 1 1 0 W.F.fin.length W.F.capF, .sl 2 5 0 W.F.arcs.length W.F.capA, .sl 3 1 0 W.u.length W.cu, .sl 4 1 0 W.v.length W.cv, .sl 5 1 0 W.rows.length W.rows.length, .mp 7]), (5, .arr true 22 .sli W.rows 0), (6, .pool 3 .int W.pi), (7, .map .trip .adr es clk), (8, .pool 120 .fnd pf)], 9, .tup [.agg [.i (endF D W.F.fin W.u.length W.v.length W.F.fin.length).1.a, .i (endF D W.F.fin W.u.length W.v.length W.F.fin.length).1.b, .i (endF D W.F.fin W.u.length W.v.length W.F.fin.length).1.c], .c (.i (endF D W.F.fin W.u.length W.v.length W.F.fin.length).2)], ⟨by rfl, trivial, by simp [eqFr, eqHp, eqV, eqA, eqC, eqO, eqCs, eqAs, look_cons, look, rn, EK.cast, EK.sz, eqCaps]⟩, by simp [eqV, eqA, eqAs, eqC, eqCs], rfl, rfl⟩

end Go.Fw

namespace Go.Fw
open Go Go.Proofs

/-- An empty pool for a callee. -/
theorem callPool {P : Program} {f : Nat} {args : List SV} {ex : List Value} {s : S} {k : S → SV → Prop} (E : Nat) (ek : EK) (hlt : ∀ v ∈ args, SV.lt s.nx v)
    (h : s.go fun fr hp nx => CallK P f args ex ⟨fr, (nx, .pool E ek []) :: hp, nx + 1⟩ k) : CallK P f args ex s k := by
  rw [S.go_eq] at h
  unfold CallK at h ⊢
  refine ⟨h.1, fun β Z fp w hs => ?_⟩
  have hs' := hs.add (o := .pool E ek []) (x := none) (q := fun _ => False) (fun _ _ => rfl) (Nat.le_refl _) (fun _ h => h.elim) ⟨fun _ _ _ h => (by cases h), fun _ _ _ _ h => (by cases h)⟩ trivial
  have hc := h.2 _ _ _ w hs'
  have ha : args.map (SV.den (β.add s.nx none)) = args.map (SV.den β) := List.map_congr_left fun v hv => SV.den_congr (fun id hid => Env.add_lt id hid) (hlt v hv)
  rw [ha] at hc
  refine hc.mono ?_
  rintro e w' ⟨v, β', Z', fp', s', rfl, hn, hk⟩
  exact ⟨v, β', Z', fp', s', rfl, ⟨fun id hid => (hn.env id (Nat.lt_succ_of_lt hid)).trans (Env.add_lt id hid), hn.ext, hn.zz, hn.fr, Nat.le_of_succ_le hn.nx, hn.sat, hn.lt⟩, hk⟩

/-- The rows as they grow. -/
structure RowsK (F : TF) (rows : List Sli) (pi : List (Addr × List Int × Nat)) (k : Nat) : Prop where
  len : rows.length = F.st.toNat
  hd : ∀ s : Nat, s < F.st.toNat → Hd pi (rows.getD s EK.sli.dflt)
  row : ∀ s : Nat, s < F.st.toNat → rowA pi (rows.getD s EK.sli.dflt).a = numsK F k s
  dist : ∀ (s t : Nat) (a : Addr), s < F.st.toNat → t < F.st.toNat → s ≠ t → (rows.getD s EK.sli.dflt).a = some a → (rows.getD t EK.sli.dflt).a ≠ some a

theorem Hd.len {α : Type} {m : List (Addr × List α × Nat)} {x : Sli} (h : Hd m x) : x.n = (rowA m x.a).length := by
  unfold Hd at h
  unfold rowA
  cases hx : x.a with
  | none => rw [hx] at h; simp [h.1]
  | some a =>
    rw [hx] at h
    simp only at h ⊢
    cases hl : lkA m a with
    | none => rw [hl] at h; exact h.elim
    | some y => rw [hl] at h; simp [h.1]

theorem Hd.some {α : Type} {m : List (Addr × List α × Nat)} {x : Sli} (h : Hd m x) {a : Addr} (ha : x.a = some a) : ∃ y, lkA m a = some y ∧ x.n = y.1.length ∧ x.c ≤ y.1.length + y.2 := by
  unfold Hd at h
  rw [ha] at h
  simp only at h
  cases hl : lkA m a with
  | none => rw [hl] at h; exact h.elim
  | some y => rw [hl] at h; exact ⟨y, rfl, h⟩

theorem Hd.of_some {α : Type} {m : List (Addr × List α × Nat)} {x : Sli} {a : Addr} {y : List α × Nat} (ha : x.a = Option.some a) (hl : lkA m a = Option.some y) (h1 : x.n = y.1.length) (h2 : x.c ≤ y.1.length + y.2) : Hd m x := by
  unfold Hd
  rw [ha]
  simp only
  rw [hl]
  exact ⟨h1, h2⟩

theorem Hd.of_none {α : Type} {m : List (Addr × List α × Nat)} {x : Sli} (ha : x.a = none) (h1 : x.n = 0) (h2 : x.c = 0) : Hd m x := by
  unfold Hd
  rw [ha]
  exact ⟨h1, h2⟩

theorem getD_setJ {α : Type} (l : List α) (j : Nat) (x d : α) (s : Nat) (hj : j < l.length) : (l.set j x).getD s d = if s = j then x else l.getD s d := by
  simp only [List.getD, List.getElem?_set]
  by_cases h : j = s
  · subst h; simp [hj]
  · simp [h, Ne.symm h]

theorem rowA_some {α : Type} {m : List (Addr × List α × Nat)} {a : Addr} {y : List α × Nat} (h : lkA m a = some y) : rowA m (some a) = y.1 := by simp [rowA, h]
theorem rowA_congr {α : Type} {m m' : List (Addr × List α × Nat)} {a : Addr} (h : lkA m a = lkA m' a) : rowA m (some a) = rowA m' (some a) := by simp only [rowA, h]

theorem RowsK.step {F : TF} {rows : List Sli} {pi pi' : List (Addr × List Int × Nat)} {k j : Nat} {h' : Sli} (h : RowsK F rows pi k) (hj : j < F.st.toNat) (hf : (F.arcs.getD k EK.arc.dflt).f = j) (ha : App pi (rows.getD j EK.sli.dflt) [(k : Int)] pi' h') :
    RowsK F (rows.set j h') pi' (k + 1) := by
  have hl := h.len
  have hjr : j < rows.length := by omega
  have hne : ∀ s : Nat, s ≠ j → numsK F (k + 1) s = numsK F k s := by
    intro s hs
    rw [numsK_succ, hf, if_neg (by omega), List.append_nil]
  have hjj : numsK F (k + 1) j = numsK F k j ++ [(k : Int)] := by rw [numsK_succ, hf, if_pos rfl]
  generalize hx : rows.getD j EK.sli.dflt = x at ha
  have hdj := h.hd j hj
  have hrj := h.row j hj
  rw [hx] at hdj hrj
  cases ha with
  | stay h => cases h
  | @room a y sp h1 h2 h3 =>
    obtain ⟨y', g1, g2, g3⟩ := hdj.some h1
    rw [h2] at g1
    cases g1
    have hla : lkA (setA pi a (y.1 ++ [(k : Int)], sp)) a = some (y.1 ++ [(k : Int)], sp) := by rw [lkA_setA, h2]; simp
    have hlb : ∀ b, b ≠ a → lkA (setA pi a (y.1 ++ [(k : Int)], sp)) b = lkA pi b := by
      intro b hb
      rw [lkA_setA]
      simp only [hb, if_false]
      cases lkA pi b <;> rfl
    have hoth : ∀ s, s < F.st.toNat → s ≠ j → ∀ b, (rows.getD s EK.sli.dflt).a = some b → b ≠ a := by
      intro s hs hsj b hb e
      subst e
      exact h.dist s j b hs hj hsj hb (by rw [hx]; exact h1)
    refine ⟨by rw [List.length_set]; exact hl, ?_, ?_, ?_⟩
    · intro s hs
      rw [getD_setJ _ _ _ _ _ hjr]
      by_cases e : s = j
      · rw [if_pos e]
        refine Hd.of_some rfl hla ?_ ?_
        · simp [g2]
        · simp only [List.length_append, List.length_cons, List.length_nil]
          simp only [List.length_cons, List.length_nil] at h3
          omega
      · rw [if_neg e]
        have := h.hd s hs
        cases hsa : (rows.getD s EK.sli.dflt).a with
        | none =>
          unfold Hd at this ⊢
          rw [hsa] at this ⊢
          exact this
        | some b =>
          obtain ⟨z, k1, k2, k3⟩ := this.some hsa
          exact Hd.of_some hsa (by rw [hlb b (hoth s hs e b hsa)]; exact k1) k2 k3
    · intro s hs
      rw [getD_setJ _ _ _ _ _ hjr]
      by_cases e : s = j
      · rw [if_pos e, e, hjj, ← hrj]
        simp [rowA, hla, h1, h2]
      · rw [if_neg e, hne s e, ← h.row s hs]
        cases hsa : (rows.getD s EK.sli.dflt).a with
        | none => rfl
        | some b => exact rowA_congr (hlb b (hoth s hs e b hsa))
    · intro s t b hs ht hst hb hc
      rw [getD_setJ _ _ _ _ _ hjr] at hb hc
      by_cases es : s = j
      · rw [if_pos es] at hb
        rw [if_neg (fun e => hst (es.trans e.symm))] at hc
        simp only [Option.some.injEq] at hb
        subst hb
        exact hoth t ht (fun e => hst (es.trans e.symm)) _ hc rfl
      · rw [if_neg es] at hb
        by_cases et : t = j
        · rw [if_pos et] at hc
          simp only [Option.some.injEq] at hc
          subst hc
          exact hoth s hs es _ hb rfl
        · rw [if_neg et] at hc
          exact h.dist s t b hs ht hst hb hc
  | @fresh a sp h1 h2 =>
    have hlb : ∀ b, b ≠ a → lkA ((a, rowA pi x.a ++ [(k : Int)], sp) :: pi) b = lkA pi b := fun b hb => by simp only [lkA, if_neg (Ne.symm hb)]
    have hla : lkA ((a, rowA pi x.a ++ [(k : Int)], sp) :: pi) a = some (rowA pi x.a ++ [(k : Int)], sp) := by simp [lkA]
    have hoth : ∀ s, s < F.st.toNat → ∀ b, (rows.getD s EK.sli.dflt).a = some b → b ≠ a := by
      intro s hs b hb e
      subst e
      obtain ⟨z, k1, _⟩ := (h.hd s hs).some hb
      rw [h1] at k1
      cases k1
    refine ⟨by rw [List.length_set]; exact hl, ?_, ?_, ?_⟩
    · intro s hs
      rw [getD_setJ _ _ _ _ _ hjr]
      by_cases e : s = j
      · rw [if_pos e]
        refine Hd.of_some rfl hla ?_ ?_
        · simp [hdj.len]
        · simp [hdj.len]
      · rw [if_neg e]
        have := h.hd s hs
        cases hsa : (rows.getD s EK.sli.dflt).a with
        | none =>
          unfold Hd at this ⊢
          rw [hsa] at this ⊢
          exact this
        | some b =>
          obtain ⟨z, k1, k2, k3⟩ := this.some hsa
          exact Hd.of_some hsa (by rw [hlb b (hoth s hs b hsa)]; exact k1) k2 k3
    · intro s hs
      rw [getD_setJ _ _ _ _ _ hjr]
      by_cases e : s = j
      · rw [if_pos e, e, hjj, ← hrj]
        exact rowA_some hla
      · rw [if_neg e, hne s e, ← h.row s hs]
        cases hsa : (rows.getD s EK.sli.dflt).a with
        | none => rfl
        | some b => exact rowA_congr (hlb b (hoth s hs b hsa))
    · intro s t b hs ht hst hb hc
      rw [getD_setJ _ _ _ _ _ hjr] at hb hc
      by_cases es : s = j
      · rw [if_pos es] at hb
        rw [if_neg (fun e => hst (es.trans e.symm))] at hc
        simp only [Option.some.injEq] at hb
        subst hb
        exact hoth t ht _ hc rfl
      · rw [if_neg es] at hb
        by_cases et : t = j
        · rw [if_pos et] at hc
          simp only [Option.some.injEq] at hc
          subst hc
          exact hoth s hs _ hb rfl
        · rw [if_neg et] at hc
          exact h.dist s t b hs ht hst hb hc

theorem RowsK.zero (F : TF) : RowsK F (List.replicate F.st.toNat (⟨none, 0, 0⟩ : Sli)) [] 0 := by
  have hg : ∀ s, (List.replicate F.st.toNat (⟨none, 0, 0⟩ : Sli)).getD s EK.sli.dflt = ⟨none, 0, 0⟩ := by
    intro s
    simp only [List.getD, List.getElem?_replicate]
    split <;> rfl
  refine ⟨List.length_replicate, ?_, ?_, ?_⟩
  · intro s _; rw [hg]; exact Hd.of_none rfl rfl rfl
  · intro s _; rw [hg]; rfl
  · intro s t a _ _ _ h; rw [hg] at h; cases h

theorem RowsK.ok {F : TF} {rows : List Sli} {pi : List (Addr × List Int × Nat)} (h : RowsK F rows pi F.arcs.length) : RowsOk F rows pi :=
  ⟨h.len, fun s hs => ⟨by rw [(h.hd s hs).len, h.row s hs]; rfl, h.row s hs⟩⟩

end Go.Fw

namespace Go.Fw
open Go Go.Proofs

/-- What is wrong with what is handed to Score. -/
def scoreE (F : TF) (u v : List Int) : Int := if fstE F ≠ 0 then fstE F else if wordE u ≠ 0 then wordE u else wordE v

/-- A transducer and two words: 0 final, 1 arcs, 2 in, 3 out. -/
abbrev hpQ (F : TF) (u v : List Int) : List (Nat × SO) := [(0, .arr false 3 .int F.fin 0), (1, .arr false 47 .arc F.arcs 0), (2, .arr false 3 .int u 0), (3, .arr false 3 .int v 0)]

section
variable (F : TF) (u v : List Int) (cu cv : Nat) (rows : List Sli) (pi : List (Addr × List Int × Nat))
theorem run_l (hF : FOk F) (hu : u.length ≤ 40) (hv : v.length ≤ 40) (hr : RowsOk F rows pi) :
    Ct Try.prog 94 [.c (.ptr 0 0)] [] [(0, .box 115 [.i F.st, .i F.start, .sl 1 1 0 F.fin.length F.capF, .sl 2 5 0 F.arcs.length F.capA, .sl 3 1 0 u.length cu, .sl 4 1 0 v.length cv, .sl 5 1 0 rows.length rows.length, .v (.map none)]), (1, .arr false 3 .int F.fin 0), (2, .arr false 47 .arc F.arcs 0), (3, .arr false 3 .int u 0), (4, .arr false 3 .int v 0), (5, .arr true 22 .sli rows 0), (6, .pool 3 .int pi), (7, .pool 120 .fnd [])] 8 (fun x s => ∃ es clk pf, x = .tup [] ∧ s = ⟨[], [(0, .box 115 [.i F.st, .i F.start, .sl 1 1 0 F.fin.length F.capF, .sl 2 5 0 F.arcs.length F.capA, .sl 3 1 0 u.length cu, .sl 4 1 0 v.length cv, .sl 5 1 0 rows.length rows.length, .mp 8]), (5, .arr true 22 .sli rows 0), (6, .pool 3 .int pi), (7, .pool 120 .fnd pf), (8, .map .trip .adr es clk)], 9⟩ ∧ Ran ⟨F, u, v, cu, cv, rows, pi, es, clk, pf⟩ es clk pf) :=
  (run_c ⟨F, u, v, cu, cv, rows, pi, [], 0, []⟩ hF hu hv hr).to (fun x s ⟨es, clk, pf, h1, h2, h3⟩ => ⟨es, clk, pf, h1, h2, h3⟩)

theorem end_l (es : List (Trip × Option Addr × Nat)) (clk : Nat) (pf : List (Addr × List Fnd × Nat)) (hF : FOk F) (hu : u.length ≤ 40) (hv : v.length ≤ 40) (hm : MetOk es clk pf) (hb : ∀ y d, metOf es pf y = some d → 0 ≤ d.cost ∧ d.cost ≤ 1000000000000000) :
    Ct Try.prog 95 [.c (.ptr 0 0)] [] [(0, .box 115 [.i F.st, .i F.start, .sl 1 1 0 F.fin.length F.capF, .sl 2 5 0 F.arcs.length F.capA, .sl 3 1 0 u.length cu, .sl 4 1 0 v.length cv, .sl 5 1 0 rows.length rows.length, .mp 7]), (1, .arr false 3 .int F.fin 0), (2, .arr false 47 .arc F.arcs 0), (3, .arr false 3 .int u 0), (4, .arr false 3 .int v 0), (5, .arr true 22 .sli rows 0), (6, .pool 3 .int pi), (7, .map .trip .adr es clk), (8, .pool 120 .fnd pf)] 9 (fun x s => x = .tup [.agg [.i (endF (costOf es pf) F.fin u.length v.length F.fin.length).1.a, .i (endF (costOf es pf) F.fin u.length v.length F.fin.length).1.b, .i (endF (costOf es pf) F.fin u.length v.length F.fin.length).1.c], .c (.i (endF (costOf es pf) F.fin u.length v.length F.fin.length).2)] ∧
      s = ⟨[], [(0, .box 115 [.i F.st, .i F.start, .sl 1 1 0 F.fin.length F.capF, .sl 2 5 0 F.arcs.length F.capA, .sl 3 1 0 u.length cu, .sl 4 1 0 v.length cv, .sl 5 1 0 rows.length rows.length, .mp 7]), (5, .arr true 22 .sli rows 0), (6, .pool 3 .int pi), (7, .map .trip .adr es clk), (8, .pool 120 .fnd pf)], 9⟩) :=
  end_c ⟨F, u, v, cu, cv, rows, pi, [], 0, []⟩ hF hu hv es clk pf hm hb
end

set_option maxHeartbeats 4000000 in
set_option maxRecDepth 20000 in
theorem walk_no (F : TF) (u v : List Int) (cu cv : Nat) (hl : F.fin.length ≤ 9223372036854775807) (hsc : scoreE F u v ≠ 0) :
    Ct Try.prog 51 [fV F, .c (.sl 2 1 0 u.length cu), .c (.sl 3 1 0 v.length cv)] [] (hpQ F u v) 4 (Is 4 (.tup [.c (.v (.pointer none)), .agg [.i 0, .i 0, .i 0], .c (.i 0), .c (.i (scoreE F u v))])) := by
  unfold scoreE at hsc ⊢
  refine ctW Try.tyOk 16 [39, 40, 41] Try.func51 rfl (by simp [SV.lt, SA.lt, SC.lt, arcV, fV]) (by simp) (fr := [(0, fV F), (1, .c (.sl 2 1 0 u.length cu)), (2, .c (.sl 3 1 0 v.length cv))]) rfl ?_
  repeat' (first | exact rfl | ((conv => whnf); first | refine condP_dec (fun h => absurd h (by omega)) (fun h => ?_) | refine condP_dec (fun h => ?_) (fun h => absurd h (by omega)) | refine condP_dec (fun h => ?_) (fun h => ?_) | refine condP_ndec (fun h => absurd h (by omega)) (fun h => ?_) | refine condP_ndec (fun h => ?_) (fun h => absurd h (by omega)) | refine condP_ndec (fun h => ?_) (fun h => ?_) | refine condP_beq (fun h => absurd h (by omega)) (fun h => ?_) | refine condP_beq (fun h => ?_) (fun h => absurd h (by omega)) | refine condP_beq (fun h => ?_) (fun h => ?_) | refine condP_bne (fun h => absurd h (by omega)) (fun h => ?_) | refine condP_bne (fun h => ?_) (fun h => absurd h (by omega)) | refine condP_bne (fun h => ?_) (fun h => ?_) | refine condP_mk (fun h => ?_) (fun h => ?_) | refine Ob.mk (by (first | omega | (simp only [InI, nmin, List.length_append, List.length_replicate, List.length_cons, List.length_nil, List.length_map, List.length_set, List.length_take, List.length_drop, List.length_reverse, List.length_range, Nat.zero_add, Nat.add_zero, Int.toNat_natCast, EK.sz]; omega) | (simp only [InI, nmin, List.length_append, List.length_replicate, List.length_cons, List.length_nil, List.length_map, List.length_set, List.length_take, List.length_drop, List.length_reverse, List.length_range, Nat.zero_add, Nat.add_zero, Int.toNat_natCast, EK.sz] at *; omega))) ?_ | refine Ob.mk ?_ ?_ | refine Both.mk ?_ ?_ | refine draw_of Try.mixed Try.tyOk 60 (by kernel_rfl) ?_))
  refine callI (check_c F hl) [0, 1] Try.call60 rfl (by simp [eqLs, eqL, eqO, eqC, eqCs, rn, renOf, look_cons, look, EK.cast]) (by simp [appN, ptrs, eqVL, eqV, eqA, eqC, eqCs, eqAs, eqCaps, EK.sz, rn, renOf, look_cons, look, arcV, fV]) (by simp [appN, ptrs, SV.lt, SA.lt, SC.lt, arcV, fV]) ?_
  by_cases h1 : fstE F = 0
  · rw [if_neg (by omega)] at hsc ⊢
    repeat' (first | exact rfl | ((conv => whnf); first | refine condP_dec (fun h => absurd h (by omega)) (fun h => ?_) | refine condP_dec (fun h => ?_) (fun h => absurd h (by omega)) | refine condP_dec (fun h => ?_) (fun h => ?_) | refine condP_ndec (fun h => absurd h (by omega)) (fun h => ?_) | refine condP_ndec (fun h => ?_) (fun h => absurd h (by omega)) | refine condP_ndec (fun h => ?_) (fun h => ?_) | refine condP_beq (fun h => absurd h (by omega)) (fun h => ?_) | refine condP_beq (fun h => ?_) (fun h => absurd h (by omega)) | refine condP_beq (fun h => ?_) (fun h => ?_) | refine condP_bne (fun h => absurd h (by omega)) (fun h => ?_) | refine condP_bne (fun h => ?_) (fun h => absurd h (by omega)) | refine condP_bne (fun h => ?_) (fun h => ?_) | refine condP_mk (fun h => ?_) (fun h => ?_) | refine Ob.mk (by (first | omega | (simp only [InI, nmin, List.length_append, List.length_replicate, List.length_cons, List.length_nil, List.length_map, List.length_set, List.length_take, List.length_drop, List.length_reverse, List.length_range, Nat.zero_add, Nat.add_zero, Int.toNat_natCast, EK.sz]; omega) | (simp only [InI, nmin, List.length_append, List.length_replicate, List.length_cons, List.length_nil, List.length_map, List.length_set, List.length_take, List.length_drop, List.length_reverse, List.length_range, Nat.zero_add, Nat.add_zero, Int.toNat_natCast, EK.sz] at *; omega))) ?_ | refine Ob.mk ?_ ?_ | refine Both.mk ?_ ?_ | refine draw_of Try.mixed Try.tyOk 60 (by kernel_rfl) ?_))
    (conv => whnf)
    refine callI (word_c u cu) [2] Try.call14 rfl (by simp [eqLs, eqL, eqO, eqC, eqCs, rn, renOf, look_cons, look, EK.cast]) (by simp [appN, ptrs, eqVL, eqV, eqA, eqC, eqCs, eqAs, eqCaps, EK.sz, rn, renOf, look_cons, look, arcV, fV]) (by simp [appN, ptrs, SV.lt, SA.lt, SC.lt, arcV, fV]) ?_
    by_cases h2 : wordE u = 0
    · rw [if_neg (by omega)] at hsc ⊢
      repeat' (first | exact rfl | ((conv => whnf); first | refine condP_dec (fun h => absurd h (by omega)) (fun h => ?_) | refine condP_dec (fun h => ?_) (fun h => absurd h (by omega)) | refine condP_dec (fun h => ?_) (fun h => ?_) | refine condP_ndec (fun h => absurd h (by omega)) (fun h => ?_) | refine condP_ndec (fun h => ?_) (fun h => absurd h (by omega)) | refine condP_ndec (fun h => ?_) (fun h => ?_) | refine condP_beq (fun h => absurd h (by omega)) (fun h => ?_) | refine condP_beq (fun h => ?_) (fun h => absurd h (by omega)) | refine condP_beq (fun h => ?_) (fun h => ?_) | refine condP_bne (fun h => absurd h (by omega)) (fun h => ?_) | refine condP_bne (fun h => ?_) (fun h => absurd h (by omega)) | refine condP_bne (fun h => ?_) (fun h => ?_) | refine condP_mk (fun h => ?_) (fun h => ?_) | refine Ob.mk (by (first | omega | (simp only [InI, nmin, List.length_append, List.length_replicate, List.length_cons, List.length_nil, List.length_map, List.length_set, List.length_take, List.length_drop, List.length_reverse, List.length_range, Nat.zero_add, Nat.add_zero, Int.toNat_natCast, EK.sz]; omega) | (simp only [InI, nmin, List.length_append, List.length_replicate, List.length_cons, List.length_nil, List.length_map, List.length_set, List.length_take, List.length_drop, List.length_reverse, List.length_range, Nat.zero_add, Nat.add_zero, Int.toNat_natCast, EK.sz] at *; omega))) ?_ | refine Ob.mk ?_ ?_ | refine Both.mk ?_ ?_ | refine draw_of Try.mixed Try.tyOk 60 (by kernel_rfl) ?_))
      (conv => whnf)
      refine callI (word_c v cv) [3] Try.call14 rfl (by simp [eqLs, eqL, eqO, eqC, eqCs, rn, renOf, look_cons, look, EK.cast]) (by simp [appN, ptrs, eqVL, eqV, eqA, eqC, eqCs, eqAs, eqCaps, EK.sz, rn, renOf, look_cons, look, arcV, fV]) (by simp [appN, ptrs, SV.lt, SA.lt, SC.lt, arcV, fV]) ?_
      repeat' (first | exact rfl | ((conv => whnf); first | refine condP_dec (fun h => absurd h (by omega)) (fun h => ?_) | refine condP_dec (fun h => ?_) (fun h => absurd h (by omega)) | refine condP_dec (fun h => ?_) (fun h => ?_) | refine condP_ndec (fun h => absurd h (by omega)) (fun h => ?_) | refine condP_ndec (fun h => ?_) (fun h => absurd h (by omega)) | refine condP_ndec (fun h => ?_) (fun h => ?_) | refine condP_beq (fun h => absurd h (by omega)) (fun h => ?_) | refine condP_beq (fun h => ?_) (fun h => absurd h (by omega)) | refine condP_beq (fun h => ?_) (fun h => ?_) | refine condP_bne (fun h => absurd h (by omega)) (fun h => ?_) | refine condP_bne (fun h => ?_) (fun h => absurd h (by omega)) | refine condP_bne (fun h => ?_) (fun h => ?_) | refine condP_mk (fun h => ?_) (fun h => ?_) | refine Ob.mk (by (first | omega | (simp only [InI, nmin, List.length_append, List.length_replicate, List.length_cons, List.length_nil, List.length_map, List.length_set, List.length_take, List.length_drop, List.length_reverse, List.length_range, Nat.zero_add, Nat.add_zero, Int.toNat_natCast, EK.sz]; omega) | (simp only [InI, nmin, List.length_append, List.length_replicate, List.length_cons, List.length_nil, List.length_map, List.length_set, List.length_take, List.length_drop, List.length_reverse, List.length_range, Nat.zero_add, Nat.add_zero, Int.toNat_natCast, EK.sz] at *; omega))) ?_ | refine Ob.mk ?_ ?_ | refine Both.mk ?_ ?_ | refine draw_of Try.mixed Try.tyOk 60 (by kernel_rfl) ?_))
      refine Back.is ?_
      simp [eqV, eqA, eqAs, eqC, eqCs]
    · rw [if_pos h2]
      repeat' (first | exact rfl | ((conv => whnf); first | refine condP_dec (fun h => absurd h (by omega)) (fun h => ?_) | refine condP_dec (fun h => ?_) (fun h => absurd h (by omega)) | refine condP_dec (fun h => ?_) (fun h => ?_) | refine condP_ndec (fun h => absurd h (by omega)) (fun h => ?_) | refine condP_ndec (fun h => ?_) (fun h => absurd h (by omega)) | refine condP_ndec (fun h => ?_) (fun h => ?_) | refine condP_beq (fun h => absurd h (by omega)) (fun h => ?_) | refine condP_beq (fun h => ?_) (fun h => absurd h (by omega)) | refine condP_beq (fun h => ?_) (fun h => ?_) | refine condP_bne (fun h => absurd h (by omega)) (fun h => ?_) | refine condP_bne (fun h => ?_) (fun h => absurd h (by omega)) | refine condP_bne (fun h => ?_) (fun h => ?_) | refine condP_mk (fun h => ?_) (fun h => ?_) | refine Ob.mk (by (first | omega | (simp only [InI, nmin, List.length_append, List.length_replicate, List.length_cons, List.length_nil, List.length_map, List.length_set, List.length_take, List.length_drop, List.length_reverse, List.length_range, Nat.zero_add, Nat.add_zero, Int.toNat_natCast, EK.sz]; omega) | (simp only [InI, nmin, List.length_append, List.length_replicate, List.length_cons, List.length_nil, List.length_map, List.length_set, List.length_take, List.length_drop, List.length_reverse, List.length_range, Nat.zero_add, Nat.add_zero, Int.toNat_natCast, EK.sz] at *; omega))) ?_ | refine Ob.mk ?_ ?_ | refine Both.mk ?_ ?_ | refine draw_of Try.mixed Try.tyOk 60 (by kernel_rfl) ?_))
      refine Back.is ?_
      simp [eqV, eqA, eqAs, eqC, eqCs]
  · rw [if_pos h1]
    repeat' (first | exact rfl | ((conv => whnf); first | refine condP_dec (fun h => absurd h (by omega)) (fun h => ?_) | refine condP_dec (fun h => ?_) (fun h => absurd h (by omega)) | refine condP_dec (fun h => ?_) (fun h => ?_) | refine condP_ndec (fun h => absurd h (by omega)) (fun h => ?_) | refine condP_ndec (fun h => ?_) (fun h => absurd h (by omega)) | refine condP_ndec (fun h => ?_) (fun h => ?_) | refine condP_beq (fun h => absurd h (by omega)) (fun h => ?_) | refine condP_beq (fun h => ?_) (fun h => absurd h (by omega)) | refine condP_beq (fun h => ?_) (fun h => ?_) | refine condP_bne (fun h => absurd h (by omega)) (fun h => ?_) | refine condP_bne (fun h => ?_) (fun h => absurd h (by omega)) | refine condP_bne (fun h => ?_) (fun h => ?_) | refine condP_mk (fun h => ?_) (fun h => ?_) | refine Ob.mk (by (first | omega | (simp only [InI, nmin, List.length_append, List.length_replicate, List.length_cons, List.length_nil, List.length_map, List.length_set, List.length_take, List.length_drop, List.length_reverse, List.length_range, Nat.zero_add, Nat.add_zero, Int.toNat_natCast, EK.sz]; omega) | (simp only [InI, nmin, List.length_append, List.length_replicate, List.length_cons, List.length_nil, List.length_map, List.length_set, List.length_take, List.length_drop, List.length_reverse, List.length_range, Nat.zero_add, Nat.add_zero, Int.toNat_natCast, EK.sz] at *; omega))) ?_ | refine Ob.mk ?_ ?_ | refine Both.mk ?_ ?_ | refine draw_of Try.mixed Try.tyOk 60 (by kernel_rfl) ?_))
    refine Back.is ?_
    simp [eqV, eqA, eqAs, eqC, eqCs]

set_option maxHeartbeats 8000000 in
set_option maxRecDepth 20000 in
theorem walk_ok (F : TF) (u v : List Int) (cu cv : Nat) (hl : F.fin.length ≤ 9223372036854775807) (h : scoreE F u v = 0) :
    Ct Try.prog 51 [fV F, .c (.sl 2 1 0 u.length cu), .c (.sl 3 1 0 v.length cv)] [] (hpQ F u v) 4 (fun x s => ∃ rows pi es clk pf, Ran ⟨F, u, v, cu, cv, rows, pi, es, clk, pf⟩ es clk pf ∧
      x = .tup [.c (.ptr 4 0), .agg [.i (endF (costOf es pf) F.fin u.length v.length F.fin.length).1.a, .i (endF (costOf es pf) F.fin u.length v.length F.fin.length).1.b, .i (endF (costOf es pf) F.fin u.length v.length F.fin.length).1.c], .c (.i (endF (costOf es pf) F.fin u.length v.length F.fin.length).2), .c (.i 0)] ∧
      s = ⟨[], [(4, .box 115 [.i F.st, .i F.start, .sl 0 1 0 F.fin.length F.capF, .sl 1 5 0 F.arcs.length F.capA, .sl 2 1 0 u.length cu, .sl 3 1 0 v.length cv, .sl 5 1 0 rows.length rows.length, .mp 8]), (5, .arr true 22 .sli rows 0), (6, .pool 3 .int pi), (7, .pool 120 .fnd pf), (8, .map .trip .adr es clk)], 9⟩) := by
  have h1 : fstE F = 0 := by
    unfold scoreE at h
    split at h
    · omega
    · omega
  have h2 : wordE u = 0 := by
    unfold scoreE at h
    rw [if_neg (by omega)] at h
    split at h <;> omega
  have h3 : wordE v = 0 := by
    unfold scoreE at h
    rw [if_neg (by omega), if_neg (by omega)] at h
    exact h
  have hu : u.length ≤ 40 := by
    unfold wordE at h2
    split at h2
    · cases h2
    · omega
  have hv : v.length ≤ 40 := by
    unfold wordE at h3
    split at h3
    · cases h3
    · omega
  have hF := fstE_ok h1
  have hst := hF.st
  have hfl := hF.finl
  have hal := hF.arcl
  refine ctW Try.tyOk 16 [39, 40, 41] Try.func51 rfl (by simp [SV.lt, SA.lt, SC.lt, arcV, fV]) (by simp) (fr := [(0, fV F), (1, .c (.sl 2 1 0 u.length cu)), (2, .c (.sl 3 1 0 v.length cv))]) rfl ?_
  repeat' (first | exact rfl | ((conv => whnf); first | refine condP_dec (fun h => absurd h (by omega)) (fun h => ?_) | refine condP_dec (fun h => ?_) (fun h => absurd h (by omega)) | refine condP_dec (fun h => ?_) (fun h => ?_) | refine condP_ndec (fun h => absurd h (by omega)) (fun h => ?_) | refine condP_ndec (fun h => ?_) (fun h => absurd h (by omega)) | refine condP_ndec (fun h => ?_) (fun h => ?_) | refine condP_beq (fun h => absurd h (by omega)) (fun h => ?_) | refine condP_beq (fun h => ?_) (fun h => absurd h (by omega)) | refine condP_beq (fun h => ?_) (fun h => ?_) | refine condP_bne (fun h => absurd h (by omega)) (fun h => ?_) | refine condP_bne (fun h => ?_) (fun h => absurd h (by omega)) | refine condP_bne (fun h => ?_) (fun h => ?_) | refine condP_mk (fun h => ?_) (fun h => ?_) | refine Ob.mk (by (first | omega | (simp only [InI, nmin, List.length_append, List.length_replicate, List.length_cons, List.length_nil, List.length_map, List.length_set, List.length_take, List.length_drop, List.length_reverse, List.length_range, Nat.zero_add, Nat.add_zero, Int.toNat_natCast, EK.sz]; omega) | (simp only [InI, nmin, List.length_append, List.length_replicate, List.length_cons, List.length_nil, List.length_map, List.length_set, List.length_take, List.length_drop, List.length_reverse, List.length_range, Nat.zero_add, Nat.add_zero, Int.toNat_natCast, EK.sz] at *; omega))) ?_ | refine Ob.mk ?_ ?_ | refine Both.mk ?_ ?_ | refine draw_of Try.mixed Try.tyOk 60 (by kernel_rfl) ?_))
  refine callI (check_c F hl) [0, 1] Try.call60 rfl (by simp [eqLs, eqL, eqO, eqC, eqCs, rn, renOf, look_cons, look, EK.cast]) (by simp [appN, ptrs, eqVL, eqV, eqA, eqC, eqCs, eqAs, eqCaps, EK.sz, rn, renOf, look_cons, look, arcV, fV]) (by simp [appN, ptrs, SV.lt, SA.lt, SC.lt, arcV, fV]) ?_
  rw [h1]
  repeat' (first | exact rfl | ((conv => whnf); first | refine condP_dec (fun h => absurd h (by omega)) (fun h => ?_) | refine condP_dec (fun h => ?_) (fun h => absurd h (by omega)) | refine condP_dec (fun h => ?_) (fun h => ?_) | refine condP_ndec (fun h => absurd h (by omega)) (fun h => ?_) | refine condP_ndec (fun h => ?_) (fun h => absurd h (by omega)) | refine condP_ndec (fun h => ?_) (fun h => ?_) | refine condP_beq (fun h => absurd h (by omega)) (fun h => ?_) | refine condP_beq (fun h => ?_) (fun h => absurd h (by omega)) | refine condP_beq (fun h => ?_) (fun h => ?_) | refine condP_bne (fun h => absurd h (by omega)) (fun h => ?_) | refine condP_bne (fun h => ?_) (fun h => absurd h (by omega)) | refine condP_bne (fun h => ?_) (fun h => ?_) | refine condP_mk (fun h => ?_) (fun h => ?_) | refine Ob.mk (by (first | omega | (simp only [InI, nmin, List.length_append, List.length_replicate, List.length_cons, List.length_nil, List.length_map, List.length_set, List.length_take, List.length_drop, List.length_reverse, List.length_range, Nat.zero_add, Nat.add_zero, Int.toNat_natCast, EK.sz]; omega) | (simp only [InI, nmin, List.length_append, List.length_replicate, List.length_cons, List.length_nil, List.length_map, List.length_set, List.length_take, List.length_drop, List.length_reverse, List.length_range, Nat.zero_add, Nat.add_zero, Int.toNat_natCast, EK.sz] at *; omega))) ?_ | refine Ob.mk ?_ ?_ | refine Both.mk ?_ ?_ | refine draw_of Try.mixed Try.tyOk 60 (by kernel_rfl) ?_))
  (conv => whnf)
  refine callI (word_c u cu) [2] Try.call14 rfl (by simp [eqLs, eqL, eqO, eqC, eqCs, rn, renOf, look_cons, look, EK.cast]) (by simp [appN, ptrs, eqVL, eqV, eqA, eqC, eqCs, eqAs, eqCaps, EK.sz, rn, renOf, look_cons, look, arcV, fV]) (by simp [appN, ptrs, SV.lt, SA.lt, SC.lt, arcV, fV]) ?_
  rw [h2]
  repeat' (first | exact rfl | ((conv => whnf); first | refine condP_dec (fun h => absurd h (by omega)) (fun h => ?_) | refine condP_dec (fun h => ?_) (fun h => absurd h (by omega)) | refine condP_dec (fun h => ?_) (fun h => ?_) | refine condP_ndec (fun h => absurd h (by omega)) (fun h => ?_) | refine condP_ndec (fun h => ?_) (fun h => absurd h (by omega)) | refine condP_ndec (fun h => ?_) (fun h => ?_) | refine condP_beq (fun h => absurd h (by omega)) (fun h => ?_) | refine condP_beq (fun h => ?_) (fun h => absurd h (by omega)) | refine condP_beq (fun h => ?_) (fun h => ?_) | refine condP_bne (fun h => absurd h (by omega)) (fun h => ?_) | refine condP_bne (fun h => ?_) (fun h => absurd h (by omega)) | refine condP_bne (fun h => ?_) (fun h => ?_) | refine condP_mk (fun h => ?_) (fun h => ?_) | refine Ob.mk (by (first | omega | (simp only [InI, nmin, List.length_append, List.length_replicate, List.length_cons, List.length_nil, List.length_map, List.length_set, List.length_take, List.length_drop, List.length_reverse, List.length_range, Nat.zero_add, Nat.add_zero, Int.toNat_natCast, EK.sz]; omega) | (simp only [InI, nmin, List.length_append, List.length_replicate, List.length_cons, List.length_nil, List.length_map, List.length_set, List.length_take, List.length_drop, List.length_reverse, List.length_range, Nat.zero_add, Nat.add_zero, Int.toNat_natCast, EK.sz] at *; omega))) ?_ | refine Ob.mk ?_ ?_ | refine Both.mk ?_ ?_ | refine draw_of Try.mixed Try.tyOk 60 (by kernel_rfl) ?_))
  (conv => whnf)
  refine callI (word_c v cv) [3] Try.call14 rfl (by simp [eqLs, eqL, eqO, eqC, eqCs, rn, renOf, look_cons, look, EK.cast]) (by simp [appN, ptrs, eqVL, eqV, eqA, eqC, eqCs, eqAs, eqCaps, EK.sz, rn, renOf, look_cons, look, arcV, fV]) (by simp [appN, ptrs, SV.lt, SA.lt, SC.lt, arcV, fV]) ?_
  rw [h3]
  repeat' (first | exact rfl | ((conv => whnf); first | refine condP_dec (fun h => absurd h (by omega)) (fun h => ?_) | refine condP_dec (fun h => ?_) (fun h => absurd h (by omega)) | refine condP_dec (fun h => ?_) (fun h => ?_) | refine condP_ndec (fun h => absurd h (by omega)) (fun h => ?_) | refine condP_ndec (fun h => ?_) (fun h => absurd h (by omega)) | refine condP_ndec (fun h => ?_) (fun h => ?_) | refine condP_beq (fun h => absurd h (by omega)) (fun h => ?_) | refine condP_beq (fun h => ?_) (fun h => absurd h (by omega)) | refine condP_beq (fun h => ?_) (fun h => ?_) | refine condP_bne (fun h => absurd h (by omega)) (fun h => ?_) | refine condP_bne (fun h => ?_) (fun h => absurd h (by omega)) | refine condP_bne (fun h => ?_) (fun h => ?_) | refine condP_mk (fun h => ?_) (fun h => ?_) | refine Ob.mk (by (first | omega | (simp only [InI, nmin, List.length_append, List.length_replicate, List.length_cons, List.length_nil, List.length_map, List.length_set, List.length_take, List.length_drop, List.length_reverse, List.length_range, Nat.zero_add, Nat.add_zero, Int.toNat_natCast, EK.sz]; omega) | (simp only [InI, nmin, List.length_append, List.length_replicate, List.length_cons, List.length_nil, List.length_map, List.length_set, List.length_take, List.length_drop, List.length_reverse, List.length_range, Nat.zero_add, Nat.add_zero, Int.toNat_natCast, EK.sz] at *; omega))) ?_ | refine Ob.mk ?_ ?_ | refine Both.mk ?_ ?_ | refine draw_of Try.mixed Try.tyOk 60 (by kernel_rfl) ?_))
  (conv => whnf)
  refine loopI (fun y : Nat × List Sli × List (Addr × List Int × Nat) => ⟨[(1, .c (.sl 2 1 0 u.length cu)), (2, .c (.sl 3 1 0 v.length cv)), (3, .c (.ptr 4 0)), (6, .c (.v (.pointer none))), (7, .c (.ptr 5 0)), (8, .i 0), (9, .i 0), (10, .i 0), (11, .c (.ptr 7 0)), (39, .c (.sl 1 5 0 F.arcs.length F.capA)), (40, .i F.arcs.length), (41, .i y.1)],
    (4, .box 25 (fCells F)) :: (5, .box 69 [.i 0, .i 0, .i 0]) :: (6, .arr true 22 .sli y.2.1 0) :: (7, .box 115 [.i F.st, .i F.start, .sl 0 1 0 F.fin.length F.capF, .sl 1 5 0 F.arcs.length F.capA, .sl 2 1 0 u.length cu, .sl 3 1 0 v.length cv, .sl 6 1 0 y.2.1.length y.2.1.length, .v (.map none)]) :: (8, .pool 3 .int y.2.2) :: hpQ F u v, 9⟩)
    (fun y => y.1 ≤ F.arcs.length ∧ RowsK F y.2.1 y.2.2 y.1) (fun y => F.arcs.length - y.1) (0, List.replicate F.st.toNat ⟨none, 0, 0⟩, []) [(8, none)] ⟨by rfl, ?_, ?_⟩ ⟨by omega, RowsK.zero F⟩ ?_
  · simp [eqFr, eqHp, eqV, eqA, eqC, eqO, eqCs, eqAs, look_cons, look, rn, EK.cast, EK.sz, eqCaps]
  · simp [eqFr, eqHp, eqV, eqA, eqC, eqO, eqCs, eqAs, look_cons, look, rn, EK.cast, EK.sz, eqCaps, fCells, nilO]
    exact .inr rfl
  · rintro ⟨k, rows, pi⟩ ⟨i1, i2⟩
    simp only at i1 i2 ⊢
    have hrl := i2.len
    (conv => whnf)
    refine condP_dec (fun hk => ?_) (fun hk => ?_)
    · have e0 : 0 + (k : Int).toNat = k := by omega
      have ea : F.arcs.getD (0 + (k : Int).toNat) EK.arc.dflt = F.arcs.getD k EK.arc.dflt := by rw [e0]
      have hao := hF.arc _ (getD_mem F.arcs k EK.arc.dflt (by omega))
      rw [← ea] at hao
      have hf0 := hao.f0
      have hf1 := hao.f1
      have hj : (F.arcs.getD (0 + (k : Int).toNat) EK.arc.dflt).f.toNat < F.st.toNat := by omega
      have hd := i2.hd _ hj
      have hln := hd.len
      rw [i2.row _ hj] at hln
      have hnl := numsK_len F k ((F.arcs.getD (0 + (k : Int).toNat) EK.arc.dflt).f.toNat)
      have ej : 0 + (F.arcs.getD (0 + (k : Int).toNat) EK.arc.dflt).f.toNat = (F.arcs.getD (0 + (k : Int).toNat) EK.arc.dflt).f.toNat := by omega
      repeat' (first | exact rfl | ((conv => whnf); first | refine condP_dec (fun h => absurd h (by omega)) (fun h => ?_) | refine condP_dec (fun h => ?_) (fun h => absurd h (by omega)) | refine condP_dec (fun h => ?_) (fun h => ?_) | refine condP_ndec (fun h => absurd h (by omega)) (fun h => ?_) | refine condP_ndec (fun h => ?_) (fun h => absurd h (by omega)) | refine condP_ndec (fun h => ?_) (fun h => ?_) | refine condP_beq (fun h => absurd h (by omega)) (fun h => ?_) | refine condP_beq (fun h => ?_) (fun h => absurd h (by omega)) | refine condP_beq (fun h => ?_) (fun h => ?_) | refine condP_bne (fun h => absurd h (by omega)) (fun h => ?_) | refine condP_bne (fun h => ?_) (fun h => absurd h (by omega)) | refine condP_bne (fun h => ?_) (fun h => ?_) | refine condP_mk (fun h => ?_) (fun h => ?_) | refine Ob.mk (by (first | omega | (simp only [InI, nmin, List.length_append, List.length_replicate, List.length_cons, List.length_nil, List.length_map, List.length_set, List.length_take, List.length_drop, List.length_reverse, List.length_range, Nat.zero_add, Nat.add_zero, Int.toNat_natCast, EK.sz]; omega) | (simp only [InI, nmin, List.length_append, List.length_replicate, List.length_cons, List.length_nil, List.length_map, List.length_set, List.length_take, List.length_drop, List.length_reverse, List.length_range, Nat.zero_add, Nat.add_zero, Int.toNat_natCast, EK.sz] at *; omega))) ?_ | refine Ob.mk ?_ ?_ | refine Both.mk ?_ ?_ | refine draw_of Try.mixed Try.tyOk 60 (by kernel_rfl) ?_))
      · rw [ej]
        exact ⟨hd, by omega, by omega⟩
      · (conv => whnf)
        intro m' h' happ
        rw [ej] at happ
        have hstep := i2.step hj (by rw [← ea]; omega) happ
        repeat' (first | exact rfl | ((conv => whnf); first | refine condP_dec (fun h => absurd h (by omega)) (fun h => ?_) | refine condP_dec (fun h => ?_) (fun h => absurd h (by omega)) | refine condP_dec (fun h => ?_) (fun h => ?_) | refine condP_ndec (fun h => absurd h (by omega)) (fun h => ?_) | refine condP_ndec (fun h => ?_) (fun h => absurd h (by omega)) | refine condP_ndec (fun h => ?_) (fun h => ?_) | refine condP_beq (fun h => absurd h (by omega)) (fun h => ?_) | refine condP_beq (fun h => ?_) (fun h => absurd h (by omega)) | refine condP_beq (fun h => ?_) (fun h => ?_) | refine condP_bne (fun h => absurd h (by omega)) (fun h => ?_) | refine condP_bne (fun h => ?_) (fun h => absurd h (by omega)) | refine condP_bne (fun h => ?_) (fun h => ?_) | refine condP_mk (fun h => ?_) (fun h => ?_) | refine Ob.mk (by (first | omega | (simp only [InI, nmin, List.length_append, List.length_replicate, List.length_cons, List.length_nil, List.length_map, List.length_set, List.length_take, List.length_drop, List.length_reverse, List.length_range, Nat.zero_add, Nat.add_zero, Int.toNat_natCast, EK.sz]; omega) | (simp only [InI, nmin, List.length_append, List.length_replicate, List.length_cons, List.length_nil, List.length_map, List.length_set, List.length_take, List.length_drop, List.length_reverse, List.length_range, Nat.zero_add, Nat.add_zero, Int.toNat_natCast, EK.sz] at *; omega))) ?_ | refine Ob.mk ?_ ?_ | refine Both.mk ?_ ?_ | refine draw_of Try.mixed Try.tyOk 60 (by kernel_rfl) ?_))
        (conv => whnf)
        refine ⟨(k + 1, rows.set (F.arcs.getD (0 + (k : Int).toNat) EK.arc.dflt).f.toNat h', m'), [], ⟨by rfl, ?_, ?_⟩, ⟨by simp only; omega, hstep⟩, by simp only; omega⟩
        · simp [eqFr, eqHp, eqV, eqA, eqC, eqO, eqCs, eqAs, look_cons, look, rn, EK.cast, EK.sz, eqCaps]
        · simp [eqFr, eqHp, eqV, eqA, eqC, eqO, eqCs, eqAs, look_cons, look, rn, EK.cast, EK.sz, eqCaps, fCells]
    · have hkn : k = F.arcs.length := by omega
      subst hkn
      have hro := i2.ok
      repeat' (first | exact rfl | ((conv => whnf); first | refine condP_dec (fun h => absurd h (by omega)) (fun h => ?_) | refine condP_dec (fun h => ?_) (fun h => absurd h (by omega)) | refine condP_dec (fun h => ?_) (fun h => ?_) | refine condP_ndec (fun h => absurd h (by omega)) (fun h => ?_) | refine condP_ndec (fun h => ?_) (fun h => absurd h (by omega)) | refine condP_ndec (fun h => ?_) (fun h => ?_) | refine condP_beq (fun h => absurd h (by omega)) (fun h => ?_) | refine condP_beq (fun h => ?_) (fun h => absurd h (by omega)) | refine condP_beq (fun h => ?_) (fun h => ?_) | refine condP_bne (fun h => absurd h (by omega)) (fun h => ?_) | refine condP_bne (fun h => ?_) (fun h => absurd h (by omega)) | refine condP_bne (fun h => ?_) (fun h => ?_) | refine condP_mk (fun h => ?_) (fun h => ?_) | refine Ob.mk (by (first | omega | (simp only [InI, nmin, List.length_append, List.length_replicate, List.length_cons, List.length_nil, List.length_map, List.length_set, List.length_take, List.length_drop, List.length_reverse, List.length_range, Nat.zero_add, Nat.add_zero, Int.toNat_natCast, EK.sz]; omega) | (simp only [InI, nmin, List.length_append, List.length_replicate, List.length_cons, List.length_nil, List.length_map, List.length_set, List.length_take, List.length_drop, List.length_reverse, List.length_range, Nat.zero_add, Nat.add_zero, Int.toNat_natCast, EK.sz] at *; omega))) ?_ | refine Ob.mk ?_ ?_ | refine Both.mk ?_ ?_ | refine draw_of Try.mixed Try.tyOk 60 (by kernel_rfl) ?_))
      (conv => whnf)
      refine callPool 120 .fnd (by simp [appN, ptrs, SV.lt, SA.lt, SC.lt]) ?_
      (conv => whnf)
      refine callF (run_l F u v cu cv rows pi hF hu hv hro) [7, 0, 1, 2, 3, 6, 8, 9] Try.call94 rfl (by simp [eqLs, eqL, eqO, eqC, eqCs, rn, renOf, look_cons, look, EK.cast]) (by simp [appN, ptrs, eqVL, eqV, eqA, eqC, eqCs, eqAs, eqCaps, EK.sz, rn, renOf, look_cons, look, arcV, fV]) (by simp [appN, ptrs, SV.lt, SA.lt, SC.lt, arcV, fV, lenN]) ?_
      rintro _ _ ⟨es, clk, pf, rfl, rfl, hran⟩
      have hran2 := hran
      obtain ⟨hm, ord, rk, B, hol, hD, hB, hall⟩ := hran2
      repeat' (first | exact rfl | ((conv => whnf); first | refine condP_dec (fun h => absurd h (by omega)) (fun h => ?_) | refine condP_dec (fun h => ?_) (fun h => absurd h (by omega)) | refine condP_dec (fun h => ?_) (fun h => ?_) | refine condP_ndec (fun h => absurd h (by omega)) (fun h => ?_) | refine condP_ndec (fun h => ?_) (fun h => absurd h (by omega)) | refine condP_ndec (fun h => ?_) (fun h => ?_) | refine condP_beq (fun h => absurd h (by omega)) (fun h => ?_) | refine condP_beq (fun h => ?_) (fun h => absurd h (by omega)) | refine condP_beq (fun h => ?_) (fun h => ?_) | refine condP_bne (fun h => absurd h (by omega)) (fun h => ?_) | refine condP_bne (fun h => ?_) (fun h => absurd h (by omega)) | refine condP_bne (fun h => ?_) (fun h => ?_) | refine condP_mk (fun h => ?_) (fun h => ?_) | refine Ob.mk (by (first | omega | (simp only [InI, nmin, List.length_append, List.length_replicate, List.length_cons, List.length_nil, List.length_map, List.length_set, List.length_take, List.length_drop, List.length_reverse, List.length_range, Nat.zero_add, Nat.add_zero, Int.toNat_natCast, EK.sz]; omega) | (simp only [InI, nmin, List.length_append, List.length_replicate, List.length_cons, List.length_nil, List.length_map, List.length_set, List.length_take, List.length_drop, List.length_reverse, List.length_range, Nat.zero_add, Nat.add_zero, Int.toNat_natCast, EK.sz] at *; omega))) ?_ | refine Ob.mk ?_ ?_ | refine Both.mk ?_ ?_ | refine draw_of Try.mixed Try.tyOk 60 (by kernel_rfl) ?_))
      (conv => whnf)
      refine callF (end_l F u v cu cv rows pi es clk pf hF hu hv hm (fun y d hy => ⟨(hD.cost y d hy).1, Int.le_trans (hD.cost y d hy).2 hB⟩)) [7, 0, 1, 2, 3, 6, 8, 10, 9] Try.call95 rfl (by simp [eqLs, eqL, eqO, eqC, eqCs, rn, renOf, look_cons, look, EK.cast]) (by simp [appN, ptrs, eqVL, eqV, eqA, eqC, eqCs, eqAs, eqCaps, EK.sz, rn, renOf, look_cons, look, arcV, fV]) (by simp [appN, ptrs, SV.lt, SA.lt, SC.lt, arcV, fV, lenN]) ?_
      rintro _ _ ⟨rfl, rfl⟩
      repeat' (first | exact rfl | ((conv => whnf); first | refine condP_dec (fun h => absurd h (by omega)) (fun h => ?_) | refine condP_dec (fun h => ?_) (fun h => absurd h (by omega)) | refine condP_dec (fun h => ?_) (fun h => ?_) | refine condP_ndec (fun h => absurd h (by omega)) (fun h => ?_) | refine condP_ndec (fun h => ?_) (fun h => absurd h (by omega)) | refine condP_ndec (fun h => ?_) (fun h => ?_) | refine condP_beq (fun h => absurd h (by omega)) (fun h => ?_) | refine condP_beq (fun h => ?_) (fun h => absurd h (by omega)) | refine condP_beq (fun h => ?_) (fun h => ?_) | refine condP_bne (fun h => absurd h (by omega)) (fun h => ?_) | refine condP_bne (fun h => ?_) (fun h => absurd h (by omega)) | refine condP_bne (fun h => ?_) (fun h => ?_) | refine condP_mk (fun h => ?_) (fun h => ?_) | refine Ob.mk (by (first | omega | (simp only [InI, nmin, List.length_append, List.length_replicate, List.length_cons, List.length_nil, List.length_map, List.length_set, List.length_take, List.length_drop, List.length_reverse, List.length_range, Nat.zero_add, Nat.add_zero, Int.toNat_natCast, EK.sz]; omega) | (simp only [InI, nmin, List.length_append, List.length_replicate, List.length_cons, List.length_nil, List.length_map, List.length_set, List.length_take, List.length_drop, List.length_reverse, List.length_range, Nat.zero_add, Nat.add_zero, Int.toNat_natCast, EK.sz] at *; omega))) ?_ | refine Ob.mk ?_ ?_ | refine Both.mk ?_ ?_ | refine draw_of Try.mixed Try.tyOk 60 (by kernel_rfl) ?_))
      (conv => whnf)
      generalize hE : endF (costOf es pf) F.fin u.length v.length F.fin.length = E at *
      refine ⟨[(4, some 7), (5, some 6), (6, some 8), (7, some 9), (8, some 10)], [(4, .box 115 [.i F.st, .i F.start, .sl 0 1 0 F.fin.length F.capF, .sl 1 5 0 F.arcs.length F.capA, .sl 2 1 0 u.length cu, .sl 3 1 0 v.length cv, .sl 5 1 0 rows.length rows.length, .mp 8]), (5, .arr true 22 .sli rows 0), (6, .pool 3 .int pi), (7, .pool 120 .fnd pf), (8, .map .trip .adr es clk)], 9, .tup [.c (.ptr 4 0), .agg [.i E.1.a, .i E.1.b, .i E.1.c], .c (.i E.2), .c (.i 0)], ⟨by rfl, trivial, by simp [eqFr, eqHp, eqV, eqA, eqC, eqO, eqCs, eqAs, look_cons, look, rn, EK.cast, EK.sz, eqCaps]⟩, by simp [eqV, eqA, eqAs, eqC, eqCs, rn, look, look_cons], rows, pi, es, clk, pf, hran, ?_, rfl⟩
      rw [hE]

end Go.Fw

namespace Go.Fw
open Go Go.Proofs

set_option maxHeartbeats 4000000 in
set_option maxRecDepth 20000 in
theorem score_no (F : TF) (u v : List Int) (cu cv : Nat) (hl : F.fin.length ≤ 9223372036854775807) (hsc : scoreE F u v ≠ 0) :
    Ct Try.prog 10 [fV F, .c (.sl 2 1 0 u.length cu), .c (.sl 3 1 0 v.length cv)] [] (hpQ F u v) 4 (Is 4 (.tup [.c (.i 0), .c (.i (scoreE F u v))])) := by
  refine ctW Try.tyOk 12 [] Try.func10 rfl (by simp [SV.lt, SA.lt, SC.lt, arcV, fV]) (by simp) (fr := [(0, fV F), (1, .c (.sl 2 1 0 u.length cu)), (2, .c (.sl 3 1 0 v.length cv))]) rfl ?_
  repeat' (first | exact rfl | ((conv => whnf); first | refine condP_dec (fun h => absurd h (by omega)) (fun h => ?_) | refine condP_dec (fun h => ?_) (fun h => absurd h (by omega)) | refine condP_dec (fun h => ?_) (fun h => ?_) | refine condP_ndec (fun h => absurd h (by omega)) (fun h => ?_) | refine condP_ndec (fun h => ?_) (fun h => absurd h (by omega)) | refine condP_ndec (fun h => ?_) (fun h => ?_) | refine condP_beq (fun h => absurd h (by omega)) (fun h => ?_) | refine condP_beq (fun h => ?_) (fun h => absurd h (by omega)) | refine condP_beq (fun h => ?_) (fun h => ?_) | refine condP_bne (fun h => absurd h (by omega)) (fun h => ?_) | refine condP_bne (fun h => ?_) (fun h => absurd h (by omega)) | refine condP_bne (fun h => ?_) (fun h => ?_) | refine condP_mk (fun h => ?_) (fun h => ?_) | refine Ob.mk (by (first | omega | (simp only [InI, nmin, List.length_append, List.length_replicate, List.length_cons, List.length_nil, List.length_map, List.length_set, List.length_take, List.length_drop, List.length_reverse, List.length_range, Nat.zero_add, Nat.add_zero, Int.toNat_natCast, EK.sz]; omega) | (simp only [InI, nmin, List.length_append, List.length_replicate, List.length_cons, List.length_nil, List.length_map, List.length_set, List.length_take, List.length_drop, List.length_reverse, List.length_range, Nat.zero_add, Nat.add_zero, Int.toNat_natCast, EK.sz] at *; omega))) ?_ | refine Ob.mk ?_ ?_ | refine Both.mk ?_ ?_ | refine draw_of Try.mixed Try.tyOk 60 (by kernel_rfl) ?_))
  (conv => whnf)
  refine callI (walk_no F u v cu cv hl hsc) [0, 1, 2, 3] Try.call51 rfl (by simp [eqLs, eqL, eqO, eqC, eqCs, rn, renOf, look_cons, look, EK.cast]) (by simp [appN, ptrs, eqVL, eqV, eqA, eqC, eqCs, eqAs, eqCaps, EK.sz, rn, renOf, look_cons, look, arcV, fV]) (by simp [appN, ptrs, SV.lt, SA.lt, SC.lt, arcV, fV]) ?_
  repeat' (first | exact rfl | ((conv => whnf); first | refine condP_dec (fun h => absurd h (by omega)) (fun h => ?_) | refine condP_dec (fun h => ?_) (fun h => absurd h (by omega)) | refine condP_dec (fun h => ?_) (fun h => ?_) | refine condP_ndec (fun h => absurd h (by omega)) (fun h => ?_) | refine condP_ndec (fun h => ?_) (fun h => absurd h (by omega)) | refine condP_ndec (fun h => ?_) (fun h => ?_) | refine condP_beq (fun h => absurd h (by omega)) (fun h => ?_) | refine condP_beq (fun h => ?_) (fun h => absurd h (by omega)) | refine condP_beq (fun h => ?_) (fun h => ?_) | refine condP_bne (fun h => absurd h (by omega)) (fun h => ?_) | refine condP_bne (fun h => ?_) (fun h => absurd h (by omega)) | refine condP_bne (fun h => ?_) (fun h => ?_) | refine condP_mk (fun h => ?_) (fun h => ?_) | refine Ob.mk (by (first | omega | (simp only [InI, nmin, List.length_append, List.length_replicate, List.length_cons, List.length_nil, List.length_map, List.length_set, List.length_take, List.length_drop, List.length_reverse, List.length_range, Nat.zero_add, Nat.add_zero, Int.toNat_natCast, EK.sz]; omega) | (simp only [InI, nmin, List.length_append, List.length_replicate, List.length_cons, List.length_nil, List.length_map, List.length_set, List.length_take, List.length_drop, List.length_reverse, List.length_range, Nat.zero_add, Nat.add_zero, Int.toNat_natCast, EK.sz] at *; omega))) ?_ | refine Ob.mk ?_ ?_ | refine Both.mk ?_ ?_ | refine draw_of Try.mixed Try.tyOk 60 (by kernel_rfl) ?_))
  refine Back.is ?_
  simp [eqV, eqA, eqAs, eqC, eqCs]

set_option maxHeartbeats 4000000 in
set_option maxRecDepth 20000 in
theorem score_ok (F : TF) (u v : List Int) (cu cv : Nat) (hl : F.fin.length ≤ 9223372036854775807) (hsc : scoreE F u v = 0) :
    Ct Try.prog 10 [fV F, .c (.sl 2 1 0 u.length cu), .c (.sl 3 1 0 v.length cv)] [] (hpQ F u v) 4 (fun x s => ∃ A, IsLeast F u v (fromSt F) A ∧ x = .tup [.c (.i (endF A F.fin u.length v.length F.fin.length).2), .c (.i 0)] ∧ s = ⟨[], [], 4⟩) := by
  refine ctW Try.tyOk 12 [] Try.func10 rfl (by simp [SV.lt, SA.lt, SC.lt, arcV, fV]) (by simp) (fr := [(0, fV F), (1, .c (.sl 2 1 0 u.length cu)), (2, .c (.sl 3 1 0 v.length cv))]) rfl ?_
  repeat' (first | exact rfl | ((conv => whnf); first | refine condP_dec (fun h => absurd h (by omega)) (fun h => ?_) | refine condP_dec (fun h => ?_) (fun h => absurd h (by omega)) | refine condP_dec (fun h => ?_) (fun h => ?_) | refine condP_ndec (fun h => absurd h (by omega)) (fun h => ?_) | refine condP_ndec (fun h => ?_) (fun h => absurd h (by omega)) | refine condP_ndec (fun h => ?_) (fun h => ?_) | refine condP_beq (fun h => absurd h (by omega)) (fun h => ?_) | refine condP_beq (fun h => ?_) (fun h => absurd h (by omega)) | refine condP_beq (fun h => ?_) (fun h => ?_) | refine condP_bne (fun h => absurd h (by omega)) (fun h => ?_) | refine condP_bne (fun h => ?_) (fun h => absurd h (by omega)) | refine condP_bne (fun h => ?_) (fun h => ?_) | refine condP_mk (fun h => ?_) (fun h => ?_) | refine Ob.mk (by (first | omega | (simp only [InI, nmin, List.length_append, List.length_replicate, List.length_cons, List.length_nil, List.length_map, List.length_set, List.length_take, List.length_drop, List.length_reverse, List.length_range, Nat.zero_add, Nat.add_zero, Int.toNat_natCast, EK.sz]; omega) | (simp only [InI, nmin, List.length_append, List.length_replicate, List.length_cons, List.length_nil, List.length_map, List.length_set, List.length_take, List.length_drop, List.length_reverse, List.length_range, Nat.zero_add, Nat.add_zero, Int.toNat_natCast, EK.sz] at *; omega))) ?_ | refine Ob.mk ?_ ?_ | refine Both.mk ?_ ?_ | refine draw_of Try.mixed Try.tyOk 60 (by kernel_rfl) ?_))
  (conv => whnf)
  refine callF (walk_ok F u v cu cv hl hsc) [0, 1, 2, 3] Try.call51 rfl (by simp [eqLs, eqL, eqO, eqC, eqCs, rn, renOf, look_cons, look, EK.cast]) (by simp [appN, ptrs, eqVL, eqV, eqA, eqC, eqCs, eqAs, eqCaps, EK.sz, rn, renOf, look_cons, look, arcV, fV]) (by simp [appN, ptrs, SV.lt, SA.lt, SC.lt, arcV, fV, lenN]) ?_
  rintro _ _ ⟨rows, pi, es, clk, pf, ⟨hm, ord, rk, B, hol, hD, hB, hall⟩, rfl, rfl⟩
  repeat' (first | exact rfl | ((conv => whnf); first | refine condP_dec (fun h => absurd h (by omega)) (fun h => ?_) | refine condP_dec (fun h => ?_) (fun h => absurd h (by omega)) | refine condP_dec (fun h => ?_) (fun h => ?_) | refine condP_ndec (fun h => absurd h (by omega)) (fun h => ?_) | refine condP_ndec (fun h => ?_) (fun h => absurd h (by omega)) | refine condP_ndec (fun h => ?_) (fun h => ?_) | refine condP_beq (fun h => absurd h (by omega)) (fun h => ?_) | refine condP_beq (fun h => ?_) (fun h => absurd h (by omega)) | refine condP_beq (fun h => ?_) (fun h => ?_) | refine condP_bne (fun h => absurd h (by omega)) (fun h => ?_) | refine condP_bne (fun h => ?_) (fun h => absurd h (by omega)) | refine condP_bne (fun h => ?_) (fun h => ?_) | refine condP_mk (fun h => ?_) (fun h => ?_) | refine Ob.mk (by (first | omega | (simp only [InI, nmin, List.length_append, List.length_replicate, List.length_cons, List.length_nil, List.length_map, List.length_set, List.length_take, List.length_drop, List.length_reverse, List.length_range, Nat.zero_add, Nat.add_zero, Int.toNat_natCast, EK.sz]; omega) | (simp only [InI, nmin, List.length_append, List.length_replicate, List.length_cons, List.length_nil, List.length_map, List.length_set, List.length_take, List.length_drop, List.length_reverse, List.length_range, Nat.zero_add, Nat.add_zero, Int.toNat_natCast, EK.sz] at *; omega))) ?_ | refine Ob.mk ?_ ?_ | refine Both.mk ?_ ?_ | refine draw_of Try.mixed Try.tyOk 60 (by kernel_rfl) ?_))
  (conv => whnf)
  exact ⟨[], [], 4, .tup [.c (.i (endF (costOf es pf) F.fin u.length v.length F.fin.length).2), .c (.i 0)], ⟨by rfl, trivial, trivial⟩, by simp [eqV, eqA, eqAs, eqC, eqCs], costOf es pf, hD.least hall, rfl, rfl⟩

end Go.Fw

namespace Go.Fw
open Go Go.Proofs

/-- Back along the arcs. -/
def chain (D : Trip → Option Fnd) : Nat → Trip → List Int
  | 0, _ => []
  | n + 1, y => match D y with
    | none => []
    | some c => if 0 ≤ c.arc then c.arc :: chain D n ⟨c.s, c.i, c.o⟩ else []

theorem chain_stop {D : Trip → Option Fnd} {y : Trip} {c : Fnd} (h : D y = some c) (ha : ¬ c.arc ≥ 0) (n : Nat) : chain D n y = [] := by
  cases n with
  | zero => rfl
  | succ n => simp only [chain, h]; exact if_neg ha

theorem chain_on {D : Trip → Option Fnd} {y : Trip} {c : Fnd} (h : D y = some c) (ha : c.arc ≥ 0) (n : Nat) : chain D (n + 1) y = c.arc :: chain D n ⟨c.s, c.i, c.o⟩ := by
  simp only [chain, h]; exact if_pos ha

theorem endF_D {D : Trip → Option Int} {fin : List Int} {p q : Int} : ∀ k, (endF D fin p q k).2 ≠ -1 → ∃ d, D (endF D fin p q k).1 = some d
  | 0, h => absurd rfl h
  | k + 1, h => by
    cases hd : D ⟨k, p, q⟩ with
    | none => rw [endF_none hd] at h ⊢; exact endF_D k h
    | some d =>
      by_cases c : fin.getD k 0 ≠ -1 ∧ ((endF D fin p q k).2 = -1 ∨ d + fin.getD k 0 < (endF D fin p q k).2)
      · rw [endF_yes hd c.1 c.2]; exact ⟨d, hd⟩
      · have e : endF D fin p q (k + 1) = endF D fin p q k := by simp only [endF, hd]; exact if_neg c
        rw [e] at h ⊢
        exact endF_D k h

/-- What Walk tells. -/
def WalkIs (F : TF) (u v : List Int) (E : Trip × Int) (l : List Int) : Prop :=
  ∃ D ord rk B n, Dj F u v D ord rk B (fun _ _ => True) ∧ (∀ y d, D y = some d → d.dn = true) ∧ E = endF (fun y => (D y).map (·.cost)) F.fin u.length v.length F.fin.length ∧ rk E.1 < n ∧ l.reverse = chain D n E.1

set_option maxHeartbeats 8000000 in
set_option maxRecDepth 20000 in
theorem walkP_c (F : TF) (u v : List Int) (cu cv : Nat) (hl : F.fin.length ≤ 9223372036854775807) (hsc : scoreE F u v = 0) :
    Ct Try.prog 56 [fV F, .c (.sl 2 1 0 u.length cu), .c (.sl 3 1 0 v.length cv)] [] (hpQ F u v) 4 (fun x s =>
      (∃ A, IsLeast F u v (fromSt F) A ∧ (endF A F.fin u.length v.length F.fin.length).2 = -1 ∧ x = .tup [.c (.v (.slice none 0 0)), .c (.i (-1)), .c (.i 0)] ∧ s = ⟨[], [], 4⟩) ∨
      ∃ E l sp, WalkIs F u v E l ∧ E.2 ≠ -1 ∧ x = .tup [.c (.sl 4 1 0 l.length (l.length + sp)), .c (.i E.2), .c (.i 0)] ∧ s = ⟨[], [(4, .arr true 3 .int l sp)], 5⟩) := by
  refine ctW Try.tyOk 15 [] Try.func56 rfl (by simp [SV.lt, SA.lt, SC.lt, arcV, fV]) (by simp) (fr := [(0, fV F), (1, .c (.sl 2 1 0 u.length cu)), (2, .c (.sl 3 1 0 v.length cv))]) rfl ?_
  repeat' (first | exact rfl | ((conv => whnf); first | refine condP_dec (fun h => absurd h (by omega)) (fun h => ?_) | refine condP_dec (fun h => ?_) (fun h => absurd h (by omega)) | refine condP_dec (fun h => ?_) (fun h => ?_) | refine condP_ndec (fun h => absurd h (by omega)) (fun h => ?_) | refine condP_ndec (fun h => ?_) (fun h => absurd h (by omega)) | refine condP_ndec (fun h => ?_) (fun h => ?_) | refine condP_beq (fun h => absurd h (by omega)) (fun h => ?_) | refine condP_beq (fun h => ?_) (fun h => absurd h (by omega)) | refine condP_beq (fun h => ?_) (fun h => ?_) | refine condP_bne (fun h => absurd h (by omega)) (fun h => ?_) | refine condP_bne (fun h => ?_) (fun h => absurd h (by omega)) | refine condP_bne (fun h => ?_) (fun h => ?_) | refine condP_mk (fun h => ?_) (fun h => ?_) | refine Ob.mk (by (first | omega | (simp only [InI, nmin, List.length_append, List.length_replicate, List.length_cons, List.length_nil, List.length_map, List.length_set, List.length_take, List.length_drop, List.length_reverse, List.length_range, Nat.zero_add, Nat.add_zero, Int.toNat_natCast, EK.sz]; omega) | (simp only [InI, nmin, List.length_append, List.length_replicate, List.length_cons, List.length_nil, List.length_map, List.length_set, List.length_take, List.length_drop, List.length_reverse, List.length_range, Nat.zero_add, Nat.add_zero, Int.toNat_natCast, EK.sz] at *; omega))) ?_ | refine Ob.mk ?_ ?_ | refine Both.mk ?_ ?_ | refine draw_of Try.mixed Try.tyOk 60 (by kernel_rfl) ?_))
  (conv => whnf)
  refine callF (walk_ok F u v cu cv hl hsc) [0, 1, 2, 3] Try.call51 rfl (by simp [eqLs, eqL, eqO, eqC, eqCs, rn, renOf, look_cons, look, EK.cast]) (by simp [appN, ptrs, eqVL, eqV, eqA, eqC, eqCs, eqAs, eqCaps, EK.sz, rn, renOf, look_cons, look, arcV, fV]) (by simp [appN, ptrs, SV.lt, SA.lt, SC.lt, arcV, fV, lenN]) ?_
  rintro _ _ ⟨rows, pi, es, clk, pf, ⟨hm, ord, rk, B, hol, hD, hB, hall⟩, rfl, rfl⟩
  have hL := hD.least hall
  have hed := endF_D (D := costOf es pf) (fin := F.fin) (p := u.length) (q := v.length) F.fin.length
  generalize hE : endF (costOf es pf) F.fin u.length v.length F.fin.length = E at *
  obtain ⟨⟨E1, E2, E3⟩, Ec⟩ := E
  simp only at hed ⊢
  repeat' (first | exact rfl | ((conv => whnf); first | refine condP_dec (fun h => absurd h (by omega)) (fun h => ?_) | refine condP_dec (fun h => ?_) (fun h => absurd h (by omega)) | refine condP_dec (fun h => ?_) (fun h => ?_) | refine condP_ndec (fun h => absurd h (by omega)) (fun h => ?_) | refine condP_ndec (fun h => ?_) (fun h => absurd h (by omega)) | refine condP_ndec (fun h => ?_) (fun h => ?_) | refine condP_beq (fun h => absurd h (by omega)) (fun h => ?_) | refine condP_beq (fun h => ?_) (fun h => absurd h (by omega)) | refine condP_beq (fun h => ?_) (fun h => ?_) | refine condP_bne (fun h => absurd h (by omega)) (fun h => ?_) | refine condP_bne (fun h => ?_) (fun h => absurd h (by omega)) | refine condP_bne (fun h => ?_) (fun h => ?_) | refine condP_mk (fun h => ?_) (fun h => ?_) | refine Ob.mk (by (first | omega | (simp only [InI, nmin, List.length_append, List.length_replicate, List.length_cons, List.length_nil, List.length_map, List.length_set, List.length_take, List.length_drop, List.length_reverse, List.length_range, Nat.zero_add, Nat.add_zero, Int.toNat_natCast, EK.sz]; omega) | (simp only [InI, nmin, List.length_append, List.length_replicate, List.length_cons, List.length_nil, List.length_map, List.length_set, List.length_take, List.length_drop, List.length_reverse, List.length_range, Nat.zero_add, Nat.add_zero, Int.toNat_natCast, EK.sz] at *; omega))) ?_ | refine Ob.mk ?_ ?_ | refine Both.mk ?_ ?_ | refine draw_of Try.mixed Try.tyOk 60 (by kernel_rfl) ?_))
  · (conv => whnf)
    refine ⟨[], [], 4, .tup [.c (.v (.slice none 0 0)), .c (.i (-1)), .c (.i 0)], ⟨by rfl, trivial, trivial⟩, by simp [eqV, eqA, eqAs, eqC, eqCs, h], .inl ⟨costOf es pf, hL, ?_, rfl, rfl⟩⟩
    rw [hE]
    exact h
  obtain ⟨d0, hd0⟩ := hed h
  obtain ⟨d, hd, -⟩ := Option.map_eq_some_iff.1 hd0
  obtain ⟨a, nn, r1, r2, r3, r4⟩ := hm.of hd
  have e1 : (@lkM EK.trip.ty EK.adr.ty (EK.instDeq .trip) es (⟨E1, E2, E3⟩ : Trip)).getD EK.adr.dflt = some a := congrArg (fun x => Option.getD x none) r3
  have hmem : ∀ y d, metOf es pf y = some d → y ∈ ord := fun y d hy => (hD.dn y d hy).1 (hall y d hy)
  repeat' (first | exact rfl | ((conv => whnf); first | refine condP_dec (fun h => absurd h (by omega)) (fun h => ?_) | refine condP_dec (fun h => ?_) (fun h => absurd h (by omega)) | refine condP_dec (fun h => ?_) (fun h => ?_) | refine condP_ndec (fun h => absurd h (by omega)) (fun h => ?_) | refine condP_ndec (fun h => ?_) (fun h => absurd h (by omega)) | refine condP_ndec (fun h => ?_) (fun h => ?_) | refine condP_beq (fun h => absurd h (by omega)) (fun h => ?_) | refine condP_beq (fun h => ?_) (fun h => absurd h (by omega)) | refine condP_beq (fun h => ?_) (fun h => ?_) | refine condP_bne (fun h => absurd h (by omega)) (fun h => ?_) | refine condP_bne (fun h => ?_) (fun h => absurd h (by omega)) | refine condP_bne (fun h => ?_) (fun h => ?_) | refine condP_mk (fun h => ?_) (fun h => ?_) | refine Ob.mk (by (first | omega | (simp only [InI, nmin, List.length_append, List.length_replicate, List.length_cons, List.length_nil, List.length_map, List.length_set, List.length_take, List.length_drop, List.length_reverse, List.length_range, Nat.zero_add, Nat.add_zero, Int.toNat_natCast, EK.sz]; omega) | (simp only [InI, nmin, List.length_append, List.length_replicate, List.length_cons, List.length_nil, List.length_map, List.length_set, List.length_take, List.length_drop, List.length_reverse, List.length_range, Nat.zero_add, Nat.add_zero, Int.toNat_natCast, EK.sz] at *; omega))) ?_ | refine Ob.mk ?_ ?_ | refine Both.mk ?_ ?_ | refine draw_of Try.mixed Try.tyOk 60 (by kernel_rfl) ?_))
  (conv => whnf)
  rw [e1]
  refine loopI (fun y : List Int × Nat × Addr × Trip × Nat => ⟨[(6, .c (.v (.slice none 0 0))), (7, .i 0), (8, .i 0), (9, .c (.ptr 5 0)), (10, .c (.ptr 10 0)), (11, .i Ec), (12, .i 0), (13, .c (.sl 11 1 0 y.1.length (y.1.length + y.2.1))), (14, .c (.q (some y.2.2.1)))],
    (4, .box 25 (fCells F)) :: (5, .box 115 [.i F.st, .i F.start, .sl 0 1 0 F.fin.length F.capF, .sl 1 5 0 F.arcs.length F.capA, .sl 2 1 0 u.length cu, .sl 3 1 0 v.length cv, .sl 6 1 0 rows.length rows.length, .mp 9]) :: (8, .pool 120 .fnd pf) :: (9, .map .trip .adr es clk) :: (10, .box 69 [.i E1, .i E2, .i E3]) :: (11, .arr true 3 .int y.1 y.2.1) :: hpQ F u v, 12⟩)
    (fun y => (∃ c, metOf es pf y.2.2.2.1 = some c ∧ rowA pf (some y.2.2.1) = [c]) ∧ rk y.2.2.2.1 < y.2.2.2.2 ∧ y.1 ++ chain (metOf es pf) y.2.2.2.2 y.2.2.2.1 = chain (metOf es pf) (rk ⟨E1, E2, E3⟩ + 1) ⟨E1, E2, E3⟩ ∧ y.1.length + y.2.2.2.2 ≤ 336200) (fun y => y.2.2.2.2) ([], 0, a, ⟨E1, E2, E3⟩, rk ⟨E1, E2, E3⟩ + 1) [(11, none)] ⟨by rfl, ?_, ?_⟩ ⟨⟨d, hd, r4⟩, Nat.lt_succ_self _, rfl, ?_⟩ ?_
  · simp [eqFr, eqHp, eqV, eqA, eqC, eqO, eqCs, eqAs, look_cons, look, rn, EK.cast, EK.sz, eqCaps]
  · simp [eqFr, eqHp, eqV, eqA, eqC, eqO, eqCs, eqAs, look_cons, look, rn, EK.cast, EK.sz, eqCaps, fCells, nilO]
  · have := hD.rkl _ (hmem _ _ hd)
    simp only [List.length_nil]
    omega
  · rintro ⟨l, sp, b, y, fu⟩ ⟨⟨c, hc, hrow⟩, hfu, hch, hlen⟩
    simp only at hc hrow hfu hch hlen ⊢
    have hcl : 0 < (rowA pf (some b)).length := by rw [hrow]; exact Nat.one_pos
    have ec : (rowA pf (some b)).getD 0 EK.fnd.dflt = c := by rw [hrow]; rfl
    have hby := hD.by' y c hc
    repeat' (first | exact rfl | ((conv => whnf); first | refine condP_dec (fun h => absurd h (by omega)) (fun h => ?_) | refine condP_dec (fun h => ?_) (fun h => absurd h (by omega)) | refine condP_dec (fun h => ?_) (fun h => ?_) | refine condP_ndec (fun h => absurd h (by omega)) (fun h => ?_) | refine condP_ndec (fun h => ?_) (fun h => absurd h (by omega)) | refine condP_ndec (fun h => ?_) (fun h => ?_) | refine condP_beq (fun h => absurd h (by omega)) (fun h => ?_) | refine condP_beq (fun h => ?_) (fun h => absurd h (by omega)) | refine condP_beq (fun h => ?_) (fun h => ?_) | refine condP_bne (fun h => absurd h (by omega)) (fun h => ?_) | refine condP_bne (fun h => ?_) (fun h => absurd h (by omega)) | refine condP_bne (fun h => ?_) (fun h => ?_) | refine condP_mk (fun h => ?_) (fun h => ?_) | refine Ob.mk (by (first | omega | (simp only [InI, nmin, List.length_append, List.length_replicate, List.length_cons, List.length_nil, List.length_map, List.length_set, List.length_take, List.length_drop, List.length_reverse, List.length_range, Nat.zero_add, Nat.add_zero, Int.toNat_natCast, EK.sz]; omega) | (simp only [InI, nmin, List.length_append, List.length_replicate, List.length_cons, List.length_nil, List.length_map, List.length_set, List.length_take, List.length_drop, List.length_reverse, List.length_range, Nat.zero_add, Nat.add_zero, Int.toNat_natCast, EK.sz] at *; omega))) ?_ | refine Ob.mk ?_ ?_ | refine Both.mk ?_ ?_ | refine draw_of Try.mixed Try.tyOk 60 (by kernel_rfl) ?_))
    · intro sp2
      repeat' (first | exact rfl | ((conv => whnf); first | refine condP_dec (fun h => absurd h (by omega)) (fun h => ?_) | refine condP_dec (fun h => ?_) (fun h => absurd h (by omega)) | refine condP_dec (fun h => ?_) (fun h => ?_) | refine condP_ndec (fun h => absurd h (by omega)) (fun h => ?_) | refine condP_ndec (fun h => ?_) (fun h => absurd h (by omega)) | refine condP_ndec (fun h => ?_) (fun h => ?_) | refine condP_beq (fun h => absurd h (by omega)) (fun h => ?_) | refine condP_beq (fun h => ?_) (fun h => absurd h (by omega)) | refine condP_beq (fun h => ?_) (fun h => ?_) | refine condP_bne (fun h => absurd h (by omega)) (fun h => ?_) | refine condP_bne (fun h => ?_) (fun h => absurd h (by omega)) | refine condP_bne (fun h => ?_) (fun h => ?_) | refine condP_mk (fun h => ?_) (fun h => ?_) | refine Ob.mk (by (first | omega | (simp only [InI, nmin, List.length_append, List.length_replicate, List.length_cons, List.length_nil, List.length_map, List.length_set, List.length_take, List.length_drop, List.length_reverse, List.length_range, Nat.zero_add, Nat.add_zero, Int.toNat_natCast, EK.sz]; omega) | (simp only [InI, nmin, List.length_append, List.length_replicate, List.length_cons, List.length_nil, List.length_map, List.length_set, List.length_take, List.length_drop, List.length_reverse, List.length_range, Nat.zero_add, Nat.add_zero, Int.toNat_natCast, EK.sz] at *; omega))) ?_ | refine Ob.mk ?_ ?_ | refine Both.mk ?_ ?_ | refine draw_of Try.mixed Try.tyOk 60 (by kernel_rfl) ?_))
      rw [ec] at h
      obtain ⟨n, z, cz, w, g1, g2, g3, g4, g5, g6, g7, g8, g9⟩ : ∃ (n : Nat) (z : Trip) (cz : Fnd) (w : Int), c.arc = (n : Int) ∧ c.s = z.a ∧ c.i = z.b ∧ c.o = z.c ∧ z ∈ ord ∧ metOf es pf z = some cz ∧ Edge F u v z n y w ∧ c.cost = cz.cost + w ∧ (y ∈ ord → rk z < rk y) := by
        rcases hby with ⟨_, _, q⟩ | q
        · omega
        · exact q
      have hz : z = ⟨c.s, c.i, c.o⟩ := by rw [g2, g3, g4]
      subst hz
      obtain ⟨b', nb, s1, s2, s3, s4⟩ := hm.of g6
      have e2 : (@lkM EK.trip.ty EK.adr.ty (EK.instDeq .trip) es (⟨c.s, c.i, c.o⟩ : Trip)).getD EK.adr.dflt = some b' := congrArg (fun x => Option.getD x none) s3
      have hrk := g9 (hmem y c hc)
      obtain ⟨fu', rfl⟩ : ∃ fu', fu = fu' + 1 := ⟨fu - 1, by omega⟩
      rw [chain_on hc h] at hch
      (conv => whnf)
      rw [ec, e2]
      refine ⟨(l ++ [c.arc], sp2, b', ⟨c.s, c.i, c.o⟩, fu'), [(11, some 13)], ⟨by rfl, ?_, ?_⟩, ⟨⟨cz, g6, s4⟩, by simp only; omega, by simpa using hch, by simp only [List.length_append, List.length_cons, List.length_nil]; omega⟩, by simp only; omega⟩
      · simp [eqFr, eqHp, eqV, eqA, eqC, eqO, eqCs, eqAs, look_cons, look, rn, EK.cast, EK.sz, eqCaps]
      · simp [eqFr, eqHp, eqV, eqA, eqC, eqO, eqCs, eqAs, look_cons, look, rn, EK.cast, EK.sz, eqCaps, fCells]
        exact (app_one l _ _ rfl).symm
    · rw [ec] at h
      rw [chain_stop hc h, List.append_nil] at hch
      (conv => whnf)
      refine callF (reverse_c l (l.length + sp) sp (by omega)) [11] Try.call69 rfl (by simp [eqLs, eqL, eqO, eqC, eqCs, rn, renOf, look_cons, look, EK.cast]) (by simp [appN, ptrs, eqVL, eqV, eqA, eqC, eqCs, eqAs, eqCaps, EK.sz, rn, renOf, look_cons, look, arcV, fV]) (by simp [appN, ptrs, SV.lt, SA.lt, SC.lt, arcV, fV, lenN]) ?_
      rintro _ _ ⟨rfl, rfl⟩
      repeat' (first | exact rfl | ((conv => whnf); first | refine condP_dec (fun h => absurd h (by omega)) (fun h => ?_) | refine condP_dec (fun h => ?_) (fun h => absurd h (by omega)) | refine condP_dec (fun h => ?_) (fun h => ?_) | refine condP_ndec (fun h => absurd h (by omega)) (fun h => ?_) | refine condP_ndec (fun h => ?_) (fun h => absurd h (by omega)) | refine condP_ndec (fun h => ?_) (fun h => ?_) | refine condP_beq (fun h => absurd h (by omega)) (fun h => ?_) | refine condP_beq (fun h => ?_) (fun h => absurd h (by omega)) | refine condP_beq (fun h => ?_) (fun h => ?_) | refine condP_bne (fun h => absurd h (by omega)) (fun h => ?_) | refine condP_bne (fun h => ?_) (fun h => absurd h (by omega)) | refine condP_bne (fun h => ?_) (fun h => ?_) | refine condP_mk (fun h => ?_) (fun h => ?_) | refine Ob.mk (by (first | omega | (simp only [InI, nmin, List.length_append, List.length_replicate, List.length_cons, List.length_nil, List.length_map, List.length_set, List.length_take, List.length_drop, List.length_reverse, List.length_range, Nat.zero_add, Nat.add_zero, Int.toNat_natCast, EK.sz]; omega) | (simp only [InI, nmin, List.length_append, List.length_replicate, List.length_cons, List.length_nil, List.length_map, List.length_set, List.length_take, List.length_drop, List.length_reverse, List.length_range, Nat.zero_add, Nat.add_zero, Int.toNat_natCast, EK.sz] at *; omega))) ?_ | refine Ob.mk ?_ ?_ | refine Both.mk ?_ ?_ | refine draw_of Try.mixed Try.tyOk 60 (by kernel_rfl) ?_))
      (conv => whnf)
      refine ⟨[(4, some 11)], [(4, .arr true 3 .int l.reverse sp)], 5, .tup [.c (.sl 4 1 0 l.reverse.length (l.reverse.length + sp)), .c (.i Ec), .c (.i 0)], ⟨by rfl, trivial, by simp [eqFr, eqHp, eqV, eqA, eqC, eqO, eqCs, eqAs, look_cons, look, rn, EK.cast, EK.sz, eqCaps]⟩, by simp [eqV, eqA, eqAs, eqC, eqCs, rn, look, look_cons, EK.sz], .inr ⟨(⟨E1, E2, E3⟩, Ec), l.reverse, sp, ⟨metOf es pf, ord, rk, B, rk ⟨E1, E2, E3⟩ + 1, hD, hall, hE.symm, Nat.lt_succ_self _, ?_⟩, by assumption, rfl, rfl⟩⟩
      rw [List.reverse_reverse]
      exact hch

end Go.Fw

namespace Go.Fw
open Go Go.Proofs

theorem one_edge {u v : List Int} {x y : Trip} {n : Nat} {w : Int} (h : Edge oneT u v x n y w) : n = 0 ∧ x.a = 0 ∧ w = 5 ∧ (fitE u x.b 1).2 = true ∧ (fitE v x.c 2).2 = true ∧ y = ⟨1, (fitE u x.b 1).1, (fitE v x.c 2).1⟩ := by
  obtain ⟨a, h1, h2, h3, h4, h5, h6⟩ := h
  have hn : n = 0 := by
    have := (List.getElem?_eq_some_iff.1 h1).1
    simp only [oneT, List.length_cons, List.length_nil] at this
    omega
  subst hn
  simp only [oneT, List.getElem?_cons_zero, Option.some.injEq] at h1
  subst h1
  exact ⟨rfl, h2.symm, h6, h3, h4, h5⟩

theorem one_reach {u v : List Int} {c : Int} {y : Trip} (h : Reach oneT u v (fromSt oneT) c y) : (y = ⟨0, 0, 0⟩ ∧ c = 0) ∨ (y = ⟨1, 1, 1⟩ ∧ c = 5 ∧ 0 < u.length) := by
  induction h with
  | here h => exact .inl ⟨h.1, h.2⟩
  | on hr he ih =>
    obtain ⟨_, h2, h3, h4, h5, h6⟩ := one_edge he
    rcases ih with ⟨rfl, rfl⟩ | ⟨rfl, _⟩
    · right
      refine ⟨?_, by omega, ?_⟩
      · rw [h6]
        rfl
      · unfold fitE at h4
        simp only [show (1 : Int) ≠ 0 by decide, if_false, decide_eq_true_eq] at h4
        omega
    · cases h2

theorem one_end {A : Trip → Option Int} (hA : IsLeast oneT [1] [2] (fromSt oneT) A) : A ⟨1, 1, 1⟩ = some 5 ∧ endF A [-1, 1] 1 1 2 = (⟨1, 1, 1⟩, 6) := by
  have h0 : Reach oneT [1] [2] (fromSt oneT) 0 ⟨0, 0, 0⟩ := .here ⟨rfl, rfl⟩
  have he : Edge oneT [1] [2] ⟨0, 0, 0⟩ 0 ⟨1, 1, 1⟩ 5 := ⟨⟨0, 1, 2, 1, 5⟩, rfl, rfl, rfl, rfl, rfl, rfl⟩
  have h1 : Reach oneT [1] [2] (fromSt oneT) (0 + 5) ⟨1, 1, 1⟩ := .on h0 he
  obtain ⟨c, h2, h3⟩ := hA.least _ _ h1
  have h4 : A ⟨1, 1, 1⟩ = some 5 := by
    rcases one_reach (hA.path _ _ h2) with ⟨q, _⟩ | ⟨_, q, _⟩
    · cases q
    · rw [h2, q]
  refine ⟨h4, ?_⟩
  have e1 : endF A [-1, 1] 1 1 1 = (⟨0, 0, 0⟩, -1) := by
    cases hd : A ⟨((0 : Nat) : Int), 1, 1⟩ with
    | none => exact endF_none hd
    | some d => exact endF_no hd (.inl rfl)
  have := endF_yes (D := A) (fin := [-1, 1]) (p := 1) (q := 1) (k := 1) (d := 5) h4 (by decide) (.inl (by rw [e1]))
  exact this

theorem one_nil {A : Trip → Option Int} (hA : IsLeast oneT [] [] (fromSt oneT) A) : (endF A [-1, 1] 0 0 2).2 = -1 := by
  have h4 : A ⟨((1 : Nat) : Int), 0, 0⟩ = none := by
    cases h : A ⟨((1 : Nat) : Int), 0, 0⟩ with
    | none => rfl
    | some c =>
      rcases one_reach (hA.path _ _ h) with ⟨q, _⟩ | ⟨q, _⟩
      · cases q
      · cases q
  have e1 : endF A [-1, 1] 0 0 1 = (⟨0, 0, 0⟩, -1) := by
    cases hd : A ⟨((0 : Nat) : Int), 0, 0⟩ with
    | none => exact endF_none hd
    | some d => exact endF_no hd (.inl rfl)
  rw [endF_none h4, e1]

theorem one_walk {E : Trip × Int} {l : List Int} (h : WalkIs oneT [1] [2] E l) : E.2 = 6 ∧ l = [0] := by
  obtain ⟨D, ord, rk, B, n, hD, hall, hE, hn, hl⟩ := h
  have h1 := one_end (hD.least hall)
  have hE2 : E = (⟨1, 1, 1⟩, 6) := hE.trans h1.2
  subst hE2
  refine ⟨rfl, ?_⟩
  obtain ⟨d, hd, _⟩ := Option.map_eq_some_iff.1 h1.1
  obtain ⟨m, rfl⟩ : ∃ m, n = m + 1 := ⟨n - 1, by omega⟩
  have key : chain D (m + 1) ⟨1, 1, 1⟩ = [0] := by
    rcases hD.by' _ d hd with ⟨q, _⟩ | ⟨k, x, c, w, g1, g2, g3, g4, g5, g6, g7, _, _⟩
    · cases q
    · obtain ⟨rfl, q2, q3, q4, q5, q6⟩ := one_edge g7
      have hx : x = ⟨0, 0, 0⟩ := by
        rcases one_reach ((hD.least hall).path x c.cost (by simp [g6])) with ⟨q, _⟩ | ⟨q, _⟩
        · exact q
        · rw [q] at q2; cases q2
      subst hx
      have e : (⟨d.s, d.i, d.o⟩ : Trip) = ⟨0, 0, 0⟩ := by rw [g2, g3, g4]
      rw [chain_on hd (by omega), g1, e]
      congr 1
      rcases hD.by' _ c g6 with ⟨_, _, q⟩ | ⟨k, x, c', w, _, _, _, _, _, _, q, _, _⟩
      · exact chain_stop g6 (by omega) m
      · have := (one_edge q).2.2.2.2.2
        cases this
  rw [key] at hl
  have := congrArg List.reverse hl
  rwa [List.reverse_reverse] at this

end Go.Fw

namespace Go.Fw
open Go Go.Proofs

theorem one_sc1 : scoreE oneT [1] [2] = 0 := by decide
theorem one_sc0 : scoreE oneT [] [] = 0 := by decide

set_option maxHeartbeats 8000000 in
set_option maxRecDepth 20000 in
theorem scoreBegun_c : Ct Try.prog 13 [] [] [] 0 (Is 0 (.b true)) := by
  refine ctW Try.tyOk 8 [] Try.func13 rfl (by simp) (by simp) (fr := []) rfl ?_
  repeat' (first | exact rfl | ((conv => whnf); first | refine condP_dec (fun h => absurd h (by omega)) (fun h => ?_) | refine condP_dec (fun h => ?_) (fun h => absurd h (by omega)) | refine condP_dec (fun h => ?_) (fun h => ?_) | refine condP_ndec (fun h => absurd h (by omega)) (fun h => ?_) | refine condP_ndec (fun h => ?_) (fun h => absurd h (by omega)) | refine condP_ndec (fun h => ?_) (fun h => ?_) | refine condP_beq (fun h => absurd h (by omega)) (fun h => ?_) | refine condP_beq (fun h => ?_) (fun h => absurd h (by omega)) | refine condP_beq (fun h => ?_) (fun h => ?_) | refine condP_bne (fun h => absurd h (by omega)) (fun h => ?_) | refine condP_bne (fun h => ?_) (fun h => absurd h (by omega)) | refine condP_bne (fun h => ?_) (fun h => ?_) | refine condP_mk (fun h => ?_) (fun h => ?_) | refine Ob.mk (by (first | omega | (simp only [InI, nmin, List.length_append, List.length_replicate, List.length_cons, List.length_nil, List.length_map, List.length_set, List.length_take, List.length_drop, List.length_reverse, List.length_range, Nat.zero_add, Nat.add_zero, Int.toNat_natCast, EK.sz]; omega) | (simp only [InI, nmin, List.length_append, List.length_replicate, List.length_cons, List.length_nil, List.length_map, List.length_set, List.length_take, List.length_drop, List.length_reverse, List.length_range, Nat.zero_add, Nat.add_zero, Int.toNat_natCast, EK.sz] at *; omega))) ?_ | refine Ob.mk ?_ ?_ | refine Both.mk ?_ ?_ | refine draw_of Try.mixed Try.tyOk 60 (by kernel_rfl) ?_))
  (conv => whnf)
  refine callF (one_c) [] Try.call55 rfl (by simp [eqLs, eqL, eqO, eqC, eqCs, rn, renOf, look_cons, look, EK.cast]) (by simp [appN, ptrs, eqVL, eqV, eqA, eqC, eqCs, eqAs, eqCaps, EK.sz, rn, renOf, look_cons, look, arcV, fV]) (by simp [appN, ptrs, SV.lt, SA.lt, SC.lt, arcV, fV, lenN]) ?_
  rintro _ _ ⟨rfl, rfl⟩
  (conv => whnf)
  refine callF (score_ok oneT [1] [2] 1 1 (by decide) one_sc1) [0, 1, 2, 3] Try.call10 rfl (by simp [eqLs, eqL, eqO, eqC, eqCs, rn, renOf, look_cons, look, EK.cast, oneT, oneV]) (by simp [appN, ptrs, eqVL, eqV, eqA, eqC, eqCs, eqAs, eqCaps, EK.sz, rn, renOf, look_cons, look, arcV, fV, oneT, oneV]) (by simp [appN, ptrs, SV.lt, SA.lt, SC.lt, arcV, fV, lenN]) ?_
  rintro _ _ ⟨A, hA, rfl, rfl⟩
  have hA2 := (one_end hA).2
  rw [show (endF A oneT.fin (([1] : List Int).length : Int) (([2] : List Int).length : Int) oneT.fin.length) = endF A [-1, 1] 1 1 2 from rfl, hA2]
  clear hA hA2
  repeat' (first | exact rfl | ((conv => whnf); first | refine condP_dec (fun h => absurd h (by omega)) (fun h => ?_) | refine condP_dec (fun h => ?_) (fun h => absurd h (by omega)) | refine condP_dec (fun h => ?_) (fun h => ?_) | refine condP_ndec (fun h => absurd h (by omega)) (fun h => ?_) | refine condP_ndec (fun h => ?_) (fun h => absurd h (by omega)) | refine condP_ndec (fun h => ?_) (fun h => ?_) | refine condP_beq (fun h => absurd h (by omega)) (fun h => ?_) | refine condP_beq (fun h => ?_) (fun h => absurd h (by omega)) | refine condP_beq (fun h => ?_) (fun h => ?_) | refine condP_bne (fun h => absurd h (by omega)) (fun h => ?_) | refine condP_bne (fun h => ?_) (fun h => absurd h (by omega)) | refine condP_bne (fun h => ?_) (fun h => ?_) | refine condP_mk (fun h => ?_) (fun h => ?_) | refine Ob.mk (by (first | omega | (simp only [InI, nmin, List.length_append, List.length_replicate, List.length_cons, List.length_nil, List.length_map, List.length_set, List.length_take, List.length_drop, List.length_reverse, List.length_range, Nat.zero_add, Nat.add_zero, Int.toNat_natCast, EK.sz]; omega) | (simp only [InI, nmin, List.length_append, List.length_replicate, List.length_cons, List.length_nil, List.length_map, List.length_set, List.length_take, List.length_drop, List.length_reverse, List.length_range, Nat.zero_add, Nat.add_zero, Int.toNat_natCast, EK.sz] at *; omega))) ?_ | refine Ob.mk ?_ ?_ | refine Both.mk ?_ ?_ | refine draw_of Try.mixed Try.tyOk 60 (by kernel_rfl) ?_))
  (conv => whnf)
  refine callF (one_c) [] Try.call55 rfl (by simp [eqLs, eqL, eqO, eqC, eqCs, rn, renOf, look_cons, look, EK.cast]) (by simp [appN, ptrs, eqVL, eqV, eqA, eqC, eqCs, eqAs, eqCaps, EK.sz, rn, renOf, look_cons, look, arcV, fV]) (by simp [appN, ptrs, SV.lt, SA.lt, SC.lt, arcV, fV, lenN]) ?_
  rintro _ _ ⟨rfl, rfl⟩
  (conv => whnf)
  refine callNil 3 .int (args' := [SV.a (SA.agg [SC.i 2, SC.i 0, SC.sl 4 1 0 2 2, SC.sl 5 5 0 1 1]), .c (.sl 6 1 0 0 0), .c (.v (.slice none 0 0))]) (fun β => by simp [SV.den, SA.den, SC.den, Env.add, appN, ptrs]) ?_
  (conv => whnf)
  refine callNil 3 .int (args' := [SV.a (SA.agg [SC.i 2, SC.i 0, SC.sl 4 1 0 2 2, SC.sl 5 5 0 1 1]), .c (.sl 6 1 0 0 0), .c (.sl 7 1 0 0 0)]) (fun β => by simp [SV.den, SA.den, SC.den, Env.add, appN, ptrs]) ?_
  (conv => whnf)
  refine callF (score_ok oneT [] [] 0 0 (by decide) one_sc0) [4, 5, 6, 7] Try.call10 rfl (by simp [eqLs, eqL, eqO, eqC, eqCs, rn, renOf, look_cons, look, EK.cast, oneT, oneV]) (by simp [appN, ptrs, eqVL, eqV, eqA, eqC, eqCs, eqAs, eqCaps, EK.sz, rn, renOf, look_cons, look, arcV, fV, oneT, oneV]) (by simp [appN, ptrs, SV.lt, SA.lt, SC.lt, arcV, fV, lenN]) ?_
  rintro _ _ ⟨A, hA, rfl, rfl⟩
  have hA2 := one_nil hA
  rw [show (endF A oneT.fin (([] : List Int).length : Int) (([] : List Int).length : Int) oneT.fin.length).2 = (endF A [-1, 1] 0 0 2).2 from rfl, hA2]
  clear hA hA2
  repeat' (first | exact rfl | ((conv => whnf); first | refine condP_dec (fun h => absurd h (by omega)) (fun h => ?_) | refine condP_dec (fun h => ?_) (fun h => absurd h (by omega)) | refine condP_dec (fun h => ?_) (fun h => ?_) | refine condP_ndec (fun h => absurd h (by omega)) (fun h => ?_) | refine condP_ndec (fun h => ?_) (fun h => absurd h (by omega)) | refine condP_ndec (fun h => ?_) (fun h => ?_) | refine condP_beq (fun h => absurd h (by omega)) (fun h => ?_) | refine condP_beq (fun h => ?_) (fun h => absurd h (by omega)) | refine condP_beq (fun h => ?_) (fun h => ?_) | refine condP_bne (fun h => absurd h (by omega)) (fun h => ?_) | refine condP_bne (fun h => ?_) (fun h => absurd h (by omega)) | refine condP_bne (fun h => ?_) (fun h => ?_) | refine condP_mk (fun h => ?_) (fun h => ?_) | refine Ob.mk (by (first | omega | (simp only [InI, nmin, List.length_append, List.length_replicate, List.length_cons, List.length_nil, List.length_map, List.length_set, List.length_take, List.length_drop, List.length_reverse, List.length_range, Nat.zero_add, Nat.add_zero, Int.toNat_natCast, EK.sz]; omega) | (simp only [InI, nmin, List.length_append, List.length_replicate, List.length_cons, List.length_nil, List.length_map, List.length_set, List.length_take, List.length_drop, List.length_reverse, List.length_range, Nat.zero_add, Nat.add_zero, Int.toNat_natCast, EK.sz] at *; omega))) ?_ | refine Ob.mk ?_ ?_ | refine Both.mk ?_ ?_ | refine draw_of Try.mixed Try.tyOk 60 (by kernel_rfl) ?_))
  (conv => whnf)
  refine callF (one_c) [] Try.call55 rfl (by simp [eqLs, eqL, eqO, eqC, eqCs, rn, renOf, look_cons, look, EK.cast]) (by simp [appN, ptrs, eqVL, eqV, eqA, eqC, eqCs, eqAs, eqCaps, EK.sz, rn, renOf, look_cons, look, arcV, fV]) (by simp [appN, ptrs, SV.lt, SA.lt, SC.lt, arcV, fV, lenN]) ?_
  rintro _ _ ⟨rfl, rfl⟩
  (conv => whnf)
  refine callF (walkP_c oneT [1] [2] 1 1 (by decide) one_sc1) [8, 9, 10, 11] Try.call56 rfl (by simp [eqLs, eqL, eqO, eqC, eqCs, rn, renOf, look_cons, look, EK.cast, oneT, oneV]) (by simp [appN, ptrs, eqVL, eqV, eqA, eqC, eqCs, eqAs, eqCaps, EK.sz, rn, renOf, look_cons, look, arcV, fV, oneT, oneV]) (by simp [appN, ptrs, SV.lt, SA.lt, SC.lt, arcV, fV, lenN]) ?_
  rintro x s (⟨A, hA, hA2, _⟩ | ⟨E, l, sp, hW, hE, rfl, rfl⟩)
  · have h1 := (one_end hA).2
    have h2 : (endF A [-1, 1] 1 1 2).2 = -1 := hA2
    rw [h1] at h2
    cases h2
  obtain ⟨h1, rfl⟩ := one_walk hW
  rw [h1]
  clear hW hE h1
  repeat' (first | exact rfl | ((conv => whnf); first | refine condP_dec (fun h => absurd h (by omega)) (fun h => ?_) | refine condP_dec (fun h => ?_) (fun h => absurd h (by omega)) | refine condP_dec (fun h => ?_) (fun h => ?_) | refine condP_ndec (fun h => absurd h (by omega)) (fun h => ?_) | refine condP_ndec (fun h => ?_) (fun h => absurd h (by omega)) | refine condP_ndec (fun h => ?_) (fun h => ?_) | refine condP_beq (fun h => absurd h (by omega)) (fun h => ?_) | refine condP_beq (fun h => ?_) (fun h => absurd h (by omega)) | refine condP_beq (fun h => ?_) (fun h => ?_) | refine condP_bne (fun h => absurd h (by omega)) (fun h => ?_) | refine condP_bne (fun h => ?_) (fun h => absurd h (by omega)) | refine condP_bne (fun h => ?_) (fun h => ?_) | refine condP_mk (fun h => ?_) (fun h => ?_) | refine Ob.mk (by (first | omega | (simp only [InI, nmin, List.length_append, List.length_replicate, List.length_cons, List.length_nil, List.length_map, List.length_set, List.length_take, List.length_drop, List.length_reverse, List.length_range, Nat.zero_add, Nat.add_zero, Int.toNat_natCast, EK.sz]; omega) | (simp only [InI, nmin, List.length_append, List.length_replicate, List.length_cons, List.length_nil, List.length_map, List.length_set, List.length_take, List.length_drop, List.length_reverse, List.length_range, Nat.zero_add, Nat.add_zero, Int.toNat_natCast, EK.sz] at *; omega))) ?_ | refine Ob.mk ?_ ?_ | refine Both.mk ?_ ?_ | refine draw_of Try.mixed Try.tyOk 60 (by kernel_rfl) ?_))
  (conv => whnf)
  refine callF (word_c [1] 1) [13] Try.call14 rfl (by simp [eqLs, eqL, eqO, eqC, eqCs, rn, renOf, look_cons, look, EK.cast]) (by simp [appN, ptrs, eqVL, eqV, eqA, eqC, eqCs, eqAs, eqCaps, EK.sz, rn, renOf, look_cons, look, arcV, fV]) (by simp [appN, ptrs, SV.lt, SA.lt, SC.lt, arcV, fV, lenN]) ?_
  rintro _ _ ⟨rfl, rfl⟩
  rw [show wordE [1] = 0 by decide]
  repeat' (first | exact rfl | ((conv => whnf); first | refine condP_dec (fun h => absurd h (by omega)) (fun h => ?_) | refine condP_dec (fun h => ?_) (fun h => absurd h (by omega)) | refine condP_dec (fun h => ?_) (fun h => ?_) | refine condP_ndec (fun h => absurd h (by omega)) (fun h => ?_) | refine condP_ndec (fun h => ?_) (fun h => absurd h (by omega)) | refine condP_ndec (fun h => ?_) (fun h => ?_) | refine condP_beq (fun h => absurd h (by omega)) (fun h => ?_) | refine condP_beq (fun h => ?_) (fun h => absurd h (by omega)) | refine condP_beq (fun h => ?_) (fun h => ?_) | refine condP_bne (fun h => absurd h (by omega)) (fun h => ?_) | refine condP_bne (fun h => ?_) (fun h => absurd h (by omega)) | refine condP_bne (fun h => ?_) (fun h => ?_) | refine condP_mk (fun h => ?_) (fun h => ?_) | refine Ob.mk (by (first | omega | (simp only [InI, nmin, List.length_append, List.length_replicate, List.length_cons, List.length_nil, List.length_map, List.length_set, List.length_take, List.length_drop, List.length_reverse, List.length_range, Nat.zero_add, Nat.add_zero, Int.toNat_natCast, EK.sz]; omega) | (simp only [InI, nmin, List.length_append, List.length_replicate, List.length_cons, List.length_nil, List.length_map, List.length_set, List.length_take, List.length_drop, List.length_reverse, List.length_range, Nat.zero_add, Nat.add_zero, Int.toNat_natCast, EK.sz] at *; omega))) ?_ | refine Ob.mk ?_ ?_ | refine Both.mk ?_ ?_ | refine draw_of Try.mixed Try.tyOk 60 (by kernel_rfl) ?_))
  refine Back.is ?_
  simp only [eqV, eqA, eqC]
  rfl

end Go.Fw
