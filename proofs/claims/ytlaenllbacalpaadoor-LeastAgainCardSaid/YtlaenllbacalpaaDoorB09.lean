/- Walks of the functions: what each computes. -/
import Derived.Test.YtlaenllbacalpaaDoorB08

set_option linter.unusedSimpArgs false
set_option linter.unusedVariables false

namespace Go.Fw
open Go Go.Proofs
def updD (D : Trip → Option Fnd) (y : Trip) (e : Fnd) : Trip → Option Fnd := fun z => if z = y then some e else D z
theorem lkM_setM {κ ν : Type} [DecidableEq κ] (es : List (κ × ν × Nat)) (y : κ) (v : ν) (z : κ) : lkM (setM es y v) z = if z = y ∧ (lkM es y).isSome then some v else lkM es z := by
  induction es with
  | nil => simp [setM, lkM]
  | cons e es ih =>
    obtain ⟨x, w, n⟩ := e
    simp only [setM]
    by_cases h : x = y
    · subst h
      by_cases hz : z = x
      · subst hz; simp [lkM]
      · simp [lkM, hz, Ne.symm hz]
    · rw [if_neg h]
      by_cases hz : x = z
      · subst hz; simp [lkM, h]
      · simp only [lkM, hz, h, if_false, ih]
theorem lkM_append {κ ν : Type} [DecidableEq κ] (es fs : List (κ × ν × Nat)) (z : κ) : lkM (es ++ fs) z = match lkM es z with
    | some v => some v
    | none => lkM fs z := by
  induction es with
  | nil => rfl
  | cons e es ih =>
    obtain ⟨x, w, n⟩ := e
    simp only [List.cons_append, lkM]
    by_cases h : x = z
    · simp [h]
    · simp only [h, if_false, ih]
theorem lkM_insM {κ ν : Type} [DecidableEq κ] (es : List (κ × ν × Nat)) (clk : Nat) (y : κ) (v : ν) (z : κ) : lkM (insM es clk y v).1 z = if z = y then some v else lkM es z := by
  unfold insM
  by_cases h : (lkM es y).isSome = true
  · rw [if_pos h, lkM_setM]
    simp [h]
  · rw [if_neg h, lkM_append]
    simp only [lkM]
    by_cases hz : z = y
    · subst hz
      simp only [Bool.not_eq_true, Option.isSome_eq_false_iff, Option.isNone_iff_eq_none] at h
      simp [h]
    · simp only [hz, Ne.symm hz, if_false]
      cases lkM es z <;> rfl
theorem setM_keys {κ ν : Type} [DecidableEq κ] (es : List (κ × ν × Nat)) (y : κ) (v : ν) : (setM es y v).map (·.1) = es.map (·.1) ∧ (setM es y v).map (·.2.2) = es.map (·.2.2) := by
  induction es with
  | nil => exact ⟨rfl, rfl⟩
  | cons e es ih =>
    obtain ⟨x, w, n⟩ := e
    simp only [setM]
    split
    · exact ⟨rfl, rfl⟩
    · simp [ih.1, ih.2]
theorem setM_mem {κ ν : Type} [DecidableEq κ] {es : List (κ × ν × Nat)} {y : κ} {v : ν} {e : κ × ν × Nat} (h : e ∈ setM es y v) : e ∈ es ∨ (e.1 = y ∧ e.2.1 = v) := by
  induction es with
  | nil => cases h
  | cons c es ih =>
    obtain ⟨x, w, n⟩ := c
    simp only [setM] at h
    split at h
    · rename_i hx
      rcases List.mem_cons.1 h with rfl | h
      · exact .inr ⟨hx, rfl⟩
      · exact .inl (List.mem_cons_of_mem _ h)
    · rcases List.mem_cons.1 h with rfl | h
      · exact .inl (List.mem_cons_self ..)
      · rcases ih h with h | h
        · exact .inl (List.mem_cons_of_mem _ h)
        · exact .inr h
theorem setM_adrs {es : List (Trip × Option Addr × Nat)} (h : (es.map (·.2.1)).Nodup) (y : Trip) {v : Option Addr} (hv : ∀ e ∈ es, e.2.1 ≠ v) : ((setM es y v).map (·.2.1)).Nodup := by
  induction es with
  | nil => exact h
  | cons c es ih =>
    obtain ⟨x, w, n⟩ := c
    simp only [List.map_cons, List.nodup_cons] at h
    simp only [setM]
    split
    · simp only [List.map_cons, List.nodup_cons]
      refine ⟨fun hm => ?_, h.2⟩
      obtain ⟨e, he, e2⟩ := List.mem_map.1 hm
      exact hv e (List.mem_cons_of_mem _ he) e2
    · simp only [List.map_cons, List.nodup_cons]
      refine ⟨fun hm => ?_, ih h.2 (fun e he => hv e (List.mem_cons_of_mem _ he))⟩
      obtain ⟨e, he, e2⟩ := List.mem_map.1 hm
      rcases setM_mem he with he | ⟨_, he⟩
      · exact h.1 (e2 ▸ List.mem_map_of_mem he)
      · exact hv _ (List.mem_cons_self ..) (e2.symm.trans he)
section
variable {es : List (Trip × Option Addr × Nat)} {clk : Nat} {pf : List (Addr × List Fnd × Nat)}
theorem MetOk.ne (h : MetOk es clk pf) {a : Addr} (ha : lkA pf a = none) : ∀ e ∈ es, e.2.1 ≠ some a := by
  intro e he c
  obtain ⟨b, f, h1, h2⟩ := h.row e he
  rw [c] at h1
  cases h1
  rw [ha] at h2
  cases h2
theorem rowA_cons {a : Addr} {y : List Fnd × Nat} {oa : Option Addr} (h : oa ≠ some a) : rowA ((a, y) :: pf) oa = rowA pf oa := by
  cases oa with
  | none => rfl
  | some b => simp only [rowA, lkA, if_neg (fun c : a = b => h (by rw [c]))]
theorem MetOk.ins (h : MetOk es clk pf) {a : Addr} (ha : lkA pf a = none) (y : Trip) (e : Fnd) :
    MetOk (insM es clk y (some a)).1 (insM es clk y (some a)).2 ((a, [e], 0) :: pf) ∧ metOf (insM es clk y (some a)).1 ((a, [e], 0) :: pf) = updD (metOf es pf) y e := by
  have hne := h.ne ha
  have hrow : ∀ c ∈ es, ∃ b f, c.2.1 = some b ∧ lkA ((a, [e], 0) :: pf) b = some ([f], 0) := by
    intro c hc
    obtain ⟨b, f, h1, h2⟩ := h.row c hc
    refine ⟨b, f, h1, ?_⟩
    simp only [lkA]
    rw [if_neg (fun c' : a = b => hne c hc (by rw [h1, c'])), h2]
  constructor
  · unfold insM
    by_cases hs : (lkM es y).isSome = true
    · rw [if_pos hs]
      refine ⟨⟨?_, ?_⟩, ?_, ?_, ?_⟩
      · show ((setM es y (some a)).map (·.2.2)).Nodup
        rw [(setM_keys es y (some a)).2]; exact h.born.1
      · intro c hc
        have : c.2.2 ∈ (setM es y (some a)).map (·.2.2) := List.mem_map_of_mem hc
        rw [(setM_keys es y (some a)).2] at this
        obtain ⟨c', hc', e'⟩ := List.mem_map.1 this
        rw [← e']
        exact h.born.2 c' hc'
      · show ((setM es y (some a)).map (·.1)).Nodup
        rw [(setM_keys es y (some a)).1]; exact h.keys
      · exact setM_adrs h.adrs y hne
      · intro c hc
        rcases setM_mem hc with hc | ⟨_, hc⟩
        · exact hrow c hc
        · exact ⟨a, e, hc, by simp [lkA]⟩
    · rw [if_neg hs]
      have hnk : y ∉ es.map (·.1) := by
        intro hm
        obtain ⟨c, hc, e'⟩ := List.mem_map.1 hm
        have := lkM_mem h.keys hc
        rw [e'] at this
        rw [this] at hs
        exact hs rfl
      refine ⟨⟨?_, ?_⟩, ?_, ?_, ?_⟩
      · show ((es ++ [(y, some a, clk)]).map (·.2.2)).Nodup
        rw [List.map_append, List.nodup_append]
        refine ⟨h.born.1, by simp, ?_⟩
        intro n hn m hm
        obtain ⟨c, hc, rfl⟩ := List.mem_map.1 hn
        have := h.born.2 c hc
        simp only [List.map_cons, List.map_nil, List.mem_singleton] at hm
        omega
      · intro c hc
        show c.2.2 < clk + 1
        rcases List.mem_append.1 hc with hc | hc
        · have := h.born.2 c hc; omega
        · rw [List.mem_singleton.1 hc]; exact Nat.lt_succ_self _
      · show ((es ++ [(y, some a, clk)]).map (·.1)).Nodup
        rw [List.map_append, List.nodup_append]
        refine ⟨h.keys, by simp, ?_⟩
        intro n hn m hm
        simp only [List.map_cons, List.map_nil, List.mem_singleton] at hm
        subst hm
        intro c
        exact hnk (c ▸ hn)
      · show ((es ++ [(y, some a, clk)]).map (·.2.1)).Nodup
        rw [List.map_append, List.nodup_append]
        refine ⟨h.adrs, by simp, ?_⟩
        intro n hn m hm
        obtain ⟨c, hc, rfl⟩ := List.mem_map.1 hn
        simp only [List.map_cons, List.map_nil, List.mem_singleton] at hm
        subst hm
        exact hne c hc
      · intro c hc
        rcases List.mem_append.1 hc with hc | hc
        · exact hrow c hc
        · rw [List.mem_singleton.1 hc]
          exact ⟨a, e, rfl, by simp [lkA]⟩
  · funext z
    unfold metOf updD
    rw [lkM_insM]
    by_cases hz : z = y
    · rw [if_pos hz, if_pos hz]
      simp [rowA, lkA]
    · rw [if_neg hz, if_neg hz]
      show _ = (lkM es z).bind _
      cases hl : lkM es z with
      | none => rfl
      | some oa =>
        obtain ⟨n, hn⟩ := lkM_some hl
        simp only [Option.bind_some]
        rw [rowA_cons (hne _ hn)]
end
def stepD (F : TF) (u v : List Int) (x : Trip) (cost : Int) (D : Trip → Option Fnd) (n : Int) : Trip → Option Fnd :=
  let a := F.arcs.getD n.toNat EK.arc.dflt
  let i := fitE u x.b a.i
  let o := fitE v x.c a.o
  if i.2 = true ∧ o.2 = true then
    match D ⟨a.t, i.1, o.1⟩ with
    | none => updD D ⟨a.t, i.1, o.1⟩ ⟨cost + a.w, n, x.a, x.b, x.c, false⟩
    | some d => if cost + a.w < d.cost then updD D ⟨a.t, i.1, o.1⟩ ⟨cost + a.w, n, x.a, x.b, x.c, false⟩ else D
  else D
def onD (F : TF) (u v : List Int) (x : Trip) (cost : Int) (D : Trip → Option Fnd) (ns : List Int) : Trip → Option Fnd := ns.foldl (stepD F u v x cost) D
theorem onD_snoc (F : TF) (u v : List Int) (x : Trip) (cost : Int) (D : Trip → Option Fnd) (ns : List Int) (n : Int) : onD F u v x cost D (ns ++ [n]) = stepD F u v x cost (onD F u v x cost D ns) n := by
  simp [onD]
section
variable {F : TF} {u v : List Int} {x : Trip} {cost n : Int} {D : Trip → Option Fnd} {ar : Arc}
theorem stepD_no1 (har : F.arcs.getD n.toNat EK.arc.dflt = ar) (h : (!(fitE u x.b ar.i).2) = true) : stepD F u v x cost D n = D := by
  subst har
  rw [Bool.not_eq_true'] at h
  exact if_neg (fun c => by rw [h] at c; cases c.1)
theorem stepD_no2 (har : F.arcs.getD n.toNat EK.arc.dflt = ar) (h : (!(fitE v x.c ar.o).2) = true) : stepD F u v x cost D n = D := by
  subst har
  rw [Bool.not_eq_true'] at h
  exact if_neg (fun c => by rw [h] at c; cases c.2)
theorem stepD_new (har : F.arcs.getD n.toNat EK.arc.dflt = ar) (h1 : (!(fitE u x.b ar.i).2) = false) (h2 : (!(fitE v x.c ar.o).2) = false) (h3 : D ⟨ar.t, (fitE u x.b ar.i).1, (fitE v x.c ar.o).1⟩ = none) :
    stepD F u v x cost D n = updD D ⟨ar.t, (fitE u x.b ar.i).1, (fitE v x.c ar.o).1⟩ ⟨cost + ar.w, n, x.a, x.b, x.c, false⟩ := by
  subst har
  simp only [Bool.not_eq_false'] at h1 h2
  simp only [stepD, h1, h2, and_self, if_true, h3]
theorem stepD_less {d : Fnd} (har : F.arcs.getD n.toNat EK.arc.dflt = ar) (h1 : (!(fitE u x.b ar.i).2) = false) (h2 : (!(fitE v x.c ar.o).2) = false) (h3 : D ⟨ar.t, (fitE u x.b ar.i).1, (fitE v x.c ar.o).1⟩ = some d) (h4 : cost + ar.w < d.cost) :
    stepD F u v x cost D n = updD D ⟨ar.t, (fitE u x.b ar.i).1, (fitE v x.c ar.o).1⟩ ⟨cost + ar.w, n, x.a, x.b, x.c, false⟩ := by
  subst har
  simp only [Bool.not_eq_false'] at h1 h2
  simp only [stepD, h1, h2, and_self, if_true, h3, h4]
theorem stepD_keep {d : Fnd} (har : F.arcs.getD n.toNat EK.arc.dflt = ar) (h1 : (!(fitE u x.b ar.i).2) = false) (h2 : (!(fitE v x.c ar.o).2) = false) (h3 : D ⟨ar.t, (fitE u x.b ar.i).1, (fitE v x.c ar.o).1⟩ = some d) (h4 : ¬ cost + ar.w < d.cost) :
    stepD F u v x cost D n = D := by
  subst har
  simp only [Bool.not_eq_false'] at h1 h2
  simp only [stepD, h1, h2, and_self, if_true, h3, h4, if_false]
theorem MetOk.get {es : List (Trip × Option Addr × Nat)} {clk : Nat} {pf : List (Addr × List Fnd × Nat)} (hm : MetOk es clk pf) {y : Trip} (h : (!(@lkM EK.trip.ty EK.adr.ty (EK.instDeq .trip) es y).isSome) = false) :
    ∃ b d, (@lkM EK.trip.ty EK.adr.ty (EK.instDeq .trip) es y).getD EK.adr.dflt = some b ∧ rowA pf (some b) = [d] ∧ metOf es pf y = some d := by
  have h' : (lkM es y).isSome = true := by
    rw [Bool.not_eq_false'] at h
    exact h
  obtain ⟨oa, hoa⟩ := Option.isSome_iff_exists.1 h'
  obtain ⟨n, hn⟩ := lkM_some hoa
  obtain ⟨b, d, h1, h2, h3, h4, h5⟩ := hm.at hn
  exact ⟨b, d, congrArg (fun x => Option.getD x none) h3, h4, h5⟩
theorem MetOk.none {es : List (Trip × Option Addr × Nat)} {pf : List (Addr × List Fnd × Nat)} {y : Trip} (h : (!(@lkM EK.trip.ty EK.adr.ty (EK.instDeq .trip) es y).isSome) = true) : metOf es pf y = Option.none := by
  have h' : (lkM es y).isSome = false := by
    rw [Bool.not_eq_true'] at h
    exact h
  unfold metOf
  cases hl : lkM es y with
  | none => rfl
  | some b => rw [hl] at h'; cases h'
end
set_option maxHeartbeats 4000000 in
set_option maxRecDepth 20000 in
theorem on_c' (W : Wk) (hF : FOk W.F) (hu : W.u.length ≤ 40) (hv : W.v.length ≤ 40) (x : Trip) (a : Addr) (c : Fnd) (hm : MetOk W.es W.clk W.pf) (ha : lkA W.pf a = some ([c], 0)) (hc : 0 ≤ c.cost ∧ c.cost ≤ 1000000000000000000)
    (hx1 : 0 ≤ x.a ∧ x.a < W.rows.length) (hx2 : 0 ≤ x.b ∧ x.b ≤ W.u.length) (hx3 : 0 ≤ x.c ∧ x.c ≤ W.v.length)
    (row : Sli) (hrow : W.rows.getD x.a.toNat EK.sli.dflt = row) (ns : List Int) (hns : rowA W.pi row.a = ns) (hn : row.n = ns.length) (hnl : ns.length ≤ 3000) (hno : ∀ n ∈ ns, 0 ≤ n ∧ n < W.F.arcs.length) :
    Ct Tryd.prog 89 [.c (.ptr 0 0), SV.a (SA.agg [SC.i (Trip.a x), SC.i (Trip.b x), SC.i (Trip.c x)]), .c (.q (some a))] [] (hpW W) 9 (fun v s => ∃ es clk pf, v = .tup [] ∧ s = ⟨[], [(0, .box 90 (wkCells W)), (5, .arr true 22 .sli W.rows 0), (6, .pool 3 .int W.pi), (7, .map .trip .adr es clk), (8, .pool 92 .fnd pf)], 9⟩ ∧ MetOk es clk pf ∧ lkA pf a = some ([c], 0) ∧ metOf es pf = onD W.F W.u W.v x c.cost (metOf W.es W.pf) ns) := by
  have e0 : 0 + x.a.toNat = x.a.toNat := Nat.zero_add _
  have hrow2 : W.rows.getD (0 + x.a.toNat) EK.sli.dflt = row := by rw [e0]; exact hrow
  refine ctW Tryd.tyOk 16 [23, 24, 25] Tryd.func89 rfl (by simp) (by simp) (fr := [(0, .c (.ptr 0 0)), (1, SV.a (SA.agg [SC.i (Trip.a x), SC.i (Trip.b x), SC.i (Trip.c x)])), (2, .c (.q (some a)))]) rfl ?_
  repeat' (first | exact rfl | ((conv => whnf); first | (refine qX (fun h => ?_) fun h => ?_ <;> try exact absurd h (by omega)) | refine oN ?_ | refine oM ?_ ?_ | refine bM ?_ ?_ | refine dR ?_))
  (conv => whnf)
  rw [hrow2]
  refine loopI (fun y : Nat × List (Trip × Option Addr × Nat) × Nat × List (Addr × List Fnd × Nat) => ⟨[(0, .c (.ptr 0 0)), (1, SV.a (SA.agg [SC.i (Trip.a x), SC.i (Trip.b x), SC.i (Trip.c x)])), (2, .c (.q (some a))), (4, .c (.ptr 9 0)), (23, .c (.h row)), (24, .i row.n), (25, .i y.1)], (9, .box 64 [.i x.a, .i x.b, .i x.c]) :: hpL W y.2.1 y.2.2.1 y.2.2.2, 10⟩)
    (fun y => y.1 ≤ ns.length ∧ MetOk y.2.1 y.2.2.1 y.2.2.2 ∧ lkA y.2.2.2 a = some ([c], 0) ∧ metOf y.2.1 y.2.2.2 = onD W.F W.u W.v x c.cost (metOf W.es W.pf) (ns.take y.1)) (fun y => ns.length - y.1) (0, W.es, W.clk, W.pf) [] ⟨by rfl, ?_, ?_⟩ ⟨by omega, hm, ha, by simp [onD]⟩ ?_
  · simp
  · simp
  · rintro ⟨k, es, clk, pf⟩ ⟨i1, i2, i3, i4⟩
    simp only at i1 i2 i3 i4 ⊢
    have hc1 : rowA pf (some a) = [c] := by simp [rowA, i3]
    have hcl : 0 < (rowA pf (some a)).length := by rw [hc1]; exact Nat.one_pos
    have ec : (rowA pf (some a)).getD 0 EK.fnd.dflt = c := by rw [hc1]; rfl
    have ek : (k : Int).toNat = k := Int.toNat_natCast k
    (conv => whnf)
    refine condP_dec (fun hk => ?_) (fun hk => ?_)
    · have hk2 : k < ns.length := by omega
      have hrl : (k : Int).toNat < (rowA W.pi row.a).length := by rw [hns]; omega
      have ha0 := hno _ (getD_mem ns k 0 hk2)
      have en : (rowA W.pi row.a).getD (k : Int).toNat EK.int.dflt = ns.getD k 0 := by rw [hns, ek]; rfl
      generalize hnk : ns.getD k 0 = n at *
      have hn0 : 0 ≤ (rowA W.pi row.a).getD (k : Int).toNat EK.int.dflt ∧ (rowA W.pi row.a).getD (k : Int).toNat EK.int.dflt < W.F.arcs.length := by rw [en]; exact ha0
      have ear : W.F.arcs.getD (0 + n.toNat) EK.arc.dflt = W.F.arcs.getD n.toNat EK.arc.dflt := by rw [Nat.zero_add]
      have hao := hF.arc _ (getD_mem W.F.arcs n.toNat EK.arc.dflt (by omega))
      generalize har : W.F.arcs.getD n.toNat EK.arc.dflt = ar at *
      have hw0 := hao.w0
      have hw1 := hao.w1
      have hcb : 0 ≤ ((rowA pf (some a)).getD 0 EK.fnd.dflt).cost ∧ ((rowA pf (some a)).getD 0 EK.fnd.dflt).cost ≤ 1000000000000000000 := by rw [ec]; exact hc
      repeat' (first | exact rfl | ((conv => whnf); first | (refine qX (fun h => ?_) fun h => ?_ <;> try exact absurd h (by omega)) | refine oN ?_ | refine oM ?_ ?_ | refine bM ?_ ?_ | refine dR ?_))
      (conv => whnf)
      rw [en, ear]
      refine cI (fits_c W.u W.cu x.b ar.i hu hx2) [3] Tryd.call99 ?_
      repeat' (first | exact rfl | ((conv => whnf); first | (refine qX (fun h => ?_) fun h => ?_ <;> try exact absurd h (by omega)) | refine oN ?_ | refine oM ?_ ?_ | refine bM ?_ ?_ | refine dR ?_))
      (conv => whnf)
      refine cI (fits_c W.v W.cv x.c ar.o hv hx3) [4] Tryd.call99 ?_
      have htake : ns.take (k + 1) = ns.take k ++ [n] := by rw [take_succ_getD ns k 0 hk2, hnk]
      repeat' (first | exact rfl | ((conv => whnf); first | (refine qX (fun h => ?_) fun h => ?_ <;> try exact absurd h (by omega)) | refine oN ?_ | refine oM ?_ ?_ | refine bM ?_ ?_ | refine dR ?_))
      · (conv => whnf)
        refine ⟨(k + 1, es, clk, pf), [], ⟨by rfl, ?_, ?_⟩, ⟨by omega, i2, i3, ?_⟩, by simp only; omega⟩
        · simp
        · simp
        · simp only
          rw [htake, onD_snoc, ← i4]
          exact (stepD_no1 har h).symm
      · (conv => whnf)
        refine ⟨(k + 1, es, clk, pf), [], ⟨by rfl, ?_, ?_⟩, ⟨by omega, i2, i3, ?_⟩, by simp only; omega⟩
        · simp
        · simp
        · simp only
          rw [htake, onD_snoc, ← i4]
          exact (stepD_no2 har h).symm
      · (conv => whnf)
        intro a2 ha2 hb2
        have hins := i2.ins ha2 ⟨ar.t, (fitE W.u x.b ar.i).1, (fitE W.v x.c ar.o).1⟩ ⟨((rowA pf (some a)).getD 0 EK.fnd.dflt).cost + ar.w, n, x.a, x.b, x.c, false⟩
        have hne : a2 ≠ a := fun c2 => by rw [c2, i3] at ha2; cases ha2
        repeat' (first | exact rfl | ((conv => whnf); first | (refine qX (fun h => ?_) fun h => ?_ <;> try exact absurd h (by omega)) | refine oN ?_ | refine oM ?_ ?_ | refine bM ?_ ?_ | refine dR ?_))
        (conv => whnf)
        refine ⟨(k + 1, _, _, (a2, [⟨((rowA pf (some a)).getD 0 EK.fnd.dflt).cost + ar.w, n, x.a, x.b, x.c, false⟩], 0) :: pf), [], ⟨by rfl, ?_, ?_⟩, ⟨by omega, hins.1, by simp only [lkA, hne, if_false]; exact i3, ?_⟩, by simp only; omega⟩
        · simp
        · simp
          exact ⟨rfl, rfl⟩
        · simp only
          rw [hins.2, htake, onD_snoc, ← i4, ec]
          exact (stepD_new har (by assumption) (by assumption) (MetOk.none h)).symm
      · obtain ⟨b, d, g1, g2, g3⟩ := i2.get h
        rw [g1]
        rfl
      · obtain ⟨b, d, g1, g2, g3⟩ := i2.get h
        rw [g1, g2]
        exact Nat.one_pos
      · obtain ⟨b, d, g1, g2, g3⟩ := i2.get h
        rw [g1, g2]
        exact Nat.one_pos
      · rename_i hh
        obtain ⟨b, d, g1, g2, g3⟩ := i2.get hh
        have g4 : (rowA pf (some b)).getD 0 EK.fnd.dflt = d := by rw [g2]; rfl
        rw [g1, g4, ec] at h
        (conv => whnf)
        intro a2 ha2 hb2
        have hins := i2.ins ha2 ⟨ar.t, (fitE W.u x.b ar.i).1, (fitE W.v x.c ar.o).1⟩ ⟨((rowA pf (some a)).getD 0 EK.fnd.dflt).cost + ar.w, n, x.a, x.b, x.c, false⟩
        have hne : a2 ≠ a := fun c2 => by rw [c2, i3] at ha2; cases ha2
        repeat' (first | exact rfl | ((conv => whnf); first | (refine qX (fun h => ?_) fun h => ?_ <;> try exact absurd h (by omega)) | refine oN ?_ | refine oM ?_ ?_ | refine bM ?_ ?_ | refine dR ?_))
        (conv => whnf)
        refine ⟨(k + 1, _, _, (a2, [⟨((rowA pf (some a)).getD 0 EK.fnd.dflt).cost + ar.w, n, x.a, x.b, x.c, false⟩], 0) :: pf), [], ⟨by rfl, ?_, ?_⟩, ⟨by omega, hins.1, by simp only [lkA, hne, if_false]; exact i3, ?_⟩, by simp only; omega⟩
        · simp
        · simp
          exact ⟨rfl, rfl⟩
        · simp only
          rw [hins.2, htake, onD_snoc, ← i4, ec]
          exact (stepD_less har (by assumption) (by assumption) g3 h).symm
      · rename_i hh
        obtain ⟨b, d, g1, g2, g3⟩ := i2.get hh
        have g4 : (rowA pf (some b)).getD 0 EK.fnd.dflt = d := by rw [g2]; rfl
        rw [g1, g4, ec] at h
        (conv => whnf)
        refine ⟨(k + 1, es, clk, pf), [], ⟨by rfl, ?_, ?_⟩, ⟨by omega, i2, i3, ?_⟩, by simp only; omega⟩
        · simp
        · simp
        · simp only
          rw [htake, onD_snoc, ← i4]
          exact (stepD_keep har (by assumption) (by assumption) g3 h).symm
    · have hkn : k = ns.length := by omega
      subst hkn
      repeat' (first | exact rfl | ((conv => whnf); first | (refine qX (fun h => ?_) fun h => ?_ <;> try exact absurd h (by omega)) | refine oN ?_ | refine oM ?_ ?_ | refine bM ?_ ?_ | refine dR ?_))
      (conv => whnf)
      rw [List.take_length] at i4
      refine ⟨[], [(0, .box 90 (wkCells W)), (5, .arr true 22 .sli W.rows 0), (6, .pool 3 .int W.pi), (7, .map .trip .adr es clk), (8, .pool 92 .fnd pf)], 9, .tup [], ⟨by rfl, trivial, by simp [wkCells]⟩, by simp, es, clk, pf, rfl, rfl, i2, i3, i4⟩
end Go.Fw

/-
  The way of least cost from spot to spot.
-/
namespace Go.Fw
open Go
def Edge (F : TF) (u v : List Int) (x : Trip) (n : Nat) (y : Trip) (w : Int) : Prop :=
  ∃ a, F.arcs[n]? = some a ∧ a.f = x.a ∧ (fitE u x.b a.i).2 = true ∧ (fitE v x.c a.o).2 = true ∧ y = ⟨a.t, (fitE u x.b a.i).1, (fitE v x.c a.o).1⟩ ∧ w = a.w
def st0 (F : TF) : Trip := ⟨F.start, 0, 0⟩
def InBox (F : TF) (u v : List Int) (x : Trip) : Prop := (0 ≤ x.a ∧ x.a < F.st) ∧ (0 ≤ x.b ∧ x.b ≤ u.length) ∧ (0 ≤ x.c ∧ x.c ≤ v.length)
theorem fitE_box {l : List Int} {p x : Int} (hp : 0 ≤ p ∧ p ≤ l.length) (h : (fitE l p x).2 = true) : 0 ≤ (fitE l p x).1 ∧ (fitE l p x).1 ≤ l.length := by
  unfold fitE at h ⊢
  split at h
  · rename_i e; rw [if_pos e]; exact hp
  · rename_i e
    rw [if_neg e]
    simp only [decide_eq_true_eq] at h
    constructor
    · show 0 ≤ p + 1
      omega
    · show p + 1 ≤ _
      omega
section
variable {F : TF} {u v : List Int}
theorem Edge.box (hF : FOk F) {x y : Trip} {n : Nat} {w : Int} (h : Edge F u v x n y w) (hx : InBox F u v x) : InBox F u v y := by
  obtain ⟨a, h1, h2, h3, h4, rfl, rfl⟩ := h
  have ha := hF.arc a (List.mem_of_getElem? h1)
  exact ⟨⟨ha.t0, ha.t1⟩, fitE_box hx.2.1 h3, fitE_box hx.2.2 h4⟩
theorem Edge.wt (hF : FOk F) {x y : Trip} {n : Nat} {w : Int} (h : Edge F u v x n y w) : 0 ≤ w ∧ w ≤ 1000000000 := by
  obtain ⟨a, h1, h2, h3, h4, rfl, rfl⟩ := h
  have ha := hF.arc a (List.mem_of_getElem? h1)
  exact ⟨ha.w0, ha.w1⟩
theorem Edge.fn {x y y' : Trip} {n : Nat} {w w' : Int} (h : Edge F u v x n y w) (h' : Edge F u v x n y' w') : y = y' ∧ w = w' := by
  obtain ⟨a, h1, h2, h3, h4, rfl, rfl⟩ := h
  obtain ⟨a', h1', h2', h3', h4', rfl, rfl⟩ := h'
  rw [h1] at h1'
  cases h1'
  exact ⟨rfl, rfl⟩
theorem stepD_cases {x : Trip} {cost : Int} {D : Trip → Option Fnd} {k : Nat} {a : Arc} (hk : F.arcs[k]? = some a) (hf : a.f = x.a) :
    (stepD F u v x cost D k = D ∧ ∀ y w, Edge F u v x k y w → ∃ d, D y = some d ∧ d.cost ≤ cost + w) ∨
    ∃ y w, Edge F u v x k y w ∧ stepD F u v x cost D k = updD D y ⟨cost + w, k, x.a, x.b, x.c, false⟩ ∧ ∀ d, D y = some d → cost + w < d.cost := by
  have har : F.arcs.getD (k : Int).toNat EK.arc.dflt = a := by rw [Int.toNat_natCast]; simp [List.getD, hk]
  cases h1 : (fitE u x.b a.i).2 with
  | false =>
    refine .inl ⟨stepD_no1 har (by rw [h1]; rfl), ?_⟩
    rintro y w ⟨b, g1, g2, g3, g4, _⟩
    rw [hk] at g1
    cases g1
    rw [h1] at g3
    cases g3
  | true =>
    cases h2 : (fitE v x.c a.o).2 with
    | false =>
      refine .inl ⟨stepD_no2 har (by rw [h2]; rfl), ?_⟩
      rintro y w ⟨b, g1, g2, g3, g4, _⟩
      rw [hk] at g1
      cases g1
      rw [h2] at g4
      cases g4
    | true =>
      have he : Edge F u v x k ⟨a.t, (fitE u x.b a.i).1, (fitE v x.c a.o).1⟩ a.w := ⟨a, hk, hf, h1, h2, rfl, rfl⟩
      cases h3 : D ⟨a.t, (fitE u x.b a.i).1, (fitE v x.c a.o).1⟩ with
      | none => exact .inr ⟨_, _, he, stepD_new har (by rw [h1]; rfl) (by rw [h2]; rfl) h3, fun d hd => by rw [h3] at hd; cases hd⟩
      | some d =>
        by_cases h4 : cost + a.w < d.cost
        · exact .inr ⟨_, _, he, stepD_less har (by rw [h1]; rfl) (by rw [h2]; rfl) h3 h4, fun d' hd => by rw [h3] at hd; cases hd; exact h4⟩
        · refine .inl ⟨stepD_keep har (by rw [h1]; rfl) (by rw [h2]; rfl) h3 h4, ?_⟩
          intro y w h
          obtain ⟨rfl, rfl⟩ := he.fn h
          exact ⟨d, h3, by omega⟩
structure Dj (F : TF) (u v : List Int) (D : Trip → Option Fnd) (ord : List Trip) (rk : Trip → Nat) (B : Int) (Q : Trip → Nat → Prop) : Prop where
  start : ∃ c, D (st0 F) = some c ∧ c.cost = 0
  rng : ∀ y d, D y = some d → InBox F u v y
  dn : ∀ y d, D y = some d → (d.dn = true ↔ y ∈ ord)
  mem : ∀ y ∈ ord, ∃ d, D y = some d
  cost : ∀ y d, D y = some d → 0 ≤ d.cost ∧ d.cost ≤ B
  closed : ∀ z ∈ ord, ∀ c, D z = some c → ∀ n y w, Q z n → Edge F u v z n y w → ∃ d, D y = some d ∧ d.cost ≤ c.cost + w
  mono : ∀ z ∈ ord, ∀ c, D z = some c → ∀ y d, D y = some d → y ∉ ord → c.cost ≤ d.cost
  rkl : ∀ y ∈ ord, rk y < ord.length
  by' : ∀ y d, D y = some d → (y = st0 F ∧ d.cost = 0 ∧ d.arc = -1) ∨ ∃ (n : Nat) (x : Trip) (c : Fnd) (w : Int), d.arc = (n : Int) ∧ d.s = x.a ∧ d.i = x.b ∧ d.o = x.c ∧ x ∈ ord ∧ D x = some c ∧ Edge F u v x n y w ∧ d.cost = c.cost + w ∧ (y ∈ ord → rk x < rk y)
def mark (D : Trip → Option Fnd) (x : Trip) (c : Fnd) : Trip → Option Fnd := updD D x { c with dn := true }
theorem updD_same {D : Trip → Option Fnd} {y : Trip} {e : Fnd} : updD D y e y = some e := by simp [updD]
theorem updD_ne {D : Trip → Option Fnd} {y z : Trip} {e : Fnd} (h : z ≠ y) : updD D y e z = D z := by simp [updD, h]
theorem mark_some {D : Trip → Option Fnd} {x : Trip} {c : Fnd} (hx : D x = some c) {y : Trip} {d : Fnd} (h : mark D x c y = some d) : ∃ d', D y = some d' ∧ d.cost = d'.cost ∧ d.arc = d'.arc ∧ d.s = d'.s ∧ d.i = d'.i ∧ d.o = d'.o ∧ (y = x → d.dn = true) ∧ (y ≠ x → d = d') := by
  by_cases e : y = x
  · subst e
    unfold mark at h
    rw [updD_same] at h
    cases h
    exact ⟨c, hx, rfl, rfl, rfl, rfl, rfl, fun _ => rfl, fun h => absurd rfl h⟩
  · unfold mark at h
    rw [updD_ne e] at h
    exact ⟨d, h, rfl, rfl, rfl, rfl, rfl, fun h => absurd h e, fun _ => rfl⟩
theorem mark_of {D : Trip → Option Fnd} {x : Trip} {c : Fnd} (hx : D x = some c) {y : Trip} {d : Fnd} (h : D y = some d) : ∃ d', mark D x c y = some d' ∧ d'.cost = d.cost := by
  by_cases e : y = x
  · subst e
    rw [hx] at h
    cases h
    exact ⟨_, updD_same, rfl⟩
  · exact ⟨d, by unfold mark; rw [updD_ne e]; exact h, rfl⟩
theorem Dj.mark {D : Trip → Option Fnd} {ord : List Trip} {rk : Trip → Nat} {B : Int} (h : Dj F u v D ord rk B (fun _ _ => True)) {x : Trip} {c : Fnd} (hx : D x = some c) (hd : c.dn = false) (hmin : ∀ y d, D y = some d → d.dn = false → c.cost ≤ d.cost) :
    Dj F u v (mark D x c) (ord ++ [x]) (fun z => if z = x then ord.length else rk z) B (fun z _ => z ≠ x) ∧ (∀ z ∈ ord ++ [x], ∀ d, mark D x c z = some d → d.cost ≤ c.cost) := by
  have hxn : x ∉ ord := fun hm => by have := (h.dn x c hx).2 hm; rw [hd] at this; cases this
  have hno : ∀ y d, D y = some d → y ∉ ord → d.dn = false := by
    intro y d hy hn
    cases hdn : d.dn with
    | false => rfl
    | true => exact absurd ((h.dn y d hy).1 hdn) hn
  constructor
  · constructor
    · obtain ⟨c0, h1, h2⟩ := h.start
      obtain ⟨d, h3, h4⟩ := mark_of hx h1
      exact ⟨d, h3, by rw [h4, h2]⟩
    · intro y d hy
      obtain ⟨d', h1, _⟩ := mark_some hx hy
      exact h.rng y d' h1
    · intro y d hy
      obtain ⟨d', h1, h2, _, _, _, _, h3, h4⟩ := mark_some hx hy
      by_cases e : y = x
      · simp [h3 e, e]
      · have := h4 e
        subst this
        rw [h.dn y d h1]
        simp [e]
    · intro y hy
      rcases List.mem_append.1 hy with hy | hy
      · obtain ⟨d, hd⟩ := h.mem y hy
        obtain ⟨d', hd', _⟩ := mark_of hx hd
        exact ⟨d', hd'⟩
      · rw [List.mem_singleton.1 hy]
        exact ⟨_, updD_same⟩
    · intro y d hy
      obtain ⟨d', h1, h2, _⟩ := mark_some hx hy
      rw [h2]
      exact h.cost y d' h1
    · intro z hz cz hcz n y w hq he
      rcases List.mem_append.1 hz with hz | hz
      · obtain ⟨d', h1, h2, _⟩ := mark_some hx hcz
        obtain ⟨d, h3, h4⟩ := h.closed z hz d' h1 n y w trivial he
        obtain ⟨d2, h5, h6⟩ := mark_of hx h3
        exact ⟨d2, h5, by omega⟩
      · exact absurd (List.mem_singleton.1 hz) hq
    · intro z hz cz hcz y d hy hyn
      simp only [List.mem_append, List.mem_singleton, not_or] at hyn
      obtain ⟨d', h1, h2, _⟩ := mark_some hx hcz
      obtain ⟨e', g1, g2, _⟩ := mark_some hx hy
      rw [h2, g2]
      rcases List.mem_append.1 hz with hz | hz
      · exact h.mono z hz d' h1 y e' g1 hyn.1
      · rw [List.mem_singleton.1 hz, hx] at h1
        cases h1
        exact hmin y e' g1 (hno y e' g1 hyn.1)
    · intro y hy
      simp only [List.length_append, List.length_cons, List.length_nil]
      split
      · omega
      · rename_i hne
        rcases List.mem_append.1 hy with hy | hy
        · have := h.rkl y hy; omega
        · exact absurd (List.mem_singleton.1 hy) hne
    · intro y d hy
      obtain ⟨d', h1, h2, h2a, h2b, h2c, h2d, _⟩ := mark_some hx hy
      rcases h.by' y d' h1 with ⟨g1, g2, g3⟩ | ⟨n, z, cz, w, g1, g2, g3, g4, g5, g6, g7, g8, g9⟩
      · exact .inl ⟨g1, by rw [h2, g2], by rw [h2a, g3]⟩
      · obtain ⟨cz', k1, k2⟩ := mark_of hx g6
        have hzx : z ≠ x := fun e => hxn (e ▸ g5)
        refine .inr ⟨n, z, cz', w, by rw [h2a, g1], by rw [h2b, g2], by rw [h2c, g3], by rw [h2d, g4], List.mem_append_left _ g5, k1, g7, by rw [h2, g8, k2], fun hy2 => ?_⟩
        rw [if_neg hzx]
        by_cases e : y = x
        · rw [if_pos e]; exact h.rkl z g5
        · rw [if_neg e]
          rcases List.mem_append.1 hy2 with hy2 | hy2
          · exact g9 hy2
          · exact absurd (List.mem_singleton.1 hy2) e
  · intro z hz d hzd
    obtain ⟨d', h1, h2, _⟩ := mark_some hx hzd
    rw [h2]
    rcases List.mem_append.1 hz with hz | hz
    · exact h.mono z hz d' h1 x c hx hxn
    · rw [List.mem_singleton.1 hz, hx] at h1
      cases h1
      exact Int.le_refl _
theorem Dj.step (hF : FOk F) {D : Trip → Option Fnd} {ord : List Trip} {rk : Trip → Nat} {B : Int} {Q : Trip → Nat → Prop} (h : Dj F u v D ord rk B Q) {x : Trip} {c : Fnd} (hx : D x = some c) (hxo : x ∈ ord) (hmax : ∀ z ∈ ord, ∀ d, D z = some d → d.cost ≤ c.cost)
    (hB : c.cost + 1000000000 ≤ B) {k : Nat} {a : Arc} (hk : F.arcs[k]? = some a) (hf : a.f = x.a) :
    Dj F u v (stepD F u v x c.cost D k) ord rk B (fun z n => Q z n ∨ (z = x ∧ n = k)) ∧ stepD F u v x c.cost D k x = some c ∧ (∀ z ∈ ord, ∀ d, stepD F u v x c.cost D k z = some d → d.cost ≤ c.cost) := by
  rcases stepD_cases (u := u) (v := v) (cost := c.cost) (D := D) hk hf with ⟨e, hcl⟩ | ⟨y, w, he, e, hless⟩
  · rw [e]
    refine ⟨⟨h.start, h.rng, h.dn, h.mem, h.cost, ?_, h.mono, h.rkl, h.by'⟩, hx, hmax⟩
    rintro z hz cz hcz n y w (hq | ⟨rfl, rfl⟩) hed
    · exact h.closed z hz cz hcz n y w hq hed
    · rw [hx] at hcz
      cases hcz
      exact hcl y w hed
  · rw [e]
    have hw := he.wt hF
    have hyo : y ∉ ord := by
      intro hy
      obtain ⟨d, hd⟩ := h.mem y hy
      have h1 := hless d hd
      have h2 := hmax y hy d hd
      omega
    have hyx : x ≠ y := fun e => hyo (e ▸ hxo)
    have hord : ∀ z ∈ ord, updD D y ⟨c.cost + w, k, x.a, x.b, x.c, false⟩ z = D z := fun z hz => updD_ne (fun e => hyo (e ▸ hz))
    have hc0 := h.cost x c hx
    refine ⟨⟨?_, ?_, ?_, ?_, ?_, ?_, ?_, h.rkl, ?_⟩, by rw [hord x hxo]; exact hx, fun z hz d hd => hmax z hz d (by rw [← hord z hz]; exact hd)⟩
    · obtain ⟨c0, h1, h2⟩ := h.start
      have : st0 F ≠ y := fun e => by
        have := hless c0 (by rw [← e]; exact h1)
        omega
      exact ⟨c0, by rw [updD_ne this]; exact h1, h2⟩
    · intro z d hz
      by_cases ez : z = y
      · subst ez; exact he.box hF (h.rng x c hx)
      · rw [updD_ne ez] at hz; exact h.rng z d hz
    · intro z d hz
      by_cases ez : z = y
      · subst ez
        rw [updD_same] at hz
        cases hz
        simp [hyo]
      · rw [updD_ne ez] at hz; exact h.dn z d hz
    · intro z hz
      rw [hord z hz]; exact h.mem z hz
    · intro z d hz
      by_cases ez : z = y
      · subst ez
        rw [updD_same] at hz
        cases hz
        simp only
        omega
      · rw [updD_ne ez] at hz; exact h.cost z d hz
    · intro z hz cz hcz n y2 w2 hq hed
      rw [hord z hz] at hcz
      by_cases ey : y2 = y
      · subst ey
        refine ⟨_, updD_same, ?_⟩
        show c.cost + w ≤ cz.cost + w2
        rcases hq with hq | ⟨rfl, rfl⟩
        · obtain ⟨d, h1, h2⟩ := h.closed z hz cz hcz n y2 w2 hq hed
          have := hless d h1
          omega
        · rw [hx] at hcz
          cases hcz
          have := (he.fn hed).2
          omega
      · rw [updD_ne ey]
        rcases hq with hq | ⟨rfl, rfl⟩
        · exact h.closed z hz cz hcz n y2 w2 hq hed
        · exact absurd (he.fn hed).1.symm ey
    · intro z hz cz hcz y2 d hy2 hn
      rw [hord z hz] at hcz
      by_cases ey : y2 = y
      · subst ey
        rw [updD_same] at hy2
        cases hy2
        have := hmax z hz cz hcz
        show cz.cost ≤ c.cost + w
        omega
      · rw [updD_ne ey] at hy2
        exact h.mono z hz cz hcz y2 d hy2 hn
    · intro y2 d hy2
      by_cases ey : y2 = y
      · subst ey
        rw [updD_same] at hy2
        cases hy2
        exact .inr ⟨k, x, c, w, rfl, rfl, rfl, rfl, hxo, by rw [hord x hxo]; exact hx, he, rfl, fun hm => absurd hm hyo⟩
      · rw [updD_ne ey] at hy2
        rcases h.by' y2 d hy2 with g | ⟨n, z, cz, w', g1, g2, g3, g4, g5, g6, g7⟩
        · exact .inl g
        · exact .inr ⟨n, z, cz, w', g1, g2, g3, g4, g5, by rw [hord z g5]; exact g6, g7⟩
end
end Go.Fw

/-
  The way of least cost: rounds, the end.
-/
namespace Go.Fw
open Go
def numsK (F : TF) (k : Nat) (s : Int) : List Int := ((List.range k).filter fun j => decide ((F.arcs.getD j EK.arc.dflt).f = s)).map Int.ofNat
def numsOf (F : TF) (s : Int) : List Int := numsK F F.arcs.length s
theorem numsK_succ (F : TF) (k : Nat) (s : Int) : numsK F (k + 1) s = numsK F k s ++ if (F.arcs.getD k EK.arc.dflt).f = s then [(k : Int)] else [] := by
  unfold numsK
  rw [List.range_succ, List.filter_append, List.map_append]
  congr 1
  by_cases h : (F.arcs.getD k EK.arc.dflt).f = s
  · rw [if_pos h, List.filter_cons_of_pos (by simpa using h)]
    rfl
  · rw [if_neg h, List.filter_cons_of_neg (by simpa using h)]
    rfl
theorem numsK_mem {F : TF} {k : Nat} {s n : Int} : n ∈ numsK F k s ↔ ∃ j : Nat, n = j ∧ j < k ∧ (F.arcs.getD j EK.arc.dflt).f = s := by
  unfold numsK
  simp only [List.mem_map, List.mem_filter, List.mem_range, decide_eq_true_eq]
  constructor
  · rintro ⟨j, ⟨h1, h2⟩, rfl⟩; exact ⟨j, rfl, h1, h2⟩
  · rintro ⟨j, rfl, h1, h2⟩; exact ⟨j, ⟨h1, h2⟩, rfl⟩
theorem numsK_len (F : TF) (k : Nat) (s : Int) : (numsK F k s).length ≤ k := by
  unfold numsK
  rw [List.length_map]
  exact Nat.le_trans (List.length_filter_le _ _) (by rw [List.length_range]; exact Nat.le_refl _)
section
variable {F : TF} {u v : List Int}
theorem Dj.weak {D : Trip → Option Fnd} {ord : List Trip} {rk : Trip → Nat} {B B' : Int} {Q Q' : Trip → Nat → Prop} (h : Dj F u v D ord rk B Q) (hB : B ≤ B') (hQ : ∀ z ∈ ord, ∀ n y w, Edge F u v z n y w → Q' z n → Q z n) : Dj F u v D ord rk B' Q' :=
  ⟨h.start, h.rng, h.dn, h.mem, fun y d hy => ⟨(h.cost y d hy).1, Int.le_trans (h.cost y d hy).2 hB⟩, fun z hz c hc n y w hq he => h.closed z hz c hc n y w (hQ z hz n y w he hq) he, h.mono, h.rkl, h.by'⟩
theorem Dj.on (hF : FOk F) {x : Trip} {c : Fnd} {ord : List Trip} {rk : Trip → Nat} {B : Int} (hxo : x ∈ ord) (hB : c.cost + 1000000000 ≤ B) : ∀ (ns : List Int) (D : Trip → Option Fnd) (Q : Trip → Nat → Prop), Dj F u v D ord rk B Q → D x = some c → (∀ z ∈ ord, ∀ d, D z = some d → d.cost ≤ c.cost) →
    (∀ n ∈ ns, ∃ j : Nat, n = j ∧ j < F.arcs.length ∧ (F.arcs.getD j EK.arc.dflt).f = x.a) →
    Dj F u v (onD F u v x c.cost D ns) ord rk B (fun z n => Q z n ∨ (z = x ∧ (n : Int) ∈ ns)) ∧ onD F u v x c.cost D ns x = some c
  | [], D, Q, h, hx, hmax, _ => ⟨h.weak (Int.le_refl _) (fun z _ n y w _ hq => by rcases hq with hq | ⟨_, hq⟩; exact hq; cases hq), hx⟩
  | n :: ns, D, Q, h, hx, hmax, hn => by
    obtain ⟨j, rfl, h1, h2⟩ := hn n (List.mem_cons_self ..)
    have hk : F.arcs[j]? = some (F.arcs.getD j EK.arc.dflt) := by simp [List.getD, h1]
    obtain ⟨g1, g2, g3⟩ := h.step hF hx hxo hmax hB hk h2
    obtain ⟨g4, g5⟩ := Dj.on hF hxo hB ns _ _ g1 g2 g3 (fun n hn' => hn n (List.mem_cons_of_mem _ hn'))
    refine ⟨g4.weak (Int.le_refl _) (fun z _ n y w _ hq => ?_), g5⟩
    rcases hq with hq | ⟨hz, hq⟩
    · exact .inl (.inl hq)
    · rcases List.mem_cons.1 hq with hq | hq
      · exact .inl (.inr ⟨hz, by omega⟩)
      · exact .inr ⟨hz, hq⟩
theorem Dj.round (hF : FOk F) {D : Trip → Option Fnd} {ord : List Trip} {rk : Trip → Nat} {B B' : Int} (h : Dj F u v D ord rk B (fun _ _ => True)) {x : Trip} {c : Fnd} (hx : D x = some c) (hd : c.dn = false) (hmin : ∀ y d, D y = some d → d.dn = false → c.cost ≤ d.cost)
    (hB1 : B ≤ B') (hB : c.cost + 1000000000 ≤ B') : ∃ rk', Dj F u v (onD F u v x c.cost (Fw.mark D x c) (numsOf F x.a)) (ord ++ [x]) rk' B' (fun _ _ => True) := by
  obtain ⟨h1, h2⟩ := h.mark hx hd hmin
  have h1' := h1.weak (Q' := fun z _ => z ≠ x) hB1 (fun _ _ _ _ _ _ h => h)
  have := Dj.on hF (c := { c with dn := true }) (List.mem_append_right ord (List.mem_singleton.2 rfl)) hB (numsOf F x.a) _ _ h1' updD_same h2 (fun n hn => numsK_mem.1 hn)
  refine ⟨_, this.1.weak (Int.le_refl _) (fun z hz n y w he _ => ?_)⟩
  by_cases e : z = x
  · subst e
    refine .inr ⟨rfl, ?_⟩
    obtain ⟨a, g1, g2, _⟩ := he
    have := (List.getElem?_eq_some_iff.1 g1).1
    exact numsK_mem.2 ⟨n, rfl, this, by simp [List.getD, g1, g2]⟩
  · exact .inl e
def D0 (F : TF) : Trip → Option Fnd := updD (fun _ => none) (st0 F) ⟨0, -1, 0, 0, 0, false⟩
theorem Dj.zero (hF : FOk F) : Dj F u v (D0 F) [] (fun _ => 0) 0 (fun _ _ => True) := by
  have hs := hF.start
  have key : ∀ y d, D0 F y = some d → y = st0 F ∧ d = ⟨0, -1, 0, 0, 0, false⟩ := by
    intro y d h
    unfold D0 updD at h
    split at h
    · rename_i e; cases h; exact ⟨e, rfl⟩
    · cases h
  refine ⟨⟨_, updD_same, rfl⟩, ?_, ?_, ?_, ?_, ?_, ?_, ?_, ?_⟩
  · intro y d h
    obtain ⟨rfl, rfl⟩ := key y d h
    refine ⟨hs, ⟨Int.le_refl _, ?_⟩, ⟨Int.le_refl _, ?_⟩⟩ <;> (simp only [st0]; omega)
  · intro y d h
    obtain ⟨rfl, rfl⟩ := key y d h
    simp
  · intro y h; cases h
  · intro y d h
    obtain ⟨rfl, rfl⟩ := key y d h
    exact ⟨Int.le_refl _, Int.le_refl _⟩
  · intro z h; cases h
  · intro z h; cases h
  · intro z h; cases h
  · intro y d h
    obtain ⟨rfl, rfl⟩ := key y d h
    exact .inl ⟨rfl, rfl, rfl⟩
inductive Reach (F : TF) (u v : List Int) (S : Trip → Int → Prop) : Int → Trip → Prop
  | here {x : Trip} {c : Int} (h : S x c) : Reach F u v S c x
  | on {x y : Trip} {c w : Int} {n : Nat} (h : Reach F u v S c x) (he : Edge F u v x n y w) : Reach F u v S (c + w) y
structure IsLeast (F : TF) (u v : List Int) (S : Trip → Int → Prop) (A : Trip → Option Int) : Prop where
  path : ∀ y c, A y = some c → Reach F u v S c y
  least : ∀ c y, Reach F u v S c y → ∃ c', A y = some c' ∧ c' ≤ c
theorem IsLeast.eq {S : Trip → Int → Prop} {A B : Trip → Option Int} (hA : IsLeast F u v S A) (hB : IsLeast F u v S B) : A = B := by
  funext y
  cases ha : A y with
  | none =>
    cases hb : B y with
    | none => rfl
    | some c =>
      obtain ⟨c', h, _⟩ := hA.least _ _ (hB.path y c hb)
      rw [ha] at h
      cases h
  | some c =>
    obtain ⟨c1, h1, h2⟩ := hB.least _ _ (hA.path y c ha)
    obtain ⟨c2, h3, h4⟩ := hA.least _ _ (hB.path y c1 h1)
    rw [ha] at h3
    cases h3
    rw [h1]
    congr 1
    omega
def fromSt (F : TF) : Trip → Int → Prop := fun x c => x = st0 F ∧ c = 0
theorem Dj.least {D : Trip → Option Fnd} {ord : List Trip} {rk : Trip → Nat} {B : Int} (h : Dj F u v D ord rk B (fun _ _ => True)) (hall : ∀ y d, D y = some d → d.dn = true) : IsLeast F u v (fromSt F) (fun y => (D y).map (·.cost)) := by
  have hm : ∀ y d, D y = some d → y ∈ ord := fun y d hy => (h.dn y d hy).1 (hall y d hy)
  constructor
  · have : ∀ (k : Nat) (y : Trip) (d : Fnd), rk y < k → D y = some d → Reach F u v (fromSt F) d.cost y := by
      intro k
      induction k with
      | zero => intro y d hk; omega
      | succ k ih =>
        intro y d hk hy
        rcases h.by' y d hy with ⟨g1, g2, _⟩ | ⟨n, z, cz, w, _, _, _, _, g5, g6, g7, g8, g9⟩
        · exact .here ⟨g1, g2⟩
        · rw [g8]
          exact .on (ih z cz (by have := g9 (hm y d hy); omega) g6) g7
    intro y c hy
    obtain ⟨d, hd, rfl⟩ := Option.map_eq_some_iff.1 hy
    exact this (rk y + 1) y d (Nat.lt_succ_self _) hd
  · intro c y hr
    induction hr with
    | here hs =>
      obtain ⟨rfl, rfl⟩ := hs
      obtain ⟨c0, h1, h2⟩ := h.start
      exact ⟨c0.cost, by simp [h1], by omega⟩
    | on hr he ih =>
      obtain ⟨c', h1, h2⟩ := ih
      obtain ⟨d, h3, rfl⟩ := Option.map_eq_some_iff.1 h1
      obtain ⟨e, h4, h5⟩ := h.closed _ (hm _ d h3) d h3 _ _ _ trivial he
      exact ⟨e.cost, by simp [h4], by omega⟩
end
end Go.Fw

namespace Go.Fw
open Go Go.Proofs
def allSpots (F : TF) (u v : List Int) : List Trip := (List.range F.st.toNat).flatMap fun (s : Nat) => (List.range (u.length + 1)).flatMap fun (i : Nat) => (List.range (v.length + 1)).map fun (o : Nat) => (⟨(s : Int), (i : Int), (o : Int)⟩ : Trip)
theorem length_flatMap_const {α β : Type} {f : α → List β} {n : Nat} : ∀ {l : List α}, (∀ x ∈ l, (f x).length = n) → (l.flatMap f).length = l.length * n
  | [], _ => by simp
  | x :: l, h => by
    rw [List.flatMap_cons, List.length_append, h x (List.mem_cons_self ..), length_flatMap_const (fun y hy => h y (List.mem_cons_of_mem _ hy)), List.length_cons, Nat.add_mul]
    omega
theorem allSpots_len (F : TF) (u v : List Int) : (allSpots F u v).length = F.st.toNat * ((u.length + 1) * (v.length + 1)) := by
  unfold allSpots
  rw [length_flatMap_const (n := (u.length + 1) * (v.length + 1)), List.length_range]
  intro s _
  rw [length_flatMap_const (n := v.length + 1), List.length_range]
  intro i _
  simp
theorem allSpots_le {F : TF} {u v : List Int} (hF : FOk F) (hu : u.length ≤ 40) (hv : v.length ≤ 40) : (allSpots F u v).length ≤ 336200 := by
  rw [allSpots_len]
  have h1 : F.st.toNat ≤ 200 := by have := hF.st; omega
  have h2 : (u.length + 1) * (v.length + 1) ≤ 41 * 41 := Nat.mul_le_mul (by omega) (by omega)
  exact Nat.le_trans (Nat.mul_le_mul h1 h2) (by decide)
theorem allSpots_mem {F : TF} {u v : List Int} {x : Trip} (h : InBox F u v x) : x ∈ allSpots F u v := by
  obtain ⟨⟨h1, h2⟩, ⟨h3, h4⟩, ⟨h5, h6⟩⟩ := h
  unfold allSpots
  simp only [List.mem_flatMap, List.mem_map, List.mem_range]
  refine ⟨x.a.toNat, by omega, x.b.toNat, by omega, x.c.toNat, by omega, ?_⟩
  obtain ⟨a, b, c⟩ := x
  simp only at *
  congr 1 <;> omega
def und (F : TF) (u v : List Int) (ord : List Trip) : Nat := ((allSpots F u v).filter fun x => decide (x ∉ ord)).length
theorem und_lt {F : TF} {u v : List Int} {ord : List Trip} {x : Trip} (hx : x ∈ allSpots F u v) (hn : x ∉ ord) : und F u v (ord ++ [x]) < und F u v ord := by
  unfold und
  have h : ((allSpots F u v).filter fun y => decide (y ∉ ord ++ [x])) = ((allSpots F u v).filter fun y => decide (y ∉ ord)).filter fun y => decide (y ≠ x) := by
    rw [List.filter_filter]
    congr 1
    funext c
    by_cases h1 : c ∈ ord <;> by_cases h2 : c = x <;> simp [h1, h2]
  rw [h]
  refine Nat.lt_of_le_of_ne (List.length_filter_le _ _) (fun c => ?_)
  have := (List.length_filter_eq_length_iff.1 c) x (List.mem_filter.2 ⟨hx, by simpa using hn⟩)
  simp at this
theorem und_le (F : TF) (u v : List Int) (ord : List Trip) : und F u v ord ≤ (allSpots F u v).length := List.length_filter_le _ _
structure RowsOk (F : TF) (rows : List Sli) (pi : List (Addr × List Int × Nat)) : Prop where
  len : rows.length = F.st.toNat
  row : ∀ s : Nat, s < F.st.toNat → (rows.getD s EK.sli.dflt).n = (numsOf F s).length ∧ rowA pi (rows.getD s EK.sli.dflt).a = numsOf F s
section
variable {es : List (Trip × Option Addr × Nat)} {clk : Nat} {pf : List (Addr × List Fnd × Nat)}
theorem lkA_put {a : Addr} {f e : Fnd} (h : lkA pf a = some ([f], 0)) (b : Addr) : lkA (putA pf (some a) 0 e) b = if b = a then some ([e], 0) else lkA pf b := by
  simp only [putA, h, List.set_cons_zero]
  rw [lkA_setA]
  by_cases hb : b = a
  · subst hb; simp [h]
  · simp only [hb, if_false]
    cases lkA pf b <;> rfl
theorem MetOk.put (hm : MetOk es clk pf) {x : Trip} {a : Addr} {n : Nat} {f e : Fnd} (hx : (x, some a, n) ∈ es) (ha : lkA pf a = some ([f], 0)) :
    MetOk es clk (putA pf (some a) 0 e) ∧ metOf es (putA pf (some a) 0 e) = updD (metOf es pf) x e ∧ lkA (putA pf (some a) 0 e) a = some ([e], 0) := by
  refine ⟨⟨hm.born, hm.keys, hm.adrs, ?_⟩, ?_, by rw [lkA_put ha, if_pos rfl]⟩
  · intro c hc
    obtain ⟨b, g, h1, h2⟩ := hm.row c hc
    refine ⟨b, ?_⟩
    rw [lkA_put ha]
    by_cases hb : b = a
    · exact ⟨e, h1, by rw [if_pos hb]⟩
    · exact ⟨g, h1, by rw [if_neg hb]; exact h2⟩
  · funext z
    show (lkM es z).bind _ = updD (metOf es pf) x e z
    unfold updD
    by_cases hz : z = x
    · subst hz
      rw [if_pos rfl, show lkM es z = some (some a) from lkM_mem hm.keys hx]
      simp [rowA, lkA_put ha]
    · rw [if_neg hz]
      show _ = (lkM es z).bind _
      cases hl : lkM es z with
      | none => rfl
      | some oa =>
        obtain ⟨m, hm2⟩ := lkM_some hl
        have hne : oa ≠ some a := by
          intro c
          subst c
          have : (z, some a, m) = (x, some a, n) := by
            have hnd := hm.adrs
            have h1 := List.getElem_of_mem hx
            have h2 := List.getElem_of_mem hm2
            obtain ⟨i, hi, e1⟩ := h1
            obtain ⟨j, hj, e2⟩ := h2
            have : i = j := by
              refine (List.getElem_inj (h₀ := by simpa using hi) (h₁ := by simpa using hj) hnd).1 ?_
              simp [e1, e2]
            subst this
            rw [← e1, ← e2]
          exact hz (congrArg (·.1) this)
        cases oa with
        | none => rfl
        | some b =>
          have hb : b ≠ a := fun c => hne (by rw [c])
          simp only [Option.bind_some, rowA, lkA_put ha, if_neg hb]
theorem MetOk.all (hm : MetOk es clk pf) {best : Trip} (h : Nst es pf (es.map (·.2.2)) best false) : ∀ y d, metOf es pf y = some d → d.dn = true := by
  intro y d hy
  obtain ⟨a, n, h1, _⟩ := hm.of hy
  rcases h with ⟨_, h⟩ | ⟨h, _⟩
  · exact h _ h1 (List.mem_map_of_mem (f := fun e : Trip × Option Addr × Nat => e.2.2) h1) d hy
  · cases h
theorem MetOk.near (hm : MetOk es clk pf) {best : Trip} (h : Nst es pf (es.map (·.2.2)) best true) : ∃ c, metOf es pf best = some c ∧ c.dn = false ∧ ∀ y d, metOf es pf y = some d → d.dn = false → c.cost ≤ d.cost := by
  rcases h with ⟨h, _⟩ | ⟨_, c, h1, h2, h3⟩
  · cases h
  · refine ⟨c, h1, h2, fun y d hy hd => ?_⟩
    obtain ⟨a, n, g1, _⟩ := hm.of hy
    exact h3 _ g1 (List.mem_map_of_mem (f := fun e : Trip × Option Addr × Nat => e.2.2) g1) d hy hd
end
theorem MetOk.zero (F : TF) {a : Addr} : MetOk [(st0 F, some a, 0)] 1 [(a, [⟨0, -1, 0, 0, 0, false⟩], 0)] ∧ metOf [(st0 F, some a, 0)] [(a, [⟨0, -1, 0, 0, 0, false⟩], 0)] = D0 F := by
  constructor
  · exact ⟨⟨by simp, by simp⟩, by simp, by simp, by simp [lkA]⟩
  · funext z
    unfold metOf D0 updD
    by_cases h : z = st0 F
    · simp [lkM, rowA, lkA, h]
    · simp [lkM, h, Ne.symm h]
end Go.Fw

namespace Go.Fw
open Go Go.Proofs
abbrev hpR (W : Wk) (es : List (Trip × Option Addr × Nat)) (clk : Nat) (pf : List (Addr × List Fnd × Nat)) : List (Nat × SO) := [(0, .box 90 [.i W.F.st, .i W.F.start, .sl 1 1 0 W.F.fin.length W.F.capF, .sl 2 5 0 W.F.arcs.length W.F.capA, .sl 3 1 0 W.u.length W.cu, .sl 4 1 0 W.v.length W.cv, .sl 5 1 0 W.rows.length W.rows.length, .mp 8]), (1, .arr false 3 .int W.F.fin 0), (2, .arr false 50 .arc W.F.arcs 0), (3, .arr false 3 .int W.u 0), (4, .arr false 3 .int W.v 0),
  (5, .arr true 22 .sli W.rows 0), (6, .pool 3 .int W.pi), (7, .pool 92 .fnd pf), (8, .map .trip .adr es clk)]
abbrev hpS (W : Wk) : List (Nat × SO) := [(0, .box 90 [.i W.F.st, .i W.F.start, .sl 1 1 0 W.F.fin.length W.F.capF, .sl 2 5 0 W.F.arcs.length W.F.capA, .sl 3 1 0 W.u.length W.cu, .sl 4 1 0 W.v.length W.cv, .sl 5 1 0 W.rows.length W.rows.length, .v (.map none)]), (1, .arr false 3 .int W.F.fin 0), (2, .arr false 50 .arc W.F.arcs 0), (3, .arr false 3 .int W.u 0), (4, .arr false 3 .int W.v 0),
  (5, .arr true 22 .sli W.rows 0), (6, .pool 3 .int W.pi), (7, .pool 92 .fnd [])]
def RInv (W : Wk) (y : List (Trip × Option Addr × Nat) × Nat × List (Addr × List Fnd × Nat) × List Trip) : Prop :=
  MetOk y.1 y.2.1 y.2.2.1 ∧ y.2.2.2.length + und W.F W.u W.v y.2.2.2 ≤ (allSpots W.F W.u W.v).length ∧ ∃ rk, Dj W.F W.u W.v (metOf y.1 y.2.2.1) y.2.2.2 rk (1000000000 * (((allSpots W.F W.u W.v).length : Int) - und W.F W.u W.v y.2.2.2)) (fun _ _ => True)
def Ran (W : Wk) (es : List (Trip × Option Addr × Nat)) (clk : Nat) (pf : List (Addr × List Fnd × Nat)) : Prop :=
  MetOk es clk pf ∧ ∃ ord rk B, ord.length ≤ 336200 ∧ Dj W.F W.u W.v (metOf es pf) ord rk B (fun _ _ => True) ∧ B ≤ 1000000000000000 ∧ ∀ y d, metOf es pf y = some d → d.dn = true
theorem nearest_l (W : Wk) {es : List (Trip × Option Addr × Nat)} {clk : Nat} {pf : List (Addr × List Fnd × Nat)} (hm : MetOk es clk pf) : Ct Tryd.prog 88 [.c (.ptr 0 0)] [] (hpL W es clk pf) 9 (fun v s => ∃ best any, v = .tup [.agg [.i best.a, .i best.b, .i best.c], .c (.b any)] ∧ s = ⟨[], [(0, .box 90 [.i W.F.st, .i W.F.start, .sl 1 1 0 W.F.fin.length W.F.capF, .sl 2 5 0 W.F.arcs.length W.F.capA, .sl 3 1 0 W.u.length W.cu, .sl 4 1 0 W.v.length W.cv, .sl 5 1 0 W.rows.length W.rows.length, .mp 7]), (5, .arr true 22 .sli W.rows 0), (6, .pool 3 .int W.pi), (7, .map .trip .adr es clk), (8, .pool 92 .fnd pf)], 9⟩ ∧ Nst es pf (es.map (·.2.2)) best any) :=
  nearest_c { W with es := es, clk := clk, pf := pf } hm
theorem on_l (W : Wk) {es : List (Trip × Option Addr × Nat)} {clk : Nat} {pf : List (Addr × List Fnd × Nat)} (hF : FOk W.F) (hu : W.u.length ≤ 40) (hv : W.v.length ≤ 40) (hr : RowsOk W.F W.rows W.pi) (x : Trip) (a : Addr) (c : Fnd) (hm : MetOk es clk pf) (ha : lkA pf a = some ([c], 0)) (hc : 0 ≤ c.cost ∧ c.cost ≤ 1000000000000000000) (hx : InBox W.F W.u W.v x) :
    Ct Tryd.prog 89 [.c (.ptr 0 0), SV.a (SA.agg [SC.i (Trip.a x), SC.i (Trip.b x), SC.i (Trip.c x)]), .c (.q (some a))] [] (hpL W es clk pf) 9 (fun v s => ∃ es' clk' pf', v = .tup [] ∧ s = ⟨[], [(0, .box 90 [.i W.F.st, .i W.F.start, .sl 1 1 0 W.F.fin.length W.F.capF, .sl 2 5 0 W.F.arcs.length W.F.capA, .sl 3 1 0 W.u.length W.cu, .sl 4 1 0 W.v.length W.cv, .sl 5 1 0 W.rows.length W.rows.length, .mp 7]), (5, .arr true 22 .sli W.rows 0), (6, .pool 3 .int W.pi), (7, .map .trip .adr es' clk'), (8, .pool 92 .fnd pf')], 9⟩ ∧ MetOk es' clk' pf' ∧ lkA pf' a = some ([c], 0) ∧ metOf es' pf' = onD W.F W.u W.v x c.cost (metOf es pf) (numsOf W.F x.a)) := by
  obtain ⟨⟨h1, h2⟩, h3, h4⟩ := hx
  have hst := hF.st
  have hlen := hr.len
  have hal := hF.arcl
  have hrow := hr.row x.a.toNat (by omega)
  rw [Int.toNat_of_nonneg h1] at hrow
  have hnl : (numsOf W.F x.a).length ≤ W.F.arcs.length := numsK_len W.F W.F.arcs.length x.a
  exact on_c' { W with es := es, clk := clk, pf := pf } hF hu hv x a c hm ha hc (by show 0 ≤ x.a ∧ x.a < W.rows.length; omega) h3 h4 _ rfl (numsOf W.F x.a) hrow.2 hrow.1 (by omega) (fun n hn => by
    obtain ⟨j, rfl, g1, g2⟩ := numsK_mem.1 hn
    exact ⟨by omega, by show (j : Int) < (W.F.arcs.length : Int); omega⟩)
set_option maxHeartbeats 4000000 in
set_option maxRecDepth 20000 in
theorem run_c (W : Wk) (hF : FOk W.F) (hu : W.u.length ≤ 40) (hv : W.v.length ≤ 40) (hr : RowsOk W.F W.rows W.pi) :
    Ct Tryd.prog 71 [.c (.ptr 0 0)] [] (hpS W) 8 (fun v s => ∃ es clk pf, v = .tup [] ∧ s = ⟨[], [(0, .box 90 [.i W.F.st, .i W.F.start, .sl 1 1 0 W.F.fin.length W.F.capF, .sl 2 5 0 W.F.arcs.length W.F.capA, .sl 3 1 0 W.u.length W.cu, .sl 4 1 0 W.v.length W.cv, .sl 5 1 0 W.rows.length W.rows.length, .mp 8]), (5, .arr true 22 .sli W.rows 0), (6, .pool 3 .int W.pi), (7, .pool 92 .fnd pf), (8, .map .trip .adr es clk)], 9⟩ ∧ Ran W es clk pf) := by
  have hsp := allSpots_le hF hu hv
  have hst := hF.st
  have hlen := hr.len
  have hal := hF.arcl
  refine ctW Tryd.tyOk 5 [] Tryd.func71 rfl (by simp) (by simp) (fr := [(0, .c (.ptr 0 0))]) rfl ?_
  repeat' (first | exact rfl | ((conv => whnf); first | (refine qX (fun h => ?_) fun h => ?_ <;> try exact absurd h (by omega)) | refine oN ?_ | refine oM ?_ ?_ | refine bM ?_ ?_ | refine dR ?_))
  (conv => whnf)
  intro a0 ha0 hb0
  repeat' (first | exact rfl | ((conv => whnf); first | (refine qX (fun h => ?_) fun h => ?_ <;> try exact absurd h (by omega)) | refine oN ?_ | refine oM ?_ ?_ | refine bM ?_ ?_ | refine dR ?_))
  (conv => whnf)
  have hz := MetOk.zero W.F (a := a0)
  refine loopI (fun y : List (Trip × Option Addr × Nat) × Nat × List (Addr × List Fnd × Nat) × List Trip => ⟨[(0, .c (.ptr 0 0))], hpR W y.1 y.2.1 y.2.2.1, 9⟩) (RInv W) (fun y => und W.F W.u W.v y.2.2.2) ([(st0 W.F, some a0, 0)], 1, [(a0, [⟨0, -1, 0, 0, 0, false⟩], 0)], []) [] ⟨by rfl, ?_, ?_⟩ ⟨hz.1, by simp only [List.length_nil, Nat.zero_add]; exact und_le _ _ _ _, fun _ => 0, ?_⟩ ?_
  · simp
  · simp
    exact ⟨rfl, rfl⟩
  · simp only
    rw [hz.2]
    refine (Dj.zero hF).weak ?_ (fun _ _ _ _ _ _ h => h)
    have := und_le W.F W.u W.v []
    omega
  · rintro ⟨es, clk, pf, ord⟩ ⟨hm, hol, rk, hD⟩
    simp only at hm hol hD ⊢
    (conv => whnf)
    refine cF (nearest_l W hm) [0, 1, 2, 3, 4, 5, 6, 8, 7] Tryd.call88 ?_
    rintro _ _ ⟨⟨b1, b2, b3⟩, any, rfl, rfl, hN⟩
    simp only at hN ⊢
    cases any with
    | false =>
      have hall := hm.all hN
      repeat' (first | exact rfl | ((conv => whnf); first | (refine qX (fun h => ?_) fun h => ?_ <;> try exact absurd h (by omega)) | refine oN ?_ | refine oM ?_ ?_ | refine bM ?_ ?_ | refine dR ?_))
      (conv => whnf)
      exact ⟨[], [(0, .box 90 [.i W.F.st, .i W.F.start, .sl 1 1 0 W.F.fin.length W.F.capF, .sl 2 5 0 W.F.arcs.length W.F.capA, .sl 3 1 0 W.u.length W.cu, .sl 4 1 0 W.v.length W.cv, .sl 5 1 0 W.rows.length W.rows.length, .mp 8]), (5, .arr true 22 .sli W.rows 0), (6, .pool 3 .int W.pi), (7, .pool 92 .fnd pf), (8, .map .trip .adr es clk)], 9, .tup [], ⟨by rfl, trivial, by simp⟩, by simp, es, clk, pf, rfl, rfl, hm, ord, rk, _, by omega, hD, by omega, hall⟩
    | true =>
      obtain ⟨c, hc, hcd, hmin⟩ := hm.near hN
      obtain ⟨a, n, r1, r2, r3, r4⟩ := hm.of hc
      have e1 : (@lkM EK.trip.ty EK.adr.ty (EK.instDeq .trip) es (⟨b1, b2, b3⟩ : Trip)).getD EK.adr.dflt = some a := congrArg (fun x => Option.getD x none) r3
      have ec : (rowA pf (some a)).getD 0 EK.fnd.dflt = c := by rw [r4]; rfl
      obtain ⟨p1, p2, p3⟩ := hm.put (e := { c with dn := true }) r1 r2
      have hcc := hD.cost _ _ hc
      have hbox := hD.rng _ _ hc
      have hxo : (⟨b1, b2, b3⟩ : Trip) ∉ ord := fun hmm => by have := (hD.dn _ _ hc).2 hmm; rw [hcd] at this; cases this
      have hul := und_lt (allSpots_mem hbox) hxo
      have hule := und_le W.F W.u W.v ord
      repeat' (first | exact rfl | ((conv => whnf); first | (refine qX (fun h => ?_) fun h => ?_ <;> try exact absurd h (by omega)) | refine oN ?_ | refine oM ?_ ?_ | refine bM ?_ ?_ | refine dR ?_))
      · rw [e1]; rfl
      · rw [e1, r4]; exact Nat.one_pos
      · rw [e1, r4]; exact Nat.one_pos
      (conv => whnf)
      rw [e1, ec]
      have hon := on_l W hF hu hv hr ⟨b1, b2, b3⟩ a { c with dn := true } p1 p3 (by simp only; omega) hbox
      refine cF (hon) [0, 1, 2, 3, 4, 5, 6, 8, 7] Tryd.call89 ?_
      rintro _ _ ⟨es2, clk2, pf2, rfl, rfl, q1, q2, q3⟩
      (conv => whnf)
      rw [p2] at q3
      obtain ⟨rk2, hD2⟩ := hD.round hF (B' := 1000000000 * (((allSpots W.F W.u W.v).length : Int) - und W.F W.u W.v (ord ++ [⟨b1, b2, b3⟩]))) hc hcd hmin (by omega) (by omega)
      refine ⟨(es2, clk2, pf2, ord ++ [⟨b1, b2, b3⟩]), [], ⟨by rfl, ?_, ?_⟩, ⟨q1, by simp only [List.length_append, List.length_cons, List.length_nil]; omega, rk2, ?_⟩, hul⟩
      · simp
      · simp
      · rw [q3]
        exact hD2
end Go.Fw

namespace Go.Fw
open Go Go.Proofs
def endF (D : Trip → Option Int) (fin : List Int) (p q : Int) : Nat → Trip × Int
  | 0 => (⟨0, 0, 0⟩, -1)
  | k + 1 => match D ⟨k, p, q⟩ with
    | none => endF D fin p q k
    | some d => if fin.getD k 0 ≠ -1 ∧ ((endF D fin p q k).2 = -1 ∨ d + fin.getD k 0 < (endF D fin p q k).2) then (⟨k, p, q⟩, d + fin.getD k 0) else endF D fin p q k
theorem endF_none {D : Trip → Option Int} {fin : List Int} {p q : Int} {k : Nat} (h : D ⟨k, p, q⟩ = none) : endF D fin p q (k + 1) = endF D fin p q k := by simp [endF, h]
theorem endF_yes {D : Trip → Option Int} {fin : List Int} {p q : Int} {k : Nat} {d : Int} (h : D ⟨k, p, q⟩ = some d) (h1 : fin.getD k 0 ≠ -1) (h2 : (endF D fin p q k).2 = -1 ∨ d + fin.getD k 0 < (endF D fin p q k).2) : endF D fin p q (k + 1) = (⟨k, p, q⟩, d + fin.getD k 0) := by
  simp only [endF, h]
  exact if_pos ⟨h1, h2⟩
theorem endF_no {D : Trip → Option Int} {fin : List Int} {p q : Int} {k : Nat} {d : Int} (h : D ⟨k, p, q⟩ = some d) (h2 : fin.getD k 0 = -1 ∨ ((endF D fin p q k).2 ≠ -1 ∧ ¬ d + fin.getD k 0 < (endF D fin p q k).2)) : endF D fin p q (k + 1) = endF D fin p q k := by
  simp only [endF, h]
  refine if_neg (fun c => ?_)
  rcases h2 with h2 | h2
  · exact c.1 h2
  · rcases c.2 with c | c
    · exact h2.1 c
    · exact h2.2 c
abbrev costOf (es : List (Trip × Option Addr × Nat)) (pf : List (Addr × List Fnd × Nat)) : Trip → Option Int := fun y => (metOf es pf y).map (·.cost)
set_option maxHeartbeats 4000000 in
set_option maxRecDepth 20000 in
theorem end_c (W : Wk) (hF : FOk W.F) (hu : W.u.length ≤ 40) (hv : W.v.length ≤ 40) (es : List (Trip × Option Addr × Nat)) (clk : Nat) (pf : List (Addr × List Fnd × Nat)) (hm : MetOk es clk pf) (hb : ∀ y d, metOf es pf y = some d → 0 ≤ d.cost ∧ d.cost ≤ 1000000000000000) :
    Ct Tryd.prog 72 [.c (.ptr 0 0)] [] (hpL W es clk pf) 9 (fun v s => v = .tup [.agg [.i (endF (costOf es pf) W.F.fin W.u.length W.v.length W.F.fin.length).1.a, .i (endF (costOf es pf) W.F.fin W.u.length W.v.length W.F.fin.length).1.b, .i (endF (costOf es pf) W.F.fin W.u.length W.v.length W.F.fin.length).1.c], .c (.i (endF (costOf es pf) W.F.fin W.u.length W.v.length W.F.fin.length).2)] ∧
      s = ⟨[], [(0, .box 90 [.i W.F.st, .i W.F.start, .sl 1 1 0 W.F.fin.length W.F.capF, .sl 2 5 0 W.F.arcs.length W.F.capA, .sl 3 1 0 W.u.length W.cu, .sl 4 1 0 W.v.length W.cv, .sl 5 1 0 W.rows.length W.rows.length, .mp 7]), (5, .arr true 22 .sli W.rows 0), (6, .pool 3 .int W.pi), (7, .map .trip .adr es clk), (8, .pool 92 .fnd pf)], 9⟩) := by
  have hst := hF.st
  have hfl := hF.finl
  have hD : ∀ y d, costOf es pf y = some d → 0 ≤ d ∧ d ≤ 1000000000000000 := by
    intro y d h
    obtain ⟨e, h1, rfl⟩ := Option.map_eq_some_iff.1 h
    exact hb y e h1
  generalize hDD : costOf es pf = D at *
  refine ctW Tryd.tyOk 11 [16, 17, 18] Tryd.func72 rfl (by simp) (by simp) (fr := [(0, .c (.ptr 0 0))]) rfl ?_
  repeat' (first | exact rfl | ((conv => whnf); first | (refine qX (fun h => ?_) fun h => ?_ <;> try exact absurd h (by omega)) | refine oN ?_ | refine oM ?_ ?_ | refine bM ?_ ?_ | refine dR ?_))
  (conv => whnf)
  refine loopI (fun k : Nat => ⟨[(0, .c (.ptr 0 0)), (2, .c (.ptr 9 0)), (4, .c (.ptr 10 0)), (5, .i (endF D W.F.fin W.u.length W.v.length k).2), (16, .c (.sl 1 1 0 W.F.fin.length W.F.capF)), (17, .i W.F.fin.length), (18, .i k)], (9, .box 64 [.i 0, .i 0, .i 0]) :: (10, .box 64 [.i (endF D W.F.fin W.u.length W.v.length k).1.a, .i (endF D W.F.fin W.u.length W.v.length k).1.b, .i (endF D W.F.fin W.u.length W.v.length k).1.c]) :: hpL W es clk pf, 11⟩)
    (fun k => k ≤ W.F.fin.length) (fun k => W.F.fin.length - k) 0 [] ⟨by rfl, ?_, ?_⟩ (by omega) ?_
  · simp [endF]
  · simp [endF]
  · intro k hk
    have e0 : 0 + (k : Int).toNat = k := by omega
    have ef : W.F.fin.getD (0 + (k : Int).toNat) EK.int.dflt = W.F.fin.getD k 0 := by rw [e0]; rfl
    (conv => whnf)
    refine condP_dec (fun hk2 => ?_) (fun hk2 => ?_)
    · have hf := hF.fin _ (getD_mem W.F.fin k 0 (by omega))
      rw [← ef] at hf
      cases hx : (metOf es pf ⟨k, W.u.length, W.v.length⟩) with
      | none =>
        have hsn : ¬ (@lkM EK.trip.ty EK.adr.ty (EK.instDeq .trip) es (⟨k, W.u.length, W.v.length⟩ : Trip)).isSome = true := by
          intro hh
          obtain ⟨b, d, g1, g2, g3⟩ := hm.get (y := ⟨k, W.u.length, W.v.length⟩) (by rw [hh]; rfl)
          rw [hx] at g3
          cases g3
        have e := endF_none (D := D) (fin := W.F.fin) (k := k) (p := W.u.length) (q := W.v.length) (by rw [← hDD]; simp [costOf, hx])
        repeat' (first | exact rfl | ((conv => whnf); first | (refine qX (fun h => ?_) fun h => ?_ <;> try exact absurd h (by omega)) | refine oN ?_ | refine oM ?_ ?_ | refine bM ?_ ?_ | refine dR ?_))
        all_goals first | exact absurd (by assumption) hsn | skip
        all_goals (conv => whnf)
        all_goals refine ⟨k + 1, [], ⟨by rfl, ?_, ?_⟩, by omega, by omega⟩
        · simp [e]
        · simp [e]
      | some d =>
        have hs : (@lkM EK.trip.ty EK.adr.ty (EK.instDeq .trip) es (⟨k, W.u.length, W.v.length⟩ : Trip)).isSome = true := by
          cases hh : (@lkM EK.trip.ty EK.adr.ty (EK.instDeq .trip) es (⟨k, W.u.length, W.v.length⟩ : Trip)).isSome with
          | true => rfl
          | false =>
            have := MetOk.none (es := es) (pf := pf) (y := ⟨k, W.u.length, W.v.length⟩) (by rw [hh]; rfl)
            rw [hx] at this
            cases this
        obtain ⟨b, d', g1, g2, g3⟩ := hm.get (y := ⟨k, W.u.length, W.v.length⟩) (by rw [hs]; rfl)
        rw [hx] at g3
        cases g3
        have gd : (rowA pf (some b)).getD 0 EK.fnd.dflt = d := by rw [g2]; rfl
        have hdb := hb _ _ hx
        have hDk : D ⟨k, W.u.length, W.v.length⟩ = some d.cost := by rw [← hDD]; simp [costOf, hx]
        repeat' (first | exact rfl | ((conv => whnf); first | (refine qX (fun h => ?_) fun h => ?_ <;> try exact absurd h (by omega)) | refine oN ?_ | refine oM ?_ ?_ | refine bM ?_ ?_ | refine dR ?_))
        all_goals first | exact absurd hs (Bool.eq_false_iff.1 (by assumption)) | skip
        all_goals first | (rw [g1]; rfl) | (rw [g1, g2]; exact Nat.one_pos) | (rw [g1, gd]; unfold InI; omega) | skip
        · have e := endF_yes hDk (by rw [← ef]; assumption) (.inl (by assumption))
          (conv => whnf)
          refine ⟨k + 1, [], ⟨by rfl, ?_, ?_⟩, by omega, by omega⟩
          · simp [e, g1, g2]
            exact rfl
          · simp [e]
        · rename_i hh
          rw [g1, gd, ef] at h
          have e := endF_yes hDk (by rw [← ef]; assumption) (.inr h)
          (conv => whnf)
          refine ⟨k + 1, [], ⟨by rfl, ?_, ?_⟩, by omega, by omega⟩
          · simp [e, g1, g2]
            exact rfl
          · simp [e]
        · rename_i hh
          rw [g1, gd, ef] at h
          have e := endF_no hDk (.inr ⟨hh, h⟩)
          (conv => whnf)
          refine ⟨k + 1, [], ⟨by rfl, ?_, ?_⟩, by omega, by omega⟩
          · simp [e, g1, gd, ef]
          · simp [e, g1, gd, ef]
        · rw [ef] at h
          have e := endF_no hDk (.inl h)
          (conv => whnf)
          refine ⟨k + 1, [], ⟨by rfl, ?_, ?_⟩, by omega, by omega⟩
          · simp [e, g1, gd, ef]
          · simp [e, g1, gd, ef]
    · have hkn : k = W.F.fin.length := by omega
      subst hkn
      repeat' (first | exact rfl | ((conv => whnf); first | (refine qX (fun h => ?_) fun h => ?_ <;> try exact absurd h (by omega)) | refine oN ?_ | refine oM ?_ ?_ | refine bM ?_ ?_ | refine dR ?_))
      (conv => whnf)
      exact ⟨[], [(0, .box 90 [.i W.F.st, .i W.F.start, .sl 1 1 0 W.F.fin.length W.F.capF, .sl 2 5 0 W.F.arcs.length W.F.capA, .sl 3 1 0 W.u.length W.cu, .sl 4 1 0 W.v.length W.cv, .sl 5 1 0 W.rows.length W.rows.length, .mp 7]), (5, .arr true 22 .sli W.rows 0), (6, .pool 3 .int W.pi), (7, .map .trip .adr es clk), (8, .pool 92 .fnd pf)], 9, .tup [.agg [.i (endF D W.F.fin W.u.length W.v.length W.F.fin.length).1.a, .i (endF D W.F.fin W.u.length W.v.length W.F.fin.length).1.b, .i (endF D W.F.fin W.u.length W.v.length W.F.fin.length).1.c], .c (.i (endF D W.F.fin W.u.length W.v.length W.F.fin.length).2)], ⟨by rfl, trivial, by simp⟩, by simp, rfl, rfl⟩
end Go.Fw

namespace Go.Fw
open Go Go.Proofs
theorem callPool {P : Program} {f : Nat} {args : List SV} {ex : List Value} {s : S} {k : S → SV → Prop} (E : Nat) (ek : EK) (hlt : ∀ v ∈ args, SV.lt s.nx v)
    (h : s.go fun fr hp nx => CallK P f args ex ⟨fr, (nx, .pool E ek []) :: hp, nx + 1⟩ k) : CallK P f args ex s k := by
  rw [S.go_eq] at h
  unfold CallK at h ⊢
  refine ⟨h.1, fun β Z fp w hs => ?_⟩
  have hs' := hs.add (o := .pool E ek []) (x := none) (q := fun _ => False) (fun _ _ => rfl) (Nat.le_refl _) (fun _ h => h.elim) ⟨fun _ _ _ h => (by cases h), fun _ _ _ _ h => (by cases h)⟩ trivial
  have hc := h.2 _ _ _ w hs'
  have ha : args.map (SV.den (β.add s.nx none)) = args.map (SV.den β) := List.map_congr_left fun v hv => SV.den_congr (fun id hid => Env.add_lt id hid) (hlt v hv)
  rw [ha] at hc
  refine hc.mono ?_
  rintro e w' ⟨v, β', Z', fp', s', rfl, hn, hk⟩
  exact ⟨v, β', Z', fp', s', rfl, ⟨fun id hid => (hn.env id (Nat.lt_succ_of_lt hid)).trans (Env.add_lt id hid), hn.ext, hn.zz, hn.fr, Nat.le_of_succ_le hn.nx, hn.sat, hn.lt⟩, hk⟩
structure RowsK (F : TF) (rows : List Sli) (pi : List (Addr × List Int × Nat)) (k : Nat) : Prop where
  len : rows.length = F.st.toNat
  hd : ∀ s : Nat, s < F.st.toNat → Hd pi (rows.getD s EK.sli.dflt)
  row : ∀ s : Nat, s < F.st.toNat → rowA pi (rows.getD s EK.sli.dflt).a = numsK F k s
  dist : ∀ (s t : Nat) (a : Addr), s < F.st.toNat → t < F.st.toNat → s ≠ t → (rows.getD s EK.sli.dflt).a = some a → (rows.getD t EK.sli.dflt).a ≠ some a
theorem Hd.len {α : Type} {m : List (Addr × List α × Nat)} {x : Sli} (h : Hd m x) : x.n = (rowA m x.a).length := by
  unfold Hd at h
  unfold rowA
  cases hx : x.a with
  | none => rw [hx] at h; simp [h.1]
  | some a =>
    rw [hx] at h
    simp only at h ⊢
    cases hl : lkA m a with
    | none => rw [hl] at h; exact h.elim
    | some y => rw [hl] at h; simp [h.1]
theorem Hd.some {α : Type} {m : List (Addr × List α × Nat)} {x : Sli} (h : Hd m x) {a : Addr} (ha : x.a = some a) : ∃ y, lkA m a = some y ∧ x.n = y.1.length ∧ x.c ≤ y.1.length + y.2 := by
  unfold Hd at h
  rw [ha] at h
  simp only at h
  cases hl : lkA m a with
  | none => rw [hl] at h; exact h.elim
  | some y => rw [hl] at h; exact ⟨y, rfl, h⟩
theorem Hd.of_some {α : Type} {m : List (Addr × List α × Nat)} {x : Sli} {a : Addr} {y : List α × Nat} (ha : x.a = Option.some a) (hl : lkA m a = Option.some y) (h1 : x.n = y.1.length) (h2 : x.c ≤ y.1.length + y.2) : Hd m x := by
  unfold Hd
  rw [ha]
  simp only
  rw [hl]
  exact ⟨h1, h2⟩
theorem Hd.of_none {α : Type} {m : List (Addr × List α × Nat)} {x : Sli} (ha : x.a = none) (h1 : x.n = 0) (h2 : x.c = 0) : Hd m x := by
  unfold Hd
  rw [ha]
  exact ⟨h1, h2⟩
theorem getD_setJ {α : Type} (l : List α) (j : Nat) (x d : α) (s : Nat) (hj : j < l.length) : (l.set j x).getD s d = if s = j then x else l.getD s d := by
  simp only [List.getD, List.getElem?_set]
  by_cases h : j = s
  · subst h; simp [hj]
  · simp [h, Ne.symm h]
theorem rowA_some {α : Type} {m : List (Addr × List α × Nat)} {a : Addr} {y : List α × Nat} (h : lkA m a = some y) : rowA m (some a) = y.1 := by simp [rowA, h]
theorem rowA_congr {α : Type} {m m' : List (Addr × List α × Nat)} {a : Addr} (h : lkA m a = lkA m' a) : rowA m (some a) = rowA m' (some a) := by simp only [rowA, h]
theorem RowsK.step {F : TF} {rows : List Sli} {pi pi' : List (Addr × List Int × Nat)} {k j : Nat} {h' : Sli} (h : RowsK F rows pi k) (hj : j < F.st.toNat) (hf : (F.arcs.getD k EK.arc.dflt).f = j) (ha : App pi (rows.getD j EK.sli.dflt) [(k : Int)] pi' h') :
    RowsK F (rows.set j h') pi' (k + 1) := by
  have hl := h.len
  have hjr : j < rows.length := by omega
  have hne : ∀ s : Nat, s ≠ j → numsK F (k + 1) s = numsK F k s := by
    intro s hs
    rw [numsK_succ, hf, if_neg (by omega), List.append_nil]
  have hjj : numsK F (k + 1) j = numsK F k j ++ [(k : Int)] := by rw [numsK_succ, hf, if_pos rfl]
  generalize hx : rows.getD j EK.sli.dflt = x at ha
  have hdj := h.hd j hj
  have hrj := h.row j hj
  rw [hx] at hdj hrj
  cases ha with
  | stay h => cases h
  | @room a y sp h1 h2 h3 =>
    obtain ⟨y', g1, g2, g3⟩ := hdj.some h1
    rw [h2] at g1
    cases g1
    have hla : lkA (setA pi a (y.1 ++ [(k : Int)], sp)) a = some (y.1 ++ [(k : Int)], sp) := by rw [lkA_setA, h2]; simp
    have hlb : ∀ b, b ≠ a → lkA (setA pi a (y.1 ++ [(k : Int)], sp)) b = lkA pi b := by
      intro b hb
      rw [lkA_setA]
      simp only [hb, if_false]
      cases lkA pi b <;> rfl
    have hoth : ∀ s, s < F.st.toNat → s ≠ j → ∀ b, (rows.getD s EK.sli.dflt).a = some b → b ≠ a := by
      intro s hs hsj b hb e
      subst e
      exact h.dist s j b hs hj hsj hb (by rw [hx]; exact h1)
    refine ⟨by rw [List.length_set]; exact hl, ?_, ?_, ?_⟩
    · intro s hs
      rw [getD_setJ _ _ _ _ _ hjr]
      by_cases e : s = j
      · rw [if_pos e]
        refine Hd.of_some rfl hla ?_ ?_
        · simp [g2]
        · simp only [List.length_append, List.length_cons, List.length_nil]
          simp only [List.length_cons, List.length_nil] at h3
          omega
      · rw [if_neg e]
        have := h.hd s hs
        cases hsa : (rows.getD s EK.sli.dflt).a with
        | none =>
          unfold Hd at this ⊢
          rw [hsa] at this ⊢
          exact this
        | some b =>
          obtain ⟨z, k1, k2, k3⟩ := this.some hsa
          exact Hd.of_some hsa (by rw [hlb b (hoth s hs e b hsa)]; exact k1) k2 k3
    · intro s hs
      rw [getD_setJ _ _ _ _ _ hjr]
      by_cases e : s = j
      · rw [if_pos e, e, hjj, ← hrj]
        simp [rowA, hla, h1, h2]
      · rw [if_neg e, hne s e, ← h.row s hs]
        cases hsa : (rows.getD s EK.sli.dflt).a with
        | none => rfl
        | some b => exact rowA_congr (hlb b (hoth s hs e b hsa))
    · intro s t b hs ht hst hb hc
      rw [getD_setJ _ _ _ _ _ hjr] at hb hc
      by_cases es : s = j
      · rw [if_pos es] at hb
        rw [if_neg (fun e => hst (es.trans e.symm))] at hc
        simp only [Option.some.injEq] at hb
        subst hb
        exact hoth t ht (fun e => hst (es.trans e.symm)) _ hc rfl
      · rw [if_neg es] at hb
        by_cases et : t = j
        · rw [if_pos et] at hc
          simp only [Option.some.injEq] at hc
          subst hc
          exact hoth s hs es _ hb rfl
        · rw [if_neg et] at hc
          exact h.dist s t b hs ht hst hb hc
  | @fresh a sp h1 h2 =>
    have hlb : ∀ b, b ≠ a → lkA ((a, rowA pi x.a ++ [(k : Int)], sp) :: pi) b = lkA pi b := fun b hb => by simp only [lkA, if_neg (Ne.symm hb)]
    have hla : lkA ((a, rowA pi x.a ++ [(k : Int)], sp) :: pi) a = some (rowA pi x.a ++ [(k : Int)], sp) := by simp [lkA]
    have hoth : ∀ s, s < F.st.toNat → ∀ b, (rows.getD s EK.sli.dflt).a = some b → b ≠ a := by
      intro s hs b hb e
      subst e
      obtain ⟨z, k1, _⟩ := (h.hd s hs).some hb
      rw [h1] at k1
      cases k1
    refine ⟨by rw [List.length_set]; exact hl, ?_, ?_, ?_⟩
    · intro s hs
      rw [getD_setJ _ _ _ _ _ hjr]
      by_cases e : s = j
      · rw [if_pos e]
        refine Hd.of_some rfl hla ?_ ?_
        · simp [hdj.len]
        · simp [hdj.len]
      · rw [if_neg e]
        have := h.hd s hs
        cases hsa : (rows.getD s EK.sli.dflt).a with
        | none =>
          unfold Hd at this ⊢
          rw [hsa] at this ⊢
          exact this
        | some b =>
          obtain ⟨z, k1, k2, k3⟩ := this.some hsa
          exact Hd.of_some hsa (by rw [hlb b (hoth s hs b hsa)]; exact k1) k2 k3
    · intro s hs
      rw [getD_setJ _ _ _ _ _ hjr]
      by_cases e : s = j
      · rw [if_pos e, e, hjj, ← hrj]
        exact rowA_some hla
      · rw [if_neg e, hne s e, ← h.row s hs]
        cases hsa : (rows.getD s EK.sli.dflt).a with
        | none => rfl
        | some b => exact rowA_congr (hlb b (hoth s hs b hsa))
    · intro s t b hs ht hst hb hc
      rw [getD_setJ _ _ _ _ _ hjr] at hb hc
      by_cases es : s = j
      · rw [if_pos es] at hb
        rw [if_neg (fun e => hst (es.trans e.symm))] at hc
        simp only [Option.some.injEq] at hb
        subst hb
        exact hoth t ht _ hc rfl
      · rw [if_neg es] at hb
        by_cases et : t = j
        · rw [if_pos et] at hc
          simp only [Option.some.injEq] at hc
          subst hc
          exact hoth s hs _ hb rfl
        · rw [if_neg et] at hc
          exact h.dist s t b hs ht hst hb hc
theorem RowsK.zero (F : TF) : RowsK F (List.replicate F.st.toNat (⟨none, 0, 0⟩ : Sli)) [] 0 := by
  have hg : ∀ s, (List.replicate F.st.toNat (⟨none, 0, 0⟩ : Sli)).getD s EK.sli.dflt = ⟨none, 0, 0⟩ := by
    intro s
    simp only [List.getD, List.getElem?_replicate]
    split <;> rfl
  refine ⟨List.length_replicate, ?_, ?_, ?_⟩
  · intro s _; rw [hg]; exact Hd.of_none rfl rfl rfl
  · intro s _; rw [hg]; rfl
  · intro s t a _ _ _ h; rw [hg] at h; cases h
theorem RowsK.ok {F : TF} {rows : List Sli} {pi : List (Addr × List Int × Nat)} (h : RowsK F rows pi F.arcs.length) : RowsOk F rows pi :=
  ⟨h.len, fun s hs => ⟨by rw [(h.hd s hs).len, h.row s hs]; rfl, h.row s hs⟩⟩
end Go.Fw
