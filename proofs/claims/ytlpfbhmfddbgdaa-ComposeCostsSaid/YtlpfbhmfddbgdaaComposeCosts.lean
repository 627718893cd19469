/-
  What Compose answers costs the best of all words between, for whatever words; its errors are what the document says: the law ComposeCosts returns true at every input and leaves its arguments as they were. No condition.
-/
import Derived.Test.YtlpfbhmfddbgdaaS06
import Derived.Test.YtlpfbhmfddbgdaaS19
import Derived.Test.YtlpfbhmfddbgdaaRows

set_option linter.unusedSimpArgs false
set_option linter.unusedVariables false

namespace Go.Fw
open Go Go.Proofs Go.ChangeShapes Go.WideShapes Go.ChangeAt Go.RowKit Go.Deep Go.Joins

section
variable {H : Type} {enc : TypeId × Value → H} {P : Program} {w : World} {base : Nat} {spare : Nat → Bool} {held : Bool} {t t1 t2 t3 t4 : TypeId}

theorem trodAll_five {args : Array Value} {ds : List (DataW H)} {ps : List MemPlace} (h : DataW.TrodAll enc P w base spare held [t, t1, t2, t3, t4] args.toList ds ps) :
    ∃ v v1 v2 v3 v4 d d1 d2 d3 d4 p p1 p2 p3 p4, args = #[v, v1, v2, v3, v4] ∧ ds = [d, d1, d2, d3, d4] ∧ ps = p ++ p1 ++ p2 ++ p3 ++ p4 ∧ DataW.Trod enc P w base spare held t v d p ∧ DataW.Trod enc P w base spare held t1 v1 d1 p1 ∧ DataW.Trod enc P w base spare held t2 v2 d2 p2 ∧ DataW.Trod enc P w base spare held t3 v3 d3 p3 ∧ DataW.Trod enc P w base spare held t4 v4 d4 p4 := by
  obtain ⟨v, vs, d, ds0, p, q, hargs, rfl, rfl, hd, hr⟩ := trodAll_cons h
  obtain ⟨v1, vs1, d1, ds1, p1, q1, rfl, rfl, rfl, hd1, hr1⟩ := trodAll_cons hr
  obtain ⟨v2, vs2, d2, ds2, p2, q2, rfl, rfl, rfl, hd2, hr2⟩ := trodAll_cons hr1
  obtain ⟨v3, vs3, d3, ds3, p3, q3, rfl, rfl, rfl, hd3, hr3⟩ := trodAll_cons hr2
  obtain ⟨v4, vs4, d4, ds4, p4, q4, rfl, rfl, rfl, hd4, hr4⟩ := trodAll_cons hr3
  obtain ⟨rfl, rfl, rfl⟩ := trodAll_nil hr4
  exact ⟨v, v1, v2, v3, v4, d, d1, d2, d3, d4, p, p1, p2, p3, p4, by cases args; simp_all, rfl, by simp, hd, hd1, hd2, hd3, hd4⟩

theorem trodAll_mk5 {v v1 v2 v3 v4 : Value} {d d1 d2 d3 d4 : DataW H} {p p1 p2 p3 p4 : List MemPlace} (h : DataW.Trod enc P w base spare held t v d p) (h1 : DataW.Trod enc P w base spare held t1 v1 d1 p1)
    (h2 : DataW.Trod enc P w base spare held t2 v2 d2 p2) (h3 : DataW.Trod enc P w base spare held t3 v3 d3 p3) (h4 : DataW.Trod enc P w base spare held t4 v4 d4 p4) : DataW.TrodAll enc P w base spare held [t, t1, t2, t3, t4] [v, v1, v2, v3, v4] [d, d1, d2, d3, d4] (p ++ (p1 ++ (p2 ++ (p3 ++ p4)))) := ⟨p, p1 ++ (p2 ++ (p3 ++ p4)), h, trodAll_mk4 h1 h2 h3 h4, rfl⟩
end

theorem Hand.call5 {W : World} {F G : TF} {a0 a1 a2 a3 a4 a5 a6 : Option Addr} {v w : Value} (h : Hand W F a0 a1 v) (h' : Hand W G a2 a3 w) {xs zs ys : List Int} {cx cz cy : Nat} (h2 : Lent W a4 .int xs) (h4 : Lent W a6 .int zs) (h3 : Lent W a5 .int ys) {f : Nat} {b : Bool}
    (hc : Ct Try.prog f [fV F, gV G, .c (.sl 4 1 0 xs.length cx), .c (.sl 5 1 0 zs.length cz), .c (.sl 6 1 0 ys.length cy)] [] (hpCC F G xs zs ys) 7 (Is 7 (.b b))) :
    Calls Try.prog f #[v, w, .slice a4 xs.length cx, .slice a6 zs.length cz, .slice a5 ys.length cy] W fun e W' => e = .returned (.bool b) ∧ Below W.heap.size W W' := by
  have hs := lentSat (W := W) (hp := hpCC F G xs zs ys) (n := 7) (fun i => if i = 0 then a0 else if i = 1 then a1 else if i = 2 then a2 else if i = 3 then a3 else if i = 4 then a4 else if i = 5 then a6 else a5) (by
    intro id o hl
    simp only [hpCC, hpG, List.cons_append, List.nil_append, look_cons] at hl
    split at hl
    · rename_i e; subst e; cases hl; exact ⟨by omega, 3, .int, F.fin, rfl, h.l0⟩
    · split at hl
      · rename_i e; subst e; cases hl; exact ⟨by omega, 47, .arc, F.arcs, rfl, h.l1⟩
      · split at hl
        · rename_i e; subst e; cases hl; exact ⟨by omega, 3, .int, G.fin, rfl, h'.l0⟩
        · split at hl
          · rename_i e; subst e; cases hl; exact ⟨by omega, 47, .arc, G.arcs, rfl, h'.l1⟩
          · split at hl
            · rename_i e; subst e; cases hl; exact ⟨by omega, 3, .int, xs, rfl, h2⟩
            · split at hl
              · rename_i e; subst e; cases hl; exact ⟨by omega, 3, .int, zs, rfl, h4⟩
              · split at hl
                · rename_i e; subst e; cases hl; exact ⟨by omega, 3, .int, ys, rfl, h3⟩
                · cases hl)
  have key := hc _ _ _ W hs
  have e1 : ([fV F, gV G, .c (.sl 4 1 0 xs.length cx), .c (.sl 5 1 0 zs.length cz), .c (.sl 6 1 0 ys.length cy)].map (SV.den fun i => if i = 0 then a0 else if i = 1 then a1 else if i = 2 then a2 else if i = 3 then a3 else if i = 4 then a4 else if i = 5 then a6 else a5) ++ ([] : List Value)).toArray = #[v, w, .slice a4 xs.length cx, .slice a6 zs.length cz, .slice a5 ys.length cy] := by
    rw [h.val, h'.val]
    have hid : ∀ o : Option Addr, o.map (fun x => x.add 0) = o := fun o => by cases o <;> simp [add_zero]
    simp [fV, gV, SV.den, SA.den, SC.den, hid]
  rw [e1] at key
  refine key.mono ?_
  rintro e W' ⟨v', β', Z', fp', s', rfl, hn, rfl, rfl⟩
  exact ⟨rfl, hn.ext.below⟩
end Go.Fw

namespace Go.Proofs.Ytlpfbhmfddbgdaa
open Go Go.Fw Go.ChangeShapes Go.WideShapes Go.ChangeAt Go.RowKit

theorem Try.own : ownKnob Go.Proofs.Try.prog.godebug = none := by kernel_rfl
theorem Try.laidOut : laidOutB Go.Proofs.Try.prog = true := by kernel_rfl

theorem composeCosts_c (F G : TF) (u w v : List Int) (cu cw cv : Nat) (hF : F.fin.length ≤ 9223372036854775807) (hG : G.fin.length ≤ 9223372036854775807) :
    Ct Go.Proofs.Try.prog 9 [fV F, gV G, .c (.sl 4 1 0 u.length cu), .c (.sl 5 1 0 w.length cw), .c (.sl 6 1 0 v.length cv)] [] (hpCC F G u w v) 7 (Is 7 (.b true)) := by
  by_cases h : composeE F G = 0
  · exact composeCosts_ok F G u w v cu cw cv hF hG h
  · exact composeCosts_no F G u w v cu cw cv hF hG h

set_option maxRecDepth 100000 in
theorem composeCosts_lifted (os : Os) (started : os.Started) (H : Type) (enc : TypeId × Value → H) :
    ReturnsInHanded {} Go.Proofs.Try.checked os 9 .any (Rows.composeCostsSpec.pre6 enc Go.Proofs.Try.prog Go.Proofs.Try.f9 Rows.composeCostsRow.domain false) (Rows.composeCostsSpec.post enc Go.Proofs.Try.prog Go.Proofs.Try.f9 false true false false) := by
  refine returnsInHanded_of_change_sized (C := Go.Proofs.Try.checked) Try.own started (by kernel_rfl) Go.Proofs.Try.func9
    (ChangeSpec.witness6 (enc := enc) (C := Go.Proofs.Try.checked) false ⟨#[], #[.agg #[.int .i64 0, .int .i64 0, .slice none 0 0, .slice none 0 0], .agg #[.int .i64 0, .int .i64 0, .slice none 0 0, .slice none 0 0], .slice none 0 0, .slice none 0 0, .slice none 0 0], []⟩ 9 (by kernel_rfl) (by kernel_rfl) (by kernel_rfl) (by kernel_rfl)) ?_
  intro W base args ds gs before hval0 hW _ _ _
  have hval : ∀ (j : Nat) t v, Go.Proofs.Try.f9.params[j]? = some t → args[j]? = some v → Value.okWide Go.Proofs.Try.prog W .any base t v := hval0
  have hW' := hW
  obtain ⟨p, q, hA0, hV, rfl, _, _⟩ := hW
  have hA : DataW.TrodAll enc Go.Proofs.Try.prog W 0 (fun _ => true) true Go.Proofs.Try.f9.params.toList args.toList ds p := hA0
  rw [Go.Proofs.Try.params9] at hA hval
  obtain ⟨v, v2, v3, v5, v4, d, d2, d3, d5, d4, p1, p2, p3, p5, p4, rfl, rfl, rfl, h0, h2, h3, h5, h4⟩ := trodAll_five hA
  obtain ⟨rfl, rfl⟩ := trodVars_none hV
  simp only [List.append_nil] at hW'
  have hlt : ∀ x ∈ p1 ++ (p2 ++ (p3 ++ (p5 ++ p4))), x.block < W.heap.size := fun x hx => by simpa using hW'.lt x (by simpa using hx)
  obtain ⟨F, a0, a1, hh⟩ := open_hand (hval 0 25 v rfl rfl) h0
  obtain ⟨G, a2, a3, hg⟩ := open_hand (hval 1 25 v2 rfl rfl) h2
  obtain ⟨aa, la, ca, rfl⟩ := okWide_slice Go.Proofs.Try.underlying22 (hval 2 22 v3 rfl rfl)
  obtain ⟨ae, le, ce, rfl⟩ := okWide_slice Go.Proofs.Try.underlying22 (hval 3 22 v5 rfl rfl)
  obtain ⟨ab, lb, cb, rfl⟩ := okWide_slice Go.Proofs.Try.underlying22 (hval 4 22 v4 rfl rfl)
  obtain ⟨n3, h3'⟩ := id h3
  obtain ⟨n5, h5'⟩ := id h5
  obtain ⟨n4, h4'⟩ := id h4
  obtain ⟨a4, xs, cx, e3, l3, k3, _, _, _⟩ := open_lentI Go.Proofs.Try.underlying22 Go.Proofs.Try.underlying3 (by kernel_rfl) h3'
  obtain ⟨a5, ys, cy, e4, l4, k4, _, _, _⟩ := open_lentI Go.Proofs.Try.underlying22 Go.Proofs.Try.underlying3 (by kernel_rfl) h4'
  obtain ⟨a6, zs, cz, e5, l5, k5, _, _, _⟩ := open_lentI Go.Proofs.Try.underlying22 Go.Proofs.Try.underlying3 (by kernel_rfl) h5'
  rw [e3] at h3 hW' ⊢
  rw [e5] at h5 hW' ⊢
  rw [e4] at h4 hW' ⊢
  have hl : F.fin.length ≤ 9223372036854775807 := by
    have h1 := hh.k0
    have h2 := hh.c0
    unfold maxLen at h2
    omega
  have hl2 : G.fin.length ≤ 9223372036854775807 := by
    have h1 := hg.k0
    have h2 := hg.c0
    unfold maxLen at h2
    omega
  refine (hh.call5 hg l3 l5 l4 (composeCosts_c F G xs zs ys cx cz cy hl hl2)).mono fun e W' ⟨he, hn⟩ => ?_
  subst he
  have g0 : DataW.Trod enc Go.Proofs.Try.prog W' 0 (fun b => decide (b < W.heap.size)) true 25 v d p1 :=
    Below.trod Try.laidOut (by kernel_rfl) (of_decide_eq_true (by kernel_rfl)) h0 hn (fun x hx => hlt x (by simp [hx]))
  have g2 : DataW.Trod enc Go.Proofs.Try.prog W' 0 (fun b => decide (b < W.heap.size)) true 25 v2 d2 p2 :=
    Below.trod Try.laidOut (by kernel_rfl) (of_decide_eq_true (by kernel_rfl)) h2 hn (fun x hx => hlt x (by simp [hx]))
  have g3 : DataW.Trod enc Go.Proofs.Try.prog W' 0 (fun b => decide (b < W.heap.size)) true 22 (.slice a4 xs.length cx) d3 p3 :=
    Below.trod Try.laidOut (by kernel_rfl) (of_decide_eq_true (by kernel_rfl)) h3 hn (fun x hx => hlt x (by simp [hx]))
  have g5 : DataW.Trod enc Go.Proofs.Try.prog W' 0 (fun b => decide (b < W.heap.size)) true 22 (.slice a6 zs.length cz) d5 p5 :=
    Below.trod Try.laidOut (by kernel_rfl) (of_decide_eq_true (by kernel_rfl)) h5 hn (fun x hx => hlt x (by simp [hx]))
  have g4 : DataW.Trod enc Go.Proofs.Try.prog W' 0 (fun b => decide (b < W.heap.size)) true 22 (.slice a5 ys.length cy) d4 p4 :=
    Below.trod Try.laidOut (by kernel_rfl) (of_decide_eq_true (by kernel_rfl)) h4 hn (fun x hx => hlt x (by simp [hx]))
  exact ⟨_, rfl, _, _, _, [], _, [], hW', trodAll_mk1 (shut_bool Go.Proofs.Try.underlying4), (trodAll_mk5 g0 g2 g3 g5 g4), rfl, hn.frame _, fun h => by cases h⟩

theorem composeCosts_holds : Rows.ComposeCostsSaid :=
  OpenClaim.holds_of_wide 9 Go.Proofs.Try.f9 rfl rfl rfl rfl rfl rfl rfl ⟨rfl, rfl, rfl, rfl, rfl⟩ rfl rfl rfl rfl rfl (by kernel_rfl) Go.Proofs.Try.func9 (by kernel_rfl)
    (of_decide_eq_true (by kernel_rfl)) (by unfold Func.isWrapper; first | (rw [if_pos (by decide +kernel)]; kernel_rfl) | (rw [if_neg (by decide +kernel)]; exact ⟨rfl, rfl⟩))
    (fun os started H enc _ => composeCosts_lifted os started H enc)

end Go.Proofs.Ytlpfbhmfddbgdaa
