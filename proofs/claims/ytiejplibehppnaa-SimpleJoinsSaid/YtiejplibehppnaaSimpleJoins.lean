/-
  What Either, Behind and Again answer costs what the pieces do, for whatever two words; their errors are what the document says: the law SimpleJoins returns true at every input and leaves its arguments as they were. No condition.
-/
import Derived.Test.YtiejplibehppnaaR07
import Derived.Test.YtiejplibehppnaaR21
import Derived.Test.YtiejplibehppnaaRows

set_option linter.unusedSimpArgs false
set_option linter.unusedVariables false

namespace Go.Fw
open Go Go.Proofs Go.ChangeShapes Go.WideShapes Go.ChangeAt Go.RowKit Go.Deep Go.Joins

theorem Hand.call4 {W : World} {F G : TF} {a0 a1 a2 a3 a4 a5 : Option Addr} {v w : Value} (h : Hand W F a0 a1 v) (h' : Hand W G a2 a3 w) {xs ys : List Int} {cx cy : Nat} (h2 : Lent W a4 .int xs) (h3 : Lent W a5 .int ys) {f : Nat} {b : Bool}
    (hc : Ct Try.prog f [fV F, gV G, .c (.sl 4 1 0 xs.length cx), .c (.sl 5 1 0 ys.length cy)] [] (hpY F G xs ys) 6 (Is 6 (.b b))) :
    Calls Try.prog f #[v, w, .slice a4 xs.length cx, .slice a5 ys.length cy] W fun e W' => e = .returned (.bool b) ∧ Below W.heap.size W W' := by
  have hs := lentSat (W := W) (hp := hpY F G xs ys) (n := 6) (fun i => if i = 0 then a0 else if i = 1 then a1 else if i = 2 then a2 else if i = 3 then a3 else if i = 4 then a4 else a5) (by
    intro id o hl
    simp only [hpY, look_cons] at hl
    split at hl
    · rename_i e; subst e; cases hl; exact ⟨by omega, 3, .int, F.fin, rfl, h.l0⟩
    · split at hl
      · rename_i e; subst e; cases hl; exact ⟨by omega, 47, .arc, F.arcs, rfl, h.l1⟩
      · split at hl
        · rename_i e; subst e; cases hl; exact ⟨by omega, 3, .int, G.fin, rfl, h'.l0⟩
        · split at hl
          · rename_i e; subst e; cases hl; exact ⟨by omega, 47, .arc, G.arcs, rfl, h'.l1⟩
          · split at hl
            · rename_i e; subst e; cases hl; exact ⟨by omega, 3, .int, xs, rfl, h2⟩
            · split at hl
              · rename_i e; subst e; cases hl; exact ⟨by omega, 3, .int, ys, rfl, h3⟩
              · cases hl)
  have key := hc _ _ _ W hs
  have e1 : ([fV F, gV G, .c (.sl 4 1 0 xs.length cx), .c (.sl 5 1 0 ys.length cy)].map (SV.den fun i => if i = 0 then a0 else if i = 1 then a1 else if i = 2 then a2 else if i = 3 then a3 else if i = 4 then a4 else a5) ++ ([] : List Value)).toArray = #[v, w, .slice a4 xs.length cx, .slice a5 ys.length cy] := by
    rw [h.val, h'.val]
    have hid : ∀ o : Option Addr, o.map (fun x => x.add 0) = o := fun o => by cases o <;> simp [add_zero]
    simp [fV, gV, SV.den, SA.den, SC.den, hid]
  rw [e1] at key
  refine key.mono ?_
  rintro e W' ⟨v', β', Z', fp', s', rfl, hn, rfl, rfl⟩
  exact ⟨rfl, hn.ext.below⟩
end Go.Fw

namespace Go.Proofs.Ytiejplibehppnaa
open Go Go.Fw Go.ChangeShapes Go.WideShapes Go.ChangeAt Go.RowKit

theorem Try.own : ownKnob Go.Proofs.Try.prog.godebug = none := by kernel_rfl
theorem Try.laidOut : laidOutB Go.Proofs.Try.prog = true := by kernel_rfl

theorem simpleJoins_c (F G : TF) (u v : List Int) (cu cv : Nat) (hF : F.fin.length ≤ 9223372036854775807) (hG : G.fin.length ≤ 9223372036854775807) (hcu : u.length ≤ cu) (hcv : v.length ≤ cv) :
    Ct Go.Proofs.Try.prog 8 [fV F, gV G, .c (.sl 4 1 0 u.length cu), .c (.sl 5 1 0 v.length cv)] [] (hpY F G u v) 6 (Is 6 (.b true)) := by
  by_cases h : ready2E F G = 0
  · exact simpleJoins_ok F G u v cu cv hF hG hcu hcv h
  · by_cases h1 : ready1E F = 0
    · exact simpleJoins_half F G u v cu cv hF hG hcu hcv h h1
    · exact simpleJoins_no F G u v cu cv hF hG hcu hcv h h1

set_option maxRecDepth 100000 in
theorem simpleJoins_lifted (os : Os) (started : os.Started) (H : Type) (enc : TypeId × Value → H) :
    ReturnsInHanded {} Go.Proofs.Try.checked os 8 .any (Rows.simpleJoinsSpec.pre6 enc Go.Proofs.Try.prog Go.Proofs.Try.f8 Rows.simpleJoinsRow.domain false) (Rows.simpleJoinsSpec.post enc Go.Proofs.Try.prog Go.Proofs.Try.f8 false true false false) := by
  refine returnsInHanded_of_change_sized (C := Go.Proofs.Try.checked) Try.own started (by kernel_rfl) Go.Proofs.Try.func8
    (ChangeSpec.witness6 (enc := enc) (C := Go.Proofs.Try.checked) false ⟨#[], #[.agg #[.int .i64 0, .int .i64 0, .slice none 0 0, .slice none 0 0], .agg #[.int .i64 0, .int .i64 0, .slice none 0 0, .slice none 0 0], .slice none 0 0, .slice none 0 0], []⟩ 8 (by kernel_rfl) (by kernel_rfl) (by kernel_rfl) (by kernel_rfl)) ?_
  intro W base args ds gs before hval0 hW _ _ _
  have hval : ∀ (j : Nat) t v, Go.Proofs.Try.f8.params[j]? = some t → args[j]? = some v → Value.okWide Go.Proofs.Try.prog W .any base t v := hval0
  have hW' := hW
  obtain ⟨p, q, hA0, hV, rfl, _, _⟩ := hW
  have hA : DataW.TrodAll enc Go.Proofs.Try.prog W 0 (fun _ => true) true Go.Proofs.Try.f8.params.toList args.toList ds p := hA0
  rw [Go.Proofs.Try.params8] at hA hval
  obtain ⟨v, v2, v3, v4, d, d2, d3, d4, p1, p2, p3, p4, rfl, rfl, rfl, h0, h2, h3, h4⟩ := trodAll_four hA
  obtain ⟨rfl, rfl⟩ := trodVars_none hV
  simp only [List.append_nil] at hW'
  have hlt : ∀ x ∈ p1 ++ (p2 ++ (p3 ++ p4)), x.block < W.heap.size := fun x hx => by simpa using hW'.lt x (by simpa using hx)
  obtain ⟨F, a0, a1, hh⟩ := open_hand (hval 0 25 v rfl rfl) h0
  obtain ⟨G, a2, a3, hg⟩ := open_hand (hval 1 25 v2 rfl rfl) h2
  obtain ⟨aa, la, ca, rfl⟩ := okWide_slice Go.Proofs.Try.underlying22 (hval 2 22 v3 rfl rfl)
  obtain ⟨ab, lb, cb, rfl⟩ := okWide_slice Go.Proofs.Try.underlying22 (hval 3 22 v4 rfl rfl)
  obtain ⟨n3, h3'⟩ := id h3
  obtain ⟨n4, h4'⟩ := id h4
  obtain ⟨a4, xs, cx, e3, l3, k3, _, _, _⟩ := open_lentI Go.Proofs.Try.underlying22 Go.Proofs.Try.underlying3 (by kernel_rfl) h3'
  obtain ⟨a5, ys, cy, e4, l4, k4, _, _, _⟩ := open_lentI Go.Proofs.Try.underlying22 Go.Proofs.Try.underlying3 (by kernel_rfl) h4'
  rw [e3] at h3 hW' ⊢
  rw [e4] at h4 hW' ⊢
  have hl : F.fin.length ≤ 9223372036854775807 := by
    have h1 := hh.k0
    have h2 := hh.c0
    unfold maxLen at h2
    omega
  have hl2 : G.fin.length ≤ 9223372036854775807 := by
    have h1 := hg.k0
    have h2 := hg.c0
    unfold maxLen at h2
    omega
  refine (hh.call4 hg l3 l4 (simpleJoins_c F G xs ys cx cy hl hl2 k3 k4)).mono fun e W' ⟨he, hn⟩ => ?_
  subst he
  have g0 : DataW.Trod enc Go.Proofs.Try.prog W' 0 (fun b => decide (b < W.heap.size)) true 25 v d p1 :=
    Below.trod Try.laidOut (by kernel_rfl) (of_decide_eq_true (by kernel_rfl)) h0 hn (fun x hx => hlt x (by simp [hx]))
  have g2 : DataW.Trod enc Go.Proofs.Try.prog W' 0 (fun b => decide (b < W.heap.size)) true 25 v2 d2 p2 :=
    Below.trod Try.laidOut (by kernel_rfl) (of_decide_eq_true (by kernel_rfl)) h2 hn (fun x hx => hlt x (by simp [hx]))
  have g3 : DataW.Trod enc Go.Proofs.Try.prog W' 0 (fun b => decide (b < W.heap.size)) true 22 (.slice a4 xs.length cx) d3 p3 :=
    Below.trod Try.laidOut (by kernel_rfl) (of_decide_eq_true (by kernel_rfl)) h3 hn (fun x hx => hlt x (by simp [hx]))
  have g4 : DataW.Trod enc Go.Proofs.Try.prog W' 0 (fun b => decide (b < W.heap.size)) true 22 (.slice a5 ys.length cy) d4 p4 :=
    Below.trod Try.laidOut (by kernel_rfl) (of_decide_eq_true (by kernel_rfl)) h4 hn (fun x hx => hlt x (by simp [hx]))
  exact ⟨_, rfl, _, _, _, [], _, [], hW', trodAll_mk1 (shut_bool Go.Proofs.Try.underlying4), trodAll_mk4 g0 g2 g3 g4, rfl, hn.frame _, fun h => by cases h⟩

theorem simpleJoins_holds : Rows.SimpleJoinsSaid :=
  OpenClaim.holds_of_wide 8 Go.Proofs.Try.f8 rfl rfl rfl rfl rfl rfl rfl ⟨rfl, rfl, rfl, rfl, rfl⟩ rfl rfl rfl rfl rfl (by kernel_rfl) Go.Proofs.Try.func8 (by kernel_rfl)
    (of_decide_eq_true (by kernel_rfl)) (by unfold Func.isWrapper; first | (rw [if_pos (by decide +kernel)]; kernel_rfl) | (rw [if_neg (by decide +kernel)]; exact ⟨rfl, rfl⟩))
    (fun os started H enc _ => simpleJoins_lifted os started H enc)

end Go.Proofs.Ytiejplibehppnaa
