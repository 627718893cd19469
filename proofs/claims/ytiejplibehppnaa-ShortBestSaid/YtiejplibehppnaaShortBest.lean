/-
  The best way costs least of all, for whatever words, and no state stands on it twice; pushed, with what is told, it costs the same: the law ShortBest returns true at every input and leaves its arguments as they were. No condition.
-/
import Derived.Test.YtiejplibehppnaaGa2
import Derived.Test.YtiejplibehppnaaXj

set_option linter.unusedSimpArgs false
set_option linter.unusedVariables false

namespace Go.Proofs.Ytiejplibehppnaa
open Go Go.Fw Go.ChangeShapes Go.WideShapes Go.ChangeAt Go.RowKit

theorem shortBest_c (F : TF) (u v : List Int) (cu cv : Nat) (hl : F.fin.length ≤ 9223372036854775807) : Ct Go.Proofs.Try.prog 5 [fV F, .c (.sl 2 1 0 u.length cu), .c (.sl 3 1 0 v.length cv)] [] (hpQ F u v) 4 (Is 4 (.b true)) := by
  by_cases h : fstE F = 0
  · exact shortBest_ok F u v cu cv hl h
  · exact shortBest_no F u v cu cv hl h

theorem Try.own : ownKnob Go.Proofs.Try.prog.godebug = none := by kernel_rfl
theorem Try.laidOut : laidOutB Go.Proofs.Try.prog = true := by kernel_rfl

set_option maxRecDepth 100000 in
theorem shortBest_lifted (os : Os) (started : os.Started) (H : Type) (enc : TypeId × Value → H) :
    ReturnsInHanded {} Go.Proofs.Try.checked os 5 .any (Rows.shortBestSpec.pre6 enc Go.Proofs.Try.prog Go.Proofs.Try.f5 Rows.shortBestRow.domain false) (Rows.shortBestSpec.post enc Go.Proofs.Try.prog Go.Proofs.Try.f5 false true false false) := by
  refine returnsInHanded_of_change_sized (C := Go.Proofs.Try.checked) Try.own started (by kernel_rfl) Go.Proofs.Try.func5
    (ChangeSpec.witness6 (enc := enc) (C := Go.Proofs.Try.checked) false ⟨#[], #[.agg #[.int .i64 0, .int .i64 0, .slice none 0 0, .slice none 0 0], .slice none 0 0, .slice none 0 0], []⟩ 8 (by kernel_rfl) (by kernel_rfl) (by kernel_rfl) (by kernel_rfl)) ?_
  intro W base args ds gs before hval0 hW _ _ _
  have hval : ∀ (j : Nat) t v, Go.Proofs.Try.f5.params[j]? = some t → args[j]? = some v → Value.okWide Go.Proofs.Try.prog W .any base t v := hval0
  have hW' := hW
  obtain ⟨p, q, hA0, hV, rfl, _, _⟩ := hW
  have hA : DataW.TrodAll enc Go.Proofs.Try.prog W 0 (fun _ => true) true Go.Proofs.Try.f5.params.toList args.toList ds p := hA0
  rw [Go.Proofs.Try.params5] at hA hval
  obtain ⟨v, v2, v3, d, d2, d3, p1, p2, p3, rfl, rfl, rfl, h0, h2, h3⟩ := trodAll_three hA
  obtain ⟨rfl, rfl⟩ := trodVars_none hV
  simp only [List.append_nil] at hW'
  have hlt : ∀ x ∈ p1 ++ (p2 ++ p3), x.block < W.heap.size := fun x hx => by simpa using hW'.lt x (by simpa using hx)
  obtain ⟨F, a0, a1, hh⟩ := open_hand (hval 0 25 v rfl rfl) h0
  obtain ⟨aa, la, ca, rfl⟩ := okWide_slice Go.Proofs.Try.underlying22 (hval 1 22 v2 rfl rfl)
  obtain ⟨ab, lb, cb, rfl⟩ := okWide_slice Go.Proofs.Try.underlying22 (hval 2 22 v3 rfl rfl)
  obtain ⟨n2, h2'⟩ := id h2
  obtain ⟨n3, h3'⟩ := id h3
  obtain ⟨a2, xs, cx, e2, l2, _, _, _, _⟩ := open_lentI Go.Proofs.Try.underlying22 Go.Proofs.Try.underlying3 (by kernel_rfl) h2'
  obtain ⟨a3, ys, cy, e3, l3, _, _, _, _⟩ := open_lentI Go.Proofs.Try.underlying22 Go.Proofs.Try.underlying3 (by kernel_rfl) h3'
  rw [e2] at h2 hW' ⊢
  rw [e3] at h3 hW' ⊢
  have hl : F.fin.length ≤ 9223372036854775807 := by
    have h1 := hh.k0
    have h2 := hh.c0
    unfold maxLen at h2
    omega
  refine (hh.call3 l2 l3 (shortBest_c F xs ys cx cy hl)).mono fun e W' ⟨he, hn⟩ => ?_
  subst he
  have g0 : DataW.Trod enc Go.Proofs.Try.prog W' 0 (fun b => decide (b < W.heap.size)) true 25 v d p1 :=
    Below.trod Try.laidOut (by kernel_rfl) (of_decide_eq_true (by kernel_rfl)) h0 hn (fun x hx => hlt x (by simp [hx]))
  have g2 : DataW.Trod enc Go.Proofs.Try.prog W' 0 (fun b => decide (b < W.heap.size)) true 22 (.slice a2 xs.length cx) d2 p2 :=
    Below.trod Try.laidOut (by kernel_rfl) (of_decide_eq_true (by kernel_rfl)) h2 hn (fun x hx => hlt x (by simp [hx]))
  have g3 : DataW.Trod enc Go.Proofs.Try.prog W' 0 (fun b => decide (b < W.heap.size)) true 22 (.slice a3 ys.length cy) d3 p3 :=
    Below.trod Try.laidOut (by kernel_rfl) (of_decide_eq_true (by kernel_rfl)) h3 hn (fun x hx => hlt x (by simp [hx]))
  exact ⟨_, rfl, _, _, _, [], _, [], hW', trodAll_mk1 (shut_bool Go.Proofs.Try.underlying4), trodAll_mk3 g0 g2 g3, rfl, hn.frame _, fun h => by cases h⟩

theorem shortBest_holds : Rows.ShortBestSaid :=
  OpenClaim.holds_of_wide 5 Go.Proofs.Try.f5 rfl rfl rfl rfl rfl rfl rfl ⟨rfl, rfl, rfl, rfl, rfl⟩ rfl rfl rfl rfl rfl (by kernel_rfl) Go.Proofs.Try.func5 (by kernel_rfl)
    (of_decide_eq_true (by kernel_rfl)) (by unfold Func.isWrapper; first | (rw [if_pos (by decide +kernel)]; kernel_rfl) | (rw [if_neg (by decide +kernel)]; exact ⟨rfl, rfl⟩))
    (fun os started H enc _ => shortBest_lifted os started H enc)

end Go.Proofs.Ytiejplibehppnaa
