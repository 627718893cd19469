/-
  From, To and Push answer just what the document says, errors too, whatever they are handed: the law ShortTells returns true at every input and leaves its argument as it was. No condition.
-/
import Derived.Test.YtiejplibehppnaaGa
import Derived.Test.YtiejplibehppnaaWe
import Derived.Test.YtiejplibehppnaaRows

set_option linter.unusedSimpArgs false
set_option linter.unusedVariables false

namespace Go.Proofs.Ytiejplibehppnaa
open Go Go.Fw Go.ChangeShapes Go.WideShapes Go.ChangeAt Go.RowKit

theorem Try.own : ownKnob Go.Proofs.Try.prog.godebug = none := by kernel_rfl
theorem Try.laidOut : laidOutB Go.Proofs.Try.prog = true := by kernel_rfl

set_option maxRecDepth 100000 in
theorem shortTells_lifted (os : Os) (started : os.Started) (H : Type) (enc : TypeId × Value → H) :
    ReturnsInHanded {} Go.Proofs.Try.checked os 4 .any (Rows.shortTellsSpec.pre6 enc Go.Proofs.Try.prog Go.Proofs.Try.f4 Rows.shortTellsRow.domain false) (Rows.shortTellsSpec.post enc Go.Proofs.Try.prog Go.Proofs.Try.f4 false true false false) := by
  refine returnsInHanded_of_change_sized (C := Go.Proofs.Try.checked) Try.own started (by kernel_rfl) Go.Proofs.Try.func4
    (ChangeSpec.witness6 (enc := enc) (C := Go.Proofs.Try.checked) false ⟨#[], #[.agg #[.int .i64 0, .int .i64 0, .slice none 0 0, .slice none 0 0]], []⟩ 8 (by kernel_rfl) (by kernel_rfl) (by kernel_rfl) (by kernel_rfl)) ?_
  intro W base args ds gs before hval0 hW _ _ _
  have hval : ∀ (j : Nat) t v, Go.Proofs.Try.f4.params[j]? = some t → args[j]? = some v → Value.okWide Go.Proofs.Try.prog W .any base t v := hval0
  have hW' := hW
  obtain ⟨p, q, hA0, hV, rfl, _, _⟩ := hW
  have hA : DataW.TrodAll enc Go.Proofs.Try.prog W 0 (fun _ => true) true Go.Proofs.Try.f4.params.toList args.toList ds p := hA0
  rw [Go.Proofs.Try.params4] at hA hval
  obtain ⟨v, d, rfl, rfl, h0⟩ := trodAll_one hA
  obtain ⟨rfl, rfl⟩ := trodVars_none hV
  simp only [List.append_nil] at hW'
  have hlt : ∀ x ∈ p, x.block < W.heap.size := fun x hx => by simpa using hW'.lt x hx
  obtain ⟨F, a0, a1, hh⟩ := open_hand (hval 0 25 v rfl rfl) h0
  have hl : F.fin.length ≤ 9223372036854775807 := by
    have h1 := hh.k0
    have h2 := hh.c0
    unfold maxLen at h2
    omega
  have hc : Ct Go.Proofs.Try.prog 4 [fV F] [] (hpF F) 2 (Is 2 (.b true)) := by
    by_cases h : fstE F = 0
    · exact shortTells_ok F hl h
    · exact shortTells_no F hl h
  refine (hh.call1 hc).mono fun e W' ⟨he, hn⟩ => ?_
  subst he
  have harg : DataW.Trod enc Go.Proofs.Try.prog W' 0 (fun b => decide (b < W.heap.size)) true 25 v d p :=
    Below.trod Try.laidOut (by kernel_rfl) (of_decide_eq_true (by kernel_rfl)) h0 hn hlt
  exact ⟨_, rfl, _, _, _, [], _, [], hW', trodAll_mk1 (shut_bool Go.Proofs.Try.underlying4), trodAll_mk1 harg, rfl, hn.frame _, fun h => by cases h⟩

theorem shortTells_holds : Rows.ShortTellsSaid :=
  OpenClaim.holds_of_wide 4 Go.Proofs.Try.f4 rfl rfl rfl rfl rfl rfl rfl ⟨rfl, rfl, rfl, rfl, rfl⟩ rfl rfl rfl rfl rfl (by kernel_rfl) Go.Proofs.Try.func4 (by kernel_rfl)
    (of_decide_eq_true (by kernel_rfl)) (by unfold Func.isWrapper; first | (rw [if_pos (by decide +kernel)]; kernel_rfl) | (rw [if_neg (by decide +kernel)]; exact ⟨rfl, rfl⟩))
    (fun os started H enc _ => shortTells_lifted os started H enc)

end Go.Proofs.Ytiejplibehppnaa
