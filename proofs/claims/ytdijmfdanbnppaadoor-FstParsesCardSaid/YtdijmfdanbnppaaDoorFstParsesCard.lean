/-
  Parse answers just what the document says, and the same line, whatever text it is handed: the law FstParses returns true at every input and leaves its argument as it was. Seven variables of the library are listed, as the row says; the card ties them.
-/
import Derived.Test.YtdijmfdanbnppaaDoorP07
import Derived.Test.YtdijmfdanbnppaaDoorP13
import Derived.ChangeMaps5

set_option linter.unusedSimpArgs false
set_option linter.unusedVariables false

namespace Go.Proofs.YtdijmfdanbnppaaDoor
open Go Go.Fw Go.ChangeShapes Go.WideShapes Go.ChangeAt Go.RowKit

set_option maxRecDepth 100000 in
theorem fstParses_lifted (os : Os) (started : os.Started) (H : Type) (enc : TypeId × Value → H) :
    ReturnsInHanded {} Go.Proofs.Tryd.checked os 5 .any (fun w args => (Rows.fstParsesSpec.pre enc Go.Proofs.Tryd.prog Go.Proofs.Tryd.f5 [] false w args ∧ laidMetH Go.Proofs.Tryd.prog laid7 w) ∧ sizedMet enc Go.Proofs.Tryd.prog Go.Proofs.Tryd.f5 (OpenSpec.ofChange Rows.fstParsesSpec) false w args)
      (Rows.fstParsesSpec.post enc Go.Proofs.Tryd.prog Go.Proofs.Tryd.f5 false true false false) := by
  refine handed_both (C := Go.Proofs.Tryd.checked) (X := fun w _ => laidMetH Go.Proofs.Tryd.prog laid7 w) (fun _ _ _ hh h => h.of_heap hh) Tryd.own started (by kernel_rfl) Go.Proofs.Tryd.func5
    (ChangeSpec.witness_shaped (enc := enc) (C := Go.Proofs.Tryd.checked) (os := os) (X := fun w _ => laidMetH Go.Proofs.Tryd.prog laid7 w) false (World.laidAll Go.Proofs.Tryd.prog os laid7) #[.string ⟨#[]⟩] 8 (World.laidAll_os _ _ _) (World.shaped_of_ZipB (by kernel_rfl) (by kernel_rfl)) (by kernel_rfl) (by kernel_rfl) (by kernel_rfl) (door_met os _)) ?_
  intro W base args ds gs before hval0 hW hS hL
  have hval : ∀ (j : Nat) t v, Go.Proofs.Tryd.f5.params[j]? = some t → args[j]? = some v → Value.okWide Go.Proofs.Tryd.prog W .any base t v := hval0
  have hW' := hW
  obtain ⟨p, q, hA0, hV, rfl, _, _⟩ := hW
  have hA : DataW.TrodAll enc Go.Proofs.Tryd.prog W 0 (fun _ => true) true Go.Proofs.Tryd.f5.params.toList args.toList ds p := hA0
  rw [Go.Proofs.Tryd.params5] at hA hval
  obtain ⟨v, d, rfl, rfl, h0⟩ := trodAll_one hA
  obtain ⟨rfl, rfl⟩ := trodVars_none hV
  simp only [List.append_nil] at hW'
  have hlt : ∀ x ∈ p, x.block < W.heap.size := fun x hx => by simpa using hW'.lt x hx
  obtain ⟨t, rfl, _, _, hsz⟩ := ChangeMaps.open_string Go.Proofs.Tryd.underlying9 (hval 0 9 v rfl rfl) h0
  have hl := str_len hsz
  obtain ⟨g, hg⟩ := of_laid hL hS
  refine (glo_call hg (hp := []) (n := 0) (fun _ => none) (fun _ _ h => by cases h) (fun _ => rfl) (args := #[.string t]) (str_args _ t) (fstParses_c g hg.x t.data.toList hl)).mono fun e W' ⟨he, hn⟩ => ?_
  subst he
  have g0 : DataW.Trod enc Go.Proofs.Tryd.prog W' 0 (fun b => decide (b < W.heap.size)) true 9 (.string t) d p :=
    Below.trod Tryd.laidOut (by kernel_rfl) (of_decide_eq_true (by kernel_rfl)) h0 hn hlt
  exact ⟨_, rfl, _, _, _, [], _, [], hW', trodAll_mk1 (shut_bool Go.Proofs.Tryd.underlying4), trodAll_mk1 g0, rfl, hn.frame _, fun h => by cases h⟩

theorem fstParses_row : Rows.FstParsesSaid :=
  OpenClaim.holds_of_wide 5 Go.Proofs.Tryd.f5 rfl rfl rfl rfl rfl rfl rfl ⟨rfl, rfl, rfl, rfl, rfl⟩ rfl rfl rfl rfl rfl (by kernel_rfl) Go.Proofs.Tryd.func5 (by kernel_rfl)
    (of_decide_eq_true (by kernel_rfl)) (by unfold Func.isWrapper; first | (rw [if_pos (by decide +kernel)]; kernel_rfl) | (rw [if_neg (by decide +kernel)]; exact ⟨rfl, rfl⟩))
    (fun os started H enc _ => fstParses_lifted os started H enc)

theorem fstParses_holds : Rows.FstParsesCardSaid :=
  Claim7.holds_tied_plain_at .later [] [.data, .data, .data, .data, .sentinel, .sentinel, .pinned] true (true, "1d494100f1f00e40d06e54ff489ff27fac38b45db4c52d4ebb04c509c62c29fd") true
    fstParses_row (fun _ h => by cases h) (by kernel_rfl) (fun _ h => by cases h) fstParses_row_tie rfl ⟨rfl, rfl⟩ (by kernel_rfl) rfl
    (fun f fn hf hfn => by
      obtain rfl : f = 5 := Option.some.inj ((show Go.Proofs.Tryd.prog.funcNamed "fareway/farewaylaw.FstParses" = some 5 by kernel_rfl).symm.trans hf) |>.symm
      obtain rfl : fn = Go.Proofs.Tryd.f5 := (Option.some.inj (Go.Proofs.Tryd.func5.symm.trans hfn)).symm
      exact ⟨by kernel_rfl, fun j t ht => by
        rw [Go.Proofs.Tryd.params5] at ht
        have hm : t ∈ [9] := by simpa using Array.mem_of_getElem? ht
        have hall : ([9].all fun u => !Go.Proofs.Tryd.prog.wantsStandIn u) = true := by kernel_rfl
        exact (show Go.Proofs.Tryd.prog.wantsStandIn t = false by simpa using List.all_eq_true.1 hall t hm)⟩)
    (by kernel_rfl)

end Go.Proofs.YtdijmfdanbnppaaDoor
