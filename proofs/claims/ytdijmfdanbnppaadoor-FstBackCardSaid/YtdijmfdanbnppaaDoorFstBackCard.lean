/-
  What is printed is parsed as it was, and nothing else is: the law FstBack returns true at every input and leaves its arguments as they were. Seven variables of the library are listed, as the row says; the card ties them.
-/
import Derived.Test.YtdijmfdanbnppaaDoorR07
import Derived.Test.YtdijmfdanbnppaaDoorR12
import Derived.ChangeMaps5

set_option linter.unusedSimpArgs false
set_option linter.unusedVariables false

namespace Go.Proofs.YtdijmfdanbnppaaDoor
open Go Go.Fw Go.ChangeShapes Go.WideShapes Go.ChangeAt Go.RowKit

set_option maxRecDepth 100000 in
theorem fstBack_lifted (os : Os) (started : os.Started) (H : Type) (enc : TypeId × Value → H) :
    ReturnsInHanded {} Go.Proofs.Tryd.checked os 6 .any (fun w args => (Rows.fstBackSpec.pre enc Go.Proofs.Tryd.prog Go.Proofs.Tryd.f6 [] false w args ∧ laidMetH Go.Proofs.Tryd.prog laid7 w) ∧ sizedMet enc Go.Proofs.Tryd.prog Go.Proofs.Tryd.f6 (OpenSpec.ofChange Rows.fstBackSpec) false w args)
      (Rows.fstBackSpec.post enc Go.Proofs.Tryd.prog Go.Proofs.Tryd.f6 false true false false) := by
  refine handed_both (C := Go.Proofs.Tryd.checked) (X := fun w _ => laidMetH Go.Proofs.Tryd.prog laid7 w) (fun _ _ _ hh h => h.of_heap hh) Tryd.own started (by kernel_rfl) Go.Proofs.Tryd.func6
    (ChangeSpec.witness_shaped (enc := enc) (C := Go.Proofs.Tryd.checked) (os := os) (X := fun w _ => laidMetH Go.Proofs.Tryd.prog laid7 w) false (World.laidAll Go.Proofs.Tryd.prog os laid7) #[.agg #[.int .i64 0, .int .i64 0, .slice none 0 0, .slice none 0 0], .string ⟨#[]⟩] 8 (World.laidAll_os _ _ _) (World.shaped_of_ZipB (by kernel_rfl) (by kernel_rfl)) (by kernel_rfl) (by kernel_rfl) (by kernel_rfl) (door_met os _)) ?_
  intro W base args ds gs before hval0 hW hS hL
  have hval : ∀ (j : Nat) t v, Go.Proofs.Tryd.f6.params[j]? = some t → args[j]? = some v → Value.okWide Go.Proofs.Tryd.prog W .any base t v := hval0
  have hW' := hW
  obtain ⟨p, q, hA0, hV, rfl, _, _⟩ := hW
  have hA : DataW.TrodAll enc Go.Proofs.Tryd.prog W 0 (fun _ => true) true Go.Proofs.Tryd.f6.params.toList args.toList ds p := hA0
  rw [Go.Proofs.Tryd.params6] at hA hval
  obtain ⟨v, v2, d, d2, p1, p2, rfl, rfl, rfl, h0, h2⟩ := trodAll_two hA
  obtain ⟨rfl, rfl⟩ := trodVars_none hV
  simp only [List.append_nil] at hW'
  have hlt : ∀ x ∈ p1 ++ p2, x.block < W.heap.size := fun x hx => by simpa using hW'.lt x (by simpa using hx)
  obtain ⟨F, a0, a1, hh⟩ := open_hand (hval 0 25 v rfl rfl) h0
  obtain ⟨t, rfl, _, _, hsz⟩ := ChangeMaps.open_string Go.Proofs.Tryd.underlying9 (hval 1 9 v2 rfl rfl) h2
  have ht := str_len hsz
  have hl : F.fin.length ≤ 9223372036854775807 := by
    have h1 := hh.k0
    have h2 := hh.c0
    unfold maxLen at h2
    omega
  obtain ⟨g, hg⟩ := of_laid hL hS
  refine (hh.callG hg [stV t.data.toList] [.string t] (fun _ => str_list _ t) (fstBack_c g hg.x F t.data.toList hl ht)).mono fun e W' ⟨he, hn⟩ => ?_
  subst he
  have g0 : DataW.Trod enc Go.Proofs.Tryd.prog W' 0 (fun b => decide (b < W.heap.size)) true 25 v d p1 :=
    Below.trod Tryd.laidOut (by kernel_rfl) (of_decide_eq_true (by kernel_rfl)) h0 hn (fun x hx => hlt x (by simp [hx]))
  have g2 : DataW.Trod enc Go.Proofs.Tryd.prog W' 0 (fun b => decide (b < W.heap.size)) true 9 (.string t) d2 p2 :=
    Below.trod Tryd.laidOut (by kernel_rfl) (of_decide_eq_true (by kernel_rfl)) h2 hn (fun x hx => hlt x (by simp [hx]))
  exact ⟨_, rfl, _, _, _, [], _, [], hW', trodAll_mk1 (shut_bool Go.Proofs.Tryd.underlying4), trodAll_mk2 g0 g2, rfl, hn.frame _, fun h => by cases h⟩

theorem fstBack_row : Rows.FstBackSaid :=
  OpenClaim.holds_of_wide 6 Go.Proofs.Tryd.f6 rfl rfl rfl rfl rfl rfl rfl ⟨rfl, rfl, rfl, rfl, rfl⟩ rfl rfl rfl rfl rfl (by kernel_rfl) Go.Proofs.Tryd.func6 (by kernel_rfl)
    (of_decide_eq_true (by kernel_rfl)) (by unfold Func.isWrapper; first | (rw [if_pos (by decide +kernel)]; kernel_rfl) | (rw [if_neg (by decide +kernel)]; exact ⟨rfl, rfl⟩))
    (fun os started H enc _ => fstBack_lifted os started H enc)

theorem fstBack_holds : Rows.FstBackCardSaid :=
  Claim7.holds_tied_plain_at .later [] [.data, .data, .data, .data, .sentinel, .sentinel, .pinned] true (true, "1d494100f1f00e40d06e54ff489ff27fac38b45db4c52d4ebb04c509c62c29fd") true
    fstBack_row (fun _ h => by cases h) (by kernel_rfl) (fun _ h => by cases h) fstBack_row_tie rfl ⟨rfl, rfl⟩ (by kernel_rfl) rfl
    (fun f fn hf hfn => by
      obtain rfl : f = 6 := Option.some.inj ((show Go.Proofs.Tryd.prog.funcNamed "fareway/farewaylaw.FstBack" = some 6 by kernel_rfl).symm.trans hf) |>.symm
      obtain rfl : fn = Go.Proofs.Tryd.f6 := (Option.some.inj (Go.Proofs.Tryd.func6.symm.trans hfn)).symm
      exact ⟨by kernel_rfl, fun j t ht => by
        rw [Go.Proofs.Tryd.params6] at ht
        have hm : t ∈ [25, 9] := by simpa using Array.mem_of_getElem? ht
        have hall : ([25, 9].all fun u => !Go.Proofs.Tryd.prog.wantsStandIn u) = true := by kernel_rfl
        exact (show Go.Proofs.Tryd.prog.wantsStandIn t = false by simpa using List.all_eq_true.1 hall t hm)⟩)
    (by kernel_rfl)

end Go.Proofs.YtdijmfdanbnppaaDoor
