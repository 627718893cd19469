/-
  A walk goes from the start along arcs, reads and writes the words, and costs what Score says; what is trimmed costs the same: the law ScoreWalks returns true at every input and leaves its arguments as they were. Seven variables of the library are listed, as the row says; the card ties them.
-/
import Derived.Test.YtdijmfdanbnppaaDoorS07
import Derived.Test.YtdijmfdanbnppaaDoorS09
import Derived.Test.YtdijmfdanbnppaaDoorS14
import Derived.ChangeMaps5

set_option linter.unusedSimpArgs false
set_option linter.unusedVariables false

namespace Go.Proofs.YtdijmfdanbnppaaDoor
open Go Go.Fw Go.ChangeShapes Go.WideShapes Go.ChangeAt Go.RowKit

set_option maxRecDepth 100000 in
theorem scoreWalks_lifted (os : Os) (started : os.Started) (H : Type) (enc : TypeId × Value → H) :
    ReturnsInHanded {} Go.Proofs.Tryd.checked os 3 .any (fun w args => (Rows.scoreWalksSpec.pre enc Go.Proofs.Tryd.prog Go.Proofs.Tryd.f3 [] false w args ∧ laidMetH Go.Proofs.Tryd.prog laid7 w) ∧ sizedMet enc Go.Proofs.Tryd.prog Go.Proofs.Tryd.f3 (OpenSpec.ofChange Rows.scoreWalksSpec) false w args)
      (Rows.scoreWalksSpec.post enc Go.Proofs.Tryd.prog Go.Proofs.Tryd.f3 false true false false) := by
  refine handed_both (C := Go.Proofs.Tryd.checked) (X := fun w _ => laidMetH Go.Proofs.Tryd.prog laid7 w) (fun _ _ _ hh h => h.of_heap hh) Tryd.own started (by kernel_rfl) Go.Proofs.Tryd.func3
    (ChangeSpec.witness_shaped (enc := enc) (C := Go.Proofs.Tryd.checked) (os := os) (X := fun w _ => laidMetH Go.Proofs.Tryd.prog laid7 w) false (World.laidAll Go.Proofs.Tryd.prog os laid7) #[.agg #[.int .i64 0, .int .i64 0, .slice none 0 0, .slice none 0 0], .slice none 0 0, .slice none 0 0] 8 (World.laidAll_os _ _ _) (World.shaped_of_ZipB (by kernel_rfl) (by kernel_rfl)) (by kernel_rfl) (by kernel_rfl) (by kernel_rfl) (door_met os _)) ?_
  intro W base args ds gs before hval0 hW hS hL
  have hval : ∀ (j : Nat) t v, Go.Proofs.Tryd.f3.params[j]? = some t → args[j]? = some v → Value.okWide Go.Proofs.Tryd.prog W .any base t v := hval0
  have hW' := hW
  obtain ⟨p, q, hA0, hV, rfl, _, _⟩ := hW
  have hA : DataW.TrodAll enc Go.Proofs.Tryd.prog W 0 (fun _ => true) true Go.Proofs.Tryd.f3.params.toList args.toList ds p := hA0
  rw [Go.Proofs.Tryd.params3] at hA hval
  obtain ⟨v, v2, v3, d, d2, d3, p1, p2, p3, rfl, rfl, rfl, h0, h2, h3⟩ := trodAll_three hA
  obtain ⟨rfl, rfl⟩ := trodVars_none hV
  simp only [List.append_nil] at hW'
  have hlt : ∀ x ∈ p1 ++ (p2 ++ p3), x.block < W.heap.size := fun x hx => by simpa using hW'.lt x (by simpa using hx)
  obtain ⟨F, a0, a1, hh⟩ := open_hand (hval 0 25 v rfl rfl) h0
  obtain ⟨aa, la, ca, rfl⟩ := okWide_slice Go.Proofs.Tryd.underlying22 (hval 1 22 v2 rfl rfl)
  obtain ⟨n2, h2'⟩ := id h2
  obtain ⟨a2, us, cu, e2, l2, _, _, _, _⟩ := open_lentI Go.Proofs.Tryd.underlying22 Go.Proofs.Tryd.underlying3 (by kernel_rfl) h2'
  obtain ⟨ab, lb, cb, rfl⟩ := okWide_slice Go.Proofs.Tryd.underlying22 (hval 2 22 v3 rfl rfl)
  obtain ⟨n3, h3'⟩ := id h3
  obtain ⟨a3, vs, cv, e3, l3, _, _, _, _⟩ := open_lentI Go.Proofs.Tryd.underlying22 Go.Proofs.Tryd.underlying3 (by kernel_rfl) h3'
  rw [e2] at h2 hW' ⊢
  rw [e3] at h3 hW' ⊢
  have hl : F.fin.length ≤ 9223372036854775807 := by
    have h1 := hh.k0
    have h2 := hh.c0
    unfold maxLen at h2
    omega
  obtain ⟨g, hg⟩ := of_laid hL hS
  refine (hh.callQ hg l2 l3 (scoreWalks_c g hg.x F us vs cu cv hl)).mono fun e W' ⟨he, hn⟩ => ?_
  subst he
  have g0 : DataW.Trod enc Go.Proofs.Tryd.prog W' 0 (fun b => decide (b < W.heap.size)) true 25 v d p1 :=
    Below.trod Tryd.laidOut (by kernel_rfl) (of_decide_eq_true (by kernel_rfl)) h0 hn (fun x hx => hlt x (by simp [hx]))
  have g2 : DataW.Trod enc Go.Proofs.Tryd.prog W' 0 (fun b => decide (b < W.heap.size)) true 22 (.slice a2 us.length cu) d2 p2 :=
    Below.trod Tryd.laidOut (by kernel_rfl) (of_decide_eq_true (by kernel_rfl)) h2 hn (fun x hx => hlt x (by simp [hx]))
  have g3 : DataW.Trod enc Go.Proofs.Tryd.prog W' 0 (fun b => decide (b < W.heap.size)) true 22 (.slice a3 vs.length cv) d3 p3 :=
    Below.trod Tryd.laidOut (by kernel_rfl) (of_decide_eq_true (by kernel_rfl)) h3 hn (fun x hx => hlt x (by simp [hx]))
  exact ⟨_, rfl, _, _, _, [], _, [], hW', trodAll_mk1 (shut_bool Go.Proofs.Tryd.underlying4), trodAll_mk3 g0 g2 g3, rfl, hn.frame _, fun h => by cases h⟩

theorem scoreWalks_row : Rows.ScoreWalksSaid :=
  OpenClaim.holds_of_wide 3 Go.Proofs.Tryd.f3 rfl rfl rfl rfl rfl rfl rfl ⟨rfl, rfl, rfl, rfl, rfl⟩ rfl rfl rfl rfl rfl (by kernel_rfl) Go.Proofs.Tryd.func3 (by kernel_rfl)
    (of_decide_eq_true (by kernel_rfl)) (by unfold Func.isWrapper; first | (rw [if_pos (by decide +kernel)]; kernel_rfl) | (rw [if_neg (by decide +kernel)]; exact ⟨rfl, rfl⟩))
    (fun os started H enc _ => scoreWalks_lifted os started H enc)

theorem scoreWalks_holds : Rows.ScoreWalksCardSaid :=
  Claim7.holds_tied_plain_at .later [] [.data, .data, .data, .data, .sentinel, .sentinel, .pinned] true (true, "1d494100f1f00e40d06e54ff489ff27fac38b45db4c52d4ebb04c509c62c29fd") true
    scoreWalks_row (fun _ h => by cases h) (by kernel_rfl) (fun _ h => by cases h) scoreWalks_row_tie rfl ⟨rfl, rfl⟩ (by kernel_rfl) rfl
    (fun f fn hf hfn => by
      obtain rfl : f = 3 := Option.some.inj ((show Go.Proofs.Tryd.prog.funcNamed "fareway/farewaylaw.ScoreWalks" = some 3 by kernel_rfl).symm.trans hf) |>.symm
      obtain rfl : fn = Go.Proofs.Tryd.f3 := (Option.some.inj (Go.Proofs.Tryd.func3.symm.trans hfn)).symm
      exact ⟨by kernel_rfl, fun j t ht => by
        rw [Go.Proofs.Tryd.params3] at ht
        have hm : t ∈ [25, 22, 22] := by simpa using Array.mem_of_getElem? ht
        have hall : ([25, 22, 22].all fun u => !Go.Proofs.Tryd.prog.wantsStandIn u) = true := by kernel_rfl
        exact (show Go.Proofs.Tryd.prog.wantsStandIn t = false by simpa using List.all_eq_true.1 hall t hm)⟩)
    (by kernel_rfl)

end Go.Proofs.YtdijmfdanbnppaaDoor
