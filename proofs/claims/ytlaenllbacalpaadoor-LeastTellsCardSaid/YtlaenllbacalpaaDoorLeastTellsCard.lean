/-
  Least answers just what the document says, errors too, whatever it is handed: the law LeastTells returns true at every input and leaves its argument as it was. Three tables of the library are listed, as the row says; the card ties them.
-/
import Derived.Test.YtlaenllbacalpaaDoorV07
import Derived.Test.YtlaenllbacalpaaDoorV20
import Derived.Test.YtlaenllbacalpaaDoorTie
import Derived.Test.YtlaenllbacalpaaDoorCards
import Derived.LaidMore
import Derived.LaidHandle
import Derived.MakeChecks
import Derived.Lib.LaidTab
import Derived.OpenShut
import Derived.SevenTiedAt

set_option linter.unusedSimpArgs false
set_option linter.unusedVariables false

namespace Go.Proofs.YtlaenllbacalpaaDoor
open Go Go.Fw Go.ChangeShapes Go.WideShapes Go.ChangeAt Go.RowKit

theorem Tryd.own : ownKnob Go.Proofs.Tryd.prog.godebug = none := by kernel_rfl
theorem Tryd.laidOut : laidOutB Go.Proofs.Tryd.prog = true := by kernel_rfl

/-- The three tables. -/
abbrev laid3 : List (String × DataW Unit) := [("math/bits.deBruijn32tab", Rows.laid_math_bits_deBruijn32tab), ("math/bits.deBruijn64tab", Rows.laid_math_bits_deBruijn64tab), ("internal/strconv.uint64pow10", Rows.laid_internal_strconv_uint64pow10)]

theorem tab_data : (Rows.laid_internal_strconv_uint64pow10 : DataW Unit) = Lib.tabData .u64 Lib.pow10Tab := by kernel_rfl
theorem tab_type : (Go.Proofs.Tryd.prog.globals[0]?).map (·.type) = some 146 := by kernel_rfl

/-- What the row's list gives: the table's block. -/
theorem of_laid {W : World} (h : laidMetH Go.Proofs.Tryd.prog laid3 W) : ∃ x, W.heap[0]? = some x ∧ TabX x := by
  rw [MakeChecks.laidMetH_plain _ _ _ (by kernel_rfl)] at h
  obtain ⟨ps, ⟨g0, t0, cs0, f0, p0, q0, hg0, ht0, hv0, hd0, ⟨g1, t1, cs1, f1, p1, q1, hg1, ht1, hv1, hd1, ⟨g2, t2, cs2, f2, p2, q2, hg2, ht2, hv2, hd2, _, _⟩, _⟩, _⟩, _⟩ := h
  obtain rfl := Option.some.inj (tab_glob.symm.trans hg2)
  obtain rfl := Option.some.inj (tab_type.symm.trans ht2)
  rw [tab_data] at hd2
  have hc := Lib.cells_of_tab Go.Proofs.Tryd.underlying146 Go.Proofs.Tryd.underlying135 (by kernel_rfl) (by kernel_rfl) hd2
  unfold World.var? at hv2
  rw [tab_glob] at hv2
  simp only [Option.bind_some] at hv2
  split at hv2
  · rename_i cs c t hh
    cases hv2
    refine ⟨_, hh, ?_⟩
    show cs2 = _
    rw [← hc]
  · cases hv2

theorem door_met (os : Os) (args : Array Value) : laidMetH Go.Proofs.Tryd.prog laid3 ((World.doorLaid Go.Proofs.Tryd.prog 24 os).forCall (fun _ _ => 0) ⟨#[], args, []⟩).memory :=
  laidMetH_of_parts3 (fuel := 8) (laidMet_of_run' 8 (by kernel_rfl) (by kernel_rfl)) (by kernel_rfl) (by kernel_rfl)

set_option maxRecDepth 100000 in
theorem leastTells_lifted (os : Os) (started : os.Started) (H : Type) (enc : TypeId × Value → H) :
    ReturnsInHanded {} Go.Proofs.Tryd.checked os 5 .any (fun w args => (Rows.leastTellsSpec.pre enc Go.Proofs.Tryd.prog Go.Proofs.Tryd.f5 [] false w args ∧ laidMetH Go.Proofs.Tryd.prog laid3 w) ∧ sizedMet enc Go.Proofs.Tryd.prog Go.Proofs.Tryd.f5 (OpenSpec.ofChange Rows.leastTellsSpec) false w args)
      (Rows.leastTellsSpec.post enc Go.Proofs.Tryd.prog Go.Proofs.Tryd.f5 false true false false) := by
  refine returnsInHanded_of_change_and (C := Go.Proofs.Tryd.checked) (X := fun w _ => laidMetH Go.Proofs.Tryd.prog laid3 w) (fun _ _ _ hh h => h.of_heap hh) Tryd.own started (by kernel_rfl) Go.Proofs.Tryd.func5
    (ChangeSpec.witness_shaped (enc := enc) (C := Go.Proofs.Tryd.checked) (os := os) (X := fun w _ => laidMetH Go.Proofs.Tryd.prog laid3 w) false (World.doorLaid Go.Proofs.Tryd.prog 24 os) #[.agg #[.int .i64 0, .int .i64 0, .slice none 0 0, .slice none 0 0]] 8 rfl (World.shaped_of_RefB (by kernel_rfl) (by kernel_rfl)) (by kernel_rfl) (by kernel_rfl) (by kernel_rfl) (door_met os _)) ?_
  intro W base args ds gs before hval0 hW _ _ hL _
  have hval : ∀ (j : Nat) t v, Go.Proofs.Tryd.f5.params[j]? = some t → args[j]? = some v → Value.okWide Go.Proofs.Tryd.prog W .any base t v := hval0
  have hW' := hW
  obtain ⟨p, q, hA0, hV, rfl, _, _⟩ := hW
  have hA : DataW.TrodAll enc Go.Proofs.Tryd.prog W 0 (fun _ => true) true Go.Proofs.Tryd.f5.params.toList args.toList ds p := hA0
  rw [Go.Proofs.Tryd.params5] at hA hval
  obtain ⟨v, d, rfl, rfl, h0⟩ := trodAll_one hA
  obtain ⟨rfl, rfl⟩ := trodVars_none hV
  simp only [List.append_nil] at hW'
  have hlt : ∀ x ∈ p, x.block < W.heap.size := fun x hx => by simpa using hW'.lt x hx
  obtain ⟨F, a0, a1, hh⟩ := open_hand (hval 0 25 v rfl rfl) h0
  have hl : F.fin.length ≤ 9223372036854775807 := by
    have h1 := hh.k0
    have h2 := hh.c0
    unfold maxLen at h2
    omega
  obtain ⟨x, hw, hx⟩ := of_laid hL
  refine (hh.call1T hx hw (leastTells_c F hl x hx)).mono fun e W' ⟨he, hn⟩ => ?_
  subst he
  have harg : DataW.Trod enc Go.Proofs.Tryd.prog W' 0 (fun b => decide (b < W.heap.size)) true 25 v d p :=
    Below.trod Tryd.laidOut (by kernel_rfl) (of_decide_eq_true (by kernel_rfl)) h0 hn hlt
  exact ⟨_, rfl, _, _, _, [], _, [], hW', trodAll_mk1 (shut_bool Go.Proofs.Tryd.underlying4), trodAll_mk1 harg, rfl, hn.frame _, fun h => by cases h⟩

theorem leastTells_row : Rows.LeastTellsSaid :=
  OpenClaim.holds_of_wide 5 Go.Proofs.Tryd.f5 rfl rfl rfl rfl rfl rfl rfl ⟨rfl, rfl, rfl, rfl, rfl⟩ rfl rfl rfl rfl rfl (by kernel_rfl) Go.Proofs.Tryd.func5 (by kernel_rfl)
    (of_decide_eq_true (by kernel_rfl)) (by unfold Func.isWrapper; first | (rw [if_pos (by decide +kernel)]; kernel_rfl) | (rw [if_neg (by decide +kernel)]; exact ⟨rfl, rfl⟩))
    (fun os started H enc _ => leastTells_lifted os started H enc)

theorem leastTells_holds : Rows.LeastTellsCardSaid :=
  Claim7.holds_tied_plain_at .later [] [.data, .data, .data] true (true, "f030082402694e830d1ebb4defff56591ebc67cccb67361bbd5f105e04e938e3") false
    leastTells_row (fun _ h => by cases h) (by kernel_rfl) (fun _ h => by cases h) leastTells_row_tie rfl ⟨rfl, rfl⟩ (by kernel_rfl) rfl
    (fun f fn hf hfn => by
      obtain rfl : f = 5 := Option.some.inj ((show Go.Proofs.Tryd.prog.funcNamed "fareway/farewaylaw.LeastTells" = some 5 by kernel_rfl).symm.trans hf) |>.symm
      obtain rfl : fn = Go.Proofs.Tryd.f5 := (Option.some.inj (Go.Proofs.Tryd.func5.symm.trans hfn)).symm
      exact ⟨by kernel_rfl, fun j t ht => by
        rw [Go.Proofs.Tryd.params5] at ht
        have hm : t ∈ [25] := by simpa using Array.mem_of_getElem? ht
        have hall : ([25].all fun u => !Go.Proofs.Tryd.prog.wantsStandIn u) = true := by kernel_rfl
        exact (show Go.Proofs.Tryd.prog.wantsStandIn t = false by simpa using List.all_eq_true.1 hall t hm)⟩)
    (by kernel_rfl)

end Go.Proofs.YtlaenllbacalpaaDoor
