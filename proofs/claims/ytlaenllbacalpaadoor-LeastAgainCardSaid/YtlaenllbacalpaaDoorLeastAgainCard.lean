/-
  The least of the least is itself, it costs the same for each word twice, and has no more states than what was determined; two that are the same cost the same: the law LeastAgain returns true at every input and leaves its arguments as they were. Three tables of the library are listed, as the row says; the card ties them.
-/
import Derived.Test.YtlaenllbacalpaaDoorB07
import Derived.Test.YtlaenllbacalpaaDoorB20
import Derived.Test.YtlaenllbacalpaaDoorTie
import Derived.Test.YtlaenllbacalpaaDoorCards
import Derived.LaidMore
import Derived.LaidHandle
import Derived.MakeChecks
import Derived.Lib.LaidTab
import Derived.OpenShut
import Derived.SevenTiedAt

set_option linter.unusedSimpArgs false
set_option linter.unusedVariables false

namespace Go.Fw
open Go Go.Proofs Go.ChangeShapes Go.WideShapes Go.ChangeAt Go.RowKit Go.Deep Go.Joins
theorem Hand.call3G {W : World} {F G : TF} {a0 a1 a2 a3 a4 : Option Addr} {v v2 : Value} (h : Hand W F a0 a1 v) (h' : Hand W G a2 a3 v2) {l : List Int} {cl : Nat} (h2 : Lent W a4 .int l) {x : Obj} (hx : TabX x) (hw : W.heap[0]? = some x) {f : Nat} (hc : Ct Tryd.prog f [fV F, gV G, .c (.sl 4 1 0 l.length cl)] [] (hpAg F G l x) 6 (fun v s => v = .b true ∧ s = ⟨[], [(5, tabO x)], 6⟩)) :
    Calls Tryd.prog f #[v, v2, .slice a4 l.length cl] W fun e W' => e = .returned (.bool true) ∧ Below W.heap.size W W' := by
  have hs0 := lentSatT (W := W) (hp := hpG F G ++ [(4, .arr false 3 .int l 0)]) (n := 5) (fun i => if i = 0 then a0 else if i = 1 then a1 else if i = 2 then a2 else if i = 3 then a3 else a4) hx hw (by
    intro id o hl
    simp only [hpG, List.cons_append, List.nil_append, look_cons] at hl
    split at hl
    · rename_i e; subst e; cases hl; exact ⟨by omega, 3, .int, F.fin, rfl, h.l0, int_cell⟩
    · split at hl
      · rename_i e; subst e; cases hl; exact ⟨by omega, 50, .arc, F.arcs, rfl, h.l1, arc_cell⟩
      · split at hl
        · rename_i e; subst e; cases hl; exact ⟨by omega, 3, .int, G.fin, rfl, h'.l0, int_cell⟩
        · split at hl
          · rename_i e; subst e; cases hl; exact ⟨by omega, 50, .arc, G.arcs, rfl, h'.l1, arc_cell⟩
          · split at hl
            · rename_i e; subst e; cases hl; exact ⟨by omega, 3, .int, l, rfl, h2, int_cell⟩
            · cases hl)
  have hs := hs0.cons_perm (hp' := hpAg F G l x) (fun id => by
    simp only [hpAg, hpG, List.cons_append, List.nil_append, look_cons]
    by_cases e0 : 0 = id
    · subst e0; simp
    · by_cases e1 : 1 = id
      · subst e1; simp
      · by_cases e2 : 2 = id
        · subst e2; simp
        · by_cases e3 : 3 = id
          · subst e3; simp
          · by_cases e4 : 4 = id
            · subst e4; simp
            · by_cases e5 : 5 = id
              · subst e5; simp
              · simp [e0, e1, e2, e3, e4, e5, look])
  have key := hc _ _ _ W hs
  have e1 : ([fV F, gV G, .c (.sl 4 1 0 l.length cl)].map (SV.den fun i => if i = 0 then a0 else if i = 1 then a1 else if i = 2 then a2 else if i = 3 then a3 else a4) ++ ([] : List Value)).toArray = #[v, v2, .slice a4 l.length cl] := by
    rw [h.val, h'.val]
    have hid : ∀ o : Option Addr, o.map (fun x => x.add 0) = o := fun o => by cases o <;> simp [add_zero]
    simp [fV, gV, SV.den, SA.den, SC.den, hid]
  rw [e1] at key
  refine key.mono ?_
  rintro e W' ⟨v', β', Z', fp', s', rfl, hn, rfl, rfl⟩
  refine ⟨rfl, hn.ext.os, hn.ext.tape, hn.ext.output, hn.ext.size, fun k hk => ?_⟩
  by_cases e : k = 0
  · subst e
    have := (hn.sat.obj 5 _ rfl).1.2
    rw [this, hw]
  · exact hn.ext.block k ⟨hk, e⟩
end Go.Fw
namespace Go.Proofs.YtlaenllbacalpaaDoor
open Go Go.Fw Go.ChangeShapes Go.WideShapes Go.ChangeAt Go.RowKit
theorem Tryd.own : ownKnob Go.Proofs.Tryd.prog.godebug = none := by kernel_rfl
theorem Tryd.laidOut : laidOutB Go.Proofs.Tryd.prog = true := by kernel_rfl
abbrev laid3 : List (String × DataW Unit) := [("math/bits.deBruijn32tab", Rows.laid_math_bits_deBruijn32tab), ("math/bits.deBruijn64tab", Rows.laid_math_bits_deBruijn64tab), ("internal/strconv.uint64pow10", Rows.laid_internal_strconv_uint64pow10)]
theorem tab_data : (Rows.laid_internal_strconv_uint64pow10 : DataW Unit) = Lib.tabData .u64 Lib.pow10Tab := by kernel_rfl
theorem tab_type : (Go.Proofs.Tryd.prog.globals[0]?).map (·.type) = some 146 := by kernel_rfl
theorem of_laid {W : World} (h : laidMetH Go.Proofs.Tryd.prog laid3 W) : ∃ x, W.heap[0]? = some x ∧ TabX x := by
  rw [MakeChecks.laidMetH_plain _ _ _ (by kernel_rfl)] at h
  obtain ⟨ps, ⟨g0, t0, cs0, f0, p0, q0, hg0, ht0, hv0, hd0, ⟨g1, t1, cs1, f1, p1, q1, hg1, ht1, hv1, hd1, ⟨g2, t2, cs2, f2, p2, q2, hg2, ht2, hv2, hd2, _, _⟩, _⟩, _⟩, _⟩ := h
  obtain rfl := Option.some.inj (tab_glob.symm.trans hg2)
  obtain rfl := Option.some.inj (tab_type.symm.trans ht2)
  rw [tab_data] at hd2
  have hc := Lib.cells_of_tab Go.Proofs.Tryd.underlying146 Go.Proofs.Tryd.underlying135 (by kernel_rfl) (by kernel_rfl) hd2
  unfold World.var? at hv2
  rw [tab_glob] at hv2
  simp only [Option.bind_some] at hv2
  split at hv2
  · rename_i cs c t hh
    cases hv2
    refine ⟨_, hh, ?_⟩
    show cs2 = _
    rw [← hc]
  · cases hv2
theorem door_met (os : Os) (args : Array Value) : laidMetH Go.Proofs.Tryd.prog laid3 ((World.doorLaid Go.Proofs.Tryd.prog 24 os).forCall (fun _ _ => 0) ⟨#[], args, []⟩).memory :=
  laidMetH_of_parts3 (fuel := 8) (laidMet_of_run' 8 (by kernel_rfl) (by kernel_rfl)) (by kernel_rfl) (by kernel_rfl)
set_option maxRecDepth 100000 in
theorem leastAgain_lifted (os : Os) (started : os.Started) (H : Type) (enc : TypeId × Value → H) :
    ReturnsInHanded {} Go.Proofs.Tryd.checked os 7 .any (fun w args => (Rows.leastAgainSpec.pre enc Go.Proofs.Tryd.prog Go.Proofs.Tryd.f7 [] false w args ∧ laidMetH Go.Proofs.Tryd.prog laid3 w) ∧ sizedMet enc Go.Proofs.Tryd.prog Go.Proofs.Tryd.f7 (OpenSpec.ofChange Rows.leastAgainSpec) false w args)
      (Rows.leastAgainSpec.post enc Go.Proofs.Tryd.prog Go.Proofs.Tryd.f7 false true false false) := by
  refine returnsInHanded_of_change_and (C := Go.Proofs.Tryd.checked) (X := fun w _ => laidMetH Go.Proofs.Tryd.prog laid3 w) (fun _ _ _ hh h => h.of_heap hh) Tryd.own started (by kernel_rfl) Go.Proofs.Tryd.func7
    (ChangeSpec.witness_shaped (enc := enc) (C := Go.Proofs.Tryd.checked) (os := os) (X := fun w _ => laidMetH Go.Proofs.Tryd.prog laid3 w) false (World.doorLaid Go.Proofs.Tryd.prog 24 os) #[.agg #[.int .i64 0, .int .i64 0, .slice none 0 0, .slice none 0 0], .agg #[.int .i64 0, .int .i64 0, .slice none 0 0, .slice none 0 0], .slice none 0 0] 8 rfl (World.shaped_of_RefB (by kernel_rfl) (by kernel_rfl)) (by kernel_rfl) (by kernel_rfl) (by kernel_rfl) (door_met os _)) ?_
  intro W base args ds gs before hval0 hW _ _ hL _
  have hval : ∀ (j : Nat) t v, Go.Proofs.Tryd.f7.params[j]? = some t → args[j]? = some v → Value.okWide Go.Proofs.Tryd.prog W .any base t v := hval0
  have hW' := hW
  obtain ⟨p, q, hA0, hV, rfl, _, _⟩ := hW
  have hA : DataW.TrodAll enc Go.Proofs.Tryd.prog W 0 (fun _ => true) true Go.Proofs.Tryd.f7.params.toList args.toList ds p := hA0
  rw [Go.Proofs.Tryd.params7] at hA hval
  obtain ⟨v, v2, v3, d, d2, d3, p1, p2, p3, rfl, rfl, rfl, h0, h2, h3⟩ := trodAll_three hA
  obtain ⟨rfl, rfl⟩ := trodVars_none hV
  simp only [List.append_nil] at hW'
  have hlt : ∀ x ∈ p1 ++ (p2 ++ p3), x.block < W.heap.size := fun x hx => by simpa using hW'.lt x (by simpa using hx)
  obtain ⟨F, a0, a1, hh⟩ := open_hand (hval 0 25 v rfl rfl) h0
  obtain ⟨G, a2, a3, hg⟩ := open_hand (hval 1 25 v2 rfl rfl) h2
  obtain ⟨aa, la, ca, rfl⟩ := okWide_slice Go.Proofs.Tryd.underlying22 (hval 2 22 v3 rfl rfl)
  obtain ⟨n3, h3'⟩ := id h3
  obtain ⟨a4, xs, cx, e3, l3, _, _, _, _⟩ := open_lentI Go.Proofs.Tryd.underlying22 Go.Proofs.Tryd.underlying3 (by kernel_rfl) h3'
  rw [e3] at h3 hW' ⊢
  have hl : F.fin.length ≤ 9223372036854775807 := by
    have h1 := hh.k0
    have h2 := hh.c0
    unfold maxLen at h2
    omega
  have hl2 : G.fin.length ≤ 9223372036854775807 := by
    have h1 := hg.k0
    have h2 := hg.c0
    unfold maxLen at h2
    omega
  obtain ⟨x, hw, hx⟩ := of_laid hL
  refine (hh.call3G hg l3 hx hw (leastAgain_c F G xs cx hl hl2 x hx)).mono fun e W' ⟨he, hn⟩ => ?_
  subst he
  have g0 : DataW.Trod enc Go.Proofs.Tryd.prog W' 0 (fun b => decide (b < W.heap.size)) true 25 v d p1 :=
    Below.trod Tryd.laidOut (by kernel_rfl) (of_decide_eq_true (by kernel_rfl)) h0 hn (fun x hx => hlt x (by simp [hx]))
  have g2 : DataW.Trod enc Go.Proofs.Tryd.prog W' 0 (fun b => decide (b < W.heap.size)) true 25 v2 d2 p2 :=
    Below.trod Tryd.laidOut (by kernel_rfl) (of_decide_eq_true (by kernel_rfl)) h2 hn (fun x hx => hlt x (by simp [hx]))
  have g3 : DataW.Trod enc Go.Proofs.Tryd.prog W' 0 (fun b => decide (b < W.heap.size)) true 22 (.slice a4 xs.length cx) d3 p3 :=
    Below.trod Tryd.laidOut (by kernel_rfl) (of_decide_eq_true (by kernel_rfl)) h3 hn (fun x hx => hlt x (by simp [hx]))
  exact ⟨_, rfl, _, _, _, [], _, [], hW', trodAll_mk1 (shut_bool Go.Proofs.Tryd.underlying4), trodAll_mk3 g0 g2 g3, rfl, hn.frame _, fun h => by cases h⟩
theorem leastAgain_row : Rows.LeastAgainSaid :=
  OpenClaim.holds_of_wide 7 Go.Proofs.Tryd.f7 rfl rfl rfl rfl rfl rfl rfl ⟨rfl, rfl, rfl, rfl, rfl⟩ rfl rfl rfl rfl rfl (by kernel_rfl) Go.Proofs.Tryd.func7 (by kernel_rfl)
    (of_decide_eq_true (by kernel_rfl)) (by unfold Func.isWrapper; first | (rw [if_pos (by decide +kernel)]; kernel_rfl) | (rw [if_neg (by decide +kernel)]; exact ⟨rfl, rfl⟩))
    (fun os started H enc _ => leastAgain_lifted os started H enc)
theorem leastAgain_holds : Rows.LeastAgainCardSaid :=
  Claim7.holds_tied_plain_at .later [] [.data, .data, .data] true (true, "f030082402694e830d1ebb4defff56591ebc67cccb67361bbd5f105e04e938e3") false
    leastAgain_row (fun _ h => by cases h) (by kernel_rfl) (fun _ h => by cases h) leastAgain_row_tie rfl ⟨rfl, rfl⟩ (by kernel_rfl) rfl
    (fun f fn hf hfn => by
      obtain rfl : f = 7 := Option.some.inj ((show Go.Proofs.Tryd.prog.funcNamed "fareway/farewaylaw.LeastAgain" = some 7 by kernel_rfl).symm.trans hf) |>.symm
      obtain rfl : fn = Go.Proofs.Tryd.f7 := (Option.some.inj (Go.Proofs.Tryd.func7.symm.trans hfn)).symm
      exact ⟨by kernel_rfl, fun j t ht => by
        rw [Go.Proofs.Tryd.params7] at ht
        have hm : t ∈ [25, 25, 22] := by simpa using Array.mem_of_getElem? ht
        have hall : ([25, 25, 22].all fun u => !Go.Proofs.Tryd.prog.wantsStandIn u) = true := by kernel_rfl
        exact (show Go.Proofs.Tryd.prog.wantsStandIn t = false by simpa using List.all_eq_true.1 hall t hm)⟩)
    (by kernel_rfl)
end Go.Proofs.YtlaenllbacalpaaDoor
