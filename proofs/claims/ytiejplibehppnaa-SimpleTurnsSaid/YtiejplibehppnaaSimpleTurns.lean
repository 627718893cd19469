/-
  Invert and Project answer just what the document says, errors too; and turned twice it is as it was: the law SimpleTurns returns true at every input and leaves its arguments as they were. No condition.
-/
import Derived.Test.YtiejplibehppnaaQ06
import Derived.Test.YtiejplibehppnaaQ20
import Derived.Test.YtiejplibehppnaaRows

set_option linter.unusedSimpArgs false
set_option linter.unusedVariables false

namespace Go.Fw
open Go Go.Proofs Go.ChangeShapes Go.WideShapes Go.ChangeAt Go.RowKit Go.Deep Go.Joins

theorem Hand.call2 {W : World} {F : TF} {a0 a1 : Option Addr} {v : Value} (h : Hand W F a0 a1 v) {f : Nat} {n : Int} {b : Bool} (hc : Ct Try.prog f [fV F, .i n] [] (hpF F) 2 (Is 2 (.b b))) :
    Calls Try.prog f #[v, .int .i64 n] W fun e W' => e = .returned (.bool b) ∧ Below W.heap.size W W' := by
  have hs := lentSat (W := W) (hp := hpF F) (n := 2) (fun i => if i = 0 then a0 else a1) (by
    intro id o hl
    simp only [hpF, look_cons] at hl
    split at hl
    · rename_i e; subst e; cases hl; exact ⟨by omega, 3, .int, F.fin, rfl, h.l0⟩
    · split at hl
      · rename_i e; subst e; cases hl; exact ⟨by omega, 47, .arc, F.arcs, rfl, h.l1⟩
      · cases hl)
  have key := hc _ _ _ W hs
  have e1 : ([fV F, .i n].map (SV.den fun i => if i = 0 then a0 else a1) ++ ([] : List Value)).toArray = #[v, .int .i64 n] := by
    rw [h.val]
    simp only [fV, List.map_cons, List.map_nil, SV.den, SA.den, SC.den, List.append_nil, Nat.zero_mul, if_true, if_neg (show ¬ (1 = 0) by omega)]
    have hid : ∀ o : Option Addr, o.map (fun x => x.add 0) = o := fun o => by cases o <;> simp [add_zero]
    simp only [hid]
  rw [e1] at key
  refine key.mono ?_
  rintro e W' ⟨v', β', Z', fp', s', rfl, hn, rfl, rfl⟩
  exact ⟨rfl, hn.ext.below⟩
end Go.Fw

namespace Go.Proofs.Ytiejplibehppnaa
open Go Go.Fw Go.ChangeShapes Go.WideShapes Go.ChangeAt Go.RowKit

theorem Try.own : ownKnob Go.Proofs.Try.prog.godebug = none := by kernel_rfl
theorem Try.laidOut : laidOutB Go.Proofs.Try.prog = true := by kernel_rfl

theorem simpleTurns_c (F : TF) (side : Int) (hl : F.fin.length ≤ 9223372036854775807) : Ct Go.Proofs.Try.prog 6 [fV F, .i side] [] (hpF F) 2 (Is 2 (.b true)) := by
  by_cases h : fstE F = 0
  · by_cases hs : side = 1 ∨ side = 2
    · exact simpleTurns_ok F side hl h hs
    · exact simpleTurns_rng F side hl h hs
  · exact simpleTurns_no F side hl h

set_option maxRecDepth 100000 in
theorem simpleTurns_lifted (os : Os) (started : os.Started) (H : Type) (enc : TypeId × Value → H) :
    ReturnsInHanded {} Go.Proofs.Try.checked os 6 .any (Rows.simpleTurnsSpec.pre6 enc Go.Proofs.Try.prog Go.Proofs.Try.f6 Rows.simpleTurnsRow.domain false) (Rows.simpleTurnsSpec.post enc Go.Proofs.Try.prog Go.Proofs.Try.f6 false true false false) := by
  refine returnsInHanded_of_change_sized (C := Go.Proofs.Try.checked) Try.own started (by kernel_rfl) Go.Proofs.Try.func6
    (ChangeSpec.witness6 (enc := enc) (C := Go.Proofs.Try.checked) false ⟨#[], #[.agg #[.int .i64 0, .int .i64 0, .slice none 0 0, .slice none 0 0], .int .i64 0], []⟩ 8 (by kernel_rfl) (by kernel_rfl) (by kernel_rfl) (by kernel_rfl)) ?_
  intro W base args ds gs before hval0 hW _ _ _
  have hval : ∀ (j : Nat) t v, Go.Proofs.Try.f6.params[j]? = some t → args[j]? = some v → Value.okWide Go.Proofs.Try.prog W .any base t v := hval0
  have hW' := hW
  obtain ⟨p, q, hA0, hV, rfl, _, _⟩ := hW
  have hA : DataW.TrodAll enc Go.Proofs.Try.prog W 0 (fun _ => true) true Go.Proofs.Try.f6.params.toList args.toList ds p := hA0
  rw [Go.Proofs.Try.params6] at hA hval
  obtain ⟨v, v2, d, d2, p1, p2, rfl, rfl, rfl, h0, h2⟩ := trodAll_two hA
  obtain ⟨rfl, rfl⟩ := trodVars_none hV
  simp only [List.append_nil] at hW'
  have hlt : ∀ x ∈ p1 ++ p2, x.block < W.heap.size := fun x hx => by simpa using hW'.lt x (by simpa using hx)
  obtain ⟨F, a0, a1, hh⟩ := open_hand (hval 0 25 v rfl rfl) h0
  obtain ⟨n, rfl⟩ := okWide_int Go.Proofs.Try.underlying3 (hval 1 3 v2 rfl rfl)
  have hl : F.fin.length ≤ 9223372036854775807 := by
    have h1 := hh.k0
    have h2 := hh.c0
    unfold maxLen at h2
    omega
  refine (hh.call2 (simpleTurns_c F n hl)).mono fun e W' ⟨he, hn⟩ => ?_
  subst he
  have g0 : DataW.Trod enc Go.Proofs.Try.prog W' 0 (fun b => decide (b < W.heap.size)) true 25 v d p1 :=
    Below.trod Try.laidOut (by kernel_rfl) (of_decide_eq_true (by kernel_rfl)) h0 hn (fun x hx => hlt x (by simp [hx]))
  have g2 : DataW.Trod enc Go.Proofs.Try.prog W' 0 (fun b => decide (b < W.heap.size)) true 3 (.int .i64 n) d2 p2 :=
    Below.trod Try.laidOut (by kernel_rfl) (of_decide_eq_true (by kernel_rfl)) h2 hn (fun x hx => hlt x (by simp [hx]))
  exact ⟨_, rfl, _, _, _, [], _, [], hW', trodAll_mk1 (shut_bool Go.Proofs.Try.underlying4), trodAll_mk2 g0 g2, rfl, hn.frame _, fun h => by cases h⟩

theorem simpleTurns_holds : Rows.SimpleTurnsSaid :=
  OpenClaim.holds_of_wide 6 Go.Proofs.Try.f6 rfl rfl rfl rfl rfl rfl rfl ⟨rfl, rfl, rfl, rfl, rfl⟩ rfl rfl rfl rfl rfl (by kernel_rfl) Go.Proofs.Try.func6 (by kernel_rfl)
    (of_decide_eq_true (by kernel_rfl)) (by unfold Func.isWrapper; first | (rw [if_pos (by decide +kernel)]; kernel_rfl) | (rw [if_neg (by decide +kernel)]; exact ⟨rfl, rfl⟩))
    (fun os started H enc _ => simpleTurns_lifted os started H enc)

end Go.Proofs.Ytiejplibehppnaa
