/-
  No cell of these rows narrows 'for every input' (looked for: loops, veiled, ifaces, maps, wideKeys, modest, calm, conditions, laid).
  DERIVED. THE GIVEN ROWS OF THIS SEAT. 7 by the template 'for every input the law returns true; each argument reads behind the call as it read before'; 0 by the template 'total and deterministic' (their statements: YtlpfbhmfddbgdaaTotals.lean).
  GIVEN WITH THE SEED: the statements are not yours to turn. If you find one false, say at which input.
  Laid BY PROGRAM, IN A SANDBOX (cutbox-rows.mjs): the forced cells as the released guide's own fill.sh prints them over the translation f3ae76965f7fc699… (all of the seat's roots in one cut). By AI agents, Wed Nov 11 2026. No macro, syntax, notation, axiom, sorry.
-/
import Derived.Test.YtlpfbhmfddbgdaaChecked
import GoSem.Claim
import GoSem.ClaimJoined
import GoSem.ClaimMapViews
import Derived.JoinedTies
import Derived.KernelRfl
namespace Go.Proofs.Ytlpfbhmfddbgdaa
/- THE CELL 'sum', in the pinned program and in every row, IS THE sha256 OF THE DUMP (.gsa) THAT YtlpfbhmfddbgdaaProg.lean LOADS. Nothing in Lean hashes anything: it is a label: what it is worth is what the hold of that sum in a sandbox is worth. -/
noncomputable def Try.pinned : Pinned := { name := "ytlpfbhmfddbgdaa", sum := "f3ae76965f7fc69920fa68b9c0098f27b348733562a577e58cca39452861ee26", checked := Try.checked }
namespace Rows
def none {H : Type} : Left H := { results := [], args := [] }

/-- 'farewaylaw.ScoreTells': WHATEVER THE INPUT: true; the input reads as it did. -/
def scoreTellsSpec : ChangeSpec := { name := "scoreTells", fn := fun _ => fun
  | [d1, d2, d3] => { results := [.lit (.bool true)], args := [d1, d2, d3] }
  | _ => none }
def scoreTellsRow : OpenClaim := { program := "ytlpfbhmfddbgdaa", sum := "f3ae76965f7fc69920fa68b9c0098f27b348733562a577e58cca39452861ee26", func := "fareway/farewaylaw.ScoreTells", spec := "scoreTells", unfollowed := true, recurses := true, plainKeys := false, apart := false }
def ScoreTellsSaid : Prop := scoreTellsRow.holds Try.pinned (OpenSpec.ofChange scoreTellsSpec)

/-- ITS FALSE NEIGHBOUR: 'it returns false'. Refute it at one input. -/
def scoreTellsWrong : ChangeSpec := { name := "scoreTells", fn := fun _ => fun
  | [d1, d2, d3] => { results := [.lit (.bool false)], args := [d1, d2, d3] }
  | _ => none }
def ScoreTellsWrongFalsely : Prop := scoreTellsRow.holds Try.pinned (OpenSpec.ofChange scoreTellsWrong)

/-- 'farewaylaw.ShortTells': WHATEVER THE INPUT: true; the input reads as it did. -/
def shortTellsSpec : ChangeSpec := { name := "shortTells", fn := fun _ => fun
  | [d] => { results := [.lit (.bool true)], args := [d] }
  | _ => none }
def shortTellsRow : OpenClaim := { program := "ytlpfbhmfddbgdaa", sum := "f3ae76965f7fc69920fa68b9c0098f27b348733562a577e58cca39452861ee26", func := "fareway/farewaylaw.ShortTells", spec := "shortTells", unfollowed := true, recurses := true, plainKeys := false, apart := false }
def ShortTellsSaid : Prop := shortTellsRow.holds Try.pinned (OpenSpec.ofChange shortTellsSpec)

/-- ITS FALSE NEIGHBOUR: 'it returns false'. Refute it at one input. -/
def shortTellsWrong : ChangeSpec := { name := "shortTells", fn := fun _ => fun
  | [d] => { results := [.lit (.bool false)], args := [d] }
  | _ => none }
def ShortTellsWrongFalsely : Prop := shortTellsRow.holds Try.pinned (OpenSpec.ofChange shortTellsWrong)

/-- 'farewaylaw.ShortBest': WHATEVER THE INPUT: true; the input reads as it did. -/
def shortBestSpec : ChangeSpec := { name := "shortBest", fn := fun _ => fun
  | [d1, d2, d3] => { results := [.lit (.bool true)], args := [d1, d2, d3] }
  | _ => none }
def shortBestRow : OpenClaim := { program := "ytlpfbhmfddbgdaa", sum := "f3ae76965f7fc69920fa68b9c0098f27b348733562a577e58cca39452861ee26", func := "fareway/farewaylaw.ShortBest", spec := "shortBest", unfollowed := true, recurses := true, plainKeys := false, apart := false }
def ShortBestSaid : Prop := shortBestRow.holds Try.pinned (OpenSpec.ofChange shortBestSpec)

/-- ITS FALSE NEIGHBOUR: 'it returns false'. Refute it at one input. -/
def shortBestWrong : ChangeSpec := { name := "shortBest", fn := fun _ => fun
  | [d1, d2, d3] => { results := [.lit (.bool false)], args := [d1, d2, d3] }
  | _ => none }
def ShortBestWrongFalsely : Prop := shortBestRow.holds Try.pinned (OpenSpec.ofChange shortBestWrong)

/-- 'farewaylaw.SimpleTurns': WHATEVER THE INPUT: true; the input reads as it did. -/
def simpleTurnsSpec : ChangeSpec := { name := "simpleTurns", fn := fun _ => fun
  | [d1, d2] => { results := [.lit (.bool true)], args := [d1, d2] }
  | _ => none }
def simpleTurnsRow : OpenClaim := { program := "ytlpfbhmfddbgdaa", sum := "f3ae76965f7fc69920fa68b9c0098f27b348733562a577e58cca39452861ee26", func := "fareway/farewaylaw.SimpleTurns", spec := "simpleTurns", unfollowed := true, recurses := true, plainKeys := false, apart := false }
def SimpleTurnsSaid : Prop := simpleTurnsRow.holds Try.pinned (OpenSpec.ofChange simpleTurnsSpec)

/-- ITS FALSE NEIGHBOUR: 'it returns false'. Refute it at one input. -/
def simpleTurnsWrong : ChangeSpec := { name := "simpleTurns", fn := fun _ => fun
  | [d1, d2] => { results := [.lit (.bool false)], args := [d1, d2] }
  | _ => none }
def SimpleTurnsWrongFalsely : Prop := simpleTurnsRow.holds Try.pinned (OpenSpec.ofChange simpleTurnsWrong)

/-- 'farewaylaw.PlainCosts': WHATEVER THE INPUT: true; the input reads as it did. -/
def plainCostsSpec : ChangeSpec := { name := "plainCosts", fn := fun _ => fun
  | [d1, d2] => { results := [.lit (.bool true)], args := [d1, d2] }
  | _ => none }
def plainCostsRow : OpenClaim := { program := "ytlpfbhmfddbgdaa", sum := "f3ae76965f7fc69920fa68b9c0098f27b348733562a577e58cca39452861ee26", func := "fareway/farewaylaw.PlainCosts", spec := "plainCosts", unfollowed := true, recurses := true, plainKeys := false, apart := false }
def PlainCostsSaid : Prop := plainCostsRow.holds Try.pinned (OpenSpec.ofChange plainCostsSpec)

/-- ITS FALSE NEIGHBOUR: 'it returns false'. Refute it at one input. -/
def plainCostsWrong : ChangeSpec := { name := "plainCosts", fn := fun _ => fun
  | [d1, d2] => { results := [.lit (.bool false)], args := [d1, d2] }
  | _ => none }
def PlainCostsWrongFalsely : Prop := plainCostsRow.holds Try.pinned (OpenSpec.ofChange plainCostsWrong)

/-- 'farewaylaw.SimpleJoins': WHATEVER THE INPUT: true; the input reads as it did. -/
def simpleJoinsSpec : ChangeSpec := { name := "simpleJoins", fn := fun _ => fun
  | [d1, d2, d3, d4] => { results := [.lit (.bool true)], args := [d1, d2, d3, d4] }
  | _ => none }
def simpleJoinsRow : OpenClaim := { program := "ytlpfbhmfddbgdaa", sum := "f3ae76965f7fc69920fa68b9c0098f27b348733562a577e58cca39452861ee26", func := "fareway/farewaylaw.SimpleJoins", spec := "simpleJoins", unfollowed := true, recurses := true, plainKeys := false, apart := false }
def SimpleJoinsSaid : Prop := simpleJoinsRow.holds Try.pinned (OpenSpec.ofChange simpleJoinsSpec)

/-- ITS FALSE NEIGHBOUR: 'it returns false'. Refute it at one input. -/
def simpleJoinsWrong : ChangeSpec := { name := "simpleJoins", fn := fun _ => fun
  | [d1, d2, d3, d4] => { results := [.lit (.bool false)], args := [d1, d2, d3, d4] }
  | _ => none }
def SimpleJoinsWrongFalsely : Prop := simpleJoinsRow.holds Try.pinned (OpenSpec.ofChange simpleJoinsWrong)

/-- 'farewaylaw.ComposeCosts': WHATEVER THE INPUT: true; the input reads as it did. -/
def composeCostsSpec : ChangeSpec := { name := "composeCosts", fn := fun _ => fun
  | [d1, d2, d3, d4, d5] => { results := [.lit (.bool true)], args := [d1, d2, d3, d4, d5] }
  | _ => none }
def composeCostsRow : OpenClaim := { program := "ytlpfbhmfddbgdaa", sum := "f3ae76965f7fc69920fa68b9c0098f27b348733562a577e58cca39452861ee26", func := "fareway/farewaylaw.ComposeCosts", spec := "composeCosts", unfollowed := true, recurses := true, plainKeys := false, apart := false }
def ComposeCostsSaid : Prop := composeCostsRow.holds Try.pinned (OpenSpec.ofChange composeCostsSpec)

/-- ITS FALSE NEIGHBOUR: 'it returns false'. Refute it at one input. -/
def composeCostsWrong : ChangeSpec := { name := "composeCosts", fn := fun _ => fun
  | [d1, d2, d3, d4, d5] => { results := [.lit (.bool false)], args := [d1, d2, d3, d4, d5] }
  | _ => none }
def ComposeCostsWrongFalsely : Prop := composeCostsRow.holds Try.pinned (OpenSpec.ofChange composeCostsWrong)

/- THE SECOND FORM. 'bulk': how many values and letters a reading holds, each counted each time it is reached (what is shared counts as often as it is met; a slice's spare places count too). A statement '..UptoSaid' is the law's where the arguments, and the package variables that the reading takes, are together of bulk at most 1048576: NARROWER than '..Said'. Prove '..Said' where nothing that the law and all that it calls make is longer than what came in: it says more and counts as full. Else prove '..UptoSaid'. A law counts once. -/
mutual
def uptoBulk {H : Type} : DataW H → Nat
  | .lit (.string bytes) => bytes.length + 1
  | .lit _ => 1
  | .nil => 1
  | .ptr d => uptoBulk d + 1
  | .slice elems spare => uptoBulkAll elems + uptoBulkAll spare + 1
  | .agg parts => uptoBulkAll parts + 1
  | .iface _ d => uptoBulk d + 1
  | .map entries => uptoBulkEntries entries + 1
  | .held _ => 1
def uptoBulkAll {H : Type} : List (DataW H) → Nat
  | [] => 0
  | d :: r => uptoBulk d + uptoBulkAll r
def uptoBulkEntries {H : Type} : List (Lit × DataW H) → Nat
  | [] => 0
  | x :: r => uptoBulkEntry x + uptoBulkEntries r
def uptoBulkEntry {H : Type} : Lit × DataW H → Nat
  | (.string bytes, d) => bytes.length + uptoBulk d + 1
  | (_, d) => uptoBulk d + 1
 end
def uptoSmall : (H : Type) → List (DataW H) → Bool := fun _ ds => decide (uptoBulkAll ds ≤ 1048576)
def OpenSpec.upto (s : _root_.Go.ChangeSpec) : _root_.Go.OpenSpec := { _root_.Go.OpenSpec.ofChange s with cond := some uptoSmall }

/-- 'farewaylaw.ScoreTells', WHERE WHAT IT READS IS OF BULK AT MOST 1048576: true; the input reads as it did. -/
def scoreTellsUptoRow : OpenClaim := { program := "ytlpfbhmfddbgdaa", sum := "f3ae76965f7fc69920fa68b9c0098f27b348733562a577e58cca39452861ee26", func := "fareway/farewaylaw.ScoreTells", spec := "scoreTells", unfollowed := true, recurses := true, plainKeys := false, apart := false, narrowed := true }
def ScoreTellsUptoSaid : Prop := scoreTellsUptoRow.holds Try.pinned (OpenSpec.upto scoreTellsSpec)

/-- 'farewaylaw.ShortTells', WHERE WHAT IT READS IS OF BULK AT MOST 1048576: true; the input reads as it did. -/
def shortTellsUptoRow : OpenClaim := { program := "ytlpfbhmfddbgdaa", sum := "f3ae76965f7fc69920fa68b9c0098f27b348733562a577e58cca39452861ee26", func := "fareway/farewaylaw.ShortTells", spec := "shortTells", unfollowed := true, recurses := true, plainKeys := false, apart := false, narrowed := true }
def ShortTellsUptoSaid : Prop := shortTellsUptoRow.holds Try.pinned (OpenSpec.upto shortTellsSpec)

/-- 'farewaylaw.ShortBest', WHERE WHAT IT READS IS OF BULK AT MOST 1048576: true; the input reads as it did. -/
def shortBestUptoRow : OpenClaim := { program := "ytlpfbhmfddbgdaa", sum := "f3ae76965f7fc69920fa68b9c0098f27b348733562a577e58cca39452861ee26", func := "fareway/farewaylaw.ShortBest", spec := "shortBest", unfollowed := true, recurses := true, plainKeys := false, apart := false, narrowed := true }
def ShortBestUptoSaid : Prop := shortBestUptoRow.holds Try.pinned (OpenSpec.upto shortBestSpec)

/-- 'farewaylaw.SimpleTurns', WHERE WHAT IT READS IS OF BULK AT MOST 1048576: true; the input reads as it did. -/
def simpleTurnsUptoRow : OpenClaim := { program := "ytlpfbhmfddbgdaa", sum := "f3ae76965f7fc69920fa68b9c0098f27b348733562a577e58cca39452861ee26", func := "fareway/farewaylaw.SimpleTurns", spec := "simpleTurns", unfollowed := true, recurses := true, plainKeys := false, apart := false, narrowed := true }
def SimpleTurnsUptoSaid : Prop := simpleTurnsUptoRow.holds Try.pinned (OpenSpec.upto simpleTurnsSpec)

/-- 'farewaylaw.PlainCosts', WHERE WHAT IT READS IS OF BULK AT MOST 1048576: true; the input reads as it did. -/
def plainCostsUptoRow : OpenClaim := { program := "ytlpfbhmfddbgdaa", sum := "f3ae76965f7fc69920fa68b9c0098f27b348733562a577e58cca39452861ee26", func := "fareway/farewaylaw.PlainCosts", spec := "plainCosts", unfollowed := true, recurses := true, plainKeys := false, apart := false, narrowed := true }
def PlainCostsUptoSaid : Prop := plainCostsUptoRow.holds Try.pinned (OpenSpec.upto plainCostsSpec)

/-- 'farewaylaw.SimpleJoins', WHERE WHAT IT READS IS OF BULK AT MOST 1048576: true; the input reads as it did. -/
def simpleJoinsUptoRow : OpenClaim := { program := "ytlpfbhmfddbgdaa", sum := "f3ae76965f7fc69920fa68b9c0098f27b348733562a577e58cca39452861ee26", func := "fareway/farewaylaw.SimpleJoins", spec := "simpleJoins", unfollowed := true, recurses := true, plainKeys := false, apart := false, narrowed := true }
def SimpleJoinsUptoSaid : Prop := simpleJoinsUptoRow.holds Try.pinned (OpenSpec.upto simpleJoinsSpec)

/-- 'farewaylaw.ComposeCosts', WHERE WHAT IT READS IS OF BULK AT MOST 1048576: true; the input reads as it did. -/
def composeCostsUptoRow : OpenClaim := { program := "ytlpfbhmfddbgdaa", sum := "f3ae76965f7fc69920fa68b9c0098f27b348733562a577e58cca39452861ee26", func := "fareway/farewaylaw.ComposeCosts", spec := "composeCosts", unfollowed := true, recurses := true, plainKeys := false, apart := false, narrowed := true }
def ComposeCostsUptoSaid : Prop := composeCostsUptoRow.holds Try.pinned (OpenSpec.upto composeCostsSpec)

end Rows
end Go.Proofs.Ytlpfbhmfddbgdaa
