/-
  DERIVED. GIVEN WITH THE SEED: THE CARDS: each row of YtlaenllbacalpaaDoorRows.lean that lists a variable, with what it lists TIED to the program's text (the seventh form; the later family's looks); each row that meets fmt, with fmt's text TOLD by the authors' own Lean function (tested against real Go, not proved from fmt's source: count such statements apart). THE CARD IS WHAT COUNTS. Prove the row's statement (the work); the ties are given (YtlaenllbacalpaaDoorTie.lean); close each card by the builder's one call (the guide's Derived/Test/ToyasCard.lean, 'card_holds'). Laid BY PROGRAM, IN A SANDBOX (cutbox-door.mjs). By AI agents, Wed Nov 11 2026. No macro, syntax, notation, axiom, sorry.
-/
import Derived.Test.YtlaenllbacalpaaDoorRows
import GoSem.ClaimSeven
namespace Go.Proofs.YtlaenllbacalpaaDoor
namespace Rows

/-- THE TIED CARD OF 'farewaylaw.DetermineTells'. -/
def determineTellsCard : Claim7 := { stood := { row := determineTellsRow, standIns := [], harness := (true, "f030082402694e830d1ebb4defff56591ebc67cccb67361bbd5f105e04e938e3"), looks := false }, kinds := [], alts := [], laidByText := true, laidKinds := [.data, .data, .data], laidTests := true, laidLooks := .later }
def DetermineTellsCardSaid : Prop := Claim7.holds Tryd.pinned (.plain (OpenSpec.ofChange determineTellsSpec)) determineTellsCard

/-- THE TIED CARD OF 'farewaylaw.DetermineCosts'. -/
def determineCostsCard : Claim7 := { stood := { row := determineCostsRow, standIns := [], harness := (true, "f030082402694e830d1ebb4defff56591ebc67cccb67361bbd5f105e04e938e3"), looks := false }, kinds := [], alts := [], laidByText := true, laidKinds := [.data, .data, .data], laidTests := true, laidLooks := .later }
def DetermineCostsCardSaid : Prop := Claim7.holds Tryd.pinned (.plain (OpenSpec.ofChange determineCostsSpec)) determineCostsCard

/-- THE TIED CARD OF 'farewaylaw.LeastTells'. -/
def leastTellsCard : Claim7 := { stood := { row := leastTellsRow, standIns := [], harness := (true, "f030082402694e830d1ebb4defff56591ebc67cccb67361bbd5f105e04e938e3"), looks := false }, kinds := [], alts := [], laidByText := true, laidKinds := [.data, .data, .data], laidTests := true, laidLooks := .later }
def LeastTellsCardSaid : Prop := Claim7.holds Tryd.pinned (.plain (OpenSpec.ofChange leastTellsSpec)) leastTellsCard

/-- THE TIED CARD OF 'farewaylaw.LeastSame'. -/
def leastSameCard : Claim7 := { stood := { row := leastSameRow, standIns := [], harness := (true, "f030082402694e830d1ebb4defff56591ebc67cccb67361bbd5f105e04e938e3"), looks := false }, kinds := [], alts := [], laidByText := true, laidKinds := [.data, .data, .data], laidTests := true, laidLooks := .later }
def LeastSameCardSaid : Prop := Claim7.holds Tryd.pinned (.plain (OpenSpec.ofChange leastSameSpec)) leastSameCard

/-- THE TIED CARD OF 'farewaylaw.LeastAgain'. -/
def leastAgainCard : Claim7 := { stood := { row := leastAgainRow, standIns := [], harness := (true, "f030082402694e830d1ebb4defff56591ebc67cccb67361bbd5f105e04e938e3"), looks := false }, kinds := [], alts := [], laidByText := true, laidKinds := [.data, .data, .data], laidTests := true, laidLooks := .later }
def LeastAgainCardSaid : Prop := Claim7.holds Tryd.pinned (.plain (OpenSpec.ofChange leastAgainSpec)) leastAgainCard

/-- THE SECOND FORM's CARD OF 'farewaylaw.DetermineTells'. -/
def determineTellsUptoCard : Claim7 := { stood := { row := determineTellsUptoRow, standIns := [], harness := (true, "f030082402694e830d1ebb4defff56591ebc67cccb67361bbd5f105e04e938e3"), looks := false }, kinds := [], alts := [], laidByText := true, laidKinds := [.data, .data, .data], laidTests := true, laidLooks := .later }
def DetermineTellsUptoCardSaid : Prop := Claim7.holds Tryd.pinned (.plain (OpenSpec.upto determineTellsSpec)) determineTellsUptoCard

/-- THE SECOND FORM's CARD OF 'farewaylaw.DetermineCosts'. -/
def determineCostsUptoCard : Claim7 := { stood := { row := determineCostsUptoRow, standIns := [], harness := (true, "f030082402694e830d1ebb4defff56591ebc67cccb67361bbd5f105e04e938e3"), looks := false }, kinds := [], alts := [], laidByText := true, laidKinds := [.data, .data, .data], laidTests := true, laidLooks := .later }
def DetermineCostsUptoCardSaid : Prop := Claim7.holds Tryd.pinned (.plain (OpenSpec.upto determineCostsSpec)) determineCostsUptoCard

/-- THE SECOND FORM's CARD OF 'farewaylaw.LeastTells'. -/
def leastTellsUptoCard : Claim7 := { stood := { row := leastTellsUptoRow, standIns := [], harness := (true, "f030082402694e830d1ebb4defff56591ebc67cccb67361bbd5f105e04e938e3"), looks := false }, kinds := [], alts := [], laidByText := true, laidKinds := [.data, .data, .data], laidTests := true, laidLooks := .later }
def LeastTellsUptoCardSaid : Prop := Claim7.holds Tryd.pinned (.plain (OpenSpec.upto leastTellsSpec)) leastTellsUptoCard

/-- THE SECOND FORM's CARD OF 'farewaylaw.LeastSame'. -/
def leastSameUptoCard : Claim7 := { stood := { row := leastSameUptoRow, standIns := [], harness := (true, "f030082402694e830d1ebb4defff56591ebc67cccb67361bbd5f105e04e938e3"), looks := false }, kinds := [], alts := [], laidByText := true, laidKinds := [.data, .data, .data], laidTests := true, laidLooks := .later }
def LeastSameUptoCardSaid : Prop := Claim7.holds Tryd.pinned (.plain (OpenSpec.upto leastSameSpec)) leastSameUptoCard

/-- THE SECOND FORM's CARD OF 'farewaylaw.LeastAgain'. -/
def leastAgainUptoCard : Claim7 := { stood := { row := leastAgainUptoRow, standIns := [], harness := (true, "f030082402694e830d1ebb4defff56591ebc67cccb67361bbd5f105e04e938e3"), looks := false }, kinds := [], alts := [], laidByText := true, laidKinds := [.data, .data, .data], laidTests := true, laidLooks := .later }
def LeastAgainUptoCardSaid : Prop := Claim7.holds Tryd.pinned (.plain (OpenSpec.upto leastAgainSpec)) leastAgainUptoCard
end Rows
end Go.Proofs.YtlaenllbacalpaaDoor
