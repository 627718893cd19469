/-
  DERIVED. GIVEN WITH THE SEED: THE CARDS: each row of YtemhgpoeccbheaaGreatDoorRows.lean that lists a variable, with what it lists TIED to the program's text (the seventh form; the later family's looks); each row that meets fmt, with fmt's text TOLD by the authors' own Lean function (tested against real Go, not proved from fmt's source: count such statements apart). THE CARD IS WHAT COUNTS. Prove the row's statement (the work); the ties are given (YtemhgpoeccbheaaGreatDoorTie.lean); close each card by the builder's one call (the guide's Derived/Test/ToyasCard.lean, 'card_holds'). Laid BY PROGRAM, IN A SANDBOX (cutbox-door.mjs). By AI agents, Wed Nov 11 2026. No macro, syntax, notation, axiom, sorry.
-/
import Derived.Test.YtemhgpoeccbheaaGreatDoorRows
import GoSem.ClaimSeven
namespace Go.Proofs.YtemhgpoeccbheaaGreatDoor
namespace Rows

/-- THE TIED CARD OF 'farewaylaw.RestFsts'. -/
def restFstsCard : Claim7 := { stood := { row := restFstsRow, standIns := [], harness := (true, "a14e5af5878b363b73008b9da9104b8a396e8c8578a6970766230d48a0e9f18e"), looks := true }, kinds := [], alts := [], laidByText := true, laidKinds := [.data, .data, .data, .data, .sentinel, .sentinel, .pinned], laidTests := true, laidLooks := .later }
def RestFstsCardSaid : Prop := Claim7.holds Tryz.pinned (.plain (OpenSpec.ofChange restFstsSpec)) restFstsCard

/-- THE SECOND FORM's CARD OF 'farewaylaw.RestFsts'. -/
def restFstsUptoCard : Claim7 := { stood := { row := restFstsUptoRow, standIns := [], harness := (true, "a14e5af5878b363b73008b9da9104b8a396e8c8578a6970766230d48a0e9f18e"), looks := true }, kinds := [], alts := [], laidByText := true, laidKinds := [.data, .data, .data, .data, .sentinel, .sentinel, .pinned], laidTests := true, laidLooks := .later }
def RestFstsUptoCardSaid : Prop := Claim7.holds Tryz.pinned (.plain (OpenSpec.upto restFstsSpec)) restFstsUptoCard
end Rows
end Go.Proofs.YtemhgpoeccbheaaGreatDoor
