/-
  DERIVED. GIVEN WITH THE SEED: THE CARDS: each row of YtdijmfdanbnppaaDoorRows.lean that lists a variable, with what it lists TIED to the program's text (the seventh form; the later family's looks); each row that meets fmt, with fmt's text TOLD by the authors' own Lean function (tested against real Go, not proved from fmt's source: count such statements apart). THE CARD IS WHAT COUNTS. Prove the row's statement (the work); the ties are given (YtdijmfdanbnppaaDoorTie.lean); close each card by the builder's one call (the guide's Derived/Test/ToyasCard.lean, 'card_holds'). Laid BY PROGRAM, IN A SANDBOX (cutbox-door.mjs). By AI agents, Wed Nov 11 2026. No macro, syntax, notation, axiom, sorry.
-/
import Derived.Test.YtdijmfdanbnppaaDoorRows
import GoSem.ClaimSeven
namespace Go.Proofs.YtdijmfdanbnppaaDoor
namespace Rows

/-- THE TIED CARD OF 'farewaylaw.ScoreWalks'. -/
def scoreWalksCard : Claim7 := { stood := { row := scoreWalksRow, standIns := [], harness := (true, "1d494100f1f00e40d06e54ff489ff27fac38b45db4c52d4ebb04c509c62c29fd"), looks := true }, kinds := [], alts := [], laidByText := true, laidKinds := [.data, .data, .data, .data, .sentinel, .sentinel, .pinned], laidTests := true, laidLooks := .later }
def ScoreWalksCardSaid : Prop := Claim7.holds Tryd.pinned (.plain (OpenSpec.ofChange scoreWalksSpec)) scoreWalksCard

/-- THE TIED CARD OF 'farewaylaw.FstTells'. -/
def fstTellsCard : Claim7 := { stood := { row := fstTellsRow, standIns := [], harness := (true, "1d494100f1f00e40d06e54ff489ff27fac38b45db4c52d4ebb04c509c62c29fd"), looks := true }, kinds := [], alts := [], laidByText := true, laidKinds := [.data, .data, .data, .data, .sentinel, .sentinel, .pinned], laidTests := true, laidLooks := .later }
def FstTellsCardSaid : Prop := Claim7.holds Tryd.pinned (.plain (OpenSpec.ofChange fstTellsSpec)) fstTellsCard

/-- THE TIED CARD OF 'farewaylaw.FstParses'. -/
def fstParsesCard : Claim7 := { stood := { row := fstParsesRow, standIns := [], harness := (true, "1d494100f1f00e40d06e54ff489ff27fac38b45db4c52d4ebb04c509c62c29fd"), looks := true }, kinds := [], alts := [], laidByText := true, laidKinds := [.data, .data, .data, .data, .sentinel, .sentinel, .pinned], laidTests := true, laidLooks := .later }
def FstParsesCardSaid : Prop := Claim7.holds Tryd.pinned (.plain (OpenSpec.ofChange fstParsesSpec)) fstParsesCard

/-- THE TIED CARD OF 'farewaylaw.FstBack'. -/
def fstBackCard : Claim7 := { stood := { row := fstBackRow, standIns := [], harness := (true, "1d494100f1f00e40d06e54ff489ff27fac38b45db4c52d4ebb04c509c62c29fd"), looks := true }, kinds := [], alts := [], laidByText := true, laidKinds := [.data, .data, .data, .data, .sentinel, .sentinel, .pinned], laidTests := true, laidLooks := .later }
def FstBackCardSaid : Prop := Claim7.holds Tryd.pinned (.plain (OpenSpec.ofChange fstBackSpec)) fstBackCard

/-- THE SECOND FORM's CARD OF 'farewaylaw.ScoreWalks'. -/
def scoreWalksUptoCard : Claim7 := { stood := { row := scoreWalksUptoRow, standIns := [], harness := (true, "1d494100f1f00e40d06e54ff489ff27fac38b45db4c52d4ebb04c509c62c29fd"), looks := true }, kinds := [], alts := [], laidByText := true, laidKinds := [.data, .data, .data, .data, .sentinel, .sentinel, .pinned], laidTests := true, laidLooks := .later }
def ScoreWalksUptoCardSaid : Prop := Claim7.holds Tryd.pinned (.plain (OpenSpec.upto scoreWalksSpec)) scoreWalksUptoCard

/-- THE SECOND FORM's CARD OF 'farewaylaw.FstTells'. -/
def fstTellsUptoCard : Claim7 := { stood := { row := fstTellsUptoRow, standIns := [], harness := (true, "1d494100f1f00e40d06e54ff489ff27fac38b45db4c52d4ebb04c509c62c29fd"), looks := true }, kinds := [], alts := [], laidByText := true, laidKinds := [.data, .data, .data, .data, .sentinel, .sentinel, .pinned], laidTests := true, laidLooks := .later }
def FstTellsUptoCardSaid : Prop := Claim7.holds Tryd.pinned (.plain (OpenSpec.upto fstTellsSpec)) fstTellsUptoCard

/-- THE SECOND FORM's CARD OF 'farewaylaw.FstParses'. -/
def fstParsesUptoCard : Claim7 := { stood := { row := fstParsesUptoRow, standIns := [], harness := (true, "1d494100f1f00e40d06e54ff489ff27fac38b45db4c52d4ebb04c509c62c29fd"), looks := true }, kinds := [], alts := [], laidByText := true, laidKinds := [.data, .data, .data, .data, .sentinel, .sentinel, .pinned], laidTests := true, laidLooks := .later }
def FstParsesUptoCardSaid : Prop := Claim7.holds Tryd.pinned (.plain (OpenSpec.upto fstParsesSpec)) fstParsesUptoCard

/-- THE SECOND FORM's CARD OF 'farewaylaw.FstBack'. -/
def fstBackUptoCard : Claim7 := { stood := { row := fstBackUptoRow, standIns := [], harness := (true, "1d494100f1f00e40d06e54ff489ff27fac38b45db4c52d4ebb04c509c62c29fd"), looks := true }, kinds := [], alts := [], laidByText := true, laidKinds := [.data, .data, .data, .data, .sentinel, .sentinel, .pinned], laidTests := true, laidLooks := .later }
def FstBackUptoCardSaid : Prop := Claim7.holds Tryd.pinned (.plain (OpenSpec.upto fstBackSpec)) fstBackUptoCard
end Rows
end Go.Proofs.YtdijmfdanbnppaaDoor
