/-
  DERIVED. GIVEN WITH THE SEED: THE CARDS: each row of YtohehkjofhaneaaGreatDoorRows.lean that lists a variable, with what it lists TIED to the program's text (the seventh form; the later family's looks); each row that meets fmt, with fmt's text TOLD by the authors' own Lean function (tested against real Go, not proved from fmt's source: count such statements apart). THE CARD IS WHAT COUNTS. Prove the row's statement (the work); the ties are given (YtohehkjofhaneaaGreatDoorTie.lean); close each card by the builder's one call (the guide's Derived/Test/ToyasCard.lean, 'card_holds'). Laid BY PROGRAM, IN A SANDBOX (cutbox-door.mjs). By AI agents, Wed Nov 11 2026. No macro, syntax, notation, axiom, sorry.
-/
import Derived.Test.YtohehkjofhaneaaGreatDoorRows
import GoSem.ClaimSeven
namespace Go.Proofs.YtohehkjofhaneaaGreatDoor
namespace Rows

/-- THE TIED CARD OF 'yettlaw23.WorldParts'. -/
def worldPartsCard : Claim7 := { stood := { row := worldPartsRow, standIns := [], harness := (true, "3b8e922239f879f43b23e5e4b33f7ac1f56a3a26718642269fa42bcad88d55e7"), looks := true }, kinds := [], alts := [], laidByText := true, laidKinds := [.data], laidTests := true, laidLooks := .later }
def WorldPartsCardSaid : Prop := Claim7.holds Tryz.pinned (.plain (OpenSpec.ofChange worldPartsSpec)) worldPartsCard

/-- THE TIED CARD OF 'yettlaw23.WorldMeets'. -/
def worldMeetsCard : Claim7 := { stood := { row := worldMeetsRow, standIns := [], harness := (true, "3b8e922239f879f43b23e5e4b33f7ac1f56a3a26718642269fa42bcad88d55e7"), looks := true }, kinds := [], alts := [], laidByText := true, laidKinds := [.data], laidTests := true, laidLooks := .later }
def WorldMeetsCardSaid : Prop := Claim7.holds Tryz.pinned (.plain (OpenSpec.ofChange worldMeetsSpec)) worldMeetsCard

/-- THE TIED CARD OF 'yettlaw23.WorldOnce'. -/
def worldOnceCard : Claim7 := { stood := { row := worldOnceRow, standIns := [], harness := (true, "3b8e922239f879f43b23e5e4b33f7ac1f56a3a26718642269fa42bcad88d55e7"), looks := true }, kinds := [], alts := [], laidByText := true, laidKinds := [.data], laidTests := true, laidLooks := .later }
def WorldOnceCardSaid : Prop := Claim7.holds Tryz.pinned (.plain (OpenSpec.ofChange worldOnceSpec)) worldOnceCard

/-- THE SECOND FORM's CARD OF 'yettlaw23.WorldParts'. -/
def worldPartsUptoCard : Claim7 := { stood := { row := worldPartsUptoRow, standIns := [], harness := (true, "3b8e922239f879f43b23e5e4b33f7ac1f56a3a26718642269fa42bcad88d55e7"), looks := true }, kinds := [], alts := [], laidByText := true, laidKinds := [.data], laidTests := true, laidLooks := .later }
def WorldPartsUptoCardSaid : Prop := Claim7.holds Tryz.pinned (.plain (OpenSpec.upto worldPartsSpec)) worldPartsUptoCard

/-- THE SECOND FORM's CARD OF 'yettlaw23.WorldMeets'. -/
def worldMeetsUptoCard : Claim7 := { stood := { row := worldMeetsUptoRow, standIns := [], harness := (true, "3b8e922239f879f43b23e5e4b33f7ac1f56a3a26718642269fa42bcad88d55e7"), looks := true }, kinds := [], alts := [], laidByText := true, laidKinds := [.data], laidTests := true, laidLooks := .later }
def WorldMeetsUptoCardSaid : Prop := Claim7.holds Tryz.pinned (.plain (OpenSpec.upto worldMeetsSpec)) worldMeetsUptoCard

/-- THE SECOND FORM's CARD OF 'yettlaw23.WorldOnce'. -/
def worldOnceUptoCard : Claim7 := { stood := { row := worldOnceUptoRow, standIns := [], harness := (true, "3b8e922239f879f43b23e5e4b33f7ac1f56a3a26718642269fa42bcad88d55e7"), looks := true }, kinds := [], alts := [], laidByText := true, laidKinds := [.data], laidTests := true, laidLooks := .later }
def WorldOnceUptoCardSaid : Prop := Claim7.holds Tryz.pinned (.plain (OpenSpec.upto worldOnceSpec)) worldOnceUptoCard
end Rows
end Go.Proofs.YtohehkjofhaneaaGreatDoor
