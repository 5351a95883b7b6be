/-
  DERIVED. GIVEN WITH THE SEED: THE CARDS: each row of YtoamgndhhiohaaaGreatDoorRows.lean that lists a variable, with what it lists TIED to the program's text (the seventh form; the later family's looks); each row that meets fmt, with fmt's text TOLD by the authors' own Lean function (tested against real Go, not proved from fmt's source: count such statements apart). THE CARD IS WHAT COUNTS. Prove the row's statement (the work); the ties are given (YtoamgndhhiohaaaGreatDoorTie.lean); close each card by the builder's one call (the guide's Derived/Test/ToyasCard.lean, 'card_holds'). Laid BY PROGRAM, IN A SANDBOX (cutbox-door.mjs). By AI agents, Wed Nov 11 2026. No macro, syntax, notation, axiom, sorry.
-/
import Derived.Test.YtoamgndhhiohaaaGreatDoorRows
import GoSem.ClaimSeven
namespace Go.Proofs.YtoamgndhhiohaaaGreatDoor
namespace Rows

/-- THE TIED CARD OF 'yettlaw23.WorldBreaks'. -/
def worldBreaksCard : Claim7 := { stood := { row := worldBreaksRow, standIns := [], harness := (true, "67e2f6aa0ff1c40c20a74c4bd38f3acd18f2a9a209512139adf5bdd1f29eb4ea"), looks := true }, kinds := [], alts := [], laidByText := true, laidKinds := [.data], laidTests := true, laidLooks := .later }
def WorldBreaksCardSaid : Prop := Claim7.holds Tryz.pinned (.plain (OpenSpec.ofChange worldBreaksSpec)) worldBreaksCard

/-- THE TIED CARD OF 'yettlaw23.WorldPieces'. -/
def worldPiecesCard : Claim7 := { stood := { row := worldPiecesRow, standIns := [], harness := (true, "67e2f6aa0ff1c40c20a74c4bd38f3acd18f2a9a209512139adf5bdd1f29eb4ea"), looks := true }, kinds := [], alts := [], laidByText := true, laidKinds := [.data], laidTests := true, laidLooks := .later }
def WorldPiecesCardSaid : Prop := Claim7.holds Tryz.pinned (.plain (OpenSpec.ofChange worldPiecesSpec)) worldPiecesCard

/-- THE SECOND FORM's CARD OF 'yettlaw23.WorldBreaks'. -/
def worldBreaksUptoCard : Claim7 := { stood := { row := worldBreaksUptoRow, standIns := [], harness := (true, "67e2f6aa0ff1c40c20a74c4bd38f3acd18f2a9a209512139adf5bdd1f29eb4ea"), looks := true }, kinds := [], alts := [], laidByText := true, laidKinds := [.data], laidTests := true, laidLooks := .later }
def WorldBreaksUptoCardSaid : Prop := Claim7.holds Tryz.pinned (.plain (OpenSpec.upto worldBreaksSpec)) worldBreaksUptoCard

/-- THE SECOND FORM's CARD OF 'yettlaw23.WorldPieces'. -/
def worldPiecesUptoCard : Claim7 := { stood := { row := worldPiecesUptoRow, standIns := [], harness := (true, "67e2f6aa0ff1c40c20a74c4bd38f3acd18f2a9a209512139adf5bdd1f29eb4ea"), looks := true }, kinds := [], alts := [], laidByText := true, laidKinds := [.data], laidTests := true, laidLooks := .later }
def WorldPiecesUptoCardSaid : Prop := Claim7.holds Tryz.pinned (.plain (OpenSpec.upto worldPiecesSpec)) worldPiecesUptoCard
end Rows
end Go.Proofs.YtoamgndhhiohaaaGreatDoor
