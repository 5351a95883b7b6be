/-
  DERIVED. GIVEN WITH THE SEED: THE CARDS: each row of YtifmobcdnjcpiaaGreatDoorRows.lean that lists a variable, with what it lists TIED to the program's text (the seventh form; the later family's looks); each row that meets fmt, with fmt's text TOLD by the authors' own Lean function (tested against real Go, not proved from fmt's source: count such statements apart). THE CARD IS WHAT COUNTS. Prove the row's statement (the work); the ties are given (YtifmobcdnjcpiaaGreatDoorTie.lean); close each card by the builder's one call (the guide's Derived/Test/ToyasCard.lean, 'card_holds'). Laid BY PROGRAM, IN A SANDBOX (cutbox-door.mjs). By AI agents, Wed Nov 11 2026. No macro, syntax, notation, axiom, sorry.
-/
import Derived.Test.YtifmobcdnjcpiaaGreatDoorRows
import GoSem.ClaimSeven
namespace Go.Proofs.YtifmobcdnjcpiaaGreatDoor
namespace Rows

/-- THE TIED CARD OF 'yettlaw24.ToolActs'. -/
def toolActsCard : Claim7 := { stood := { row := toolActsRow, standIns := [], harness := (true, "5a531c5726dcae2770c6130bb2d30f620b68301fb17c36d6fcfaa20478f2ffd4"), looks := true }, kinds := [], alts := [], laidByText := true, laidKinds := [.data, .data, .pinned], laidTests := true, laidLooks := .later }
def ToolActsCardSaid : Prop := Claim7.holds Tryz.pinned (.plain (OpenSpec.ofChange toolActsSpec)) toolActsCard

/-- THE SECOND FORM's CARD OF 'yettlaw24.ToolActs'. -/
def toolActsUptoCard : Claim7 := { stood := { row := toolActsUptoRow, standIns := [], harness := (true, "5a531c5726dcae2770c6130bb2d30f620b68301fb17c36d6fcfaa20478f2ffd4"), looks := true }, kinds := [], alts := [], laidByText := true, laidKinds := [.data, .data, .pinned], laidTests := true, laidLooks := .later }
def ToolActsUptoCardSaid : Prop := Claim7.holds Tryz.pinned (.plain (OpenSpec.upto toolActsSpec)) toolActsUptoCard
end Rows
end Go.Proofs.YtifmobcdnjcpiaaGreatDoor
