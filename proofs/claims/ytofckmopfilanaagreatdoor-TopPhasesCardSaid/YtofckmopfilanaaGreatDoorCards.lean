/-
  DERIVED. GIVEN WITH THE SEED: THE CARDS: each row of YtofckmopfilanaaGreatDoorRows.lean that lists a variable, with what it lists TIED to the program's text (the seventh form; the later family's looks); each row that meets fmt, with fmt's text TOLD by the authors' own Lean function (tested against real Go, not proved from fmt's source: count such statements apart). THE CARD IS WHAT COUNTS. Prove the row's statement (the work); the ties are given (YtofckmopfilanaaGreatDoorTie.lean); close each card by the builder's one call (the guide's Derived/Test/ToyasCard.lean, 'card_holds'). Laid BY PROGRAM, IN A SANDBOX (cutbox-door.mjs). By AI agents, Wed Nov 11 2026. No macro, syntax, notation, axiom, sorry.
-/
import Derived.Test.YtofckmopfilanaaGreatDoorRows
import GoSem.ClaimSeven
namespace Go.Proofs.YtofckmopfilanaaGreatDoor
namespace Rows

/-- THE TIED CARD OF 'yetttop.TopSafe'. -/
def topSafeCard : Claim7 := { stood := { row := topSafeRow, standIns := [], harness := (true, "fcefc86bdb1752b19e9e9f631c313305ae06a16bd8050a0a504128dbbf4ead15"), looks := true }, kinds := [], alts := [], laidByText := true, laidKinds := [.data, .data, .pinned], laidTests := true, laidLooks := .later }
def TopSafeCardSaid : Prop := Claim7.holds Tryz.pinned (.plain (OpenSpec.ofChange topSafeSpec)) topSafeCard

/-- THE TIED CARD OF 'yetttop.TopAlike'. -/
def topAlikeCard : Claim7 := { stood := { row := topAlikeRow, standIns := [], harness := (true, "fcefc86bdb1752b19e9e9f631c313305ae06a16bd8050a0a504128dbbf4ead15"), looks := true }, kinds := [], alts := [], laidByText := true, laidKinds := [.data, .data, .pinned], laidTests := true, laidLooks := .later }
def TopAlikeCardSaid : Prop := Claim7.holds Tryz.pinned (.plain (OpenSpec.ofChange topAlikeSpec)) topAlikeCard

/-- THE TIED CARD OF 'yetttop.TopPhases'. -/
def topPhasesCard : Claim7 := { stood := { row := topPhasesRow, standIns := [], harness := (true, "fcefc86bdb1752b19e9e9f631c313305ae06a16bd8050a0a504128dbbf4ead15"), looks := true }, kinds := [], alts := [], laidByText := true, laidKinds := [.data, .data, .pinned], laidTests := true, laidLooks := .later }
def TopPhasesCardSaid : Prop := Claim7.holds Tryz.pinned (.plain (OpenSpec.ofChange topPhasesSpec)) topPhasesCard

/-- THE SECOND FORM's CARD OF 'yetttop.TopSafe'. -/
def topSafeUptoCard : Claim7 := { stood := { row := topSafeUptoRow, standIns := [], harness := (true, "fcefc86bdb1752b19e9e9f631c313305ae06a16bd8050a0a504128dbbf4ead15"), looks := true }, kinds := [], alts := [], laidByText := true, laidKinds := [.data, .data, .pinned], laidTests := true, laidLooks := .later }
def TopSafeUptoCardSaid : Prop := Claim7.holds Tryz.pinned (.plain (OpenSpec.upto topSafeSpec)) topSafeUptoCard

/-- THE SECOND FORM's CARD OF 'yetttop.TopAlike'. -/
def topAlikeUptoCard : Claim7 := { stood := { row := topAlikeUptoRow, standIns := [], harness := (true, "fcefc86bdb1752b19e9e9f631c313305ae06a16bd8050a0a504128dbbf4ead15"), looks := true }, kinds := [], alts := [], laidByText := true, laidKinds := [.data, .data, .pinned], laidTests := true, laidLooks := .later }
def TopAlikeUptoCardSaid : Prop := Claim7.holds Tryz.pinned (.plain (OpenSpec.upto topAlikeSpec)) topAlikeUptoCard

/-- THE SECOND FORM's CARD OF 'yetttop.TopPhases'. -/
def topPhasesUptoCard : Claim7 := { stood := { row := topPhasesUptoRow, standIns := [], harness := (true, "fcefc86bdb1752b19e9e9f631c313305ae06a16bd8050a0a504128dbbf4ead15"), looks := true }, kinds := [], alts := [], laidByText := true, laidKinds := [.data, .data, .pinned], laidTests := true, laidLooks := .later }
def TopPhasesUptoCardSaid : Prop := Claim7.holds Tryz.pinned (.plain (OpenSpec.upto topPhasesSpec)) topPhasesUptoCard
end Rows
end Go.Proofs.YtofckmopfilanaaGreatDoor
