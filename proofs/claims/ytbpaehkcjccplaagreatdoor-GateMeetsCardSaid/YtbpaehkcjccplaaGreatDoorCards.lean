/-
  DERIVED. GIVEN WITH THE SEED: THE CARDS: each row of YtbpaehkcjccplaaGreatDoorRows.lean that lists a variable, with what it lists TIED to the program's text (the seventh form; the later family's looks); each row that meets fmt, with fmt's text TOLD by the authors' own Lean function (tested against real Go, not proved from fmt's source: count such statements apart). THE CARD IS WHAT COUNTS. Prove the row's statement (the work); the ties are given (YtbpaehkcjccplaaGreatDoorTie.lean); close each card by the builder's one call (the guide's Derived/Test/ToyasCard.lean, 'card_holds'). Laid BY PROGRAM, IN A SANDBOX (cutbox-door.mjs). By AI agents, Wed Nov 11 2026. No macro, syntax, notation, axiom, sorry.
-/
import Derived.Test.YtbpaehkcjccplaaGreatDoorRows
import GoSem.ClaimSeven
namespace Go.Proofs.YtbpaehkcjccplaaGreatDoor
namespace Rows

/-- THE TIED CARD OF 'yettlaw20.RekeyTells'. -/
def rekeyTellsCard : Claim7 := { stood := { row := rekeyTellsRow, standIns := [], harness := (true, "3cb31a1aabac6100acadba78b4e78ab63778e8251ebb80431c2835cb5a6a3392"), looks := false }, kinds := [], alts := [], laidByText := true, laidKinds := [.data], laidTests := true, laidLooks := .later }
def RekeyTellsCardSaid : Prop := Claim7.holds Tryz.pinned (.plain (OpenSpec.ofChange rekeyTellsSpec)) rekeyTellsCard

/-- THE TIED CARD OF 'yettlaw20.RekeyHears'. -/
def rekeyHearsCard : Claim7 := { stood := { row := rekeyHearsRow, standIns := [], harness := (true, "3cb31a1aabac6100acadba78b4e78ab63778e8251ebb80431c2835cb5a6a3392"), looks := false }, kinds := [], alts := [], laidByText := true, laidKinds := [.data], laidTests := true, laidLooks := .later }
def RekeyHearsCardSaid : Prop := Claim7.holds Tryz.pinned (.plain (OpenSpec.ofChange rekeyHearsSpec)) rekeyHearsCard

/-- THE TIED CARD OF 'yettlaw20.RekeyStays'. -/
def rekeyStaysCard : Claim7 := { stood := { row := rekeyStaysRow, standIns := [], harness := (true, "3cb31a1aabac6100acadba78b4e78ab63778e8251ebb80431c2835cb5a6a3392"), looks := false }, kinds := [], alts := [], laidByText := true, laidKinds := [.data], laidTests := true, laidLooks := .later }
def RekeyStaysCardSaid : Prop := Claim7.holds Tryz.pinned (.plain (OpenSpec.ofChange rekeyStaysSpec)) rekeyStaysCard

/-- THE TIED CARD OF 'yettlaw20.RekeyMeets'. -/
def rekeyMeetsCard : Claim7 := { stood := { row := rekeyMeetsRow, standIns := [], harness := (true, "3cb31a1aabac6100acadba78b4e78ab63778e8251ebb80431c2835cb5a6a3392"), looks := false }, kinds := [], alts := [], laidByText := true, laidKinds := [.data], laidTests := true, laidLooks := .later }
def RekeyMeetsCardSaid : Prop := Claim7.holds Tryz.pinned (.plain (OpenSpec.ofChange rekeyMeetsSpec)) rekeyMeetsCard

/-- THE TIED CARD OF 'yettlaw20.RekeyBoth'. -/
def rekeyBothCard : Claim7 := { stood := { row := rekeyBothRow, standIns := [], harness := (true, "3cb31a1aabac6100acadba78b4e78ab63778e8251ebb80431c2835cb5a6a3392"), looks := false }, kinds := [], alts := [], laidByText := true, laidKinds := [.data], laidTests := true, laidLooks := .later }
def RekeyBothCardSaid : Prop := Claim7.holds Tryz.pinned (.plain (OpenSpec.ofChange rekeyBothSpec)) rekeyBothCard

/-- THE TIED CARD OF 'yettlaw20.RekeyAgain'. -/
def rekeyAgainCard : Claim7 := { stood := { row := rekeyAgainRow, standIns := [], harness := (true, "3cb31a1aabac6100acadba78b4e78ab63778e8251ebb80431c2835cb5a6a3392"), looks := false }, kinds := [], alts := [], laidByText := true, laidKinds := [.data], laidTests := true, laidLooks := .later }
def RekeyAgainCardSaid : Prop := Claim7.holds Tryz.pinned (.plain (OpenSpec.ofChange rekeyAgainSpec)) rekeyAgainCard

/-- THE TIED CARD OF 'yettlaw20.RekeyCheck'. -/
def rekeyCheckCard : Claim7 := { stood := { row := rekeyCheckRow, standIns := [], harness := (true, "3cb31a1aabac6100acadba78b4e78ab63778e8251ebb80431c2835cb5a6a3392"), looks := false }, kinds := [], alts := [], laidByText := true, laidKinds := [.data], laidTests := true, laidLooks := .later }
def RekeyCheckCardSaid : Prop := Claim7.holds Tryz.pinned (.plain (OpenSpec.ofChange rekeyCheckSpec)) rekeyCheckCard

/-- THE TIED CARD OF 'yettlaw19.SignTells'. -/
def signTellsCard : Claim7 := { stood := { row := signTellsRow, standIns := [], harness := (true, "3cb31a1aabac6100acadba78b4e78ab63778e8251ebb80431c2835cb5a6a3392"), looks := false }, kinds := [], alts := [], laidByText := true, laidKinds := [.data], laidTests := true, laidLooks := .later }
def SignTellsCardSaid : Prop := Claim7.holds Tryz.pinned (.plain (OpenSpec.ofChange signTellsSpec)) signTellsCard

/-- THE TIED CARD OF 'yettlaw19.SignNotes'. -/
def signNotesCard : Claim7 := { stood := { row := signNotesRow, standIns := [], harness := (true, "3cb31a1aabac6100acadba78b4e78ab63778e8251ebb80431c2835cb5a6a3392"), looks := false }, kinds := [], alts := [], laidByText := true, laidKinds := [.data], laidTests := true, laidLooks := .later }
def SignNotesCardSaid : Prop := Claim7.holds Tryz.pinned (.plain (OpenSpec.ofChange signNotesSpec)) signNotesCard

/-- THE TIED CARD OF 'yettlaw19.SignFresh'. -/
def signFreshCard : Claim7 := { stood := { row := signFreshRow, standIns := [], harness := (true, "3cb31a1aabac6100acadba78b4e78ab63778e8251ebb80431c2835cb5a6a3392"), looks := false }, kinds := [], alts := [], laidByText := true, laidKinds := [.data], laidTests := true, laidLooks := .later }
def SignFreshCardSaid : Prop := Claim7.holds Tryz.pinned (.plain (OpenSpec.ofChange signFreshSpec)) signFreshCard

/-- THE TIED CARD OF 'yettlaw19.SignMeets'. -/
def signMeetsCard : Claim7 := { stood := { row := signMeetsRow, standIns := [], harness := (true, "3cb31a1aabac6100acadba78b4e78ab63778e8251ebb80431c2835cb5a6a3392"), looks := false }, kinds := [], alts := [], laidByText := true, laidKinds := [.data], laidTests := true, laidLooks := .later }
def SignMeetsCardSaid : Prop := Claim7.holds Tryz.pinned (.plain (OpenSpec.ofChange signMeetsSpec)) signMeetsCard

/-- THE TIED CARD OF 'yettlaw21.GateTells'. -/
def gateTellsCard : Claim7 := { stood := { row := gateTellsRow, standIns := [], harness := (true, "3cb31a1aabac6100acadba78b4e78ab63778e8251ebb80431c2835cb5a6a3392"), looks := false }, kinds := [], alts := [], laidByText := true, laidKinds := [.data], laidTests := true, laidLooks := .later }
def GateTellsCardSaid : Prop := Claim7.holds Tryz.pinned (.plain (OpenSpec.ofChange gateTellsSpec)) gateTellsCard

/-- THE TIED CARD OF 'yettlaw21.GateDates'. -/
def gateDatesCard : Claim7 := { stood := { row := gateDatesRow, standIns := [], harness := (true, "3cb31a1aabac6100acadba78b4e78ab63778e8251ebb80431c2835cb5a6a3392"), looks := false }, kinds := [], alts := [], laidByText := true, laidKinds := [.data], laidTests := true, laidLooks := .later }
def GateDatesCardSaid : Prop := Claim7.holds Tryz.pinned (.plain (OpenSpec.ofChange gateDatesSpec)) gateDatesCard

/-- THE TIED CARD OF 'yettlaw21.GateOrder'. -/
def gateOrderCard : Claim7 := { stood := { row := gateOrderRow, standIns := [], harness := (true, "3cb31a1aabac6100acadba78b4e78ab63778e8251ebb80431c2835cb5a6a3392"), looks := false }, kinds := [], alts := [], laidByText := true, laidKinds := [.data], laidTests := true, laidLooks := .later }
def GateOrderCardSaid : Prop := Claim7.holds Tryz.pinned (.plain (OpenSpec.ofChange gateOrderSpec)) gateOrderCard

/-- THE TIED CARD OF 'yettlaw21.GateDays'. -/
def gateDaysCard : Claim7 := { stood := { row := gateDaysRow, standIns := [], harness := (true, "3cb31a1aabac6100acadba78b4e78ab63778e8251ebb80431c2835cb5a6a3392"), looks := false }, kinds := [], alts := [], laidByText := true, laidKinds := [.data], laidTests := true, laidLooks := .later }
def GateDaysCardSaid : Prop := Claim7.holds Tryz.pinned (.plain (OpenSpec.ofChange gateDaysSpec)) gateDaysCard

/-- THE TIED CARD OF 'yettlaw21.GateStamps'. -/
def gateStampsCard : Claim7 := { stood := { row := gateStampsRow, standIns := [], harness := (true, "3cb31a1aabac6100acadba78b4e78ab63778e8251ebb80431c2835cb5a6a3392"), looks := false }, kinds := [], alts := [], laidByText := true, laidKinds := [.data], laidTests := true, laidLooks := .later }
def GateStampsCardSaid : Prop := Claim7.holds Tryz.pinned (.plain (OpenSpec.ofChange gateStampsSpec)) gateStampsCard

/-- THE TIED CARD OF 'yettlaw21.GateCloses'. -/
def gateClosesCard : Claim7 := { stood := { row := gateClosesRow, standIns := [], harness := (true, "3cb31a1aabac6100acadba78b4e78ab63778e8251ebb80431c2835cb5a6a3392"), looks := false }, kinds := [], alts := [], laidByText := true, laidKinds := [.data], laidTests := true, laidLooks := .later }
def GateClosesCardSaid : Prop := Claim7.holds Tryz.pinned (.plain (OpenSpec.ofChange gateClosesSpec)) gateClosesCard

/-- THE TIED CARD OF 'yettlaw21.GateMeets'. -/
def gateMeetsCard : Claim7 := { stood := { row := gateMeetsRow, standIns := [], harness := (true, "3cb31a1aabac6100acadba78b4e78ab63778e8251ebb80431c2835cb5a6a3392"), looks := false }, kinds := [], alts := [], laidByText := true, laidKinds := [.data], laidTests := true, laidLooks := .later }
def GateMeetsCardSaid : Prop := Claim7.holds Tryz.pinned (.plain (OpenSpec.ofChange gateMeetsSpec)) gateMeetsCard

/-- THE SECOND FORM's CARD OF 'yettlaw20.RekeyTells'. -/
def rekeyTellsUptoCard : Claim7 := { stood := { row := rekeyTellsUptoRow, standIns := [], harness := (true, "3cb31a1aabac6100acadba78b4e78ab63778e8251ebb80431c2835cb5a6a3392"), looks := false }, kinds := [], alts := [], laidByText := true, laidKinds := [.data], laidTests := true, laidLooks := .later }
def RekeyTellsUptoCardSaid : Prop := Claim7.holds Tryz.pinned (.plain (OpenSpec.upto rekeyTellsSpec)) rekeyTellsUptoCard

/-- THE SECOND FORM's CARD OF 'yettlaw20.RekeyHears'. -/
def rekeyHearsUptoCard : Claim7 := { stood := { row := rekeyHearsUptoRow, standIns := [], harness := (true, "3cb31a1aabac6100acadba78b4e78ab63778e8251ebb80431c2835cb5a6a3392"), looks := false }, kinds := [], alts := [], laidByText := true, laidKinds := [.data], laidTests := true, laidLooks := .later }
def RekeyHearsUptoCardSaid : Prop := Claim7.holds Tryz.pinned (.plain (OpenSpec.upto rekeyHearsSpec)) rekeyHearsUptoCard

/-- THE SECOND FORM's CARD OF 'yettlaw20.RekeyStays'. -/
def rekeyStaysUptoCard : Claim7 := { stood := { row := rekeyStaysUptoRow, standIns := [], harness := (true, "3cb31a1aabac6100acadba78b4e78ab63778e8251ebb80431c2835cb5a6a3392"), looks := false }, kinds := [], alts := [], laidByText := true, laidKinds := [.data], laidTests := true, laidLooks := .later }
def RekeyStaysUptoCardSaid : Prop := Claim7.holds Tryz.pinned (.plain (OpenSpec.upto rekeyStaysSpec)) rekeyStaysUptoCard

/-- THE SECOND FORM's CARD OF 'yettlaw20.RekeyMeets'. -/
def rekeyMeetsUptoCard : Claim7 := { stood := { row := rekeyMeetsUptoRow, standIns := [], harness := (true, "3cb31a1aabac6100acadba78b4e78ab63778e8251ebb80431c2835cb5a6a3392"), looks := false }, kinds := [], alts := [], laidByText := true, laidKinds := [.data], laidTests := true, laidLooks := .later }
def RekeyMeetsUptoCardSaid : Prop := Claim7.holds Tryz.pinned (.plain (OpenSpec.upto rekeyMeetsSpec)) rekeyMeetsUptoCard

/-- THE SECOND FORM's CARD OF 'yettlaw20.RekeyBoth'. -/
def rekeyBothUptoCard : Claim7 := { stood := { row := rekeyBothUptoRow, standIns := [], harness := (true, "3cb31a1aabac6100acadba78b4e78ab63778e8251ebb80431c2835cb5a6a3392"), looks := false }, kinds := [], alts := [], laidByText := true, laidKinds := [.data], laidTests := true, laidLooks := .later }
def RekeyBothUptoCardSaid : Prop := Claim7.holds Tryz.pinned (.plain (OpenSpec.upto rekeyBothSpec)) rekeyBothUptoCard

/-- THE SECOND FORM's CARD OF 'yettlaw20.RekeyAgain'. -/
def rekeyAgainUptoCard : Claim7 := { stood := { row := rekeyAgainUptoRow, standIns := [], harness := (true, "3cb31a1aabac6100acadba78b4e78ab63778e8251ebb80431c2835cb5a6a3392"), looks := false }, kinds := [], alts := [], laidByText := true, laidKinds := [.data], laidTests := true, laidLooks := .later }
def RekeyAgainUptoCardSaid : Prop := Claim7.holds Tryz.pinned (.plain (OpenSpec.upto rekeyAgainSpec)) rekeyAgainUptoCard

/-- THE SECOND FORM's CARD OF 'yettlaw20.RekeyCheck'. -/
def rekeyCheckUptoCard : Claim7 := { stood := { row := rekeyCheckUptoRow, standIns := [], harness := (true, "3cb31a1aabac6100acadba78b4e78ab63778e8251ebb80431c2835cb5a6a3392"), looks := false }, kinds := [], alts := [], laidByText := true, laidKinds := [.data], laidTests := true, laidLooks := .later }
def RekeyCheckUptoCardSaid : Prop := Claim7.holds Tryz.pinned (.plain (OpenSpec.upto rekeyCheckSpec)) rekeyCheckUptoCard

/-- THE SECOND FORM's CARD OF 'yettlaw19.SignTells'. -/
def signTellsUptoCard : Claim7 := { stood := { row := signTellsUptoRow, standIns := [], harness := (true, "3cb31a1aabac6100acadba78b4e78ab63778e8251ebb80431c2835cb5a6a3392"), looks := false }, kinds := [], alts := [], laidByText := true, laidKinds := [.data], laidTests := true, laidLooks := .later }
def SignTellsUptoCardSaid : Prop := Claim7.holds Tryz.pinned (.plain (OpenSpec.upto signTellsSpec)) signTellsUptoCard

/-- THE SECOND FORM's CARD OF 'yettlaw19.SignNotes'. -/
def signNotesUptoCard : Claim7 := { stood := { row := signNotesUptoRow, standIns := [], harness := (true, "3cb31a1aabac6100acadba78b4e78ab63778e8251ebb80431c2835cb5a6a3392"), looks := false }, kinds := [], alts := [], laidByText := true, laidKinds := [.data], laidTests := true, laidLooks := .later }
def SignNotesUptoCardSaid : Prop := Claim7.holds Tryz.pinned (.plain (OpenSpec.upto signNotesSpec)) signNotesUptoCard

/-- THE SECOND FORM's CARD OF 'yettlaw19.SignFresh'. -/
def signFreshUptoCard : Claim7 := { stood := { row := signFreshUptoRow, standIns := [], harness := (true, "3cb31a1aabac6100acadba78b4e78ab63778e8251ebb80431c2835cb5a6a3392"), looks := false }, kinds := [], alts := [], laidByText := true, laidKinds := [.data], laidTests := true, laidLooks := .later }
def SignFreshUptoCardSaid : Prop := Claim7.holds Tryz.pinned (.plain (OpenSpec.upto signFreshSpec)) signFreshUptoCard

/-- THE SECOND FORM's CARD OF 'yettlaw19.SignMeets'. -/
def signMeetsUptoCard : Claim7 := { stood := { row := signMeetsUptoRow, standIns := [], harness := (true, "3cb31a1aabac6100acadba78b4e78ab63778e8251ebb80431c2835cb5a6a3392"), looks := false }, kinds := [], alts := [], laidByText := true, laidKinds := [.data], laidTests := true, laidLooks := .later }
def SignMeetsUptoCardSaid : Prop := Claim7.holds Tryz.pinned (.plain (OpenSpec.upto signMeetsSpec)) signMeetsUptoCard

/-- THE SECOND FORM's CARD OF 'yettlaw21.GateTells'. -/
def gateTellsUptoCard : Claim7 := { stood := { row := gateTellsUptoRow, standIns := [], harness := (true, "3cb31a1aabac6100acadba78b4e78ab63778e8251ebb80431c2835cb5a6a3392"), looks := false }, kinds := [], alts := [], laidByText := true, laidKinds := [.data], laidTests := true, laidLooks := .later }
def GateTellsUptoCardSaid : Prop := Claim7.holds Tryz.pinned (.plain (OpenSpec.upto gateTellsSpec)) gateTellsUptoCard

/-- THE SECOND FORM's CARD OF 'yettlaw21.GateDates'. -/
def gateDatesUptoCard : Claim7 := { stood := { row := gateDatesUptoRow, standIns := [], harness := (true, "3cb31a1aabac6100acadba78b4e78ab63778e8251ebb80431c2835cb5a6a3392"), looks := false }, kinds := [], alts := [], laidByText := true, laidKinds := [.data], laidTests := true, laidLooks := .later }
def GateDatesUptoCardSaid : Prop := Claim7.holds Tryz.pinned (.plain (OpenSpec.upto gateDatesSpec)) gateDatesUptoCard

/-- THE SECOND FORM's CARD OF 'yettlaw21.GateOrder'. -/
def gateOrderUptoCard : Claim7 := { stood := { row := gateOrderUptoRow, standIns := [], harness := (true, "3cb31a1aabac6100acadba78b4e78ab63778e8251ebb80431c2835cb5a6a3392"), looks := false }, kinds := [], alts := [], laidByText := true, laidKinds := [.data], laidTests := true, laidLooks := .later }
def GateOrderUptoCardSaid : Prop := Claim7.holds Tryz.pinned (.plain (OpenSpec.upto gateOrderSpec)) gateOrderUptoCard

/-- THE SECOND FORM's CARD OF 'yettlaw21.GateDays'. -/
def gateDaysUptoCard : Claim7 := { stood := { row := gateDaysUptoRow, standIns := [], harness := (true, "3cb31a1aabac6100acadba78b4e78ab63778e8251ebb80431c2835cb5a6a3392"), looks := false }, kinds := [], alts := [], laidByText := true, laidKinds := [.data], laidTests := true, laidLooks := .later }
def GateDaysUptoCardSaid : Prop := Claim7.holds Tryz.pinned (.plain (OpenSpec.upto gateDaysSpec)) gateDaysUptoCard

/-- THE SECOND FORM's CARD OF 'yettlaw21.GateStamps'. -/
def gateStampsUptoCard : Claim7 := { stood := { row := gateStampsUptoRow, standIns := [], harness := (true, "3cb31a1aabac6100acadba78b4e78ab63778e8251ebb80431c2835cb5a6a3392"), looks := false }, kinds := [], alts := [], laidByText := true, laidKinds := [.data], laidTests := true, laidLooks := .later }
def GateStampsUptoCardSaid : Prop := Claim7.holds Tryz.pinned (.plain (OpenSpec.upto gateStampsSpec)) gateStampsUptoCard

/-- THE SECOND FORM's CARD OF 'yettlaw21.GateCloses'. -/
def gateClosesUptoCard : Claim7 := { stood := { row := gateClosesUptoRow, standIns := [], harness := (true, "3cb31a1aabac6100acadba78b4e78ab63778e8251ebb80431c2835cb5a6a3392"), looks := false }, kinds := [], alts := [], laidByText := true, laidKinds := [.data], laidTests := true, laidLooks := .later }
def GateClosesUptoCardSaid : Prop := Claim7.holds Tryz.pinned (.plain (OpenSpec.upto gateClosesSpec)) gateClosesUptoCard

/-- THE SECOND FORM's CARD OF 'yettlaw21.GateMeets'. -/
def gateMeetsUptoCard : Claim7 := { stood := { row := gateMeetsUptoRow, standIns := [], harness := (true, "3cb31a1aabac6100acadba78b4e78ab63778e8251ebb80431c2835cb5a6a3392"), looks := false }, kinds := [], alts := [], laidByText := true, laidKinds := [.data], laidTests := true, laidLooks := .later }
def GateMeetsUptoCardSaid : Prop := Claim7.holds Tryz.pinned (.plain (OpenSpec.upto gateMeetsSpec)) gateMeetsUptoCard
end Rows
end Go.Proofs.YtbpaehkcjccplaaGreatDoor
