/-
  NARROWER THAN 'FOR EVERY INPUT', by the rows' own cells (each row's printed sentence says how): RekeyTells: laid · RekeyHears: laid · RekeyStays: laid · RekeyMeets: laid · RekeyBoth: laid · RekeyAgain: laid · RekeyCheck: laid · SignTells: laid · SignNotes: laid · SignFresh: laid · SignMeets: laid · GateTells: laid · GateDates: laid · GateOrder: laid · GateDays: laid · GateStamps: laid · GateCloses: laid · GateMeets: laid.
  DERIVED. THE GIVEN ROWS OF THIS SEAT. 18 by the template 'for every input the law returns true; each argument reads behind the call as it read before'; 0 by the template 'total and deterministic' (their statements: YtbpaehkcjccplaaGreatDoorTotals.lean).
  GIVEN WITH THE SEED: the statements are not yours to turn. If you find one false, say at which input.
  Laid BY PROGRAM, IN A SANDBOX (cutbox-rows.mjs): the forced cells as the released guide's own fill.sh prints them over the translation 68ac5dfe5bf5ba01… (all of the seat's roots in one cut). By AI agents, Wed Nov 11 2026. No macro, syntax, notation, axiom, sorry.
-/
import Derived.Test.YtbpaehkcjccplaaGreatDoorChecked
import GoSem.Claim
import GoSem.ClaimJoined
import GoSem.ClaimMapViews
import Derived.JoinedTies
import Derived.KernelRfl
namespace Go.Proofs.YtbpaehkcjccplaaGreatDoor
/- THE CELL 'sum', in the pinned program and in every row, IS THE sha256 OF THE DUMP (.gsa) THAT YtbpaehkcjccplaaGreatDoorProg.lean LOADS. Nothing in Lean hashes anything: it is a label: what it is worth is what the hold of that sum in a sandbox is worth. -/
noncomputable def Tryz.pinned : Pinned := { name := "ytbpaehkcjccplaagreatdoor", sum := "68ac5dfe5bf5ba0102f9787e8673a73cfcbc512a9767e92609d1c77aedd9af81", checked := Tryz.checked }
namespace Rows
def none {H : Type} : Left H := { results := [], args := [] }

/- WHAT THE LISTED PACKAGE-LEVEL VARIABLES READ AS WHEN THE CALL BEGINS. Each datum BY PROGRAM (the guide's laid-datum.mjs) off the statement by which the dump's own 'gosem.cut.vars' lays the variable. In a bare row this is a premise. The card (YtbpaehkcjccplaaGreatDoorCards.lean) ties it to the program's text. -/
def laid_yett_sha_keys {H : Type} : DataW H := .agg [.lit (.int .u32 1116352408), .lit (.int .u32 1899447441), .lit (.int .u32 3049323471), .lit (.int .u32 3921009573), .lit (.int .u32 961987163), .lit (.int .u32 1508970993), .lit (.int .u32 2453635748), .lit (.int .u32 2870763221), .lit (.int .u32 3624381080), .lit (.int .u32 310598401), .lit (.int .u32 607225278), .lit (.int .u32 1426881987), .lit (.int .u32 1925078388), .lit (.int .u32 2162078206), .lit (.int .u32 2614888103), .lit (.int .u32 3248222580), .lit (.int .u32 3835390401), .lit (.int .u32 4022224774), .lit (.int .u32 264347078), .lit (.int .u32 604807628), .lit (.int .u32 770255983), .lit (.int .u32 1249150122), .lit (.int .u32 1555081692), .lit (.int .u32 1996064986), .lit (.int .u32 2554220882), .lit (.int .u32 2821834349), .lit (.int .u32 2952996808), .lit (.int .u32 3210313671), .lit (.int .u32 3336571891), .lit (.int .u32 3584528711), .lit (.int .u32 113926993), .lit (.int .u32 338241895), .lit (.int .u32 666307205), .lit (.int .u32 773529912), .lit (.int .u32 1294757372), .lit (.int .u32 1396182291), .lit (.int .u32 1695183700), .lit (.int .u32 1986661051), .lit (.int .u32 2177026350), .lit (.int .u32 2456956037), .lit (.int .u32 2730485921), .lit (.int .u32 2820302411), .lit (.int .u32 3259730800), .lit (.int .u32 3345764771), .lit (.int .u32 3516065817), .lit (.int .u32 3600352804), .lit (.int .u32 4094571909), .lit (.int .u32 275423344), .lit (.int .u32 430227734), .lit (.int .u32 506948616), .lit (.int .u32 659060556), .lit (.int .u32 883997877), .lit (.int .u32 958139571), .lit (.int .u32 1322822218), .lit (.int .u32 1537002063), .lit (.int .u32 1747873779), .lit (.int .u32 1955562222), .lit (.int .u32 2024104815), .lit (.int .u32 2227730452), .lit (.int .u32 2361852424), .lit (.int .u32 2428436474), .lit (.int .u32 2756734187), .lit (.int .u32 3204031479), .lit (.int .u32 3329325298)]

/-- 'yettlaw20.RekeyTells': WHATEVER THE INPUT: true; the input reads as it did. -/
def rekeyTellsSpec : ChangeSpec := { name := "rekeyTells", fn := fun _ => fun
  | [d1, d2] => { results := [.lit (.bool true)], args := [d1, d2] }
  | _ => none }
def rekeyTellsRow : OpenClaim := { program := "ytbpaehkcjccplaagreatdoor", sum := "68ac5dfe5bf5ba0102f9787e8673a73cfcbc512a9767e92609d1c77aedd9af81", func := "yett/yettlaw20.RekeyTells", spec := "rekeyTells", unfollowed := true, recurses := true, named := ["yett/sha.keys"], apart := false, laid := [("yett/sha.keys", laid_yett_sha_keys)] }
def RekeyTellsSaid : Prop := rekeyTellsRow.holds Tryz.pinned (OpenSpec.ofChange rekeyTellsSpec)

/-- ITS FALSE NEIGHBOUR: 'it returns false'. Refute it at one input. -/
def rekeyTellsWrong : ChangeSpec := { name := "rekeyTells", fn := fun _ => fun
  | [d1, d2] => { results := [.lit (.bool false)], args := [d1, d2] }
  | _ => none }
def RekeyTellsWrongFalsely : Prop := rekeyTellsRow.holds Tryz.pinned (OpenSpec.ofChange rekeyTellsWrong)

/-- 'yettlaw20.RekeyHears': WHATEVER THE INPUT: true; the input reads as it did. -/
def rekeyHearsSpec : ChangeSpec := { name := "rekeyHears", fn := fun _ => fun
  | [d1, d2] => { results := [.lit (.bool true)], args := [d1, d2] }
  | _ => none }
def rekeyHearsRow : OpenClaim := { program := "ytbpaehkcjccplaagreatdoor", sum := "68ac5dfe5bf5ba0102f9787e8673a73cfcbc512a9767e92609d1c77aedd9af81", func := "yett/yettlaw20.RekeyHears", spec := "rekeyHears", unfollowed := true, recurses := true, named := ["yett/sha.keys"], apart := false, laid := [("yett/sha.keys", laid_yett_sha_keys)] }
def RekeyHearsSaid : Prop := rekeyHearsRow.holds Tryz.pinned (OpenSpec.ofChange rekeyHearsSpec)

/-- ITS FALSE NEIGHBOUR: 'it returns false'. Refute it at one input. -/
def rekeyHearsWrong : ChangeSpec := { name := "rekeyHears", fn := fun _ => fun
  | [d1, d2] => { results := [.lit (.bool false)], args := [d1, d2] }
  | _ => none }
def RekeyHearsWrongFalsely : Prop := rekeyHearsRow.holds Tryz.pinned (OpenSpec.ofChange rekeyHearsWrong)

/-- 'yettlaw20.RekeyStays': WHATEVER THE INPUT: true; the input reads as it did. -/
def rekeyStaysSpec : ChangeSpec := { name := "rekeyStays", fn := fun _ => fun
  | [d1, d2, d3] => { results := [.lit (.bool true)], args := [d1, d2, d3] }
  | _ => none }
def rekeyStaysRow : OpenClaim := { program := "ytbpaehkcjccplaagreatdoor", sum := "68ac5dfe5bf5ba0102f9787e8673a73cfcbc512a9767e92609d1c77aedd9af81", func := "yett/yettlaw20.RekeyStays", spec := "rekeyStays", unfollowed := true, recurses := true, named := ["yett/sha.keys"], apart := false, laid := [("yett/sha.keys", laid_yett_sha_keys)] }
def RekeyStaysSaid : Prop := rekeyStaysRow.holds Tryz.pinned (OpenSpec.ofChange rekeyStaysSpec)

/-- ITS FALSE NEIGHBOUR: 'it returns false'. Refute it at one input. -/
def rekeyStaysWrong : ChangeSpec := { name := "rekeyStays", fn := fun _ => fun
  | [d1, d2, d3] => { results := [.lit (.bool false)], args := [d1, d2, d3] }
  | _ => none }
def RekeyStaysWrongFalsely : Prop := rekeyStaysRow.holds Tryz.pinned (OpenSpec.ofChange rekeyStaysWrong)

/-- 'yettlaw20.RekeyMeets': WHATEVER THE INPUT: true; the input reads as it did. -/
def rekeyMeetsSpec : ChangeSpec := { name := "rekeyMeets", fn := fun _ => fun
  | [d] => { results := [.lit (.bool true)], args := [d] }
  | _ => none }
def rekeyMeetsRow : OpenClaim := { program := "ytbpaehkcjccplaagreatdoor", sum := "68ac5dfe5bf5ba0102f9787e8673a73cfcbc512a9767e92609d1c77aedd9af81", func := "yett/yettlaw20.RekeyMeets", spec := "rekeyMeets", unfollowed := true, recurses := true, named := ["yett/sha.keys"], apart := false, laid := [("yett/sha.keys", laid_yett_sha_keys)] }
def RekeyMeetsSaid : Prop := rekeyMeetsRow.holds Tryz.pinned (OpenSpec.ofChange rekeyMeetsSpec)

/-- ITS FALSE NEIGHBOUR: 'it returns false'. Refute it at one input. -/
def rekeyMeetsWrong : ChangeSpec := { name := "rekeyMeets", fn := fun _ => fun
  | [d] => { results := [.lit (.bool false)], args := [d] }
  | _ => none }
def RekeyMeetsWrongFalsely : Prop := rekeyMeetsRow.holds Tryz.pinned (OpenSpec.ofChange rekeyMeetsWrong)

/-- 'yettlaw20.RekeyBoth': WHATEVER THE INPUT: true; the input reads as it did. -/
def rekeyBothSpec : ChangeSpec := { name := "rekeyBoth", fn := fun _ => fun
  | [d] => { results := [.lit (.bool true)], args := [d] }
  | _ => none }
def rekeyBothRow : OpenClaim := { program := "ytbpaehkcjccplaagreatdoor", sum := "68ac5dfe5bf5ba0102f9787e8673a73cfcbc512a9767e92609d1c77aedd9af81", func := "yett/yettlaw20.RekeyBoth", spec := "rekeyBoth", unfollowed := true, recurses := true, named := ["yett/sha.keys"], apart := false, laid := [("yett/sha.keys", laid_yett_sha_keys)] }
def RekeyBothSaid : Prop := rekeyBothRow.holds Tryz.pinned (OpenSpec.ofChange rekeyBothSpec)

/-- ITS FALSE NEIGHBOUR: 'it returns false'. Refute it at one input. -/
def rekeyBothWrong : ChangeSpec := { name := "rekeyBoth", fn := fun _ => fun
  | [d] => { results := [.lit (.bool false)], args := [d] }
  | _ => none }
def RekeyBothWrongFalsely : Prop := rekeyBothRow.holds Tryz.pinned (OpenSpec.ofChange rekeyBothWrong)

/-- 'yettlaw20.RekeyAgain': WHATEVER THE INPUT: true; the input reads as it did. -/
def rekeyAgainSpec : ChangeSpec := { name := "rekeyAgain", fn := fun _ => fun
  | [d] => { results := [.lit (.bool true)], args := [d] }
  | _ => none }
def rekeyAgainRow : OpenClaim := { program := "ytbpaehkcjccplaagreatdoor", sum := "68ac5dfe5bf5ba0102f9787e8673a73cfcbc512a9767e92609d1c77aedd9af81", func := "yett/yettlaw20.RekeyAgain", spec := "rekeyAgain", unfollowed := true, recurses := true, named := ["yett/sha.keys"], apart := false, laid := [("yett/sha.keys", laid_yett_sha_keys)] }
def RekeyAgainSaid : Prop := rekeyAgainRow.holds Tryz.pinned (OpenSpec.ofChange rekeyAgainSpec)

/-- ITS FALSE NEIGHBOUR: 'it returns false'. Refute it at one input. -/
def rekeyAgainWrong : ChangeSpec := { name := "rekeyAgain", fn := fun _ => fun
  | [d] => { results := [.lit (.bool false)], args := [d] }
  | _ => none }
def RekeyAgainWrongFalsely : Prop := rekeyAgainRow.holds Tryz.pinned (OpenSpec.ofChange rekeyAgainWrong)

/-- 'yettlaw20.RekeyCheck': WHATEVER THE INPUT: true; the input reads as it did. -/
def rekeyCheckSpec : ChangeSpec := { name := "rekeyCheck", fn := fun _ => fun
  | [d] => { results := [.lit (.bool true)], args := [d] }
  | _ => none }
def rekeyCheckRow : OpenClaim := { program := "ytbpaehkcjccplaagreatdoor", sum := "68ac5dfe5bf5ba0102f9787e8673a73cfcbc512a9767e92609d1c77aedd9af81", func := "yett/yettlaw20.RekeyCheck", spec := "rekeyCheck", unfollowed := true, recurses := true, named := ["yett/sha.keys"], apart := false, laid := [("yett/sha.keys", laid_yett_sha_keys)] }
def RekeyCheckSaid : Prop := rekeyCheckRow.holds Tryz.pinned (OpenSpec.ofChange rekeyCheckSpec)

/-- ITS FALSE NEIGHBOUR: 'it returns false'. Refute it at one input. -/
def rekeyCheckWrong : ChangeSpec := { name := "rekeyCheck", fn := fun _ => fun
  | [d] => { results := [.lit (.bool false)], args := [d] }
  | _ => none }
def RekeyCheckWrongFalsely : Prop := rekeyCheckRow.holds Tryz.pinned (OpenSpec.ofChange rekeyCheckWrong)

/-- 'yettlaw19.SignTells': WHATEVER THE INPUT: true; the input reads as it did. -/
def signTellsSpec : ChangeSpec := { name := "signTells", fn := fun _ => fun
  | [d] => { results := [.lit (.bool true)], args := [d] }
  | _ => none }
def signTellsRow : OpenClaim := { program := "ytbpaehkcjccplaagreatdoor", sum := "68ac5dfe5bf5ba0102f9787e8673a73cfcbc512a9767e92609d1c77aedd9af81", func := "yett/yettlaw19.SignTells", spec := "signTells", unfollowed := true, recurses := true, named := ["yett/sha.keys"], apart := false, laid := [("yett/sha.keys", laid_yett_sha_keys)] }
def SignTellsSaid : Prop := signTellsRow.holds Tryz.pinned (OpenSpec.ofChange signTellsSpec)

/-- ITS FALSE NEIGHBOUR: 'it returns false'. Refute it at one input. -/
def signTellsWrong : ChangeSpec := { name := "signTells", fn := fun _ => fun
  | [d] => { results := [.lit (.bool false)], args := [d] }
  | _ => none }
def SignTellsWrongFalsely : Prop := signTellsRow.holds Tryz.pinned (OpenSpec.ofChange signTellsWrong)

/-- 'yettlaw19.SignNotes': WHATEVER THE INPUT: true; the input reads as it did. -/
def signNotesSpec : ChangeSpec := { name := "signNotes", fn := fun _ => fun
  | [d1, d2, d3] => { results := [.lit (.bool true)], args := [d1, d2, d3] }
  | _ => none }
def signNotesRow : OpenClaim := { program := "ytbpaehkcjccplaagreatdoor", sum := "68ac5dfe5bf5ba0102f9787e8673a73cfcbc512a9767e92609d1c77aedd9af81", func := "yett/yettlaw19.SignNotes", spec := "signNotes", unfollowed := true, recurses := true, named := ["yett/sha.keys"], apart := false, laid := [("yett/sha.keys", laid_yett_sha_keys)] }
def SignNotesSaid : Prop := signNotesRow.holds Tryz.pinned (OpenSpec.ofChange signNotesSpec)

/-- ITS FALSE NEIGHBOUR: 'it returns false'. Refute it at one input. -/
def signNotesWrong : ChangeSpec := { name := "signNotes", fn := fun _ => fun
  | [d1, d2, d3] => { results := [.lit (.bool false)], args := [d1, d2, d3] }
  | _ => none }
def SignNotesWrongFalsely : Prop := signNotesRow.holds Tryz.pinned (OpenSpec.ofChange signNotesWrong)

/-- 'yettlaw19.SignFresh': WHATEVER THE INPUT: true; the input reads as it did. -/
def signFreshSpec : ChangeSpec := { name := "signFresh", fn := fun _ => fun
  | [d1, d2] => { results := [.lit (.bool true)], args := [d1, d2] }
  | _ => none }
def signFreshRow : OpenClaim := { program := "ytbpaehkcjccplaagreatdoor", sum := "68ac5dfe5bf5ba0102f9787e8673a73cfcbc512a9767e92609d1c77aedd9af81", func := "yett/yettlaw19.SignFresh", spec := "signFresh", unfollowed := true, recurses := true, named := ["yett/sha.keys"], apart := false, laid := [("yett/sha.keys", laid_yett_sha_keys)] }
def SignFreshSaid : Prop := signFreshRow.holds Tryz.pinned (OpenSpec.ofChange signFreshSpec)

/-- ITS FALSE NEIGHBOUR: 'it returns false'. Refute it at one input. -/
def signFreshWrong : ChangeSpec := { name := "signFresh", fn := fun _ => fun
  | [d1, d2] => { results := [.lit (.bool false)], args := [d1, d2] }
  | _ => none }
def SignFreshWrongFalsely : Prop := signFreshRow.holds Tryz.pinned (OpenSpec.ofChange signFreshWrong)

/-- 'yettlaw19.SignMeets': WHATEVER THE INPUT: true; the input reads as it did. -/
def signMeetsSpec : ChangeSpec := { name := "signMeets", fn := fun _ => fun
  | [d1, d2, d3] => { results := [.lit (.bool true)], args := [d1, d2, d3] }
  | _ => none }
def signMeetsRow : OpenClaim := { program := "ytbpaehkcjccplaagreatdoor", sum := "68ac5dfe5bf5ba0102f9787e8673a73cfcbc512a9767e92609d1c77aedd9af81", func := "yett/yettlaw19.SignMeets", spec := "signMeets", unfollowed := true, recurses := true, named := ["yett/sha.keys"], apart := false, laid := [("yett/sha.keys", laid_yett_sha_keys)] }
def SignMeetsSaid : Prop := signMeetsRow.holds Tryz.pinned (OpenSpec.ofChange signMeetsSpec)

/-- ITS FALSE NEIGHBOUR: 'it returns false'. Refute it at one input. -/
def signMeetsWrong : ChangeSpec := { name := "signMeets", fn := fun _ => fun
  | [d1, d2, d3] => { results := [.lit (.bool false)], args := [d1, d2, d3] }
  | _ => none }
def SignMeetsWrongFalsely : Prop := signMeetsRow.holds Tryz.pinned (OpenSpec.ofChange signMeetsWrong)

/-- 'yettlaw21.GateTells': WHATEVER THE INPUT: true; the input reads as it did. -/
def gateTellsSpec : ChangeSpec := { name := "gateTells", fn := fun _ => fun
  | [d1, d2, d3] => { results := [.lit (.bool true)], args := [d1, d2, d3] }
  | _ => none }
def gateTellsRow : OpenClaim := { program := "ytbpaehkcjccplaagreatdoor", sum := "68ac5dfe5bf5ba0102f9787e8673a73cfcbc512a9767e92609d1c77aedd9af81", func := "yett/yettlaw21.GateTells", spec := "gateTells", unfollowed := true, recurses := true, named := ["yett/sha.keys"], apart := false, laid := [("yett/sha.keys", laid_yett_sha_keys)] }
def GateTellsSaid : Prop := gateTellsRow.holds Tryz.pinned (OpenSpec.ofChange gateTellsSpec)

/-- ITS FALSE NEIGHBOUR: 'it returns false'. Refute it at one input. -/
def gateTellsWrong : ChangeSpec := { name := "gateTells", fn := fun _ => fun
  | [d1, d2, d3] => { results := [.lit (.bool false)], args := [d1, d2, d3] }
  | _ => none }
def GateTellsWrongFalsely : Prop := gateTellsRow.holds Tryz.pinned (OpenSpec.ofChange gateTellsWrong)

/-- 'yettlaw21.GateDates': WHATEVER THE INPUT: true; the input reads as it did. -/
def gateDatesSpec : ChangeSpec := { name := "gateDates", fn := fun _ => fun
  | [d1, d2, d3] => { results := [.lit (.bool true)], args := [d1, d2, d3] }
  | _ => none }
def gateDatesRow : OpenClaim := { program := "ytbpaehkcjccplaagreatdoor", sum := "68ac5dfe5bf5ba0102f9787e8673a73cfcbc512a9767e92609d1c77aedd9af81", func := "yett/yettlaw21.GateDates", spec := "gateDates", unfollowed := true, recurses := true, named := ["yett/sha.keys"], apart := false, laid := [("yett/sha.keys", laid_yett_sha_keys)] }
def GateDatesSaid : Prop := gateDatesRow.holds Tryz.pinned (OpenSpec.ofChange gateDatesSpec)

/-- ITS FALSE NEIGHBOUR: 'it returns false'. Refute it at one input. -/
def gateDatesWrong : ChangeSpec := { name := "gateDates", fn := fun _ => fun
  | [d1, d2, d3] => { results := [.lit (.bool false)], args := [d1, d2, d3] }
  | _ => none }
def GateDatesWrongFalsely : Prop := gateDatesRow.holds Tryz.pinned (OpenSpec.ofChange gateDatesWrong)

/-- 'yettlaw21.GateOrder': WHATEVER THE INPUT: true; the input reads as it did. -/
def gateOrderSpec : ChangeSpec := { name := "gateOrder", fn := fun _ => fun
  | [d1, d2] => { results := [.lit (.bool true)], args := [d1, d2] }
  | _ => none }
def gateOrderRow : OpenClaim := { program := "ytbpaehkcjccplaagreatdoor", sum := "68ac5dfe5bf5ba0102f9787e8673a73cfcbc512a9767e92609d1c77aedd9af81", func := "yett/yettlaw21.GateOrder", spec := "gateOrder", unfollowed := true, recurses := true, named := ["yett/sha.keys"], apart := false, laid := [("yett/sha.keys", laid_yett_sha_keys)] }
def GateOrderSaid : Prop := gateOrderRow.holds Tryz.pinned (OpenSpec.ofChange gateOrderSpec)

/-- ITS FALSE NEIGHBOUR: 'it returns false'. Refute it at one input. -/
def gateOrderWrong : ChangeSpec := { name := "gateOrder", fn := fun _ => fun
  | [d1, d2] => { results := [.lit (.bool false)], args := [d1, d2] }
  | _ => none }
def GateOrderWrongFalsely : Prop := gateOrderRow.holds Tryz.pinned (OpenSpec.ofChange gateOrderWrong)

/-- 'yettlaw21.GateDays': WHATEVER THE INPUT: true; the input reads as it did. -/
def gateDaysSpec : ChangeSpec := { name := "gateDays", fn := fun _ => fun
  | [d] => { results := [.lit (.bool true)], args := [d] }
  | _ => none }
def gateDaysRow : OpenClaim := { program := "ytbpaehkcjccplaagreatdoor", sum := "68ac5dfe5bf5ba0102f9787e8673a73cfcbc512a9767e92609d1c77aedd9af81", func := "yett/yettlaw21.GateDays", spec := "gateDays", unfollowed := true, recurses := true, named := ["yett/sha.keys"], apart := false, laid := [("yett/sha.keys", laid_yett_sha_keys)] }
def GateDaysSaid : Prop := gateDaysRow.holds Tryz.pinned (OpenSpec.ofChange gateDaysSpec)

/-- ITS FALSE NEIGHBOUR: 'it returns false'. Refute it at one input. -/
def gateDaysWrong : ChangeSpec := { name := "gateDays", fn := fun _ => fun
  | [d] => { results := [.lit (.bool false)], args := [d] }
  | _ => none }
def GateDaysWrongFalsely : Prop := gateDaysRow.holds Tryz.pinned (OpenSpec.ofChange gateDaysWrong)

/-- 'yettlaw21.GateStamps': WHATEVER THE INPUT: true; the input reads as it did. -/
def gateStampsSpec : ChangeSpec := { name := "gateStamps", fn := fun _ => fun
  | [d1, d2, d3] => { results := [.lit (.bool true)], args := [d1, d2, d3] }
  | _ => none }
def gateStampsRow : OpenClaim := { program := "ytbpaehkcjccplaagreatdoor", sum := "68ac5dfe5bf5ba0102f9787e8673a73cfcbc512a9767e92609d1c77aedd9af81", func := "yett/yettlaw21.GateStamps", spec := "gateStamps", unfollowed := true, recurses := true, named := ["yett/sha.keys"], apart := false, laid := [("yett/sha.keys", laid_yett_sha_keys)] }
def GateStampsSaid : Prop := gateStampsRow.holds Tryz.pinned (OpenSpec.ofChange gateStampsSpec)

/-- ITS FALSE NEIGHBOUR: 'it returns false'. Refute it at one input. -/
def gateStampsWrong : ChangeSpec := { name := "gateStamps", fn := fun _ => fun
  | [d1, d2, d3] => { results := [.lit (.bool false)], args := [d1, d2, d3] }
  | _ => none }
def GateStampsWrongFalsely : Prop := gateStampsRow.holds Tryz.pinned (OpenSpec.ofChange gateStampsWrong)

/-- 'yettlaw21.GateCloses': WHATEVER THE INPUT: true; the input reads as it did. -/
def gateClosesSpec : ChangeSpec := { name := "gateCloses", fn := fun _ => fun
  | [d1, d2, d3] => { results := [.lit (.bool true)], args := [d1, d2, d3] }
  | _ => none }
def gateClosesRow : OpenClaim := { program := "ytbpaehkcjccplaagreatdoor", sum := "68ac5dfe5bf5ba0102f9787e8673a73cfcbc512a9767e92609d1c77aedd9af81", func := "yett/yettlaw21.GateCloses", spec := "gateCloses", unfollowed := true, recurses := true, named := ["yett/sha.keys"], apart := false, laid := [("yett/sha.keys", laid_yett_sha_keys)] }
def GateClosesSaid : Prop := gateClosesRow.holds Tryz.pinned (OpenSpec.ofChange gateClosesSpec)

/-- ITS FALSE NEIGHBOUR: 'it returns false'. Refute it at one input. -/
def gateClosesWrong : ChangeSpec := { name := "gateCloses", fn := fun _ => fun
  | [d1, d2, d3] => { results := [.lit (.bool false)], args := [d1, d2, d3] }
  | _ => none }
def GateClosesWrongFalsely : Prop := gateClosesRow.holds Tryz.pinned (OpenSpec.ofChange gateClosesWrong)

/-- 'yettlaw21.GateMeets': WHATEVER THE INPUT: true; the input reads as it did. -/
def gateMeetsSpec : ChangeSpec := { name := "gateMeets", fn := fun _ => fun
  | [d1, d2, d3] => { results := [.lit (.bool true)], args := [d1, d2, d3] }
  | _ => none }
def gateMeetsRow : OpenClaim := { program := "ytbpaehkcjccplaagreatdoor", sum := "68ac5dfe5bf5ba0102f9787e8673a73cfcbc512a9767e92609d1c77aedd9af81", func := "yett/yettlaw21.GateMeets", spec := "gateMeets", unfollowed := true, recurses := true, named := ["yett/sha.keys"], apart := false, laid := [("yett/sha.keys", laid_yett_sha_keys)] }
def GateMeetsSaid : Prop := gateMeetsRow.holds Tryz.pinned (OpenSpec.ofChange gateMeetsSpec)

/-- ITS FALSE NEIGHBOUR: 'it returns false'. Refute it at one input. -/
def gateMeetsWrong : ChangeSpec := { name := "gateMeets", fn := fun _ => fun
  | [d1, d2, d3] => { results := [.lit (.bool false)], args := [d1, d2, d3] }
  | _ => none }
def GateMeetsWrongFalsely : Prop := gateMeetsRow.holds Tryz.pinned (OpenSpec.ofChange gateMeetsWrong)

/- THE SECOND FORM. 'bulk': how many values and letters a reading holds, each counted each time it is reached (what is shared counts as often as it is met; a slice's spare places count too). A statement '..UptoSaid' is the law's where the arguments, and the package variables that the reading takes, are together of bulk at most 1048576: NARROWER than '..Said'. Prove '..Said' where nothing that the law and all that it calls make is longer than what came in: it says more and counts as full. Else prove '..UptoSaid'. A law counts once. -/
mutual
def uptoBulk {H : Type} : DataW H → Nat
  | .lit (.string bytes) => bytes.length + 1
  | .lit _ => 1
  | .nil => 1
  | .ptr d => uptoBulk d + 1
  | .slice elems spare => uptoBulkAll elems + uptoBulkAll spare + 1
  | .agg parts => uptoBulkAll parts + 1
  | .iface _ d => uptoBulk d + 1
  | .map entries => uptoBulkEntries entries + 1
  | .held _ => 1
def uptoBulkAll {H : Type} : List (DataW H) → Nat
  | [] => 0
  | d :: r => uptoBulk d + uptoBulkAll r
def uptoBulkEntries {H : Type} : List (Lit × DataW H) → Nat
  | [] => 0
  | x :: r => uptoBulkEntry x + uptoBulkEntries r
def uptoBulkEntry {H : Type} : Lit × DataW H → Nat
  | (.string bytes, d) => bytes.length + uptoBulk d + 1
  | (_, d) => uptoBulk d + 1
 end
def uptoSmall : (H : Type) → List (DataW H) → Bool := fun _ ds => decide (uptoBulkAll ds ≤ 1048576)
def OpenSpec.upto (s : _root_.Go.ChangeSpec) : _root_.Go.OpenSpec := { _root_.Go.OpenSpec.ofChange s with cond := some uptoSmall }

/-- 'yettlaw20.RekeyTells', WHERE WHAT IT READS IS OF BULK AT MOST 1048576: true; the input reads as it did. -/
def rekeyTellsUptoRow : OpenClaim := { program := "ytbpaehkcjccplaagreatdoor", sum := "68ac5dfe5bf5ba0102f9787e8673a73cfcbc512a9767e92609d1c77aedd9af81", func := "yett/yettlaw20.RekeyTells", spec := "rekeyTells", unfollowed := true, recurses := true, named := ["yett/sha.keys"], apart := false, laid := [("yett/sha.keys", laid_yett_sha_keys)], narrowed := true }
def RekeyTellsUptoSaid : Prop := rekeyTellsUptoRow.holds Tryz.pinned (OpenSpec.upto rekeyTellsSpec)

/-- 'yettlaw20.RekeyHears', WHERE WHAT IT READS IS OF BULK AT MOST 1048576: true; the input reads as it did. -/
def rekeyHearsUptoRow : OpenClaim := { program := "ytbpaehkcjccplaagreatdoor", sum := "68ac5dfe5bf5ba0102f9787e8673a73cfcbc512a9767e92609d1c77aedd9af81", func := "yett/yettlaw20.RekeyHears", spec := "rekeyHears", unfollowed := true, recurses := true, named := ["yett/sha.keys"], apart := false, laid := [("yett/sha.keys", laid_yett_sha_keys)], narrowed := true }
def RekeyHearsUptoSaid : Prop := rekeyHearsUptoRow.holds Tryz.pinned (OpenSpec.upto rekeyHearsSpec)

/-- 'yettlaw20.RekeyStays', WHERE WHAT IT READS IS OF BULK AT MOST 1048576: true; the input reads as it did. -/
def rekeyStaysUptoRow : OpenClaim := { program := "ytbpaehkcjccplaagreatdoor", sum := "68ac5dfe5bf5ba0102f9787e8673a73cfcbc512a9767e92609d1c77aedd9af81", func := "yett/yettlaw20.RekeyStays", spec := "rekeyStays", unfollowed := true, recurses := true, named := ["yett/sha.keys"], apart := false, laid := [("yett/sha.keys", laid_yett_sha_keys)], narrowed := true }
def RekeyStaysUptoSaid : Prop := rekeyStaysUptoRow.holds Tryz.pinned (OpenSpec.upto rekeyStaysSpec)

/-- 'yettlaw20.RekeyMeets', WHERE WHAT IT READS IS OF BULK AT MOST 1048576: true; the input reads as it did. -/
def rekeyMeetsUptoRow : OpenClaim := { program := "ytbpaehkcjccplaagreatdoor", sum := "68ac5dfe5bf5ba0102f9787e8673a73cfcbc512a9767e92609d1c77aedd9af81", func := "yett/yettlaw20.RekeyMeets", spec := "rekeyMeets", unfollowed := true, recurses := true, named := ["yett/sha.keys"], apart := false, laid := [("yett/sha.keys", laid_yett_sha_keys)], narrowed := true }
def RekeyMeetsUptoSaid : Prop := rekeyMeetsUptoRow.holds Tryz.pinned (OpenSpec.upto rekeyMeetsSpec)

/-- 'yettlaw20.RekeyBoth', WHERE WHAT IT READS IS OF BULK AT MOST 1048576: true; the input reads as it did. -/
def rekeyBothUptoRow : OpenClaim := { program := "ytbpaehkcjccplaagreatdoor", sum := "68ac5dfe5bf5ba0102f9787e8673a73cfcbc512a9767e92609d1c77aedd9af81", func := "yett/yettlaw20.RekeyBoth", spec := "rekeyBoth", unfollowed := true, recurses := true, named := ["yett/sha.keys"], apart := false, laid := [("yett/sha.keys", laid_yett_sha_keys)], narrowed := true }
def RekeyBothUptoSaid : Prop := rekeyBothUptoRow.holds Tryz.pinned (OpenSpec.upto rekeyBothSpec)

/-- 'yettlaw20.RekeyAgain', WHERE WHAT IT READS IS OF BULK AT MOST 1048576: true; the input reads as it did. -/
def rekeyAgainUptoRow : OpenClaim := { program := "ytbpaehkcjccplaagreatdoor", sum := "68ac5dfe5bf5ba0102f9787e8673a73cfcbc512a9767e92609d1c77aedd9af81", func := "yett/yettlaw20.RekeyAgain", spec := "rekeyAgain", unfollowed := true, recurses := true, named := ["yett/sha.keys"], apart := false, laid := [("yett/sha.keys", laid_yett_sha_keys)], narrowed := true }
def RekeyAgainUptoSaid : Prop := rekeyAgainUptoRow.holds Tryz.pinned (OpenSpec.upto rekeyAgainSpec)

/-- 'yettlaw20.RekeyCheck', WHERE WHAT IT READS IS OF BULK AT MOST 1048576: true; the input reads as it did. -/
def rekeyCheckUptoRow : OpenClaim := { program := "ytbpaehkcjccplaagreatdoor", sum := "68ac5dfe5bf5ba0102f9787e8673a73cfcbc512a9767e92609d1c77aedd9af81", func := "yett/yettlaw20.RekeyCheck", spec := "rekeyCheck", unfollowed := true, recurses := true, named := ["yett/sha.keys"], apart := false, laid := [("yett/sha.keys", laid_yett_sha_keys)], narrowed := true }
def RekeyCheckUptoSaid : Prop := rekeyCheckUptoRow.holds Tryz.pinned (OpenSpec.upto rekeyCheckSpec)

/-- 'yettlaw19.SignTells', WHERE WHAT IT READS IS OF BULK AT MOST 1048576: true; the input reads as it did. -/
def signTellsUptoRow : OpenClaim := { program := "ytbpaehkcjccplaagreatdoor", sum := "68ac5dfe5bf5ba0102f9787e8673a73cfcbc512a9767e92609d1c77aedd9af81", func := "yett/yettlaw19.SignTells", spec := "signTells", unfollowed := true, recurses := true, named := ["yett/sha.keys"], apart := false, laid := [("yett/sha.keys", laid_yett_sha_keys)], narrowed := true }
def SignTellsUptoSaid : Prop := signTellsUptoRow.holds Tryz.pinned (OpenSpec.upto signTellsSpec)

/-- 'yettlaw19.SignNotes', WHERE WHAT IT READS IS OF BULK AT MOST 1048576: true; the input reads as it did. -/
def signNotesUptoRow : OpenClaim := { program := "ytbpaehkcjccplaagreatdoor", sum := "68ac5dfe5bf5ba0102f9787e8673a73cfcbc512a9767e92609d1c77aedd9af81", func := "yett/yettlaw19.SignNotes", spec := "signNotes", unfollowed := true, recurses := true, named := ["yett/sha.keys"], apart := false, laid := [("yett/sha.keys", laid_yett_sha_keys)], narrowed := true }
def SignNotesUptoSaid : Prop := signNotesUptoRow.holds Tryz.pinned (OpenSpec.upto signNotesSpec)

/-- 'yettlaw19.SignFresh', WHERE WHAT IT READS IS OF BULK AT MOST 1048576: true; the input reads as it did. -/
def signFreshUptoRow : OpenClaim := { program := "ytbpaehkcjccplaagreatdoor", sum := "68ac5dfe5bf5ba0102f9787e8673a73cfcbc512a9767e92609d1c77aedd9af81", func := "yett/yettlaw19.SignFresh", spec := "signFresh", unfollowed := true, recurses := true, named := ["yett/sha.keys"], apart := false, laid := [("yett/sha.keys", laid_yett_sha_keys)], narrowed := true }
def SignFreshUptoSaid : Prop := signFreshUptoRow.holds Tryz.pinned (OpenSpec.upto signFreshSpec)

/-- 'yettlaw19.SignMeets', WHERE WHAT IT READS IS OF BULK AT MOST 1048576: true; the input reads as it did. -/
def signMeetsUptoRow : OpenClaim := { program := "ytbpaehkcjccplaagreatdoor", sum := "68ac5dfe5bf5ba0102f9787e8673a73cfcbc512a9767e92609d1c77aedd9af81", func := "yett/yettlaw19.SignMeets", spec := "signMeets", unfollowed := true, recurses := true, named := ["yett/sha.keys"], apart := false, laid := [("yett/sha.keys", laid_yett_sha_keys)], narrowed := true }
def SignMeetsUptoSaid : Prop := signMeetsUptoRow.holds Tryz.pinned (OpenSpec.upto signMeetsSpec)

/-- 'yettlaw21.GateTells', WHERE WHAT IT READS IS OF BULK AT MOST 1048576: true; the input reads as it did. -/
def gateTellsUptoRow : OpenClaim := { program := "ytbpaehkcjccplaagreatdoor", sum := "68ac5dfe5bf5ba0102f9787e8673a73cfcbc512a9767e92609d1c77aedd9af81", func := "yett/yettlaw21.GateTells", spec := "gateTells", unfollowed := true, recurses := true, named := ["yett/sha.keys"], apart := false, laid := [("yett/sha.keys", laid_yett_sha_keys)], narrowed := true }
def GateTellsUptoSaid : Prop := gateTellsUptoRow.holds Tryz.pinned (OpenSpec.upto gateTellsSpec)

/-- 'yettlaw21.GateDates', WHERE WHAT IT READS IS OF BULK AT MOST 1048576: true; the input reads as it did. -/
def gateDatesUptoRow : OpenClaim := { program := "ytbpaehkcjccplaagreatdoor", sum := "68ac5dfe5bf5ba0102f9787e8673a73cfcbc512a9767e92609d1c77aedd9af81", func := "yett/yettlaw21.GateDates", spec := "gateDates", unfollowed := true, recurses := true, named := ["yett/sha.keys"], apart := false, laid := [("yett/sha.keys", laid_yett_sha_keys)], narrowed := true }
def GateDatesUptoSaid : Prop := gateDatesUptoRow.holds Tryz.pinned (OpenSpec.upto gateDatesSpec)

/-- 'yettlaw21.GateOrder', WHERE WHAT IT READS IS OF BULK AT MOST 1048576: true; the input reads as it did. -/
def gateOrderUptoRow : OpenClaim := { program := "ytbpaehkcjccplaagreatdoor", sum := "68ac5dfe5bf5ba0102f9787e8673a73cfcbc512a9767e92609d1c77aedd9af81", func := "yett/yettlaw21.GateOrder", spec := "gateOrder", unfollowed := true, recurses := true, named := ["yett/sha.keys"], apart := false, laid := [("yett/sha.keys", laid_yett_sha_keys)], narrowed := true }
def GateOrderUptoSaid : Prop := gateOrderUptoRow.holds Tryz.pinned (OpenSpec.upto gateOrderSpec)

/-- 'yettlaw21.GateDays', WHERE WHAT IT READS IS OF BULK AT MOST 1048576: true; the input reads as it did. -/
def gateDaysUptoRow : OpenClaim := { program := "ytbpaehkcjccplaagreatdoor", sum := "68ac5dfe5bf5ba0102f9787e8673a73cfcbc512a9767e92609d1c77aedd9af81", func := "yett/yettlaw21.GateDays", spec := "gateDays", unfollowed := true, recurses := true, named := ["yett/sha.keys"], apart := false, laid := [("yett/sha.keys", laid_yett_sha_keys)], narrowed := true }
def GateDaysUptoSaid : Prop := gateDaysUptoRow.holds Tryz.pinned (OpenSpec.upto gateDaysSpec)

/-- 'yettlaw21.GateStamps', WHERE WHAT IT READS IS OF BULK AT MOST 1048576: true; the input reads as it did. -/
def gateStampsUptoRow : OpenClaim := { program := "ytbpaehkcjccplaagreatdoor", sum := "68ac5dfe5bf5ba0102f9787e8673a73cfcbc512a9767e92609d1c77aedd9af81", func := "yett/yettlaw21.GateStamps", spec := "gateStamps", unfollowed := true, recurses := true, named := ["yett/sha.keys"], apart := false, laid := [("yett/sha.keys", laid_yett_sha_keys)], narrowed := true }
def GateStampsUptoSaid : Prop := gateStampsUptoRow.holds Tryz.pinned (OpenSpec.upto gateStampsSpec)

/-- 'yettlaw21.GateCloses', WHERE WHAT IT READS IS OF BULK AT MOST 1048576: true; the input reads as it did. -/
def gateClosesUptoRow : OpenClaim := { program := "ytbpaehkcjccplaagreatdoor", sum := "68ac5dfe5bf5ba0102f9787e8673a73cfcbc512a9767e92609d1c77aedd9af81", func := "yett/yettlaw21.GateCloses", spec := "gateCloses", unfollowed := true, recurses := true, named := ["yett/sha.keys"], apart := false, laid := [("yett/sha.keys", laid_yett_sha_keys)], narrowed := true }
def GateClosesUptoSaid : Prop := gateClosesUptoRow.holds Tryz.pinned (OpenSpec.upto gateClosesSpec)

/-- 'yettlaw21.GateMeets', WHERE WHAT IT READS IS OF BULK AT MOST 1048576: true; the input reads as it did. -/
def gateMeetsUptoRow : OpenClaim := { program := "ytbpaehkcjccplaagreatdoor", sum := "68ac5dfe5bf5ba0102f9787e8673a73cfcbc512a9767e92609d1c77aedd9af81", func := "yett/yettlaw21.GateMeets", spec := "gateMeets", unfollowed := true, recurses := true, named := ["yett/sha.keys"], apart := false, laid := [("yett/sha.keys", laid_yett_sha_keys)], narrowed := true }
def GateMeetsUptoSaid : Prop := gateMeetsUptoRow.holds Tryz.pinned (OpenSpec.upto gateMeetsSpec)

end Rows
end Go.Proofs.YtbpaehkcjccplaaGreatDoor
