/-
  No cell of these rows narrows 'for every input' (looked for: loops, veiled, ifaces, maps, wideKeys, modest, calm, conditions, laid).
  DERIVED. THE GIVEN ROWS OF THIS SEAT. 13 by the template 'for every input the law returns true; each argument reads behind the call as it read before'; 0 by the template 'total and deterministic' (their statements: YtbffdlbcpdmncaaTotals.lean).
  GIVEN WITH THE SEED: the statements are not yours to turn. If you find one false, say at which input.
  Laid BY PROGRAM, IN A SANDBOX (cutbox-rows.mjs): the forced cells as the released guide's own fill.sh prints them over the translation c93cc9c1d5a23459… (all of the seat's roots in one cut). By AI agents, Wed Nov 11 2026. No macro, syntax, notation, axiom, sorry.
-/
import Derived.Test.YtbffdlbcpdmncaaChecked
import GoSem.Claim
import GoSem.ClaimJoined
import GoSem.ClaimMapViews
import Derived.JoinedTies
import Derived.KernelRfl
namespace Go.Proofs.Ytbffdlbcpdmncaa
/- THE CELL 'sum', in the pinned program and in every row, IS THE sha256 OF THE DUMP (.gsa) THAT YtbffdlbcpdmncaaProg.lean LOADS. Nothing in Lean hashes anything: it is a label: what it is worth is what the hold of that sum in a sandbox is worth. -/
noncomputable def Try.pinned : Pinned := { name := "ytbffdlbcpdmncaa", sum := "c93cc9c1d5a2345951491b03c14be6902aa321700ed139adc72e483b9275367c", checked := Try.checked }
namespace Rows
def none {H : Type} : Left H := { results := [], args := [] }

/-- 'yettlaw07.IsoTells': WHATEVER THE INPUT: true; the input reads as it did. -/
def isoTellsSpec : ChangeSpec := { name := "isoTells", fn := fun _ => fun
  | [d1, d2, d3] => { results := [.lit (.bool true)], args := [d1, d2, d3] }
  | _ => none }
def isoTellsRow : OpenClaim := { program := "ytbffdlbcpdmncaa", sum := "c93cc9c1d5a2345951491b03c14be6902aa321700ed139adc72e483b9275367c", func := "yett/yettlaw07.IsoTells", spec := "isoTells", unfollowed := true, recurses := true, apart := false }
def IsoTellsSaid : Prop := isoTellsRow.holds Try.pinned (OpenSpec.ofChange isoTellsSpec)

/-- ITS FALSE NEIGHBOUR: 'it returns false'. Refute it at one input. -/
def isoTellsWrong : ChangeSpec := { name := "isoTells", fn := fun _ => fun
  | [d1, d2, d3] => { results := [.lit (.bool false)], args := [d1, d2, d3] }
  | _ => none }
def IsoTellsWrongFalsely : Prop := isoTellsRow.holds Try.pinned (OpenSpec.ofChange isoTellsWrong)

/-- 'yettlaw07.IsoReads': WHATEVER THE INPUT: true; the input reads as it did. -/
def isoReadsSpec : ChangeSpec := { name := "isoReads", fn := fun _ => fun
  | [d] => { results := [.lit (.bool true)], args := [d] }
  | _ => none }
def isoReadsRow : OpenClaim := { program := "ytbffdlbcpdmncaa", sum := "c93cc9c1d5a2345951491b03c14be6902aa321700ed139adc72e483b9275367c", func := "yett/yettlaw07.IsoReads", spec := "isoReads", unfollowed := true, recurses := true, apart := false }
def IsoReadsSaid : Prop := isoReadsRow.holds Try.pinned (OpenSpec.ofChange isoReadsSpec)

/-- ITS FALSE NEIGHBOUR: 'it returns false'. Refute it at one input. -/
def isoReadsWrong : ChangeSpec := { name := "isoReads", fn := fun _ => fun
  | [d] => { results := [.lit (.bool false)], args := [d] }
  | _ => none }
def IsoReadsWrongFalsely : Prop := isoReadsRow.holds Try.pinned (OpenSpec.ofChange isoReadsWrong)

/-- 'yettlaw07.IsoSets': WHATEVER THE INPUT: true; the input reads as it did. -/
def isoSetsSpec : ChangeSpec := { name := "isoSets", fn := fun _ => fun
  | [d1, d2, d3] => { results := [.lit (.bool true)], args := [d1, d2, d3] }
  | _ => none }
def isoSetsRow : OpenClaim := { program := "ytbffdlbcpdmncaa", sum := "c93cc9c1d5a2345951491b03c14be6902aa321700ed139adc72e483b9275367c", func := "yett/yettlaw07.IsoSets", spec := "isoSets", unfollowed := true, recurses := true, apart := false }
def IsoSetsSaid : Prop := isoSetsRow.holds Try.pinned (OpenSpec.ofChange isoSetsSpec)

/-- ITS FALSE NEIGHBOUR: 'it returns false'. Refute it at one input. -/
def isoSetsWrong : ChangeSpec := { name := "isoSets", fn := fun _ => fun
  | [d1, d2, d3] => { results := [.lit (.bool false)], args := [d1, d2, d3] }
  | _ => none }
def IsoSetsWrongFalsely : Prop := isoSetsRow.holds Try.pinned (OpenSpec.ofChange isoSetsWrong)

/-- 'yettlaw07.IsoBack': WHATEVER THE INPUT: true; the input reads as it did. -/
def isoBackSpec : ChangeSpec := { name := "isoBack", fn := fun _ => fun
  | [d1, d2] => { results := [.lit (.bool true)], args := [d1, d2] }
  | _ => none }
def isoBackRow : OpenClaim := { program := "ytbffdlbcpdmncaa", sum := "c93cc9c1d5a2345951491b03c14be6902aa321700ed139adc72e483b9275367c", func := "yett/yettlaw07.IsoBack", spec := "isoBack", unfollowed := true, recurses := true, apart := false }
def IsoBackSaid : Prop := isoBackRow.holds Try.pinned (OpenSpec.ofChange isoBackSpec)

/-- ITS FALSE NEIGHBOUR: 'it returns false'. Refute it at one input. -/
def isoBackWrong : ChangeSpec := { name := "isoBack", fn := fun _ => fun
  | [d1, d2] => { results := [.lit (.bool false)], args := [d1, d2] }
  | _ => none }
def IsoBackWrongFalsely : Prop := isoBackRow.holds Try.pinned (OpenSpec.ofChange isoBackWrong)

/-- 'yettlaw07.IsoHolds': WHATEVER THE INPUT: true; the input reads as it did. -/
def isoHoldsSpec : ChangeSpec := { name := "isoHolds", fn := fun _ => fun
  | [d] => { results := [.lit (.bool true)], args := [d] }
  | _ => none }
def isoHoldsRow : OpenClaim := { program := "ytbffdlbcpdmncaa", sum := "c93cc9c1d5a2345951491b03c14be6902aa321700ed139adc72e483b9275367c", func := "yett/yettlaw07.IsoHolds", spec := "isoHolds", unfollowed := true, recurses := true, apart := false }
def IsoHoldsSaid : Prop := isoHoldsRow.holds Try.pinned (OpenSpec.ofChange isoHoldsSpec)

/-- ITS FALSE NEIGHBOUR: 'it returns false'. Refute it at one input. -/
def isoHoldsWrong : ChangeSpec := { name := "isoHolds", fn := fun _ => fun
  | [d] => { results := [.lit (.bool false)], args := [d] }
  | _ => none }
def IsoHoldsWrongFalsely : Prop := isoHoldsRow.holds Try.pinned (OpenSpec.ofChange isoHoldsWrong)

/-- 'yettlaw07.IsoCuts': WHATEVER THE INPUT: true; the input reads as it did. -/
def isoCutsSpec : ChangeSpec := { name := "isoCuts", fn := fun _ => fun
  | [d1, d2, d3] => { results := [.lit (.bool true)], args := [d1, d2, d3] }
  | _ => none }
def isoCutsRow : OpenClaim := { program := "ytbffdlbcpdmncaa", sum := "c93cc9c1d5a2345951491b03c14be6902aa321700ed139adc72e483b9275367c", func := "yett/yettlaw07.IsoCuts", spec := "isoCuts", unfollowed := true, recurses := true, apart := false }
def IsoCutsSaid : Prop := isoCutsRow.holds Try.pinned (OpenSpec.ofChange isoCutsSpec)

/-- ITS FALSE NEIGHBOUR: 'it returns false'. Refute it at one input. -/
def isoCutsWrong : ChangeSpec := { name := "isoCuts", fn := fun _ => fun
  | [d1, d2, d3] => { results := [.lit (.bool false)], args := [d1, d2, d3] }
  | _ => none }
def IsoCutsWrongFalsely : Prop := isoCutsRow.holds Try.pinned (OpenSpec.ofChange isoCutsWrong)

/-- 'yettlaw07.IsoApart': WHATEVER THE INPUT: true; the input reads as it did. -/
def isoApartSpec : ChangeSpec := { name := "isoApart", fn := fun _ => fun
  | [d1, d2] => { results := [.lit (.bool true)], args := [d1, d2] }
  | _ => none }
def isoApartRow : OpenClaim := { program := "ytbffdlbcpdmncaa", sum := "c93cc9c1d5a2345951491b03c14be6902aa321700ed139adc72e483b9275367c", func := "yett/yettlaw07.IsoApart", spec := "isoApart", unfollowed := true, recurses := true, apart := false }
def IsoApartSaid : Prop := isoApartRow.holds Try.pinned (OpenSpec.ofChange isoApartSpec)

/-- ITS FALSE NEIGHBOUR: 'it returns false'. Refute it at one input. -/
def isoApartWrong : ChangeSpec := { name := "isoApart", fn := fun _ => fun
  | [d1, d2] => { results := [.lit (.bool false)], args := [d1, d2] }
  | _ => none }
def IsoApartWrongFalsely : Prop := isoApartRow.holds Try.pinned (OpenSpec.ofChange isoApartWrong)

/-- 'yettlaw07.IsoTypes': WHATEVER THE INPUT: true; the input reads as it did. -/
def isoTypesSpec : ChangeSpec := { name := "isoTypes", fn := fun _ => fun
  | [d] => { results := [.lit (.bool true)], args := [d] }
  | _ => none }
def isoTypesRow : OpenClaim := { program := "ytbffdlbcpdmncaa", sum := "c93cc9c1d5a2345951491b03c14be6902aa321700ed139adc72e483b9275367c", func := "yett/yettlaw07.IsoTypes", spec := "isoTypes", unfollowed := true, recurses := true, apart := false }
def IsoTypesSaid : Prop := isoTypesRow.holds Try.pinned (OpenSpec.ofChange isoTypesSpec)

/-- ITS FALSE NEIGHBOUR: 'it returns false'. Refute it at one input. -/
def isoTypesWrong : ChangeSpec := { name := "isoTypes", fn := fun _ => fun
  | [d] => { results := [.lit (.bool false)], args := [d] }
  | _ => none }
def IsoTypesWrongFalsely : Prop := isoTypesRow.holds Try.pinned (OpenSpec.ofChange isoTypesWrong)

/-- 'yettlaw16.NoteTells': WHATEVER THE INPUT: true; the input reads as it did. -/
def noteTellsSpec : ChangeSpec := { name := "noteTells", fn := fun _ => fun
  | [d1, d2, d3] => { results := [.lit (.bool true)], args := [d1, d2, d3] }
  | _ => none }
def noteTellsRow : OpenClaim := { program := "ytbffdlbcpdmncaa", sum := "c93cc9c1d5a2345951491b03c14be6902aa321700ed139adc72e483b9275367c", func := "yett/yettlaw16.NoteTells", spec := "noteTells", unfollowed := true, recurses := true, apart := false }
def NoteTellsSaid : Prop := noteTellsRow.holds Try.pinned (OpenSpec.ofChange noteTellsSpec)

/-- ITS FALSE NEIGHBOUR: 'it returns false'. Refute it at one input. -/
def noteTellsWrong : ChangeSpec := { name := "noteTells", fn := fun _ => fun
  | [d1, d2, d3] => { results := [.lit (.bool false)], args := [d1, d2, d3] }
  | _ => none }
def NoteTellsWrongFalsely : Prop := noteTellsRow.holds Try.pinned (OpenSpec.ofChange noteTellsWrong)

/-- 'yettlaw16.NoteReads': WHATEVER THE INPUT: true; the input reads as it did. -/
def noteReadsSpec : ChangeSpec := { name := "noteReads", fn := fun _ => fun
  | [d] => { results := [.lit (.bool true)], args := [d] }
  | _ => none }
def noteReadsRow : OpenClaim := { program := "ytbffdlbcpdmncaa", sum := "c93cc9c1d5a2345951491b03c14be6902aa321700ed139adc72e483b9275367c", func := "yett/yettlaw16.NoteReads", spec := "noteReads", unfollowed := true, recurses := true, apart := false }
def NoteReadsSaid : Prop := noteReadsRow.holds Try.pinned (OpenSpec.ofChange noteReadsSpec)

/-- ITS FALSE NEIGHBOUR: 'it returns false'. Refute it at one input. -/
def noteReadsWrong : ChangeSpec := { name := "noteReads", fn := fun _ => fun
  | [d] => { results := [.lit (.bool false)], args := [d] }
  | _ => none }
def NoteReadsWrongFalsely : Prop := noteReadsRow.holds Try.pinned (OpenSpec.ofChange noteReadsWrong)

/-- 'yettlaw16.NoteBack': WHATEVER THE INPUT: true; the input reads as it did. -/
def noteBackSpec : ChangeSpec := { name := "noteBack", fn := fun _ => fun
  | [d1, d2] => { results := [.lit (.bool true)], args := [d1, d2] }
  | _ => none }
def noteBackRow : OpenClaim := { program := "ytbffdlbcpdmncaa", sum := "c93cc9c1d5a2345951491b03c14be6902aa321700ed139adc72e483b9275367c", func := "yett/yettlaw16.NoteBack", spec := "noteBack", unfollowed := true, recurses := true, apart := false }
def NoteBackSaid : Prop := noteBackRow.holds Try.pinned (OpenSpec.ofChange noteBackSpec)

/-- ITS FALSE NEIGHBOUR: 'it returns false'. Refute it at one input. -/
def noteBackWrong : ChangeSpec := { name := "noteBack", fn := fun _ => fun
  | [d1, d2] => { results := [.lit (.bool false)], args := [d1, d2] }
  | _ => none }
def NoteBackWrongFalsely : Prop := noteBackRow.holds Try.pinned (OpenSpec.ofChange noteBackWrong)

/-- 'yettlaw16.NoteAnswers': WHATEVER THE INPUT: true; the input reads as it did. -/
def noteAnswersSpec : ChangeSpec := { name := "noteAnswers", fn := fun _ => fun
  | [d1, d2, d3] => { results := [.lit (.bool true)], args := [d1, d2, d3] }
  | _ => none }
def noteAnswersRow : OpenClaim := { program := "ytbffdlbcpdmncaa", sum := "c93cc9c1d5a2345951491b03c14be6902aa321700ed139adc72e483b9275367c", func := "yett/yettlaw16.NoteAnswers", spec := "noteAnswers", unfollowed := true, recurses := true, apart := false }
def NoteAnswersSaid : Prop := noteAnswersRow.holds Try.pinned (OpenSpec.ofChange noteAnswersSpec)

/-- ITS FALSE NEIGHBOUR: 'it returns false'. Refute it at one input. -/
def noteAnswersWrong : ChangeSpec := { name := "noteAnswers", fn := fun _ => fun
  | [d1, d2, d3] => { results := [.lit (.bool false)], args := [d1, d2, d3] }
  | _ => none }
def NoteAnswersWrongFalsely : Prop := noteAnswersRow.holds Try.pinned (OpenSpec.ofChange noteAnswersWrong)

/-- 'yettlaw16.NoteFields': WHATEVER THE INPUT: true; the input reads as it did. -/
def noteFieldsSpec : ChangeSpec := { name := "noteFields", fn := fun _ => fun
  | [d1, d2, d3] => { results := [.lit (.bool true)], args := [d1, d2, d3] }
  | _ => none }
def noteFieldsRow : OpenClaim := { program := "ytbffdlbcpdmncaa", sum := "c93cc9c1d5a2345951491b03c14be6902aa321700ed139adc72e483b9275367c", func := "yett/yettlaw16.NoteFields", spec := "noteFields", unfollowed := true, recurses := true, apart := false }
def NoteFieldsSaid : Prop := noteFieldsRow.holds Try.pinned (OpenSpec.ofChange noteFieldsSpec)

/-- ITS FALSE NEIGHBOUR: 'it returns false'. Refute it at one input. -/
def noteFieldsWrong : ChangeSpec := { name := "noteFields", fn := fun _ => fun
  | [d1, d2, d3] => { results := [.lit (.bool false)], args := [d1, d2, d3] }
  | _ => none }
def NoteFieldsWrongFalsely : Prop := noteFieldsRow.holds Try.pinned (OpenSpec.ofChange noteFieldsWrong)

/- THE SECOND FORM. 'bulk': how many values and letters a reading holds, each counted each time it is reached (what is shared counts as often as it is met; a slice's spare places count too). A statement '..UptoSaid' is the law's where the arguments, and the package variables that the reading takes, are together of bulk at most 1048576: NARROWER than '..Said'. Prove '..Said' where nothing that the law and all that it calls make is longer than what came in: it says more and counts as full. Else prove '..UptoSaid'. A law counts once. -/
mutual
def uptoBulk {H : Type} : DataW H → Nat
  | .lit (.string bytes) => bytes.length + 1
  | .lit _ => 1
  | .nil => 1
  | .ptr d => uptoBulk d + 1
  | .slice elems spare => uptoBulkAll elems + uptoBulkAll spare + 1
  | .agg parts => uptoBulkAll parts + 1
  | .iface _ d => uptoBulk d + 1
  | .map entries => uptoBulkEntries entries + 1
  | .held _ => 1
def uptoBulkAll {H : Type} : List (DataW H) → Nat
  | [] => 0
  | d :: r => uptoBulk d + uptoBulkAll r
def uptoBulkEntries {H : Type} : List (Lit × DataW H) → Nat
  | [] => 0
  | x :: r => uptoBulkEntry x + uptoBulkEntries r
def uptoBulkEntry {H : Type} : Lit × DataW H → Nat
  | (.string bytes, d) => bytes.length + uptoBulk d + 1
  | (_, d) => uptoBulk d + 1
 end
def uptoSmall : (H : Type) → List (DataW H) → Bool := fun _ ds => decide (uptoBulkAll ds ≤ 1048576)
def OpenSpec.upto (s : _root_.Go.ChangeSpec) : _root_.Go.OpenSpec := { _root_.Go.OpenSpec.ofChange s with cond := some uptoSmall }

/-- 'yettlaw07.IsoTells', WHERE WHAT IT READS IS OF BULK AT MOST 1048576: true; the input reads as it did. -/
def isoTellsUptoRow : OpenClaim := { program := "ytbffdlbcpdmncaa", sum := "c93cc9c1d5a2345951491b03c14be6902aa321700ed139adc72e483b9275367c", func := "yett/yettlaw07.IsoTells", spec := "isoTells", unfollowed := true, recurses := true, apart := false, narrowed := true }
def IsoTellsUptoSaid : Prop := isoTellsUptoRow.holds Try.pinned (OpenSpec.upto isoTellsSpec)

/-- 'yettlaw07.IsoReads', WHERE WHAT IT READS IS OF BULK AT MOST 1048576: true; the input reads as it did. -/
def isoReadsUptoRow : OpenClaim := { program := "ytbffdlbcpdmncaa", sum := "c93cc9c1d5a2345951491b03c14be6902aa321700ed139adc72e483b9275367c", func := "yett/yettlaw07.IsoReads", spec := "isoReads", unfollowed := true, recurses := true, apart := false, narrowed := true }
def IsoReadsUptoSaid : Prop := isoReadsUptoRow.holds Try.pinned (OpenSpec.upto isoReadsSpec)

/-- 'yettlaw07.IsoSets', WHERE WHAT IT READS IS OF BULK AT MOST 1048576: true; the input reads as it did. -/
def isoSetsUptoRow : OpenClaim := { program := "ytbffdlbcpdmncaa", sum := "c93cc9c1d5a2345951491b03c14be6902aa321700ed139adc72e483b9275367c", func := "yett/yettlaw07.IsoSets", spec := "isoSets", unfollowed := true, recurses := true, apart := false, narrowed := true }
def IsoSetsUptoSaid : Prop := isoSetsUptoRow.holds Try.pinned (OpenSpec.upto isoSetsSpec)

/-- 'yettlaw07.IsoBack', WHERE WHAT IT READS IS OF BULK AT MOST 1048576: true; the input reads as it did. -/
def isoBackUptoRow : OpenClaim := { program := "ytbffdlbcpdmncaa", sum := "c93cc9c1d5a2345951491b03c14be6902aa321700ed139adc72e483b9275367c", func := "yett/yettlaw07.IsoBack", spec := "isoBack", unfollowed := true, recurses := true, apart := false, narrowed := true }
def IsoBackUptoSaid : Prop := isoBackUptoRow.holds Try.pinned (OpenSpec.upto isoBackSpec)

/-- 'yettlaw07.IsoHolds', WHERE WHAT IT READS IS OF BULK AT MOST 1048576: true; the input reads as it did. -/
def isoHoldsUptoRow : OpenClaim := { program := "ytbffdlbcpdmncaa", sum := "c93cc9c1d5a2345951491b03c14be6902aa321700ed139adc72e483b9275367c", func := "yett/yettlaw07.IsoHolds", spec := "isoHolds", unfollowed := true, recurses := true, apart := false, narrowed := true }
def IsoHoldsUptoSaid : Prop := isoHoldsUptoRow.holds Try.pinned (OpenSpec.upto isoHoldsSpec)

/-- 'yettlaw07.IsoCuts', WHERE WHAT IT READS IS OF BULK AT MOST 1048576: true; the input reads as it did. -/
def isoCutsUptoRow : OpenClaim := { program := "ytbffdlbcpdmncaa", sum := "c93cc9c1d5a2345951491b03c14be6902aa321700ed139adc72e483b9275367c", func := "yett/yettlaw07.IsoCuts", spec := "isoCuts", unfollowed := true, recurses := true, apart := false, narrowed := true }
def IsoCutsUptoSaid : Prop := isoCutsUptoRow.holds Try.pinned (OpenSpec.upto isoCutsSpec)

/-- 'yettlaw07.IsoApart', WHERE WHAT IT READS IS OF BULK AT MOST 1048576: true; the input reads as it did. -/
def isoApartUptoRow : OpenClaim := { program := "ytbffdlbcpdmncaa", sum := "c93cc9c1d5a2345951491b03c14be6902aa321700ed139adc72e483b9275367c", func := "yett/yettlaw07.IsoApart", spec := "isoApart", unfollowed := true, recurses := true, apart := false, narrowed := true }
def IsoApartUptoSaid : Prop := isoApartUptoRow.holds Try.pinned (OpenSpec.upto isoApartSpec)

/-- 'yettlaw07.IsoTypes', WHERE WHAT IT READS IS OF BULK AT MOST 1048576: true; the input reads as it did. -/
def isoTypesUptoRow : OpenClaim := { program := "ytbffdlbcpdmncaa", sum := "c93cc9c1d5a2345951491b03c14be6902aa321700ed139adc72e483b9275367c", func := "yett/yettlaw07.IsoTypes", spec := "isoTypes", unfollowed := true, recurses := true, apart := false, narrowed := true }
def IsoTypesUptoSaid : Prop := isoTypesUptoRow.holds Try.pinned (OpenSpec.upto isoTypesSpec)

/-- 'yettlaw16.NoteTells', WHERE WHAT IT READS IS OF BULK AT MOST 1048576: true; the input reads as it did. -/
def noteTellsUptoRow : OpenClaim := { program := "ytbffdlbcpdmncaa", sum := "c93cc9c1d5a2345951491b03c14be6902aa321700ed139adc72e483b9275367c", func := "yett/yettlaw16.NoteTells", spec := "noteTells", unfollowed := true, recurses := true, apart := false, narrowed := true }
def NoteTellsUptoSaid : Prop := noteTellsUptoRow.holds Try.pinned (OpenSpec.upto noteTellsSpec)

/-- 'yettlaw16.NoteReads', WHERE WHAT IT READS IS OF BULK AT MOST 1048576: true; the input reads as it did. -/
def noteReadsUptoRow : OpenClaim := { program := "ytbffdlbcpdmncaa", sum := "c93cc9c1d5a2345951491b03c14be6902aa321700ed139adc72e483b9275367c", func := "yett/yettlaw16.NoteReads", spec := "noteReads", unfollowed := true, recurses := true, apart := false, narrowed := true }
def NoteReadsUptoSaid : Prop := noteReadsUptoRow.holds Try.pinned (OpenSpec.upto noteReadsSpec)

/-- 'yettlaw16.NoteBack', WHERE WHAT IT READS IS OF BULK AT MOST 1048576: true; the input reads as it did. -/
def noteBackUptoRow : OpenClaim := { program := "ytbffdlbcpdmncaa", sum := "c93cc9c1d5a2345951491b03c14be6902aa321700ed139adc72e483b9275367c", func := "yett/yettlaw16.NoteBack", spec := "noteBack", unfollowed := true, recurses := true, apart := false, narrowed := true }
def NoteBackUptoSaid : Prop := noteBackUptoRow.holds Try.pinned (OpenSpec.upto noteBackSpec)

/-- 'yettlaw16.NoteAnswers', WHERE WHAT IT READS IS OF BULK AT MOST 1048576: true; the input reads as it did. -/
def noteAnswersUptoRow : OpenClaim := { program := "ytbffdlbcpdmncaa", sum := "c93cc9c1d5a2345951491b03c14be6902aa321700ed139adc72e483b9275367c", func := "yett/yettlaw16.NoteAnswers", spec := "noteAnswers", unfollowed := true, recurses := true, apart := false, narrowed := true }
def NoteAnswersUptoSaid : Prop := noteAnswersUptoRow.holds Try.pinned (OpenSpec.upto noteAnswersSpec)

/-- 'yettlaw16.NoteFields', WHERE WHAT IT READS IS OF BULK AT MOST 1048576: true; the input reads as it did. -/
def noteFieldsUptoRow : OpenClaim := { program := "ytbffdlbcpdmncaa", sum := "c93cc9c1d5a2345951491b03c14be6902aa321700ed139adc72e483b9275367c", func := "yett/yettlaw16.NoteFields", spec := "noteFields", unfollowed := true, recurses := true, apart := false, narrowed := true }
def NoteFieldsUptoSaid : Prop := noteFieldsUptoRow.holds Try.pinned (OpenSpec.upto noteFieldsSpec)

end Rows
end Go.Proofs.Ytbffdlbcpdmncaa
