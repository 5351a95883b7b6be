/-
  No cell of these rows narrows 'for every input' (looked for: loops, veiled, ifaces, maps, wideKeys, modest, calm, conditions, laid).
  DERIVED. THE GIVEN ROWS OF THIS SEAT. 7 by the template 'for every input the law returns true; each argument reads behind the call as it read before'; 0 by the template 'total and deterministic' (their statements: YtipoijjdbedliaaTotals.lean).
  GIVEN WITH THE SEED: the statements are not yours to turn. If you find one false, say at which input.
  Laid BY PROGRAM, IN A SANDBOX (cutbox-rows.mjs): the forced cells as the released guide's own fill.sh prints them over the translation 910968588409ca40… (all of the seat's roots in one cut). By AI agents, Wed Nov 11 2026. No macro, syntax, notation, axiom, sorry.
-/
import Derived.Test.YtipoijjdbedliaaChecked
import GoSem.Claim
import GoSem.ClaimJoined
import GoSem.ClaimMapViews
import Derived.JoinedTies
import Derived.KernelRfl
namespace Go.Proofs.Ytipoijjdbedliaa
/- THE CELL 'sum', in the pinned program and in every row, IS THE sha256 OF THE DUMP (.gsa) THAT YtipoijjdbedliaaProg.lean LOADS. Nothing in Lean hashes anything: it is a label: what it is worth is what the hold of that sum in a sandbox is worth. -/
noncomputable def Try.pinned : Pinned := { name := "ytipoijjdbedliaa", sum := "910968588409ca400c95143c2ef6e454e3102912c82b86c334f3dc511033edf2", checked := Try.checked }
namespace Rows
def none {H : Type} : Left H := { results := [], args := [] }

/-- 'yettlaw05.FieldTells': WHATEVER THE INPUT: true; the input reads as it did. -/
def fieldTellsSpec : ChangeSpec := { name := "fieldTells", fn := fun _ => fun
  | [d1, d2] => { results := [.lit (.bool true)], args := [d1, d2] }
  | _ => none }
def fieldTellsRow : OpenClaim := { program := "ytipoijjdbedliaa", sum := "910968588409ca400c95143c2ef6e454e3102912c82b86c334f3dc511033edf2", func := "yett/yettlaw05.FieldTells", spec := "fieldTells", unfollowed := true, recurses := true, apart := false }
def FieldTellsSaid : Prop := fieldTellsRow.holds Try.pinned (OpenSpec.ofChange fieldTellsSpec)

/-- ITS FALSE NEIGHBOUR: 'it returns false'. Refute it at one input. -/
def fieldTellsWrong : ChangeSpec := { name := "fieldTells", fn := fun _ => fun
  | [d1, d2] => { results := [.lit (.bool false)], args := [d1, d2] }
  | _ => none }
def FieldTellsWrongFalsely : Prop := fieldTellsRow.holds Try.pinned (OpenSpec.ofChange fieldTellsWrong)

/-- 'yettlaw05.FieldReads': WHATEVER THE INPUT: true; the input reads as it did. -/
def fieldReadsSpec : ChangeSpec := { name := "fieldReads", fn := fun _ => fun
  | [d1, d2, d3] => { results := [.lit (.bool true)], args := [d1, d2, d3] }
  | _ => none }
def fieldReadsRow : OpenClaim := { program := "ytipoijjdbedliaa", sum := "910968588409ca400c95143c2ef6e454e3102912c82b86c334f3dc511033edf2", func := "yett/yettlaw05.FieldReads", spec := "fieldReads", unfollowed := true, recurses := true, apart := false }
def FieldReadsSaid : Prop := fieldReadsRow.holds Try.pinned (OpenSpec.ofChange fieldReadsSpec)

/-- ITS FALSE NEIGHBOUR: 'it returns false'. Refute it at one input. -/
def fieldReadsWrong : ChangeSpec := { name := "fieldReads", fn := fun _ => fun
  | [d1, d2, d3] => { results := [.lit (.bool false)], args := [d1, d2, d3] }
  | _ => none }
def FieldReadsWrongFalsely : Prop := fieldReadsRow.holds Try.pinned (OpenSpec.ofChange fieldReadsWrong)

/-- 'yettlaw05.FieldBack': WHATEVER THE INPUT: true; the input reads as it did. -/
def fieldBackSpec : ChangeSpec := { name := "fieldBack", fn := fun _ => fun
  | [d] => { results := [.lit (.bool true)], args := [d] }
  | _ => none }
def fieldBackRow : OpenClaim := { program := "ytipoijjdbedliaa", sum := "910968588409ca400c95143c2ef6e454e3102912c82b86c334f3dc511033edf2", func := "yett/yettlaw05.FieldBack", spec := "fieldBack", unfollowed := true, recurses := true, apart := false }
def FieldBackSaid : Prop := fieldBackRow.holds Try.pinned (OpenSpec.ofChange fieldBackSpec)

/-- ITS FALSE NEIGHBOUR: 'it returns false'. Refute it at one input. -/
def fieldBackWrong : ChangeSpec := { name := "fieldBack", fn := fun _ => fun
  | [d] => { results := [.lit (.bool false)], args := [d] }
  | _ => none }
def FieldBackWrongFalsely : Prop := fieldBackRow.holds Try.pinned (OpenSpec.ofChange fieldBackWrong)

/-- 'yettlaw05.FieldApart': WHATEVER THE INPUT: true; the input reads as it did. -/
def fieldApartSpec : ChangeSpec := { name := "fieldApart", fn := fun _ => fun
  | [d1, d2, d3] => { results := [.lit (.bool true)], args := [d1, d2, d3] }
  | _ => none }
def fieldApartRow : OpenClaim := { program := "ytipoijjdbedliaa", sum := "910968588409ca400c95143c2ef6e454e3102912c82b86c334f3dc511033edf2", func := "yett/yettlaw05.FieldApart", spec := "fieldApart", unfollowed := true, recurses := true, apart := false }
def FieldApartSaid : Prop := fieldApartRow.holds Try.pinned (OpenSpec.ofChange fieldApartSpec)

/-- ITS FALSE NEIGHBOUR: 'it returns false'. Refute it at one input. -/
def fieldApartWrong : ChangeSpec := { name := "fieldApart", fn := fun _ => fun
  | [d1, d2, d3] => { results := [.lit (.bool false)], args := [d1, d2, d3] }
  | _ => none }
def FieldApartWrongFalsely : Prop := fieldApartRow.holds Try.pinned (OpenSpec.ofChange fieldApartWrong)

/-- 'yettlaw05.FieldCuts': WHATEVER THE INPUT: true; the input reads as it did. -/
def fieldCutsSpec : ChangeSpec := { name := "fieldCuts", fn := fun _ => fun
  | [d] => { results := [.lit (.bool true)], args := [d] }
  | _ => none }
def fieldCutsRow : OpenClaim := { program := "ytipoijjdbedliaa", sum := "910968588409ca400c95143c2ef6e454e3102912c82b86c334f3dc511033edf2", func := "yett/yettlaw05.FieldCuts", spec := "fieldCuts", unfollowed := true, recurses := true, apart := false }
def FieldCutsSaid : Prop := fieldCutsRow.holds Try.pinned (OpenSpec.ofChange fieldCutsSpec)

/-- ITS FALSE NEIGHBOUR: 'it returns false'. Refute it at one input. -/
def fieldCutsWrong : ChangeSpec := { name := "fieldCuts", fn := fun _ => fun
  | [d] => { results := [.lit (.bool false)], args := [d] }
  | _ => none }
def FieldCutsWrongFalsely : Prop := fieldCutsRow.holds Try.pinned (OpenSpec.ofChange fieldCutsWrong)

/-- 'yettlaw05.FieldLong': WHATEVER THE INPUT: true; the input reads as it did. -/
def fieldLongSpec : ChangeSpec := { name := "fieldLong", fn := fun _ => fun
  | [d1, d2] => { results := [.lit (.bool true)], args := [d1, d2] }
  | _ => none }
def fieldLongRow : OpenClaim := { program := "ytipoijjdbedliaa", sum := "910968588409ca400c95143c2ef6e454e3102912c82b86c334f3dc511033edf2", func := "yett/yettlaw05.FieldLong", spec := "fieldLong", unfollowed := true, recurses := true, apart := false }
def FieldLongSaid : Prop := fieldLongRow.holds Try.pinned (OpenSpec.ofChange fieldLongSpec)

/-- ITS FALSE NEIGHBOUR: 'it returns false'. Refute it at one input. -/
def fieldLongWrong : ChangeSpec := { name := "fieldLong", fn := fun _ => fun
  | [d1, d2] => { results := [.lit (.bool false)], args := [d1, d2] }
  | _ => none }
def FieldLongWrongFalsely : Prop := fieldLongRow.holds Try.pinned (OpenSpec.ofChange fieldLongWrong)

/-- 'yettlaw05.FieldSigns': WHATEVER THE INPUT: true; the input reads as it did. -/
def fieldSignsSpec : ChangeSpec := { name := "fieldSigns", fn := fun _ => fun
  | [d] => { results := [.lit (.bool true)], args := [d] }
  | _ => none }
def fieldSignsRow : OpenClaim := { program := "ytipoijjdbedliaa", sum := "910968588409ca400c95143c2ef6e454e3102912c82b86c334f3dc511033edf2", func := "yett/yettlaw05.FieldSigns", spec := "fieldSigns", unfollowed := true, recurses := true, apart := false }
def FieldSignsSaid : Prop := fieldSignsRow.holds Try.pinned (OpenSpec.ofChange fieldSignsSpec)

/-- ITS FALSE NEIGHBOUR: 'it returns false'. Refute it at one input. -/
def fieldSignsWrong : ChangeSpec := { name := "fieldSigns", fn := fun _ => fun
  | [d] => { results := [.lit (.bool false)], args := [d] }
  | _ => none }
def FieldSignsWrongFalsely : Prop := fieldSignsRow.holds Try.pinned (OpenSpec.ofChange fieldSignsWrong)

/- THE SECOND FORM. 'bulk': how many values and letters a reading holds, each counted each time it is reached (what is shared counts as often as it is met; a slice's spare places count too). A statement '..UptoSaid' is the law's where the arguments, and the package variables that the reading takes, are together of bulk at most 1048576: NARROWER than '..Said'. Prove '..Said' where nothing that the law and all that it calls make is longer than what came in: it says more and counts as full. Else prove '..UptoSaid'. A law counts once. -/
mutual
def uptoBulk {H : Type} : DataW H → Nat
  | .lit (.string bytes) => bytes.length + 1
  | .lit _ => 1
  | .nil => 1
  | .ptr d => uptoBulk d + 1
  | .slice elems spare => uptoBulkAll elems + uptoBulkAll spare + 1
  | .agg parts => uptoBulkAll parts + 1
  | .iface _ d => uptoBulk d + 1
  | .map entries => uptoBulkEntries entries + 1
  | .held _ => 1
def uptoBulkAll {H : Type} : List (DataW H) → Nat
  | [] => 0
  | d :: r => uptoBulk d + uptoBulkAll r
def uptoBulkEntries {H : Type} : List (Lit × DataW H) → Nat
  | [] => 0
  | x :: r => uptoBulkEntry x + uptoBulkEntries r
def uptoBulkEntry {H : Type} : Lit × DataW H → Nat
  | (.string bytes, d) => bytes.length + uptoBulk d + 1
  | (_, d) => uptoBulk d + 1
 end
def uptoSmall : (H : Type) → List (DataW H) → Bool := fun _ ds => decide (uptoBulkAll ds ≤ 1048576)
def OpenSpec.upto (s : _root_.Go.ChangeSpec) : _root_.Go.OpenSpec := { _root_.Go.OpenSpec.ofChange s with cond := some uptoSmall }

/-- 'yettlaw05.FieldTells', WHERE WHAT IT READS IS OF BULK AT MOST 1048576: true; the input reads as it did. -/
def fieldTellsUptoRow : OpenClaim := { program := "ytipoijjdbedliaa", sum := "910968588409ca400c95143c2ef6e454e3102912c82b86c334f3dc511033edf2", func := "yett/yettlaw05.FieldTells", spec := "fieldTells", unfollowed := true, recurses := true, apart := false, narrowed := true }
def FieldTellsUptoSaid : Prop := fieldTellsUptoRow.holds Try.pinned (OpenSpec.upto fieldTellsSpec)

/-- 'yettlaw05.FieldReads', WHERE WHAT IT READS IS OF BULK AT MOST 1048576: true; the input reads as it did. -/
def fieldReadsUptoRow : OpenClaim := { program := "ytipoijjdbedliaa", sum := "910968588409ca400c95143c2ef6e454e3102912c82b86c334f3dc511033edf2", func := "yett/yettlaw05.FieldReads", spec := "fieldReads", unfollowed := true, recurses := true, apart := false, narrowed := true }
def FieldReadsUptoSaid : Prop := fieldReadsUptoRow.holds Try.pinned (OpenSpec.upto fieldReadsSpec)

/-- 'yettlaw05.FieldBack', WHERE WHAT IT READS IS OF BULK AT MOST 1048576: true; the input reads as it did. -/
def fieldBackUptoRow : OpenClaim := { program := "ytipoijjdbedliaa", sum := "910968588409ca400c95143c2ef6e454e3102912c82b86c334f3dc511033edf2", func := "yett/yettlaw05.FieldBack", spec := "fieldBack", unfollowed := true, recurses := true, apart := false, narrowed := true }
def FieldBackUptoSaid : Prop := fieldBackUptoRow.holds Try.pinned (OpenSpec.upto fieldBackSpec)

/-- 'yettlaw05.FieldApart', WHERE WHAT IT READS IS OF BULK AT MOST 1048576: true; the input reads as it did. -/
def fieldApartUptoRow : OpenClaim := { program := "ytipoijjdbedliaa", sum := "910968588409ca400c95143c2ef6e454e3102912c82b86c334f3dc511033edf2", func := "yett/yettlaw05.FieldApart", spec := "fieldApart", unfollowed := true, recurses := true, apart := false, narrowed := true }
def FieldApartUptoSaid : Prop := fieldApartUptoRow.holds Try.pinned (OpenSpec.upto fieldApartSpec)

/-- 'yettlaw05.FieldCuts', WHERE WHAT IT READS IS OF BULK AT MOST 1048576: true; the input reads as it did. -/
def fieldCutsUptoRow : OpenClaim := { program := "ytipoijjdbedliaa", sum := "910968588409ca400c95143c2ef6e454e3102912c82b86c334f3dc511033edf2", func := "yett/yettlaw05.FieldCuts", spec := "fieldCuts", unfollowed := true, recurses := true, apart := false, narrowed := true }
def FieldCutsUptoSaid : Prop := fieldCutsUptoRow.holds Try.pinned (OpenSpec.upto fieldCutsSpec)

/-- 'yettlaw05.FieldLong', WHERE WHAT IT READS IS OF BULK AT MOST 1048576: true; the input reads as it did. -/
def fieldLongUptoRow : OpenClaim := { program := "ytipoijjdbedliaa", sum := "910968588409ca400c95143c2ef6e454e3102912c82b86c334f3dc511033edf2", func := "yett/yettlaw05.FieldLong", spec := "fieldLong", unfollowed := true, recurses := true, apart := false, narrowed := true }
def FieldLongUptoSaid : Prop := fieldLongUptoRow.holds Try.pinned (OpenSpec.upto fieldLongSpec)

/-- 'yettlaw05.FieldSigns', WHERE WHAT IT READS IS OF BULK AT MOST 1048576: true; the input reads as it did. -/
def fieldSignsUptoRow : OpenClaim := { program := "ytipoijjdbedliaa", sum := "910968588409ca400c95143c2ef6e454e3102912c82b86c334f3dc511033edf2", func := "yett/yettlaw05.FieldSigns", spec := "fieldSigns", unfollowed := true, recurses := true, apart := false, narrowed := true }
def FieldSignsUptoSaid : Prop := fieldSignsUptoRow.holds Try.pinned (OpenSpec.upto fieldSignsSpec)

end Rows
end Go.Proofs.Ytipoijjdbedliaa
