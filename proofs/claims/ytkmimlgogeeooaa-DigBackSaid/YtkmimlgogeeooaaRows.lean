/-
  No cell of these rows narrows 'for every input' (looked for: loops, veiled, ifaces, maps, wideKeys, modest, calm, conditions, laid).
  DERIVED. THE GIVEN ROWS OF THIS SEAT. 8 by the template 'for every input the law returns true; each argument reads behind the call as it read before'; 0 by the template 'total and deterministic' (their statements: YtkmimlgogeeooaaTotals.lean).
  GIVEN WITH THE SEED: the statements are not yours to turn. If you find one false, say at which input.
  Laid BY PROGRAM, IN A SANDBOX (cutbox-rows.mjs): the forced cells as the released guide's own fill.sh prints them over the translation b574a836f4ceb01a… (all of the seat's roots in one cut). By AI agents, Wed Nov 11 2026. No macro, syntax, notation, axiom, sorry.
-/
import Derived.Test.YtkmimlgogeeooaaChecked
import GoSem.Claim
import GoSem.ClaimJoined
import GoSem.ClaimMapViews
import Derived.JoinedTies
import Derived.KernelRfl
namespace Go.Proofs.Ytkmimlgogeeooaa
/- THE CELL 'sum', in the pinned program and in every row, IS THE sha256 OF THE DUMP (.gsa) THAT YtkmimlgogeeooaaProg.lean LOADS. Nothing in Lean hashes anything: it is a label: what it is worth is what the hold of that sum in a sandbox is worth. -/
noncomputable def Try.pinned : Pinned := { name := "ytkmimlgogeeooaa", sum := "b574a836f4ceb01a59c5b7cc8b9487fea034dd77021ff7ec8953832d6c5f4589", checked := Try.checked }
namespace Rows
def none {H : Type} : Left H := { results := [], args := [] }

/-- 'yettlaw01.DigFigures': WHATEVER THE INPUT: true; the input reads as it did. -/
def digFiguresSpec : ChangeSpec := { name := "digFigures", fn := fun _ => fun
  | [d1, d2, d3] => { results := [.lit (.bool true)], args := [d1, d2, d3] }
  | _ => none }
def digFiguresRow : OpenClaim := { program := "ytkmimlgogeeooaa", sum := "b574a836f4ceb01a59c5b7cc8b9487fea034dd77021ff7ec8953832d6c5f4589", func := "yett/yettlaw01.DigFigures", spec := "digFigures", apart := false }
def DigFiguresSaid : Prop := digFiguresRow.holds Try.pinned (OpenSpec.ofChange digFiguresSpec)

/-- ITS FALSE NEIGHBOUR: 'it returns false'. Refute it at one input. -/
def digFiguresWrong : ChangeSpec := { name := "digFigures", fn := fun _ => fun
  | [d1, d2, d3] => { results := [.lit (.bool false)], args := [d1, d2, d3] }
  | _ => none }
def DigFiguresWrongFalsely : Prop := digFiguresRow.holds Try.pinned (OpenSpec.ofChange digFiguresWrong)

/-- 'yettlaw01.DigTakes': WHATEVER THE INPUT: true; the input reads as it did. -/
def digTakesSpec : ChangeSpec := { name := "digTakes", fn := fun _ => fun
  | [d1, d2, d3] => { results := [.lit (.bool true)], args := [d1, d2, d3] }
  | _ => none }
def digTakesRow : OpenClaim := { program := "ytkmimlgogeeooaa", sum := "b574a836f4ceb01a59c5b7cc8b9487fea034dd77021ff7ec8953832d6c5f4589", func := "yett/yettlaw01.DigTakes", spec := "digTakes", apart := false }
def DigTakesSaid : Prop := digTakesRow.holds Try.pinned (OpenSpec.ofChange digTakesSpec)

/-- ITS FALSE NEIGHBOUR: 'it returns false'. Refute it at one input. -/
def digTakesWrong : ChangeSpec := { name := "digTakes", fn := fun _ => fun
  | [d1, d2, d3] => { results := [.lit (.bool false)], args := [d1, d2, d3] }
  | _ => none }
def DigTakesWrongFalsely : Prop := digTakesRow.holds Try.pinned (OpenSpec.ofChange digTakesWrong)

/-- 'yettlaw01.DigBytes': WHATEVER THE INPUT: true; the input reads as it did. -/
def digBytesSpec : ChangeSpec := { name := "digBytes", fn := fun _ => fun
  | [d] => { results := [.lit (.bool true)], args := [d] }
  | _ => none }
def digBytesRow : OpenClaim := { program := "ytkmimlgogeeooaa", sum := "b574a836f4ceb01a59c5b7cc8b9487fea034dd77021ff7ec8953832d6c5f4589", func := "yett/yettlaw01.DigBytes", spec := "digBytes", apart := false }
def DigBytesSaid : Prop := digBytesRow.holds Try.pinned (OpenSpec.ofChange digBytesSpec)

/-- ITS FALSE NEIGHBOUR: 'it returns false'. Refute it at one input. -/
def digBytesWrong : ChangeSpec := { name := "digBytes", fn := fun _ => fun
  | [d] => { results := [.lit (.bool false)], args := [d] }
  | _ => none }
def DigBytesWrongFalsely : Prop := digBytesRow.holds Try.pinned (OpenSpec.ofChange digBytesWrong)

/-- 'yettlaw01.DigBack': WHATEVER THE INPUT: true; the input reads as it did. -/
def digBackSpec : ChangeSpec := { name := "digBack", fn := fun _ => fun
  | [d] => { results := [.lit (.bool true)], args := [d] }
  | _ => none }
def digBackRow : OpenClaim := { program := "ytkmimlgogeeooaa", sum := "b574a836f4ceb01a59c5b7cc8b9487fea034dd77021ff7ec8953832d6c5f4589", func := "yett/yettlaw01.DigBack", spec := "digBack", apart := false }
def DigBackSaid : Prop := digBackRow.holds Try.pinned (OpenSpec.ofChange digBackSpec)

/-- ITS FALSE NEIGHBOUR: 'it returns false'. Refute it at one input. -/
def digBackWrong : ChangeSpec := { name := "digBack", fn := fun _ => fun
  | [d] => { results := [.lit (.bool false)], args := [d] }
  | _ => none }
def DigBackWrongFalsely : Prop := digBackRow.holds Try.pinned (OpenSpec.ofChange digBackWrong)

/-- 'yettlaw01.DigReads': WHATEVER THE INPUT: true; the input reads as it did. -/
def digReadsSpec : ChangeSpec := { name := "digReads", fn := fun _ => fun
  | [d] => { results := [.lit (.bool true)], args := [d] }
  | _ => none }
def digReadsRow : OpenClaim := { program := "ytkmimlgogeeooaa", sum := "b574a836f4ceb01a59c5b7cc8b9487fea034dd77021ff7ec8953832d6c5f4589", func := "yett/yettlaw01.DigReads", spec := "digReads", apart := false }
def DigReadsSaid : Prop := digReadsRow.holds Try.pinned (OpenSpec.ofChange digReadsSpec)

/-- ITS FALSE NEIGHBOUR: 'it returns false'. Refute it at one input. -/
def digReadsWrong : ChangeSpec := { name := "digReads", fn := fun _ => fun
  | [d] => { results := [.lit (.bool false)], args := [d] }
  | _ => none }
def DigReadsWrongFalsely : Prop := digReadsRow.holds Try.pinned (OpenSpec.ofChange digReadsWrong)

/-- 'yettlaw01.DigOrder': WHATEVER THE INPUT: true; the input reads as it did. -/
def digOrderSpec : ChangeSpec := { name := "digOrder", fn := fun _ => fun
  | [d1, d2, d3] => { results := [.lit (.bool true)], args := [d1, d2, d3] }
  | _ => none }
def digOrderRow : OpenClaim := { program := "ytkmimlgogeeooaa", sum := "b574a836f4ceb01a59c5b7cc8b9487fea034dd77021ff7ec8953832d6c5f4589", func := "yett/yettlaw01.DigOrder", spec := "digOrder", apart := false }
def DigOrderSaid : Prop := digOrderRow.holds Try.pinned (OpenSpec.ofChange digOrderSpec)

/-- ITS FALSE NEIGHBOUR: 'it returns false'. Refute it at one input. -/
def digOrderWrong : ChangeSpec := { name := "digOrder", fn := fun _ => fun
  | [d1, d2, d3] => { results := [.lit (.bool false)], args := [d1, d2, d3] }
  | _ => none }
def DigOrderWrongFalsely : Prop := digOrderRow.holds Try.pinned (OpenSpec.ofChange digOrderWrong)

/-- 'yettlaw01.DigCuts': WHATEVER THE INPUT: true; the input reads as it did. -/
def digCutsSpec : ChangeSpec := { name := "digCuts", fn := fun _ => fun
  | [d1, d2, d3] => { results := [.lit (.bool true)], args := [d1, d2, d3] }
  | _ => none }
def digCutsRow : OpenClaim := { program := "ytkmimlgogeeooaa", sum := "b574a836f4ceb01a59c5b7cc8b9487fea034dd77021ff7ec8953832d6c5f4589", func := "yett/yettlaw01.DigCuts", spec := "digCuts", apart := false }
def DigCutsSaid : Prop := digCutsRow.holds Try.pinned (OpenSpec.ofChange digCutsSpec)

/-- ITS FALSE NEIGHBOUR: 'it returns false'. Refute it at one input. -/
def digCutsWrong : ChangeSpec := { name := "digCuts", fn := fun _ => fun
  | [d1, d2, d3] => { results := [.lit (.bool false)], args := [d1, d2, d3] }
  | _ => none }
def DigCutsWrongFalsely : Prop := digCutsRow.holds Try.pinned (OpenSpec.ofChange digCutsWrong)

/-- 'yettlaw01.DigParts': WHATEVER THE INPUT: true; the input reads as it did. -/
def digPartsSpec : ChangeSpec := { name := "digParts", fn := fun _ => fun
  | [d1, d2, d3] => { results := [.lit (.bool true)], args := [d1, d2, d3] }
  | _ => none }
def digPartsRow : OpenClaim := { program := "ytkmimlgogeeooaa", sum := "b574a836f4ceb01a59c5b7cc8b9487fea034dd77021ff7ec8953832d6c5f4589", func := "yett/yettlaw01.DigParts", spec := "digParts", apart := false }
def DigPartsSaid : Prop := digPartsRow.holds Try.pinned (OpenSpec.ofChange digPartsSpec)

/-- ITS FALSE NEIGHBOUR: 'it returns false'. Refute it at one input. -/
def digPartsWrong : ChangeSpec := { name := "digParts", fn := fun _ => fun
  | [d1, d2, d3] => { results := [.lit (.bool false)], args := [d1, d2, d3] }
  | _ => none }
def DigPartsWrongFalsely : Prop := digPartsRow.holds Try.pinned (OpenSpec.ofChange digPartsWrong)

/- THE SECOND FORM. 'bulk': how many values and letters a reading holds, each counted each time it is reached (what is shared counts as often as it is met; a slice's spare places count too). A statement '..UptoSaid' is the law's where the arguments, and the package variables that the reading takes, are together of bulk at most 1048576: NARROWER than '..Said'. Prove '..Said' where nothing that the law and all that it calls make is longer than what came in: it says more and counts as full. Else prove '..UptoSaid'. A law counts once. -/
mutual
def uptoBulk {H : Type} : DataW H → Nat
  | .lit (.string bytes) => bytes.length + 1
  | .lit _ => 1
  | .nil => 1
  | .ptr d => uptoBulk d + 1
  | .slice elems spare => uptoBulkAll elems + uptoBulkAll spare + 1
  | .agg parts => uptoBulkAll parts + 1
  | .iface _ d => uptoBulk d + 1
  | .map entries => uptoBulkEntries entries + 1
  | .held _ => 1
def uptoBulkAll {H : Type} : List (DataW H) → Nat
  | [] => 0
  | d :: r => uptoBulk d + uptoBulkAll r
def uptoBulkEntries {H : Type} : List (Lit × DataW H) → Nat
  | [] => 0
  | x :: r => uptoBulkEntry x + uptoBulkEntries r
def uptoBulkEntry {H : Type} : Lit × DataW H → Nat
  | (.string bytes, d) => bytes.length + uptoBulk d + 1
  | (_, d) => uptoBulk d + 1
 end
def uptoSmall : (H : Type) → List (DataW H) → Bool := fun _ ds => decide (uptoBulkAll ds ≤ 1048576)
def OpenSpec.upto (s : _root_.Go.ChangeSpec) : _root_.Go.OpenSpec := { _root_.Go.OpenSpec.ofChange s with cond := some uptoSmall }

/-- 'yettlaw01.DigFigures', WHERE WHAT IT READS IS OF BULK AT MOST 1048576: true; the input reads as it did. -/
def digFiguresUptoRow : OpenClaim := { program := "ytkmimlgogeeooaa", sum := "b574a836f4ceb01a59c5b7cc8b9487fea034dd77021ff7ec8953832d6c5f4589", func := "yett/yettlaw01.DigFigures", spec := "digFigures", apart := false, narrowed := true }
def DigFiguresUptoSaid : Prop := digFiguresUptoRow.holds Try.pinned (OpenSpec.upto digFiguresSpec)

/-- 'yettlaw01.DigTakes', WHERE WHAT IT READS IS OF BULK AT MOST 1048576: true; the input reads as it did. -/
def digTakesUptoRow : OpenClaim := { program := "ytkmimlgogeeooaa", sum := "b574a836f4ceb01a59c5b7cc8b9487fea034dd77021ff7ec8953832d6c5f4589", func := "yett/yettlaw01.DigTakes", spec := "digTakes", apart := false, narrowed := true }
def DigTakesUptoSaid : Prop := digTakesUptoRow.holds Try.pinned (OpenSpec.upto digTakesSpec)

/-- 'yettlaw01.DigBytes', WHERE WHAT IT READS IS OF BULK AT MOST 1048576: true; the input reads as it did. -/
def digBytesUptoRow : OpenClaim := { program := "ytkmimlgogeeooaa", sum := "b574a836f4ceb01a59c5b7cc8b9487fea034dd77021ff7ec8953832d6c5f4589", func := "yett/yettlaw01.DigBytes", spec := "digBytes", apart := false, narrowed := true }
def DigBytesUptoSaid : Prop := digBytesUptoRow.holds Try.pinned (OpenSpec.upto digBytesSpec)

/-- 'yettlaw01.DigBack', WHERE WHAT IT READS IS OF BULK AT MOST 1048576: true; the input reads as it did. -/
def digBackUptoRow : OpenClaim := { program := "ytkmimlgogeeooaa", sum := "b574a836f4ceb01a59c5b7cc8b9487fea034dd77021ff7ec8953832d6c5f4589", func := "yett/yettlaw01.DigBack", spec := "digBack", apart := false, narrowed := true }
def DigBackUptoSaid : Prop := digBackUptoRow.holds Try.pinned (OpenSpec.upto digBackSpec)

/-- 'yettlaw01.DigReads', WHERE WHAT IT READS IS OF BULK AT MOST 1048576: true; the input reads as it did. -/
def digReadsUptoRow : OpenClaim := { program := "ytkmimlgogeeooaa", sum := "b574a836f4ceb01a59c5b7cc8b9487fea034dd77021ff7ec8953832d6c5f4589", func := "yett/yettlaw01.DigReads", spec := "digReads", apart := false, narrowed := true }
def DigReadsUptoSaid : Prop := digReadsUptoRow.holds Try.pinned (OpenSpec.upto digReadsSpec)

/-- 'yettlaw01.DigOrder', WHERE WHAT IT READS IS OF BULK AT MOST 1048576: true; the input reads as it did. -/
def digOrderUptoRow : OpenClaim := { program := "ytkmimlgogeeooaa", sum := "b574a836f4ceb01a59c5b7cc8b9487fea034dd77021ff7ec8953832d6c5f4589", func := "yett/yettlaw01.DigOrder", spec := "digOrder", apart := false, narrowed := true }
def DigOrderUptoSaid : Prop := digOrderUptoRow.holds Try.pinned (OpenSpec.upto digOrderSpec)

/-- 'yettlaw01.DigCuts', WHERE WHAT IT READS IS OF BULK AT MOST 1048576: true; the input reads as it did. -/
def digCutsUptoRow : OpenClaim := { program := "ytkmimlgogeeooaa", sum := "b574a836f4ceb01a59c5b7cc8b9487fea034dd77021ff7ec8953832d6c5f4589", func := "yett/yettlaw01.DigCuts", spec := "digCuts", apart := false, narrowed := true }
def DigCutsUptoSaid : Prop := digCutsUptoRow.holds Try.pinned (OpenSpec.upto digCutsSpec)

/-- 'yettlaw01.DigParts', WHERE WHAT IT READS IS OF BULK AT MOST 1048576: true; the input reads as it did. -/
def digPartsUptoRow : OpenClaim := { program := "ytkmimlgogeeooaa", sum := "b574a836f4ceb01a59c5b7cc8b9487fea034dd77021ff7ec8953832d6c5f4589", func := "yett/yettlaw01.DigParts", spec := "digParts", apart := false, narrowed := true }
def DigPartsUptoSaid : Prop := digPartsUptoRow.holds Try.pinned (OpenSpec.upto digPartsSpec)

end Rows
end Go.Proofs.Ytkmimlgogeeooaa
