/- Proved: Rows.NoteReadsSaid, as it is given: for every input the law returns true and its arguments read as before. No condition of its own. -/
import Derived.Test.YtbffdlbcpdmncaaRows
import Derived.WalkKit
import Derived.ProofKit
import Derived.OpenShut
import Derived.Test.YtbffdlbcpdmncaaQ2
set_option linter.unusedVariables false
set_option linter.unusedSimpArgs false
namespace Go.Proofs.Ytbffdlbcpdmncaa.noteReads
open Go.ChangeShapes Go.WideShapes Go.ChangeAt Go.RowKit
theorem own : ownKnob Try.prog.godebug = none := by kernel_rfl
set_option maxRecDepth 100000 in
theorem lifted (os : Os) (started : os.Started) (H : Type) (enc : TypeId × Value → H) :
    ReturnsInHanded {} Try.checked os 12 .any (Rows.noteReadsSpec.pre6 enc Try.prog Try.f12 Rows.noteReadsRow.domain false) (Rows.noteReadsSpec.post enc Try.prog Try.f12 false true false false) := by
  refine returnsInHanded_of_change (C := Try.checked) own started (by kernel_rfl) Try.func12
    (ChangeSpec.witness6 (enc := enc) (C := Try.checked) false ⟨#[], #[.slice none 0 0], []⟩ 12 (by kernel_rfl) (by kernel_rfl) (by kernel_rfl) (by kernel_rfl)) ?_
  intro W base args ds gs before hval0 hW hcnd _
  refine Yp.law_post (ts := [.sl (.int .u8)]) Yp.c_law16_NoteReads (by kernel_rfl) (by kernel_rfl) (by kernel_rfl) (bt := 4) (by kernel_rfl) (by kernel_rfl) rfl (fun hl => ?_) hval0 hW (fun x hx => Yp.law16_NoteReads_true x hx)
  have hl : ds.length = 1 := hl
  have hg : gs = [] := by
    obtain ⟨_, _, _, hV, _⟩ := hW
    exact (trodVars_none hV).1
  subst hg
  match ds, hl with
  | [d0], _ => exact ⟨rfl, rfl, rfl⟩
theorem over : Rows.noteReadsRow.holds Try.pinned (OpenSpec.ofChange Rows.noteReadsSpec) :=
  OpenClaim.holds_of_wide 12 Try.f12 rfl rfl rfl rfl rfl rfl rfl ⟨rfl, rfl, rfl, rfl, rfl⟩ rfl rfl rfl rfl rfl (by kernel_rfl) Try.func12 (by kernel_rfl)
    (of_decide_eq_true (by kernel_rfl)) (by unfold Func.isWrapper; first | (rw [if_pos (by decide +kernel)]; kernel_rfl) | (rw [if_neg (by decide +kernel)]; exact ⟨rfl, rfl⟩))
    (fun os started H enc _ => lifted os started H enc)
theorem proved : Rows.NoteReadsSaid := over
#print axioms proved
end Go.Proofs.Ytbffdlbcpdmncaa.noteReads

