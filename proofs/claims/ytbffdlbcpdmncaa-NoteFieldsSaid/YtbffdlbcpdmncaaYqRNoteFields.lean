/- Proved: Rows.NoteFieldsSaid, as it is given: for every input the law returns true and its arguments read as before. No condition of its own. -/
import Derived.Test.YtbffdlbcpdmncaaRows
import Derived.WalkKit
import Derived.ProofKit
import Derived.OpenShut
import Derived.Test.YtbffdlbcpdmncaaQ2
set_option linter.unusedVariables false
set_option linter.unusedSimpArgs false
namespace Go.Proofs.Ytbffdlbcpdmncaa.noteFields
open Go.ChangeShapes Go.WideShapes Go.ChangeAt Go.RowKit
theorem own : ownKnob Try.prog.godebug = none := by kernel_rfl
set_option maxRecDepth 100000 in
theorem lifted (os : Os) (started : os.Started) (H : Type) (enc : TypeId × Value → H) :
    ReturnsInHanded {} Try.checked os 15 .any (Rows.noteFieldsSpec.pre6 enc Try.prog Try.f15 Rows.noteFieldsRow.domain false) (Rows.noteFieldsSpec.post enc Try.prog Try.f15 false true false false) := by
  refine returnsInHanded_of_change (C := Try.checked) own started (by kernel_rfl) Try.func15
    (ChangeSpec.witness6 (enc := enc) (C := Try.checked) false ⟨#[], #[.agg #[.bool false, .int .i64 0, .int .i64 0, .int .i64 0, .int .i64 0, .slice none 0 0, .slice none 0 0, .int .i64 0], .int .u8 0, .slice none 0 0], []⟩ 15 (by kernel_rfl) (by kernel_rfl) (by kernel_rfl) (by kernel_rfl)) ?_
  intro W base args ds gs before hval0 hW hcnd _
  refine Yp.law_post (ts := [.pair (.bool) (.pair (.int .i64) (.pair (.int .i64) (.pair (.int .i64) (.pair (.int .i64) (.pair (.sl (.int .u8)) (.pair (.sl (.int .u8)) (.pair (.int .i64) (.unit)))))))), .int .u8, .sl (.int .u8)]) Yp.c_law16_NoteFields (by kernel_rfl) (by kernel_rfl) (by kernel_rfl) (bt := 4) (by kernel_rfl) (by kernel_rfl) rfl (fun hl => ?_) hval0 hW (fun x hx => Yp.law16_NoteFields_true x hx)
  have hl : ds.length = 3 := hl
  have hg : gs = [] := by
    obtain ⟨_, _, _, hV, _⟩ := hW
    exact (trodVars_none hV).1
  subst hg
  match ds, hl with
  | [d0, d1, d2], _ => exact ⟨rfl, rfl, rfl⟩
theorem over : Rows.noteFieldsRow.holds Try.pinned (OpenSpec.ofChange Rows.noteFieldsSpec) :=
  OpenClaim.holds_of_wide 15 Try.f15 rfl rfl rfl rfl rfl rfl rfl ⟨rfl, rfl, rfl, rfl, rfl⟩ rfl rfl rfl rfl rfl (by kernel_rfl) Try.func15 (by kernel_rfl)
    (of_decide_eq_true (by kernel_rfl)) (by unfold Func.isWrapper; first | (rw [if_pos (by decide +kernel)]; kernel_rfl) | (rw [if_neg (by decide +kernel)]; exact ⟨rfl, rfl⟩))
    (fun os started H enc _ => lifted os started H enc)
theorem proved : Rows.NoteFieldsSaid := over
#print axioms proved
end Go.Proofs.Ytbffdlbcpdmncaa.noteFields

