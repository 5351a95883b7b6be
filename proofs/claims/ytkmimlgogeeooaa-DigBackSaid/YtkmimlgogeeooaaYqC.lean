/- A part of the proof of DigBack. -/
import Derived.Test.YtkmimlgogeeooaaYqD
import Derived.Test.YtkmimlgogeeooaaYpZ2
set_option linter.unusedVariables false
set_option linter.unusedSimpArgs false
namespace Yp
open Go Go.Proofs
theorem hTT : tabOK Try.prog (lookT TT) := tabOK_of _ _ (by kernel_rfl)
theorem hMix : Try.prog.follows .mixedOrders = true := by kernel_rfl
/-- yett/dig.Digits -/
theorem c12 : FOK Try.prog 12 ⟨[.int .i64, .int .i64], [.im (.str), .im (.int .i64)], m12⟩ := (model_go (E := ⟨lookT TT, lookG _⟩) hTT (lookG_nil) hMix Try.func12 (by kernel_rfl) 8 _ _ (by kernel_rfl)).congr m12_eq
/-- yett/dig.figure -/
theorem c30 : FOK Try.prog 30 ⟨[.int .i32], [.im (.int .i64), .im (.bool)], m30⟩ := (model_go (E := ⟨lookT TT, lookG _⟩) hTT (lookG_nil) hMix Try.func30 (by kernel_rfl) 4 _ _ (by kernel_rfl)).congr m30_eq
/-- yett/dig.Value -/
theorem c14 : FOK Try.prog 14 ⟨[.str], [.im (.int .i64), .im (.int .i64)], m14⟩ := (model_go (E := ⟨lookT TT, lookG _⟩) hTT (lookG_cons (lookG_nil) c30) hMix Try.func14 (by kernel_rfl) 9 _ _ (by kernel_rfl)).congr m14_eq
/-- yett/dig.Bcd -/
theorem c16 : FOK Try.prog 16 ⟨[.str], [.ow (.int .u8), .im (.int .i64)], m16⟩ := (model_go (E := ⟨lookT TT, lookG _⟩) hTT (lookG_cons (lookG_nil) c30) hMix Try.func16 (by kernel_rfl) 10 _ _ (by kernel_rfl)).congr m16_eq
/-- yett/yettref01.Same -/
theorem c18 : FOK Try.prog 18 ⟨[.sl (.int .u8), .sl (.int .u8)], [.im (.bool)], m18⟩ := (model_go (E := ⟨lookT TT, lookG _⟩) hTT (lookG_nil) hMix Try.func18 (by kernel_rfl) 5 _ _ (by kernel_rfl)).congr m18_eq
/-- yett/dig.Hex -/
theorem c27 : FOK Try.prog 27 ⟨[.sl (.int .u8)], [.im (.str)], m27⟩ := (model_go (E := ⟨lookT TT, lookG _⟩) hTT (lookG_nil) hMix Try.func27 (by kernel_rfl) 6 _ _ (by kernel_rfl)).congr m27_eq
/-- yett/dig.TakeBcd -/
theorem c19 : FOK Try.prog 19 ⟨[.sl (.int .u8), .int .i64, .int .i64], [.im (.str), .im (.int .i64), .im (.int .i64)], m19⟩ := (model_go (E := ⟨lookT TT, lookG _⟩) hTT (lookG_cons (lookG_cons (lookG_nil) c30) c27) hMix Try.func19 (by kernel_rfl) 15 _ _ (by kernel_rfl)).congr m19_eq
/-- yett/dig.TakeBig -/
theorem c21 : FOK Try.prog 21 ⟨[.sl (.int .u8), .int .i64, .int .i64], [.im (.int .i64), .im (.int .i64), .im (.int .i64)], m21⟩ := (model_go (E := ⟨lookT TT, lookG _⟩) hTT (lookG_nil) hMix Try.func21 (by kernel_rfl) 12 _ _ (by kernel_rfl)).congr m21_eq
/-- yett/dig.Big -/
theorem c23 : FOK Try.prog 23 ⟨[.int .i64, .int .i64], [.ow (.int .u8), .im (.int .i64)], m23⟩ := (model_go (E := ⟨lookT TT, lookG _⟩) hTT (lookG_nil) hMix Try.func23 (by kernel_rfl) 8 _ _ (by kernel_rfl)).congr m23_eq
/-- yett/dig.half -/
theorem c32 : FOK Try.prog 32 ⟨[.int .u8], [.im (.int .u8), .im (.bool)], m32⟩ := (model_go (E := ⟨lookT TT, lookG _⟩) hTT (lookG_nil) hMix Try.func32 (by kernel_rfl) 4 _ _ (by kernel_rfl)).congr m32_eq
/-- yett/dig.Unhex -/
theorem c25 : FOK Try.prog 25 ⟨[.str], [.ow (.int .u8), .im (.int .i64)], m25⟩ := (model_go (E := ⟨lookT TT, lookG _⟩) hTT (lookG_cons (lookG_nil) c32) hMix Try.func25 (by kernel_rfl) 10 _ _ (by kernel_rfl)).congr m25_eq
/-- yett/yettlaw01.shown -/
theorem c11 : FOK Try.prog 11 ⟨[], [.im (.bool)], m11⟩ := (model_go (E := ⟨lookT TT, lookG _⟩) hTT (lookG_cons (lookG_cons (lookG_cons (lookG_cons (lookG_cons (lookG_cons (lookG_cons (lookG_cons (lookG_cons (lookG_nil) c27) c25) c23) c21) c19) c18) c16) c14) c12) hMix Try.func11 (by kernel_rfl) 17 _ _ (by kernel_rfl)).congr m11_eq
/-- yett/yettref01.power -/
theorem c29 : FOK Try.prog 29 ⟨[.int .i64, .int .i64], [.im (.int .i64)], m29⟩ := (model_go (E := ⟨lookT TT, lookG _⟩) hTT (lookG_nil) hMix Try.func29 (by kernel_rfl) 7 _ _ (by kernel_rfl)).congr m29_eq
/-- yett/yettref01.Digits -/
theorem c13 : FOK Try.prog 13 ⟨[.int .i64, .int .i64], [.im (.str), .im (.int .i64)], m13⟩ := (model_go (E := ⟨lookT TT, lookG _⟩) hTT (lookG_cons (lookG_nil) c29) hMix Try.func13 (by kernel_rfl) 8 _ _ (by kernel_rfl)).congr m13_eq
/-- yett/yettref01.Figures -/
theorem c31 : FOK Try.prog 31 ⟨[.str], [.im (.bool)], m31⟩ := (model_go (E := ⟨lookT TT, lookG _⟩) hTT (lookG_nil) hMix Try.func31 (by kernel_rfl) 4 _ _ (by kernel_rfl)).congr m31_eq
/-- yett/yettref01.Value -/
theorem c15 : FOK Try.prog 15 ⟨[.str], [.im (.int .i64), .im (.int .i64)], m15⟩ := (model_go (E := ⟨lookT TT, lookG _⟩) hTT (lookG_cons (lookG_cons (lookG_nil) c31) c29) hMix Try.func15 (by kernel_rfl) 6 _ _ (by kernel_rfl)).congr m15_eq
/-- yett/yettref01.Bcd -/
theorem c17 : FOK Try.prog 17 ⟨[.str], [.ow (.int .u8), .im (.int .i64)], m17⟩ := (model_go (E := ⟨lookT TT, lookG _⟩) hTT (lookG_cons (lookG_nil) c31) hMix Try.func17 (by kernel_rfl) 6 _ _ (by kernel_rfl)).congr m17_eq
/-- yett/yettlaw01.DigFigures -/
theorem c3 : FOK Try.prog 3 ⟨[.int .i64, .int .i64, .str], [.im (.bool)], m3⟩ := (model_go (E := ⟨lookT TT, lookG _⟩) hTT (lookG_cons (lookG_cons (lookG_cons (lookG_cons (lookG_cons (lookG_cons (lookG_cons (lookG_cons (lookG_nil) c18) c17) c16) c15) c14) c13) c12) c11) hMix Try.func3 (by kernel_rfl) 20 _ _ (by kernel_rfl)).congr m3_eq
/-- yett/yettref01.TakeBcd -/
theorem c20 : FOK Try.prog 20 ⟨[.sl (.int .u8), .int .i64, .int .i64], [.im (.str), .im (.int .i64), .im (.int .i64)], m20⟩ := (model_go (E := ⟨lookT TT, lookG _⟩) hTT (lookG_nil) hMix Try.func20 (by kernel_rfl) 13 _ _ (by kernel_rfl)).congr m20_eq
/-- yett/yettref01.TakeBig -/
theorem c22 : FOK Try.prog 22 ⟨[.sl (.int .u8), .int .i64, .int .i64], [.im (.int .i64), .im (.int .i64), .im (.int .i64)], m22⟩ := (model_go (E := ⟨lookT TT, lookG _⟩) hTT (lookG_nil) hMix Try.func22 (by kernel_rfl) 11 _ _ (by kernel_rfl)).congr m22_eq
/-- yett/yettlaw01.DigTakes -/
theorem c4 : FOK Try.prog 4 ⟨[.sl (.int .u8), .int .i64, .int .i64], [.im (.bool)], m4⟩ := (model_go (E := ⟨lookT TT, lookG _⟩) hTT (lookG_cons (lookG_cons (lookG_cons (lookG_cons (lookG_cons (lookG_nil) c22) c21) c20) c19) c11) hMix Try.func4 (by kernel_rfl) 20 _ _ (by kernel_rfl)).congr m4_eq
/-- yett/yettref01.Big -/
theorem c24 : FOK Try.prog 24 ⟨[.int .i64, .int .i64], [.ow (.int .u8), .im (.int .i64)], m24⟩ := (model_go (E := ⟨lookT TT, lookG _⟩) hTT (lookG_cons (lookG_nil) c29) hMix Try.func24 (by kernel_rfl) 8 _ _ (by kernel_rfl)).congr m24_eq
/-- yett/yettref01.worth -/
theorem c33 : FOK Try.prog 33 ⟨[.int .u8], [.im (.int .i64)], m33⟩ := (model_go (E := ⟨lookT TT, lookG _⟩) hTT (lookG_nil) hMix Try.func33 (by kernel_rfl) 3 _ _ (by kernel_rfl)).congr m33_eq
/-- yett/yettref01.Unhex -/
theorem c26 : FOK Try.prog 26 ⟨[.str], [.ow (.int .u8), .im (.int .i64)], m26⟩ := (model_go (E := ⟨lookT TT, lookG _⟩) hTT (lookG_cons (lookG_nil) c33) hMix Try.func26 (by kernel_rfl) 8 _ _ (by kernel_rfl)).congr m26_eq
/-- yett/yettref01.sign -/
theorem c34 : FOK Try.prog 34 ⟨[.int .u8], [.im (.int .u8)], m34⟩ := (model_go (E := ⟨lookT TT, lookG _⟩) hTT (lookG_nil) hMix Try.func34 (by kernel_rfl) 3 _ _ (by kernel_rfl)).congr m34_eq
/-- yett/yettref01.Hex -/
theorem c28 : FOK Try.prog 28 ⟨[.sl (.int .u8)], [.im (.str)], m28⟩ := (model_go (E := ⟨lookT TT, lookG _⟩) hTT (lookG_cons (lookG_nil) c34) hMix Try.func28 (by kernel_rfl) 5 _ _ (by kernel_rfl)).congr m28_eq
/-- yett/yettlaw01.DigBytes -/
theorem c5 : FOK Try.prog 5 ⟨[.pair (.int .i64) (.pair (.int .i64) (.pair (.sl (.int .u8)) (.pair (.str) (.unit))))], [.im (.bool)], m5⟩ := (model_go (E := ⟨lookT TT, lookG _⟩) hTT (lookG_cons (lookG_cons (lookG_cons (lookG_cons (lookG_cons (lookG_cons (lookG_cons (lookG_cons (lookG_nil) c28) c27) c26) c25) c24) c23) c18) c11) hMix Try.func5 (by kernel_rfl) 16 _ _ (by kernel_rfl)).congr m5_eq
/-- yett/yettlaw01.DigBack -/
theorem c6 : FOK Try.prog 6 ⟨[.pair (.int .i64) (.pair (.int .i64) (.pair (.sl (.int .u8)) (.pair (.sl (.int .u8)) (.unit))))], [.im (.bool)], m6⟩ := (model_go (E := ⟨lookT TT, lookG _⟩) hTT (lookG_cons (lookG_cons (lookG_cons (lookG_cons (lookG_cons (lookG_cons (lookG_cons (lookG_cons (lookG_cons (lookG_cons (lookG_nil) c27) c25) c23) c21) c19) c18) c16) c14) c12) c11) hMix Try.func6 (by kernel_rfl) 24 _ _ (by kernel_rfl)).congr m6_eq
/-- yett/yettlaw01.DigReads -/
theorem c7 : FOK Try.prog 7 ⟨[.pair (.sl (.int .u8)) (.pair (.int .u8) (.pair (.int .u8) (.pair (.str) (.unit))))], [.im (.bool)], m7⟩ := (model_go (E := ⟨lookT TT, lookG _⟩) hTT (lookG_cons (lookG_cons (lookG_cons (lookG_cons (lookG_cons (lookG_cons (lookG_cons (lookG_cons (lookG_cons (lookG_cons (lookG_nil) c27) c25) c23) c21) c19) c18) c16) c14) c12) c11) hMix Try.func7 (by kernel_rfl) 25 _ _ (by kernel_rfl)).congr m7_eq
/-- yett/yettlaw01.DigOrder -/
theorem c8 : FOK Try.prog 8 ⟨[.int .i64, .int .i64, .int .i64], [.im (.bool)], m8⟩ := (model_go (E := ⟨lookT TT, lookG _⟩) hTT (lookG_cons (lookG_cons (lookG_cons (lookG_nil) c23) c12) c11) hMix Try.func8 (by kernel_rfl) 16 _ _ (by kernel_rfl)).congr m8_eq
/-- yett/yettlaw01.DigCuts -/
theorem c9 : FOK Try.prog 9 ⟨[.sl (.int .u8), .int .i64, .int .u8], [.im (.bool)], m9⟩ := (model_go (E := ⟨lookT TT, lookG _⟩) hTT (lookG_cons (lookG_cons (lookG_cons (lookG_nil) c21) c19) c11) hMix Try.func9 (by kernel_rfl) 16 _ _ (by kernel_rfl)).congr m9_eq
/-- yett/yettlaw01.DigParts -/
theorem c10 : FOK Try.prog 10 ⟨[.int .i64, .int .i64, .int .u8], [.im (.bool)], m10⟩ := (model_go (E := ⟨lookT TT, lookG _⟩) hTT (lookG_cons (lookG_cons (lookG_cons (lookG_cons (lookG_nil) c18) c16) c12) c11) hMix Try.func10 (by kernel_rfl) 21 _ _ (by kernel_rfl)).congr m10_eq
end Yp

