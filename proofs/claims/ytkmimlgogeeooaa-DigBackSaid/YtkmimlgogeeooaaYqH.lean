/- A part of the proof of DigBack. -/
import Derived.Test.YtkmimlgogeeooaaYqG
set_option linter.unusedVariables false
set_option linter.unusedSimpArgs false
namespace Yp
open Go Go.Proofs
theorem s12 : m12 (42, 6, ()) = some ([48, 48, 48, 48, 52, 50], 0, ()) := (m12_spec 42 6 (by decide)).trans (by decide)
theorem s23 : m23 (258, 2, ()) = some ([1, 2], 0, ()) := (m23_spec 258 2 (by decide)).trans (by decide)
theorem s16 : m16 ([49, 50, 51, 52, 53], ()) = some ([1, 35, 69], 0, ()) := by
  unfold m16
  refine (ck_of (by kernel_rfl)).trans ?_
  refine (lc_of 10 (by kernel_rfl)).trans (by kernel_rfl)
theorem s14 : m14 ([48, 48, 48, 48, 52, 50], ()) = some (42, 0, ()) := by
  unfold m14
  refine (ob_of (a := (false, ())) (by kernel_rfl)).trans ?_
  refine (sel_of_f (by kernel_rfl)).trans ?_
  refine (lc_of 10 (by kernel_rfl)).trans (by kernel_rfl)
theorem s27 : m27 ([1, 35, 69], ()) = some ([48, 49, 50, 51, 52, 53], ()) := by
  unfold m27
  refine (ck_of (by kernel_rfl)).trans ?_
  refine (lc_of 10 (by kernel_rfl)).trans (by kernel_rfl)
theorem s19 : m19 ([1, 35, 69], 0, 5, ()) = some ([49, 50, 51, 52, 53], 3, 0, ()) := by
  unfold m19
  refine (ob_of (a := (false, ())) (by kernel_rfl)).trans ?_
  refine (sel_of_f (by kernel_rfl)).trans ?_
  refine (sel_of_f (by kernel_rfl)).trans ?_
  refine (ck_of (by kernel_rfl)).trans ?_
  refine (ob_of (a := ([48, 49, 50, 51, 52, 53], ())) s27).trans ?_
  refine (sel_of_t (by kernel_rfl)).trans ?_
  refine (ck_of (by kernel_rfl)).trans ?_
  refine (sel_of_f (by kernel_rfl)).trans ?_
  refine (ck_of (by kernel_rfl)).trans ?_
  refine (lc_of 10 (by kernel_rfl)).trans (by kernel_rfl)
theorem s21 : m21 ([1, 2], 0, 2, ()) = some (258, 2, 0, ()) := by
  unfold m21
  refine (ob_of (a := (false, ())) (by kernel_rfl)).trans ?_
  refine (sel_of_f (by kernel_rfl)).trans ?_
  refine (sel_of_f (by kernel_rfl)).trans ?_
  refine (ob_of (a := (false, ())) (by kernel_rfl)).trans ?_
  refine (sel_of_f (by kernel_rfl)).trans ?_
  refine (ck_of (by kernel_rfl)).trans ?_
  refine (lc_of 10 (by kernel_rfl)).trans (by kernel_rfl)
theorem s25 : m25 ([48, 49, 50, 51, 52, 53], ()) = some ([1, 35, 69], 0, ()) := by
  unfold m25
  refine (sel_of_f (by kernel_rfl)).trans ?_
  refine (ck_of (by kernel_rfl)).trans ?_
  refine (lc_of 10 (by kernel_rfl)).trans (by kernel_rfl)
theorem shown_true : m11 () = some (true, ()) := by
  unfold m11
  refine (ob_of s12).trans ?_
  refine (ob_of s16).trans ?_
  refine (ob_of s23).trans ?_
  refine (ob_of s14).trans ?_
  refine (ob_of s19).trans ?_
  refine (ob_of s21).trans ?_
  refine (ob_of s25).trans ?_
  refine (ob_of (a := (true, ())) ?_).trans (by kernel_rfl)
  refine (sel_of_t (by kernel_rfl)).trans ?_
  refine (sel_of_t (by kernel_rfl)).trans ?_
  refine (sel_of_t (by kernel_rfl)).trans ?_
  refine (ob_of s27).trans ?_
  kernel_rfl
end Yp
