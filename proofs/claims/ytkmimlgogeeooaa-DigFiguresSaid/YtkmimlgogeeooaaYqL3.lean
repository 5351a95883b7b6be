/- A part of the proof of DigFigures. -/
import Derived.Test.YtkmimlgogeeooaaYqS4
set_option linter.unusedVariables false
set_option linter.unusedSimpArgs false
namespace Yp
open Go Go.Proofs
theorem law3' (v w : Int) (s : List UInt8) (hv : v ≤ 9223372036854775807) : m3 (v, w, s, ()) = some (true, ()) := by
  unfold m3
  refine (ob_of shown_true).trans ?_
  by_cases hl : 100 < s.length
  · refine (sel_of_t (lt_t (show (100 : Int) < len s by simp only [len]; omega))).trans rfl
  refine (sel_of_f (lt_f (show ¬ (100 : Int) < len s by simp only [len]; omega))).trans ?_
  refine (ob_of (m12_spec v w hv)).trans ?_
  refine (ob_of (m13_spec v w hv)).trans ?_
  refine (ob_of (m14_spec s)).trans ?_
  refine (ob_of (m15_spec s (by omega))).trans ?_
  refine (ob_of (m16_spec s (by omega))).trans ?_
  refine (ob_of (m17_spec s (by omega))).trans ?_
  simp only [m18, seq, beq, beq_self_eq_true, sel_t, ob_s]
theorem law3 (x : denL [.int .i64, .int .i64, .str]) (h : okL [.int .i64, .int .i64, .str] x) : m3 x = some (true, ()) := law3' x.1 x.2.1 x.2.2.1 h.1.2
end Yp
