/- A part of the proof of DigBytes. -/
import Derived.Test.YtkmimlgogeeooaaYqS6
set_option linter.unusedVariables false
set_option linter.unusedSimpArgs false
namespace Yp
open Go
theorem law5' (v w : Int) (b s : List UInt8) (hv : v ≤ 9223372036854775807) : m5 ((v, w, b, s, ()), ()) = some (true, ()) := by
  unfold m5
  refine (ob_of shown_true).trans ?_
  by_cases hb : 200 < b.length
  · refine (ob_of (a := (true, ())) (sel_of_t (lt_t (show (200 : Int) < len b by simp only [len]; omega)))).trans rfl
  by_cases hs : 200 < s.length
  · refine (ob_of (a := (true, ())) ((sel_of_f (lt_f (show ¬ (200 : Int) < len b by simp only [len]; omega))).trans (congrArg (fun b => some (b, ())) (lt_t (show (200 : Int) < len s by simp only [len]; omega))))).trans rfl
  refine (ob_of (a := (false, ())) ((sel_of_f (lt_f (show ¬ (200 : Int) < len b by simp only [len]; omega))).trans (congrArg (fun b => some (b, ())) (lt_f (show ¬ (200 : Int) < len s by simp only [len]; omega))))).trans ?_
  refine (sel_of_f rfl).trans ?_
  refine (ob_of (m23_spec v w hv)).trans ?_
  refine (ob_of (m24_spec v w hv)).trans ?_
  refine (ob_of (m25_spec s (by omega))).trans ?_
  refine (ob_of (m26_spec s (by omega))).trans ?_
  simp only [m18, m27_spec b (by omega), m28_spec b (by omega), seq, beq, beq_self_eq_true, sel_t, ob_s]
theorem law5 (x : denL [.pair (.int .i64) (.pair (.int .i64) (.pair (.sl (.int .u8)) (.pair (.str) (.unit))))]) (h : okL [.pair (.int .i64) (.pair (.int .i64) (.pair (.sl (.int .u8)) (.pair (.str) (.unit))))] x) : m5 x = some (true, ()) := law5' x.1.1 x.1.2.1 x.1.2.2.1 x.1.2.2.2.1 h.1.1.2
end Yp
