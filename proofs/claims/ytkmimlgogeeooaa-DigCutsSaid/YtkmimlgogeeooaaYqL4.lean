/- A part of the proof of DigCuts. -/
import Derived.Test.YtkmimlgogeeooaaYqS9
set_option linter.unusedVariables false
set_option linter.unusedSimpArgs false
namespace Yp
open Go
theorem law4' (b : List UInt8) (at' n : Int) : m4 (b, at', n, ()) = some (true, ()) := by
  unfold m4
  refine (ob_of shown_true).trans ?_
  by_cases hb : 600 < b.length
  · exact (sel_of_t (lt_t (show (600 : Int) < len b by simp only [len]; omega))).trans rfl
  refine (sel_of_f (lt_f (show ¬ (600 : Int) < len b by simp only [len]; omega))).trans ?_
  refine (ob_of (m19_spec b at' n (by omega))).trans ?_
  refine (ob_of (m20_spec b at' n (by omega))).trans ?_
  refine (ob_of (m21_spec b at' n (by omega))).trans ?_
  refine (ob_of (m22_spec b at' n (by omega))).trans ?_
  simp only [seq, beq, beq_self_eq_true, sel_t, ob_s]
theorem law4 (x : denL [.sl (.int .u8), .int .i64, .int .i64]) (h : okL [.sl (.int .u8), .int .i64, .int .i64] x) : m4 x = some (true, ()) := law4' x.1 x.2.1 x.2.2.1
theorem beb_self (b : Bool) : beb b b = true := by cases b <;> rfl
theorem one_w (w : UInt8) : i64 (iadd 1 (imod (i64 (n8 w)) 8)) = ((1 + w.toNat % 8 : Nat) : Int) := by
  have h := n8_lt w
  have h8 : w.toNat % 8 < 8 := Nat.mod_lt _ (by omega)
  have e1 : i64 (n8 w) = ((w.toNat : Nat) : Int) := i64_nat (by omega)
  have e2 : imod ((w.toNat : Nat) : Int) 8 = ((w.toNat % 8 : Nat) : Int) := imod_nat (b := 8)
  rw [e1, e2]
  exact i64_add (a := 1) (by omega)
theorem law9' (b : List UInt8) (at' : Int) (w : UInt8) (h0 : -9223372036854775808 ≤ at') (h1 : at' ≤ 9223372036854775807) : m9 (b, at', w, ()) = some (true, ()) := by
  unfold m9
  refine (ob_of shown_true).trans ?_
  by_cases hb : 200 < b.length
  · exact (sel_of_t (lt_t (show (200 : Int) < len b by simp only [len]; omega))).trans rfl
  refine (sel_of_f (lt_f (show ¬ (200 : Int) < len b by simp only [len]; omega))).trans ?_
  simp only [one_w]
  have h8 : w.toNat % 8 < 8 := Nat.mod_lt _ (by omega)
  generalize hn : 1 + w.toNat % 8 = n
  refine (ob_of (m21_spec b at' n (by omega))).trans ?_
  refine (ob_of (m19_spec b at' n (by omega))).trans ?_
  have c1 : i64 (idiv (i64 (iadd (n : Int) 1)) 2) = (((n + 1) / 2 : Nat) : Int) := by
    rw [show i64 (iadd (n : Int) 1) = ((n + 1 : Nat) : Int) from i64_add (b := 1) (by omega)]
    exact i64_div (b := 2) (by omega)
  have c2 : ((n : Int) + 1) / 2 = (((n + 1) / 2 : Nat) : Int) := by omega
  have out : (sel (lt at' 0) (some (true, ())) (some (lt (len b) at', ())) : Option (Bool × Unit)) = some (decide (at' < 0 ∨ (b.length : Int) < at'), ()) := by
    by_cases ho : at' < 0
    · rw [decide_eq_true (.inl ho)]; exact sel_of_t (lt_t ho)
    · refine (sel_of_f (lt_f ho)).trans ?_
      unfold lt len
      have : decide ((b.length : Int) < at') = decide (at' < 0 ∨ (b.length : Int) < at') := by rw [decide_eq_decide]; omega
      rw [this]
  refine (ob_of out).trans ?_
  by_cases ho : at' < 0 ∨ (b.length : Int) < at'
  · have e1 : takeBig b at' n = (0, 0, 1, ()) := by unfold takeBig; rw [if_pos (by omega)]
    have e2 : takeBcd b at' n = ([], 0, 1, ()) := by unfold takeBcd; rw [if_pos (by omega)]
    rw [e1, e2, decide_eq_true ho]; rfl
  rw [decide_eq_false ho]
  have c0 : i64 (isub (len b) at') = (b.length : Int) - at' := by
    simp only [isub, len]; exact i64_of (by omega) (by omega)
  have t1 : beq (takeBig b at' n).2.2.1 1 = false ∧ beq (takeBig b at' n).2.2.1 3 = decide ((b.length : Int) - at' < n) := by
    unfold takeBig
    rw [if_neg (by omega)]
    by_cases hs : (b.length : Int) - at' < n
    · rw [if_pos hs, decide_eq_true hs]; exact ⟨rfl, rfl⟩
    · rw [if_neg hs, decide_eq_false hs]
      split <;> exact ⟨rfl, rfl⟩
  have t2 : beq (takeBcd b at' n).2.2.1 1 = false ∧ beq (takeBcd b at' n).2.2.1 3 = decide ((b.length : Int) - at' < (((n + 1) / 2 : Nat) : Int)) := by
    unfold takeBcd
    rw [if_neg (by omega), c2]
    by_cases hs : (b.length : Int) - at' < (((n + 1) / 2 : Nat) : Int)
    · rw [if_pos hs, decide_eq_true hs]; exact ⟨rfl, rfl⟩
    · rw [if_neg hs, decide_eq_false hs]
      split
      · exact ⟨rfl, rfl⟩
      · split <;> exact ⟨rfl, rfl⟩
  simp only [t1.1, t1.2, t2.1, t2.2, c0, c1, lt, beb_self, sel_t, sel_f, ob_s, bnot, Bool.not_true, Bool.not_false]
theorem law9 (x : denL [.sl (.int .u8), .int .i64, .int .u8]) (h : okL [.sl (.int .u8), .int .i64, .int .u8] x) : m9 x = some (true, ()) := law9' x.1 x.2.1 x.2.2.1 h.2.1.1 h.2.1.2
end Yp
