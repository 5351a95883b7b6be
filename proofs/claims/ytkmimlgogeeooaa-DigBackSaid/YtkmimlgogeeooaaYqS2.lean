/- A part of the proof of DigBack. -/
import Derived.Test.YtkmimlgogeeooaaYqS1
set_option linter.unusedVariables false
set_option linter.unusedSimpArgs false
namespace Yp
open Go
theorem pow_le_max {b w : Nat} (hb : 1 ≤ b) (h : b ^ w ≤ 9223372036854775807) : ∀ i, i ≤ w → b ^ i ≤ 9223372036854775807 := fun i hi => Nat.le_trans (Nat.pow_le_pow_right hb hi) h
theorem m29_spec (b w : Nat) (hb : 1 ≤ b) (hw : w ≤ 1000) (h : b ^ w ≤ 9223372036854775807) : m29 ((b : Int), (w : Int), ()) = some (((b ^ w : Nat) : Int), ()) := by
  unfold m29
  generalize hf : (fun (x : Int × Int × Unit) => _) = f
  have key := loop_scan (f := f) (fun i => (((b ^ i : Nat) : Int), (i : Int), ())) w (fun _ => True) (0, ()) 0 ?_ ?_ ?_
  · have e0 : (((b ^ 0 : Nat) : Int), ((0 : Nat) : Int), ()) = ((1 : Int), (0 : Int), ()) := by simp
    rw [e0] at key
    rcases key with ⟨_, hr⟩ | ⟨⟨i, hi, hn⟩, hr⟩
    · rw [hr]; rfl
    · exact absurd trivial hn
  · intro i hi _
    subst hf
    refine (sel_of_t (lt_t (show (i : Int) < (w : Int) by omega))).trans ?_
    have := pow_le_max hb h (i + 1) (by omega)
    rw [Nat.pow_succ] at this
    simp only
    rw [i64_mul this]
    have c : i64 (iadd (i : Int) 1) = ((i + 1 : Nat) : Int) := i64_add (b := 1) (by omega)
    rw [c, ← Nat.pow_succ]
  · intro i _ _ h; exact absurd trivial h
  · intro _; subst hf; exact sel_of_f (lt_f (show ¬ (w : Int) < (w : Int) by omega))
theorem m31_spec (s : List UInt8) (hl : s.length ≤ 1000000) : m31 (s, ()) = some (decide (figs s), ()) := by
  unfold m31
  generalize hf : (fun (x : Bool × Int × Unit) => _) = f
  have cond : ∀ i (hi : i < s.length), (sel (lt (n8 (nth s (nat (i : Int)) (u8 0))) (n8 (u8 48))) (some (true, ())) (ck (inB (i : Int) (len s)) (some (lt (n8 (u8 57)) (n8 (nth s (nat (i : Int)) (u8 0))), ()))) : Option (Bool × Unit)) = some (decide (¬ isFig s[i]), ()) := by
    intro i hi
    have hin : inB (i : Int) (len s) = true := inB_nat hi
    rw [nat_nat, nth_get hi, hin, ck_t]
    have e1 : n8 (u8 48) = 48 := by decide
    have e2 : n8 (u8 57) = 57 := by decide
    rw [e1, e2]
    by_cases h1 : s[i].toNat < 48
    · rw [lt_t (by simp only [n8]; omega), sel_t, decide_eq_true (show ¬ isFig s[i] from fun h => by unfold isFig at h; omega)]
    · rw [lt_f (by simp only [n8]; omega), sel_f]
      by_cases h2 : 57 < s[i].toNat
      · rw [lt_t (by simp only [n8]; omega), decide_eq_true (show ¬ isFig s[i] from fun h => by unfold isFig at h; omega)]
      · rw [lt_f (by simp only [n8]; omega), decide_eq_false (show ¬ ¬ isFig s[i] from fun h => h (by unfold isFig; omega))]
  have key := loop_scan (f := f) (fun i => (false, (i : Int), ())) s.length (fun i => ∀ h : i < s.length, isFig s[i]) (false, ()) 0 ?_ ?_ ?_
  · rcases key with ⟨hall, hr⟩ | ⟨⟨i, hi, hn⟩, hr⟩
    · rw [show (false, ((0 : Nat) : Int), ()) = (false, (0 : Int), ()) from rfl] at hr
      rw [hr, decide_eq_true (figs_iff.2 hall)]; rfl
    · rw [show (false, ((0 : Nat) : Int), ()) = (false, (0 : Int), ()) from rfl] at hr
      rw [hr, decide_eq_false (fun hc => hn (figs_iff.1 hc i hi))]; rfl
  · intro i hi hp
    subst hf
    refine (sel_of_t (lt_t (by simp only [len]; omega))).trans ?_
    refine (ck_of (inB_nat hi)).trans ?_
    refine (ob_of (cond i hi)).trans ?_
    refine (sel_of_f (decide_eq_false (fun h => h (hp i (Nat.le_refl _) hi)))).trans ?_
    have c : i64 (iadd (i : Int) 1) = ((i + 1 : Nat) : Int) := i64_add (b := 1) (by omega)
    simp only [c]
  · intro i hi _ hp
    subst hf
    refine (sel_of_t (lt_t (by simp only [len]; omega))).trans ?_
    refine (ck_of (inB_nat hi)).trans ?_
    refine (ob_of (cond i hi)).trans ?_
    exact sel_of_t (decide_eq_true (fun h => hp fun _ => h))
  · intro _; subst hf; exact sel_of_f (lt_f (by simp only [len]; omega))
theorem m15_spec (s : List UInt8) (hl : s.length ≤ 1000000) : m15 (s, ()) = some (if 1 ≤ s.length ∧ s.length ≤ 18 ∧ figs s then ((val s : Int), 0, ()) else (0, 2, ())) := by
  unfold m15
  by_cases h1 : s.length < 1
  · refine (ob_of (sel_of_t (lt_t (by simp only [len]; omega)))).trans ?_
    rw [if_neg (by omega)]; rfl
  by_cases h2 : 18 < s.length
  · refine (ob_of ((sel_of_f (lt_f (by simp only [len]; omega))).trans (sel_of_t (lt_t (by simp only [len]; omega))))).trans ?_
    rw [if_neg (by omega)]; rfl
  refine (ob_of (a := (bnot (decide (figs s)), ())) ?_).trans ?_
  · refine (sel_of_f (lt_f (by simp only [len]; omega))).trans ?_
    refine (sel_of_f (lt_f (by simp only [len]; omega))).trans ?_
    exact ob_of (m31_spec s hl)
  by_cases h3 : figs s
  rotate_left
  · refine (sel_of_t (by simp only [decide_eq_false h3, bnot, Bool.not_false])).trans ?_
    rw [if_neg (fun h => h3 h.2.2)]
  refine (sel_of_f (by simp only [decide_eq_true h3, bnot, Bool.not_true])).trans ?_
  rw [if_pos ⟨by omega, by omega, h3⟩]
  generalize hf : (fun (x : Int × Int × Unit) => _) = f
  have key := loop_scan (f := f) (fun i => (((val (s.take i) * 10 ^ (s.length - i) : Nat) : Int), (i : Int), ())) s.length (fun _ => True) (0, 2, ()) 0 ?_ ?_ ?_
  · have e0 : (((val (s.take 0) * 10 ^ (s.length - 0) : Nat) : Int), ((0 : Nat) : Int), ()) = ((0 : Int), (0 : Int), ()) := by simp [val]
    rw [e0] at key
    rcases key with ⟨_, hr⟩ | ⟨⟨i, hi, hn⟩, hr⟩
    · rw [hr]
      show some (((val (s.take s.length) * 10 ^ (s.length - s.length) : Nat) : Int), (0 : Int), ()) = _
      rw [List.take_length]; simp
    · exact absurd trivial hn
  · intro i hi _
    subst hf
    refine (sel_of_t (lt_t (by simp only [len]; omega))).trans ?_
    refine (ck_of (inB_nat hi)).trans ?_
    have c1 : i64 (isub (i64 (isub (len s) 1)) (i : Int)) = ((s.length - 1 - i : Nat) : Int) := by
      have : i64 (isub (len s) 1) = ((s.length - 1 : Nat) : Int) := i64_sub (b := 1) (by omega) (by omega)
      rw [this, i64_sub (by omega) (by omega)]
    have hb := pow18 (i := s.length - 1 - i) (by omega)
    have c2 : m29 (10, ((s.length - 1 - i : Nat) : Int), ()) = some (((10 ^ (s.length - 1 - i) : Nat) : Int), ()) := m29_spec 10 _ (by omega) (by omega) (by omega)
    have c3 := h3 i hi
    have c4 : i64 (isub (i64 (n8 (nth s (nat (i : Int)) (u8 0)))) 48) = ((s[i].toNat - 48 : Nat) : Int) := by
      rw [nat_nat, nth_get hi]
      have h256 := n8_lt s[i]
      have : i64 (n8 s[i]) = ((s[i].toNat : Nat) : Int) := i64_nat (by omega)
      rw [this]
      exact i64_sub (b := 48) c3.1 (by omega)
    simp only [c1, c2]
    refine (ob_of rfl).trans ?_
    have hv := val_lt (s := s) (i + 1) (by omega) (fun j hj h => h3 j h)
    have hp : 10 ^ (i + 1) * 10 ^ (s.length - (i + 1)) ≤ 1000000000000000000 := by
      rw [← Nat.pow_add]; exact pow18 (by omega)
    rw [val_take hi] at hv
    have e1 : s.length - i = (s.length - (i + 1)) + 1 := by omega
    have e2 : s.length - 1 - i = s.length - (i + 1) := by omega
    have hm : (10 * val (s.take i) + (s[i].toNat - 48)) * 10 ^ (s.length - (i + 1)) ≤ 10 ^ (i + 1) * 10 ^ (s.length - (i + 1)) := Nat.mul_le_mul_right _ (by omega)
    have hs : val (s.take i) * 10 ^ (s.length - i) + (s[i].toNat - 48) * 10 ^ (s.length - (i + 1)) = (10 * val (s.take i) + (s[i].toNat - 48)) * 10 ^ (s.length - (i + 1)) := by
      rw [e1, Nat.pow_succ, Nat.add_mul]; congr 1
      rw [Nat.mul_comm (10 ^ _) 10, ← Nat.mul_assoc, Nat.mul_comm (val _) 10]
    simp only [c4, e2]
    rw [i64_mul (by omega), i64_add (by omega), hs, val_take hi]
    have c : i64 (iadd (i : Int) 1) = ((i + 1 : Nat) : Int) := i64_add (b := 1) (by omega)
    rw [c]
  · intro i _ _ h; exact absurd trivial h
  · intro _; subst hf; exact sel_of_f (lt_f (by simp only [len]; omega))
end Yp
