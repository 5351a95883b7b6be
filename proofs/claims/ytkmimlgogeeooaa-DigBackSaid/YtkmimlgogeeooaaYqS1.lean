/- A part of the proof of DigBack. -/
import Derived.Test.YtkmimlgogeeooaaYqH
import Derived.Test.YtkmimlgogeeooaaYqL2
set_option linter.unusedVariables false
set_option linter.unusedSimpArgs false
namespace Yp
open Go
def isFig (c : UInt8) : Prop := 48 ≤ c.toNat ∧ c.toNat ≤ 57
instance (c : UInt8) : Decidable (isFig c) := inferInstanceAs (Decidable (_ ∧ _))
def figs (s : List UInt8) : Prop := ∀ (i : Nat) (h : i < s.length), isFig s[i]
def val (s : List UInt8) : Nat := s.foldl (fun n c => 10 * n + (c.toNat - 48)) 0
theorem val_take {s : List UInt8} {i : Nat} (h : i < s.length) : val (s.take (i + 1)) = 10 * val (s.take i) + (s[i].toNat - 48) := by
  unfold val
  rw [List.take_succ_eq_append_getElem h, List.foldl_append]; rfl
theorem val_lt {s : List UInt8} : ∀ i, i ≤ s.length → (∀ j, j < i → ∀ h : j < s.length, isFig s[j]) → val (s.take i) < 10 ^ i
  | 0, _, _ => by simp [val]
  | i + 1, h, hf => by
    have := val_lt i (by omega) (fun j hj => hf j (by omega))
    have hi := hf i (by omega) (by omega)
    rw [val_take (by omega), Nat.pow_succ]
    unfold isFig at hi
    omega
theorem pow18 {i : Nat} (h : i ≤ 18) : 10 ^ i ≤ 1000000000000000000 := by
  have := Nat.pow_le_pow_right (n := 10) (by omega) h
  exact this
theorem m30_fig {c : Nat} (h1 : 48 ≤ c) (h2 : c ≤ 57) : m30 (ofn c, ()) = some (((c - 48 : Nat) : Int), true, ()) := by
  have : c = 48 ∨ c = 49 ∨ c = 50 ∨ c = 51 ∨ c = 52 ∨ c = 53 ∨ c = 54 ∨ c = 55 ∨ c = 56 ∨ c = 57 := by omega
  rcases this with rfl | rfl | rfl | rfl | rfl | rfl | rfl | rfl | rfl | rfl <;> decide
theorem m30_not {c : Nat} (h : ¬ (48 ≤ c ∧ c ≤ 57)) : ∃ q : Int, m30 (ofn c, ()) = some (q, false, ()) := by
  refine ⟨i64 (i32 (isub (ofn c) 48)), ?_⟩
  unfold m30
  by_cases h1 : 48 ≤ c
  · refine (ob_of (sel_of_t (le_t (by simp only [ofn]; omega)))).trans ?_
    show some (_, le (ofn c) 57, ()) = _
    rw [le_f (by simp only [ofn]; omega)]
  · refine (ob_of (sel_of_f (le_f (by simp only [ofn]; omega)))).trans ?_
    rfl
/-- a sign of a text, read as a figure -/
theorem fig_step {s : List UInt8} {i : Nat} (h : i < s.length) (hf : isFig s[i]) : m30 (ofn (decode s i).1, ()) = some (((s[i].toNat - 48 : Nat) : Int), true, ()) ∧ (decode s i).2 = 1 := by
  have hl : s[i].toNat < 128 := by unfold isFig at hf; omega
  rw [decode_low h hl]
  exact ⟨m30_fig hf.1 hf.2, rfl⟩
theorem fig_not {s : List UInt8} {i : Nat} (h : i < s.length) (hf : ¬ isFig s[i]) : ∃ q : Int, m30 (ofn (decode s i).1, ()) = some (q, false, ()) := by
  by_cases hl : s[i].toNat < 128
  · rw [decode_low h hl]; exact m30_not hf
  · have := decode_high h hl
    exact m30_not (by omega)
theorem figs_iff {s : List UInt8} : figs s ↔ ∀ i, i < s.length → ∀ h : i < s.length, isFig s[i] := ⟨fun h i hi _ => h i hi, fun h i hi => h i hi hi⟩
noncomputable instance (s : List UInt8) : Decidable (figs s) := Classical.propDecidable _
theorem m14_spec (s : List UInt8) : m14 (s, ()) = some (if 1 ≤ s.length ∧ s.length ≤ 18 ∧ figs s then ((val s : Int), 0, ()) else (0, 2, ())) := by
  unfold m14
  by_cases h1 : s.length < 1
  · refine (ob_of (sel_of_t (lt_t (by simp only [len]; omega)))).trans ?_
    rw [if_neg (by omega)]; rfl
  by_cases h2 : 18 < s.length
  · refine (ob_of ((sel_of_f (lt_f (by simp only [len]; omega))).trans (congrArg (fun b => some (b, ())) (lt_t (by simp only [len]; omega))))).trans ?_
    rw [if_neg (by omega)]; rfl
  refine (ob_of ((sel_of_f (lt_f (by simp only [len]; omega))).trans (congrArg (fun b => some (b, ())) (lt_f (by simp only [len]; omega))))).trans ?_
  refine (sel_of_f rfl).trans ?_
  generalize hf : (fun (x : Int × Int × Int × Nat × Unit) => _) = f
  have key := loop_scan (f := f) (fun i => (0, 0, (val (s.take i) : Int), i, ())) s.length (fun i => ∀ h : i < s.length, isFig s[i]) (0, 2, ()) 0 ?_ ?_ ?_
  · have e0 : ((0 : Int), (0 : Int), (val (s.take 0) : Int), 0, ()) = ((0 : Int), (0 : Int), (0 : Int), 0, ()) := by simp [val]
    rw [e0] at key
    rcases key with ⟨hall, hr⟩ | ⟨⟨i, hi, hn⟩, hr⟩
    · rw [hr, if_pos ⟨by omega, by omega, figs_iff.2 hall⟩]
      show some ((val (s.take s.length) : Int), (0 : Int), ()) = _
      rw [List.take_length]
    · rw [hr, if_neg (fun hc => hn (figs_iff.1 hc.2.2 i hi))]; rfl
  · intro i hi hp
    subst hf
    obtain ⟨e1, e2⟩ := fig_step hi (hp i (Nat.le_refl _) hi)
    refine (sel_of_t (nlt_t hi)).trans ?_
    refine (ob_of e1).trans ?_
    refine (sel_of_f rfl).trans ?_
    have hv := val_lt (i + 1) (by omega) (fun j hj => hp j (by omega))
    have hp := pow18 (i := i + 1) (by omega)
    rw [val_take hi] at hv
    have c1 : i64 (imul 10 (val (s.take i) : Int)) = ((10 * val (s.take i) : Nat) : Int) := i64_mul (a := 10) (by omega)
    simp only [e2, c1]
    rw [i64_add (by omega), val_take hi]; rfl
  · intro i hi _ hp
    subst hf
    have : ¬ isFig s[i] := fun h => hp fun _ => h
    obtain ⟨q, e1⟩ := fig_not hi this
    refine (sel_of_t (nlt_t hi)).trans ?_
    refine (ob_of e1).trans ?_
    rfl
  · intro _
    subst hf
    exact sel_of_f (nlt_f (Nat.lt_irrefl _))
end Yp
