/- A part of the proof of DigOrder. -/
import Derived.Test.YtkmimlgogeeooaaYqH
set_option linter.unusedVariables false
set_option linter.unusedSimpArgs false
namespace Yp
open Go Go.Proofs
theorem pow_cast (b n : Nat) : ((b : Int) ^ n) = ((b ^ n : Nat) : Int) := (Int.natCast_pow b n).symm
theorem beb_iff {a b : Bool} : beb a b = true ↔ a = b := by unfold beb; exact beq_iff_eq
theorem law8' (v u w : Int) (hv : v ≤ 9223372036854775807) (hu : u ≤ 9223372036854775807) : m8 (v, u, w, ()) = some (true, ()) := by
  have order : ∀ (B : Nat) (g : Nat → UInt8) (n : Nat), (∀ a b, a < B → b < B → (g a < g b ↔ a < b)) → 0 < B → 0 ≤ v → 0 ≤ u → v < (B : Int) ^ n → u < (B : Int) ^ n →
      bytesLess (ps B g v.toNat n) (ps B g u.toNat n) = lt v u ∧ seq (ps B g v.toNat n) (ps B g u.toNat n) = beq v u := by
    intro B g n hg hB h1 h2 h3 h4
    obtain ⟨e1, e2⟩ := ps_less hg hB v.toNat u.toNat n
    rw [pow_cast] at h3 h4
    rw [Nat.mod_eq_of_lt (by omega), Nat.mod_eq_of_lt (by omega)] at e1 e2
    rw [e1, e2]
    constructor
    · unfold lt; rw [decide_eq_decide]; omega
    · unfold beq
      rw [Bool.eq_iff_iff]
      simp only [decide_eq_true_eq, beq_iff_eq]; omega
  unfold m8
  refine (ob_of shown_true).trans ?_
  refine (ob_of (m12_spec v w hv)).trans ?_
  refine (ob_of (m12_spec u w hu)).trans ?_
  refine (ob_of (m23_spec v w hv)).trans ?_
  refine (ob_of (m23_spec u w hu)).trans ?_
  have first : (sel (beq (if 1 ≤ w ∧ w ≤ 18 ∧ 0 ≤ v ∧ v < 10 ^ w.toNat then (ps 10 dch v.toNat w.toNat, (0 : Int), ()) else ([], 1, ())).2.1 0)
      (sel (beq (if 1 ≤ w ∧ w ≤ 18 ∧ 0 ≤ u ∧ u < 10 ^ w.toNat then (ps 10 dch u.toNat w.toNat, (0 : Int), ()) else ([], 1, ())).2.1 0)
        (sel (bnot (beb (bytesLess (if 1 ≤ w ∧ w ≤ 18 ∧ 0 ≤ v ∧ v < 10 ^ w.toNat then (ps 10 dch v.toNat w.toNat, (0 : Int), ()) else ([], 1, ())).1 (if 1 ≤ w ∧ w ≤ 18 ∧ 0 ≤ u ∧ u < 10 ^ w.toNat then (ps 10 dch u.toNat w.toNat, (0 : Int), ()) else ([], 1, ())).1) (lt v u))) (some (true, ()))
          (some (bnot (beb (seq (if 1 ≤ w ∧ w ≤ 18 ∧ 0 ≤ v ∧ v < 10 ^ w.toNat then (ps 10 dch v.toNat w.toNat, (0 : Int), ()) else ([], 1, ())).1 (if 1 ≤ w ∧ w ≤ 18 ∧ 0 ≤ u ∧ u < 10 ^ w.toNat then (ps 10 dch u.toNat w.toNat, (0 : Int), ()) else ([], 1, ())).1) (beq v u)), ())))
        (some (false, ()))) (some (false, ())) : Option (Bool × Unit)) = some (false, ()) := by
    by_cases c1 : 1 ≤ w ∧ w ≤ 18 ∧ 0 ≤ v ∧ v < 10 ^ w.toNat
    · rw [if_pos c1]
      by_cases c2 : 1 ≤ w ∧ w ≤ 18 ∧ 0 ≤ u ∧ u < 10 ^ w.toNat
      · rw [if_pos c2]
        obtain ⟨e1, e2⟩ := order 10 dch w.toNat dch_lt (by omega) c1.2.2.1 c2.2.2.1 c1.2.2.2 c2.2.2.2
        show sel true (sel true (sel (bnot (beb (bytesLess (ps 10 dch v.toNat w.toNat) (ps 10 dch u.toNat w.toNat)) (lt v u))) _ (some (bnot (beb (seq (ps 10 dch v.toNat w.toNat) (ps 10 dch u.toNat w.toNat)) (beq v u)), ()))) _) _ = _
        rw [e1, e2, beb_iff.2 rfl, beb_iff.2 rfl]; rfl
      · rw [if_neg c2]; rfl
    · rw [if_neg c1]; rfl
  refine (ob_of first).trans ?_
  refine (sel_of_f rfl).trans ?_
  refine (ob_of (a := (true, ())) ?_).trans rfl
  refine (sel_of_t rfl).trans ?_
  by_cases c1 : 1 ≤ w ∧ w ≤ 8 ∧ 0 ≤ v ∧ v < 256 ^ w.toNat
  · rw [if_pos c1]
    by_cases c2 : 1 ≤ w ∧ w ≤ 8 ∧ 0 ≤ u ∧ u < 256 ^ w.toNat
    · rw [if_pos c2]
      obtain ⟨e1, e2⟩ := order 256 byt w.toNat byt_lt (by omega) c1.2.2.1 c2.2.2.1 c1.2.2.2 c2.2.2.2
      show sel false _ (sel false _ (sel (beb (bytesLess (ps 256 byt v.toNat w.toNat) (ps 256 byt u.toNat w.toNat)) (lt v u)) (some (beb (seq (ps 256 byt v.toNat w.toNat) (ps 256 byt u.toNat w.toNat)) (beq v u), ())) _)) = _
      rw [e1, e2, beb_iff.2 rfl, beb_iff.2 rfl]; rfl
    · rw [if_neg c2]; rfl
  · rw [if_neg c1]; rfl
theorem law8 (x : denL [.int .i64, .int .i64, .int .i64]) (h : okL [.int .i64, .int .i64, .int .i64] x) : m8 x = some (true, ()) := law8' x.1 x.2.1 x.2.2.1 h.1.2 h.2.1.2
end Yp
