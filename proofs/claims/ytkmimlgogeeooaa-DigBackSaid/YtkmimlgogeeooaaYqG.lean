/- A part of the proof of DigBack. -/
import Derived.Test.YtkmimlgogeeooaaYqF
set_option linter.unusedVariables false
set_option linter.unusedSimpArgs false
namespace Yp
open Go
theorem u8_nat (q : Nat) : u8 (q : Int) = byt (q % 256) := by
  unfold u8 byt
  apply UInt8.toNat_inj.1
  have h1 : (UInt8.ofInt (q : Int)).toNat = q % 256 := by
    simp [UInt8.ofInt, UInt8.toNat_ofNat]
    omega
  rw [h1]; simp
theorem shr_nat {V k : Nat} (hk : k ≤ 64) : shrI .i64 (V : Int) (k : Int) = ((V / 2 ^ k : Nat) : Int) := by
  unfold shrI
  have : Nat.min (Int.toNat (k : Int)) IntKind.i64.bits = k := by
    show Nat.min (Int.toNat (k : Int)) 64 = k
    rw [Int.toNat_natCast]; exact Nat.min_eq_left hk
  rw [this, Int.ofNat_fdiv]; norm_cast
theorem m23_spec (v w : Int) (hv : v ≤ 9223372036854775807) : m23 (v, w, ()) = some (if 1 ≤ w ∧ w ≤ 8 ∧ 0 ≤ v ∧ v < 256 ^ w.toNat then (ps 256 byt v.toNat w.toNat, 0, ()) else ([], 1, ())) := by
  unfold m23
  by_cases h1 : w < 1
  · rw [if_neg (by omega)]; simp [sel, ob, lt, h1, none']
  by_cases h2 : 8 < w
  · rw [if_neg (by omega)]; simp [sel, ob, lt, h1, h2, none']
  by_cases h3 : v < 0
  · rw [if_neg (by omega)]; simp [sel, ob, lt, h1, h2, h3, none']
  obtain ⟨n, rfl⟩ : ∃ n : Nat, w = n := ⟨w.toNat, by omega⟩
  obtain ⟨V, rfl⟩ : ∃ n : Nat, v = n := ⟨v.toNat, by omega⟩
  have hpow : ∀ i, (256 : Nat) ^ i = 2 ^ (8 * i) := fun i => by rw [Nat.pow_mul]
  have hmul : ∀ i : Nat, i ≤ 8 → i64 (imul 8 (i : Int)) = ((8 * i : Nat) : Int) := fun i hi => by
    have : imul 8 (i : Int) = ((8 * i : Nat) : Int) := by simp [imul]
    rw [this, i64_nat (by omega)]
  have hcond : (sel (lt (n : Int) 8) (ck (le 0 (i64 (imul 8 (n : Int)))) (some (lt 0 (shrI IntKind.i64 (V : Int) (i64 (imul 8 (n : Int)))), ()))) (some (false, ())) : Option (Bool × Unit)) = some (decide (¬ V < 256 ^ n), ()) := by
    by_cases h8 : n < 8
    · have c1 : lt (n : Int) 8 = true := by simp only [lt, decide_eq_true_eq]; omega
      have c2 : le 0 ((8 * n : Nat) : Int) = true := by simp only [le, decide_eq_true_eq]; omega
      rw [c1, sel_t, hmul n (by omega), c2, ck_t, shr_nat (by omega)]
      have : lt 0 ((V / 2 ^ (8 * n) : Nat) : Int) = decide (¬ V < 256 ^ n) := by
        unfold lt
        rw [decide_eq_decide, hpow]
        constructor
        · intro h hc
          rw [Nat.div_eq_of_lt hc] at h; simp at h
        · intro h
          have := Nat.div_pos (Nat.le_of_not_lt h) (Nat.pow_pos (by omega))
          omega
      rw [this]
    · have c1 : lt (n : Int) 8 = false := by simp only [lt, decide_eq_false_iff_not]; omega
      have : n = 8 := by omega
      rw [c1, sel_f, this]
      have : V < 256 ^ 8 := by
        have : (256:Nat) ^ 8 = 18446744073709551616 := by decide
        omega
      simp [this]
  rw [hcond]
  simp only [lt, h1, h2, h3, decide_false, decide_true, sel_f, sel_t, ob_s, Int.toNat_natCast]
  have hp : ((256 : Int) ^ n) = ((256 ^ n : Nat) : Int) := (Int.natCast_pow 256 n).symm
  by_cases hlt : V < 256 ^ n
  rotate_left
  · rw [if_neg (fun h => hlt (by have := h.2.2.2; rw [hp] at this; exact Int.ofNat_lt.1 this))]
    have hd : decide (¬ V < 256 ^ n) = true := decide_eq_true hlt
    rw [hd, sel_t]; rfl
  rw [if_pos ⟨by omega, by omega, by omega, by rw [hp]; exact Int.ofNat_lt.2 hlt⟩]
  have hd : decide (¬ V < 256 ^ n) = false := decide_eq_false (fun h => h hlt)
  rw [hd, sel_f]
  have c0 : band (inC 0 (n : Int) n) (rm 1 (nat n)) = true := by simp [band, inC, rm, nat]; omega
  rw [c0, ck_t]
  have e0 : i64 (isub (n : Int) 1) = (n : Int) - 1 := i64_of (by simp only [isub]; omega) (by simp only [isub]; omega)
  rw [e0]
  generalize hf : (fun (x : Int × List UInt8 × Unit) => _) = f
  have step : ∀ i, i < n → f ((i : Int), rep (n - i) (u8 0) ++ ps 256 byt V i, ()) = some (.nx (((i + 1 : Nat) : Int), rep (n - (i + 1)) (u8 0) ++ ps 256 byt V (i + 1), ())) := by
    intro i hi
    subst hf
    have c1 : (decide ((i : Int) < len (rep (nat (n : Int)) (u8 0)))) = true := by simp only [len, rep, nat, List.length_replicate, decide_eq_true_eq]; omega
    have c2 : le 0 ((8 * i : Nat) : Int) = true := by simp only [le, decide_eq_true_eq]; omega
    have c3 : i64 (isub ((n : Int) - 1) i) = ((n - (i + 1) : Nat) : Int) := by
      have : isub ((n : Int) - 1) i = ((n - (i + 1) : Nat) : Int) := by simp only [isub]; omega
      rw [this, i64_nat (by omega)]
    have c4 : inB ((n - (i + 1) : Nat) : Int) (len (rep (n - i) (u8 0) ++ ps 256 byt V i)) = true := by
      refine inB_nat ?_
      simp only [List.length_append, ps_length, rep, List.length_replicate]; omega
    have c5 : i64 (iadd (i : Int) 1) = ((i + 1 : Nat) : Int) := by
      have : iadd (i : Int) 1 = ((i + 1 : Nat) : Int) := by simp [iadd]
      rw [this, i64_nat (by omega)]
    have hs : rep (n - i) (u8 0) = rep (n - (i + 1) + 1) (u8 0) := by congr 1; omega
    show sel (decide ((i : Int) < len (rep (nat (n : Int)) (u8 0)))) _ _ = _
    rw [c1, sel_t]
    simp only [hmul i (by omega), c3]
    rw [c2, ck_t, c4, ck_t, c5, shr_nat (by omega), u8_nat, hs]
    have : nat ((n - (i + 1) : Nat) : Int) = n - (i + 1) := by simp [nat]
    rw [this, upd_rep, ← hpow]; rfl
  have hrun := loop_count (f := f) (fun i => ((i : Int), rep (n - i) (u8 0) ++ ps 256 byt V i, ())) n step 0 (by omega)
  have hend : f ((n : Int), rep (n - n) (u8 0) ++ ps 256 byt V n, ()) = some (.ex 0 ((n : Int), rep (n - n) (u8 0) ++ ps 256 byt V n, ())) := by
    subst hf
    have c1 : (decide ((n : Int) < len (rep (nat (n : Int)) (u8 0)))) = false := by simp only [len, rep, nat, List.length_replicate, decide_eq_false_iff_not]; omega
    show sel (decide ((n : Int) < len (rep (nat (n : Int)) (u8 0)))) _ _ = _
    rw [c1, sel_f]
  have e1 : (((0 : Nat) : Int), rep (n - 0) (u8 0) ++ ps 256 byt V 0, ()) = ((0 : Int), rep (nat n) (u8 0), ()) := by
    simp [ps, nat]
  rw [e1, loop_ex hend] at hrun
  rw [hrun]
  have e2 : rep (n - n) (u8 0) ++ ps 256 byt V n = ps 256 byt V n := by simp [rep]
  simp only [lc, e2]; rfl
/-- the order of the places is the order of the numbers -/
theorem ps_less {B : Nat} {g : Nat → UInt8} (hg : ∀ a b, a < B → b < B → (g a < g b ↔ a < b)) (hB : 0 < B) (v u : Nat) : ∀ n, bytesLess (ps B g v n) (ps B g u n) = decide (v % B ^ n < u % B ^ n) ∧ seq (ps B g v n) (ps B g u n) = decide (v % B ^ n = u % B ^ n)
  | 0 => by simp [ps, bytesLess, Op.bytesLess, seq, Nat.mod_one]
  | n + 1 => by
    obtain ⟨h1, h2⟩ := ps_less hg hB v u n
    have ha := Nat.mod_lt (v / B ^ n) hB
    have hb := Nat.mod_lt (u / B ^ n) hB
    have hr := Nat.mod_lt v (Nat.pow_pos (n := n) hB)
    have hs := Nat.mod_lt u (Nat.pow_pos (n := n) hB)
    have hi : ∀ a b, a < B → b < B → (g a = g b ↔ a = b) := fun a b ha hb => by
      refine ⟨fun h => ?_, fun h => by rw [h]⟩
      rcases Nat.lt_trichotomy a b with hl | hl | hl
      · have := (hg a b ha hb).2 hl; rw [h] at this; exact absurd this (UInt8.lt_irrefl _)
      · exact hl
      · have := (hg b a hb ha).2 hl; rw [h] at this; exact absurd this (UInt8.lt_irrefl _)
    have h1' : Op.bytesLess (ps B g v n) (ps B g u n) = decide (v % B ^ n < u % B ^ n) := h1
    have h2' : (ps B g v n == ps B g u n) = decide (v % B ^ n = u % B ^ n) := h2
    have e1 : ∀ v, ps B g v (n + 1) = g (v / B ^ n % B) :: ps B g v n := fun _ => rfl
    rw [Nat.mod_pow_succ, Nat.mod_pow_succ, e1, e1]
    clear e1 h1 h2
    generalize v / B ^ n % B = a at *
    generalize u / B ^ n % B = b at *
    generalize v % B ^ n = r at *
    generalize u % B ^ n = s at *
    generalize B ^ n = M at *
    have key : ∀ x y : Nat, x < y → M * x + M ≤ M * y := fun x y h => by
      have := Nat.mul_le_mul_left M (show x + 1 ≤ y from h)
      rw [Nat.mul_add, Nat.mul_one] at this; exact this
    constructor
    · show (decide (g a < g b) || ((g a == g b) && Op.bytesLess (ps B g v n) (ps B g u n))) = _
      rw [h1']
      rcases Nat.lt_trichotomy a b with hl | hl | hl
      · have := key _ _ hl
        simp only [(hg a b ha hb).2 hl, decide_true, Bool.true_or]
        symm; simp only [decide_eq_true_eq]; omega
      · subst hl
        simp
      · have := key _ _ hl
        have h3 : ¬ g a < g b := fun h => by have := (hg a b ha hb).1 h; omega
        have h4 : ¬ g a = g b := fun h => by have := (hi a b ha hb).1 h; omega
        rw [decide_eq_false h3, beq_eq_false_iff_ne.2 h4, Bool.false_or, Bool.false_and]
        symm; simp only [decide_eq_false_iff_not]; omega
    · show ((g a == g b) && (ps B g v n == ps B g u n)) = _
      rw [h2']
      rcases Nat.lt_trichotomy a b with hl | hl | hl
      · have := key _ _ hl
        have h4 : ¬ g a = g b := fun h => by have := (hi a b ha hb).1 h; omega
        rw [beq_eq_false_iff_ne.2 h4, Bool.false_and]
        symm; simp only [decide_eq_false_iff_not]; omega
      · subst hl; simp
      · have := key _ _ hl
        have h4 : ¬ g a = g b := fun h => by have := (hi a b ha hb).1 h; omega
        rw [beq_eq_false_iff_ne.2 h4, Bool.false_and]
        symm; simp only [decide_eq_false_iff_not]; omega
theorem dch_lt : ∀ a b, a < 10 → b < 10 → (dch a < dch b ↔ a < b) := by
  intro a b ha hb
  simp only [dch, UInt8.lt_iff_toNat_lt, UInt8.toNat_ofNat']
  omega
theorem byt_lt : ∀ a b, a < 256 → b < 256 → (byt a < byt b ↔ a < b) := by
  intro a b ha hb
  simp only [byt, UInt8.lt_iff_toNat_lt, UInt8.toNat_ofNat']
  omega
end Yp
