/- A part of the proof of DigBack. -/
import Derived.Test.YtkmimlgogeeooaaYqC
import Derived.Test.YtkmimlgogeeooaaYqL2
set_option linter.unusedVariables false
set_option linter.unusedSimpArgs false
namespace Yp
open Go
/-- the n lowest places of v in base B, highest first -/
def ps (B : Nat) (g : Nat → UInt8) (v : Nat) : Nat → List UInt8
  | 0 => []
  | n + 1 => g (v / B ^ n % B) :: ps B g v n
theorem ps_length (B : Nat) (g : Nat → UInt8) (v : Nat) : ∀ n, (ps B g v n).length = n
  | 0 => rfl
  | n + 1 => by simp [ps, ps_length B g v n]
def dch (d : Nat) : UInt8 := UInt8.ofNat (48 + d)
def byt (d : Nat) : UInt8 := UInt8.ofNat d
theorem upd_rep {n : Nat} {d z : UInt8} {tl : List UInt8} : upd (rep (n + 1) z ++ tl) n d = rep n z ++ d :: tl := by
  induction n with
  | zero => simp [upd, rep]
  | succ n ih =>
    have e1 : rep (n + 1 + 1) z ++ tl = z :: (rep (n + 1) z ++ tl) := by simp [rep, List.replicate_succ]
    have e2 : rep (n + 1) z ++ d :: tl = z :: (rep n z ++ d :: tl) := by simp [rep, List.replicate_succ]
    rw [e1, e2, ← ih]; rfl
def hexs : List UInt8 := [48, 49, 50, 51, 52, 53, 54, 55, 56, 57, 97, 98, 99, 100, 101, 102]
theorem hexs_dch : ∀ d, d < 10 → nth hexs d (u8 0) = dch d := by decide
theorem m12_spec (v w : Int) (hv : v ≤ 9223372036854775807) : m12 (v, w, ()) = some (if 1 ≤ w ∧ w ≤ 18 ∧ 0 ≤ v ∧ v < 10 ^ w.toNat then (ps 10 dch v.toNat w.toNat, 0, ()) else ([], 1, ())) := by
  unfold m12
  by_cases h1 : w < 1
  · rw [if_neg (by omega)]; simp [sel, ob, lt, h1, none']
  by_cases h2 : 18 < w
  · rw [if_neg (by omega)]; simp [sel, ob, lt, h1, h2, none']
  by_cases h3 : v < 0
  · rw [if_neg (by omega)]; simp [sel, ob, lt, h1, h2, h3, none']
  obtain ⟨n, rfl⟩ : ∃ n : Nat, w = n := ⟨w.toNat, by omega⟩
  obtain ⟨V, rfl⟩ : ∃ n : Nat, v = n := ⟨v.toNat, by omega⟩
  simp only [lt, h1, h2, h3, decide_false, decide_true, sel_f, sel_t, ob_s, Int.toNat_natCast]
  have c0 : band (inC 0 (n : Int) n) (rm 1 (nat n)) = true := by simp [band, inC, rm, nat]; omega
  rw [c0, ck_t]
  have e0 : i64 (isub (n : Int) 1) = (n : Int) - 1 := i64_of (by simp only [isub]; omega) (by simp only [isub]; omega)
  rw [e0]
  generalize hf : (fun (x : Int × Int × List UInt8 × Unit) => _) = f
  have step : ∀ i, i < n → f (((V / 10 ^ i : Nat) : Int), (n : Int) - 1 - i, rep (n - i) (u8 0) ++ ps 10 dch V i, ()) = some (.nx (((V / 10 ^ (i + 1) : Nat) : Int), (n : Int) - 1 - (i + 1 : Nat), rep (n - (i + 1)) (u8 0) ++ ps 10 dch V (i + 1), ())) := by
    intro i hi
    subst hf
    have hm : imod ((V / 10 ^ i : Nat) : Int) 10 = ((V / 10 ^ i % 10 : Nat) : Int) := by simp only [imod]; exact (Int.ofNat_tmod _ _).symm
    have hlt : V / 10 ^ i % 10 < 10 := Nat.mod_lt _ (by omega)
    have hle : V / 10 ^ i ≤ V := Nat.div_le_self _ _
    have hd : i64 (idiv ((V / 10 ^ i : Nat) : Int) 10) = ((V / 10 ^ (i + 1) : Nat) : Int) := by
      have : idiv ((V / 10 ^ i : Nat) : Int) 10 = ((V / 10 ^ i / 10 : Nat) : Int) := by simp only [idiv]; exact (Int.ofNat_tdiv _ _).symm
      rw [this, i64_nat (by omega), Nat.div_div_eq_div_mul, Nat.pow_succ]
    have hi1 : i64 (isub ((n : Int) - 1 - i) 1) = (n : Int) - 1 - (i + 1 : Nat) := by
      rw [i64_of (by simp only [isub]; omega) (by simp only [isub]; omega)]; simp only [isub]; omega
    have hle0 : le 0 ((n : Int) - 1 - i) = true := by simp only [le, decide_eq_true_eq]; omega
    have hb1 : inB ((V / 10 ^ i % 10 : Nat) : Int) (len [48, 49, 50, 51, 52, 53, 54, 55, 56, 57, 97, 98, 99, 100, 101, 102]) = true := inB_nat (n := 16) (by omega)
    have hb2 : inB ((n : Int) - 1 - i) (len (rep (n - i) (u8 0) ++ ps 10 dch V i)) = true := by
      simp only [inB, len, List.length_append, ps_length, rep, List.length_replicate, Bool.and_eq_true, decide_eq_true_eq]; omega
    have hn : nat ((n : Int) - 1 - i) = n - (i + 1) := by simp only [nat]; omega
    have hn2 : nat ((V / 10 ^ i % 10 : Nat) : Int) = V / 10 ^ i % 10 := by simp only [nat]; omega
    have hs : rep (n - i) (u8 0) = rep (n - (i + 1) + 1) (u8 0) := by congr 1; omega
    show sel (le 0 ((n : Int) - 1 - i)) _ _ = _
    rw [hle0, sel_t]
    simp only [hm]
    rw [hb1, ck_t, hb2, ck_t, hd, hi1, hn, hn2, hs, upd_rep]
    have := hexs_dch _ hlt
    simp only [hexs] at this
    rw [this]; rfl
  have hrun := loop_count (f := f) (fun i => (((V / 10 ^ i : Nat) : Int), (n : Int) - 1 - i, rep (n - i) (u8 0) ++ ps 10 dch V i, ())) n step 0 (by omega)
  have hend : f (((V / 10 ^ n : Nat) : Int), (n : Int) - 1 - n, rep (n - n) (u8 0) ++ ps 10 dch V n, ()) = some (.ex 0 (((V / 10 ^ n : Nat) : Int), (n : Int) - 1 - n, rep (n - n) (u8 0) ++ ps 10 dch V n, ())) := by
    subst hf
    have hle0 : le 0 ((n : Int) - 1 - n) = false := by simp only [le, decide_eq_false_iff_not]; omega
    show sel (le 0 ((n : Int) - 1 - n)) _ _ = _
    rw [hle0, sel_f]
  have e1 : (((V / 10 ^ 0 : Nat) : Int), (n : Int) - 1 - (0 : Nat), rep (n - 0) (u8 0) ++ ps 10 dch V 0, ()) = (((V : Nat) : Int), (n : Int) - 1, rep (nat n) (u8 0), ()) := by
    simp [ps, nat]
  rw [e1, loop_ex hend] at hrun
  rw [hrun]
  have e2 : rep (n - n) (u8 0) ++ ps 10 dch V n = ps 10 dch V n := by simp [rep]
  simp only [lc, e2]
  show sel (decide ((0 : Int) < ((V / 10 ^ n : Nat) : Int))) _ _ = _
  by_cases hlt : V < 10 ^ n
  · have : V / 10 ^ n = 0 := Nat.div_eq_of_lt hlt
    rw [this, if_pos ⟨by omega, by omega, by omega, by exact_mod_cast hlt⟩]; rfl
  · have : 0 < V / 10 ^ n := Nat.div_pos (by omega) (Nat.pow_pos (by omega))
    rw [if_neg (fun h => hlt (by exact_mod_cast h.2.2.2))]
    have hp : decide ((0 : Int) < ((V / 10 ^ n : Nat) : Int)) = true := by simp only [decide_eq_true_eq]; omega
    rw [hp]; rfl
end Yp
