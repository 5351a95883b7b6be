/- A part of the proof of DigBack. -/
import Derived.Test.YtkmimlgogeeooaaYqS6
set_option linter.unusedVariables false
set_option linter.unusedSimpArgs false
namespace Yp
open Go
def bev (l : List UInt8) : Nat := l.foldl (fun n c => 256 * n + c.toNat) 0
theorem bev_take {s : List UInt8} {i : Nat} (h : i < s.length) : bev (s.take (i + 1)) = 256 * bev (s.take i) + s[i].toNat := by
  unfold bev
  rw [List.take_succ_eq_append_getElem h, List.foldl_append]; rfl
theorem bev_lt {s : List UInt8} : ∀ i, i ≤ s.length → bev (s.take i) < 256 ^ i
  | 0, _ => by simp [bev]
  | i + 1, h => by
    have := bev_lt (s := s) i (by omega)
    have hi := n8_lt s[i]
    rw [bev_take (by omega), Nat.pow_succ]
    omega
theorem bev_lt' {s : List UInt8} (h0 : 0 < s.length) (hs : s[0].toNat ≤ 127) : ∀ i, i < s.length → bev (s.take (i + 1)) < 128 * 256 ^ i
  | 0, _ => by rw [bev_take h0]; simp [bev]; omega
  | i + 1, h => by
    have := bev_lt' h0 hs i (by omega)
    have hi := n8_lt s[i + 1]
    rw [bev_take h, Nat.pow_succ]
    omega
theorem shl8_or (x c : Nat) (hc : c < 256) (h : 256 * x + c ≤ 9223372036854775807) : i64 (orI .i64 (i64 (shlI .i64 (x : Int) (n64 (u64 8)))) (c : Int)) = ((256 * x + c : Nat) : Int) := by
  have e1 : shlI .i64 (x : Int) (n64 (u64 8)) = ((256 * x : Nat) : Int) := by
    have : shlI .i64 (x : Int) (n64 (u64 8)) = (x : Int) * 2 ^ 8 := rfl
    rw [this]
    have : (2 : Int) ^ 8 = 256 := by decide
    rw [this]; omega
  rw [e1, i64_nat (by omega)]
  have e2 : orI .i64 ((256 * x : Nat) : Int) (c : Int) = ((256 * x + c : Nat) : Int) := by
    show (((BitVec.ofInt 64 ((256 * x : Nat) : Int) ||| BitVec.ofInt 64 (c : Int)).toNat : Nat) : Int) = _
    rw [BitVec.ofInt_natCast, BitVec.ofInt_natCast, BitVec.toNat_or, BitVec.toNat_ofNat, BitVec.toNat_ofNat, Nat.mod_eq_of_lt (by omega), Nat.mod_eq_of_lt (by omega)]
    have := Nat.two_pow_add_eq_or_of_lt (i := 8) hc x
    rw [show (2 : Nat) ^ 8 = 256 by decide] at this
    rw [← this]
  rw [e2, i64_nat h]
def tk (b : List UInt8) (A W : Nat) : List UInt8 := (b.drop A).take W
theorem tk_length {b : List UInt8} {A W : Nat} (h : A + W ≤ b.length) : (tk b A W).length = W := by simp [tk]; omega
theorem tk_get {b : List UInt8} {A W i : Nat} (h : i < (tk b A W).length) (h' : A + i < b.length) : (tk b A W)[i] = b[A + i] := by simp [tk]
theorem sub_tk {b : List UInt8} {A W : Nat} : sub b (A : Int) ((A + W : Nat) : Int) = tk b A W := by
  unfold sub tk
  rw [Int.toNat_natCast, Int.toNat_natCast, show A + W - A = W by omega]
/-- what TakeBig answers -/
def takeBig (b : List UInt8) (at' w : Int) : Int × Int × Int × Unit :=
  if w < 1 ∨ 8 < w ∨ at' < 0 ∨ (b.length : Int) < at' then (0, 0, 1, ()) else if (b.length : Int) - at' < w then (0, 0, 3, ())
  else if w = 8 ∧ 127 < (nth b at'.toNat (u8 0)).toNat then (0, 0, 2, ()) else ((bev (tk b at'.toNat w.toNat) : Int), at' + w, 0, ())
theorem bev_bound {b : List UInt8} {A W : Nat} (hA : A + W ≤ b.length) (hW : W ≤ 8) (h7 : ¬ ((W : Int) = 8 ∧ 127 < (nth b A (u8 0)).toNat)) : ∀ i, i < W → bev ((tk b A W).take (i + 1)) ≤ 9223372036854775807 := by
  intro i hi
  have hl := tk_length hA
  by_cases hi7 : i + 1 ≤ 7
  · have h1 := bev_lt (s := tk b A W) (i + 1) (by omega)
    have h2 : 256 ^ (i + 1) ≤ 256 ^ 7 := Nat.pow_le_pow_right (by omega) hi7
    have h3 : 256 ^ 7 = 72057594037927936 := by decide
    omega
  · have h8 : W = 8 := by omega
    have h0 : 0 < (tk b A W).length := by omega
    have hn : (tk b A W)[0] = nth b A (u8 0) := by
      rw [tk_get h0 (by omega), nth_get (by omega)]; rfl
    have hs : (tk b A W)[0].toNat ≤ 127 := by rw [hn]; exact Nat.le_of_not_lt fun h => h7 ⟨by omega, h⟩
    have := bev_lt' h0 hs i (by omega)
    have hi' : i = 7 := by omega
    subst hi'
    have h3 : 256 ^ 7 = 72057594037927936 := by decide
    omega
theorem m21_spec (b : List UInt8) (at' w : Int) (hl : b.length ≤ 1000000) : m21 (b, at', w, ()) = some (takeBig b at' w) := by
  unfold m21 takeBig
  by_cases h1 : w < 1
  · rw [if_pos (.inl h1)]; exact (ob_of (sel_of_t (lt_t h1))).trans rfl
  by_cases h2 : 8 < w
  · rw [if_pos (.inr (.inl h2))]; exact (ob_of (a := (true, ())) ((sel_of_f (lt_f h1)).trans (sel_of_t (lt_t h2)))).trans rfl
  by_cases h3 : at' < 0
  · rw [if_pos (.inr (.inr (.inl h3)))]; exact (ob_of (a := (true, ())) ((sel_of_f (lt_f h1)).trans ((sel_of_f (lt_f h2)).trans (sel_of_t (lt_t h3))))).trans rfl
  by_cases h4 : (b.length : Int) < at'
  · rw [if_pos (.inr (.inr (.inr h4)))]; exact (ob_of (a := (true, ())) ((sel_of_f (lt_f h1)).trans ((sel_of_f (lt_f h2)).trans ((sel_of_f (lt_f h3)).trans (congrArg (fun b => some (b, ())) (lt_t h4)))))).trans rfl
  rw [if_neg (by omega)]
  refine (ob_of (a := (false, ())) ((sel_of_f (lt_f h1)).trans ((sel_of_f (lt_f h2)).trans ((sel_of_f (lt_f h3)).trans (congrArg (fun b => some (b, ())) (lt_f h4)))))).trans ?_
  refine (sel_of_f rfl).trans ?_
  obtain ⟨A, rfl⟩ : ∃ n : Nat, at' = n := ⟨at'.toNat, by omega⟩
  obtain ⟨W, rfl⟩ : ∃ n : Nat, w = n := ⟨w.toNat, by omega⟩
  have c0 : i64 (isub (len b) (A : Int)) = (b.length : Int) - A := by
    simp only [isub, len]; exact i64_of (by omega) (by omega)
  simp only [c0]
  by_cases h5 : (b.length : Int) - A < W
  · rw [if_pos h5]; exact sel_of_t (lt_t h5)
  rw [if_neg h5]
  refine (sel_of_f (lt_f h5)).trans ?_
  have hAW : A + W ≤ b.length := by omega
  have hA : A < b.length := by omega
  have ctest : (sel (beq (W : Int) 8) (ck (inB (A : Int) (len b)) (some (lt (n8 (u8 127)) (n8 (nth b (nat (A : Int)) (u8 0))), ()))) (some (false, ())) : Option (Bool × Unit)) = some (decide ((W : Int) = 8 ∧ 127 < (nth b A (u8 0)).toNat), ()) := by
    by_cases h8 : (W : Int) = 8
    · refine (sel_of_t (beq_t h8)).trans ?_
      refine (ck_of (inB_nat hA)).trans ?_
      rw [nat_nat, show n8 (u8 127) = ((127 : Nat) : Int) by decide, show n8 (nth b A (u8 0)) = (((nth b A (u8 0)).toNat : Nat) : Int) from rfl, lt_nat]
      simp only [h8, true_and]
    · refine (sel_of_f (beq_f h8)).trans ?_
      rw [decide_eq_false (fun h => h8 h.1)]
  simp only [Int.toNat_natCast]
  refine (ob_of ctest).trans ?_
  by_cases h7 : (W : Int) = 8 ∧ 127 < (nth b A (u8 0)).toNat
  · rw [if_pos h7]; exact sel_of_t (decide_eq_true h7)
  rw [if_neg h7]
  refine (sel_of_f (decide_eq_false h7)).trans ?_
  have c1 : i64 (iadd (A : Int) (W : Int)) = ((A + W : Nat) : Int) := i64_add (by omega)
  simp only [c1, sub_tk]
  refine (ck_of (inC_t (by omega) (by omega) (by simp only [len]; omega))).trans ?_
  have hl := tk_length hAW
  have hbnd := bev_bound hAW (by omega) h7
  generalize htk : tk b A W = t at *
  generalize hf : (fun (x : Int × Int × Unit) => _) = f
  have key := loop_scan (f := f) (fun i => ((bev (t.take i) : Int), (i : Int), ())) W (fun _ => True) (0, 0, 0, ()) 1 ?_ ?_ ?_
  · have e0 : ((bev (t.take 0) : Int), ((0 : Nat) : Int), ()) = ((0 : Int), (0 : Int), ()) := by simp [bev]
    rw [e0] at key
    rcases key with ⟨_, hr⟩ | ⟨⟨i, hi, hn⟩, hr⟩
    · rw [hr, List.take_of_length_le (by omega)]
      show some ((bev t : Int), ((A + W : Nat) : Int), 0, ()) = _
      simp
    · exact absurd trivial hn
  · intro i hi _
    subst hf
    have hit : i < t.length := by omega
    refine (sel_of_t (lt_t (show (i : Int) < len t by simp only [len]; omega))).trans ?_
    refine (ck_of (inB_nat hit)).trans ?_
    have c : i64 (iadd (i : Int) 1) = ((i + 1 : Nat) : Int) := i64_add (b := 1) (by omega)
    have h256 := n8_lt t[i]
    have hb := hbnd i hi
    rw [bev_take hit] at hb
    have c2 : i64 (n8 t[i]) = ((t[i].toNat : Nat) : Int) := i64_nat (by omega)
    simp only [nat_nat, nth_get hit, c, c2]
    rw [shl8_or _ _ h256 hb, bev_take hit]
  · intro i _ _ h; exact absurd trivial h
  · intro _; subst hf
    exact sel_of_f (lt_f (show ¬ (W : Int) < len t by simp only [len]; omega))
theorem m22_spec (b : List UInt8) (at' w : Int) (hl : b.length ≤ 1000000) : m22 (b, at', w, ()) = some (takeBig b at' w) := by
  unfold m22 takeBig
  by_cases h1 : w < 1
  · rw [if_pos (.inl h1)]; exact (ob_of (sel_of_t (lt_t h1))).trans rfl
  by_cases h2 : 8 < w
  · rw [if_pos (.inr (.inl h2))]; exact (ob_of (a := (true, ())) ((sel_of_f (lt_f h1)).trans (sel_of_t (lt_t h2)))).trans rfl
  by_cases h3 : at' < 0
  · rw [if_pos (.inr (.inr (.inl h3)))]; exact (ob_of (a := (true, ())) ((sel_of_f (lt_f h1)).trans ((sel_of_f (lt_f h2)).trans (sel_of_t (lt_t h3))))).trans rfl
  by_cases h4 : (b.length : Int) < at'
  · rw [if_pos (.inr (.inr (.inr h4)))]; exact (ob_of (a := (true, ())) ((sel_of_f (lt_f h1)).trans ((sel_of_f (lt_f h2)).trans ((sel_of_f (lt_f h3)).trans (congrArg (fun b => some (b, ())) (lt_t h4)))))).trans rfl
  rw [if_neg (by omega)]
  refine (ob_of (a := (false, ())) ((sel_of_f (lt_f h1)).trans ((sel_of_f (lt_f h2)).trans ((sel_of_f (lt_f h3)).trans (congrArg (fun b => some (b, ())) (lt_f h4)))))).trans ?_
  refine (sel_of_f rfl).trans ?_
  obtain ⟨A, rfl⟩ : ∃ n : Nat, at' = n := ⟨at'.toNat, by omega⟩
  obtain ⟨W, rfl⟩ : ∃ n : Nat, w = n := ⟨w.toNat, by omega⟩
  have c0 : i64 (isub (len b) (A : Int)) = (b.length : Int) - A := by
    simp only [isub, len]; exact i64_of (by omega) (by omega)
  simp only [c0]
  by_cases h5 : (b.length : Int) - A < W
  · rw [if_pos h5]; exact sel_of_t (lt_t h5)
  rw [if_neg h5]
  refine (sel_of_f (lt_f h5)).trans ?_
  have hAW : A + W ≤ b.length := by omega
  have hA : A < b.length := by omega
  have ctest : (sel (beq (W : Int) 8) (ck (inB (A : Int) (len b)) (some (le (n8 (u8 128)) (n8 (nth b (nat (A : Int)) (u8 0))), ()))) (some (false, ())) : Option (Bool × Unit)) = some (decide ((W : Int) = 8 ∧ 127 < (nth b A (u8 0)).toNat), ()) := by
    by_cases h8 : (W : Int) = 8
    · refine (sel_of_t (beq_t h8)).trans ?_
      refine (ck_of (inB_nat hA)).trans ?_
      rw [nat_nat, show n8 (u8 128) = ((128 : Nat) : Int) by decide, show n8 (nth b A (u8 0)) = (((nth b A (u8 0)).toNat : Nat) : Int) from rfl, le_nat]
      simp only [h8, true_and]
      rfl
    · refine (sel_of_f (beq_f h8)).trans ?_
      rw [decide_eq_false (fun h => h8 h.1)]
  simp only [Int.toNat_natCast]
  refine (ob_of ctest).trans ?_
  by_cases h7 : (W : Int) = 8 ∧ 127 < (nth b A (u8 0)).toNat
  · rw [if_pos h7]; exact sel_of_t (decide_eq_true h7)
  rw [if_neg h7]
  refine (sel_of_f (decide_eq_false h7)).trans ?_
  have c1 : i64 (iadd (A : Int) (W : Int)) = ((A + W : Nat) : Int) := i64_add (by omega)
  simp only [c1]
  have hlt := tk_length hAW
  have hbnd := bev_bound hAW (by omega) h7
  have hget : ∀ i (h : i < (tk b A W).length), (tk b A W)[i] = nth b (A + i) (u8 0) := fun i h => by
    rw [tk_get h (by omega), nth_get (by omega)]
  generalize htk : tk b A W = t at *
  generalize hf : (fun (x : Int × Int × Unit) => _) = f
  have key := loop_scan (f := f) (fun i => ((bev (t.take i) : Int), (i : Int), ())) W (fun _ => True) (0, 0, 0, ()) 0 ?_ ?_ ?_
  · have e0 : ((bev (t.take 0) : Int), ((0 : Nat) : Int), ()) = ((0 : Int), (0 : Int), ()) := by simp [bev]
    rw [e0] at key
    rcases key with ⟨_, hr⟩ | ⟨⟨i, hi, hn⟩, hr⟩
    · rw [hr, List.take_of_length_le (by omega)]
      show some ((bev t : Int), ((A + W : Nat) : Int), 0, ()) = _
      simp
    · exact absurd trivial hn
  · intro i hi _
    subst hf
    have hit : i < t.length := by omega
    refine (sel_of_t (lt_t (show (i : Int) < (W : Int) by omega))).trans ?_
    have c3 : i64 (iadd (A : Int) (i : Int)) = ((A + i : Nat) : Int) := i64_add (by omega)
    simp only [c3, nat_nat]
    refine (ck_of (inB_nat (show A + i < b.length by omega))).trans ?_
    have c : i64 (iadd (i : Int) 1) = ((i + 1 : Nat) : Int) := i64_add (b := 1) (by omega)
    have h256 := n8_lt t[i]
    have hb := hbnd i hi
    rw [bev_take hit] at hb
    have c2 : i64 (n8 t[i]) = ((t[i].toNat : Nat) : Int) := i64_nat (by omega)
    rw [← hget i hit, c, c2, show i64 (imul 256 (bev (t.take i) : Int)) = ((256 * bev (t.take i) : Nat) : Int) from i64_mul (a := 256) (by omega), i64_add hb, bev_take hit]
  · intro i _ _ h; exact absurd trivial h
  · intro _; subst hf
    exact sel_of_f (lt_f (show ¬ (W : Int) < (W : Int) by omega))
end Yp
