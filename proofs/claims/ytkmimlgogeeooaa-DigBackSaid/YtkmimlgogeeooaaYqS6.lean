/- A part of the proof of DigBack. -/
import Derived.Test.YtkmimlgogeeooaaYqS5
set_option linter.unusedVariables false
set_option linter.unusedSimpArgs false
namespace Yp
open Go
theorem m24_spec (v w : Int) (hv : v ≤ 9223372036854775807) : m24 (v, w, ()) = some (if 1 ≤ w ∧ w ≤ 8 ∧ 0 ≤ v ∧ v < 256 ^ w.toNat then (ps 256 byt v.toNat w.toNat, 0, ()) else ([], 1, ())) := by
  unfold m24
  by_cases h1 : w < 1
  · rw [if_neg (by omega)]; simp [sel, ob, lt, h1, none']
  by_cases h2 : 8 < w
  · rw [if_neg (by omega)]; simp [sel, ob, lt, h1, h2, none']
  by_cases h3 : v < 0
  · rw [if_neg (by omega)]; simp [sel, ob, lt, h1, h2, h3, none']
  obtain ⟨n, rfl⟩ : ∃ n : Nat, w = n := ⟨w.toNat, by omega⟩
  obtain ⟨V, rfl⟩ : ∃ n : Nat, v = n := ⟨v.toNat, by omega⟩
  have p7 : ∀ i, i ≤ 7 → 256 ^ i ≤ 72057594037927936 := fun i hi => Nat.pow_le_pow_right (n := 256) (by omega) hi
  have p8 : 256 ^ 8 = 18446744073709551616 := by decide
  refine (ob_of (a := (false, ())) ?_).trans ?_
  · refine (sel_of_f (lt_f h1)).trans ?_
    refine (sel_of_f (lt_f h2)).trans ?_
    exact congrArg (fun b => some (b, ())) (lt_f h3)
  refine (sel_of_f rfl).trans ?_
  refine (ob_of (a := (decide (¬ V < 256 ^ n), ())) ?_).trans ?_
  · by_cases h8 : n < 8
    · refine (sel_of_t (lt_t (show (n : Int) < 8 by omega))).trans ?_
      have := p7 n (by omega)
      refine (ob_of (m29_spec 256 n (by omega) (by omega) (by omega))).trans ?_
      show some (le ((256 ^ n : Nat) : Int) (V : Int), ()) = _
      rw [le_nat]
      have : decide (256 ^ n ≤ V) = decide (¬ V < 256 ^ n) := by rw [decide_eq_decide]; omega
      rw [this]
    · refine (sel_of_f (lt_f (show ¬ (n : Int) < 8 by omega))).trans ?_
      have h : n = 8 := by omega
      subst h
      rw [decide_eq_false (by rw [p8]; omega)]
  have hp : ((256 : Int) ^ n) = ((256 ^ n : Nat) : Int) := (Int.natCast_pow 256 n).symm
  by_cases hlt : V < 256 ^ n
  rotate_left
  · refine (sel_of_t (decide_eq_true hlt)).trans ?_
    rw [if_neg]; · rfl
    intro h
    have := h.2.2.2
    rw [Int.toNat_natCast, hp] at this
    omega
  refine (sel_of_f (decide_eq_false (fun h => h hlt))).trans ?_
  rw [if_pos ⟨by omega, by omega, by omega, by rw [Int.toNat_natCast, hp]; omega⟩]
  simp only [Int.toNat_natCast]
  have e0 : i64 (isub (n : Int) 1) = (n : Int) - 1 := i64_of (by simp only [isub]; omega) (by simp only [isub]; omega)
  rw [e0]
  refine (ck_of ?_).trans ?_
  · simp only [band, Bool.and_eq_true]
    exact ⟨inC_t (by omega) (by omega) (by omega), rm_t (by simp only [nat_nat]; omega)⟩
  generalize hf : (fun (x : Int × Int × List UInt8 × Unit) => _) = f
  have key := loop_scan (f := f) (fun i => (((V / 256 ^ i : Nat) : Int), (n : Int) - 1 - i, rep (n - i) (u8 0) ++ ps 256 byt V i, ())) n (fun _ => True) ([], 0, ()) 0 ?_ ?_ ?_
  · have e0 : (((V / 256 ^ 0 : Nat) : Int), (n : Int) - 1 - (0 : Nat), rep (n - 0) (u8 0) ++ ps 256 byt V 0, ()) = ((V : Int), (n : Int) - 1, rep (nat (n : Int)) (u8 0), ()) := by simp [ps, nat]
    rw [e0] at key
    rcases key with ⟨_, hr⟩ | ⟨⟨i, hi, hn⟩, hr⟩
    · rw [hr]
      have : rep (n - n) (u8 0) ++ ps 256 byt V n = ps 256 byt V n := by simp [rep]
      rw [this]; rfl
    · exact absurd trivial hn
  · intro i hi _
    subst hf
    refine (sel_of_t (le_t (show (0 : Int) ≤ (n : Int) - 1 - i by omega))).trans ?_
    have e1 : (n : Int) - 1 - i = ((n - (i + 1) : Nat) : Int) := by omega
    have hin : n - (i + 1) < (rep (n - i) (u8 0) ++ ps 256 byt V i).length := by
      simp only [List.length_append, ps_length, rep, List.length_replicate]; omega
    have hle : V / 256 ^ i ≤ V := Nat.div_le_self _ _
    have c1 : i64 (idiv ((V / 256 ^ i : Nat) : Int) 256) = ((V / 256 ^ (i + 1) : Nat) : Int) := by
      refine (i64_div (b := 256) (by omega)).trans ?_
      rw [Nat.div_div_eq_div_mul, Nat.pow_succ]
    have c2 : i64 (isub ((n - (i + 1) : Nat) : Int) 1) = (n : Int) - 1 - ((i + 1 : Nat) : Int) := by
      rw [i64_of (by simp only [isub]; omega) (by simp only [isub]; omega)]; simp only [isub]; omega
    have c3 : u8 (imod ((V / 256 ^ i : Nat) : Int) 256) = byt (V / 256 ^ i % 256) := by
      rw [show imod ((V / 256 ^ i : Nat) : Int) 256 = ((V / 256 ^ i % 256 : Nat) : Int) from imod_nat (b := 256), u8_nat']; rfl
    have hs : rep (n - i) (u8 0) = rep (n - (i + 1) + 1) (u8 0) := by congr 1; omega
    simp only [e1]
    refine (ck_of (inB_nat hin)).trans ?_
    rw [c1, c2, c3, nat_nat, hs, upd_rep]; rfl
  · intro i _ _ h; exact absurd trivial h
  · intro _; subst hf
    exact sel_of_f (le_f (show ¬ (0 : Int) ≤ (n : Int) - 1 - n by omega))
/-! ### signs -/
def nib (d : Nat) : UInt8 := nth hexs d (u8 0)
def hexOf (b : List UInt8) : List UInt8 := b.flatMap fun x => [nib (x.toNat / 16), nib (x.toNat % 16)]
theorem hexOf_length (b : List UInt8) : (hexOf b).length = 2 * b.length := by
  induction b with
  | nil => rfl
  | cons x r ih =>
    have : hexOf (x :: r) = [nib (x.toNat / 16), nib (x.toNat % 16)] ++ hexOf r := rfl
    rw [this, List.length_append, ih]; simp; omega
theorem hexOf_app (a b : List UInt8) : hexOf (a ++ b) = hexOf a ++ hexOf b := by simp [hexOf]
theorem ofNat_toNat (c : UInt8) : UInt8.ofNat c.toNat = c := by
  apply UInt8.toNat_inj.1; simp
theorem all8 {p : UInt8 → Prop} (h : ∀ n, n < 256 → p (UInt8.ofNat n)) (c : UInt8) : p c := by
  have := h c.toNat c.toNat_lt
  rwa [ofNat_toNat] at this
theorem hi_ok : ∀ c : UInt8, inB (n8 (u8 (shrI IntKind.u8 (n8 c) (n64 (u64 4))))) (len [48, 49, 50, 51, 52, 53, 54, 55, 56, 57, 97, 98, 99, 100, 101, 102]) = true ∧
    nth [48, 49, 50, 51, 52, 53, 54, 55, 56, 57, 97, 98, 99, 100, 101, 102] (nat (n8 (u8 (shrI IntKind.u8 (n8 c) (n64 (u64 4)))))) (u8 0) = nib (c.toNat / 16) := all8 (by decide +kernel)
theorem lo_ok : ∀ c : UInt8, inB (n8 (u8 (andI IntKind.u8 (n8 c) (n8 (u8 15))))) (len [48, 49, 50, 51, 52, 53, 54, 55, 56, 57, 97, 98, 99, 100, 101, 102]) = true ∧
    nth [48, 49, 50, 51, 52, 53, 54, 55, 56, 57, 97, 98, 99, 100, 101, 102] (nat (n8 (u8 (andI IntKind.u8 (n8 c) (n8 (u8 15)))))) (u8 0) = nib (c.toNat % 16) := all8 (by decide +kernel)
theorem m27_spec (b : List UInt8) (hl : b.length ≤ 1000000) : m27 (b, ()) = some (hexOf b, ()) := by
  unfold m27
  have k1 : i64 (imul 2 (len b)) = ((2 * b.length : Nat) : Int) := i64_mul (a := 2) (by omega)
  simp only [k1, nat_nat]
  refine (ck_of ?_).trans ?_
  · simp only [band, Bool.and_eq_true]
    exact ⟨inC_t (by omega) (by omega) (by omega), rm_t (by omega)⟩
  generalize hf : (fun (x : List UInt8 × Int × Unit) => _) = f
  have key := loop_scan (f := f) (fun i => (hexOf (b.take i), (i : Int), ())) b.length (fun _ => True) ([], ()) 0 ?_ ?_ ?_
  · have e0 : (hexOf (b.take 0), ((0 : Nat) : Int), ()) = (rep (nat 0) (u8 0), (0 : Int), ()) := by simp [hexOf, rep, nat]
    rw [e0] at key
    rcases key with ⟨_, hr⟩ | ⟨⟨i, hi, hn⟩, hr⟩
    · rw [hr, List.take_length]; rfl
    · exact absurd trivial hn
  · intro i hi _
    subst hf
    refine (sel_of_t (lt_t (show (i : Int) < len b by simp only [len]; omega))).trans ?_
    refine (ck_of (inB_nat hi)).trans ?_
    have c : i64 (iadd (i : Int) 1) = ((i + 1 : Nat) : Int) := i64_add (b := 1) (by omega)
    simp only [nat_nat, nth_get hi, c]
    refine (ck_of (hi_ok _).1).trans ?_
    refine (ck_of (lo_ok _).1).trans ?_
    simp only [(hi_ok _).2, (lo_ok _).2]
    refine (ck_of (rm_t ?_)).trans ?_
    · simp only [nadd, ln, hexOf_length, List.length_take, List.length_cons, List.length_nil]; omega
    rw [List.take_succ_eq_append_getElem hi, hexOf_app]; rfl
  · intro i _ _ h; exact absurd trivial h
  · intro _; subst hf
    exact sel_of_f (lt_f (show ¬ ((b.length : Nat) : Int) < len b by simp only [len]; omega))
theorem s34_hi : ∀ c : UInt8, m34 (u8 (idiv (n8 c) (n8 (u8 16))), ()) = some (nib (c.toNat / 16), ()) := all8 (by decide +kernel)
theorem s34_lo : ∀ c : UInt8, m34 (u8 (imod (n8 c) (n8 (u8 16))), ()) = some (nib (c.toNat % 16), ()) := all8 (by decide +kernel)
theorem m28_spec (b : List UInt8) (hl : b.length ≤ 1000000) : m28 (b, ()) = some (hexOf b, ()) := by
  unfold m28
  generalize hf : (fun (x : List UInt8 × Int × Unit) => _) = f
  have key := loop_scan (f := f) (fun i => (hexOf (b.take i), (i : Int), ())) b.length (fun _ => True) ([], ()) 0 ?_ ?_ ?_
  · have e0 : (hexOf (b.take 0), ((0 : Nat) : Int), ()) = (none' UInt8, (0 : Int), ()) := by simp [hexOf, none']
    rw [e0] at key
    rcases key with ⟨_, hr⟩ | ⟨⟨i, hi, hn⟩, hr⟩
    · rw [hr, List.take_length]; rfl
    · exact absurd trivial hn
  · intro i hi _
    subst hf
    refine (sel_of_t (lt_t (show (i : Int) < len b by simp only [len]; omega))).trans ?_
    refine (ck_of (inB_nat hi)).trans ?_
    have c : i64 (iadd (i : Int) 1) = ((i + 1 : Nat) : Int) := i64_add (b := 1) (by omega)
    simp only [nat_nat, nth_get hi, c]
    refine (ob_of (s34_hi _)).trans ?_
    refine (ck_of (inB_nat hi)).trans ?_
    refine (ob_of (s34_lo _)).trans ?_
    refine (ck_of (rm_t ?_)).trans ?_
    · simp only [nadd, ln, hexOf_length, List.length_take, List.length_cons, List.length_nil]; omega
    rw [List.take_succ_eq_append_getElem hi, hexOf_app]; rfl
  · intro i _ _ h; exact absurd trivial h
  · intro _; subst hf
    exact sel_of_f (lt_f (show ¬ ((b.length : Nat) : Int) < len b by simp only [len]; omega))
def isHex (c : UInt8) : Prop := (48 ≤ c.toNat ∧ c.toNat ≤ 57) ∨ (97 ≤ c.toNat ∧ c.toNat ≤ 102)
instance (c : UInt8) : Decidable (isHex c) := inferInstanceAs (Decidable (_ ∨ _))
def hval (c : UInt8) : Nat := if c.toNat ≤ 57 then c.toNat - 48 else c.toNat - 87
def unh (s : List UInt8) : List UInt8 := (List.range (s.length / 2)).map fun j => UInt8.ofNat (16 * hval (nth s (2 * j) (u8 0)) + hval (nth s (2 * j + 1) (u8 0)))
def hexy (s : List UInt8) : Prop := ∀ (i : Nat) (h : i < s.length), isHex s[i]
noncomputable instance (s : List UInt8) : Decidable (hexy s) := Classical.propDecidable _
theorem m32_eq' : ∀ c : UInt8, m32 (c, ()) = some (if isHex c then (UInt8.ofNat (hval c), true, ()) else (u8 0, false, ())) := all8 (by decide +kernel)
theorem m33_eq' : ∀ c : UInt8, m33 (c, ()) = some (if isHex c then ((hval c : Nat) : Int) else 16, ()) := all8 (by decide +kernel)
theorem hval_lt : ∀ c : UInt8, isHex c → hval c < 16 := all8 (by decide +kernel)
theorem nib_or : ∀ x : Nat, x < 16 → ∀ y : Nat, y < 16 → u8 (orI IntKind.u8 (n8 (u8 (shlI IntKind.u8 (n8 (UInt8.ofNat x)) (n64 (u64 4))))) (n8 (UInt8.ofNat y))) = UInt8.ofNat (16 * x + y) := by decide +kernel
theorem hexy_of {s : List UInt8} {k : Nat} (h2 : s.length = 2 * k) : (∀ i, i < k → isHex (nth s (2 * i) (u8 0)) ∧ isHex (nth s (2 * i + 1) (u8 0))) ↔ hexy s := by
  constructor
  · intro h i hi
    have := h (i / 2) (by omega)
    by_cases hp : i % 2 = 0
    · have := this.1
      rw [show 2 * (i / 2) = i by omega, nth_get hi] at this; exact this
    · have := this.2
      rw [show 2 * (i / 2) + 1 = i by omega, nth_get hi] at this; exact this
  · intro h i hi
    rw [nth_get (by omega), nth_get (by omega)]
    exact ⟨h _ _, h _ _⟩
theorem m25_spec (s : List UInt8) (hl : s.length ≤ 1000000) : m25 (s, ()) = some (if s.length % 2 = 0 ∧ hexy s then (unh s, 0, ()) else ([], 2, ())) := by
  unfold m25
  have k2 : imod (len s) 2 = ((s.length % 2 : Nat) : Int) := imod_nat (b := 2)
  have k1 : i64 (idiv (len s) 2) = ((s.length / 2 : Nat) : Int) := i64_div (b := 2) (by omega)
  simp only [k1, k2, nat_nat]
  by_cases h : s.length % 2 = 0
  rotate_left
  · refine (sel_of_t (beq_t (by omega))).trans ?_
    rw [if_neg (fun hc => h hc.1)]; rfl
  refine (sel_of_f (beq_f (by omega))).trans ?_
  refine (ck_of ?_).trans ?_
  · simp only [band, Bool.and_eq_true]
    exact ⟨inC_t (by omega) (by omega) (by omega), rm_t (by omega)⟩
  generalize hk : s.length / 2 = k
  have h2 : s.length = 2 * k := by omega
  generalize hf : (fun (x : Int × List UInt8 × Int × Unit) => _) = f
  have key := loop_scan (f := f) (fun i => (0, (unh s).take i, ((2 * i : Nat) : Int), ())) k (fun i => isHex (nth s (2 * i) (u8 0)) ∧ isHex (nth s (2 * i + 1) (u8 0))) ([], 2, ()) 0 ?_ ?_ ?_
  · have e0 : ((0 : Int), (unh s).take 0, ((2 * 0 : Nat) : Int), ()) = ((0 : Int), rep (nat 0) (u8 0), (0 : Int), ()) := by simp [rep, nat]
    rw [e0] at key
    rcases key with ⟨hall, hr⟩ | ⟨⟨i, hi, hn⟩, hr⟩
    · rw [hr, if_pos ⟨h, (hexy_of h2).1 hall⟩, List.take_of_length_le (by simp [unh]; omega)]; rfl
    · rw [hr, if_neg (fun hc => hn ((hexy_of h2).2 hc.2 i hi))]; rfl
  · intro i hi hp
    subst hf
    obtain ⟨p0, p1⟩ := hp i (Nat.le_refl _)
    have h0 : 2 * i < s.length := by omega
    have h1 : 2 * i + 1 < s.length := by omega
    have c1 : i64 (iadd ((2 * i : Nat) : Int) 1) = ((2 * i + 1 : Nat) : Int) := i64_add (b := 1) (by omega)
    have c2 : i64 (iadd ((2 * i : Nat) : Int) 2) = ((2 * (i + 1) : Nat) : Int) := i64_add (b := 2) (by omega)
    refine (sel_of_t (lt_t (show ((2 * i : Nat) : Int) < len s by simp only [len]; omega))).trans ?_
    refine (ck_of (inB_nat h0)).trans ?_
    simp only [c1, c2, nat_nat, m32_eq', if_pos p0, if_pos p1]
    refine (ob_of rfl).trans ?_
    refine (ck_of (inB_nat h1)).trans ?_
    refine (ob_of rfl).trans ?_
    refine (ob_of (a := (false, ())) rfl).trans ?_
    refine (sel_of_f rfl).trans ?_
    refine (ck_of (rm_t ?_)).trans ?_
    · simp only [nadd, ln, List.length_take, List.length_cons, List.length_nil]
      have : (unh s).length = s.length / 2 := by simp [unh]
      omega
    have hj : i < (unh s).length := by simp [unh]; omega
    have hg : (unh s)[i] = UInt8.ofNat (16 * hval (nth s (2 * i) (u8 0)) + hval (nth s (2 * i + 1) (u8 0))) := by simp [unh]
    rw [List.take_succ_eq_append_getElem hj, hg]
    simp only [nib_or _ (hval_lt _ p0) _ (hval_lt _ p1)]; rfl
  · intro i hi _ hp
    subst hf
    have h0 : 2 * i < s.length := by omega
    have h1 : 2 * i + 1 < s.length := by omega
    have c1 : i64 (iadd ((2 * i : Nat) : Int) 1) = ((2 * i + 1 : Nat) : Int) := i64_add (b := 1) (by omega)
    refine (sel_of_t (lt_t (show ((2 * i : Nat) : Int) < len s by simp only [len]; omega))).trans ?_
    refine (ck_of (inB_nat h0)).trans ?_
    simp only [c1, nat_nat, m32_eq']
    refine (ob_of rfl).trans ?_
    refine (ck_of (inB_nat h1)).trans ?_
    refine (ob_of rfl).trans ?_
    refine (ob_of (a := (true, ())) ?_).trans ?_
    · by_cases q0 : isHex (nth s (2 * i) (u8 0))
      · rw [if_pos q0, if_neg (fun q1 => hp ⟨q0, q1⟩)]; rfl
      · rw [if_neg q0]; rfl
    exact sel_of_t rfl
  · intro _; subst hf
    exact sel_of_f (lt_f (show ¬ ((2 * k : Nat) : Int) < len s by simp only [len]; omega))
theorem m26_spec (s : List UInt8) (hl : s.length ≤ 1000000) : m26 (s, ()) = some (if s.length % 2 = 0 ∧ hexy s then (unh s, 0, ()) else ([], 2, ())) := by
  unfold m26
  have k2 : imod (len s) 2 = ((s.length % 2 : Nat) : Int) := imod_nat (b := 2)
  simp only [k2]
  by_cases h : s.length % 2 = 0
  rotate_left
  · refine (sel_of_t (beq_t (by omega))).trans ?_
    rw [if_neg (fun hc => h hc.1)]; rfl
  refine (sel_of_f (beq_f (by omega))).trans ?_
  generalize hk : s.length / 2 = k
  have h2 : s.length = 2 * k := by omega
  generalize hf : (fun (x : Int × List UInt8 × Int × Unit) => _) = f
  have key := loop_scan (f := f) (fun i => (0, (unh s).take i, ((2 * i : Nat) : Int), ())) k (fun i => isHex (nth s (2 * i) (u8 0)) ∧ isHex (nth s (2 * i + 1) (u8 0))) ([], 2, ()) 0 ?_ ?_ ?_
  · have e0 : ((0 : Int), (unh s).take 0, ((2 * 0 : Nat) : Int), ()) = ((0 : Int), none' UInt8, (0 : Int), ()) := by simp [none']
    rw [e0] at key
    rcases key with ⟨hall, hr⟩ | ⟨⟨i, hi, hn⟩, hr⟩
    · rw [hr, if_pos ⟨h, (hexy_of h2).1 hall⟩, List.take_of_length_le (by simp [unh]; omega)]; rfl
    · rw [hr, if_neg (fun hc => hn ((hexy_of h2).2 hc.2 i hi))]; rfl
  · intro i hi hp
    subst hf
    obtain ⟨p0, p1⟩ := hp i (Nat.le_refl _)
    have h0 : 2 * i < s.length := by omega
    have h1 : 2 * i + 1 < s.length := by omega
    have c1 : i64 (iadd ((2 * i : Nat) : Int) 1) = ((2 * i + 1 : Nat) : Int) := i64_add (b := 1) (by omega)
    have c2 : i64 (iadd ((2 * i : Nat) : Int) 2) = ((2 * (i + 1) : Nat) : Int) := i64_add (b := 2) (by omega)
    have g0 := hval_lt _ p0
    have g1 := hval_lt _ p1
    refine (sel_of_t (lt_t (show ((2 * i : Nat) : Int) < len s by simp only [len]; omega))).trans ?_
    refine (ck_of (inB_nat h0)).trans ?_
    simp only [c1, c2, nat_nat, m33_eq', if_pos p0, if_pos p1]
    refine (ob_of rfl).trans ?_
    refine (ck_of (inB_nat h1)).trans ?_
    refine (ob_of rfl).trans ?_
    refine (ob_of (a := (false, ())) ?_).trans ?_
    · refine (sel_of_f (lt_f (by omega))).trans ?_
      exact congrArg (fun b => some (b, ())) (lt_f (by omega))
    refine (sel_of_f rfl).trans ?_
    refine (ck_of (rm_t ?_)).trans ?_
    · simp only [nadd, ln, List.length_take, List.length_cons, List.length_nil]
      have : (unh s).length = s.length / 2 := by simp [unh]
      omega
    have hj : i < (unh s).length := by simp [unh]; omega
    have hg : (unh s)[i] = UInt8.ofNat (16 * hval (nth s (2 * i) (u8 0)) + hval (nth s (2 * i + 1) (u8 0))) := by simp [unh]
    have c3 : i64 (iadd (i64 (imul 16 ((hval (nth s (2 * i) (u8 0)) : Nat) : Int))) ((hval (nth s (2 * i + 1) (u8 0)) : Nat) : Int)) = ((16 * hval (nth s (2 * i) (u8 0)) + hval (nth s (2 * i + 1) (u8 0)) : Nat) : Int) := by
      rw [show i64 (imul 16 ((hval (nth s (2 * i) (u8 0)) : Nat) : Int)) = ((16 * hval (nth s (2 * i) (u8 0)) : Nat) : Int) from i64_mul (a := 16) (by omega)]
      exact i64_add (by omega)
    rw [List.take_succ_eq_append_getElem hj, hg]
    simp only [c3, u8_nat']; rfl
  · intro i hi _ hp
    subst hf
    have h0 : 2 * i < s.length := by omega
    have h1 : 2 * i + 1 < s.length := by omega
    have c1 : i64 (iadd ((2 * i : Nat) : Int) 1) = ((2 * i + 1 : Nat) : Int) := i64_add (b := 1) (by omega)
    refine (sel_of_t (lt_t (show ((2 * i : Nat) : Int) < len s by simp only [len]; omega))).trans ?_
    refine (ck_of (inB_nat h0)).trans ?_
    simp only [c1, nat_nat, m33_eq']
    refine (ob_of rfl).trans ?_
    refine (ck_of (inB_nat h1)).trans ?_
    refine (ob_of rfl).trans ?_
    refine (ob_of (a := (true, ())) ?_).trans ?_
    · by_cases q0 : isHex (nth s (2 * i) (u8 0))
      · rw [if_pos q0, if_neg (fun q1 => hp ⟨q0, q1⟩)]
        have := hval_lt _ q0
        refine (sel_of_f (lt_f (by omega))).trans ?_
        exact congrArg (fun b => some (b, ())) (lt_t (by omega))
      · rw [if_neg q0]
        exact sel_of_t (lt_t (by omega))
    exact sel_of_t rfl
  · intro _; subst hf
    exact sel_of_f (lt_f (show ¬ ((2 * k : Nat) : Int) < len s by simp only [len]; omega))
end Yp
