/- A part of the proof of DigBack. -/
import Derived.Test.YtkmimlgogeeooaaYqL7
set_option linter.unusedVariables false
set_option linter.unusedSimpArgs false
namespace Yp
open Go
theorem tk_zero_app {p more : List UInt8} {M : Nat} (h : p.length = M) : tk (p ++ more) 0 M = p := by
  unfold tk
  rw [List.drop_zero, List.take_append_of_le_length (by omega), List.take_of_length_le (by omega)]
theorem takeBcd_back {s more : List UInt8} {n : Nat} (hs : s.length = n) (hn : n ≤ 999) (hf : figs s) : takeBcd (bcd (pad s) ++ more) 0 n = (s, (((n + 1) / 2 : Nat) : Int), 0, ()) := by
  have hpl := pad_length s
  have hbl : (bcd (pad s)).length = (n + 1) / 2 := by simp [bcd]; omega
  have hx : hexOf (bcd (pad s)) = pad s := hexOf_bcd (figs_pad hf) (by omega)
  have hd : (pad s).drop (n % 2) = s := by
    unfold pad
    by_cases h : s.length % 2 = 1
    · rw [if_pos h, ← hs, h]; rfl
    · have : s.length % 2 = 0 := by omega
      rw [if_neg h, ← hs, this]; rfl
  unfold takeBcd
  simp only [Int.toNat_natCast, Int.toNat_zero]
  rw [tk_zero_app hbl, hx, hd]
  rw [if_neg (by omega), if_neg (by rw [List.length_append]; omega), if_neg, if_pos hf]
  · simp
  · rintro ⟨h1, h2⟩
    apply h2
    unfold pad
    rw [if_pos (by omega)]; rfl
theorem takeBig_back {v n : Nat} {more : List UInt8} (h1 : 1 ≤ n) (h8 : n ≤ 8) (hv : v < 256 ^ n) (hm : v ≤ 9223372036854775807) : takeBig (ps 256 byt v n ++ more) 0 n = ((v : Int), (n : Int), 0, ()) := by
  have hl := ps_length 256 byt v n
  unfold takeBig
  simp only [Int.toNat_natCast, Int.toNat_zero]
  rw [tk_zero_app hl, bev_ps, Nat.mod_eq_of_lt hv]
  rw [if_neg (by omega), if_neg (by rw [List.length_append]; omega), if_neg]
  · simp
  · rintro ⟨e8, h⟩
    have e8' : n = 8 := by omega
    subst e8'
    have e : nth (ps 256 byt v 8 ++ more) 0 (u8 0) = byt (v / 256 ^ 7 % 256) := rfl
    rw [e] at h
    have h7 : (256 : Nat) ^ 7 = 72057594037927936 := by decide
    rw [h7] at h
    have : v / 72057594037927936 ≤ 127 := by omega
    generalize v / 72057594037927936 = q at *
    have : (byt (q % 256)).toNat = q % 256 := by
      simp only [byt, UInt8.toNat_ofNat']; omega
    omega
theorem law6' (v w : Int) (b more : List UInt8) (hv : v ≤ 9223372036854775807) : m6 ((v, w, b, more, ()), ()) = some (true, ()) := by
  unfold m6
  refine (ob_of shown_true).trans ?_
  by_cases hb : 200 < b.length
  · refine (ob_of (a := (true, ())) (sel_of_t (lt_t (show (200 : Int) < len b by simp only [len]; omega)))).trans rfl
  by_cases hs : 100 < more.length
  · refine (ob_of (a := (true, ())) ((sel_of_f (lt_f (show ¬ (200 : Int) < len b by simp only [len]; omega))).trans (congrArg (fun b => some (b, ())) (lt_t (show (100 : Int) < len more by simp only [len]; omega))))).trans rfl
  refine (ob_of (a := (false, ())) ((sel_of_f (lt_f (show ¬ (200 : Int) < len b by simp only [len]; omega))).trans (congrArg (fun b => some (b, ())) (lt_f (show ¬ (100 : Int) < len more by simp only [len]; omega))))).trans ?_
  refine (sel_of_f rfl).trans ?_
  refine (ob_of (m12_spec v w hv)).trans ?_
  have fin : ∀ {K : Option (Bool × Unit)}, K = (ob (m27 (b, ())) fun (a_4 : List UInt8 × Unit) => ob (m25 (a_4.1, ())) fun (a_5 : List UInt8 × Int × Unit) =>
      ob (sel true (sel (beq a_5.2.1 0) (ob (m18 (a_5.1, b, ())) fun (a : Bool × Unit) => sel a.1 (ob (m27 (b, ())) fun (a : List UInt8 × Unit) => some (beq (len a.1) (i64 (imul 2 (len b))), ())) (some (false, ()))) (some (false, ()))) (some (false, ())))
        fun (a : Bool × Unit) => some (a.1, ())) → K = some (true, ()) := by
    intro K hK
    rw [hK]
    have hhl := hexOf_length b
    refine (ob_of (m27_spec b (by omega))).trans ?_
    refine (ob_of ((m25_spec (hexOf b) (by omega)).trans (by rw [if_pos ⟨by omega, hexy_hexOf b⟩, unh_hexOf]))).trans ?_
    refine (ob_of (a := (true, ())) ?_).trans rfl
    refine (sel_of_t rfl).trans ?_
    refine (sel_of_t rfl).trans ?_
    refine (ob_of (a := (true, ())) (by unfold m18; rw [seq_t rfl])).trans ?_
    refine (sel_of_t rfl).trans ?_
    refine (ob_of (m27_spec b (by omega))).trans ?_
    have c : i64 (imul 2 (len b)) = ((2 * b.length : Nat) : Int) := i64_mul (a := 2) (by omega)
    show some (beq (((hexOf b).length : Nat) : Int) (i64 (imul 2 (len b))), ()) = _
    rw [c, hhl, beq_t rfl]
  have bigs : ∀ {K1 K2 K : Option (Bool × Unit)}, K1 = some (true, ()) → K2 = some (true, ()) → K = (ob (m23 (v, w, ())) fun (a_3 : List UInt8 × Int × Unit) => sel (beq a_3.2.1 0) (ck (rm 1 (nadd (ln (none' UInt8)) (ln a_3.1))) (ck (rm 1 (nadd (ln (app (none' UInt8) a_3.1)) (ln more)))
      (ob (m21 (app (app (none' UInt8) a_3.1) more, 0, w, ())) fun (a_4 : Int × Int × Int × Unit) => ob (sel (bnot (beq a_4.2.2.1 0)) (some (true, ())) (sel (bnot (beq a_4.1 v)) (some (true, ())) (sel (bnot (beq a_4.2.1 w)) (some (true, ())) (some (bnot (beq (len a_3.1) w), ())))))
        fun (a_5 : Bool × Unit) => sel a_5.1 (some (false, ())) K1))) K2) → K = some (true, ()) := by
    intro K1 K2 K e1 e2 hK
    rw [hK]
    refine (ob_of (m23_spec v w hv)).trans ?_
    by_cases c : 1 ≤ w ∧ w ≤ 8 ∧ 0 ≤ v ∧ v < 256 ^ w.toNat
    rotate_left
    · rw [if_neg c]; exact (sel_of_f rfl).trans e2
    rw [if_pos c]
    obtain ⟨n, rfl⟩ : ∃ n : Nat, w = n := ⟨w.toNat, by omega⟩
    obtain ⟨V, rfl⟩ : ∃ n : Nat, v = n := ⟨v.toNat, by omega⟩
    simp only [Int.toNat_natCast] at c ⊢
    have hlt : V < 256 ^ n := by
      have := c.2.2.2
      rw [show ((256 : Int) ^ n) = ((256 ^ n : Nat) : Int) from (Int.natCast_pow 256 n).symm] at this
      omega
    have hl := ps_length 256 byt V n
    refine (sel_of_t rfl).trans ?_
    refine (ck_of (rm_t (by simp only [nadd, ln, none', List.length_nil]; omega))).trans ?_
    refine (ck_of (rm_t (by simp only [nadd, ln, none', app, List.length_nil, List.nil_append]; omega))).trans ?_
    simp only [app, none', List.nil_append]
    refine (ob_of ((m21_spec _ 0 n (by rw [List.length_append]; omega)).trans (by rw [takeBig_back (by omega) (by omega) hlt (by omega)]))).trans ?_
    refine (ob_of (a := (false, ())) ?_).trans ?_
    · refine (sel_of_f rfl).trans ?_
      refine (sel_of_f (by rw [beq_t rfl]; rfl)).trans ?_
      refine (sel_of_f (by rw [beq_t rfl]; rfl)).trans ?_
      rw [len_nat, hl, beq_t rfl]; rfl
    exact (sel_of_f rfl).trans e1
  by_cases c : 1 ≤ w ∧ w ≤ 18 ∧ 0 ≤ v ∧ v < 10 ^ w.toNat
  rotate_left
  · rw [if_neg c]
    refine (sel_of_f rfl).trans ?_
    exact bigs (fin rfl) (fin rfl) rfl
  rw [if_pos c]
  refine (sel_of_t rfl).trans ?_
  have hlt : v.toNat < 10 ^ w.toNat := by
    have := c.2.2.2
    rw [show ((10 : Int) ^ w.toNat) = ((10 ^ w.toNat : Nat) : Int) from (Int.natCast_pow 10 _).symm] at this
    omega
  have hl := ps_length 10 dch v.toNat w.toNat
  have hfg : figs (ps 10 dch v.toNat w.toNat) := figs_ps
  have hval := val_ps v.toNat w.toNat
  rw [Nat.mod_eq_of_lt hlt] at hval
  simp only
  generalize ps 10 dch v.toNat w.toNat = s at *
  refine (ob_of ((m14_spec s).trans (by rw [if_pos ⟨by omega, by omega, hfg⟩]))).trans ?_
  refine (ob_of ((m16_spec s (by omega)).trans (by rw [if_pos hfg]))).trans ?_
  have hpl := pad_length s
  have hbl : (bcd (pad s)).length = (w.toNat + 1) / 2 := by simp [bcd]; omega
  refine (ck_of (rm_t (by simp only [nadd, ln, none', List.length_nil]; omega))).trans ?_
  refine (ck_of (rm_t (by simp only [nadd, ln, none', app, List.length_nil, List.nil_append]; omega))).trans ?_
  have hwn : w = ((w.toNat : Nat) : Int) := by omega
  have hm19 : m19 (app (app (none' UInt8) (bcd (pad s))) more, 0, w, ()) = some (s, (((w.toNat + 1) / 2 : Nat) : Int), 0, ()) := by
    rw [← takeBcd_back hl (by omega) hfg (more := more), ← hwn]
    exact m19_spec _ _ _ (by simp only [app, none', List.nil_append, List.length_append]; omega)
  refine (ob_of hm19).trans ?_
  refine (ob_of (a := (false, ())) ?_).trans ?_
  · refine (sel_of_f rfl).trans ?_
    refine (sel_of_f (by rw [beq_t (show ((val s : Nat) : Int) = v by omega)]; rfl)).trans ?_
    refine (sel_of_f (by rw [beq_t (show len s = w by simp only [len]; omega)]; rfl)).trans ?_
    refine (sel_of_f rfl).trans ?_
    refine (sel_of_f rfl).trans ?_
    refine (sel_of_f (by rw [seq_t rfl]; rfl)).trans ?_
    refine (sel_of_f (by rw [beq_t (show (((w.toNat + 1) / 2 : Nat) : Int) = len (bcd (pad s)) by simp only [len]; omega)]; rfl)).trans ?_
    have c1 : i64 (idiv (i64 (iadd w 1)) 2) = (((w.toNat + 1) / 2 : Nat) : Int) := by
      rw [hwn, show i64 (iadd ((w.toNat : Nat) : Int) 1) = ((w.toNat + 1 : Nat) : Int) from i64_add (b := 1) (by omega)]
      exact i64_div (b := 2) (by omega)
    rw [c1, beq_t (show len (bcd (pad s)) = (((w.toNat + 1) / 2 : Nat) : Int) by simp only [len]; omega)]; rfl
  refine (sel_of_f rfl).trans ?_
  exact bigs (fin rfl) (fin rfl) rfl
theorem law6 (x : denL [.pair (.int .i64) (.pair (.int .i64) (.pair (.sl (.int .u8)) (.pair (.sl (.int .u8)) (.unit))))]) (h : okL [.pair (.int .i64) (.pair (.int .i64) (.pair (.sl (.int .u8)) (.pair (.sl (.int .u8)) (.unit))))] x) : m6 x = some (true, ()) := law6' x.1.1 x.1.2.1 x.1.2.2.1 x.1.2.2.2.1 h.1.1.2
end Yp
