/- A part of the proof of DigBack. -/
import Derived.Test.YtkmimlgogeeooaaYqS10
set_option linter.unusedVariables false
set_option linter.unusedSimpArgs false
namespace Yp
open Go
theorem sel_ob2 {α β : Type} {c : Bool} {M : Option α} {X : α → Option (Bool × Unit)} {bad K K' : Option β} {r : Option β} (h : c = true → ∃ y, M = some y ∧ X y = some (false, ())) (hK : K = r) (hK' : K' = r) :
    sel c (ob M fun y => ob (X y) fun a => sel a.1 bad K) K' = r := by
  cases c with
  | false => exact hK'
  | true =>
    obtain ⟨y, h1, h2⟩ := h rfl
    rw [sel_t, h1, ob_s, h2]; exact hK
theorem takeBcd_ok {b : List UInt8} {I N : Nat} (h : (takeBcd b I N).2.2.1 = 0) : I + (N + 1) / 2 ≤ b.length ∧ takeBcd b I N = ((hexOf (tk b I ((N + 1) / 2))).drop (N % 2), ((I + (N + 1) / 2 : Nat) : Int), 0, ()) ∧
    figs ((hexOf (tk b I ((N + 1) / 2))).drop (N % 2)) ∧ (N % 2 = 1 → nth (hexOf (tk b I ((N + 1) / 2))) 0 (u8 0) = 48) ∧ N ≤ 999 := by
  unfold takeBcd at h ⊢
  simp only [Int.toNat_natCast] at h ⊢
  split at h
  · cases h
  rename_i h1
  rw [if_neg h1]
  split at h
  · cases h
  rename_i h2
  rw [if_neg h2]
  split at h
  · cases h
  rename_i h3
  rw [if_neg h3]
  split at h
  · rename_i h4
    rw [if_pos h4]
    refine ⟨by omega, by simp, h4, fun ho => Classical.byContradiction fun hc => h3 ⟨by omega, hc⟩, by omega⟩
  · cases h
theorem pad_drop {u : List UInt8} {k N : Nat} (hl : u.length = 2 * k) (hN : (N + 1) / 2 = k) (h : N % 2 = 1 → nth u 0 (u8 0) = 48) : pad (u.drop (N % 2)) = u := by
  by_cases ho : N % 2 = 1
  · rw [ho]
    unfold pad
    rw [if_pos (by simp; omega)]
    cases u with
    | nil => simp at hl; omega
    | cons x r => have := h ho; simp only [nth, List.getD_cons_zero] at this; rw [this]; rfl
  · have : N % 2 = 0 := by omega
    rw [this, List.drop_zero]; exact pad_even (by omega)
theorem figs_pad {s : List UInt8} (h : figs s) : figs (pad s) := by
  unfold pad
  split
  · intro i hi
    cases i with
    | zero => exact (by decide : isFig 48)
    | succ i => exact h i (by simpa using hi)
  · exact h
theorem takeBig_ok {b : List UInt8} {I N : Nat} (h : (takeBig b I N).2.2.1 = 0) : I + N ≤ b.length ∧ takeBig b I N = ((bev (tk b I N) : Int), ((I + N : Nat) : Int), 0, ()) ∧ 1 ≤ N ∧ N ≤ 8 ∧ ((N : Int) = 8 → (nth b I (u8 0)).toNat ≤ 127) := by
  unfold takeBig at h ⊢
  simp only [Int.toNat_natCast] at h ⊢
  split at h
  · cases h
  rename_i h1
  rw [if_neg h1]
  split at h
  · cases h
  rename_i h2
  rw [if_neg h2]
  split at h
  · cases h
  rename_i h3
  rw [if_neg h3]
  exact ⟨by omega, by simp, by omega, by omega, fun h8 => Nat.le_of_not_lt fun hc => h3 ⟨h8, hc⟩⟩
theorem beq_eq {a b : Int} (h : beq a b = true) : a = b := by unfold beq at h; exact beq_iff_eq.1 h
theorem law7' (b : List UInt8) (at' n : UInt8) (s : List UInt8) : m7 ((b, at', n, s, ()), ()) = some (true, ()) := by
  unfold m7
  refine (ob_of shown_true).trans ?_
  by_cases hb : 200 < b.length
  · refine (ob_of (a := (true, ())) (sel_of_t (lt_t (show (200 : Int) < len b by simp only [len]; omega)))).trans rfl
  by_cases hs : 100 < s.length
  · refine (ob_of (a := (true, ())) ((sel_of_f (lt_f (show ¬ (200 : Int) < len b by simp only [len]; omega))).trans (congrArg (fun b => some (b, ())) (lt_t (show (100 : Int) < len s by simp only [len]; omega))))).trans rfl
  refine (ob_of (a := (false, ())) ((sel_of_f (lt_f (show ¬ (200 : Int) < len b by simp only [len]; omega))).trans (congrArg (fun b => some (b, ())) (lt_f (show ¬ (100 : Int) < len s by simp only [len]; omega))))).trans ?_
  refine (sel_of_f rfl).trans ?_
  have ha := n8_lt at'
  have hn := n8_lt n
  have c1 : i64 (n8 at') = ((at'.toNat : Nat) : Int) := i64_nat (by omega)
  have c2 : i64 (n8 n) = ((n.toNat : Nat) : Int) := i64_nat (by omega)
  have c3 : i64 (iadd (len b) 1) = ((b.length + 1 : Nat) : Int) := i64_add (b := 1) (by omega)
  simp only [c1, c2, c3, imod_nat]
  have hI : at'.toNat % (b.length + 1) ≤ b.length := Nat.le_of_lt_succ (Nat.mod_lt _ (by omega))
  generalize at'.toNat % (b.length + 1) = I at *
  generalize n.toNat = N at *
  refine (ck_of (by rw [beq_f (by omega)]; rfl)).trans ?_
  refine (ob_of (m19_spec b I N (by omega))).trans ?_
  refine sel_ob2 (fun hc => ?_) ?_ ?_
  · obtain ⟨g1, g2, g3, g4, g5⟩ := takeBcd_ok (beq_eq hc)
    rw [g2]
    have htl := tk_length g1
    have hhl := hexOf_length (tk b I ((N + 1) / 2))
    rw [htl] at hhl
    have hp := pad_drop (N := N) hhl rfl g4
    have hfp := figs_pad g3
    rw [hp] at hfp
    refine ⟨_, (m16_spec _ (by simp; omega)).trans (by rw [if_pos g3, hp, bcd_hexOf hfp]), ?_⟩
    refine (sel_of_f rfl).trans ?_
    refine (sel_of_f (lt_f (show ¬ ((I + (N + 1) / 2 : Nat) : Int) < (I : Int) by omega))).trans ?_
    refine (sel_of_f (lt_f (show ¬ len b < ((I + (N + 1) / 2 : Nat) : Int) by simp only [len]; omega))).trans ?_
    refine (ck_of (show inC (I : Int) ((I + (N + 1) / 2 : Nat) : Int) (len b) = true from inC_t (by omega) (by omega) (by simp only [len]; omega))).trans ?_
    refine (ob_of (a := (true, ())) ?_).trans ?_
    · rw [sub_tk]; unfold m18; rw [seq_t rfl]
    refine (sel_of_f rfl).trans ?_
    have : len ((hexOf (tk b I ((N + 1) / 2))).drop (N % 2)) = (N : Int) := by simp only [len, List.length_drop]; omega
    simp only [this]
    rw [beq_t rfl]; rfl
  all_goals
    refine (ob_of (m21_spec b I N (by omega))).trans ?_
    refine sel_ob2 (fun hc => ?_) ?_ ?_
    · obtain ⟨g1, g2, g3, g4, g5⟩ := takeBig_ok (beq_eq hc)
      rw [g2]
      have htl := tk_length g1
      have hle : bev (tk b I N) ≤ 9223372036854775807 := by
        have := bev_bound g1 g4 (fun hh => by have := g5 hh.1; omega) (N - 1) (by omega)
        rw [List.take_of_length_le (by omega)] at this; exact this
      have hlt := bev_lt_pow (tk b I N)
      rw [htl] at hlt
      have hps := ps_bev (tk b I N)
      rw [htl] at hps
      refine ⟨_, (m23_spec _ _ (by omega)).trans (by
        rw [if_pos ⟨by omega, by omega, by omega, by rw [Int.toNat_natCast, show ((256 : Int) ^ N) = ((256 ^ N : Nat) : Int) from (Int.natCast_pow 256 N).symm]; omega⟩, Int.toNat_natCast, Int.toNat_natCast, hps]), ?_⟩
      refine (sel_of_f rfl).trans ?_
      refine (sel_of_f (lt_f (show ¬ ((I + N : Nat) : Int) < (I : Int) by omega))).trans ?_
      refine (sel_of_f (lt_f (show ¬ len b < ((I + N : Nat) : Int) by simp only [len]; omega))).trans ?_
      refine (ck_of (show inC (I : Int) ((I + N : Nat) : Int) (len b) = true from inC_t (by omega) (by omega) (by simp only [len]; omega))).trans ?_
      refine (ob_of (a := (true, ())) ?_).trans ?_
      · rw [sub_tk]; unfold m18; rw [seq_t rfl]
      rfl
    all_goals
      refine (ob_of (m14_spec s)).trans ?_
      refine sel_ob2 (fun hc => ?_) ?_ ?_
      · by_cases hv : 1 ≤ s.length ∧ s.length ≤ 18 ∧ figs s
        · rw [if_pos hv]
          have hlt := val_lt_pow hv.2.2
          have h18 := pow18 hv.2.1
          refine ⟨_, (m12_spec _ _ (by omega)).trans (by
            rw [if_pos ⟨by simp only [len]; omega, by simp only [len]; omega, by omega, by simp only [len]; rw [Int.toNat_natCast, show ((10 : Int) ^ s.length) = ((10 ^ s.length : Nat) : Int) from (Int.natCast_pow 10 _).symm]; omega⟩, Int.toNat_natCast, len_nat, Int.toNat_natCast, ps_val hv.2.2]), ?_⟩
          refine (sel_of_f rfl).trans ?_
          rw [seq_t rfl]; rfl
        · rw [if_neg hv] at hc; cases hc
      all_goals
        refine (ob_of (m25_spec s (by omega))).trans ?_
        refine (ob_of (a := (true, ())) ?_).trans rfl
        refine (sel_of_t rfl).trans ?_
        by_cases hv : s.length % 2 = 0 ∧ hexy s
        · rw [if_pos hv]
          refine (sel_of_f rfl).trans ?_
          refine (sel_of_t rfl).trans ?_
          refine (ob_of (m27_spec (unh s) (by simp [unh]; omega))).trans ?_
          rw [hexOf_unh hv.2 hv.1, seq_t rfl]
        · rw [if_neg hv]
          refine (sel_of_t rfl).trans ?_
          exact sel_of_t rfl
theorem law7 (x : denL [.pair (.sl (.int .u8)) (.pair (.int .u8) (.pair (.int .u8) (.pair (.str) (.unit))))]) (h : okL [.pair (.sl (.int .u8)) (.pair (.int .u8) (.pair (.int .u8) (.pair (.str) (.unit))))] x) : m7 x = some (true, ()) := law7' x.1.1 x.1.2.1 x.1.2.2.1 x.1.2.2.2.1
end Yp
