/- A part of the proof of the statements of this seat: plain functions, and laws on them. No condition of its own. -/
import Derived.Test.YtbffdlbcpdmncaaQ0
import Derived.RangeFuncBox
import Derived.RangeFuncLeaves
import Derived.Shelf.Abstract
import Derived.WalkKit
import Derived.OwnWalkIn
import Derived.TacticsInMore
import Derived.LoopNIn
import Derived.LoopIn
import Derived.Maps.AppendAt
import Derived.Test.YtbffdlbcpdmncaaProg
import Derived.RangeFuncNested
set_option linter.unusedVariables false
set_option linter.unusedSimpArgs false
namespace Yp
open Go
theorem pad_drop {u : List UInt8} {k N : Nat} (hl : u.length = 2 * k) (hN : (N + 1) / 2 = k) (h : N % 2 = 1 → nth u 0 (u8 0) = 48) : pad (u.drop (N % 2)) = u := by
  by_cases ho : N % 2 = 1
  · rw [ho]
    unfold pad
    rw [if_pos (by simp; omega)]
    cases u with
    | nil => simp at hl; omega
    | cons x r => have := h ho; simp only [nth, List.getD_cons_zero] at this; rw [this]; rfl
  · have : N % 2 = 0 := by omega
    rw [this, List.drop_zero]; exact pad_even (by omega)
theorem figs_pad {s : List UInt8} (h : figs s) : figs (pad s) := by
  unfold pad
  split
  · intro i hi
    cases i with
    | zero => exact (by decide : isFig 48)
    | succ i => exact h i (by simpa using hi)
  · exact h
theorem pad_back (s : List UInt8) : (pad s).drop (s.length % 2) = s := by
  unfold pad
  by_cases h : s.length % 2 = 1
  · rw [if_pos h, h]; rfl
  · have : s.length % 2 = 0 := by omega
    rw [if_neg h, this]; rfl
theorem hex_bcdpad {s : List UInt8} (hf : figs s) : hexOf (bcd (pad s)) = pad s := hexOf_bcd (figs_pad hf) (by rw [pad_length]; omega)
theorem bcdpad_inj {s t : List UInt8} (hs : figs s) (ht : figs t) (hl : s.length = t.length) (h : bcd (pad s) = bcd (pad t)) : s = t := by
  have := congrArg hexOf h
  rw [hex_bcdpad hs, hex_bcdpad ht] at this
  rw [← pad_back s, ← pad_back t, this, hl]
theorem takeBcd_cases {b : List UInt8} {I N : Nat} (hI : I ≤ b.length) (hN : N ≤ 999) : (b.length < I + (N + 1) / 2 ∧ takeBcd b I N = ([], 0, 3, ())) ∨
    (I + (N + 1) / 2 ≤ b.length ∧ takeBcd b I N = ([], 0, 2, ()) ∧ ∀ s, s.length = N → figs s → tk b I ((N + 1) / 2) = bcd (pad s) → False) ∨
    (∃ s, I + (N + 1) / 2 ≤ b.length ∧ takeBcd b I N = (s, ((I + (N + 1) / 2 : Nat) : Int), 0, ()) ∧ figs s ∧ s.length = N ∧ tk b I ((N + 1) / 2) = bcd (pad s)) := by
  unfold takeBcd
  simp only [Int.toNat_natCast]
  rw [if_neg (by omega)]
  by_cases h1 : (b.length : Int) - I < ((N : Int) + 1) / 2
  · rw [if_pos h1]; exact .inl ⟨by omega, rfl⟩
  rw [if_neg h1]
  have hle : I + (N + 1) / 2 ≤ b.length := by omega
  have hul := tk_length hle
  have hxl : (hexOf (tk b I ((N + 1) / 2))).length = 2 * ((N + 1) / 2) := by rw [hexOf_length, hul]
  refine .inr ?_
  by_cases h2 : (N : Int) % 2 = 1 ∧ ¬nth (hexOf (tk b I ((N + 1) / 2))) 0 (u8 0) = 48
  · rw [if_pos h2]
    refine .inl ⟨hle, rfl, fun s hs hf h => h2.2 ?_⟩
    rw [h, hex_bcdpad hf]; unfold pad; rw [if_pos (by omega)]; rfl
  rw [if_neg h2]
  have hp : pad ((hexOf (tk b I ((N + 1) / 2))).drop (N % 2)) = hexOf (tk b I ((N + 1) / 2)) := pad_drop hxl rfl fun ho => Classical.byContradiction fun hc => h2 ⟨by omega, hc⟩
  by_cases h3 : figs ((hexOf (tk b I ((N + 1) / 2))).drop (N % 2))
  · rw [if_pos h3]
    refine .inr ⟨_, hle, ?_, h3, by rw [List.length_drop, hxl]; omega, ?_⟩
    · simp
    · have hb := bcd_hexOf (u := tk b I ((N + 1) / 2)) (by rw [← hp]; exact figs_pad h3)
      rw [hp, hb]
  · rw [if_neg h3]
    refine .inl ⟨hle, rfl, fun s hs hf h => h3 ?_⟩
    rw [h, hex_bcdpad hf, ← hs, pad_back]; exact hf
theorem tk_of_drop {b x q : List UInt8} {I : Nat} (h : b.drop I = x ++ q) : tk b I x.length = x := by
  unfold tk; rw [h, List.take_left']; rfl
theorem drop_of_tk {b x : List UInt8} {I n : Nat} (h : tk b I n = x) : b.drop I = x ++ b.drop (I + n) := by
  rw [← h]; unfold tk
  rw [← List.drop_drop, List.take_append_drop]
theorem drop_len {b x : List UInt8} {I : Nat} (hI : I ≤ b.length) (h : b.drop I = x) : b.length = I + x.length := by
  have := congrArg List.length h
  rw [List.length_drop] at this; omega
theorem takeBcd_hit {b s q : List UInt8} {I : Nat} (hI : I ≤ b.length) (hN : s.length ≤ 999) (hf : figs s) (h : b.drop I = bcd (pad s) ++ q) : takeBcd b I s.length = (s, ((I + (s.length + 1) / 2 : Nat) : Int), 0, ()) := by
  have hl := drop_len hI h
  have ht := tk_of_drop h
  rw [List.length_append, bcdpad_length] at hl
  rw [bcdpad_length] at ht
  rcases takeBcd_cases hI hN with ⟨h1, _⟩ | ⟨_, _, h2⟩ | ⟨t, _, h3, h4, h5, h6⟩
  · omega
  · exact (h2 s rfl hf ht).elim
  · rw [h3, bcdpad_inj h4 hf h5 (by rw [← h6, ht])]
def rdB (k l : Int) (b : List UInt8) (a n : Int) : List UInt8 × Int × Int × Unit :=
  if k ≤ 2 then (if (takeBcd b a n).2.2.1 = 0 then ((takeBcd b a n).1, (takeBcd b a n).2.1, 0, ()) else ([], 0, (takeBcd b a n).2.2.1, ()))
  else if (b.length : Int) - a < n then ([], 0, 3, ()) else if fv k l (tk b a.toNat n.toNat) then (tk b a.toNat n.toNat, a + n, 0, ()) else ([], 0, 2, ())
def rdF (k l : Int) (b : List UInt8) (a : Int) : List UInt8 × Int × Int × Unit :=
  if a < 0 ∨ (b.length : Int) < a then ([], 0, 1, ()) else if 0 < cnt k then
    (if (takeBcd b a (cnt k)).2.2.1 = 0 then (if (val (takeBcd b a (cnt k)).1 : Int) < 1 ∨ l < val (takeBcd b a (cnt k)).1 then ([], 0, 2, ()) else rdB k l b (takeBcd b a (cnt k)).2.1 (val (takeBcd b a (cnt k)).1))
    else ([], 0, (takeBcd b a (cnt k)).2.2.1, ()))
  else rdB k l b a l
def rdD (no : Int) (b : List UInt8) (a : Int) : List UInt8 × Int × Int × Unit := match formOf no with | none => ([], 0, 12, ()) | some (k, l) => rdF k l b a
theorem field_tail {no k l : Int} {b : List UInt8} {A N : Nat} (ho : formOf no = some (k, l)) (hl : b.length ≤ 1000000) (ha : A ≤ b.length) (hn : 1 ≤ N ∧ N ≤ 400) :
    (ob (sel (beq k 1) (some (true, ())) (some (beq k 2, ()))) fun (a' : Bool × Unit) => sel a'.1 (ob (dig_TakeBcd (b, (A : Int), (N : Int), ())) fun (t : List UInt8 × Int × Int × Unit) => sel (bnot (beq t.2.2.1 0)) (some (none' UInt8, 0, t.2.2.1, ())) (ck (rm 1 (ln t.1)) (some (t.1, t.2.1, 0, ()))))
      (sel (lt (i64 (isub (len b) (A : Int))) (N : Int)) (some (none' UInt8, 0, 3, ())) (ck (inC (A : Int) (i64 (iadd (A : Int) (N : Int))) (len b)) (ck (rm 1 (nadd (ln (none' UInt8)) (ln (sub b (A : Int) (i64 (iadd (A : Int) (N : Int)))))))
        (ob (field_Fits (no, app (none' UInt8) (sub b (A : Int) (i64 (iadd (A : Int) (N : Int)))), ())) fun (a : Bool × Unit) => sel (bnot a.1) (some (none' UInt8, 0, 2, ())) (some (app (none' UInt8) (sub b (A : Int) (i64 (iadd (A : Int) (N : Int)))), i64 (iadd (A : Int) (N : Int)), 0, ()))))))
      : Option (List UInt8 × Int × Int × Unit)) = some (rdB k l b A N) := by
  obtain ⟨hk, h1, h400, h99⟩ := form_ok ho
  refine (ob_of (num_sel hk)).trans ?_
  unfold rdB
  by_cases h2 : k ≤ 2
  · refine (sel_of_t (decide_eq_true h2)).trans ?_
    rw [if_pos h2]
    refine (ob_of (dig_TakeBcd_spec b A N hl)).trans ?_
    rcases takeBcd_cases ha (show N ≤ 999 by omega) with ⟨_, h⟩ | ⟨_, h, _⟩ | ⟨s, _, h, _, hs, _⟩
    · rw [h]; rfl
    · rw [h]; rfl
    · rw [h]
      refine (sel_of_f rfl).trans ?_
      refine (ck_of (rm_t (by simp only [ln]; omega))).trans ?_
      rfl
  · refine (sel_of_f (decide_eq_false h2)).trans ?_
    rw [if_neg h2]
    have c0 : i64 (isub (len b) (A : Int)) = (b.length : Int) - A := by
      simp only [isub, len]; exact i64_of (by omega) (by omega)
    have c3 : i64 (iadd (A : Int) (N : Int)) = ((A + N : Nat) : Int) := i64_add (by omega)
    simp only [c0, c3, sub_tk, Int.toNat_natCast]
    by_cases h3 : (b.length : Int) - A < N
    · rw [if_pos h3]; exact sel_of_t (lt_t h3)
    rw [if_neg h3]
    refine (sel_of_f (lt_f h3)).trans ?_
    have hle : A + N ≤ b.length := by omega
    refine (ck_of (inC_t (by omega) (by omega) (by simp only [len]; omega))).trans ?_
    have htl := tk_length hle
    refine (ck_of (rm_t (by simp only [nadd, ln, none', List.length_nil]; omega))).trans ?_
    have ha' : app (none' UInt8) (tk b A N) = tk b A N := rfl
    simp only [ha']
    refine (ob_of (field_Fits_spec no _ (by omega))).trans ?_
    have hfd : fitsD no (tk b A N) = decide (fv k l (tk b A N)) := by unfold fitsD; rw [ho]
    rw [hfd]
    by_cases hv : fv k l (tk b A N)
    · rw [if_pos hv, decide_eq_true hv, ← Int.natCast_add]; exact sel_of_f rfl
    · rw [if_neg hv, decide_eq_false hv]; exact sel_of_t rfl
theorem num_fv {k l : Int} {s : List UInt8} (h2 : k ≤ 2) (hf : figs s) (hn : fln k l s.length) : fv k l s := ⟨⟨fun _ => hf, fun _ => figs_rng hf⟩, hn⟩
theorem ref_tail {no k l : Int} {b : List UInt8} {A N : Nat} (ho : formOf no = some (k, l)) (hl : b.length ≤ 1000000) (ha : A ≤ b.length) (hn : 1 ≤ N ∧ N ≤ 400) (hfl : fln k l N) :
    (ob (sel (le k 2) (some (i64 (idiv (i64 (iadd (N : Int) 1)) 2), ())) (some ((N : Int), ()))) fun (a7 : Int × Unit) => sel (lt (i64 (isub (len b) (A : Int))) a7.1) (some (none' UInt8, 0, 3, ()))
      (ck (inC (A : Int) (i64 (iadd (A : Int) a7.1)) (len b)) (ck (rm 1 (nadd (ln (none' UInt8)) (ln (sub b (A : Int) (i64 (iadd (A : Int) a7.1))))))
        (sel (le k 2) (ob (ref01_TakeBcd (b, (A : Int), (N : Int), ())) fun (t : List UInt8 × Int × Int × Unit) => sel (bnot (beq t.2.2.1 0)) (some (none' UInt8, 0, 2, ())) (ck (rm 1 (ln t.1)) (ob (ref05_fits ((k, l, ()), t.1, ())) fun (a : Bool × Unit) => sel (bnot a.1) (some (none' UInt8, 0, 2, ())) (some (t.1, i64 (iadd (A : Int) a7.1), 0, ())))))
          (ob (ref05_fits ((k, l, ()), app (none' UInt8) (sub b (A : Int) (i64 (iadd (A : Int) a7.1))), ())) fun (a : Bool × Unit) => sel (bnot a.1) (some (none' UInt8, 0, 2, ())) (some (app (none' UInt8) (sub b (A : Int) (i64 (iadd (A : Int) a7.1))), i64 (iadd (A : Int) a7.1), 0, ()))))))
      : Option (List UInt8 × Int × Int × Unit)) = some (rdB k l b A N) := by
  obtain ⟨hk, h1, h400, h99⟩ := form_ok ho
  have hk1 : 1 ≤ k := by unfold kinds at hk; omega
  unfold rdB
  have c0 : i64 (isub (len b) (A : Int)) = (b.length : Int) - A := by
    simp only [isub, len]; exact i64_of (by omega) (by omega)
  by_cases h2 : k ≤ 2
  · have c1 : i64 (idiv (i64 (iadd (N : Int) 1)) 2) = (((N + 1) / 2 : Nat) : Int) := by
      rw [show i64 (iadd (N : Int) 1) = ((N + 1 : Nat) : Int) from i64_add (b := 1) (by omega)]
      exact i64_div (b := 2) (by omega)
    refine (ob_of (sel_of_t (le_t h2))).trans ?_
    have c3 : i64 (iadd (A : Int) (((N + 1) / 2 : Nat) : Int)) = ((A + (N + 1) / 2 : Nat) : Int) := i64_add (by omega)
    rw [if_pos h2]
    simp only [c0, c1, c3, sub_tk]
    rcases takeBcd_cases ha (show N ≤ 999 by omega) with ⟨h3, h⟩ | ⟨h3, h, _⟩ | ⟨s, h3, h, hf, hs, _⟩
    · refine (sel_of_t (lt_t (by omega))).trans ?_
      rw [h]; rfl
    · refine (sel_of_f (lt_f (by omega))).trans ?_
      refine (ck_of (inC_t (by omega) (by omega) (by simp only [len]; omega))).trans ?_
      have htl := tk_length h3
      refine (ck_of (rm_t (by simp only [nadd, ln, none', List.length_nil]; omega))).trans ?_
      refine (sel_of_t (le_t h2)).trans ?_
      refine (ob_of (ref01_TakeBcd_spec b A N hl)).trans ?_
      rw [h]; rfl
    · refine (sel_of_f (lt_f (by omega))).trans ?_
      refine (ck_of (inC_t (by omega) (by omega) (by simp only [len]; omega))).trans ?_
      have htl := tk_length h3
      refine (ck_of (rm_t (by simp only [nadd, ln, none', List.length_nil]; omega))).trans ?_
      refine (sel_of_t (le_t h2)).trans ?_
      refine (ob_of (ref01_TakeBcd_spec b A N hl)).trans ?_
      rw [h]
      refine (sel_of_f rfl).trans ?_
      refine (ck_of (rm_t (by simp only [ln]; omega))).trans ?_
      obtain ⟨t, ht, he⟩ := ref05_fits_spec k l s (by omega)
      refine (ob_of ht).trans ?_
      rw [he hk1, decide_eq_true (num_fv h2 hf (by rw [hs]; exact hfl))]
      rfl
  · refine (ob_of (sel_of_f (le_f h2))).trans ?_
    rw [if_neg h2]
    have c3 : i64 (iadd (A : Int) (N : Int)) = ((A + N : Nat) : Int) := i64_add (by omega)
    simp only [c0, c3, sub_tk, Int.toNat_natCast]
    by_cases h3 : (b.length : Int) - A < N
    · rw [if_pos h3]; exact sel_of_t (lt_t h3)
    rw [if_neg h3]
    refine (sel_of_f (lt_f h3)).trans ?_
    have hle : A + N ≤ b.length := by omega
    refine (ck_of (inC_t (by omega) (by omega) (by simp only [len]; omega))).trans ?_
    have htl := tk_length hle
    refine (ck_of (rm_t (by simp only [nadd, ln, none', List.length_nil]; omega))).trans ?_
    refine (sel_of_f (le_f h2)).trans ?_
    have ha' : app (none' UInt8) (tk b A N) = tk b A N := rfl
    simp only [ha']
    obtain ⟨t, ht, he⟩ := ref05_fits_spec k l (tk b A N) (by omega)
    refine (ob_of ht).trans ?_
    rw [he hk1]
    by_cases hv : fv k l (tk b A N)
    · rw [if_pos hv, decide_eq_true hv, ← Int.natCast_add]; exact sel_of_f rfl
    · rw [if_neg hv, decide_eq_false hv]; exact sel_of_t rfl
theorem val_small {s : List UInt8} (hf : figs s) (h : s.length ≤ 3) : val s < 1000 := by
  have := val_lt_pow hf
  have h2 : 10 ^ s.length ≤ 10 ^ 3 := Nat.pow_le_pow_right (by omega) h
  omega
theorem fln_cnt {k l : Int} {n : Nat} (h0 : 0 < cnt k) (h1 : 1 ≤ n) (h2 : (n : Int) ≤ l) : fln k l n := by
  unfold fln
  rw [if_neg]
  · exact ⟨h1, h2⟩
  · rintro (rfl | rfl | rfl) <;> exact absurd h0 (by decide)
theorem fln_none {k l : Int} {n : Nat} (hk : kinds k) (h0 : ¬ 0 < cnt k) : fln k l n ↔ (n : Int) = l := by
  unfold fln
  rcases hk with rfl | rfl | rfl | rfl | rfl | rfl | rfl <;> first | exact absurd (by decide) h0 | simp
theorem field_Read_spec (no : Int) (b : List UInt8) (a : Int) (hl : b.length ≤ 1000000) : field_Read (no, b, a, ()) = some (rdD no b a) := by
  unfold field_Read rdD
  refine (ob_of (field_Of_spec no)).trans ?_
  cases ho : formOf no with
  | none => rfl
  | some p =>
    obtain ⟨k, l⟩ := p
    rw [fr_some rfl]
    obtain ⟨hk, h1, h400, h99⟩ := form_ok ho
    refine (sel_of_f rfl).trans ?_
    show _ = some (rdF k l b a)
    unfold rdF
    by_cases h2 : a < 0
    · refine (ob_of (sel_of_t (lt_t h2))).trans ?_
      simp only [if_pos (Or.inl h2 : a < 0 ∨ (b.length : Int) < a)]; rfl
    by_cases h3 : (b.length : Int) < a
    · refine (ob_of (a := (true, ())) ((sel_of_f (lt_f h2)).trans (some_b (lt_t h3)))).trans ?_
      simp only [if_pos (Or.inr h3 : a < 0 ∨ (b.length : Int) < a)]; rfl
    refine (ob_of (a := (false, ())) ((sel_of_f (lt_f h2)).trans (some_b (lt_f h3)))).trans ?_
    refine (sel_of_f rfl).trans ?_
    rw [if_neg (by omega)]
    obtain ⟨A, rfl⟩ : ∃ n : Nat, a = n := ⟨a.toNat, by omega⟩
    refine (ob_of (field_told_spec hk)).trans ?_
    by_cases h0 : 0 < cnt k
    · rw [if_pos h0]
      refine (sel_of_t (lt_t h0)).trans ?_
      refine (ob_of (dig_TakeBcd_spec b A (cnt k) hl)).trans ?_
      have hcr := cnt_range hk
      obtain ⟨C, hC⟩ : ∃ n : Nat, cnt k = n := ⟨(cnt k).toNat, by omega⟩
      rw [hC]
      rcases takeBcd_cases (b := b) (I := A) (N := C) (by omega) (by omega) with ⟨_, h⟩ | ⟨_, h, _⟩ | ⟨s, h4, h, hf, hs, _⟩
      · rw [h]; rfl
      · rw [h]; rfl
      · rw [h]
        refine (sel_of_f rfl).trans ?_
        rw [if_pos rfl]
        have hvs := val_small hf (by omega)
        refine (ob_of (dig_Value_spec s)).trans ?_
        rw [if_pos ⟨by omega, by omega, hf⟩]
        by_cases hm1 : (val s : Int) < 1
        · refine (ob_of (sel_of_t (lt_t hm1))).trans ?_
          simp only [if_pos (Or.inl hm1 : (val s : Int) < 1 ∨ l < val s)]; rfl
        by_cases hm2 : l < (val s : Int)
        · refine (ob_of (a := (true, ())) ((sel_of_f (lt_f hm1)).trans (some_b (lt_t hm2)))).trans ?_
          simp only [if_pos (Or.inr hm2 : (val s : Int) < 1 ∨ l < val s)]; rfl
        refine (ob_of (a := (false, ())) ((sel_of_f (lt_f hm1)).trans (some_b (lt_f hm2)))).trans ?_
        refine (sel_of_f rfl).trans ?_
        rw [if_neg (show ¬((val s : Int) < 1 ∨ l < val s) by omega)]
        exact field_tail ho hl h4 ⟨by omega, by omega⟩
    · rw [if_neg h0]
      refine (sel_of_f (lt_f h0)).trans ?_
      obtain ⟨L, rfl⟩ : ∃ n : Nat, l = n := ⟨l.toNat, by omega⟩
      exact field_tail (b := b) (A := A) (N := L) ho hl (by omega) ⟨by omega, by omega⟩
theorem ref05_Read_spec (no : Int) (b : List UInt8) (a : Int) (hl : b.length ≤ 1000000) : ref05_Read (no, b, a, ()) = some (rdD no b a) := by
  unfold ref05_Read rdD
  refine (ob_of (ref05_Of_spec no)).trans ?_
  cases ho : formOf no with
  | none => rfl
  | some p =>
    obtain ⟨k, l⟩ := p
    rw [fr_some rfl]
    obtain ⟨hk, h1, h400, h99⟩ := form_ok ho
    refine (sel_of_f rfl).trans ?_
    show _ = some (rdF k l b a)
    unfold rdF
    by_cases h2 : a < 0
    · refine (ob_of (sel_of_t (lt_t h2))).trans ?_
      simp only [if_pos (Or.inl h2 : a < 0 ∨ (b.length : Int) < a)]; rfl
    by_cases h3 : (b.length : Int) < a
    · refine (ob_of (a := (true, ())) ((sel_of_f (lt_f h2)).trans (some_b (lt_t h3)))).trans ?_
      simp only [if_pos (Or.inr h3 : a < 0 ∨ (b.length : Int) < a)]; rfl
    refine (ob_of (a := (false, ())) ((sel_of_f (lt_f h2)).trans (some_b (lt_f h3)))).trans ?_
    refine (sel_of_f rfl).trans ?_
    rw [if_neg (by omega)]
    obtain ⟨A, rfl⟩ : ∃ n : Nat, a = n := ⟨a.toNat, by omega⟩
    refine (ob_of (ref05_count_spec hk)).trans ?_
    by_cases h0 : 0 < cnt k
    · rw [if_pos h0]
      refine (sel_of_t (lt_t h0)).trans ?_
      refine (ob_of (ref05_count_spec hk)).trans ?_
      refine (ob_of (ref01_TakeBcd_spec b A (cnt k) hl)).trans ?_
      have hcr := cnt_range hk
      obtain ⟨C, hC⟩ : ∃ n : Nat, cnt k = n := ⟨(cnt k).toNat, by omega⟩
      rw [hC]
      rcases takeBcd_cases (b := b) (I := A) (N := C) (by omega) (by omega) with ⟨_, h⟩ | ⟨_, h, _⟩ | ⟨s, h4, h, hf, hs, _⟩
      · rw [h]; rfl
      · rw [h]; rfl
      · rw [h]
        refine (sel_of_f rfl).trans ?_
        rw [if_pos rfl]
        have hvs := val_small hf (by omega)
        refine (ob_of (ref01_Value_spec s (by omega))).trans ?_
        rw [if_pos ⟨by omega, by omega, hf⟩]
        by_cases hm1 : (val s : Int) < 1
        · refine (ob_of (sel_of_t (lt_t hm1))).trans ?_
          simp only [if_pos (Or.inl hm1 : (val s : Int) < 1 ∨ l < val s)]; rfl
        by_cases hm2 : l < (val s : Int)
        · refine (ob_of (a := (true, ())) ((sel_of_f (lt_f hm1)).trans (some_b (lt_t hm2)))).trans ?_
          simp only [if_pos (Or.inr hm2 : (val s : Int) < 1 ∨ l < val s)]; rfl
        refine (ob_of (a := (false, ())) ((sel_of_f (lt_f hm1)).trans (some_b (lt_f hm2)))).trans ?_
        refine (sel_of_f rfl).trans ?_
        rw [if_neg (show ¬((val s : Int) < 1 ∨ l < val s) by omega)]
        exact ref_tail ho hl h4 ⟨by omega, by omega⟩ (fln_cnt h0 (by omega) (by omega))
    · rw [if_neg h0]
      refine (sel_of_f (lt_f h0)).trans ?_
      obtain ⟨L, rfl⟩ : ∃ n : Nat, l = n := ⟨l.toNat, by omega⟩
      exact ref_tail (b := b) (A := A) (N := L) ho hl (by omega) ⟨by omega, by omega⟩ ((fln_none hk h0).2 rfl)
end Yp
namespace Yp
open Go
noncomputable def D (p : Prop) : Bool := @decide p (Classical.propDecidable p)
theorem D_iff {p : Prop} : D p = true ↔ p := by unfold D; exact @decide_eq_true_iff p (Classical.propDecidable p)
theorem D_t {p : Prop} (h : p) : D p = true := D_iff.2 h
theorem D_f {p : Prop} (h : ¬ p) : D p = false := by
  cases e : D p
  · rfl
  · exact absurd (D_iff.1 e) h
theorem D_ext {b : Bool} {p : Prop} (h : b = true ↔ p) : b = D p := Bool.eq_iff_iff.2 (h.trans D_iff.symm)
@[congr] theorem ob_cg {α β : Type} {o o' : Option α} {k : α → Option β} (h : o = o') : ob o k = ob o' k := by rw [h]
@[congr] theorem sel_cg {α : Type} {c c' : Bool} {a b : α} (h : c = c') : sel c a b = sel c' a b := by rw [h]
@[congr] theorem ck_cg {α : Type} {c c' : Bool} {a : Option α} (h : c = c') : ck c a = ck c' a := by rw [h]
@[congr] theorem lc_cg {σ ρ β : Type} {o o' : Option (LS σ ρ)} {kn : σ → Option β} {ke : Nat → σ → Option β} {kr : ρ → Option β} (h : o = o') : lc o kn ke kr = lc o' kn ke kr := by rw [h]
theorem g01 {α β : Type} {a : α} {k : α → Option β} : ob (some a) k = k a := rfl
theorem g02 {α : Type} {p : Prop} {a b : α} (h : p) : sel (D p) a b = a := sel_of_t (D_t h)
theorem g03 {α : Type} {p : Prop} {a b : α} (h : ¬ p) : sel (D p) a b = b := sel_of_f (D_f h)
theorem g04 {α : Type} {p : Prop} {a : Option α} (h : p) : ck (D p) a = a := ck_of (D_t h)
theorem g05 {α : Type} {a b : α} : sel true a b = a := rfl
theorem g06 {α : Type} {a b : α} : sel false a b = b := rfl
theorem g07 {α : Type} {a : Option α} : ck true a = a := rfl
theorem g08 {a b : Int} : lt a b = D (a < b) := D_ext decide_eq_true_iff
theorem g09 {a b : Int} : le a b = D (a ≤ b) := D_ext decide_eq_true_iff
theorem g10 {a b : Int} : beq a b = D (a = b) := by unfold beq; exact D_ext beq_iff_eq
theorem g11 {a b : List UInt8} : seq a b = D (a = b) := by unfold seq; exact D_ext beq_iff_eq
theorem g12 {p : Prop} : bnot (D p) = D (¬ p) := by
  by_cases h : p
  · rw [D_t h, D_f (not_not_intro h)]; rfl
  · rw [D_f h, D_t h]; rfl
theorem g13 {p q : Prop} : band (D p) (D q) = D (p ∧ q) := D_ext (by simp [band, D_iff])
theorem g14 {p q : Prop} : bor (D p) (D q) = D (p ∨ q) := D_ext (by simp [bor, D_iff])
theorem g15 {c q : Bool} : sel c (some (true, ())) (some (q, ())) = some (bor c q, ()) := by cases c <;> rfl
theorem g16 {c q : Bool} : sel c (some (q, ())) (some (false, ())) = some (band c q, ()) := by cases c <;> rfl
theorem g17 {c d : Bool} {x : Option (Bool × Unit)} : sel c (sel d x (some (false, ()))) (some (false, ())) = sel (band c d) x (some (false, ())) := by cases c <;> rfl
theorem g18 {c d : Bool} {x : Option (Bool × Unit)} : sel c (some (true, ())) (sel d (some (true, ())) x) = sel (bor c d) (some (true, ())) x := by cases c <;> rfl
theorem g19 {a b c : Int} : inC a b c = D (0 ≤ a ∧ a ≤ b ∧ b ≤ c) := D_ext (by simp [inC, and_assoc])
theorem g20 {a b : Int} : inB a b = D (0 ≤ a ∧ a < b) := D_ext (by simp [inB])
theorem g21 {c n : Nat} : rm c n = D (n * c ≤ 140737488355328) := D_ext decide_eq_true_iff
theorem g22 {α : Type} {l : List α} : len l = (l.length : Int) := rfl
theorem g23 {α : Type} {l : List α} : ln l = l.length := rfl
theorem g24 {a b : Nat} : nadd a b = a + b := rfl
theorem g25 {α : Type} {a b : List α} : app a b = a ++ b := rfl
theorem g26 {α : Type} : none' α = [] := rfl
theorem g27 {n : Int} (h : -9223372036854775808 ≤ n ∧ n ≤ 9223372036854775807) : i64 n = n := i64_of h.1 h.2
theorem g28 {a b : Int} : iadd a b = a + b := rfl
theorem g29 {a b : Int} : isub a b = a - b := rfl
theorem g30 {a b : Int} : imul a b = a * b := rfl
theorem g31 {a b : Int} (h : 0 ≤ a) : idiv a b = a / b := by simp only [idiv]; exact Int.tdiv_eq_ediv_of_nonneg h
theorem g32 {a b : Int} (h : 0 ≤ a) : imod a b = a % b := by simp only [imod]; exact Int.tmod_eq_emod_of_nonneg h
theorem g33 {a : Int} : nat a = a.toNat := rfl
theorem g34 {a : Nat} : ofn a = (a : Int) := rfl
theorem g35 {a b : Nat} : nsub a b = a - b := rfl
theorem g36 {c : Bool} : band true c = c := rfl
theorem g37 {c : Bool} : band c true = c := by cases c <;> rfl
theorem g38 {c : Bool} : bor false c = c := rfl
theorem g39 {c : Bool} : bor c false = c := by cases c <;> rfl
theorem g40 {c : Bool} : bnot (bnot c) = c := by cases c <;> rfl
theorem g41 : bnot true = false := rfl
theorem g42 : bnot false = true := rfl
theorem g43 {a b : Bool} : beb a b = D (a = b) := D_ext (by unfold beb; exact beq_iff_eq)
theorem g44 {c : Bool} : band false c = false := rfl
theorem g45 {c : Bool} : band c false = false := by cases c <;> rfl
theorem g46 {c : Bool} : bor true c = true := rfl
theorem g47 {c : Bool} : bor c true = true := by cases c <;> rfl
theorem g48 {α β : Type} {k : α → Option β} : ob none k = none := rfl
theorem g49 {p q : Prop} : (D p = D q) = (p ↔ q) := by
  refine propext ⟨fun h => D_iff.symm.trans ((Bool.eq_iff_iff.1 h).trans D_iff), fun h => Bool.eq_iff_iff.2 (D_iff.trans (h.trans D_iff.symm))⟩
theorem g50 {α : Type} {c : Bool} {a : α} : sel c a a = a := by cases c <;> rfl
theorem g51 {p : Prop} [Decidable p] : decide p = D p := D_ext decide_eq_true_iff
theorem g52 : D True = true := D_t trivial
theorem g53 : D False = false := D_f not_false
theorem g54 {p : Prop} : (D p = true) = p := propext D_iff
theorem g55 {p : Prop} : (D p = false) = ¬ p := by
  refine propext ⟨fun h hp => ?_, D_f⟩
  rw [D_t hp] at h; cases h
theorem g56 {p : Prop} : (true = D p) = p := propext ⟨fun h => D_iff.1 h.symm, fun h => (D_iff.2 h).symm⟩
theorem g57 {a b : Int} : minI a b = min a b := by unfold minI; split <;> omega
theorem g58 {a b : Int} : maxI a b = max a b := by unfold maxI; split <;> omega
theorem g60 {a : UInt16} : n16 a = (a.toNat : Int) := rfl
theorem g61 {a : Int} (h : 0 ≤ a ∧ a < 256) : n8 (u8 a) = a := by
  obtain ⟨n, rfl⟩ : ∃ n : Nat, a = n := ⟨a.toNat, by omega⟩
  exact n8_u8 (by omega)
theorem lc_nx {σ ρ β : Type} {y : σ} {kn : σ → Option β} {ke : Nat → σ → Option β} {kr : ρ → Option β} : lc (some (.nx y)) kn ke kr = kn y := rfl
theorem some_Df {p : Prop} (h : ¬ p) : some (D p, ()) = some (false, ()) := by rw [D_f h]
theorem some_DD {p q : Prop} (h : p ↔ q) : some (D p, ()) = some (D q, ()) := by rw [show p = q from propext h]
theorem lc_rt' {σ ρ β : Type} {r : ρ} {kn : σ → Option β} {ke : Nat → σ → Option β} {kr : ρ → Option β} : lc (some (.rt r)) kn ke kr = kr r := rfl
theorem lc_ex' {σ ρ β : Type} {y : σ} {k : Nat} {kn : σ → Option β} {ke : Nat → σ → Option β} {kr : ρ → Option β} : lc (some (.ex k y)) kn ke kr = ke k y := rfl
theorem g62 {k : Nat} : neb k k = true := by simp [neb]
theorem g63 {n : Nat} : nat (n : Int) = n := nat_nat
theorem g64 : ((1 : Nat) : Int) = 1 := rfl
theorem g65 : ((0 : Nat) : Int) = 0 := rfl
theorem g66 {p : Prop} : (false = D p) = ¬ p := propext ⟨fun h => g55.mp h.symm, fun h => (D_f h).symm⟩
def liftS {β σ ρ : Type} (mk : β → Nat → σ) (i : Nat) : LS β ρ → LS σ ρ
  | .nx b => .nx (mk b (i + 1)) | .ex k b => .ex k (mk b i) | .rt r => .rt r
def foldS {α β σ ρ : Type} (mk : β → Nat → σ) (e : Nat) (step : β → α → LS β ρ) : β → Nat → List α → LS σ ρ
  | b, i, [] => .ex e (mk b i)
  | b, i, x :: r => match step b x with
    | .nx b' => foldS mk e step b' (i + 1) r
    | .ex k b' => .ex k (mk b' i)
    | .rt q => .rt q
theorem loop_fold {α β σ ρ : Type} {f : σ → Option (LS σ ρ)} (l : List α) (mk : β → Nat → σ) (e : Nat) (step : β → α → LS β ρ) (I : β → Nat → Prop)
    (hs : ∀ b i (h : i < l.length), I b i → f (mk b i) = some (liftS mk i (step b l[i])) ∧ ∀ b', step b l[i] = .nx b' → I b' (i + 1))
    (he : ∀ b, I b l.length → f (mk b l.length) = some (.ex e (mk b l.length))) (b0 : β) (h0 : I b0 0) : loop f (mk b0 0) = some (foldS mk e step b0 0 l) := by
  have key : ∀ (r : List α) (i : Nat) (b : β), l.drop i = r → i ≤ l.length → I b i → loop f (mk b i) = some (foldS mk e step b i r) := by
    intro r
    induction r with
    | nil =>
      intro i b hr hi hI
      have hl := congrArg List.length hr
      rw [List.length_drop, List.length_nil] at hl
      have : i = l.length := by omega
      subst this
      exact loop_ex (he b hI)
    | cons x r ih =>
      intro i b hr hi hI
      have hl := congrArg List.length hr
      rw [List.length_drop, List.length_cons] at hl
      have hlt : i < l.length := by omega
      have hx : l[i] = x ∧ l.drop (i + 1) = r := by
        rw [List.drop_eq_getElem_cons hlt] at hr
        exact ⟨(List.cons.inj hr).1, (List.cons.inj hr).2⟩
      obtain ⟨h1, h2⟩ := hs b i hlt hI
      rw [hx.1] at h1 h2
      unfold foldS
      cases hst : step b x with
      | nx b' => rw [hst] at h1; rw [loop_nx h1]; exact ih (i + 1) b' hx.2 hlt (h2 b' hst)
      | ex k b' => rw [hst] at h1; exact loop_ex h1
      | rt q => rw [hst] at h1; exact loop_rt h1
  exact key l 0 b0 rfl (Nat.zero_le _) h0
end Yp
namespace Yp
open Go
theorem drop_app_len {b x q : List UInt8} {A : Nat} (hA : A ≤ b.length) (h : b.drop A = x ++ q) : A + x.length ≤ b.length ∧ b.drop (A + x.length) = q := by
  have := drop_len hA h
  rw [List.length_append] at this
  refine ⟨by omega, ?_⟩
  rw [← List.drop_drop, h, List.drop_left]
theorem rdB_hit {k l : Int} {b v q : List UInt8} {A : Nat} (hA : A ≤ b.length) (hv : fv k l v) (h400 : v.length ≤ 400) (h : b.drop A = body k v ++ q) : rdB k l b A v.length = (v, ((A + (body k v).length : Nat) : Int), 0, ()) := by
  have hl := (drop_app_len hA h).1
  unfold rdB
  by_cases h2 : k ≤ 2
  · have hb : body k v = bcd (pad v) := by unfold body; rw [if_pos h2]
    rw [hb] at h ⊢
    rw [if_pos h2, takeBcd_hit hA (by omega) (hv.1.1 h2) h, bcdpad_length]
    rfl
  · have hb : body k v = v := by unfold body; rw [if_neg h2]
    rw [hb] at h hl ⊢
    have ht := tk_of_drop h
    simp only [Int.toNat_natCast]
    rw [if_neg h2, if_neg (by omega), ht, if_pos hv]; rfl
theorem rdB_inv {k l : Int} {b v : List UInt8} {A N : Nat} {I : Int} (hA : A ≤ b.length) (hN : N ≤ 400) (h : rdB k l b A N = (v, I, 0, ())) :
    v.length = N ∧ (k ≤ 2 → figs v) ∧ (¬ k ≤ 2 → fv k l v) ∧ I = ((A + (body k v).length : Nat) : Int) ∧ A + (body k v).length ≤ b.length ∧ tk b A (body k v).length = body k v := by
  unfold rdB at h
  by_cases h2 : k ≤ 2
  · rw [if_pos h2] at h
    rcases takeBcd_cases hA (show N ≤ 999 by omega) with ⟨_, e⟩ | ⟨_, e, _⟩ | ⟨s, h3, e, hf, hs, ht⟩
    · rw [e] at h; simp at h
    · rw [e] at h; simp at h
    · rw [e] at h
      simp only [if_pos, Prod.mk.injEq, and_true] at h
      obtain ⟨rfl, rfl⟩ := h
      have hb : body k s = bcd (pad s) := by unfold body; rw [if_pos h2]
      have hbl : (bcd (pad s)).length = (N + 1) / 2 := by rw [bcdpad_length, hs]
      rw [hb, hbl]
      exact ⟨hs, fun _ => hf, fun hc => absurd h2 hc, rfl, h3, ht⟩
  · rw [if_neg h2] at h
    by_cases h3 : (b.length : Int) - A < N
    · rw [if_pos h3] at h; simp at h
    rw [if_neg h3] at h
    simp only [Int.toNat_natCast] at h
    by_cases h4 : fv k l (tk b A N)
    · rw [if_pos h4] at h
      simp only [Prod.mk.injEq, and_true] at h
      obtain ⟨rfl, rfl⟩ := h
      have hl := tk_length (show A + N ≤ b.length by omega)
      have hb : body k (tk b A N) = tk b A N := by unfold body; rw [if_neg h2]
      rw [hb, hl]
      exact ⟨rfl, fun hc => absurd hc h2, fun _ => h4, by omega, by omega, rfl⟩
    · rw [if_neg h4] at h; simp at h
theorem hdr_of {k : Int} {n : Nat} (h0 : 0 < cnt k) : hdr k n = bcd (pad (ps 10 dch n (cnt k).toNat)) := by unfold hdr; rw [if_pos h0]
theorem hdr_nil {k : Int} {n : Nat} (h0 : ¬ 0 < cnt k) : hdr k n = [] := by unfold hdr; rw [if_neg h0]
theorem hdr_length {k : Int} {n : Nat} : (hdr k n).length = if 0 < cnt k then ((cnt k).toNat + 1) / 2 else 0 := by
  unfold hdr; split
  · rw [bcdpad_length, ps_length]
  · rfl
theorem wrF_length {k : Int} {v : List UInt8} (hk : kinds k) : (wrF k v).length = (if k = 2 ∨ k = 4 then 1 else if k = 5 ∨ k = 7 then 2 else 0) + (if k ≤ 2 then (v.length + 1) / 2 else v.length) := by
  unfold wrF
  rw [List.length_append, body_length, hdr_length]
  congr 1
  rcases hk with rfl | rfl | rfl | rfl | rfl | rfl | rfl <;> rfl
theorem fv_len {no k l : Int} {v : List UInt8} (ho : formOf no = some (k, l)) (hv : fv k l v) : 1 ≤ v.length ∧ (v.length : Int) ≤ l ∧ v.length ≤ 400 := by
  obtain ⟨hk, h1, h400, _⟩ := form_ok ho
  have := hv.2
  unfold fln at this
  split at this <;> omega
theorem rdF_hit {no k l : Int} {b v q : List UInt8} {A : Nat} (ho : formOf no = some (k, l)) (hA : A ≤ b.length) (hv : fv k l v) (h : b.drop A = wrF k v ++ q) : rdF k l b A = (v, ((A + (wrF k v).length : Nat) : Int), 0, ()) := by
  obtain ⟨hk, h1, h400, h99⟩ := form_ok ho
  obtain ⟨hv1, hv2, hv3⟩ := fv_len ho hv
  unfold rdF
  rw [if_neg (by omega)]
  unfold wrF at h ⊢
  by_cases h0 : 0 < cnt k
  · rw [if_pos h0]
    obtain ⟨c1, c2, c3⟩ := cnt_lt hk h99 h400 hv h0
    rw [hdr_of h0] at h ⊢
    rw [List.append_assoc] at h
    have hp := takeBcd_hit (s := ps 10 dch v.length (cnt k).toNat) hA (by rw [ps_length]; omega) figs_ps h
    rw [ps_length, Int.toNat_of_nonneg (by omega)] at hp
    rw [hp]
    have hval : val (ps 10 dch v.length (cnt k).toNat) = v.length := by
      rw [val_ps, Nat.mod_eq_of_lt]
      have := c2.2
      have h10 : ((10 : Int) ^ (cnt k).toNat) = ((10 ^ (cnt k).toNat : Nat) : Int) := pow_cast 10 _
      rw [h10] at this; omega
    simp only [if_pos]
    rw [hval, if_neg (by omega)]
    have hd := drop_app_len hA h
    rw [bcdpad_length, ps_length] at hd
    rw [rdB_hit hd.1 hv hv3 hd.2, List.length_append, bcdpad_length, ps_length]
    simp only [Nat.add_assoc]
  · rw [if_neg h0]
    have hl := (fln_none hk h0).1 hv.2
    rw [hdr_nil h0, List.nil_append] at h ⊢
    have := rdB_hit hA hv hv3 h
    rw [hl] at this; exact this
theorem rdF_inv {no k l : Int} {b v : List UInt8} {A : Nat} {I : Int} (ho : formOf no = some (k, l)) (hA : A ≤ b.length) (h : rdF k l b A = (v, I, 0, ())) :
    fv k l v ∧ I = ((A + (wrF k v).length : Nat) : Int) ∧ A + (wrF k v).length ≤ b.length ∧ b.drop A = wrF k v ++ b.drop (A + (wrF k v).length) := by
  obtain ⟨hk, h1, h400, h99⟩ := form_ok ho
  unfold rdF at h
  rw [if_neg (by omega)] at h
  by_cases h0 : 0 < cnt k
  · rw [if_pos h0] at h
    have hcr := cnt_range hk
    obtain ⟨C, hC⟩ : ∃ n : Nat, cnt k = n := ⟨(cnt k).toNat, by omega⟩
    rw [hC] at h
    rcases takeBcd_cases hA (show C ≤ 999 by omega) with ⟨_, e⟩ | ⟨_, e, _⟩ | ⟨s, h3, e, hf, hs, ht⟩
    · rw [e] at h; simp at h
    · rw [e] at h; simp at h
    · rw [e] at h
      simp only [if_pos] at h
      by_cases hm : (val s : Int) < 1 ∨ l < val s
      · rw [if_pos hm] at h; simp at h
      rw [if_neg hm] at h
      obtain ⟨e1, e2, e3, e4, e5, e6⟩ := rdB_inv h3 (by omega) h
      have hfv : fv k l v := by
        by_cases h2 : k ≤ 2
        · exact num_fv h2 (e2 h2) (fln_cnt h0 (by omega) (by omega))
        · exact e3 h2
      have hh : hdr k v.length = bcd (pad s) := by
        rw [hdr_of h0, e1, hC, Int.toNat_natCast, ← hs, ps_val hf]
      have hhl : (hdr k v.length).length = (C + 1) / 2 := by rw [hh, bcdpad_length, hs]
      refine ⟨hfv, ?_, ?_, ?_⟩
      · rw [e4]; unfold wrF; rw [List.length_append, hhl]; omega
      · unfold wrF; rw [List.length_append, hhl]; omega
      · unfold wrF
        rw [List.length_append, hhl, ← Nat.add_assoc, List.append_assoc, ← drop_of_tk e6, hh]
        exact drop_of_tk ht
  · rw [if_neg h0] at h
    obtain ⟨L, hL⟩ : ∃ n : Nat, l = n := ⟨l.toNat, by omega⟩
    rw [hL] at h
    obtain ⟨e1, e2, e3, e4, e5, e6⟩ := rdB_inv hA (by omega) h
    rw [← hL] at e3
    have hfv : fv k l v := by
      by_cases h2 : k ≤ 2
      · exact num_fv h2 (e2 h2) ((fln_none hk h0).2 (by omega))
      · exact e3 h2
    refine ⟨hfv, ?_, ?_, ?_⟩ <;> unfold wrF <;> rw [hdr_nil h0, List.nil_append]
    · exact e4
    · exact e5
    · exact drop_of_tk e6
theorem wrF_le {k : Int} {v : List UInt8} (hk : kinds k) (h : v.length ≤ 400) : (wrF k v).length ≤ 402 := by
  rw [wrF_length hk]; repeat' split
  all_goals omega
theorem wrF_pos {k : Int} {v : List UInt8} (hk : kinds k) (h : 1 ≤ v.length) : 1 ≤ (wrF k v).length := by
  rw [wrF_length hk]; repeat' split
  all_goals omega
end Yp
namespace Yp
open Go
def mkb (g : Nat → Bool) : UInt8 := UInt8.ofNat ((g 0).toNat * 128 + (g 1).toNat * 64 + (g 2).toNat * 32 + (g 3).toNat * 16 + (g 4).toNat * 8 + (g 5).toNat * 4 + (g 6).toNat * 2 + (g 7).toNat)
theorem bt_mk' : ∀ b0 b1 b2 b3 b4 b5 b6 b7 : Bool, bt (UInt8.ofNat (b0.toNat * 128 + b1.toNat * 64 + b2.toNat * 32 + b3.toNat * 16 + b4.toNat * 8 + b5.toNat * 4 + b6.toNat * 2 + b7.toNat)) 0 = b0 ∧
    bt (UInt8.ofNat (b0.toNat * 128 + b1.toNat * 64 + b2.toNat * 32 + b3.toNat * 16 + b4.toNat * 8 + b5.toNat * 4 + b6.toNat * 2 + b7.toNat)) 1 = b1 ∧ bt (UInt8.ofNat (b0.toNat * 128 + b1.toNat * 64 + b2.toNat * 32 + b3.toNat * 16 + b4.toNat * 8 + b5.toNat * 4 + b6.toNat * 2 + b7.toNat)) 2 = b2 ∧
    bt (UInt8.ofNat (b0.toNat * 128 + b1.toNat * 64 + b2.toNat * 32 + b3.toNat * 16 + b4.toNat * 8 + b5.toNat * 4 + b6.toNat * 2 + b7.toNat)) 3 = b3 ∧ bt (UInt8.ofNat (b0.toNat * 128 + b1.toNat * 64 + b2.toNat * 32 + b3.toNat * 16 + b4.toNat * 8 + b5.toNat * 4 + b6.toNat * 2 + b7.toNat)) 4 = b4 ∧
    bt (UInt8.ofNat (b0.toNat * 128 + b1.toNat * 64 + b2.toNat * 32 + b3.toNat * 16 + b4.toNat * 8 + b5.toNat * 4 + b6.toNat * 2 + b7.toNat)) 5 = b5 ∧ bt (UInt8.ofNat (b0.toNat * 128 + b1.toNat * 64 + b2.toNat * 32 + b3.toNat * 16 + b4.toNat * 8 + b5.toNat * 4 + b6.toNat * 2 + b7.toNat)) 6 = b6 ∧
    bt (UInt8.ofNat (b0.toNat * 128 + b1.toNat * 64 + b2.toNat * 32 + b3.toNat * 16 + b4.toNat * 8 + b5.toNat * 4 + b6.toNat * 2 + b7.toNat)) 7 = b7 := by decide +kernel
theorem bt_mkb {g : Nat → Bool} {t : Nat} (ht : t < 8) : bt (mkb g) t = g t := by
  obtain ⟨h0, h1, h2, h3, h4, h5, h6, h7⟩ := bt_mk' (g 0) (g 1) (g 2) (g 3) (g 4) (g 5) (g 6) (g 7)
  have : t = 0 ∨ t = 1 ∨ t = 2 ∨ t = 3 ∨ t = 4 ∨ t = 5 ∨ t = 6 ∨ t = 7 := by omega
  rcases this with rfl | rfl | rfl | rfl | rfl | rfl | rfl | rfl <;> assumption
theorem mkb_bt : ∀ c : UInt8, mkb (bt c) = c := all8 (by decide +kernel)
theorem byte_ext {c d : UInt8} (h : ∀ t, t < 8 → bt c t = bt d t) : c = d := by
  rw [← mkb_bt c, ← mkb_bt d]
  unfold mkb
  rw [h 0 (by omega), h 1 (by omega), h 2 (by omega), h 3 (by omega), h 4 (by omega), h 5 (by omega), h 6 (by omega), h 7 (by omega)]
theorem mkb_ext {g h : Nat → Bool} (e : ∀ t, t < 8 → g t = h t) : mkb g = mkb h := byte_ext fun t ht => by rw [bt_mkb ht, bt_mkb ht, e t ht]
def bitB (t : Nat) : UInt8 := UInt8.ofNat (2 ^ (7 - t))
theorem bit_shr : ∀ t : Nat, t < 8 → u8 (shrI .u8 128 (t : Int)) = bitB t := by decide +kernel
theorem or_bit : ∀ c : UInt8, ∀ t : Nat, t < 8 → u8 (orI .u8 (n8 c) (n8 (bitB t))) = mkb fun s => bt c s || Nat.beq s t := all8 (by decide +kernel)
theorem add_bit : ∀ c : UInt8, ∀ t : Nat, t < 8 → bt c t = false → u8 (iadd (n8 c) (n8 (bitB t))) = mkb fun s => bt c s || Nat.beq s t := all8 (by decide +kernel)
theorem and_bit : ∀ c : UInt8, ∀ t : Nat, t < 8 → (bnot (beq (n8 (u8 (andI .u8 (n8 c) (n8 (bitB t))))) (n8 (u8 0)))) = bt c t := all8 (by decide +kernel)
theorem bitmap_Place_spec {n : Nat} (h1 : 1 ≤ n) (h2 : n ≤ 128) : bitmap_Place ((n : Int), ()) = some ((((n - 1) / 8 : Nat) : Int), bitB ((n - 1) % 8), ()) := by
  unfold bitmap_Place
  simp (disch := first | assumption | omega | (dsimp only; omega) | decide) only [↓g02, ↓g03, ↓g04, ↓g05, ↓g06, g01, g02, g03, g04, g05, g06, g07, g08, g09, g10, g11, g12, g13, g14, g15, g16, g17, g18, g19, g20, g21, g22, g23, g24, g25, g26, g27, g28, g29, g30, g31, g32, g34, g35, g36, g37, g38, g39, g40, g41, g42, g43, g44, g45, g46, g47, g48, g49, g50, g51, g52, g53, g54, g55, g56, g57, g58, g60, g61, eq_self, not_true_eq_false, not_false_eq_true, List.nil_append, List.append_nil, List.length_nil, and_true, true_and, or_true, true_or, or_false, false_or, and_false, false_and, iff_self, if_true, if_false, lc_rt', lc_ex', lc_nx, g62, g63, Int.toNat_natCast, Int.natCast_add, nth_get, g33, g64, g65, Int.toNat_zero, Bool.false_eq_true, Int.reduceToNat, g66]
  have e1 : ((n : Int) - 1) / 8 = (((n - 1) / 8 : Nat) : Int) := by omega
  have e2 : ((n : Int) - 1) % 8 = (((n - 1) % 8 : Nat) : Int) := by omega
  rw [e1, e2, ← bit_shr _ (by omega)]
theorem ref06_Place_spec {n : Nat} (h1 : 1 ≤ n) (h2 : n ≤ 128) : ref06_Place ((n : Int), ()) = some ((((n - 1) / 8 : Nat) : Int), bitB ((n - 1) % 8), ()) := by
  unfold ref06_Place
  generalize hf : (fun (x_1 : Int × Int × Unit) => _) = f
  have step : ∀ i : Nat, i < (n - 1) % 8 → f (((2 ^ (7 - i) : Nat) : Int), (i : Int), ()) = some (.nx (((2 ^ (7 - (i + 1)) : Nat) : Int), ((i + 1 : Nat) : Int), ())) := fun i hi => by
    subst hf
    have hp : i = 0 ∨ i = 1 ∨ i = 2 ∨ i = 3 ∨ i = 4 ∨ i = 5 ∨ i = 6 := by omega
    rcases hp with rfl | rfl | rfl | rfl | rfl | rfl | rfl <;> (simp (disch := first | assumption | omega | (dsimp only; omega) | decide) only [↓g02, ↓g03, ↓g04, ↓g05, ↓g06, g01, g02, g03, g04, g05, g06, g07, g08, g09, g10, g11, g12, g13, g14, g15, g16, g17, g18, g19, g20, g21, g22, g23, g24, g25, g26, g27, g28, g29, g30, g31, g32, g34, g35, g36, g37, g38, g39, g40, g41, g42, g43, g44, g45, g46, g47, g48, g49, g50, g51, g52, g53, g54, g55, g56, g57, g58, g60, g61, eq_self, not_true_eq_false, not_false_eq_true, List.nil_append, List.append_nil, List.length_nil, and_true, true_and, or_true, true_or, or_false, false_or, and_false, false_and, iff_self, if_true, if_false, lc_rt', lc_ex', lc_nx, g62, g63, Int.toNat_natCast, Int.natCast_add, nth_get, g33, g64, g65, Int.toNat_zero, Bool.false_eq_true, Int.reduceToNat, g66]; rfl)
  have last : f (((2 ^ (7 - (n - 1) % 8) : Nat) : Int), (((n - 1) % 8 : Nat) : Int), ()) = some (.ex 0 (((2 ^ (7 - (n - 1) % 8) : Nat) : Int), (((n - 1) % 8 : Nat) : Int), ())) := by
    subst hf; simp (disch := first | assumption | omega | (dsimp only; omega) | decide) only [↓g02, ↓g03, ↓g04, ↓g05, ↓g06, g01, g02, g03, g04, g05, g06, g07, g08, g09, g10, g11, g12, g13, g14, g15, g16, g17, g18, g19, g20, g21, g22, g23, g24, g25, g26, g27, g28, g29, g30, g31, g32, g34, g35, g36, g37, g38, g39, g40, g41, g42, g43, g44, g45, g46, g47, g48, g49, g50, g51, g52, g53, g54, g55, g56, g57, g58, g60, g61, eq_self, not_true_eq_false, not_false_eq_true, List.nil_append, List.append_nil, List.length_nil, and_true, true_and, or_true, true_or, or_false, false_or, and_false, false_and, iff_self, if_true, if_false, lc_rt', lc_ex', lc_nx, g62, g63, Int.toNat_natCast, Int.natCast_add, nth_get, g33, g64, g65, Int.toNat_zero, Bool.false_eq_true, Int.reduceToNat, g66]
  have e := loop_count (f := f) (fun i => (((2 ^ (7 - i) : Nat) : Int), (i : Int), ())) ((n - 1) % 8) step 0 (by omega)
  have e : loop f (128, 0, ()) = _ := e.trans (loop_ex last)
  simp (disch := first | assumption | omega | (dsimp only; omega) | decide) only [↓g02, ↓g03, ↓g04, ↓g05, ↓g06, g01, g02, g03, g04, g05, g06, g07, g08, g09, g10, g11, g12, g13, g14, g15, g16, g17, g18, g19, g20, g21, g22, g23, g24, g25, g26, g27, g28, g29, g30, g31, g32, g34, g35, g36, g37, g38, g39, g40, g41, g42, g43, g44, g45, g46, g47, g48, g49, g50, g51, g52, g53, g54, g55, g56, g57, g58, g60, g61, eq_self, not_true_eq_false, not_false_eq_true, List.nil_append, List.append_nil, List.length_nil, and_true, true_and, or_true, true_or, or_false, false_or, and_false, false_and, iff_self, if_true, if_false, lc_rt', lc_ex', lc_nx, g62, g63, Int.toNat_natCast, Int.natCast_add, nth_get, g33, g64, g65, Int.toNat_zero, Bool.false_eq_true, Int.reduceToNat, g66, e]
  have e1 : ((n : Int) - 1) / 8 = (((n - 1) / 8 : Nat) : Int) := by omega
  rw [e1]; unfold bitB; rw [u8_nat']
def rightL : Int → List Int → Bool
  | _, [] => true
  | last, n :: r => decide (last < n ∧ n ≤ 128 ∧ n ≠ 65) && rightL n r
def rlStep (last n : Int) : LS Int (Bool × Unit) := if last < n ∧ n ≤ 128 ∧ n ≠ 65 then .nx n else .rt (false, ())
theorem foldS_rl {σ : Type} {mk : Int → Nat → σ} {e : Nat} : ∀ (l : List Int) (last : Int) (i : Nat), (rightL last l = true ∧ ∃ y, foldS mk e rlStep last i l = .ex e y) ∨ (rightL last l = false ∧ foldS mk e rlStep last i l = .rt (false, ()))
  | [], last, i => .inl ⟨rfl, _, rfl⟩
  | n :: r, last, i => by
    by_cases h : last < n ∧ n ≤ 128 ∧ n ≠ 65
    · have hs : rlStep last n = .nx n := if_pos h
      have := foldS_rl (mk := mk) (e := e) r n (i + 1)
      simp only [foldS, hs, rightL, decide_eq_true h, Bool.true_and]; exact this
    · have hs : rlStep last n = .rt (false, ()) := if_neg h
      refine .inr ⟨?_, by simp only [foldS, hs]⟩
      simp only [rightL, decide_eq_false h, Bool.false_and]
theorem bitmap_Right_spec (l : List Int) (hl : l.length ≤ 1000000) : bitmap_Right (l, ()) = some (rightL 1 l, ()) := by
  unfold bitmap_Right
  generalize hf : (fun (x_1 : Bool × Int × Int × Unit) => _) = f
  have key := loop_fold (f := f) l (fun last i => (false, last, (i : Int), ())) 0 rlStep (fun _ _ => True) (fun b i h _ => ⟨?_, fun _ _ => trivial⟩) (fun b _ => ?_) 1 trivial
  · refine (lc_eq key).trans ?_
    rcases foldS_rl (mk := fun last i => ((false, last, (i : Int), ()) : Bool × Int × Int × Unit)) (e := 0) l 1 0 with ⟨h1, y, h2⟩ | ⟨h1, h2⟩
    · rw [h1, h2]; simp (disch := first | assumption | omega | (dsimp only; omega) | decide) only [↓g02, ↓g03, ↓g04, ↓g05, ↓g06, g01, g02, g03, g04, g05, g06, g07, g08, g09, g10, g11, g12, g13, g14, g15, g16, g17, g18, g19, g20, g21, g22, g23, g24, g25, g26, g27, g28, g29, g30, g31, g32, g34, g35, g36, g37, g38, g39, g40, g41, g42, g43, g44, g45, g46, g47, g48, g49, g50, g51, g52, g53, g54, g55, g56, g57, g58, g60, g61, eq_self, not_true_eq_false, not_false_eq_true, List.nil_append, List.append_nil, List.length_nil, and_true, true_and, or_true, true_or, or_false, false_or, and_false, false_and, iff_self, if_true, if_false, lc_rt', lc_ex', lc_nx, g62, g63, Int.toNat_natCast, Int.natCast_add, nth_get, g33, g64, g65, Int.toNat_zero, Bool.false_eq_true, Int.reduceToNat, g66]
    · rw [h1, h2]; simp (disch := first | assumption | omega | (dsimp only; omega) | decide) only [↓g02, ↓g03, ↓g04, ↓g05, ↓g06, g01, g02, g03, g04, g05, g06, g07, g08, g09, g10, g11, g12, g13, g14, g15, g16, g17, g18, g19, g20, g21, g22, g23, g24, g25, g26, g27, g28, g29, g30, g31, g32, g34, g35, g36, g37, g38, g39, g40, g41, g42, g43, g44, g45, g46, g47, g48, g49, g50, g51, g52, g53, g54, g55, g56, g57, g58, g60, g61, eq_self, not_true_eq_false, not_false_eq_true, List.nil_append, List.append_nil, List.length_nil, and_true, true_and, or_true, true_or, or_false, false_or, and_false, false_and, iff_self, if_true, if_false, lc_rt', lc_ex', lc_nx, g62, g63, Int.toNat_natCast, Int.natCast_add, nth_get, g33, g64, g65, Int.toNat_zero, Bool.false_eq_true, Int.reduceToNat, g66]
  · subst hf
    by_cases h1 : b < l[i] ∧ l[i] ≤ 128 ∧ l[i] ≠ 65
    · have hs : rlStep b l[i] = .nx l[i] := if_pos h1
      simp (disch := first | assumption | omega | (dsimp only; omega) | decide) only [↓g02, ↓g03, ↓g04, ↓g05, ↓g06, g01, g02, g03, g04, g05, g06, g07, g08, g09, g10, g11, g12, g13, g14, g15, g16, g17, g18, g19, g20, g21, g22, g23, g24, g25, g26, g27, g28, g29, g30, g31, g32, g34, g35, g36, g37, g38, g39, g40, g41, g42, g43, g44, g45, g46, g47, g48, g49, g50, g51, g52, g53, g54, g55, g56, g57, g58, g60, g61, eq_self, not_true_eq_false, not_false_eq_true, List.nil_append, List.append_nil, List.length_nil, and_true, true_and, or_true, true_or, or_false, false_or, and_false, false_and, iff_self, if_true, if_false, lc_rt', lc_ex', lc_nx, g62, g63, Int.toNat_natCast, Int.natCast_add, nth_get, g33, g64, g65, Int.toNat_zero, Bool.false_eq_true, Int.reduceToNat, g66, hs, liftS]
    · have hs : rlStep b l[i] = .rt (false, ()) := if_neg h1
      simp (disch := first | assumption | omega | (dsimp only; omega) | decide) only [↓g02, ↓g03, ↓g04, ↓g05, ↓g06, g01, g02, g03, g04, g05, g06, g07, g08, g09, g10, g11, g12, g13, g14, g15, g16, g17, g18, g19, g20, g21, g22, g23, g24, g25, g26, g27, g28, g29, g30, g31, g32, g34, g35, g36, g37, g38, g39, g40, g41, g42, g43, g44, g45, g46, g47, g48, g49, g50, g51, g52, g53, g54, g55, g56, g57, g58, g60, g61, eq_self, not_true_eq_false, not_false_eq_true, List.nil_append, List.append_nil, List.length_nil, and_true, true_and, or_true, true_or, or_false, false_or, and_false, false_and, iff_self, if_true, if_false, lc_rt', lc_ex', lc_nx, g62, g63, Int.toNat_natCast, Int.natCast_add, nth_get, g33, g64, g65, Int.toNat_zero, Bool.false_eq_true, Int.reduceToNat, g66, hs, liftS]
  · subst hf; simp (disch := first | assumption | omega | (dsimp only; omega) | decide) only [↓g02, ↓g03, ↓g04, ↓g05, ↓g06, g01, g02, g03, g04, g05, g06, g07, g08, g09, g10, g11, g12, g13, g14, g15, g16, g17, g18, g19, g20, g21, g22, g23, g24, g25, g26, g27, g28, g29, g30, g31, g32, g34, g35, g36, g37, g38, g39, g40, g41, g42, g43, g44, g45, g46, g47, g48, g49, g50, g51, g52, g53, g54, g55, g56, g57, g58, g60, g61, eq_self, not_true_eq_false, not_false_eq_true, List.nil_append, List.append_nil, List.length_nil, and_true, true_and, or_true, true_or, or_false, false_or, and_false, false_and, iff_self, if_true, if_false, lc_rt', lc_ex', lc_nx, g62, g63, Int.toNat_natCast, Int.natCast_add, nth_get, g33, g64, g65, Int.toNat_zero, Bool.false_eq_true, Int.reduceToNat, g66]
theorem ref06_Right_spec (l : List Int) (hl : l.length ≤ 1000000) : ref06_Right (l, ()) = some (rightL 1 l, ()) := by
  unfold ref06_Right
  generalize hf : (fun (x_1 : Bool × Int × Unit) => _) = f
  have key := loop_fold (f := f) l (fun (last : Int) i => (false, (i : Int), ())) 0 rlStep (fun b i => (i = 0 ∧ b = 1) ∨ ∃ h : i - 1 < l.length, 0 < i ∧ l[i - 1] = b ∧ 2 ≤ b) (fun b i h hI => ⟨?_, fun b' hb => ?_⟩) (fun b _ => ?_) 1 (.inl ⟨rfl, rfl⟩)
  · refine (lc_eq key).trans ?_
    rcases foldS_rl (mk := fun (last : Int) i => ((false, (i : Int), ()) : Bool × Int × Unit)) (e := 0) l 1 0 with ⟨h1, y, h2⟩ | ⟨h1, h2⟩
    · rw [h1, h2]; simp (disch := first | assumption | omega | (dsimp only; omega) | decide) only [↓g02, ↓g03, ↓g04, ↓g05, ↓g06, g01, g02, g03, g04, g05, g06, g07, g08, g09, g10, g11, g12, g13, g14, g15, g16, g17, g18, g19, g20, g21, g22, g23, g24, g25, g26, g27, g28, g29, g30, g31, g32, g34, g35, g36, g37, g38, g39, g40, g41, g42, g43, g44, g45, g46, g47, g48, g49, g50, g51, g52, g53, g54, g55, g56, g57, g58, g60, g61, eq_self, not_true_eq_false, not_false_eq_true, List.nil_append, List.append_nil, List.length_nil, and_true, true_and, or_true, true_or, or_false, false_or, and_false, false_and, iff_self, if_true, if_false, lc_rt', lc_ex', lc_nx, g62, g63, Int.toNat_natCast, Int.natCast_add, nth_get, g33, g64, g65, Int.toNat_zero, Bool.false_eq_true, Int.reduceToNat, g66]
    · rw [h1, h2]; simp (disch := first | assumption | omega | (dsimp only; omega) | decide) only [↓g02, ↓g03, ↓g04, ↓g05, ↓g06, g01, g02, g03, g04, g05, g06, g07, g08, g09, g10, g11, g12, g13, g14, g15, g16, g17, g18, g19, g20, g21, g22, g23, g24, g25, g26, g27, g28, g29, g30, g31, g32, g34, g35, g36, g37, g38, g39, g40, g41, g42, g43, g44, g45, g46, g47, g48, g49, g50, g51, g52, g53, g54, g55, g56, g57, g58, g60, g61, eq_self, not_true_eq_false, not_false_eq_true, List.nil_append, List.append_nil, List.length_nil, and_true, true_and, or_true, true_or, or_false, false_or, and_false, false_and, iff_self, if_true, if_false, lc_rt', lc_ex', lc_nx, g62, g63, Int.toNat_natCast, Int.natCast_add, nth_get, g33, g64, g65, Int.toNat_zero, Bool.false_eq_true, Int.reduceToNat, g66]
  · subst hf
    rcases hI with ⟨rfl, rfl⟩ | ⟨h', h0, hb, h2⟩
    · by_cases h1 : 1 < l[0] ∧ l[0] ≤ 128 ∧ l[0] ≠ 65
      · have hs : rlStep 1 l[0] = .nx l[0] := if_pos h1
        simp (disch := first | assumption | omega | (dsimp only; omega) | decide) only [↓g02, ↓g03, ↓g04, ↓g05, ↓g06, g01, g02, g03, g04, g05, g06, g07, g08, g09, g10, g11, g12, g13, g14, g15, g16, g17, g18, g19, g20, g21, g22, g23, g24, g25, g26, g27, g28, g29, g30, g31, g32, g34, g35, g36, g37, g38, g39, g40, g41, g42, g43, g44, g45, g46, g47, g48, g49, g50, g51, g52, g53, g54, g55, g56, g57, g58, g60, g61, eq_self, not_true_eq_false, not_false_eq_true, List.nil_append, List.append_nil, List.length_nil, and_true, true_and, or_true, true_or, or_false, false_or, and_false, false_and, iff_self, if_true, if_false, lc_rt', lc_ex', lc_nx, g62, g63, Int.toNat_natCast, Int.natCast_add, nth_get, g33, g64, g65, Int.toNat_zero, Bool.false_eq_true, Int.reduceToNat, g66, hs, liftS]
      · have hs : rlStep 1 l[0] = .rt (false, ()) := if_neg h1
        simp (disch := first | assumption | omega | (dsimp only; omega) | decide) only [↓g02, ↓g03, ↓g04, ↓g05, ↓g06, g01, g02, g03, g04, g05, g06, g07, g08, g09, g10, g11, g12, g13, g14, g15, g16, g17, g18, g19, g20, g21, g22, g23, g24, g25, g26, g27, g28, g29, g30, g31, g32, g34, g35, g36, g37, g38, g39, g40, g41, g42, g43, g44, g45, g46, g47, g48, g49, g50, g51, g52, g53, g54, g55, g56, g57, g58, g60, g61, eq_self, not_true_eq_false, not_false_eq_true, List.nil_append, List.append_nil, List.length_nil, and_true, true_and, or_true, true_or, or_false, false_or, and_false, false_and, iff_self, if_true, if_false, lc_rt', lc_ex', lc_nx, g62, g63, Int.toNat_natCast, Int.natCast_add, nth_get, g33, g64, g65, Int.toNat_zero, Bool.false_eq_true, Int.reduceToNat, g66, hs, liftS]
    · have hq : ((i : Int) - 1).toNat = i - 1 := by omega
      by_cases h1 : b < l[i] ∧ l[i] ≤ 128 ∧ l[i] ≠ 65
      · have hs : rlStep b l[i] = .nx l[i] := if_pos h1
        simp (disch := first | assumption | omega | (dsimp only; omega) | decide) only [↓g02, ↓g03, ↓g04, ↓g05, ↓g06, g01, g02, g03, g04, g05, g06, g07, g08, g09, g10, g11, g12, g13, g14, g15, g16, g17, g18, g19, g20, g21, g22, g23, g24, g25, g26, g27, g28, g29, g30, g31, g32, g34, g35, g36, g37, g38, g39, g40, g41, g42, g43, g44, g45, g46, g47, g48, g49, g50, g51, g52, g53, g54, g55, g56, g57, g58, g60, g61, eq_self, not_true_eq_false, not_false_eq_true, List.nil_append, List.append_nil, List.length_nil, and_true, true_and, or_true, true_or, or_false, false_or, and_false, false_and, iff_self, if_true, if_false, lc_rt', lc_ex', lc_nx, g62, g63, Int.toNat_natCast, Int.natCast_add, nth_get, g33, g64, g65, Int.toNat_zero, Bool.false_eq_true, Int.reduceToNat, g66, hs, liftS, hq]
      · have hs : rlStep b l[i] = .rt (false, ()) := if_neg h1
        simp (disch := first | assumption | omega | (dsimp only; omega) | decide) only [↓g02, ↓g03, ↓g04, ↓g05, ↓g06, g01, g02, g03, g04, g05, g06, g07, g08, g09, g10, g11, g12, g13, g14, g15, g16, g17, g18, g19, g20, g21, g22, g23, g24, g25, g26, g27, g28, g29, g30, g31, g32, g34, g35, g36, g37, g38, g39, g40, g41, g42, g43, g44, g45, g46, g47, g48, g49, g50, g51, g52, g53, g54, g55, g56, g57, g58, g60, g61, eq_self, not_true_eq_false, not_false_eq_true, List.nil_append, List.append_nil, List.length_nil, and_true, true_and, or_true, true_or, or_false, false_or, and_false, false_and, iff_self, if_true, if_false, lc_rt', lc_ex', lc_nx, g62, g63, Int.toNat_natCast, Int.natCast_add, nth_get, g33, g64, g65, Int.toNat_zero, Bool.false_eq_true, Int.reduceToNat, g66, hs, liftS, hq]
  · right
    have hb1 : b' = l[i] ∧ b < l[i] := by
      unfold rlStep at hb
      split at hb
      · rename_i hc; cases hb; exact ⟨rfl, hc.1⟩
      · cases hb
    refine ⟨by simpa using h, by omega, ?_, ?_⟩
    · simp only [Nat.add_sub_cancel]; exact hb1.1.symm
    · rcases hI with ⟨_, rfl⟩ | ⟨_, _, _, h2⟩ <;> omega
  · subst hf; simp (disch := first | assumption | omega | (dsimp only; omega) | decide) only [↓g02, ↓g03, ↓g04, ↓g05, ↓g06, g01, g02, g03, g04, g05, g06, g07, g08, g09, g10, g11, g12, g13, g14, g15, g16, g17, g18, g19, g20, g21, g22, g23, g24, g25, g26, g27, g28, g29, g30, g31, g32, g34, g35, g36, g37, g38, g39, g40, g41, g42, g43, g44, g45, g46, g47, g48, g49, g50, g51, g52, g53, g54, g55, g56, g57, g58, g60, g61, eq_self, not_true_eq_false, not_false_eq_true, List.nil_append, List.append_nil, List.length_nil, and_true, true_and, or_true, true_or, or_false, false_or, and_false, false_and, iff_self, if_true, if_false, lc_rt', lc_ex', lc_nx, g62, g63, Int.toNat_natCast, Int.natCast_add, nth_get, g33, g64, g65, Int.toNat_zero, Bool.false_eq_true, Int.reduceToNat, g66]
def rowB (size : Nat) (S : Nat → Bool) : List UInt8 := (List.range size).map fun j => mkb fun t => S (8 * j + t + 1)
theorem rowB_length {size : Nat} {S : Nat → Bool} : (rowB size S).length = size := by simp [rowB]
theorem rowB_get {size : Nat} {S : Nat → Bool} {j : Nat} (h : j < size) : nth (rowB size S) j (u8 0) = mkb fun t => S (8 * j + t + 1) := by
  rw [nth_get (by rw [rowB_length]; exact h)]; simp [rowB]
theorem hasB_rowB {size : Nat} {S : Nat → Bool} {n : Nat} (h1 : 1 ≤ n) (h2 : n ≤ 8 * size) : hasB (rowB size S) n = S n := by
  unfold hasB
  rw [rowB_get (by omega), bt_mkb (by omega)]
  congr 1; omega
theorem row_ext {a b : List UInt8} (hl : a.length = b.length) (h : ∀ n, 1 ≤ n → n ≤ 8 * a.length → hasB a n = hasB b n) : a = b := by
  refine List.ext_getElem hl fun j h1 h2 => byte_ext fun t ht => ?_
  have := h (8 * j + t + 1) (by omega) (by omega)
  unfold hasB at this
  rw [show (8 * j + t + 1 - 1) / 8 = j by omega, show (8 * j + t + 1 - 1) % 8 = t by omega, nth_get h1, nth_get h2] at this
  exact this
theorem rowB_ext {size : Nat} {S S' : Nat → Bool} (h : ∀ n, 1 ≤ n → n ≤ 8 * size → S n = S' n) : rowB size S = rowB size S' := row_ext (by rw [rowB_length, rowB_length]) fun n h1 h2 => by
  rw [rowB_length] at h2; rw [hasB_rowB h1 h2, hasB_rowB h1 h2, h n h1 h2]
theorem rep_row (size : Nat) : rep size (u8 0) = rowB size fun _ => false := by
  refine List.ext_getElem (by simp [rep, rowB]) fun j h1 h2 => ?_
  simp only [rep, List.getElem_replicate, rowB, List.getElem_map]
  decide
def setS (S : Nat → Bool) (n : Nat) : Nat → Bool := fun m => S m || Nat.beq m n
theorem set_row {size : Nat} {S : Nat → Bool} {n : Nat} (h1 : 1 ≤ n) (h2 : n ≤ 8 * size) {c : UInt8} (hc : c = mkb fun s => bt (nth (rowB size S) ((n - 1) / 8) (u8 0)) s || Nat.beq s ((n - 1) % 8)) : upd (rowB size S) ((n - 1) / 8) c = rowB size (setS S n) := by
  refine List.ext_getElem (by simp [upd, rowB]) fun j h3 h4 => ?_
  rw [rowB_length] at h4
  have hg := rowB_get (S := S) (show (n - 1) / 8 < size by omega)
  simp only [upd, List.getElem_set]
  split
  · rename_i hj
    subst hj
    rw [hc, hg]
    simp only [rowB, List.getElem_map, List.getElem_range]
    refine mkb_ext fun t ht => ?_
    rw [bt_mkb ht]; unfold setS
    congr 1
    refine Bool.eq_iff_iff.2 ?_
    simp only [Nat.beq_eq]
    omega
  · rename_i hj
    simp only [rowB, List.getElem_map, List.getElem_range]
    refine mkb_ext fun t ht => ?_
    unfold setS
    have : Nat.beq (8 * j + t + 1) n = false := by
      refine (Bool.not_eq_true _).mp fun hb => hj ?_
      have := Nat.eq_of_beq_eq_true hb
      omega
    rw [this, Bool.or_false]
def wideL (l : List Int) : Bool := decide (0 < l.length) && decide (64 < nth l (l.length - 1) 0)
def memI (l : List Int) (n : Nat) : Bool := decide ((n : Int) ∈ l)
def bmW (l : List Int) : List UInt8 := if wideL l = true then rowB 16 (memI (1 :: l)) else rowB 8 (memI l)
theorem rightL_mem {l : List Int} : ∀ {last : Int}, rightL last l = true → ∀ n ∈ l, last < n ∧ n ≤ 128 ∧ n ≠ 65 := by
  induction l with
  | nil => intro _ _ n hn; cases hn
  | cons x r ih =>
    intro last h n hn
    simp only [rightL, Bool.and_eq_true, decide_eq_true_eq] at h
    rcases List.mem_cons.1 hn with rfl | hn
    · exact h.1
    · have := ih h.2 n hn
      exact ⟨by omega, this.2⟩
theorem rightL_last {l : List Int} : ∀ {last : Int}, rightL last l = true → ∀ n ∈ l, n ≤ nth l (l.length - 1) 0 := by
  induction l with
  | nil => intro _ _ n hn; cases hn
  | cons x r ih =>
    intro last h n hn
    simp only [rightL, Bool.and_eq_true, decide_eq_true_eq] at h
    cases r with
    | nil => simp at hn; subst hn; simp [nth]
    | cons y r =>
      have hr := ih h.2
      have hl : nth (x :: y :: r) ((x :: y :: r).length - 1) 0 = nth (y :: r) ((y :: r).length - 1) 0 := by simp [nth]
      rw [hl]
      rcases List.mem_cons.1 hn with rfl | hn
      · have h1 := (rightL_mem h.2 y (by simp)).1
        have := hr y (by simp)
        omega
      · exact hr n hn
theorem not_wide {l : List Int} (h : rightL 1 l = true) (hw : ¬ wideL l = true) : ∀ n ∈ l, n ≤ 64 := fun n hn => by
  have := rightL_last h n hn
  unfold wideL at hw
  have h0 : 0 < l.length := List.length_pos_of_mem hn
  simp only [Bool.and_eq_true, decide_eq_true_eq, not_and, Int.not_lt] at hw
  have := hw h0
  omega
theorem foldS_all {α β σ ρ : Type} {mk : β → Nat → σ} {e : Nat} {step : β → α → LS β ρ} {g : β → α → β} (h : ∀ b x, step b x = .nx (g b x)) : ∀ (l : List α) (b : β) (i : Nat), foldS mk e step b i l = .ex e (mk (l.foldl g b) (i + l.length))
  | [], b, i => rfl
  | x :: r, b, i => by
    simp only [foldS, h, List.foldl_cons, List.length_cons]
    rw [foldS_all h r (g b x) (i + 1)]
    congr 2; omega
theorem bits_loop {f : Int × List UInt8 × Unit → Option (LS (Int × List UInt8 × Unit) (List UInt8 × Int × Unit))} {l : List Int} {size : Nat} {S0 : Nat → Bool}
    (hs : ∀ (S : Nat → Bool) (i : Nat) (h : i < l.length), (∀ m, S m = (S0 m || memI (l.take i) m)) → f ((i : Int), rowB size S, ()) = some (.nx (((i + 1 : Nat) : Int), rowB size (setS S (l[i]).toNat), ())))
    (hr : ∀ n ∈ l, 1 ≤ n) (he : ∀ x, f ((l.length : Int), x, ()) = some (.ex 0 ((l.length : Int), x, ()))) : loop f (0, rowB size S0, ()) = some (.ex 0 ((l.length : Int), rowB size (fun m => S0 m || memI l m), ())) := by
  have key : ∀ (k i : Nat), k = l.length - i → i ≤ l.length → loop f ((i : Int), rowB size (fun m => S0 m || memI (l.take i) m), ()) = some (.ex 0 ((l.length : Int), rowB size (fun m => S0 m || memI l m), ())) := by
    intro k
    induction k with
    | zero =>
      intro i hk hi
      have : i = l.length := by omega
      subst this
      rw [List.take_length]
      exact loop_ex (he _)
    | succ k ih =>
      intro i hk hi
      have hlt : i < l.length := by omega
      refine (loop_nx (hs _ i hlt fun m => rfl)).trans ?_
      have hx := hr l[i] (List.getElem_mem hlt)
      have : (setS (fun m => S0 m || memI (l.take i) m) (l[i]).toNat) = fun m => S0 m || memI (l.take (i + 1)) m := by
        funext m
        unfold setS memI
        rw [Bool.or_assoc]
        congr 1
        refine Bool.eq_iff_iff.2 ?_
        rw [List.take_succ_eq_append_getElem hlt]
        simp only [Bool.or_eq_true, decide_eq_true_eq, Nat.beq_eq, List.mem_append, List.mem_singleton]
        refine or_congr Iff.rfl ?_
        omega
      rw [this]
      exact ih (i + 1) (by omega) (by omega)
  have := key l.length 0 (by omega) (by omega)
  simp only [List.take_zero, memI, List.not_mem_nil, decide_false, Bool.or_false] at this
  exact this
end Yp
namespace Yp
open Go Go.Proofs Go.RowKit Go.Shelf
attribute [local go_sem] Oper.semAt_some
theorem below_of_ret {w w' : World} {X : Nat → Prop} {rs : List RTy} {r : denR rs} {vr : Value} (h : RetOK w X w' rs r vr) : Below w.heap.size w w' := by
  obtain ⟨M', h1, h2, h3, h4, h5, _⟩ := h
  exact ⟨h1, h2, h3, h4, h5⟩
theorem place_in {P : Program} {f : Nat} (hP : FOK P f ⟨[.int .i64], [.im (.int .i64), .im (.int .u8)], bitmap_Place⟩) {n : Nat} (h1 : 1 ≤ n) (h2 : n ≤ 128) (m : Nat) (w : World) :
    CallsIn Fence.wide m P f #[.int .i64 (n : Int)] w fun e w' => e = .returned (.tuple #[.int .i64 (((n - 1) / 8 : Nat) : Int), .int .u8 (n8 (bitB ((n - 1) % 8)))]) ∧ Below w.heap.size w w' := by
  refine callsIn_wide.2 ?_
  have := hP.2 w (fun _ => False) ((n : Int), ()) [.int .i64 (n : Int)] (_, _, ()) (fun _ h => h.elim) ⟨[.int .i64 (n : Int)], [], rfl, RepC.int_iff.2 rfl, rfl⟩ (bitmap_Place_spec h1 h2)
  refine this.mono ?_
  rintro e w' ⟨vr, rfl, hr⟩
  refine ⟨?_, below_of_ret hr⟩
  obtain ⟨M', _, _, _, _, _, _, _, vs, hv, rfl⟩ := hr
  obtain ⟨cs, vs1, rfl, hc, cs2, vs2, rfl, hc2, rfl⟩ := hv
  have hc' := RepC.int_iff.1 hc
  have hc2' := RepC.int_iff.1 hc2
  subst hc' hc2'
  rfl
def yl (bs : List UInt8) (k : Nat) : List Nat := (List.range k).filter fun n => Nat.ble 1 n && hasB bs n
theorem yl_succ (bs : List UInt8) (k : Nat) : yl bs (k + 1) = yl bs k ++ if (Nat.ble 1 k && hasB bs k) = true then [k] else [] := by
  unfold yl
  rw [List.range_succ, List.filter_append]
  simp only [List.filter_cons, List.filter_nil]
theorem bits_and : ∀ c : UInt8, ∀ t : Nat, t < 8 → (Go.bits BinOp.and IntKind.u8 (n8 c) (n8 (bitB t)) != 0) = bt c t := all8 (by decide +kernel)
theorem yl_len (bs : List UInt8) (k : Nat) (h : 1 ≤ k) : (yl bs k).length < k := by
  obtain ⟨j, rfl⟩ : ∃ j, k = j + 1 := ⟨k - 1, by omega⟩
  have h0 : yl bs (j + 1) = (((List.range j).map (· + 1)).filter fun n => Nat.ble 1 n && hasB bs n) := by
    unfold yl
    rw [List.range_succ_eq_map, List.filter_cons_of_neg (by simp)]
  rw [h0]
  have := List.length_filter_le (fun n => Nat.ble 1 n && hasB bs n) ((List.range j).map (· + 1))
  simp only [List.length_map, List.length_range] at this
  omega
def keepS (n₀ Bs : Nat) (W W' : World) : Prop := Below n₀ W W' ∧ W'.cell? ⟨Bs, 0, none⟩ = W.cell? ⟨Bs, 0, none⟩
set_option maxRecDepth 100000 in
set_option maxHeartbeats 2000000 in
theorem set1_in (hP : FOK Try.prog 93 ⟨[.int .i64], [.im (.int .i64), .im (.int .u8)], bitmap_Place⟩) (n l Bs n₀ b off cap : Nat) (bs : List UInt8) (hlen : bs.length ≤ 16) (hb : b < n₀) (J Jx : List Nat → World → Prop)
    (hJ : ∀ s W W', J s W → Below W.heap.size W W' → J s W')
    (hY : ∀ (pre : List Nat) (x : Nat) W, J pre W → 1 ≤ x → x ≤ 128 → pre.length < 128 → YieldAt Fence.wide n Try.prog l #[.int .i64 (x : Int)] W fun e W' =>
      (e = .returned (.bool true) ∧ J (pre ++ [x]) W' ∧ keepS n₀ Bs W W') ∨ (e = .returned (.bool false) ∧ Jx (pre ++ [x]) W'))
    (W : World) (hBs : W.cell? ⟨Bs, 0, none⟩ = some (.slice (some ⟨b, off, none⟩) bs.length cap)) (hBn : Bs < W.heap.size) (hn : n₀ ≤ W.heap.size) (hc : ∀ j, (h : j < bs.length) → W.cell? ⟨b, off + j, none⟩ = some (.int .u8 (n8 bs[j]))) (h0 : J [] W) :
    CallsIn Fence.wide (n + 1) Try.prog 118 #[.func (.yield l) #[] #[], .pointer (some ⟨Bs, 0, none⟩)] W fun e W' => (∃ v, e = .returned v) ∧
      (J (yl bs (8 * bs.length + 1)) W' ∨ (∃ k, k ≤ 8 * bs.length + 1 ∧ Jx (yl bs k) W')) := by
  have hw93 : Fence.wide.fn 93 := trivial
  refine callsIn_of_wp Try.func118 rfl trivial ?_ rfl
  simp only [Try.ntmps118, List.size_toArray, List.length_cons, List.length_nil, Nat.reduceAdd, Nat.reduceSub, Array.replicate_succ, Array.replicate_zero, List.push_toArray, List.append_toArray, List.nil_append, List.cons_append]
  gi_wp2
  gi_loopw [3] (fun i wr => ∃ k : Nat, 1 ≤ k ∧ k ≤ 8 * bs.length + 1 ∧ i = .int .i64 k ∧ J (yl bs k) wr ∧ Below n₀ W wr ∧ W.heap.size ≤ wr.heap.size ∧ wr.cell? ⟨Bs, 0, none⟩ = some (.slice (some ⟨b, off, none⟩) bs.length cap))
    (fun i _ => 8 * bs.length + 1 - (intOf i).toNat)
  case atStart => exact ⟨1, Nat.le_refl _, by omega, rfl, by have : yl bs 1 = [] := (by unfold yl; rfl); rw [this]; exact h0, Below.refl _ _, Nat.le_refl _, hBs⟩
  case round =>
    obtain ⟨k, hk1, hk, rfl, hJs, hnx, hsz, hBs'⟩ := hrel
    by_cases hlt : k ≤ 8 * bs.length
    · have hle : (k : Int) ≤ 8 * (bs.length : Int) := by omega
      obtain ⟨p, t, c, hpl, hplt, ht8, hcW, hbit⟩ : ∃ (p t : Nat) (c : UInt8), (∀ w, CallsIn Fence.wide n Try.prog 93 #[.int .i64 (k : Int)] w fun e w' => e = .returned (.tuple #[.int .i64 (p : Int), .int .u8 (n8 (bitB t))]) ∧ Below w.heap.size w w') ∧ p < bs.length ∧ t < 8 ∧ W.cell? ⟨b, off + p, none⟩ = some (.int .u8 (n8 c)) ∧ bt c t = hasB bs k := by
        have hplt : (k - 1) / 8 < bs.length := by omega
        refine ⟨(k - 1) / 8, (k - 1) % 8, bs[(k - 1) / 8], place_in hP hk1 (show k ≤ 128 by omega) n, hplt, by omega, hc _ hplt, ?_⟩
        unfold hasB; rw [nth_get hplt]
      have hplt' : (p : Int) < (bs.length : Int) := by omega
      have hba := bits_and c t ht8
      rw [hbit] at hba
      have hw93' : (Fence.wide).depth.isSome = true → 1 ≤ n := fun h => by cases h
      cases hh : hasB bs k
      · rw [hh] at hba
        have hz : Go.bits BinOp.and IntKind.u8 (n8 c) (n8 (bitB t)) = 0 := by simpa using hba
        have hys : yl bs (k + 1) = yl bs k := by rw [yl_succ, hh, Bool.and_false, if_neg (by simp), List.append_nil]
        clear hbit hba hh
        gi_wp2_with (gi_at_call 93; refine (hpl _).mono ?_; rintro e w1 ⟨rfl, hb1⟩; have hBs1 : w1.cell? ⟨Bs, 0, none⟩ = some (.slice (some ⟨b, off, none⟩) bs.length cap) := (hb1.cell (p := ⟨Bs, 0, none⟩) (Nat.lt_of_lt_of_le hBn hsz)).trans hBs'; have hcx : w1.cell? ⟨b, off + p, none⟩ = some (.int .u8 (n8 c)) := (hb1.cell (p := ⟨b, off + p, none⟩) (Nat.lt_of_lt_of_le hb (Nat.le_trans hn hsz))).trans ((hnx.cell (p := ⟨b, off + p, none⟩) hb).trans hcW))
        refine ⟨fun _ _ => trivial, ?_⟩
        gi_wp2
        refine ⟨⟨k + 1, by omega, by omega, by simp, by rw [hys]; exact hJ _ _ _ hJs hb1, hnx.trans (hb1.mono (Nat.le_trans hn hsz)), Nat.le_trans hsz hb1.size, hBs1⟩, ?_⟩
        simp [intOf]; omega
      · rw [hh] at hba
        have hys : yl bs (k + 1) = yl bs k ++ [k] := by
          have : Nat.ble 1 k = true := Nat.ble_eq_true_of_le hk1
          rw [yl_succ, hh, this]; rfl
        have hyl := yl_len bs k hk1
        have hY' := fun w1 (hj : J (yl bs k) w1) => hY _ k w1 hj hk1 (show k ≤ 128 by omega) (by omega)
        clear hbit hh
        gi_wp2_with (gi_at_call 93; refine (hpl _).mono ?_; rintro e w1 ⟨rfl, hb1⟩; have hBs1 : w1.cell? ⟨Bs, 0, none⟩ = some (.slice (some ⟨b, off, none⟩) bs.length cap) := (hb1.cell (p := ⟨Bs, 0, none⟩) (Nat.lt_of_lt_of_le hBn hsz)).trans hBs'; have hcx : w1.cell? ⟨b, off + p, none⟩ = some (.int .u8 (n8 c)) := (hb1.cell (p := ⟨b, off + p, none⟩) (Nat.lt_of_lt_of_le hb (Nat.le_trans hn hsz))).trans ((hnx.cell (p := ⟨b, off + p, none⟩) hb).trans hcW); obtain ⟨fn, tmps, assign, body, hy, hR⟩ := hY' w1 (hJ _ _ _ hJs hb1))
        refine hR.mono ?_
        rintro e W3 (⟨rfl, hJ3, hk3⟩ | ⟨rfl, hJx3⟩)
        · gi_wp2
          refine ⟨⟨k + 1, by omega, by omega, by simp, by rw [hys]; exact hJ3, (hnx.trans (hb1.mono (Nat.le_trans hn hsz))).trans hk3.1, Nat.le_trans hsz (Nat.le_trans hb1.size hk3.1.size), hk3.2.trans hBs1⟩, ?_⟩
          simp [intOf]; omega
        · gi_wp2
          refine bodyPost_ret (results_none rfl _ _ _) rfl ?_
          exact ⟨⟨_, rfl⟩, .inr ⟨k + 1, by omega, by rw [hys]; exact hJx3⟩⟩
    · have hk' : k = 8 * bs.length + 1 := by omega
      subst hk'
      have hlt' : ¬ ((8 * bs.length + 1 : Nat) : Int) ≤ 8 * (bs.length : Int) := by omega
      gi_wp2
      go_end0
      exact ⟨⟨_, rfl⟩, .inl hJs⟩
end Yp
namespace Yp
open Go Go.Proofs Go.RowKit Go.Shelf
attribute [local go_sem] Oper.semAt_some
abbrev RS : List RTy := [.ow (.int .i64), .im (.int .i64), .im (.int .i64)]
theorem ret_err {w w' : World} {X : Nat → Prop} (hX : ∀ b, X b → b < w.heap.size) (hb : Below w.heap.size w w') (e : Int) : RetOK w X w' RS (([], 0, e, ()) : List Int × Int × Int × Unit) (.tuple #[.slice none 0 0, .int .i64 0, .int .i64 e]) := by
  refine ⟨X, hb.os, hb.tape, hb.output, hb.size, hb.block, fun _ _ => Iff.rfl, fun b h => Nat.lt_of_lt_of_le (hX b h) hb.size, [.slice none 0 0, .int .i64 0, .int .i64 e], ?_, rfl⟩
  exact ⟨_, _, rfl, .inl ⟨rfl, ⟨none, rfl⟩, ⟨[.int .i64 0], _, rfl, RepC.int_iff.2 rfl, ⟨[.int .i64 e], _, rfl, RepC.int_iff.2 rfl, rfl⟩⟩⟩⟩
theorem ret_ok {w w' : World} {X : Nat → Prop} (hX : ∀ b, X b → b < w.heap.size) (hb : Below w.heap.size w w') {v : Value} {l : List Int} (ho : w'.ownsRow w.heap.size 3 1 v l.length (l.map (Value.int .i64))) (n : Int) : RetOK w X w' RS ((l, n, 0, ()) : List Int × Int × Int × Unit) (.tuple #[v, .int .i64 n, .int .i64 0]) := by
  obtain ⟨_, ⟨rfl, h0⟩ | ⟨g, cap, cur, rfl, hg, hh, hc1, hc2, hc3, hc4⟩⟩ := ho
  · have : l = [] := List.length_eq_zero_iff.1 h0
    subst this
    refine ⟨X, hb.os, hb.tape, hb.output, hb.size, hb.block, fun _ _ => Iff.rfl, fun b h => Nat.lt_of_lt_of_le (hX b h) hb.size, [.slice none 0 0, .int .i64 n, .int .i64 0], ?_, rfl⟩
    exact ⟨_, _, rfl, .inl ⟨rfl, ⟨none, rfl⟩, ⟨[.int .i64 n], _, rfl, RepC.int_iff.2 rfl, ⟨[.int .i64 0], _, rfl, RepC.int_iff.2 rfl, rfl⟩⟩⟩⟩
  · have hgl : g < w'.heap.size := (Array.getElem?_eq_some_iff.1 hh).1
    refine ⟨fun b => X b ∨ b = g, hb.os, hb.tape, hb.output, hb.size, hb.block, fun b hbl => ⟨fun h => h.elim id (fun e => by omega), .inl⟩, fun b h => h.elim (fun h => Nat.lt_of_lt_of_le (hX b h) hb.size) (fun e => e ▸ hgl), [.slice (some ⟨g, 0, none⟩) l.length cap, .int .i64 n, .int .i64 0], ?_, rfl⟩
    refine ⟨_, _, rfl, .inr ⟨g, ⟨0, cur, 3, (0, 0), cap, rfl, hc1, hc2, ?_, hh, ⟨?_, ?_⟩, ?_, .inr rfl, fun h => absurd (show g < w.heap.size from h) (Nat.not_lt.2 hg), fun h => h⟩, ⟨[.int .i64 n], _, rfl, RepC.int_iff.2 rfl, ⟨[.int .i64 0], _, rfl, RepC.int_iff.2 rfl, rfl⟩⟩⟩⟩
    · show 0 + cap * 1 ≤ cur.size
      omega
    · show 0 + l.length * 1 ≤ cur.size
      have : l.length ≤ cap := hc1
      omega
    · intro i x hi
      have hi' : l[i]? = some x := hi
      have hlt : i < l.length := (List.getElem?_eq_some_iff.1 hi').1
      refine RepC.int_iff.2 ?_
      show seg cur (0 + i * 1) 1 = [Value.int .i64 x]
      rw [Nat.zero_add, Nat.mul_one]
      have h1 : cur.toList[i]? = some (Value.int .i64 x) := by
        have h2 : (List.take (l.length * 1) cur.toList)[i]? = cur.toList[i]? := List.getElem?_take_of_lt (by omega)
        rw [← h2, hc4, List.getElem?_map, hi']; rfl
      obtain ⟨hlt2, hg2⟩ := List.getElem?_eq_some_iff.1 h1
      unfold seg
      rw [List.drop_eq_getElem_cons hlt2, hg2]; rfl
    · exact .inl rfl
theorem below3 (w : World) (o1 o2 o3 : Obj) : Below w.heap.size w (((w.alloc o1).alloc o2).alloc o3) := (((Below.refl _ w).alloc (Nat.le_refl _) _).alloc (by simp) _).alloc (by simp; omega) _
set_option maxRecDepth 100000 in
set_option maxHeartbeats 2000000 in
theorem readA (a : Option Addr) (n cap : Nat) (at' : Int) (h : at' < 0) (m : Nat) (w : World) (X : Nat → Prop) (hX : ∀ b, X b → b < w.heap.size) :
    CallsIn Fence.wide m Try.prog 69 #[.slice a n cap, .int .i64 at'] w fun e w' => ∃ vr, e = .returned vr ∧ RetOK w X w' RS (([], 0, 1, ()) : List Int × Int × Int × Unit) vr := by
  refine callsIn_of_wp Try.func69 rfl trivial ?_ rfl
  simp only [Try.ntmps69, List.size_toArray, List.length_cons, List.length_nil, Nat.reduceAdd, Nat.reduceSub, Array.replicate_succ, Array.replicate_zero, List.push_toArray, List.append_toArray, List.nil_append, List.cons_append]
  gi_wp2
  exact bodyPost_ret (v := .tuple #[.slice none 0 0, .int .i64 0, .int .i64 1]) (by simp [results, Try.f69, go_sem]) rfl ⟨_, rfl, ret_err hX (below3 _ _ _ _) 1⟩
set_option maxRecDepth 100000 in
set_option maxHeartbeats 2000000 in
theorem readB (a : Option Addr) (n cap : Nat) (at' : Int) (h0 : ¬ at' < 0) (h : (n : Int) < at') (m : Nat) (w : World) (X : Nat → Prop) (hX : ∀ b, X b → b < w.heap.size) :
    CallsIn Fence.wide m Try.prog 69 #[.slice a n cap, .int .i64 at'] w fun e w' => ∃ vr, e = .returned vr ∧ RetOK w X w' RS (([], 0, 1, ()) : List Int × Int × Int × Unit) vr := by
  refine callsIn_of_wp Try.func69 rfl trivial ?_ rfl
  simp only [Try.ntmps69, List.size_toArray, List.length_cons, List.length_nil, Nat.reduceAdd, Nat.reduceSub, Array.replicate_succ, Array.replicate_zero, List.push_toArray, List.append_toArray, List.nil_append, List.cons_append]
  gi_wp2
  exact bodyPost_ret (v := .tuple #[.slice none 0 0, .int .i64 0, .int .i64 1]) (by simp [results, Try.f69, go_sem]) rfl ⟨_, rfl, ret_err hX (below3 _ _ _ _) 1⟩
set_option maxRecDepth 100000 in
set_option maxHeartbeats 2000000 in
theorem readC (a : Option Addr) (n cap : Nat) (A : Nat) (hcap : n ≤ cap) (h : A = n) (m : Nat) (w : World) (X : Nat → Prop) (hX : ∀ b, X b → b < w.heap.size) :
    CallsIn Fence.wide m Try.prog 69 #[.slice a n cap, .int .i64 (A : Int)] w fun e w' => ∃ vr, e = .returned vr ∧ RetOK w X w' RS (([], 0, 3, ()) : List Int × Int × Int × Unit) vr := by
  subst h
  refine callsIn_of_wp Try.func69 rfl trivial ?_ rfl
  simp only [Try.ntmps69, List.size_toArray, List.length_cons, List.length_nil, Nat.reduceAdd, Nat.reduceSub, Array.replicate_succ, Array.replicate_zero, List.push_toArray, List.append_toArray, List.nil_append, List.cons_append]
  gi_wp2
  all_goals exact bodyPost_ret (v := .tuple #[.slice none 0 0, .int .i64 0, .int .i64 3]) (by simp [results, Try.f69, go_sem]) rfl ⟨_, rfl, ret_err hX (below3 _ _ _ _) 3⟩
theorem bits_128 : ∀ c : UInt8, (Go.bits BinOp.and IntKind.u8 (n8 c) 128 != 0) = bt c 0 := all8 (by decide +kernel)
set_option maxRecDepth 100000 in
set_option maxHeartbeats 2000000 in
theorem readD (b off n cap : Nat) (A : Nat) (hcap : n ≤ cap) (hA : A < n) (c0 : UInt8) (m : Nat) (w : World) (hc : w.cell? ⟨b, off + A, none⟩ = some (.int .u8 (n8 c0))) (hs : (bt c0 0 = true ∧ n - A < 16) ∨ (bt c0 0 = false ∧ n - A < 8)) (X : Nat → Prop) (hX : ∀ b, X b → b < w.heap.size) (hb : b < w.heap.size) :
    CallsIn Fence.wide m Try.prog 69 #[.slice (some ⟨b, off, none⟩) n cap, .int .i64 (A : Int)] w fun e w' => ∃ vr, e = .returned vr ∧ RetOK w X w' RS (([], 0, 3, ()) : List Int × Int × Int × Unit) vr := by
  have hn0 : ¬ ((A : Int) < 0) := by omega
  have hn1 : ¬ ((n : Int) < (A : Int)) := by omega
  have hb128 := bits_128 c0
  obtain ⟨N, hN⟩ : ∃ N, n = A + N := ⟨n - A, by omega⟩
  subst hN
  have hc3 : (((w.alloc (.cells #[.slice none 0 0] 81)).alloc (.cells #[.int .i64 0] 3)).alloc (.cells #[.int .i64 0] 28)).cell? ⟨b, off + A, none⟩ = some (.int .u8 (n8 c0)) := ((below3 w _ _ _).cell (p := ⟨b, off + A, none⟩) hb).trans hc
  refine callsIn_of_wp Try.func69 rfl trivial ?_ rfl
  simp only [Try.ntmps69, List.size_toArray, List.length_cons, List.length_nil, Nat.reduceAdd, Nat.reduceSub, Array.replicate_succ, Array.replicate_zero, List.push_toArray, List.append_toArray, List.nil_append, List.cons_append]
  rcases hs with ⟨h1, h2⟩ | ⟨h1, h2⟩
  · rw [h1] at hb128
    clear h1
    have h2' : (N : Int) < 16 := by omega
    gi_wp2
    all_goals exact bodyPost_ret (v := .tuple #[.slice none 0 0, .int .i64 0, .int .i64 3]) (by simp [results, Try.f69, go_sem]) rfl ⟨_, rfl, ret_err hX (below3 _ _ _ _) 3⟩
  · rw [h1] at hb128
    have hz : Go.bits BinOp.and IntKind.u8 (n8 c0) 128 = 0 := by simpa using hb128
    clear h1 hb128
    have h2' : (N : Int) < 8 := by omega
    gi_wp2
    all_goals exact bodyPost_ret (v := .tuple #[.slice none 0 0, .int .i64 0, .int .i64 3]) (by simp [results, Try.f69, go_sem]) rfl ⟨_, rfl, ret_err hX (below3 _ _ _ _) 3⟩
set_option maxRecDepth 100000 in
set_option maxHeartbeats 2000000 in
theorem set_in (m : Nat) (sl : Value) (w : World) (hv : sl.oneCell' = true) : CallsIn Fence.wide m Try.prog 102 #[sl] w fun e w' => e = .returned (.func (.func 118) #[] #[.pointer (some ⟨w.heap.size, 0, none⟩)]) ∧ w' = w.alloc (.cells #[sl] 27) := by
  refine callsIn_of_wp Try.func102 rfl trivial ?_ rfl
  simp only [Try.ntmps102, List.size_toArray, List.length_cons, List.length_nil, Nat.reduceAdd, Nat.reduceSub, Array.replicate_succ, Array.replicate_zero, List.push_toArray, List.append_toArray, List.nil_append, List.cons_append]
  gi_wp2

  go_ret
  exact ⟨rfl, rfl⟩
end Yp
namespace Yp
open Go Go.Proofs Go.RowKit Go.Shelf
attribute [local go_sem] Oper.semAt_some
theorem info3' : (Try.prog.info? 3).map (fun i => (i.zero, i.size, i.bytes)) = some (some (.int .i64 0), 1, 8) := by kernel_rfl
theorem u81 : Try.prog.underlying 81 = some (.slice 3) := by kernel_rfl
def col (pre : List Nat) : List Nat := pre.filter fun n => Nat.ble 2 n
def colV (pre : List Nat) : List Value := (col pre).map fun (n : Nat) => Value.int .i64 (n : Int)
theorem col_miss {pre : List Nat} {x : Nat} (h : ¬ 1 < x) : col (pre ++ [x]) = col pre := by
  have : Nat.ble 2 x = false := Bool.eq_false_iff.2 fun e => h (Nat.le_of_ble_eq_true e)
  unfold col; rw [List.filter_append, List.filter_cons_of_neg (by rw [this]; exact Bool.false_ne_true)]; simp
theorem col_hit {pre : List Nat} {x : Nat} (h : 1 < x) : col (pre ++ [x]) = col pre ++ [x] := by
  have : Nat.ble 2 x = true := Nat.ble_eq_true_of_le h
  unfold col; rw [List.filter_append, List.filter_cons_of_pos this]; simp
structure ResC (s : Nat) (v : Value) (n e : Int) (sl : Value) (W : World) : Prop where
  c0 : Boxed W s 81 v
  c1 : Boxed W (s + 1) 3 (.int .i64 n)
  c2 : Boxed W (s + 1 + 1) 28 (.int .i64 e)
  c5 : Boxed W (s + 1 + 1 + 1 + 1 + 1) 27 sl
theorem boxed_own {B t : Nat} {v : Value} {X Y : World} {row : Option Nat} (hv : Boxed X B t v) (hg : X.grownBy Y row) (hrow : ∀ r, row = some r → ∃ o, X.heap[r]? = some o ∧ o.isCells = false) : Boxed Y B t v :=
  hv.kept hg fun e' => by
    obtain ⟨o, ho, hc⟩ := hrow B e'.symm
    rw [show X.heap[B]? = _ from hv] at ho; cases ho; cases hc
theorem resC_own {β : Type} (s : Nat) (v : Value) (n e : Int) (sl : Value) : Own (fun (_ : β) W => ResC s v n e sl W) := fun _ _ _ _ hs hg hr =>
  ⟨boxed_own hs.c0 hg hr, boxed_own hs.c1 hg hr, boxed_own hs.c2 hg hr, boxed_own hs.c5 hg hr⟩
theorem _root_.Go.Boxed.setOther {W : World} {B C t : Nat} {v : Value} (h : Boxed W B t v) (hne : B ≠ C) (u : Value) : Boxed (W.setCell ⟨C, 0, none⟩ u) B t v := h.kept (grownBy_setCell' W C u) (fun e => hne (by cases e; rfl))
theorem res3 {s : Nat} {v sl : Value} {n e : Int} {W : World} (h : ResC s v n e sl W) (v' : Value) (n' e' : Int) :
    ResC s v' n' e' sl (((W.setCell ⟨s, 0, none⟩ v').setCell ⟨s + 1, 0, none⟩ (.int .i64 n')).setCell ⟨s + 1 + 1, 0, none⟩ (.int .i64 e')) :=
  ⟨((h.c0.set v').setOther (by omega) _).setOther (by omega) _, ((h.c1.setOther (by omega) _).set (.int .i64 n')).setOther (by omega) _,
   ((h.c2.setOther (by omega) _).setOther (by omega) _).set (.int .i64 e'), ((h.c5.setOther (by omega) _).setOther (by omega) _).setOther (by omega) _⟩
theorem keep3 (s : Nat) (v' : Value) (n' e' : Int) (W : World) : Below s W (((W.setCell ⟨s, 0, none⟩ v').setCell ⟨s + 1, 0, none⟩ (.int .i64 n')).setCell ⟨s + 1 + 1, 0, none⟩ (.int .i64 e')) :=
  (((Below.refl s W).setCell (p := ⟨s, 0, none⟩) (Nat.le_refl _) v').setCell (p := ⟨s + 1, 0, none⟩) (by simp) _).setCell (p := ⟨s + 1 + 1, 0, none⟩) (by simp; omega) _
theorem others3 (s : Nat) (v' : Value) (n' e' : Int) (W : World) : KeepsOthers W (((W.setCell ⟨s, 0, none⟩ v').setCell ⟨s + 1, 0, none⟩ (.int .i64 n')).setCell ⟨s + 1 + 1, 0, none⟩ (.int .i64 e')) :=
  ((KeepsOthers.setCell _ _ _).trans (KeepsOthers.setCell _ _ _)).trans (KeepsOthers.setCell _ _ _)
theorem resC_below {s : Nat} {v sl : Value} {n e : Int} {W W' : World} (h : ResC s v n e sl W) (hb : Below (s + 1 + 1 + 1) W W') (h5 : Boxed W' (s + 1 + 1 + 1 + 1 + 1) 27 sl) : ResC s v n e sl W' :=
  ⟨(hb.block _ (by omega)).trans h.c0, (hb.block _ (by omega)).trans h.c1, (hb.block _ (by omega)).trans h.c2, h5⟩
theorem ResC.put {s : Nat} {v sl : Value} {n e : Int} {W : World} (h : ResC s v n e sl W) {D : Nat} {o : Obj} (o' : Obj) (hD : W.heap[D]? = some o) (ho : o.isCells = false) : ResC s v n e sl (W.putObj D o') :=
  resC_own (β := Unit) s v n e sl () W _ (some D) h (grownBy_putObj' W D o') (fun r e => by cases e; exact ⟨o, hD, ho⟩)
theorem row3 {s : Nat} {W : World} {v : Value} {L : Nat} {xs : List Value} (h : W.ownsRow (s + 1 + 1 + 1) 3 1 v L xs) (v' : Value) (n' e' : Int) {D : Nat} {o : Obj} (o' : Obj) (hD : W.heap[D]? = some o) (ho : o.isCells = false) :
    World.ownsRow ((((W.setCell ⟨s, 0, none⟩ v').setCell ⟨s + 1, 0, none⟩ (.int .i64 n')).setCell ⟨s + 1 + 1, 0, none⟩ (.int .i64 e')).putObj D o') s 3 1 v L xs := by
  rcases h.2 with ⟨rfl, h0⟩ | ⟨g, cap, cur, rfl, hg, hh, hk⟩
  · exact ⟨h.1, .inl ⟨rfl, h0⟩⟩
  · have hgD : g ≠ D := by
      rintro rfl
      rw [hh] at hD; cases hD; cases ho
    have h' : W.ownsRow s 3 1 (.slice (some ⟨g, 0, none⟩) L cap) L xs := ⟨h.1, .inr ⟨g, cap, cur, rfl, by omega, hh, hk⟩⟩
    have ne : ∀ k, g ≠ k → (Value.slice (some ⟨g, 0, none⟩) L cap).ownBlock = none ∨ (Value.slice (some ⟨g, 0, none⟩) L cap).ownBlock ≠ some k := fun k hk => .inr fun e => hk (by simpa [Value.ownBlock] using e)
    exact (((h'.kept (grownBy_setCell' W s v') (ne _ (by omega))).kept (grownBy_setCell' _ (s + 1) _) (ne _ (by omega))).kept (grownBy_setCell' _ (s + 1 + 1) _) (ne _ (by omega))).kept (grownBy_putObj' _ D o') (ne _ hgD)
theorem col_nums (bs : List UInt8) : col (yl bs (8 * bs.length + 1)) = numsB bs := by
  unfold col yl numsB
  rw [List.filter_filter]
  refine List.filter_congr fun n _ => ?_
  cases h : Nat.ble 2 n
  · simp
  · have : Nat.ble 1 n = true := Nat.ble_eq_true_of_le (by have := Nat.le_of_ble_eq_true h; omega)
    rw [this]; simp
theorem yl65 {bs : List UInt8} {k : Nat} (hk : k ≤ 8 * bs.length + 1) (h : 65 ∈ yl bs k) : 65 ∈ numsB bs ∧ 8 < bs.length := by
  unfold yl at h
  rw [List.mem_filter, List.mem_range] at h
  unfold numsB
  rw [List.mem_filter, List.mem_range]
  refine ⟨⟨by omega, ?_⟩, by omega⟩
  have h2 := h.2
  rw [Bool.and_eq_true] at h2 ⊢
  exact ⟨rfl, h2.2⟩
theorem nums65 {bs : List UInt8} (h : 65 ∈ numsB bs) : 65 ∈ yl bs (8 * bs.length + 1) := by
  unfold numsB at h
  rw [List.mem_filter, List.mem_range] at h
  unfold yl
  rw [List.mem_filter, List.mem_range]
  refine ⟨h.1, ?_⟩
  have h2 := h.2
  rw [Bool.and_eq_true] at h2 ⊢
  exact ⟨rfl, h2.2⟩
theorem nums_last {bs : List UInt8} {L z : Nat} (hL : (numsB bs).length = L + 1) (hz : (numsB bs)[L]? = some z) : ∀ n ∈ numsB bs, n ≤ z := by
  intro n hn
  have hp : (numsB bs).Pairwise (· < ·) := List.Pairwise.filter _ List.pairwise_lt_range
  obtain ⟨i, hi, rfl⟩ := List.getElem_of_mem hn
  obtain ⟨hl, rfl⟩ := List.getElem?_eq_some_iff.1 hz
  by_cases h : i = L
  · subst h; exact Nat.le_refl _
  · exact Nat.le_of_lt (List.pairwise_iff_getElem.1 hp i L hi hl (by omega))
structure Wrap (p : Prop) : Prop where
  out : p
set_option maxRecDepth 100000 in
set_option maxHeartbeats 4000000 in
theorem readE (hP : FOK Try.prog 93 ⟨[.int .i64], [.im (.int .i64), .im (.int .u8)], bitmap_Place⟩) (b off n cap : Nat) (A S : Nat) (hcap : n ≤ cap) (hA : A + S ≤ n) (hn : n ≤ 9223372036854775807) (bs : List UInt8) (hS : S = 8 ∨ S = 16) (hbs : bs.length = S) (c0 : UInt8) (m : Nat) (w : World)
    (hc : ∀ j, (h : j < bs.length) → w.cell? ⟨b, off + A + j, none⟩ = some (.int .u8 (n8 bs[j]))) (hc0 : w.cell? ⟨b, off + A, none⟩ = some (.int .u8 (n8 c0))) (hw : bt c0 0 = true ↔ S = 16) (X : Nat → Prop) (hX : ∀ b, X b → b < w.heap.size) (hb : b < w.heap.size) (R : List Int × Int × Int × Unit) (hR : Wrap (R = (if S = 16 ∧ (65 ∈ numsB bs ∨ ∀ n ∈ numsB bs, n < 65) then (([], 0, 2, ()) : List Int × Int × Int × Unit) else (((numsB bs).map Int.ofNat, (A : Int) + (S : Int), (0 : Int), ()) : List Int × Int × Int × Unit)))) :
    CallsIn Fence.wide (m + 3) Try.prog 69 #[.slice (some ⟨b, off, none⟩) n cap, .int .i64 (A : Int)] w fun e w' => ∃ vr, e = .returned vr ∧ RetOK w X w' RS R vr := by
  obtain ⟨i0, hi, hz0, hz1, hz2⟩ := info_parts info3'
  have hn0 : ¬ ((A : Int) < 0) := by omega
  have hn1 : ¬ ((n : Int) < (A : Int)) := by omega
  have hb128 := bits_128 c0
  obtain ⟨N, hN⟩ : ∃ N, n = A + N := ⟨n - A, by omega⟩
  subst hN
  have hc3 : (((w.alloc (.cells #[.slice none 0 0] 81)).alloc (.cells #[.int .i64 0] 3)).alloc (.cells #[.int .i64 0] 28)).cell? ⟨b, off + A, none⟩ = some (.int .u8 (n8 c0)) := ((below3 w _ _ _).cell (p := ⟨b, off + A, none⟩) hb).trans hc0
  have hw102 : Fence.wide.fn 102 := trivial
  refine callsIn_of_wp_marks Try.func69 rfl trivial ?_ rfl
  simp only [Try.ntmps69, List.size_toArray, List.length_cons, List.length_nil, Nat.reduceAdd, Nat.reduceSub, Array.replicate_succ, Array.replicate_zero, List.push_toArray, List.append_toArray, List.nil_append, List.cons_append]
  rcases hS with rfl | rfl
  · have h1 : bt c0 0 = false := Bool.eq_false_iff.2 fun h => by have := hw.1 h; omega
    rw [h1] at hb128
    have hz : Go.bits BinOp.and IntKind.u8 (n8 c0) 128 = 0 := by simpa using hb128
    clear h1 hb128
    have h2' : ¬ (N : Int) < 8 := by omega
    have h2'' : ¬ N < 8 := by omega
    gi_wp2_with (gi_at_call 102; refine (set_in _ _ _ rfl).mono ?_; rintro e w' ⟨rfl, rfl⟩)
    have bL := Boxed.new ((((w.alloc (.cells #[.slice none 0 0] 81)).alloc (.cells #[.int .i64 0] 3)).alloc (.cells #[.int .i64 0] 28)).alloc (.cells #[] 3)) 81 (.slice (some ⟨w.heap.size + 1 + 1 + 1, 0, none⟩) 0 0)
    have bS := Boxed.new (((((w.alloc (.cells #[.slice none 0 0] 81)).alloc (.cells #[.int .i64 0] 3)).alloc (.cells #[.int .i64 0] 28)).alloc (.cells #[] 3)).alloc (.cells #[.slice (some ⟨w.heap.size + 1 + 1 + 1, 0, none⟩) 0 0] 81)) 27 (.slice (some ⟨b, off + A, none⟩) 8 (cap - A))
    have b0 := Boxed.new w 81 (.slice none 0 0)
    have b1 := Boxed.new (w.alloc (.cells #[.slice none 0 0] 81)) 3 (.int .i64 0)
    have b2 := Boxed.new ((w.alloc (.cells #[.slice none 0 0] 81)).alloc (.cells #[.int .i64 0] 3)) 28 (.int .i64 0)
    have hrow0 := World.ownsRow_made (base := w.heap.size + 1 + 1 + 1) (e := 3) (size := 1) (((w.alloc (.cells #[.slice none 0 0] 81)).alloc (.cells #[.int .i64 0] 3)).alloc (.cells #[.int .i64 0] 28)) #[] 0 (by simp) (by unfold maxLen; omega) rfl
    simp only [World.size_alloc] at bL bS b1 b2 hrow0
    have hB6 : Below w.heap.size w ((((((w.alloc (.cells #[.slice none 0 0] 81)).alloc (.cells #[.int .i64 0] 3)).alloc (.cells #[.int .i64 0] 28)).alloc (.cells #[] 3)).alloc (.cells #[.slice (some ⟨w.heap.size + 1 + 1 + 1, 0, none⟩) 0 0] 81)).alloc (.cells #[.slice (some ⟨b, off + A, none⟩) 8 (cap - A)] 27)) :=
      (((below3 w _ _ _).alloc (by simp; omega) _).alloc (by simp; omega) _).alloc (by simp; omega) _
    refine wpIn_rangeFunc_ownG rfl (by omega) (gf := 118) (lb := #[.pointer (some ⟨w.heap.size + 1 + 1 + 1 + 1 + 1, 0, none⟩)]) rfl trivial (enters_of Try.func118 (by kernel_rfl) rfl)
      (encs := fun x : Nat => #[.int .i64 (x : Int)]) (Kp := keepS w.heap.size (w.heap.size + 1 + 1 + 1 + 1 + 1)) (S := fun ys => ys = yl bs (8 * bs.length + 1)) (Sp := fun pre => ∃ k, k ≤ 8 * bs.length + 1 ∧ pre = yl bs k) (N := 128)
      ?seq ?kt ?kb (Below.refl _ _) (fun _ => rfl)
      (fun pre W => ((∃ v, Boxed W (w.heap.size + 1 + 1 + 1 + 1) 81 v ∧ W.ownsRow (w.heap.size + 1 + 1 + 1) 3 1 v (col pre).length (colV pre) ∧ ¬ 65 ∈ pre) ∧ ResC w.heap.size (.slice none 0 0) 0 0 (.slice (some ⟨b, off + A, none⟩) 8 (cap - A)) W) ∧ Below w.heap.size w W)
      (fun c pre W => ((c = .ret ∧ 65 ∈ pre) ∧ ResC w.heap.size (.slice none 0 0) 0 2 (.slice (some ⟨b, off + A, none⟩) 8 (cap - A)) W) ∧ Below w.heap.size w W)
      (OwnFrom.and (OwnFrom.and (Own.from (holdsRow_own (w.heap.size + 1 + 1 + 1) _ 81 3 1 (fun pre => (col pre).length) colV (fun pre v => ¬ 65 ∈ pre)) _) (Own.from (resC_own w.heap.size (.slice none 0 0) 0 0 (.slice (some ⟨b, off + A, none⟩) 8 (cap - A))) _)) (ownFrom_below (Nat.le_refl _) (by simp; omega)))
      (fun c => OwnFrom.and (OwnFrom.and (ownFrom_pure _ _) (Own.from (resC_own w.heap.size (.slice none 0 0) 0 2 (.slice (some ⟨b, off + A, none⟩) 8 (cap - A))) _)) (ownFrom_below (Nat.le_refl _) (by simp; omega)))
      ?start
      (fun x => { tmps := #[Value.slice (some { block := b, off := off + A }) N (cap - A), Value.int IntKind.i64 (A : Int), undef, undef,
          Value.pointer (some { block := w.heap.size, off := 0 }),
          Value.pointer (some { block := w.heap.size + 1, off := 0 }),
          Value.pointer (some { block := w.heap.size + 1 + 1, off := 0 }), Value.int IntKind.i64 8,
          Value.pointer (some { block := w.heap.size + 1 + 1 + 1 + 1, off := 0 }), Value.int IntKind.i64 (x : Int), Value.int IntKind.i64 (A : Int),
          Value.bool false, Value.bool false, Value.int IntKind.i64 (A : Int),
          Value.slice (some { block := b, off := off }) (A + N) cap, Value.int IntKind.i64 ((A : Int) + (N : Int)),
          Value.bool (decide ((A : Int) + (N : Int) < (A : Int))), Value.bool (decide ((A : Int) + (N : Int) < (A : Int))),
          Value.slice (some { block := b, off := off }) (A + N) cap, Value.int IntKind.i64 (A : Int),
          Value.slice (some { block := b, off := off + A }) N (cap - A),
          Value.slice (some { block := b, off := off + A }) N (cap - A), Value.int IntKind.i64 (N : Int), Value.bool true,
          Value.bool true, Value.slice (some { block := b, off := off + A }) N (cap - A),
          Value.pointer (some { block := b, off := off + A }), Value.int IntKind.u8 (n8 c0),
          Value.int IntKind.u8 0, Value.bool false, Value.bool false,
          Value.slice (some { block := b, off := off + A }) N (cap - A), Value.int IntKind.i64 (N : Int),
          Value.int IntKind.i64 8, Value.bool false,
          Value.slice (some { block := w.heap.size + 1 + 1 + 1, off := 0 }) 0 0,
          Value.slice (some { block := b, off := off + A }) N (cap - A), Value.int IntKind.i64 8,
          Value.slice (some { block := b, off := off + A }) 8 (cap - A),
          Value.func (Fn.func 118) #[] #[Value.pointer (some { block := w.heap.size + 1 + 1 + 1 + 1 + 1, off := 0 })],
          Value.int IntKind.i64 (x : Int), undef, undef, undef, undef, undef, undef, undef, undef, undef, undef, undef, undef, undef, undef,
          undef, undef, undef, undef, undef, undef, undef, undef, undef, undef, undef, undef, undef, undef], defers := [] }) ?assign ?body ?done ?stop
    case seq =>
      intro l J Jx W hW hJ hJx hY h0
      have hsz : w.heap.size + 6 ≤ W.heap.size := by have := hW.size; simp at this; omega
      refine (set1_in hP (m + 1) l (w.heap.size + 1 + 1 + 1 + 1 + 1) w.heap.size b (off + A) (cap - A) bs (by omega) hb J Jx (fun s W1 W2 hs hb => hJ s W1 W2 none hs ⟨hb.os, hb.tape, hb.output, hb.size, fun k hk _ => hb.block k hk⟩ (fun r e => by cases e)) (fun pre x W1 hj _ _ hl => hY pre x W1 hj hl) W ?_ (by omega) (by omega) (fun j h => ?_) h0).mono ?_
      · rw [hbs]; exact (hW.cell (p := ⟨w.heap.size + 1 + 1 + 1 + 1 + 1, 0, none⟩) (by simp)).trans bS.cell
      · exact (hW.cell (p := ⟨b, off + A + j, none⟩) (by simp; omega)).trans ((hB6.cell (p := ⟨b, off + A + j, none⟩) hb).trans (hc j h))
      · rintro e W' ⟨he, h⟩
        exact ⟨he, h.elim (fun h => .inl ⟨_, rfl, h⟩) (fun ⟨k, hk, h⟩ => .inr ⟨_, ⟨k, hk, rfl⟩, h⟩)⟩
    case kt => exact fun h k => ⟨h.1.trans k.1, k.2.trans h.2⟩
    case kb =>
      intro W l o o' hl ho h1 h2
      simp at hl
      exact ⟨belowK_b (w := w) (Nat.le_refl _) W l o o' (by omega) ho h1 h2, World.cell?_of_block (World.putObj_heap_other (by simp; omega))⟩
    case start => exact ⟨⟨⟨_, bL.alloc _, (hrow0.alloc _).alloc _, by simp⟩, ⟨b0.alloc _ |>.alloc _ |>.alloc _ |>.alloc _ |>.alloc _, b1.alloc _ |>.alloc _ |>.alloc _ |>.alloc _, b2.alloc _ |>.alloc _ |>.alloc _, bS⟩⟩, hB6⟩
    case assign =>
      intro l x W K hK
      gi_wp2
      exact hK
    case body =>
      rintro l pre x W ⟨⟨⟨v, hv, hrow, h65⟩, hr⟩, hB⟩ hlt
      have hcL := hv.cell
      have hr1 := hr.c0.cell
      have hr2 := hr.c0.frozen
      have hr3 := hr.c1.cell
      have hr4 := hr.c1.frozen
      have hr5 := hr.c2.cell
      have hr6 := hr.c2.frozen
      have h5lt := hr.c5.lt
      have hpl : (col pre).length ≤ pre.length := List.length_filter_le _ _
      by_cases hx65 : x = 65
      · subst hx65
        gi_wp2
        exact ⟨(others3 _ _ _ _ _).from _, ⟨⟨rfl, by simp⟩, res3 hr _ _ _⟩, hB.trans (keep3 _ _ _ _ _)⟩
      · have hx65' : ¬ (x : Int) = 65 := by omega
        by_cases hx1 : 1 < x
        · have hx1' : (1 : Int) < (x : Int) := by omega
          gi_wp2_with (gi_at_builtin; refine Wrap.out ?_)
          refine ⟨?_⟩
          refine wpListIn_append_own _ rfl _ _ 81 rfl (w.heap.size + 1 + 1 + 1) 3 i0 (.int .i64 0) 1 8 u81 hi hz0 hz1 hz2 rfl (by decide) v (col pre).length (colV pre) rfl (hrow.alloc _) ⟨W.heap.size, 0, none⟩ 1 1 [.int .i64 (x : Int)] rfl rfl ?hcell ?hone ?hb1 ?hb2 ?hb3 ?hrest
          case hcell => exact cell_one_new _ _ _
          case hone => simp [Value.oneCell']
          case hb1 => simp [maxLen]; omega
          case hb2 => omega
          case hb3 => have := hB.size; simp; omega
          case hrest =>
            intro v' w1 hown' hgrow _
            obtain ⟨g', cap', rfl⟩ := ownsRow_succ hown'
            obtain ⟨hv1, hv2, hr2', hk2, hb2⟩ := hv.appended (by decide) hrow (by omega) (by omega) hown' hgrow
            have hS1 : Boxed w1 (w.heap.size + 1 + 1 + 1 + 1 + 1) 27 _ := (hr.c5.alloc (.cells #[Value.int .i64 (x : Int)] 3)).kept hgrow (hr.c5.not_row (by decide) hrow)
            have hc1 := hv1.cell
            have hf1 := hv1.frozen
            gi_wp2
            have hS2 := hS1.setOther (C := w.heap.size + 1 + 1 + 1 + 1) (by omega) (.slice (some ⟨g', 0, none⟩) ((col pre).length + 1) cap')
            have hb2' := hb2.mono (B' := w.heap.size) (by omega)
            refine ⟨hk2.from _, ⟨hb2', hS2.cell.trans hr.c5.cell.symm⟩, ⟨⟨_, hv2, ?_, ?_⟩, resC_below hr hb2 hS2⟩, hB.trans hb2'⟩
            · rw [colV, col_hit hx1]; simpa [colV] using hr2'
            · simpa [h65] using fun e => hx65 e.symm
        · have hx1' : ¬ (1 : Int) < (x : Int) := by omega
          gi_wp2
          refine ⟨KeepsFrom.refl _ _, ⟨Below.refl _ _, rfl⟩, ⟨⟨v, hv, ?_, ?_⟩, hr⟩, hB⟩
          · rw [colV, col_miss hx1]; exact hrow
          · simpa [h65] using fun e => hx65 e.symm
    case done =>
      rintro D ys W hD rfl ⟨⟨⟨v, hv, hrow, h65⟩, hr⟩, hB⟩ hK
      have hcL := hv.cell
      have hr1 := hr.c0.cell
      have hr2 := hr.c0.frozen
      have hr3 := hr.c1.cell
      have hr4 := hr.c1.frozen
      have hr5 := hr.c2.cell
      have hr6 := hr.c2.frozen
      have hK' := fun v n e => (others3 w.heap.size v n e W).same D _ hK rfl
      have hyl := yl_len bs (8 * bs.length + 1) (by omega)
      have hpl : (col (yl bs (8 * bs.length + 1))).length ≤ (yl bs (8 * bs.length + 1)).length := List.length_filter_le _ _
      obtain ⟨C, hC⟩ : ∃ C, Wrap (C = col (yl bs (8 * bs.length + 1))) := ⟨_, ⟨rfl⟩⟩
      unfold colV at hrow
      rw [← hC.out] at hrow hpl
      have hC128 : C.length ≤ 128 := by omega
      have hgood : Wrap (W.ownsRow (w.heap.size + 1 + 1 + 1) 3 1 v C.length (C.map fun (n : Nat) => Value.int .i64 (n : Int))) := ⟨hrow⟩
      clear hrow hpl hyl
      obtain ⟨L, hL⟩ : ∃ L, Wrap (L = C.length) := ⟨_, ⟨rfl⟩⟩
      rw [← hL.out] at hgood hC128
      obtain ⟨a, c, hve⟩ : ∃ a c, v = .slice a L c := by
        rcases hgood.out.2 with ⟨h, h'⟩ | ⟨g, cap', cur, h, _⟩
        · exact ⟨none, 0, by rw [h']; exact h⟩
        · exact ⟨_, _, h⟩
      subst hve
      gi_wp2
      case h_1.isFalse he _ => cases he
      all_goals
        refine ⟨by simp, .inl ⟨_, _, rfl, run_takeDeferred (hK' _ _ _), ?_⟩⟩
        have hz := ((res3 hr (.slice a L c) ((A : Int) + 8) 0).put (.deferred none) (hK' _ _ _) rfl)
        refine ⟨.tuple #[(.slice a L c), .int .i64 ((A : Int) + 8), .int .i64 0], by simp [results, Try.f69, go_sem, hz.c0.cell, hz.c1.cell, hz.c2.cell], _, rfl, ?_⟩
        rw [hR.out, if_neg (fun h => by have := h.1; first | exact this.elim | omega)]
        refine ret_ok hX ((hB.trans (keep3 _ _ _ _ _)).trans (belowK_b (w := w) (Nat.le_refl _) _ D _ _ (by simp at hD; omega) (hK' _ _ _) rfl rfl)) ?_ _
        have hrw := row3 hgood.out (.slice a L c) ((A : Int) + 8) 0 (.deferred none) hK rfl
        rw [← col_nums, ← hC.out, List.length_map, ← hL.out, List.map_map]
        exact hrw
    case stop =>
      rintro D c pre W hD ⟨k, hk, rfl⟩ ⟨⟨⟨rfl, h65⟩, hr⟩, hB⟩ hK
      have := (yl65 hk h65).2
      omega
  · have h1 : bt c0 0 = true := hw.2 rfl
    rw [h1] at hb128
    clear h1
    have h2' : ¬ (N : Int) < 16 := by omega
    have h2'' : ¬ N < 16 := by omega
    gi_wp2_with (gi_at_call 102; refine (set_in _ _ _ rfl).mono ?_; rintro e w' ⟨rfl, rfl⟩)
    have bL := Boxed.new ((((w.alloc (.cells #[.slice none 0 0] 81)).alloc (.cells #[.int .i64 0] 3)).alloc (.cells #[.int .i64 0] 28)).alloc (.cells #[] 3)) 81 (.slice (some ⟨w.heap.size + 1 + 1 + 1, 0, none⟩) 0 0)
    have bS := Boxed.new (((((w.alloc (.cells #[.slice none 0 0] 81)).alloc (.cells #[.int .i64 0] 3)).alloc (.cells #[.int .i64 0] 28)).alloc (.cells #[] 3)).alloc (.cells #[.slice (some ⟨w.heap.size + 1 + 1 + 1, 0, none⟩) 0 0] 81)) 27 (.slice (some ⟨b, off + A, none⟩) 16 (cap - A))
    have b0 := Boxed.new w 81 (.slice none 0 0)
    have b1 := Boxed.new (w.alloc (.cells #[.slice none 0 0] 81)) 3 (.int .i64 0)
    have b2 := Boxed.new ((w.alloc (.cells #[.slice none 0 0] 81)).alloc (.cells #[.int .i64 0] 3)) 28 (.int .i64 0)
    have hrow0 := World.ownsRow_made (base := w.heap.size + 1 + 1 + 1) (e := 3) (size := 1) (((w.alloc (.cells #[.slice none 0 0] 81)).alloc (.cells #[.int .i64 0] 3)).alloc (.cells #[.int .i64 0] 28)) #[] 0 (by simp) (by unfold maxLen; omega) rfl
    simp only [World.size_alloc] at bL bS b1 b2 hrow0
    have hB6 : Below w.heap.size w ((((((w.alloc (.cells #[.slice none 0 0] 81)).alloc (.cells #[.int .i64 0] 3)).alloc (.cells #[.int .i64 0] 28)).alloc (.cells #[] 3)).alloc (.cells #[.slice (some ⟨w.heap.size + 1 + 1 + 1, 0, none⟩) 0 0] 81)).alloc (.cells #[.slice (some ⟨b, off + A, none⟩) 16 (cap - A)] 27)) :=
      (((below3 w _ _ _).alloc (by simp; omega) _).alloc (by simp; omega) _).alloc (by simp; omega) _
    refine wpIn_rangeFunc_ownG rfl (by omega) (gf := 118) (lb := #[.pointer (some ⟨w.heap.size + 1 + 1 + 1 + 1 + 1, 0, none⟩)]) rfl trivial (enters_of Try.func118 (by kernel_rfl) rfl)
      (encs := fun x : Nat => #[.int .i64 (x : Int)]) (Kp := keepS w.heap.size (w.heap.size + 1 + 1 + 1 + 1 + 1)) (S := fun ys => ys = yl bs (8 * bs.length + 1)) (Sp := fun pre => ∃ k, k ≤ 8 * bs.length + 1 ∧ pre = yl bs k) (N := 128)
      ?seq ?kt ?kb (Below.refl _ _) (fun _ => rfl)
      (fun pre W => ((∃ v, Boxed W (w.heap.size + 1 + 1 + 1 + 1) 81 v ∧ W.ownsRow (w.heap.size + 1 + 1 + 1) 3 1 v (col pre).length (colV pre) ∧ ¬ 65 ∈ pre) ∧ ResC w.heap.size (.slice none 0 0) 0 0 (.slice (some ⟨b, off + A, none⟩) 16 (cap - A)) W) ∧ Below w.heap.size w W)
      (fun c pre W => ((c = .ret ∧ 65 ∈ pre) ∧ ResC w.heap.size (.slice none 0 0) 0 2 (.slice (some ⟨b, off + A, none⟩) 16 (cap - A)) W) ∧ Below w.heap.size w W)
      (OwnFrom.and (OwnFrom.and (Own.from (holdsRow_own (w.heap.size + 1 + 1 + 1) _ 81 3 1 (fun pre => (col pre).length) colV (fun pre v => ¬ 65 ∈ pre)) _) (Own.from (resC_own w.heap.size (.slice none 0 0) 0 0 (.slice (some ⟨b, off + A, none⟩) 16 (cap - A))) _)) (ownFrom_below (Nat.le_refl _) (by simp; omega)))
      (fun c => OwnFrom.and (OwnFrom.and (ownFrom_pure _ _) (Own.from (resC_own w.heap.size (.slice none 0 0) 0 2 (.slice (some ⟨b, off + A, none⟩) 16 (cap - A))) _)) (ownFrom_below (Nat.le_refl _) (by simp; omega)))
      ?start
      (fun x => { tmps := #[Value.slice (some { block := b, off := off + A }) N (cap - A), Value.int IntKind.i64 (A : Int), undef, undef,
          Value.pointer (some { block := w.heap.size, off := 0 }),
          Value.pointer (some { block := w.heap.size + 1, off := 0 }),
          Value.pointer (some { block := w.heap.size + 1 + 1, off := 0 }), Value.int IntKind.i64 16,
          Value.pointer (some { block := w.heap.size + 1 + 1 + 1 + 1, off := 0 }), Value.int IntKind.i64 (x : Int), Value.int IntKind.i64 (A : Int),
          Value.bool false, Value.bool false, Value.int IntKind.i64 (A : Int),
          Value.slice (some { block := b, off := off }) (A + N) cap, Value.int IntKind.i64 ((A : Int) + (N : Int)),
          Value.bool (decide ((A : Int) + (N : Int) < (A : Int))), Value.bool (decide ((A : Int) + (N : Int) < (A : Int))),
          Value.slice (some { block := b, off := off }) (A + N) cap, Value.int IntKind.i64 (A : Int),
          Value.slice (some { block := b, off := off + A }) N (cap - A),
          Value.slice (some { block := b, off := off + A }) N (cap - A), Value.int IntKind.i64 (N : Int), Value.bool true,
          Value.bool true, Value.slice (some { block := b, off := off + A }) N (cap - A),
          Value.pointer (some { block := b, off := off + A }), Value.int IntKind.u8 (n8 c0),
          Value.int IntKind.u8 (Go.bits BinOp.and IntKind.u8 (n8 c0) 128), Value.bool true, Value.bool true,
          Value.slice (some { block := b, off := off + A }) N (cap - A), Value.int IntKind.i64 (N : Int),
          Value.int IntKind.i64 16, Value.bool false,
          Value.slice (some { block := w.heap.size + 1 + 1 + 1, off := 0 }) 0 0,
          Value.slice (some { block := b, off := off + A }) N (cap - A), Value.int IntKind.i64 16,
          Value.slice (some { block := b, off := off + A }) 16 (cap - A),
          Value.func (Fn.func 118) #[] #[Value.pointer (some { block := w.heap.size + 1 + 1 + 1 + 1 + 1, off := 0 })],
          Value.int IntKind.i64 (x : Int), undef, undef, undef, undef, undef, undef, undef, undef, undef, undef, undef, undef, undef, undef,
          undef, undef, undef, undef, undef, undef, undef, undef, undef, undef, undef, undef, undef, undef], defers := [] }) ?assign ?body ?done ?stop
    case seq =>
      intro l J Jx W hW hJ hJx hY h0
      have hsz : w.heap.size + 6 ≤ W.heap.size := by have := hW.size; simp at this; omega
      refine (set1_in hP (m + 1) l (w.heap.size + 1 + 1 + 1 + 1 + 1) w.heap.size b (off + A) (cap - A) bs (by omega) hb J Jx (fun s W1 W2 hs hb => hJ s W1 W2 none hs ⟨hb.os, hb.tape, hb.output, hb.size, fun k hk _ => hb.block k hk⟩ (fun r e => by cases e)) (fun pre x W1 hj _ _ hl => hY pre x W1 hj hl) W ?_ (by omega) (by omega) (fun j h => ?_) h0).mono ?_
      · rw [hbs]; exact (hW.cell (p := ⟨w.heap.size + 1 + 1 + 1 + 1 + 1, 0, none⟩) (by simp)).trans bS.cell
      · exact (hW.cell (p := ⟨b, off + A + j, none⟩) (by simp; omega)).trans ((hB6.cell (p := ⟨b, off + A + j, none⟩) hb).trans (hc j h))
      · rintro e W' ⟨he, h⟩
        exact ⟨he, h.elim (fun h => .inl ⟨_, rfl, h⟩) (fun ⟨k, hk, h⟩ => .inr ⟨_, ⟨k, hk, rfl⟩, h⟩)⟩
    case kt => exact fun h k => ⟨h.1.trans k.1, k.2.trans h.2⟩
    case kb =>
      intro W l o o' hl ho h1 h2
      simp at hl
      exact ⟨belowK_b (w := w) (Nat.le_refl _) W l o o' (by omega) ho h1 h2, World.cell?_of_block (World.putObj_heap_other (by simp; omega))⟩
    case start => exact ⟨⟨⟨_, bL.alloc _, (hrow0.alloc _).alloc _, by simp⟩, ⟨b0.alloc _ |>.alloc _ |>.alloc _ |>.alloc _ |>.alloc _, b1.alloc _ |>.alloc _ |>.alloc _ |>.alloc _, b2.alloc _ |>.alloc _ |>.alloc _, bS⟩⟩, hB6⟩
    case assign =>
      intro l x W K hK
      gi_wp2
      exact hK
    case body =>
      rintro l pre x W ⟨⟨⟨v, hv, hrow, h65⟩, hr⟩, hB⟩ hlt
      have hcL := hv.cell
      have hr1 := hr.c0.cell
      have hr2 := hr.c0.frozen
      have hr3 := hr.c1.cell
      have hr4 := hr.c1.frozen
      have hr5 := hr.c2.cell
      have hr6 := hr.c2.frozen
      have h5lt := hr.c5.lt
      have hpl : (col pre).length ≤ pre.length := List.length_filter_le _ _
      by_cases hx65 : x = 65
      · subst hx65
        gi_wp2
        exact ⟨(others3 _ _ _ _ _).from _, ⟨⟨rfl, by simp⟩, res3 hr _ _ _⟩, hB.trans (keep3 _ _ _ _ _)⟩
      · have hx65' : ¬ (x : Int) = 65 := by omega
        by_cases hx1 : 1 < x
        · have hx1' : (1 : Int) < (x : Int) := by omega
          gi_wp2_with (gi_at_builtin; refine Wrap.out ?_)
          refine ⟨?_⟩
          refine wpListIn_append_own _ rfl _ _ 81 rfl (w.heap.size + 1 + 1 + 1) 3 i0 (.int .i64 0) 1 8 u81 hi hz0 hz1 hz2 rfl (by decide) v (col pre).length (colV pre) rfl (hrow.alloc _) ⟨W.heap.size, 0, none⟩ 1 1 [.int .i64 (x : Int)] rfl rfl ?hcell ?hone ?hb1 ?hb2 ?hb3 ?hrest
          case hcell => exact cell_one_new _ _ _
          case hone => simp [Value.oneCell']
          case hb1 => simp [maxLen]; omega
          case hb2 => omega
          case hb3 => have := hB.size; simp; omega
          case hrest =>
            intro v' w1 hown' hgrow _
            obtain ⟨g', cap', rfl⟩ := ownsRow_succ hown'
            obtain ⟨hv1, hv2, hr2', hk2, hb2⟩ := hv.appended (by decide) hrow (by omega) (by omega) hown' hgrow
            have hS1 : Boxed w1 (w.heap.size + 1 + 1 + 1 + 1 + 1) 27 _ := (hr.c5.alloc (.cells #[Value.int .i64 (x : Int)] 3)).kept hgrow (hr.c5.not_row (by decide) hrow)
            have hc1 := hv1.cell
            have hf1 := hv1.frozen
            gi_wp2
            have hS2 := hS1.setOther (C := w.heap.size + 1 + 1 + 1 + 1) (by omega) (.slice (some ⟨g', 0, none⟩) ((col pre).length + 1) cap')
            have hb2' := hb2.mono (B' := w.heap.size) (by omega)
            refine ⟨hk2.from _, ⟨hb2', hS2.cell.trans hr.c5.cell.symm⟩, ⟨⟨_, hv2, ?_, ?_⟩, resC_below hr hb2 hS2⟩, hB.trans hb2'⟩
            · rw [colV, col_hit hx1]; simpa [colV] using hr2'
            · simpa [h65] using fun e => hx65 e.symm
        · have hx1' : ¬ (1 : Int) < (x : Int) := by omega
          gi_wp2
          refine ⟨KeepsFrom.refl _ _, ⟨Below.refl _ _, rfl⟩, ⟨⟨v, hv, ?_, ?_⟩, hr⟩, hB⟩
          · rw [colV, col_miss hx1]; exact hrow
          · simpa [h65] using fun e => hx65 e.symm
    case done =>
      rintro D ys W hD rfl ⟨⟨⟨v, hv, hrow, h65⟩, hr⟩, hB⟩ hK
      have hcL := hv.cell
      have hr1 := hr.c0.cell
      have hr2 := hr.c0.frozen
      have hr3 := hr.c1.cell
      have hr4 := hr.c1.frozen
      have hr5 := hr.c2.cell
      have hr6 := hr.c2.frozen
      have hK' := fun v n e => (others3 w.heap.size v n e W).same D _ hK rfl
      have hyl := yl_len bs (8 * bs.length + 1) (by omega)
      have hpl : (col (yl bs (8 * bs.length + 1))).length ≤ (yl bs (8 * bs.length + 1)).length := List.length_filter_le _ _
      obtain ⟨C, hC⟩ : ∃ C, Wrap (C = col (yl bs (8 * bs.length + 1))) := ⟨_, ⟨rfl⟩⟩
      unfold colV at hrow
      rw [← hC.out] at hrow hpl
      have hC128 : C.length ≤ 128 := by omega
      have hgood : Wrap (W.ownsRow (w.heap.size + 1 + 1 + 1) 3 1 v C.length (C.map fun (n : Nat) => Value.int .i64 (n : Int))) := ⟨hrow⟩
      clear hrow hpl hyl
      by_cases hC0 : C.length = 0
      · rw [hC0] at hgood
        obtain ⟨a, c, hve⟩ : ∃ a c, v = .slice a 0 c := by
          rcases hgood.out.2 with ⟨h, _⟩ | ⟨g, cap', cur, h, _⟩
          · exact ⟨_, _, h⟩
          · exact ⟨_, _, h⟩
        subst hve
        gi_wp2
        refine ⟨by simp, .inl ⟨_, _, rfl, run_takeDeferred (hK' _ _ _), ?_⟩⟩
        have hz := ((res3 hr (.slice none 0 0) (0) 2).put (.deferred none) (hK' _ _ _) rfl)
        refine ⟨.tuple #[(.slice none 0 0), .int .i64 (0), .int .i64 2], by simp [results, Try.f69, go_sem, hz.c0.cell, hz.c1.cell, hz.c2.cell], _, rfl, ?_⟩
        have hall : ∀ n ∈ numsB bs, n < 65 := by
          intro n hn
          rw [← col_nums, ← hC.out, List.length_eq_zero_iff.1 hC0] at hn; cases hn
        rw [hR.out, if_pos ⟨by trivial, .inr hall⟩]
        exact ret_err hX ((hB.trans (keep3 _ _ _ _ _)).trans (belowK_b (w := w) (Nat.le_refl _) _ D _ _ (by simp at hD; omega) (hK' _ _ _) rfl rfl)) 2
      · obtain ⟨L, hL⟩ : ∃ L, C.length = L + 1 := ⟨C.length - 1, by omega⟩
        rw [hL] at hgood hC128
        obtain ⟨g, cap', z, hve, hz0, hce⟩ : ∃ g cap' z, v = .slice (some ⟨g, 0, none⟩) (L + 1) cap' ∧ Wrap (C[L]? = some z) ∧ W.cell? ⟨g, L, none⟩ = some (.int .i64 (z : Int)) := by
          rcases hgood.out.2 with ⟨h, h'⟩ | ⟨g, cap', cur, h, hg, hh, hk1, hk2, hk3, hk4⟩
          · omega
          · refine ⟨g, cap', C[L]'(by omega), h, ⟨List.getElem?_eq_getElem (by omega)⟩, ?_⟩
            rw [World.cell?, hh]
            have h1 : cur.toList[L]? = some (Value.int .i64 ((C[L]'(by omega) : Nat) : Int)) := by
              have h2 : (List.take ((L + 1) * 1) cur.toList)[L]? = cur.toList[L]? := List.getElem?_take_of_lt (by omega)
              rw [← h2, hk4, List.getElem?_map, List.getElem?_eq_getElem (show L < C.length by omega)]; rfl
            have h3 : cur[L]? = some (Value.int .i64 ((C[L]'(by omega) : Nat) : Int)) := by rw [← h1]; simp
            simpa using h3
        subst hve
        clear hC0
        have hL' : Wrap (C.length = L + 1) := ⟨hL⟩
        clear hL
        have hL0 : ¬ ((L + 1 : Nat) : Int) = 0 := by omega
        have hwr : wrap64 (((L + 1 : Nat) : Int) - 1) = (L : Int) := by rw [show ((L + 1 : Nat) : Int) - 1 = (L : Int) by omega]; unfold wrap64; omega
        have hlt' : (L : Int) < ((L + 1 : Nat) : Int) := by omega
        have hlt0 : (0 : Int) ≤ (L : Int) := by omega
        by_cases hz65 : (z : Int) < 65
        · gi_wp2
          refine ⟨by simp, .inl ⟨_, _, rfl, run_takeDeferred (hK' _ _ _), ?_⟩⟩
          have hz := ((res3 hr (.slice none 0 0) (0) 2).put (.deferred none) (hK' _ _ _) rfl)
          refine ⟨.tuple #[(.slice none 0 0), .int .i64 (0), .int .i64 2], by simp [results, Try.f69, go_sem, hz.c0.cell, hz.c1.cell, hz.c2.cell], _, rfl, ?_⟩
          have hall : ∀ n ∈ numsB bs, n < 65 := by
            intro n hn
            have := nums_last (by rw [← col_nums, ← hC.out]; exact hL'.out) (by rw [← col_nums, ← hC.out]; exact hz0.out) n hn
            omega
          rw [hR.out, if_pos ⟨by trivial, .inr hall⟩]
          exact ret_err hX ((hB.trans (keep3 _ _ _ _ _)).trans (belowK_b (w := w) (Nat.le_refl _) _ D _ _ (by simp at hD; omega) (hK' _ _ _) rfl rfl)) 2
        · gi_wp2
          refine ⟨by simp, .inl ⟨_, _, rfl, run_takeDeferred (hK' _ _ _), ?_⟩⟩
          have hz := ((res3 hr (.slice (some ⟨g, 0, none⟩) (L + 1) cap') ((A : Int) + 16) 0).put (.deferred none) (hK' _ _ _) rfl)
          refine ⟨.tuple #[(.slice (some ⟨g, 0, none⟩) (L + 1) cap'), .int .i64 ((A : Int) + 16), .int .i64 0], by simp [results, Try.f69, go_sem, hz.c0.cell, hz.c1.cell, hz.c2.cell], _, rfl, ?_⟩
          rw [hR.out, if_neg (fun h => h.2.elim (fun h => h65 (nums65 h)) (fun h => absurd hz65 (by have := h z (by rw [← col_nums, ← hC.out]; exact List.mem_of_getElem? hz0.out); omega)))]
          refine ret_ok hX ((hB.trans (keep3 _ _ _ _ _)).trans (belowK_b (w := w) (Nat.le_refl _) _ D _ _ (by simp at hD; omega) (hK' _ _ _) rfl rfl)) ?_ _
          have hrw := row3 hgood.out (.slice (some ⟨g, 0, none⟩) (L + 1) cap') ((A : Int) + 16) 0 (.deferred none) hK rfl
          rw [← col_nums, ← hC.out, List.length_map, hL'.out, List.map_map]
          exact hrw
    case stop =>
      rintro D c pre W hD ⟨k, hk, rfl⟩ ⟨⟨⟨rfl, h65⟩, hr⟩, hB⟩ hK
      gi_wp2
      refine ⟨by simp, .inl ⟨_, _, rfl, run_takeDeferred hK, ?_⟩⟩
      have hz := hr.put (.deferred none) hK rfl
      refine ⟨.tuple #[.slice none 0 0, .int .i64 0, .int .i64 2], by simp [results, Try.f69, go_sem, hz.c0.cell, hz.c1.cell, hz.c2.cell], _, rfl, ?_⟩
      rw [hR.out, if_pos ⟨by trivial, .inl (yl65 hk h65).1⟩]
      exact ret_err hX (hB.trans (belowK_b (w := w) (Nat.le_refl _) _ D _ _ (by simp at hD; omega) hK rfl rfl)) 2
end Yp
namespace Yp
open Go Go.Proofs
noncomputable abbrev s_bitmap_Read : FSpec := ⟨[.sl (.int .u8), .int .i64], [.ow (.int .i64), .im (.int .i64), .im (.int .i64)], bitmap_Read⟩
theorem hasB_1 {c : List UInt8} (h : 0 < c.length) : hasB c 1 = bt c[0] 0 := by
  unfold hasB nth
  rw [show (1 - 1) / 8 = 0 from rfl, List.getD_eq_getElem?_getD, List.getElem?_eq_getElem h]; rfl
set_option maxRecDepth 100000 in
theorem read_main (hP : FOK Try.prog 93 ⟨[.int .i64], [.im (.int .i64), .im (.int .u8)], bitmap_Place⟩) (l : List UInt8) (at' : Int) (a : Option Addr) (cap : Nat) (w : World) (X : Nat → Prop) (hX : ∀ b, X b → b < w.heap.size) (h1 : l.length ≤ cap) (h2' : cap ≤ 9223372036854775807)
    (h3 : l = [] ∨ ∃ b o c el fz, a = some ⟨b, o, none⟩ ∧ view w X b = some (.cells c el fz) ∧ o + l.length * 1 ≤ c.size ∧ ∀ (i : Nat) (x : UInt8), l[i]? = some x → seg c (o + i * 1) 1 = [Value.int .u8 (n8 x)]) :
    Calls Try.prog 69 #[Value.slice a l.length cap, Value.int .i64 at'] w fun e w' => ∃ vr, e = .returned vr ∧ RetOK w X w' s_bitmap_Read.res (bmR l at') vr := by
  by_cases hA : at' < 0
  · have e : bmR l at' = ([], 0, 1, ()) := if_pos (.inl hA)
    refine (callsIn_wide (n := 0)).1 (readA a _ cap at' hA 0 w X hX |>.mono ?_)
    intro e' w' ⟨vr, h, h'⟩
    exact ⟨vr, h, by rw [e]; exact h'⟩
  by_cases hB : (l.length : Int) < at'
  · have e : bmR l at' = ([], 0, 1, ()) := if_pos (.inr hB)
    refine (callsIn_wide (n := 0)).1 (readB a _ cap at' hA hB 0 w X hX |>.mono ?_)
    intro e' w' ⟨vr, h, h'⟩
    exact ⟨vr, h, by rw [e]; exact h'⟩
  obtain ⟨A, rfl⟩ : ∃ A : Nat, at' = (A : Int) := ⟨at'.toNat, by omega⟩
  have hAl : A ≤ l.length := by omega
  have eC : bmR l (A : Int) = bmC (l.drop A) (A : Int) := by
    unfold bmR
    rw [if_neg (by omega)]; rfl
  rw [eC]
  have hdl : (l.drop A).length = l.length - A := List.length_drop
  by_cases hE : A = l.length
  · have e : bmC (l.drop A) (A : Int) = ([], 0, 3, ()) := if_pos (.inl (by omega))
    refine (callsIn_wide (n := 0)).1 (readC a _ cap A h1 hE 0 w X hX |>.mono ?_)
    intro e' w' ⟨vr, h, h'⟩
    exact ⟨vr, h, by rw [e]; exact h'⟩
  rcases h3 with rfl | ⟨b, o, c, el, fz, rfl, hv, hsz, hel⟩
  · simp at hE hAl; omega
  have hsz' : o + l.length * 1 ≤ c.size := hsz
  obtain ⟨hnx, hh⟩ := view_some.1 hv
  have hbl : b < w.heap.size := (Array.getElem?_eq_some_iff.1 hh).1
  have hcell : ∀ i, (h : i < l.length) → w.cell? ⟨b, o + i, none⟩ = some (.int .u8 (n8 l[i])) := by
    intro i h
    have h6 : seg c (o + i * 1) 1 = [Value.int .u8 (n8 l[i])] := hel i l[i] (List.getElem?_eq_getElem h)
    rw [Nat.mul_one] at h6
    have h7 : c[o + i]? = some (Value.int .u8 (n8 l[i])) := by
      have := seg_get (c := c) (o := o + i) (n := 1) (i := 0) (by omega)
      rw [h6] at this
      simpa using this.symm
    rw [World.cell?, hh]
    simpa using h7
  have hc0 := hcell A (by omega)
  have hb0 : hasB (l.drop A) 1 = bt (l[A]'(by omega)) 0 := by
    rw [hasB_1 (by omega)]; congr 1; simp
  by_cases hS : (l.drop A).length < 8 ∨ (hasB (l.drop A) 1 = true ∧ (l.drop A).length < 16)
  · have e : bmC (l.drop A) (A : Int) = ([], 0, 3, ()) := if_pos hS
    have hs : (bt (l[A]'(by omega)) 0 = true ∧ l.length - A < 16) ∨ (bt (l[A]'(by omega)) 0 = false ∧ l.length - A < 8) := by
      rw [hb0, hdl] at hS
      cases hb : bt (l[A]'(by omega)) 0
      · rw [hb] at hS; exact .inr ⟨rfl, by simpa using hS⟩
      · exact .inl ⟨rfl, by omega⟩
    refine (callsIn_wide (n := 0)).1 (readD b o _ cap A h1 (by omega) _ 0 w hc0 hs X hX hbl |>.mono ?_)
    intro e' w' ⟨vr, h, h'⟩
    exact ⟨vr, h, by rw [e]; exact h'⟩
  · have hS8 : 8 ≤ l.length - A := by omega
    have run : ∀ (S : Nat), (S = 8 ∨ S = 16) → A + S ≤ l.length → (bt (l[A]'(by omega)) 0 = true ↔ S = 16) → ∀ R, R = (if S = 16 ∧ (65 ∈ numsB ((l.drop A).take S) ∨ ∀ n ∈ numsB ((l.drop A).take S), n < 65) then (([], 0, 2, ()) : List Int × Int × Int × Unit) else (((numsB ((l.drop A).take S)).map Int.ofNat, (A : Int) + (S : Int), (0 : Int), ()) : List Int × Int × Int × Unit)) → bmC (l.drop A) (A : Int) = R →
        Calls Try.prog 69 #[Value.slice (some ⟨b, o, none⟩) l.length cap, Value.int .i64 (A : Int)] w fun e w' => ∃ vr, e = .returned vr ∧ RetOK w X w' s_bitmap_Read.res (bmC (l.drop A) (A : Int)) vr := by
      intro S h8 hl hbit R hR he
      rw [he]
      refine (callsIn_wide (n := 3)).1 (readE hP b o _ cap A S h1 hl (by omega) ((l.drop A).take S) h8 (by rw [List.length_take, hdl]; omega) _ 0 w ?_ hc0 hbit X hX hbl R ⟨hR⟩)
      intro j hj
      have hj' : A + j < l.length := by rw [List.length_take, hdl] at hj; omega
      rw [Nat.add_assoc, hcell (A + j) hj']
      simp
    cases hb : bt (l[A]'(by omega)) 0
    · rw [hb] at hb0
      refine run 8 (.inl rfl) (by omega) (by rw [hb]; simp) _ rfl ?_
      unfold bmC
      rw [if_neg hS, if_neg (by rw [hb0]; simp), if_neg (by omega)]; rfl
    · rw [hb] at hb0
      have h16 : 16 ≤ l.length - A := by
        rcases Nat.lt_or_ge (l.drop A).length 16 with h | h
        · exact absurd (.inr ⟨hb0, h⟩) hS
        · omega
      refine run 16 (.inr rfl) (by omega) (by rw [hb]; simp) _ rfl ?_
      unfold bmC
      rw [if_neg hS, if_pos hb0]
      simp only [true_and]; rfl
set_option maxRecDepth 100000 in
theorem h_bitmap_Read (hP : FOK Try.prog 93 ⟨[.int .i64], [.im (.int .i64), .im (.int .u8)], bitmap_Place⟩) : FOK Try.prog 69 s_bitmap_Read := by
  refine ⟨⟨Try.f69, Try.func69, by kernel_rfl, by kernel_rfl⟩, ?_⟩
  intro w X x vs r hX ha hr
  obtain ⟨l, at', ⟨⟩⟩ := x
  obtain rfl : bmR l at' = r := Option.some.inj hr
  obtain ⟨cs, vs', rfl, hc, cs2, vs2, rfl, hc2, rfl⟩ := ha
  obtain ⟨a, cap, rfl, h1, h2, h3⟩ := RepC.sl_iff.1 hc
  obtain rfl := RepC.int_iff.1 hc2
  refine read_main hP l at' a cap w X hX h1 h2 (h3.imp id ?_)
  rintro ⟨b, o, c, el, fz, rfl, hv, hsz, hel⟩
  exact ⟨b, o, c, el, fz, rfl, hv, hsz, fun i x hx => RepC.int_iff.1 (hel i x hx)⟩
end Yp
namespace Yp
open Go Go.Proofs
def TT : List (Nat × Ty) := [(1, .op 0), (2, .int .i64), (3, .int .i64), (4, .bool), (5, .int .u8), (6, .int .u8), (7, .pair (.int .i64) (.pair (.int .i64) (.pair (.bool) (.pair (.int .u8) (.unit))))), (8, .pair (.int .i64) (.pair (.int .i64) (.pair (.bool) (.pair (.int .u8) (.unit))))), (9, .str), (10, .str), (11, .str), (12, .int .u64), (13, .pair (.str) (.pair (.int .u64) (.unit))), (14, .pair (.str) (.pair (.int .u64) (.unit))), (15, .op 3), (16, .op 3), (17, .op 3), (18, .pair (.op 3) (.unit)), (19, .pair (.op 3) (.unit)), (20, .op 1), (21, .int .i32), (22, .sl (.pair (.int .i64) (.pair (.sl (.int .u8)) (.unit)))), (23, .pair (.int .i64) (.pair (.sl (.pair (.int .i64) (.pair (.sl (.int .u8)) (.unit)))) (.unit))), (24, .pair (.int .i64) (.pair (.sl (.pair (.int .i64) (.pair (.sl (.int .u8)) (.unit)))) (.unit))), (25, .op 0), (26, .op 0), (27, .sl (.int .u8)), (28, .int .i64), (30, .op 0), (32, .op 0), (34, .op 0), (35, .op 0), (36, .op 0), (37, .op 0), (38, .op 0), (39, .op 0), (41, .op 0), (43, .op 0), (44, .op 0), (45, .op 0), (46, .op 0), (48, .op 0), (49, .op 0), (50, .op 0), (51, .op 0), (52, .pair (.pair (.int .i64) (.pair (.sl (.pair (.int .i64) (.pair (.sl (.int .u8)) (.unit)))) (.unit))) (.pair (.int .i64) (.pair (.sl (.int .u8)) (.pair (.sl (.int .u8)) (.pair (.int .i64) (.unit)))))), (53, .pair (.pair (.int .i64) (.pair (.sl (.pair (.int .i64) (.pair (.sl (.int .u8)) (.unit)))) (.unit))) (.pair (.int .i64) (.pair (.sl (.int .u8)) (.pair (.sl (.int .u8)) (.pair (.int .i64) (.unit)))))), (54, .op 0), (55, .int .u16), (56, .op 0), (57, .op 0), (58, .pair (.bool) (.pair (.int .i64) (.pair (.int .i64) (.pair (.int .i64) (.pair (.int .i64) (.pair (.sl (.int .u8)) (.pair (.sl (.int .u8)) (.pair (.int .i64) (.unit))))))))), (59, .pair (.bool) (.pair (.int .i64) (.pair (.int .i64) (.pair (.int .i64) (.pair (.int .i64) (.pair (.sl (.int .u8)) (.pair (.sl (.int .u8)) (.pair (.int .i64) (.unit))))))))), (60, .op 0), (61, .op 0), (62, .op 0), (63, .op 0), (65, .op 0), (67, .op 0), (68, .op 0), (69, .op 0), (70, .op 0), (71, .op 0), (73, .op 0), (74, .pair (.int .i64) (.pair (.sl (.int .u8)) (.unit))), (75, .pair (.int .i64) (.pair (.sl (.int .u8)) (.unit))), (76, .op 0), (77, .op 0), (79, .op 0), (80, .op 0), (81, .sl (.int .i64)), (82, .op 0), (83, .op 0), (84, .op 0), (85, .op 0), (86, .op 0), (87, .op 0), (88, .op 0), (89, .op 0), (90, .op 0), (91, .fn [65]), (93, .op 0), (95, .op 0), (97, .op 0), (98, .pair (.int .i64) (.pair (.int .i64) (.unit))), (99, .pair (.int .i64) (.pair (.int .i64) (.unit))), (101, .op 0), (103, .op 0), (105, .op 0), (107, .op 0), (109, .op 0), (110, .fn [106]), (111, .pair (.sl (.pair (.int .i64) (.pair (.sl (.int .u8)) (.unit)))) (.pair (.fn [106]) (.unit))), (112, .pair (.sl (.pair (.int .i64) (.pair (.sl (.int .u8)) (.unit)))) (.pair (.fn [106]) (.unit))), (113, .op 0), (114, .op 0), (115, .op 0), (116, .op 0), (117, .fn [111, 112, 113, 114]), (118, .op 0), (119, .pair (.bool) (.pair (.int .i64) (.pair (.int .i64) (.pair (.int .i64) (.pair (.int .i64) (.pair (.sl (.int .u8)) (.pair (.sl (.int .u8)) (.pair (.int .i64) (.unit))))))))), (120, .op 0), (121, .op 0), (122, .op 0), (123, .op 0), (124, .int .u64), (125, .op 0), (127, .op 0), (128, .op 0), (130, .op 0), (131, .op 0), (132, .op 0), (133, .op 0), (134, .op 0), (135, .op 0), (136, .op 0), (137, .sl (.sl (.int .i64))), (138, .op 0), (139, .sl (.sl (.pair (.int .i64) (.pair (.sl (.int .u8)) (.unit))))), (140, .op 0), (141, .op 0), (142, .op 0), (144, .op 0), (145, .op 0), (146, .op 2), (147, .op 0), (148, .op 0), (149, .pair (.op 3) (.pair (.op 3) (.pair (.op 3) (.pair (.str) (.unit))))), (150, .pair (.op 3) (.pair (.op 3) (.pair (.op 3) (.pair (.str) (.unit))))), (151, .ar 0 (.op 3)), (152, .pair (.ar 0 (.op 3)) (.unit)), (153, .pair (.ar 0 (.op 3)) (.unit)), (154, .op 0), (155, .int .u32), (156, .int .u8), (157, .int .u8), (158, .op 0), (159, .op 3), (160, .int .i32), (161, .int .i32), (162, .pair (.int .u64) (.pair (.int .u64) (.pair (.int .u32) (.pair (.int .u8) (.pair (.int .u8) (.pair (.int .u8) (.pair (.int .u8) (.pair (.op 0) (.pair (.op 3) (.pair (.int .i32) (.pair (.int .i32) (.unit)))))))))))), (163, .pair (.int .u64) (.pair (.int .u64) (.pair (.int .u32) (.pair (.int .u8) (.pair (.int .u8) (.pair (.int .u8) (.pair (.int .u8) (.pair (.op 0) (.pair (.op 3) (.pair (.int .i32) (.pair (.int .i32) (.unit))))))))))))]
def MM : List (Nat × Ty × Ty) := [(146, .int .i64, .int .i64)]
def CC : List Nat := []
theorem hTT : tabOK Try.prog (lookT TT) := tabOK_of _ _ (by kernel_rfl)
theorem hCC : cmpOK Try.prog (lookT TT) (lookC CC) := cmpOK_of _ _ _ (by kernel_rfl)
theorem hMM : mapsOK Try.prog (lookM MM) := mapsOK_of _ _ (by kernel_rfl)
theorem hMix : Try.prog.follows .mixedOrders = true := by kernel_rfl
abbrev eN (G : List (Nat × FSpec)) (I : List (Nat × Inl)) : Env := { T := lookT TT, G := lookG G, I := lookI I, M := lookM MM, C := lookC CC }
theorem mkC {G : List (Nat × FSpec)} {I : List (Nat × Inl)} {f : Nat} {fn : Func} {s : FSpec} (hG : ∀ f s, lookG G f = some s → FOK Try.prog f s) (hI : ∀ f g, lookI I f = some g → InlOK Try.prog f g) (hf : Try.prog.funcs[f]? = some fn) (nv : Nat) (hn : (fn.name == "runtime.NumGoroutine") = false) (hb : fn.body.isSome = true)
    (he : ∀ x, model (eN G I) fn nv s.args s.res x = s.fn x) : FOK Try.prog f s := (model_go (E := eN G I) ⟨hTT, hCC, hMM, hG, hI⟩ hMix hf hn nv s.args s.res hb).congr he
theorem mkI {G : List (Nat × FSpec)} {I : List (Nat × Inl)} {f : Nat} {fn : Func} (hG : ∀ f s, lookG G f = some s → FOK Try.prog f s) (hI : ∀ f g, lookI I f = some g → InlOK Try.prog f g) (hf : Try.prog.funcs[f]? = some fn) (nv : Nat) (hn : (fn.name == "runtime.NumGoroutine") = false) (hb : fn.body.isSome = true) :
    InlOK Try.prog f (inlF (eN G I) fn nv) := inl_go (E := eN G I) ⟨hTT, hCC, hMM, hG, hI⟩ hMix hf hn nv hb
noncomputable abbrev s_ref01_Same : FSpec := ⟨[.sl (.int .u8), .sl (.int .u8)], [.im (.bool)], ref01_Same⟩
theorem c_ref01_Same : FOK Try.prog 22 s_ref01_Same := mkC lookG_nil lookI_nil Try.func22 5 (by kernel_rfl) (by kernel_rfl) (fun x => by kernel_rfl)
noncomputable abbrev s_iso_figure : FSpec := ⟨[.int .i64, .int .i64], [.im (.int .i64)], iso_figure⟩
theorem c_iso_figure : FOK Try.prog 61 s_iso_figure := mkC lookG_nil lookI_nil Try.func61 5 (by kernel_rfl) (by kernel_rfl) (fun x => by kernel_rfl)
noncomputable abbrev s_iso_Type : FSpec := ⟨[.int .i64], [.im (.bool)], iso_Type⟩
theorem c_iso_Type : FOK Try.prog 27 s_iso_Type := mkC (lookG_cons lookG_nil c_iso_figure) lookI_nil Try.func27 4 (by kernel_rfl) (by kernel_rfl) (fun x => by kernel_rfl)
noncomputable abbrev s_field_figures : FSpec := ⟨[.int .i64], [.im (.int .i64)], field_figures⟩
theorem c_field_figures : FOK Try.prog 119 s_field_figures := mkC lookG_nil lookI_nil Try.func119 3 (by kernel_rfl) (by kernel_rfl) (fun x => by kernel_rfl)
noncomputable def I_field_others : Inl := inlF (eN [] []) Try.f120 3
theorem i_field_others : InlOK Try.prog 120 I_field_others := mkI lookG_nil lookI_nil Try.func120 3 (by kernel_rfl) (by kernel_rfl)
noncomputable abbrev s_field_long : FSpec := ⟨[.int .i64, .int .i64], [.im (.int .i64)], field_long⟩
theorem c_field_long : FOK Try.prog 103 s_field_long := mkC (lookG_cons lookG_nil c_field_figures) (lookI_cons lookI_nil i_field_others) Try.func103 5 (by kernel_rfl) (by kernel_rfl) (fun x => by kernel_rfl)
noncomputable abbrev s_field_Of : FSpec := ⟨[.int .i64], [.im (.pair (.int .i64) (.pair (.int .i64) (.unit))), .im (.bool)], field_Of⟩
theorem c_field_Of : FOK Try.prog 70 s_field_Of := mkC (lookG_cons lookG_nil c_field_long) lookI_nil Try.func70 6 (by kernel_rfl) (by kernel_rfl) (fun x => by kernel_rfl)
noncomputable abbrev s_field_told : FSpec := ⟨[.int .i64], [.im (.int .i64)], field_told⟩
theorem c_field_told : FOK Try.prog 94 s_field_told := mkC lookG_nil lookI_nil Try.func94 3 (by kernel_rfl) (by kernel_rfl) (fun x => by kernel_rfl)
noncomputable def I_field_all_1 : Inl := inlF (eN [] [(120, I_field_others)]) Try.f117 7
theorem i_field_all_1 : InlOK Try.prog 117 I_field_all_1 := mkI lookG_nil (lookI_cons lookI_nil i_field_others) Try.func117 7 (by kernel_rfl) (by kernel_rfl)
noncomputable abbrev s_note_kind_keyed : FSpec := ⟨[.pair (.bool) (.pair (.int .i64) (.pair (.int .i64) (.pair (.int .i64) (.pair (.int .i64) (.pair (.sl (.int .u8)) (.pair (.sl (.int .u8)) (.pair (.int .i64) (.unit))))))))], [.im (.bool)], note_kind_keyed⟩
theorem c_note_kind_keyed : FOK Try.prog 111 s_note_kind_keyed := mkC lookG_nil lookI_nil Try.func111 3 (by kernel_rfl) (by kernel_rfl) (fun x => by kernel_rfl)
noncomputable abbrev s_note_kind_bare : FSpec := ⟨[.pair (.bool) (.pair (.int .i64) (.pair (.int .i64) (.pair (.int .i64) (.pair (.int .i64) (.pair (.sl (.int .u8)) (.pair (.sl (.int .u8)) (.pair (.int .i64) (.unit))))))))], [.im (.bool)], note_kind_bare⟩
theorem c_note_kind_bare : FOK Try.prog 113 s_note_kind_bare := mkC lookG_nil lookI_nil Try.func113 3 (by kernel_rfl) (by kernel_rfl) (fun x => by kernel_rfl)
noncomputable abbrev s_note_kind_dated : FSpec := ⟨[.pair (.bool) (.pair (.int .i64) (.pair (.int .i64) (.pair (.int .i64) (.pair (.int .i64) (.pair (.sl (.int .u8)) (.pair (.sl (.int .u8)) (.pair (.int .i64) (.unit))))))))], [.im (.bool)], note_kind_dated⟩
theorem c_note_kind_dated : FOK Try.prog 112 s_note_kind_dated := mkC (lookG_cons lookG_nil c_note_kind_bare) lookI_nil Try.func112 4 (by kernel_rfl) (by kernel_rfl) (fun x => by kernel_rfl)
noncomputable abbrev s_note_rule_1 : FSpec := ⟨[.pair (.bool) (.pair (.int .i64) (.pair (.int .i64) (.pair (.int .i64) (.pair (.int .i64) (.pair (.sl (.int .u8)) (.pair (.sl (.int .u8)) (.pair (.int .i64) (.unit))))))))], [.im (.bool)], note_rule_1⟩
theorem c_note_rule_1 : FOK Try.prog 114 s_note_rule_1 := mkC lookG_nil lookI_nil Try.func114 3 (by kernel_rfl) (by kernel_rfl) (fun x => by kernel_rfl)
noncomputable def I_field_all : Inl := inlF (eN [(111, s_note_kind_keyed), (112, s_note_kind_dated), (113, s_note_kind_bare), (114, s_note_rule_1)] [(120, I_field_others), (117, I_field_all_1)]) Try.f100 3
theorem i_field_all : InlOK Try.prog 100 I_field_all := mkI (lookG_cons (lookG_cons (lookG_cons (lookG_cons lookG_nil c_note_rule_1) c_note_kind_bare) c_note_kind_dated) c_note_kind_keyed) (lookI_cons (lookI_cons lookI_nil i_field_all_1) i_field_others) Try.func100 3 (by kernel_rfl) (by kernel_rfl)
noncomputable abbrev s_field_Fits : FSpec := ⟨[.int .i64, .sl (.int .u8)], [.im (.bool)], field_Fits⟩
theorem c_field_Fits : FOK Try.prog 62 s_field_Fits := mkC (lookG_cons (lookG_cons lookG_nil c_field_told) c_field_Of) (lookI_cons (lookI_cons lookI_nil i_field_all) i_field_all_1) Try.func62 8 (by kernel_rfl) (by kernel_rfl) (fun x => by kernel_rfl)
noncomputable abbrev s_iso_Right : FSpec := ⟨[.pair (.int .i64) (.pair (.sl (.pair (.int .i64) (.pair (.sl (.int .u8)) (.unit)))) (.unit))], [.im (.bool)], iso_Right⟩
theorem c_iso_Right : FOK Try.prog 23 s_iso_Right := mkC (lookG_cons (lookG_cons lookG_nil c_field_Fits) c_iso_Type) lookI_nil Try.func23 6 (by kernel_rfl) (by kernel_rfl) (fun x => by kernel_rfl)
noncomputable abbrev s_dig_Digits : FSpec := ⟨[.int .i64, .int .i64], [.im (.str), .im (.int .i64)], dig_Digits⟩
theorem c_dig_Digits : FOK Try.prog 53 s_dig_Digits := mkC lookG_nil lookI_nil Try.func53 8 (by kernel_rfl) (by kernel_rfl) (fun x => by kernel_rfl)
noncomputable abbrev s_dig_figure : FSpec := ⟨[.int .i32], [.im (.int .i64), .im (.bool)], dig_figure⟩
theorem c_dig_figure : FOK Try.prog 91 s_dig_figure := mkC lookG_nil lookI_nil Try.func91 4 (by kernel_rfl) (by kernel_rfl) (fun x => by kernel_rfl)
noncomputable abbrev s_bytes_Equal : FSpec := ⟨[.sl (.int .u8), .sl (.int .u8)], [.im (.bool)], bytes_Equal⟩
theorem c_bytes_Equal : FOK Try.prog 66 s_bytes_Equal := mkC lookG_nil lookI_nil Try.func66 5 (by kernel_rfl) (by kernel_rfl) (fun x => by kernel_rfl)
noncomputable abbrev s_iso_Same_1 : FSpec := ⟨[.pair (.int .i64) (.pair (.sl (.int .u8)) (.unit)), .pair (.int .i64) (.pair (.sl (.int .u8)) (.unit))], [.im (.bool)], iso_Same_1⟩
theorem c_iso_Same_1 : FOK Try.prog 65 s_iso_Same_1 := mkC (lookG_cons lookG_nil c_bytes_Equal) lookI_nil Try.func65 5 (by kernel_rfl) (by kernel_rfl) (fun x => by kernel_rfl)
noncomputable abbrev s_dig_Bcd : FSpec := ⟨[.str], [.ow (.int .u8), .im (.int .i64)], dig_Bcd⟩
theorem c_dig_Bcd : FOK Try.prog 54 s_dig_Bcd := mkC (lookG_cons (lookG_cons lookG_nil c_iso_Same_1) c_dig_figure) lookI_nil Try.func54 10 (by kernel_rfl) (by kernel_rfl) (fun x => by kernel_rfl)
noncomputable abbrev s_bitmap_Right : FSpec := ⟨[.sl (.int .i64)], [.im (.bool)], bitmap_Right⟩
theorem c_bitmap_Right : FOK Try.prog 92 s_bitmap_Right := mkC lookG_nil lookI_nil Try.func92 6 (by kernel_rfl) (by kernel_rfl) (fun x => by kernel_rfl)
noncomputable abbrev s_bitmap_Place : FSpec := ⟨[.int .i64], [.im (.int .i64), .im (.int .u8)], bitmap_Place⟩
theorem c_bitmap_Place : FOK Try.prog 93 s_bitmap_Place := mkC lookG_nil lookI_nil Try.func93 4 (by kernel_rfl) (by kernel_rfl) (fun x => by kernel_rfl)
noncomputable abbrev s_bitmap_Write : FSpec := ⟨[.sl (.int .i64)], [.ow (.int .u8), .im (.int .i64)], bitmap_Write⟩
theorem c_bitmap_Write : FOK Try.prog 55 s_bitmap_Write := mkC (lookG_cons (lookG_cons lookG_nil c_bitmap_Place) c_bitmap_Right) lookI_nil Try.func55 9 (by kernel_rfl) (by kernel_rfl) (fun x => by kernel_rfl)
noncomputable abbrev s_field_Write : FSpec := ⟨[.int .i64, .sl (.int .u8)], [.ow (.int .u8), .im (.int .i64)], field_Write⟩
theorem c_field_Write : FOK Try.prog 56 s_field_Write := mkC (lookG_cons (lookG_cons (lookG_cons (lookG_cons (lookG_cons lookG_nil c_field_told) c_field_Of) c_field_Fits) c_dig_Bcd) c_dig_Digits) lookI_nil Try.func56 14 (by kernel_rfl) (by kernel_rfl) (fun x => by kernel_rfl)
noncomputable abbrev s_iso_Write : FSpec := ⟨[.pair (.int .i64) (.pair (.sl (.pair (.int .i64) (.pair (.sl (.int .u8)) (.unit)))) (.unit))], [.ow (.int .u8), .im (.int .i64)], iso_Write⟩
theorem c_iso_Write : FOK Try.prog 18 s_iso_Write := mkC (lookG_cons (lookG_cons (lookG_cons (lookG_cons (lookG_cons lookG_nil c_field_Write) c_bitmap_Write) c_dig_Bcd) c_dig_Digits) c_iso_Right) lookI_nil Try.func18 17 (by kernel_rfl) (by kernel_rfl) (fun x => by kernel_rfl)
noncomputable abbrev s_iso_fields_1 : FSpec := ⟨[.pair (.int .i64) (.pair (.sl (.int .u8)) (.unit))], [.im (.int .i64)], iso_fields_1⟩
theorem c_iso_fields_1 : FOK Try.prog 106 s_iso_fields_1 := mkC lookG_nil lookI_nil Try.func106 3 (by kernel_rfl) (by kernel_rfl) (fun x => by kernel_rfl)
noncomputable abbrev s_note_rule : FSpec := ⟨[.pair (.bool) (.pair (.int .i64) (.pair (.int .i64) (.pair (.int .i64) (.pair (.int .i64) (.pair (.sl (.int .u8)) (.pair (.sl (.int .u8)) (.pair (.int .i64) (.unit))))))))], [.im (.fn [111, 112, 113, 114])], note_rule⟩
theorem c_note_rule : FOK Try.prog 83 s_note_rule := mkC (lookG_cons (lookG_cons (lookG_cons (lookG_cons (lookG_cons lookG_nil c_iso_fields_1) c_note_rule_1) c_note_kind_bare) c_note_kind_dated) c_note_kind_keyed) lookI_nil Try.func83 3 (by kernel_rfl) (by kernel_rfl) (fun x => by kernel_rfl)
noncomputable abbrev s_note_Right : FSpec := ⟨[.pair (.bool) (.pair (.int .i64) (.pair (.int .i64) (.pair (.int .i64) (.pair (.int .i64) (.pair (.sl (.int .u8)) (.pair (.sl (.int .u8)) (.pair (.int .i64) (.unit))))))))], [.im (.bool)], note_Right⟩
theorem c_note_Right : FOK Try.prog 44 s_note_Right := mkC (lookG_cons (lookG_cons (lookG_cons (lookG_cons (lookG_cons lookG_nil c_note_rule_1) c_note_kind_bare) c_note_kind_dated) c_note_kind_keyed) c_note_rule) lookI_nil Try.func44 3 (by kernel_rfl) (by kernel_rfl) (fun x => by kernel_rfl)
noncomputable abbrev s_dig_Hex : FSpec := ⟨[.sl (.int .u8)], [.im (.str)], dig_Hex⟩
theorem c_dig_Hex : FOK Try.prog 101 s_dig_Hex := mkC lookG_nil lookI_nil Try.func101 6 (by kernel_rfl) (by kernel_rfl) (fun x => by kernel_rfl)
noncomputable abbrev s_iso_fields : FSpec := ⟨[.pair (.int .i64) (.pair (.sl (.pair (.int .i64) (.pair (.sl (.int .u8)) (.unit)))) (.unit))], [.im (.pair (.sl (.pair (.int .i64) (.pair (.sl (.int .u8)) (.unit)))) (.pair (.fn [106]) (.unit)))], iso_fields⟩
theorem c_iso_fields : FOK Try.prog 76 s_iso_fields := mkC (lookG_cons lookG_nil c_iso_fields_1) lookI_nil Try.func76 3 (by kernel_rfl) (by kernel_rfl) (fun x => by kernel_rfl)
noncomputable abbrev s_iso_rows_api_Val_find : FSpec := ⟨[.pair (.sl (.pair (.int .i64) (.pair (.sl (.int .u8)) (.unit)))) (.pair (.fn [106]) (.unit)), .int .i64], [.im (.int .i64), .im (.bool)], iso_rows_api_Val_find⟩
theorem c_iso_rows_api_Val_find : FOK Try.prog 78 s_iso_rows_api_Val_find := mkC (lookG_cons lookG_nil c_iso_fields_1) lookI_nil Try.func78 9 (by kernel_rfl) (by kernel_rfl) (fun x => by kernel_rfl)
noncomputable def I_slices_Grow_api_Val_api_Val : Inl := inlF (eN [(106, s_iso_fields_1)] []) Try.f107 5
theorem i_slices_Grow_api_Val_api_Val : InlOK Try.prog 107 I_slices_Grow_api_Val_api_Val := mkI (lookG_cons lookG_nil c_iso_fields_1) lookI_nil Try.func107 5 (by kernel_rfl) (by kernel_rfl)
noncomputable abbrev s_slices_Concat_api_Val_api_Val : FSpec := ⟨[.sl (.sl (.pair (.int .i64) (.pair (.sl (.int .u8)) (.unit))))], [.ow (.pair (.int .i64) (.pair (.sl (.int .u8)) (.unit)))], slices_Concat_api_Val_api_Val⟩
theorem c_slices_Concat_api_Val_api_Val : FOK Try.prog 79 s_slices_Concat_api_Val_api_Val := mkC (lookG_cons (lookG_cons (lookG_cons (lookG_cons (lookG_cons lookG_nil c_note_rule_1) c_note_kind_bare) c_note_kind_dated) c_note_kind_keyed) c_iso_fields_1) (lookI_cons lookI_nil i_slices_Grow_api_Val_api_Val) Try.func79 9 (by kernel_rfl) (by kernel_rfl) (fun x => by kernel_rfl)
noncomputable abbrev s_iso_rows_api_Val_with : FSpec := ⟨[.pair (.sl (.pair (.int .i64) (.pair (.sl (.int .u8)) (.unit)))) (.pair (.fn [106]) (.unit)), .pair (.int .i64) (.pair (.sl (.int .u8)) (.unit))], [.ow (.pair (.int .i64) (.pair (.sl (.int .u8)) (.unit)))], iso_rows_api_Val_with⟩
theorem c_iso_rows_api_Val_with : FOK Try.prog 77 s_iso_rows_api_Val_with := mkC (lookG_cons (lookG_cons (lookG_cons lookG_nil c_iso_fields_1) c_slices_Concat_api_Val_api_Val) c_iso_rows_api_Val_find) lookI_nil Try.func77 8 (by kernel_rfl) (by kernel_rfl) (fun x => by kernel_rfl)
noncomputable abbrev s_iso_Set : FSpec := ⟨[.pair (.int .i64) (.pair (.sl (.pair (.int .i64) (.pair (.sl (.int .u8)) (.unit)))) (.unit)), .int .i64, .sl (.int .u8)], [.im (.pair (.int .i64) (.pair (.sl (.pair (.int .i64) (.pair (.sl (.int .u8)) (.unit)))) (.unit))), .im (.int .i64)], iso_Set⟩
theorem c_iso_Set : FOK Try.prog 33 s_iso_Set := mkC (lookG_cons (lookG_cons (lookG_cons (lookG_cons (lookG_cons lookG_nil c_iso_fields_1) c_iso_rows_api_Val_with) c_iso_fields) c_field_Of) c_field_Fits) lookI_nil Try.func33 10 (by kernel_rfl) (by kernel_rfl) (fun x => by kernel_rfl)
noncomputable def I_note_message_1 : Inl := inlF (eN [(33, s_iso_Set)] []) Try.f108 4
theorem i_note_message_1 : InlOK Try.prog 108 I_note_message_1 := mkI (lookG_cons lookG_nil c_iso_Set) lookI_nil Try.func108 4 (by kernel_rfl) (by kernel_rfl)
noncomputable abbrev s_note_figures : FSpec := ⟨[.int .i64, .int .i64], [.ow (.int .u8)], note_figures⟩
theorem c_note_figures : FOK Try.prog 109 s_note_figures := mkC (lookG_cons lookG_nil c_dig_Digits) lookI_nil Try.func109 7 (by kernel_rfl) (by kernel_rfl) (fun x => by kernel_rfl)
noncomputable abbrev s_note_message : FSpec := ⟨[.pair (.bool) (.pair (.int .i64) (.pair (.int .i64) (.pair (.int .i64) (.pair (.int .i64) (.pair (.sl (.int .u8)) (.pair (.sl (.int .u8)) (.pair (.int .i64) (.unit))))))))], [.im (.pair (.int .i64) (.pair (.sl (.pair (.int .i64) (.pair (.sl (.int .u8)) (.unit)))) (.unit)))], note_message⟩
theorem c_note_message : FOK Try.prog 80 s_note_message := mkC (lookG_cons (lookG_cons lookG_nil c_note_figures) c_dig_Hex) (lookI_cons lookI_nil i_note_message_1) Try.func80 5 (by kernel_rfl) (by kernel_rfl) (fun x => by kernel_rfl)
noncomputable abbrev s_note_Write : FSpec := ⟨[.pair (.bool) (.pair (.int .i64) (.pair (.int .i64) (.pair (.int .i64) (.pair (.int .i64) (.pair (.sl (.int .u8)) (.pair (.sl (.int .u8)) (.pair (.int .i64) (.unit))))))))], [.ow (.int .u8), .im (.int .i64)], note_Write⟩
theorem c_note_Write : FOK Try.prog 41 s_note_Write := mkC (lookG_cons (lookG_cons (lookG_cons lookG_nil c_note_message) c_note_Right) c_iso_Write) lookI_nil Try.func41 4 (by kernel_rfl) (by kernel_rfl) (fun x => by kernel_rfl)
noncomputable abbrev s_note_Same : FSpec := ⟨[.pair (.bool) (.pair (.int .i64) (.pair (.int .i64) (.pair (.int .i64) (.pair (.int .i64) (.pair (.sl (.int .u8)) (.pair (.sl (.int .u8)) (.pair (.int .i64) (.unit)))))))), .pair (.bool) (.pair (.int .i64) (.pair (.int .i64) (.pair (.int .i64) (.pair (.int .i64) (.pair (.sl (.int .u8)) (.pair (.sl (.int .u8)) (.pair (.int .i64) (.unit))))))))], [.im (.bool)], note_Same⟩
theorem c_note_Same : FOK Try.prog 45 s_note_Same := mkC (lookG_cons lookG_nil c_bytes_Equal) lookI_nil Try.func45 7 (by kernel_rfl) (by kernel_rfl) (fun x => by kernel_rfl)
noncomputable abbrev s_note_Answer : FSpec := ⟨[.pair (.bool) (.pair (.int .i64) (.pair (.int .i64) (.pair (.int .i64) (.pair (.int .i64) (.pair (.sl (.int .u8)) (.pair (.sl (.int .u8)) (.pair (.int .i64) (.unit)))))))), .int .i64], [.im (.pair (.bool) (.pair (.int .i64) (.pair (.int .i64) (.pair (.int .i64) (.pair (.int .i64) (.pair (.sl (.int .u8)) (.pair (.sl (.int .u8)) (.pair (.int .i64) (.unit))))))))), .im (.int .i64)], note_Answer⟩
theorem c_note_Answer : FOK Try.prog 47 s_note_Answer := mkC lookG_nil lookI_nil Try.func47 6 (by kernel_rfl) (by kernel_rfl) (fun x => by kernel_rfl)
noncomputable abbrev s_slices_EqualFunc_api_Val_api_Val_api_Val_api_Val : FSpec := ⟨[.sl (.pair (.int .i64) (.pair (.sl (.int .u8)) (.unit))), .sl (.pair (.int .i64) (.pair (.sl (.int .u8)) (.unit))), .fn [65]], [.im (.bool)], slices_EqualFunc_api_Val_api_Val_api_Val_api_Val⟩
theorem c_slices_EqualFunc_api_Val_api_Val_api_Val_api_Val : FOK Try.prog 64 s_slices_EqualFunc_api_Val_api_Val_api_Val_api_Val := mkC (lookG_cons lookG_nil c_iso_Same_1) lookI_nil Try.func64 10 (by kernel_rfl) (by kernel_rfl) (fun x => by kernel_rfl)
noncomputable abbrev s_iso_Same : FSpec := ⟨[.pair (.int .i64) (.pair (.sl (.pair (.int .i64) (.pair (.sl (.int .u8)) (.unit)))) (.unit)), .pair (.int .i64) (.pair (.sl (.pair (.int .i64) (.pair (.sl (.int .u8)) (.unit)))) (.unit))], [.im (.bool)], iso_Same⟩
theorem c_iso_Same : FOK Try.prog 25 s_iso_Same := mkC (lookG_cons (lookG_cons lookG_nil c_iso_Same_1) c_slices_EqualFunc_api_Val_api_Val_api_Val_api_Val) lookI_nil Try.func25 5 (by kernel_rfl) (by kernel_rfl) (fun x => by kernel_rfl)
noncomputable abbrev s_dig_TakeBcd : FSpec := ⟨[.sl (.int .u8), .int .i64, .int .i64], [.im (.str), .im (.int .i64), .im (.int .i64)], dig_TakeBcd⟩
theorem c_dig_TakeBcd : FOK Try.prog 67 s_dig_TakeBcd := mkC (lookG_cons (lookG_cons (lookG_cons lookG_nil c_iso_Same_1) c_dig_Hex) c_dig_figure) lookI_nil Try.func67 15 (by kernel_rfl) (by kernel_rfl) (fun x => by kernel_rfl)
noncomputable abbrev s_dig_Value : FSpec := ⟨[.str], [.im (.int .i64), .im (.int .i64)], dig_Value⟩
theorem c_dig_Value : FOK Try.prog 68 s_dig_Value := mkC (lookG_cons (lookG_cons lookG_nil c_iso_Same_1) c_dig_figure) lookI_nil Try.func68 9 (by kernel_rfl) (by kernel_rfl) (fun x => by kernel_rfl)
theorem c_bitmap_Read : FOK Try.prog 69 s_bitmap_Read := h_bitmap_Read c_bitmap_Place
noncomputable abbrev s_field_Read : FSpec := ⟨[.int .i64, .sl (.int .u8), .int .i64], [.ow (.int .u8), .im (.int .i64), .im (.int .i64)], field_Read⟩
theorem c_field_Read : FOK Try.prog 71 s_field_Read := mkC (lookG_cons (lookG_cons (lookG_cons (lookG_cons (lookG_cons (lookG_cons (lookG_cons lookG_nil c_iso_fields_1) c_iso_Same_1) c_field_told) c_field_Of) c_dig_Value) c_dig_TakeBcd) c_field_Fits) lookI_nil Try.func71 20 (by kernel_rfl) (by kernel_rfl) (fun x => by kernel_rfl)
noncomputable abbrev s_iso_Read : FSpec := ⟨[.sl (.int .u8)], [.im (.pair (.int .i64) (.pair (.sl (.pair (.int .i64) (.pair (.sl (.int .u8)) (.unit)))) (.unit))), .im (.int .i64)], iso_Read⟩
theorem c_iso_Read : FOK Try.prog 31 s_iso_Read := mkC (lookG_cons (lookG_cons (lookG_cons (lookG_cons (lookG_cons (lookG_cons (lookG_cons lookG_nil c_iso_Same_1) c_field_Read) c_field_Of) c_bitmap_Read) c_dig_Value) c_dig_TakeBcd) c_iso_Type) lookI_nil Try.func31 20 (by kernel_rfl) (by kernel_rfl) (fun x => by kernel_rfl)
noncomputable abbrev s_iso_Get : FSpec := ⟨[.pair (.int .i64) (.pair (.sl (.pair (.int .i64) (.pair (.sl (.int .u8)) (.unit)))) (.unit)), .int .i64], [.im (.sl (.int .u8)), .im (.bool)], iso_Get⟩
theorem c_iso_Get : FOK Try.prog 35 s_iso_Get := mkC (lookG_cons (lookG_cons (lookG_cons lookG_nil c_iso_fields_1) c_iso_rows_api_Val_find) c_iso_fields) lookI_nil Try.func35 8 (by kernel_rfl) (by kernel_rfl) (fun x => by kernel_rfl)
noncomputable def I_note_Read_1 : Inl := inlF (eN [(35, s_iso_Get), (68, s_dig_Value)] [(108, I_note_message_1)]) Try.f84 7
theorem i_note_Read_1 : InlOK Try.prog 84 I_note_Read_1 := mkI (lookG_cons (lookG_cons lookG_nil c_dig_Value) c_iso_Get) (lookI_cons lookI_nil i_note_message_1) Try.func84 7 (by kernel_rfl) (by kernel_rfl)
noncomputable abbrev s_dig_half : FSpec := ⟨[.int .u8], [.im (.int .u8), .im (.bool)], dig_half⟩
theorem c_dig_half : FOK Try.prog 115 s_dig_half := mkC lookG_nil lookI_nil Try.func115 4 (by kernel_rfl) (by kernel_rfl) (fun x => by kernel_rfl)
noncomputable abbrev s_dig_Unhex : FSpec := ⟨[.str], [.ow (.int .u8), .im (.int .i64)], dig_Unhex⟩
theorem c_dig_Unhex : FOK Try.prog 85 s_dig_Unhex := mkC (lookG_cons lookG_nil c_dig_half) lookI_nil Try.func85 10 (by kernel_rfl) (by kernel_rfl) (fun x => by kernel_rfl)
noncomputable abbrev s_note_Read : FSpec := ⟨[.sl (.int .u8)], [.im (.pair (.bool) (.pair (.int .i64) (.pair (.int .i64) (.pair (.int .i64) (.pair (.int .i64) (.pair (.sl (.int .u8)) (.pair (.sl (.int .u8)) (.pair (.int .i64) (.unit))))))))), .im (.int .i64)], note_Read⟩
theorem c_note_Read : FOK Try.prog 49 s_note_Read := mkC (lookG_cons (lookG_cons (lookG_cons (lookG_cons (lookG_cons (lookG_cons lookG_nil c_dig_Unhex) c_note_message) c_note_Right) c_iso_Get) c_iso_Read) c_iso_Same) (lookI_cons lookI_nil i_note_Read_1) Try.func49 10 (by kernel_rfl) (by kernel_rfl) (fun x => by kernel_rfl)
noncomputable abbrev s_ref01_sign : FSpec := ⟨[.int .u8], [.im (.int .u8)], ref01_sign⟩
theorem c_ref01_sign : FOK Try.prog 90 s_ref01_sign := mkC lookG_nil lookI_nil Try.func90 3 (by kernel_rfl) (by kernel_rfl) (fun x => by kernel_rfl)
noncomputable abbrev s_ref01_Hex : FSpec := ⟨[.sl (.int .u8)], [.im (.str)], ref01_Hex⟩
theorem c_ref01_Hex : FOK Try.prog 52 s_ref01_Hex := mkC (lookG_cons lookG_nil c_ref01_sign) lookI_nil Try.func52 5 (by kernel_rfl) (by kernel_rfl) (fun x => by kernel_rfl)
noncomputable abbrev s_law16_shown : FSpec := ⟨[], [.im (.bool)], law16_shown⟩
theorem c_law16_shown : FOK Try.prog 39 s_law16_shown := mkC (lookG_cons (lookG_cons (lookG_cons (lookG_cons (lookG_cons (lookG_cons lookG_nil c_ref01_Hex) c_note_Read) c_note_Answer) c_note_Same) c_note_Right) c_note_Write) lookI_nil Try.func39 10 (by kernel_rfl) (by kernel_rfl) (fun x => by kernel_rfl)
noncomputable abbrev s_ref16_Few : FSpec := ⟨[.pair (.bool) (.pair (.int .i64) (.pair (.int .i64) (.pair (.int .i64) (.pair (.int .i64) (.pair (.sl (.int .u8)) (.pair (.sl (.int .u8)) (.pair (.int .i64) (.unit))))))))], [.im (.bool)], ref16_Few⟩
theorem c_ref16_Few : FOK Try.prog 40 s_ref16_Few := mkC lookG_nil lookI_nil Try.func40 3 (by kernel_rfl) (by kernel_rfl) (fun x => by kernel_rfl)
noncomputable abbrev s_ref07_Type : FSpec := ⟨[.int .i64], [.im (.bool)], ref07_Type⟩
theorem c_ref07_Type : FOK Try.prog 28 s_ref07_Type := mkC lookG_nil lookI_nil Try.func28 3 (by kernel_rfl) (by kernel_rfl) (fun x => by kernel_rfl)
noncomputable abbrev s_ref05_in : FSpec := ⟨[.sl (.int .i64), .int .i64], [.im (.bool)], ref05_in⟩
theorem c_ref05_in : FOK Try.prog 105 s_ref05_in := mkC lookG_nil lookI_nil Try.func105 6 (by kernel_rfl) (by kernel_rfl) (fun x => by kernel_rfl)
noncomputable abbrev s_ref05_Of : FSpec := ⟨[.int .i64], [.im (.pair (.int .i64) (.pair (.int .i64) (.unit))), .im (.bool)], ref05_Of⟩
theorem c_ref05_Of : FOK Try.prog 74 s_ref05_Of := mkC (lookG_cons lookG_nil c_ref05_in) lookI_nil Try.func74 7 (by kernel_rfl) (by kernel_rfl) (fun x => by kernel_rfl)
noncomputable abbrev s_ref05_fits : FSpec := ⟨[.pair (.int .i64) (.pair (.int .i64) (.unit)), .sl (.int .u8)], [.im (.bool)], ref05_fits⟩
theorem c_ref05_fits : FOK Try.prog 95 s_ref05_fits := mkC lookG_nil lookI_nil Try.func95 6 (by kernel_rfl) (by kernel_rfl) (fun x => by kernel_rfl)
noncomputable abbrev s_ref05_Fits : FSpec := ⟨[.int .i64, .sl (.int .u8)], [.im (.bool)], ref05_Fits⟩
theorem c_ref05_Fits : FOK Try.prog 63 s_ref05_Fits := mkC (lookG_cons (lookG_cons lookG_nil c_ref05_fits) c_ref05_Of) lookI_nil Try.func63 8 (by kernel_rfl) (by kernel_rfl) (fun x => by kernel_rfl)
noncomputable abbrev s_ref07_Right : FSpec := ⟨[.pair (.int .i64) (.pair (.sl (.pair (.int .i64) (.pair (.sl (.int .u8)) (.unit)))) (.unit))], [.im (.bool)], ref07_Right⟩
theorem c_ref07_Right : FOK Try.prog 24 s_ref07_Right := mkC (lookG_cons (lookG_cons lookG_nil c_ref05_Fits) c_ref07_Type) lookI_nil Try.func24 5 (by kernel_rfl) (by kernel_rfl) (fun x => by kernel_rfl)
noncomputable abbrev s_ref01_Figures : FSpec := ⟨[.str], [.im (.bool)], ref01_Figures⟩
theorem c_ref01_Figures : FOK Try.prog 88 s_ref01_Figures := mkC lookG_nil lookI_nil Try.func88 4 (by kernel_rfl) (by kernel_rfl) (fun x => by kernel_rfl)
noncomputable abbrev s_ref01_Bcd : FSpec := ⟨[.str], [.ow (.int .u8), .im (.int .i64)], ref01_Bcd⟩
theorem c_ref01_Bcd : FOK Try.prog 59 s_ref01_Bcd := mkC (lookG_cons lookG_nil c_ref01_Figures) lookI_nil Try.func59 6 (by kernel_rfl) (by kernel_rfl) (fun x => by kernel_rfl)
noncomputable abbrev s_ref05_count : FSpec := ⟨[.int .i64], [.im (.int .i64)], ref05_count⟩
theorem c_ref05_count : FOK Try.prog 96 s_ref05_count := mkC lookG_nil lookI_nil Try.func96 3 (by kernel_rfl) (by kernel_rfl) (fun x => by kernel_rfl)
noncomputable abbrev s_ref01_power : FSpec := ⟨[.int .i64, .int .i64], [.im (.int .i64)], ref01_power⟩
theorem c_ref01_power : FOK Try.prog 89 s_ref01_power := mkC lookG_nil lookI_nil Try.func89 7 (by kernel_rfl) (by kernel_rfl) (fun x => by kernel_rfl)
noncomputable abbrev s_ref01_Digits : FSpec := ⟨[.int .i64, .int .i64], [.im (.str), .im (.int .i64)], ref01_Digits⟩
theorem c_ref01_Digits : FOK Try.prog 97 s_ref01_Digits := mkC (lookG_cons lookG_nil c_ref01_power) lookI_nil Try.func97 8 (by kernel_rfl) (by kernel_rfl) (fun x => by kernel_rfl)
noncomputable abbrev s_ref05_Write : FSpec := ⟨[.int .i64, .sl (.int .u8)], [.ow (.int .u8), .im (.int .i64)], ref05_Write⟩
theorem c_ref05_Write : FOK Try.prog 57 s_ref05_Write := mkC (lookG_cons (lookG_cons (lookG_cons (lookG_cons (lookG_cons lookG_nil c_ref01_Digits) c_ref05_count) c_ref05_fits) c_ref05_Of) c_ref01_Bcd) lookI_nil Try.func57 16 (by kernel_rfl) (by kernel_rfl) (fun x => by kernel_rfl)
noncomputable abbrev s_ref06_Right : FSpec := ⟨[.sl (.int .i64)], [.im (.bool)], ref06_Right⟩
theorem c_ref06_Right : FOK Try.prog 98 s_ref06_Right := mkC lookG_nil lookI_nil Try.func98 4 (by kernel_rfl) (by kernel_rfl) (fun x => by kernel_rfl)
noncomputable abbrev s_ref06_Place : FSpec := ⟨[.int .i64], [.im (.int .i64), .im (.int .u8)], ref06_Place⟩
theorem c_ref06_Place : FOK Try.prog 99 s_ref06_Place := mkC lookG_nil lookI_nil Try.func99 6 (by kernel_rfl) (by kernel_rfl) (fun x => by kernel_rfl)
noncomputable abbrev s_ref06_Write : FSpec := ⟨[.sl (.int .i64)], [.ow (.int .u8), .im (.int .i64)], ref06_Write⟩
theorem c_ref06_Write : FOK Try.prog 58 s_ref06_Write := mkC (lookG_cons (lookG_cons lookG_nil c_ref06_Place) c_ref06_Right) lookI_nil Try.func58 11 (by kernel_rfl) (by kernel_rfl) (fun x => by kernel_rfl)
noncomputable abbrev s_ref07_four : FSpec := ⟨[.int .i64], [.im (.str)], ref07_four⟩
theorem c_ref07_four : FOK Try.prog 60 s_ref07_four := mkC (lookG_cons lookG_nil c_ref01_Digits) lookI_nil Try.func60 5 (by kernel_rfl) (by kernel_rfl) (fun x => by kernel_rfl)
noncomputable abbrev s_ref07_Write : FSpec := ⟨[.pair (.int .i64) (.pair (.sl (.pair (.int .i64) (.pair (.sl (.int .u8)) (.unit)))) (.unit))], [.ow (.int .u8), .im (.int .i64)], ref07_Write⟩
theorem c_ref07_Write : FOK Try.prog 19 s_ref07_Write := mkC (lookG_cons (lookG_cons (lookG_cons (lookG_cons (lookG_cons lookG_nil c_ref07_four) c_ref01_Bcd) c_ref06_Write) c_ref05_Write) c_ref07_Right) lookI_nil Try.func19 14 (by kernel_rfl) (by kernel_rfl) (fun x => by kernel_rfl)
noncomputable abbrev s_ref15_Known : FSpec := ⟨[.int .i64], [.im (.bool)], ref15_Known⟩
theorem c_ref15_Known : FOK Try.prog 82 s_ref15_Known := mkC lookG_nil lookI_nil Try.func82 3 (by kernel_rfl) (by kernel_rfl) (fun x => by kernel_rfl)
noncomputable abbrev s_ref16_Right : FSpec := ⟨[.pair (.bool) (.pair (.int .i64) (.pair (.int .i64) (.pair (.int .i64) (.pair (.int .i64) (.pair (.sl (.int .u8)) (.pair (.sl (.int .u8)) (.pair (.int .i64) (.unit))))))))], [.im (.bool)], ref16_Right⟩
theorem c_ref16_Right : FOK Try.prog 43 s_ref16_Right := mkC (lookG_cons (lookG_cons lookG_nil c_iso_Same_1) c_ref15_Known) lookI_nil Try.func43 4 (by kernel_rfl) (by kernel_rfl) (fun x => by kernel_rfl)
noncomputable abbrev s_ref16_figures : FSpec := ⟨[.int .i64, .int .i64], [.ow (.int .u8)], ref16_figures⟩
theorem c_ref16_figures : FOK Try.prog 110 s_ref16_figures := mkC (lookG_cons lookG_nil c_ref01_Digits) lookI_nil Try.func110 7 (by kernel_rfl) (by kernel_rfl) (fun x => by kernel_rfl)
noncomputable abbrev s_ref16_Message : FSpec := ⟨[.pair (.bool) (.pair (.int .i64) (.pair (.int .i64) (.pair (.int .i64) (.pair (.int .i64) (.pair (.sl (.int .u8)) (.pair (.sl (.int .u8)) (.pair (.int .i64) (.unit))))))))], [.im (.pair (.int .i64) (.pair (.sl (.pair (.int .i64) (.pair (.sl (.int .u8)) (.unit)))) (.unit)))], ref16_Message⟩
theorem c_ref16_Message : FOK Try.prog 81 s_ref16_Message := mkC (lookG_cons (lookG_cons (lookG_cons lookG_nil c_iso_fields_1) c_ref16_figures) c_ref01_Hex) lookI_nil Try.func81 4 (by kernel_rfl) (by kernel_rfl) (fun x => by kernel_rfl)
noncomputable abbrev s_ref16_Write : FSpec := ⟨[.pair (.bool) (.pair (.int .i64) (.pair (.int .i64) (.pair (.int .i64) (.pair (.int .i64) (.pair (.sl (.int .u8)) (.pair (.sl (.int .u8)) (.pair (.int .i64) (.unit))))))))], [.ow (.int .u8), .im (.int .i64)], ref16_Write⟩
theorem c_ref16_Write : FOK Try.prog 42 s_ref16_Write := mkC (lookG_cons (lookG_cons (lookG_cons lookG_nil c_ref16_Message) c_ref16_Right) c_ref07_Write) lookI_nil Try.func42 7 (by kernel_rfl) (by kernel_rfl) (fun x => by kernel_rfl)
noncomputable abbrev s_ref16_Same : FSpec := ⟨[.pair (.bool) (.pair (.int .i64) (.pair (.int .i64) (.pair (.int .i64) (.pair (.int .i64) (.pair (.sl (.int .u8)) (.pair (.sl (.int .u8)) (.pair (.int .i64) (.unit)))))))), .pair (.bool) (.pair (.int .i64) (.pair (.int .i64) (.pair (.int .i64) (.pair (.int .i64) (.pair (.sl (.int .u8)) (.pair (.sl (.int .u8)) (.pair (.int .i64) (.unit))))))))], [.im (.bool)], ref16_Same⟩
theorem c_ref16_Same : FOK Try.prog 46 s_ref16_Same := mkC (lookG_cons lookG_nil c_ref01_Same) lookI_nil Try.func46 5 (by kernel_rfl) (by kernel_rfl) (fun x => by kernel_rfl)
noncomputable abbrev s_ref16_Answer : FSpec := ⟨[.pair (.bool) (.pair (.int .i64) (.pair (.int .i64) (.pair (.int .i64) (.pair (.int .i64) (.pair (.sl (.int .u8)) (.pair (.sl (.int .u8)) (.pair (.int .i64) (.unit)))))))), .int .i64], [.im (.pair (.bool) (.pair (.int .i64) (.pair (.int .i64) (.pair (.int .i64) (.pair (.int .i64) (.pair (.sl (.int .u8)) (.pair (.sl (.int .u8)) (.pair (.int .i64) (.unit))))))))), .im (.int .i64)], ref16_Answer⟩
theorem c_ref16_Answer : FOK Try.prog 48 s_ref16_Answer := mkC lookG_nil lookI_nil Try.func48 6 (by kernel_rfl) (by kernel_rfl) (fun x => by kernel_rfl)
noncomputable abbrev s_law16_NoteTells : FSpec := ⟨[.pair (.bool) (.pair (.int .i64) (.pair (.int .i64) (.pair (.int .i64) (.pair (.int .i64) (.pair (.sl (.int .u8)) (.pair (.sl (.int .u8)) (.pair (.int .i64) (.unit)))))))), .pair (.bool) (.pair (.int .i64) (.pair (.int .i64) (.pair (.int .i64) (.pair (.int .i64) (.pair (.sl (.int .u8)) (.pair (.sl (.int .u8)) (.pair (.int .i64) (.unit)))))))), .int .i64], [.im (.bool)], law16_NoteTells⟩
theorem c_law16_NoteTells : FOK Try.prog 11 s_law16_NoteTells := mkC (lookG_cons (lookG_cons (lookG_cons (lookG_cons (lookG_cons (lookG_cons (lookG_cons (lookG_cons (lookG_cons (lookG_cons (lookG_cons lookG_nil c_ref16_Answer) c_note_Answer) c_ref16_Same) c_note_Same) c_note_Right) c_ref16_Right) c_ref16_Write) c_note_Write) c_ref16_Few) c_law16_shown) c_ref01_Same) lookI_nil Try.func11 17 (by kernel_rfl) (by kernel_rfl) (fun x => by kernel_rfl)
noncomputable abbrev s_ref01_Value : FSpec := ⟨[.str], [.im (.int .i64), .im (.int .i64)], ref01_Value⟩
theorem c_ref01_Value : FOK Try.prog 51 s_ref01_Value := mkC (lookG_cons (lookG_cons lookG_nil c_ref01_power) c_ref01_Figures) lookI_nil Try.func51 6 (by kernel_rfl) (by kernel_rfl) (fun x => by kernel_rfl)
noncomputable abbrev s_ref01_TakeBcd : FSpec := ⟨[.sl (.int .u8), .int .i64, .int .i64], [.im (.str), .im (.int .i64), .im (.int .i64)], ref01_TakeBcd⟩
theorem c_ref01_TakeBcd : FOK Try.prog 72 s_ref01_TakeBcd := mkC (lookG_cons lookG_nil c_iso_Same_1) lookI_nil Try.func72 13 (by kernel_rfl) (by kernel_rfl) (fun x => by kernel_rfl)
noncomputable abbrev s_ref06_has : FSpec := ⟨[.sl (.int .u8), .int .i64], [.im (.bool)], ref06_has⟩
theorem c_ref06_has : FOK Try.prog 104 s_ref06_has := mkC (lookG_cons lookG_nil c_ref06_Place) lookI_nil Try.func104 7 (by kernel_rfl) (by kernel_rfl) (fun x => by kernel_rfl)
noncomputable abbrev s_ref06_Read : FSpec := ⟨[.sl (.int .u8), .int .i64], [.ow (.int .i64), .im (.int .i64), .im (.int .i64)], ref06_Read⟩
theorem c_ref06_Read : FOK Try.prog 73 s_ref06_Read := mkC (lookG_cons lookG_nil c_ref06_has) lookI_nil Try.func73 12 (by kernel_rfl) (by kernel_rfl) (fun x => by kernel_rfl)
noncomputable abbrev s_ref05_Read : FSpec := ⟨[.int .i64, .sl (.int .u8), .int .i64], [.ow (.int .u8), .im (.int .i64), .im (.int .i64)], ref05_Read⟩
theorem c_ref05_Read : FOK Try.prog 75 s_ref05_Read := mkC (lookG_cons (lookG_cons (lookG_cons (lookG_cons (lookG_cons (lookG_cons (lookG_cons (lookG_cons (lookG_cons (lookG_cons (lookG_cons lookG_nil c_note_rule_1) c_note_kind_bare) c_note_kind_dated) c_note_kind_keyed) c_iso_fields_1) c_iso_Same_1) c_ref05_count) c_ref05_fits) c_ref05_Of) c_ref01_TakeBcd) c_ref01_Value) lookI_nil Try.func75 23 (by kernel_rfl) (by kernel_rfl) (fun x => by kernel_rfl)
noncomputable abbrev s_ref07_Read : FSpec := ⟨[.sl (.int .u8)], [.im (.pair (.int .i64) (.pair (.sl (.pair (.int .i64) (.pair (.sl (.int .u8)) (.unit)))) (.unit))), .im (.int .i64)], ref07_Read⟩
theorem c_ref07_Read : FOK Try.prog 32 s_ref07_Read := mkC (lookG_cons (lookG_cons (lookG_cons (lookG_cons (lookG_cons (lookG_cons (lookG_cons (lookG_cons lookG_nil c_iso_fields_1) c_iso_Same_1) c_ref05_Read) c_ref05_Of) c_ref06_Read) c_ref01_TakeBcd) c_ref01_Value) c_ref07_Type) lookI_nil Try.func32 20 (by kernel_rfl) (by kernel_rfl) (fun x => by kernel_rfl)
noncomputable abbrev s_ref07_Get : FSpec := ⟨[.pair (.int .i64) (.pair (.sl (.pair (.int .i64) (.pair (.sl (.int .u8)) (.unit)))) (.unit)), .int .i64], [.im (.sl (.int .u8)), .im (.bool)], ref07_Get⟩
theorem c_ref07_Get : FOK Try.prog 36 s_ref07_Get := mkC lookG_nil lookI_nil Try.func36 7 (by kernel_rfl) (by kernel_rfl) (fun x => by kernel_rfl)
noncomputable abbrev s_ref01_worth : FSpec := ⟨[.int .u8], [.im (.int .i64)], ref01_worth⟩
theorem c_ref01_worth : FOK Try.prog 116 s_ref01_worth := mkC lookG_nil lookI_nil Try.func116 3 (by kernel_rfl) (by kernel_rfl) (fun x => by kernel_rfl)
noncomputable abbrev s_ref01_Unhex : FSpec := ⟨[.str], [.ow (.int .u8), .im (.int .i64)], ref01_Unhex⟩
theorem c_ref01_Unhex : FOK Try.prog 86 s_ref01_Unhex := mkC (lookG_cons lookG_nil c_ref01_worth) lookI_nil Try.func86 8 (by kernel_rfl) (by kernel_rfl) (fun x => by kernel_rfl)
noncomputable abbrev s_ref16_number : FSpec := ⟨[.pair (.int .i64) (.pair (.sl (.pair (.int .i64) (.pair (.sl (.int .u8)) (.unit)))) (.unit)), .int .i64], [.im (.int .i64)], ref16_number⟩
theorem c_ref16_number : FOK Try.prog 87 s_ref16_number := mkC (lookG_cons (lookG_cons lookG_nil c_ref01_Value) c_ref07_Get) lookI_nil Try.func87 9 (by kernel_rfl) (by kernel_rfl) (fun x => by kernel_rfl)
noncomputable abbrev s_ref16_Read : FSpec := ⟨[.sl (.int .u8)], [.im (.pair (.bool) (.pair (.int .i64) (.pair (.int .i64) (.pair (.int .i64) (.pair (.int .i64) (.pair (.sl (.int .u8)) (.pair (.sl (.int .u8)) (.pair (.int .i64) (.unit))))))))), .im (.int .i64)], ref16_Read⟩
theorem c_ref16_Read : FOK Try.prog 50 s_ref16_Read := mkC (lookG_cons (lookG_cons (lookG_cons (lookG_cons (lookG_cons (lookG_cons lookG_nil c_ref16_number) c_ref01_Unhex) c_ref16_Write) c_ref07_Get) c_ref07_Read) c_ref01_Same) lookI_nil Try.func50 15 (by kernel_rfl) (by kernel_rfl) (fun x => by kernel_rfl)
noncomputable abbrev s_law16_NoteReads : FSpec := ⟨[.sl (.int .u8)], [.im (.bool)], law16_NoteReads⟩
theorem c_law16_NoteReads : FOK Try.prog 12 s_law16_NoteReads := mkC (lookG_cons (lookG_cons (lookG_cons (lookG_cons lookG_nil c_ref16_Read) c_note_Read) c_ref16_Same) c_law16_shown) lookI_nil Try.func12 8 (by kernel_rfl) (by kernel_rfl) (fun x => by kernel_rfl)
noncomputable abbrev s_law16_NoteBack : FSpec := ⟨[.pair (.bool) (.pair (.int .i64) (.pair (.int .i64) (.pair (.int .i64) (.pair (.int .i64) (.pair (.sl (.int .u8)) (.pair (.sl (.int .u8)) (.pair (.int .i64) (.unit)))))))), .sl (.int .u8)], [.im (.bool)], law16_NoteBack⟩
theorem c_law16_NoteBack : FOK Try.prog 13 s_law16_NoteBack := mkC (lookG_cons (lookG_cons (lookG_cons (lookG_cons (lookG_cons (lookG_cons (lookG_cons lookG_nil c_note_Read) c_ref16_Same) c_ref16_Right) c_note_Write) c_ref16_Few) c_law16_shown) c_ref01_Same) lookI_nil Try.func13 14 (by kernel_rfl) (by kernel_rfl) (fun x => by kernel_rfl)
noncomputable abbrev s_law16_NoteAnswers : FSpec := ⟨[.pair (.bool) (.pair (.int .i64) (.pair (.int .i64) (.pair (.int .i64) (.pair (.int .i64) (.pair (.sl (.int .u8)) (.pair (.sl (.int .u8)) (.pair (.int .i64) (.unit)))))))), .pair (.bool) (.pair (.int .i64) (.pair (.int .i64) (.pair (.int .i64) (.pair (.int .i64) (.pair (.sl (.int .u8)) (.pair (.sl (.int .u8)) (.pair (.int .i64) (.unit)))))))), .int .i64], [.im (.bool)], law16_NoteAnswers⟩
theorem c_law16_NoteAnswers : FOK Try.prog 14 s_law16_NoteAnswers := mkC (lookG_cons (lookG_cons (lookG_cons (lookG_cons (lookG_cons (lookG_cons (lookG_cons (lookG_cons (lookG_cons (lookG_cons (lookG_cons (lookG_cons (lookG_cons lookG_nil c_note_rule_1) c_note_kind_bare) c_note_kind_dated) c_note_kind_keyed) c_iso_fields_1) c_iso_Same_1) c_note_Answer) c_ref16_Same) c_ref16_Right) c_note_Write) c_ref16_Few) c_law16_shown) c_ref01_Same) lookI_nil Try.func14 16 (by kernel_rfl) (by kernel_rfl) (fun x => by kernel_rfl)
noncomputable abbrev s_ref07_Set : FSpec := ⟨[.pair (.int .i64) (.pair (.sl (.pair (.int .i64) (.pair (.sl (.int .u8)) (.unit)))) (.unit)), .int .i64, .sl (.int .u8)], [.im (.pair (.int .i64) (.pair (.sl (.pair (.int .i64) (.pair (.sl (.int .u8)) (.unit)))) (.unit))), .im (.int .i64)], ref07_Set⟩
theorem c_ref07_Set : FOK Try.prog 34 s_ref07_Set := mkC (lookG_cons (lookG_cons lookG_nil c_ref05_Of) c_ref05_Fits) lookI_nil Try.func34 14 (by kernel_rfl) (by kernel_rfl) (fun x => by kernel_rfl)
noncomputable abbrev s_ref07_Drop : FSpec := ⟨[.pair (.int .i64) (.pair (.sl (.pair (.int .i64) (.pair (.sl (.int .u8)) (.unit)))) (.unit)), .int .i64], [.im (.pair (.int .i64) (.pair (.sl (.pair (.int .i64) (.pair (.sl (.int .u8)) (.unit)))) (.unit)))], ref07_Drop⟩
theorem c_ref07_Drop : FOK Try.prog 38 s_ref07_Drop := mkC lookG_nil lookI_nil Try.func38 7 (by kernel_rfl) (by kernel_rfl) (fun x => by kernel_rfl)
noncomputable abbrev s_law16_NoteFields : FSpec := ⟨[.pair (.bool) (.pair (.int .i64) (.pair (.int .i64) (.pair (.int .i64) (.pair (.int .i64) (.pair (.sl (.int .u8)) (.pair (.sl (.int .u8)) (.pair (.int .i64) (.unit)))))))), .int .u8, .sl (.int .u8)], [.im (.bool)], law16_NoteFields⟩
theorem c_law16_NoteFields : FOK Try.prog 15 s_law16_NoteFields := mkC (lookG_cons (lookG_cons (lookG_cons (lookG_cons (lookG_cons (lookG_cons (lookG_cons (lookG_cons (lookG_cons (lookG_cons (lookG_cons (lookG_cons (lookG_cons (lookG_cons (lookG_cons (lookG_cons (lookG_cons lookG_nil c_note_rule_1) c_note_kind_bare) c_note_kind_dated) c_note_kind_keyed) c_iso_fields_1) c_iso_Same_1) c_ref01_Value) c_note_Read) c_ref16_Right) c_note_Write) c_ref16_Few) c_law16_shown) c_ref07_Drop) c_ref07_Get) c_ref07_Set) c_ref07_Read) c_ref07_Write) lookI_nil Try.func15 30 (by kernel_rfl) (by kernel_rfl) (fun x => by kernel_rfl)
end Yp
namespace Yp
open Go
abbrev V := Int × List UInt8 × Unit
abbrev M := Int × List V × Unit
def typeOK (m : Int) : Prop := 100 ≤ m ∧ m ≤ 899 ∧ m / 10 % 10 ≤ 4 ∧ m % 10 ≤ 5
instance (m : Int) : Decidable (typeOK m) := inferInstanceAs (Decidable (_ ∧ _))
theorem iso_figure_spec (m : Int) (n : Nat) (hn : n ≤ 3) (h0 : 0 ≤ m) (h : m ≤ 9223372036854775807) : iso_figure (m, (n : Int), ()) = some (m / 10 ^ n % 10, ()) := by
  unfold iso_figure
  generalize hf : (fun (x_1 : Int × Int × Unit) => _) = f
  have step : ∀ (k : Int) (i : Nat), i < n → 0 ≤ k → k ≤ 9223372036854775807 → f (k, (i : Int), ()) = some (.nx (k / 10, ((i + 1 : Nat) : Int), ())) := fun k i hi h0 h1 => by
    subst hf; simp (disch := first | assumption | omega | (dsimp only; omega) | decide) only [↓g02, ↓g03, ↓g04, ↓g05, ↓g06, g01, g02, g03, g04, g05, g06, g07, g08, g09, g10, g11, g12, g13, g14, g15, g16, g17, g18, g19, g20, g21, g22, g23, g24, g25, g26, g27, g28, g29, g30, g31, g32, g34, g35, g36, g37, g38, g39, g40, g41, g42, g43, g44, g45, g46, g47, g48, g49, g50, g51, g52, g53, g54, g55, g56, g57, g58, g60, g61, eq_self, not_true_eq_false, not_false_eq_true, List.nil_append, List.append_nil, List.length_nil, and_true, true_and, or_true, true_or, or_false, false_or, and_false, false_and, iff_self, if_true, if_false, lc_rt', lc_ex', lc_nx, g62, g63, Int.toNat_natCast, Int.natCast_add, nth_get, g33, g64, g65, Int.toNat_zero, Bool.false_eq_true, Int.reduceToNat, g66]
  have last : ∀ (k : Int), f (k, (n : Int), ()) = some (.ex 0 (k, (n : Int), ())) := fun k => by
    subst hf; simp (disch := first | assumption | omega | (dsimp only; omega) | decide) only [↓g02, ↓g03, ↓g04, ↓g05, ↓g06, g01, g02, g03, g04, g05, g06, g07, g08, g09, g10, g11, g12, g13, g14, g15, g16, g17, g18, g19, g20, g21, g22, g23, g24, g25, g26, g27, g28, g29, g30, g31, g32, g34, g35, g36, g37, g38, g39, g40, g41, g42, g43, g44, g45, g46, g47, g48, g49, g50, g51, g52, g53, g54, g55, g56, g57, g58, g60, g61, eq_self, not_true_eq_false, not_false_eq_true, List.nil_append, List.append_nil, List.length_nil, and_true, true_and, or_true, true_or, or_false, false_or, and_false, false_and, iff_self, if_true, if_false, lc_rt', lc_ex', lc_nx, g62, g63, Int.toNat_natCast, Int.natCast_add, nth_get, g33, g64, g65, Int.toNat_zero, Bool.false_eq_true, Int.reduceToNat, g66]
  have hn : n = 0 ∨ n = 1 ∨ n = 2 ∨ n = 3 := by omega
  have e : loop f (m, ((0 : Nat) : Int), ()) = some (.ex 0 (m / 10 ^ n, (n : Int), ())) := by
    rcases hn with rfl | rfl | rfl | rfl
    · rw [loop_ex (last m)]; simp
    · rw [loop_nx (step m 0 (by omega) h0 h), loop_ex (last _)]; simp
    · rw [loop_nx (step m 0 (by omega) h0 h), loop_nx (step _ 1 (by omega) (by omega) (by omega)), loop_ex (last _)]; simp; omega
    · rw [loop_nx (step m 0 (by omega) h0 h), loop_nx (step _ 1 (by omega) (by omega) (by omega)), loop_nx (step _ 2 (by omega) (by omega) (by omega)), loop_ex (last _)]; simp; omega
  refine (lc_eq e).trans ?_
  have : 0 ≤ m / 10 ^ n := by rcases hn with rfl | rfl | rfl | rfl <;> simp <;> omega
  simp (disch := first | assumption | omega | (dsimp only; omega) | decide) only [↓g02, ↓g03, ↓g04, ↓g05, ↓g06, g01, g02, g03, g04, g05, g06, g07, g08, g09, g10, g11, g12, g13, g14, g15, g16, g17, g18, g19, g20, g21, g22, g23, g24, g25, g26, g27, g28, g29, g30, g31, g32, g34, g35, g36, g37, g38, g39, g40, g41, g42, g43, g44, g45, g46, g47, g48, g49, g50, g51, g52, g53, g54, g55, g56, g57, g58, g60, g61, eq_self, not_true_eq_false, not_false_eq_true, List.nil_append, List.append_nil, List.length_nil, and_true, true_and, or_true, true_or, or_false, false_or, and_false, false_and, iff_self, if_true, if_false, lc_rt', lc_ex', lc_nx, g62, g63, Int.toNat_natCast, Int.natCast_add, nth_get, g33, g64, g65, Int.toNat_zero, Bool.false_eq_true, Int.reduceToNat, g66]
theorem iso_Type_spec (m : Int) : iso_Type (m, ()) = some (D (typeOK m), ()) := by
  unfold iso_Type
  by_cases h : m < 0 ∨ 999 < m
  · have hn : ¬ typeOK m := by unfold typeOK; omega
    simp (disch := first | assumption | omega | (dsimp only; omega) | decide) only [↓g02, ↓g03, ↓g04, ↓g05, ↓g06, g01, g02, g03, g04, g05, g06, g07, g08, g09, g10, g11, g12, g13, g14, g15, g16, g17, g18, g19, g20, g21, g22, g23, g24, g25, g26, g27, g28, g29, g30, g31, g32, g34, g35, g36, g37, g38, g39, g40, g41, g42, g43, g44, g45, g46, g47, g48, g49, g50, g51, g52, g53, g54, g55, g56, g57, g58, g60, g61, eq_self, not_true_eq_false, not_false_eq_true, List.nil_append, List.append_nil, List.length_nil, and_true, true_and, or_true, true_or, or_false, false_or, and_false, false_and, iff_self, if_true, if_false, lc_rt', lc_ex', lc_nx, g62, g63, Int.toNat_natCast, Int.natCast_add, nth_get, g33, g64, g65, Int.toNat_zero, Bool.false_eq_true, Int.reduceToNat, g66, hn]
  · have h0 := iso_figure_spec m 0 (by omega) (by omega) (by omega)
    have h1 := iso_figure_spec m 1 (by omega) (by omega) (by omega)
    have h2 := iso_figure_spec m 2 (by omega) (by omega) (by omega)
    simp at h0 h1 h2
    simp (disch := first | assumption | omega | (dsimp only; omega) | decide) only [↓g02, ↓g03, ↓g04, ↓g05, ↓g06, g01, g02, g03, g04, g05, g06, g07, g08, g09, g10, g11, g12, g13, g14, g15, g16, g17, g18, g19, g20, g21, g22, g23, g24, g25, g26, g27, g28, g29, g30, g31, g32, g34, g35, g36, g37, g38, g39, g40, g41, g42, g43, g44, g45, g46, g47, g48, g49, g50, g51, g52, g53, g54, g55, g56, g57, g58, g60, g61, eq_self, not_true_eq_false, not_false_eq_true, List.nil_append, List.append_nil, List.length_nil, and_true, true_and, or_true, true_or, or_false, false_or, and_false, false_and, iff_self, if_true, if_false, lc_rt', lc_ex', lc_nx, g62, g63, Int.toNat_natCast, Int.natCast_add, nth_get, g33, g64, g65, Int.toNat_zero, Bool.false_eq_true, Int.reduceToNat, g66, h0, h1, h2]
    exact some_DD (by unfold typeOK; omega)
theorem ref07_Type_spec (m : Int) : ref07_Type (m, ()) = some (D (typeOK m), ()) := by
  unfold ref07_Type
  by_cases h : 100 ≤ m ∧ m ≤ 899
  · simp (disch := first | assumption | omega | (dsimp only; omega) | decide) only [↓g02, ↓g03, ↓g04, ↓g05, ↓g06, g01, g02, g03, g04, g05, g06, g07, g08, g09, g10, g11, g12, g13, g14, g15, g16, g17, g18, g19, g20, g21, g22, g23, g24, g25, g26, g27, g28, g29, g30, g31, g32, g34, g35, g36, g37, g38, g39, g40, g41, g42, g43, g44, g45, g46, g47, g48, g49, g50, g51, g52, g53, g54, g55, g56, g57, g58, g60, g61, eq_self, not_true_eq_false, not_false_eq_true, List.nil_append, List.append_nil, List.length_nil, and_true, true_and, or_true, true_or, or_false, false_or, and_false, false_and, iff_self, if_true, if_false, lc_rt', lc_ex', lc_nx, g62, g63, Int.toNat_natCast, Int.natCast_add, nth_get, g33, g64, g65, Int.toNat_zero, Bool.false_eq_true, Int.reduceToNat, g66]
    exact some_DD (by unfold typeOK; omega)
  · have hn : ¬ typeOK m := by unfold typeOK; omega
    simp (disch := first | assumption | omega | (dsimp only; omega) | decide) only [↓g02, ↓g03, ↓g04, ↓g05, ↓g06, g01, g02, g03, g04, g05, g06, g07, g08, g09, g10, g11, g12, g13, g14, g15, g16, g17, g18, g19, g20, g21, g22, g23, g24, g25, g26, g27, g28, g29, g30, g31, g32, g34, g35, g36, g37, g38, g39, g40, g41, g42, g43, g44, g45, g46, g47, g48, g49, g50, g51, g52, g53, g54, g55, g56, g57, g58, g60, g61, eq_self, not_true_eq_false, not_false_eq_true, List.nil_append, List.append_nil, List.length_nil, and_true, true_and, or_true, true_or, or_false, false_or, and_false, false_and, iff_self, if_true, if_false, lc_rt', lc_ex', lc_nx, g62, g63, Int.toNat_natCast, Int.natCast_add, nth_get, g33, g64, g65, Int.toNat_zero, Bool.false_eq_true, Int.reduceToNat, g66, hn]
def rightF : Int → List V → Bool
  | _, [] => true
  | last, v :: r => decide (last < v.1) && (fitsD v.1 v.2.1 && rightF v.1 r)
def rightM (m : M) : Bool := rightF 0 m.2.1 && decide (typeOK m.1)
def fewM (m : M) : Prop := m.2.1.length ≤ 1000 ∧ ∀ v ∈ m.2.1, v.2.1.length ≤ 1000000
theorem fewM.nth {m : M} (h : fewM m) {i : Nat} (hi : i < m.2.1.length) : (m.2.1[i]).2.1.length ≤ 1000000 := h.2 _ (List.getElem_mem hi)
def rightStep (last : Int) (v : V) : LS Int (Bool × Unit) := if last < v.1 ∧ fitsD v.1 v.2.1 = true then .nx v.1 else .rt (false, ())
theorem foldS_right {σ : Type} {mk : Int → Nat → σ} {e : Nat} : ∀ (l : List V) (last : Int) (i : Nat), (rightF last l = true ∧ ∃ y, foldS mk e rightStep last i l = .ex e y) ∨ (rightF last l = false ∧ foldS mk e rightStep last i l = .rt (false, ()))
  | [], last, i => .inl ⟨rfl, _, rfl⟩
  | v :: r, last, i => by
    by_cases h : last < v.1 ∧ fitsD v.1 v.2.1 = true
    · have hs : rightStep last v = .nx v.1 := if_pos h
      have := foldS_right (mk := mk) (e := e) r v.1 (i + 1)
      simp only [foldS, hs, rightF, h.1, h.2, decide_true, Bool.true_and]; exact this
    · have hs : rightStep last v = .rt (false, ()) := if_neg h
      refine .inr ⟨?_, by simp only [foldS, hs]⟩
      simp only [rightF, Bool.and_eq_false_iff, decide_eq_false_iff_not]
      by_cases h1 : last < v.1
      · right; left; exact (Bool.not_eq_true _).mp fun hc => h ⟨h1, hc⟩
      · exact .inl h1
theorem iso_Right_spec (m : M) (hm : fewM m) : iso_Right (m, ()) = some (rightM m, ()) := by
  unfold iso_Right
  generalize hf : (fun (x_1 : Bool × Int × Int × Unit) => _) = f
  have hl := hm.1
  have key := loop_fold (f := f) m.2.1 (fun last i => (false, last, (i : Int), ())) 0 rightStep (fun _ _ => True) (fun b i h _ => ⟨?_, fun _ _ => trivial⟩) (fun b _ => ?_) 0 trivial
  · refine (lc_eq key).trans ?_
    unfold rightM
    rcases foldS_right (mk := fun last i => ((false, last, (i : Int), ()) : Bool × Int × Int × Unit)) (e := 0) m.2.1 0 0 with ⟨h1, y, h2⟩ | ⟨h1, h2⟩
    · rw [h1, h2]; simp (disch := first | assumption | omega | (dsimp only; omega) | decide) only [↓g02, ↓g03, ↓g04, ↓g05, ↓g06, g01, g02, g03, g04, g05, g06, g07, g08, g09, g10, g11, g12, g13, g14, g15, g16, g17, g18, g19, g20, g21, g22, g23, g24, g25, g26, g27, g28, g29, g30, g31, g32, g34, g35, g36, g37, g38, g39, g40, g41, g42, g43, g44, g45, g46, g47, g48, g49, g50, g51, g52, g53, g54, g55, g56, g57, g58, g60, g61, eq_self, not_true_eq_false, not_false_eq_true, List.nil_append, List.append_nil, List.length_nil, and_true, true_and, or_true, true_or, or_false, false_or, and_false, false_and, iff_self, if_true, if_false, lc_rt', lc_ex', lc_nx, g62, g63, Int.toNat_natCast, Int.natCast_add, nth_get, g33, g64, g65, Int.toNat_zero, Bool.false_eq_true, Int.reduceToNat, g66, iso_Type_spec, Bool.true_and]
    · rw [h1, h2]; simp (disch := first | assumption | omega | (dsimp only; omega) | decide) only [↓g02, ↓g03, ↓g04, ↓g05, ↓g06, g01, g02, g03, g04, g05, g06, g07, g08, g09, g10, g11, g12, g13, g14, g15, g16, g17, g18, g19, g20, g21, g22, g23, g24, g25, g26, g27, g28, g29, g30, g31, g32, g34, g35, g36, g37, g38, g39, g40, g41, g42, g43, g44, g45, g46, g47, g48, g49, g50, g51, g52, g53, g54, g55, g56, g57, g58, g60, g61, eq_self, not_true_eq_false, not_false_eq_true, List.nil_append, List.append_nil, List.length_nil, and_true, true_and, or_true, true_or, or_false, false_or, and_false, false_and, iff_self, if_true, if_false, lc_rt', lc_ex', lc_nx, g62, g63, Int.toNat_natCast, Int.natCast_add, nth_get, g33, g64, g65, Int.toNat_zero, Bool.false_eq_true, Int.reduceToNat, g66, Bool.false_and]
  · subst hf
    have := hm.nth h
    have hfd := field_Fits_spec (m.2.1[i]).1 (m.2.1[i]).2.1 this
    by_cases h1 : m.2.1[i].1 ≤ b
    · have hs : rightStep b m.2.1[i] = .rt (false, ()) := if_neg fun hc => by omega
      simp (disch := first | assumption | omega | (dsimp only; omega) | decide) only [↓g02, ↓g03, ↓g04, ↓g05, ↓g06, g01, g02, g03, g04, g05, g06, g07, g08, g09, g10, g11, g12, g13, g14, g15, g16, g17, g18, g19, g20, g21, g22, g23, g24, g25, g26, g27, g28, g29, g30, g31, g32, g34, g35, g36, g37, g38, g39, g40, g41, g42, g43, g44, g45, g46, g47, g48, g49, g50, g51, g52, g53, g54, g55, g56, g57, g58, g60, g61, eq_self, not_true_eq_false, not_false_eq_true, List.nil_append, List.append_nil, List.length_nil, and_true, true_and, or_true, true_or, or_false, false_or, and_false, false_and, iff_self, if_true, if_false, lc_rt', lc_ex', lc_nx, g62, g63, Int.toNat_natCast, Int.natCast_add, nth_get, g33, g64, g65, Int.toNat_zero, Bool.false_eq_true, Int.reduceToNat, g66, hs, liftS]
    · cases h2 : fitsD (m.2.1[i]).1 (m.2.1[i]).2.1
      · have hs : rightStep b m.2.1[i] = .rt (false, ()) := if_neg fun hc => by rw [h2] at hc; exact absurd hc.2 (by simp)
        simp (disch := first | assumption | omega | (dsimp only; omega) | decide) only [↓g02, ↓g03, ↓g04, ↓g05, ↓g06, g01, g02, g03, g04, g05, g06, g07, g08, g09, g10, g11, g12, g13, g14, g15, g16, g17, g18, g19, g20, g21, g22, g23, g24, g25, g26, g27, g28, g29, g30, g31, g32, g34, g35, g36, g37, g38, g39, g40, g41, g42, g43, g44, g45, g46, g47, g48, g49, g50, g51, g52, g53, g54, g55, g56, g57, g58, g60, g61, eq_self, not_true_eq_false, not_false_eq_true, List.nil_append, List.append_nil, List.length_nil, and_true, true_and, or_true, true_or, or_false, false_or, and_false, false_and, iff_self, if_true, if_false, lc_rt', lc_ex', lc_nx, g62, g63, Int.toNat_natCast, Int.natCast_add, nth_get, g33, g64, g65, Int.toNat_zero, Bool.false_eq_true, Int.reduceToNat, g66, hfd, h2, hs, liftS]
      · have hs : rightStep b m.2.1[i] = .nx m.2.1[i].1 := if_pos ⟨by omega, h2⟩
        simp (disch := first | assumption | omega | (dsimp only; omega) | decide) only [↓g02, ↓g03, ↓g04, ↓g05, ↓g06, g01, g02, g03, g04, g05, g06, g07, g08, g09, g10, g11, g12, g13, g14, g15, g16, g17, g18, g19, g20, g21, g22, g23, g24, g25, g26, g27, g28, g29, g30, g31, g32, g34, g35, g36, g37, g38, g39, g40, g41, g42, g43, g44, g45, g46, g47, g48, g49, g50, g51, g52, g53, g54, g55, g56, g57, g58, g60, g61, eq_self, not_true_eq_false, not_false_eq_true, List.nil_append, List.append_nil, List.length_nil, and_true, true_and, or_true, true_or, or_false, false_or, and_false, false_and, iff_self, if_true, if_false, lc_rt', lc_ex', lc_nx, g62, g63, Int.toNat_natCast, Int.natCast_add, nth_get, g33, g64, g65, Int.toNat_zero, Bool.false_eq_true, Int.reduceToNat, g66, hfd, h2, hs, liftS]
  · subst hf; simp (disch := first | assumption | omega | (dsimp only; omega) | decide) only [↓g02, ↓g03, ↓g04, ↓g05, ↓g06, g01, g02, g03, g04, g05, g06, g07, g08, g09, g10, g11, g12, g13, g14, g15, g16, g17, g18, g19, g20, g21, g22, g23, g24, g25, g26, g27, g28, g29, g30, g31, g32, g34, g35, g36, g37, g38, g39, g40, g41, g42, g43, g44, g45, g46, g47, g48, g49, g50, g51, g52, g53, g54, g55, g56, g57, g58, g60, g61, eq_self, not_true_eq_false, not_false_eq_true, List.nil_append, List.append_nil, List.length_nil, and_true, true_and, or_true, true_or, or_false, false_or, and_false, false_and, iff_self, if_true, if_false, lc_rt', lc_ex', lc_nx, g62, g63, Int.toNat_natCast, Int.natCast_add, nth_get, g33, g64, g65, Int.toNat_zero, Bool.false_eq_true, Int.reduceToNat, g66]
theorem formOf_low {no : Int} (h : no ≤ 0) : formOf no = none := by
  unfold formOf
  rw [Option.map_eq_none_iff, List.find?_eq_none]
  have : ∀ r ∈ frows, ∀ c ∈ r.drop 2, 1 ≤ c := by decide +kernel
  intro r hr hc
  rw [List.contains_eq_mem, decide_eq_true_eq] at hc
  have := this r hr no hc
  omega
theorem fitsD_pos {no : Int} {v : List UInt8} (h : fitsD no v = true) : 1 ≤ no := by
  refine Classical.byContradiction fun hc => ?_
  unfold fitsD at h
  rw [formOf_low (by omega)] at h
  exact absurd h (by simp)
theorem ref07_Right_spec (m : M) (hm : fewM m) : ref07_Right (m, ()) = some (rightM m, ()) := by
  unfold ref07_Right
  generalize hf : (fun (x_1 : Bool × Int × Unit) => _) = f
  have hl := hm.1
  have key := loop_fold (f := f) m.2.1 (fun (last : Int) i => (false, (i : Int), ())) 0 rightStep (fun b i => (i = 0 ∧ b = 0) ∨ ∃ h : i - 1 < m.2.1.length, 0 < i ∧ m.2.1[i - 1].1 = b) (fun b i h hI => ⟨?_, fun b' hb => ?_⟩) (fun b _ => ?_) 0 (.inl ⟨rfl, rfl⟩)
  · refine (lc_eq key).trans ?_
    unfold rightM
    rcases foldS_right (mk := fun (last : Int) i => ((false, (i : Int), ()) : Bool × Int × Unit)) (e := 0) m.2.1 0 0 with ⟨h1, y, h2⟩ | ⟨h1, h2⟩
    · rw [h1, h2]; simp (disch := first | assumption | omega | (dsimp only; omega) | decide) only [↓g02, ↓g03, ↓g04, ↓g05, ↓g06, g01, g02, g03, g04, g05, g06, g07, g08, g09, g10, g11, g12, g13, g14, g15, g16, g17, g18, g19, g20, g21, g22, g23, g24, g25, g26, g27, g28, g29, g30, g31, g32, g34, g35, g36, g37, g38, g39, g40, g41, g42, g43, g44, g45, g46, g47, g48, g49, g50, g51, g52, g53, g54, g55, g56, g57, g58, g60, g61, eq_self, not_true_eq_false, not_false_eq_true, List.nil_append, List.append_nil, List.length_nil, and_true, true_and, or_true, true_or, or_false, false_or, and_false, false_and, iff_self, if_true, if_false, lc_rt', lc_ex', lc_nx, g62, g63, Int.toNat_natCast, Int.natCast_add, nth_get, g33, g64, g65, Int.toNat_zero, Bool.false_eq_true, Int.reduceToNat, g66, ref07_Type_spec, Bool.true_and]
    · rw [h1, h2]; simp (disch := first | assumption | omega | (dsimp only; omega) | decide) only [↓g02, ↓g03, ↓g04, ↓g05, ↓g06, g01, g02, g03, g04, g05, g06, g07, g08, g09, g10, g11, g12, g13, g14, g15, g16, g17, g18, g19, g20, g21, g22, g23, g24, g25, g26, g27, g28, g29, g30, g31, g32, g34, g35, g36, g37, g38, g39, g40, g41, g42, g43, g44, g45, g46, g47, g48, g49, g50, g51, g52, g53, g54, g55, g56, g57, g58, g60, g61, eq_self, not_true_eq_false, not_false_eq_true, List.nil_append, List.append_nil, List.length_nil, and_true, true_and, or_true, true_or, or_false, false_or, and_false, false_and, iff_self, if_true, if_false, lc_rt', lc_ex', lc_nx, g62, g63, Int.toNat_natCast, Int.natCast_add, nth_get, g33, g64, g65, Int.toNat_zero, Bool.false_eq_true, Int.reduceToNat, g66, Bool.false_and]
  · subst hf
    have := hm.nth h
    have hfd := ref05_Fits_spec (m.2.1[i]).1 (m.2.1[i]).2.1 this
    cases h2 : fitsD (m.2.1[i]).1 (m.2.1[i]).2.1
    · have hs : rightStep b m.2.1[i] = .rt (false, ()) := if_neg fun hc => by rw [h2] at hc; exact absurd hc.2 (by simp)
      simp (disch := first | assumption | omega | (dsimp only; omega) | decide) only [↓g02, ↓g03, ↓g04, ↓g05, ↓g06, g01, g02, g03, g04, g05, g06, g07, g08, g09, g10, g11, g12, g13, g14, g15, g16, g17, g18, g19, g20, g21, g22, g23, g24, g25, g26, g27, g28, g29, g30, g31, g32, g34, g35, g36, g37, g38, g39, g40, g41, g42, g43, g44, g45, g46, g47, g48, g49, g50, g51, g52, g53, g54, g55, g56, g57, g58, g60, g61, eq_self, not_true_eq_false, not_false_eq_true, List.nil_append, List.append_nil, List.length_nil, and_true, true_and, or_true, true_or, or_false, false_or, and_false, false_and, iff_self, if_true, if_false, lc_rt', lc_ex', lc_nx, g62, g63, Int.toNat_natCast, Int.natCast_add, nth_get, g33, g64, g65, Int.toNat_zero, Bool.false_eq_true, Int.reduceToNat, g66, hfd, h2, hs, liftS]
    · have hp := fitsD_pos h2
      rcases hI with ⟨rfl, rfl⟩ | ⟨h', h0, rfl⟩
      · have hs : rightStep 0 m.2.1[0] = .nx m.2.1[0].1 := if_pos ⟨by omega, h2⟩
        simp (disch := first | assumption | omega | (dsimp only; omega) | decide) only [↓g02, ↓g03, ↓g04, ↓g05, ↓g06, g01, g02, g03, g04, g05, g06, g07, g08, g09, g10, g11, g12, g13, g14, g15, g16, g17, g18, g19, g20, g21, g22, g23, g24, g25, g26, g27, g28, g29, g30, g31, g32, g34, g35, g36, g37, g38, g39, g40, g41, g42, g43, g44, g45, g46, g47, g48, g49, g50, g51, g52, g53, g54, g55, g56, g57, g58, g60, g61, eq_self, not_true_eq_false, not_false_eq_true, List.nil_append, List.append_nil, List.length_nil, and_true, true_and, or_true, true_or, or_false, false_or, and_false, false_and, iff_self, if_true, if_false, lc_rt', lc_ex', lc_nx, g62, g63, Int.toNat_natCast, Int.natCast_add, nth_get, g33, g64, g65, Int.toNat_zero, Bool.false_eq_true, Int.reduceToNat, g66, hfd, h2, hs, liftS]
      · have hq : ((i : Int) - 1).toNat = i - 1 := by omega
        by_cases h1 : m.2.1[i].1 ≤ m.2.1[i - 1].1
        · have hs : rightStep m.2.1[i - 1].1 m.2.1[i] = .rt (false, ()) := if_neg fun hc => by omega
          simp (disch := first | assumption | omega | (dsimp only; omega) | decide) only [↓g02, ↓g03, ↓g04, ↓g05, ↓g06, g01, g02, g03, g04, g05, g06, g07, g08, g09, g10, g11, g12, g13, g14, g15, g16, g17, g18, g19, g20, g21, g22, g23, g24, g25, g26, g27, g28, g29, g30, g31, g32, g34, g35, g36, g37, g38, g39, g40, g41, g42, g43, g44, g45, g46, g47, g48, g49, g50, g51, g52, g53, g54, g55, g56, g57, g58, g60, g61, eq_self, not_true_eq_false, not_false_eq_true, List.nil_append, List.append_nil, List.length_nil, and_true, true_and, or_true, true_or, or_false, false_or, and_false, false_and, iff_self, if_true, if_false, lc_rt', lc_ex', lc_nx, g62, g63, Int.toNat_natCast, Int.natCast_add, nth_get, g33, g64, g65, Int.toNat_zero, Bool.false_eq_true, Int.reduceToNat, g66, hfd, h2, hs, liftS, hq]
        · have hs : rightStep m.2.1[i - 1].1 m.2.1[i] = .nx m.2.1[i].1 := if_pos ⟨by omega, h2⟩
          simp (disch := first | assumption | omega | (dsimp only; omega) | decide) only [↓g02, ↓g03, ↓g04, ↓g05, ↓g06, g01, g02, g03, g04, g05, g06, g07, g08, g09, g10, g11, g12, g13, g14, g15, g16, g17, g18, g19, g20, g21, g22, g23, g24, g25, g26, g27, g28, g29, g30, g31, g32, g34, g35, g36, g37, g38, g39, g40, g41, g42, g43, g44, g45, g46, g47, g48, g49, g50, g51, g52, g53, g54, g55, g56, g57, g58, g60, g61, eq_self, not_true_eq_false, not_false_eq_true, List.nil_append, List.append_nil, List.length_nil, and_true, true_and, or_true, true_or, or_false, false_or, and_false, false_and, iff_self, if_true, if_false, lc_rt', lc_ex', lc_nx, g62, g63, Int.toNat_natCast, Int.natCast_add, nth_get, g33, g64, g65, Int.toNat_zero, Bool.false_eq_true, Int.reduceToNat, g66, hfd, h2, hs, liftS, hq]
  · right
    refine ⟨by simpa using h, by omega, ?_⟩
    simp only [Nat.add_sub_cancel]
    unfold rightStep at hb
    split at hb
    · cases hb; rfl
    · cases hb
  · subst hf; simp (disch := first | assumption | omega | (dsimp only; omega) | decide) only [↓g02, ↓g03, ↓g04, ↓g05, ↓g06, g01, g02, g03, g04, g05, g06, g07, g08, g09, g10, g11, g12, g13, g14, g15, g16, g17, g18, g19, g20, g21, g22, g23, g24, g25, g26, g27, g28, g29, g30, g31, g32, g34, g35, g36, g37, g38, g39, g40, g41, g42, g43, g44, g45, g46, g47, g48, g49, g50, g51, g52, g53, g54, g55, g56, g57, g58, g60, g61, eq_self, not_true_eq_false, not_false_eq_true, List.nil_append, List.append_nil, List.length_nil, and_true, true_and, or_true, true_or, or_false, false_or, and_false, false_and, iff_self, if_true, if_false, lc_rt', lc_ex', lc_nx, g62, g63, Int.toNat_natCast, Int.natCast_add, nth_get, g33, g64, g65, Int.toNat_zero, Bool.false_eq_true, Int.reduceToNat, g66]
theorem bytes_Equal_spec (a b : List UInt8) : bytes_Equal (a, b, ()) = some (D (a = b), ()) := by unfold bytes_Equal; simp (disch := first | assumption | omega | (dsimp only; omega) | decide) only [↓g02, ↓g03, ↓g04, ↓g05, ↓g06, g01, g02, g03, g04, g05, g06, g07, g08, g09, g10, g11, g12, g13, g14, g15, g16, g17, g18, g19, g20, g21, g22, g23, g24, g25, g26, g27, g28, g29, g30, g31, g32, g34, g35, g36, g37, g38, g39, g40, g41, g42, g43, g44, g45, g46, g47, g48, g49, g50, g51, g52, g53, g54, g55, g56, g57, g58, g60, g61, eq_self, not_true_eq_false, not_false_eq_true, List.nil_append, List.append_nil, List.length_nil, and_true, true_and, or_true, true_or, or_false, false_or, and_false, false_and, iff_self, if_true, if_false, lc_rt', lc_ex', lc_nx, g62, g63, Int.toNat_natCast, Int.natCast_add, nth_get, g33, g64, g65, Int.toNat_zero, Bool.false_eq_true, Int.reduceToNat, g66]
theorem iso_Same_1_spec (a b : V) : iso_Same_1 (a, b, ()) = some (D (a = b), ()) := by
  unfold iso_Same_1
  simp (disch := first | assumption | omega | (dsimp only; omega) | decide) only [↓g02, ↓g03, ↓g04, ↓g05, ↓g06, g01, g02, g03, g04, g05, g06, g07, g08, g09, g10, g11, g12, g13, g14, g15, g16, g17, g18, g19, g20, g21, g22, g23, g24, g25, g26, g27, g28, g29, g30, g31, g32, g34, g35, g36, g37, g38, g39, g40, g41, g42, g43, g44, g45, g46, g47, g48, g49, g50, g51, g52, g53, g54, g55, g56, g57, g58, g60, g61, eq_self, not_true_eq_false, not_false_eq_true, List.nil_append, List.append_nil, List.length_nil, and_true, true_and, or_true, true_or, or_false, false_or, and_false, false_and, iff_self, if_true, if_false, lc_rt', lc_ex', lc_nx, g62, g63, Int.toNat_natCast, Int.natCast_add, nth_get, g33, g64, g65, Int.toNat_zero, Bool.false_eq_true, Int.reduceToNat, g66, bytes_Equal_spec]
  refine some_DD ?_
  obtain ⟨a1, a2, ⟨⟩⟩ := a; obtain ⟨b1, b2, ⟨⟩⟩ := b
  simp
def sameStep (b : Unit) (p : V × V) : LS Unit (Bool × Unit) := if p.1 = p.2 then .nx () else .rt (false, ())
theorem foldS_same {σ : Type} {mk : Unit → Nat → σ} {e : Nat} : ∀ (l : List (V × V)) (i : Nat), ((∀ p ∈ l, p.1 = p.2) ∧ ∃ y, foldS mk e sameStep () i l = .ex e y) ∨ ((¬ ∀ p ∈ l, p.1 = p.2) ∧ foldS mk e sameStep () i l = .rt (false, ()))
  | [], i => .inl ⟨by simp, _, rfl⟩
  | p :: r, i => by
    by_cases h : p.1 = p.2
    · have hs : sameStep () p = .nx () := if_pos h
      have := foldS_same (mk := mk) (e := e) r (i + 1)
      simp only [foldS, hs, List.mem_cons, forall_eq_or_imp, h, true_and]; exact this
    · have hs : sameStep () p = .rt (false, ()) := if_neg h
      refine .inr ⟨fun hc => h (hc p (by simp)), by simp only [foldS, hs]⟩
theorem zip_eq {α : Type} : ∀ {a b : List α}, a.length = b.length → ((∀ p ∈ a.zip b, p.1 = p.2) ↔ a = b)
  | [], [], _ => by simp
  | x :: a, y :: b, h => by
    have := zip_eq (a := a) (b := b) (by simpa using h)
    simp only [List.zip_cons_cons, List.mem_cons, forall_eq_or_imp, List.cons.injEq]
    rw [this]
  | [], _ :: _, h => by simp at h
  | _ :: _, [], h => by simp at h
theorem EqualFunc_spec (a b : List V) (hl : a.length ≤ 1000000) : slices_EqualFunc_api_Val_api_Val_api_Val_api_Val (a, b, 1, ()) = some (D (a = b), ()) := by
  unfold slices_EqualFunc_api_Val_api_Val_api_Val_api_Val
  by_cases h : a.length = b.length
  · generalize hf : (fun (x_1 : Bool × Int × Unit) => _) = f
    have hz : (a.zip b).length = a.length := by simp [h]
    have key := loop_fold (f := f) (a.zip b) (fun (_ : Unit) i => (false, (i : Int), ())) 0 sameStep (fun _ _ => True) (fun _ i hi _ => ⟨?_, fun _ _ => trivial⟩) (fun _ _ => ?_) () trivial
    · refine (sel_of_f ?_).trans ((lc_eq key).trans ?_)
      · simp (disch := first | assumption | omega | (dsimp only; omega) | decide) only [↓g02, ↓g03, ↓g04, ↓g05, ↓g06, g01, g02, g03, g04, g05, g06, g07, g08, g09, g10, g11, g12, g13, g14, g15, g16, g17, g18, g19, g20, g21, g22, g23, g24, g25, g26, g27, g28, g29, g30, g31, g32, g34, g35, g36, g37, g38, g39, g40, g41, g42, g43, g44, g45, g46, g47, g48, g49, g50, g51, g52, g53, g54, g55, g56, g57, g58, g60, g61, eq_self, not_true_eq_false, not_false_eq_true, List.nil_append, List.append_nil, List.length_nil, and_true, true_and, or_true, true_or, or_false, false_or, and_false, false_and, iff_self, if_true, if_false, lc_rt', lc_ex', lc_nx, g62, g63, Int.toNat_natCast, Int.natCast_add, nth_get, g33, g64, g65, Int.toNat_zero, Bool.false_eq_true, Int.reduceToNat, g66, h]
      rcases foldS_same (mk := fun _ i => ((false, (i : Int), ()) : Bool × Int × Unit)) (e := 0) (a.zip b) 0 with ⟨h1, y, h2⟩ | ⟨h1, h2⟩
      · rw [zip_eq h] at h1; rw [h2]; simp (disch := first | assumption | omega | (dsimp only; omega) | decide) only [↓g02, ↓g03, ↓g04, ↓g05, ↓g06, g01, g02, g03, g04, g05, g06, g07, g08, g09, g10, g11, g12, g13, g14, g15, g16, g17, g18, g19, g20, g21, g22, g23, g24, g25, g26, g27, g28, g29, g30, g31, g32, g34, g35, g36, g37, g38, g39, g40, g41, g42, g43, g44, g45, g46, g47, g48, g49, g50, g51, g52, g53, g54, g55, g56, g57, g58, g60, g61, eq_self, not_true_eq_false, not_false_eq_true, List.nil_append, List.append_nil, List.length_nil, and_true, true_and, or_true, true_or, or_false, false_or, and_false, false_and, iff_self, if_true, if_false, lc_rt', lc_ex', lc_nx, g62, g63, Int.toNat_natCast, Int.natCast_add, nth_get, g33, g64, g65, Int.toNat_zero, Bool.false_eq_true, Int.reduceToNat, g66, h1]
      · rw [zip_eq h] at h1; rw [h2]; simp (disch := first | assumption | omega | (dsimp only; omega) | decide) only [↓g02, ↓g03, ↓g04, ↓g05, ↓g06, g01, g02, g03, g04, g05, g06, g07, g08, g09, g10, g11, g12, g13, g14, g15, g16, g17, g18, g19, g20, g21, g22, g23, g24, g25, g26, g27, g28, g29, g30, g31, g32, g34, g35, g36, g37, g38, g39, g40, g41, g42, g43, g44, g45, g46, g47, g48, g49, g50, g51, g52, g53, g54, g55, g56, g57, g58, g60, g61, eq_self, not_true_eq_false, not_false_eq_true, List.nil_append, List.append_nil, List.length_nil, and_true, true_and, or_true, true_or, or_false, false_or, and_false, false_and, iff_self, if_true, if_false, lc_rt', lc_ex', lc_nx, g62, g63, Int.toNat_natCast, Int.natCast_add, nth_get, g33, g64, g65, Int.toNat_zero, Bool.false_eq_true, Int.reduceToNat, g66, h1]
    · subst hf
      have hia : i < a.length := by omega
      have hib : i < b.length := by omega
      simp only [List.getElem_zip]
      by_cases hx : a[i] = b[i]
      · have hs : sameStep () (b[i], b[i]) = .nx () := if_pos rfl
        simp (disch := first | assumption | omega | (dsimp only; omega) | decide) only [↓g02, ↓g03, ↓g04, ↓g05, ↓g06, g01, g02, g03, g04, g05, g06, g07, g08, g09, g10, g11, g12, g13, g14, g15, g16, g17, g18, g19, g20, g21, g22, g23, g24, g25, g26, g27, g28, g29, g30, g31, g32, g34, g35, g36, g37, g38, g39, g40, g41, g42, g43, g44, g45, g46, g47, g48, g49, g50, g51, g52, g53, g54, g55, g56, g57, g58, g60, g61, eq_self, not_true_eq_false, not_false_eq_true, List.nil_append, List.append_nil, List.length_nil, and_true, true_and, or_true, true_or, or_false, false_or, and_false, false_and, iff_self, if_true, if_false, lc_rt', lc_ex', lc_nx, g62, g63, Int.toNat_natCast, Int.natCast_add, nth_get, g33, g64, g65, Int.toNat_zero, Bool.false_eq_true, Int.reduceToNat, g66, iso_Same_1_spec, hs, liftS, hx]
      · have hs : sameStep () (a[i], b[i]) = .rt (false, ()) := if_neg hx
        simp (disch := first | assumption | omega | (dsimp only; omega) | decide) only [↓g02, ↓g03, ↓g04, ↓g05, ↓g06, g01, g02, g03, g04, g05, g06, g07, g08, g09, g10, g11, g12, g13, g14, g15, g16, g17, g18, g19, g20, g21, g22, g23, g24, g25, g26, g27, g28, g29, g30, g31, g32, g34, g35, g36, g37, g38, g39, g40, g41, g42, g43, g44, g45, g46, g47, g48, g49, g50, g51, g52, g53, g54, g55, g56, g57, g58, g60, g61, eq_self, not_true_eq_false, not_false_eq_true, List.nil_append, List.append_nil, List.length_nil, and_true, true_and, or_true, true_or, or_false, false_or, and_false, false_and, iff_self, if_true, if_false, lc_rt', lc_ex', lc_nx, g62, g63, Int.toNat_natCast, Int.natCast_add, nth_get, g33, g64, g65, Int.toNat_zero, Bool.false_eq_true, Int.reduceToNat, g66, iso_Same_1_spec, hs, liftS, hx]
    · subst hf; simp (disch := first | assumption | omega | (dsimp only; omega) | decide) only [↓g02, ↓g03, ↓g04, ↓g05, ↓g06, g01, g02, g03, g04, g05, g06, g07, g08, g09, g10, g11, g12, g13, g14, g15, g16, g17, g18, g19, g20, g21, g22, g23, g24, g25, g26, g27, g28, g29, g30, g31, g32, g34, g35, g36, g37, g38, g39, g40, g41, g42, g43, g44, g45, g46, g47, g48, g49, g50, g51, g52, g53, g54, g55, g56, g57, g58, g60, g61, eq_self, not_true_eq_false, not_false_eq_true, List.nil_append, List.append_nil, List.length_nil, and_true, true_and, or_true, true_or, or_false, false_or, and_false, false_and, iff_self, if_true, if_false, lc_rt', lc_ex', lc_nx, g62, g63, Int.toNat_natCast, Int.natCast_add, nth_get, g33, g64, g65, Int.toNat_zero, Bool.false_eq_true, Int.reduceToNat, g66, hz]
  · have hn : ¬ a = b := fun e => h (by rw [e])
    simp (disch := first | assumption | omega | (dsimp only; omega) | decide) only [↓g02, ↓g03, ↓g04, ↓g05, ↓g06, g01, g02, g03, g04, g05, g06, g07, g08, g09, g10, g11, g12, g13, g14, g15, g16, g17, g18, g19, g20, g21, g22, g23, g24, g25, g26, g27, g28, g29, g30, g31, g32, g34, g35, g36, g37, g38, g39, g40, g41, g42, g43, g44, g45, g46, g47, g48, g49, g50, g51, g52, g53, g54, g55, g56, g57, g58, g60, g61, eq_self, not_true_eq_false, not_false_eq_true, List.nil_append, List.append_nil, List.length_nil, and_true, true_and, or_true, true_or, or_false, false_or, and_false, false_and, iff_self, if_true, if_false, lc_rt', lc_ex', lc_nx, g62, g63, Int.toNat_natCast, Int.natCast_add, nth_get, g33, g64, g65, Int.toNat_zero, Bool.false_eq_true, Int.reduceToNat, g66, hn]
theorem M_eq {a b : M} : a = b ↔ a.1 = b.1 ∧ a.2.1 = b.2.1 := by
  obtain ⟨a1, a2, ⟨⟩⟩ := a; obtain ⟨b1, b2, ⟨⟩⟩ := b; simp
theorem iso_Same_spec (a b : M) (hl : a.2.1.length ≤ 1000000) : iso_Same (a, b, ()) = some (D (a = b), ()) := by
  unfold iso_Same
  simp (disch := first | assumption | omega | (dsimp only; omega) | decide) only [↓g02, ↓g03, ↓g04, ↓g05, ↓g06, g01, g02, g03, g04, g05, g06, g07, g08, g09, g10, g11, g12, g13, g14, g15, g16, g17, g18, g19, g20, g21, g22, g23, g24, g25, g26, g27, g28, g29, g30, g31, g32, g34, g35, g36, g37, g38, g39, g40, g41, g42, g43, g44, g45, g46, g47, g48, g49, g50, g51, g52, g53, g54, g55, g56, g57, g58, g60, g61, eq_self, not_true_eq_false, not_false_eq_true, List.nil_append, List.append_nil, List.length_nil, and_true, true_and, or_true, true_or, or_false, false_or, and_false, false_and, iff_self, if_true, if_false, lc_rt', lc_ex', lc_nx, g62, g63, Int.toNat_natCast, Int.natCast_add, nth_get, g33, g64, g65, Int.toNat_zero, Bool.false_eq_true, Int.reduceToNat, g66, EqualFunc_spec]
  exact some_DD M_eq.symm
end Yp
namespace Yp
open Go
set_option linter.unusedVariables false
set_option linter.unusedSimpArgs false
abbrev N := Bool × Int × Int × Int × Int × List UInt8 × List UInt8 × Int × Unit
def knownC (c : Int) : Prop := c = 1 ∨ c = 2 ∨ c = 101 ∨ c = 201 ∨ c = 301
instance (c : Int) : Decidable (knownC c) := by unfold knownC; infer_instance
def kindOK (n : N) : Prop :=
  if n.1 = true ∧ n.2.1 = 101 then 1 ≤ n.2.2.2.2.1 ∧ n.2.2.2.2.1 ≤ 2147483647 ∧ n.2.2.2.2.2.1.length = 8 ∧ n.2.2.2.2.2.2.1.length = 3 ∧ n.2.2.2.2.2.2.2.1 = 0
  else n.2.2.2.2.1 = 0 ∧ n.2.2.2.2.2.1 = [] ∧ n.2.2.2.2.2.2.1 = [] ∧ (if n.1 = true ∧ n.2.1 = 201 then 0 ≤ n.2.2.2.2.2.2.2.1 ∧ n.2.2.2.2.2.2.2.1 ≤ 999999 else n.2.2.2.2.2.2.2.1 = 0)
instance (n : N) : Decidable (kindOK n) := by unfold kindOK; infer_instance
def rightN (n : N) : Prop := knownC n.2.1 ∧ 1 ≤ n.2.2.1 ∧ n.2.2.1 ≤ 999999 ∧ 0 ≤ n.2.2.2.1 ∧ n.2.2.2.1 ≤ 99 ∧ (n.1 = true → n.2.2.2.1 = 0) ∧ kindOK n
instance (n : N) : Decidable (rightN n) := by unfold rightN; infer_instance
theorem ref15_Known_spec (c : Int) : ref15_Known (c, ()) = some (D (knownC c), ()) := by
  unfold ref15_Known knownC
  by_cases h1 : c = 1 <;> by_cases h2 : c = 2 <;> by_cases h3 : c = 101 <;> by_cases h4 : c = 201 <;> by_cases h5 : c = 301 <;> simp (disch := first | assumption | omega | (dsimp only; omega) | decide) only [↓g02, ↓g03, ↓g04, ↓g05, ↓g06, g01, g02, g03, g04, g05, g06, g07, g08, g09, g10, g11, g12, g13, g14, g15, g16, g17, g18, g19, g20, g21, g22, g23, g24, g25, g26, g27, g28, g29, g30, g31, g32, g34, g35, g36, g37, g38, g39, g40, g41, g42, g43, g44, g45, g46, g47, g48, g49, g50, g51, g52, g53, g54, g55, g56, g57, g58, g60, g61, eq_self, not_true_eq_false, not_false_eq_true, List.nil_append, List.append_nil, List.length_nil, and_true, true_and, or_true, true_or, or_false, false_or, and_false, false_and, iff_self, if_true, if_false, lc_rt', lc_ex', lc_nx, g62, g63, Int.toNat_natCast, Int.natCast_add, nth_get, g33, g64, g65, Int.toNat_zero, Bool.false_eq_true, Int.reduceToNat, g66, h1, h2, h3, h4, h5]
theorem someD_iff {p q : Prop} (h : p ↔ q) : (some (D p, ()) : Option (Bool × Unit)) = some (D q, ()) := by rw [show p = q from propext h]
theorem some_f {q : Prop} (h : ¬ q) : (some (false, ()) : Option (Bool × Unit)) = some (D q, ()) := by rw [D_f h]
theorem len0 {α : Type} {l : List α} : ((l.length : Int) = 0) ↔ l = [] := by rw [← List.length_eq_zero_iff]; omega
theorem rightN_iff {rq : Bool} {c st rs g : Int} {no k : List UInt8} {d : Int} : rightN (rq, c, st, rs, g, no, k, d, ()) ↔ (knownC c ∧ 1 ≤ st ∧ st ≤ 999999 ∧ 0 ≤ rs ∧ rs ≤ 99 ∧ (rq = true → rs = 0) ∧
    (if rq = true ∧ c = 101 then 1 ≤ g ∧ g ≤ 2147483647 ∧ no.length = 8 ∧ k.length = 3 ∧ d = 0 else g = 0 ∧ (no.length : Int) = 0 ∧ (k.length : Int) = 0 ∧ (if rq = true ∧ c = 201 then 0 ≤ d ∧ d ≤ 999999 else d = 0))) := by
  unfold rightN kindOK
  simp only [len0]
theorem sel_D {α : Type} {p : Prop} {x y z : α} (h1 : p → x = z) (h2 : ¬ p → y = z) : sel (D p) x y = z := by
  by_cases h : p
  · rw [D_t h]; exact h1 h
  · rw [D_f h]; exact h2 h
theorem ref16_Right_spec (n : N) : ref16_Right (n, ()) = some (D (rightN n), ()) := by
  obtain ⟨rq, c, st, rs, g, no, k, d, ⟨⟩⟩ := n
  unfold ref16_Right
  simp (disch := first | assumption | omega | (dsimp only; omega) | decide) only [↓g02, ↓g03, ↓g04, ↓g05, ↓g06, g01, g02, g03, g04, g05, g06, g07, g08, g09, g10, g11, g12, g13, g14, g15, g16, g17, g18, g19, g20, g21, g22, g23, g24, g25, g26, g27, g28, g29, g30, g31, g32, g34, g35, g36, g37, g38, g39, g40, g41, g42, g43, g44, g45, g46, g47, g48, g49, g50, g51, g52, g53, g54, g55, g56, g57, g58, g60, g61, eq_self, not_true_eq_false, not_false_eq_true, List.nil_append, List.append_nil, List.length_nil, and_true, true_and, or_true, true_or, or_false, false_or, and_false, false_and, iff_self, if_true, if_false, lc_rt', lc_ex', lc_nx, g62, g63, Int.toNat_natCast, Int.natCast_add, nth_get, g33, g64, g65, Int.toNat_zero, Bool.false_eq_true, Int.reduceToNat, g66, ref15_Known_spec]
  show _ = some (D (rightN (rq, c, st, rs, g, no, k, d, ())), ())
  cases rq
  · simp only [band, bor, Bool.false_and, Bool.or_false, sel, cond_false]
    refine sel_D (fun h => some_f fun hr => ?_) fun h => sel_D (fun h2 => some_f fun hr => ?_) fun h2 => someD_iff ?_
    all_goals simp only [rightN_iff] at *
    all_goals grind
  · simp only [band, bor, Bool.true_and, sel]
    rw [show (D ((((¬knownC c ∨ st < 1) ∨ 999999 < st) ∨ rs < 0) ∨ 99 < rs) || D (¬rs = 0)) = D (((((¬knownC c ∨ st < 1) ∨ 999999 < st) ∨ rs < 0) ∨ 99 < rs) ∨ ¬rs = 0) from D_ext (by rw [Bool.or_eq_true, D_iff, D_iff])]
    refine sel_D (fun h => some_f fun hr => ?_) fun h => sel_D (fun h2 => someD_iff ?_) fun h2 => sel_D (fun h3 => some_f fun hr => ?_) fun h3 => sel_D (fun h4 => someD_iff ?_) fun h4 => someD_iff ?_
    all_goals simp only [rightN_iff] at *
    all_goals grind
theorem note_Right_spec (n : N) : note_Right (n, ()) = some (D (rightN n), ()) := by
  obtain ⟨rq, c, st, rs, g, no, k, d, ⟨⟩⟩ := n
  unfold note_Right note_rule note_kind_keyed note_kind_dated note_kind_bare note_rule_1
  simp (disch := first | assumption | omega | (dsimp only; omega) | decide) only [↓g02, ↓g03, ↓g04, ↓g05, ↓g06, g01, g02, g03, g04, g05, g06, g07, g08, g09, g10, g11, g12, g13, g14, g15, g16, g17, g18, g19, g20, g21, g22, g23, g24, g25, g26, g27, g28, g29, g30, g31, g32, g34, g35, g36, g37, g38, g39, g40, g41, g42, g43, g44, g45, g46, g47, g48, g49, g50, g51, g52, g53, g54, g55, g56, g57, g58, g60, g61, eq_self, not_true_eq_false, not_false_eq_true, List.nil_append, List.append_nil, List.length_nil, and_true, true_and, or_true, true_or, or_false, false_or, and_false, false_and, iff_self, if_true, if_false, lc_rt', lc_ex', lc_nx, g62, g63, Int.toNat_natCast, Int.natCast_add, nth_get, g33, g64, g65, Int.toNat_zero, Bool.false_eq_true, Int.reduceToNat, g66]
  show _ = some (D (rightN (rq, c, st, rs, g, no, k, d, ())), ())
  rw [show bor (D (((st < 1 ∨ 999999 < st) ∨ rs < 0) ∨ 99 < rs)) (band rq (D (0 < rs))) = D ((((st < 1 ∨ 999999 < st) ∨ rs < 0) ∨ 99 < rs) ∨ (rq = true ∧ 0 < rs)) from D_ext (by simp [bor, band, D_iff])]
  refine sel_D (fun h => some_f fun hr => ?_) fun h => ?_
  · simp only [rightN_iff] at hr; grind
  rw [show band (D (c = 101)) rq = D (c = 101 ∧ rq = true) from D_ext (by simp [band, D_iff]), show band (D (c = 201)) rq = D (c = 201 ∧ rq = true) from D_ext (by simp [band, D_iff])]
  by_cases h1 : c = 101 ∧ rq = true
  · simp (disch := first | assumption | omega | (dsimp only; omega) | decide) only [↓g02, ↓g03, ↓g04, ↓g05, ↓g06, g01, g02, g03, g04, g05, g06, g07, g08, g09, g10, g11, g12, g13, g14, g15, g16, g17, g18, g19, g20, g21, g22, g23, g24, g25, g26, g27, g28, g29, g30, g31, g32, g34, g35, g36, g37, g38, g39, g40, g41, g42, g43, g44, g45, g46, g47, g48, g49, g50, g51, g52, g53, g54, g55, g56, g57, g58, g60, g61, eq_self, not_true_eq_false, not_false_eq_true, List.nil_append, List.append_nil, List.length_nil, and_true, true_and, or_true, true_or, or_false, false_or, and_false, false_and, iff_self, if_true, if_false, lc_rt', lc_ex', lc_nx, g62, g63, Int.toNat_natCast, Int.natCast_add, nth_get, g33, g64, g65, Int.toNat_zero, Bool.false_eq_true, Int.reduceToNat, g66, h1, D_t h1]
    refine someD_iff ?_
    simp only [rightN_iff, knownC]; grind
  · by_cases h2 : c = 201 ∧ rq = true
    · simp (disch := first | assumption | omega | (dsimp only; omega) | decide) only [↓g02, ↓g03, ↓g04, ↓g05, ↓g06, g01, g02, g03, g04, g05, g06, g07, g08, g09, g10, g11, g12, g13, g14, g15, g16, g17, g18, g19, g20, g21, g22, g23, g24, g25, g26, g27, g28, g29, g30, g31, g32, g34, g35, g36, g37, g38, g39, g40, g41, g42, g43, g44, g45, g46, g47, g48, g49, g50, g51, g52, g53, g54, g55, g56, g57, g58, g60, g61, eq_self, not_true_eq_false, not_false_eq_true, List.nil_append, List.append_nil, List.length_nil, and_true, true_and, or_true, true_or, or_false, false_or, and_false, false_and, iff_self, if_true, if_false, lc_rt', lc_ex', lc_nx, g62, g63, Int.toNat_natCast, Int.natCast_add, nth_get, g33, g64, g65, Int.toNat_zero, Bool.false_eq_true, Int.reduceToNat, g66, D_f h1, D_t h2]
      refine someD_iff ?_
      simp only [rightN_iff, knownC]; grind
    · by_cases h3 : (((c = 1 ∨ c = 2) ∨ c = 101) ∨ c = 201) ∨ c = 301
      · simp (disch := first | assumption | omega | (dsimp only; omega) | decide) only [↓g02, ↓g03, ↓g04, ↓g05, ↓g06, g01, g02, g03, g04, g05, g06, g07, g08, g09, g10, g11, g12, g13, g14, g15, g16, g17, g18, g19, g20, g21, g22, g23, g24, g25, g26, g27, g28, g29, g30, g31, g32, g34, g35, g36, g37, g38, g39, g40, g41, g42, g43, g44, g45, g46, g47, g48, g49, g50, g51, g52, g53, g54, g55, g56, g57, g58, g60, g61, eq_self, not_true_eq_false, not_false_eq_true, List.nil_append, List.append_nil, List.length_nil, and_true, true_and, or_true, true_or, or_false, false_or, and_false, false_and, iff_self, if_true, if_false, lc_rt', lc_ex', lc_nx, g62, g63, Int.toNat_natCast, Int.natCast_add, nth_get, g33, g64, g65, Int.toNat_zero, Bool.false_eq_true, Int.reduceToNat, g66, D_f h1, D_f h2, D_t h3]
        refine someD_iff ?_
        simp only [rightN_iff, knownC]; grind
      · simp (disch := first | assumption | omega | (dsimp only; omega) | decide) only [↓g02, ↓g03, ↓g04, ↓g05, ↓g06, g01, g02, g03, g04, g05, g06, g07, g08, g09, g10, g11, g12, g13, g14, g15, g16, g17, g18, g19, g20, g21, g22, g23, g24, g25, g26, g27, g28, g29, g30, g31, g32, g34, g35, g36, g37, g38, g39, g40, g41, g42, g43, g44, g45, g46, g47, g48, g49, g50, g51, g52, g53, g54, g55, g56, g57, g58, g60, g61, eq_self, not_true_eq_false, not_false_eq_true, List.nil_append, List.append_nil, List.length_nil, and_true, true_and, or_true, true_or, or_false, false_or, and_false, false_and, iff_self, if_true, if_false, lc_rt', lc_ex', lc_nx, g62, g63, Int.toNat_natCast, Int.natCast_add, nth_get, g33, g64, g65, Int.toNat_zero, Bool.false_eq_true, Int.reduceToNat, g66, D_f h1, D_f h2, D_f h3]
        refine some_f fun hr => ?_
        simp only [rightN_iff, knownC] at hr; grind
end Yp
namespace Yp
open Go
theorem row_one : upd (rep 16 (u8 0)) 0 (u8 128) = rowB 16 (fun m => Nat.beq m 1) := by decide +kernel
theorem wide_sel {l : List Int} (hl : l.length ≤ 1000000) : sel (D (0 < (l.length : Int))) (ck (D (0 ≤ (l.length : Int) - 1 ∧ (l.length : Int) - 1 < (l.length : Int))) (some (D (64 < nth l ((l.length : Int) - 1).toNat 0), ()))) (some (false, ())) = some (wideL l, ()) := by
  have hq : ((l.length : Int) - 1).toNat = l.length - 1 := by omega
  by_cases h0 : 0 < l.length
  · have e : wideL l = decide (64 < nth l (l.length - 1) 0) := by unfold wideL; rw [decide_eq_true h0, Bool.true_and]
    simp (disch := first | assumption | omega | (dsimp only; omega) | decide) only [↓g02, ↓g03, ↓g04, ↓g05, ↓g06, g01, g02, g03, g04, g05, g06, g07, g08, g09, g10, g11, g12, g13, g14, g15, g16, g17, g18, g19, g20, g21, g22, g23, g24, g25, g26, g27, g28, g29, g30, g31, g32, g34, g35, g36, g37, g38, g39, g40, g41, g42, g43, g44, g45, g46, g47, g48, g49, g50, g51, g52, g53, g54, g55, g56, g57, g58, g60, g61, eq_self, not_true_eq_false, not_false_eq_true, List.nil_append, List.append_nil, List.length_nil, and_true, true_and, or_true, true_or, or_false, false_or, and_false, false_and, iff_self, if_true, if_false, lc_rt', lc_ex', lc_nx, g62, g63, Int.toNat_natCast, Int.natCast_add, nth_get, g33, g64, g65, Int.toNat_zero, Bool.false_eq_true, Int.reduceToNat, g66, hq, e]
  · have e : wideL l = false := by unfold wideL; rw [decide_eq_false h0, Bool.false_and]
    simp (disch := first | assumption | omega | (dsimp only; omega) | decide) only [↓g02, ↓g03, ↓g04, ↓g05, ↓g06, g01, g02, g03, g04, g05, g06, g07, g08, g09, g10, g11, g12, g13, g14, g15, g16, g17, g18, g19, g20, g21, g22, g23, g24, g25, g26, g27, g28, g29, g30, g31, g32, g34, g35, g36, g37, g38, g39, g40, g41, g42, g43, g44, g45, g46, g47, g48, g49, g50, g51, g52, g53, g54, g55, g56, g57, g58, g60, g61, eq_self, not_true_eq_false, not_false_eq_true, List.nil_append, List.append_nil, List.length_nil, and_true, true_and, or_true, true_or, or_false, false_or, and_false, false_and, iff_self, if_true, if_false, lc_rt', lc_ex', lc_nx, g62, g63, Int.toNat_natCast, Int.natCast_add, nth_get, g33, g64, g65, Int.toNat_zero, Bool.false_eq_true, Int.reduceToNat, g66, e]
theorem bitmap_Write_spec (l : List Int) (hl : l.length ≤ 1000000) : bitmap_Write (l, ()) = some (if rightL 1 l = true then (bmW l, 0, ()) else ([], 1, ())) := by
  unfold bitmap_Write
  generalize hf : (fun (x_1 : Int × List UInt8 × Unit) => _) = f
  have hws := wide_sel hl
  cases hr : rightL 1 l
  · simp (disch := first | assumption | omega | (dsimp only; omega) | decide) only [↓g02, ↓g03, ↓g04, ↓g05, ↓g06, g01, g02, g03, g04, g05, g06, g07, g08, g09, g10, g11, g12, g13, g14, g15, g16, g17, g18, g19, g20, g21, g22, g23, g24, g25, g26, g27, g28, g29, g30, g31, g32, g34, g35, g36, g37, g38, g39, g40, g41, g42, g43, g44, g45, g46, g47, g48, g49, g50, g51, g52, g53, g54, g55, g56, g57, g58, g60, g61, eq_self, not_true_eq_false, not_false_eq_true, List.nil_append, List.append_nil, List.length_nil, and_true, true_and, or_true, true_or, or_false, false_or, and_false, false_and, iff_self, if_true, if_false, lc_rt', lc_ex', lc_nx, g62, g63, Int.toNat_natCast, Int.natCast_add, nth_get, g33, g64, g65, Int.toNat_zero, Bool.false_eq_true, Int.reduceToNat, g66, bitmap_Right_spec, hr]
  have hm := rightL_mem hr
  have step : ∀ (size : Nat), (∀ n ∈ l, n ≤ 8 * (size : Int)) → ∀ S0 : Nat → Bool, loop f (0, rowB size S0, ()) = some (.ex 0 ((l.length : Int), rowB size (fun m => S0 m || memI l m), ())) := by
    intro size hle S0
    refine bits_loop (fun S i h _ => ?_) (fun n hn => by have := hm n hn; omega) (fun x => ?_)
    · subst hf
      have hx := hm l[i] (List.getElem_mem h)
      have hx2 := hle l[i] (List.getElem_mem h)
      obtain ⟨N, hN⟩ : ∃ N : Nat, l[i] = N := ⟨l[i].toNat, by omega⟩
      have hP := bitmap_Place_spec (n := N) (by omega) (by omega)
      have hrl : (rowB size S).length = size := rowB_length
      have hset := set_row (size := size) (S := S) (n := N) (by omega) (by omega) (or_bit (nth (rowB size S) ((N - 1) / 8) (u8 0)) ((N - 1) % 8) (by omega))
      have hnl : ((N - 1) / 8) < (rowB size S).length := by omega
      rw [nth_get hnl] at hset
      simp (disch := first | assumption | omega | (dsimp only; omega) | decide) only [↓g02, ↓g03, ↓g04, ↓g05, ↓g06, g01, g02, g03, g04, g05, g06, g07, g08, g09, g10, g11, g12, g13, g14, g15, g16, g17, g18, g19, g20, g21, g22, g23, g24, g25, g26, g27, g28, g29, g30, g31, g32, g34, g35, g36, g37, g38, g39, g40, g41, g42, g43, g44, g45, g46, g47, g48, g49, g50, g51, g52, g53, g54, g55, g56, g57, g58, g60, g61, eq_self, not_true_eq_false, not_false_eq_true, List.nil_append, List.append_nil, List.length_nil, and_true, true_and, or_true, true_or, or_false, false_or, and_false, false_and, iff_self, if_true, if_false, lc_rt', lc_ex', lc_nx, g62, g63, Int.toNat_natCast, Int.natCast_add, nth_get, g33, g64, g65, Int.toNat_zero, Bool.false_eq_true, Int.reduceToNat, g66, hN, hP, hrl, hset]
    · subst hf; simp (disch := first | assumption | omega | (dsimp only; omega) | decide) only [↓g02, ↓g03, ↓g04, ↓g05, ↓g06, g01, g02, g03, g04, g05, g06, g07, g08, g09, g10, g11, g12, g13, g14, g15, g16, g17, g18, g19, g20, g21, g22, g23, g24, g25, g26, g27, g28, g29, g30, g31, g32, g34, g35, g36, g37, g38, g39, g40, g41, g42, g43, g44, g45, g46, g47, g48, g49, g50, g51, g52, g53, g54, g55, g56, g57, g58, g60, g61, eq_self, not_true_eq_false, not_false_eq_true, List.nil_append, List.append_nil, List.length_nil, and_true, true_and, or_true, true_or, or_false, false_or, and_false, false_and, iff_self, if_true, if_false, lc_rt', lc_ex', lc_nx, g62, g63, Int.toNat_natCast, Int.natCast_add, nth_get, g33, g64, g65, Int.toNat_zero, Bool.false_eq_true, Int.reduceToNat, g66]
  by_cases hw : wideL l = true
  · have := step 16 (fun n hn => by have := hm n hn; omega) (fun m => Nat.beq m 1)
    rw [← row_one] at this
    have e : rowB 16 (fun m => Nat.beq m 1 || memI l m) = bmW l := by
      unfold bmW; rw [if_pos hw]
      refine rowB_ext fun n _ _ => ?_
      unfold memI
      refine Bool.eq_iff_iff.2 ?_
      simp only [Bool.or_eq_true, Nat.beq_eq, decide_eq_true_eq, List.mem_cons]
      refine or_congr ?_ Iff.rfl
      omega
    rw [e] at this
    simp (disch := first | assumption | omega | (dsimp only; omega) | decide) only [↓g02, ↓g03, ↓g04, ↓g05, ↓g06, g01, g02, g03, g04, g05, g06, g07, g08, g09, g10, g11, g12, g13, g14, g15, g16, g17, g18, g19, g20, g21, g22, g23, g24, g25, g26, g27, g28, g29, g30, g31, g32, g34, g35, g36, g37, g38, g39, g40, g41, g42, g43, g44, g45, g46, g47, g48, g49, g50, g51, g52, g53, g54, g55, g56, g57, g58, g60, g61, eq_self, not_true_eq_false, not_false_eq_true, List.nil_append, List.append_nil, List.length_nil, and_true, true_and, or_true, true_or, or_false, false_or, and_false, false_and, iff_self, if_true, if_false, lc_rt', lc_ex', lc_nx, g62, g63, Int.toNat_natCast, Int.natCast_add, nth_get, g33, g64, g65, Int.toNat_zero, Bool.false_eq_true, Int.reduceToNat, g66, bitmap_Right_spec, hr, hws, hw, this]
  · have := step 8 (fun n hn => by have := not_wide hr hw n hn; omega) (fun m => false)
    rw [← rep_row] at this
    have hw' : wideL l = false := (Bool.not_eq_true _).mp hw
    have e : rowB 8 (fun m => false || memI l m) = bmW l := by
      unfold bmW; rw [if_neg hw]
      exact rowB_ext fun n _ _ => Bool.false_or _
    rw [e] at this
    simp (disch := first | assumption | omega | (dsimp only; omega) | decide) only [↓g02, ↓g03, ↓g04, ↓g05, ↓g06, g01, g02, g03, g04, g05, g06, g07, g08, g09, g10, g11, g12, g13, g14, g15, g16, g17, g18, g19, g20, g21, g22, g23, g24, g25, g26, g27, g28, g29, g30, g31, g32, g34, g35, g36, g37, g38, g39, g40, g41, g42, g43, g44, g45, g46, g47, g48, g49, g50, g51, g52, g53, g54, g55, g56, g57, g58, g60, g61, eq_self, not_true_eq_false, not_false_eq_true, List.nil_append, List.append_nil, List.length_nil, and_true, true_and, or_true, true_or, or_false, false_or, and_false, false_and, iff_self, if_true, if_false, lc_rt', lc_ex', lc_nx, g62, g63, Int.toNat_natCast, Int.natCast_add, nth_get, g33, g64, g65, Int.toNat_zero, Bool.false_eq_true, Int.reduceToNat, g66, bitmap_Right_spec, hr, hws, hw', this]
theorem ref06_Write_spec (l : List Int) (hl : l.length ≤ 1000000) : ref06_Write (l, ()) = some (if rightL 1 l = true then (bmW l, 0, ()) else ([], 1, ())) := by
  unfold ref06_Write
  have hws := wide_sel hl
  generalize hf : (fun (x_1 : Int × List UInt8 × Unit) => _) = f
  generalize hg : (fun (x_1 : Int × List UInt8 × Unit) => (sel (lt x_1.1 (len (app (none' Int) (l, ()).1))) _ _ : Option (LS (Int × List UInt8 × Unit) (List UInt8 × Int × Unit)))) = g
  cases hr : rightL 1 l
  · simp (disch := first | assumption | omega | (dsimp only; omega) | decide) only [↓g02, ↓g03, ↓g04, ↓g05, ↓g06, g01, g02, g03, g04, g05, g06, g07, g08, g09, g10, g11, g12, g13, g14, g15, g16, g17, g18, g19, g20, g21, g22, g23, g24, g25, g26, g27, g28, g29, g30, g31, g32, g34, g35, g36, g37, g38, g39, g40, g41, g42, g43, g44, g45, g46, g47, g48, g49, g50, g51, g52, g53, g54, g55, g56, g57, g58, g60, g61, eq_self, not_true_eq_false, not_false_eq_true, List.nil_append, List.append_nil, List.length_nil, and_true, true_and, or_true, true_or, or_false, false_or, and_false, false_and, iff_self, if_true, if_false, lc_rt', lc_ex', lc_nx, g62, g63, Int.toNat_natCast, Int.natCast_add, nth_get, g33, g64, g65, Int.toNat_zero, Bool.false_eq_true, Int.reduceToNat, g66, ref06_Right_spec, hr]
  have hm := rightL_mem hr
  have hnd : ∀ (last : Int) (l : List Int), rightL last l = true → ∀ i (h : i < l.length), ¬ l[i] ∈ l.take i := by
    intro last l
    induction l generalizing last with
    | nil => intro _ i h; simp at h
    | cons x r ih =>
      intro h i hi
      have hr := (by simpa only [rightL, Bool.and_eq_true, decide_eq_true_eq] using h : _)
      cases i with
      | zero => simp
      | succ i =>
        simp only [List.getElem_cons_succ, List.take_succ_cons, List.mem_cons, not_or]
        have hi' : i < r.length := by simpa using hi
        have := (rightL_mem hr.2 r[i] (List.getElem_mem hi')).1
        exact ⟨by omega, ih x hr.2 i hi'⟩
  have step : ∀ (L : List Int) (size : Nat) (f : Int × List UInt8 × Unit → Option (LS (Int × List UInt8 × Unit) (List UInt8 × Int × Unit))), (fun (x_1 : Int × List UInt8 × Unit) =>
           sel (lt x_1.1 (len L)) (ck (inB x_1.1 (len L)) (ob (ref06_Place (nth L (nat x_1.1) 0, ())) fun (a : Int × UInt8 × Unit) => ck (inB a.1 (len x_1.2.1)) (ck (inB a.1 (len x_1.2.1))
            (some (LS.nx (i64 (iadd x_1.1 1), upd x_1.2.1 (nat a.1) (u8 (iadd (n8 (nth x_1.2.1 (nat a.1) (u8 0))) (n8 a.2.1))), ())))))) (some (LS.ex 0 (x_1.1, x_1.2.1, ())))) = f → L.length ≤ 1000001 → (∀ n ∈ L, 1 ≤ n ∧ n ≤ 128 ∧ n ≤ 8 * (size : Int)) →
      (∀ i (h : i < L.length), ¬ L[i] ∈ L.take i) → loop f (0, rep size (u8 0), ()) = some (.ex 0 ((L.length : Int), rowB size (memI L), ())) := by
    intro L size f hf hl hle hnd
    have := bits_loop (f := f) (l := L) (size := size) (S0 := fun _ => false) (fun S i h hS => ?_) (fun n hn => (hle n hn).1) (fun x => ?_)
    · simp only [Bool.false_or] at this
      rw [← rep_row] at this; exact this
    · subst hf
      have hx := hle L[i] (List.getElem_mem h)
      obtain ⟨N, hN⟩ : ∃ N : Nat, L[i] = N := ⟨L[i].toNat, by omega⟩
      have hP := ref06_Place_spec (n := N) (by omega) (by omega)
      have hrl : (rowB size S).length = size := rowB_length
      have hfree : bt (nth (rowB size S) ((N - 1) / 8) (u8 0)) ((N - 1) % 8) = false := by
        have h1 : hasB (rowB size S) N = S N := hasB_rowB (by omega) (by omega)
        unfold hasB at h1
        rw [h1, hS, Bool.false_or]
        unfold memI
        rw [← hN]; exact decide_eq_false (hnd i h)
      have hset := set_row (size := size) (S := S) (n := N) (by omega) (by omega) (add_bit (nth (rowB size S) ((N - 1) / 8) (u8 0)) ((N - 1) % 8) (by omega) hfree)
      have hnl : ((N - 1) / 8) < (rowB size S).length := by omega
      rw [nth_get hnl] at hset
      simp only [iadd] at hset
      simp (disch := first | assumption | omega | (dsimp only; omega) | decide) only [↓g02, ↓g03, ↓g04, ↓g05, ↓g06, g01, g02, g03, g04, g05, g06, g07, g08, g09, g10, g11, g12, g13, g14, g15, g16, g17, g18, g19, g20, g21, g22, g23, g24, g25, g26, g27, g28, g29, g30, g31, g32, g34, g35, g36, g37, g38, g39, g40, g41, g42, g43, g44, g45, g46, g47, g48, g49, g50, g51, g52, g53, g54, g55, g56, g57, g58, g60, g61, eq_self, not_true_eq_false, not_false_eq_true, List.nil_append, List.append_nil, List.length_nil, and_true, true_and, or_true, true_or, or_false, false_or, and_false, false_and, iff_self, if_true, if_false, lc_rt', lc_ex', lc_nx, g62, g63, Int.toNat_natCast, Int.natCast_add, nth_get, g33, g64, g65, Int.toNat_zero, Bool.false_eq_true, Int.reduceToNat, g66, hN, hP, hrl, hset]
    · subst hf; simp (disch := first | assumption | omega | (dsimp only; omega) | decide) only [↓g02, ↓g03, ↓g04, ↓g05, ↓g06, g01, g02, g03, g04, g05, g06, g07, g08, g09, g10, g11, g12, g13, g14, g15, g16, g17, g18, g19, g20, g21, g22, g23, g24, g25, g26, g27, g28, g29, g30, g31, g32, g34, g35, g36, g37, g38, g39, g40, g41, g42, g43, g44, g45, g46, g47, g48, g49, g50, g51, g52, g53, g54, g55, g56, g57, g58, g60, g61, eq_self, not_true_eq_false, not_false_eq_true, List.nil_append, List.append_nil, List.length_nil, and_true, true_and, or_true, true_or, or_false, false_or, and_false, false_and, iff_self, if_true, if_false, lc_rt', lc_ex', lc_nx, g62, g63, Int.toNat_natCast, Int.natCast_add, nth_get, g33, g64, g65, Int.toNat_zero, Bool.false_eq_true, Int.reduceToNat, g66]
  by_cases hw : wideL l = true
  · have := step (l ++ [1]) 16 _ rfl (by simp; omega) (fun n hn => by
      rcases List.mem_append.1 hn with hn | hn
      · have := hm n hn; omega
      · simp at hn; subst hn; omega) (fun i h => by
      rcases Nat.lt_or_ge i l.length with hi | hi
      · rw [List.getElem_append_left hi, List.take_append_of_le_length (by omega)]; exact hnd 1 l hr i hi
      · have : i = l.length := by simp at h; omega
        subst this
        rw [List.getElem_append_right (by omega), List.take_left]
        simp only [Nat.sub_self, List.getElem_cons_zero]
        intro hc; have := hm 1 hc; omega)
    have e : rowB 16 (memI (l ++ [1])) = bmW l := by
      unfold bmW; rw [if_pos hw]
      refine rowB_ext fun n _ _ => ?_
      unfold memI
      exact Bool.eq_iff_iff.2 (by simp [or_comm])
    rw [e] at this
    have this : loop f (0, rep 16 (u8 0), ()) = some (.ex 0 (((l ++ [1]).length : Int), bmW l, ())) := by rw [← hf]; exact this
    simp (disch := first | assumption | omega | (dsimp only; omega) | decide) only [↓g02, ↓g03, ↓g04, ↓g05, ↓g06, g01, g02, g03, g04, g05, g06, g07, g08, g09, g10, g11, g12, g13, g14, g15, g16, g17, g18, g19, g20, g21, g22, g23, g24, g25, g26, g27, g28, g29, g30, g31, g32, g34, g35, g36, g37, g38, g39, g40, g41, g42, g43, g44, g45, g46, g47, g48, g49, g50, g51, g52, g53, g54, g55, g56, g57, g58, g60, g61, eq_self, not_true_eq_false, not_false_eq_true, List.nil_append, List.append_nil, List.length_nil, and_true, true_and, or_true, true_or, or_false, false_or, and_false, false_and, iff_self, if_true, if_false, lc_rt', lc_ex', lc_nx, g62, g63, Int.toNat_natCast, Int.natCast_add, nth_get, g33, g64, g65, Int.toNat_zero, Bool.false_eq_true, Int.reduceToNat, g66, ref06_Right_spec, hr, hws, hw, List.length_cons, this]
  · have := step l 8 _ rfl (by omega) (fun n hn => by have := not_wide hr hw n hn; have := hm n hn; omega) (hnd 1 l hr)
    have hw' : wideL l = false := (Bool.not_eq_true _).mp hw
    have e : rowB 8 (memI l) = bmW l := by unfold bmW; rw [if_neg hw]
    rw [e] at this
    have this : loop g (0, rep 8 (u8 0), ()) = some (.ex 0 ((l.length : Int), bmW l, ())) := by rw [← hg]; exact this
    simp (disch := first | assumption | omega | (dsimp only; omega) | decide) only [↓g02, ↓g03, ↓g04, ↓g05, ↓g06, g01, g02, g03, g04, g05, g06, g07, g08, g09, g10, g11, g12, g13, g14, g15, g16, g17, g18, g19, g20, g21, g22, g23, g24, g25, g26, g27, g28, g29, g30, g31, g32, g34, g35, g36, g37, g38, g39, g40, g41, g42, g43, g44, g45, g46, g47, g48, g49, g50, g51, g52, g53, g54, g55, g56, g57, g58, g60, g61, eq_self, not_true_eq_false, not_false_eq_true, List.nil_append, List.append_nil, List.length_nil, and_true, true_and, or_true, true_or, or_false, false_or, and_false, false_and, iff_self, if_true, if_false, lc_rt', lc_ex', lc_nx, g62, g63, Int.toNat_natCast, Int.natCast_add, nth_get, g33, g64, g65, Int.toNat_zero, Bool.false_eq_true, Int.reduceToNat, g66, ref06_Right_spec, hr, hws, hw', this]
end Yp
namespace Yp
open Go
theorem ref06_has_spec {c : List UInt8} {n : Nat} (h1 : 1 ≤ n) (h2 : n ≤ 128) (h3 : n ≤ 8 * c.length) : ref06_has (c, (n : Int), ()) = some (hasB c n, ()) := by
  unfold ref06_has
  have hP := ref06_Place_spec h1 h2
  have hlt : (n - 1) / 8 < c.length := by omega
  refine (ob_of hP).trans ((ck_of (inB_nat hlt)).trans ?_)
  have := and_bit (nth c ((n - 1) / 8) (u8 0)) ((n - 1) % 8) (by omega)
  simp only [nat_nat, this]; rfl
theorem hasB_take {c : List UInt8} {n k : Nat} (h1 : 1 ≤ n) (h2 : n ≤ 8 * k) (h3 : k ≤ c.length) : hasB (c.take k) n = hasB c n := by
  unfold hasB
  have h : (n - 1) / 8 < k := by omega
  rw [nth_get (by rw [List.length_take]; omega), nth_get (by omega), List.getElem_take]
def outB (c : List UInt8) (k : Nat) : List Nat := (List.range k).filter fun n => Nat.ble 2 n && hasB c n
theorem outB_succ (c : List UInt8) (k : Nat) (h : 2 ≤ k) : outB c (k + 1) = outB c k ++ if hasB c k = true then [k] else [] := by
  unfold outB
  rw [List.range_succ, List.filter_append]
  congr 1
  have : Nat.ble 2 k = true := Nat.ble_eq_true_of_le h
  simp only [List.filter_cons, this, Bool.true_and, List.filter_nil]
theorem outB_two (c : List UInt8) : outB c 2 = [] := by
  unfold outB; rw [List.filter_eq_nil_iff]
  intro n hn; rw [List.mem_range] at hn
  have : Nat.ble 2 n = false := (Bool.not_eq_true _).mp fun hb => by have := Nat.le_of_ble_eq_true hb; omega
  rw [this]; simp
theorem outB_take {c : List UInt8} {k : Nat} (h : k ≤ c.length) : numsB (c.take k) = outB c (8 * k + 1) := by
  unfold numsB outB
  rw [List.length_take, Nat.min_eq_left h]
  refine List.filter_congr fun n hn => ?_
  rw [List.mem_range] at hn
  by_cases h2 : 2 ≤ n
  · rw [hasB_take (by omega) (by omega) h]
  · have : Nat.ble 2 n = false := (Bool.not_eq_true _).mp fun hb => h2 (Nat.le_of_ble_eq_true hb)
    rw [this, Bool.false_and, Bool.false_and]
theorem outB_sorted (c : List UInt8) (k : Nat) : (outB c k).Pairwise (· < ·) := List.Pairwise.filter _ List.pairwise_lt_range
theorem outB_mem {c : List UInt8} {k n : Nat} : n ∈ outB c k ↔ n < k ∧ 2 ≤ n ∧ hasB c n = true := by
  unfold outB; rw [List.mem_filter, List.mem_range, Bool.and_eq_true, Nat.ble_eq]
theorem sorted_last {l : List Nat} (h : l.Pairwise (· < ·)) {n : Nat} (hn : n ∈ l) (h0 : l.length - 1 < l.length) : n ≤ l[l.length - 1] := by
  obtain ⟨i, hi, rfl⟩ := List.getElem_of_mem hn
  rcases Nat.lt_or_ge i (l.length - 1) with hlt | hge
  · exact Nat.le_of_lt (List.pairwise_iff_getElem.1 h i (l.length - 1) hi h0 hlt)
  · have : i = l.length - 1 := by omega
    subst this; exact Nat.le_refl _
theorem last_65 {l : List Nat} (h : l.Pairwise (· < ·)) : (65 ∈ l ∨ l.length = 0 ∨ ∃ h0 : l.length - 1 < l.length, l[l.length - 1] ≤ 65) ↔ (65 ∈ l ∨ ∀ n ∈ l, n < 65) := by
  constructor
  · rintro (h1 | h1 | ⟨h0, h1⟩)
    · exact .inl h1
    · right; intro n hn; rw [List.length_eq_zero_iff.1 h1] at hn; cases hn
    · by_cases h65 : 65 ∈ l
      · exact .inl h65
      · right; intro n hn
        have := sorted_last h hn h0
        have : n ≠ 65 := fun e => h65 (e ▸ hn)
        omega
  · rintro (h1 | h1)
    · exact .inl h1
    · by_cases h0 : l.length = 0
      · exact .inr (.inl h0)
      · right; right
        refine ⟨by omega, ?_⟩
        have := h1 _ (List.getElem_mem (show l.length - 1 < l.length by omega))
        omega
theorem outB_len (c : List UInt8) (k : Nat) : (outB c k).length ≤ k := by
  unfold outB
  have := List.length_filter_le (fun n => Nat.ble 2 n && hasB c n) (List.range k)
  rwa [List.length_range] at this
theorem ref06_Read_spec (b : List UInt8) (a : Int) (hl : b.length ≤ 1000000) : ref06_Read (b, a, ()) = some (bmR b a) := by
  unfold ref06_Read
  by_cases ha : a < 0 ∨ (b.length : Int) < a
  · unfold bmR; rw [if_pos ha]; simp (disch := first | assumption | omega | (dsimp only; omega) | decide) only [↓g02, ↓g03, ↓g04, ↓g05, ↓g06, g01, g02, g03, g04, g05, g06, g07, g08, g09, g10, g11, g12, g13, g14, g15, g16, g17, g18, g19, g20, g21, g22, g23, g24, g25, g26, g27, g28, g29, g30, g31, g32, g34, g35, g36, g37, g38, g39, g40, g41, g42, g43, g44, g45, g46, g47, g48, g49, g50, g51, g52, g53, g54, g55, g56, g57, g58, g60, g61, eq_self, not_true_eq_false, not_false_eq_true, List.nil_append, List.append_nil, List.length_nil, and_true, true_and, or_true, true_or, or_false, false_or, and_false, false_and, iff_self, if_true, if_false, lc_rt', lc_ex', lc_nx, g62, g63, Int.toNat_natCast, Int.natCast_add, nth_get, g33, g64, g65, Int.toNat_zero, Bool.false_eq_true, Int.reduceToNat, g66]
  have hb : bmR b a = bmC (b.drop a.toNat) a := by unfold bmR; rw [if_neg ha]
  rw [hb]
  have hsub : sub b a (len b) = b.drop a.toNat := by
    simp only [sub, len, Int.toNat_natCast]
    rw [List.take_of_length_le (by rw [List.length_drop]; omega)]
  have hcl : (b.drop a.toNat).length = b.length - a.toNat := List.length_drop
  simp only [hsub]
  generalize hc : b.drop a.toNat = c at *
  clear hb hsub
  by_cases h8 : c.length < 8
  · unfold bmC; rw [if_pos (Or.inl h8)]; simp (disch := first | assumption | omega | (dsimp only; omega) | decide) only [↓g02, ↓g03, ↓g04, ↓g05, ↓g06, g01, g02, g03, g04, g05, g06, g07, g08, g09, g10, g11, g12, g13, g14, g15, g16, g17, g18, g19, g20, g21, g22, g23, g24, g25, g26, g27, g28, g29, g30, g31, g32, g34, g35, g36, g37, g38, g39, g40, g41, g42, g43, g44, g45, g46, g47, g48, g49, g50, g51, g52, g53, g54, g55, g56, g57, g58, g60, g61, eq_self, not_true_eq_false, not_false_eq_true, List.nil_append, List.append_nil, List.length_nil, and_true, true_and, or_true, true_or, or_false, false_or, and_false, false_and, iff_self, if_true, if_false, lc_rt', lc_ex', lc_nx, g62, g63, Int.toNat_natCast, Int.natCast_add, nth_get, g33, g64, g65, Int.toNat_zero, Bool.false_eq_true, Int.reduceToNat, g66]
  have h1 := ref06_has_spec (c := c) (n := 1) (by omega) (by omega) (by omega)
  replace h1 : ref06_has (c, 1, ()) = some (hasB c 1, ()) := h1
  -- the loop
  have lp : ∀ (size : Nat) (f : List Int × Int × Unit → Option (LS (List Int × Int × Unit) (List Int × Int × Int × Unit))), (fun (x_1 : List Int × Int × Unit) =>
           sel (le x_1.2.1 (i64 (imul 8 (size : Int)))) (ob (ref06_has (c, x_1.2.1, ())) fun (a : Bool × Unit) => sel a.1 (ck (rm 32 (nadd (ln x_1.1) (ln [x_1.2.1]))) (some (LS.nx (app x_1.1 [x_1.2.1], i64 (iadd x_1.2.1 1), ()))))
            (some (LS.nx (x_1.1, i64 (iadd x_1.2.1 1), ())))) (some (LS.ex 0 (x_1.1, x_1.2.1, ())))) = f → 1 ≤ size → size ≤ 16 → size ≤ c.length →
      loop f ([], 2, ()) = some (.ex 0 ((numsB (c.take size)).map Int.ofNat, ((8 * size + 1 : Nat) : Int), ())) := by
    intro size f hf hs0 hs hsc
    have step : ∀ i, i < 8 * size - 1 → f ((outB c (i + 2)).map Int.ofNat, ((i + 2 : Nat) : Int), ()) = some (.nx ((outB c (i + 1 + 2)).map Int.ofNat, ((i + 1 + 2 : Nat) : Int), ())) := fun i hi => by
      subst hf
      have hh := ref06_has_spec (c := c) (n := i + 2) (by omega) (by omega) (by omega)
      have hol := outB_len c (i + 2)
      have hos := outB_succ c (i + 2) (by omega)
      rw [show i + 1 + 2 = i + 2 + 1 by omega, hos]
      cases hhb : hasB c (i + 2)
      · rw [hhb] at hh
        simp only [Bool.false_eq_true, if_false, List.append_nil]
        generalize hN : i + 2 = N at *
        simp (disch := first | assumption | omega | (dsimp only; omega) | decide) only [↓g02, ↓g03, ↓g04, ↓g05, ↓g06, g01, g02, g03, g04, g05, g06, g07, g08, g09, g10, g11, g12, g13, g14, g15, g16, g17, g18, g19, g20, g21, g22, g23, g24, g25, g26, g27, g28, g29, g30, g31, g32, g34, g35, g36, g37, g38, g39, g40, g41, g42, g43, g44, g45, g46, g47, g48, g49, g50, g51, g52, g53, g54, g55, g56, g57, g58, g60, g61, eq_self, not_true_eq_false, not_false_eq_true, List.nil_append, List.append_nil, List.length_nil, and_true, true_and, or_true, true_or, or_false, false_or, and_false, false_and, iff_self, if_true, if_false, lc_rt', lc_ex', lc_nx, g62, g63, Int.toNat_natCast, Int.natCast_add, nth_get, g33, g64, g65, Int.toNat_zero, Bool.false_eq_true, Int.reduceToNat, g66, hh]
      · rw [hhb] at hh
        simp only [if_true, List.map_append, List.map_cons, List.map_nil]
        generalize hN : i + 2 = N at *
        simp (disch := first | assumption | omega | (dsimp only; omega) | decide) only [↓g02, ↓g03, ↓g04, ↓g05, ↓g06, g01, g02, g03, g04, g05, g06, g07, g08, g09, g10, g11, g12, g13, g14, g15, g16, g17, g18, g19, g20, g21, g22, g23, g24, g25, g26, g27, g28, g29, g30, g31, g32, g34, g35, g36, g37, g38, g39, g40, g41, g42, g43, g44, g45, g46, g47, g48, g49, g50, g51, g52, g53, g54, g55, g56, g57, g58, g60, g61, eq_self, not_true_eq_false, not_false_eq_true, List.nil_append, List.append_nil, List.length_nil, and_true, true_and, or_true, true_or, or_false, false_or, and_false, false_and, iff_self, if_true, if_false, lc_rt', lc_ex', lc_nx, g62, g63, Int.toNat_natCast, Int.natCast_add, nth_get, g33, g64, g65, Int.toNat_zero, Bool.false_eq_true, Int.reduceToNat, g66, hh, List.length_map, List.length_cons]
        rfl
    have e := loop_count (f := f) (fun i => ((outB c (i + 2)).map Int.ofNat, ((i + 2 : Nat) : Int), ())) (8 * size - 1) step 0 (by omega)
    simp only [Nat.zero_add, outB_two, List.map_nil] at e
    replace e : loop f ([], 2, ()) = _ := e
    rw [e, outB_take hsc, show 8 * size - 1 + 2 = 8 * size + 1 by omega]
    refine loop_ex ?_
    subst hf; simp (disch := first | assumption | omega | (dsimp only; omega) | decide) only [↓g02, ↓g03, ↓g04, ↓g05, ↓g06, g01, g02, g03, g04, g05, g06, g07, g08, g09, g10, g11, g12, g13, g14, g15, g16, g17, g18, g19, g20, g21, g22, g23, g24, g25, g26, g27, g28, g29, g30, g31, g32, g34, g35, g36, g37, g38, g39, g40, g41, g42, g43, g44, g45, g46, g47, g48, g49, g50, g51, g52, g53, g54, g55, g56, g57, g58, g60, g61, eq_self, not_true_eq_false, not_false_eq_true, List.nil_append, List.append_nil, List.length_nil, and_true, true_and, or_true, true_or, or_false, false_or, and_false, false_and, iff_self, if_true, if_false, lc_rt', lc_ex', lc_nx, g62, g63, Int.toNat_natCast, Int.natCast_add, nth_get, g33, g64, g65, Int.toNat_zero, Bool.false_eq_true, Int.reduceToNat, g66]
  refine (ob_of (a := (false, ())) (by simp (disch := first | assumption | omega | (dsimp only; omega) | decide) only [↓g02, ↓g03, ↓g04, ↓g05, ↓g06, g01, g02, g03, g04, g05, g06, g07, g08, g09, g10, g11, g12, g13, g14, g15, g16, g17, g18, g19, g20, g21, g22, g23, g24, g25, g26, g27, g28, g29, g30, g31, g32, g34, g35, g36, g37, g38, g39, g40, g41, g42, g43, g44, g45, g46, g47, g48, g49, g50, g51, g52, g53, g54, g55, g56, g57, g58, g60, g61, eq_self, not_true_eq_false, not_false_eq_true, List.nil_append, List.append_nil, List.length_nil, and_true, true_and, or_true, true_or, or_false, false_or, and_false, false_and, iff_self, if_true, if_false, lc_rt', lc_ex', lc_nx, g62, g63, Int.toNat_natCast, Int.natCast_add, nth_get, g33, g64, g65, Int.toNat_zero, Bool.false_eq_true, Int.reduceToNat, g66]; exact some_Df (by omega))).trans ?_
  refine (sel_of_f rfl).trans ?_
  refine (ck_of (by simp (disch := first | assumption | omega | (dsimp only; omega) | decide) only [↓g02, ↓g03, ↓g04, ↓g05, ↓g06, g01, g02, g03, g04, g05, g06, g07, g08, g09, g10, g11, g12, g13, g14, g15, g16, g17, g18, g19, g20, g21, g22, g23, g24, g25, g26, g27, g28, g29, g30, g31, g32, g34, g35, g36, g37, g38, g39, g40, g41, g42, g43, g44, g45, g46, g47, g48, g49, g50, g51, g52, g53, g54, g55, g56, g57, g58, g60, g61, eq_self, not_true_eq_false, not_false_eq_true, List.nil_append, List.append_nil, List.length_nil, and_true, true_and, or_true, true_or, or_false, false_or, and_false, false_and, iff_self, if_true, if_false, lc_rt', lc_ex', lc_nx, g62, g63, Int.toNat_natCast, Int.natCast_add, nth_get, g33, g64, g65, Int.toNat_zero, Bool.false_eq_true, Int.reduceToNat, g66]; exact ⟨by omega, by omega⟩)).trans ?_
  refine (sel_of_f (by simp (disch := first | assumption | omega | (dsimp only; omega) | decide) only [↓g02, ↓g03, ↓g04, ↓g05, ↓g06, g01, g02, g03, g04, g05, g06, g07, g08, g09, g10, g11, g12, g13, g14, g15, g16, g17, g18, g19, g20, g21, g22, g23, g24, g25, g26, g27, g28, g29, g30, g31, g32, g34, g35, g36, g37, g38, g39, g40, g41, g42, g43, g44, g45, g46, g47, g48, g49, g50, g51, g52, g53, g54, g55, g56, g57, g58, g60, g61, eq_self, not_true_eq_false, not_false_eq_true, List.nil_append, List.append_nil, List.length_nil, and_true, true_and, or_true, true_or, or_false, false_or, and_false, false_and, iff_self, if_true, if_false, lc_rt', lc_ex', lc_nx, g62, g63, Int.toNat_natCast, Int.natCast_add, nth_get, g33, g64, g65, Int.toNat_zero, Bool.false_eq_true, Int.reduceToNat, g66]; omega)).trans ?_
  refine (ob_of h1).trans ?_
  cases hw : hasB c 1
  · have e := lp 8 _ rfl (by omega) (by omega) (by omega)
    have hbm : bmC c a = ((numsB (c.take 8)).map Int.ofNat, a + 8, 0, ()) := by
      unfold bmC
      rw [if_neg (by rw [hw]; simp; omega), if_neg (by rw [hw]; simp)]
    rw [hbm]
    refine (ob_of (sel_of_f rfl)).trans ?_
    refine (sel_of_f (by simp (disch := first | assumption | omega | (dsimp only; omega) | decide) only [↓g02, ↓g03, ↓g04, ↓g05, ↓g06, g01, g02, g03, g04, g05, g06, g07, g08, g09, g10, g11, g12, g13, g14, g15, g16, g17, g18, g19, g20, g21, g22, g23, g24, g25, g26, g27, g28, g29, g30, g31, g32, g34, g35, g36, g37, g38, g39, g40, g41, g42, g43, g44, g45, g46, g47, g48, g49, g50, g51, g52, g53, g54, g55, g56, g57, g58, g60, g61, eq_self, not_true_eq_false, not_false_eq_true, List.nil_append, List.append_nil, List.length_nil, and_true, true_and, or_true, true_or, or_false, false_or, and_false, false_and, iff_self, if_true, if_false, lc_rt', lc_ex', lc_nx, g62, g63, Int.toNat_natCast, Int.natCast_add, nth_get, g33, g64, g65, Int.toNat_zero, Bool.false_eq_true, Int.reduceToNat, g66]; omega)).trans ?_
    refine (lc_eq e).trans ?_
    simp (disch := first | assumption | omega | (dsimp only; omega) | decide) only [↓g02, ↓g03, ↓g04, ↓g05, ↓g06, g01, g02, g03, g04, g05, g06, g07, g08, g09, g10, g11, g12, g13, g14, g15, g16, g17, g18, g19, g20, g21, g22, g23, g24, g25, g26, g27, g28, g29, g30, g31, g32, g34, g35, g36, g37, g38, g39, g40, g41, g42, g43, g44, g45, g46, g47, g48, g49, g50, g51, g52, g53, g54, g55, g56, g57, g58, g60, g61, eq_self, not_true_eq_false, not_false_eq_true, List.nil_append, List.append_nil, List.length_nil, and_true, true_and, or_true, true_or, or_false, false_or, and_false, false_and, iff_self, if_true, if_false, lc_rt', lc_ex', lc_nx, g62, g63, Int.toNat_natCast, Int.natCast_add, nth_get, g33, g64, g65, Int.toNat_zero, Bool.false_eq_true, Int.reduceToNat, g66]
  · by_cases h16 : c.length < 16
    · unfold bmC; rw [if_pos (Or.inr ⟨hw, h16⟩)]
      simp (disch := first | assumption | omega | (dsimp only; omega) | decide) only [↓g02, ↓g03, ↓g04, ↓g05, ↓g06, g01, g02, g03, g04, g05, g06, g07, g08, g09, g10, g11, g12, g13, g14, g15, g16, g17, g18, g19, g20, g21, g22, g23, g24, g25, g26, g27, g28, g29, g30, g31, g32, g34, g35, g36, g37, g38, g39, g40, g41, g42, g43, g44, g45, g46, g47, g48, g49, g50, g51, g52, g53, g54, g55, g56, g57, g58, g60, g61, eq_self, not_true_eq_false, not_false_eq_true, List.nil_append, List.append_nil, List.length_nil, and_true, true_and, or_true, true_or, or_false, false_or, and_false, false_and, iff_self, if_true, if_false, lc_rt', lc_ex', lc_nx, g62, g63, Int.toNat_natCast, Int.natCast_add, nth_get, g33, g64, g65, Int.toNat_zero, Bool.false_eq_true, Int.reduceToNat, g66]
    · have e := lp 16 _ rfl (by omega) (by omega) (by omega)
      have h65 := ref06_has_spec (c := c) (n := 65) (by omega) (by omega) (by omega)
      replace h65 : ref06_has (c, 65, ()) = some (hasB c 65, ()) := h65
      rw [outB_take (by omega)] at e
      have hol := outB_len c (8 * 16 + 1)
      have hm65 : 65 ∈ outB c (8 * 16 + 1) ↔ hasB c 65 = true := ⟨fun h => (outB_mem.1 h).2.2, fun h => outB_mem.2 ⟨by omega, by omega, h⟩⟩
      have hlast := last_65 (outB_sorted c (8 * 16 + 1))
      have hbm : bmC c a = if 65 ∈ outB c (8 * 16 + 1) ∨ ∀ n ∈ outB c (8 * 16 + 1), n < 65 then ([], 0, 2, ()) else ((outB c (8 * 16 + 1)).map Int.ofNat, a + 16, 0, ()) := by
        unfold bmC
        rw [if_neg (by omega), if_pos hw, outB_take (by omega)]
      rw [hbm]
      refine (ob_of (sel_of_t rfl)).trans ?_
      refine (sel_of_f (by simp (disch := first | assumption | omega | (dsimp only; omega) | decide) only [↓g02, ↓g03, ↓g04, ↓g05, ↓g06, g01, g02, g03, g04, g05, g06, g07, g08, g09, g10, g11, g12, g13, g14, g15, g16, g17, g18, g19, g20, g21, g22, g23, g24, g25, g26, g27, g28, g29, g30, g31, g32, g34, g35, g36, g37, g38, g39, g40, g41, g42, g43, g44, g45, g46, g47, g48, g49, g50, g51, g52, g53, g54, g55, g56, g57, g58, g60, g61, eq_self, not_true_eq_false, not_false_eq_true, List.nil_append, List.append_nil, List.length_nil, and_true, true_and, or_true, true_or, or_false, false_or, and_false, false_and, iff_self, if_true, if_false, lc_rt', lc_ex', lc_nx, g62, g63, Int.toNat_natCast, Int.natCast_add, nth_get, g33, g64, g65, Int.toNat_zero, Bool.false_eq_true, Int.reduceToNat, g66]; omega)).trans ?_
      refine (lc_eq e).trans ?_
      generalize outB c (8 * 16 + 1) = l at *
      have hq : ((l.length : Int) - 1).toNat = l.length - 1 := by omega
      cases hb65 : hasB c 65
      · rw [hb65] at h65 hm65
        have hn65 : ¬ 65 ∈ l := fun h => by have := hm65.1 h; simp at this
        by_cases h0 : l.length = 0
        · rw [if_pos (hlast.1 (.inr (.inl h0)))]
          simp (disch := first | assumption | omega | (dsimp only; omega) | decide) only [↓g02, ↓g03, ↓g04, ↓g05, ↓g06, g01, g02, g03, g04, g05, g06, g07, g08, g09, g10, g11, g12, g13, g14, g15, g16, g17, g18, g19, g20, g21, g22, g23, g24, g25, g26, g27, g28, g29, g30, g31, g32, g34, g35, g36, g37, g38, g39, g40, g41, g42, g43, g44, g45, g46, g47, g48, g49, g50, g51, g52, g53, g54, g55, g56, g57, g58, g60, g61, eq_self, not_true_eq_false, not_false_eq_true, List.nil_append, List.append_nil, List.length_nil, and_true, true_and, or_true, true_or, or_false, false_or, and_false, false_and, iff_self, if_true, if_false, lc_rt', lc_ex', lc_nx, g62, g63, Int.toNat_natCast, Int.natCast_add, nth_get, g33, g64, g65, Int.toNat_zero, Bool.false_eq_true, Int.reduceToNat, g66, h65, List.length_map]
        · have hlt : l.length - 1 < l.length := by omega
          have hn : nth (l.map Int.ofNat) (l.length - 1) 0 = Int.ofNat l[l.length - 1] := by rw [nth_get (by simpa using hlt), List.getElem_map]
          by_cases h6 : l[l.length - 1] ≤ 65
          · rw [if_pos (hlast.1 (.inr (.inr ⟨hlt, h6⟩)))]
            have h6' : Int.ofNat l[l.length - 1] ≤ 65 := by simp; omega
            simp (disch := first | assumption | omega | (dsimp only; omega) | decide) only [↓g02, ↓g03, ↓g04, ↓g05, ↓g06, g01, g02, g03, g04, g05, g06, g07, g08, g09, g10, g11, g12, g13, g14, g15, g16, g17, g18, g19, g20, g21, g22, g23, g24, g25, g26, g27, g28, g29, g30, g31, g32, g34, g35, g36, g37, g38, g39, g40, g41, g42, g43, g44, g45, g46, g47, g48, g49, g50, g51, g52, g53, g54, g55, g56, g57, g58, g60, g61, eq_self, not_true_eq_false, not_false_eq_true, List.nil_append, List.append_nil, List.length_nil, and_true, true_and, or_true, true_or, or_false, false_or, and_false, false_and, iff_self, if_true, if_false, lc_rt', lc_ex', lc_nx, g62, g63, Int.toNat_natCast, Int.natCast_add, nth_get, g33, g64, g65, Int.toNat_zero, Bool.false_eq_true, Int.reduceToNat, g66, h65, List.length_map, hq, hn]
          · rw [if_neg fun hc => by
              rcases hlast.2 hc with h | h | ⟨_, h⟩
              · exact hn65 h
              · exact h0 h
              · exact h6 h]
            have h6' : ¬ Int.ofNat l[l.length - 1] ≤ 65 := by simp; omega
            simp (disch := first | assumption | omega | (dsimp only; omega) | decide) only [↓g02, ↓g03, ↓g04, ↓g05, ↓g06, g01, g02, g03, g04, g05, g06, g07, g08, g09, g10, g11, g12, g13, g14, g15, g16, g17, g18, g19, g20, g21, g22, g23, g24, g25, g26, g27, g28, g29, g30, g31, g32, g34, g35, g36, g37, g38, g39, g40, g41, g42, g43, g44, g45, g46, g47, g48, g49, g50, g51, g52, g53, g54, g55, g56, g57, g58, g60, g61, eq_self, not_true_eq_false, not_false_eq_true, List.nil_append, List.append_nil, List.length_nil, and_true, true_and, or_true, true_or, or_false, false_or, and_false, false_and, iff_self, if_true, if_false, lc_rt', lc_ex', lc_nx, g62, g63, Int.toNat_natCast, Int.natCast_add, nth_get, g33, g64, g65, Int.toNat_zero, Bool.false_eq_true, Int.reduceToNat, g66, h65, List.length_map, hq, hn]
      · rw [if_pos (.inl (hm65.2 hb65))]
        rw [hb65] at h65
        simp (disch := first | assumption | omega | (dsimp only; omega) | decide) only [↓g02, ↓g03, ↓g04, ↓g05, ↓g06, g01, g02, g03, g04, g05, g06, g07, g08, g09, g10, g11, g12, g13, g14, g15, g16, g17, g18, g19, g20, g21, g22, g23, g24, g25, g26, g27, g28, g29, g30, g31, g32, g34, g35, g36, g37, g38, g39, g40, g41, g42, g43, g44, g45, g46, g47, g48, g49, g50, g51, g52, g53, g54, g55, g56, g57, g58, g60, g61, eq_self, not_true_eq_false, not_false_eq_true, List.nil_append, List.append_nil, List.length_nil, and_true, true_and, or_true, true_or, or_false, false_or, and_false, false_and, iff_self, if_true, if_false, lc_rt', lc_ex', lc_nx, g62, g63, Int.toNat_natCast, Int.natCast_add, nth_get, g33, g64, g65, Int.toNat_zero, Bool.false_eq_true, Int.reduceToNat, g66, h65]
end Yp
namespace Yp
open Go
theorem formOf_no {no k l : Int} (h : formOf no = some (k, l)) : 2 ≤ no ∧ no ≤ 128 ∧ no ≠ 65 := by
  unfold formOf at h
  rw [Option.map_eq_some_iff] at h
  obtain ⟨r, hr, he⟩ := h
  have hm := List.mem_of_find?_eq_some hr
  have hp := List.find?_some hr
  simp only [List.contains_eq_mem, decide_eq_true_eq] at hp
  have : ∀ r ∈ frows, ∀ c ∈ r.drop 2, 2 ≤ c ∧ c ≤ 128 ∧ c ≠ 65 := by decide +kernel
  exact this r hm no hp
theorem fitsD_iff {no : Int} {v : List UInt8} : fitsD no v = true ↔ ∃ k l, formOf no = some (k, l) ∧ fv k l v := by
  unfold fitsD
  cases ho : formOf no with
  | none => simp
  | some p =>
    obtain ⟨k, l⟩ := p
    simp only [decide_eq_true_eq, Option.some.injEq, Prod.mk.injEq]
    exact ⟨fun h => ⟨k, l, ⟨rfl, rfl⟩, h⟩, fun ⟨_, _, ⟨h1, h2⟩, h⟩ => by rw [h1, h2]; exact h⟩
theorem fitsD_no {no : Int} {v : List UInt8} (h : fitsD no v = true) : 2 ≤ no ∧ no ≤ 128 ∧ no ≠ 65 := by
  obtain ⟨k, l, h1, _⟩ := fitsD_iff.1 h; exact formOf_no h1
theorem rightF_mem {l : List V} : ∀ {last : Int}, rightF last l = true → ∀ v ∈ l, last < v.1 ∧ fitsD v.1 v.2.1 = true := by
  induction l with
  | nil => intro _ _ v hv; cases hv
  | cons x r ih =>
    intro last h v hv
    simp only [rightF, Bool.and_eq_true, decide_eq_true_eq] at h
    rcases List.mem_cons.1 hv with rfl | hv
    · exact ⟨h.1, h.2.1⟩
    · have := ih h.2.2 v hv
      exact ⟨by omega, this.2⟩
def nosF (l : List V) : List Int := l.map fun v => v.1
theorem rightF_L {l : List V} : ∀ {last : Int}, 1 ≤ last → rightF last l = true → rightL last (nosF l) = true := by
  induction l with
  | nil => intros; rfl
  | cons x r ih =>
    intro last hl h
    simp only [rightF, Bool.and_eq_true, decide_eq_true_eq] at h
    have hn := fitsD_no h.2.1
    simp only [nosF, List.map_cons, rightL, Bool.and_eq_true, decide_eq_true_eq]
    exact ⟨⟨h.1, hn.2⟩, ih (by omega) h.2.2⟩
theorem rightF_L1 {l : List V} (h : rightF 0 l = true) : rightL 1 (nosF l) = true := by
  cases l with
  | nil => rfl
  | cons x r =>
    simp only [rightF, Bool.and_eq_true, decide_eq_true_eq] at h
    have hn := fitsD_no h.2.1
    simp only [nosF, List.map_cons, rightL, Bool.and_eq_true, decide_eq_true_eq]
    exact ⟨⟨by omega, hn.2⟩, rightF_L (by omega) h.2.2⟩
def wrV (v : V) : List UInt8 := (wrD v.1 v.2.1).1
theorem wrD_fit {no : Int} {v : List UInt8} (h : fitsD no v = true) : wrD no v = ((wrD no v).1, 0, ()) ∧ (wrD no v).1.length ≤ 402 ∧ 1 ≤ (wrD no v).1.length := by
  obtain ⟨k, l, h1, h2⟩ := fitsD_iff.1 h
  have e : wrD no v = (wrF k v, 0, ()) := by unfold wrD; rw [h1]; simp only [if_pos h2]
  have hl := fv_len h1 h2
  rw [e]
  exact ⟨rfl, wrF_le (form_ok h1).1 hl.2.2, wrF_pos (form_ok h1).1 hl.1⟩
def typB (m : Int) : List UInt8 := bcd (pad (ps 10 dch m.toNat 4))
theorem typB_length {m : Int} : (typB m).length = 2 := by unfold typB; rw [bcdpad_length, ps_length]
def wrM (m : M) : List UInt8 := typB m.1 ++ (bmW (nosF m.2.1) ++ m.2.1.flatMap wrV)
theorem bmW_length (l : List Int) : (bmW l).length = if wideL l = true then 16 else 8 := by unfold bmW; split <;> exact rowB_length
theorem foldl_nos (l : List V) : ∀ acc : List Int, l.foldl (fun acc v => acc ++ [v.1]) acc = acc ++ nosF l := by
  induction l with
  | nil => intro acc; simp [nosF]
  | cons v r ih => intro acc; rw [List.foldl_cons, ih]; simp [nosF]
theorem foldl_wr (l : List V) : ∀ acc : List UInt8, l.foldl (fun acc v => acc ++ wrV v) acc = acc ++ l.flatMap wrV := by
  induction l with
  | nil => intro acc; simp
  | cons v r ih => intro acc; rw [List.foldl_cons, ih]; simp
theorem typ_digits {m : Int} (h : typeOK m) : dig_Digits (m, 4, ()) = some (ps 10 dch m.toNat 4, 0, ()) ∧ dig_Bcd (ps 10 dch m.toNat 4, ()) = some (typB m, 0, ()) ∧ ref01_Digits (m, 4, ()) = some (ps 10 dch m.toNat 4, 0, ()) ∧ ref01_Bcd (ps 10 dch m.toNat 4, ()) = some (typB m, 0, ()) := by
  unfold typeOK at h
  have e : (10 : Int) ^ (4 : Int).toNat = 10000 := by decide
  refine ⟨?_, ?_, ?_, ?_⟩
  · rw [dig_Digits_spec _ _ (by omega), if_pos ⟨by omega, by omega, by omega, by rw [e]; omega⟩]; rfl
  · rw [dig_Bcd_spec _ (by rw [ps_length]; omega), if_pos figs_ps]; rfl
  · rw [ref01_Digits_spec _ _ (by omega), if_pos ⟨by omega, by omega, by omega, by rw [e]; omega⟩]; rfl
  · rw [ref01_Bcd_spec _ (by rw [ps_length]; omega), if_pos figs_ps]; rfl
theorem iso_Write_spec (m : M) (hm : fewM m) : iso_Write (m, ()) = some (if rightM m = true then (wrM m, 0, ()) else ([], 1, ())) := by
  unfold iso_Write
  generalize hf : (fun (x_1 : List Int × Int × Unit) => _) = f
  generalize hg : (fun (x_1 : List UInt8 × Int × Unit) => (_ : Option (LS (List UInt8 × Int × Unit) (List UInt8 × Int × Unit)))) = g
  have hR := iso_Right_spec m hm
  have hl := hm.1
  cases hr : rightM m
  · simp (disch := first | assumption | omega | (dsimp only; omega) | decide) only [↓g02, ↓g03, ↓g04, ↓g05, ↓g06, g01, g02, g03, g04, g05, g06, g07, g08, g09, g10, g11, g12, g13, g14, g15, g16, g17, g18, g19, g20, g21, g22, g23, g24, g25, g26, g27, g28, g29, g30, g31, g32, g34, g35, g36, g37, g38, g39, g40, g41, g42, g43, g44, g45, g46, g47, g48, g49, g50, g51, g52, g53, g54, g55, g56, g57, g58, g60, g61, eq_self, not_true_eq_false, not_false_eq_true, List.nil_append, List.append_nil, List.length_nil, and_true, true_and, or_true, true_or, or_false, false_or, and_false, false_and, iff_self, if_true, if_false, lc_rt', lc_ex', lc_nx, g62, g63, Int.toNat_natCast, Int.natCast_add, nth_get, g33, g64, g65, Int.toNat_zero, Bool.false_eq_true, Int.reduceToNat, g66, hR, hr]
  have hr' := hr
  simp only [rightM, Bool.and_eq_true, decide_eq_true_eq] at hr'
  obtain ⟨d1, d2, -, -⟩ := typ_digits hr'.2
  have key := loop_fold (f := f) (ρ := List UInt8 × Int × Unit) m.2.1 (fun (acc : List Int) i => (acc, (i : Int), ())) 0 (fun acc v => .nx (acc ++ [v.1])) (fun acc i => acc.length = i) (fun b i h hI => ⟨?_, fun b' hb => ?_⟩) (fun b _ => ?_) [] rfl
  · rw [foldS_all (g := fun (acc : List Int) (v : V) => acc ++ [v.1]) (fun _ _ => rfl), foldl_nos, List.nil_append] at key
    have hbm := bitmap_Write_spec (nosF m.2.1) (by simp [nosF]; omega)
    rw [if_pos (rightF_L1 hr'.1)] at hbm
    have htl := typB_length (m := m.1)
    have hbl : (bmW (nosF m.2.1)).length ≤ 16 := by rw [bmW_length]; split <;> omega
    have key2 := loop_fold (f := g) (ρ := List UInt8 × Int × Unit) m.2.1 (fun (acc : List UInt8) i => (acc, (i : Int), ())) 2 (fun acc v => .nx (acc ++ wrV v)) (fun acc i => acc.length ≤ 100 + 402 * i) (fun b i h hI => ⟨?_, fun b' hb => ?_⟩) (fun b _ => ?_) (typB m.1 ++ bmW (nosF m.2.1)) (by rw [List.length_append]; omega)
    · rw [foldS_all (g := fun (acc : List UInt8) (v : V) => acc ++ wrV v) (fun _ _ => rfl), foldl_wr, List.append_assoc] at key2
      have hnl : (nosF m.2.1).length = m.2.1.length := by simp [nosF]
      replace key : loop f ([], 0, ()) = _ := key
      replace key2 : loop g (typB m.1 ++ bmW (nosF m.2.1), 0, ()) = _ := key2
      simp (disch := first | assumption | omega | (dsimp only; omega) | decide) only [↓g02, ↓g03, ↓g04, ↓g05, ↓g06, g01, g02, g03, g04, g05, g06, g07, g08, g09, g10, g11, g12, g13, g14, g15, g16, g17, g18, g19, g20, g21, g22, g23, g24, g25, g26, g27, g28, g29, g30, g31, g32, g34, g35, g36, g37, g38, g39, g40, g41, g42, g43, g44, g45, g46, g47, g48, g49, g50, g51, g52, g53, g54, g55, g56, g57, g58, g60, g61, eq_self, not_true_eq_false, not_false_eq_true, List.nil_append, List.append_nil, List.length_nil, and_true, true_and, or_true, true_or, or_false, false_or, and_false, false_and, iff_self, if_true, if_false, lc_rt', lc_ex', lc_nx, g62, g63, Int.toNat_natCast, Int.natCast_add, nth_get, g33, g64, g65, Int.toNat_zero, Bool.false_eq_true, Int.reduceToNat, g66, hR, hr, d1, d2, key, hbm, key2]
      rfl
    · subst hg
      have hfit := rightF_mem hr'.1 m.2.1[i] (List.getElem_mem h)
      have hw := wrD_fit hfit.2
      have hlv := hm.nth h
      have hws := field_Write_spec m.2.1[i].1 m.2.1[i].2.1 hlv
      rw [hw.1] at hws
      have hwl : (wrV m.2.1[i]).length ≤ 402 := hw.2.1
      change field_Write _ = some (wrV m.2.1[i], 0, ()) at hws
      simp (disch := first | assumption | omega | (dsimp only; omega) | decide) only [↓g02, ↓g03, ↓g04, ↓g05, ↓g06, g01, g02, g03, g04, g05, g06, g07, g08, g09, g10, g11, g12, g13, g14, g15, g16, g17, g18, g19, g20, g21, g22, g23, g24, g25, g26, g27, g28, g29, g30, g31, g32, g34, g35, g36, g37, g38, g39, g40, g41, g42, g43, g44, g45, g46, g47, g48, g49, g50, g51, g52, g53, g54, g55, g56, g57, g58, g60, g61, eq_self, not_true_eq_false, not_false_eq_true, List.nil_append, List.append_nil, List.length_nil, and_true, true_and, or_true, true_or, or_false, false_or, and_false, false_and, iff_self, if_true, if_false, lc_rt', lc_ex', lc_nx, g62, g63, Int.toNat_natCast, Int.natCast_add, nth_get, g33, g64, g65, Int.toNat_zero, Bool.false_eq_true, Int.reduceToNat, g66, hws, liftS]
    · cases hb
      have hfit := rightF_mem hr'.1 m.2.1[i] (List.getElem_mem h)
      have hwl : (wrV m.2.1[i]).length ≤ 402 := (wrD_fit hfit.2).2.1
      rw [List.length_append]; omega
    · subst hg; simp (disch := first | assumption | omega | (dsimp only; omega) | decide) only [↓g02, ↓g03, ↓g04, ↓g05, ↓g06, g01, g02, g03, g04, g05, g06, g07, g08, g09, g10, g11, g12, g13, g14, g15, g16, g17, g18, g19, g20, g21, g22, g23, g24, g25, g26, g27, g28, g29, g30, g31, g32, g34, g35, g36, g37, g38, g39, g40, g41, g42, g43, g44, g45, g46, g47, g48, g49, g50, g51, g52, g53, g54, g55, g56, g57, g58, g60, g61, eq_self, not_true_eq_false, not_false_eq_true, List.nil_append, List.append_nil, List.length_nil, and_true, true_and, or_true, true_or, or_false, false_or, and_false, false_and, iff_self, if_true, if_false, lc_rt', lc_ex', lc_nx, g62, g63, Int.toNat_natCast, Int.natCast_add, nth_get, g33, g64, g65, Int.toNat_zero, Bool.false_eq_true, Int.reduceToNat, g66]
  · subst hf; simp (disch := first | assumption | omega | (dsimp only; omega) | decide) only [↓g02, ↓g03, ↓g04, ↓g05, ↓g06, g01, g02, g03, g04, g05, g06, g07, g08, g09, g10, g11, g12, g13, g14, g15, g16, g17, g18, g19, g20, g21, g22, g23, g24, g25, g26, g27, g28, g29, g30, g31, g32, g34, g35, g36, g37, g38, g39, g40, g41, g42, g43, g44, g45, g46, g47, g48, g49, g50, g51, g52, g53, g54, g55, g56, g57, g58, g60, g61, eq_self, not_true_eq_false, not_false_eq_true, List.nil_append, List.append_nil, List.length_nil, and_true, true_and, or_true, true_or, or_false, false_or, and_false, false_and, iff_self, if_true, if_false, lc_rt', lc_ex', lc_nx, g62, g63, Int.toNat_natCast, Int.natCast_add, nth_get, g33, g64, g65, Int.toNat_zero, Bool.false_eq_true, Int.reduceToNat, g66, List.length_cons, liftS]
  · cases hb; rw [List.length_append, hI]; rfl
  · subst hf; simp (disch := first | assumption | omega | (dsimp only; omega) | decide) only [↓g02, ↓g03, ↓g04, ↓g05, ↓g06, g01, g02, g03, g04, g05, g06, g07, g08, g09, g10, g11, g12, g13, g14, g15, g16, g17, g18, g19, g20, g21, g22, g23, g24, g25, g26, g27, g28, g29, g30, g31, g32, g34, g35, g36, g37, g38, g39, g40, g41, g42, g43, g44, g45, g46, g47, g48, g49, g50, g51, g52, g53, g54, g55, g56, g57, g58, g60, g61, eq_self, not_true_eq_false, not_false_eq_true, List.nil_append, List.append_nil, List.length_nil, and_true, true_and, or_true, true_or, or_false, false_or, and_false, false_and, iff_self, if_true, if_false, lc_rt', lc_ex', lc_nx, g62, g63, Int.toNat_natCast, Int.natCast_add, nth_get, g33, g64, g65, Int.toNat_zero, Bool.false_eq_true, Int.reduceToNat, g66]
theorem ref07_four_spec {m : Int} (h : typeOK m) : ref07_four (m, ()) = some (ps 10 dch m.toNat 4, ()) := by
  unfold ref07_four
  obtain ⟨-, -, d1, -⟩ := typ_digits h
  simp (disch := first | assumption | omega | (dsimp only; omega) | decide) only [↓g02, ↓g03, ↓g04, ↓g05, ↓g06, g01, g02, g03, g04, g05, g06, g07, g08, g09, g10, g11, g12, g13, g14, g15, g16, g17, g18, g19, g20, g21, g22, g23, g24, g25, g26, g27, g28, g29, g30, g31, g32, g34, g35, g36, g37, g38, g39, g40, g41, g42, g43, g44, g45, g46, g47, g48, g49, g50, g51, g52, g53, g54, g55, g56, g57, g58, g60, g61, eq_self, not_true_eq_false, not_false_eq_true, List.nil_append, List.append_nil, List.length_nil, and_true, true_and, or_true, true_or, or_false, false_or, and_false, false_and, iff_self, if_true, if_false, lc_rt', lc_ex', lc_nx, g62, g63, Int.toNat_natCast, Int.natCast_add, nth_get, g33, g64, g65, Int.toNat_zero, Bool.false_eq_true, Int.reduceToNat, g66, d1]
theorem ref07_Write_spec (m : M) (hm : fewM m) : ref07_Write (m, ()) = some (if rightM m = true then (wrM m, 0, ()) else ([], 1, ())) := by
  unfold ref07_Write
  generalize hf : (fun (x_1 : List Int × List UInt8 × Int × Unit) => _) = f
  have hR := ref07_Right_spec m hm
  have hl := hm.1
  cases hr : rightM m
  · simp (disch := first | assumption | omega | (dsimp only; omega) | decide) only [↓g02, ↓g03, ↓g04, ↓g05, ↓g06, g01, g02, g03, g04, g05, g06, g07, g08, g09, g10, g11, g12, g13, g14, g15, g16, g17, g18, g19, g20, g21, g22, g23, g24, g25, g26, g27, g28, g29, g30, g31, g32, g34, g35, g36, g37, g38, g39, g40, g41, g42, g43, g44, g45, g46, g47, g48, g49, g50, g51, g52, g53, g54, g55, g56, g57, g58, g60, g61, eq_self, not_true_eq_false, not_false_eq_true, List.nil_append, List.append_nil, List.length_nil, and_true, true_and, or_true, true_or, or_false, false_or, and_false, false_and, iff_self, if_true, if_false, lc_rt', lc_ex', lc_nx, g62, g63, Int.toNat_natCast, Int.natCast_add, nth_get, g33, g64, g65, Int.toNat_zero, Bool.false_eq_true, Int.reduceToNat, g66, hR, hr]
  have hr' := hr
  simp only [rightM, Bool.and_eq_true, decide_eq_true_eq] at hr'
  obtain ⟨-, -, d1, d2⟩ := typ_digits hr'.2
  have key := loop_fold (f := f) (ρ := List UInt8 × Int × Unit) m.2.1 (fun (acc : List Int × List UInt8) i => (acc.1, acc.2, (i : Int), ())) 0 (fun acc v => .nx (acc.1 ++ [v.1], acc.2 ++ wrV v)) (fun acc i => acc.1.length = i ∧ acc.2.length ≤ 402 * i) (fun b i h hI => ⟨?_, fun b' hb => ?_⟩) (fun b _ => ?_) ([], []) ⟨rfl, by simp⟩
  · rw [foldS_all (g := fun (acc : List Int × List UInt8) (v : V) => (acc.1 ++ [v.1], acc.2 ++ wrV v)) (fun _ _ => rfl)] at key
    have hfold : ∀ (l : List V) (a : List Int) (b : List UInt8), l.foldl (fun (acc : List Int × List UInt8) v => (acc.1 ++ [v.1], acc.2 ++ wrV v)) (a, b) = (a ++ nosF l, b ++ l.flatMap wrV) := by
      intro l
      induction l with
      | nil => intro a b; simp [nosF]
      | cons v r ih => intro a b; rw [List.foldl_cons, ih]; simp [nosF]
    rw [hfold, List.nil_append, List.nil_append] at key
    have hbm := ref06_Write_spec (nosF m.2.1) (by simp [nosF]; omega)
    rw [if_pos (rightF_L1 hr'.1)] at hbm
    have htl := typB_length (m := m.1)
    have hbl : (bmW (nosF m.2.1)).length ≤ 16 := by rw [bmW_length]; split <;> omega
    have hfl : (m.2.1.flatMap wrV).length ≤ 402 * m.2.1.length := by
      have : ∀ l : List V, (∀ v ∈ l, fitsD v.1 v.2.1 = true) → (l.flatMap wrV).length ≤ 402 * l.length := by
        intro l
        induction l with
        | nil => simp
        | cons v r ih =>
          intro h
          have h1 : (wrV v).length ≤ 402 := (wrD_fit (h v (by simp))).2.1
          have h2 := ih fun u hu => h u (by simp [hu])
          simp only [List.flatMap_cons, List.length_append, List.length_cons]; omega
      exact this _ fun v hv => (rightF_mem hr'.1 v hv).2
    have h4 := ref07_four_spec hr'.2
    replace key : loop f ([], [], 0, ()) = _ := key
    simp (disch := first | assumption | omega | (dsimp only; omega) | decide) only [↓g02, ↓g03, ↓g04, ↓g05, ↓g06, g01, g02, g03, g04, g05, g06, g07, g08, g09, g10, g11, g12, g13, g14, g15, g16, g17, g18, g19, g20, g21, g22, g23, g24, g25, g26, g27, g28, g29, g30, g31, g32, g34, g35, g36, g37, g38, g39, g40, g41, g42, g43, g44, g45, g46, g47, g48, g49, g50, g51, g52, g53, g54, g55, g56, g57, g58, g60, g61, eq_self, not_true_eq_false, not_false_eq_true, List.nil_append, List.append_nil, List.length_nil, and_true, true_and, or_true, true_or, or_false, false_or, and_false, false_and, iff_self, if_true, if_false, lc_rt', lc_ex', lc_nx, g62, g63, Int.toNat_natCast, Int.natCast_add, nth_get, g33, g64, g65, Int.toNat_zero, Bool.false_eq_true, Int.reduceToNat, g66, hR, hr, h4, d2, key, hbm, List.length_append]
    rw [List.append_assoc]; rfl
  · subst hf
    have hfit := rightF_mem hr'.1 m.2.1[i] (List.getElem_mem h)
    have hw := wrD_fit hfit.2
    have hlv := hm.nth h
    have hws := ref05_Write_spec m.2.1[i].1 m.2.1[i].2.1 hlv
    rw [hw.1] at hws
    have hwl : (wrV m.2.1[i]).length ≤ 402 := hw.2.1
    change ref05_Write _ = some (wrV m.2.1[i], 0, ()) at hws
    simp (disch := first | assumption | omega | (dsimp only; omega) | decide) only [↓g02, ↓g03, ↓g04, ↓g05, ↓g06, g01, g02, g03, g04, g05, g06, g07, g08, g09, g10, g11, g12, g13, g14, g15, g16, g17, g18, g19, g20, g21, g22, g23, g24, g25, g26, g27, g28, g29, g30, g31, g32, g34, g35, g36, g37, g38, g39, g40, g41, g42, g43, g44, g45, g46, g47, g48, g49, g50, g51, g52, g53, g54, g55, g56, g57, g58, g60, g61, eq_self, not_true_eq_false, not_false_eq_true, List.nil_append, List.append_nil, List.length_nil, and_true, true_and, or_true, true_or, or_false, false_or, and_false, false_and, iff_self, if_true, if_false, lc_rt', lc_ex', lc_nx, g62, g63, Int.toNat_natCast, Int.natCast_add, nth_get, g33, g64, g65, Int.toNat_zero, Bool.false_eq_true, Int.reduceToNat, g66, hws, liftS, List.length_cons]
  · cases hb
    have hfit := rightF_mem hr'.1 m.2.1[i] (List.getElem_mem h)
    have hwl : (wrV m.2.1[i]).length ≤ 402 := (wrD_fit hfit.2).2.1
    refine ⟨by rw [List.length_append, hI.1]; rfl, ?_⟩
    rw [List.length_append]; omega
  · subst hf; simp (disch := first | assumption | omega | (dsimp only; omega) | decide) only [↓g02, ↓g03, ↓g04, ↓g05, ↓g06, g01, g02, g03, g04, g05, g06, g07, g08, g09, g10, g11, g12, g13, g14, g15, g16, g17, g18, g19, g20, g21, g22, g23, g24, g25, g26, g27, g28, g29, g30, g31, g32, g34, g35, g36, g37, g38, g39, g40, g41, g42, g43, g44, g45, g46, g47, g48, g49, g50, g51, g52, g53, g54, g55, g56, g57, g58, g60, g61, eq_self, not_true_eq_false, not_false_eq_true, List.nil_append, List.append_nil, List.length_nil, and_true, true_and, or_true, true_or, or_false, false_or, and_false, false_and, iff_self, if_true, if_false, lc_rt', lc_ex', lc_nx, g62, g63, Int.toNat_natCast, Int.natCast_add, nth_get, g33, g64, g65, Int.toNat_zero, Bool.false_eq_true, Int.reduceToNat, g66]
end Yp