/- A part of the proof of the statements of this seat: plain functions, and laws on them. No condition of its own. -/
import Derived.Test.YtipoijjdbedliaaQ0
set_option linter.unusedVariables false
set_option linter.unusedSimpArgs false
namespace Yp
open Go
theorem pad_drop {u : List UInt8} {k N : Nat} (hl : u.length = 2 * k) (hN : (N + 1) / 2 = k) (h : N % 2 = 1 → nth u 0 (u8 0) = 48) : pad (u.drop (N % 2)) = u := by
  by_cases ho : N % 2 = 1
  · rw [ho]
    unfold pad
    rw [if_pos (by simp; omega)]
    cases u with
    | nil => simp at hl; omega
    | cons x r => have := h ho; simp only [nth, List.getD_cons_zero] at this; rw [this]; rfl
  · have : N % 2 = 0 := by omega
    rw [this, List.drop_zero]; exact pad_even (by omega)
theorem figs_pad {s : List UInt8} (h : figs s) : figs (pad s) := by
  unfold pad
  split
  · intro i hi
    cases i with
    | zero => exact (by decide : isFig 48)
    | succ i => exact h i (by simpa using hi)
  · exact h
theorem pad_back (s : List UInt8) : (pad s).drop (s.length % 2) = s := by
  unfold pad
  by_cases h : s.length % 2 = 1
  · rw [if_pos h, h]; rfl
  · have : s.length % 2 = 0 := by omega
    rw [if_neg h, this]; rfl
theorem hex_bcdpad {s : List UInt8} (hf : figs s) : hexOf (bcd (pad s)) = pad s := hexOf_bcd (figs_pad hf) (by rw [pad_length]; omega)
theorem bcdpad_inj {s t : List UInt8} (hs : figs s) (ht : figs t) (hl : s.length = t.length) (h : bcd (pad s) = bcd (pad t)) : s = t := by
  have := congrArg hexOf h
  rw [hex_bcdpad hs, hex_bcdpad ht] at this
  rw [← pad_back s, ← pad_back t, this, hl]
theorem takeBcd_cases {b : List UInt8} {I N : Nat} (hI : I ≤ b.length) (hN : N ≤ 999) : (b.length < I + (N + 1) / 2 ∧ takeBcd b I N = ([], 0, 3, ())) ∨
    (I + (N + 1) / 2 ≤ b.length ∧ takeBcd b I N = ([], 0, 2, ()) ∧ ∀ s, s.length = N → figs s → tk b I ((N + 1) / 2) = bcd (pad s) → False) ∨
    (∃ s, I + (N + 1) / 2 ≤ b.length ∧ takeBcd b I N = (s, ((I + (N + 1) / 2 : Nat) : Int), 0, ()) ∧ figs s ∧ s.length = N ∧ tk b I ((N + 1) / 2) = bcd (pad s)) := by
  unfold takeBcd
  simp only [Int.toNat_natCast]
  rw [if_neg (by omega)]
  by_cases h1 : (b.length : Int) - I < ((N : Int) + 1) / 2
  · rw [if_pos h1]; exact .inl ⟨by omega, rfl⟩
  rw [if_neg h1]
  have hle : I + (N + 1) / 2 ≤ b.length := by omega
  have hul := tk_length hle
  have hxl : (hexOf (tk b I ((N + 1) / 2))).length = 2 * ((N + 1) / 2) := by rw [hexOf_length, hul]
  refine .inr ?_
  by_cases h2 : (N : Int) % 2 = 1 ∧ ¬nth (hexOf (tk b I ((N + 1) / 2))) 0 (u8 0) = 48
  · rw [if_pos h2]
    refine .inl ⟨hle, rfl, fun s hs hf h => h2.2 ?_⟩
    rw [h, hex_bcdpad hf]; unfold pad; rw [if_pos (by omega)]; rfl
  rw [if_neg h2]
  have hp : pad ((hexOf (tk b I ((N + 1) / 2))).drop (N % 2)) = hexOf (tk b I ((N + 1) / 2)) := pad_drop hxl rfl fun ho => Classical.byContradiction fun hc => h2 ⟨by omega, hc⟩
  by_cases h3 : figs ((hexOf (tk b I ((N + 1) / 2))).drop (N % 2))
  · rw [if_pos h3]
    refine .inr ⟨_, hle, ?_, h3, by rw [List.length_drop, hxl]; omega, ?_⟩
    · simp
    · have hb := bcd_hexOf (u := tk b I ((N + 1) / 2)) (by rw [← hp]; exact figs_pad h3)
      rw [hp, hb]
  · rw [if_neg h3]
    refine .inl ⟨hle, rfl, fun s hs hf h => h3 ?_⟩
    rw [h, hex_bcdpad hf, ← hs, pad_back]; exact hf
theorem tk_of_drop {b x q : List UInt8} {I : Nat} (h : b.drop I = x ++ q) : tk b I x.length = x := by
  unfold tk; rw [h, List.take_left']; rfl
theorem drop_of_tk {b x : List UInt8} {I n : Nat} (h : tk b I n = x) : b.drop I = x ++ b.drop (I + n) := by
  rw [← h]; unfold tk
  rw [← List.drop_drop, List.take_append_drop]
theorem drop_len {b x : List UInt8} {I : Nat} (hI : I ≤ b.length) (h : b.drop I = x) : b.length = I + x.length := by
  have := congrArg List.length h
  rw [List.length_drop] at this; omega
theorem takeBcd_hit {b s q : List UInt8} {I : Nat} (hI : I ≤ b.length) (hN : s.length ≤ 999) (hf : figs s) (h : b.drop I = bcd (pad s) ++ q) : takeBcd b I s.length = (s, ((I + (s.length + 1) / 2 : Nat) : Int), 0, ()) := by
  have hl := drop_len hI h
  have ht := tk_of_drop h
  rw [List.length_append, bcdpad_length] at hl
  rw [bcdpad_length] at ht
  rcases takeBcd_cases hI hN with ⟨h1, _⟩ | ⟨_, _, h2⟩ | ⟨t, _, h3, h4, h5, h6⟩
  · omega
  · exact (h2 s rfl hf ht).elim
  · rw [h3, bcdpad_inj h4 hf h5 (by rw [← h6, ht])]
noncomputable def rdB (k l : Int) (b : List UInt8) (a n : Int) : List UInt8 × Int × Int × Unit :=
  if k ≤ 2 then (if (takeBcd b a n).2.2.1 = 0 then ((takeBcd b a n).1, (takeBcd b a n).2.1, 0, ()) else ([], 0, (takeBcd b a n).2.2.1, ()))
  else if (b.length : Int) - a < n then ([], 0, 3, ()) else if fv k l (tk b a.toNat n.toNat) then (tk b a.toNat n.toNat, a + n, 0, ()) else ([], 0, 2, ())
noncomputable def rdF (k l : Int) (b : List UInt8) (a : Int) : List UInt8 × Int × Int × Unit :=
  if a < 0 ∨ (b.length : Int) < a then ([], 0, 1, ()) else if 0 < cnt k then
    (if (takeBcd b a (cnt k)).2.2.1 = 0 then (if (val (takeBcd b a (cnt k)).1 : Int) < 1 ∨ l < val (takeBcd b a (cnt k)).1 then ([], 0, 2, ()) else rdB k l b (takeBcd b a (cnt k)).2.1 (val (takeBcd b a (cnt k)).1))
    else ([], 0, (takeBcd b a (cnt k)).2.2.1, ()))
  else rdB k l b a l
noncomputable def rdD (no : Int) (b : List UInt8) (a : Int) : List UInt8 × Int × Int × Unit := match formOf no with | none => ([], 0, 12, ()) | some (k, l) => rdF k l b a
theorem field_tail {no k l : Int} {b : List UInt8} {A N : Nat} (ho : formOf no = some (k, l)) (hl : b.length ≤ 1000000) (ha : A ≤ b.length) (hn : 1 ≤ N ∧ N ≤ 400) :
    (ob (sel (beq k 1) (some (true, ())) (some (beq k 2, ()))) fun (a' : Bool × Unit) => sel a'.1 (ob (dig_TakeBcd (b, (A : Int), (N : Int), ())) fun (t : List UInt8 × Int × Int × Unit) => sel (bnot (beq t.2.2.1 0)) (some (none' UInt8, 0, t.2.2.1, ())) (ck (rm 1 (ln t.1)) (some (t.1, t.2.1, 0, ()))))
      (sel (lt (i64 (isub (len b) (A : Int))) (N : Int)) (some (none' UInt8, 0, 3, ())) (ck (inC (A : Int) (i64 (iadd (A : Int) (N : Int))) (len b)) (ck (rm 1 (nadd (ln (none' UInt8)) (ln (sub b (A : Int) (i64 (iadd (A : Int) (N : Int)))))))
        (ob (field_Fits (no, app (none' UInt8) (sub b (A : Int) (i64 (iadd (A : Int) (N : Int)))), ())) fun (a : Bool × Unit) => sel (bnot a.1) (some (none' UInt8, 0, 2, ())) (some (app (none' UInt8) (sub b (A : Int) (i64 (iadd (A : Int) (N : Int)))), i64 (iadd (A : Int) (N : Int)), 0, ()))))))
      : Option (List UInt8 × Int × Int × Unit)) = some (rdB k l b A N) := by
  obtain ⟨hk, h1, h400, h99⟩ := form_ok ho
  refine (ob_of (num_sel hk)).trans ?_
  unfold rdB
  by_cases h2 : k ≤ 2
  · refine (sel_of_t (decide_eq_true h2)).trans ?_
    rw [if_pos h2]
    refine (ob_of (dig_TakeBcd_spec b A N hl)).trans ?_
    rcases takeBcd_cases ha (show N ≤ 999 by omega) with ⟨_, h⟩ | ⟨_, h, _⟩ | ⟨s, _, h, _, hs, _⟩
    · rw [h]; rfl
    · rw [h]; rfl
    · rw [h]
      refine (sel_of_f rfl).trans ?_
      refine (ck_of (rm_t (by simp only [ln]; omega))).trans ?_
      rfl
  · refine (sel_of_f (decide_eq_false h2)).trans ?_
    rw [if_neg h2]
    have c0 : i64 (isub (len b) (A : Int)) = (b.length : Int) - A := by
      simp only [isub, len]; exact i64_of (by omega) (by omega)
    have c3 : i64 (iadd (A : Int) (N : Int)) = ((A + N : Nat) : Int) := i64_add (by omega)
    simp only [c0, c3, sub_tk, Int.toNat_natCast]
    by_cases h3 : (b.length : Int) - A < N
    · rw [if_pos h3]; exact sel_of_t (lt_t h3)
    rw [if_neg h3]
    refine (sel_of_f (lt_f h3)).trans ?_
    have hle : A + N ≤ b.length := by omega
    refine (ck_of (inC_t (by omega) (by omega) (by simp only [len]; omega))).trans ?_
    have htl := tk_length hle
    refine (ck_of (rm_t (by simp only [nadd, ln, none', List.length_nil]; omega))).trans ?_
    have ha' : app (none' UInt8) (tk b A N) = tk b A N := rfl
    simp only [ha']
    refine (ob_of (field_Fits_spec no _ (by omega))).trans ?_
    have hfd : fitsD no (tk b A N) = decide (fv k l (tk b A N)) := by unfold fitsD; rw [ho]
    rw [hfd]
    by_cases hv : fv k l (tk b A N)
    · rw [if_pos hv, decide_eq_true hv, ← Int.natCast_add]; exact sel_of_f rfl
    · rw [if_neg hv, decide_eq_false hv]; exact sel_of_t rfl
theorem num_fv {k l : Int} {s : List UInt8} (h2 : k ≤ 2) (hf : figs s) (hn : fln k l s.length) : fv k l s := ⟨⟨fun _ => hf, fun _ => figs_rng hf⟩, hn⟩
theorem ref_tail {no k l : Int} {b : List UInt8} {A N : Nat} (ho : formOf no = some (k, l)) (hl : b.length ≤ 1000000) (ha : A ≤ b.length) (hn : 1 ≤ N ∧ N ≤ 400) (hfl : fln k l N) :
    (ob (sel (le k 2) (some (i64 (idiv (i64 (iadd (N : Int) 1)) 2), ())) (some ((N : Int), ()))) fun (a7 : Int × Unit) => sel (lt (i64 (isub (len b) (A : Int))) a7.1) (some (none' UInt8, 0, 3, ()))
      (ck (inC (A : Int) (i64 (iadd (A : Int) a7.1)) (len b)) (ck (rm 1 (nadd (ln (none' UInt8)) (ln (sub b (A : Int) (i64 (iadd (A : Int) a7.1))))))
        (sel (le k 2) (ob (ref01_TakeBcd (b, (A : Int), (N : Int), ())) fun (t : List UInt8 × Int × Int × Unit) => sel (bnot (beq t.2.2.1 0)) (some (none' UInt8, 0, 2, ())) (ck (rm 1 (ln t.1)) (ob (ref05_fits ((k, l, ()), t.1, ())) fun (a : Bool × Unit) => sel (bnot a.1) (some (none' UInt8, 0, 2, ())) (some (t.1, i64 (iadd (A : Int) a7.1), 0, ())))))
          (ob (ref05_fits ((k, l, ()), app (none' UInt8) (sub b (A : Int) (i64 (iadd (A : Int) a7.1))), ())) fun (a : Bool × Unit) => sel (bnot a.1) (some (none' UInt8, 0, 2, ())) (some (app (none' UInt8) (sub b (A : Int) (i64 (iadd (A : Int) a7.1))), i64 (iadd (A : Int) a7.1), 0, ()))))))
      : Option (List UInt8 × Int × Int × Unit)) = some (rdB k l b A N) := by
  obtain ⟨hk, h1, h400, h99⟩ := form_ok ho
  have hk1 : 1 ≤ k := by unfold kinds at hk; omega
  unfold rdB
  have c0 : i64 (isub (len b) (A : Int)) = (b.length : Int) - A := by
    simp only [isub, len]; exact i64_of (by omega) (by omega)
  by_cases h2 : k ≤ 2
  · have c1 : i64 (idiv (i64 (iadd (N : Int) 1)) 2) = (((N + 1) / 2 : Nat) : Int) := by
      rw [show i64 (iadd (N : Int) 1) = ((N + 1 : Nat) : Int) from i64_add (b := 1) (by omega)]
      exact i64_div (b := 2) (by omega)
    refine (ob_of (sel_of_t (le_t h2))).trans ?_
    have c3 : i64 (iadd (A : Int) (((N + 1) / 2 : Nat) : Int)) = ((A + (N + 1) / 2 : Nat) : Int) := i64_add (by omega)
    rw [if_pos h2]
    simp only [c0, c1, c3, sub_tk]
    rcases takeBcd_cases ha (show N ≤ 999 by omega) with ⟨h3, h⟩ | ⟨h3, h, _⟩ | ⟨s, h3, h, hf, hs, _⟩
    · refine (sel_of_t (lt_t (by omega))).trans ?_
      rw [h]; rfl
    · refine (sel_of_f (lt_f (by omega))).trans ?_
      refine (ck_of (inC_t (by omega) (by omega) (by simp only [len]; omega))).trans ?_
      have htl := tk_length h3
      refine (ck_of (rm_t (by simp only [nadd, ln, none', List.length_nil]; omega))).trans ?_
      refine (sel_of_t (le_t h2)).trans ?_
      refine (ob_of (ref01_TakeBcd_spec b A N hl)).trans ?_
      rw [h]; rfl
    · refine (sel_of_f (lt_f (by omega))).trans ?_
      refine (ck_of (inC_t (by omega) (by omega) (by simp only [len]; omega))).trans ?_
      have htl := tk_length h3
      refine (ck_of (rm_t (by simp only [nadd, ln, none', List.length_nil]; omega))).trans ?_
      refine (sel_of_t (le_t h2)).trans ?_
      refine (ob_of (ref01_TakeBcd_spec b A N hl)).trans ?_
      rw [h]
      refine (sel_of_f rfl).trans ?_
      refine (ck_of (rm_t (by simp only [ln]; omega))).trans ?_
      obtain ⟨t, ht, he⟩ := ref05_fits_spec k l s (by omega)
      refine (ob_of ht).trans ?_
      rw [he hk1, decide_eq_true (num_fv h2 hf (by rw [hs]; exact hfl))]
      rfl
  · refine (ob_of (sel_of_f (le_f h2))).trans ?_
    rw [if_neg h2]
    have c3 : i64 (iadd (A : Int) (N : Int)) = ((A + N : Nat) : Int) := i64_add (by omega)
    simp only [c0, c3, sub_tk, Int.toNat_natCast]
    by_cases h3 : (b.length : Int) - A < N
    · rw [if_pos h3]; exact sel_of_t (lt_t h3)
    rw [if_neg h3]
    refine (sel_of_f (lt_f h3)).trans ?_
    have hle : A + N ≤ b.length := by omega
    refine (ck_of (inC_t (by omega) (by omega) (by simp only [len]; omega))).trans ?_
    have htl := tk_length hle
    refine (ck_of (rm_t (by simp only [nadd, ln, none', List.length_nil]; omega))).trans ?_
    refine (sel_of_f (le_f h2)).trans ?_
    have ha' : app (none' UInt8) (tk b A N) = tk b A N := rfl
    simp only [ha']
    obtain ⟨t, ht, he⟩ := ref05_fits_spec k l (tk b A N) (by omega)
    refine (ob_of ht).trans ?_
    rw [he hk1]
    by_cases hv : fv k l (tk b A N)
    · rw [if_pos hv, decide_eq_true hv, ← Int.natCast_add]; exact sel_of_f rfl
    · rw [if_neg hv, decide_eq_false hv]; exact sel_of_t rfl
theorem val_small {s : List UInt8} (hf : figs s) (h : s.length ≤ 3) : val s < 1000 := by
  have := val_lt_pow hf
  have h2 : 10 ^ s.length ≤ 10 ^ 3 := Nat.pow_le_pow_right (by omega) h
  omega
theorem fln_cnt {k l : Int} {n : Nat} (h0 : 0 < cnt k) (h1 : 1 ≤ n) (h2 : (n : Int) ≤ l) : fln k l n := by
  unfold fln
  rw [if_neg]
  · exact ⟨h1, h2⟩
  · rintro (rfl | rfl | rfl) <;> exact absurd h0 (by decide)
theorem fln_none {k l : Int} {n : Nat} (hk : kinds k) (h0 : ¬ 0 < cnt k) : fln k l n ↔ (n : Int) = l := by
  unfold fln
  rcases hk with rfl | rfl | rfl | rfl | rfl | rfl | rfl <;> first | exact absurd (by decide) h0 | simp
theorem field_Read_spec (no : Int) (b : List UInt8) (a : Int) (hl : b.length ≤ 1000000) : field_Read (no, b, a, ()) = some (rdD no b a) := by
  unfold field_Read rdD
  refine (ob_of (field_Of_spec no)).trans ?_
  cases ho : formOf no with
  | none => rfl
  | some p =>
    obtain ⟨k, l⟩ := p
    rw [fr_some rfl]
    obtain ⟨hk, h1, h400, h99⟩ := form_ok ho
    refine (sel_of_f rfl).trans ?_
    show _ = some (rdF k l b a)
    unfold rdF
    by_cases h2 : a < 0
    · refine (ob_of (sel_of_t (lt_t h2))).trans ?_
      simp only [if_pos (Or.inl h2 : a < 0 ∨ (b.length : Int) < a)]; rfl
    by_cases h3 : (b.length : Int) < a
    · refine (ob_of (a := (true, ())) ((sel_of_f (lt_f h2)).trans (some_b (lt_t h3)))).trans ?_
      simp only [if_pos (Or.inr h3 : a < 0 ∨ (b.length : Int) < a)]; rfl
    refine (ob_of (a := (false, ())) ((sel_of_f (lt_f h2)).trans (some_b (lt_f h3)))).trans ?_
    refine (sel_of_f rfl).trans ?_
    rw [if_neg (by omega)]
    obtain ⟨A, rfl⟩ : ∃ n : Nat, a = n := ⟨a.toNat, by omega⟩
    refine (ob_of (field_told_spec hk)).trans ?_
    by_cases h0 : 0 < cnt k
    · rw [if_pos h0]
      refine (sel_of_t (lt_t h0)).trans ?_
      refine (ob_of (dig_TakeBcd_spec b A (cnt k) hl)).trans ?_
      have hcr := cnt_range hk
      obtain ⟨C, hC⟩ : ∃ n : Nat, cnt k = n := ⟨(cnt k).toNat, by omega⟩
      rw [hC]
      rcases takeBcd_cases (b := b) (I := A) (N := C) (by omega) (by omega) with ⟨_, h⟩ | ⟨_, h, _⟩ | ⟨s, h4, h, hf, hs, _⟩
      · rw [h]; rfl
      · rw [h]; rfl
      · rw [h]
        refine (sel_of_f rfl).trans ?_
        rw [if_pos rfl]
        have hvs := val_small hf (by omega)
        refine (ob_of (dig_Value_spec s)).trans ?_
        rw [if_pos ⟨by omega, by omega, hf⟩]
        by_cases hm1 : (val s : Int) < 1
        · refine (ob_of (sel_of_t (lt_t hm1))).trans ?_
          simp only [if_pos (Or.inl hm1 : (val s : Int) < 1 ∨ l < val s)]; rfl
        by_cases hm2 : l < (val s : Int)
        · refine (ob_of (a := (true, ())) ((sel_of_f (lt_f hm1)).trans (some_b (lt_t hm2)))).trans ?_
          simp only [if_pos (Or.inr hm2 : (val s : Int) < 1 ∨ l < val s)]; rfl
        refine (ob_of (a := (false, ())) ((sel_of_f (lt_f hm1)).trans (some_b (lt_f hm2)))).trans ?_
        refine (sel_of_f rfl).trans ?_
        rw [if_neg (show ¬((val s : Int) < 1 ∨ l < val s) by omega)]
        exact field_tail ho hl h4 ⟨by omega, by omega⟩
    · rw [if_neg h0]
      refine (sel_of_f (lt_f h0)).trans ?_
      obtain ⟨L, rfl⟩ : ∃ n : Nat, l = n := ⟨l.toNat, by omega⟩
      exact field_tail (b := b) (A := A) (N := L) ho hl (by omega) ⟨by omega, by omega⟩
theorem ref05_Read_spec (no : Int) (b : List UInt8) (a : Int) (hl : b.length ≤ 1000000) : ref05_Read (no, b, a, ()) = some (rdD no b a) := by
  unfold ref05_Read rdD
  refine (ob_of (ref05_Of_spec no)).trans ?_
  cases ho : formOf no with
  | none => rfl
  | some p =>
    obtain ⟨k, l⟩ := p
    rw [fr_some rfl]
    obtain ⟨hk, h1, h400, h99⟩ := form_ok ho
    refine (sel_of_f rfl).trans ?_
    show _ = some (rdF k l b a)
    unfold rdF
    by_cases h2 : a < 0
    · refine (ob_of (sel_of_t (lt_t h2))).trans ?_
      simp only [if_pos (Or.inl h2 : a < 0 ∨ (b.length : Int) < a)]; rfl
    by_cases h3 : (b.length : Int) < a
    · refine (ob_of (a := (true, ())) ((sel_of_f (lt_f h2)).trans (some_b (lt_t h3)))).trans ?_
      simp only [if_pos (Or.inr h3 : a < 0 ∨ (b.length : Int) < a)]; rfl
    refine (ob_of (a := (false, ())) ((sel_of_f (lt_f h2)).trans (some_b (lt_f h3)))).trans ?_
    refine (sel_of_f rfl).trans ?_
    rw [if_neg (by omega)]
    obtain ⟨A, rfl⟩ : ∃ n : Nat, a = n := ⟨a.toNat, by omega⟩
    refine (ob_of (ref05_count_spec hk)).trans ?_
    by_cases h0 : 0 < cnt k
    · rw [if_pos h0]
      refine (sel_of_t (lt_t h0)).trans ?_
      refine (ob_of (ref05_count_spec hk)).trans ?_
      refine (ob_of (ref01_TakeBcd_spec b A (cnt k) hl)).trans ?_
      have hcr := cnt_range hk
      obtain ⟨C, hC⟩ : ∃ n : Nat, cnt k = n := ⟨(cnt k).toNat, by omega⟩
      rw [hC]
      rcases takeBcd_cases (b := b) (I := A) (N := C) (by omega) (by omega) with ⟨_, h⟩ | ⟨_, h, _⟩ | ⟨s, h4, h, hf, hs, _⟩
      · rw [h]; rfl
      · rw [h]; rfl
      · rw [h]
        refine (sel_of_f rfl).trans ?_
        rw [if_pos rfl]
        have hvs := val_small hf (by omega)
        refine (ob_of (ref01_Value_spec s (by omega))).trans ?_
        rw [if_pos ⟨by omega, by omega, hf⟩]
        by_cases hm1 : (val s : Int) < 1
        · refine (ob_of (sel_of_t (lt_t hm1))).trans ?_
          simp only [if_pos (Or.inl hm1 : (val s : Int) < 1 ∨ l < val s)]; rfl
        by_cases hm2 : l < (val s : Int)
        · refine (ob_of (a := (true, ())) ((sel_of_f (lt_f hm1)).trans (some_b (lt_t hm2)))).trans ?_
          simp only [if_pos (Or.inr hm2 : (val s : Int) < 1 ∨ l < val s)]; rfl
        refine (ob_of (a := (false, ())) ((sel_of_f (lt_f hm1)).trans (some_b (lt_f hm2)))).trans ?_
        refine (sel_of_f rfl).trans ?_
        rw [if_neg (show ¬((val s : Int) < 1 ∨ l < val s) by omega)]
        exact ref_tail ho hl h4 ⟨by omega, by omega⟩ (fln_cnt h0 (by omega) (by omega))
    · rw [if_neg h0]
      refine (sel_of_f (lt_f h0)).trans ?_
      obtain ⟨L, rfl⟩ : ∃ n : Nat, l = n := ⟨l.toNat, by omega⟩
      exact ref_tail (b := b) (A := A) (N := L) ho hl (by omega) ⟨by omega, by omega⟩ ((fln_none hk h0).2 rfl)
end Yp

namespace Yp
open Go
noncomputable def D (p : Prop) : Bool := @decide p (Classical.propDecidable p)
theorem D_iff {p : Prop} : D p = true ↔ p := by unfold D; exact @decide_eq_true_iff p (Classical.propDecidable p)
theorem D_t {p : Prop} (h : p) : D p = true := D_iff.2 h
theorem D_f {p : Prop} (h : ¬ p) : D p = false := by
  cases e : D p
  · rfl
  · exact absurd (D_iff.1 e) h
theorem D_ext {b : Bool} {p : Prop} (h : b = true ↔ p) : b = D p := Bool.eq_iff_iff.2 (h.trans D_iff.symm)
@[congr] theorem ob_cg {α β : Type} {o o' : Option α} {k : α → Option β} (h : o = o') : ob o k = ob o' k := by rw [h]
@[congr] theorem sel_cg {α : Type} {c c' : Bool} {a b : α} (h : c = c') : sel c a b = sel c' a b := by rw [h]
@[congr] theorem ck_cg {α : Type} {c c' : Bool} {a : Option α} (h : c = c') : ck c a = ck c' a := by rw [h]
@[congr] theorem lc_cg {σ ρ β : Type} {o o' : Option (LS σ ρ)} {kn : σ → Option β} {ke : Nat → σ → Option β} {kr : ρ → Option β} (h : o = o') : lc o kn ke kr = lc o' kn ke kr := by rw [h]
theorem g01 {α β : Type} {a : α} {k : α → Option β} : ob (some a) k = k a := rfl
theorem g02 {α : Type} {p : Prop} {a b : α} (h : p) : sel (D p) a b = a := sel_of_t (D_t h)
theorem g03 {α : Type} {p : Prop} {a b : α} (h : ¬ p) : sel (D p) a b = b := sel_of_f (D_f h)
theorem g04 {α : Type} {p : Prop} {a : Option α} (h : p) : ck (D p) a = a := ck_of (D_t h)
theorem g05 {α : Type} {a b : α} : sel true a b = a := rfl
theorem g06 {α : Type} {a b : α} : sel false a b = b := rfl
theorem g07 {α : Type} {a : Option α} : ck true a = a := rfl
theorem g08 {a b : Int} : lt a b = D (a < b) := D_ext decide_eq_true_iff
theorem g09 {a b : Int} : le a b = D (a ≤ b) := D_ext decide_eq_true_iff
theorem g10 {a b : Int} : beq a b = D (a = b) := by unfold beq; exact D_ext beq_iff_eq
theorem g11 {a b : List UInt8} : seq a b = D (a = b) := by unfold seq; exact D_ext beq_iff_eq
theorem g12 {p : Prop} : bnot (D p) = D (¬ p) := by
  by_cases h : p
  · rw [D_t h, D_f (not_not_intro h)]; rfl
  · rw [D_f h, D_t h]; rfl
theorem g13 {p q : Prop} : band (D p) (D q) = D (p ∧ q) := D_ext (by simp [band, D_iff])
theorem g14 {p q : Prop} : bor (D p) (D q) = D (p ∨ q) := D_ext (by simp [bor, D_iff])
theorem g15 {c q : Bool} : sel c (some (true, ())) (some (q, ())) = some (bor c q, ()) := by cases c <;> rfl
theorem g16 {c q : Bool} : sel c (some (q, ())) (some (false, ())) = some (band c q, ()) := by cases c <;> rfl
theorem g17 {c d : Bool} {x : Option (Bool × Unit)} : sel c (sel d x (some (false, ()))) (some (false, ())) = sel (band c d) x (some (false, ())) := by cases c <;> rfl
theorem g18 {c d : Bool} {x : Option (Bool × Unit)} : sel c (some (true, ())) (sel d (some (true, ())) x) = sel (bor c d) (some (true, ())) x := by cases c <;> rfl
theorem g19 {a b c : Int} : inC a b c = D (0 ≤ a ∧ a ≤ b ∧ b ≤ c) := D_ext (by simp [inC, and_assoc])
theorem g20 {a b : Int} : inB a b = D (0 ≤ a ∧ a < b) := D_ext (by simp [inB])
theorem g21 {c n : Nat} : rm c n = D (n * c ≤ 140737488355328) := D_ext decide_eq_true_iff
theorem g22 {α : Type} {l : List α} : len l = (l.length : Int) := rfl
theorem g23 {α : Type} {l : List α} : ln l = l.length := rfl
theorem g24 {a b : Nat} : nadd a b = a + b := rfl
theorem g25 {α : Type} {a b : List α} : app a b = a ++ b := rfl
theorem g26 {α : Type} : none' α = [] := rfl
theorem g27 {n : Int} (h : -9223372036854775808 ≤ n ∧ n ≤ 9223372036854775807) : i64 n = n := i64_of h.1 h.2
theorem g28 {a b : Int} : iadd a b = a + b := rfl
theorem g29 {a b : Int} : isub a b = a - b := rfl
theorem g30 {a b : Int} : imul a b = a * b := rfl
theorem g31 {a b : Int} (h : 0 ≤ a) : idiv a b = a / b := by simp only [idiv]; exact Int.tdiv_eq_ediv_of_nonneg h
theorem g32 {a b : Int} (h : 0 ≤ a) : imod a b = a % b := by simp only [imod]; exact Int.tmod_eq_emod_of_nonneg h
theorem g33 {a : Int} : nat a = a.toNat := rfl
theorem g34 {a : Nat} : ofn a = (a : Int) := rfl
theorem g35 {a b : Nat} : nsub a b = a - b := rfl
theorem g36 {c : Bool} : band true c = c := rfl
theorem g37 {c : Bool} : band c true = c := by cases c <;> rfl
theorem g38 {c : Bool} : bor false c = c := rfl
theorem g39 {c : Bool} : bor c false = c := by cases c <;> rfl
theorem g40 {c : Bool} : bnot (bnot c) = c := by cases c <;> rfl
theorem g41 : bnot true = false := rfl
theorem g42 : bnot false = true := rfl
theorem g43 {a b : Bool} : beb a b = D (a = b) := D_ext (by unfold beb; exact beq_iff_eq)
theorem g44 {c : Bool} : band false c = false := rfl
theorem g45 {c : Bool} : band c false = false := by cases c <;> rfl
theorem g46 {c : Bool} : bor true c = true := rfl
theorem g47 {c : Bool} : bor c true = true := by cases c <;> rfl
theorem g48 {α β : Type} {k : α → Option β} : ob none k = none := rfl
theorem g49 {p q : Prop} : (D p = D q) = (p ↔ q) := by
  refine propext ⟨fun h => D_iff.symm.trans ((Bool.eq_iff_iff.1 h).trans D_iff), fun h => Bool.eq_iff_iff.2 (D_iff.trans (h.trans D_iff.symm))⟩
theorem g50 {α : Type} {c : Bool} {a : α} : sel c a a = a := by cases c <;> rfl
theorem g51 {p : Prop} [Decidable p] : decide p = D p := D_ext decide_eq_true_iff
theorem g52 : D True = true := D_t trivial
theorem g53 : D False = false := D_f not_false
theorem g54 {p : Prop} : (D p = true) = p := propext D_iff
theorem g55 {p : Prop} : (D p = false) = ¬ p := by
  refine propext ⟨fun h hp => ?_, D_f⟩
  rw [D_t hp] at h; cases h
theorem g56 {p : Prop} : (true = D p) = p := propext ⟨fun h => D_iff.1 h.symm, fun h => (D_iff.2 h).symm⟩
theorem g57 {a b : Int} : minI a b = min a b := by unfold minI; split <;> omega
theorem g58 {a b : Int} : maxI a b = max a b := by unfold maxI; split <;> omega
theorem g59 {a : UInt8} : n8 a = (a.toNat : Int) := rfl
theorem g60 {a : UInt16} : n16 a = (a.toNat : Int) := rfl
theorem g61 {a : Int} (h : 0 ≤ a ∧ a < 256) : n8 (u8 a) = a := by
  obtain ⟨n, rfl⟩ : ∃ n : Nat, a = n := ⟨a.toNat, by omega⟩
  exact n8_u8 (by omega)
theorem lc_nx {σ ρ β : Type} {y : σ} {kn : σ → Option β} {ke : Nat → σ → Option β} {kr : ρ → Option β} : lc (some (.nx y)) kn ke kr = kn y := rfl
theorem some_D {p : Prop} (h : p) : some (D p, ()) = some (true, ()) := by rw [D_t h]
theorem some_DD {p q : Prop} (h : p ↔ q) : some (D p, ()) = some (D q, ()) := by rw [show p = q from propext h]
end Yp

namespace Yp
open Go
theorem body_le {k : Int} {v : List UInt8} : (body k v).length ≤ v.length := by rw [body_length]; split <;> omega
theorem drop_app_len {b x q : List UInt8} {A : Nat} (hA : A ≤ b.length) (h : b.drop A = x ++ q) : A + x.length ≤ b.length ∧ b.drop (A + x.length) = q := by
  have := drop_len hA h
  rw [List.length_append] at this
  refine ⟨by omega, ?_⟩
  rw [← List.drop_drop, h, List.drop_left]
theorem rdB_hit {k l : Int} {b v q : List UInt8} {A : Nat} (hA : A ≤ b.length) (hv : fv k l v) (h400 : v.length ≤ 400) (h : b.drop A = body k v ++ q) : rdB k l b A v.length = (v, ((A + (body k v).length : Nat) : Int), 0, ()) := by
  have hl := (drop_app_len hA h).1
  unfold rdB
  by_cases h2 : k ≤ 2
  · have hb : body k v = bcd (pad v) := by unfold body; rw [if_pos h2]
    rw [hb] at h ⊢
    rw [if_pos h2, takeBcd_hit hA (by omega) (hv.1.1 h2) h, bcdpad_length]
    rfl
  · have hb : body k v = v := by unfold body; rw [if_neg h2]
    rw [hb] at h hl ⊢
    have ht := tk_of_drop h
    simp only [Int.toNat_natCast]
    rw [if_neg h2, if_neg (by omega), ht, if_pos hv]; rfl
theorem rdB_inv {k l : Int} {b v : List UInt8} {A N : Nat} {I : Int} (hA : A ≤ b.length) (hN : N ≤ 400) (h : rdB k l b A N = (v, I, 0, ())) :
    v.length = N ∧ (k ≤ 2 → figs v) ∧ (¬ k ≤ 2 → fv k l v) ∧ I = ((A + (body k v).length : Nat) : Int) ∧ A + (body k v).length ≤ b.length ∧ tk b A (body k v).length = body k v := by
  unfold rdB at h
  by_cases h2 : k ≤ 2
  · rw [if_pos h2] at h
    rcases takeBcd_cases hA (show N ≤ 999 by omega) with ⟨_, e⟩ | ⟨_, e, _⟩ | ⟨s, h3, e, hf, hs, ht⟩
    · rw [e] at h; simp at h
    · rw [e] at h; simp at h
    · rw [e] at h
      simp only [if_pos, Prod.mk.injEq, and_true] at h
      obtain ⟨rfl, rfl⟩ := h
      have hb : body k s = bcd (pad s) := by unfold body; rw [if_pos h2]
      have hbl : (bcd (pad s)).length = (N + 1) / 2 := by rw [bcdpad_length, hs]
      rw [hb, hbl]
      exact ⟨hs, fun _ => hf, fun hc => absurd h2 hc, rfl, h3, ht⟩
  · rw [if_neg h2] at h
    by_cases h3 : (b.length : Int) - A < N
    · rw [if_pos h3] at h; simp at h
    rw [if_neg h3] at h
    simp only [Int.toNat_natCast] at h
    by_cases h4 : fv k l (tk b A N)
    · rw [if_pos h4] at h
      simp only [Prod.mk.injEq, and_true] at h
      obtain ⟨rfl, rfl⟩ := h
      have hl := tk_length (show A + N ≤ b.length by omega)
      have hb : body k (tk b A N) = tk b A N := by unfold body; rw [if_neg h2]
      rw [hb, hl]
      exact ⟨rfl, fun hc => absurd hc h2, fun _ => h4, by omega, by omega, rfl⟩
    · rw [if_neg h4] at h; simp at h
theorem rdB_err {k l : Int} {b : List UInt8} {a n : Int} : (rdB k l b a n).2.2.1 = 0 ∨ rdB k l b a n = ([], 0, (rdB k l b a n).2.2.1, ()) := by
  unfold rdB; repeat' split
  all_goals simp_all
theorem rdB_cut {k l : Int} {b v : List UInt8} {A : Nat} (hA : A ≤ b.length) (h400 : v.length ≤ 400) (h : b.length < A + (body k v).length) : rdB k l b A v.length = ([], 0, 3, ()) := by
  unfold rdB
  rw [body_length] at h
  by_cases h2 : k ≤ 2
  · rw [if_pos h2] at h ⊢
    rcases takeBcd_cases hA (show v.length ≤ 999 by omega) with ⟨_, e⟩ | ⟨_, _, _⟩ | ⟨s, h3, _⟩
    · rw [e]; rfl
    · omega
    · omega
  · rw [if_neg h2] at h ⊢
    rw [if_pos (by omega)]
theorem hdr_of {k : Int} {n : Nat} (h0 : 0 < cnt k) : hdr k n = bcd (pad (ps 10 dch n (cnt k).toNat)) := by unfold hdr; rw [if_pos h0]
theorem hdr_nil {k : Int} {n : Nat} (h0 : ¬ 0 < cnt k) : hdr k n = [] := by unfold hdr; rw [if_neg h0]
theorem hdr_length {k : Int} {n : Nat} : (hdr k n).length = if 0 < cnt k then ((cnt k).toNat + 1) / 2 else 0 := by
  unfold hdr; split
  · rw [bcdpad_length, ps_length]
  · rfl
theorem wrF_length {k : Int} {v : List UInt8} (hk : kinds k) : (wrF k v).length = (if k = 2 ∨ k = 4 then 1 else if k = 5 ∨ k = 7 then 2 else 0) + (if k ≤ 2 then (v.length + 1) / 2 else v.length) := by
  unfold wrF
  rw [List.length_append, body_length, hdr_length]
  congr 1
  rcases hk with rfl | rfl | rfl | rfl | rfl | rfl | rfl <;> rfl
theorem fv_len {no k l : Int} {v : List UInt8} (ho : formOf no = some (k, l)) (hv : fv k l v) : 1 ≤ v.length ∧ (v.length : Int) ≤ l ∧ v.length ≤ 400 := by
  obtain ⟨hk, h1, h400, _⟩ := form_ok ho
  have := hv.2
  unfold fln at this
  split at this <;> omega
theorem rdF_hit {no k l : Int} {b v q : List UInt8} {A : Nat} (ho : formOf no = some (k, l)) (hA : A ≤ b.length) (hv : fv k l v) (h : b.drop A = wrF k v ++ q) : rdF k l b A = (v, ((A + (wrF k v).length : Nat) : Int), 0, ()) := by
  obtain ⟨hk, h1, h400, h99⟩ := form_ok ho
  obtain ⟨hv1, hv2, hv3⟩ := fv_len ho hv
  unfold rdF
  rw [if_neg (by omega)]
  unfold wrF at h ⊢
  by_cases h0 : 0 < cnt k
  · rw [if_pos h0]
    obtain ⟨c1, c2, c3⟩ := cnt_lt hk h99 h400 hv h0
    rw [hdr_of h0] at h ⊢
    rw [List.append_assoc] at h
    have hp := takeBcd_hit (s := ps 10 dch v.length (cnt k).toNat) hA (by rw [ps_length]; omega) figs_ps h
    rw [ps_length, Int.toNat_of_nonneg (by omega)] at hp
    rw [hp]
    have hval : val (ps 10 dch v.length (cnt k).toNat) = v.length := by
      rw [val_ps, Nat.mod_eq_of_lt]
      have := c2.2
      have h10 : ((10 : Int) ^ (cnt k).toNat) = ((10 ^ (cnt k).toNat : Nat) : Int) := pow_cast 10 _
      rw [h10] at this; omega
    simp only [if_pos]
    rw [hval, if_neg (by omega)]
    have hd := drop_app_len hA h
    rw [bcdpad_length, ps_length] at hd
    rw [rdB_hit hd.1 hv hv3 hd.2, List.length_append, bcdpad_length, ps_length]
    simp only [Nat.add_assoc]
  · rw [if_neg h0]
    have hl := (fln_none hk h0).1 hv.2
    rw [hdr_nil h0, List.nil_append] at h ⊢
    have := rdB_hit hA hv hv3 h
    rw [hl] at this; exact this
theorem rdF_inv {no k l : Int} {b v : List UInt8} {A : Nat} {I : Int} (ho : formOf no = some (k, l)) (hA : A ≤ b.length) (h : rdF k l b A = (v, I, 0, ())) :
    fv k l v ∧ I = ((A + (wrF k v).length : Nat) : Int) ∧ A + (wrF k v).length ≤ b.length ∧ b.drop A = wrF k v ++ b.drop (A + (wrF k v).length) := by
  obtain ⟨hk, h1, h400, h99⟩ := form_ok ho
  unfold rdF at h
  rw [if_neg (by omega)] at h
  by_cases h0 : 0 < cnt k
  · rw [if_pos h0] at h
    have hcr := cnt_range hk
    obtain ⟨C, hC⟩ : ∃ n : Nat, cnt k = n := ⟨(cnt k).toNat, by omega⟩
    rw [hC] at h
    rcases takeBcd_cases hA (show C ≤ 999 by omega) with ⟨_, e⟩ | ⟨_, e, _⟩ | ⟨s, h3, e, hf, hs, ht⟩
    · rw [e] at h; simp at h
    · rw [e] at h; simp at h
    · rw [e] at h
      simp only [if_pos] at h
      by_cases hm : (val s : Int) < 1 ∨ l < val s
      · rw [if_pos hm] at h; simp at h
      rw [if_neg hm] at h
      obtain ⟨e1, e2, e3, e4, e5, e6⟩ := rdB_inv h3 (by omega) h
      have hfv : fv k l v := by
        by_cases h2 : k ≤ 2
        · exact num_fv h2 (e2 h2) (fln_cnt h0 (by omega) (by omega))
        · exact e3 h2
      have hh : hdr k v.length = bcd (pad s) := by
        rw [hdr_of h0, e1, hC, Int.toNat_natCast, ← hs, ps_val hf]
      have hhl : (hdr k v.length).length = (C + 1) / 2 := by rw [hh, bcdpad_length, hs]
      refine ⟨hfv, ?_, ?_, ?_⟩
      · rw [e4]; unfold wrF; rw [List.length_append, hhl]; omega
      · unfold wrF; rw [List.length_append, hhl]; omega
      · unfold wrF
        rw [List.length_append, hhl, ← Nat.add_assoc, List.append_assoc, ← drop_of_tk e6, hh]
        exact drop_of_tk ht
  · rw [if_neg h0] at h
    obtain ⟨L, hL⟩ : ∃ n : Nat, l = n := ⟨l.toNat, by omega⟩
    rw [hL] at h
    obtain ⟨e1, e2, e3, e4, e5, e6⟩ := rdB_inv hA (by omega) h
    rw [← hL] at e3
    have hfv : fv k l v := by
      by_cases h2 : k ≤ 2
      · exact num_fv h2 (e2 h2) ((fln_none hk h0).2 (by omega))
      · exact e3 h2
    refine ⟨hfv, ?_, ?_, ?_⟩ <;> unfold wrF <;> rw [hdr_nil h0, List.nil_append]
    · exact e4
    · exact e5
    · exact drop_of_tk e6
theorem rdF_err {k l : Int} {b : List UInt8} {a : Int} : (rdF k l b a).2.2.1 = 0 ∨ rdF k l b a = ([], 0, (rdF k l b a).2.2.1, ()) := by
  unfold rdF
  by_cases h1 : a < 0 ∨ (b.length : Int) < a
  · rw [if_pos h1]; exact .inr rfl
  rw [if_neg h1]
  by_cases h2 : 0 < cnt k
  · rw [if_pos h2]
    by_cases h3 : (takeBcd b a (cnt k)).2.2.1 = 0
    · rw [if_pos h3]
      by_cases h4 : (val (takeBcd b a (cnt k)).1 : Int) < 1 ∨ l < val (takeBcd b a (cnt k)).1
      · rw [if_pos h4]; exact .inr rfl
      · rw [if_neg h4]; exact rdB_err
    · rw [if_neg h3]; exact .inr rfl
  · rw [if_neg h2]; exact rdB_err
theorem rdD_err {no : Int} {b : List UInt8} {a : Int} : (rdD no b a).2.2.1 = 0 ∨ rdD no b a = ([], 0, (rdD no b a).2.2.1, ()) := by
  unfold rdD
  split
  · exact .inr rfl
  · exact rdF_err
theorem rdF_cut {no k l : Int} {b v : List UInt8} {A c : Nat} (ho : formOf no = some (k, l)) (hA : A ≤ b.length) (hv : fv k l v) (hc : c < (wrF k v).length) (h : b.drop A = (wrF k v).take c) : rdF k l b A = ([], 0, 3, ()) := by
  obtain ⟨hk, h1, h400, h99⟩ := form_ok ho
  obtain ⟨hv1, hv2, hv3⟩ := fv_len ho hv
  have hbl := drop_len hA h
  rw [List.length_take, Nat.min_eq_left (by omega)] at hbl
  unfold rdF
  rw [if_neg (by omega)]
  unfold wrF at h hc
  by_cases h0 : 0 < cnt k
  · rw [if_pos h0]
    obtain ⟨c1, c2, c3⟩ := cnt_lt hk h99 h400 hv h0
    have hcr := cnt_range hk
    obtain ⟨C, hC⟩ : ∃ n : Nat, cnt k = n := ⟨(cnt k).toNat, by omega⟩
    by_cases hlt : c < (hdr k v.length).length
    · rw [hC]
      have hhl : (hdr k v.length).length = (C + 1) / 2 := by rw [hdr_length, if_pos h0, hC, Int.toNat_natCast]
      rcases takeBcd_cases hA (show C ≤ 999 by omega) with ⟨_, e⟩ | ⟨h3, _⟩ | ⟨s, h3, _⟩
      · rw [e]; rfl
      · omega
      · omega
    · have h' : b.drop A = bcd (pad (ps 10 dch v.length (cnt k).toNat)) ++ (body k v).take (c - (hdr k v.length).length) := by
        rw [h, List.take_append, List.take_of_length_le (by omega), hdr_of h0]
      have hp := takeBcd_hit (s := ps 10 dch v.length (cnt k).toNat) hA (by rw [ps_length]; omega) figs_ps h'
      rw [ps_length, Int.toNat_of_nonneg (by omega)] at hp
      rw [hp]
      have hval : val (ps 10 dch v.length (cnt k).toNat) = v.length := by
        rw [val_ps, Nat.mod_eq_of_lt]
        have := c2.2
        have h10 : ((10 : Int) ^ (cnt k).toNat) = ((10 ^ (cnt k).toNat : Nat) : Int) := pow_cast 10 _
        rw [h10] at this; omega
      simp only [if_pos]
      rw [hval, if_neg (by omega)]
      have hd := drop_app_len hA h'
      have hhl : (hdr k v.length).length = ((cnt k).toNat + 1) / 2 := by rw [hdr_length, if_pos h0]
      rw [List.length_append] at hc
      exact rdB_cut (by rw [bcdpad_length, ps_length] at hd; exact hd.1) hv3 (by omega)
  · rw [if_neg h0]
    have hl := (fln_none hk h0).1 hv.2
    rw [hdr_nil h0, List.nil_append] at hc
    have := rdB_cut (l := l) hA hv3 (show b.length < A + (body k v).length by omega)
    rw [hl] at this; exact this
end Yp

namespace Yp
open Go
theorem law05_shown_spec : law05_shown () = some (true, ()) := by
  unfold law05_shown
  repeat first
    | refine (ob_of (field_Write_spec _ _ (by decide +kernel))).trans ?_
    | refine (ob_of (field_Read_spec _ _ _ (by decide +kernel))).trans ?_
    | refine (ob_of (field_Of_spec _)).trans ?_
    | refine (ob_of (field_Fits_spec _ _ (by decide +kernel))).trans ?_
    | refine (ob_of (ref01_Hex_spec _ (by decide +kernel))).trans ?_
    | refine (sel_of_t (by decide +kernel)).trans ?_
  decide +kernel
theorem law05_FieldTells' (no : Int) (v : List UInt8) : law05_FieldTells (no, v, ()) = some (true, ()) := by
  unfold law05_FieldTells
  simp (disch := first | assumption | omega | decide) only [↓g02, ↓g03, ↓g04, ↓g05, ↓g06, g01, g02, g03, g04, g05, g06, g07, g08, g09, g10, g11, g12, g13, g14, g15, g16, g17, g18, g19, g20, g21, g22, g23, g24, g25, g26, g27, g28, g29, g30, g31, g32, g33, g34, g35, g36, g37, g38, g39, g40, g41, g42, g43, g44, g45, g46, g47, g48, g49, g50, g51, g52, g53, g54, g55, g56, g57, g58, g60, g61, eq_self, not_true_eq_false, not_false_eq_true, List.nil_append, List.append_nil, List.length_nil, and_true, true_and, or_true, true_or, or_false, false_or, and_false, false_and, iff_self, if_true, if_false, law05_shown_spec]
  by_cases hl : (500 : Int) < (v.length : Int)
  · simp (disch := first | assumption | omega | decide) only [↓g02, ↓g03, ↓g04, ↓g05, ↓g06, g01, g02, g03, g04, g05, g06, g07, g08, g09, g10, g11, g12, g13, g14, g15, g16, g17, g18, g19, g20, g21, g22, g23, g24, g25, g26, g27, g28, g29, g30, g31, g32, g33, g34, g35, g36, g37, g38, g39, g40, g41, g42, g43, g44, g45, g46, g47, g48, g49, g50, g51, g52, g53, g54, g55, g56, g57, g58, g60, g61, eq_self, not_true_eq_false, not_false_eq_true, List.nil_append, List.append_nil, List.length_nil, and_true, true_and, or_true, true_or, or_false, false_or, and_false, false_and, iff_self, if_true, if_false]
  simp (disch := first | assumption | omega | decide) only [↓g02, ↓g03, ↓g04, ↓g05, ↓g06, g01, g02, g03, g04, g05, g06, g07, g08, g09, g10, g11, g12, g13, g14, g15, g16, g17, g18, g19, g20, g21, g22, g23, g24, g25, g26, g27, g28, g29, g30, g31, g32, g33, g34, g35, g36, g37, g38, g39, g40, g41, g42, g43, g44, g45, g46, g47, g48, g49, g50, g51, g52, g53, g54, g55, g56, g57, g58, g60, g61, eq_self, not_true_eq_false, not_false_eq_true, List.nil_append, List.append_nil, List.length_nil, and_true, true_and, or_true, true_or, or_false, false_or, and_false, false_and, iff_self, if_true, if_false, field_Of_spec, ref05_Of_spec, field_Write_spec, ref05_Write_spec, field_Fits_spec, ref05_Fits_spec, ref01_Same_spec]
theorem law05_FieldTells_true (x : denL [.int .i64, .sl (.int .u8)]) (_ : okL [.int .i64, .sl (.int .u8)] x) : law05_FieldTells x = some (true, ()) := law05_FieldTells' x.1 x.2.1
theorem law05_FieldReads' (no : Int) (v : List UInt8) (a : Int) : law05_FieldReads (no, v, a, ()) = some (true, ()) := by
  unfold law05_FieldReads
  simp (disch := first | assumption | omega | decide) only [↓g02, ↓g03, ↓g04, ↓g05, ↓g06, g01, g02, g03, g04, g05, g06, g07, g08, g09, g10, g11, g12, g13, g14, g15, g16, g17, g18, g19, g20, g21, g22, g23, g24, g25, g26, g27, g28, g29, g30, g31, g32, g33, g34, g35, g36, g37, g38, g39, g40, g41, g42, g43, g44, g45, g46, g47, g48, g49, g50, g51, g52, g53, g54, g55, g56, g57, g58, g60, g61, eq_self, not_true_eq_false, not_false_eq_true, List.nil_append, List.append_nil, List.length_nil, and_true, true_and, or_true, true_or, or_false, false_or, and_false, false_and, iff_self, if_true, if_false, law05_shown_spec]
  by_cases hl : (500 : Int) < (v.length : Int)
  · simp (disch := first | assumption | omega | decide) only [↓g02, ↓g03, ↓g04, ↓g05, ↓g06, g01, g02, g03, g04, g05, g06, g07, g08, g09, g10, g11, g12, g13, g14, g15, g16, g17, g18, g19, g20, g21, g22, g23, g24, g25, g26, g27, g28, g29, g30, g31, g32, g33, g34, g35, g36, g37, g38, g39, g40, g41, g42, g43, g44, g45, g46, g47, g48, g49, g50, g51, g52, g53, g54, g55, g56, g57, g58, g60, g61, eq_self, not_true_eq_false, not_false_eq_true, List.nil_append, List.append_nil, List.length_nil, and_true, true_and, or_true, true_or, or_false, false_or, and_false, false_and, iff_self, if_true, if_false]
  simp (disch := first | assumption | omega | decide) only [↓g02, ↓g03, ↓g04, ↓g05, ↓g06, g01, g02, g03, g04, g05, g06, g07, g08, g09, g10, g11, g12, g13, g14, g15, g16, g17, g18, g19, g20, g21, g22, g23, g24, g25, g26, g27, g28, g29, g30, g31, g32, g33, g34, g35, g36, g37, g38, g39, g40, g41, g42, g43, g44, g45, g46, g47, g48, g49, g50, g51, g52, g53, g54, g55, g56, g57, g58, g60, g61, eq_self, not_true_eq_false, not_false_eq_true, List.nil_append, List.append_nil, List.length_nil, and_true, true_and, or_true, true_or, or_false, false_or, and_false, false_and, iff_self, if_true, if_false, field_Read_spec, ref05_Read_spec, ref01_Same_spec]
theorem law05_FieldReads_true (x : denL [.int .i64, .sl (.int .u8), .int .i64]) (_ : okL [.int .i64, .sl (.int .u8), .int .i64] x) : law05_FieldReads x = some (true, ()) := law05_FieldReads' x.1 x.2.1 x.2.2.1
theorem law05_FieldLong' (no : Int) (v : List UInt8) : law05_FieldLong (no, v, ()) = some (true, ()) := by
  unfold law05_FieldLong
  simp (disch := first | assumption | omega | decide) only [↓g02, ↓g03, ↓g04, ↓g05, ↓g06, g01, g02, g03, g04, g05, g06, g07, g08, g09, g10, g11, g12, g13, g14, g15, g16, g17, g18, g19, g20, g21, g22, g23, g24, g25, g26, g27, g28, g29, g30, g31, g32, g33, g34, g35, g36, g37, g38, g39, g40, g41, g42, g43, g44, g45, g46, g47, g48, g49, g50, g51, g52, g53, g54, g55, g56, g57, g58, g60, g61, eq_self, not_true_eq_false, not_false_eq_true, List.nil_append, List.append_nil, List.length_nil, and_true, true_and, or_true, true_or, or_false, false_or, and_false, false_and, iff_self, if_true, if_false, law05_shown_spec]
  by_cases hl : (500 : Int) < (v.length : Int)
  · simp (disch := first | assumption | omega | decide) only [↓g02, ↓g03, ↓g04, ↓g05, ↓g06, g01, g02, g03, g04, g05, g06, g07, g08, g09, g10, g11, g12, g13, g14, g15, g16, g17, g18, g19, g20, g21, g22, g23, g24, g25, g26, g27, g28, g29, g30, g31, g32, g33, g34, g35, g36, g37, g38, g39, g40, g41, g42, g43, g44, g45, g46, g47, g48, g49, g50, g51, g52, g53, g54, g55, g56, g57, g58, g60, g61, eq_self, not_true_eq_false, not_false_eq_true, List.nil_append, List.append_nil, List.length_nil, and_true, true_and, or_true, true_or, or_false, false_or, and_false, false_and, iff_self, if_true, if_false]
  simp (disch := first | assumption | omega | decide) only [↓g02, ↓g03, ↓g04, ↓g05, ↓g06, g01, g02, g03, g04, g05, g06, g07, g08, g09, g10, g11, g12, g13, g14, g15, g16, g17, g18, g19, g20, g21, g22, g23, g24, g25, g26, g27, g28, g29, g30, g31, g32, g33, g34, g35, g36, g37, g38, g39, g40, g41, g42, g43, g44, g45, g46, g47, g48, g49, g50, g51, g52, g53, g54, g55, g56, g57, g58, g60, g61, eq_self, not_true_eq_false, not_false_eq_true, List.nil_append, List.append_nil, List.length_nil, and_true, true_and, or_true, true_or, or_false, false_or, and_false, false_and, iff_self, if_true, if_false, field_Of_spec, field_Write_spec]
  unfold wrD
  cases ho : formOf no with
  | none =>
    simp (disch := first | assumption | omega | decide) only [↓g02, ↓g03, ↓g04, ↓g05, ↓g06, g01, g02, g03, g04, g05, g06, g07, g08, g09, g10, g11, g12, g13, g14, g15, g16, g17, g18, g19, g20, g21, g22, g23, g24, g25, g26, g27, g28, g29, g30, g31, g32, g33, g34, g35, g36, g37, g38, g39, g40, g41, g42, g43, g44, g45, g46, g47, g48, g49, g50, g51, g52, g53, g54, g55, g56, g57, g58, g60, g61, eq_self, not_true_eq_false, not_false_eq_true, List.nil_append, List.append_nil, List.length_nil, and_true, true_and, or_true, true_or, or_false, false_or, and_false, false_and, iff_self, if_true, if_false, fr]
    exact some_D rfl
  | some p =>
    obtain ⟨k, l⟩ := p
    by_cases hv : fv k l v
    · have hw := wrF_length (v := v) (form_ok ho).1
      have hb := fv_len ho hv
      have ho' := form_ok ho
      obtain ⟨hk, -⟩ := ho'
      simp only [if_pos hv, fr]
      rcases hk with rfl | rfl | rfl | rfl | rfl | rfl | rfl
      all_goals
        simp at hw
        simp (disch := first | assumption | omega | decide) only [↓g02, ↓g03, ↓g04, ↓g05, ↓g06, g01, g02, g03, g04, g05, g06, g07, g08, g09, g10, g11, g12, g13, g14, g15, g16, g17, g18, g19, g20, g21, g22, g23, g24, g25, g26, g27, g28, g29, g30, g31, g32, g33, g34, g35, g36, g37, g38, g39, g40, g41, g42, g43, g44, g45, g46, g47, g48, g49, g50, g51, g52, g53, g54, g55, g56, g57, g58, g60, g61, eq_self, not_true_eq_false, not_false_eq_true, List.nil_append, List.append_nil, List.length_nil, and_true, true_and, or_true, true_or, or_false, false_or, and_false, false_and, iff_self, if_true, if_false]
        refine some_D ?_
        omega
    · simp only [if_neg hv]
      simp (disch := first | assumption | omega | decide) only [↓g02, ↓g03, ↓g04, ↓g05, ↓g06, g01, g02, g03, g04, g05, g06, g07, g08, g09, g10, g11, g12, g13, g14, g15, g16, g17, g18, g19, g20, g21, g22, g23, g24, g25, g26, g27, g28, g29, g30, g31, g32, g33, g34, g35, g36, g37, g38, g39, g40, g41, g42, g43, g44, g45, g46, g47, g48, g49, g50, g51, g52, g53, g54, g55, g56, g57, g58, g60, g61, eq_self, not_true_eq_false, not_false_eq_true, List.nil_append, List.append_nil, List.length_nil, and_true, true_and, or_true, true_or, or_false, false_or, and_false, false_and, iff_self, if_true, if_false]
      exact some_D rfl
theorem law05_FieldLong_true (x : denL [.int .i64, .sl (.int .u8)]) (_ : okL [.int .i64, .sl (.int .u8)] x) : law05_FieldLong x = some (true, ()) := law05_FieldLong' x.1 x.2.1
theorem wrF_pref {no k l : Int} {v w q : List UInt8} (ho : formOf no = some (k, l)) (hv : fv k l v) (hw : fv k l w) (h : wrF k w = wrF k v ++ q) : v = w := by
  have h1 := rdF_hit (b := wrF k w) (A := 0) ho (Nat.zero_le _) hv h
  have h2 := rdF_hit (b := wrF k w) (A := 0) (q := []) ho (Nat.zero_le _) hw (by simp)
  rw [h1] at h2
  exact (Prod.mk.inj h2).1
theorem wrF_apart {no k l : Int} {v w : List UInt8} {n : Nat} (ho : formOf no = some (k, l)) (hv : fv k l v) (hw : fv k l w) (hn : n = min (wrF k v).length (wrF k w).length) : (wrF k v).take n = (wrF k w).take n ↔ v = w := by
  refine ⟨fun h => ?_, fun h => by rw [h]⟩
  rcases Nat.le_total (wrF k v).length (wrF k w).length with hle | hle
  · rw [Nat.min_eq_left hle] at hn
    rw [hn, List.take_length] at h
    exact wrF_pref ho hv hw (((List.take_append_drop (wrF k v).length (wrF k w)).symm).trans (congrArg (· ++ _) h.symm))
  · rw [Nat.min_eq_right hle] at hn
    rw [hn, List.take_length] at h
    exact (wrF_pref ho hw hv (((List.take_append_drop (wrF k w).length (wrF k v)).symm).trans (congrArg (· ++ _) h))).symm
theorem law05_FieldApart' (no : Int) (v w : List UInt8) : law05_FieldApart (no, v, w, ()) = some (true, ()) := by
  unfold law05_FieldApart
  simp (disch := first | assumption | omega | decide) only [↓g02, ↓g03, ↓g04, ↓g05, ↓g06, g01, g02, g03, g04, g05, g06, g07, g08, g09, g10, g11, g12, g13, g14, g15, g16, g17, g18, g19, g20, g21, g22, g23, g24, g25, g26, g27, g28, g29, g30, g31, g32, g33, g34, g35, g36, g37, g38, g39, g40, g41, g42, g43, g44, g45, g46, g47, g48, g49, g50, g51, g52, g53, g54, g55, g56, g57, g58, g60, g61, eq_self, not_true_eq_false, not_false_eq_true, List.nil_append, List.append_nil, List.length_nil, and_true, true_and, or_true, true_or, or_false, false_or, and_false, false_and, iff_self, if_true, if_false, law05_shown_spec]
  by_cases hl : (500 : Int) < (v.length : Int) ∨ (500 : Int) < (w.length : Int)
  · simp (disch := first | assumption | omega | decide) only [↓g02, ↓g03, ↓g04, ↓g05, ↓g06, g01, g02, g03, g04, g05, g06, g07, g08, g09, g10, g11, g12, g13, g14, g15, g16, g17, g18, g19, g20, g21, g22, g23, g24, g25, g26, g27, g28, g29, g30, g31, g32, g33, g34, g35, g36, g37, g38, g39, g40, g41, g42, g43, g44, g45, g46, g47, g48, g49, g50, g51, g52, g53, g54, g55, g56, g57, g58, g60, g61, eq_self, not_true_eq_false, not_false_eq_true, List.nil_append, List.append_nil, List.length_nil, and_true, true_and, or_true, true_or, or_false, false_or, and_false, false_and, iff_self, if_true, if_false]
  simp (disch := first | assumption | omega | decide) only [↓g02, ↓g03, ↓g04, ↓g05, ↓g06, g01, g02, g03, g04, g05, g06, g07, g08, g09, g10, g11, g12, g13, g14, g15, g16, g17, g18, g19, g20, g21, g22, g23, g24, g25, g26, g27, g28, g29, g30, g31, g32, g33, g34, g35, g36, g37, g38, g39, g40, g41, g42, g43, g44, g45, g46, g47, g48, g49, g50, g51, g52, g53, g54, g55, g56, g57, g58, g60, g61, eq_self, not_true_eq_false, not_false_eq_true, List.nil_append, List.append_nil, List.length_nil, and_true, true_and, or_true, true_or, or_false, false_or, and_false, false_and, iff_self, if_true, if_false, field_Write_spec]
  unfold wrD
  cases ho : formOf no with
  | none => simp (disch := first | assumption | omega | decide) only [↓g02, ↓g03, ↓g04, ↓g05, ↓g06, g01, g02, g03, g04, g05, g06, g07, g08, g09, g10, g11, g12, g13, g14, g15, g16, g17, g18, g19, g20, g21, g22, g23, g24, g25, g26, g27, g28, g29, g30, g31, g32, g33, g34, g35, g36, g37, g38, g39, g40, g41, g42, g43, g44, g45, g46, g47, g48, g49, g50, g51, g52, g53, g54, g55, g56, g57, g58, g60, g61, eq_self, not_true_eq_false, not_false_eq_true, List.nil_append, List.append_nil, List.length_nil, and_true, true_and, or_true, true_or, or_false, false_or, and_false, false_and, iff_self, if_true, if_false]
  | some p =>
    obtain ⟨k, l⟩ := p
    by_cases hv : fv k l v
    · by_cases hw : fv k l w
      · simp only [if_pos hv, if_pos hw]
        simp (disch := first | assumption | omega | decide) only [↓g02, ↓g03, ↓g04, ↓g05, ↓g06, g01, g02, g03, g04, g05, g06, g07, g08, g09, g10, g11, g12, g13, g14, g15, g16, g17, g18, g19, g20, g21, g22, g23, g24, g25, g26, g27, g28, g29, g30, g31, g32, g33, g34, g35, g36, g37, g38, g39, g40, g41, g42, g43, g44, g45, g46, g47, g48, g49, g50, g51, g52, g53, g54, g55, g56, g57, g58, g60, g61, eq_self, not_true_eq_false, not_false_eq_true, List.nil_append, List.append_nil, List.length_nil, and_true, true_and, or_true, true_or, or_false, false_or, and_false, false_and, iff_self, if_true, if_false, ref01_Same_spec]
        refine some_D ?_
        simp only [cut, Int.toNat_zero, List.drop_zero, Nat.sub_zero]
        exact wrF_apart ho hv hw (by omega)
      · simp only [if_pos hv, if_neg hw]
        simp (disch := first | assumption | omega | decide) only [↓g02, ↓g03, ↓g04, ↓g05, ↓g06, g01, g02, g03, g04, g05, g06, g07, g08, g09, g10, g11, g12, g13, g14, g15, g16, g17, g18, g19, g20, g21, g22, g23, g24, g25, g26, g27, g28, g29, g30, g31, g32, g33, g34, g35, g36, g37, g38, g39, g40, g41, g42, g43, g44, g45, g46, g47, g48, g49, g50, g51, g52, g53, g54, g55, g56, g57, g58, g60, g61, eq_self, not_true_eq_false, not_false_eq_true, List.nil_append, List.append_nil, List.length_nil, and_true, true_and, or_true, true_or, or_false, false_or, and_false, false_and, iff_self, if_true, if_false]
    · simp only [if_neg hv]
      simp (disch := first | assumption | omega | decide) only [↓g02, ↓g03, ↓g04, ↓g05, ↓g06, g01, g02, g03, g04, g05, g06, g07, g08, g09, g10, g11, g12, g13, g14, g15, g16, g17, g18, g19, g20, g21, g22, g23, g24, g25, g26, g27, g28, g29, g30, g31, g32, g33, g34, g35, g36, g37, g38, g39, g40, g41, g42, g43, g44, g45, g46, g47, g48, g49, g50, g51, g52, g53, g54, g55, g56, g57, g58, g60, g61, eq_self, not_true_eq_false, not_false_eq_true, List.nil_append, List.append_nil, List.length_nil, and_true, true_and, or_true, true_or, or_false, false_or, and_false, false_and, iff_self, if_true, if_false]
theorem law05_FieldApart_true (x : denL [.int .i64, .sl (.int .u8), .sl (.int .u8)]) (_ : okL [.int .i64, .sl (.int .u8), .sl (.int .u8)] x) : law05_FieldApart x = some (true, ()) := law05_FieldApart' x.1 x.2.1 x.2.2.1
theorem wrF_le {k : Int} {v : List UInt8} (hk : kinds k) (h : v.length ≤ 400) : (wrF k v).length ≤ 402 := by
  rw [wrF_length hk]; repeat' split
  all_goals omega
theorem wrF_pos {k : Int} {v : List UInt8} (hk : kinds k) (h : 1 ≤ v.length) : 1 ≤ (wrF k v).length := by
  rw [wrF_length hk]; repeat' split
  all_goals omega
theorem takeBcd_e {b : List UInt8} {A N : Nat} (hA : A ≤ b.length) (hN : N ≤ 999) : ¬ (takeBcd b A N).2.2.1 = 1 := by
  rcases takeBcd_cases hA hN with ⟨_, e⟩ | ⟨_, e, _⟩ | ⟨s, _, e, _⟩ <;> rw [e] <;> simp
theorem rdB_e {k l : Int} {b : List UInt8} {A N : Nat} (hA : A ≤ b.length) (hN : N ≤ 999) : ¬ (rdB k l b A N).2.2.1 = 1 := by
  have := takeBcd_e hA hN
  unfold rdB
  repeat' split
  all_goals simp_all
theorem rdF_arg {no k l : Int} {b : List UInt8} {a : Int} (ho : formOf no = some (k, l)) : (rdF k l b a).2.2.1 = 1 ↔ a < 0 ∨ (b.length : Int) < a := by
  obtain ⟨hk, h1, h400, h99⟩ := form_ok ho
  unfold rdF
  by_cases h : a < 0 ∨ (b.length : Int) < a
  · rw [if_pos h]; simp [h]
  · rw [if_neg h]
    obtain ⟨A, rfl⟩ : ∃ n : Nat, a = n := ⟨a.toNat, by omega⟩
    have hA : A ≤ b.length := by omega
    refine iff_of_false ?_ h
    by_cases h0 : 0 < cnt k
    · rw [if_pos h0]
      have hcr := cnt_range hk
      obtain ⟨C, hC⟩ : ∃ n : Nat, cnt k = n := ⟨(cnt k).toNat, by omega⟩
      rw [hC]
      rcases takeBcd_cases hA (show C ≤ 999 by omega) with ⟨_, e⟩ | ⟨_, e, _⟩ | ⟨s, h3, e, hf, hs, _⟩
      · rw [e]; simp
      · rw [e]; simp
      · rw [e]
        simp only [if_pos]
        have hvs := val_small hf (by omega)
        by_cases hm : (val s : Int) < 1 ∨ l < val s
        · rw [if_pos hm]; simp
        · rw [if_neg hm]; exact rdB_e h3 (by omega)
    · rw [if_neg h0]
      obtain ⟨L, rfl⟩ : ∃ n : Nat, l = n := ⟨l.toNat, by omega⟩
      exact rdB_e hA (by omega)
theorem law05_FieldCuts' (no : Int) (v : List UInt8) (c : UInt16) (a : Int) : law05_FieldCuts ((no, v, c, a, ()), ()) = some (true, ()) := by
  unfold law05_FieldCuts
  simp (disch := first | assumption | omega | decide) only [↓g02, ↓g03, ↓g04, ↓g05, ↓g06, g01, g02, g03, g04, g05, g06, g07, g08, g09, g10, g11, g12, g13, g14, g15, g16, g17, g18, g19, g20, g21, g22, g23, g24, g25, g26, g27, g28, g29, g30, g31, g32, g33, g34, g35, g36, g37, g38, g39, g40, g41, g42, g43, g44, g45, g46, g47, g48, g49, g50, g51, g52, g53, g54, g55, g56, g57, g58, g60, g61, eq_self, not_true_eq_false, not_false_eq_true, List.nil_append, List.append_nil, List.length_nil, and_true, true_and, or_true, true_or, or_false, false_or, and_false, false_and, iff_self, if_true, if_false, law05_shown_spec]
  by_cases hl : (500 : Int) < (v.length : Int)
  · simp (disch := first | assumption | omega | decide) only [↓g02, ↓g03, ↓g04, ↓g05, ↓g06, g01, g02, g03, g04, g05, g06, g07, g08, g09, g10, g11, g12, g13, g14, g15, g16, g17, g18, g19, g20, g21, g22, g23, g24, g25, g26, g27, g28, g29, g30, g31, g32, g33, g34, g35, g36, g37, g38, g39, g40, g41, g42, g43, g44, g45, g46, g47, g48, g49, g50, g51, g52, g53, g54, g55, g56, g57, g58, g60, g61, eq_self, not_true_eq_false, not_false_eq_true, List.nil_append, List.append_nil, List.length_nil, and_true, true_and, or_true, true_or, or_false, false_or, and_false, false_and, iff_self, if_true, if_false]
  simp (disch := first | assumption | omega | decide) only [↓g02, ↓g03, ↓g04, ↓g05, ↓g06, g01, g02, g03, g04, g05, g06, g07, g08, g09, g10, g11, g12, g13, g14, g15, g16, g17, g18, g19, g20, g21, g22, g23, g24, g25, g26, g27, g28, g29, g30, g31, g32, g33, g34, g35, g36, g37, g38, g39, g40, g41, g42, g43, g44, g45, g46, g47, g48, g49, g50, g51, g52, g53, g54, g55, g56, g57, g58, g60, g61, eq_self, not_true_eq_false, not_false_eq_true, List.nil_append, List.append_nil, List.length_nil, and_true, true_and, or_true, true_or, or_false, false_or, and_false, false_and, iff_self, if_true, if_false, field_Write_spec, field_Of_spec]
  unfold wrD
  cases ho : formOf no with
  | none =>
    have hr : ∀ b, rdD no b a = ([], 0, 12, ()) := fun b => by unfold rdD; rw [ho]
    simp (disch := first | assumption | omega | decide) only [↓g02, ↓g03, ↓g04, ↓g05, ↓g06, g01, g02, g03, g04, g05, g06, g07, g08, g09, g10, g11, g12, g13, g14, g15, g16, g17, g18, g19, g20, g21, g22, g23, g24, g25, g26, g27, g28, g29, g30, g31, g32, g33, g34, g35, g36, g37, g38, g39, g40, g41, g42, g43, g44, g45, g46, g47, g48, g49, g50, g51, g52, g53, g54, g55, g56, g57, g58, g60, g61, eq_self, not_true_eq_false, not_false_eq_true, List.nil_append, List.append_nil, List.length_nil, and_true, true_and, or_true, true_or, or_false, false_or, and_false, false_and, iff_self, if_true, if_false, fr, field_Read_spec, hr]
  | some p =>
    obtain ⟨k, l⟩ := p
    have hr : ∀ b a, rdD no b a = rdF k l b a := fun b a => by unfold rdD; rw [ho]
    have h1 : ∀ b, ((rdF k l b a).2.2.1 = 1) = (a < 0 ∨ (b.length : Int) < a) := fun b => propext (rdF_arg ho)
    by_cases hv : fv k l v
    · simp only [if_pos hv, fr]
      have hb := fv_len ho hv
      have hwl := wrF_le (form_ok ho).1 hb.2.2
      have hw0 : 1 ≤ (wrF k v).length := wrF_pos (form_ok ho).1 hb.1
      have hc : ∀ c : Nat, c < (wrF k v).length → rdF k l ((wrF k v).take c) 0 = ([], 0, 3, ()) := fun c hc => rdF_cut (A := 0) ho (Nat.zero_le _) hv hc rfl
      have hc16 := c.toNat_lt
      have hm := Nat.mod_lt c.toNat (show 0 < (wrF k v).length by omega)
      have hmm : ((c.toNat : Int) % ((wrF k v).length : Int)) = ((c.toNat % (wrF k v).length : Nat) : Int) := by simp
      have hs : ∀ m : Nat, m < (wrF k v).length → sub (wrF k v) 0 (m : Int) = (wrF k v).take m := fun m _ => by simp [sub]
      have htl : ((wrF k v).take (c.toNat % (wrF k v).length)).length ≤ 1000000 := by rw [List.length_take]; omega
      simp (disch := first | assumption | omega | decide) only [↓g02, ↓g03, ↓g04, ↓g05, ↓g06, g01, g02, g03, g04, g05, g06, g07, g08, g09, g10, g11, g12, g13, g14, g15, g16, g17, g18, g19, g20, g21, g22, g23, g24, g25, g26, g27, g28, g29, g30, g31, g32, g33, g34, g35, g36, g37, g38, g39, g40, g41, g42, g43, g44, g45, g46, g47, g48, g49, g50, g51, g52, g53, g54, g55, g56, g57, g58, g60, g61, eq_self, not_true_eq_false, not_false_eq_true, List.nil_append, List.append_nil, List.length_nil, and_true, true_and, or_true, true_or, or_false, false_or, and_false, false_and, iff_self, if_true, if_false, field_Read_spec, hr, h1, hmm]
      by_cases ha : a < 0
      · simp (disch := first | assumption | omega | decide) only [↓g02, ↓g03, ↓g04, ↓g05, ↓g06, g01, g02, g03, g04, g05, g06, g07, g08, g09, g10, g11, g12, g13, g14, g15, g16, g17, g18, g19, g20, g21, g22, g23, g24, g25, g26, g27, g28, g29, g30, g31, g32, g33, g34, g35, g36, g37, g38, g39, g40, g41, g42, g43, g44, g45, g46, g47, g48, g49, g50, g51, g52, g53, g54, g55, g56, g57, g58, g60, g61, eq_self, not_true_eq_false, not_false_eq_true, List.nil_append, List.append_nil, List.length_nil, and_true, true_and, or_true, true_or, or_false, false_or, and_false, false_and, iff_self, if_true, if_false, field_Read_spec, hr, hs, hc]
      · simp (disch := first | assumption | omega | decide) only [↓g02, ↓g03, ↓g04, ↓g05, ↓g06, g01, g02, g03, g04, g05, g06, g07, g08, g09, g10, g11, g12, g13, g14, g15, g16, g17, g18, g19, g20, g21, g22, g23, g24, g25, g26, g27, g28, g29, g30, g31, g32, g33, g34, g35, g36, g37, g38, g39, g40, g41, g42, g43, g44, g45, g46, g47, g48, g49, g50, g51, g52, g53, g54, g55, g56, g57, g58, g60, g61, eq_self, not_true_eq_false, not_false_eq_true, List.nil_append, List.append_nil, List.length_nil, and_true, true_and, or_true, true_or, or_false, false_or, and_false, false_and, iff_self, if_true, if_false, field_Read_spec, hr, hs, hc]
    · simp only [if_neg hv, fr]
      simp (disch := first | assumption | omega | decide) only [↓g02, ↓g03, ↓g04, ↓g05, ↓g06, g01, g02, g03, g04, g05, g06, g07, g08, g09, g10, g11, g12, g13, g14, g15, g16, g17, g18, g19, g20, g21, g22, g23, g24, g25, g26, g27, g28, g29, g30, g31, g32, g33, g34, g35, g36, g37, g38, g39, g40, g41, g42, g43, g44, g45, g46, g47, g48, g49, g50, g51, g52, g53, g54, g55, g56, g57, g58, g60, g61, eq_self, not_true_eq_false, not_false_eq_true, List.nil_append, List.append_nil, List.length_nil, and_true, true_and, or_true, true_or, or_false, false_or, and_false, false_and, iff_self, if_true, if_false, field_Read_spec, hr, h1]
      by_cases ha : a < 0
      · simp (disch := first | assumption | omega | decide) only [↓g02, ↓g03, ↓g04, ↓g05, ↓g06, g01, g02, g03, g04, g05, g06, g07, g08, g09, g10, g11, g12, g13, g14, g15, g16, g17, g18, g19, g20, g21, g22, g23, g24, g25, g26, g27, g28, g29, g30, g31, g32, g33, g34, g35, g36, g37, g38, g39, g40, g41, g42, g43, g44, g45, g46, g47, g48, g49, g50, g51, g52, g53, g54, g55, g56, g57, g58, g60, g61, eq_self, not_true_eq_false, not_false_eq_true, List.nil_append, List.append_nil, List.length_nil, and_true, true_and, or_true, true_or, or_false, false_or, and_false, false_and, iff_self, if_true, if_false]
        exact some_D (by omega)
      · simp (disch := first | assumption | omega | decide) only [↓g02, ↓g03, ↓g04, ↓g05, ↓g06, g01, g02, g03, g04, g05, g06, g07, g08, g09, g10, g11, g12, g13, g14, g15, g16, g17, g18, g19, g20, g21, g22, g23, g24, g25, g26, g27, g28, g29, g30, g31, g32, g33, g34, g35, g36, g37, g38, g39, g40, g41, g42, g43, g44, g45, g46, g47, g48, g49, g50, g51, g52, g53, g54, g55, g56, g57, g58, g60, g61, eq_self, not_true_eq_false, not_false_eq_true, List.nil_append, List.append_nil, List.length_nil, and_true, true_and, or_true, true_or, or_false, false_or, and_false, false_and, iff_self, if_true, if_false]
        exact some_D (by omega)
theorem law05_FieldCuts_true (x : denL [.pair (.int .i64) (.pair (.sl (.int .u8)) (.pair (.int .u16) (.pair (.int .i64) .unit)))]) (_ : okL [.pair (.int .i64) (.pair (.sl (.int .u8)) (.pair (.int .u16) (.pair (.int .i64) .unit)))] x) : law05_FieldCuts x = some (true, ()) := law05_FieldCuts' x.1.1 x.1.2.1 x.1.2.2.1 x.1.2.2.2.1
theorem upd_len {α : Type} {l : List α} {i : Nat} {x : α} : (upd l i x).length = l.length := by simp [upd]
theorem rng_upd {lo hi : Int} {v : List UInt8} {i : Nat} {c : UInt8} (hi' : i < v.length) (h : rng lo hi v) : rng lo hi (upd v i c) ↔ lo ≤ n8 c ∧ n8 c ≤ hi := by
  unfold rng upd
  constructor
  · intro h'
    have := h' i (by simpa using hi')
    simpa using this
  · intro hc j hj
    rw [List.getElem_set]
    split
    · exact hc
    · exact h j (by simpa using hj)
theorem law05_FieldSigns' (no : Int) (v : List UInt8) (a : UInt16) (c : UInt8) : law05_FieldSigns ((no, v, a, c, ()), ()) = some (true, ()) := by
  unfold law05_FieldSigns
  simp (disch := first | assumption | omega | decide) only [↓g02, ↓g03, ↓g04, ↓g05, ↓g06, g01, g02, g03, g04, g05, g06, g07, g08, g09, g10, g11, g12, g13, g14, g15, g16, g17, g18, g19, g20, g21, g22, g23, g24, g25, g26, g27, g28, g29, g30, g31, g32, g33, g34, g35, g36, g37, g38, g39, g40, g41, g42, g43, g44, g45, g46, g47, g48, g49, g50, g51, g52, g53, g54, g55, g56, g57, g58, g60, g61, eq_self, not_true_eq_false, not_false_eq_true, List.nil_append, List.append_nil, List.length_nil, and_true, true_and, or_true, true_or, or_false, false_or, and_false, false_and, iff_self, if_true, if_false, law05_shown_spec]
  by_cases hl : (500 : Int) < (v.length : Int)
  · simp (disch := first | assumption | omega | decide) only [↓g02, ↓g03, ↓g04, ↓g05, ↓g06, g01, g02, g03, g04, g05, g06, g07, g08, g09, g10, g11, g12, g13, g14, g15, g16, g17, g18, g19, g20, g21, g22, g23, g24, g25, g26, g27, g28, g29, g30, g31, g32, g33, g34, g35, g36, g37, g38, g39, g40, g41, g42, g43, g44, g45, g46, g47, g48, g49, g50, g51, g52, g53, g54, g55, g56, g57, g58, g60, g61, eq_self, not_true_eq_false, not_false_eq_true, List.nil_append, List.append_nil, List.length_nil, and_true, true_and, or_true, true_or, or_false, false_or, and_false, false_and, iff_self, if_true, if_false]
  simp (disch := first | assumption | omega | decide) only [↓g02, ↓g03, ↓g04, ↓g05, ↓g06, g01, g02, g03, g04, g05, g06, g07, g08, g09, g10, g11, g12, g13, g14, g15, g16, g17, g18, g19, g20, g21, g22, g23, g24, g25, g26, g27, g28, g29, g30, g31, g32, g33, g34, g35, g36, g37, g38, g39, g40, g41, g42, g43, g44, g45, g46, g47, g48, g49, g50, g51, g52, g53, g54, g55, g56, g57, g58, g60, g61, eq_self, not_true_eq_false, not_false_eq_true, List.nil_append, List.append_nil, List.length_nil, and_true, true_and, or_true, true_or, or_false, false_or, and_false, false_and, iff_self, if_true, if_false, field_Fits_spec, field_Of_spec]
  cases ho : formOf no with
  | none =>
    have hf : fitsD no v = false := by unfold fitsD; rw [ho]
    simp (disch := first | assumption | omega | decide) only [↓g02, ↓g03, ↓g04, ↓g05, ↓g06, g01, g02, g03, g04, g05, g06, g07, g08, g09, g10, g11, g12, g13, g14, g15, g16, g17, g18, g19, g20, g21, g22, g23, g24, g25, g26, g27, g28, g29, g30, g31, g32, g33, g34, g35, g36, g37, g38, g39, g40, g41, g42, g43, g44, g45, g46, g47, g48, g49, g50, g51, g52, g53, g54, g55, g56, g57, g58, g60, g61, eq_self, not_true_eq_false, not_false_eq_true, List.nil_append, List.append_nil, List.length_nil, and_true, true_and, or_true, true_or, or_false, false_or, and_false, false_and, iff_self, if_true, if_false, fr, hf]
  | some p =>
    obtain ⟨k, l⟩ := p
    have hk := (form_ok ho).1
    have hfd : ∀ w, fitsD no w = D (fv k l w) := fun w => by unfold fitsD; rw [ho]; exact g51
    by_cases hv : fv k l v
    · have hb := fv_len ho hv
      have ha16 := a.toNat_lt
      have hm := Nat.mod_lt a.toNat (show 0 < v.length by omega)
      have hmm : ((a.toNat : Int) % (v.length : Int)) = ((a.toNat % v.length : Nat) : Int) := by simp
      have hul : (upd v (a.toNat % v.length) c).length ≤ 1000000 := by rw [upd_len]; omega
      simp (disch := first | assumption | omega | decide) only [↓g02, ↓g03, ↓g04, ↓g05, ↓g06, g01, g02, g03, g04, g05, g06, g07, g08, g09, g10, g11, g12, g13, g14, g15, g16, g17, g18, g19, g20, g21, g22, g23, g24, g25, g26, g27, g28, g29, g30, g31, g32, g33, g34, g35, g36, g37, g38, g39, g40, g41, g42, g43, g44, g45, g46, g47, g48, g49, g50, g51, g52, g53, g54, g55, g56, g57, g58, g60, g61, eq_self, not_true_eq_false, not_false_eq_true, List.nil_append, List.append_nil, List.length_nil, and_true, true_and, or_true, true_or, or_false, false_or, and_false, false_and, iff_self, if_true, if_false, fr, hfd, hmm, Int.toNat_natCast, field_Fits_spec, hv]
      have hln : fln k l (upd v (a.toNat % v.length) c).length ↔ True := by rw [upd_len]; exact iff_true_intro hv.2
      have hfw : fv k l (upd v (a.toNat % v.length) c) ↔ fch k (upd v (a.toNat % v.length) c) := by unfold fv; rw [hln, and_true]
      unfold fch at hfw
      have h2 : k ≤ 2 → (figs (upd v (a.toNat % v.length) c) ↔ 48 ≤ n8 c ∧ n8 c ≤ 57) := fun h => by
        rw [← rng_figs]; exact rng_upd hm (rng_figs.2 (hv.1.1 h))
      have h5 : k ≤ 5 → (rng 32 126 (upd v (a.toNat % v.length) c) ↔ 32 ≤ n8 c ∧ n8 c ≤ 126) := fun h => rng_upd hm (hv.1.2 h)
      rcases hk with rfl | rfl | rfl | rfl | rfl | rfl | rfl
      all_goals
        (first | simp only [h2 (by omega)] at hfw | skip)
        (first | simp only [h5 (by omega)] at hfw | skip)
        simp at hfw
        simp (disch := first | assumption | omega | decide) only [↓g02, ↓g03, ↓g04, ↓g05, ↓g06, g01, g02, g03, g04, g05, g06, g07, g08, g09, g10, g11, g12, g13, g14, g15, g16, g17, g18, g19, g20, g21, g22, g23, g24, g25, g26, g27, g28, g29, g30, g31, g32, g33, g34, g35, g36, g37, g38, g39, g40, g41, g42, g43, g44, g45, g46, g47, g48, g49, g50, g51, g52, g53, g54, g55, g56, g57, g58, g60, g61, eq_self, not_true_eq_false, not_false_eq_true, List.nil_append, List.append_nil, List.length_nil, and_true, true_and, or_true, true_or, or_false, false_or, and_false, false_and, iff_self, if_true, if_false, hfw]
        try (by_cases h48 : 48 ≤ n8 c)
        all_goals (try simp (disch := first | assumption | omega | decide) only [↓g02, ↓g03, ↓g04, ↓g05, ↓g06, g01, g02, g03, g04, g05, g06, g07, g08, g09, g10, g11, g12, g13, g14, g15, g16, g17, g18, g19, g20, g21, g22, g23, g24, g25, g26, g27, g28, g29, g30, g31, g32, g33, g34, g35, g36, g37, g38, g39, g40, g41, g42, g43, g44, g45, g46, g47, g48, g49, g50, g51, g52, g53, g54, g55, g56, g57, g58, g60, g61, eq_self, not_true_eq_false, not_false_eq_true, List.nil_append, List.append_nil, List.length_nil, and_true, true_and, or_true, true_or, or_false, false_or, and_false, false_and, iff_self, if_true, if_false])
        all_goals (try exact some_D (by omega))
    · simp (disch := first | assumption | omega | decide) only [↓g02, ↓g03, ↓g04, ↓g05, ↓g06, g01, g02, g03, g04, g05, g06, g07, g08, g09, g10, g11, g12, g13, g14, g15, g16, g17, g18, g19, g20, g21, g22, g23, g24, g25, g26, g27, g28, g29, g30, g31, g32, g33, g34, g35, g36, g37, g38, g39, g40, g41, g42, g43, g44, g45, g46, g47, g48, g49, g50, g51, g52, g53, g54, g55, g56, g57, g58, g60, g61, eq_self, not_true_eq_false, not_false_eq_true, List.nil_append, List.append_nil, List.length_nil, and_true, true_and, or_true, true_or, or_false, false_or, and_false, false_and, iff_self, if_true, if_false, fr, hfd, hv]
theorem law05_FieldSigns_true (x : denL [.pair (.int .i64) (.pair (.sl (.int .u8)) (.pair (.int .u16) (.pair (.int .u8) .unit)))]) (_ : okL [.pair (.int .i64) (.pair (.sl (.int .u8)) (.pair (.int .u16) (.pair (.int .u8) .unit)))] x) : law05_FieldSigns x = some (true, ()) := law05_FieldSigns' x.1.1 x.1.2.1 x.1.2.2.1 x.1.2.2.2.1
theorem law05_FieldBack' (no : Int) (v m : List UInt8) (a : UInt8) : law05_FieldBack ((no, v, m, a, ()), ()) = some (true, ()) := by
  unfold law05_FieldBack
  simp (disch := first | assumption | omega | decide) only [↓g02, ↓g03, ↓g04, ↓g05, ↓g06, g01, g02, g03, g04, g05, g06, g07, g08, g09, g10, g11, g12, g13, g14, g15, g16, g17, g18, g19, g20, g21, g22, g23, g24, g25, g26, g27, g28, g29, g30, g31, g32, g33, g34, g35, g36, g37, g38, g39, g40, g41, g42, g43, g44, g45, g46, g47, g48, g49, g50, g51, g52, g53, g54, g55, g56, g57, g58, g60, g61, eq_self, not_true_eq_false, not_false_eq_true, List.nil_append, List.append_nil, List.length_nil, and_true, true_and, or_true, true_or, or_false, false_or, and_false, false_and, iff_self, if_true, if_false, law05_shown_spec]
  by_cases hl : (500 : Int) < (v.length : Int) ∨ (500 : Int) < (m.length : Int)
  · simp (disch := first | assumption | omega | decide) only [↓g02, ↓g03, ↓g04, ↓g05, ↓g06, g01, g02, g03, g04, g05, g06, g07, g08, g09, g10, g11, g12, g13, g14, g15, g16, g17, g18, g19, g20, g21, g22, g23, g24, g25, g26, g27, g28, g29, g30, g31, g32, g33, g34, g35, g36, g37, g38, g39, g40, g41, g42, g43, g44, g45, g46, g47, g48, g49, g50, g51, g52, g53, g54, g55, g56, g57, g58, g60, g61, eq_self, not_true_eq_false, not_false_eq_true, List.nil_append, List.append_nil, List.length_nil, and_true, true_and, or_true, true_or, or_false, false_or, and_false, false_and, iff_self, if_true, if_false]
  simp (disch := first | assumption | omega | decide) only [↓g02, ↓g03, ↓g04, ↓g05, ↓g06, g01, g02, g03, g04, g05, g06, g07, g08, g09, g10, g11, g12, g13, g14, g15, g16, g17, g18, g19, g20, g21, g22, g23, g24, g25, g26, g27, g28, g29, g30, g31, g32, g33, g34, g35, g36, g37, g38, g39, g40, g41, g42, g43, g44, g45, g46, g47, g48, g49, g50, g51, g52, g53, g54, g55, g56, g57, g58, g60, g61, eq_self, not_true_eq_false, not_false_eq_true, List.nil_append, List.append_nil, List.length_nil, and_true, true_and, or_true, true_or, or_false, false_or, and_false, false_and, iff_self, if_true, if_false, field_Fits_spec, field_Write_spec]
  have ha8 := n8_lt a
  have hm := Nat.mod_lt a.toNat (show 0 < m.length + 1 by omega)
  have hmm : ((a.toNat : Int) % ((m.length : Int) + 1)) = ((a.toNat % (m.length + 1) : Nat) : Int) := by simp
  simp only [n8_nat] at *
  cases ho : formOf no with
  | none =>
    have hf : fitsD no v = false := by unfold fitsD; rw [ho]
    have hw : wrD no v = ([], 12, ()) := by unfold wrD; rw [ho]
    have hr : ∀ b a, rdD no b a = ([], 0, 12, ()) := fun b a => by unfold rdD; rw [ho]
    simp (disch := first | assumption | omega | decide) only [↓g02, ↓g03, ↓g04, ↓g05, ↓g06, g01, g02, g03, g04, g05, g06, g07, g08, g09, g10, g11, g12, g13, g14, g15, g16, g17, g18, g19, g20, g21, g22, g23, g24, g25, g26, g27, g28, g29, g30, g31, g32, g33, g34, g35, g36, g37, g38, g39, g40, g41, g42, g43, g44, g45, g46, g47, g48, g49, g50, g51, g52, g53, g54, g55, g56, g57, g58, g60, g61, eq_self, not_true_eq_false, not_false_eq_true, List.nil_append, List.append_nil, List.length_nil, and_true, true_and, or_true, true_or, or_false, false_or, and_false, false_and, iff_self, if_true, if_false, hf, hw, n8_nat, field_Read_spec, hr, hmm]
    exact some_D rfl
  | some p =>
    obtain ⟨k, l⟩ := p
    have hr : ∀ b a, rdD no b a = rdF k l b a := fun b a => by unfold rdD; rw [ho]
    have hfd : ∀ w, fitsD no w = D (fv k l w) := fun w => by unfold fitsD; rw [ho]; exact g51
    have hwd : ∀ w, wrD no w = if fv k l w then (wrF k w, 0, ()) else ([], 1, ()) := fun w => by unfold wrD; rw [ho]
    have tail : ∀ (A : Nat), A = a.toNat % (m.length + 1) → (∀ y I, rdF k l m (A : Int) = (y, I, 0, ()) → fv k l y ∧ I = ((A + (wrF k y).length : Nat) : Int) ∧ A + (wrF k y).length ≤ m.length ∧ m.drop A = wrF k y ++ m.drop (A + (wrF k y).length)) := fun A hA y I h => rdF_inv ho (by omega) h
    have hal : (wrF k v ++ m).length ≤ 1000000 ∨ ¬ fv k l v := by
      by_cases hv : fv k l v
      · have hb := fv_len ho hv
        have hwl := wrF_le (form_ok ho).1 hb.2.2
        rw [List.length_append]; omega
      · exact .inr hv
    have hh : fv k l v → rdF k l (wrF k v ++ m) 0 = (v, ((wrF k v).length : Int), 0, ()) := fun hv => by
      have := rdF_hit (b := wrF k v ++ m) (A := 0) ho (Nat.zero_le _) hv rfl
      simp only [Nat.zero_add] at this; exact this
    have hwl : fv k l v → (wrF k v).length ≤ 402 := fun hv => wrF_le (form_ok ho).1 (fv_len ho hv).2.2
    generalize hA : a.toNat % (m.length + 1) = A at *
    rcases rdF_err (k := k) (l := l) (b := m) (a := (A : Int)) with h0 | h0
    · rcases hx : rdF k l m (A : Int) with ⟨y, I, e, u⟩
      rw [hx] at h0
      simp only at h0
      subst h0
      obtain ⟨m1, m2, m3, m4⟩ := tail A rfl y I hx
      have hy := fv_len ho m1
      have hq := tk_of_drop m4
      have hsub : sub m (A : Int) ((A + (wrF k y).length : Nat) : Int) = wrF k y := by rw [sub_tk]; exact hq
      subst m2
      by_cases hv : fv k l v
      · simp only [hv, not_true_eq_false, or_false, true_implies] at hal hh hwl
        simp (disch := first | assumption | omega | decide) only [↓g02, ↓g03, ↓g04, ↓g05, ↓g06, g01, g02, g03, g04, g05, g06, g07, g08, g09, g10, g11, g12, g13, g14, g15, g16, g17, g18, g19, g20, g21, g22, g23, g24, g25, g26, g27, g28, g29, g30, g31, g32, g33, g34, g35, g36, g37, g38, g39, g40, g41, g42, g43, g44, g45, g46, g47, g48, g49, g50, g51, g52, g53, g54, g55, g56, g57, g58, g60, g61, eq_self, not_true_eq_false, not_false_eq_true, List.nil_append, List.append_nil, List.length_nil, and_true, true_and, or_true, true_or, or_false, false_or, and_false, false_and, iff_self, if_true, if_false, hfd, hwd, n8_nat, hv, field_Read_spec, hr, hmm, hh, ref01_Same_spec, hx, field_Write_spec, field_Fits_spec, m1, hsub]
      · simp (disch := first | assumption | omega | decide) only [↓g02, ↓g03, ↓g04, ↓g05, ↓g06, g01, g02, g03, g04, g05, g06, g07, g08, g09, g10, g11, g12, g13, g14, g15, g16, g17, g18, g19, g20, g21, g22, g23, g24, g25, g26, g27, g28, g29, g30, g31, g32, g33, g34, g35, g36, g37, g38, g39, g40, g41, g42, g43, g44, g45, g46, g47, g48, g49, g50, g51, g52, g53, g54, g55, g56, g57, g58, g60, g61, eq_self, not_true_eq_false, not_false_eq_true, List.nil_append, List.append_nil, List.length_nil, and_true, true_and, or_true, true_or, or_false, false_or, and_false, false_and, iff_self, if_true, if_false, hfd, hwd, n8_nat, hv, field_Read_spec, hr, hmm, hx, field_Write_spec, field_Fits_spec, m1, ref01_Same_spec, hsub]
    · by_cases he : (rdF k l m (A : Int)).2.2.1 = 0
      · rw [he] at h0
        have := (tail A rfl [] 0 h0).1
        have := (fv_len ho this).1
        simp at this
      · generalize (rdF k l m (A : Int)).2.2.1 = e at *
        by_cases hv : fv k l v
        · simp only [hv, not_true_eq_false, or_false, true_implies] at hal hh hwl
          simp (disch := first | assumption | omega | decide) only [↓g02, ↓g03, ↓g04, ↓g05, ↓g06, g01, g02, g03, g04, g05, g06, g07, g08, g09, g10, g11, g12, g13, g14, g15, g16, g17, g18, g19, g20, g21, g22, g23, g24, g25, g26, g27, g28, g29, g30, g31, g32, g33, g34, g35, g36, g37, g38, g39, g40, g41, g42, g43, g44, g45, g46, g47, g48, g49, g50, g51, g52, g53, g54, g55, g56, g57, g58, g60, g61, eq_self, not_true_eq_false, not_false_eq_true, List.nil_append, List.append_nil, List.length_nil, and_true, true_and, or_true, true_or, or_false, false_or, and_false, false_and, iff_self, if_true, if_false, hfd, hwd, n8_nat, hv, field_Read_spec, hr, hmm, hh, ref01_Same_spec, h0]
          exact some_D rfl
        · simp (disch := first | assumption | omega | decide) only [↓g02, ↓g03, ↓g04, ↓g05, ↓g06, g01, g02, g03, g04, g05, g06, g07, g08, g09, g10, g11, g12, g13, g14, g15, g16, g17, g18, g19, g20, g21, g22, g23, g24, g25, g26, g27, g28, g29, g30, g31, g32, g33, g34, g35, g36, g37, g38, g39, g40, g41, g42, g43, g44, g45, g46, g47, g48, g49, g50, g51, g52, g53, g54, g55, g56, g57, g58, g60, g61, eq_self, not_true_eq_false, not_false_eq_true, List.nil_append, List.append_nil, List.length_nil, and_true, true_and, or_true, true_or, or_false, false_or, and_false, false_and, iff_self, if_true, if_false, hfd, hwd, n8_nat, hv, field_Read_spec, hr, hmm, h0]
          exact some_D rfl
theorem law05_FieldBack_true (x : denL [.pair (.int .i64) (.pair (.sl (.int .u8)) (.pair (.sl (.int .u8)) (.pair (.int .u8) .unit)))]) (_ : okL [.pair (.int .i64) (.pair (.sl (.int .u8)) (.pair (.sl (.int .u8)) (.pair (.int .u8) .unit)))] x) : law05_FieldBack x = some (true, ()) := law05_FieldBack' x.1.1 x.1.2.1 x.1.2.2.1 x.1.2.2.2.1
end Yp
