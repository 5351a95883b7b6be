/- A part of the proof of DigBack. -/
import Derived.Test.YtkmimlgogeeooaaYqS7
set_option linter.unusedVariables false
set_option linter.unusedSimpArgs false
namespace Yp
open Go
noncomputable def takeBcd (b : List UInt8) (at' n : Int) : List UInt8 × Int × Int × Unit :=
  if n < 0 ∨ 999 < n ∨ at' < 0 ∨ (b.length : Int) < at' then ([], 0, 1, ()) else if (b.length : Int) - at' < (n + 1) / 2 then ([], 0, 3, ())
  else if n % 2 = 1 ∧ ¬ nth (hexOf (tk b at'.toNat ((n.toNat + 1) / 2))) 0 (u8 0) = 48 then ([], 0, 2, ())
  else if figs ((hexOf (tk b at'.toNat ((n.toNat + 1) / 2))).drop (n.toNat % 2)) then ((hexOf (tk b at'.toNat ((n.toNat + 1) / 2))).drop (n.toNat % 2), at' + ((n.toNat + 1) / 2 : Nat), 0, ()) else ([], 0, 2, ())
/-- the loop that looks whether all signs are figures -/
theorem rune_loop (s : List UInt8) (f : List UInt8 × Int × Int × Nat × Unit → Option (LS (List UInt8 × Int × Int × Nat × Unit) (List UInt8 × Int × Int × Unit)))
    (hf : f = fun x => sel (nlt x.2.2.2.1 (ln s)) (ob (m30 (ofn (decode s x.2.2.2.1).1, ())) fun a_1 => sel (bnot a_1.2.1) (some (LS.rt (none' UInt8, 0, 2, ()))) (some (LS.nx (x.1, x.2.1, x.2.2.1, nadd x.2.2.2.1 (decode s x.2.2.2.1).2, ())))) (some (LS.ex 0 (x.1, x.2.1, x.2.2.1, x.2.2.2.1, ())))) :
    loop f (none' UInt8, 0, 0, 0, ()) = some (if figs s then LS.ex 0 (none' UInt8, 0, 0, s.length, ()) else LS.rt (none' UInt8, 0, 2, ())) := by
  have key := loop_scan (f := f) (fun i => (none' UInt8, (0 : Int), (0 : Int), i, ())) s.length (fun i => ∀ h : i < s.length, isFig s[i]) (none' UInt8, 0, 2, ()) 0 ?_ ?_ ?_
  · rcases key with ⟨hall, hr⟩ | ⟨⟨i, hi, hn⟩, hr⟩
    · rw [hr, if_pos (figs_iff.2 hall)]
    · rw [hr, if_neg (fun hc => hn (figs_iff.1 hc i hi))]
  · intro i hi hp
    subst hf
    obtain ⟨e1, e2⟩ := fig_step hi (hp i (Nat.le_refl _) hi)
    refine (sel_of_t (nlt_t hi)).trans ?_
    refine (ob_of e1).trans ?_
    refine (sel_of_f rfl).trans ?_
    simp only [e2]; rfl
  · intro i hi _ hp
    subst hf
    have : ¬ isFig s[i] := fun h => hp fun _ => h
    obtain ⟨q, e1⟩ := fig_not hi this
    refine (sel_of_t (nlt_t hi)).trans ?_
    refine (ob_of e1).trans ?_
    rfl
  · intro _
    subst hf
    exact sel_of_f (nlt_f (Nat.lt_irrefl _))
theorem m19_spec (b : List UInt8) (at' n : Int) (hl : b.length ≤ 1000000) : m19 (b, at', n, ()) = some (takeBcd b at' n) := by
  unfold m19 takeBcd
  by_cases h1 : n < 0
  · rw [if_pos (.inl h1)]; exact (ob_of (sel_of_t (lt_t h1))).trans rfl
  by_cases h2 : 999 < n
  · rw [if_pos (.inr (.inl h2))]; exact (ob_of (a := (true, ())) ((sel_of_f (lt_f h1)).trans (sel_of_t (lt_t h2)))).trans rfl
  by_cases h3 : at' < 0
  · rw [if_pos (.inr (.inr (.inl h3)))]; exact (ob_of (a := (true, ())) ((sel_of_f (lt_f h1)).trans ((sel_of_f (lt_f h2)).trans (sel_of_t (lt_t h3))))).trans rfl
  by_cases h4 : (b.length : Int) < at'
  · rw [if_pos (.inr (.inr (.inr h4)))]; exact (ob_of (a := (true, ())) ((sel_of_f (lt_f h1)).trans ((sel_of_f (lt_f h2)).trans ((sel_of_f (lt_f h3)).trans (congrArg (fun b => some (b, ())) (lt_t h4)))))).trans rfl
  rw [if_neg (by omega)]
  refine (ob_of (a := (false, ())) ((sel_of_f (lt_f h1)).trans ((sel_of_f (lt_f h2)).trans ((sel_of_f (lt_f h3)).trans (congrArg (fun b => some (b, ())) (lt_f h4)))))).trans ?_
  refine (sel_of_f rfl).trans ?_
  obtain ⟨A, rfl⟩ : ∃ n : Nat, at' = n := ⟨at'.toNat, by omega⟩
  obtain ⟨N, rfl⟩ : ∃ k : Nat, n = k := ⟨n.toNat, by omega⟩
  have c0 : i64 (isub (len b) (A : Int)) = (b.length : Int) - A := by
    simp only [isub, len]; exact i64_of (by omega) (by omega)
  have c1 : i64 (idiv (i64 (iadd (N : Int) 1)) 2) = (((N + 1) / 2 : Nat) : Int) := by
    rw [show i64 (iadd (N : Int) 1) = ((N + 1 : Nat) : Int) from i64_add (b := 1) (by omega)]
    exact i64_div (b := 2) (by omega)
  have c2 : ((N : Int) + 1) / 2 = (((N + 1) / 2 : Nat) : Int) := by omega
  simp only [c0, c1, c2, Int.toNat_natCast]
  generalize hM : (N + 1) / 2 = M
  by_cases h5 : (b.length : Int) - A < M
  · rw [if_pos h5]; exact sel_of_t (lt_t h5)
  rw [if_neg h5]
  refine (sel_of_f (lt_f h5)).trans ?_
  have hAM : A + M ≤ b.length := by omega
  have c3 : i64 (iadd (A : Int) (M : Int)) = ((A + M : Nat) : Int) := i64_add (by omega)
  simp only [c3, sub_tk]
  refine (ck_of (inC_t (by omega) (by omega) (by simp only [len]; omega))).trans ?_
  have htl := tk_length hAM
  refine (ob_of (m27_spec (tk b A M) (by omega))).trans ?_
  have hhl := hexOf_length (tk b A M)
  rw [htl] at hhl
  generalize hexOf (tk b A M) = h at *
  have k2 : imod (N : Int) 2 = ((N % 2 : Nat) : Int) := imod_nat (b := 2)
  simp only [k2]
  by_cases hodd : N % 2 = 1
  · have hm : (N : Int) % 2 = 1 := by omega
    refine (sel_of_t (beq_t (by omega))).trans ?_
    have h0 : 0 < h.length := by omega
    refine (ck_of (inB_nat (a := 0) h0)).trans ?_
    have e0 : beq (n8 (nth h (nat 0) (u8 0))) (n8 (u8 48)) = decide (nth h 0 (u8 0) = 48) := by
      show ((((nth h 0 (u8 0)).toNat : Nat) : Int) == ((48 : Nat) : Int)) = _
      rw [Bool.eq_iff_iff]
      simp only [beq_iff_eq, decide_eq_true_eq]
      constructor
      · intro hh; apply UInt8.toNat_inj.1; exact Int.ofNat.inj hh
      · intro hh; rw [hh]; rfl
    rw [e0]
    by_cases hz : nth h 0 (u8 0) = 48
    rotate_left
    · rw [if_pos ⟨hm, hz⟩]
      exact sel_of_t (by rw [decide_eq_false hz]; rfl)
    rw [if_neg (fun hc => hc.2 hz)]
    refine (sel_of_f (by rw [decide_eq_true hz]; rfl)).trans ?_
    refine (ck_of (inC_t (by omega) (by simp only [len]; omega) (by simp only [len]; omega))).trans ?_
    have es : sub h 1 (len h) = h.drop 1 := by
      unfold sub len
      show (h.drop 1).take (h.length - 1) = _
      rw [List.take_of_length_le (by simp)]
    simp only [es, hodd]
    refine (lc_eq (rune_loop (h.drop 1) _ rfl)).trans ?_
    by_cases hf : figs (h.drop 1)
    · rw [if_pos hf, if_pos hf]
      show some (h.drop 1, ((A + M : Nat) : Int), (0 : Int), ()) = _
      simp
    · rw [if_neg hf, if_neg hf]; rfl
  · have hev : N % 2 = 0 := by omega
    rw [if_neg (fun hc => by omega)]
    refine (sel_of_f (beq_f (by omega))).trans ?_
    simp only [hev, List.drop_zero]
    refine (lc_eq (rune_loop h _ rfl)).trans ?_
    by_cases hf : figs h
    · rw [if_pos hf, if_pos hf]
      show some (h, ((A + M : Nat) : Int), (0 : Int), ()) = _
      simp
    · rw [if_neg hf, if_neg hf]; rfl
end Yp
