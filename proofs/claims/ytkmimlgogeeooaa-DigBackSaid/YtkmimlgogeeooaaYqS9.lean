/- A part of the proof of DigBack. -/
import Derived.Test.YtkmimlgogeeooaaYqS8
set_option linter.unusedVariables false
set_option linter.unusedSimpArgs false
namespace Yp
open Go
/-- the halves of bytes -/
def nbs (b : List UInt8) : List UInt8 := b.flatMap fun c => [u8 (idiv (n8 c) (n8 (u8 16))), u8 (imod (n8 c) (n8 (u8 16)))]
theorem nbs_app (a b : List UInt8) : nbs (a ++ b) = nbs a ++ nbs b := by simp [nbs]
theorem nib_half : ∀ c : UInt8, ([u8 (idiv (n8 c) (n8 (u8 16))), u8 (imod (n8 c) (n8 (u8 16)))].map fun x => nib x.toNat) = [nib (c.toNat / 16), nib (c.toNat % 16)] ∧ (u8 (idiv (n8 c) (n8 (u8 16)))).toNat < 16 ∧ (u8 (imod (n8 c) (n8 (u8 16)))).toNat < 16 := all8 (by decide +kernel)
theorem nbs_hex (b : List UInt8) : hexOf b = (nbs b).map fun x => nib x.toNat := by
  induction b with
  | nil => rfl
  | cons c r ih =>
    have e1 : hexOf (c :: r) = [nib (c.toNat / 16), nib (c.toNat % 16)] ++ hexOf r := rfl
    have e2 : nbs (c :: r) = [u8 (idiv (n8 c) (n8 (u8 16))), u8 (imod (n8 c) (n8 (u8 16)))] ++ nbs r := rfl
    rw [e1, e2, List.map_append, (nib_half c).1, ih]
theorem nbs_lt (b : List UInt8) : ∀ x ∈ nbs b, x.toNat < 16 := by
  intro x hx
  unfold nbs at hx
  rw [List.mem_flatMap] at hx
  obtain ⟨c, _, hx⟩ := hx
  have := nib_half c
  simp only [List.mem_cons, List.not_mem_nil, or_false] at hx
  rcases hx with rfl | rfl
  · exact this.2.1
  · exact this.2.2
theorem nbs_length (b : List UInt8) : (nbs b).length = 2 * b.length := by rw [← hexOf_length, nbs_hex, List.length_map]
theorem nib_fig : ∀ d : Nat, d < 16 → (isFig (nib d) ↔ d ≤ 9) := by decide +kernel
theorem nib_add : ∀ d : Nat, d < 10 → u8 (iadd (n8 (UInt8.ofNat d)) (n8 (u8 48))) = nib d := by decide +kernel
theorem nib_zero : ∀ d : Nat, d < 16 → (nib d = 48 ↔ d = 0) := by decide +kernel
/-- the halves, those from o on, up to o + i, turned into signs -/
def half' (l : List UInt8) (o i : Nat) : List UInt8 := (List.range l.length).map fun j => if o ≤ j ∧ j < o + i then nib (nth l j (u8 0)).toNat else nth l j (u8 0)
theorem half'_length (l : List UInt8) (o i : Nat) : (half' l o i).length = l.length := by simp [half']
theorem half'_zero (l : List UInt8) (o : Nat) : half' l o 0 = l := by
  apply List.ext_getElem
  · simp [half']
  · intro j h1 h2
    simp only [half', List.getElem_map, List.getElem_range]
    rw [if_neg (by omega), nth_get h2]
theorem half'_all {l : List UInt8} {o : Nat} : (half' l o (l.length - o)).drop o = (l.map fun x => nib x.toNat).drop o := by
  apply List.ext_getElem
  · simp [half']
  · intro j h1 h2
    simp only [List.length_drop, half'_length] at h1
    simp only [half', List.getElem_drop, List.getElem_map, List.getElem_range]
    rw [if_pos (by omega), nth_get (by omega)]
theorem half'_step {l : List UInt8} {o i : Nat} (h : o + i < l.length) (hd : (nth l (o + i) (u8 0)).toNat ≤ 9) :
    upd (half' l o i) (o + i) (u8 (iadd (n8 (nth (half' l o i) (o + i) (u8 0))) (n8 (u8 48)))) = half' l o (i + 1) ∧ nth (half' l o i) (o + i) (u8 0) = nth l (o + i) (u8 0) := by
  have e : nth (half' l o i) (o + i) (u8 0) = nth l (o + i) (u8 0) := by
    rw [nth_get (by rw [half'_length]; exact h)]
    simp only [half', List.getElem_map, List.getElem_range]
    rw [if_neg (by omega)]
  refine ⟨?_, e⟩
  rw [e]
  have hv := nib_add (nth l (o + i) (u8 0)).toNat (by omega)
  rw [ofNat_toNat] at hv
  rw [hv]
  unfold upd
  apply List.ext_getElem
  · simp [half']
  · intro j h1 h2
    rw [List.getElem_set]
    simp only [half', List.getElem_map, List.getElem_range]
    split
    · rename_i hj; subst hj; rw [if_pos (by omega)]
    · by_cases hc : o ≤ j ∧ j < o + i
      · rw [if_pos hc, if_pos (by omega)]
      · rw [if_neg hc, if_neg (by omega)]
theorem half'_get {l : List UInt8} {o i : Nat} (h : o + i < l.length) : nth (half' l o i) (o + i) (u8 0) = nth l (o + i) (u8 0) := by
  rw [nth_get (by rw [half'_length]; exact h)]
  simp only [half', List.getElem_map, List.getElem_range]
  rw [if_neg (by omega)]
/-- all halves from o on are figures -/
theorem figs_half {l : List UInt8} {o : Nat} (hlt : ∀ x ∈ l, x.toNat < 16) : figs ((l.map fun x => nib x.toNat).drop o) ↔ ∀ i, i < l.length - o → (nth l (o + i) (u8 0)).toNat ≤ 9 := by
  unfold figs
  constructor
  · intro h i hi
    have h1 := h i (by simp; omega)
    simp only [List.getElem_drop, List.getElem_map] at h1
    rw [nth_get (by omega)]
    exact (nib_fig _ (hlt _ (List.getElem_mem _))).1 h1
  · intro h i hi
    simp only [List.length_drop, List.length_map] at hi
    simp only [List.getElem_drop, List.getElem_map]
    have h1 := h i hi
    rw [nth_get (by omega)] at h1
    exact (nib_fig _ (hlt _ (List.getElem_mem _))).2 h1
theorem m20_spec (b : List UInt8) (at' n : Int) (hl : b.length ≤ 1000000) : m20 (b, at', n, ()) = some (takeBcd b at' n) := by
  unfold m20 takeBcd
  by_cases h1 : n < 0
  · rw [if_pos (.inl h1)]; exact (ob_of (sel_of_t (lt_t h1))).trans rfl
  by_cases h2 : 999 < n
  · rw [if_pos (.inr (.inl h2))]; exact (ob_of (a := (true, ())) ((sel_of_f (lt_f h1)).trans (sel_of_t (lt_t h2)))).trans rfl
  by_cases h3 : at' < 0
  · rw [if_pos (.inr (.inr (.inl h3)))]; exact (ob_of (a := (true, ())) ((sel_of_f (lt_f h1)).trans ((sel_of_f (lt_f h2)).trans (sel_of_t (lt_t h3))))).trans rfl
  by_cases h4 : (b.length : Int) < at'
  · rw [if_pos (.inr (.inr (.inr h4)))]; exact (ob_of (a := (true, ())) ((sel_of_f (lt_f h1)).trans ((sel_of_f (lt_f h2)).trans ((sel_of_f (lt_f h3)).trans (congrArg (fun b => some (b, ())) (lt_t h4)))))).trans rfl
  rw [if_neg (by omega)]
  refine (ob_of (a := (false, ())) ((sel_of_f (lt_f h1)).trans ((sel_of_f (lt_f h2)).trans ((sel_of_f (lt_f h3)).trans (congrArg (fun b => some (b, ())) (lt_f h4)))))).trans ?_
  refine (sel_of_f rfl).trans ?_
  obtain ⟨A, rfl⟩ : ∃ n : Nat, at' = n := ⟨at'.toNat, by omega⟩
  obtain ⟨N, rfl⟩ : ∃ k : Nat, n = k := ⟨n.toNat, by omega⟩
  have c0 : i64 (isub (len b) (A : Int)) = (b.length : Int) - A := by
    simp only [isub, len]; exact i64_of (by omega) (by omega)
  have c1 : i64 (idiv (i64 (iadd (N : Int) 1)) 2) = (((N + 1) / 2 : Nat) : Int) := by
    rw [show i64 (iadd (N : Int) 1) = ((N + 1 : Nat) : Int) from i64_add (b := 1) (by omega)]
    exact i64_div (b := 2) (by omega)
  have c2 : ((N : Int) + 1) / 2 = (((N + 1) / 2 : Nat) : Int) := by omega
  simp only [c0, c1, c2, Int.toNat_natCast]
  generalize hM : (N + 1) / 2 = M
  by_cases h5 : (b.length : Int) - A < M
  · rw [if_pos h5]; exact sel_of_t (lt_t h5)
  rw [if_neg h5]
  refine (sel_of_f (lt_f h5)).trans ?_
  have hAM : A + M ≤ b.length := by omega
  have c3 : i64 (iadd (A : Int) (M : Int)) = ((A + M : Nat) : Int) := i64_add (by omega)
  simp only [c3]
  have htl := tk_length hAM
  have hget : ∀ i (h : i < (tk b A M).length), (tk b A M)[i] = nth b (A + i) (u8 0) := fun i h => by
    rw [tk_get h (by omega), nth_get (by omega)]
  generalize tk b A M = t at *
  -- the first loop
  have first : loop (fun (x_1 : List UInt8 × Int × Unit) => sel (lt x_1.2.1 ((A + M : Nat) : Int)) (ck (inB x_1.2.1 (len b)) (ck (inB x_1.2.1 (len b)) (ck (rm 1 (nadd (ln x_1.1) (ln [u8 (idiv (n8 (nth b (nat x_1.2.1) (u8 0))) (n8 (u8 16))), u8 (imod (n8 (nth b (nat x_1.2.1) (u8 0))) (n8 (u8 16)))])))
      (some (LS.nx (app x_1.1 [u8 (idiv (n8 (nth b (nat x_1.2.1) (u8 0))) (n8 (u8 16))), u8 (imod (n8 (nth b (nat x_1.2.1) (u8 0))) (n8 (u8 16)))], i64 (iadd x_1.2.1 1), ())))))) (some (LS.ex 0 (x_1.1, x_1.2.1, ()))))
      (none' UInt8, (A : Int), ()) = some (LS.ex 0 (nbs t, ((A + M : Nat) : Int), ()) : LS (List UInt8 × Int × Unit) (List UInt8 × Int × Int × Unit)) := by
    generalize hf : (fun (x : List UInt8 × Int × Unit) => _) = f
    have key := loop_scan (f := f) (fun i => (nbs (t.take i), ((A + i : Nat) : Int), ())) M (fun _ => True) ([], 0, 0, ()) 0 ?_ ?_ ?_
    · have e0 : (nbs (t.take 0), ((A + 0 : Nat) : Int), ()) = (none' UInt8, (A : Int), ()) := by simp [nbs, none']
      rw [e0] at key
      rcases key with ⟨_, hr⟩ | ⟨⟨i, hi, hn⟩, hr⟩
      · rw [hr, List.take_of_length_le (by omega)]
      · exact absurd trivial hn
    · intro i hi _
      subst hf
      have hit : i < t.length := by omega
      have hin : A + i < b.length := by omega
      refine (sel_of_t (lt_t (show ((A + i : Nat) : Int) < ((A + M : Nat) : Int) by omega))).trans ?_
      refine (ck_of (inB_nat hin)).trans ?_
      refine (ck_of (inB_nat hin)).trans ?_
      have c : i64 (iadd ((A + i : Nat) : Int) 1) = ((A + (i + 1) : Nat) : Int) := i64_add (b := 1) (by omega)
      simp only [nat_nat, c, ← hget i hit]
      refine (ck_of (rm_t ?_)).trans ?_
      · simp only [nadd, ln, nbs_length, List.length_take, List.length_cons, List.length_nil]; omega
      rw [List.take_succ_eq_append_getElem hit, nbs_app]; rfl
    · intro i _ _ h; exact absurd trivial h
    · intro _; subst hf
      exact sel_of_f (lt_f (show ¬ ((A + M : Nat) : Int) < ((A + M : Nat) : Int) by omega))
  refine (lc_eq first).trans ?_
  have hnl := nbs_length t
  rw [htl] at hnl
  have hlt := nbs_lt t
  simp only [lc]
  refine (ck_of rfl).trans ?_
  rw [nbs_hex]
  generalize nbs t = l at *
  have k2 : imod (N : Int) 2 = ((N % 2 : Nat) : Int) := imod_nat (b := 2)
  simp only [k2]
  have h9 : n8 (u8 9) = ((9 : Nat) : Int) := by decide
  have n8n : ∀ c : UInt8, n8 c = ((c.toNat : Nat) : Int) := fun _ => rfl
  by_cases hodd : N % 2 = 1
  · have hm : (N : Int) % 2 = 1 := by omega
    refine (sel_of_t (beq_t (by omega))).trans ?_
    have h0 : 0 < l.length := by omega
    refine (ck_of (inB_nat (a := 0) h0)).trans ?_
    have e0 : beq (n8 (nth l (nat 0) (u8 0))) (n8 (u8 0)) = decide (nth l 0 (u8 0) = 0) := by
      show ((((nth l 0 (u8 0)).toNat : Nat) : Int) == ((0 : Nat) : Int)) = _
      rw [Bool.eq_iff_iff]
      simp only [beq_iff_eq, decide_eq_true_eq]
      constructor
      · intro hh; apply UInt8.toNat_inj.1; exact Int.ofNat.inj hh
      · intro hh; rw [hh]; rfl
    have hx16 : (nth l 0 (u8 0)).toNat < 16 := by rw [nth_get h0]; exact hlt _ (List.getElem_mem _)
    have e1 : nth (l.map fun x => nib x.toNat) 0 (u8 0) = nib (nth l 0 (u8 0)).toNat := by
      rw [nth_get (by simpa using h0), nth_get h0]; simp
    have e2 : (nth (l.map fun x => nib x.toNat) 0 (u8 0) = 48) ↔ nth l 0 (u8 0) = 0 := by
      rw [e1, nib_zero _ hx16]
      constructor
      · intro hh; apply UInt8.toNat_inj.1; exact hh
      · intro hh; rw [hh]; rfl
    rw [e0]
    by_cases hz : nth l 0 (u8 0) = 0
    rotate_left
    · rw [if_pos ⟨hm, fun h => hz (e2.1 h)⟩]
      exact sel_of_t (by rw [decide_eq_false hz]; rfl)
    rw [if_neg (fun hc => hc.2 (e2.2 hz))]
    refine (sel_of_f (by rw [decide_eq_true hz]; rfl)).trans ?_
    refine (ck_of (inC_t (by omega) (by simp only [len]; omega) (by simp only [len]; omega))).trans ?_
    have c4 : nsub (nat (len l)) (nat 1) = l.length - 1 := by simp [nsub, nat, len]
    have c5 : nat 1 = 1 := by decide
    simp only [c4, c5, hodd]
    generalize hf : (fun (x : List UInt8 × Int × Int × Int × List UInt8 × Unit) => _) = f
    have key := loop_scan (f := f) (fun i => (none' UInt8, (0 : Int), (0 : Int), (i : Int), half' l 1 i, ())) (l.length - 1) (fun i => (nth l (1 + i) (u8 0)).toNat ≤ 9) (none' UInt8, 0, 2, ()) 2 ?_ ?_ ?_
    · have e0 : (none' UInt8, (0 : Int), (0 : Int), ((0 : Nat) : Int), half' l 1 0, ()) = (none' UInt8, (0 : Int), (0 : Int), (0 : Int), l, ()) := by rw [half'_zero]; rfl
      rw [e0] at key
      rcases key with ⟨hall, hr⟩ | ⟨⟨i, hi, hn⟩, hr⟩
      · rw [hr, if_pos ((figs_half hlt).2 hall), ← half'_all]
        show some (cut (half' l 1 (l.length - 1)) 1 (l.length - 1), ((A + M : Nat) : Int), (0 : Int), ()) = _
        have : cut (half' l 1 (l.length - 1)) 1 (l.length - 1) = (half' l 1 (l.length - 1)).drop 1 := by
          unfold cut
          rw [List.take_of_length_le (by simp [half'_length])]
        rw [this]; simp
      · rw [hr, if_neg (fun hc => hn ((figs_half hlt).1 hc i hi))]; rfl
    · intro i hi hp
      subst hf
      have hi1 : 1 + i < l.length := by omega
      have hp' := hp i (Nat.le_refl _)
      obtain ⟨s1, s2⟩ := half'_step hi1 hp'
      refine (sel_of_t (lt_t (show (i : Int) < ofn (l.length - 1) by simp only [ofn]; omega))).trans ?_
      have hin : inB (i : Int) (ofn (l.length - 1)) = true := inB_nat hi
      refine (ck_of hin).trans ?_
      have c6 : nadd 1 (nat (i : Int)) = 1 + i := by simp [nadd, nat]
      have c : i64 (iadd (i : Int) 1) = ((i + 1 : Nat) : Int) := i64_add (b := 1) (by omega)
      simp only [c6, c]
      refine (sel_of_f (by rw [h9, s2, n8n]; exact lt_f (by omega))).trans ?_
      refine (ck_of hin).trans ?_
      refine (ck_of hin).trans ?_
      rw [s1]
    · intro i hi _ hp
      subst hf
      have hi1 : 1 + i < l.length := by omega
      refine (sel_of_t (lt_t (show (i : Int) < ofn (l.length - 1) by simp only [ofn]; omega))).trans ?_
      have hin : inB (i : Int) (ofn (l.length - 1)) = true := inB_nat hi
      refine (ck_of hin).trans ?_
      have c6 : nadd 1 (nat (i : Int)) = 1 + i := by simp [nadd, nat]
      simp only [c6]
      exact sel_of_t (by rw [h9, half'_get hi1, n8n]; exact lt_t (by omega))
    · intro _; subst hf
      exact sel_of_f (lt_f (show ¬ ((l.length - 1 : Nat) : Int) < ofn (l.length - 1) by simp only [ofn]; omega))
  · have hev : N % 2 = 0 := by omega
    rw [if_neg (fun hc => by omega)]
    refine (sel_of_f (beq_f (by omega))).trans ?_
    simp only [hev]
    generalize hf : (fun (x : List UInt8 × Int × Int × Int × List UInt8 × Unit) => _) = f
    have key := loop_scan (f := f) (fun i => (none' UInt8, (0 : Int), (0 : Int), (i : Int), half' l 0 i, ())) (l.length - 0) (fun i => (nth l (0 + i) (u8 0)).toNat ≤ 9) (none' UInt8, 0, 2, ()) 2 ?_ ?_ ?_
    · have e0 : (none' UInt8, (0 : Int), (0 : Int), ((0 : Nat) : Int), half' l 0 0, ()) = (none' UInt8, (0 : Int), (0 : Int), (0 : Int), l, ()) := by rw [half'_zero]; rfl
      rw [e0] at key
      rcases key with ⟨hall, hr⟩ | ⟨⟨i, hi, hn⟩, hr⟩
      · rw [hr, if_pos ((figs_half hlt).2 hall), ← half'_all]
        show some (half' l 0 (l.length - 0), ((A + M : Nat) : Int), (0 : Int), ()) = _
        rw [List.drop_zero]; simp
      · rw [hr, if_neg (fun hc => hn ((figs_half hlt).1 hc i hi))]; rfl
    · intro i hi hp
      subst hf
      have hi1 : 0 + i < l.length := by omega
      have hp' := hp i (Nat.le_refl _)
      obtain ⟨s1, s2⟩ := half'_step hi1 hp'
      rw [Nat.zero_add] at s1 s2 hp'
      have hin : inB (i : Int) (len (half' l 0 i)) = true := inB_nat (by rw [half'_length]; omega)
      refine (sel_of_t (lt_t (show (i : Int) < len (half' l 0 i) by simp only [len, half'_length]; omega))).trans ?_
      refine (ck_of hin).trans ?_
      have c : i64 (iadd (i : Int) 1) = ((i + 1 : Nat) : Int) := i64_add (b := 1) (by omega)
      simp only [nat_nat, c]
      refine (sel_of_f (by rw [h9, s2, n8n]; exact lt_f (by omega))).trans ?_
      refine (ck_of hin).trans ?_
      refine (ck_of hin).trans ?_
      rw [s1]
    · intro i hi _ hp
      subst hf
      have hi1 : 0 + i < l.length := by omega
      have hin : inB (i : Int) (len (half' l 0 i)) = true := inB_nat (by rw [half'_length]; omega)
      refine (sel_of_t (lt_t (show (i : Int) < len (half' l 0 i) by simp only [len, half'_length]; omega))).trans ?_
      refine (ck_of hin).trans ?_
      simp only [nat_nat]
      have hg := half'_get hi1
      rw [Nat.zero_add] at hg hp
      exact sel_of_t (by rw [h9, hg, n8n]; exact lt_t (by omega))
    · intro _; subst hf
      exact sel_of_f (lt_f (show ¬ ((l.length - 0 : Nat) : Int) < len (half' l 0 (l.length - 0)) by simp only [len, half'_length]; omega))
end Yp
