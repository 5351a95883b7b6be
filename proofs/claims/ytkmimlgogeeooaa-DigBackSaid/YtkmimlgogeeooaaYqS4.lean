/- A part of the proof of DigBack. -/
import Derived.Test.YtkmimlgogeeooaaYqS3
set_option linter.unusedVariables false
set_option linter.unusedSimpArgs false
namespace Yp
open Go
def dv (c : UInt8) : Nat := c.toNat - 48
def pad (s : List UInt8) : List UInt8 := if s.length % 2 = 1 then 48 :: s else s
def dat (p : List UInt8) (t : Nat) : Nat := dv (nth p t (u8 0))
def bcdAt (p : List UInt8) (a j : Nat) : UInt8 := if 2 * j + 1 < a then UInt8.ofNat (16 * dat p (2 * j) + dat p (2 * j + 1)) else if 2 * j < a then UInt8.ofNat (dat p (2 * j)) else u8 0
def bcd (p : List UInt8) : List UInt8 := (List.range (p.length / 2)).map fun j => UInt8.ofNat (16 * dat p (2 * j) + dat p (2 * j + 1))
theorem pad_length (s : List UInt8) : (pad s).length = 2 * ((s.length + 1) / 2) := by
  unfold pad
  split
  · simp only [List.length_cons]; omega
  · omega
theorem pad_get {s : List UInt8} {i : Nat} (h : i < s.length) : nth (pad s) (s.length % 2 + i) (u8 0) = s[i] := by
  unfold pad nth
  split
  · rename_i h1; rw [h1, Nat.add_comm]; simp [h]
  · rename_i h1
    have : s.length % 2 = 0 := by omega
    rw [this, Nat.zero_add]; simp [h]
theorem dig_split {c : UInt8} (h : isFig c) : c = UInt8.ofNat (48 + dv c) ∧ dv c < 10 := by
  unfold isFig at h
  refine ⟨?_, by unfold dv; omega⟩
  apply UInt8.toNat_inj.1
  simp only [UInt8.toNat_ofNat', dv]; omega
theorem shl_or : ∀ x : Nat, x < 10 → ∀ d : Nat, d < 10 → u8 (orI .u8 (n8 (u8 (shlI .u8 (n8 (UInt8.ofNat x)) (n64 (u64 4))))) (n8 (u8 (d : Int)))) = UInt8.ofNat (16 * x + d) := by decide +kernel
theorem or0 : ∀ d : Nat, d < 10 → u8 (orI .u8 (n8 (u8 (shlI .u8 (n8 (u8 0)) (n64 (u64 4))))) (n8 (u8 (d : Int)))) = UInt8.ofNat d := by decide +kernel
theorem pad_fig {s : List UInt8} {a : Nat} (hf : ∀ j, j < a - s.length % 2 → ∀ h : j < s.length, isFig s[j]) (ha : a ≤ (pad s).length) : ∀ t, t < a → dat (pad s) t < 10 := by
  intro t ht
  have hl := pad_length s
  unfold dat
  by_cases h : t < s.length % 2
  · have h1 : s.length % 2 = 1 := by omega
    have h0 : t = 0 := by omega
    subst h0
    unfold pad; rw [if_pos h1]
    show dv 48 < 10
    decide
  · have e : t = s.length % 2 + (t - s.length % 2) := by omega
    have hi : t - s.length % 2 < s.length := by omega
    rw [e, pad_get hi]
    exact (dig_split (hf _ (by omega) hi)).2
theorem m16_spec (s : List UInt8) (hl : s.length ≤ 1000000) : m16 (s, ()) = some (if figs s then (bcd (pad s), 0, ()) else ([], 2, ())) := by
  unfold m16
  have k1 : i64 (idiv (i64 (iadd (len s) 1)) 2) = (((s.length + 1) / 2 : Nat) : Int) := by
    rw [len_nat, show i64 (iadd ((s.length : Nat) : Int) 1) = ((s.length + 1 : Nat) : Int) from i64_add (b := 1) (by omega)]
    exact i64_div (b := 2) (by omega)
  have k2 : imod (len s) 2 = ((s.length % 2 : Nat) : Int) := imod_nat (b := 2)
  simp only [k1, k2, nat_nat]
  generalize hk : (s.length + 1) / 2 = k
  have hpl := pad_length s
  rw [hk] at hpl
  refine (ck_of ?_).trans ?_
  · simp only [band, Bool.and_eq_true]
    exact ⟨inC_t (by omega) (by omega) (by omega), rm_t (by omega)⟩
  generalize hf : (fun (x : Int × Int × Nat × List UInt8 × Unit) => _) = f
  have key := loop_scan (f := f) (fun i => (0, ((s.length % 2 + i : Nat) : Int), i, (List.range k).map (bcdAt (pad s) (s.length % 2 + i)), ())) s.length (fun i => ∀ h : i < s.length, isFig s[i]) ([], 2, ()) 0 ?_ ?_ ?_
  · have e0 : ((0 : Int), ((s.length % 2 + 0 : Nat) : Int), 0, (List.range k).map (bcdAt (pad s) (s.length % 2 + 0)), ()) = ((0 : Int), ((s.length % 2 : Nat) : Int), 0, rep k (u8 0), ()) := by
      have : (List.range k).map (bcdAt (pad s) (s.length % 2 + 0)) = rep k (u8 0) := by
        apply List.ext_getElem
        · simp [rep]
        · intro j h1 h2
          simp only [List.getElem_map, List.getElem_range, rep, List.getElem_replicate, bcdAt]
          rw [if_neg (by omega)]
          split
          · rename_i h3
            have h4 : s.length % 2 = 1 := by omega
            have h5 : j = 0 := by omega
            subst h5
            unfold pad; rw [if_pos h4]
            show UInt8.ofNat (dv 48) = u8 0
            decide
          · rfl
      rw [this]; rfl
    rw [e0] at key
    rcases key with ⟨hall, hr⟩ | ⟨⟨i, hi, hn⟩, hr⟩
    · rw [hr, if_pos (figs_iff.2 hall)]
      have : (List.range k).map (bcdAt (pad s) (s.length % 2 + s.length)) = bcd (pad s) := by
        unfold bcd
        rw [hpl, show 2 * k / 2 = k by omega]
        apply List.map_congr_left
        intro j hj
        have := List.mem_range.1 hj
        unfold bcdAt
        rw [if_pos (by omega)]
      rw [this]; rfl
    · rw [hr, if_neg (fun hc => hn (figs_iff.1 hc i hi))]; rfl
  · intro i hi hp
    subst hf
    obtain ⟨e1, e2⟩ := fig_step hi (hp i (Nat.le_refl _) hi)
    refine (sel_of_t (nlt_t hi)).trans ?_
    refine (ob_of e1).trans ?_
    refine (sel_of_f rfl).trans ?_
    have hd := (dig_split (hp i (Nat.le_refl _) hi)).2
    generalize ha : s.length % 2 + i = a
    have hlt10 := pad_fig (s := s) (a := a + 1) (fun j hj => hp j (by omega)) (by omega)
    have hda : dat (pad s) a = s[i].toNat - 48 := by unfold dat; rw [← ha, pad_get hi]; rfl
    have c1 : i64 (idiv ((a : Nat) : Int) 2) = ((a / 2 : Nat) : Int) := i64_div (b := 2) (by omega)
    have c2 : i64 (iadd ((a : Nat) : Int) 1) = ((a + 1 : Nat) : Int) := i64_add (b := 1) (by omega)
    have hq : a / 2 < ((List.range k).map (bcdAt (pad s) a)).length := by simp; omega
    simp only [ha, c1, c2, e2, nat_nat]
    refine (ck_of (inB_nat hq)).trans ?_
    refine (ck_of (inB_nat hq)).trans ?_
    have e3 : s.length % 2 + (i + 1) = a + 1 := by omega
    have hv : u8 (orI .u8 (n8 (u8 (shlI .u8 (n8 (nth ((List.range k).map (bcdAt (pad s) a)) (a / 2) (u8 0))) (n64 (u64 4))))) (n8 (u8 ((s[i].toNat - 48 : Nat) : Int)))) = bcdAt (pad s) (a + 1) (a / 2) := by
      rw [nth_get hq, List.getElem_map, List.getElem_range, ← hda]
      unfold bcdAt
      rw [if_neg (by omega)]
      by_cases hpar : a % 2 = 0
      · rw [if_neg (by omega), if_neg (by omega), if_pos (by omega), or0 _ (hlt10 a (by omega)), show 2 * (a / 2) = a by omega]
      · rw [if_pos (by omega), if_pos (by omega), shl_or _ (hlt10 _ (by omega)) _ (hlt10 a (by omega)), show 2 * (a / 2) + 1 = a by omega]
    simp only [hv, e3]
    have hset : upd ((List.range k).map (bcdAt (pad s) a)) (a / 2) (bcdAt (pad s) (a + 1) (a / 2)) = (List.range k).map (bcdAt (pad s) (a + 1)) := by
      unfold upd
      apply List.ext_getElem
      · simp
      · intro j h1 h2
        rw [List.getElem_set]
        simp only [List.getElem_map, List.getElem_range]
        split
        · rename_i h3; rw [h3]
        · unfold bcdAt
          by_cases h4 : 2 * j + 1 < a
          · rw [if_pos h4, if_pos (by omega)]
          · rw [if_neg h4]
            by_cases h5 : 2 * j < a
            · rw [if_pos h5, if_neg (by omega), if_pos (by omega)]
            · rw [if_neg h5, if_neg (by omega), if_neg (by omega)]
    rw [hset]; rfl
  · intro i hi _ hp
    subst hf
    have : ¬ isFig s[i] := fun h => hp fun _ => h
    obtain ⟨q, e1⟩ := fig_not hi this
    refine (sel_of_t (nlt_t hi)).trans ?_
    refine (ob_of e1).trans ?_
    rfl
  · intro _
    subst hf
    exact sel_of_f (nlt_f (Nat.lt_irrefl _))
theorem ref_pair : ∀ x, x < 10 → ∀ y, y < 10 → u8 (isub (n8 (u8 (iadd (n8 (u8 (imul (n8 (u8 16)) (n8 (u8 (isub (n8 (UInt8.ofNat (48 + x))) (n8 (u8 48)))))))) (n8 (UInt8.ofNat (48 + y)))))) (n8 (u8 48))) = UInt8.ofNat (16 * x + y) := by decide +kernel
theorem m17_spec (s : List UInt8) (hl : s.length ≤ 1000000) : m17 (s, ()) = some (if figs s then (bcd (pad s), 0, ()) else ([], 2, ())) := by
  unfold m17
  refine (ob_of (m31_spec s hl)).trans ?_
  by_cases h3 : figs s
  rotate_left
  · refine (sel_of_t (by simp only [decide_eq_false h3, bnot, Bool.not_false])).trans ?_
    rw [if_neg h3]; rfl
  refine (sel_of_f (by simp only [decide_eq_true h3, bnot, Bool.not_true])).trans ?_
  rw [if_pos h3]
  refine (ob_of (a := (pad s, ())) ?_).trans ?_
  · have k2 : imod (len s) 2 = ((s.length % 2 : Nat) : Int) := imod_nat (b := 2)
    simp only [k2]
    unfold pad
    by_cases h : s.length % 2 = 1
    · rw [if_pos h]
      refine (sel_of_t (beq_t (by omega))).trans ?_
      refine (ck_of (le_t ?_)).trans rfl
      simp only [iadd, len, List.length_cons, List.length_nil]; omega
    · rw [if_neg h]
      refine (sel_of_f (beq_f (by omega)))
  have hpl := pad_length s
  have hfig : ∀ t, (ht : t < (pad s).length) → isFig (pad s)[t] := by
    intro t ht
    by_cases h : s.length % 2 = 1
    · have e : pad s = 48 :: s := by unfold pad; rw [if_pos h]
      simp only [e] at ht ⊢
      cases t with
      | zero => exact (by decide : isFig 48)
      | succ t => exact h3 t (by simpa using ht)
    · have e : pad s = s := by unfold pad; rw [if_neg h]
      simp only [e] at ht ⊢
      exact h3 t ht
  have hpl' : (pad s).length ≤ 1000001 := by omega
  generalize pad s = p at *
  generalize hk : (s.length + 1) / 2 = k at *
  generalize hf : (fun (x : List UInt8 × Int × Unit) => _) = f
  have key := loop_scan (f := f) (fun j => ((bcd p).take j, ((2 * j : Nat) : Int), ())) k (fun _ => True) ([], 0, ()) 0 ?_ ?_ ?_
  · rcases key with ⟨_, hr⟩ | ⟨⟨i, hi, hn⟩, hr⟩
    · have e0 : ((bcd p).take 0, ((2 * 0 : Nat) : Int), ()) = (none' UInt8, (0 : Int), ()) := by simp [none']
      rw [e0] at hr
      rw [hr]
      show some ((bcd p).take k, (0 : Int), ()) = _
      rw [List.take_of_length_le (by simp [bcd]; omega)]
    · exact absurd trivial hn
  · intro i hi _
    subst hf
    refine (sel_of_t (lt_t (show ((2 * i : Nat) : Int) < len p by simp only [len]; omega))).trans ?_
    have h0 : 2 * i < p.length := by omega
    have h1 : 2 * i + 1 < p.length := by omega
    have c1 : i64 (iadd ((2 * i : Nat) : Int) 1) = ((2 * i + 1 : Nat) : Int) := i64_add (b := 1) (by omega)
    have c2 : i64 (iadd ((2 * i : Nat) : Int) 2) = ((2 * (i + 1) : Nat) : Int) := i64_add (b := 2) (by omega)
    simp only [c1, c2, nat_nat]
    refine (ck_of (inB_nat h0)).trans ?_
    refine (ck_of (inB_nat h1)).trans ?_
    refine (ck_of (rm_t ?_)).trans ?_
    · simp only [nadd, ln, List.length_take, List.length_cons, List.length_nil, bcd, List.length_map, List.length_range]; omega
    have hj : i < (bcd p).length := by simp [bcd]; omega
    have hg : (bcd p)[i] = UInt8.ofNat (16 * dat p (2 * i) + dat p (2 * i + 1)) := by simp [bcd]
    rw [List.take_succ_eq_append_getElem hj, hg, nth_get h0, nth_get h1]
    obtain ⟨a1, a2⟩ := dig_split (hfig _ h0)
    obtain ⟨b1, b2⟩ := dig_split (hfig _ h1)
    have hv := ref_pair _ a2 _ b2
    rw [← a1, ← b1] at hv
    have d1 : dat p (2 * i) = dv p[2 * i] := by unfold dat; rw [nth_get h0]
    have d2 : dat p (2 * i + 1) = dv p[2 * i + 1] := by unfold dat; rw [nth_get h1]
    rw [hv, d1, d2]; rfl
  · intro i _ _ h; exact absurd trivial h
  · intro _; subst hf
    exact sel_of_f (lt_f (show ¬ ((2 * k : Nat) : Int) < len p by simp only [len]; omega))
end Yp
