/- A part of the proof of DigBack. -/
import Derived.Test.YtkmimlgogeeooaaYqS4
set_option linter.unusedVariables false
set_option linter.unusedSimpArgs false
namespace Yp
open Go
theorem dat_app {s t : List UInt8} {i : Nat} : dat (s ++ t) i = if i < s.length then dat s i else dat t (i - s.length) := by
  unfold dat nth
  rw [List.getD_eq_getElem?_getD, List.getElem?_append]
  split <;> rw [List.getD_eq_getElem?_getD]
theorem bcd_app {s t : List UInt8} (h : s.length % 2 = 0) : bcd (s ++ t) = bcd s ++ bcd t := by
  apply List.ext_getElem
  · simp [bcd]; omega
  · intro i h1 h2
    simp only [bcd, List.getElem_map, List.getElem_range, List.getElem_append, List.length_map, List.length_range]
    rw [dat_app, dat_app]
    split
    · rw [if_pos (by omega), dif_pos (by omega)]
    · rw [if_neg (by omega), dif_neg (by omega), show 2 * (i - s.length / 2) = 2 * i - s.length by omega, show 2 * i - s.length + 1 = 2 * i + 1 - s.length by omega]
theorem figs_app {s t : List UInt8} (h1 : figs s) (h2 : figs t) : figs (s ++ t) := by
  intro i hi
  rw [List.getElem_append]
  split
  · exact h1 _ _
  · exact h2 _ _
theorem figs_ps {v : Nat} : ∀ {n : Nat}, figs (ps 10 dch v n)
  | n => by
    intro i hi
    rw [ps_get]
    have h10 : v / 10 ^ (n - 1 - i) % 10 < 10 := Nat.mod_lt _ (by omega)
    generalize v / 10 ^ (n - 1 - i) % 10 = d at *
    unfold isFig dch
    simp only [UInt8.toNat_ofNat']; omega
/-- 2(1 + w % 8) -/
theorem even_w (w : UInt8) : i64 (imul 2 (i64 (iadd 1 (imod (i64 (n8 w)) 8)))) = ((2 * (1 + w.toNat % 8) : Nat) : Int) := by
  have h := n8_lt w
  have h8 : w.toNat % 8 < 8 := Nat.mod_lt _ (by omega)
  have e1 : i64 (n8 w) = ((w.toNat : Nat) : Int) := i64_nat (by omega)
  have e2 : imod ((w.toNat : Nat) : Int) 8 = ((w.toNat % 8 : Nat) : Int) := imod_nat (b := 8)
  have e3 : i64 (iadd 1 ((w.toNat % 8 : Nat) : Int)) = ((1 + w.toNat % 8 : Nat) : Int) := i64_add (a := 1) (by omega)
  rw [e1, e2, e3]
  exact i64_mul (a := 2) (by omega)
theorem pad_even {s : List UInt8} (h : s.length % 2 = 0) : pad s = s := by unfold pad; rw [if_neg (by omega)]
theorem law10' (v u : Int) (w : UInt8) (hv : v ≤ 9223372036854775807) (hu : u ≤ 9223372036854775807) : m10 (v, u, w, ()) = some (true, ()) := by
  unfold m10
  refine (ob_of shown_true).trans ?_
  simp only [even_w]
  generalize hn : 2 * (1 + w.toNat % 8) = n
  have h8 : w.toNat % 8 < 8 := Nat.mod_lt _ (by omega)
  refine (ob_of (m12_spec v n hv)).trans ?_
  refine (ob_of (m12_spec u n hu)).trans ?_
  by_cases c1 : 1 ≤ (n : Int) ∧ (n : Int) ≤ 18 ∧ 0 ≤ v ∧ v < 10 ^ (n : Int).toNat
  rotate_left
  · rw [if_neg c1]; rfl
  by_cases c2 : 1 ≤ (n : Int) ∧ (n : Int) ≤ 18 ∧ 0 ≤ u ∧ u < 10 ^ (n : Int).toNat
  rotate_left
  · rw [if_pos c1, if_neg c2]; rfl
  rw [if_pos c1, if_pos c2]
  refine (ob_of (a := (false, ())) rfl).trans ?_
  refine (sel_of_f rfl).trans ?_
  simp only [Int.toNat_natCast]
  have l1 := ps_length 10 dch v.toNat n
  have l2 := ps_length 10 dch u.toNat n
  have f1 : figs (ps 10 dch v.toNat n) := figs_ps
  have f2 : figs (ps 10 dch u.toNat n) := figs_ps
  generalize ps 10 dch v.toNat n = s at *
  generalize ps 10 dch u.toNat n = t at *
  have f7 : figs [55] := by
    intro i hi
    have : i = 0 := by simpa using hi
    subst this; exact (by decide : isFig 55)
  refine (ob_of ((m16_spec s (by omega)).trans (by rw [if_pos f1, pad_even (by omega)]))).trans ?_
  refine (ob_of ((m16_spec t (by omega)).trans (by rw [if_pos f2, pad_even (by omega)]))).trans ?_
  refine (ck_of (le_t (by simp only [iadd, len]; omega))).trans ?_
  refine (ob_of ((m16_spec (s ++ t) (by simp; omega)).trans (by rw [if_pos (figs_app f1 f2), pad_even (by simp; omega), bcd_app (by omega)]))).trans ?_
  refine (ck_of (le_t (by simp only [iadd, len, List.length_cons, List.length_nil]; omega))).trans ?_
  have e7 : bcd (pad ([55] ++ s)) = [u8 7] ++ bcd s := by
    have : pad ([55] ++ s) = [48, 55] ++ s := by unfold pad; rw [if_pos (by simp; omega)]; rfl
    rw [this, bcd_app (by decide)]; congr 1
  refine (ob_of ((m16_spec ([55] ++ s) (by simp; omega)).trans (by rw [if_pos (figs_app f7 f1), e7]))).trans ?_
  have lb : (bcd s).length ≤ 10 := by simp [bcd]; omega
  have lt : (bcd t).length ≤ 10 := by simp [bcd]; omega
  refine (sel_of_t rfl).trans ?_
  refine (sel_of_t rfl).trans ?_
  refine (sel_of_t rfl).trans ?_
  refine (sel_of_t rfl).trans ?_
  refine (sel_of_t rfl).trans ?_
  refine (ck_of (rm_t (by simp only [nadd, ln, none', List.length_nil]; omega))).trans ?_
  refine (ck_of (rm_t (by simp only [nadd, ln, none', app, List.length_nil, List.nil_append]; omega))).trans ?_
  refine (ob_of (a := (true, ())) ?_).trans ?_
  · unfold m18; simp only [app, none', List.nil_append]; rw [seq_t rfl]
  refine (sel_of_t rfl).trans ?_
  refine (ck_of (rm_t (by simp only [nadd, ln, List.length_cons, List.length_nil]; omega))).trans ?_
  refine (ob_of (a := (true, ())) ?_).trans rfl
  unfold m18; simp only [app]; rw [seq_t rfl]
theorem law10 (x : denL [.int .i64, .int .i64, .int .u8]) (h : okL [.int .i64, .int .i64, .int .u8] x) : m10 x = some (true, ()) := law10' x.1 x.2.1 x.2.2.1 h.1.2 h.2.1.2
end Yp
