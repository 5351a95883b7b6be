/- A part of the proof of the statements of this seat: plain functions, and laws on them. No condition of its own. -/
import Derived.Test.YtbffdlbcpdmncaaQ0
import Derived.RangeFuncBox
import Derived.RangeFuncLeaves
import Derived.Shelf.Abstract
import Derived.WalkKit
import Derived.OwnWalkIn
import Derived.TacticsInMore
import Derived.LoopNIn
import Derived.LoopIn
import Derived.Maps.AppendAt
import Derived.Test.YtbffdlbcpdmncaaProg
import Derived.RangeFuncNested
set_option linter.unusedVariables false
set_option linter.unusedSimpArgs false
namespace Yp
open Go
theorem loopN_mono {σ ρ : Type} {f : σ → Option (LS σ ρ)} : ∀ {n m : Nat} {x : σ} {r : LS σ ρ}, loopN f n x = some r → n ≤ m → loopN f m x = some r
  | 0, _, _, _, h, _ => by simp [loopN] at h
  | n + 1, 0, _, _, _, h => by omega
  | n + 1, m + 1, x, r, h, hm => by
    simp only [loopN] at h ⊢
    split at h
    · exact loopN_mono h (by omega)
    · exact h
theorem loop_of {σ ρ : Type} {f : σ → Option (LS σ ρ)} {x : σ} {r : LS σ ρ} (n : Nat) (h : loopN f n x = some r) : loop f x = some r := by
  have hex : ∃ n, (loopN f n x).isSome := ⟨n, by rw [h]; rfl⟩
  unfold loop
  rw [dif_pos hex]
  have hs := Classical.choose_spec hex
  obtain ⟨r', hr⟩ := Option.isSome_iff_exists.1 hs
  have h1 := loopN_mono hr (Nat.le_max_left _ n)
  have h2 := loopN_mono h (Nat.le_max_right (Classical.choose hex) n)
  rw [hr]; rw [h1] at h2; exact h2
theorem loop_ev {σ ρ : Type} {f : σ → Option (LS σ ρ)} {x : σ} (n : Nat) (h : (loopN f n x).isSome = true) : loop f x = loopN f n x := by
  obtain ⟨r, hr⟩ := Option.isSome_iff_exists.1 h
  rw [hr]; exact loop_of n hr
theorem loop_nx {σ ρ : Type} {f : σ → Option (LS σ ρ)} {x y : σ} (h : f x = some (.nx y)) : loop f x = loop f y := by
  cases hy : loop f y with
  | some r =>
    obtain ⟨n, hn⟩ := loop_some hy
    exact loop_of (n + 1) (by simp [loopN, h, hn])
  | none =>
    cases hx : loop f x with
    | none => rfl
    | some r =>
      obtain ⟨n, hn⟩ := loop_some hx
      cases n with
      | zero => simp [loopN] at hn
      | succ n =>
        simp only [loopN, h] at hn
        rw [loop_of n hn] at hy; cases hy
theorem loop_ex {σ ρ : Type} {f : σ → Option (LS σ ρ)} {x y : σ} {k : Nat} (h : f x = some (.ex k y)) : loop f x = some (.ex k y) := loop_of 1 (by simp [loopN, h])
theorem loop_rt {σ ρ : Type} {f : σ → Option (LS σ ρ)} {x : σ} {r : ρ} (h : f x = some (.rt r)) : loop f x = some (.rt r) := loop_of 1 (by simp [loopN, h])
theorem loop_count {σ ρ : Type} {f : σ → Option (LS σ ρ)} (st : Nat → σ) (n : Nat) (h : ∀ i, i < n → f (st i) = some (.nx (st (i + 1)))) : ∀ i, i ≤ n → loop f (st i) = loop f (st n) := by
  intro i hi
  obtain ⟨d, rfl⟩ : ∃ d, n = i + d := ⟨n - i, by omega⟩
  clear hi
  induction d generalizing i with
  | zero => rfl
  | succ d ih =>
    rw [loop_nx (h i (by omega))]
    have := ih (i + 1) (fun j hj => h j (by omega))
    rw [this]; congr 2; omega
theorem i64_of {n : Int} (h1 : -9223372036854775808 ≤ n) (h2 : n ≤ 9223372036854775807) : i64 n = n := by
  show (if (true && decide (n % 18446744073709551616 ≥ 9223372036854775808)) = true then n % 18446744073709551616 - 18446744073709551616 else n % 18446744073709551616) = n
  simp only [Bool.true_and, decide_eq_true_eq]
  split <;> omega
theorem sel_t {α : Type} (a b : α) : sel true a b = a := rfl
theorem sel_f {α : Type} (a b : α) : sel false a b = b := rfl
theorem ck_t {α : Type} (a : Option α) : ck true a = a := rfl
theorem ob_s {α β : Type} (a : α) (k : α → Option β) : ob (some a) k = k a := rfl
theorem sel_ite {α : Type} (c : Bool) (a b : α) : sel c a b = if c = true then a else b := by cases c <;> rfl
end Yp
namespace Yp
open Go
theorem ob_of {α β : Type} {o : Option α} {a : α} {k : α → Option β} (h : o = some a) : ob o k = k a := by rw [h]; rfl
theorem sel_of_t {α : Type} {c : Bool} {a b : α} (h : c = true) : sel c a b = a := by rw [h]; rfl
theorem sel_of_f {α : Type} {c : Bool} {a b : α} (h : c = false) : sel c a b = b := by rw [h]; rfl
theorem ck_of {α : Type} {c : Bool} {a : Option α} (h : c = true) : ck c a = a := by rw [h]; rfl
theorem lc_of {σ ρ β : Type} {f : σ → Option (LS σ ρ)} {x : σ} {kn : σ → Option β} {ke : Nat → σ → Option β} {kr : ρ → Option β} (n : Nat) (h : (loopN f n x).isSome = true) : lc (loop f x) kn ke kr = lc (loopN f n x) kn ke kr := by rw [loop_ev n h]
theorem lc_eq {σ ρ β : Type} {o o' : Option (LS σ ρ)} {kn : σ → Option β} {ke : Nat → σ → Option β} {kr : ρ → Option β} (h : o = o') : lc o kn ke kr = lc o' kn ke kr := by rw [h]
theorem loop_scan {σ ρ : Type} {f : σ → Option (LS σ ρ)} (st : Nat → σ) (n : Nat) (p : Nat → Prop) (r : ρ) (k : Nat) (hs : ∀ i, i < n → (∀ j, j ≤ i → p j) → f (st i) = some (.nx (st (i + 1)))) (hb : ∀ i, i < n → (∀ j, j < i → p j) → ¬ p i → f (st i) = some (.rt r))
    (he : (∀ i, i < n → p i) → f (st n) = some (.ex k (st n))) : ((∀ i, i < n → p i) ∧ loop f (st 0) = some (.ex k (st n))) ∨ ((∃ i, i < n ∧ ¬ p i) ∧ loop f (st 0) = some (.rt r)) := by
  by_cases h : ∀ i, i < n → p i
  · refine .inl ⟨h, ?_⟩
    rw [loop_count st n (fun i hi => hs i hi fun j hj => h j (by omega)) 0 (Nat.zero_le _)]
    exact loop_ex (he h)
  · refine .inr ?_
    have hex : ∃ i, i < n ∧ ¬ p i := by
      refine Classical.byContradiction fun hc => h fun i hi => Classical.byContradiction fun hp => hc ⟨i, hi, hp⟩
    refine ⟨hex, ?_⟩
    obtain ⟨k, hk, hp⟩ := hex
    induction k using Nat.strongRecOn with
    | _ k ih =>
      by_cases hl : ∃ j, j < k ∧ ¬ p j
      · obtain ⟨j, hj, hpj⟩ := hl
        exact ih j hj (by omega) hpj
      · have hall : ∀ i, i < k → p i := fun i hi => Classical.byContradiction fun hp => hl ⟨i, hi, hp⟩
        rw [loop_count st k (fun i hi => hs i (by omega) fun j hj => hall j (by omega)) 0 (Nat.zero_le _)]
        exact loop_rt (hb k hk hall hp)
theorem lt_nat {a b : Nat} : lt (a : Int) (b : Int) = decide (a < b) := by unfold lt; rw [decide_eq_decide]; omega
theorem le_nat {a b : Nat} : le (a : Int) (b : Int) = decide (a ≤ b) := by unfold le; rw [decide_eq_decide]; omega
theorem lt_t {a b : Int} (h : a < b) : lt a b = true := decide_eq_true h
theorem lt_f {a b : Int} (h : ¬ a < b) : lt a b = false := decide_eq_false h
theorem le_t {a b : Int} (h : a ≤ b) : le a b = true := decide_eq_true h
theorem le_f {a b : Int} (h : ¬ a ≤ b) : le a b = false := decide_eq_false h
theorem beq_t {a b : Int} (h : a = b) : beq a b = true := by unfold beq; exact beq_iff_eq.2 h
theorem beq_f {a b : Int} (h : ¬ a = b) : beq a b = false := by unfold beq; exact beq_eq_false_iff_ne.2 h
theorem seq_t {a b : List UInt8} (h : a = b) : seq a b = true := by unfold seq; exact beq_iff_eq.2 h
theorem seq_f {a b : List UInt8} (h : ¬ a = b) : seq a b = false := by unfold seq; exact beq_eq_false_iff_ne.2 h
theorem nlt_t {a b : Nat} (h : a < b) : nlt a b = true := by unfold nlt; rw [Nat.blt_eq]; exact h
theorem nlt_f {a b : Nat} (h : ¬ a < b) : nlt a b = false := by
  unfold nlt; cases hb : Nat.blt a b with
  | false => rfl
  | true => rw [Nat.blt_eq] at hb; exact absurd hb h
theorem inB_nat {a n : Nat} (h : a < n) : inB (a : Int) (n : Int) = true := by
  simp only [inB, Bool.and_eq_true, decide_eq_true_eq]; omega
theorem inB_t {a n : Int} (h0 : 0 ≤ a) (h : a < n) : inB a n = true := by
  simp only [inB, Bool.and_eq_true, decide_eq_true_eq]; omega
theorem inC_t {a b n : Int} (h0 : 0 ≤ a) (h : a ≤ b) (h' : b ≤ n) : inC a b n = true := by
  simp only [inC, Bool.and_eq_true, decide_eq_true_eq]; omega
theorem rm_t {c n : Nat} (h : n * c ≤ 140737488355328) : rm c n = true := decide_eq_true h
theorem i64_nat {n : Nat} (h : n ≤ 9223372036854775807) : i64 (n : Int) = (n : Int) := i64_of (by omega) (by omega)
theorem len_nat {α : Type} (l : List α) : len l = ((l.length : Nat) : Int) := rfl
theorem nth_get {α : Type} {l : List α} {i : Nat} {d : α} (h : i < l.length) : nth l i d = l[i] := by
  simp [nth, List.getD_eq_getElem?_getD, h]
theorem n8_lt (x : UInt8) : x.toNat < 256 := x.toNat_lt
theorem u8_nat' (q : Nat) : u8 (q : Int) = UInt8.ofNat q := by
  apply UInt8.toNat_inj.1
  unfold u8
  have h1 : (UInt8.ofInt (q : Int)).toNat = q % 256 := by
    simp [UInt8.ofInt, UInt8.toNat_ofNat]
    omega
  rw [h1]; simp
theorem pow_cast (b n : Nat) : ((b : Int) ^ n) = ((b ^ n : Nat) : Int) := (Int.natCast_pow b n).symm
theorem beb_iff {a b : Bool} : beb a b = true ↔ a = b := by unfold beb; exact beq_iff_eq
theorem decode_low {l : List UInt8} {i : Nat} (h : i < l.length) (hl : l[i].toNat < 128) : decode l i = (l[i].toNat, 1) := by
  have hb : ((⟨l.toArray⟩ : ByteArray).get! (i + 0)).toNat = l[i].toNat := by
    show (l.toArray[i + 0]!).toNat = _
    simp [h]
  unfold decode Utf8.decode
  simp only [hb]
  rw [if_pos hl]
theorem decode_high {l : List UInt8} {i : Nat} (h : i < l.length) (hl : ¬ l[i].toNat < 128) : 128 ≤ (decode l i).1 ∧ (decode l i).1 ≤ 1114111 := by
  have hb : ((⟨l.toArray⟩ : ByteArray).get! (i + 0)).toNat = l[i].toNat := by
    show (l.toArray[i + 0]!).toNat = _
    simp [h]
  have h256 := n8_lt l[i]
  unfold decode Utf8.decode
  simp only [hb, if_neg hl, Utf8.runeError]
  have b : ∀ k, ((⟨l.toArray⟩ : ByteArray).get! k).toNat < 256 := fun k => n8_lt _
  generalize l[i].toNat = c at *
  repeat' split
  all_goals simp only
  all_goals (rename_i hc hd; simp only [Bool.and_eq_true, decide_eq_true_eq, beq_iff_eq, Utf8.valid, Bool.or_eq_true] at hc hd; omega)
theorem iadd_nat {a b : Nat} : iadd (a : Int) (b : Int) = ((a + b : Nat) : Int) := by simp [iadd]
theorem imul_nat {a b : Nat} : imul (a : Int) (b : Int) = ((a * b : Nat) : Int) := by simp [imul]
theorem isub_nat {a b : Nat} (h : b ≤ a) : isub (a : Int) (b : Int) = ((a - b : Nat) : Int) := by simp only [isub]; omega
theorem idiv_nat {a b : Nat} : idiv (a : Int) (b : Int) = ((a / b : Nat) : Int) := by simp only [idiv]; exact (Int.ofNat_tdiv _ _).symm
theorem imod_nat {a b : Nat} : imod (a : Int) (b : Int) = ((a % b : Nat) : Int) := by simp only [imod]; exact (Int.ofNat_tmod _ _).symm
theorem i64_add {a b : Nat} (h : a + b ≤ 9223372036854775807) : i64 (iadd (a : Int) (b : Int)) = ((a + b : Nat) : Int) := by rw [iadd_nat, i64_nat h]
theorem i64_mul {a b : Nat} (h : a * b ≤ 9223372036854775807) : i64 (imul (a : Int) (b : Int)) = ((a * b : Nat) : Int) := by rw [imul_nat, i64_nat h]
theorem i64_sub {a b : Nat} (h : b ≤ a) (h' : a ≤ 9223372036854775807) : i64 (isub (a : Int) (b : Int)) = ((a - b : Nat) : Int) := by rw [isub_nat h, i64_nat (by omega)]
theorem i64_div {a b : Nat} (h' : a ≤ 9223372036854775807) : i64 (idiv (a : Int) (b : Int)) = ((a / b : Nat) : Int) := by rw [idiv_nat, i64_nat (Nat.le_trans (Nat.div_le_self _ _) h')]
theorem nat_nat {a : Nat} : nat (a : Int) = a := by simp [nat]
theorem n8_u8 {a : Nat} (h : a < 256) : n8 (u8 (a : Int)) = (a : Int) := by
  rw [u8_nat']; simp only [n8, UInt8.toNat_ofNat']; omega
end Yp
namespace Yp
open Go
def ps (B : Nat) (g : Nat → UInt8) (v : Nat) : Nat → List UInt8
  | 0 => []
  | n + 1 => g (v / B ^ n % B) :: ps B g v n
theorem ps_length (B : Nat) (g : Nat → UInt8) (v : Nat) : ∀ n, (ps B g v n).length = n
  | 0 => rfl
  | n + 1 => by simp [ps, ps_length B g v n]
def dch (d : Nat) : UInt8 := UInt8.ofNat (48 + d)
def byt (d : Nat) : UInt8 := UInt8.ofNat d
theorem upd_rep {n : Nat} {d z : UInt8} {tl : List UInt8} : upd (rep (n + 1) z ++ tl) n d = rep n z ++ d :: tl := by
  induction n with
  | zero => simp [upd, rep]
  | succ n ih =>
    have e1 : rep (n + 1 + 1) z ++ tl = z :: (rep (n + 1) z ++ tl) := by simp [rep, List.replicate_succ]
    have e2 : rep (n + 1) z ++ d :: tl = z :: (rep n z ++ d :: tl) := by simp [rep, List.replicate_succ]
    rw [e1, e2, ← ih]; rfl
def hexs : List UInt8 := [48, 49, 50, 51, 52, 53, 54, 55, 56, 57, 97, 98, 99, 100, 101, 102]
theorem hexs_dch : ∀ d, d < 10 → nth hexs d (u8 0) = dch d := by decide
theorem dig_Digits_spec (v w : Int) (hv : v ≤ 9223372036854775807) : dig_Digits (v, w, ()) = some (if 1 ≤ w ∧ w ≤ 18 ∧ 0 ≤ v ∧ v < 10 ^ w.toNat then (ps 10 dch v.toNat w.toNat, 0, ()) else ([], 1, ())) := by
  unfold dig_Digits
  by_cases h1 : w < 1
  · rw [if_neg (by omega)]; simp [sel, ob, lt, h1, none']
  by_cases h2 : 18 < w
  · rw [if_neg (by omega)]; simp [sel, ob, lt, h1, h2, none']
  by_cases h3 : v < 0
  · rw [if_neg (by omega)]; simp [sel, ob, lt, h1, h2, h3, none']
  obtain ⟨n, rfl⟩ : ∃ n : Nat, w = n := ⟨w.toNat, by omega⟩
  obtain ⟨V, rfl⟩ : ∃ n : Nat, v = n := ⟨v.toNat, by omega⟩
  simp only [lt, h1, h2, h3, decide_false, decide_true, sel_f, sel_t, ob_s, Int.toNat_natCast]
  have c0 : band (inC 0 (n : Int) n) (rm 1 (nat n)) = true := by simp [band, inC, rm, nat]; omega
  rw [c0, ck_t]
  have e0 : i64 (isub (n : Int) 1) = (n : Int) - 1 := i64_of (by simp only [isub]; omega) (by simp only [isub]; omega)
  rw [e0]
  generalize hf : (fun (x : Int × Int × List UInt8 × Unit) => _) = f
  have step : ∀ i, i < n → f (((V / 10 ^ i : Nat) : Int), (n : Int) - 1 - i, rep (n - i) (u8 0) ++ ps 10 dch V i, ()) = some (.nx (((V / 10 ^ (i + 1) : Nat) : Int), (n : Int) - 1 - (i + 1 : Nat), rep (n - (i + 1)) (u8 0) ++ ps 10 dch V (i + 1), ())) := by
    intro i hi
    subst hf
    have hm : imod ((V / 10 ^ i : Nat) : Int) 10 = ((V / 10 ^ i % 10 : Nat) : Int) := by simp only [imod]; exact (Int.ofNat_tmod _ _).symm
    have hlt : V / 10 ^ i % 10 < 10 := Nat.mod_lt _ (by omega)
    have hle : V / 10 ^ i ≤ V := Nat.div_le_self _ _
    have hd : i64 (idiv ((V / 10 ^ i : Nat) : Int) 10) = ((V / 10 ^ (i + 1) : Nat) : Int) := by
      have : idiv ((V / 10 ^ i : Nat) : Int) 10 = ((V / 10 ^ i / 10 : Nat) : Int) := by simp only [idiv]; exact (Int.ofNat_tdiv _ _).symm
      rw [this, i64_nat (by omega), Nat.div_div_eq_div_mul, Nat.pow_succ]
    have hi1 : i64 (isub ((n : Int) - 1 - i) 1) = (n : Int) - 1 - (i + 1 : Nat) := by
      rw [i64_of (by simp only [isub]; omega) (by simp only [isub]; omega)]; simp only [isub]; omega
    have hle0 : le 0 ((n : Int) - 1 - i) = true := by simp only [le, decide_eq_true_eq]; omega
    have hb1 : inB ((V / 10 ^ i % 10 : Nat) : Int) (len [48, 49, 50, 51, 52, 53, 54, 55, 56, 57, 97, 98, 99, 100, 101, 102]) = true := inB_nat (n := 16) (by omega)
    have hb2 : inB ((n : Int) - 1 - i) (len (rep (n - i) (u8 0) ++ ps 10 dch V i)) = true := by
      simp only [inB, len, List.length_append, ps_length, rep, List.length_replicate, Bool.and_eq_true, decide_eq_true_eq]; omega
    have hn : nat ((n : Int) - 1 - i) = n - (i + 1) := by simp only [nat]; omega
    have hn2 : nat ((V / 10 ^ i % 10 : Nat) : Int) = V / 10 ^ i % 10 := by simp only [nat]; omega
    have hs : rep (n - i) (u8 0) = rep (n - (i + 1) + 1) (u8 0) := by congr 1; omega
    show sel (le 0 ((n : Int) - 1 - i)) _ _ = _
    rw [hle0, sel_t]
    simp only [hm]
    rw [hb1, ck_t, hb2, ck_t, hd, hi1, hn, hn2, hs, upd_rep]
    have := hexs_dch _ hlt
    simp only [hexs] at this
    rw [this]; rfl
  have hrun := loop_count (f := f) (fun i => (((V / 10 ^ i : Nat) : Int), (n : Int) - 1 - i, rep (n - i) (u8 0) ++ ps 10 dch V i, ())) n step 0 (by omega)
  have hend : f (((V / 10 ^ n : Nat) : Int), (n : Int) - 1 - n, rep (n - n) (u8 0) ++ ps 10 dch V n, ()) = some (.ex 0 (((V / 10 ^ n : Nat) : Int), (n : Int) - 1 - n, rep (n - n) (u8 0) ++ ps 10 dch V n, ())) := by
    subst hf
    have hle0 : le 0 ((n : Int) - 1 - n) = false := by simp only [le, decide_eq_false_iff_not]; omega
    show sel (le 0 ((n : Int) - 1 - n)) _ _ = _
    rw [hle0, sel_f]
  have e1 : (((V / 10 ^ 0 : Nat) : Int), (n : Int) - 1 - (0 : Nat), rep (n - 0) (u8 0) ++ ps 10 dch V 0, ()) = (((V : Nat) : Int), (n : Int) - 1, rep (nat n) (u8 0), ()) := by
    simp [ps, nat]
  rw [e1, loop_ex hend] at hrun
  rw [hrun]
  have e2 : rep (n - n) (u8 0) ++ ps 10 dch V n = ps 10 dch V n := by simp [rep]
  simp only [lc, e2]
  show sel (decide ((0 : Int) < ((V / 10 ^ n : Nat) : Int))) _ _ = _
  by_cases hlt : V < 10 ^ n
  · have : V / 10 ^ n = 0 := Nat.div_eq_of_lt hlt
    rw [this, if_pos ⟨by omega, by omega, by omega, by exact_mod_cast hlt⟩]; rfl
  · have : 0 < V / 10 ^ n := Nat.div_pos (by omega) (Nat.pow_pos (by omega))
    rw [if_neg (fun h => hlt (by exact_mod_cast h.2.2.2))]
    have hp : decide ((0 : Int) < ((V / 10 ^ n : Nat) : Int)) = true := by simp only [decide_eq_true_eq]; omega
    rw [hp]; rfl
end Yp
namespace Yp
open Go
theorem u8_nat (q : Nat) : u8 (q : Int) = byt (q % 256) := by
  unfold u8 byt
  apply UInt8.toNat_inj.1
  have h1 : (UInt8.ofInt (q : Int)).toNat = q % 256 := by
    simp [UInt8.ofInt, UInt8.toNat_ofNat]
    omega
  rw [h1]; simp
theorem shr_nat {V k : Nat} (hk : k ≤ 64) : shrI .i64 (V : Int) (k : Int) = ((V / 2 ^ k : Nat) : Int) := by
  unfold shrI
  have : Nat.min (Int.toNat (k : Int)) IntKind.i64.bits = k := by
    show Nat.min (Int.toNat (k : Int)) 64 = k
    rw [Int.toNat_natCast]; exact Nat.min_eq_left hk
  rw [this, Int.ofNat_fdiv]; norm_cast
theorem dig_Big_spec (v w : Int) (hv : v ≤ 9223372036854775807) : dig_Big (v, w, ()) = some (if 1 ≤ w ∧ w ≤ 8 ∧ 0 ≤ v ∧ v < 256 ^ w.toNat then (ps 256 byt v.toNat w.toNat, 0, ()) else ([], 1, ())) := by
  unfold dig_Big
  by_cases h1 : w < 1
  · rw [if_neg (by omega)]; simp [sel, ob, lt, h1, none']
  by_cases h2 : 8 < w
  · rw [if_neg (by omega)]; simp [sel, ob, lt, h1, h2, none']
  by_cases h3 : v < 0
  · rw [if_neg (by omega)]; simp [sel, ob, lt, h1, h2, h3, none']
  obtain ⟨n, rfl⟩ : ∃ n : Nat, w = n := ⟨w.toNat, by omega⟩
  obtain ⟨V, rfl⟩ : ∃ n : Nat, v = n := ⟨v.toNat, by omega⟩
  have hpow : ∀ i, (256 : Nat) ^ i = 2 ^ (8 * i) := fun i => by rw [Nat.pow_mul]
  have hmul : ∀ i : Nat, i ≤ 8 → i64 (imul 8 (i : Int)) = ((8 * i : Nat) : Int) := fun i hi => by
    have : imul 8 (i : Int) = ((8 * i : Nat) : Int) := by simp [imul]
    rw [this, i64_nat (by omega)]
  have hcond : (sel (lt (n : Int) 8) (ck (le 0 (i64 (imul 8 (n : Int)))) (some (lt 0 (shrI IntKind.i64 (V : Int) (i64 (imul 8 (n : Int)))), ()))) (some (false, ())) : Option (Bool × Unit)) = some (decide (¬ V < 256 ^ n), ()) := by
    by_cases h8 : n < 8
    · have c1 : lt (n : Int) 8 = true := by simp only [lt, decide_eq_true_eq]; omega
      have c2 : le 0 ((8 * n : Nat) : Int) = true := by simp only [le, decide_eq_true_eq]; omega
      rw [c1, sel_t, hmul n (by omega), c2, ck_t, shr_nat (by omega)]
      have : lt 0 ((V / 2 ^ (8 * n) : Nat) : Int) = decide (¬ V < 256 ^ n) := by
        unfold lt
        rw [decide_eq_decide, hpow]
        constructor
        · intro h hc
          rw [Nat.div_eq_of_lt hc] at h; simp at h
        · intro h
          have := Nat.div_pos (Nat.le_of_not_lt h) (Nat.pow_pos (by omega))
          omega
      rw [this]
    · have c1 : lt (n : Int) 8 = false := by simp only [lt, decide_eq_false_iff_not]; omega
      have : n = 8 := by omega
      rw [c1, sel_f, this]
      have : V < 256 ^ 8 := by
        have : (256:Nat) ^ 8 = 18446744073709551616 := by decide
        omega
      simp [this]
  rw [hcond]
  simp only [lt, h1, h2, h3, decide_false, decide_true, sel_f, sel_t, ob_s, Int.toNat_natCast]
  have hp : ((256 : Int) ^ n) = ((256 ^ n : Nat) : Int) := (Int.natCast_pow 256 n).symm
  by_cases hlt : V < 256 ^ n
  rotate_left
  · rw [if_neg (fun h => hlt (by have := h.2.2.2; rw [hp] at this; exact Int.ofNat_lt.1 this))]
    have hd : decide (¬ V < 256 ^ n) = true := decide_eq_true hlt
    rw [hd, sel_t]; rfl
  rw [if_pos ⟨by omega, by omega, by omega, by rw [hp]; exact Int.ofNat_lt.2 hlt⟩]
  have hd : decide (¬ V < 256 ^ n) = false := decide_eq_false (fun h => h hlt)
  rw [hd, sel_f]
  have c0 : band (inC 0 (n : Int) n) (rm 1 (nat n)) = true := by simp [band, inC, rm, nat]; omega
  rw [c0, ck_t]
  have e0 : i64 (isub (n : Int) 1) = (n : Int) - 1 := i64_of (by simp only [isub]; omega) (by simp only [isub]; omega)
  rw [e0]
  generalize hf : (fun (x : Int × List UInt8 × Unit) => _) = f
  have step : ∀ i, i < n → f ((i : Int), rep (n - i) (u8 0) ++ ps 256 byt V i, ()) = some (.nx (((i + 1 : Nat) : Int), rep (n - (i + 1)) (u8 0) ++ ps 256 byt V (i + 1), ())) := by
    intro i hi
    subst hf
    have c1 : (decide ((i : Int) < len (rep (nat (n : Int)) (u8 0)))) = true := by simp only [len, rep, nat, List.length_replicate, decide_eq_true_eq]; omega
    have c2 : le 0 ((8 * i : Nat) : Int) = true := by simp only [le, decide_eq_true_eq]; omega
    have c3 : i64 (isub ((n : Int) - 1) i) = ((n - (i + 1) : Nat) : Int) := by
      have : isub ((n : Int) - 1) i = ((n - (i + 1) : Nat) : Int) := by simp only [isub]; omega
      rw [this, i64_nat (by omega)]
    have c4 : inB ((n - (i + 1) : Nat) : Int) (len (rep (n - i) (u8 0) ++ ps 256 byt V i)) = true := by
      refine inB_nat ?_
      simp only [List.length_append, ps_length, rep, List.length_replicate]; omega
    have c5 : i64 (iadd (i : Int) 1) = ((i + 1 : Nat) : Int) := by
      have : iadd (i : Int) 1 = ((i + 1 : Nat) : Int) := by simp [iadd]
      rw [this, i64_nat (by omega)]
    have hs : rep (n - i) (u8 0) = rep (n - (i + 1) + 1) (u8 0) := by congr 1; omega
    show sel (decide ((i : Int) < len (rep (nat (n : Int)) (u8 0)))) _ _ = _
    rw [c1, sel_t]
    simp only [hmul i (by omega), c3]
    rw [c2, ck_t, c4, ck_t, c5, shr_nat (by omega), u8_nat, hs]
    have : nat ((n - (i + 1) : Nat) : Int) = n - (i + 1) := by simp [nat]
    rw [this, upd_rep, ← hpow]; rfl
  have hrun := loop_count (f := f) (fun i => ((i : Int), rep (n - i) (u8 0) ++ ps 256 byt V i, ())) n step 0 (by omega)
  have hend : f ((n : Int), rep (n - n) (u8 0) ++ ps 256 byt V n, ()) = some (.ex 0 ((n : Int), rep (n - n) (u8 0) ++ ps 256 byt V n, ())) := by
    subst hf
    have c1 : (decide ((n : Int) < len (rep (nat (n : Int)) (u8 0)))) = false := by simp only [len, rep, nat, List.length_replicate, decide_eq_false_iff_not]; omega
    show sel (decide ((n : Int) < len (rep (nat (n : Int)) (u8 0)))) _ _ = _
    rw [c1, sel_f]
  have e1 : (((0 : Nat) : Int), rep (n - 0) (u8 0) ++ ps 256 byt V 0, ()) = ((0 : Int), rep (nat n) (u8 0), ()) := by
    simp [ps, nat]
  rw [e1, loop_ex hend] at hrun
  rw [hrun]
  have e2 : rep (n - n) (u8 0) ++ ps 256 byt V n = ps 256 byt V n := by simp [rep]
  simp only [lc, e2]; rfl
theorem ps_less {B : Nat} {g : Nat → UInt8} (hg : ∀ a b, a < B → b < B → (g a < g b ↔ a < b)) (hB : 0 < B) (v u : Nat) : ∀ n, bytesLess (ps B g v n) (ps B g u n) = decide (v % B ^ n < u % B ^ n) ∧ seq (ps B g v n) (ps B g u n) = decide (v % B ^ n = u % B ^ n)
  | 0 => by simp [ps, bytesLess, Op.bytesLess, seq, Nat.mod_one]
  | n + 1 => by
    obtain ⟨h1, h2⟩ := ps_less hg hB v u n
    have ha := Nat.mod_lt (v / B ^ n) hB
    have hb := Nat.mod_lt (u / B ^ n) hB
    have hr := Nat.mod_lt v (Nat.pow_pos (n := n) hB)
    have hs := Nat.mod_lt u (Nat.pow_pos (n := n) hB)
    have hi : ∀ a b, a < B → b < B → (g a = g b ↔ a = b) := fun a b ha hb => by
      refine ⟨fun h => ?_, fun h => by rw [h]⟩
      rcases Nat.lt_trichotomy a b with hl | hl | hl
      · have := (hg a b ha hb).2 hl; rw [h] at this; exact absurd this (UInt8.lt_irrefl _)
      · exact hl
      · have := (hg b a hb ha).2 hl; rw [h] at this; exact absurd this (UInt8.lt_irrefl _)
    have h1' : Op.bytesLess (ps B g v n) (ps B g u n) = decide (v % B ^ n < u % B ^ n) := h1
    have h2' : (ps B g v n == ps B g u n) = decide (v % B ^ n = u % B ^ n) := h2
    have e1 : ∀ v, ps B g v (n + 1) = g (v / B ^ n % B) :: ps B g v n := fun _ => rfl
    rw [Nat.mod_pow_succ, Nat.mod_pow_succ, e1, e1]
    clear e1 h1 h2
    generalize v / B ^ n % B = a at *
    generalize u / B ^ n % B = b at *
    generalize v % B ^ n = r at *
    generalize u % B ^ n = s at *
    generalize B ^ n = M at *
    have key : ∀ x y : Nat, x < y → M * x + M ≤ M * y := fun x y h => by
      have := Nat.mul_le_mul_left M (show x + 1 ≤ y from h)
      rw [Nat.mul_add, Nat.mul_one] at this; exact this
    constructor
    · show (decide (g a < g b) || ((g a == g b) && Op.bytesLess (ps B g v n) (ps B g u n))) = _
      rw [h1']
      rcases Nat.lt_trichotomy a b with hl | hl | hl
      · have := key _ _ hl
        simp only [(hg a b ha hb).2 hl, decide_true, Bool.true_or]
        symm; simp only [decide_eq_true_eq]; omega
      · subst hl
        simp
      · have := key _ _ hl
        have h3 : ¬ g a < g b := fun h => by have := (hg a b ha hb).1 h; omega
        have h4 : ¬ g a = g b := fun h => by have := (hi a b ha hb).1 h; omega
        rw [decide_eq_false h3, beq_eq_false_iff_ne.2 h4, Bool.false_or, Bool.false_and]
        symm; simp only [decide_eq_false_iff_not]; omega
    · show ((g a == g b) && (ps B g v n == ps B g u n)) = _
      rw [h2']
      rcases Nat.lt_trichotomy a b with hl | hl | hl
      · have := key _ _ hl
        have h4 : ¬ g a = g b := fun h => by have := (hi a b ha hb).1 h; omega
        rw [beq_eq_false_iff_ne.2 h4, Bool.false_and]
        symm; simp only [decide_eq_false_iff_not]; omega
      · subst hl; simp
      · have := key _ _ hl
        have h4 : ¬ g a = g b := fun h => by have := (hi a b ha hb).1 h; omega
        rw [beq_eq_false_iff_ne.2 h4, Bool.false_and]
        symm; simp only [decide_eq_false_iff_not]; omega
theorem dch_lt : ∀ a b, a < 10 → b < 10 → (dch a < dch b ↔ a < b) := by
  intro a b ha hb
  simp only [dch, UInt8.lt_iff_toNat_lt, UInt8.toNat_ofNat']
  omega
theorem byt_lt : ∀ a b, a < 256 → b < 256 → (byt a < byt b ↔ a < b) := by
  intro a b ha hb
  simp only [byt, UInt8.lt_iff_toNat_lt, UInt8.toNat_ofNat']
  omega
end Yp
namespace Yp
open Go
def isFig (c : UInt8) : Prop := 48 ≤ c.toNat ∧ c.toNat ≤ 57
instance (c : UInt8) : Decidable (isFig c) := inferInstanceAs (Decidable (_ ∧ _))
def figs (s : List UInt8) : Prop := ∀ (i : Nat) (h : i < s.length), isFig s[i]
def val (s : List UInt8) : Nat := s.foldl (fun n c => 10 * n + (c.toNat - 48)) 0
theorem val_take {s : List UInt8} {i : Nat} (h : i < s.length) : val (s.take (i + 1)) = 10 * val (s.take i) + (s[i].toNat - 48) := by
  unfold val
  rw [List.take_succ_eq_append_getElem h, List.foldl_append]; rfl
theorem val_lt {s : List UInt8} : ∀ i, i ≤ s.length → (∀ j, j < i → ∀ h : j < s.length, isFig s[j]) → val (s.take i) < 10 ^ i
  | 0, _, _ => by simp [val]
  | i + 1, h, hf => by
    have := val_lt i (by omega) (fun j hj => hf j (by omega))
    have hi := hf i (by omega) (by omega)
    rw [val_take (by omega), Nat.pow_succ]
    unfold isFig at hi
    omega
theorem pow18 {i : Nat} (h : i ≤ 18) : 10 ^ i ≤ 1000000000000000000 := by
  have := Nat.pow_le_pow_right (n := 10) (by omega) h
  exact this
theorem dig_figure_fig {c : Nat} (h1 : 48 ≤ c) (h2 : c ≤ 57) : dig_figure (ofn c, ()) = some (((c - 48 : Nat) : Int), true, ()) := by
  have : c = 48 ∨ c = 49 ∨ c = 50 ∨ c = 51 ∨ c = 52 ∨ c = 53 ∨ c = 54 ∨ c = 55 ∨ c = 56 ∨ c = 57 := by omega
  rcases this with rfl | rfl | rfl | rfl | rfl | rfl | rfl | rfl | rfl | rfl <;> decide
theorem dig_figure_not {c : Nat} (h : ¬ (48 ≤ c ∧ c ≤ 57)) : ∃ q : Int, dig_figure (ofn c, ()) = some (q, false, ()) := by
  refine ⟨i64 (i32 (isub (ofn c) 48)), ?_⟩
  unfold dig_figure
  by_cases h1 : 48 ≤ c
  · refine (ob_of (sel_of_t (le_t (by simp only [ofn]; omega)))).trans ?_
    show some (_, le (ofn c) 57, ()) = _
    rw [le_f (by simp only [ofn]; omega)]
  · refine (ob_of (sel_of_f (le_f (by simp only [ofn]; omega)))).trans ?_
    rfl
theorem fig_step {s : List UInt8} {i : Nat} (h : i < s.length) (hf : isFig s[i]) : dig_figure (ofn (decode s i).1, ()) = some (((s[i].toNat - 48 : Nat) : Int), true, ()) ∧ (decode s i).2 = 1 := by
  have hl : s[i].toNat < 128 := by unfold isFig at hf; omega
  rw [decode_low h hl]
  exact ⟨dig_figure_fig hf.1 hf.2, rfl⟩
theorem fig_not {s : List UInt8} {i : Nat} (h : i < s.length) (hf : ¬ isFig s[i]) : ∃ q : Int, dig_figure (ofn (decode s i).1, ()) = some (q, false, ()) := by
  by_cases hl : s[i].toNat < 128
  · rw [decode_low h hl]; exact dig_figure_not hf
  · have := decode_high h hl
    exact dig_figure_not (by omega)
theorem figs_iff {s : List UInt8} : figs s ↔ ∀ i, i < s.length → ∀ h : i < s.length, isFig s[i] := ⟨fun h i hi _ => h i hi, fun h i hi => h i hi hi⟩
instance (s : List UInt8) : Decidable (figs s) := inferInstanceAs (Decidable (∀ (i : Nat) (h : i < s.length), isFig s[i]))
theorem dig_Value_spec (s : List UInt8) : dig_Value (s, ()) = some (if 1 ≤ s.length ∧ s.length ≤ 18 ∧ figs s then ((val s : Int), 0, ()) else (0, 2, ())) := by
  unfold dig_Value
  by_cases h1 : s.length < 1
  · refine (ob_of (sel_of_t (lt_t (by simp only [len]; omega)))).trans ?_
    rw [if_neg (by omega)]; rfl
  by_cases h2 : 18 < s.length
  · refine (ob_of ((sel_of_f (lt_f (by simp only [len]; omega))).trans (congrArg (fun b => some (b, ())) (lt_t (by simp only [len]; omega))))).trans ?_
    rw [if_neg (by omega)]; rfl
  refine (ob_of ((sel_of_f (lt_f (by simp only [len]; omega))).trans (congrArg (fun b => some (b, ())) (lt_f (by simp only [len]; omega))))).trans ?_
  refine (sel_of_f rfl).trans ?_
  generalize hf : (fun (x : Int × Int × Int × Nat × Unit) => _) = f
  have key := loop_scan (f := f) (fun i => (0, 0, (val (s.take i) : Int), i, ())) s.length (fun i => ∀ h : i < s.length, isFig s[i]) (0, 2, ()) 0 ?_ ?_ ?_
  · have e0 : ((0 : Int), (0 : Int), (val (s.take 0) : Int), 0, ()) = ((0 : Int), (0 : Int), (0 : Int), 0, ()) := by simp [val]
    rw [e0] at key
    rcases key with ⟨hall, hr⟩ | ⟨⟨i, hi, hn⟩, hr⟩
    · rw [hr, if_pos ⟨by omega, by omega, figs_iff.2 hall⟩]
      show some ((val (s.take s.length) : Int), (0 : Int), ()) = _
      rw [List.take_length]
    · rw [hr, if_neg (fun hc => hn (figs_iff.1 hc.2.2 i hi))]; rfl
  · intro i hi hp
    subst hf
    obtain ⟨e1, e2⟩ := fig_step hi (hp i (Nat.le_refl _) hi)
    refine (sel_of_t (nlt_t hi)).trans ?_
    refine (ob_of e1).trans ?_
    refine (sel_of_f rfl).trans ?_
    have hv := val_lt (i + 1) (by omega) (fun j hj => hp j (by omega))
    have hp := pow18 (i := i + 1) (by omega)
    rw [val_take hi] at hv
    have c1 : i64 (imul 10 (val (s.take i) : Int)) = ((10 * val (s.take i) : Nat) : Int) := i64_mul (a := 10) (by omega)
    simp only [e2, c1]
    rw [i64_add (by omega), val_take hi]; rfl
  · intro i hi _ hp
    subst hf
    have : ¬ isFig s[i] := fun h => hp fun _ => h
    obtain ⟨q, e1⟩ := fig_not hi this
    refine (sel_of_t (nlt_t hi)).trans ?_
    refine (ob_of e1).trans ?_
    rfl
  · intro _
    subst hf
    exact sel_of_f (nlt_f (Nat.lt_irrefl _))
end Yp
namespace Yp
open Go
theorem pow_le_max {b w : Nat} (hb : 1 ≤ b) (h : b ^ w ≤ 9223372036854775807) : ∀ i, i ≤ w → b ^ i ≤ 9223372036854775807 := fun i hi => Nat.le_trans (Nat.pow_le_pow_right hb hi) h
theorem ref01_power_spec (b w : Nat) (hb : 1 ≤ b) (hw : w ≤ 1000) (h : b ^ w ≤ 9223372036854775807) : ref01_power ((b : Int), (w : Int), ()) = some (((b ^ w : Nat) : Int), ()) := by
  unfold ref01_power
  generalize hf : (fun (x : Int × Int × Unit) => _) = f
  have key := loop_scan (f := f) (fun i => (((b ^ i : Nat) : Int), (i : Int), ())) w (fun _ => True) (0, ()) 0 ?_ ?_ ?_
  · have e0 : (((b ^ 0 : Nat) : Int), ((0 : Nat) : Int), ()) = ((1 : Int), (0 : Int), ()) := by simp
    rw [e0] at key
    rcases key with ⟨_, hr⟩ | ⟨⟨i, hi, hn⟩, hr⟩
    · rw [hr]; rfl
    · exact absurd trivial hn
  · intro i hi _
    subst hf
    refine (sel_of_t (lt_t (show (i : Int) < (w : Int) by omega))).trans ?_
    have := pow_le_max hb h (i + 1) (by omega)
    rw [Nat.pow_succ] at this
    simp only
    rw [i64_mul this]
    have c : i64 (iadd (i : Int) 1) = ((i + 1 : Nat) : Int) := i64_add (b := 1) (by omega)
    rw [c, ← Nat.pow_succ]
  · intro i _ _ h; exact absurd trivial h
  · intro _; subst hf; exact sel_of_f (lt_f (show ¬ (w : Int) < (w : Int) by omega))
theorem ref01_Figures_spec (s : List UInt8) (hl : s.length ≤ 1000000) : ref01_Figures (s, ()) = some (decide (figs s), ()) := by
  unfold ref01_Figures
  generalize hf : (fun (x : Bool × Int × Unit) => _) = f
  have cond : ∀ i (hi : i < s.length), (sel (lt (n8 (nth s (nat (i : Int)) (u8 0))) (n8 (u8 48))) (some (true, ())) (ck (inB (i : Int) (len s)) (some (lt (n8 (u8 57)) (n8 (nth s (nat (i : Int)) (u8 0))), ()))) : Option (Bool × Unit)) = some (decide (¬ isFig s[i]), ()) := by
    intro i hi
    have hin : inB (i : Int) (len s) = true := inB_nat hi
    rw [nat_nat, nth_get hi, hin, ck_t]
    have e1 : n8 (u8 48) = 48 := by decide
    have e2 : n8 (u8 57) = 57 := by decide
    rw [e1, e2]
    by_cases h1 : s[i].toNat < 48
    · rw [lt_t (by simp only [n8]; omega), sel_t, decide_eq_true (show ¬ isFig s[i] from fun h => by unfold isFig at h; omega)]
    · rw [lt_f (by simp only [n8]; omega), sel_f]
      by_cases h2 : 57 < s[i].toNat
      · rw [lt_t (by simp only [n8]; omega), decide_eq_true (show ¬ isFig s[i] from fun h => by unfold isFig at h; omega)]
      · rw [lt_f (by simp only [n8]; omega), decide_eq_false (show ¬ ¬ isFig s[i] from fun h => h (by unfold isFig; omega))]
  have key := loop_scan (f := f) (fun i => (false, (i : Int), ())) s.length (fun i => ∀ h : i < s.length, isFig s[i]) (false, ()) 0 ?_ ?_ ?_
  · rcases key with ⟨hall, hr⟩ | ⟨⟨i, hi, hn⟩, hr⟩
    · rw [show (false, ((0 : Nat) : Int), ()) = (false, (0 : Int), ()) from rfl] at hr
      rw [hr, decide_eq_true (figs_iff.2 hall)]; rfl
    · rw [show (false, ((0 : Nat) : Int), ()) = (false, (0 : Int), ()) from rfl] at hr
      rw [hr, decide_eq_false (fun hc => hn (figs_iff.1 hc i hi))]; rfl
  · intro i hi hp
    subst hf
    refine (sel_of_t (lt_t (by simp only [len]; omega))).trans ?_
    refine (ck_of (inB_nat hi)).trans ?_
    refine (ob_of (cond i hi)).trans ?_
    refine (sel_of_f (decide_eq_false (fun h => h (hp i (Nat.le_refl _) hi)))).trans ?_
    have c : i64 (iadd (i : Int) 1) = ((i + 1 : Nat) : Int) := i64_add (b := 1) (by omega)
    simp only [c]
  · intro i hi _ hp
    subst hf
    refine (sel_of_t (lt_t (by simp only [len]; omega))).trans ?_
    refine (ck_of (inB_nat hi)).trans ?_
    refine (ob_of (cond i hi)).trans ?_
    exact sel_of_t (decide_eq_true (fun h => hp fun _ => h))
  · intro _; subst hf; exact sel_of_f (lt_f (by simp only [len]; omega))
theorem ref01_Value_spec (s : List UInt8) (hl : s.length ≤ 1000000) : ref01_Value (s, ()) = some (if 1 ≤ s.length ∧ s.length ≤ 18 ∧ figs s then ((val s : Int), 0, ()) else (0, 2, ())) := by
  unfold ref01_Value
  by_cases h1 : s.length < 1
  · refine (ob_of (sel_of_t (lt_t (by simp only [len]; omega)))).trans ?_
    rw [if_neg (by omega)]; rfl
  by_cases h2 : 18 < s.length
  · refine (ob_of ((sel_of_f (lt_f (by simp only [len]; omega))).trans (sel_of_t (lt_t (by simp only [len]; omega))))).trans ?_
    rw [if_neg (by omega)]; rfl
  refine (ob_of (a := (bnot (decide (figs s)), ())) ?_).trans ?_
  · refine (sel_of_f (lt_f (by simp only [len]; omega))).trans ?_
    refine (sel_of_f (lt_f (by simp only [len]; omega))).trans ?_
    exact ob_of (ref01_Figures_spec s hl)
  by_cases h3 : figs s
  rotate_left
  · refine (sel_of_t (by simp only [decide_eq_false h3, bnot, Bool.not_false])).trans ?_
    rw [if_neg (fun h => h3 h.2.2)]
  refine (sel_of_f (by simp only [decide_eq_true h3, bnot, Bool.not_true])).trans ?_
  rw [if_pos ⟨by omega, by omega, h3⟩]
  generalize hf : (fun (x : Int × Int × Unit) => _) = f
  have key := loop_scan (f := f) (fun i => (((val (s.take i) * 10 ^ (s.length - i) : Nat) : Int), (i : Int), ())) s.length (fun _ => True) (0, 2, ()) 0 ?_ ?_ ?_
  · have e0 : (((val (s.take 0) * 10 ^ (s.length - 0) : Nat) : Int), ((0 : Nat) : Int), ()) = ((0 : Int), (0 : Int), ()) := by simp [val]
    rw [e0] at key
    rcases key with ⟨_, hr⟩ | ⟨⟨i, hi, hn⟩, hr⟩
    · rw [hr]
      show some (((val (s.take s.length) * 10 ^ (s.length - s.length) : Nat) : Int), (0 : Int), ()) = _
      rw [List.take_length]; simp
    · exact absurd trivial hn
  · intro i hi _
    subst hf
    refine (sel_of_t (lt_t (by simp only [len]; omega))).trans ?_
    refine (ck_of (inB_nat hi)).trans ?_
    have c1 : i64 (isub (i64 (isub (len s) 1)) (i : Int)) = ((s.length - 1 - i : Nat) : Int) := by
      have : i64 (isub (len s) 1) = ((s.length - 1 : Nat) : Int) := i64_sub (b := 1) (by omega) (by omega)
      rw [this, i64_sub (by omega) (by omega)]
    have hb := pow18 (i := s.length - 1 - i) (by omega)
    have c2 : ref01_power (10, ((s.length - 1 - i : Nat) : Int), ()) = some (((10 ^ (s.length - 1 - i) : Nat) : Int), ()) := ref01_power_spec 10 _ (by omega) (by omega) (by omega)
    have c3 := h3 i hi
    have c4 : i64 (isub (i64 (n8 (nth s (nat (i : Int)) (u8 0)))) 48) = ((s[i].toNat - 48 : Nat) : Int) := by
      rw [nat_nat, nth_get hi]
      have h256 := n8_lt s[i]
      have : i64 (n8 s[i]) = ((s[i].toNat : Nat) : Int) := i64_nat (by omega)
      rw [this]
      exact i64_sub (b := 48) c3.1 (by omega)
    simp only [c1, c2]
    refine (ob_of rfl).trans ?_
    have hv := val_lt (s := s) (i + 1) (by omega) (fun j hj h => h3 j h)
    have hp : 10 ^ (i + 1) * 10 ^ (s.length - (i + 1)) ≤ 1000000000000000000 := by
      rw [← Nat.pow_add]; exact pow18 (by omega)
    rw [val_take hi] at hv
    have e1 : s.length - i = (s.length - (i + 1)) + 1 := by omega
    have e2 : s.length - 1 - i = s.length - (i + 1) := by omega
    have hm : (10 * val (s.take i) + (s[i].toNat - 48)) * 10 ^ (s.length - (i + 1)) ≤ 10 ^ (i + 1) * 10 ^ (s.length - (i + 1)) := Nat.mul_le_mul_right _ (by omega)
    have hs : val (s.take i) * 10 ^ (s.length - i) + (s[i].toNat - 48) * 10 ^ (s.length - (i + 1)) = (10 * val (s.take i) + (s[i].toNat - 48)) * 10 ^ (s.length - (i + 1)) := by
      rw [e1, Nat.pow_succ, Nat.add_mul]; congr 1
      rw [Nat.mul_comm (10 ^ _) 10, ← Nat.mul_assoc, Nat.mul_comm (val _) 10]
    simp only [c4, e2]
    rw [i64_mul (by omega), i64_add (by omega), hs, val_take hi]
    have c : i64 (iadd (i : Int) 1) = ((i + 1 : Nat) : Int) := i64_add (b := 1) (by omega)
    rw [c]
  · intro i _ _ h; exact absurd trivial h
  · intro _; subst hf; exact sel_of_f (lt_f (by simp only [len]; omega))
end Yp
namespace Yp
open Go
theorem ps_get {B : Nat} {g : Nat → UInt8} {v : Nat} : ∀ {n j : Nat} (h : j < (ps B g v n).length), (ps B g v n)[j] = g (v / B ^ (n - 1 - j) % B)
  | 0, j, h => by simp [ps] at h
  | n + 1, 0, h => by simp [ps]
  | n + 1, j + 1, h => by
    simp only [ps, List.getElem_cons_succ]
    rw [ps_get]
    have : n - 1 - j = n + 1 - 1 - (j + 1) := by omega
    rw [this]
theorem ref01_Digits_spec (v w : Int) (hv : v ≤ 9223372036854775807) : ref01_Digits (v, w, ()) = some (if 1 ≤ w ∧ w ≤ 18 ∧ 0 ≤ v ∧ v < 10 ^ w.toNat then (ps 10 dch v.toNat w.toNat, 0, ()) else ([], 1, ())) := by
  unfold ref01_Digits
  by_cases h1 : w < 1
  · rw [if_neg (by omega)]; simp [sel, ob, lt, h1, none']
  by_cases h2 : 18 < w
  · rw [if_neg (by omega)]; simp [sel, ob, lt, h1, h2, none']
  by_cases h3 : v < 0
  · rw [if_neg (by omega)]; simp [sel, ob, lt, h1, h2, h3, none']
  obtain ⟨n, rfl⟩ : ∃ n : Nat, w = n := ⟨w.toNat, by omega⟩
  obtain ⟨V, rfl⟩ : ∃ n : Nat, v = n := ⟨v.toNat, by omega⟩
  have hpw : ∀ i : Nat, i ≤ 18 → ref01_power (10, (i : Int), ()) = some (((10 ^ i : Nat) : Int), ()) := fun i hi => by
    have := pow18 hi
    exact ref01_power_spec 10 i (by omega) (by omega) (by omega)
  refine (ob_of (a := (decide (10 ^ n ≤ V), ())) ?_).trans ?_
  · refine (sel_of_f (lt_f h1)).trans ?_
    refine (sel_of_f (lt_f h2)).trans ?_
    refine (sel_of_f (lt_f h3)).trans ?_
    refine (ob_of (hpw n (by omega))).trans ?_
    show some (le ((10 ^ n : Nat) : Int) (V : Int), ()) = _
    rw [le_nat]
  have hp : ((10 : Int) ^ n) = ((10 ^ n : Nat) : Int) := (Int.natCast_pow 10 n).symm
  by_cases hle : 10 ^ n ≤ V
  · refine (sel_of_t (decide_eq_true hle)).trans ?_
    rw [if_neg]; · rfl
    intro h
    have := h.2.2.2
    rw [Int.toNat_natCast, hp] at this
    omega
  refine (sel_of_f (decide_eq_false hle)).trans ?_
  rw [if_pos ⟨by omega, by omega, by omega, by rw [Int.toNat_natCast, hp]; omega⟩]
  simp only [Int.toNat_natCast]
  have e0 : i64 (isub (n : Int) 1) = (n : Int) - 1 := i64_of (by simp only [isub]; omega) (by simp only [isub]; omega)
  rw [e0]
  generalize hf : (fun (x : List UInt8 × Int × Unit) => _) = f
  have key := loop_scan (f := f) (fun j => ((ps 10 dch V n).take j, (n : Int) - 1 - j, ())) n (fun _ => True) ([], 0, ()) 0 ?_ ?_ ?_
  · have e0 : ((ps 10 dch V n).take 0, (n : Int) - 1 - (0 : Nat), ()) = (none' UInt8, (n : Int) - 1, ()) := by simp [none']
    rw [e0] at key
    rcases key with ⟨_, hr⟩ | ⟨⟨i, hi, hn⟩, hr⟩
    · rw [hr]
      show some ((ps 10 dch V n).take n, (0 : Int), ()) = _
      rw [List.take_of_length_le (by rw [ps_length]; omega)]
    · exact absurd trivial hn
  · intro i hi _
    subst hf
    have e1 : (n : Int) - 1 - i = ((n - 1 - i : Nat) : Int) := by omega
    refine (sel_of_t (le_t (show (0 : Int) ≤ (n : Int) - 1 - i by omega))).trans ?_
    simp only [e1]
    refine (ob_of (hpw (n - 1 - i) (by omega))).trans ?_
    have hpos : 0 < 10 ^ (n - 1 - i) := Nat.pow_pos (by omega)
    have c1 : bnot (beq ((10 ^ (n - 1 - i) : Nat) : Int) 0) = true := by rw [beq_f (by omega)]; rfl
    refine (ck_of c1).trans ?_
    have c2 : u8 (i64 (iadd 48 (imod (i64 (idiv (V : Int) ((10 ^ (n - 1 - i) : Nat) : Int))) 10))) = dch (V / 10 ^ (n - 1 - i) % 10) := by
      rw [i64_div (by omega), show (10 : Int) = ((10 : Nat) : Int) from rfl, imod_nat]
      have : V / 10 ^ (n - 1 - i) % 10 < 10 := Nat.mod_lt _ (by omega)
      rw [show (48 : Int) = ((48 : Nat) : Int) from rfl, i64_add (by omega), u8_nat']; rfl
    have hj : i < (ps 10 dch V n).length := by rw [ps_length]; exact hi
    have c3 : (ps 10 dch V n)[i] = dch (V / 10 ^ (n - 1 - i) % 10) := ps_get hj
    have c4 : i64 (isub ((n - 1 - i : Nat) : Int) 1) = (n : Int) - 1 - ((i + 1 : Nat) : Int) := by
      rw [i64_of (by simp only [isub]; omega) (by simp only [isub]; omega)]; simp only [isub]; omega
    simp only [c2, c4]
    refine (ck_of (rm_t ?_)).trans ?_
    · simp only [nadd, ln, List.length_take, List.length_cons, List.length_nil]; omega
    rw [List.take_succ_eq_append_getElem hj, c3]; rfl
  · intro i _ _ h; exact absurd trivial h
  · intro _; subst hf
    exact sel_of_f (le_f (show ¬ (0 : Int) ≤ (n : Int) - 1 - n by omega))
end Yp
namespace Yp
open Go
def dv (c : UInt8) : Nat := c.toNat - 48
def pad (s : List UInt8) : List UInt8 := if s.length % 2 = 1 then 48 :: s else s
def dat (p : List UInt8) (t : Nat) : Nat := dv (nth p t (u8 0))
def bcdAt (p : List UInt8) (a j : Nat) : UInt8 := if 2 * j + 1 < a then UInt8.ofNat (16 * dat p (2 * j) + dat p (2 * j + 1)) else if 2 * j < a then UInt8.ofNat (dat p (2 * j)) else u8 0
def bcd (p : List UInt8) : List UInt8 := (List.range (p.length / 2)).map fun j => UInt8.ofNat (16 * dat p (2 * j) + dat p (2 * j + 1))
theorem pad_length (s : List UInt8) : (pad s).length = 2 * ((s.length + 1) / 2) := by
  unfold pad
  split
  · simp only [List.length_cons]; omega
  · omega
theorem pad_get {s : List UInt8} {i : Nat} (h : i < s.length) : nth (pad s) (s.length % 2 + i) (u8 0) = s[i] := by
  unfold pad nth
  split
  · rename_i h1; rw [h1, Nat.add_comm]; simp [h]
  · rename_i h1
    have : s.length % 2 = 0 := by omega
    rw [this, Nat.zero_add]; simp [h]
theorem dig_split {c : UInt8} (h : isFig c) : c = UInt8.ofNat (48 + dv c) ∧ dv c < 10 := by
  unfold isFig at h
  refine ⟨?_, by unfold dv; omega⟩
  apply UInt8.toNat_inj.1
  simp only [UInt8.toNat_ofNat', dv]; omega
theorem shl_or : ∀ x : Nat, x < 10 → ∀ d : Nat, d < 10 → u8 (orI .u8 (n8 (u8 (shlI .u8 (n8 (UInt8.ofNat x)) (n64 (u64 4))))) (n8 (u8 (d : Int)))) = UInt8.ofNat (16 * x + d) := by decide +kernel
theorem or0 : ∀ d : Nat, d < 10 → u8 (orI .u8 (n8 (u8 (shlI .u8 (n8 (u8 0)) (n64 (u64 4))))) (n8 (u8 (d : Int)))) = UInt8.ofNat d := by decide +kernel
theorem pad_fig {s : List UInt8} {a : Nat} (hf : ∀ j, j < a - s.length % 2 → ∀ h : j < s.length, isFig s[j]) (ha : a ≤ (pad s).length) : ∀ t, t < a → dat (pad s) t < 10 := by
  intro t ht
  have hl := pad_length s
  unfold dat
  by_cases h : t < s.length % 2
  · have h1 : s.length % 2 = 1 := by omega
    have h0 : t = 0 := by omega
    subst h0
    unfold pad; rw [if_pos h1]
    show dv 48 < 10
    decide
  · have e : t = s.length % 2 + (t - s.length % 2) := by omega
    have hi : t - s.length % 2 < s.length := by omega
    rw [e, pad_get hi]
    exact (dig_split (hf _ (by omega) hi)).2
theorem dig_Bcd_spec (s : List UInt8) (hl : s.length ≤ 1000000) : dig_Bcd (s, ()) = some (if figs s then (bcd (pad s), 0, ()) else ([], 2, ())) := by
  unfold dig_Bcd
  have k1 : i64 (idiv (i64 (iadd (len s) 1)) 2) = (((s.length + 1) / 2 : Nat) : Int) := by
    rw [len_nat, show i64 (iadd ((s.length : Nat) : Int) 1) = ((s.length + 1 : Nat) : Int) from i64_add (b := 1) (by omega)]
    exact i64_div (b := 2) (by omega)
  have k2 : imod (len s) 2 = ((s.length % 2 : Nat) : Int) := imod_nat (b := 2)
  simp only [k1, k2, nat_nat]
  generalize hk : (s.length + 1) / 2 = k
  have hpl := pad_length s
  rw [hk] at hpl
  refine (ck_of ?_).trans ?_
  · simp only [band, Bool.and_eq_true]
    exact ⟨inC_t (by omega) (by omega) (by omega), rm_t (by omega)⟩
  generalize hf : (fun (x : Int × Int × Nat × List UInt8 × Unit) => _) = f
  have key := loop_scan (f := f) (fun i => (0, ((s.length % 2 + i : Nat) : Int), i, (List.range k).map (bcdAt (pad s) (s.length % 2 + i)), ())) s.length (fun i => ∀ h : i < s.length, isFig s[i]) ([], 2, ()) 0 ?_ ?_ ?_
  · have e0 : ((0 : Int), ((s.length % 2 + 0 : Nat) : Int), 0, (List.range k).map (bcdAt (pad s) (s.length % 2 + 0)), ()) = ((0 : Int), ((s.length % 2 : Nat) : Int), 0, rep k (u8 0), ()) := by
      have : (List.range k).map (bcdAt (pad s) (s.length % 2 + 0)) = rep k (u8 0) := by
        apply List.ext_getElem
        · simp [rep]
        · intro j h1 h2
          simp only [List.getElem_map, List.getElem_range, rep, List.getElem_replicate, bcdAt]
          rw [if_neg (by omega)]
          split
          · rename_i h3
            have h4 : s.length % 2 = 1 := by omega
            have h5 : j = 0 := by omega
            subst h5
            unfold pad; rw [if_pos h4]
            show UInt8.ofNat (dv 48) = u8 0
            decide
          · rfl
      rw [this]; rfl
    rw [e0] at key
    rcases key with ⟨hall, hr⟩ | ⟨⟨i, hi, hn⟩, hr⟩
    · rw [hr, if_pos (figs_iff.2 hall)]
      have : (List.range k).map (bcdAt (pad s) (s.length % 2 + s.length)) = bcd (pad s) := by
        unfold bcd
        rw [hpl, show 2 * k / 2 = k by omega]
        apply List.map_congr_left
        intro j hj
        have := List.mem_range.1 hj
        unfold bcdAt
        rw [if_pos (by omega)]
      rw [this]; rfl
    · rw [hr, if_neg (fun hc => hn (figs_iff.1 hc i hi))]; rfl
  · intro i hi hp
    subst hf
    obtain ⟨e1, e2⟩ := fig_step hi (hp i (Nat.le_refl _) hi)
    refine (sel_of_t (nlt_t hi)).trans ?_
    refine (ob_of e1).trans ?_
    refine (sel_of_f rfl).trans ?_
    have hd := (dig_split (hp i (Nat.le_refl _) hi)).2
    generalize ha : s.length % 2 + i = a
    have hlt10 := pad_fig (s := s) (a := a + 1) (fun j hj => hp j (by omega)) (by omega)
    have hda : dat (pad s) a = s[i].toNat - 48 := by unfold dat; rw [← ha, pad_get hi]; rfl
    have c1 : i64 (idiv ((a : Nat) : Int) 2) = ((a / 2 : Nat) : Int) := i64_div (b := 2) (by omega)
    have c2 : i64 (iadd ((a : Nat) : Int) 1) = ((a + 1 : Nat) : Int) := i64_add (b := 1) (by omega)
    have hq : a / 2 < ((List.range k).map (bcdAt (pad s) a)).length := by simp; omega
    simp only [ha, c1, c2, e2, nat_nat]
    refine (ck_of (inB_nat hq)).trans ?_
    refine (ck_of (inB_nat hq)).trans ?_
    have e3 : s.length % 2 + (i + 1) = a + 1 := by omega
    have hv : u8 (orI .u8 (n8 (u8 (shlI .u8 (n8 (nth ((List.range k).map (bcdAt (pad s) a)) (a / 2) (u8 0))) (n64 (u64 4))))) (n8 (u8 ((s[i].toNat - 48 : Nat) : Int)))) = bcdAt (pad s) (a + 1) (a / 2) := by
      rw [nth_get hq, List.getElem_map, List.getElem_range, ← hda]
      unfold bcdAt
      rw [if_neg (by omega)]
      by_cases hpar : a % 2 = 0
      · rw [if_neg (by omega), if_neg (by omega), if_pos (by omega), or0 _ (hlt10 a (by omega)), show 2 * (a / 2) = a by omega]
      · rw [if_pos (by omega), if_pos (by omega), shl_or _ (hlt10 _ (by omega)) _ (hlt10 a (by omega)), show 2 * (a / 2) + 1 = a by omega]
    simp only [hv, e3]
    have hset : upd ((List.range k).map (bcdAt (pad s) a)) (a / 2) (bcdAt (pad s) (a + 1) (a / 2)) = (List.range k).map (bcdAt (pad s) (a + 1)) := by
      unfold upd
      apply List.ext_getElem
      · simp
      · intro j h1 h2
        rw [List.getElem_set]
        simp only [List.getElem_map, List.getElem_range]
        split
        · rename_i h3; rw [h3]
        · unfold bcdAt
          by_cases h4 : 2 * j + 1 < a
          · rw [if_pos h4, if_pos (by omega)]
          · rw [if_neg h4]
            by_cases h5 : 2 * j < a
            · rw [if_pos h5, if_neg (by omega), if_pos (by omega)]
            · rw [if_neg h5, if_neg (by omega), if_neg (by omega)]
    rw [hset]; rfl
  · intro i hi _ hp
    subst hf
    have : ¬ isFig s[i] := fun h => hp fun _ => h
    obtain ⟨q, e1⟩ := fig_not hi this
    refine (sel_of_t (nlt_t hi)).trans ?_
    refine (ob_of e1).trans ?_
    rfl
  · intro _
    subst hf
    exact sel_of_f (nlt_f (Nat.lt_irrefl _))
theorem ref_pair : ∀ x, x < 10 → ∀ y, y < 10 → u8 (isub (n8 (u8 (iadd (n8 (u8 (imul (n8 (u8 16)) (n8 (u8 (isub (n8 (UInt8.ofNat (48 + x))) (n8 (u8 48)))))))) (n8 (UInt8.ofNat (48 + y)))))) (n8 (u8 48))) = UInt8.ofNat (16 * x + y) := by decide +kernel
theorem ref01_Bcd_spec (s : List UInt8) (hl : s.length ≤ 1000000) : ref01_Bcd (s, ()) = some (if figs s then (bcd (pad s), 0, ()) else ([], 2, ())) := by
  unfold ref01_Bcd
  refine (ob_of (ref01_Figures_spec s hl)).trans ?_
  by_cases h3 : figs s
  rotate_left
  · refine (sel_of_t (by simp only [decide_eq_false h3, bnot, Bool.not_false])).trans ?_
    rw [if_neg h3]; rfl
  refine (sel_of_f (by simp only [decide_eq_true h3, bnot, Bool.not_true])).trans ?_
  rw [if_pos h3]
  refine (ob_of (a := (pad s, ())) ?_).trans ?_
  · have k2 : imod (len s) 2 = ((s.length % 2 : Nat) : Int) := imod_nat (b := 2)
    simp only [k2]
    unfold pad
    by_cases h : s.length % 2 = 1
    · rw [if_pos h]
      refine (sel_of_t (beq_t (by omega))).trans ?_
      refine (ck_of (le_t ?_)).trans rfl
      simp only [iadd, len, List.length_cons, List.length_nil]; omega
    · rw [if_neg h]
      refine (sel_of_f (beq_f (by omega)))
  have hpl := pad_length s
  have hfig : ∀ t, (ht : t < (pad s).length) → isFig (pad s)[t] := by
    intro t ht
    by_cases h : s.length % 2 = 1
    · have e : pad s = 48 :: s := by unfold pad; rw [if_pos h]
      simp only [e] at ht ⊢
      cases t with
      | zero => exact (by decide : isFig 48)
      | succ t => exact h3 t (by simpa using ht)
    · have e : pad s = s := by unfold pad; rw [if_neg h]
      simp only [e] at ht ⊢
      exact h3 t ht
  have hpl' : (pad s).length ≤ 1000001 := by omega
  generalize pad s = p at *
  generalize hk : (s.length + 1) / 2 = k at *
  generalize hf : (fun (x : List UInt8 × Int × Unit) => _) = f
  have key := loop_scan (f := f) (fun j => ((bcd p).take j, ((2 * j : Nat) : Int), ())) k (fun _ => True) ([], 0, ()) 0 ?_ ?_ ?_
  · rcases key with ⟨_, hr⟩ | ⟨⟨i, hi, hn⟩, hr⟩
    · have e0 : ((bcd p).take 0, ((2 * 0 : Nat) : Int), ()) = (none' UInt8, (0 : Int), ()) := by simp [none']
      rw [e0] at hr
      rw [hr]
      show some ((bcd p).take k, (0 : Int), ()) = _
      rw [List.take_of_length_le (by simp [bcd]; omega)]
    · exact absurd trivial hn
  · intro i hi _
    subst hf
    refine (sel_of_t (lt_t (show ((2 * i : Nat) : Int) < len p by simp only [len]; omega))).trans ?_
    have h0 : 2 * i < p.length := by omega
    have h1 : 2 * i + 1 < p.length := by omega
    have c1 : i64 (iadd ((2 * i : Nat) : Int) 1) = ((2 * i + 1 : Nat) : Int) := i64_add (b := 1) (by omega)
    have c2 : i64 (iadd ((2 * i : Nat) : Int) 2) = ((2 * (i + 1) : Nat) : Int) := i64_add (b := 2) (by omega)
    simp only [c1, c2, nat_nat]
    refine (ck_of (inB_nat h0)).trans ?_
    refine (ck_of (inB_nat h1)).trans ?_
    refine (ck_of (rm_t ?_)).trans ?_
    · simp only [nadd, ln, List.length_take, List.length_cons, List.length_nil, bcd, List.length_map, List.length_range]; omega
    have hj : i < (bcd p).length := by simp [bcd]; omega
    have hg : (bcd p)[i] = UInt8.ofNat (16 * dat p (2 * i) + dat p (2 * i + 1)) := by simp [bcd]
    rw [List.take_succ_eq_append_getElem hj, hg, nth_get h0, nth_get h1]
    obtain ⟨a1, a2⟩ := dig_split (hfig _ h0)
    obtain ⟨b1, b2⟩ := dig_split (hfig _ h1)
    have hv := ref_pair _ a2 _ b2
    rw [← a1, ← b1] at hv
    have d1 : dat p (2 * i) = dv p[2 * i] := by unfold dat; rw [nth_get h0]
    have d2 : dat p (2 * i + 1) = dv p[2 * i + 1] := by unfold dat; rw [nth_get h1]
    rw [hv, d1, d2]; rfl
  · intro i _ _ h; exact absurd trivial h
  · intro _; subst hf
    exact sel_of_f (lt_f (show ¬ ((2 * k : Nat) : Int) < len p by simp only [len]; omega))
end Yp
namespace Yp
open Go
theorem dat_app {s t : List UInt8} {i : Nat} : dat (s ++ t) i = if i < s.length then dat s i else dat t (i - s.length) := by
  unfold dat nth
  rw [List.getD_eq_getElem?_getD, List.getElem?_append]
  split <;> rw [List.getD_eq_getElem?_getD]
theorem bcd_app {s t : List UInt8} (h : s.length % 2 = 0) : bcd (s ++ t) = bcd s ++ bcd t := by
  apply List.ext_getElem
  · simp [bcd]; omega
  · intro i h1 h2
    simp only [bcd, List.getElem_map, List.getElem_range, List.getElem_append, List.length_map, List.length_range]
    rw [dat_app, dat_app]
    split
    · rw [if_pos (by omega), dif_pos (by omega)]
    · rw [if_neg (by omega), dif_neg (by omega), show 2 * (i - s.length / 2) = 2 * i - s.length by omega, show 2 * i - s.length + 1 = 2 * i + 1 - s.length by omega]
theorem figs_app {s t : List UInt8} (h1 : figs s) (h2 : figs t) : figs (s ++ t) := by
  intro i hi
  rw [List.getElem_append]
  split
  · exact h1 _ _
  · exact h2 _ _
theorem figs_ps {v : Nat} : ∀ {n : Nat}, figs (ps 10 dch v n)
  | n => by
    intro i hi
    rw [ps_get]
    have h10 : v / 10 ^ (n - 1 - i) % 10 < 10 := Nat.mod_lt _ (by omega)
    generalize v / 10 ^ (n - 1 - i) % 10 = d at *
    unfold isFig dch
    simp only [UInt8.toNat_ofNat']; omega
theorem even_w (w : UInt8) : i64 (imul 2 (i64 (iadd 1 (imod (i64 (n8 w)) 8)))) = ((2 * (1 + w.toNat % 8) : Nat) : Int) := by
  have h := n8_lt w
  have h8 : w.toNat % 8 < 8 := Nat.mod_lt _ (by omega)
  have e1 : i64 (n8 w) = ((w.toNat : Nat) : Int) := i64_nat (by omega)
  have e2 : imod ((w.toNat : Nat) : Int) 8 = ((w.toNat % 8 : Nat) : Int) := imod_nat (b := 8)
  have e3 : i64 (iadd 1 ((w.toNat % 8 : Nat) : Int)) = ((1 + w.toNat % 8 : Nat) : Int) := i64_add (a := 1) (by omega)
  rw [e1, e2, e3]
  exact i64_mul (a := 2) (by omega)
theorem pad_even {s : List UInt8} (h : s.length % 2 = 0) : pad s = s := by unfold pad; rw [if_neg (by omega)]
end Yp
namespace Yp
open Go
theorem ref01_Big_spec (v w : Int) (hv : v ≤ 9223372036854775807) : ref01_Big (v, w, ()) = some (if 1 ≤ w ∧ w ≤ 8 ∧ 0 ≤ v ∧ v < 256 ^ w.toNat then (ps 256 byt v.toNat w.toNat, 0, ()) else ([], 1, ())) := by
  unfold ref01_Big
  by_cases h1 : w < 1
  · rw [if_neg (by omega)]; simp [sel, ob, lt, h1, none']
  by_cases h2 : 8 < w
  · rw [if_neg (by omega)]; simp [sel, ob, lt, h1, h2, none']
  by_cases h3 : v < 0
  · rw [if_neg (by omega)]; simp [sel, ob, lt, h1, h2, h3, none']
  obtain ⟨n, rfl⟩ : ∃ n : Nat, w = n := ⟨w.toNat, by omega⟩
  obtain ⟨V, rfl⟩ : ∃ n : Nat, v = n := ⟨v.toNat, by omega⟩
  have p7 : ∀ i, i ≤ 7 → 256 ^ i ≤ 72057594037927936 := fun i hi => Nat.pow_le_pow_right (n := 256) (by omega) hi
  have p8 : 256 ^ 8 = 18446744073709551616 := by decide
  refine (ob_of (a := (false, ())) ?_).trans ?_
  · refine (sel_of_f (lt_f h1)).trans ?_
    refine (sel_of_f (lt_f h2)).trans ?_
    exact congrArg (fun b => some (b, ())) (lt_f h3)
  refine (sel_of_f rfl).trans ?_
  refine (ob_of (a := (decide (¬ V < 256 ^ n), ())) ?_).trans ?_
  · by_cases h8 : n < 8
    · refine (sel_of_t (lt_t (show (n : Int) < 8 by omega))).trans ?_
      have := p7 n (by omega)
      refine (ob_of (ref01_power_spec 256 n (by omega) (by omega) (by omega))).trans ?_
      show some (le ((256 ^ n : Nat) : Int) (V : Int), ()) = _
      rw [le_nat]
      have : decide (256 ^ n ≤ V) = decide (¬ V < 256 ^ n) := by rw [decide_eq_decide]; omega
      rw [this]
    · refine (sel_of_f (lt_f (show ¬ (n : Int) < 8 by omega))).trans ?_
      have h : n = 8 := by omega
      subst h
      rw [decide_eq_false (by rw [p8]; omega)]
  have hp : ((256 : Int) ^ n) = ((256 ^ n : Nat) : Int) := (Int.natCast_pow 256 n).symm
  by_cases hlt : V < 256 ^ n
  rotate_left
  · refine (sel_of_t (decide_eq_true hlt)).trans ?_
    rw [if_neg]; · rfl
    intro h
    have := h.2.2.2
    rw [Int.toNat_natCast, hp] at this
    omega
  refine (sel_of_f (decide_eq_false (fun h => h hlt))).trans ?_
  rw [if_pos ⟨by omega, by omega, by omega, by rw [Int.toNat_natCast, hp]; omega⟩]
  simp only [Int.toNat_natCast]
  have e0 : i64 (isub (n : Int) 1) = (n : Int) - 1 := i64_of (by simp only [isub]; omega) (by simp only [isub]; omega)
  rw [e0]
  refine (ck_of ?_).trans ?_
  · simp only [band, Bool.and_eq_true]
    exact ⟨inC_t (by omega) (by omega) (by omega), rm_t (by simp only [nat_nat]; omega)⟩
  generalize hf : (fun (x : Int × Int × List UInt8 × Unit) => _) = f
  have key := loop_scan (f := f) (fun i => (((V / 256 ^ i : Nat) : Int), (n : Int) - 1 - i, rep (n - i) (u8 0) ++ ps 256 byt V i, ())) n (fun _ => True) ([], 0, ()) 0 ?_ ?_ ?_
  · have e0 : (((V / 256 ^ 0 : Nat) : Int), (n : Int) - 1 - (0 : Nat), rep (n - 0) (u8 0) ++ ps 256 byt V 0, ()) = ((V : Int), (n : Int) - 1, rep (nat (n : Int)) (u8 0), ()) := by simp [ps, nat]
    rw [e0] at key
    rcases key with ⟨_, hr⟩ | ⟨⟨i, hi, hn⟩, hr⟩
    · rw [hr]
      have : rep (n - n) (u8 0) ++ ps 256 byt V n = ps 256 byt V n := by simp [rep]
      rw [this]; rfl
    · exact absurd trivial hn
  · intro i hi _
    subst hf
    refine (sel_of_t (le_t (show (0 : Int) ≤ (n : Int) - 1 - i by omega))).trans ?_
    have e1 : (n : Int) - 1 - i = ((n - (i + 1) : Nat) : Int) := by omega
    have hin : n - (i + 1) < (rep (n - i) (u8 0) ++ ps 256 byt V i).length := by
      simp only [List.length_append, ps_length, rep, List.length_replicate]; omega
    have hle : V / 256 ^ i ≤ V := Nat.div_le_self _ _
    have c1 : i64 (idiv ((V / 256 ^ i : Nat) : Int) 256) = ((V / 256 ^ (i + 1) : Nat) : Int) := by
      refine (i64_div (b := 256) (by omega)).trans ?_
      rw [Nat.div_div_eq_div_mul, Nat.pow_succ]
    have c2 : i64 (isub ((n - (i + 1) : Nat) : Int) 1) = (n : Int) - 1 - ((i + 1 : Nat) : Int) := by
      rw [i64_of (by simp only [isub]; omega) (by simp only [isub]; omega)]; simp only [isub]; omega
    have c3 : u8 (imod ((V / 256 ^ i : Nat) : Int) 256) = byt (V / 256 ^ i % 256) := by
      rw [show imod ((V / 256 ^ i : Nat) : Int) 256 = ((V / 256 ^ i % 256 : Nat) : Int) from imod_nat (b := 256), u8_nat']; rfl
    have hs : rep (n - i) (u8 0) = rep (n - (i + 1) + 1) (u8 0) := by congr 1; omega
    simp only [e1]
    refine (ck_of (inB_nat hin)).trans ?_
    rw [c1, c2, c3, nat_nat, hs, upd_rep]; rfl
  · intro i _ _ h; exact absurd trivial h
  · intro _; subst hf
    exact sel_of_f (le_f (show ¬ (0 : Int) ≤ (n : Int) - 1 - n by omega))
def nib (d : Nat) : UInt8 := nth hexs d (u8 0)
def hexOf (b : List UInt8) : List UInt8 := b.flatMap fun x => [nib (x.toNat / 16), nib (x.toNat % 16)]
theorem hexOf_length (b : List UInt8) : (hexOf b).length = 2 * b.length := by
  induction b with
  | nil => rfl
  | cons x r ih =>
    have : hexOf (x :: r) = [nib (x.toNat / 16), nib (x.toNat % 16)] ++ hexOf r := rfl
    rw [this, List.length_append, ih]; simp; omega
theorem hexOf_app (a b : List UInt8) : hexOf (a ++ b) = hexOf a ++ hexOf b := by simp [hexOf]
theorem ofNat_toNat (c : UInt8) : UInt8.ofNat c.toNat = c := by
  apply UInt8.toNat_inj.1; simp
theorem all8 {p : UInt8 → Prop} (h : ∀ n, n < 256 → p (UInt8.ofNat n)) (c : UInt8) : p c := by
  have := h c.toNat c.toNat_lt
  rwa [ofNat_toNat] at this
theorem hi_ok : ∀ c : UInt8, inB (n8 (u8 (shrI IntKind.u8 (n8 c) (n64 (u64 4))))) (len [48, 49, 50, 51, 52, 53, 54, 55, 56, 57, 97, 98, 99, 100, 101, 102]) = true ∧
    nth [48, 49, 50, 51, 52, 53, 54, 55, 56, 57, 97, 98, 99, 100, 101, 102] (nat (n8 (u8 (shrI IntKind.u8 (n8 c) (n64 (u64 4)))))) (u8 0) = nib (c.toNat / 16) := all8 (by decide +kernel)
theorem lo_ok : ∀ c : UInt8, inB (n8 (u8 (andI IntKind.u8 (n8 c) (n8 (u8 15))))) (len [48, 49, 50, 51, 52, 53, 54, 55, 56, 57, 97, 98, 99, 100, 101, 102]) = true ∧
    nth [48, 49, 50, 51, 52, 53, 54, 55, 56, 57, 97, 98, 99, 100, 101, 102] (nat (n8 (u8 (andI IntKind.u8 (n8 c) (n8 (u8 15)))))) (u8 0) = nib (c.toNat % 16) := all8 (by decide +kernel)
theorem dig_Hex_spec (b : List UInt8) (hl : b.length ≤ 1000000) : dig_Hex (b, ()) = some (hexOf b, ()) := by
  unfold dig_Hex
  have k1 : i64 (imul 2 (len b)) = ((2 * b.length : Nat) : Int) := i64_mul (a := 2) (by omega)
  simp only [k1, nat_nat]
  refine (ck_of ?_).trans ?_
  · simp only [band, Bool.and_eq_true]
    exact ⟨inC_t (by omega) (by omega) (by omega), rm_t (by omega)⟩
  generalize hf : (fun (x : List UInt8 × Int × Unit) => _) = f
  have key := loop_scan (f := f) (fun i => (hexOf (b.take i), (i : Int), ())) b.length (fun _ => True) ([], ()) 0 ?_ ?_ ?_
  · have e0 : (hexOf (b.take 0), ((0 : Nat) : Int), ()) = (rep (nat 0) (u8 0), (0 : Int), ()) := by simp [hexOf, rep, nat]
    rw [e0] at key
    rcases key with ⟨_, hr⟩ | ⟨⟨i, hi, hn⟩, hr⟩
    · rw [hr, List.take_length]; rfl
    · exact absurd trivial hn
  · intro i hi _
    subst hf
    refine (sel_of_t (lt_t (show (i : Int) < len b by simp only [len]; omega))).trans ?_
    refine (ck_of (inB_nat hi)).trans ?_
    have c : i64 (iadd (i : Int) 1) = ((i + 1 : Nat) : Int) := i64_add (b := 1) (by omega)
    simp only [nat_nat, nth_get hi, c]
    refine (ck_of (hi_ok _).1).trans ?_
    refine (ck_of (lo_ok _).1).trans ?_
    simp only [(hi_ok _).2, (lo_ok _).2]
    refine (ck_of (rm_t ?_)).trans ?_
    · simp only [nadd, ln, hexOf_length, List.length_take, List.length_cons, List.length_nil]; omega
    rw [List.take_succ_eq_append_getElem hi, hexOf_app]; rfl
  · intro i _ _ h; exact absurd trivial h
  · intro _; subst hf
    exact sel_of_f (lt_f (show ¬ ((b.length : Nat) : Int) < len b by simp only [len]; omega))
theorem s34_hi : ∀ c : UInt8, ref01_sign (u8 (idiv (n8 c) (n8 (u8 16))), ()) = some (nib (c.toNat / 16), ()) := all8 (by decide +kernel)
theorem s34_lo : ∀ c : UInt8, ref01_sign (u8 (imod (n8 c) (n8 (u8 16))), ()) = some (nib (c.toNat % 16), ()) := all8 (by decide +kernel)
theorem ref01_Hex_spec (b : List UInt8) (hl : b.length ≤ 1000000) : ref01_Hex (b, ()) = some (hexOf b, ()) := by
  unfold ref01_Hex
  generalize hf : (fun (x : List UInt8 × Int × Unit) => _) = f
  have key := loop_scan (f := f) (fun i => (hexOf (b.take i), (i : Int), ())) b.length (fun _ => True) ([], ()) 0 ?_ ?_ ?_
  · have e0 : (hexOf (b.take 0), ((0 : Nat) : Int), ()) = (none' UInt8, (0 : Int), ()) := by simp [hexOf, none']
    rw [e0] at key
    rcases key with ⟨_, hr⟩ | ⟨⟨i, hi, hn⟩, hr⟩
    · rw [hr, List.take_length]; rfl
    · exact absurd trivial hn
  · intro i hi _
    subst hf
    refine (sel_of_t (lt_t (show (i : Int) < len b by simp only [len]; omega))).trans ?_
    refine (ck_of (inB_nat hi)).trans ?_
    have c : i64 (iadd (i : Int) 1) = ((i + 1 : Nat) : Int) := i64_add (b := 1) (by omega)
    simp only [nat_nat, nth_get hi, c]
    refine (ob_of (s34_hi _)).trans ?_
    refine (ck_of (inB_nat hi)).trans ?_
    refine (ob_of (s34_lo _)).trans ?_
    refine (ck_of (rm_t ?_)).trans ?_
    · simp only [nadd, ln, hexOf_length, List.length_take, List.length_cons, List.length_nil]; omega
    rw [List.take_succ_eq_append_getElem hi, hexOf_app]; rfl
  · intro i _ _ h; exact absurd trivial h
  · intro _; subst hf
    exact sel_of_f (lt_f (show ¬ ((b.length : Nat) : Int) < len b by simp only [len]; omega))
def isHex (c : UInt8) : Prop := (48 ≤ c.toNat ∧ c.toNat ≤ 57) ∨ (97 ≤ c.toNat ∧ c.toNat ≤ 102)
instance (c : UInt8) : Decidable (isHex c) := inferInstanceAs (Decidable (_ ∨ _))
def hval (c : UInt8) : Nat := if c.toNat ≤ 57 then c.toNat - 48 else c.toNat - 87
def unh (s : List UInt8) : List UInt8 := (List.range (s.length / 2)).map fun j => UInt8.ofNat (16 * hval (nth s (2 * j) (u8 0)) + hval (nth s (2 * j + 1) (u8 0)))
def hexy (s : List UInt8) : Prop := ∀ (i : Nat) (h : i < s.length), isHex s[i]
instance (s : List UInt8) : Decidable (hexy s) := inferInstanceAs (Decidable (∀ (i : Nat) (h : i < s.length), isHex s[i]))
theorem dig_half_eq' : ∀ c : UInt8, dig_half (c, ()) = some (if isHex c then (UInt8.ofNat (hval c), true, ()) else (u8 0, false, ())) := all8 (by decide +kernel)
theorem ref01_worth_eq' : ∀ c : UInt8, ref01_worth (c, ()) = some (if isHex c then ((hval c : Nat) : Int) else 16, ()) := all8 (by decide +kernel)
theorem hval_lt : ∀ c : UInt8, isHex c → hval c < 16 := all8 (by decide +kernel)
theorem nib_or : ∀ x : Nat, x < 16 → ∀ y : Nat, y < 16 → u8 (orI IntKind.u8 (n8 (u8 (shlI IntKind.u8 (n8 (UInt8.ofNat x)) (n64 (u64 4))))) (n8 (UInt8.ofNat y))) = UInt8.ofNat (16 * x + y) := by decide +kernel
theorem hexy_of {s : List UInt8} {k : Nat} (h2 : s.length = 2 * k) : (∀ i, i < k → isHex (nth s (2 * i) (u8 0)) ∧ isHex (nth s (2 * i + 1) (u8 0))) ↔ hexy s := by
  constructor
  · intro h i hi
    have := h (i / 2) (by omega)
    by_cases hp : i % 2 = 0
    · have := this.1
      rw [show 2 * (i / 2) = i by omega, nth_get hi] at this; exact this
    · have := this.2
      rw [show 2 * (i / 2) + 1 = i by omega, nth_get hi] at this; exact this
  · intro h i hi
    rw [nth_get (by omega), nth_get (by omega)]
    exact ⟨h _ _, h _ _⟩
theorem dig_Unhex_spec (s : List UInt8) (hl : s.length ≤ 1000000) : dig_Unhex (s, ()) = some (if s.length % 2 = 0 ∧ hexy s then (unh s, 0, ()) else ([], 2, ())) := by
  unfold dig_Unhex
  have k2 : imod (len s) 2 = ((s.length % 2 : Nat) : Int) := imod_nat (b := 2)
  have k1 : i64 (idiv (len s) 2) = ((s.length / 2 : Nat) : Int) := i64_div (b := 2) (by omega)
  simp only [k1, k2, nat_nat]
  by_cases h : s.length % 2 = 0
  rotate_left
  · refine (sel_of_t (beq_t (by omega))).trans ?_
    rw [if_neg (fun hc => h hc.1)]; rfl
  refine (sel_of_f (beq_f (by omega))).trans ?_
  refine (ck_of ?_).trans ?_
  · simp only [band, Bool.and_eq_true]
    exact ⟨inC_t (by omega) (by omega) (by omega), rm_t (by omega)⟩
  generalize hk : s.length / 2 = k
  have h2 : s.length = 2 * k := by omega
  generalize hf : (fun (x : Int × List UInt8 × Int × Unit) => _) = f
  have key := loop_scan (f := f) (fun i => (0, (unh s).take i, ((2 * i : Nat) : Int), ())) k (fun i => isHex (nth s (2 * i) (u8 0)) ∧ isHex (nth s (2 * i + 1) (u8 0))) ([], 2, ()) 0 ?_ ?_ ?_
  · have e0 : ((0 : Int), (unh s).take 0, ((2 * 0 : Nat) : Int), ()) = ((0 : Int), rep (nat 0) (u8 0), (0 : Int), ()) := by simp [rep, nat]
    rw [e0] at key
    rcases key with ⟨hall, hr⟩ | ⟨⟨i, hi, hn⟩, hr⟩
    · rw [hr, if_pos ⟨h, (hexy_of h2).1 hall⟩, List.take_of_length_le (by simp [unh]; omega)]; rfl
    · rw [hr, if_neg (fun hc => hn ((hexy_of h2).2 hc.2 i hi))]; rfl
  · intro i hi hp
    subst hf
    obtain ⟨p0, p1⟩ := hp i (Nat.le_refl _)
    have h0 : 2 * i < s.length := by omega
    have h1 : 2 * i + 1 < s.length := by omega
    have c1 : i64 (iadd ((2 * i : Nat) : Int) 1) = ((2 * i + 1 : Nat) : Int) := i64_add (b := 1) (by omega)
    have c2 : i64 (iadd ((2 * i : Nat) : Int) 2) = ((2 * (i + 1) : Nat) : Int) := i64_add (b := 2) (by omega)
    refine (sel_of_t (lt_t (show ((2 * i : Nat) : Int) < len s by simp only [len]; omega))).trans ?_
    refine (ck_of (inB_nat h0)).trans ?_
    simp only [c1, c2, nat_nat, dig_half_eq', if_pos p0, if_pos p1]
    refine (ob_of rfl).trans ?_
    refine (ck_of (inB_nat h1)).trans ?_
    refine (ob_of rfl).trans ?_
    refine (ob_of (a := (false, ())) rfl).trans ?_
    refine (sel_of_f rfl).trans ?_
    refine (ck_of (rm_t ?_)).trans ?_
    · simp only [nadd, ln, List.length_take, List.length_cons, List.length_nil]
      have : (unh s).length = s.length / 2 := by simp [unh]
      omega
    have hj : i < (unh s).length := by simp [unh]; omega
    have hg : (unh s)[i] = UInt8.ofNat (16 * hval (nth s (2 * i) (u8 0)) + hval (nth s (2 * i + 1) (u8 0))) := by simp [unh]
    rw [List.take_succ_eq_append_getElem hj, hg]
    simp only [nib_or _ (hval_lt _ p0) _ (hval_lt _ p1)]; rfl
  · intro i hi _ hp
    subst hf
    have h0 : 2 * i < s.length := by omega
    have h1 : 2 * i + 1 < s.length := by omega
    have c1 : i64 (iadd ((2 * i : Nat) : Int) 1) = ((2 * i + 1 : Nat) : Int) := i64_add (b := 1) (by omega)
    refine (sel_of_t (lt_t (show ((2 * i : Nat) : Int) < len s by simp only [len]; omega))).trans ?_
    refine (ck_of (inB_nat h0)).trans ?_
    simp only [c1, nat_nat, dig_half_eq']
    refine (ob_of rfl).trans ?_
    refine (ck_of (inB_nat h1)).trans ?_
    refine (ob_of rfl).trans ?_
    refine (ob_of (a := (true, ())) ?_).trans ?_
    · by_cases q0 : isHex (nth s (2 * i) (u8 0))
      · rw [if_pos q0, if_neg (fun q1 => hp ⟨q0, q1⟩)]; rfl
      · rw [if_neg q0]; rfl
    exact sel_of_t rfl
  · intro _; subst hf
    exact sel_of_f (lt_f (show ¬ ((2 * k : Nat) : Int) < len s by simp only [len]; omega))
theorem ref01_Unhex_spec (s : List UInt8) (hl : s.length ≤ 1000000) : ref01_Unhex (s, ()) = some (if s.length % 2 = 0 ∧ hexy s then (unh s, 0, ()) else ([], 2, ())) := by
  unfold ref01_Unhex
  have k2 : imod (len s) 2 = ((s.length % 2 : Nat) : Int) := imod_nat (b := 2)
  simp only [k2]
  by_cases h : s.length % 2 = 0
  rotate_left
  · refine (sel_of_t (beq_t (by omega))).trans ?_
    rw [if_neg (fun hc => h hc.1)]; rfl
  refine (sel_of_f (beq_f (by omega))).trans ?_
  generalize hk : s.length / 2 = k
  have h2 : s.length = 2 * k := by omega
  generalize hf : (fun (x : Int × List UInt8 × Int × Unit) => _) = f
  have key := loop_scan (f := f) (fun i => (0, (unh s).take i, ((2 * i : Nat) : Int), ())) k (fun i => isHex (nth s (2 * i) (u8 0)) ∧ isHex (nth s (2 * i + 1) (u8 0))) ([], 2, ()) 0 ?_ ?_ ?_
  · have e0 : ((0 : Int), (unh s).take 0, ((2 * 0 : Nat) : Int), ()) = ((0 : Int), none' UInt8, (0 : Int), ()) := by simp [none']
    rw [e0] at key
    rcases key with ⟨hall, hr⟩ | ⟨⟨i, hi, hn⟩, hr⟩
    · rw [hr, if_pos ⟨h, (hexy_of h2).1 hall⟩, List.take_of_length_le (by simp [unh]; omega)]; rfl
    · rw [hr, if_neg (fun hc => hn ((hexy_of h2).2 hc.2 i hi))]; rfl
  · intro i hi hp
    subst hf
    obtain ⟨p0, p1⟩ := hp i (Nat.le_refl _)
    have h0 : 2 * i < s.length := by omega
    have h1 : 2 * i + 1 < s.length := by omega
    have c1 : i64 (iadd ((2 * i : Nat) : Int) 1) = ((2 * i + 1 : Nat) : Int) := i64_add (b := 1) (by omega)
    have c2 : i64 (iadd ((2 * i : Nat) : Int) 2) = ((2 * (i + 1) : Nat) : Int) := i64_add (b := 2) (by omega)
    have g0 := hval_lt _ p0
    have g1 := hval_lt _ p1
    refine (sel_of_t (lt_t (show ((2 * i : Nat) : Int) < len s by simp only [len]; omega))).trans ?_
    refine (ck_of (inB_nat h0)).trans ?_
    simp only [c1, c2, nat_nat, ref01_worth_eq', if_pos p0, if_pos p1]
    refine (ob_of rfl).trans ?_
    refine (ck_of (inB_nat h1)).trans ?_
    refine (ob_of rfl).trans ?_
    refine (ob_of (a := (false, ())) ?_).trans ?_
    · refine (sel_of_f (lt_f (by omega))).trans ?_
      exact congrArg (fun b => some (b, ())) (lt_f (by omega))
    refine (sel_of_f rfl).trans ?_
    refine (ck_of (rm_t ?_)).trans ?_
    · simp only [nadd, ln, List.length_take, List.length_cons, List.length_nil]
      have : (unh s).length = s.length / 2 := by simp [unh]
      omega
    have hj : i < (unh s).length := by simp [unh]; omega
    have hg : (unh s)[i] = UInt8.ofNat (16 * hval (nth s (2 * i) (u8 0)) + hval (nth s (2 * i + 1) (u8 0))) := by simp [unh]
    have c3 : i64 (iadd (i64 (imul 16 ((hval (nth s (2 * i) (u8 0)) : Nat) : Int))) ((hval (nth s (2 * i + 1) (u8 0)) : Nat) : Int)) = ((16 * hval (nth s (2 * i) (u8 0)) + hval (nth s (2 * i + 1) (u8 0)) : Nat) : Int) := by
      rw [show i64 (imul 16 ((hval (nth s (2 * i) (u8 0)) : Nat) : Int)) = ((16 * hval (nth s (2 * i) (u8 0)) : Nat) : Int) from i64_mul (a := 16) (by omega)]
      exact i64_add (by omega)
    rw [List.take_succ_eq_append_getElem hj, hg]
    simp only [c3, u8_nat']; rfl
  · intro i hi _ hp
    subst hf
    have h0 : 2 * i < s.length := by omega
    have h1 : 2 * i + 1 < s.length := by omega
    have c1 : i64 (iadd ((2 * i : Nat) : Int) 1) = ((2 * i + 1 : Nat) : Int) := i64_add (b := 1) (by omega)
    refine (sel_of_t (lt_t (show ((2 * i : Nat) : Int) < len s by simp only [len]; omega))).trans ?_
    refine (ck_of (inB_nat h0)).trans ?_
    simp only [c1, nat_nat, ref01_worth_eq']
    refine (ob_of rfl).trans ?_
    refine (ck_of (inB_nat h1)).trans ?_
    refine (ob_of rfl).trans ?_
    refine (ob_of (a := (true, ())) ?_).trans ?_
    · by_cases q0 : isHex (nth s (2 * i) (u8 0))
      · rw [if_pos q0, if_neg (fun q1 => hp ⟨q0, q1⟩)]
        have := hval_lt _ q0
        refine (sel_of_f (lt_f (by omega))).trans ?_
        exact congrArg (fun b => some (b, ())) (lt_t (by omega))
      · rw [if_neg q0]
        exact sel_of_t (lt_t (by omega))
    exact sel_of_t rfl
  · intro _; subst hf
    exact sel_of_f (lt_f (show ¬ ((2 * k : Nat) : Int) < len s by simp only [len]; omega))
end Yp
namespace Yp
open Go
def bev (l : List UInt8) : Nat := l.foldl (fun n c => 256 * n + c.toNat) 0
theorem bev_take {s : List UInt8} {i : Nat} (h : i < s.length) : bev (s.take (i + 1)) = 256 * bev (s.take i) + s[i].toNat := by
  unfold bev
  rw [List.take_succ_eq_append_getElem h, List.foldl_append]; rfl
theorem bev_lt {s : List UInt8} : ∀ i, i ≤ s.length → bev (s.take i) < 256 ^ i
  | 0, _ => by simp [bev]
  | i + 1, h => by
    have := bev_lt (s := s) i (by omega)
    have hi := n8_lt s[i]
    rw [bev_take (by omega), Nat.pow_succ]
    omega
theorem bev_lt' {s : List UInt8} (h0 : 0 < s.length) (hs : s[0].toNat ≤ 127) : ∀ i, i < s.length → bev (s.take (i + 1)) < 128 * 256 ^ i
  | 0, _ => by rw [bev_take h0]; simp [bev]; omega
  | i + 1, h => by
    have := bev_lt' h0 hs i (by omega)
    have hi := n8_lt s[i + 1]
    rw [bev_take h, Nat.pow_succ]
    omega
theorem shl8_or (x c : Nat) (hc : c < 256) (h : 256 * x + c ≤ 9223372036854775807) : i64 (orI .i64 (i64 (shlI .i64 (x : Int) (n64 (u64 8)))) (c : Int)) = ((256 * x + c : Nat) : Int) := by
  have e1 : shlI .i64 (x : Int) (n64 (u64 8)) = ((256 * x : Nat) : Int) := by
    have : shlI .i64 (x : Int) (n64 (u64 8)) = (x : Int) * 2 ^ 8 := rfl
    rw [this]
    have : (2 : Int) ^ 8 = 256 := by decide
    rw [this]; omega
  rw [e1, i64_nat (by omega)]
  have e2 : orI .i64 ((256 * x : Nat) : Int) (c : Int) = ((256 * x + c : Nat) : Int) := by
    show (((BitVec.ofInt 64 ((256 * x : Nat) : Int) ||| BitVec.ofInt 64 (c : Int)).toNat : Nat) : Int) = _
    rw [BitVec.ofInt_natCast, BitVec.ofInt_natCast, BitVec.toNat_or, BitVec.toNat_ofNat, BitVec.toNat_ofNat, Nat.mod_eq_of_lt (by omega), Nat.mod_eq_of_lt (by omega)]
    have := Nat.two_pow_add_eq_or_of_lt (i := 8) hc x
    rw [show (2 : Nat) ^ 8 = 256 by decide] at this
    rw [← this]
  rw [e2, i64_nat h]
def tk (b : List UInt8) (A W : Nat) : List UInt8 := (b.drop A).take W
theorem tk_length {b : List UInt8} {A W : Nat} (h : A + W ≤ b.length) : (tk b A W).length = W := by simp [tk]; omega
theorem tk_get {b : List UInt8} {A W i : Nat} (h : i < (tk b A W).length) (h' : A + i < b.length) : (tk b A W)[i] = b[A + i] := by simp [tk]
theorem sub_tk {b : List UInt8} {A W : Nat} : sub b (A : Int) ((A + W : Nat) : Int) = tk b A W := by
  unfold sub tk
  rw [Int.toNat_natCast, Int.toNat_natCast, show A + W - A = W by omega]
def takeBig (b : List UInt8) (at' w : Int) : Int × Int × Int × Unit :=
  if w < 1 ∨ 8 < w ∨ at' < 0 ∨ (b.length : Int) < at' then (0, 0, 1, ()) else if (b.length : Int) - at' < w then (0, 0, 3, ())
  else if w = 8 ∧ 127 < (nth b at'.toNat (u8 0)).toNat then (0, 0, 2, ()) else ((bev (tk b at'.toNat w.toNat) : Int), at' + w, 0, ())
theorem bev_bound {b : List UInt8} {A W : Nat} (hA : A + W ≤ b.length) (hW : W ≤ 8) (h7 : ¬ ((W : Int) = 8 ∧ 127 < (nth b A (u8 0)).toNat)) : ∀ i, i < W → bev ((tk b A W).take (i + 1)) ≤ 9223372036854775807 := by
  intro i hi
  have hl := tk_length hA
  by_cases hi7 : i + 1 ≤ 7
  · have h1 := bev_lt (s := tk b A W) (i + 1) (by omega)
    have h2 : 256 ^ (i + 1) ≤ 256 ^ 7 := Nat.pow_le_pow_right (by omega) hi7
    have h3 : 256 ^ 7 = 72057594037927936 := by decide
    omega
  · have h8 : W = 8 := by omega
    have h0 : 0 < (tk b A W).length := by omega
    have hn : (tk b A W)[0] = nth b A (u8 0) := by
      rw [tk_get h0 (by omega), nth_get (by omega)]; rfl
    have hs : (tk b A W)[0].toNat ≤ 127 := by rw [hn]; exact Nat.le_of_not_lt fun h => h7 ⟨by omega, h⟩
    have := bev_lt' h0 hs i (by omega)
    have hi' : i = 7 := by omega
    subst hi'
    have h3 : 256 ^ 7 = 72057594037927936 := by decide
    omega
theorem dig_TakeBig_spec (b : List UInt8) (at' w : Int) (hl : b.length ≤ 1000000) : dig_TakeBig (b, at', w, ()) = some (takeBig b at' w) := by
  unfold dig_TakeBig takeBig
  by_cases h1 : w < 1
  · rw [if_pos (.inl h1)]; exact (ob_of (sel_of_t (lt_t h1))).trans rfl
  by_cases h2 : 8 < w
  · rw [if_pos (.inr (.inl h2))]; exact (ob_of (a := (true, ())) ((sel_of_f (lt_f h1)).trans (sel_of_t (lt_t h2)))).trans rfl
  by_cases h3 : at' < 0
  · rw [if_pos (.inr (.inr (.inl h3)))]; exact (ob_of (a := (true, ())) ((sel_of_f (lt_f h1)).trans ((sel_of_f (lt_f h2)).trans (sel_of_t (lt_t h3))))).trans rfl
  by_cases h4 : (b.length : Int) < at'
  · rw [if_pos (.inr (.inr (.inr h4)))]; exact (ob_of (a := (true, ())) ((sel_of_f (lt_f h1)).trans ((sel_of_f (lt_f h2)).trans ((sel_of_f (lt_f h3)).trans (congrArg (fun b => some (b, ())) (lt_t h4)))))).trans rfl
  rw [if_neg (by omega)]
  refine (ob_of (a := (false, ())) ((sel_of_f (lt_f h1)).trans ((sel_of_f (lt_f h2)).trans ((sel_of_f (lt_f h3)).trans (congrArg (fun b => some (b, ())) (lt_f h4)))))).trans ?_
  refine (sel_of_f rfl).trans ?_
  obtain ⟨A, rfl⟩ : ∃ n : Nat, at' = n := ⟨at'.toNat, by omega⟩
  obtain ⟨W, rfl⟩ : ∃ n : Nat, w = n := ⟨w.toNat, by omega⟩
  have c0 : i64 (isub (len b) (A : Int)) = (b.length : Int) - A := by
    simp only [isub, len]; exact i64_of (by omega) (by omega)
  simp only [c0]
  by_cases h5 : (b.length : Int) - A < W
  · rw [if_pos h5]; exact sel_of_t (lt_t h5)
  rw [if_neg h5]
  refine (sel_of_f (lt_f h5)).trans ?_
  have hAW : A + W ≤ b.length := by omega
  have hA : A < b.length := by omega
  have ctest : (sel (beq (W : Int) 8) (ck (inB (A : Int) (len b)) (some (lt (n8 (u8 127)) (n8 (nth b (nat (A : Int)) (u8 0))), ()))) (some (false, ())) : Option (Bool × Unit)) = some (decide ((W : Int) = 8 ∧ 127 < (nth b A (u8 0)).toNat), ()) := by
    by_cases h8 : (W : Int) = 8
    · refine (sel_of_t (beq_t h8)).trans ?_
      refine (ck_of (inB_nat hA)).trans ?_
      rw [nat_nat, show n8 (u8 127) = ((127 : Nat) : Int) by decide, show n8 (nth b A (u8 0)) = (((nth b A (u8 0)).toNat : Nat) : Int) from rfl, lt_nat]
      simp only [h8, true_and]
    · refine (sel_of_f (beq_f h8)).trans ?_
      rw [decide_eq_false (fun h => h8 h.1)]
  simp only [Int.toNat_natCast]
  refine (ob_of ctest).trans ?_
  by_cases h7 : (W : Int) = 8 ∧ 127 < (nth b A (u8 0)).toNat
  · rw [if_pos h7]; exact sel_of_t (decide_eq_true h7)
  rw [if_neg h7]
  refine (sel_of_f (decide_eq_false h7)).trans ?_
  have c1 : i64 (iadd (A : Int) (W : Int)) = ((A + W : Nat) : Int) := i64_add (by omega)
  simp only [c1, sub_tk]
  refine (ck_of (inC_t (by omega) (by omega) (by simp only [len]; omega))).trans ?_
  have hl := tk_length hAW
  have hbnd := bev_bound hAW (by omega) h7
  generalize htk : tk b A W = t at *
  generalize hf : (fun (x : Int × Int × Unit) => _) = f
  have key := loop_scan (f := f) (fun i => ((bev (t.take i) : Int), (i : Int), ())) W (fun _ => True) (0, 0, 0, ()) 1 ?_ ?_ ?_
  · have e0 : ((bev (t.take 0) : Int), ((0 : Nat) : Int), ()) = ((0 : Int), (0 : Int), ()) := by simp [bev]
    rw [e0] at key
    rcases key with ⟨_, hr⟩ | ⟨⟨i, hi, hn⟩, hr⟩
    · rw [hr, List.take_of_length_le (by omega)]
      show some ((bev t : Int), ((A + W : Nat) : Int), 0, ()) = _
      simp
    · exact absurd trivial hn
  · intro i hi _
    subst hf
    have hit : i < t.length := by omega
    refine (sel_of_t (lt_t (show (i : Int) < len t by simp only [len]; omega))).trans ?_
    refine (ck_of (inB_nat hit)).trans ?_
    have c : i64 (iadd (i : Int) 1) = ((i + 1 : Nat) : Int) := i64_add (b := 1) (by omega)
    have h256 := n8_lt t[i]
    have hb := hbnd i hi
    rw [bev_take hit] at hb
    have c2 : i64 (n8 t[i]) = ((t[i].toNat : Nat) : Int) := i64_nat (by omega)
    simp only [nat_nat, nth_get hit, c, c2]
    rw [shl8_or _ _ h256 hb, bev_take hit]
  · intro i _ _ h; exact absurd trivial h
  · intro _; subst hf
    exact sel_of_f (lt_f (show ¬ (W : Int) < len t by simp only [len]; omega))
theorem ref01_TakeBig_spec (b : List UInt8) (at' w : Int) (hl : b.length ≤ 1000000) : ref01_TakeBig (b, at', w, ()) = some (takeBig b at' w) := by
  unfold ref01_TakeBig takeBig
  by_cases h1 : w < 1
  · rw [if_pos (.inl h1)]; exact (ob_of (sel_of_t (lt_t h1))).trans rfl
  by_cases h2 : 8 < w
  · rw [if_pos (.inr (.inl h2))]; exact (ob_of (a := (true, ())) ((sel_of_f (lt_f h1)).trans (sel_of_t (lt_t h2)))).trans rfl
  by_cases h3 : at' < 0
  · rw [if_pos (.inr (.inr (.inl h3)))]; exact (ob_of (a := (true, ())) ((sel_of_f (lt_f h1)).trans ((sel_of_f (lt_f h2)).trans (sel_of_t (lt_t h3))))).trans rfl
  by_cases h4 : (b.length : Int) < at'
  · rw [if_pos (.inr (.inr (.inr h4)))]; exact (ob_of (a := (true, ())) ((sel_of_f (lt_f h1)).trans ((sel_of_f (lt_f h2)).trans ((sel_of_f (lt_f h3)).trans (congrArg (fun b => some (b, ())) (lt_t h4)))))).trans rfl
  rw [if_neg (by omega)]
  refine (ob_of (a := (false, ())) ((sel_of_f (lt_f h1)).trans ((sel_of_f (lt_f h2)).trans ((sel_of_f (lt_f h3)).trans (congrArg (fun b => some (b, ())) (lt_f h4)))))).trans ?_
  refine (sel_of_f rfl).trans ?_
  obtain ⟨A, rfl⟩ : ∃ n : Nat, at' = n := ⟨at'.toNat, by omega⟩
  obtain ⟨W, rfl⟩ : ∃ n : Nat, w = n := ⟨w.toNat, by omega⟩
  have c0 : i64 (isub (len b) (A : Int)) = (b.length : Int) - A := by
    simp only [isub, len]; exact i64_of (by omega) (by omega)
  simp only [c0]
  by_cases h5 : (b.length : Int) - A < W
  · rw [if_pos h5]; exact sel_of_t (lt_t h5)
  rw [if_neg h5]
  refine (sel_of_f (lt_f h5)).trans ?_
  have hAW : A + W ≤ b.length := by omega
  have hA : A < b.length := by omega
  have ctest : (sel (beq (W : Int) 8) (ck (inB (A : Int) (len b)) (some (le (n8 (u8 128)) (n8 (nth b (nat (A : Int)) (u8 0))), ()))) (some (false, ())) : Option (Bool × Unit)) = some (decide ((W : Int) = 8 ∧ 127 < (nth b A (u8 0)).toNat), ()) := by
    by_cases h8 : (W : Int) = 8
    · refine (sel_of_t (beq_t h8)).trans ?_
      refine (ck_of (inB_nat hA)).trans ?_
      rw [nat_nat, show n8 (u8 128) = ((128 : Nat) : Int) by decide, show n8 (nth b A (u8 0)) = (((nth b A (u8 0)).toNat : Nat) : Int) from rfl, le_nat]
      simp only [h8, true_and]
      rfl
    · refine (sel_of_f (beq_f h8)).trans ?_
      rw [decide_eq_false (fun h => h8 h.1)]
  simp only [Int.toNat_natCast]
  refine (ob_of ctest).trans ?_
  by_cases h7 : (W : Int) = 8 ∧ 127 < (nth b A (u8 0)).toNat
  · rw [if_pos h7]; exact sel_of_t (decide_eq_true h7)
  rw [if_neg h7]
  refine (sel_of_f (decide_eq_false h7)).trans ?_
  have c1 : i64 (iadd (A : Int) (W : Int)) = ((A + W : Nat) : Int) := i64_add (by omega)
  simp only [c1]
  have hlt := tk_length hAW
  have hbnd := bev_bound hAW (by omega) h7
  have hget : ∀ i (h : i < (tk b A W).length), (tk b A W)[i] = nth b (A + i) (u8 0) := fun i h => by
    rw [tk_get h (by omega), nth_get (by omega)]
  generalize htk : tk b A W = t at *
  generalize hf : (fun (x : Int × Int × Unit) => _) = f
  have key := loop_scan (f := f) (fun i => ((bev (t.take i) : Int), (i : Int), ())) W (fun _ => True) (0, 0, 0, ()) 0 ?_ ?_ ?_
  · have e0 : ((bev (t.take 0) : Int), ((0 : Nat) : Int), ()) = ((0 : Int), (0 : Int), ()) := by simp [bev]
    rw [e0] at key
    rcases key with ⟨_, hr⟩ | ⟨⟨i, hi, hn⟩, hr⟩
    · rw [hr, List.take_of_length_le (by omega)]
      show some ((bev t : Int), ((A + W : Nat) : Int), 0, ()) = _
      simp
    · exact absurd trivial hn
  · intro i hi _
    subst hf
    have hit : i < t.length := by omega
    refine (sel_of_t (lt_t (show (i : Int) < (W : Int) by omega))).trans ?_
    have c3 : i64 (iadd (A : Int) (i : Int)) = ((A + i : Nat) : Int) := i64_add (by omega)
    simp only [c3, nat_nat]
    refine (ck_of (inB_nat (show A + i < b.length by omega))).trans ?_
    have c : i64 (iadd (i : Int) 1) = ((i + 1 : Nat) : Int) := i64_add (b := 1) (by omega)
    have h256 := n8_lt t[i]
    have hb := hbnd i hi
    rw [bev_take hit] at hb
    have c2 : i64 (n8 t[i]) = ((t[i].toNat : Nat) : Int) := i64_nat (by omega)
    rw [← hget i hit, c, c2, show i64 (imul 256 (bev (t.take i) : Int)) = ((256 * bev (t.take i) : Nat) : Int) from i64_mul (a := 256) (by omega), i64_add hb, bev_take hit]
  · intro i _ _ h; exact absurd trivial h
  · intro _; subst hf
    exact sel_of_f (lt_f (show ¬ (W : Int) < (W : Int) by omega))
end Yp
namespace Yp
open Go
def takeBcd (b : List UInt8) (at' n : Int) : List UInt8 × Int × Int × Unit :=
  if n < 0 ∨ 999 < n ∨ at' < 0 ∨ (b.length : Int) < at' then ([], 0, 1, ()) else if (b.length : Int) - at' < (n + 1) / 2 then ([], 0, 3, ())
  else if n % 2 = 1 ∧ ¬ nth (hexOf (tk b at'.toNat ((n.toNat + 1) / 2))) 0 (u8 0) = 48 then ([], 0, 2, ())
  else if figs ((hexOf (tk b at'.toNat ((n.toNat + 1) / 2))).drop (n.toNat % 2)) then ((hexOf (tk b at'.toNat ((n.toNat + 1) / 2))).drop (n.toNat % 2), at' + ((n.toNat + 1) / 2 : Nat), 0, ()) else ([], 0, 2, ())
theorem rune_loop (s : List UInt8) (f : List UInt8 × Int × Int × Nat × Unit → Option (LS (List UInt8 × Int × Int × Nat × Unit) (List UInt8 × Int × Int × Unit)))
    (hf : f = fun x => sel (nlt x.2.2.2.1 (ln s)) (ob (dig_figure (ofn (decode s x.2.2.2.1).1, ())) fun a_1 => sel (bnot a_1.2.1) (some (LS.rt (none' UInt8, 0, 2, ()))) (some (LS.nx (x.1, x.2.1, x.2.2.1, nadd x.2.2.2.1 (decode s x.2.2.2.1).2, ())))) (some (LS.ex 0 (x.1, x.2.1, x.2.2.1, x.2.2.2.1, ())))) :
    loop f (none' UInt8, 0, 0, 0, ()) = some (if figs s then LS.ex 0 (none' UInt8, 0, 0, s.length, ()) else LS.rt (none' UInt8, 0, 2, ())) := by
  have key := loop_scan (f := f) (fun i => (none' UInt8, (0 : Int), (0 : Int), i, ())) s.length (fun i => ∀ h : i < s.length, isFig s[i]) (none' UInt8, 0, 2, ()) 0 ?_ ?_ ?_
  · rcases key with ⟨hall, hr⟩ | ⟨⟨i, hi, hn⟩, hr⟩
    · rw [hr, if_pos (figs_iff.2 hall)]
    · rw [hr, if_neg (fun hc => hn (figs_iff.1 hc i hi))]
  · intro i hi hp
    subst hf
    obtain ⟨e1, e2⟩ := fig_step hi (hp i (Nat.le_refl _) hi)
    refine (sel_of_t (nlt_t hi)).trans ?_
    refine (ob_of e1).trans ?_
    refine (sel_of_f rfl).trans ?_
    simp only [e2]; rfl
  · intro i hi _ hp
    subst hf
    have : ¬ isFig s[i] := fun h => hp fun _ => h
    obtain ⟨q, e1⟩ := fig_not hi this
    refine (sel_of_t (nlt_t hi)).trans ?_
    refine (ob_of e1).trans ?_
    rfl
  · intro _
    subst hf
    exact sel_of_f (nlt_f (Nat.lt_irrefl _))
theorem dig_TakeBcd_spec (b : List UInt8) (at' n : Int) (hl : b.length ≤ 1000000) : dig_TakeBcd (b, at', n, ()) = some (takeBcd b at' n) := by
  unfold dig_TakeBcd takeBcd
  by_cases h1 : n < 0
  · rw [if_pos (.inl h1)]; exact (ob_of (sel_of_t (lt_t h1))).trans rfl
  by_cases h2 : 999 < n
  · rw [if_pos (.inr (.inl h2))]; exact (ob_of (a := (true, ())) ((sel_of_f (lt_f h1)).trans (sel_of_t (lt_t h2)))).trans rfl
  by_cases h3 : at' < 0
  · rw [if_pos (.inr (.inr (.inl h3)))]; exact (ob_of (a := (true, ())) ((sel_of_f (lt_f h1)).trans ((sel_of_f (lt_f h2)).trans (sel_of_t (lt_t h3))))).trans rfl
  by_cases h4 : (b.length : Int) < at'
  · rw [if_pos (.inr (.inr (.inr h4)))]; exact (ob_of (a := (true, ())) ((sel_of_f (lt_f h1)).trans ((sel_of_f (lt_f h2)).trans ((sel_of_f (lt_f h3)).trans (congrArg (fun b => some (b, ())) (lt_t h4)))))).trans rfl
  rw [if_neg (by omega)]
  refine (ob_of (a := (false, ())) ((sel_of_f (lt_f h1)).trans ((sel_of_f (lt_f h2)).trans ((sel_of_f (lt_f h3)).trans (congrArg (fun b => some (b, ())) (lt_f h4)))))).trans ?_
  refine (sel_of_f rfl).trans ?_
  obtain ⟨A, rfl⟩ : ∃ n : Nat, at' = n := ⟨at'.toNat, by omega⟩
  obtain ⟨N, rfl⟩ : ∃ k : Nat, n = k := ⟨n.toNat, by omega⟩
  have c0 : i64 (isub (len b) (A : Int)) = (b.length : Int) - A := by
    simp only [isub, len]; exact i64_of (by omega) (by omega)
  have c1 : i64 (idiv (i64 (iadd (N : Int) 1)) 2) = (((N + 1) / 2 : Nat) : Int) := by
    rw [show i64 (iadd (N : Int) 1) = ((N + 1 : Nat) : Int) from i64_add (b := 1) (by omega)]
    exact i64_div (b := 2) (by omega)
  have c2 : ((N : Int) + 1) / 2 = (((N + 1) / 2 : Nat) : Int) := by omega
  simp only [c0, c1, c2, Int.toNat_natCast]
  generalize hM : (N + 1) / 2 = M
  by_cases h5 : (b.length : Int) - A < M
  · rw [if_pos h5]; exact sel_of_t (lt_t h5)
  rw [if_neg h5]
  refine (sel_of_f (lt_f h5)).trans ?_
  have hAM : A + M ≤ b.length := by omega
  have c3 : i64 (iadd (A : Int) (M : Int)) = ((A + M : Nat) : Int) := i64_add (by omega)
  simp only [c3, sub_tk]
  refine (ck_of (inC_t (by omega) (by omega) (by simp only [len]; omega))).trans ?_
  have htl := tk_length hAM
  refine (ob_of (dig_Hex_spec (tk b A M) (by omega))).trans ?_
  have hhl := hexOf_length (tk b A M)
  rw [htl] at hhl
  generalize hexOf (tk b A M) = h at *
  have k2 : imod (N : Int) 2 = ((N % 2 : Nat) : Int) := imod_nat (b := 2)
  simp only [k2]
  by_cases hodd : N % 2 = 1
  · have hm : (N : Int) % 2 = 1 := by omega
    refine (sel_of_t (beq_t (by omega))).trans ?_
    have h0 : 0 < h.length := by omega
    refine (ck_of (inB_nat (a := 0) h0)).trans ?_
    have e0 : beq (n8 (nth h (nat 0) (u8 0))) (n8 (u8 48)) = decide (nth h 0 (u8 0) = 48) := by
      show ((((nth h 0 (u8 0)).toNat : Nat) : Int) == ((48 : Nat) : Int)) = _
      rw [Bool.eq_iff_iff]
      simp only [beq_iff_eq, decide_eq_true_eq]
      constructor
      · intro hh; apply UInt8.toNat_inj.1; exact Int.ofNat.inj hh
      · intro hh; rw [hh]; rfl
    rw [e0]
    by_cases hz : nth h 0 (u8 0) = 48
    rotate_left
    · rw [if_pos ⟨hm, hz⟩]
      exact sel_of_t (by rw [decide_eq_false hz]; rfl)
    rw [if_neg (fun hc => hc.2 hz)]
    refine (sel_of_f (by rw [decide_eq_true hz]; rfl)).trans ?_
    refine (ck_of (inC_t (by omega) (by simp only [len]; omega) (by simp only [len]; omega))).trans ?_
    have es : sub h 1 (len h) = h.drop 1 := by
      unfold sub len
      show (h.drop 1).take (h.length - 1) = _
      rw [List.take_of_length_le (by simp)]
    simp only [es, hodd]
    refine (lc_eq (rune_loop (h.drop 1) _ rfl)).trans ?_
    by_cases hf : figs (h.drop 1)
    · rw [if_pos hf, if_pos hf]
      show some (h.drop 1, ((A + M : Nat) : Int), (0 : Int), ()) = _
      simp
    · rw [if_neg hf, if_neg hf]; rfl
  · have hev : N % 2 = 0 := by omega
    rw [if_neg (fun hc => by omega)]
    refine (sel_of_f (beq_f (by omega))).trans ?_
    simp only [hev, List.drop_zero]
    refine (lc_eq (rune_loop h _ rfl)).trans ?_
    by_cases hf : figs h
    · rw [if_pos hf, if_pos hf]
      show some (h, ((A + M : Nat) : Int), (0 : Int), ()) = _
      simp
    · rw [if_neg hf, if_neg hf]; rfl
end Yp
namespace Yp
open Go
def nbs (b : List UInt8) : List UInt8 := b.flatMap fun c => [u8 (idiv (n8 c) (n8 (u8 16))), u8 (imod (n8 c) (n8 (u8 16)))]
theorem nbs_app (a b : List UInt8) : nbs (a ++ b) = nbs a ++ nbs b := by simp [nbs]
theorem nib_half : ∀ c : UInt8, ([u8 (idiv (n8 c) (n8 (u8 16))), u8 (imod (n8 c) (n8 (u8 16)))].map fun x => nib x.toNat) = [nib (c.toNat / 16), nib (c.toNat % 16)] ∧ (u8 (idiv (n8 c) (n8 (u8 16)))).toNat < 16 ∧ (u8 (imod (n8 c) (n8 (u8 16)))).toNat < 16 := all8 (by decide +kernel)
theorem nbs_hex (b : List UInt8) : hexOf b = (nbs b).map fun x => nib x.toNat := by
  induction b with
  | nil => rfl
  | cons c r ih =>
    have e1 : hexOf (c :: r) = [nib (c.toNat / 16), nib (c.toNat % 16)] ++ hexOf r := rfl
    have e2 : nbs (c :: r) = [u8 (idiv (n8 c) (n8 (u8 16))), u8 (imod (n8 c) (n8 (u8 16)))] ++ nbs r := rfl
    rw [e1, e2, List.map_append, (nib_half c).1, ih]
theorem nbs_lt (b : List UInt8) : ∀ x ∈ nbs b, x.toNat < 16 := by
  intro x hx
  unfold nbs at hx
  rw [List.mem_flatMap] at hx
  obtain ⟨c, _, hx⟩ := hx
  have := nib_half c
  simp only [List.mem_cons, List.not_mem_nil, or_false] at hx
  rcases hx with rfl | rfl
  · exact this.2.1
  · exact this.2.2
theorem nbs_length (b : List UInt8) : (nbs b).length = 2 * b.length := by rw [← hexOf_length, nbs_hex, List.length_map]
theorem nib_fig : ∀ d : Nat, d < 16 → (isFig (nib d) ↔ d ≤ 9) := by decide +kernel
theorem nib_add : ∀ d : Nat, d < 10 → u8 (iadd (n8 (UInt8.ofNat d)) (n8 (u8 48))) = nib d := by decide +kernel
theorem nib_zero : ∀ d : Nat, d < 16 → (nib d = 48 ↔ d = 0) := by decide +kernel
def half' (l : List UInt8) (o i : Nat) : List UInt8 := (List.range l.length).map fun j => if o ≤ j ∧ j < o + i then nib (nth l j (u8 0)).toNat else nth l j (u8 0)
theorem half'_length (l : List UInt8) (o i : Nat) : (half' l o i).length = l.length := by simp [half']
theorem half'_zero (l : List UInt8) (o : Nat) : half' l o 0 = l := by
  apply List.ext_getElem
  · simp [half']
  · intro j h1 h2
    simp only [half', List.getElem_map, List.getElem_range]
    rw [if_neg (by omega), nth_get h2]
theorem half'_all {l : List UInt8} {o : Nat} : (half' l o (l.length - o)).drop o = (l.map fun x => nib x.toNat).drop o := by
  apply List.ext_getElem
  · simp [half']
  · intro j h1 h2
    simp only [List.length_drop, half'_length] at h1
    simp only [half', List.getElem_drop, List.getElem_map, List.getElem_range]
    rw [if_pos (by omega), nth_get (by omega)]
theorem half'_step {l : List UInt8} {o i : Nat} (h : o + i < l.length) (hd : (nth l (o + i) (u8 0)).toNat ≤ 9) :
    upd (half' l o i) (o + i) (u8 (iadd (n8 (nth (half' l o i) (o + i) (u8 0))) (n8 (u8 48)))) = half' l o (i + 1) ∧ nth (half' l o i) (o + i) (u8 0) = nth l (o + i) (u8 0) := by
  have e : nth (half' l o i) (o + i) (u8 0) = nth l (o + i) (u8 0) := by
    rw [nth_get (by rw [half'_length]; exact h)]
    simp only [half', List.getElem_map, List.getElem_range]
    rw [if_neg (by omega)]
  refine ⟨?_, e⟩
  rw [e]
  have hv := nib_add (nth l (o + i) (u8 0)).toNat (by omega)
  rw [ofNat_toNat] at hv
  rw [hv]
  unfold upd
  apply List.ext_getElem
  · simp [half']
  · intro j h1 h2
    rw [List.getElem_set]
    simp only [half', List.getElem_map, List.getElem_range]
    split
    · rename_i hj; subst hj; rw [if_pos (by omega)]
    · by_cases hc : o ≤ j ∧ j < o + i
      · rw [if_pos hc, if_pos (by omega)]
      · rw [if_neg hc, if_neg (by omega)]
theorem half'_get {l : List UInt8} {o i : Nat} (h : o + i < l.length) : nth (half' l o i) (o + i) (u8 0) = nth l (o + i) (u8 0) := by
  rw [nth_get (by rw [half'_length]; exact h)]
  simp only [half', List.getElem_map, List.getElem_range]
  rw [if_neg (by omega)]
theorem figs_half {l : List UInt8} {o : Nat} (hlt : ∀ x ∈ l, x.toNat < 16) : figs ((l.map fun x => nib x.toNat).drop o) ↔ ∀ i, i < l.length - o → (nth l (o + i) (u8 0)).toNat ≤ 9 := by
  unfold figs
  constructor
  · intro h i hi
    have h1 := h i (by simp; omega)
    simp only [List.getElem_drop, List.getElem_map] at h1
    rw [nth_get (by omega)]
    exact (nib_fig _ (hlt _ (List.getElem_mem _))).1 h1
  · intro h i hi
    simp only [List.length_drop, List.length_map] at hi
    simp only [List.getElem_drop, List.getElem_map]
    have h1 := h i hi
    rw [nth_get (by omega)] at h1
    exact (nib_fig _ (hlt _ (List.getElem_mem _))).2 h1
theorem ref01_TakeBcd_spec (b : List UInt8) (at' n : Int) (hl : b.length ≤ 1000000) : ref01_TakeBcd (b, at', n, ()) = some (takeBcd b at' n) := by
  unfold ref01_TakeBcd takeBcd
  by_cases h1 : n < 0
  · rw [if_pos (.inl h1)]; exact (ob_of (sel_of_t (lt_t h1))).trans rfl
  by_cases h2 : 999 < n
  · rw [if_pos (.inr (.inl h2))]; exact (ob_of (a := (true, ())) ((sel_of_f (lt_f h1)).trans (sel_of_t (lt_t h2)))).trans rfl
  by_cases h3 : at' < 0
  · rw [if_pos (.inr (.inr (.inl h3)))]; exact (ob_of (a := (true, ())) ((sel_of_f (lt_f h1)).trans ((sel_of_f (lt_f h2)).trans (sel_of_t (lt_t h3))))).trans rfl
  by_cases h4 : (b.length : Int) < at'
  · rw [if_pos (.inr (.inr (.inr h4)))]; exact (ob_of (a := (true, ())) ((sel_of_f (lt_f h1)).trans ((sel_of_f (lt_f h2)).trans ((sel_of_f (lt_f h3)).trans (congrArg (fun b => some (b, ())) (lt_t h4)))))).trans rfl
  rw [if_neg (by omega)]
  refine (ob_of (a := (false, ())) ((sel_of_f (lt_f h1)).trans ((sel_of_f (lt_f h2)).trans ((sel_of_f (lt_f h3)).trans (congrArg (fun b => some (b, ())) (lt_f h4)))))).trans ?_
  refine (sel_of_f rfl).trans ?_
  obtain ⟨A, rfl⟩ : ∃ n : Nat, at' = n := ⟨at'.toNat, by omega⟩
  obtain ⟨N, rfl⟩ : ∃ k : Nat, n = k := ⟨n.toNat, by omega⟩
  have c0 : i64 (isub (len b) (A : Int)) = (b.length : Int) - A := by
    simp only [isub, len]; exact i64_of (by omega) (by omega)
  have c1 : i64 (idiv (i64 (iadd (N : Int) 1)) 2) = (((N + 1) / 2 : Nat) : Int) := by
    rw [show i64 (iadd (N : Int) 1) = ((N + 1 : Nat) : Int) from i64_add (b := 1) (by omega)]
    exact i64_div (b := 2) (by omega)
  have c2 : ((N : Int) + 1) / 2 = (((N + 1) / 2 : Nat) : Int) := by omega
  simp only [c0, c1, c2, Int.toNat_natCast]
  generalize hM : (N + 1) / 2 = M
  by_cases h5 : (b.length : Int) - A < M
  · rw [if_pos h5]; exact sel_of_t (lt_t h5)
  rw [if_neg h5]
  refine (sel_of_f (lt_f h5)).trans ?_
  have hAM : A + M ≤ b.length := by omega
  have c3 : i64 (iadd (A : Int) (M : Int)) = ((A + M : Nat) : Int) := i64_add (by omega)
  simp only [c3]
  have htl := tk_length hAM
  have hget : ∀ i (h : i < (tk b A M).length), (tk b A M)[i] = nth b (A + i) (u8 0) := fun i h => by
    rw [tk_get h (by omega), nth_get (by omega)]
  generalize tk b A M = t at *
  -- the first loop
  have first : loop (fun (x_1 : List UInt8 × Int × Unit) => sel (lt x_1.2.1 ((A + M : Nat) : Int)) (ck (inB x_1.2.1 (len b)) (ck (inB x_1.2.1 (len b)) (ck (rm 1 (nadd (ln x_1.1) (ln [u8 (idiv (n8 (nth b (nat x_1.2.1) (u8 0))) (n8 (u8 16))), u8 (imod (n8 (nth b (nat x_1.2.1) (u8 0))) (n8 (u8 16)))])))
      (some (LS.nx (app x_1.1 [u8 (idiv (n8 (nth b (nat x_1.2.1) (u8 0))) (n8 (u8 16))), u8 (imod (n8 (nth b (nat x_1.2.1) (u8 0))) (n8 (u8 16)))], i64 (iadd x_1.2.1 1), ())))))) (some (LS.ex 0 (x_1.1, x_1.2.1, ()))))
      (none' UInt8, (A : Int), ()) = some (LS.ex 0 (nbs t, ((A + M : Nat) : Int), ()) : LS (List UInt8 × Int × Unit) (List UInt8 × Int × Int × Unit)) := by
    generalize hf : (fun (x : List UInt8 × Int × Unit) => _) = f
    have key := loop_scan (f := f) (fun i => (nbs (t.take i), ((A + i : Nat) : Int), ())) M (fun _ => True) ([], 0, 0, ()) 0 ?_ ?_ ?_
    · have e0 : (nbs (t.take 0), ((A + 0 : Nat) : Int), ()) = (none' UInt8, (A : Int), ()) := by simp [nbs, none']
      rw [e0] at key
      rcases key with ⟨_, hr⟩ | ⟨⟨i, hi, hn⟩, hr⟩
      · rw [hr, List.take_of_length_le (by omega)]
      · exact absurd trivial hn
    · intro i hi _
      subst hf
      have hit : i < t.length := by omega
      have hin : A + i < b.length := by omega
      refine (sel_of_t (lt_t (show ((A + i : Nat) : Int) < ((A + M : Nat) : Int) by omega))).trans ?_
      refine (ck_of (inB_nat hin)).trans ?_
      refine (ck_of (inB_nat hin)).trans ?_
      have c : i64 (iadd ((A + i : Nat) : Int) 1) = ((A + (i + 1) : Nat) : Int) := i64_add (b := 1) (by omega)
      simp only [nat_nat, c, ← hget i hit]
      refine (ck_of (rm_t ?_)).trans ?_
      · simp only [nadd, ln, nbs_length, List.length_take, List.length_cons, List.length_nil]; omega
      rw [List.take_succ_eq_append_getElem hit, nbs_app]; rfl
    · intro i _ _ h; exact absurd trivial h
    · intro _; subst hf
      exact sel_of_f (lt_f (show ¬ ((A + M : Nat) : Int) < ((A + M : Nat) : Int) by omega))
  refine (lc_eq first).trans ?_
  have hnl := nbs_length t
  rw [htl] at hnl
  have hlt := nbs_lt t
  simp only [lc]
  refine (ck_of rfl).trans ?_
  rw [nbs_hex]
  generalize nbs t = l at *
  have k2 : imod (N : Int) 2 = ((N % 2 : Nat) : Int) := imod_nat (b := 2)
  simp only [k2]
  have h9 : n8 (u8 9) = ((9 : Nat) : Int) := by decide
  have n8n : ∀ c : UInt8, n8 c = ((c.toNat : Nat) : Int) := fun _ => rfl
  by_cases hodd : N % 2 = 1
  · have hm : (N : Int) % 2 = 1 := by omega
    refine (sel_of_t (beq_t (by omega))).trans ?_
    have h0 : 0 < l.length := by omega
    refine (ck_of (inB_nat (a := 0) h0)).trans ?_
    have e0 : beq (n8 (nth l (nat 0) (u8 0))) (n8 (u8 0)) = decide (nth l 0 (u8 0) = 0) := by
      show ((((nth l 0 (u8 0)).toNat : Nat) : Int) == ((0 : Nat) : Int)) = _
      rw [Bool.eq_iff_iff]
      simp only [beq_iff_eq, decide_eq_true_eq]
      constructor
      · intro hh; apply UInt8.toNat_inj.1; exact Int.ofNat.inj hh
      · intro hh; rw [hh]; rfl
    have hx16 : (nth l 0 (u8 0)).toNat < 16 := by rw [nth_get h0]; exact hlt _ (List.getElem_mem _)
    have e1 : nth (l.map fun x => nib x.toNat) 0 (u8 0) = nib (nth l 0 (u8 0)).toNat := by
      rw [nth_get (by simpa using h0), nth_get h0]; simp
    have e2 : (nth (l.map fun x => nib x.toNat) 0 (u8 0) = 48) ↔ nth l 0 (u8 0) = 0 := by
      rw [e1, nib_zero _ hx16]
      constructor
      · intro hh; apply UInt8.toNat_inj.1; exact hh
      · intro hh; rw [hh]; rfl
    rw [e0]
    by_cases hz : nth l 0 (u8 0) = 0
    rotate_left
    · rw [if_pos ⟨hm, fun h => hz (e2.1 h)⟩]
      exact sel_of_t (by rw [decide_eq_false hz]; rfl)
    rw [if_neg (fun hc => hc.2 (e2.2 hz))]
    refine (sel_of_f (by rw [decide_eq_true hz]; rfl)).trans ?_
    refine (ck_of (inC_t (by omega) (by simp only [len]; omega) (by simp only [len]; omega))).trans ?_
    have c4 : nsub (nat (len l)) (nat 1) = l.length - 1 := by simp [nsub, nat, len]
    have c5 : nat 1 = 1 := by decide
    simp only [c4, c5, hodd]
    generalize hf : (fun (x : List UInt8 × Int × Int × Int × List UInt8 × Unit) => _) = f
    have key := loop_scan (f := f) (fun i => (none' UInt8, (0 : Int), (0 : Int), (i : Int), half' l 1 i, ())) (l.length - 1) (fun i => (nth l (1 + i) (u8 0)).toNat ≤ 9) (none' UInt8, 0, 2, ()) 2 ?_ ?_ ?_
    · have e0 : (none' UInt8, (0 : Int), (0 : Int), ((0 : Nat) : Int), half' l 1 0, ()) = (none' UInt8, (0 : Int), (0 : Int), (0 : Int), l, ()) := by rw [half'_zero]; rfl
      rw [e0] at key
      rcases key with ⟨hall, hr⟩ | ⟨⟨i, hi, hn⟩, hr⟩
      · rw [hr, if_pos ((figs_half hlt).2 hall), ← half'_all]
        show some (cut (half' l 1 (l.length - 1)) 1 (l.length - 1), ((A + M : Nat) : Int), (0 : Int), ()) = _
        have : cut (half' l 1 (l.length - 1)) 1 (l.length - 1) = (half' l 1 (l.length - 1)).drop 1 := by
          unfold cut
          rw [List.take_of_length_le (by simp [half'_length])]
        rw [this]; simp
      · rw [hr, if_neg (fun hc => hn ((figs_half hlt).1 hc i hi))]; rfl
    · intro i hi hp
      subst hf
      have hi1 : 1 + i < l.length := by omega
      have hp' := hp i (Nat.le_refl _)
      obtain ⟨s1, s2⟩ := half'_step hi1 hp'
      refine (sel_of_t (lt_t (show (i : Int) < ofn (l.length - 1) by simp only [ofn]; omega))).trans ?_
      have hin : inB (i : Int) (ofn (l.length - 1)) = true := inB_nat hi
      refine (ck_of hin).trans ?_
      have c6 : nadd 1 (nat (i : Int)) = 1 + i := by simp [nadd, nat]
      have c : i64 (iadd (i : Int) 1) = ((i + 1 : Nat) : Int) := i64_add (b := 1) (by omega)
      simp only [c6, c]
      refine (sel_of_f (by rw [h9, s2, n8n]; exact lt_f (by omega))).trans ?_
      refine (ck_of hin).trans ?_
      refine (ck_of hin).trans ?_
      rw [s1]
    · intro i hi _ hp
      subst hf
      have hi1 : 1 + i < l.length := by omega
      refine (sel_of_t (lt_t (show (i : Int) < ofn (l.length - 1) by simp only [ofn]; omega))).trans ?_
      have hin : inB (i : Int) (ofn (l.length - 1)) = true := inB_nat hi
      refine (ck_of hin).trans ?_
      have c6 : nadd 1 (nat (i : Int)) = 1 + i := by simp [nadd, nat]
      simp only [c6]
      exact sel_of_t (by rw [h9, half'_get hi1, n8n]; exact lt_t (by omega))
    · intro _; subst hf
      exact sel_of_f (lt_f (show ¬ ((l.length - 1 : Nat) : Int) < ofn (l.length - 1) by simp only [ofn]; omega))
  · have hev : N % 2 = 0 := by omega
    rw [if_neg (fun hc => by omega)]
    refine (sel_of_f (beq_f (by omega))).trans ?_
    simp only [hev]
    generalize hf : (fun (x : List UInt8 × Int × Int × Int × List UInt8 × Unit) => _) = f
    have key := loop_scan (f := f) (fun i => (none' UInt8, (0 : Int), (0 : Int), (i : Int), half' l 0 i, ())) (l.length - 0) (fun i => (nth l (0 + i) (u8 0)).toNat ≤ 9) (none' UInt8, 0, 2, ()) 2 ?_ ?_ ?_
    · have e0 : (none' UInt8, (0 : Int), (0 : Int), ((0 : Nat) : Int), half' l 0 0, ()) = (none' UInt8, (0 : Int), (0 : Int), (0 : Int), l, ()) := by rw [half'_zero]; rfl
      rw [e0] at key
      rcases key with ⟨hall, hr⟩ | ⟨⟨i, hi, hn⟩, hr⟩
      · rw [hr, if_pos ((figs_half hlt).2 hall), ← half'_all]
        show some (half' l 0 (l.length - 0), ((A + M : Nat) : Int), (0 : Int), ()) = _
        rw [List.drop_zero]; simp
      · rw [hr, if_neg (fun hc => hn ((figs_half hlt).1 hc i hi))]; rfl
    · intro i hi hp
      subst hf
      have hi1 : 0 + i < l.length := by omega
      have hp' := hp i (Nat.le_refl _)
      obtain ⟨s1, s2⟩ := half'_step hi1 hp'
      rw [Nat.zero_add] at s1 s2 hp'
      have hin : inB (i : Int) (len (half' l 0 i)) = true := inB_nat (by rw [half'_length]; omega)
      refine (sel_of_t (lt_t (show (i : Int) < len (half' l 0 i) by simp only [len, half'_length]; omega))).trans ?_
      refine (ck_of hin).trans ?_
      have c : i64 (iadd (i : Int) 1) = ((i + 1 : Nat) : Int) := i64_add (b := 1) (by omega)
      simp only [nat_nat, c]
      refine (sel_of_f (by rw [h9, s2, n8n]; exact lt_f (by omega))).trans ?_
      refine (ck_of hin).trans ?_
      refine (ck_of hin).trans ?_
      rw [s1]
    · intro i hi _ hp
      subst hf
      have hi1 : 0 + i < l.length := by omega
      have hin : inB (i : Int) (len (half' l 0 i)) = true := inB_nat (by rw [half'_length]; omega)
      refine (sel_of_t (lt_t (show (i : Int) < len (half' l 0 i) by simp only [len, half'_length]; omega))).trans ?_
      refine (ck_of hin).trans ?_
      simp only [nat_nat]
      have hg := half'_get hi1
      rw [Nat.zero_add] at hg hp
      exact sel_of_t (by rw [h9, hg, n8n]; exact lt_t (by omega))
    · intro _; subst hf
      exact sel_of_f (lt_f (show ¬ ((l.length - 0 : Nat) : Int) < len (half' l 0 (l.length - 0)) by simp only [len, half'_length]; omega))
end Yp
namespace Yp
open Go
def vl (B : Nat) (wt : UInt8 → Nat) (l : List UInt8) : Nat := l.foldl (fun n c => B * n + wt c) 0
theorem vl_snoc (B : Nat) (wt : UInt8 → Nat) (l : List UInt8) (c : UInt8) : vl B wt (l ++ [c]) = B * vl B wt l + wt c := by
  unfold vl; rw [List.foldl_append]; rfl
theorem ps_snoc (B : Nat) (g : Nat → UInt8) (v : Nat) : ∀ n, ps B g v (n + 1) = ps B g (v / B) n ++ [g (v % B)]
  | 0 => by simp [ps]
  | n + 1 => by
    have e : ps B g v (n + 1 + 1) = g (v / B ^ (n + 1) % B) :: ps B g v (n + 1) := rfl
    have e2 : ps B g (v / B) (n + 1) = g (v / B / B ^ n % B) :: ps B g (v / B) n := rfl
    rw [e, ps_snoc B g v n, e2, Nat.div_div_eq_div_mul, Nat.pow_succ', List.cons_append]
theorem vl_ps {B : Nat} {g : Nat → UInt8} {wt : UInt8 → Nat} (hB : 0 < B) (h : ∀ d, d < B → wt (g d) = d) : ∀ (n v : Nat), vl B wt (ps B g v n) = v % B ^ n
  | 0, v => by simp [ps, vl, Nat.mod_one]
  | n + 1, v => by
    rw [ps_snoc, vl_snoc, vl_ps hB h n, h _ (Nat.mod_lt _ hB), Nat.pow_succ', Nat.mod_mul]
    omega
theorem ps_vl {B : Nat} {g : Nat → UInt8} {wt : UInt8 → Nat} {l : List UInt8} (h : ∀ c ∈ l, wt c < B ∧ g (wt c) = c) : ∀ i, i ≤ l.length → ps B g (vl B wt (l.take i)) i = l.take i
  | 0, _ => by simp [ps]
  | i + 1, hi => by
    have hc := h _ (List.getElem_mem (show i < l.length by omega))
    rw [List.take_succ_eq_append_getElem (by omega), vl_snoc, ps_snoc]
    have e1 : (B * vl B wt (l.take i) + wt l[i]) / B = vl B wt (l.take i) := by
      rw [Nat.mul_add_div (by omega), Nat.div_eq_of_lt hc.1]; omega
    have e2 : (B * vl B wt (l.take i) + wt l[i]) % B = wt l[i] := by
      rw [Nat.mul_add_mod, Nat.mod_eq_of_lt hc.1]
    rw [e1, e2, ps_vl h i (by omega), hc.2]
theorem bev_vl (l : List UInt8) : bev l = vl 256 UInt8.toNat l := rfl
theorem val_vl (l : List UInt8) : val l = vl 10 dv l := rfl
theorem bev_ps (v n : Nat) : bev (ps 256 byt v n) = v % 256 ^ n := by
  rw [bev_vl]
  refine vl_ps (by omega) (fun d hd => ?_) n v
  simp only [byt, UInt8.toNat_ofNat']; omega
theorem val_ps (v n : Nat) : val (ps 10 dch v n) = v % 10 ^ n := by
  rw [val_vl]
  refine vl_ps (by omega) (fun d hd => ?_) n v
  simp only [dv, dch, UInt8.toNat_ofNat']; omega
theorem ps_bev (l : List UInt8) : ps 256 byt (bev l) l.length = l := by
  have := ps_vl (B := 256) (g := byt) (wt := UInt8.toNat) (l := l) (fun c _ => ⟨n8_lt c, ofNat_toNat c⟩) l.length (Nat.le_refl _)
  rw [List.take_length] at this; exact this
theorem ps_val {l : List UInt8} (hf : figs l) : ps 10 dch (val l) l.length = l := by
  have := ps_vl (B := 10) (g := dch) (wt := dv) (l := l) (fun c hc => by
    obtain ⟨i, hi, rfl⟩ := List.getElem_of_mem hc
    have := dig_split (hf i hi)
    exact ⟨this.2, this.1.symm⟩) l.length (Nat.le_refl _)
  rw [List.take_length] at this; exact this
theorem bev_lt_pow (l : List UInt8) : bev l < 256 ^ l.length := by
  have := bev_lt (s := l) l.length (Nat.le_refl _)
  rw [List.take_length] at this; exact this
theorem val_lt_pow {l : List UInt8} (hf : figs l) : val l < 10 ^ l.length := by
  have := val_lt (s := l) l.length (Nat.le_refl _) (fun j _ h => hf j h)
  rw [List.take_length] at this; exact this
theorem hexOf_get {b : List UInt8} : ∀ {i : Nat} (h : i < b.length), nth (hexOf b) (2 * i) (u8 0) = nib (b[i].toNat / 16) ∧ nth (hexOf b) (2 * i + 1) (u8 0) = nib (b[i].toNat % 16) := by
  induction b with
  | nil => intro i h; simp at h
  | cons x r ih =>
    intro i h
    have e : hexOf (x :: r) = nib (x.toNat / 16) :: nib (x.toNat % 16) :: hexOf r := rfl
    cases i with
    | zero => rw [e]; exact ⟨rfl, rfl⟩
    | succ i =>
      have := ih (i := i) (by simpa using h)
      rw [e]
      exact this
theorem pairs_ext {a b : List UInt8} {k : Nat} (ha : a.length = 2 * k) (hb : b.length = 2 * k) (h : ∀ i, i < k → nth a (2 * i) (u8 0) = nth b (2 * i) (u8 0) ∧ nth a (2 * i + 1) (u8 0) = nth b (2 * i + 1) (u8 0)) : a = b := by
  apply List.ext_getElem
  · omega
  · intro j h1 h2
    have := h (j / 2) (by omega)
    by_cases hp : j % 2 = 0
    · have := this.1
      rw [show 2 * (j / 2) = j by omega, nth_get h1, nth_get h2] at this; exact this
    · have := this.2
      rw [show 2 * (j / 2) + 1 = j by omega, nth_get h1, nth_get h2] at this; exact this
theorem nib_dv : ∀ d : Nat, d < 16 → isFig (nib d) → dv (nib d) = d := by decide +kernel
theorem dv_nib : ∀ d : Nat, d < 10 → nib d = UInt8.ofNat (48 + d) := by decide +kernel
theorem hval_nib : ∀ c : UInt8, isHex c → nib (hval c) = c := all8 (by decide +kernel)
theorem nib_hval : ∀ d : Nat, d < 16 → isHex (nib d) ∧ hval (nib d) = d := by decide +kernel
theorem hexOf_bcd {p : List UInt8} (hf : figs p) (he : p.length % 2 = 0) : hexOf (bcd p) = p := by
  have hl : (bcd p).length = p.length / 2 := by simp [bcd]
  refine pairs_ext (k := p.length / 2) (by rw [hexOf_length, hl]) (by omega) fun i hi => ?_
  have hi' : i < (bcd p).length := by omega
  have h0 : 2 * i < p.length := by omega
  have h1 : 2 * i + 1 < p.length := by omega
  obtain ⟨e1, e2⟩ := hexOf_get hi'
  obtain ⟨a1, a2⟩ := dig_split (hf _ h0)
  obtain ⟨b1, b2⟩ := dig_split (hf _ h1)
  have hg : (bcd p)[i] = UInt8.ofNat (16 * dv p[2 * i] + dv p[2 * i + 1]) := by simp [bcd, dat, nth_get h0, nth_get h1]
  have hn : (bcd p)[i].toNat = 16 * dv p[2 * i] + dv p[2 * i + 1] := by rw [hg, UInt8.toNat_ofNat']; omega
  rw [e1, e2, hn, nth_get h0, nth_get h1]
  rw [show (16 * dv p[2 * i] + dv p[2 * i + 1]) / 16 = dv p[2 * i] by omega, show (16 * dv p[2 * i] + dv p[2 * i + 1]) % 16 = dv p[2 * i + 1] by omega]
  rw [dv_nib _ a2, dv_nib _ b2]
  exact ⟨a1.symm, b1.symm⟩
theorem bcd_hexOf {u : List UInt8} (hf : figs (hexOf u)) : bcd (hexOf u) = u := by
  have hl := hexOf_length u
  apply List.ext_getElem
  · simp [bcd]; omega
  · intro i h1 h2
    obtain ⟨e1, e2⟩ := hexOf_get h2
    have f0 := hf (2 * i) (by omega)
    have f1 := hf (2 * i + 1) (by omega)
    rw [← nth_get (d := u8 0)] at f0 f1
    rw [e1] at f0; rw [e2] at f1
    have hu := n8_lt u[i]
    simp only [bcd, List.getElem_map, List.getElem_range, dat, e1, e2]
    rw [nib_dv _ (by omega) f0, nib_dv _ (by omega) f1]
    apply UInt8.toNat_inj.1
    rw [UInt8.toNat_ofNat']; omega
theorem hexy_hexOf (b : List UInt8) : hexy (hexOf b) := by
  have hl := hexOf_length b
  refine (hexy_of (k := b.length) (by omega)).1 fun i hi => ?_
  obtain ⟨e1, e2⟩ := hexOf_get hi
  have hu := n8_lt b[i]
  rw [e1, e2]
  exact ⟨(nib_hval _ (by omega)).1, (nib_hval _ (by omega)).1⟩
theorem unh_hexOf (b : List UInt8) : unh (hexOf b) = b := by
  have hl := hexOf_length b
  apply List.ext_getElem
  · simp [unh]; omega
  · intro i h1 h2
    obtain ⟨e1, e2⟩ := hexOf_get h2
    have hu := n8_lt b[i]
    simp only [unh, List.getElem_map, List.getElem_range, e1, e2]
    rw [(nib_hval _ (by omega)).2, (nib_hval _ (by omega)).2]
    apply UInt8.toNat_inj.1
    rw [UInt8.toNat_ofNat']; omega
theorem hexOf_unh {s : List UInt8} (h : hexy s) (he : s.length % 2 = 0) : hexOf (unh s) = s := by
  have hl : (unh s).length = s.length / 2 := by simp [unh]
  refine pairs_ext (k := s.length / 2) (by rw [hexOf_length, hl]) (by omega) fun i hi => ?_
  have hi' : i < (unh s).length := by omega
  have h0 : 2 * i < s.length := by omega
  have h1 : 2 * i + 1 < s.length := by omega
  obtain ⟨e1, e2⟩ := hexOf_get hi'
  have a2 := hval_lt _ (h _ h0)
  have b2 := hval_lt _ (h _ h1)
  have hg : (unh s)[i] = UInt8.ofNat (16 * hval s[2 * i] + hval s[2 * i + 1]) := by simp [unh, nth_get h0, nth_get h1]
  have hn : (unh s)[i].toNat = 16 * hval s[2 * i] + hval s[2 * i + 1] := by rw [hg, UInt8.toNat_ofNat']; omega
  rw [e1, e2, hn, nth_get h0, nth_get h1]
  rw [show (16 * hval s[2 * i] + hval s[2 * i + 1]) / 16 = hval s[2 * i] by omega, show (16 * hval s[2 * i] + hval s[2 * i + 1]) % 16 = hval s[2 * i + 1] by omega]
  exact ⟨hval_nib _ (h _ h0), hval_nib _ (h _ h1)⟩
end Yp

namespace Yp
open Go
theorem lc_ex {σ ρ β : Type} {k : Nat} {y : σ} {kn : σ → Option β} {ke : Nat → σ → Option β} {kr : ρ → Option β} : lc (some (.ex k y)) kn ke kr = ke k y := rfl
theorem lc_rt {σ ρ β : Type} {r : ρ} {kn : σ → Option β} {ke : Nat → σ → Option β} {kr : ρ → Option β} : lc (some (.rt r)) kn ke kr = kr r := rfl
theorem sel_some {α : Type} {c : Bool} {a b : α} : sel c (some a) (some b) = some (sel c a b) := by cases c <;> rfl
theorem sel_same {α : Type} {c : Bool} {a : α} : sel c a a = a := by cases c <;> rfl
theorem loop_find {σ ρ : Type} {f : σ → Option (LS σ ρ)} (st : Nat → σ) (n : Nat) (p : Nat → Prop) (r : Nat → LS σ ρ) (k : Nat) (hr : ∀ i, match r i with | .nx _ => False | _ => True) (hs : ∀ i, i < n → p i → f (st i) = some (.nx (st (i + 1)))) (hb : ∀ i, i < n → ¬ p i → f (st i) = some (r i)) (he : f (st n) = some (.ex k (st n))) :
    ((∀ i, i < n → p i) ∧ loop f (st 0) = some (.ex k (st n))) ∨ ∃ i, i < n ∧ (∀ j, j < i → p j) ∧ ¬ p i ∧ loop f (st 0) = some (r i) := by
  by_cases h : ∀ i, i < n → p i
  · refine .inl ⟨h, ?_⟩
    rw [loop_count st n (fun i hi => hs i hi (h i hi)) 0 (Nat.zero_le _)]
    exact loop_ex he
  · refine .inr ?_
    have hex : ∃ i, i < n ∧ ¬ p i := Classical.byContradiction fun hc => h fun i hi => Classical.byContradiction fun hp => hc ⟨i, hi, hp⟩
    obtain ⟨k, hk, hp⟩ := hex
    induction k using Nat.strongRecOn with
    | _ k ih =>
      by_cases hl : ∃ j, j < k ∧ ¬ p j
      · obtain ⟨j, hj, hpj⟩ := hl
        exact ih j hj (by omega) hpj
      · have hall : ∀ i, i < k → p i := fun i hi => Classical.byContradiction fun hp => hl ⟨i, hi, hp⟩
        refine ⟨k, hk, hall, hp, ?_⟩
        rw [loop_count st k (fun i hi => hs i (by omega) (hall i hi)) 0 (Nat.zero_le _)]
        have := hb k hk hp
        have hrk := hr k
        generalize r k = x at *
        cases x with
        | nx y => exact hrk.elim
        | ex j y => exact loop_ex this
        | rt y => exact loop_rt this
def frows : List (List Int) := [[1, 2, 25], [1, 3, 22, 49, 70], [1, 4, 13, 14, 18], [1, 6, 3, 11, 12, 15], [1, 10, 7], [1, 12, 4], [1, 16, 53], [1, 42, 90], [2, 19, 2], [2, 11, 32, 100], [3, 12, 37], [3, 6, 38], [3, 2, 39], [3, 8, 41], [3, 15, 42], [3, 42, 95], [4, 37, 35], [4, 28, 102], [5, 400, 48], [5, 120, 54], [6, 8, 52, 64, 96, 128], [7, 255, 55], [7, 400, 127]]
def frow (i : Nat) : List Int := nth frows i (none' Int)
def formOf (no : Int) : Option (Int × Int) := (frows.find? fun r => (r.drop 2).contains no).map fun r => (nth r 0 0, nth r 1 0)
def fr (o : Option (Int × Int)) : (Int × Int × Unit) × Bool × Unit := match o with | some (k, l) => ((k, l, ()), true, ()) | none => ((0, 0, ()), false, ())
theorem ref05_in_spec (l : List Int) (n : Int) (hl : l.length ≤ 1000000) : ref05_in (l, n, ()) = some (l.contains n, ()) := by
  unfold ref05_in
  generalize hf : (fun (x_1 : Bool × Int × Unit) => _) = f
  have key := loop_find (f := f) (fun i => (false, (i : Int), ())) l.length (fun i => ¬ nth l i 0 = n) (fun _ => .rt (true, ())) 0 (fun _ => trivial) ?_ ?_ ?_
  · rcases key with ⟨h, hr⟩ | ⟨i, hi, _, hp, hr⟩
    · refine (lc_eq hr).trans ?_
      have : l.contains n = false := by
        rw [List.contains_eq_mem, decide_eq_false_iff_not]
        intro hm
        obtain ⟨i, hi, rfl⟩ := List.getElem_of_mem hm
        exact h i hi (nth_get hi)
      rw [this]; rfl
    · refine (lc_eq hr).trans ?_
      have : l.contains n = true := by
        rw [List.contains_eq_mem, decide_eq_true_eq, ← Classical.not_not.1 hp, nth_get hi]; exact List.getElem_mem hi
      rw [this]; rfl
  · intro i hi hp
    subst hf
    refine (sel_of_t (lt_nat.trans (decide_eq_true hi))).trans ?_
    refine (ck_of (inB_nat hi)).trans ?_
    refine (sel_of_f (beq_f hp)).trans ?_
    have c : i64 (iadd (i : Int) 1) = ((i + 1 : Nat) : Int) := i64_add (b := 1) (by omega)
    simp only [c]
  · intro i hi hp
    subst hf
    refine (sel_of_t (lt_nat.trans (decide_eq_true hi))).trans ?_
    refine (ck_of (inB_nat hi)).trans ?_
    exact sel_of_t (beq_t (Classical.not_not.1 hp))
  · subst hf
    exact sel_of_f (lt_f (by simp only [len]; omega))
theorem find_first {α : Type} {p : α → Bool} : ∀ {l : List α} {i : Nat} (h : i < l.length), (∀ j (hj : j < i), p (l[j]'(by omega)) = false) → p l[i] = true → l.find? p = some l[i]
  | a :: r, 0, _, _, h => by simp only [List.getElem_cons_zero] at h ⊢; exact List.find?_cons_of_pos h
  | a :: r, i + 1, hi, hj, h => by
    rw [List.find?_cons_of_neg (by have := hj 0 (by omega); simp only [List.getElem_cons_zero] at this; rw [this]; exact Bool.false_ne_true)]
    simp only [List.getElem_cons_succ] at h ⊢
    exact find_first (by simpa using hi) (fun j hj' => by have := hj (j + 1) (by omega); simpa using this) h
theorem ref05_Of_spec (no : Int) : ref05_Of (no, ()) = some (fr (formOf no)) := by
  unfold ref05_Of
  generalize hf : (fun (x_1 : Bool × Int × Unit) => _) = f
  have hlen : ∀ i, i < 23 → 3 ≤ (frow i).length ∧ (frow i).length ≤ 10 := by decide
  have hin : ∀ i, i < 23 → ref05_in (sub (frow i) 2 (len (frow i)), no, ()) = some (((frow i).drop 2).contains no, ()) := by
    intro i hi
    have := hlen i hi
    rw [ref05_in_spec _ _ (by simp only [sub, List.length_take, List.length_drop]; omega)]
    have : sub (frow i) 2 (len (frow i)) = (frow i).drop 2 := by
      simp only [sub, len]
      rw [List.take_of_length_le (by simp)]; rfl
    rw [this]
  have key := loop_find (f := f) (fun i => (false, (i : Int), ())) 23 (fun i => ((frow i).drop 2).contains no = false) (fun i => .rt ((nth (frow i) 0 0, nth (frow i) 1 0, ()), true, ())) 0 (fun _ => trivial) ?_ ?_ ?_
  · have hn : ∀ i, (h : i < 23) → frows[i]'(by exact h) = frow i := fun i h => (nth_get (d := none' Int) (by exact h)).symm
    rcases key with ⟨h, hr⟩ | ⟨i, hi, hj, hp, hr⟩
    · refine (lc_eq hr).trans ?_
      have : formOf no = none := by
        unfold formOf
        rw [Option.map_eq_none_iff, List.find?_eq_none]
        intro r hm
        obtain ⟨i, hi, rfl⟩ := List.getElem_of_mem hm
        rw [hn i hi, h i hi]; exact Bool.false_ne_true
      rw [this]; rfl
    · refine (lc_eq hr).trans ?_
      have : formOf no = some (nth (frow i) 0 0, nth (frow i) 1 0) := by
        unfold formOf
        have hfi : frows.find? (fun r => (r.drop 2).contains no) = some (frows[i]'(by exact hi)) := find_first (l := frows) (p := fun (r : List Int) => (r.drop 2).contains no) hi (fun j hj' => (congrArg (fun (r : List Int) => (r.drop 2).contains no) (hn j (by omega))).trans (hj j hj')) ((congrArg (fun (r : List Int) => (r.drop 2).contains no) (hn i hi)).trans ((Bool.not_eq_false _).mp hp))
        rw [hfi, hn i hi]; rfl
      rw [this]; rfl
  · intro i hi hp
    subst hf
    have h := hlen i hi
    refine (sel_of_t (lt_nat (b := 23).trans (decide_eq_true hi))).trans ?_
    refine (ck_of (inB_nat (n := 23) hi)).trans ?_
    refine (ck_of (show inC 2 (len (frow i)) (len (frow i)) = true from inC_t (by omega) (by simp only [len]; omega) (by omega))).trans ?_
    refine (ob_of (hin i hi)).trans ?_
    refine (sel_of_f hp).trans ?_
    have c : i64 (iadd (i : Int) 1) = ((i + 1 : Nat) : Int) := i64_add (b := 1) (by omega)
    simp only [c]
  · intro i hi hp
    subst hf
    have h := hlen i hi
    refine (sel_of_t (lt_nat (b := 23).trans (decide_eq_true hi))).trans ?_
    refine (ck_of (inB_nat (n := 23) hi)).trans ?_
    refine (ck_of (show inC 2 (len (frow i)) (len (frow i)) = true from inC_t (by omega) (by simp only [len]; omega) (by omega))).trans ?_
    refine (ob_of (hin i hi)).trans ?_
    refine (sel_of_t ((Bool.not_eq_false _).mp hp)).trans ?_
    repeat refine (ck_of (inB_nat (n := 23) hi)).trans ?_
    repeat first
      | refine (ck_of (show inB 0 (len (frow i)) = true from inB_t (by omega) (by simp only [len]; omega))).trans ?_
      | refine (ck_of (show inB 1 (len (frow i)) = true from inB_t (by omega) (by simp only [len]; omega))).trans ?_
      | refine (ck_of (inB_nat (n := 23) hi)).trans ?_
    rfl
  · subst hf
    exact sel_of_f (lt_f (by simp only [len]; decide))
def fnums : List Int := frows.flatMap fun r => r.drop 2
noncomputable def lg (k no : Int) : Int := match field_long (k, no, ()) with | some (a, ()) => a | none => 0
theorem field_figures_some (no : Int) : ∃ a, field_figures (no, ()) = some (a, ()) := by
  unfold field_figures
  simp only [sel_some]
  exact ⟨_, rfl⟩
theorem field_long_spec (k no : Int) : field_long (k, no, ()) = some (lg k no, ()) := by
  have : ∃ a, field_long (k, no, ()) = some (a, ()) := by
    unfold field_long
    obtain ⟨a, ha⟩ := field_figures_some no
    simp only [ha, ob_s, sel_some]
    exact ⟨_, rfl⟩
  obtain ⟨a, ha⟩ := this
  unfold lg; rw [ha]
noncomputable def pickF (no : Int) : Option (Int × Int) := if 0 < lg 1 no then some (1, lg 1 no) else if 0 < lg 2 no then some (2, lg 2 no) else if 0 < lg 3 no then some (3, lg 3 no) else if 0 < lg 4 no then some (4, lg 4 no)
  else if 0 < lg 5 no then some (5, lg 5 no) else if 0 < lg 6 no then some (6, lg 6 no) else if 0 < lg 7 no then some (7, lg 7 no) else none
theorem field_Of_pick (no : Int) : field_Of (no, ()) = some (fr (pickF no)) := by
  unfold field_Of
  generalize hf : (fun (x_1 : Bool × Int × Unit) => _) = f
  have step : ∀ k : Nat, k ≤ 7 → f (false, (k : Int), ()) = if 0 < lg k no then some (.rt (((k : Int), lg k no, ()), true, ())) else some (.nx (false, ((k + 1 : Nat) : Int), ())) := by
    intro k hk
    subst hf
    refine (sel_of_t (le_t (show (k : Int) ≤ 7 by omega))).trans ?_
    refine (ob_of (field_long_spec _ _)).trans ?_
    have c : i64 (iadd (k : Int) 1) = ((k + 1 : Nat) : Int) := i64_add (b := 1) (by omega)
    simp only [c]
    by_cases h : 0 < lg k no
    · rw [if_pos h]; exact sel_of_t (lt_t h)
    · rw [if_neg h]; exact sel_of_f (lt_f h)
  have last : f (false, ((8 : Nat) : Int), ()) = some (.ex 0 (false, ((8 : Nat) : Int), ())) := by
    subst hf; exact sel_of_f (le_f (show ¬ ((8 : Nat) : Int) ≤ 7 by omega))
  have key : ∀ k : Nat, k ≤ 7 → lg k no ≤ 0 → loop f (false, (k : Int), ()) = loop f (false, ((k + 1 : Nat) : Int), ()) := fun k hk h => loop_nx (by rw [step k hk, if_neg (by omega)])
  have hit : ∀ k : Nat, k ≤ 7 → 0 < lg k no → loop f (false, (k : Int), ()) = some (.rt (((k : Int), lg k no, ()), true, ())) := fun k hk h => loop_rt (by rw [step k hk, if_pos h])
  have := key 1; have := key 2; have := key 3; have := key 4; have := key 5; have := key 6; have := key 7
  have := hit 1; have := hit 2; have := hit 3; have := hit 4; have := hit 5; have := hit 6; have := hit 7
  have h8 : loop f (false, ((8 : Nat) : Int), ()) = some (.ex 0 (false, ((8 : Nat) : Int), ())) := loop_ex last
  show lc (loop f (false, ((1 : Nat) : Int), ())) _ _ _ = _
  unfold pickF
  repeat' split
  all_goals
    simp_all
    first | done | rfl
theorem lg_none {no : Int} (h : ∀ c ∈ fnums, ¬ no = c) : ∀ k, lg k no = 0 := by
  have h' : ∀ c ∈ fnums, beq no c = false := fun c hc => beq_f (h c hc)
  have e : fnums = [25, 22, 49, 70, 13, 14, 18, 3, 11, 12, 15, 7, 4, 53, 90, 2, 32, 100, 37, 38, 39, 41, 42, 95, 35, 102, 48, 54, 52, 64, 96, 128, 55, 127] := by decide
  rw [e] at h'
  simp only [List.mem_cons, List.not_mem_nil, or_false, forall_eq_or_imp, forall_eq] at h'
  intro k
  unfold lg field_long field_figures
  simp only [h', sel_f, ob_s, sel_same]
theorem pick_form (no : Int) : pickF no = formOf no := by
  by_cases h : no ∈ fnums
  · exact (by decide +kernel : ∀ no ∈ fnums, pickF no = formOf no) no h
  · have h' : ∀ c ∈ fnums, ¬ no = c := fun c hc e => h (e ▸ hc)
    have e1 : pickF no = none := by simp [pickF, lg_none h']
    have e2 : formOf no = none := by
      unfold formOf
      rw [Option.map_eq_none_iff, List.find?_eq_none]
      intro r hr hc
      rw [List.contains_eq_mem, decide_eq_true_eq] at hc
      exact h (List.mem_flatMap.2 ⟨r, hr, hc⟩)
    rw [e1, e2]
theorem field_Of_spec (no : Int) : field_Of (no, ()) = some (fr (formOf no)) := by rw [field_Of_pick, pick_form]
def kinds (k : Int) : Prop := k = 1 ∨ k = 2 ∨ k = 3 ∨ k = 4 ∨ k = 5 ∨ k = 6 ∨ k = 7
instance (k : Int) : Decidable (kinds k) := by unfold kinds; infer_instance
theorem form_ok {no k l : Int} (h : formOf no = some (k, l)) : kinds k ∧ 1 ≤ l ∧ l ≤ 400 ∧ (k = 2 ∨ k = 4 → l ≤ 99) := by
  unfold formOf at h
  rw [Option.map_eq_some_iff] at h
  obtain ⟨r, hr, he⟩ := h
  have hm := List.mem_of_find?_eq_some hr
  have : ∀ r ∈ frows, kinds (nth r 0 0) ∧ 1 ≤ nth r 1 0 ∧ nth r 1 0 ≤ 400 ∧ (nth r 0 0 = 2 ∨ nth r 0 0 = 4 → nth r 1 0 ≤ 99) := by decide +kernel
  have := this r hm
  cases he
  exact this
end Yp

namespace Yp
open Go
def rng (lo hi : Int) (v : List UInt8) : Prop := ∀ i (h : i < v.length), lo ≤ n8 v[i] ∧ n8 v[i] ≤ hi
instance (lo hi : Int) (v : List UInt8) : Decidable (rng lo hi v) := inferInstanceAs (Decidable (∀ (i : Nat) (h : i < v.length), lo ≤ n8 v[i] ∧ n8 v[i] ≤ hi))
theorem okl (lo hi : UInt8) (v : List UInt8) (hl : v.length ≤ 1000000) : ∃ i, loop (fun (x_1 : Bool × Int × Unit) =>
    sel (lt x_1.2.1 (len v)) (ck (inB x_1.2.1 (len v)) (ob (sel (lt (n8 (nth v (nat x_1.2.1) (u8 0))) (n8 lo)) (some (true, ())) (some (lt (n8 hi) (n8 (nth v (nat x_1.2.1) (u8 0))), ())))
      fun (a : Bool × Unit) => sel a.1 (some (LS.ex 999999999 (false, x_1.2.1, ()))) (some (LS.nx (x_1.1, i64 (iadd x_1.2.1 1), ())))))
      (some (LS.ex 0 (x_1.1, x_1.2.1, ()) : LS (Bool × Int × Unit) Unit))) (false, 0, ()) = some (if rng (n8 lo) (n8 hi) v then .ex 0 (false, i, ()) else .ex 999999999 (false, i, ())) := by
  generalize hf : (fun (x_1 : Bool × Int × Unit) => _) = f
  have key := loop_find (f := f) (fun i => (false, (i : Int), ())) v.length (fun i => n8 lo ≤ n8 (nth v i (u8 0)) ∧ n8 (nth v i (u8 0)) ≤ n8 hi) (fun i => .ex 999999999 (false, (i : Int), ())) 0 (fun _ => trivial) ?_ ?_ ?_
  · rcases key with ⟨h, hr⟩ | ⟨i, hi, _, hp, hr⟩
    · refine ⟨(v.length : Int), hr.trans ?_⟩
      rw [if_pos (show rng (n8 lo) (n8 hi) v from fun i hi => by have := h i hi; rwa [nth_get hi] at this)]
    · refine ⟨(i : Int), hr.trans ?_⟩
      rw [if_neg (fun (hc : rng (n8 lo) (n8 _) v) => hp (by have := hc i hi; rwa [← nth_get (d := u8 0) hi] at this))]
  · intro i hi hp
    subst hf
    refine (sel_of_t (lt_nat.trans (decide_eq_true hi))).trans ?_
    refine (ck_of (inB_nat hi)).trans ?_
    have c : i64 (iadd (i : Int) 1) = ((i + 1 : Nat) : Int) := i64_add (b := 1) (by omega)
    simp only [nat_nat, c]
    refine (ob_of (a := (false, ())) ((sel_of_f (lt_f (by omega))).trans (congrArg (fun b => some (b, ())) (lt_f (by omega))))).trans ?_
    rfl
  · intro i hi hp
    subst hf
    refine (sel_of_t (lt_nat.trans (decide_eq_true hi))).trans ?_
    refine (ck_of (inB_nat hi)).trans ?_
    simp only [nat_nat]
    by_cases h : n8 (nth v i (u8 0)) < n8 lo
    · exact (ob_of (sel_of_t (lt_t h))).trans rfl
    · exact (ob_of (a := (true, ())) ((sel_of_f (lt_f h)).trans (congrArg (fun b => some (b, ())) (lt_t (by omega))))).trans rfl
  · subst hf
    exact sel_of_f (lt_f (by simp only [len]; omega))
def fch (k : Int) (v : List UInt8) : Prop := (k ≤ 2 → figs v) ∧ (k ≤ 5 → rng 32 126 v)
def fln (k l : Int) (n : Nat) : Prop := if k = 1 ∨ k = 3 ∨ k = 6 then (n : Int) = l else 1 ≤ n ∧ (n : Int) ≤ l
instance (k l : Int) (n : Nat) : Decidable (fln k l n) := by unfold fln; infer_instance
def fv (k l : Int) (v : List UInt8) : Prop := fch k v ∧ fln k l v.length
instance (k l : Int) (v : List UInt8) : Decidable (fv k l v) := inferInstanceAs (Decidable (((k ≤ 2 → figs v) ∧ (k ≤ 5 → rng 32 126 v)) ∧ fln k l v.length))
theorem n8_nat (c : UInt8) : n8 c = ((c.toNat : Nat) : Int) := rfl
theorem rng_figs {v : List UInt8} : rng 48 57 v ↔ figs v := by
  unfold rng figs isFig
  refine forall_congr' fun i => forall_congr' fun h => ?_
  rw [n8_nat]; omega
theorem figs_rng {v : List UInt8} (h : figs v) : rng 32 126 v := fun i hi => by
  have := h i hi
  unfold isFig at this
  rw [n8_nat]; omega
def cnt (k : Int) : Int := if k = 2 ∨ k = 4 then 2 else if k = 5 ∨ k = 7 then 3 else 0
theorem field_told_spec {k : Int} (hk : kinds k) : field_told (k, ()) = some (cnt k, ()) := by
  rcases hk with rfl | rfl | rfl | rfl | rfl | rfl | rfl <;> rfl
theorem ref05_count_spec {k : Int} (hk : kinds k) : ref05_count (k, ()) = some (cnt k, ()) := by
  rcases hk with rfl | rfl | rfl | rfl | rfl | rfl | rfl <;> rfl
theorem fr_some {o : Option (Int × Int)} {k l : Int} (h : o = some (k, l)) : fr o = ((k, l, ()), true, ()) := by rw [h]; rfl
theorem fr_none {o : Option (Int × Int)} (h : o = none) : fr o = ((0, 0, ()), false, ()) := by rw [h]; rfl
theorem some_b {a b : Bool} (h : a = b) : some (a, ()) = some (b, ()) := by rw [h]
def fitsD (no : Int) (v : List UInt8) : Bool := match formOf no with | some (k, l) => decide (fv k l v) | none => false
theorem field_Fits_spec (no : Int) (v : List UInt8) (hl : v.length ≤ 1000000) : field_Fits (no, v, ()) = some (fitsD no v, ()) := by
  unfold field_Fits fitsD
  refine (ob_of (field_Of_spec no)).trans ?_
  cases ho : formOf no with
  | none => exact (ob_of (a := (true, ())) (sel_of_t rfl)).trans rfl
  | some p =>
    obtain ⟨k, l⟩ := p
    rw [fr_some rfl]
    obtain ⟨hk, h1, h400, h99⟩ := form_ok ho
    by_cases hlen : l < v.length
    · refine (ob_of (a := (true, ())) ((sel_of_f rfl).trans (some_b (lt_t hlen)))).trans ?_
      refine (sel_of_t rfl).trans (some_b ?_)
      refine (decide_eq_false fun h => ?_).symm
      have := h.2
      unfold fln at this
      split at this <;> omega
    refine (ob_of (a := (false, ())) ((sel_of_f rfl).trans (some_b (lt_f hlen)))).trans ?_
    obtain ⟨i, r1⟩ := okl (u8 48) (u8 57) v hl
    obtain ⟨j, r2⟩ := okl (u8 32) (u8 126) v hl
    have e1 : rng (n8 (u8 48)) (n8 (u8 57)) v ↔ figs v := rng_figs
    have e2 : rng (n8 (u8 32)) (n8 (u8 126)) v ↔ rng 32 126 v := Iff.rfl
    simp only [e1] at r1
    simp only [e2] at r2
    have ht := field_told_spec hk
    have zz : ∀ {c : Bool} {p : Prop} [Decidable p], (c = true ↔ p) → some (c, ()) = some (decide p, ()) := fun {c p _} h => some_b (Bool.eq_iff_iff.2 (h.trans decide_eq_true_iff.symm))
    refine (sel_of_f rfl).trans ?_
    rcases hk with rfl | rfl | rfl | rfl | rfl | rfl | rfl
    · refine (sel_of_t rfl).trans ?_; refine (sel_of_t rfl).trans ?_
      refine (lc_eq r1).trans ?_
      by_cases hf : figs v
      · rw [if_pos hf]
        refine lc_ex.trans ?_
        refine (sel_of_f rfl).trans ?_; refine (ck_of rfl).trans ?_
        refine (lc_eq r2).trans ?_
        rw [if_pos (figs_rng hf)]
        refine lc_ex.trans ?_
        refine (sel_of_f rfl).trans ?_; refine (ck_of rfl).trans ?_
        refine (ob_of ht).trans ?_
        refine (sel_of_f rfl).trans ?_
        refine zz ?_
        simp [beq, len, fv, fln, fch, hf, figs_rng hf]
      · rw [if_neg hf]
        refine lc_ex.trans ?_
        refine (sel_of_t rfl).trans ?_; refine (sel_of_t rfl).trans ?_
        exact some_b (decide_eq_false fun h => hf (h.1.1 (by omega))).symm
    · refine (sel_of_f rfl).trans ?_; refine (sel_of_t rfl).trans ?_
      refine (lc_eq r1).trans ?_
      by_cases hf : figs v
      · rw [if_pos hf]
        refine lc_ex.trans ?_
        refine (sel_of_f rfl).trans ?_; refine (ck_of rfl).trans ?_
        refine (lc_eq r2).trans ?_
        rw [if_pos (figs_rng hf)]
        refine lc_ex.trans ?_
        refine (sel_of_f rfl).trans ?_; refine (ck_of rfl).trans ?_
        refine (ob_of ht).trans ?_
        refine (sel_of_t rfl).trans ?_
        refine zz ?_
        simp [lt, len, fv, fln, fch, hf, figs_rng hf]
        omega
      · rw [if_neg hf]
        refine lc_ex.trans ?_
        refine (sel_of_t rfl).trans ?_; refine (sel_of_t rfl).trans ?_
        exact some_b (decide_eq_false fun h => hf (h.1.1 (by omega))).symm
    · refine (sel_of_f rfl).trans ?_; refine (sel_of_f rfl).trans ?_; refine (sel_of_t rfl).trans ?_; refine (sel_of_t rfl).trans ?_
      refine (lc_eq r2).trans ?_
      by_cases hf : rng 32 126 v
      · rw [if_pos hf]
        refine lc_ex.trans ?_
        refine (sel_of_f rfl).trans ?_; refine (ck_of rfl).trans ?_
        refine (ob_of ht).trans ?_
        refine (sel_of_f rfl).trans ?_
        refine zz ?_
        simp [beq, len, fv, fln, fch, hf]
      · rw [if_neg hf]
        refine lc_ex.trans ?_
        refine (sel_of_t rfl).trans ?_; refine (sel_of_t rfl).trans ?_
        exact some_b (decide_eq_false fun h => hf (h.1.2 (by omega))).symm
    · refine (sel_of_f rfl).trans ?_; refine (sel_of_f rfl).trans ?_; refine (sel_of_f rfl).trans ?_; refine (sel_of_t rfl).trans ?_
      refine (lc_eq r2).trans ?_
      by_cases hf : rng 32 126 v
      · rw [if_pos hf]
        refine lc_ex.trans ?_
        refine (sel_of_f rfl).trans ?_; refine (ck_of rfl).trans ?_
        refine (ob_of ht).trans ?_
        refine (sel_of_t rfl).trans ?_
        refine zz ?_
        simp [lt, len, fv, fln, fch, hf]
        omega
      · rw [if_neg hf]
        refine lc_ex.trans ?_
        refine (sel_of_t rfl).trans ?_; refine (sel_of_t rfl).trans ?_
        exact some_b (decide_eq_false fun h => hf (h.1.2 (by omega))).symm
    · refine (sel_of_f rfl).trans ?_; refine (sel_of_f rfl).trans ?_; refine (sel_of_f rfl).trans ?_; refine (sel_of_f rfl).trans ?_; refine (sel_of_t rfl).trans ?_
      refine (lc_eq r2).trans ?_
      by_cases hf : rng 32 126 v
      · rw [if_pos hf]
        refine lc_ex.trans ?_
        refine (sel_of_f rfl).trans ?_; refine (ck_of rfl).trans ?_
        refine (ob_of ht).trans ?_
        refine (sel_of_t rfl).trans ?_
        refine zz ?_
        simp [lt, len, fv, fln, fch, hf]
        omega
      · rw [if_neg hf]
        refine lc_ex.trans ?_
        refine (sel_of_t rfl).trans ?_; refine (sel_of_t rfl).trans ?_
        exact some_b (decide_eq_false fun h => hf (h.1.2 (by omega))).symm
    · refine (sel_of_f rfl).trans ?_; refine (sel_of_f rfl).trans ?_; refine (sel_of_f rfl).trans ?_; refine (sel_of_f rfl).trans ?_; refine (sel_of_f rfl).trans ?_
      refine (ob_of ht).trans ?_
      refine (sel_of_f rfl).trans ?_
      refine zz ?_
      simp [beq, len, fv, fln, fch]
    · refine (sel_of_f rfl).trans ?_; refine (sel_of_f rfl).trans ?_; refine (sel_of_f rfl).trans ?_; refine (sel_of_f rfl).trans ?_; refine (sel_of_f rfl).trans ?_
      refine (ob_of ht).trans ?_
      refine (sel_of_t rfl).trans ?_
      refine zz ?_
      simp [lt, len, fv, fln, fch]
      omega
end Yp

namespace Yp
open Go
theorem ref05_fits_spec (k l : Int) (v : List UInt8) (hl : v.length ≤ 1000000) : ∃ b, ref05_fits ((k, l, ()), v, ()) = some (b, ()) ∧ (1 ≤ k → b = decide (fv k l v)) := by
  unfold ref05_fits
  generalize hf : (fun (x_1 : Bool × Int × Unit) => _) = f
  have n48 : n8 (u8 48) = 48 := by decide
  have n57 : n8 (u8 57) = 57 := by decide
  have n32 : n8 (u8 32) = 32 := by decide
  have n126 : n8 (u8 126) = 126 := by decide
  have key := loop_find (f := f) (fun i => (false, (i : Int), ())) v.length (fun i => (k ≤ 2 → 48 ≤ n8 (nth v i (u8 0)) ∧ n8 (nth v i (u8 0)) ≤ 57) ∧ (3 ≤ k → k ≤ 5 → 32 ≤ n8 (nth v i (u8 0)) ∧ n8 (nth v i (u8 0)) ≤ 126)) (fun i => .rt (false, ())) 0 (fun _ => trivial) ?_ ?_ ?_
  · rcases key with ⟨h, hr⟩ | ⟨i, hi, _, hp, hr⟩
    · refine ⟨fln k l v.length, ?_, fun hk => ?_⟩
      · refine (lc_eq hr).trans ?_
        refine lc_ex.trans ?_
        refine (ck_of rfl).trans ?_
        by_cases hk : k = 1 ∨ k = 3 ∨ k = 6
        · refine (ob_of (a := (true, ())) ?_).trans ?_
          · rcases hk with rfl | rfl | rfl
            · exact sel_of_t rfl
            · exact (sel_of_f rfl).trans (sel_of_t rfl)
            · exact (sel_of_f rfl).trans ((sel_of_f rfl).trans rfl)
          · refine (sel_of_t rfl).trans ?_
            refine some_b ?_
            rw [Bool.eq_iff_iff]
            simp only [beq, len, fln, if_pos hk, decide_eq_true_eq, beq_iff_eq]
        · refine (ob_of (a := (false, ())) ?_).trans ?_
          · exact (sel_of_f (beq_f (fun h => hk (.inl h)))).trans ((sel_of_f (beq_f (fun h => hk (.inr (.inl h))))).trans (some_b (beq_f (fun h => hk (.inr (.inr h))))))
          · refine (sel_of_f rfl).trans ?_
            by_cases h1 : 1 ≤ v.length
            · refine (ob_of (sel_of_t (le_t (by simp only [len]; omega)))).trans ?_
              refine some_b ?_
              rw [Bool.eq_iff_iff]
              simp only [le, len, fln, if_neg hk, decide_eq_true_eq]; exact (decide_eq_true_iff (p := (v.length : Int) ≤ l)).trans ⟨fun h => ⟨h1, h⟩, fun h => h.2⟩
            · refine (ob_of (sel_of_f (le_f (by simp only [len]; omega)))).trans ?_
              refine some_b ?_
              rw [Bool.eq_iff_iff]
              simp only [fln, if_neg hk, decide_eq_true_eq, Bool.false_eq_true, false_iff]; omega
      · have hc : fch k v := by
          refine ⟨fun h2 i hi => ?_, fun h5 i hi => ?_⟩
          · have := (h i hi).1 h2
            rw [nth_get hi, n8_nat] at this
            unfold isFig; omega
          · by_cases h2 : k ≤ 2
            · have := (h i hi).1 h2
              rw [nth_get hi] at this; omega
            · have := (h i hi).2 (by omega) h5
              rw [nth_get hi] at this; omega
        rw [Bool.eq_iff_iff]
        simp [fv, hc]
    · refine ⟨false, (lc_eq hr).trans rfl, fun hk => (decide_eq_false fun hc => hp ⟨fun h2 => ?_, fun h3 h5 => ?_⟩).symm⟩
      · have := hc.1.1 h2 i hi
        unfold isFig at this
        rw [nth_get hi, n8_nat]; omega
      · have := hc.1.2 h5 i hi
        rw [nth_get hi]; omega
  · intro i hi hp
    subst hf
    refine (sel_of_t (lt_nat.trans (decide_eq_true hi))).trans ?_
    have c : i64 (iadd (i : Int) 1) = ((i + 1 : Nat) : Int) := i64_add (b := 1) (by omega)
    have ci : inB (i : Int) (len v) = true := inB_nat hi
    simp only [nat_nat, c, n48, n57, n32, n126, ci]
    refine (ob_of (a := (false, ())) ?_).trans rfl
    by_cases h2 : k ≤ 2
    · have := hp.1 h2
      refine (sel_of_t (le_t h2)).trans ?_
      refine (ck_of rfl).trans ?_
      refine (sel_of_f (lt_f (by omega))).trans ?_
      refine (ck_of rfl).trans ?_
      refine (sel_of_f (lt_f (by omega))).trans ?_
      exact sel_of_f (le_f (show ¬ 3 ≤ k by omega))
    · refine (sel_of_f (le_f h2)).trans ?_
      refine (sel_of_t (le_t (show 3 ≤ k by omega))).trans ?_
      by_cases h5 : k ≤ 5
      · have := hp.2 (by omega) h5
        refine (sel_of_t (le_t h5)).trans ?_
        refine (ck_of rfl).trans ?_
        refine (sel_of_f (lt_f (by omega))).trans ?_
        refine (ck_of rfl).trans ?_
        exact some_b (lt_f (by omega))
      · exact sel_of_f (le_f h5)
  · intro i hi hp
    subst hf
    refine (sel_of_t (lt_nat.trans (decide_eq_true hi))).trans ?_
    have ci : inB (i : Int) (len v) = true := inB_nat hi
    simp only [nat_nat, n48, n57, n32, n126, ci]
    refine (ob_of (a := (true, ())) ?_).trans rfl
    by_cases h2 : k ≤ 2
    · refine (sel_of_t (le_t h2)).trans ?_
      refine (ck_of rfl).trans ?_
      by_cases ha : n8 (nth v i (u8 0)) < 48
      · exact sel_of_t (lt_t ha)
      · refine (sel_of_f (lt_f ha)).trans ?_
        refine (ck_of rfl).trans ?_
        refine (sel_of_t (lt_t ?_)).trans rfl
        refine Classical.byContradiction fun hb => hp ⟨fun _ => by omega, fun h => by omega⟩
    · by_cases h5 : k ≤ 5
      · refine (sel_of_f (le_f h2)).trans ?_
        refine (sel_of_t (le_t (show 3 ≤ k by omega))).trans ?_
        refine (sel_of_t (le_t h5)).trans ?_
        refine (ck_of rfl).trans ?_
        by_cases ha : n8 (nth v i (u8 0)) < 32
        · exact sel_of_t (lt_t ha)
        · refine (sel_of_f (lt_f ha)).trans ?_
          refine (ck_of rfl).trans ?_
          refine some_b (lt_t ?_)
          refine Classical.byContradiction fun hb => hp ⟨fun _ => by omega, fun _ _ => by omega⟩
      · exact absurd ⟨fun h => absurd h h2, fun _ h => absurd h h5⟩ hp
  · subst hf
    exact sel_of_f (lt_f (by simp only [len]; omega))
theorem ref05_Fits_spec (no : Int) (v : List UInt8) (hl : v.length ≤ 1000000) : ref05_Fits (no, v, ()) = some (fitsD no v, ()) := by
  unfold ref05_Fits fitsD
  refine (ob_of (ref05_Of_spec no)).trans ?_
  cases ho : formOf no with
  | none =>
    rw [fr_none rfl]
    obtain ⟨b, hb, _⟩ := ref05_fits_spec 0 0 v hl
    refine (ob_of hb).trans ?_
    exact (ob_of (sel_of_f rfl)).trans rfl
  | some p =>
    obtain ⟨k, l⟩ := p
    rw [fr_some rfl]
    obtain ⟨b, hb, h⟩ := ref05_fits_spec k l v hl
    refine (ob_of hb).trans ?_
    refine (ob_of (sel_of_t rfl)).trans (some_b (h ?_))
    have := (form_ok ho).1
    unfold kinds at this; omega
def hdr (k : Int) (n : Nat) : List UInt8 := if 0 < cnt k then bcd (pad (ps 10 dch n (cnt k).toNat)) else []
def body (k : Int) (v : List UInt8) : List UInt8 := if k ≤ 2 then bcd (pad v) else v
def wrF (k : Int) (v : List UInt8) : List UInt8 := hdr k v.length ++ body k v
def wrD (no : Int) (v : List UInt8) : List UInt8 × Int × Unit := match formOf no with | none => ([], 12, ()) | some (k, l) => if fv k l v then (wrF k v, 0, ()) else ([], 1, ())
theorem bcd_length (p : List UInt8) : (bcd p).length = p.length / 2 := by simp [bcd]
theorem bcdpad_length (p : List UInt8) : (bcd (pad p)).length = (p.length + 1) / 2 := by rw [bcd_length, pad_length]; omega
theorem body_length (k : Int) (v : List UInt8) : (body k v).length = if k ≤ 2 then (v.length + 1) / 2 else v.length := by
  unfold body; split
  · exact bcdpad_length v
  · rfl
theorem cnt_lt {k l : Int} {v : List UInt8} (hk : kinds k) (h99 : k = 2 ∨ k = 4 → l ≤ 99) (h400 : l ≤ 400) (hv : fv k l v) (h0 : 0 < cnt k) : (1 ≤ cnt k ∧ cnt k ≤ 18) ∧ (0 ≤ (v.length : Int) ∧ (v.length : Int) < 10 ^ (cnt k).toNat) ∧ 1 ≤ v.length ∧ (v.length : Int) ≤ l := by
  have := hv.2
  unfold fln at this
  rcases hk with rfl | rfl | rfl | rfl | rfl | rfl | rfl
  · exact absurd h0 (by decide)
  · have h2 : (10 : Int) ^ (cnt 2).toNat = 100 := by decide
    rw [if_neg (by decide)] at this
    rw [h2]; exact ⟨by decide, by omega, by omega⟩
  · exact absurd h0 (by decide)
  · have h2 : (10 : Int) ^ (cnt 4).toNat = 100 := by decide
    rw [if_neg (by decide)] at this
    rw [h2]; exact ⟨by decide, by omega, by omega⟩
  · have h2 : (10 : Int) ^ (cnt 5).toNat = 1000 := by decide
    rw [if_neg (by decide)] at this
    rw [h2]; exact ⟨by decide, by omega, by omega⟩
  · exact absurd h0 (by decide)
  · have h2 : (10 : Int) ^ (cnt 7).toNat = 1000 := by decide
    rw [if_neg (by decide)] at this
    rw [h2]; exact ⟨by decide, by omega, by omega⟩
theorem cnt_range {k : Int} (hk : kinds k) : cnt k = 0 ∨ cnt k = 2 ∨ cnt k = 3 := by
  unfold cnt; split
  · simp
  · split <;> simp
theorem num_sel {k : Int} (hk : kinds k) : (sel (beq k 1) (some (true, ())) (some (beq k 2, ())) : Option (Bool × Unit)) = some (decide (k ≤ 2), ()) := by
  rcases hk with rfl | rfl | rfl | rfl | rfl | rfl | rfl <;> rfl
theorem field_Write_spec (no : Int) (v : List UInt8) (hl : v.length ≤ 1000000) : field_Write (no, v, ()) = some (wrD no v) := by
  unfold field_Write wrD
  refine (ob_of (field_Of_spec no)).trans ?_
  cases ho : formOf no with
  | none => rfl
  | some p =>
    obtain ⟨k, l⟩ := p
    rw [fr_some rfl]
    obtain ⟨hk, h1, h400, h99⟩ := form_ok ho
    refine (sel_of_f rfl).trans ?_
    refine (ob_of (field_Fits_spec no v hl)).trans ?_
    have hfd : fitsD no v = decide (fv k l v) := by unfold fitsD; rw [ho]
    rw [hfd]
    by_cases hv : fv k l v
    rotate_left
    · rw [decide_eq_false hv]
      refine (sel_of_t rfl).trans ?_
      simp only [if_neg hv]; rfl
    rw [decide_eq_true hv]
    refine (sel_of_f rfl).trans ?_
    simp only [if_pos hv]
    refine (ob_of (field_told_spec hk)).trans ?_
    have hb := num_sel hk
    have hfig : k ≤ 2 → dig_Bcd (v, ()) = some (body k v, 0, ()) := fun h => by
      rw [dig_Bcd_spec v hl, if_pos (hv.1.1 h)]; unfold body; rw [if_pos h]
    have hvl := body_length k v
    by_cases h0 : 0 < cnt k
    · obtain ⟨c1, c2, c3⟩ := cnt_lt hk h99 h400 hv h0
      refine (sel_of_t (lt_t h0)).trans ?_
      have hd : dig_Digits (len v, cnt k, ()) = some (ps 10 dch v.length (cnt k).toNat, 0, ()) := by
        rw [dig_Digits_spec _ _ (by simp only [len]; omega), if_pos ⟨c1.1, c1.2, c2⟩]; rfl
      refine (ob_of hd).trans ?_
      have hbc : dig_Bcd (ps 10 dch v.length (cnt k).toNat, ()) = some (hdr k v.length, 0, ()) := by
        rw [dig_Bcd_spec _ (by rw [ps_length]; omega), if_pos figs_ps]; unfold hdr; rw [if_pos h0]
      refine (ob_of hbc).trans ?_
      refine (ob_of hb).trans ?_
      have hhl : (hdr k v.length).length ≤ 10 := by
        unfold hdr; rw [if_pos h0, bcdpad_length, ps_length]; omega
      by_cases h2 : k ≤ 2
      · refine (sel_of_t (decide_eq_true h2)).trans ?_
        refine (ob_of (hfig h2)).trans ?_
        rw [if_pos h2] at hvl
        exact (ck_of (rm_t (by simp only [nadd, ln]; omega))).trans rfl
      · refine (sel_of_f (decide_eq_false h2)).trans ?_
        refine (ck_of (rm_t (by simp only [nadd, ln]; omega))).trans ?_
        have : body k v = v := by unfold body; rw [if_neg h2]
        simp only [wrF, this]; rfl
    · refine (sel_of_f (lt_f h0)).trans ?_
      refine (ob_of hb).trans ?_
      have hh : hdr k v.length = [] := by unfold hdr; rw [if_neg h0]
      by_cases h2 : k ≤ 2
      · refine (sel_of_t (decide_eq_true h2)).trans ?_
        refine (ob_of (hfig h2)).trans ?_
        rw [if_pos h2] at hvl
        refine (ck_of (rm_t (by simp only [ln]; omega))).trans ?_
        simp only [wrF, hh, List.nil_append]
      · refine (sel_of_f (decide_eq_false h2)).trans ?_
        refine (ck_of (rm_t (by simp only [ln]; omega))).trans ?_
        have : body k v = v := by unfold body; rw [if_neg h2]
        simp only [wrF, this, hh, List.nil_append]
theorem ref05_Write_spec (no : Int) (v : List UInt8) (hl : v.length ≤ 1000000) : ref05_Write (no, v, ()) = some (wrD no v) := by
  unfold ref05_Write wrD
  refine (ob_of (ref05_Of_spec no)).trans ?_
  cases ho : formOf no with
  | none => rfl
  | some p =>
    obtain ⟨k, l⟩ := p
    rw [fr_some rfl]
    obtain ⟨hk, h1, h400, h99⟩ := form_ok ho
    refine (sel_of_f rfl).trans ?_
    obtain ⟨b, hb, he⟩ := ref05_fits_spec k l v hl
    refine (ob_of hb).trans ?_
    rw [he (by unfold kinds at hk; omega)]
    by_cases hv : fv k l v
    rotate_left
    · rw [decide_eq_false hv]
      refine (sel_of_t rfl).trans ?_
      simp only [if_neg hv]; rfl
    rw [decide_eq_true hv]
    refine (sel_of_f rfl).trans ?_
    simp only [if_pos hv]
    refine (ob_of (ref05_count_spec hk)).trans ?_
    have hfig : k ≤ 2 → ref01_Bcd (v, ()) = some (body k v, 0, ()) := fun h => by
      rw [ref01_Bcd_spec v hl, if_pos (hv.1.1 h)]; unfold body; rw [if_pos h]
    have hvl := body_length k v
    by_cases h0 : 0 < cnt k
    · obtain ⟨c1, c2, c3⟩ := cnt_lt hk h99 h400 hv h0
      refine (sel_of_t (lt_t h0)).trans ?_
      refine (ob_of (ref05_count_spec hk)).trans ?_
      have hd : ref01_Digits (len v, cnt k, ()) = some (ps 10 dch v.length (cnt k).toNat, 0, ()) := by
        rw [ref01_Digits_spec _ _ (by simp only [len]; omega), if_pos ⟨c1.1, c1.2, c2⟩]; rfl
      refine (ob_of hd).trans ?_
      have hbc : ref01_Bcd (ps 10 dch v.length (cnt k).toNat, ()) = some (hdr k v.length, 0, ()) := by
        rw [ref01_Bcd_spec _ (by rw [ps_length]; omega), if_pos figs_ps]; unfold hdr; rw [if_pos h0]
      refine (ob_of hbc).trans ?_
      have hhl : (hdr k v.length).length ≤ 10 := by
        unfold hdr; rw [if_pos h0, bcdpad_length, ps_length]; omega
      by_cases h2 : k ≤ 2
      · refine (sel_of_t (decide_eq_true h2)).trans ?_
        refine (ob_of (hfig h2)).trans ?_
        rw [if_pos h2] at hvl
        refine (ck_of (rm_t (by simp only [nadd, ln, none', List.length_nil]; omega))).trans ?_
        exact (ck_of (rm_t (by simp only [nadd, ln, none', app, List.length_append, List.length_nil]; omega))).trans rfl
      · refine (sel_of_f (decide_eq_false h2)).trans ?_
        refine (ck_of (rm_t (by simp only [nadd, ln, none', List.length_nil]; omega))).trans ?_
        refine (ck_of (rm_t (by simp only [nadd, ln, none', app, List.length_append, List.length_nil]; omega))).trans ?_
        have : body k v = v := by unfold body; rw [if_neg h2]
        simp only [wrF, this]; rfl
    · refine (sel_of_f (lt_f h0)).trans ?_
      have hh : hdr k v.length = [] := by unfold hdr; rw [if_neg h0]
      by_cases h2 : k ≤ 2
      · refine (sel_of_t (decide_eq_true h2)).trans ?_
        refine (ob_of (hfig h2)).trans ?_
        rw [if_pos h2] at hvl
        refine (ck_of rfl).trans ?_
        refine (ck_of (rm_t (by simp only [nadd, ln, none', app, List.length_append, List.length_nil]; omega))).trans ?_
        simp only [wrF, hh, List.nil_append]; rfl
      · refine (sel_of_f (decide_eq_false h2)).trans ?_
        refine (ck_of rfl).trans ?_
        refine (ck_of (rm_t (by simp only [nadd, ln, none', app, List.length_append, List.length_nil]; omega))).trans ?_
        have : body k v = v := by unfold body; rw [if_neg h2]
        simp only [wrF, this, hh, List.nil_append]; rfl
theorem ref01_Same_spec (a b : List UInt8) : ref01_Same (a, b, ()) = some (seq a b, ()) := rfl
end Yp

namespace Yp
open Go
theorem pad_drop {u : List UInt8} {k N : Nat} (hl : u.length = 2 * k) (hN : (N + 1) / 2 = k) (h : N % 2 = 1 → nth u 0 (u8 0) = 48) : pad (u.drop (N % 2)) = u := by
  by_cases ho : N % 2 = 1
  · rw [ho]
    unfold pad
    rw [if_pos (by simp; omega)]
    cases u with
    | nil => simp at hl; omega
    | cons x r => have := h ho; simp only [nth, List.getD_cons_zero] at this; rw [this]; rfl
  · have : N % 2 = 0 := by omega
    rw [this, List.drop_zero]; exact pad_even (by omega)
theorem figs_pad {s : List UInt8} (h : figs s) : figs (pad s) := by
  unfold pad
  split
  · intro i hi
    cases i with
    | zero => exact (by decide : isFig 48)
    | succ i => exact h i (by simpa using hi)
  · exact h
theorem pad_back (s : List UInt8) : (pad s).drop (s.length % 2) = s := by
  unfold pad
  by_cases h : s.length % 2 = 1
  · rw [if_pos h, h]; rfl
  · have : s.length % 2 = 0 := by omega
    rw [if_neg h, this]; rfl
theorem hex_bcdpad {s : List UInt8} (hf : figs s) : hexOf (bcd (pad s)) = pad s := hexOf_bcd (figs_pad hf) (by rw [pad_length]; omega)
theorem bcdpad_inj {s t : List UInt8} (hs : figs s) (ht : figs t) (hl : s.length = t.length) (h : bcd (pad s) = bcd (pad t)) : s = t := by
  have := congrArg hexOf h
  rw [hex_bcdpad hs, hex_bcdpad ht] at this
  rw [← pad_back s, ← pad_back t, this, hl]
theorem takeBcd_cases {b : List UInt8} {I N : Nat} (hI : I ≤ b.length) (hN : N ≤ 999) : (b.length < I + (N + 1) / 2 ∧ takeBcd b I N = ([], 0, 3, ())) ∨
    (I + (N + 1) / 2 ≤ b.length ∧ takeBcd b I N = ([], 0, 2, ()) ∧ ∀ s, s.length = N → figs s → tk b I ((N + 1) / 2) = bcd (pad s) → False) ∨
    (∃ s, I + (N + 1) / 2 ≤ b.length ∧ takeBcd b I N = (s, ((I + (N + 1) / 2 : Nat) : Int), 0, ()) ∧ figs s ∧ s.length = N ∧ tk b I ((N + 1) / 2) = bcd (pad s)) := by
  unfold takeBcd
  simp only [Int.toNat_natCast]
  rw [if_neg (by omega)]
  by_cases h1 : (b.length : Int) - I < ((N : Int) + 1) / 2
  · rw [if_pos h1]; exact .inl ⟨by omega, rfl⟩
  rw [if_neg h1]
  have hle : I + (N + 1) / 2 ≤ b.length := by omega
  have hul := tk_length hle
  have hxl : (hexOf (tk b I ((N + 1) / 2))).length = 2 * ((N + 1) / 2) := by rw [hexOf_length, hul]
  refine .inr ?_
  by_cases h2 : (N : Int) % 2 = 1 ∧ ¬nth (hexOf (tk b I ((N + 1) / 2))) 0 (u8 0) = 48
  · rw [if_pos h2]
    refine .inl ⟨hle, rfl, fun s hs hf h => h2.2 ?_⟩
    rw [h, hex_bcdpad hf]; unfold pad; rw [if_pos (by omega)]; rfl
  rw [if_neg h2]
  have hp : pad ((hexOf (tk b I ((N + 1) / 2))).drop (N % 2)) = hexOf (tk b I ((N + 1) / 2)) := pad_drop hxl rfl fun ho => Classical.byContradiction fun hc => h2 ⟨by omega, hc⟩
  by_cases h3 : figs ((hexOf (tk b I ((N + 1) / 2))).drop (N % 2))
  · rw [if_pos h3]
    refine .inr ⟨_, hle, ?_, h3, by rw [List.length_drop, hxl]; omega, ?_⟩
    · simp
    · have hb := bcd_hexOf (u := tk b I ((N + 1) / 2)) (by rw [← hp]; exact figs_pad h3)
      rw [hp, hb]
  · rw [if_neg h3]
    refine .inl ⟨hle, rfl, fun s hs hf h => h3 ?_⟩
    rw [h, hex_bcdpad hf, ← hs, pad_back]; exact hf
theorem tk_of_drop {b x q : List UInt8} {I : Nat} (h : b.drop I = x ++ q) : tk b I x.length = x := by
  unfold tk; rw [h, List.take_left']; rfl
theorem drop_of_tk {b x : List UInt8} {I n : Nat} (h : tk b I n = x) : b.drop I = x ++ b.drop (I + n) := by
  rw [← h]; unfold tk
  rw [← List.drop_drop, List.take_append_drop]
theorem drop_len {b x : List UInt8} {I : Nat} (hI : I ≤ b.length) (h : b.drop I = x) : b.length = I + x.length := by
  have := congrArg List.length h
  rw [List.length_drop] at this; omega
theorem takeBcd_hit {b s q : List UInt8} {I : Nat} (hI : I ≤ b.length) (hN : s.length ≤ 999) (hf : figs s) (h : b.drop I = bcd (pad s) ++ q) : takeBcd b I s.length = (s, ((I + (s.length + 1) / 2 : Nat) : Int), 0, ()) := by
  have hl := drop_len hI h
  have ht := tk_of_drop h
  rw [List.length_append, bcdpad_length] at hl
  rw [bcdpad_length] at ht
  rcases takeBcd_cases hI hN with ⟨h1, _⟩ | ⟨_, _, h2⟩ | ⟨t, _, h3, h4, h5, h6⟩
  · omega
  · exact (h2 s rfl hf ht).elim
  · rw [h3, bcdpad_inj h4 hf h5 (by rw [← h6, ht])]
def rdB (k l : Int) (b : List UInt8) (a n : Int) : List UInt8 × Int × Int × Unit :=
  if k ≤ 2 then (if (takeBcd b a n).2.2.1 = 0 then ((takeBcd b a n).1, (takeBcd b a n).2.1, 0, ()) else ([], 0, (takeBcd b a n).2.2.1, ()))
  else if (b.length : Int) - a < n then ([], 0, 3, ()) else if fv k l (tk b a.toNat n.toNat) then (tk b a.toNat n.toNat, a + n, 0, ()) else ([], 0, 2, ())
def rdF (k l : Int) (b : List UInt8) (a : Int) : List UInt8 × Int × Int × Unit :=
  if a < 0 ∨ (b.length : Int) < a then ([], 0, 1, ()) else if 0 < cnt k then
    (if (takeBcd b a (cnt k)).2.2.1 = 0 then (if (val (takeBcd b a (cnt k)).1 : Int) < 1 ∨ l < val (takeBcd b a (cnt k)).1 then ([], 0, 2, ()) else rdB k l b (takeBcd b a (cnt k)).2.1 (val (takeBcd b a (cnt k)).1))
    else ([], 0, (takeBcd b a (cnt k)).2.2.1, ()))
  else rdB k l b a l
def rdD (no : Int) (b : List UInt8) (a : Int) : List UInt8 × Int × Int × Unit := match formOf no with | none => ([], 0, 12, ()) | some (k, l) => rdF k l b a
theorem field_tail {no k l : Int} {b : List UInt8} {A N : Nat} (ho : formOf no = some (k, l)) (hl : b.length ≤ 1000000) (ha : A ≤ b.length) (hn : 1 ≤ N ∧ N ≤ 400) :
    (ob (sel (beq k 1) (some (true, ())) (some (beq k 2, ()))) fun (a' : Bool × Unit) => sel a'.1 (ob (dig_TakeBcd (b, (A : Int), (N : Int), ())) fun (t : List UInt8 × Int × Int × Unit) => sel (bnot (beq t.2.2.1 0)) (some (none' UInt8, 0, t.2.2.1, ())) (ck (rm 1 (ln t.1)) (some (t.1, t.2.1, 0, ()))))
      (sel (lt (i64 (isub (len b) (A : Int))) (N : Int)) (some (none' UInt8, 0, 3, ())) (ck (inC (A : Int) (i64 (iadd (A : Int) (N : Int))) (len b)) (ck (rm 1 (nadd (ln (none' UInt8)) (ln (sub b (A : Int) (i64 (iadd (A : Int) (N : Int)))))))
        (ob (field_Fits (no, app (none' UInt8) (sub b (A : Int) (i64 (iadd (A : Int) (N : Int)))), ())) fun (a : Bool × Unit) => sel (bnot a.1) (some (none' UInt8, 0, 2, ())) (some (app (none' UInt8) (sub b (A : Int) (i64 (iadd (A : Int) (N : Int)))), i64 (iadd (A : Int) (N : Int)), 0, ()))))))
      : Option (List UInt8 × Int × Int × Unit)) = some (rdB k l b A N) := by
  obtain ⟨hk, h1, h400, h99⟩ := form_ok ho
  refine (ob_of (num_sel hk)).trans ?_
  unfold rdB
  by_cases h2 : k ≤ 2
  · refine (sel_of_t (decide_eq_true h2)).trans ?_
    rw [if_pos h2]
    refine (ob_of (dig_TakeBcd_spec b A N hl)).trans ?_
    rcases takeBcd_cases ha (show N ≤ 999 by omega) with ⟨_, h⟩ | ⟨_, h, _⟩ | ⟨s, _, h, _, hs, _⟩
    · rw [h]; rfl
    · rw [h]; rfl
    · rw [h]
      refine (sel_of_f rfl).trans ?_
      refine (ck_of (rm_t (by simp only [ln]; omega))).trans ?_
      rfl
  · refine (sel_of_f (decide_eq_false h2)).trans ?_
    rw [if_neg h2]
    have c0 : i64 (isub (len b) (A : Int)) = (b.length : Int) - A := by
      simp only [isub, len]; exact i64_of (by omega) (by omega)
    have c3 : i64 (iadd (A : Int) (N : Int)) = ((A + N : Nat) : Int) := i64_add (by omega)
    simp only [c0, c3, sub_tk, Int.toNat_natCast]
    by_cases h3 : (b.length : Int) - A < N
    · rw [if_pos h3]; exact sel_of_t (lt_t h3)
    rw [if_neg h3]
    refine (sel_of_f (lt_f h3)).trans ?_
    have hle : A + N ≤ b.length := by omega
    refine (ck_of (inC_t (by omega) (by omega) (by simp only [len]; omega))).trans ?_
    have htl := tk_length hle
    refine (ck_of (rm_t (by simp only [nadd, ln, none', List.length_nil]; omega))).trans ?_
    have ha' : app (none' UInt8) (tk b A N) = tk b A N := rfl
    simp only [ha']
    refine (ob_of (field_Fits_spec no _ (by omega))).trans ?_
    have hfd : fitsD no (tk b A N) = decide (fv k l (tk b A N)) := by unfold fitsD; rw [ho]
    rw [hfd]
    by_cases hv : fv k l (tk b A N)
    · rw [if_pos hv, decide_eq_true hv, ← Int.natCast_add]; exact sel_of_f rfl
    · rw [if_neg hv, decide_eq_false hv]; exact sel_of_t rfl
theorem num_fv {k l : Int} {s : List UInt8} (h2 : k ≤ 2) (hf : figs s) (hn : fln k l s.length) : fv k l s := ⟨⟨fun _ => hf, fun _ => figs_rng hf⟩, hn⟩
theorem ref_tail {no k l : Int} {b : List UInt8} {A N : Nat} (ho : formOf no = some (k, l)) (hl : b.length ≤ 1000000) (ha : A ≤ b.length) (hn : 1 ≤ N ∧ N ≤ 400) (hfl : fln k l N) :
    (ob (sel (le k 2) (some (i64 (idiv (i64 (iadd (N : Int) 1)) 2), ())) (some ((N : Int), ()))) fun (a7 : Int × Unit) => sel (lt (i64 (isub (len b) (A : Int))) a7.1) (some (none' UInt8, 0, 3, ()))
      (ck (inC (A : Int) (i64 (iadd (A : Int) a7.1)) (len b)) (ck (rm 1 (nadd (ln (none' UInt8)) (ln (sub b (A : Int) (i64 (iadd (A : Int) a7.1))))))
        (sel (le k 2) (ob (ref01_TakeBcd (b, (A : Int), (N : Int), ())) fun (t : List UInt8 × Int × Int × Unit) => sel (bnot (beq t.2.2.1 0)) (some (none' UInt8, 0, 2, ())) (ck (rm 1 (ln t.1)) (ob (ref05_fits ((k, l, ()), t.1, ())) fun (a : Bool × Unit) => sel (bnot a.1) (some (none' UInt8, 0, 2, ())) (some (t.1, i64 (iadd (A : Int) a7.1), 0, ())))))
          (ob (ref05_fits ((k, l, ()), app (none' UInt8) (sub b (A : Int) (i64 (iadd (A : Int) a7.1))), ())) fun (a : Bool × Unit) => sel (bnot a.1) (some (none' UInt8, 0, 2, ())) (some (app (none' UInt8) (sub b (A : Int) (i64 (iadd (A : Int) a7.1))), i64 (iadd (A : Int) a7.1), 0, ()))))))
      : Option (List UInt8 × Int × Int × Unit)) = some (rdB k l b A N) := by
  obtain ⟨hk, h1, h400, h99⟩ := form_ok ho
  have hk1 : 1 ≤ k := by unfold kinds at hk; omega
  unfold rdB
  have c0 : i64 (isub (len b) (A : Int)) = (b.length : Int) - A := by
    simp only [isub, len]; exact i64_of (by omega) (by omega)
  by_cases h2 : k ≤ 2
  · have c1 : i64 (idiv (i64 (iadd (N : Int) 1)) 2) = (((N + 1) / 2 : Nat) : Int) := by
      rw [show i64 (iadd (N : Int) 1) = ((N + 1 : Nat) : Int) from i64_add (b := 1) (by omega)]
      exact i64_div (b := 2) (by omega)
    refine (ob_of (sel_of_t (le_t h2))).trans ?_
    have c3 : i64 (iadd (A : Int) (((N + 1) / 2 : Nat) : Int)) = ((A + (N + 1) / 2 : Nat) : Int) := i64_add (by omega)
    rw [if_pos h2]
    simp only [c0, c1, c3, sub_tk]
    rcases takeBcd_cases ha (show N ≤ 999 by omega) with ⟨h3, h⟩ | ⟨h3, h, _⟩ | ⟨s, h3, h, hf, hs, _⟩
    · refine (sel_of_t (lt_t (by omega))).trans ?_
      rw [h]; rfl
    · refine (sel_of_f (lt_f (by omega))).trans ?_
      refine (ck_of (inC_t (by omega) (by omega) (by simp only [len]; omega))).trans ?_
      have htl := tk_length h3
      refine (ck_of (rm_t (by simp only [nadd, ln, none', List.length_nil]; omega))).trans ?_
      refine (sel_of_t (le_t h2)).trans ?_
      refine (ob_of (ref01_TakeBcd_spec b A N hl)).trans ?_
      rw [h]; rfl
    · refine (sel_of_f (lt_f (by omega))).trans ?_
      refine (ck_of (inC_t (by omega) (by omega) (by simp only [len]; omega))).trans ?_
      have htl := tk_length h3
      refine (ck_of (rm_t (by simp only [nadd, ln, none', List.length_nil]; omega))).trans ?_
      refine (sel_of_t (le_t h2)).trans ?_
      refine (ob_of (ref01_TakeBcd_spec b A N hl)).trans ?_
      rw [h]
      refine (sel_of_f rfl).trans ?_
      refine (ck_of (rm_t (by simp only [ln]; omega))).trans ?_
      obtain ⟨t, ht, he⟩ := ref05_fits_spec k l s (by omega)
      refine (ob_of ht).trans ?_
      rw [he hk1, decide_eq_true (num_fv h2 hf (by rw [hs]; exact hfl))]
      rfl
  · refine (ob_of (sel_of_f (le_f h2))).trans ?_
    rw [if_neg h2]
    have c3 : i64 (iadd (A : Int) (N : Int)) = ((A + N : Nat) : Int) := i64_add (by omega)
    simp only [c0, c3, sub_tk, Int.toNat_natCast]
    by_cases h3 : (b.length : Int) - A < N
    · rw [if_pos h3]; exact sel_of_t (lt_t h3)
    rw [if_neg h3]
    refine (sel_of_f (lt_f h3)).trans ?_
    have hle : A + N ≤ b.length := by omega
    refine (ck_of (inC_t (by omega) (by omega) (by simp only [len]; omega))).trans ?_
    have htl := tk_length hle
    refine (ck_of (rm_t (by simp only [nadd, ln, none', List.length_nil]; omega))).trans ?_
    refine (sel_of_f (le_f h2)).trans ?_
    have ha' : app (none' UInt8) (tk b A N) = tk b A N := rfl
    simp only [ha']
    obtain ⟨t, ht, he⟩ := ref05_fits_spec k l (tk b A N) (by omega)
    refine (ob_of ht).trans ?_
    rw [he hk1]
    by_cases hv : fv k l (tk b A N)
    · rw [if_pos hv, decide_eq_true hv, ← Int.natCast_add]; exact sel_of_f rfl
    · rw [if_neg hv, decide_eq_false hv]; exact sel_of_t rfl
theorem val_small {s : List UInt8} (hf : figs s) (h : s.length ≤ 3) : val s < 1000 := by
  have := val_lt_pow hf
  have h2 : 10 ^ s.length ≤ 10 ^ 3 := Nat.pow_le_pow_right (by omega) h
  omega
theorem fln_cnt {k l : Int} {n : Nat} (h0 : 0 < cnt k) (h1 : 1 ≤ n) (h2 : (n : Int) ≤ l) : fln k l n := by
  unfold fln
  rw [if_neg]
  · exact ⟨h1, h2⟩
  · rintro (rfl | rfl | rfl) <;> exact absurd h0 (by decide)
theorem fln_none {k l : Int} {n : Nat} (hk : kinds k) (h0 : ¬ 0 < cnt k) : fln k l n ↔ (n : Int) = l := by
  unfold fln
  rcases hk with rfl | rfl | rfl | rfl | rfl | rfl | rfl <;> first | exact absurd (by decide) h0 | simp
theorem field_Read_spec (no : Int) (b : List UInt8) (a : Int) (hl : b.length ≤ 1000000) : field_Read (no, b, a, ()) = some (rdD no b a) := by
  unfold field_Read rdD
  refine (ob_of (field_Of_spec no)).trans ?_
  cases ho : formOf no with
  | none => rfl
  | some p =>
    obtain ⟨k, l⟩ := p
    rw [fr_some rfl]
    obtain ⟨hk, h1, h400, h99⟩ := form_ok ho
    refine (sel_of_f rfl).trans ?_
    show _ = some (rdF k l b a)
    unfold rdF
    by_cases h2 : a < 0
    · refine (ob_of (sel_of_t (lt_t h2))).trans ?_
      simp only [if_pos (Or.inl h2 : a < 0 ∨ (b.length : Int) < a)]; rfl
    by_cases h3 : (b.length : Int) < a
    · refine (ob_of (a := (true, ())) ((sel_of_f (lt_f h2)).trans (some_b (lt_t h3)))).trans ?_
      simp only [if_pos (Or.inr h3 : a < 0 ∨ (b.length : Int) < a)]; rfl
    refine (ob_of (a := (false, ())) ((sel_of_f (lt_f h2)).trans (some_b (lt_f h3)))).trans ?_
    refine (sel_of_f rfl).trans ?_
    rw [if_neg (by omega)]
    obtain ⟨A, rfl⟩ : ∃ n : Nat, a = n := ⟨a.toNat, by omega⟩
    refine (ob_of (field_told_spec hk)).trans ?_
    by_cases h0 : 0 < cnt k
    · rw [if_pos h0]
      refine (sel_of_t (lt_t h0)).trans ?_
      refine (ob_of (dig_TakeBcd_spec b A (cnt k) hl)).trans ?_
      have hcr := cnt_range hk
      obtain ⟨C, hC⟩ : ∃ n : Nat, cnt k = n := ⟨(cnt k).toNat, by omega⟩
      rw [hC]
      rcases takeBcd_cases (b := b) (I := A) (N := C) (by omega) (by omega) with ⟨_, h⟩ | ⟨_, h, _⟩ | ⟨s, h4, h, hf, hs, _⟩
      · rw [h]; rfl
      · rw [h]; rfl
      · rw [h]
        refine (sel_of_f rfl).trans ?_
        rw [if_pos rfl]
        have hvs := val_small hf (by omega)
        refine (ob_of (dig_Value_spec s)).trans ?_
        rw [if_pos ⟨by omega, by omega, hf⟩]
        by_cases hm1 : (val s : Int) < 1
        · refine (ob_of (sel_of_t (lt_t hm1))).trans ?_
          simp only [if_pos (Or.inl hm1 : (val s : Int) < 1 ∨ l < val s)]; rfl
        by_cases hm2 : l < (val s : Int)
        · refine (ob_of (a := (true, ())) ((sel_of_f (lt_f hm1)).trans (some_b (lt_t hm2)))).trans ?_
          simp only [if_pos (Or.inr hm2 : (val s : Int) < 1 ∨ l < val s)]; rfl
        refine (ob_of (a := (false, ())) ((sel_of_f (lt_f hm1)).trans (some_b (lt_f hm2)))).trans ?_
        refine (sel_of_f rfl).trans ?_
        rw [if_neg (show ¬((val s : Int) < 1 ∨ l < val s) by omega)]
        exact field_tail ho hl h4 ⟨by omega, by omega⟩
    · rw [if_neg h0]
      refine (sel_of_f (lt_f h0)).trans ?_
      obtain ⟨L, rfl⟩ : ∃ n : Nat, l = n := ⟨l.toNat, by omega⟩
      exact field_tail (b := b) (A := A) (N := L) ho hl (by omega) ⟨by omega, by omega⟩
theorem ref05_Read_spec (no : Int) (b : List UInt8) (a : Int) (hl : b.length ≤ 1000000) : ref05_Read (no, b, a, ()) = some (rdD no b a) := by
  unfold ref05_Read rdD
  refine (ob_of (ref05_Of_spec no)).trans ?_
  cases ho : formOf no with
  | none => rfl
  | some p =>
    obtain ⟨k, l⟩ := p
    rw [fr_some rfl]
    obtain ⟨hk, h1, h400, h99⟩ := form_ok ho
    refine (sel_of_f rfl).trans ?_
    show _ = some (rdF k l b a)
    unfold rdF
    by_cases h2 : a < 0
    · refine (ob_of (sel_of_t (lt_t h2))).trans ?_
      simp only [if_pos (Or.inl h2 : a < 0 ∨ (b.length : Int) < a)]; rfl
    by_cases h3 : (b.length : Int) < a
    · refine (ob_of (a := (true, ())) ((sel_of_f (lt_f h2)).trans (some_b (lt_t h3)))).trans ?_
      simp only [if_pos (Or.inr h3 : a < 0 ∨ (b.length : Int) < a)]; rfl
    refine (ob_of (a := (false, ())) ((sel_of_f (lt_f h2)).trans (some_b (lt_f h3)))).trans ?_
    refine (sel_of_f rfl).trans ?_
    rw [if_neg (by omega)]
    obtain ⟨A, rfl⟩ : ∃ n : Nat, a = n := ⟨a.toNat, by omega⟩
    refine (ob_of (ref05_count_spec hk)).trans ?_
    by_cases h0 : 0 < cnt k
    · rw [if_pos h0]
      refine (sel_of_t (lt_t h0)).trans ?_
      refine (ob_of (ref05_count_spec hk)).trans ?_
      refine (ob_of (ref01_TakeBcd_spec b A (cnt k) hl)).trans ?_
      have hcr := cnt_range hk
      obtain ⟨C, hC⟩ : ∃ n : Nat, cnt k = n := ⟨(cnt k).toNat, by omega⟩
      rw [hC]
      rcases takeBcd_cases (b := b) (I := A) (N := C) (by omega) (by omega) with ⟨_, h⟩ | ⟨_, h, _⟩ | ⟨s, h4, h, hf, hs, _⟩
      · rw [h]; rfl
      · rw [h]; rfl
      · rw [h]
        refine (sel_of_f rfl).trans ?_
        rw [if_pos rfl]
        have hvs := val_small hf (by omega)
        refine (ob_of (ref01_Value_spec s (by omega))).trans ?_
        rw [if_pos ⟨by omega, by omega, hf⟩]
        by_cases hm1 : (val s : Int) < 1
        · refine (ob_of (sel_of_t (lt_t hm1))).trans ?_
          simp only [if_pos (Or.inl hm1 : (val s : Int) < 1 ∨ l < val s)]; rfl
        by_cases hm2 : l < (val s : Int)
        · refine (ob_of (a := (true, ())) ((sel_of_f (lt_f hm1)).trans (some_b (lt_t hm2)))).trans ?_
          simp only [if_pos (Or.inr hm2 : (val s : Int) < 1 ∨ l < val s)]; rfl
        refine (ob_of (a := (false, ())) ((sel_of_f (lt_f hm1)).trans (some_b (lt_f hm2)))).trans ?_
        refine (sel_of_f rfl).trans ?_
        rw [if_neg (show ¬((val s : Int) < 1 ∨ l < val s) by omega)]
        exact ref_tail ho hl h4 ⟨by omega, by omega⟩ (fln_cnt h0 (by omega) (by omega))
    · rw [if_neg h0]
      refine (sel_of_f (lt_f h0)).trans ?_
      obtain ⟨L, rfl⟩ : ∃ n : Nat, l = n := ⟨l.toNat, by omega⟩
      exact ref_tail (b := b) (A := A) (N := L) ho hl (by omega) ⟨by omega, by omega⟩ ((fln_none hk h0).2 rfl)
end Yp

namespace Yp
open Go
noncomputable def D (p : Prop) : Bool := @decide p (Classical.propDecidable p)
theorem D_iff {p : Prop} : D p = true ↔ p := by unfold D; exact @decide_eq_true_iff p (Classical.propDecidable p)
theorem D_t {p : Prop} (h : p) : D p = true := D_iff.2 h
theorem D_f {p : Prop} (h : ¬ p) : D p = false := by
  cases e : D p
  · rfl
  · exact absurd (D_iff.1 e) h
theorem D_ext {b : Bool} {p : Prop} (h : b = true ↔ p) : b = D p := Bool.eq_iff_iff.2 (h.trans D_iff.symm)
@[congr] theorem ob_cg {α β : Type} {o o' : Option α} {k : α → Option β} (h : o = o') : ob o k = ob o' k := by rw [h]
@[congr] theorem sel_cg {α : Type} {c c' : Bool} {a b : α} (h : c = c') : sel c a b = sel c' a b := by rw [h]
@[congr] theorem ck_cg {α : Type} {c c' : Bool} {a : Option α} (h : c = c') : ck c a = ck c' a := by rw [h]
@[congr] theorem lc_cg {σ ρ β : Type} {o o' : Option (LS σ ρ)} {kn : σ → Option β} {ke : Nat → σ → Option β} {kr : ρ → Option β} (h : o = o') : lc o kn ke kr = lc o' kn ke kr := by rw [h]
theorem g01 {α β : Type} {a : α} {k : α → Option β} : ob (some a) k = k a := rfl
theorem g02 {α : Type} {p : Prop} {a b : α} (h : p) : sel (D p) a b = a := sel_of_t (D_t h)
theorem g03 {α : Type} {p : Prop} {a b : α} (h : ¬ p) : sel (D p) a b = b := sel_of_f (D_f h)
theorem g04 {α : Type} {p : Prop} {a : Option α} (h : p) : ck (D p) a = a := ck_of (D_t h)
theorem g05 {α : Type} {a b : α} : sel true a b = a := rfl
theorem g06 {α : Type} {a b : α} : sel false a b = b := rfl
theorem g07 {α : Type} {a : Option α} : ck true a = a := rfl
theorem g08 {a b : Int} : lt a b = D (a < b) := D_ext decide_eq_true_iff
theorem g09 {a b : Int} : le a b = D (a ≤ b) := D_ext decide_eq_true_iff
theorem g10 {a b : Int} : beq a b = D (a = b) := by unfold beq; exact D_ext beq_iff_eq
theorem g11 {a b : List UInt8} : seq a b = D (a = b) := by unfold seq; exact D_ext beq_iff_eq
theorem g12 {p : Prop} : bnot (D p) = D (¬ p) := by
  by_cases h : p
  · rw [D_t h, D_f (not_not_intro h)]; rfl
  · rw [D_f h, D_t h]; rfl
theorem g13 {p q : Prop} : band (D p) (D q) = D (p ∧ q) := D_ext (by simp [band, D_iff])
theorem g14 {p q : Prop} : bor (D p) (D q) = D (p ∨ q) := D_ext (by simp [bor, D_iff])
theorem g15 {c q : Bool} : sel c (some (true, ())) (some (q, ())) = some (bor c q, ()) := by cases c <;> rfl
theorem g16 {c q : Bool} : sel c (some (q, ())) (some (false, ())) = some (band c q, ()) := by cases c <;> rfl
theorem g17 {c d : Bool} {x : Option (Bool × Unit)} : sel c (sel d x (some (false, ()))) (some (false, ())) = sel (band c d) x (some (false, ())) := by cases c <;> rfl
theorem g18 {c d : Bool} {x : Option (Bool × Unit)} : sel c (some (true, ())) (sel d (some (true, ())) x) = sel (bor c d) (some (true, ())) x := by cases c <;> rfl
theorem g19 {a b c : Int} : inC a b c = D (0 ≤ a ∧ a ≤ b ∧ b ≤ c) := D_ext (by simp [inC, and_assoc])
theorem g20 {a b : Int} : inB a b = D (0 ≤ a ∧ a < b) := D_ext (by simp [inB])
theorem g21 {c n : Nat} : rm c n = D (n * c ≤ 140737488355328) := D_ext decide_eq_true_iff
theorem g22 {α : Type} {l : List α} : len l = (l.length : Int) := rfl
theorem g23 {α : Type} {l : List α} : ln l = l.length := rfl
theorem g24 {a b : Nat} : nadd a b = a + b := rfl
theorem g25 {α : Type} {a b : List α} : app a b = a ++ b := rfl
theorem g26 {α : Type} : none' α = [] := rfl
theorem g27 {n : Int} (h : -9223372036854775808 ≤ n ∧ n ≤ 9223372036854775807) : i64 n = n := i64_of h.1 h.2
theorem g28 {a b : Int} : iadd a b = a + b := rfl
theorem g29 {a b : Int} : isub a b = a - b := rfl
theorem g30 {a b : Int} : imul a b = a * b := rfl
theorem g31 {a b : Int} (h : 0 ≤ a) : idiv a b = a / b := by simp only [idiv]; exact Int.tdiv_eq_ediv_of_nonneg h
theorem g32 {a b : Int} (h : 0 ≤ a) : imod a b = a % b := by simp only [imod]; exact Int.tmod_eq_emod_of_nonneg h
theorem g33 {a : Int} : nat a = a.toNat := rfl
theorem g34 {a : Nat} : ofn a = (a : Int) := rfl
theorem g35 {a b : Nat} : nsub a b = a - b := rfl
theorem g36 {c : Bool} : band true c = c := rfl
theorem g37 {c : Bool} : band c true = c := by cases c <;> rfl
theorem g38 {c : Bool} : bor false c = c := rfl
theorem g39 {c : Bool} : bor c false = c := by cases c <;> rfl
theorem g40 {c : Bool} : bnot (bnot c) = c := by cases c <;> rfl
theorem g41 : bnot true = false := rfl
theorem g42 : bnot false = true := rfl
theorem g43 {a b : Bool} : beb a b = D (a = b) := D_ext (by unfold beb; exact beq_iff_eq)
theorem g44 {c : Bool} : band false c = false := rfl
theorem g45 {c : Bool} : band c false = false := by cases c <;> rfl
theorem g46 {c : Bool} : bor true c = true := rfl
theorem g47 {c : Bool} : bor c true = true := by cases c <;> rfl
theorem g48 {α β : Type} {k : α → Option β} : ob none k = none := rfl
theorem g49 {p q : Prop} : (D p = D q) = (p ↔ q) := by
  refine propext ⟨fun h => D_iff.symm.trans ((Bool.eq_iff_iff.1 h).trans D_iff), fun h => Bool.eq_iff_iff.2 (D_iff.trans (h.trans D_iff.symm))⟩
theorem g50 {α : Type} {c : Bool} {a : α} : sel c a a = a := by cases c <;> rfl
theorem g51 {p : Prop} [Decidable p] : decide p = D p := D_ext decide_eq_true_iff
theorem g52 : D True = true := D_t trivial
theorem g53 : D False = false := D_f not_false
theorem g54 {p : Prop} : (D p = true) = p := propext D_iff
theorem g55 {p : Prop} : (D p = false) = ¬ p := by
  refine propext ⟨fun h hp => ?_, D_f⟩
  rw [D_t hp] at h; cases h
theorem g56 {p : Prop} : (true = D p) = p := propext ⟨fun h => D_iff.1 h.symm, fun h => (D_iff.2 h).symm⟩
theorem g57 {a b : Int} : minI a b = min a b := by unfold minI; split <;> omega
theorem g58 {a b : Int} : maxI a b = max a b := by unfold maxI; split <;> omega
theorem g59 {a : UInt8} : n8 a = (a.toNat : Int) := rfl
theorem g60 {a : UInt16} : n16 a = (a.toNat : Int) := rfl
theorem g61 {a : Int} (h : 0 ≤ a ∧ a < 256) : n8 (u8 a) = a := by
  obtain ⟨n, rfl⟩ : ∃ n : Nat, a = n := ⟨a.toNat, by omega⟩
  exact n8_u8 (by omega)
theorem lc_nx {σ ρ β : Type} {y : σ} {kn : σ → Option β} {ke : Nat → σ → Option β} {kr : ρ → Option β} : lc (some (.nx y)) kn ke kr = kn y := rfl
theorem some_D {p : Prop} (h : p) : some (D p, ()) = some (true, ()) := by rw [D_t h]
theorem some_Df {p : Prop} (h : ¬ p) : some (D p, ()) = some (false, ()) := by rw [D_f h]
theorem some_DD {p q : Prop} (h : p ↔ q) : some (D p, ()) = some (D q, ()) := by rw [show p = q from propext h]
theorem lc_rt' {σ ρ β : Type} {r : ρ} {kn : σ → Option β} {ke : Nat → σ → Option β} {kr : ρ → Option β} : lc (some (.rt r)) kn ke kr = kr r := rfl
theorem lc_ex' {σ ρ β : Type} {y : σ} {k : Nat} {kn : σ → Option β} {ke : Nat → σ → Option β} {kr : ρ → Option β} : lc (some (.ex k y)) kn ke kr = ke k y := rfl
theorem g62 {k : Nat} : neb k k = true := by simp [neb]
theorem g63 {n : Nat} : nat (n : Int) = n := nat_nat
theorem g64 : ((1 : Nat) : Int) = 1 := rfl
theorem g65 : ((0 : Nat) : Int) = 0 := rfl
theorem g66 {p : Prop} : (false = D p) = ¬ p := propext ⟨fun h => g55.mp h.symm, fun h => (D_f h).symm⟩
def liftS {β σ ρ : Type} (mk : β → Nat → σ) (i : Nat) : LS β ρ → LS σ ρ
  | .nx b => .nx (mk b (i + 1)) | .ex k b => .ex k (mk b i) | .rt r => .rt r
def foldS {α β σ ρ : Type} (mk : β → Nat → σ) (e : Nat) (step : β → α → LS β ρ) : β → Nat → List α → LS σ ρ
  | b, i, [] => .ex e (mk b i)
  | b, i, x :: r => match step b x with
    | .nx b' => foldS mk e step b' (i + 1) r
    | .ex k b' => .ex k (mk b' i)
    | .rt q => .rt q
theorem loop_fold {α β σ ρ : Type} {f : σ → Option (LS σ ρ)} (l : List α) (mk : β → Nat → σ) (e : Nat) (step : β → α → LS β ρ) (I : β → Nat → Prop)
    (hs : ∀ b i (h : i < l.length), I b i → f (mk b i) = some (liftS mk i (step b l[i])) ∧ ∀ b', step b l[i] = .nx b' → I b' (i + 1))
    (he : ∀ b, I b l.length → f (mk b l.length) = some (.ex e (mk b l.length))) (b0 : β) (h0 : I b0 0) : loop f (mk b0 0) = some (foldS mk e step b0 0 l) := by
  have key : ∀ (r : List α) (i : Nat) (b : β), l.drop i = r → i ≤ l.length → I b i → loop f (mk b i) = some (foldS mk e step b i r) := by
    intro r
    induction r with
    | nil =>
      intro i b hr hi hI
      have hl := congrArg List.length hr
      rw [List.length_drop, List.length_nil] at hl
      have : i = l.length := by omega
      subst this
      exact loop_ex (he b hI)
    | cons x r ih =>
      intro i b hr hi hI
      have hl := congrArg List.length hr
      rw [List.length_drop, List.length_cons] at hl
      have hlt : i < l.length := by omega
      have hx : l[i] = x ∧ l.drop (i + 1) = r := by
        rw [List.drop_eq_getElem_cons hlt] at hr
        exact ⟨(List.cons.inj hr).1, (List.cons.inj hr).2⟩
      obtain ⟨h1, h2⟩ := hs b i hlt hI
      rw [hx.1] at h1 h2
      unfold foldS
      cases hst : step b x with
      | nx b' => rw [hst] at h1; rw [loop_nx h1]; exact ih (i + 1) b' hx.2 hlt (h2 b' hst)
      | ex k b' => rw [hst] at h1; exact loop_ex h1
      | rt q => rw [hst] at h1; exact loop_rt h1
  exact key l 0 b0 rfl (Nat.zero_le _) h0
end Yp

namespace Yp
open Go
theorem body_le {k : Int} {v : List UInt8} : (body k v).length ≤ v.length := by rw [body_length]; split <;> omega
theorem drop_app_len {b x q : List UInt8} {A : Nat} (hA : A ≤ b.length) (h : b.drop A = x ++ q) : A + x.length ≤ b.length ∧ b.drop (A + x.length) = q := by
  have := drop_len hA h
  rw [List.length_append] at this
  refine ⟨by omega, ?_⟩
  rw [← List.drop_drop, h, List.drop_left]
theorem rdB_hit {k l : Int} {b v q : List UInt8} {A : Nat} (hA : A ≤ b.length) (hv : fv k l v) (h400 : v.length ≤ 400) (h : b.drop A = body k v ++ q) : rdB k l b A v.length = (v, ((A + (body k v).length : Nat) : Int), 0, ()) := by
  have hl := (drop_app_len hA h).1
  unfold rdB
  by_cases h2 : k ≤ 2
  · have hb : body k v = bcd (pad v) := by unfold body; rw [if_pos h2]
    rw [hb] at h ⊢
    rw [if_pos h2, takeBcd_hit hA (by omega) (hv.1.1 h2) h, bcdpad_length]
    rfl
  · have hb : body k v = v := by unfold body; rw [if_neg h2]
    rw [hb] at h hl ⊢
    have ht := tk_of_drop h
    simp only [Int.toNat_natCast]
    rw [if_neg h2, if_neg (by omega), ht, if_pos hv]; rfl
theorem rdB_inv {k l : Int} {b v : List UInt8} {A N : Nat} {I : Int} (hA : A ≤ b.length) (hN : N ≤ 400) (h : rdB k l b A N = (v, I, 0, ())) :
    v.length = N ∧ (k ≤ 2 → figs v) ∧ (¬ k ≤ 2 → fv k l v) ∧ I = ((A + (body k v).length : Nat) : Int) ∧ A + (body k v).length ≤ b.length ∧ tk b A (body k v).length = body k v := by
  unfold rdB at h
  by_cases h2 : k ≤ 2
  · rw [if_pos h2] at h
    rcases takeBcd_cases hA (show N ≤ 999 by omega) with ⟨_, e⟩ | ⟨_, e, _⟩ | ⟨s, h3, e, hf, hs, ht⟩
    · rw [e] at h; simp at h
    · rw [e] at h; simp at h
    · rw [e] at h
      simp only [if_pos, Prod.mk.injEq, and_true] at h
      obtain ⟨rfl, rfl⟩ := h
      have hb : body k s = bcd (pad s) := by unfold body; rw [if_pos h2]
      have hbl : (bcd (pad s)).length = (N + 1) / 2 := by rw [bcdpad_length, hs]
      rw [hb, hbl]
      exact ⟨hs, fun _ => hf, fun hc => absurd h2 hc, rfl, h3, ht⟩
  · rw [if_neg h2] at h
    by_cases h3 : (b.length : Int) - A < N
    · rw [if_pos h3] at h; simp at h
    rw [if_neg h3] at h
    simp only [Int.toNat_natCast] at h
    by_cases h4 : fv k l (tk b A N)
    · rw [if_pos h4] at h
      simp only [Prod.mk.injEq, and_true] at h
      obtain ⟨rfl, rfl⟩ := h
      have hl := tk_length (show A + N ≤ b.length by omega)
      have hb : body k (tk b A N) = tk b A N := by unfold body; rw [if_neg h2]
      rw [hb, hl]
      exact ⟨rfl, fun hc => absurd hc h2, fun _ => h4, by omega, by omega, rfl⟩
    · rw [if_neg h4] at h; simp at h
theorem rdB_err {k l : Int} {b : List UInt8} {a n : Int} : (rdB k l b a n).2.2.1 = 0 ∨ rdB k l b a n = ([], 0, (rdB k l b a n).2.2.1, ()) := by
  unfold rdB; repeat' split
  all_goals simp_all
theorem rdB_cut {k l : Int} {b v : List UInt8} {A : Nat} (hA : A ≤ b.length) (h400 : v.length ≤ 400) (h : b.length < A + (body k v).length) : rdB k l b A v.length = ([], 0, 3, ()) := by
  unfold rdB
  rw [body_length] at h
  by_cases h2 : k ≤ 2
  · rw [if_pos h2] at h ⊢
    rcases takeBcd_cases hA (show v.length ≤ 999 by omega) with ⟨_, e⟩ | ⟨_, _, _⟩ | ⟨s, h3, _⟩
    · rw [e]; rfl
    · omega
    · omega
  · rw [if_neg h2] at h ⊢
    rw [if_pos (by omega)]
theorem hdr_of {k : Int} {n : Nat} (h0 : 0 < cnt k) : hdr k n = bcd (pad (ps 10 dch n (cnt k).toNat)) := by unfold hdr; rw [if_pos h0]
theorem hdr_nil {k : Int} {n : Nat} (h0 : ¬ 0 < cnt k) : hdr k n = [] := by unfold hdr; rw [if_neg h0]
theorem hdr_length {k : Int} {n : Nat} : (hdr k n).length = if 0 < cnt k then ((cnt k).toNat + 1) / 2 else 0 := by
  unfold hdr; split
  · rw [bcdpad_length, ps_length]
  · rfl
theorem wrF_length {k : Int} {v : List UInt8} (hk : kinds k) : (wrF k v).length = (if k = 2 ∨ k = 4 then 1 else if k = 5 ∨ k = 7 then 2 else 0) + (if k ≤ 2 then (v.length + 1) / 2 else v.length) := by
  unfold wrF
  rw [List.length_append, body_length, hdr_length]
  congr 1
  rcases hk with rfl | rfl | rfl | rfl | rfl | rfl | rfl <;> rfl
theorem fv_len {no k l : Int} {v : List UInt8} (ho : formOf no = some (k, l)) (hv : fv k l v) : 1 ≤ v.length ∧ (v.length : Int) ≤ l ∧ v.length ≤ 400 := by
  obtain ⟨hk, h1, h400, _⟩ := form_ok ho
  have := hv.2
  unfold fln at this
  split at this <;> omega
theorem rdF_hit {no k l : Int} {b v q : List UInt8} {A : Nat} (ho : formOf no = some (k, l)) (hA : A ≤ b.length) (hv : fv k l v) (h : b.drop A = wrF k v ++ q) : rdF k l b A = (v, ((A + (wrF k v).length : Nat) : Int), 0, ()) := by
  obtain ⟨hk, h1, h400, h99⟩ := form_ok ho
  obtain ⟨hv1, hv2, hv3⟩ := fv_len ho hv
  unfold rdF
  rw [if_neg (by omega)]
  unfold wrF at h ⊢
  by_cases h0 : 0 < cnt k
  · rw [if_pos h0]
    obtain ⟨c1, c2, c3⟩ := cnt_lt hk h99 h400 hv h0
    rw [hdr_of h0] at h ⊢
    rw [List.append_assoc] at h
    have hp := takeBcd_hit (s := ps 10 dch v.length (cnt k).toNat) hA (by rw [ps_length]; omega) figs_ps h
    rw [ps_length, Int.toNat_of_nonneg (by omega)] at hp
    rw [hp]
    have hval : val (ps 10 dch v.length (cnt k).toNat) = v.length := by
      rw [val_ps, Nat.mod_eq_of_lt]
      have := c2.2
      have h10 : ((10 : Int) ^ (cnt k).toNat) = ((10 ^ (cnt k).toNat : Nat) : Int) := pow_cast 10 _
      rw [h10] at this; omega
    simp only [if_pos]
    rw [hval, if_neg (by omega)]
    have hd := drop_app_len hA h
    rw [bcdpad_length, ps_length] at hd
    rw [rdB_hit hd.1 hv hv3 hd.2, List.length_append, bcdpad_length, ps_length]
    simp only [Nat.add_assoc]
  · rw [if_neg h0]
    have hl := (fln_none hk h0).1 hv.2
    rw [hdr_nil h0, List.nil_append] at h ⊢
    have := rdB_hit hA hv hv3 h
    rw [hl] at this; exact this
theorem rdF_inv {no k l : Int} {b v : List UInt8} {A : Nat} {I : Int} (ho : formOf no = some (k, l)) (hA : A ≤ b.length) (h : rdF k l b A = (v, I, 0, ())) :
    fv k l v ∧ I = ((A + (wrF k v).length : Nat) : Int) ∧ A + (wrF k v).length ≤ b.length ∧ b.drop A = wrF k v ++ b.drop (A + (wrF k v).length) := by
  obtain ⟨hk, h1, h400, h99⟩ := form_ok ho
  unfold rdF at h
  rw [if_neg (by omega)] at h
  by_cases h0 : 0 < cnt k
  · rw [if_pos h0] at h
    have hcr := cnt_range hk
    obtain ⟨C, hC⟩ : ∃ n : Nat, cnt k = n := ⟨(cnt k).toNat, by omega⟩
    rw [hC] at h
    rcases takeBcd_cases hA (show C ≤ 999 by omega) with ⟨_, e⟩ | ⟨_, e, _⟩ | ⟨s, h3, e, hf, hs, ht⟩
    · rw [e] at h; simp at h
    · rw [e] at h; simp at h
    · rw [e] at h
      simp only [if_pos] at h
      by_cases hm : (val s : Int) < 1 ∨ l < val s
      · rw [if_pos hm] at h; simp at h
      rw [if_neg hm] at h
      obtain ⟨e1, e2, e3, e4, e5, e6⟩ := rdB_inv h3 (by omega) h
      have hfv : fv k l v := by
        by_cases h2 : k ≤ 2
        · exact num_fv h2 (e2 h2) (fln_cnt h0 (by omega) (by omega))
        · exact e3 h2
      have hh : hdr k v.length = bcd (pad s) := by
        rw [hdr_of h0, e1, hC, Int.toNat_natCast, ← hs, ps_val hf]
      have hhl : (hdr k v.length).length = (C + 1) / 2 := by rw [hh, bcdpad_length, hs]
      refine ⟨hfv, ?_, ?_, ?_⟩
      · rw [e4]; unfold wrF; rw [List.length_append, hhl]; omega
      · unfold wrF; rw [List.length_append, hhl]; omega
      · unfold wrF
        rw [List.length_append, hhl, ← Nat.add_assoc, List.append_assoc, ← drop_of_tk e6, hh]
        exact drop_of_tk ht
  · rw [if_neg h0] at h
    obtain ⟨L, hL⟩ : ∃ n : Nat, l = n := ⟨l.toNat, by omega⟩
    rw [hL] at h
    obtain ⟨e1, e2, e3, e4, e5, e6⟩ := rdB_inv hA (by omega) h
    rw [← hL] at e3
    have hfv : fv k l v := by
      by_cases h2 : k ≤ 2
      · exact num_fv h2 (e2 h2) ((fln_none hk h0).2 (by omega))
      · exact e3 h2
    refine ⟨hfv, ?_, ?_, ?_⟩ <;> unfold wrF <;> rw [hdr_nil h0, List.nil_append]
    · exact e4
    · exact e5
    · exact drop_of_tk e6
theorem rdF_err {k l : Int} {b : List UInt8} {a : Int} : (rdF k l b a).2.2.1 = 0 ∨ rdF k l b a = ([], 0, (rdF k l b a).2.2.1, ()) := by
  unfold rdF
  by_cases h1 : a < 0 ∨ (b.length : Int) < a
  · rw [if_pos h1]; exact .inr rfl
  rw [if_neg h1]
  by_cases h2 : 0 < cnt k
  · rw [if_pos h2]
    by_cases h3 : (takeBcd b a (cnt k)).2.2.1 = 0
    · rw [if_pos h3]
      by_cases h4 : (val (takeBcd b a (cnt k)).1 : Int) < 1 ∨ l < val (takeBcd b a (cnt k)).1
      · rw [if_pos h4]; exact .inr rfl
      · rw [if_neg h4]; exact rdB_err
    · rw [if_neg h3]; exact .inr rfl
  · rw [if_neg h2]; exact rdB_err
theorem rdD_err {no : Int} {b : List UInt8} {a : Int} : (rdD no b a).2.2.1 = 0 ∨ rdD no b a = ([], 0, (rdD no b a).2.2.1, ()) := by
  unfold rdD
  split
  · exact .inr rfl
  · exact rdF_err
theorem rdF_cut {no k l : Int} {b v : List UInt8} {A c : Nat} (ho : formOf no = some (k, l)) (hA : A ≤ b.length) (hv : fv k l v) (hc : c < (wrF k v).length) (h : b.drop A = (wrF k v).take c) : rdF k l b A = ([], 0, 3, ()) := by
  obtain ⟨hk, h1, h400, h99⟩ := form_ok ho
  obtain ⟨hv1, hv2, hv3⟩ := fv_len ho hv
  have hbl := drop_len hA h
  rw [List.length_take, Nat.min_eq_left (by omega)] at hbl
  unfold rdF
  rw [if_neg (by omega)]
  unfold wrF at h hc
  by_cases h0 : 0 < cnt k
  · rw [if_pos h0]
    obtain ⟨c1, c2, c3⟩ := cnt_lt hk h99 h400 hv h0
    have hcr := cnt_range hk
    obtain ⟨C, hC⟩ : ∃ n : Nat, cnt k = n := ⟨(cnt k).toNat, by omega⟩
    by_cases hlt : c < (hdr k v.length).length
    · rw [hC]
      have hhl : (hdr k v.length).length = (C + 1) / 2 := by rw [hdr_length, if_pos h0, hC, Int.toNat_natCast]
      rcases takeBcd_cases hA (show C ≤ 999 by omega) with ⟨_, e⟩ | ⟨h3, _⟩ | ⟨s, h3, _⟩
      · rw [e]; rfl
      · omega
      · omega
    · have h' : b.drop A = bcd (pad (ps 10 dch v.length (cnt k).toNat)) ++ (body k v).take (c - (hdr k v.length).length) := by
        rw [h, List.take_append, List.take_of_length_le (by omega), hdr_of h0]
      have hp := takeBcd_hit (s := ps 10 dch v.length (cnt k).toNat) hA (by rw [ps_length]; omega) figs_ps h'
      rw [ps_length, Int.toNat_of_nonneg (by omega)] at hp
      rw [hp]
      have hval : val (ps 10 dch v.length (cnt k).toNat) = v.length := by
        rw [val_ps, Nat.mod_eq_of_lt]
        have := c2.2
        have h10 : ((10 : Int) ^ (cnt k).toNat) = ((10 ^ (cnt k).toNat : Nat) : Int) := pow_cast 10 _
        rw [h10] at this; omega
      simp only [if_pos]
      rw [hval, if_neg (by omega)]
      have hd := drop_app_len hA h'
      have hhl : (hdr k v.length).length = ((cnt k).toNat + 1) / 2 := by rw [hdr_length, if_pos h0]
      rw [List.length_append] at hc
      exact rdB_cut (by rw [bcdpad_length, ps_length] at hd; exact hd.1) hv3 (by omega)
  · rw [if_neg h0]
    have hl := (fln_none hk h0).1 hv.2
    rw [hdr_nil h0, List.nil_append] at hc
    have := rdB_cut (l := l) hA hv3 (show b.length < A + (body k v).length by omega)
    rw [hl] at this; exact this
theorem wrF_le {k : Int} {v : List UInt8} (hk : kinds k) (h : v.length ≤ 400) : (wrF k v).length ≤ 402 := by
  rw [wrF_length hk]; repeat' split
  all_goals omega
theorem wrF_pos {k : Int} {v : List UInt8} (hk : kinds k) (h : 1 ≤ v.length) : 1 ≤ (wrF k v).length := by
  rw [wrF_length hk]; repeat' split
  all_goals omega
end Yp

namespace Yp
open Go
def mkb (g : Nat → Bool) : UInt8 := UInt8.ofNat ((g 0).toNat * 128 + (g 1).toNat * 64 + (g 2).toNat * 32 + (g 3).toNat * 16 + (g 4).toNat * 8 + (g 5).toNat * 4 + (g 6).toNat * 2 + (g 7).toNat)
theorem bt_mk' : ∀ b0 b1 b2 b3 b4 b5 b6 b7 : Bool, bt (UInt8.ofNat (b0.toNat * 128 + b1.toNat * 64 + b2.toNat * 32 + b3.toNat * 16 + b4.toNat * 8 + b5.toNat * 4 + b6.toNat * 2 + b7.toNat)) 0 = b0 ∧
    bt (UInt8.ofNat (b0.toNat * 128 + b1.toNat * 64 + b2.toNat * 32 + b3.toNat * 16 + b4.toNat * 8 + b5.toNat * 4 + b6.toNat * 2 + b7.toNat)) 1 = b1 ∧ bt (UInt8.ofNat (b0.toNat * 128 + b1.toNat * 64 + b2.toNat * 32 + b3.toNat * 16 + b4.toNat * 8 + b5.toNat * 4 + b6.toNat * 2 + b7.toNat)) 2 = b2 ∧
    bt (UInt8.ofNat (b0.toNat * 128 + b1.toNat * 64 + b2.toNat * 32 + b3.toNat * 16 + b4.toNat * 8 + b5.toNat * 4 + b6.toNat * 2 + b7.toNat)) 3 = b3 ∧ bt (UInt8.ofNat (b0.toNat * 128 + b1.toNat * 64 + b2.toNat * 32 + b3.toNat * 16 + b4.toNat * 8 + b5.toNat * 4 + b6.toNat * 2 + b7.toNat)) 4 = b4 ∧
    bt (UInt8.ofNat (b0.toNat * 128 + b1.toNat * 64 + b2.toNat * 32 + b3.toNat * 16 + b4.toNat * 8 + b5.toNat * 4 + b6.toNat * 2 + b7.toNat)) 5 = b5 ∧ bt (UInt8.ofNat (b0.toNat * 128 + b1.toNat * 64 + b2.toNat * 32 + b3.toNat * 16 + b4.toNat * 8 + b5.toNat * 4 + b6.toNat * 2 + b7.toNat)) 6 = b6 ∧
    bt (UInt8.ofNat (b0.toNat * 128 + b1.toNat * 64 + b2.toNat * 32 + b3.toNat * 16 + b4.toNat * 8 + b5.toNat * 4 + b6.toNat * 2 + b7.toNat)) 7 = b7 := by decide +kernel
theorem bt_mkb {g : Nat → Bool} {t : Nat} (ht : t < 8) : bt (mkb g) t = g t := by
  obtain ⟨h0, h1, h2, h3, h4, h5, h6, h7⟩ := bt_mk' (g 0) (g 1) (g 2) (g 3) (g 4) (g 5) (g 6) (g 7)
  have : t = 0 ∨ t = 1 ∨ t = 2 ∨ t = 3 ∨ t = 4 ∨ t = 5 ∨ t = 6 ∨ t = 7 := by omega
  rcases this with rfl | rfl | rfl | rfl | rfl | rfl | rfl | rfl <;> assumption
theorem mkb_bt : ∀ c : UInt8, mkb (bt c) = c := all8 (by decide +kernel)
theorem byte_ext {c d : UInt8} (h : ∀ t, t < 8 → bt c t = bt d t) : c = d := by
  rw [← mkb_bt c, ← mkb_bt d]
  unfold mkb
  rw [h 0 (by omega), h 1 (by omega), h 2 (by omega), h 3 (by omega), h 4 (by omega), h 5 (by omega), h 6 (by omega), h 7 (by omega)]
theorem mkb_ext {g h : Nat → Bool} (e : ∀ t, t < 8 → g t = h t) : mkb g = mkb h := byte_ext fun t ht => by rw [bt_mkb ht, bt_mkb ht, e t ht]
def bitB (t : Nat) : UInt8 := UInt8.ofNat (2 ^ (7 - t))
theorem bit_shr : ∀ t : Nat, t < 8 → u8 (shrI .u8 128 (t : Int)) = bitB t := by decide +kernel
theorem or_bit : ∀ c : UInt8, ∀ t : Nat, t < 8 → u8 (orI .u8 (n8 c) (n8 (bitB t))) = mkb fun s => bt c s || Nat.beq s t := all8 (by decide +kernel)
theorem add_bit : ∀ c : UInt8, ∀ t : Nat, t < 8 → bt c t = false → u8 (iadd (n8 c) (n8 (bitB t))) = mkb fun s => bt c s || Nat.beq s t := all8 (by decide +kernel)
theorem and_bit : ∀ c : UInt8, ∀ t : Nat, t < 8 → (bnot (beq (n8 (u8 (andI .u8 (n8 c) (n8 (bitB t))))) (n8 (u8 0)))) = bt c t := all8 (by decide +kernel)
theorem bitmap_Place_spec {n : Nat} (h1 : 1 ≤ n) (h2 : n ≤ 128) : bitmap_Place ((n : Int), ()) = some ((((n - 1) / 8 : Nat) : Int), bitB ((n - 1) % 8), ()) := by
  unfold bitmap_Place
  simp (disch := first | assumption | omega | decide) only [↓g02, ↓g03, ↓g04, ↓g05, ↓g06, g01, g02, g03, g04, g05, g06, g07, g08, g09, g10, g11, g12, g13, g14, g15, g16, g17, g18, g19, g20, g21, g22, g23, g24, g25, g26, g27, g28, g29, g30, g31, g32, g34, g35, g36, g37, g38, g39, g40, g41, g42, g43, g44, g45, g46, g47, g48, g49, g50, g51, g52, g53, g54, g55, g56, g57, g58, g60, g61, eq_self, not_true_eq_false, not_false_eq_true, List.nil_append, List.append_nil, List.length_nil, and_true, true_and, or_true, true_or, or_false, false_or, and_false, false_and, iff_self, if_true, if_false, lc_rt', lc_ex', lc_nx, g62, g63, Int.toNat_natCast, Int.natCast_add, nth_get, g33, g64, g65, Int.toNat_zero]
  have e1 : ((n : Int) - 1) / 8 = (((n - 1) / 8 : Nat) : Int) := by omega
  have e2 : ((n : Int) - 1) % 8 = (((n - 1) % 8 : Nat) : Int) := by omega
  rw [e1, e2, ← bit_shr _ (by omega)]
theorem ref06_Place_spec {n : Nat} (h1 : 1 ≤ n) (h2 : n ≤ 128) : ref06_Place ((n : Int), ()) = some ((((n - 1) / 8 : Nat) : Int), bitB ((n - 1) % 8), ()) := by
  unfold ref06_Place
  generalize hf : (fun (x_1 : Int × Int × Unit) => _) = f
  have step : ∀ i : Nat, i < (n - 1) % 8 → f (((2 ^ (7 - i) : Nat) : Int), (i : Int), ()) = some (.nx (((2 ^ (7 - (i + 1)) : Nat) : Int), ((i + 1 : Nat) : Int), ())) := fun i hi => by
    subst hf
    have hp : i = 0 ∨ i = 1 ∨ i = 2 ∨ i = 3 ∨ i = 4 ∨ i = 5 ∨ i = 6 := by omega
    rcases hp with rfl | rfl | rfl | rfl | rfl | rfl | rfl <;> (simp (disch := first | assumption | omega | decide) only [↓g02, ↓g03, ↓g04, ↓g05, ↓g06, g01, g02, g03, g04, g05, g06, g07, g08, g09, g10, g11, g12, g13, g14, g15, g16, g17, g18, g19, g20, g21, g22, g23, g24, g25, g26, g27, g28, g29, g30, g31, g32, g34, g35, g36, g37, g38, g39, g40, g41, g42, g43, g44, g45, g46, g47, g48, g49, g50, g51, g52, g53, g54, g55, g56, g57, g58, g60, g61, eq_self, not_true_eq_false, not_false_eq_true, List.nil_append, List.append_nil, List.length_nil, and_true, true_and, or_true, true_or, or_false, false_or, and_false, false_and, iff_self, if_true, if_false, lc_rt', lc_ex', lc_nx, g62, g63, Int.toNat_natCast, Int.natCast_add, nth_get, g33, g64, g65, Int.toNat_zero]; rfl)
  have last : f (((2 ^ (7 - (n - 1) % 8) : Nat) : Int), (((n - 1) % 8 : Nat) : Int), ()) = some (.ex 0 (((2 ^ (7 - (n - 1) % 8) : Nat) : Int), (((n - 1) % 8 : Nat) : Int), ())) := by
    subst hf; simp (disch := first | assumption | omega | decide) only [↓g02, ↓g03, ↓g04, ↓g05, ↓g06, g01, g02, g03, g04, g05, g06, g07, g08, g09, g10, g11, g12, g13, g14, g15, g16, g17, g18, g19, g20, g21, g22, g23, g24, g25, g26, g27, g28, g29, g30, g31, g32, g34, g35, g36, g37, g38, g39, g40, g41, g42, g43, g44, g45, g46, g47, g48, g49, g50, g51, g52, g53, g54, g55, g56, g57, g58, g60, g61, eq_self, not_true_eq_false, not_false_eq_true, List.nil_append, List.append_nil, List.length_nil, and_true, true_and, or_true, true_or, or_false, false_or, and_false, false_and, iff_self, if_true, if_false, lc_rt', lc_ex', lc_nx, g62, g63, Int.toNat_natCast, Int.natCast_add, nth_get, g33, g64, g65, Int.toNat_zero]
  have e := loop_count (f := f) (fun i => (((2 ^ (7 - i) : Nat) : Int), (i : Int), ())) ((n - 1) % 8) step 0 (by omega)
  have e : loop f (128, 0, ()) = _ := e.trans (loop_ex last)
  simp (disch := first | assumption | omega | decide) only [↓g02, ↓g03, ↓g04, ↓g05, ↓g06, g01, g02, g03, g04, g05, g06, g07, g08, g09, g10, g11, g12, g13, g14, g15, g16, g17, g18, g19, g20, g21, g22, g23, g24, g25, g26, g27, g28, g29, g30, g31, g32, g34, g35, g36, g37, g38, g39, g40, g41, g42, g43, g44, g45, g46, g47, g48, g49, g50, g51, g52, g53, g54, g55, g56, g57, g58, g60, g61, eq_self, not_true_eq_false, not_false_eq_true, List.nil_append, List.append_nil, List.length_nil, and_true, true_and, or_true, true_or, or_false, false_or, and_false, false_and, iff_self, if_true, if_false, lc_rt', lc_ex', lc_nx, g62, g63, Int.toNat_natCast, Int.natCast_add, nth_get, g33, g64, g65, Int.toNat_zero, e]
  have e1 : ((n : Int) - 1) / 8 = (((n - 1) / 8 : Nat) : Int) := by omega
  rw [e1]; unfold bitB; rw [u8_nat']
def rightL : Int → List Int → Bool
  | _, [] => true
  | last, n :: r => decide (last < n ∧ n ≤ 128 ∧ n ≠ 65) && rightL n r
def rlStep (last n : Int) : LS Int (Bool × Unit) := if last < n ∧ n ≤ 128 ∧ n ≠ 65 then .nx n else .rt (false, ())
theorem foldS_rl {σ : Type} {mk : Int → Nat → σ} {e : Nat} : ∀ (l : List Int) (last : Int) (i : Nat), (rightL last l = true ∧ ∃ y, foldS mk e rlStep last i l = .ex e y) ∨ (rightL last l = false ∧ foldS mk e rlStep last i l = .rt (false, ()))
  | [], last, i => .inl ⟨rfl, _, rfl⟩
  | n :: r, last, i => by
    by_cases h : last < n ∧ n ≤ 128 ∧ n ≠ 65
    · have hs : rlStep last n = .nx n := if_pos h
      have := foldS_rl (mk := mk) (e := e) r n (i + 1)
      simp only [foldS, hs, rightL, decide_eq_true h, Bool.true_and]; exact this
    · have hs : rlStep last n = .rt (false, ()) := if_neg h
      refine .inr ⟨?_, by simp only [foldS, hs]⟩
      simp only [rightL, decide_eq_false h, Bool.false_and]
theorem bitmap_Right_spec (l : List Int) (hl : l.length ≤ 1000000) : bitmap_Right (l, ()) = some (rightL 1 l, ()) := by
  unfold bitmap_Right
  generalize hf : (fun (x_1 : Bool × Int × Int × Unit) => _) = f
  have key := loop_fold (f := f) l (fun last i => (false, last, (i : Int), ())) 0 rlStep (fun _ _ => True) (fun b i h _ => ⟨?_, fun _ _ => trivial⟩) (fun b _ => ?_) 1 trivial
  · refine (lc_eq key).trans ?_
    rcases foldS_rl (mk := fun last i => ((false, last, (i : Int), ()) : Bool × Int × Int × Unit)) (e := 0) l 1 0 with ⟨h1, y, h2⟩ | ⟨h1, h2⟩
    · rw [h1, h2]; simp (disch := first | assumption | omega | decide) only [↓g02, ↓g03, ↓g04, ↓g05, ↓g06, g01, g02, g03, g04, g05, g06, g07, g08, g09, g10, g11, g12, g13, g14, g15, g16, g17, g18, g19, g20, g21, g22, g23, g24, g25, g26, g27, g28, g29, g30, g31, g32, g34, g35, g36, g37, g38, g39, g40, g41, g42, g43, g44, g45, g46, g47, g48, g49, g50, g51, g52, g53, g54, g55, g56, g57, g58, g60, g61, eq_self, not_true_eq_false, not_false_eq_true, List.nil_append, List.append_nil, List.length_nil, and_true, true_and, or_true, true_or, or_false, false_or, and_false, false_and, iff_self, if_true, if_false, lc_rt', lc_ex', lc_nx, g62, g63, Int.toNat_natCast, Int.natCast_add, nth_get, g33, g64, g65, Int.toNat_zero]
    · rw [h1, h2]; simp (disch := first | assumption | omega | decide) only [↓g02, ↓g03, ↓g04, ↓g05, ↓g06, g01, g02, g03, g04, g05, g06, g07, g08, g09, g10, g11, g12, g13, g14, g15, g16, g17, g18, g19, g20, g21, g22, g23, g24, g25, g26, g27, g28, g29, g30, g31, g32, g34, g35, g36, g37, g38, g39, g40, g41, g42, g43, g44, g45, g46, g47, g48, g49, g50, g51, g52, g53, g54, g55, g56, g57, g58, g60, g61, eq_self, not_true_eq_false, not_false_eq_true, List.nil_append, List.append_nil, List.length_nil, and_true, true_and, or_true, true_or, or_false, false_or, and_false, false_and, iff_self, if_true, if_false, lc_rt', lc_ex', lc_nx, g62, g63, Int.toNat_natCast, Int.natCast_add, nth_get, g33, g64, g65, Int.toNat_zero]
  · subst hf
    by_cases h1 : b < l[i] ∧ l[i] ≤ 128 ∧ l[i] ≠ 65
    · have hs : rlStep b l[i] = .nx l[i] := if_pos h1
      simp (disch := first | assumption | omega | decide) only [↓g02, ↓g03, ↓g04, ↓g05, ↓g06, g01, g02, g03, g04, g05, g06, g07, g08, g09, g10, g11, g12, g13, g14, g15, g16, g17, g18, g19, g20, g21, g22, g23, g24, g25, g26, g27, g28, g29, g30, g31, g32, g34, g35, g36, g37, g38, g39, g40, g41, g42, g43, g44, g45, g46, g47, g48, g49, g50, g51, g52, g53, g54, g55, g56, g57, g58, g60, g61, eq_self, not_true_eq_false, not_false_eq_true, List.nil_append, List.append_nil, List.length_nil, and_true, true_and, or_true, true_or, or_false, false_or, and_false, false_and, iff_self, if_true, if_false, lc_rt', lc_ex', lc_nx, g62, g63, Int.toNat_natCast, Int.natCast_add, nth_get, g33, g64, g65, Int.toNat_zero, hs, liftS]
    · have hs : rlStep b l[i] = .rt (false, ()) := if_neg h1
      simp (disch := first | assumption | omega | decide) only [↓g02, ↓g03, ↓g04, ↓g05, ↓g06, g01, g02, g03, g04, g05, g06, g07, g08, g09, g10, g11, g12, g13, g14, g15, g16, g17, g18, g19, g20, g21, g22, g23, g24, g25, g26, g27, g28, g29, g30, g31, g32, g34, g35, g36, g37, g38, g39, g40, g41, g42, g43, g44, g45, g46, g47, g48, g49, g50, g51, g52, g53, g54, g55, g56, g57, g58, g60, g61, eq_self, not_true_eq_false, not_false_eq_true, List.nil_append, List.append_nil, List.length_nil, and_true, true_and, or_true, true_or, or_false, false_or, and_false, false_and, iff_self, if_true, if_false, lc_rt', lc_ex', lc_nx, g62, g63, Int.toNat_natCast, Int.natCast_add, nth_get, g33, g64, g65, Int.toNat_zero, hs, liftS]
  · subst hf; simp (disch := first | assumption | omega | decide) only [↓g02, ↓g03, ↓g04, ↓g05, ↓g06, g01, g02, g03, g04, g05, g06, g07, g08, g09, g10, g11, g12, g13, g14, g15, g16, g17, g18, g19, g20, g21, g22, g23, g24, g25, g26, g27, g28, g29, g30, g31, g32, g34, g35, g36, g37, g38, g39, g40, g41, g42, g43, g44, g45, g46, g47, g48, g49, g50, g51, g52, g53, g54, g55, g56, g57, g58, g60, g61, eq_self, not_true_eq_false, not_false_eq_true, List.nil_append, List.append_nil, List.length_nil, and_true, true_and, or_true, true_or, or_false, false_or, and_false, false_and, iff_self, if_true, if_false, lc_rt', lc_ex', lc_nx, g62, g63, Int.toNat_natCast, Int.natCast_add, nth_get, g33, g64, g65, Int.toNat_zero]
theorem ref06_Right_spec (l : List Int) (hl : l.length ≤ 1000000) : ref06_Right (l, ()) = some (rightL 1 l, ()) := by
  unfold ref06_Right
  generalize hf : (fun (x_1 : Bool × Int × Unit) => _) = f
  have key := loop_fold (f := f) l (fun (last : Int) i => (false, (i : Int), ())) 0 rlStep (fun b i => (i = 0 ∧ b = 1) ∨ ∃ h : i - 1 < l.length, 0 < i ∧ l[i - 1] = b ∧ 2 ≤ b) (fun b i h hI => ⟨?_, fun b' hb => ?_⟩) (fun b _ => ?_) 1 (.inl ⟨rfl, rfl⟩)
  · refine (lc_eq key).trans ?_
    rcases foldS_rl (mk := fun (last : Int) i => ((false, (i : Int), ()) : Bool × Int × Unit)) (e := 0) l 1 0 with ⟨h1, y, h2⟩ | ⟨h1, h2⟩
    · rw [h1, h2]; simp (disch := first | assumption | omega | decide) only [↓g02, ↓g03, ↓g04, ↓g05, ↓g06, g01, g02, g03, g04, g05, g06, g07, g08, g09, g10, g11, g12, g13, g14, g15, g16, g17, g18, g19, g20, g21, g22, g23, g24, g25, g26, g27, g28, g29, g30, g31, g32, g34, g35, g36, g37, g38, g39, g40, g41, g42, g43, g44, g45, g46, g47, g48, g49, g50, g51, g52, g53, g54, g55, g56, g57, g58, g60, g61, eq_self, not_true_eq_false, not_false_eq_true, List.nil_append, List.append_nil, List.length_nil, and_true, true_and, or_true, true_or, or_false, false_or, and_false, false_and, iff_self, if_true, if_false, lc_rt', lc_ex', lc_nx, g62, g63, Int.toNat_natCast, Int.natCast_add, nth_get, g33, g64, g65, Int.toNat_zero]
    · rw [h1, h2]; simp (disch := first | assumption | omega | decide) only [↓g02, ↓g03, ↓g04, ↓g05, ↓g06, g01, g02, g03, g04, g05, g06, g07, g08, g09, g10, g11, g12, g13, g14, g15, g16, g17, g18, g19, g20, g21, g22, g23, g24, g25, g26, g27, g28, g29, g30, g31, g32, g34, g35, g36, g37, g38, g39, g40, g41, g42, g43, g44, g45, g46, g47, g48, g49, g50, g51, g52, g53, g54, g55, g56, g57, g58, g60, g61, eq_self, not_true_eq_false, not_false_eq_true, List.nil_append, List.append_nil, List.length_nil, and_true, true_and, or_true, true_or, or_false, false_or, and_false, false_and, iff_self, if_true, if_false, lc_rt', lc_ex', lc_nx, g62, g63, Int.toNat_natCast, Int.natCast_add, nth_get, g33, g64, g65, Int.toNat_zero]
  · subst hf
    rcases hI with ⟨rfl, rfl⟩ | ⟨h', h0, hb, h2⟩
    · by_cases h1 : 1 < l[0] ∧ l[0] ≤ 128 ∧ l[0] ≠ 65
      · have hs : rlStep 1 l[0] = .nx l[0] := if_pos h1
        simp (disch := first | assumption | omega | decide) only [↓g02, ↓g03, ↓g04, ↓g05, ↓g06, g01, g02, g03, g04, g05, g06, g07, g08, g09, g10, g11, g12, g13, g14, g15, g16, g17, g18, g19, g20, g21, g22, g23, g24, g25, g26, g27, g28, g29, g30, g31, g32, g34, g35, g36, g37, g38, g39, g40, g41, g42, g43, g44, g45, g46, g47, g48, g49, g50, g51, g52, g53, g54, g55, g56, g57, g58, g60, g61, eq_self, not_true_eq_false, not_false_eq_true, List.nil_append, List.append_nil, List.length_nil, and_true, true_and, or_true, true_or, or_false, false_or, and_false, false_and, iff_self, if_true, if_false, lc_rt', lc_ex', lc_nx, g62, g63, Int.toNat_natCast, Int.natCast_add, nth_get, g33, g64, g65, Int.toNat_zero, hs, liftS]
      · have hs : rlStep 1 l[0] = .rt (false, ()) := if_neg h1
        simp (disch := first | assumption | omega | decide) only [↓g02, ↓g03, ↓g04, ↓g05, ↓g06, g01, g02, g03, g04, g05, g06, g07, g08, g09, g10, g11, g12, g13, g14, g15, g16, g17, g18, g19, g20, g21, g22, g23, g24, g25, g26, g27, g28, g29, g30, g31, g32, g34, g35, g36, g37, g38, g39, g40, g41, g42, g43, g44, g45, g46, g47, g48, g49, g50, g51, g52, g53, g54, g55, g56, g57, g58, g60, g61, eq_self, not_true_eq_false, not_false_eq_true, List.nil_append, List.append_nil, List.length_nil, and_true, true_and, or_true, true_or, or_false, false_or, and_false, false_and, iff_self, if_true, if_false, lc_rt', lc_ex', lc_nx, g62, g63, Int.toNat_natCast, Int.natCast_add, nth_get, g33, g64, g65, Int.toNat_zero, hs, liftS]
    · have hq : ((i : Int) - 1).toNat = i - 1 := by omega
      by_cases h1 : b < l[i] ∧ l[i] ≤ 128 ∧ l[i] ≠ 65
      · have hs : rlStep b l[i] = .nx l[i] := if_pos h1
        simp (disch := first | assumption | omega | decide) only [↓g02, ↓g03, ↓g04, ↓g05, ↓g06, g01, g02, g03, g04, g05, g06, g07, g08, g09, g10, g11, g12, g13, g14, g15, g16, g17, g18, g19, g20, g21, g22, g23, g24, g25, g26, g27, g28, g29, g30, g31, g32, g34, g35, g36, g37, g38, g39, g40, g41, g42, g43, g44, g45, g46, g47, g48, g49, g50, g51, g52, g53, g54, g55, g56, g57, g58, g60, g61, eq_self, not_true_eq_false, not_false_eq_true, List.nil_append, List.append_nil, List.length_nil, and_true, true_and, or_true, true_or, or_false, false_or, and_false, false_and, iff_self, if_true, if_false, lc_rt', lc_ex', lc_nx, g62, g63, Int.toNat_natCast, Int.natCast_add, nth_get, g33, g64, g65, Int.toNat_zero, hs, liftS, hq]
      · have hs : rlStep b l[i] = .rt (false, ()) := if_neg h1
        simp (disch := first | assumption | omega | decide) only [↓g02, ↓g03, ↓g04, ↓g05, ↓g06, g01, g02, g03, g04, g05, g06, g07, g08, g09, g10, g11, g12, g13, g14, g15, g16, g17, g18, g19, g20, g21, g22, g23, g24, g25, g26, g27, g28, g29, g30, g31, g32, g34, g35, g36, g37, g38, g39, g40, g41, g42, g43, g44, g45, g46, g47, g48, g49, g50, g51, g52, g53, g54, g55, g56, g57, g58, g60, g61, eq_self, not_true_eq_false, not_false_eq_true, List.nil_append, List.append_nil, List.length_nil, and_true, true_and, or_true, true_or, or_false, false_or, and_false, false_and, iff_self, if_true, if_false, lc_rt', lc_ex', lc_nx, g62, g63, Int.toNat_natCast, Int.natCast_add, nth_get, g33, g64, g65, Int.toNat_zero, hs, liftS, hq]
  · right
    have hb1 : b' = l[i] ∧ b < l[i] := by
      unfold rlStep at hb
      split at hb
      · rename_i hc; cases hb; exact ⟨rfl, hc.1⟩
      · cases hb
    refine ⟨by simpa using h, by omega, ?_, ?_⟩
    · simp only [Nat.add_sub_cancel]; exact hb1.1.symm
    · rcases hI with ⟨_, rfl⟩ | ⟨_, _, _, h2⟩ <;> omega
  · subst hf; simp (disch := first | assumption | omega | decide) only [↓g02, ↓g03, ↓g04, ↓g05, ↓g06, g01, g02, g03, g04, g05, g06, g07, g08, g09, g10, g11, g12, g13, g14, g15, g16, g17, g18, g19, g20, g21, g22, g23, g24, g25, g26, g27, g28, g29, g30, g31, g32, g34, g35, g36, g37, g38, g39, g40, g41, g42, g43, g44, g45, g46, g47, g48, g49, g50, g51, g52, g53, g54, g55, g56, g57, g58, g60, g61, eq_self, not_true_eq_false, not_false_eq_true, List.nil_append, List.append_nil, List.length_nil, and_true, true_and, or_true, true_or, or_false, false_or, and_false, false_and, iff_self, if_true, if_false, lc_rt', lc_ex', lc_nx, g62, g63, Int.toNat_natCast, Int.natCast_add, nth_get, g33, g64, g65, Int.toNat_zero]
def rowB (size : Nat) (S : Nat → Bool) : List UInt8 := (List.range size).map fun j => mkb fun t => S (8 * j + t + 1)
theorem rowB_length {size : Nat} {S : Nat → Bool} : (rowB size S).length = size := by simp [rowB]
theorem rowB_get {size : Nat} {S : Nat → Bool} {j : Nat} (h : j < size) : nth (rowB size S) j (u8 0) = mkb fun t => S (8 * j + t + 1) := by
  rw [nth_get (by rw [rowB_length]; exact h)]; simp [rowB]
theorem hasB_rowB {size : Nat} {S : Nat → Bool} {n : Nat} (h1 : 1 ≤ n) (h2 : n ≤ 8 * size) : hasB (rowB size S) n = S n := by
  unfold hasB
  rw [rowB_get (by omega), bt_mkb (by omega)]
  congr 1; omega
theorem row_ext {a b : List UInt8} (hl : a.length = b.length) (h : ∀ n, 1 ≤ n → n ≤ 8 * a.length → hasB a n = hasB b n) : a = b := by
  refine List.ext_getElem hl fun j h1 h2 => byte_ext fun t ht => ?_
  have := h (8 * j + t + 1) (by omega) (by omega)
  unfold hasB at this
  rw [show (8 * j + t + 1 - 1) / 8 = j by omega, show (8 * j + t + 1 - 1) % 8 = t by omega, nth_get h1, nth_get h2] at this
  exact this
theorem rowB_has (b : List UInt8) : rowB b.length (hasB b) = b := row_ext rowB_length fun n h1 h2 => by rw [rowB_length] at h2; exact hasB_rowB h1 h2
theorem rowB_ext {size : Nat} {S S' : Nat → Bool} (h : ∀ n, 1 ≤ n → n ≤ 8 * size → S n = S' n) : rowB size S = rowB size S' := row_ext (by rw [rowB_length, rowB_length]) fun n h1 h2 => by
  rw [rowB_length] at h2; rw [hasB_rowB h1 h2, hasB_rowB h1 h2, h n h1 h2]
theorem rep_row (size : Nat) : rep size (u8 0) = rowB size fun _ => false := by
  refine List.ext_getElem (by simp [rep, rowB]) fun j h1 h2 => ?_
  simp only [rep, List.getElem_replicate, rowB, List.getElem_map]
  decide
def setS (S : Nat → Bool) (n : Nat) : Nat → Bool := fun m => S m || Nat.beq m n
theorem set_row {size : Nat} {S : Nat → Bool} {n : Nat} (h1 : 1 ≤ n) (h2 : n ≤ 8 * size) {c : UInt8} (hc : c = mkb fun s => bt (nth (rowB size S) ((n - 1) / 8) (u8 0)) s || Nat.beq s ((n - 1) % 8)) : upd (rowB size S) ((n - 1) / 8) c = rowB size (setS S n) := by
  refine List.ext_getElem (by simp [upd, rowB]) fun j h3 h4 => ?_
  rw [rowB_length] at h4
  have hg := rowB_get (S := S) (show (n - 1) / 8 < size by omega)
  simp only [upd, List.getElem_set]
  split
  · rename_i hj
    subst hj
    rw [hc, hg]
    simp only [rowB, List.getElem_map, List.getElem_range]
    refine mkb_ext fun t ht => ?_
    rw [bt_mkb ht]; unfold setS
    congr 1
    refine Bool.eq_iff_iff.2 ?_
    simp only [Nat.beq_eq]
    omega
  · rename_i hj
    simp only [rowB, List.getElem_map, List.getElem_range]
    refine mkb_ext fun t ht => ?_
    unfold setS
    have : Nat.beq (8 * j + t + 1) n = false := by
      refine (Bool.not_eq_true _).mp fun hb => hj ?_
      have := Nat.eq_of_beq_eq_true hb
      omega
    rw [this, Bool.or_false]
def wideL (l : List Int) : Bool := decide (0 < l.length) && decide (64 < nth l (l.length - 1) 0)
def memI (l : List Int) (n : Nat) : Bool := decide ((n : Int) ∈ l)
def bmW (l : List Int) : List UInt8 := if wideL l = true then rowB 16 (memI (1 :: l)) else rowB 8 (memI l)
theorem rightL_mem {l : List Int} : ∀ {last : Int}, rightL last l = true → ∀ n ∈ l, last < n ∧ n ≤ 128 ∧ n ≠ 65 := by
  induction l with
  | nil => intro _ _ n hn; cases hn
  | cons x r ih =>
    intro last h n hn
    simp only [rightL, Bool.and_eq_true, decide_eq_true_eq] at h
    rcases List.mem_cons.1 hn with rfl | hn
    · exact h.1
    · have := ih h.2 n hn
      exact ⟨by omega, this.2⟩
theorem rightL_last {l : List Int} : ∀ {last : Int}, rightL last l = true → ∀ n ∈ l, n ≤ nth l (l.length - 1) 0 := by
  induction l with
  | nil => intro _ _ n hn; cases hn
  | cons x r ih =>
    intro last h n hn
    simp only [rightL, Bool.and_eq_true, decide_eq_true_eq] at h
    cases r with
    | nil => simp at hn; subst hn; simp [nth]
    | cons y r =>
      have hr := ih h.2
      have hl : nth (x :: y :: r) ((x :: y :: r).length - 1) 0 = nth (y :: r) ((y :: r).length - 1) 0 := by simp [nth]
      rw [hl]
      rcases List.mem_cons.1 hn with rfl | hn
      · have h1 := (rightL_mem h.2 y (by simp)).1
        have := hr y (by simp)
        omega
      · exact hr n hn
theorem not_wide {l : List Int} (h : rightL 1 l = true) (hw : ¬ wideL l = true) : ∀ n ∈ l, n ≤ 64 := fun n hn => by
  have := rightL_last h n hn
  unfold wideL at hw
  have h0 : 0 < l.length := List.length_pos_of_mem hn
  simp only [Bool.and_eq_true, decide_eq_true_eq, not_and, Int.not_lt] at hw
  have := hw h0
  omega
theorem foldS_all {α β σ ρ : Type} {mk : β → Nat → σ} {e : Nat} {step : β → α → LS β ρ} {g : β → α → β} (h : ∀ b x, step b x = .nx (g b x)) : ∀ (l : List α) (b : β) (i : Nat), foldS mk e step b i l = .ex e (mk (l.foldl g b) (i + l.length))
  | [], b, i => rfl
  | x :: r, b, i => by
    simp only [foldS, h, List.foldl_cons, List.length_cons]
    rw [foldS_all h r (g b x) (i + 1)]
    congr 2; omega
theorem bits_loop {f : Int × List UInt8 × Unit → Option (LS (Int × List UInt8 × Unit) (List UInt8 × Int × Unit))} {l : List Int} {size : Nat} {S0 : Nat → Bool}
    (hs : ∀ (S : Nat → Bool) (i : Nat) (h : i < l.length), (∀ m, S m = (S0 m || memI (l.take i) m)) → f ((i : Int), rowB size S, ()) = some (.nx (((i + 1 : Nat) : Int), rowB size (setS S (l[i]).toNat), ())))
    (hr : ∀ n ∈ l, 1 ≤ n) (he : ∀ x, f ((l.length : Int), x, ()) = some (.ex 0 ((l.length : Int), x, ()))) : loop f (0, rowB size S0, ()) = some (.ex 0 ((l.length : Int), rowB size (fun m => S0 m || memI l m), ())) := by
  have key : ∀ (k i : Nat), k = l.length - i → i ≤ l.length → loop f ((i : Int), rowB size (fun m => S0 m || memI (l.take i) m), ()) = some (.ex 0 ((l.length : Int), rowB size (fun m => S0 m || memI l m), ())) := by
    intro k
    induction k with
    | zero =>
      intro i hk hi
      have : i = l.length := by omega
      subst this
      rw [List.take_length]
      exact loop_ex (he _)
    | succ k ih =>
      intro i hk hi
      have hlt : i < l.length := by omega
      refine (loop_nx (hs _ i hlt fun m => rfl)).trans ?_
      have hx := hr l[i] (List.getElem_mem hlt)
      have : (setS (fun m => S0 m || memI (l.take i) m) (l[i]).toNat) = fun m => S0 m || memI (l.take (i + 1)) m := by
        funext m
        unfold setS memI
        rw [Bool.or_assoc]
        congr 1
        refine Bool.eq_iff_iff.2 ?_
        rw [List.take_succ_eq_append_getElem hlt]
        simp only [Bool.or_eq_true, decide_eq_true_eq, Nat.beq_eq, List.mem_append, List.mem_singleton]
        refine or_congr Iff.rfl ?_
        omega
      rw [this]
      exact ih (i + 1) (by omega) (by omega)
  have := key l.length 0 (by omega) (by omega)
  simp only [List.take_zero, memI, List.not_mem_nil, decide_false, Bool.or_false] at this
  exact this
end Yp

namespace Yp
open Go Go.Proofs Go.RowKit Go.Shelf
attribute [local go_sem] Oper.semAt_some
theorem below_of_ret {w w' : World} {X : Nat → Prop} {rs : List RTy} {r : denR rs} {vr : Value} (h : RetOK w X w' rs r vr) : Below w.heap.size w w' := by
  obtain ⟨M', h1, h2, h3, h4, h5, _⟩ := h
  exact ⟨h1, h2, h3, h4, h5⟩
theorem place_in {P : Program} {f : Nat} (hP : FOK P f ⟨[.int .i64], [.im (.int .i64), .im (.int .u8)], bitmap_Place⟩) {n : Nat} (h1 : 1 ≤ n) (h2 : n ≤ 128) (m : Nat) (w : World) :
    CallsIn Fence.wide m P f #[.int .i64 (n : Int)] w fun e w' => e = .returned (.tuple #[.int .i64 (((n - 1) / 8 : Nat) : Int), .int .u8 (n8 (bitB ((n - 1) % 8)))]) ∧ Below w.heap.size w w' := by
  refine callsIn_wide.2 ?_
  have := hP.2 w (fun _ => False) ((n : Int), ()) [.int .i64 (n : Int)] (_, _, ()) (fun _ h => h.elim) ⟨[.int .i64 (n : Int)], [], rfl, RepC.int_iff.2 rfl, rfl⟩ (bitmap_Place_spec h1 h2)
  refine this.mono ?_
  rintro e w' ⟨vr, rfl, hr⟩
  refine ⟨?_, below_of_ret hr⟩
  obtain ⟨M', _, _, _, _, _, _, _, vs, hv, rfl⟩ := hr
  obtain ⟨cs, vs1, rfl, hc, cs2, vs2, rfl, hc2, rfl⟩ := hv
  have hc' := RepC.int_iff.1 hc
  have hc2' := RepC.int_iff.1 hc2
  subst hc' hc2'
  rfl
def yl (bs : List UInt8) (k : Nat) : List Nat := (List.range k).filter fun n => Nat.ble 1 n && hasB bs n
theorem yl_succ (bs : List UInt8) (k : Nat) : yl bs (k + 1) = yl bs k ++ if (Nat.ble 1 k && hasB bs k) = true then [k] else [] := by
  unfold yl
  rw [List.range_succ, List.filter_append]
  simp only [List.filter_cons, List.filter_nil]
theorem bits_and : ∀ c : UInt8, ∀ t : Nat, t < 8 → (Go.bits BinOp.and IntKind.u8 (n8 c) (n8 (bitB t)) != 0) = bt c t := all8 (by decide +kernel)
theorem yl_len (bs : List UInt8) (k : Nat) (h : 1 ≤ k) : (yl bs k).length < k := by
  obtain ⟨j, rfl⟩ : ∃ j, k = j + 1 := ⟨k - 1, by omega⟩
  have h0 : yl bs (j + 1) = (((List.range j).map (· + 1)).filter fun n => Nat.ble 1 n && hasB bs n) := by
    unfold yl
    rw [List.range_succ_eq_map, List.filter_cons_of_neg (by simp)]
  rw [h0]
  have := List.length_filter_le (fun n => Nat.ble 1 n && hasB bs n) ((List.range j).map (· + 1))
  simp only [List.length_map, List.length_range] at this
  omega
def keepS (n₀ Bs : Nat) (W W' : World) : Prop := Below n₀ W W' ∧ W'.cell? ⟨Bs, 0, none⟩ = W.cell? ⟨Bs, 0, none⟩
set_option maxRecDepth 100000 in
set_option maxHeartbeats 2000000 in
theorem set1_in (hP : FOK Try.prog 93 ⟨[.int .i64], [.im (.int .i64), .im (.int .u8)], bitmap_Place⟩) (n l Bs n₀ b off cap : Nat) (bs : List UInt8) (hlen : bs.length ≤ 16) (hb : b < n₀) (J Jx : List Nat → World → Prop)
    (hJ : ∀ s W W', J s W → Below W.heap.size W W' → J s W')
    (hY : ∀ (pre : List Nat) (x : Nat) W, J pre W → 1 ≤ x → x ≤ 128 → pre.length < 128 → YieldAt Fence.wide n Try.prog l #[.int .i64 (x : Int)] W fun e W' =>
      (e = .returned (.bool true) ∧ J (pre ++ [x]) W' ∧ keepS n₀ Bs W W') ∨ (e = .returned (.bool false) ∧ Jx (pre ++ [x]) W'))
    (W : World) (hBs : W.cell? ⟨Bs, 0, none⟩ = some (.slice (some ⟨b, off, none⟩) bs.length cap)) (hBn : Bs < W.heap.size) (hn : n₀ ≤ W.heap.size) (hc : ∀ j, (h : j < bs.length) → W.cell? ⟨b, off + j, none⟩ = some (.int .u8 (n8 bs[j]))) (h0 : J [] W) :
    CallsIn Fence.wide (n + 1) Try.prog 118 #[.func (.yield l) #[] #[], .pointer (some ⟨Bs, 0, none⟩)] W fun e W' => (∃ v, e = .returned v) ∧
      (J (yl bs (8 * bs.length + 1)) W' ∨ (∃ k, k ≤ 8 * bs.length + 1 ∧ Jx (yl bs k) W')) := by
  have hw93 : Fence.wide.fn 93 := trivial
  refine callsIn_of_wp Try.func118 rfl trivial ?_ rfl
  simp only [Try.ntmps118, List.size_toArray, List.length_cons, List.length_nil, Nat.reduceAdd, Nat.reduceSub, Array.replicate_succ, Array.replicate_zero, List.push_toArray, List.append_toArray, List.nil_append, List.cons_append]
  gi_wp2
  gi_loopw [3] (fun i wr => ∃ k : Nat, 1 ≤ k ∧ k ≤ 8 * bs.length + 1 ∧ i = .int .i64 k ∧ J (yl bs k) wr ∧ Below n₀ W wr ∧ W.heap.size ≤ wr.heap.size ∧ wr.cell? ⟨Bs, 0, none⟩ = some (.slice (some ⟨b, off, none⟩) bs.length cap))
    (fun i _ => 8 * bs.length + 1 - (intOf i).toNat)
  case atStart => exact ⟨1, Nat.le_refl _, by omega, rfl, by have : yl bs 1 = [] := (by unfold yl; rfl); rw [this]; exact h0, Below.refl _ _, Nat.le_refl _, hBs⟩
  case round =>
    obtain ⟨k, hk1, hk, rfl, hJs, hnx, hsz, hBs'⟩ := hrel
    by_cases hlt : k ≤ 8 * bs.length
    · have hle : (k : Int) ≤ 8 * (bs.length : Int) := by omega
      obtain ⟨p, t, c, hpl, hplt, ht8, hcW, hbit⟩ : ∃ (p t : Nat) (c : UInt8), (∀ w, CallsIn Fence.wide n Try.prog 93 #[.int .i64 (k : Int)] w fun e w' => e = .returned (.tuple #[.int .i64 (p : Int), .int .u8 (n8 (bitB t))]) ∧ Below w.heap.size w w') ∧ p < bs.length ∧ t < 8 ∧ W.cell? ⟨b, off + p, none⟩ = some (.int .u8 (n8 c)) ∧ bt c t = hasB bs k := by
        have hplt : (k - 1) / 8 < bs.length := by omega
        refine ⟨(k - 1) / 8, (k - 1) % 8, bs[(k - 1) / 8], place_in hP hk1 (show k ≤ 128 by omega) n, hplt, by omega, hc _ hplt, ?_⟩
        unfold hasB; rw [nth_get hplt]
      have hplt' : (p : Int) < (bs.length : Int) := by omega
      have hba := bits_and c t ht8
      rw [hbit] at hba
      have hw93' : (Fence.wide).depth.isSome = true → 1 ≤ n := fun h => by cases h
      cases hh : hasB bs k
      · rw [hh] at hba
        have hz : Go.bits BinOp.and IntKind.u8 (n8 c) (n8 (bitB t)) = 0 := by simpa using hba
        have hys : yl bs (k + 1) = yl bs k := by rw [yl_succ, hh, Bool.and_false, if_neg (by simp), List.append_nil]
        clear hbit hba hh
        gi_wp2_with (gi_at_call 93; refine (hpl _).mono ?_; rintro e w1 ⟨rfl, hb1⟩; have hBs1 : w1.cell? ⟨Bs, 0, none⟩ = some (.slice (some ⟨b, off, none⟩) bs.length cap) := (hb1.cell (p := ⟨Bs, 0, none⟩) (Nat.lt_of_lt_of_le hBn hsz)).trans hBs'; have hcx : w1.cell? ⟨b, off + p, none⟩ = some (.int .u8 (n8 c)) := (hb1.cell (p := ⟨b, off + p, none⟩) (Nat.lt_of_lt_of_le hb (Nat.le_trans hn hsz))).trans ((hnx.cell (p := ⟨b, off + p, none⟩) hb).trans hcW))
        refine ⟨fun _ _ => trivial, ?_⟩
        gi_wp2
        refine ⟨⟨k + 1, by omega, by omega, by simp, by rw [hys]; exact hJ _ _ _ hJs hb1, hnx.trans (hb1.mono (Nat.le_trans hn hsz)), Nat.le_trans hsz hb1.size, hBs1⟩, ?_⟩
        simp [intOf]; omega
      · rw [hh] at hba
        have hys : yl bs (k + 1) = yl bs k ++ [k] := by
          have : Nat.ble 1 k = true := Nat.ble_eq_true_of_le hk1
          rw [yl_succ, hh, this]; rfl
        have hyl := yl_len bs k hk1
        have hY' := fun w1 (hj : J (yl bs k) w1) => hY _ k w1 hj hk1 (show k ≤ 128 by omega) (by omega)
        clear hbit hh
        gi_wp2_with (gi_at_call 93; refine (hpl _).mono ?_; rintro e w1 ⟨rfl, hb1⟩; have hBs1 : w1.cell? ⟨Bs, 0, none⟩ = some (.slice (some ⟨b, off, none⟩) bs.length cap) := (hb1.cell (p := ⟨Bs, 0, none⟩) (Nat.lt_of_lt_of_le hBn hsz)).trans hBs'; have hcx : w1.cell? ⟨b, off + p, none⟩ = some (.int .u8 (n8 c)) := (hb1.cell (p := ⟨b, off + p, none⟩) (Nat.lt_of_lt_of_le hb (Nat.le_trans hn hsz))).trans ((hnx.cell (p := ⟨b, off + p, none⟩) hb).trans hcW); obtain ⟨fn, tmps, assign, body, hy, hR⟩ := hY' w1 (hJ _ _ _ hJs hb1))
        refine hR.mono ?_
        rintro e W3 (⟨rfl, hJ3, hk3⟩ | ⟨rfl, hJx3⟩)
        · gi_wp2
          refine ⟨⟨k + 1, by omega, by omega, by simp, by rw [hys]; exact hJ3, (hnx.trans (hb1.mono (Nat.le_trans hn hsz))).trans hk3.1, Nat.le_trans hsz (Nat.le_trans hb1.size hk3.1.size), hk3.2.trans hBs1⟩, ?_⟩
          simp [intOf]; omega
        · gi_wp2
          refine bodyPost_ret (results_none rfl _ _ _) rfl ?_
          exact ⟨⟨_, rfl⟩, .inr ⟨k + 1, by omega, by rw [hys]; exact hJx3⟩⟩
    · have hk' : k = 8 * bs.length + 1 := by omega
      subst hk'
      have hlt' : ¬ ((8 * bs.length + 1 : Nat) : Int) ≤ 8 * (bs.length : Int) := by omega
      gi_wp2
      go_end0
      exact ⟨⟨_, rfl⟩, .inl hJs⟩
end Yp

namespace Yp
open Go Go.Proofs Go.RowKit Go.Shelf
attribute [local go_sem] Oper.semAt_some
abbrev RS : List RTy := [.ow (.int .i64), .im (.int .i64), .im (.int .i64)]
theorem ret_err {w w' : World} {X : Nat → Prop} (hX : ∀ b, X b → b < w.heap.size) (hb : Below w.heap.size w w') (e : Int) : RetOK w X w' RS (([], 0, e, ()) : List Int × Int × Int × Unit) (.tuple #[.slice none 0 0, .int .i64 0, .int .i64 e]) := by
  refine ⟨X, hb.os, hb.tape, hb.output, hb.size, hb.block, fun _ _ => Iff.rfl, fun b h => Nat.lt_of_lt_of_le (hX b h) hb.size, [.slice none 0 0, .int .i64 0, .int .i64 e], ?_, rfl⟩
  exact ⟨_, _, rfl, .inl ⟨rfl, ⟨none, rfl⟩, ⟨[.int .i64 0], _, rfl, RepC.int_iff.2 rfl, ⟨[.int .i64 e], _, rfl, RepC.int_iff.2 rfl, rfl⟩⟩⟩⟩
theorem ret_ok {w w' : World} {X : Nat → Prop} (hX : ∀ b, X b → b < w.heap.size) (hb : Below w.heap.size w w') {v : Value} {l : List Int} (ho : w'.ownsRow w.heap.size 3 1 v l.length (l.map (Value.int .i64))) (n : Int) : RetOK w X w' RS ((l, n, 0, ()) : List Int × Int × Int × Unit) (.tuple #[v, .int .i64 n, .int .i64 0]) := by
  obtain ⟨_, ⟨rfl, h0⟩ | ⟨g, cap, cur, rfl, hg, hh, hc1, hc2, hc3, hc4⟩⟩ := ho
  · have : l = [] := List.length_eq_zero_iff.1 h0
    subst this
    refine ⟨X, hb.os, hb.tape, hb.output, hb.size, hb.block, fun _ _ => Iff.rfl, fun b h => Nat.lt_of_lt_of_le (hX b h) hb.size, [.slice none 0 0, .int .i64 n, .int .i64 0], ?_, rfl⟩
    exact ⟨_, _, rfl, .inl ⟨rfl, ⟨none, rfl⟩, ⟨[.int .i64 n], _, rfl, RepC.int_iff.2 rfl, ⟨[.int .i64 0], _, rfl, RepC.int_iff.2 rfl, rfl⟩⟩⟩⟩
  · have hgl : g < w'.heap.size := (Array.getElem?_eq_some_iff.1 hh).1
    refine ⟨fun b => X b ∨ b = g, hb.os, hb.tape, hb.output, hb.size, hb.block, fun b hbl => ⟨fun h => h.elim id (fun e => by omega), .inl⟩, fun b h => h.elim (fun h => Nat.lt_of_lt_of_le (hX b h) hb.size) (fun e => e ▸ hgl), [.slice (some ⟨g, 0, none⟩) l.length cap, .int .i64 n, .int .i64 0], ?_, rfl⟩
    refine ⟨_, _, rfl, .inr ⟨g, ⟨0, cur, 3, (0, 0), cap, rfl, hc1, hc2, ?_, hh, ⟨?_, ?_⟩, ?_, .inr rfl, hg, fun h => h⟩, ⟨[.int .i64 n], _, rfl, RepC.int_iff.2 rfl, ⟨[.int .i64 0], _, rfl, RepC.int_iff.2 rfl, rfl⟩⟩⟩⟩
    · show 0 + cap * 1 ≤ cur.size
      omega
    · show 0 + l.length * 1 ≤ cur.size
      have : l.length ≤ cap := hc1
      omega
    · intro i x hi
      have hi' : l[i]? = some x := hi
      have hlt : i < l.length := (List.getElem?_eq_some_iff.1 hi').1
      refine RepC.int_iff.2 ?_
      show seg cur (0 + i * 1) 1 = [Value.int .i64 x]
      rw [Nat.zero_add, Nat.mul_one]
      have h1 : cur.toList[i]? = some (Value.int .i64 x) := by
        have h2 : (List.take (l.length * 1) cur.toList)[i]? = cur.toList[i]? := List.getElem?_take_of_lt (by omega)
        rw [← h2, hc4, List.getElem?_map, hi']; rfl
      obtain ⟨hlt2, hg2⟩ := List.getElem?_eq_some_iff.1 h1
      unfold seg
      rw [List.drop_eq_getElem_cons hlt2, hg2]; rfl
    · exact .inl rfl
theorem below3 (w : World) (o1 o2 o3 : Obj) : Below w.heap.size w (((w.alloc o1).alloc o2).alloc o3) := (((Below.refl _ w).alloc (Nat.le_refl _) _).alloc (by simp) _).alloc (by simp; omega) _
set_option maxRecDepth 100000 in
set_option maxHeartbeats 2000000 in
theorem readA (a : Option Addr) (n cap : Nat) (at' : Int) (h : at' < 0) (m : Nat) (w : World) (X : Nat → Prop) (hX : ∀ b, X b → b < w.heap.size) :
    CallsIn Fence.wide m Try.prog 69 #[.slice a n cap, .int .i64 at'] w fun e w' => ∃ vr, e = .returned vr ∧ RetOK w X w' RS (([], 0, 1, ()) : List Int × Int × Int × Unit) vr := by
  refine callsIn_of_wp Try.func69 rfl trivial ?_ rfl
  simp only [Try.ntmps69, List.size_toArray, List.length_cons, List.length_nil, Nat.reduceAdd, Nat.reduceSub, Array.replicate_succ, Array.replicate_zero, List.push_toArray, List.append_toArray, List.nil_append, List.cons_append]
  gi_wp2
  exact bodyPost_ret (v := .tuple #[.slice none 0 0, .int .i64 0, .int .i64 1]) (by simp [results, Try.f69, go_sem]) rfl ⟨_, rfl, ret_err hX (below3 _ _ _ _) 1⟩
set_option maxRecDepth 100000 in
set_option maxHeartbeats 2000000 in
theorem readB (a : Option Addr) (n cap : Nat) (at' : Int) (h0 : ¬ at' < 0) (h : (n : Int) < at') (m : Nat) (w : World) (X : Nat → Prop) (hX : ∀ b, X b → b < w.heap.size) :
    CallsIn Fence.wide m Try.prog 69 #[.slice a n cap, .int .i64 at'] w fun e w' => ∃ vr, e = .returned vr ∧ RetOK w X w' RS (([], 0, 1, ()) : List Int × Int × Int × Unit) vr := by
  refine callsIn_of_wp Try.func69 rfl trivial ?_ rfl
  simp only [Try.ntmps69, List.size_toArray, List.length_cons, List.length_nil, Nat.reduceAdd, Nat.reduceSub, Array.replicate_succ, Array.replicate_zero, List.push_toArray, List.append_toArray, List.nil_append, List.cons_append]
  gi_wp2
  exact bodyPost_ret (v := .tuple #[.slice none 0 0, .int .i64 0, .int .i64 1]) (by simp [results, Try.f69, go_sem]) rfl ⟨_, rfl, ret_err hX (below3 _ _ _ _) 1⟩
set_option maxRecDepth 100000 in
set_option maxHeartbeats 2000000 in
theorem readC (a : Option Addr) (n cap : Nat) (A : Nat) (hcap : n ≤ cap) (h : A = n) (m : Nat) (w : World) (X : Nat → Prop) (hX : ∀ b, X b → b < w.heap.size) :
    CallsIn Fence.wide m Try.prog 69 #[.slice a n cap, .int .i64 (A : Int)] w fun e w' => ∃ vr, e = .returned vr ∧ RetOK w X w' RS (([], 0, 3, ()) : List Int × Int × Int × Unit) vr := by
  subst h
  refine callsIn_of_wp Try.func69 rfl trivial ?_ rfl
  simp only [Try.ntmps69, List.size_toArray, List.length_cons, List.length_nil, Nat.reduceAdd, Nat.reduceSub, Array.replicate_succ, Array.replicate_zero, List.push_toArray, List.append_toArray, List.nil_append, List.cons_append]
  gi_wp2
  all_goals exact bodyPost_ret (v := .tuple #[.slice none 0 0, .int .i64 0, .int .i64 3]) (by simp [results, Try.f69, go_sem]) rfl ⟨_, rfl, ret_err hX (below3 _ _ _ _) 3⟩
theorem bits_128 : ∀ c : UInt8, (Go.bits BinOp.and IntKind.u8 (n8 c) 128 != 0) = bt c 0 := all8 (by decide +kernel)
set_option maxRecDepth 100000 in
set_option maxHeartbeats 2000000 in
theorem readD (b off n cap : Nat) (A : Nat) (hcap : n ≤ cap) (hA : A < n) (c0 : UInt8) (m : Nat) (w : World) (hc : w.cell? ⟨b, off + A, none⟩ = some (.int .u8 (n8 c0))) (hs : (bt c0 0 = true ∧ n - A < 16) ∨ (bt c0 0 = false ∧ n - A < 8)) (X : Nat → Prop) (hX : ∀ b, X b → b < w.heap.size) (hb : b < w.heap.size) :
    CallsIn Fence.wide m Try.prog 69 #[.slice (some ⟨b, off, none⟩) n cap, .int .i64 (A : Int)] w fun e w' => ∃ vr, e = .returned vr ∧ RetOK w X w' RS (([], 0, 3, ()) : List Int × Int × Int × Unit) vr := by
  have hn0 : ¬ ((A : Int) < 0) := by omega
  have hn1 : ¬ ((n : Int) < (A : Int)) := by omega
  have hb128 := bits_128 c0
  obtain ⟨N, hN⟩ : ∃ N, n = A + N := ⟨n - A, by omega⟩
  subst hN
  have hc3 : (((w.alloc (.cells #[.slice none 0 0] 81)).alloc (.cells #[.int .i64 0] 3)).alloc (.cells #[.int .i64 0] 28)).cell? ⟨b, off + A, none⟩ = some (.int .u8 (n8 c0)) := ((below3 w _ _ _).cell (p := ⟨b, off + A, none⟩) hb).trans hc
  refine callsIn_of_wp Try.func69 rfl trivial ?_ rfl
  simp only [Try.ntmps69, List.size_toArray, List.length_cons, List.length_nil, Nat.reduceAdd, Nat.reduceSub, Array.replicate_succ, Array.replicate_zero, List.push_toArray, List.append_toArray, List.nil_append, List.cons_append]
  rcases hs with ⟨h1, h2⟩ | ⟨h1, h2⟩
  · rw [h1] at hb128
    clear h1
    have h2' : (N : Int) < 16 := by omega
    gi_wp2
    all_goals exact bodyPost_ret (v := .tuple #[.slice none 0 0, .int .i64 0, .int .i64 3]) (by simp [results, Try.f69, go_sem]) rfl ⟨_, rfl, ret_err hX (below3 _ _ _ _) 3⟩
  · rw [h1] at hb128
    have hz : Go.bits BinOp.and IntKind.u8 (n8 c0) 128 = 0 := by simpa using hb128
    clear h1 hb128
    have h2' : (N : Int) < 8 := by omega
    gi_wp2
    all_goals exact bodyPost_ret (v := .tuple #[.slice none 0 0, .int .i64 0, .int .i64 3]) (by simp [results, Try.f69, go_sem]) rfl ⟨_, rfl, ret_err hX (below3 _ _ _ _) 3⟩
abbrev w7 (w : World) (sl : Value) : World := ((((w.alloc (.cells #[.slice none 0 0] 81)).alloc (.cells #[.int .i64 0] 3)).alloc (.cells #[.int .i64 0] 28)))
set_option maxRecDepth 100000 in
set_option maxHeartbeats 2000000 in
theorem set_in (m : Nat) (sl : Value) (w : World) (hv : sl.oneCell' = true) : CallsIn Fence.wide m Try.prog 102 #[sl] w fun e w' => e = .returned (.func (.func 118) #[] #[.pointer (some ⟨w.heap.size, 0, none⟩)]) ∧ w' = w.alloc (.cells #[sl] 27) := by
  refine callsIn_of_wp Try.func102 rfl trivial ?_ rfl
  simp only [Try.ntmps102, List.size_toArray, List.length_cons, List.length_nil, Nat.reduceAdd, Nat.reduceSub, Array.replicate_succ, Array.replicate_zero, List.push_toArray, List.append_toArray, List.nil_append, List.cons_append]
  gi_wp2

  go_ret
  exact ⟨rfl, rfl⟩
end Yp

namespace Yp
open Go Go.Proofs Go.RowKit Go.Shelf
attribute [local go_sem] Oper.semAt_some
theorem info3' : (Try.prog.info? 3).map (fun i => (i.zero, i.size, i.bytes)) = some (some (.int .i64 0), 1, 8) := by kernel_rfl
theorem u81 : Try.prog.underlying 81 = some (.slice 3) := by kernel_rfl
def col (pre : List Nat) : List Nat := pre.filter fun n => Nat.ble 2 n
def colV (pre : List Nat) : List Value := (col pre).map fun (n : Nat) => Value.int .i64 (n : Int)
theorem col_miss {pre : List Nat} {x : Nat} (h : ¬ 1 < x) : col (pre ++ [x]) = col pre := by
  have : Nat.ble 2 x = false := Bool.eq_false_iff.2 fun e => h (Nat.le_of_ble_eq_true e)
  unfold col; rw [List.filter_append, List.filter_cons_of_neg (by rw [this]; exact Bool.false_ne_true)]; simp
theorem col_hit {pre : List Nat} {x : Nat} (h : 1 < x) : col (pre ++ [x]) = col pre ++ [x] := by
  have : Nat.ble 2 x = true := Nat.ble_eq_true_of_le h
  unfold col; rw [List.filter_append, List.filter_cons_of_pos this]; simp
structure ResC (s : Nat) (v : Value) (n e : Int) (sl : Value) (W : World) : Prop where
  c0 : Boxed W s 81 v
  c1 : Boxed W (s + 1) 3 (.int .i64 n)
  c2 : Boxed W (s + 1 + 1) 28 (.int .i64 e)
  c5 : Boxed W (s + 1 + 1 + 1 + 1 + 1) 27 sl
theorem boxed_own {B t : Nat} {v : Value} {X Y : World} {row : Option Nat} (hv : Boxed X B t v) (hg : X.grownBy Y row) (hrow : ∀ r, row = some r → ∃ o, X.heap[r]? = some o ∧ o.isCells = false) : Boxed Y B t v :=
  hv.kept hg fun e' => by
    obtain ⟨o, ho, hc⟩ := hrow B e'.symm
    rw [show X.heap[B]? = _ from hv] at ho; cases ho; cases hc
theorem resC_own {β : Type} (s : Nat) (v : Value) (n e : Int) (sl : Value) : Own (fun (_ : β) W => ResC s v n e sl W) := fun _ _ _ _ hs hg hr =>
  ⟨boxed_own hs.c0 hg hr, boxed_own hs.c1 hg hr, boxed_own hs.c2 hg hr, boxed_own hs.c5 hg hr⟩
theorem _root_.Go.Boxed.setOther {W : World} {B C t : Nat} {v : Value} (h : Boxed W B t v) (hne : B ≠ C) (u : Value) : Boxed (W.setCell ⟨C, 0, none⟩ u) B t v := h.kept (grownBy_setCell' W C u) (fun e => hne (by cases e; rfl))
theorem res3 {s : Nat} {v sl : Value} {n e : Int} {W : World} (h : ResC s v n e sl W) (v' : Value) (n' e' : Int) :
    ResC s v' n' e' sl (((W.setCell ⟨s, 0, none⟩ v').setCell ⟨s + 1, 0, none⟩ (.int .i64 n')).setCell ⟨s + 1 + 1, 0, none⟩ (.int .i64 e')) :=
  ⟨((h.c0.set v').setOther (by omega) _).setOther (by omega) _, ((h.c1.setOther (by omega) _).set (.int .i64 n')).setOther (by omega) _,
   ((h.c2.setOther (by omega) _).setOther (by omega) _).set (.int .i64 e'), ((h.c5.setOther (by omega) _).setOther (by omega) _).setOther (by omega) _⟩
theorem keep3 (s : Nat) (v' : Value) (n' e' : Int) (W : World) : Below s W (((W.setCell ⟨s, 0, none⟩ v').setCell ⟨s + 1, 0, none⟩ (.int .i64 n')).setCell ⟨s + 1 + 1, 0, none⟩ (.int .i64 e')) :=
  (((Below.refl s W).setCell (p := ⟨s, 0, none⟩) (Nat.le_refl _) v').setCell (p := ⟨s + 1, 0, none⟩) (by simp) _).setCell (p := ⟨s + 1 + 1, 0, none⟩) (by simp; omega) _
theorem others3 (s : Nat) (v' : Value) (n' e' : Int) (W : World) : KeepsOthers W (((W.setCell ⟨s, 0, none⟩ v').setCell ⟨s + 1, 0, none⟩ (.int .i64 n')).setCell ⟨s + 1 + 1, 0, none⟩ (.int .i64 e')) :=
  ((KeepsOthers.setCell _ _ _).trans (KeepsOthers.setCell _ _ _)).trans (KeepsOthers.setCell _ _ _)
theorem resC_below {s : Nat} {v sl : Value} {n e : Int} {W W' : World} (h : ResC s v n e sl W) (hb : Below (s + 1 + 1 + 1) W W') (h5 : Boxed W' (s + 1 + 1 + 1 + 1 + 1) 27 sl) : ResC s v n e sl W' :=
  ⟨(hb.block _ (by omega)).trans h.c0, (hb.block _ (by omega)).trans h.c1, (hb.block _ (by omega)).trans h.c2, h5⟩
theorem ResC.put {s : Nat} {v sl : Value} {n e : Int} {W : World} (h : ResC s v n e sl W) {D : Nat} {o : Obj} (o' : Obj) (hD : W.heap[D]? = some o) (ho : o.isCells = false) : ResC s v n e sl (W.putObj D o') :=
  resC_own (β := Unit) s v n e sl () W _ (some D) h (grownBy_putObj' W D o') (fun r e => by cases e; exact ⟨o, hD, ho⟩)
theorem row3 {s : Nat} {W : World} {v : Value} {L : Nat} {xs : List Value} (h : W.ownsRow (s + 1 + 1 + 1) 3 1 v L xs) (v' : Value) (n' e' : Int) {D : Nat} {o : Obj} (o' : Obj) (hD : W.heap[D]? = some o) (ho : o.isCells = false) :
    World.ownsRow ((((W.setCell ⟨s, 0, none⟩ v').setCell ⟨s + 1, 0, none⟩ (.int .i64 n')).setCell ⟨s + 1 + 1, 0, none⟩ (.int .i64 e')).putObj D o') s 3 1 v L xs := by
  rcases h.2 with ⟨rfl, h0⟩ | ⟨g, cap, cur, rfl, hg, hh, hk⟩
  · exact ⟨h.1, .inl ⟨rfl, h0⟩⟩
  · have hgD : g ≠ D := by
      rintro rfl
      rw [hh] at hD; cases hD; cases ho
    have h' : W.ownsRow s 3 1 (.slice (some ⟨g, 0, none⟩) L cap) L xs := ⟨h.1, .inr ⟨g, cap, cur, rfl, by omega, hh, hk⟩⟩
    have ne : ∀ k, g ≠ k → (Value.slice (some ⟨g, 0, none⟩) L cap).ownBlock = none ∨ (Value.slice (some ⟨g, 0, none⟩) L cap).ownBlock ≠ some k := fun k hk => .inr fun e => hk (by simpa [Value.ownBlock] using e)
    exact (((h'.kept (grownBy_setCell' W s v') (ne _ (by omega))).kept (grownBy_setCell' _ (s + 1) _) (ne _ (by omega))).kept (grownBy_setCell' _ (s + 1 + 1) _) (ne _ (by omega))).kept (grownBy_putObj' _ D o') (ne _ hgD)
theorem col_nums (bs : List UInt8) : col (yl bs (8 * bs.length + 1)) = numsB bs := by
  unfold col yl numsB
  rw [List.filter_filter]
  refine List.filter_congr fun n _ => ?_
  cases h : Nat.ble 2 n
  · simp
  · have : Nat.ble 1 n = true := Nat.ble_eq_true_of_le (by have := Nat.le_of_ble_eq_true h; omega)
    rw [this]; simp
theorem yl65 {bs : List UInt8} {k : Nat} (hk : k ≤ 8 * bs.length + 1) (h : 65 ∈ yl bs k) : 65 ∈ numsB bs ∧ 8 < bs.length := by
  unfold yl at h
  rw [List.mem_filter, List.mem_range] at h
  unfold numsB
  rw [List.mem_filter, List.mem_range]
  refine ⟨⟨by omega, ?_⟩, by omega⟩
  have h2 := h.2
  rw [Bool.and_eq_true] at h2 ⊢
  exact ⟨rfl, h2.2⟩
theorem nums65 {bs : List UInt8} (h : 65 ∈ numsB bs) : 65 ∈ yl bs (8 * bs.length + 1) := by
  unfold numsB at h
  rw [List.mem_filter, List.mem_range] at h
  unfold yl
  rw [List.mem_filter, List.mem_range]
  refine ⟨h.1, ?_⟩
  have h2 := h.2
  rw [Bool.and_eq_true] at h2 ⊢
  exact ⟨rfl, h2.2⟩
theorem nums_last {bs : List UInt8} {L z : Nat} (hL : (numsB bs).length = L + 1) (hz : (numsB bs)[L]? = some z) : ∀ n ∈ numsB bs, n ≤ z := by
  intro n hn
  have hp : (numsB bs).Pairwise (· < ·) := List.Pairwise.filter _ List.pairwise_lt_range
  obtain ⟨i, hi, rfl⟩ := List.getElem_of_mem hn
  obtain ⟨hl, rfl⟩ := List.getElem?_eq_some_iff.1 hz
  by_cases h : i = L
  · subst h; exact Nat.le_refl _
  · exact Nat.le_of_lt (List.pairwise_iff_getElem.1 hp i L hi hl (by omega))
structure Wrap (p : Prop) : Prop where
  out : p
set_option maxRecDepth 100000 in
set_option maxHeartbeats 4000000 in
theorem readE (hP : FOK Try.prog 93 ⟨[.int .i64], [.im (.int .i64), .im (.int .u8)], bitmap_Place⟩) (b off n cap : Nat) (A S : Nat) (hcap : n ≤ cap) (hA : A + S ≤ n) (hn : n ≤ 9223372036854775807) (bs : List UInt8) (hS : S = 8 ∨ S = 16) (hbs : bs.length = S) (c0 : UInt8) (m : Nat) (w : World)
    (hc : ∀ j, (h : j < bs.length) → w.cell? ⟨b, off + A + j, none⟩ = some (.int .u8 (n8 bs[j]))) (hc0 : w.cell? ⟨b, off + A, none⟩ = some (.int .u8 (n8 c0))) (hw : bt c0 0 = true ↔ S = 16) (X : Nat → Prop) (hX : ∀ b, X b → b < w.heap.size) (hb : b < w.heap.size) (R : List Int × Int × Int × Unit) (hR : Wrap (R = (if S = 16 ∧ (65 ∈ numsB bs ∨ ∀ n ∈ numsB bs, n < 65) then (([], 0, 2, ()) : List Int × Int × Int × Unit) else (((numsB bs).map Int.ofNat, (A : Int) + (S : Int), (0 : Int), ()) : List Int × Int × Int × Unit)))) :
    CallsIn Fence.wide (m + 3) Try.prog 69 #[.slice (some ⟨b, off, none⟩) n cap, .int .i64 (A : Int)] w fun e w' => ∃ vr, e = .returned vr ∧ RetOK w X w' RS R vr := by
  obtain ⟨i0, hi, hz0, hz1, hz2⟩ := info_parts info3'
  have hn0 : ¬ ((A : Int) < 0) := by omega
  have hn1 : ¬ ((n : Int) < (A : Int)) := by omega
  have hb128 := bits_128 c0
  obtain ⟨N, hN⟩ : ∃ N, n = A + N := ⟨n - A, by omega⟩
  subst hN
  have hc3 : (((w.alloc (.cells #[.slice none 0 0] 81)).alloc (.cells #[.int .i64 0] 3)).alloc (.cells #[.int .i64 0] 28)).cell? ⟨b, off + A, none⟩ = some (.int .u8 (n8 c0)) := ((below3 w _ _ _).cell (p := ⟨b, off + A, none⟩) hb).trans hc0
  have hw102 : Fence.wide.fn 102 := trivial
  refine callsIn_of_wp_marks Try.func69 rfl trivial ?_ rfl
  simp only [Try.ntmps69, List.size_toArray, List.length_cons, List.length_nil, Nat.reduceAdd, Nat.reduceSub, Array.replicate_succ, Array.replicate_zero, List.push_toArray, List.append_toArray, List.nil_append, List.cons_append]
  rcases hS with rfl | rfl
  · have h1 : bt c0 0 = false := Bool.eq_false_iff.2 fun h => by have := hw.1 h; omega
    rw [h1] at hb128
    have hz : Go.bits BinOp.and IntKind.u8 (n8 c0) 128 = 0 := by simpa using hb128
    clear h1 hb128
    have h2' : ¬ (N : Int) < 8 := by omega
    have h2'' : ¬ N < 8 := by omega
    gi_wp2_with (gi_at_call 102; refine (set_in _ _ _ rfl).mono ?_; rintro e w' ⟨rfl, rfl⟩)
    have bL := Boxed.new ((((w.alloc (.cells #[.slice none 0 0] 81)).alloc (.cells #[.int .i64 0] 3)).alloc (.cells #[.int .i64 0] 28)).alloc (.cells #[] 3)) 81 (.slice (some ⟨w.heap.size + 1 + 1 + 1, 0, none⟩) 0 0)
    have bS := Boxed.new (((((w.alloc (.cells #[.slice none 0 0] 81)).alloc (.cells #[.int .i64 0] 3)).alloc (.cells #[.int .i64 0] 28)).alloc (.cells #[] 3)).alloc (.cells #[.slice (some ⟨w.heap.size + 1 + 1 + 1, 0, none⟩) 0 0] 81)) 27 (.slice (some ⟨b, off + A, none⟩) 8 (cap - A))
    have b0 := Boxed.new w 81 (.slice none 0 0)
    have b1 := Boxed.new (w.alloc (.cells #[.slice none 0 0] 81)) 3 (.int .i64 0)
    have b2 := Boxed.new ((w.alloc (.cells #[.slice none 0 0] 81)).alloc (.cells #[.int .i64 0] 3)) 28 (.int .i64 0)
    have hrow0 := World.ownsRow_made (base := w.heap.size + 1 + 1 + 1) (e := 3) (size := 1) (((w.alloc (.cells #[.slice none 0 0] 81)).alloc (.cells #[.int .i64 0] 3)).alloc (.cells #[.int .i64 0] 28)) #[] 0 (by simp) (by unfold maxLen; omega) rfl
    simp only [World.size_alloc] at bL bS b1 b2 hrow0
    have hB6 : Below w.heap.size w ((((((w.alloc (.cells #[.slice none 0 0] 81)).alloc (.cells #[.int .i64 0] 3)).alloc (.cells #[.int .i64 0] 28)).alloc (.cells #[] 3)).alloc (.cells #[.slice (some ⟨w.heap.size + 1 + 1 + 1, 0, none⟩) 0 0] 81)).alloc (.cells #[.slice (some ⟨b, off + A, none⟩) 8 (cap - A)] 27)) :=
      (((below3 w _ _ _).alloc (by simp; omega) _).alloc (by simp; omega) _).alloc (by simp; omega) _
    refine wpIn_rangeFunc_ownG rfl (by omega) (gf := 118) (lb := #[.pointer (some ⟨w.heap.size + 1 + 1 + 1 + 1 + 1, 0, none⟩)]) rfl trivial (enters_of Try.func118 (by kernel_rfl) rfl)
      (encs := fun x : Nat => #[.int .i64 (x : Int)]) (Kp := keepS w.heap.size (w.heap.size + 1 + 1 + 1 + 1 + 1)) (S := fun ys => ys = yl bs (8 * bs.length + 1)) (Sp := fun pre => ∃ k, k ≤ 8 * bs.length + 1 ∧ pre = yl bs k) (N := 128)
      ?seq ?kt ?kb (Below.refl _ _) (fun _ => rfl)
      (fun pre W => ((∃ v, Boxed W (w.heap.size + 1 + 1 + 1 + 1) 81 v ∧ W.ownsRow (w.heap.size + 1 + 1 + 1) 3 1 v (col pre).length (colV pre) ∧ ¬ 65 ∈ pre) ∧ ResC w.heap.size (.slice none 0 0) 0 0 (.slice (some ⟨b, off + A, none⟩) 8 (cap - A)) W) ∧ Below w.heap.size w W)
      (fun c pre W => ((c = .ret ∧ 65 ∈ pre) ∧ ResC w.heap.size (.slice none 0 0) 0 2 (.slice (some ⟨b, off + A, none⟩) 8 (cap - A)) W) ∧ Below w.heap.size w W)
      (OwnFrom.and (OwnFrom.and (Own.from (holdsRow_own (w.heap.size + 1 + 1 + 1) _ 81 3 1 (fun pre => (col pre).length) colV (fun pre v => ¬ 65 ∈ pre)) _) (Own.from (resC_own w.heap.size (.slice none 0 0) 0 0 (.slice (some ⟨b, off + A, none⟩) 8 (cap - A))) _)) (ownFrom_below (Nat.le_refl _) (by simp; omega)))
      (fun c => OwnFrom.and (OwnFrom.and (ownFrom_pure _ _) (Own.from (resC_own w.heap.size (.slice none 0 0) 0 2 (.slice (some ⟨b, off + A, none⟩) 8 (cap - A))) _)) (ownFrom_below (Nat.le_refl _) (by simp; omega)))
      ?start
      (fun x => { tmps := #[Value.slice (some { block := b, off := off + A }) N (cap - A), Value.int IntKind.i64 (A : Int), undef, undef,
          Value.pointer (some { block := w.heap.size, off := 0 }),
          Value.pointer (some { block := w.heap.size + 1, off := 0 }),
          Value.pointer (some { block := w.heap.size + 1 + 1, off := 0 }), Value.int IntKind.i64 8,
          Value.pointer (some { block := w.heap.size + 1 + 1 + 1 + 1, off := 0 }), Value.int IntKind.i64 (x : Int), Value.int IntKind.i64 (A : Int),
          Value.bool false, Value.bool false, Value.int IntKind.i64 (A : Int),
          Value.slice (some { block := b, off := off }) (A + N) cap, Value.int IntKind.i64 ((A : Int) + (N : Int)),
          Value.bool (decide ((A : Int) + (N : Int) < (A : Int))), Value.bool (decide ((A : Int) + (N : Int) < (A : Int))),
          Value.slice (some { block := b, off := off }) (A + N) cap, Value.int IntKind.i64 (A : Int),
          Value.slice (some { block := b, off := off + A }) N (cap - A),
          Value.slice (some { block := b, off := off + A }) N (cap - A), Value.int IntKind.i64 (N : Int), Value.bool true,
          Value.bool true, Value.slice (some { block := b, off := off + A }) N (cap - A),
          Value.pointer (some { block := b, off := off + A }), Value.int IntKind.u8 (n8 c0),
          Value.int IntKind.u8 0, Value.bool false, Value.bool false,
          Value.slice (some { block := b, off := off + A }) N (cap - A), Value.int IntKind.i64 (N : Int),
          Value.int IntKind.i64 8, Value.bool false,
          Value.slice (some { block := w.heap.size + 1 + 1 + 1, off := 0 }) 0 0,
          Value.slice (some { block := b, off := off + A }) N (cap - A), Value.int IntKind.i64 8,
          Value.slice (some { block := b, off := off + A }) 8 (cap - A),
          Value.func (Fn.func 118) #[] #[Value.pointer (some { block := w.heap.size + 1 + 1 + 1 + 1 + 1, off := 0 })],
          Value.int IntKind.i64 (x : Int), undef, undef, undef, undef, undef, undef, undef, undef, undef, undef, undef, undef, undef, undef,
          undef, undef, undef, undef, undef, undef, undef, undef, undef, undef, undef, undef, undef, undef], defers := [] }) ?assign ?body ?done ?stop
    case seq =>
      intro l J Jx W hW hJ hJx hY h0
      have hsz : w.heap.size + 6 ≤ W.heap.size := by have := hW.size; simp at this; omega
      refine (set1_in hP (m + 1) l (w.heap.size + 1 + 1 + 1 + 1 + 1) w.heap.size b (off + A) (cap - A) bs (by omega) hb J Jx (fun s W1 W2 hs hb => hJ s W1 W2 none hs ⟨hb.os, hb.tape, hb.output, hb.size, fun k hk _ => hb.block k hk⟩ (fun r e => by cases e)) (fun pre x W1 hj _ _ hl => hY pre x W1 hj hl) W ?_ (by omega) (by omega) (fun j h => ?_) h0).mono ?_
      · rw [hbs]; exact (hW.cell (p := ⟨w.heap.size + 1 + 1 + 1 + 1 + 1, 0, none⟩) (by simp)).trans bS.cell
      · exact (hW.cell (p := ⟨b, off + A + j, none⟩) (by simp; omega)).trans ((hB6.cell (p := ⟨b, off + A + j, none⟩) hb).trans (hc j h))
      · rintro e W' ⟨he, h⟩
        exact ⟨he, h.elim (fun h => .inl ⟨_, rfl, h⟩) (fun ⟨k, hk, h⟩ => .inr ⟨_, ⟨k, hk, rfl⟩, h⟩)⟩
    case kt => exact fun h k => ⟨h.1.trans k.1, k.2.trans h.2⟩
    case kb =>
      intro W l o o' hl ho h1 h2
      simp at hl
      exact ⟨belowK_b (w := w) (Nat.le_refl _) W l o o' (by omega) ho h1 h2, World.cell?_of_block (World.putObj_heap_other (by simp; omega))⟩
    case start => exact ⟨⟨⟨_, bL.alloc _, (hrow0.alloc _).alloc _, by simp⟩, ⟨b0.alloc _ |>.alloc _ |>.alloc _ |>.alloc _ |>.alloc _, b1.alloc _ |>.alloc _ |>.alloc _ |>.alloc _, b2.alloc _ |>.alloc _ |>.alloc _, bS⟩⟩, hB6⟩
    case assign =>
      intro l x W K hK
      gi_wp2
      exact hK
    case body =>
      rintro l pre x W ⟨⟨⟨v, hv, hrow, h65⟩, hr⟩, hB⟩ hlt
      have hcL := hv.cell
      have hr1 := hr.c0.cell
      have hr2 := hr.c0.frozen
      have hr3 := hr.c1.cell
      have hr4 := hr.c1.frozen
      have hr5 := hr.c2.cell
      have hr6 := hr.c2.frozen
      have h5lt := hr.c5.lt
      have hpl : (col pre).length ≤ pre.length := List.length_filter_le _ _
      by_cases hx65 : x = 65
      · subst hx65
        gi_wp2
        exact ⟨(others3 _ _ _ _ _).from _, ⟨⟨rfl, by simp⟩, res3 hr _ _ _⟩, hB.trans (keep3 _ _ _ _ _)⟩
      · have hx65' : ¬ (x : Int) = 65 := by omega
        by_cases hx1 : 1 < x
        · have hx1' : (1 : Int) < (x : Int) := by omega
          gi_wp2_with (gi_at_builtin; refine Wrap.out ?_)
          refine ⟨?_⟩
          refine wpListIn_append_own _ rfl _ _ 81 rfl (w.heap.size + 1 + 1 + 1) 3 i0 (.int .i64 0) 1 8 u81 hi hz0 hz1 hz2 rfl (by decide) v (col pre).length (colV pre) rfl (hrow.alloc _) ⟨W.heap.size, 0, none⟩ 1 1 [.int .i64 (x : Int)] rfl rfl ?hcell ?hone ?hb1 ?hb2 ?hb3 ?hrest
          case hcell => exact cell_one_new _ _ _
          case hone => simp [Value.oneCell']
          case hb1 => simp [maxLen]; omega
          case hb2 => omega
          case hb3 => have := hB.size; simp; omega
          case hrest =>
            intro v' w1 hown' hgrow _
            obtain ⟨g', cap', rfl⟩ := ownsRow_succ hown'
            obtain ⟨hv1, hv2, hr2', hk2, hb2⟩ := hv.appended (by decide) hrow (by omega) (by omega) hown' hgrow
            have hS1 : Boxed w1 (w.heap.size + 1 + 1 + 1 + 1 + 1) 27 _ := (hr.c5.alloc (.cells #[Value.int .i64 (x : Int)] 3)).kept hgrow (hr.c5.not_row (by decide) hrow)
            have hc1 := hv1.cell
            have hf1 := hv1.frozen
            gi_wp2
            have hS2 := hS1.setOther (C := w.heap.size + 1 + 1 + 1 + 1) (by omega) (.slice (some ⟨g', 0, none⟩) ((col pre).length + 1) cap')
            have hb2' := hb2.mono (B' := w.heap.size) (by omega)
            refine ⟨hk2.from _, ⟨hb2', hS2.cell.trans hr.c5.cell.symm⟩, ⟨⟨_, hv2, ?_, ?_⟩, resC_below hr hb2 hS2⟩, hB.trans hb2'⟩
            · rw [colV, col_hit hx1]; simpa [colV] using hr2'
            · simpa [h65] using fun e => hx65 e.symm
        · have hx1' : ¬ (1 : Int) < (x : Int) := by omega
          gi_wp2
          refine ⟨KeepsFrom.refl _ _, ⟨Below.refl _ _, rfl⟩, ⟨⟨v, hv, ?_, ?_⟩, hr⟩, hB⟩
          · rw [colV, col_miss hx1]; exact hrow
          · simpa [h65] using fun e => hx65 e.symm
    case done =>
      rintro D ys W hD rfl ⟨⟨⟨v, hv, hrow, h65⟩, hr⟩, hB⟩ hK
      have hcL := hv.cell
      have hr1 := hr.c0.cell
      have hr2 := hr.c0.frozen
      have hr3 := hr.c1.cell
      have hr4 := hr.c1.frozen
      have hr5 := hr.c2.cell
      have hr6 := hr.c2.frozen
      have hK' := fun v n e => (others3 w.heap.size v n e W).same D _ hK rfl
      have hyl := yl_len bs (8 * bs.length + 1) (by omega)
      have hpl : (col (yl bs (8 * bs.length + 1))).length ≤ (yl bs (8 * bs.length + 1)).length := List.length_filter_le _ _
      obtain ⟨C, hC⟩ : ∃ C, Wrap (C = col (yl bs (8 * bs.length + 1))) := ⟨_, ⟨rfl⟩⟩
      unfold colV at hrow
      rw [← hC.out] at hrow hpl
      have hC128 : C.length ≤ 128 := by omega
      have hgood : Wrap (W.ownsRow (w.heap.size + 1 + 1 + 1) 3 1 v C.length (C.map fun (n : Nat) => Value.int .i64 (n : Int))) := ⟨hrow⟩
      clear hrow hpl hyl
      obtain ⟨L, hL⟩ : ∃ L, Wrap (L = C.length) := ⟨_, ⟨rfl⟩⟩
      rw [← hL.out] at hgood hC128
      obtain ⟨a, c, hve⟩ : ∃ a c, v = .slice a L c := by
        rcases hgood.out.2 with ⟨h, h'⟩ | ⟨g, cap', cur, h, _⟩
        · exact ⟨none, 0, by rw [h']; exact h⟩
        · exact ⟨_, _, h⟩
      subst hve
      gi_wp2
      case h_1.isFalse he _ => cases he
      all_goals
        refine ⟨by simp, .inl ⟨_, _, rfl, run_takeDeferred (hK' _ _ _), ?_⟩⟩
        have hz := ((res3 hr (.slice a L c) ((A : Int) + 8) 0).put (.deferred none) (hK' _ _ _) rfl)
        refine ⟨.tuple #[(.slice a L c), .int .i64 ((A : Int) + 8), .int .i64 0], by simp [results, Try.f69, go_sem, hz.c0.cell, hz.c1.cell, hz.c2.cell], _, rfl, ?_⟩
        rw [hR.out, if_neg (fun h => by have := h.1; first | exact this.elim | omega)]
        refine ret_ok hX ((hB.trans (keep3 _ _ _ _ _)).trans (belowK_b (w := w) (Nat.le_refl _) _ D _ _ (by simp at hD; omega) (hK' _ _ _) rfl rfl)) ?_ _
        have hrw := row3 hgood.out (.slice a L c) ((A : Int) + 8) 0 (.deferred none) hK rfl
        rw [← col_nums, ← hC.out, List.length_map, ← hL.out, List.map_map]
        exact hrw
    case stop =>
      rintro D c pre W hD ⟨k, hk, rfl⟩ ⟨⟨⟨rfl, h65⟩, hr⟩, hB⟩ hK
      have := (yl65 hk h65).2
      omega
  · have h1 : bt c0 0 = true := hw.2 rfl
    rw [h1] at hb128
    clear h1
    have h2' : ¬ (N : Int) < 16 := by omega
    have h2'' : ¬ N < 16 := by omega
    gi_wp2_with (gi_at_call 102; refine (set_in _ _ _ rfl).mono ?_; rintro e w' ⟨rfl, rfl⟩)
    have bL := Boxed.new ((((w.alloc (.cells #[.slice none 0 0] 81)).alloc (.cells #[.int .i64 0] 3)).alloc (.cells #[.int .i64 0] 28)).alloc (.cells #[] 3)) 81 (.slice (some ⟨w.heap.size + 1 + 1 + 1, 0, none⟩) 0 0)
    have bS := Boxed.new (((((w.alloc (.cells #[.slice none 0 0] 81)).alloc (.cells #[.int .i64 0] 3)).alloc (.cells #[.int .i64 0] 28)).alloc (.cells #[] 3)).alloc (.cells #[.slice (some ⟨w.heap.size + 1 + 1 + 1, 0, none⟩) 0 0] 81)) 27 (.slice (some ⟨b, off + A, none⟩) 16 (cap - A))
    have b0 := Boxed.new w 81 (.slice none 0 0)
    have b1 := Boxed.new (w.alloc (.cells #[.slice none 0 0] 81)) 3 (.int .i64 0)
    have b2 := Boxed.new ((w.alloc (.cells #[.slice none 0 0] 81)).alloc (.cells #[.int .i64 0] 3)) 28 (.int .i64 0)
    have hrow0 := World.ownsRow_made (base := w.heap.size + 1 + 1 + 1) (e := 3) (size := 1) (((w.alloc (.cells #[.slice none 0 0] 81)).alloc (.cells #[.int .i64 0] 3)).alloc (.cells #[.int .i64 0] 28)) #[] 0 (by simp) (by unfold maxLen; omega) rfl
    simp only [World.size_alloc] at bL bS b1 b2 hrow0
    have hB6 : Below w.heap.size w ((((((w.alloc (.cells #[.slice none 0 0] 81)).alloc (.cells #[.int .i64 0] 3)).alloc (.cells #[.int .i64 0] 28)).alloc (.cells #[] 3)).alloc (.cells #[.slice (some ⟨w.heap.size + 1 + 1 + 1, 0, none⟩) 0 0] 81)).alloc (.cells #[.slice (some ⟨b, off + A, none⟩) 16 (cap - A)] 27)) :=
      (((below3 w _ _ _).alloc (by simp; omega) _).alloc (by simp; omega) _).alloc (by simp; omega) _
    refine wpIn_rangeFunc_ownG rfl (by omega) (gf := 118) (lb := #[.pointer (some ⟨w.heap.size + 1 + 1 + 1 + 1 + 1, 0, none⟩)]) rfl trivial (enters_of Try.func118 (by kernel_rfl) rfl)
      (encs := fun x : Nat => #[.int .i64 (x : Int)]) (Kp := keepS w.heap.size (w.heap.size + 1 + 1 + 1 + 1 + 1)) (S := fun ys => ys = yl bs (8 * bs.length + 1)) (Sp := fun pre => ∃ k, k ≤ 8 * bs.length + 1 ∧ pre = yl bs k) (N := 128)
      ?seq ?kt ?kb (Below.refl _ _) (fun _ => rfl)
      (fun pre W => ((∃ v, Boxed W (w.heap.size + 1 + 1 + 1 + 1) 81 v ∧ W.ownsRow (w.heap.size + 1 + 1 + 1) 3 1 v (col pre).length (colV pre) ∧ ¬ 65 ∈ pre) ∧ ResC w.heap.size (.slice none 0 0) 0 0 (.slice (some ⟨b, off + A, none⟩) 16 (cap - A)) W) ∧ Below w.heap.size w W)
      (fun c pre W => ((c = .ret ∧ 65 ∈ pre) ∧ ResC w.heap.size (.slice none 0 0) 0 2 (.slice (some ⟨b, off + A, none⟩) 16 (cap - A)) W) ∧ Below w.heap.size w W)
      (OwnFrom.and (OwnFrom.and (Own.from (holdsRow_own (w.heap.size + 1 + 1 + 1) _ 81 3 1 (fun pre => (col pre).length) colV (fun pre v => ¬ 65 ∈ pre)) _) (Own.from (resC_own w.heap.size (.slice none 0 0) 0 0 (.slice (some ⟨b, off + A, none⟩) 16 (cap - A))) _)) (ownFrom_below (Nat.le_refl _) (by simp; omega)))
      (fun c => OwnFrom.and (OwnFrom.and (ownFrom_pure _ _) (Own.from (resC_own w.heap.size (.slice none 0 0) 0 2 (.slice (some ⟨b, off + A, none⟩) 16 (cap - A))) _)) (ownFrom_below (Nat.le_refl _) (by simp; omega)))
      ?start
      (fun x => { tmps := #[Value.slice (some { block := b, off := off + A }) N (cap - A), Value.int IntKind.i64 (A : Int), undef, undef,
          Value.pointer (some { block := w.heap.size, off := 0 }),
          Value.pointer (some { block := w.heap.size + 1, off := 0 }),
          Value.pointer (some { block := w.heap.size + 1 + 1, off := 0 }), Value.int IntKind.i64 16,
          Value.pointer (some { block := w.heap.size + 1 + 1 + 1 + 1, off := 0 }), Value.int IntKind.i64 (x : Int), Value.int IntKind.i64 (A : Int),
          Value.bool false, Value.bool false, Value.int IntKind.i64 (A : Int),
          Value.slice (some { block := b, off := off }) (A + N) cap, Value.int IntKind.i64 ((A : Int) + (N : Int)),
          Value.bool (decide ((A : Int) + (N : Int) < (A : Int))), Value.bool (decide ((A : Int) + (N : Int) < (A : Int))),
          Value.slice (some { block := b, off := off }) (A + N) cap, Value.int IntKind.i64 (A : Int),
          Value.slice (some { block := b, off := off + A }) N (cap - A),
          Value.slice (some { block := b, off := off + A }) N (cap - A), Value.int IntKind.i64 (N : Int), Value.bool true,
          Value.bool true, Value.slice (some { block := b, off := off + A }) N (cap - A),
          Value.pointer (some { block := b, off := off + A }), Value.int IntKind.u8 (n8 c0),
          Value.int IntKind.u8 (Go.bits BinOp.and IntKind.u8 (n8 c0) 128), Value.bool true, Value.bool true,
          Value.slice (some { block := b, off := off + A }) N (cap - A), Value.int IntKind.i64 (N : Int),
          Value.int IntKind.i64 16, Value.bool false,
          Value.slice (some { block := w.heap.size + 1 + 1 + 1, off := 0 }) 0 0,
          Value.slice (some { block := b, off := off + A }) N (cap - A), Value.int IntKind.i64 16,
          Value.slice (some { block := b, off := off + A }) 16 (cap - A),
          Value.func (Fn.func 118) #[] #[Value.pointer (some { block := w.heap.size + 1 + 1 + 1 + 1 + 1, off := 0 })],
          Value.int IntKind.i64 (x : Int), undef, undef, undef, undef, undef, undef, undef, undef, undef, undef, undef, undef, undef, undef,
          undef, undef, undef, undef, undef, undef, undef, undef, undef, undef, undef, undef, undef, undef], defers := [] }) ?assign ?body ?done ?stop
    case seq =>
      intro l J Jx W hW hJ hJx hY h0
      have hsz : w.heap.size + 6 ≤ W.heap.size := by have := hW.size; simp at this; omega
      refine (set1_in hP (m + 1) l (w.heap.size + 1 + 1 + 1 + 1 + 1) w.heap.size b (off + A) (cap - A) bs (by omega) hb J Jx (fun s W1 W2 hs hb => hJ s W1 W2 none hs ⟨hb.os, hb.tape, hb.output, hb.size, fun k hk _ => hb.block k hk⟩ (fun r e => by cases e)) (fun pre x W1 hj _ _ hl => hY pre x W1 hj hl) W ?_ (by omega) (by omega) (fun j h => ?_) h0).mono ?_
      · rw [hbs]; exact (hW.cell (p := ⟨w.heap.size + 1 + 1 + 1 + 1 + 1, 0, none⟩) (by simp)).trans bS.cell
      · exact (hW.cell (p := ⟨b, off + A + j, none⟩) (by simp; omega)).trans ((hB6.cell (p := ⟨b, off + A + j, none⟩) hb).trans (hc j h))
      · rintro e W' ⟨he, h⟩
        exact ⟨he, h.elim (fun h => .inl ⟨_, rfl, h⟩) (fun ⟨k, hk, h⟩ => .inr ⟨_, ⟨k, hk, rfl⟩, h⟩)⟩
    case kt => exact fun h k => ⟨h.1.trans k.1, k.2.trans h.2⟩
    case kb =>
      intro W l o o' hl ho h1 h2
      simp at hl
      exact ⟨belowK_b (w := w) (Nat.le_refl _) W l o o' (by omega) ho h1 h2, World.cell?_of_block (World.putObj_heap_other (by simp; omega))⟩
    case start => exact ⟨⟨⟨_, bL.alloc _, (hrow0.alloc _).alloc _, by simp⟩, ⟨b0.alloc _ |>.alloc _ |>.alloc _ |>.alloc _ |>.alloc _, b1.alloc _ |>.alloc _ |>.alloc _ |>.alloc _, b2.alloc _ |>.alloc _ |>.alloc _, bS⟩⟩, hB6⟩
    case assign =>
      intro l x W K hK
      gi_wp2
      exact hK
    case body =>
      rintro l pre x W ⟨⟨⟨v, hv, hrow, h65⟩, hr⟩, hB⟩ hlt
      have hcL := hv.cell
      have hr1 := hr.c0.cell
      have hr2 := hr.c0.frozen
      have hr3 := hr.c1.cell
      have hr4 := hr.c1.frozen
      have hr5 := hr.c2.cell
      have hr6 := hr.c2.frozen
      have h5lt := hr.c5.lt
      have hpl : (col pre).length ≤ pre.length := List.length_filter_le _ _
      by_cases hx65 : x = 65
      · subst hx65
        gi_wp2
        exact ⟨(others3 _ _ _ _ _).from _, ⟨⟨rfl, by simp⟩, res3 hr _ _ _⟩, hB.trans (keep3 _ _ _ _ _)⟩
      · have hx65' : ¬ (x : Int) = 65 := by omega
        by_cases hx1 : 1 < x
        · have hx1' : (1 : Int) < (x : Int) := by omega
          gi_wp2_with (gi_at_builtin; refine Wrap.out ?_)
          refine ⟨?_⟩
          refine wpListIn_append_own _ rfl _ _ 81 rfl (w.heap.size + 1 + 1 + 1) 3 i0 (.int .i64 0) 1 8 u81 hi hz0 hz1 hz2 rfl (by decide) v (col pre).length (colV pre) rfl (hrow.alloc _) ⟨W.heap.size, 0, none⟩ 1 1 [.int .i64 (x : Int)] rfl rfl ?hcell ?hone ?hb1 ?hb2 ?hb3 ?hrest
          case hcell => exact cell_one_new _ _ _
          case hone => simp [Value.oneCell']
          case hb1 => simp [maxLen]; omega
          case hb2 => omega
          case hb3 => have := hB.size; simp; omega
          case hrest =>
            intro v' w1 hown' hgrow _
            obtain ⟨g', cap', rfl⟩ := ownsRow_succ hown'
            obtain ⟨hv1, hv2, hr2', hk2, hb2⟩ := hv.appended (by decide) hrow (by omega) (by omega) hown' hgrow
            have hS1 : Boxed w1 (w.heap.size + 1 + 1 + 1 + 1 + 1) 27 _ := (hr.c5.alloc (.cells #[Value.int .i64 (x : Int)] 3)).kept hgrow (hr.c5.not_row (by decide) hrow)
            have hc1 := hv1.cell
            have hf1 := hv1.frozen
            gi_wp2
            have hS2 := hS1.setOther (C := w.heap.size + 1 + 1 + 1 + 1) (by omega) (.slice (some ⟨g', 0, none⟩) ((col pre).length + 1) cap')
            have hb2' := hb2.mono (B' := w.heap.size) (by omega)
            refine ⟨hk2.from _, ⟨hb2', hS2.cell.trans hr.c5.cell.symm⟩, ⟨⟨_, hv2, ?_, ?_⟩, resC_below hr hb2 hS2⟩, hB.trans hb2'⟩
            · rw [colV, col_hit hx1]; simpa [colV] using hr2'
            · simpa [h65] using fun e => hx65 e.symm
        · have hx1' : ¬ (1 : Int) < (x : Int) := by omega
          gi_wp2
          refine ⟨KeepsFrom.refl _ _, ⟨Below.refl _ _, rfl⟩, ⟨⟨v, hv, ?_, ?_⟩, hr⟩, hB⟩
          · rw [colV, col_miss hx1]; exact hrow
          · simpa [h65] using fun e => hx65 e.symm
    case done =>
      rintro D ys W hD rfl ⟨⟨⟨v, hv, hrow, h65⟩, hr⟩, hB⟩ hK
      have hcL := hv.cell
      have hr1 := hr.c0.cell
      have hr2 := hr.c0.frozen
      have hr3 := hr.c1.cell
      have hr4 := hr.c1.frozen
      have hr5 := hr.c2.cell
      have hr6 := hr.c2.frozen
      have hK' := fun v n e => (others3 w.heap.size v n e W).same D _ hK rfl
      have hyl := yl_len bs (8 * bs.length + 1) (by omega)
      have hpl : (col (yl bs (8 * bs.length + 1))).length ≤ (yl bs (8 * bs.length + 1)).length := List.length_filter_le _ _
      obtain ⟨C, hC⟩ : ∃ C, Wrap (C = col (yl bs (8 * bs.length + 1))) := ⟨_, ⟨rfl⟩⟩
      unfold colV at hrow
      rw [← hC.out] at hrow hpl
      have hC128 : C.length ≤ 128 := by omega
      have hgood : Wrap (W.ownsRow (w.heap.size + 1 + 1 + 1) 3 1 v C.length (C.map fun (n : Nat) => Value.int .i64 (n : Int))) := ⟨hrow⟩
      clear hrow hpl hyl
      by_cases hC0 : C.length = 0
      · rw [hC0] at hgood
        obtain ⟨a, c, hve⟩ : ∃ a c, v = .slice a 0 c := by
          rcases hgood.out.2 with ⟨h, _⟩ | ⟨g, cap', cur, h, _⟩
          · exact ⟨_, _, h⟩
          · exact ⟨_, _, h⟩
        subst hve
        gi_wp2
        refine ⟨by simp, .inl ⟨_, _, rfl, run_takeDeferred (hK' _ _ _), ?_⟩⟩
        have hz := ((res3 hr (.slice none 0 0) (0) 2).put (.deferred none) (hK' _ _ _) rfl)
        refine ⟨.tuple #[(.slice none 0 0), .int .i64 (0), .int .i64 2], by simp [results, Try.f69, go_sem, hz.c0.cell, hz.c1.cell, hz.c2.cell], _, rfl, ?_⟩
        have hall : ∀ n ∈ numsB bs, n < 65 := by
          intro n hn
          rw [← col_nums, ← hC.out, List.length_eq_zero_iff.1 hC0] at hn; cases hn
        rw [hR.out, if_pos ⟨by trivial, .inr hall⟩]
        exact ret_err hX ((hB.trans (keep3 _ _ _ _ _)).trans (belowK_b (w := w) (Nat.le_refl _) _ D _ _ (by simp at hD; omega) (hK' _ _ _) rfl rfl)) 2
      · obtain ⟨L, hL⟩ : ∃ L, C.length = L + 1 := ⟨C.length - 1, by omega⟩
        rw [hL] at hgood hC128
        obtain ⟨g, cap', z, hve, hz0, hce⟩ : ∃ g cap' z, v = .slice (some ⟨g, 0, none⟩) (L + 1) cap' ∧ Wrap (C[L]? = some z) ∧ W.cell? ⟨g, L, none⟩ = some (.int .i64 (z : Int)) := by
          rcases hgood.out.2 with ⟨h, h'⟩ | ⟨g, cap', cur, h, hg, hh, hk1, hk2, hk3, hk4⟩
          · omega
          · refine ⟨g, cap', C[L]'(by omega), h, ⟨List.getElem?_eq_getElem (by omega)⟩, ?_⟩
            rw [World.cell?, hh]
            have h1 : cur.toList[L]? = some (Value.int .i64 ((C[L]'(by omega) : Nat) : Int)) := by
              have h2 : (List.take ((L + 1) * 1) cur.toList)[L]? = cur.toList[L]? := List.getElem?_take_of_lt (by omega)
              rw [← h2, hk4, List.getElem?_map, List.getElem?_eq_getElem (show L < C.length by omega)]; rfl
            have h3 : cur[L]? = some (Value.int .i64 ((C[L]'(by omega) : Nat) : Int)) := by rw [← h1]; simp
            simpa using h3
        subst hve
        clear hC0
        have hL' : Wrap (C.length = L + 1) := ⟨hL⟩
        clear hL
        have hL0 : ¬ ((L + 1 : Nat) : Int) = 0 := by omega
        have hwr : wrap64 (((L + 1 : Nat) : Int) - 1) = (L : Int) := by rw [show ((L + 1 : Nat) : Int) - 1 = (L : Int) by omega]; unfold wrap64; omega
        have hlt' : (L : Int) < ((L + 1 : Nat) : Int) := by omega
        have hlt0 : (0 : Int) ≤ (L : Int) := by omega
        by_cases hz65 : (z : Int) < 65
        · gi_wp2
          refine ⟨by simp, .inl ⟨_, _, rfl, run_takeDeferred (hK' _ _ _), ?_⟩⟩
          have hz := ((res3 hr (.slice none 0 0) (0) 2).put (.deferred none) (hK' _ _ _) rfl)
          refine ⟨.tuple #[(.slice none 0 0), .int .i64 (0), .int .i64 2], by simp [results, Try.f69, go_sem, hz.c0.cell, hz.c1.cell, hz.c2.cell], _, rfl, ?_⟩
          have hall : ∀ n ∈ numsB bs, n < 65 := by
            intro n hn
            have := nums_last (by rw [← col_nums, ← hC.out]; exact hL'.out) (by rw [← col_nums, ← hC.out]; exact hz0.out) n hn
            omega
          rw [hR.out, if_pos ⟨by trivial, .inr hall⟩]
          exact ret_err hX ((hB.trans (keep3 _ _ _ _ _)).trans (belowK_b (w := w) (Nat.le_refl _) _ D _ _ (by simp at hD; omega) (hK' _ _ _) rfl rfl)) 2
        · gi_wp2
          refine ⟨by simp, .inl ⟨_, _, rfl, run_takeDeferred (hK' _ _ _), ?_⟩⟩
          have hz := ((res3 hr (.slice (some ⟨g, 0, none⟩) (L + 1) cap') ((A : Int) + 16) 0).put (.deferred none) (hK' _ _ _) rfl)
          refine ⟨.tuple #[(.slice (some ⟨g, 0, none⟩) (L + 1) cap'), .int .i64 ((A : Int) + 16), .int .i64 0], by simp [results, Try.f69, go_sem, hz.c0.cell, hz.c1.cell, hz.c2.cell], _, rfl, ?_⟩
          rw [hR.out, if_neg (fun h => h.2.elim (fun h => h65 (nums65 h)) (fun h => absurd hz65 (by have := h z (by rw [← col_nums, ← hC.out]; exact List.mem_of_getElem? hz0.out); omega)))]
          refine ret_ok hX ((hB.trans (keep3 _ _ _ _ _)).trans (belowK_b (w := w) (Nat.le_refl _) _ D _ _ (by simp at hD; omega) (hK' _ _ _) rfl rfl)) ?_ _
          have hrw := row3 hgood.out (.slice (some ⟨g, 0, none⟩) (L + 1) cap') ((A : Int) + 16) 0 (.deferred none) hK rfl
          rw [← col_nums, ← hC.out, List.length_map, hL'.out, List.map_map]
          exact hrw
    case stop =>
      rintro D c pre W hD ⟨k, hk, rfl⟩ ⟨⟨⟨rfl, h65⟩, hr⟩, hB⟩ hK
      gi_wp2
      refine ⟨by simp, .inl ⟨_, _, rfl, run_takeDeferred hK, ?_⟩⟩
      have hz := hr.put (.deferred none) hK rfl
      refine ⟨.tuple #[.slice none 0 0, .int .i64 0, .int .i64 2], by simp [results, Try.f69, go_sem, hz.c0.cell, hz.c1.cell, hz.c2.cell], _, rfl, ?_⟩
      rw [hR.out, if_pos ⟨by trivial, .inl (yl65 hk h65).1⟩]
      exact ret_err hX (hB.trans (belowK_b (w := w) (Nat.le_refl _) _ D _ _ (by simp at hD; omega) hK rfl rfl)) 2
end Yp

namespace Yp
open Go Go.Proofs
noncomputable abbrev s_bitmap_Read : FSpec := ⟨[.sl (.int .u8), .int .i64], [.ow (.int .i64), .im (.int .i64), .im (.int .i64)], bitmap_Read⟩
theorem hasB_1 {c : List UInt8} (h : 0 < c.length) : hasB c 1 = bt c[0] 0 := by
  unfold hasB nth
  rw [show (1 - 1) / 8 = 0 from rfl, List.getD_eq_getElem?_getD, List.getElem?_eq_getElem h]; rfl
set_option maxRecDepth 100000 in
theorem read_main (hP : FOK Try.prog 93 ⟨[.int .i64], [.im (.int .i64), .im (.int .u8)], bitmap_Place⟩) (l : List UInt8) (at' : Int) (a : Option Addr) (cap : Nat) (w : World) (X : Nat → Prop) (hX : ∀ b, X b → b < w.heap.size) (h1 : l.length ≤ cap) (h2' : cap ≤ 9223372036854775807)
    (h3 : l = [] ∨ ∃ b o c el fz, a = some ⟨b, o, none⟩ ∧ view w X b = some (.cells c el fz) ∧ o + l.length * 1 ≤ c.size ∧ ∀ (i : Nat) (x : UInt8), l[i]? = some x → seg c (o + i * 1) 1 = [Value.int .u8 (n8 x)]) :
    Calls Try.prog 69 #[Value.slice a l.length cap, Value.int .i64 at'] w fun e w' => ∃ vr, e = .returned vr ∧ RetOK w X w' s_bitmap_Read.res (bmR l at') vr := by
  by_cases hA : at' < 0
  · have e : bmR l at' = ([], 0, 1, ()) := if_pos (.inl hA)
    refine (callsIn_wide (n := 0)).1 (readA a _ cap at' hA 0 w X hX |>.mono ?_)
    intro e' w' ⟨vr, h, h'⟩
    exact ⟨vr, h, by rw [e]; exact h'⟩
  by_cases hB : (l.length : Int) < at'
  · have e : bmR l at' = ([], 0, 1, ()) := if_pos (.inr hB)
    refine (callsIn_wide (n := 0)).1 (readB a _ cap at' hA hB 0 w X hX |>.mono ?_)
    intro e' w' ⟨vr, h, h'⟩
    exact ⟨vr, h, by rw [e]; exact h'⟩
  obtain ⟨A, rfl⟩ : ∃ A : Nat, at' = (A : Int) := ⟨at'.toNat, by omega⟩
  have hAl : A ≤ l.length := by omega
  have eC : bmR l (A : Int) = bmC (l.drop A) (A : Int) := by
    unfold bmR
    rw [if_neg (by omega)]; rfl
  rw [eC]
  have hdl : (l.drop A).length = l.length - A := List.length_drop
  by_cases hE : A = l.length
  · have e : bmC (l.drop A) (A : Int) = ([], 0, 3, ()) := if_pos (.inl (by omega))
    refine (callsIn_wide (n := 0)).1 (readC a _ cap A h1 hE 0 w X hX |>.mono ?_)
    intro e' w' ⟨vr, h, h'⟩
    exact ⟨vr, h, by rw [e]; exact h'⟩
  rcases h3 with rfl | ⟨b, o, c, el, fz, rfl, hv, hsz, hel⟩
  · simp at hE hAl; omega
  have hsz' : o + l.length * 1 ≤ c.size := hsz
  obtain ⟨hnx, hh⟩ := view_some.1 hv
  have hbl : b < w.heap.size := (Array.getElem?_eq_some_iff.1 hh).1
  have hcell : ∀ i, (h : i < l.length) → w.cell? ⟨b, o + i, none⟩ = some (.int .u8 (n8 l[i])) := by
    intro i h
    have h6 : seg c (o + i * 1) 1 = [Value.int .u8 (n8 l[i])] := hel i l[i] (List.getElem?_eq_getElem h)
    rw [Nat.mul_one] at h6
    have h7 : c[o + i]? = some (Value.int .u8 (n8 l[i])) := by
      have := seg_get (c := c) (o := o + i) (n := 1) (i := 0) (by omega)
      rw [h6] at this
      simpa using this.symm
    rw [World.cell?, hh]
    simpa using h7
  have hc0 := hcell A (by omega)
  have hb0 : hasB (l.drop A) 1 = bt (l[A]'(by omega)) 0 := by
    rw [hasB_1 (by omega)]; congr 1; simp
  by_cases hS : (l.drop A).length < 8 ∨ (hasB (l.drop A) 1 = true ∧ (l.drop A).length < 16)
  · have e : bmC (l.drop A) (A : Int) = ([], 0, 3, ()) := if_pos hS
    have hs : (bt (l[A]'(by omega)) 0 = true ∧ l.length - A < 16) ∨ (bt (l[A]'(by omega)) 0 = false ∧ l.length - A < 8) := by
      rw [hb0, hdl] at hS
      cases hb : bt (l[A]'(by omega)) 0
      · rw [hb] at hS; exact .inr ⟨rfl, by simpa using hS⟩
      · exact .inl ⟨rfl, by omega⟩
    refine (callsIn_wide (n := 0)).1 (readD b o _ cap A h1 (by omega) _ 0 w hc0 hs X hX hbl |>.mono ?_)
    intro e' w' ⟨vr, h, h'⟩
    exact ⟨vr, h, by rw [e]; exact h'⟩
  · have hS8 : 8 ≤ l.length - A := by omega
    have run : ∀ (S : Nat), (S = 8 ∨ S = 16) → A + S ≤ l.length → (bt (l[A]'(by omega)) 0 = true ↔ S = 16) → ∀ R, R = (if S = 16 ∧ (65 ∈ numsB ((l.drop A).take S) ∨ ∀ n ∈ numsB ((l.drop A).take S), n < 65) then (([], 0, 2, ()) : List Int × Int × Int × Unit) else (((numsB ((l.drop A).take S)).map Int.ofNat, (A : Int) + (S : Int), (0 : Int), ()) : List Int × Int × Int × Unit)) → bmC (l.drop A) (A : Int) = R →
        Calls Try.prog 69 #[Value.slice (some ⟨b, o, none⟩) l.length cap, Value.int .i64 (A : Int)] w fun e w' => ∃ vr, e = .returned vr ∧ RetOK w X w' s_bitmap_Read.res (bmC (l.drop A) (A : Int)) vr := by
      intro S h8 hl hbit R hR he
      rw [he]
      refine (callsIn_wide (n := 3)).1 (readE hP b o _ cap A S h1 hl (by omega) ((l.drop A).take S) h8 (by rw [List.length_take, hdl]; omega) _ 0 w ?_ hc0 hbit X hX hbl R ⟨hR⟩)
      intro j hj
      have hj' : A + j < l.length := by rw [List.length_take, hdl] at hj; omega
      rw [Nat.add_assoc, hcell (A + j) hj']
      simp
    cases hb : bt (l[A]'(by omega)) 0
    · rw [hb] at hb0
      refine run 8 (.inl rfl) (by omega) (by rw [hb]; simp) _ rfl ?_
      unfold bmC
      rw [if_neg hS, if_neg (by rw [hb0]; simp), if_neg (by omega)]; rfl
    · rw [hb] at hb0
      have h16 : 16 ≤ l.length - A := by
        rcases Nat.lt_or_ge (l.drop A).length 16 with h | h
        · exact absurd (.inr ⟨hb0, h⟩) hS
        · omega
      refine run 16 (.inr rfl) (by omega) (by rw [hb]; simp) _ rfl ?_
      unfold bmC
      rw [if_neg hS, if_pos hb0]
      simp only [true_and]; rfl
set_option maxRecDepth 100000 in
theorem h_bitmap_Read (hP : FOK Try.prog 93 ⟨[.int .i64], [.im (.int .i64), .im (.int .u8)], bitmap_Place⟩) : FOK Try.prog 69 s_bitmap_Read := by
  refine ⟨⟨Try.f69, Try.func69, by kernel_rfl, by kernel_rfl⟩, ?_⟩
  intro w X x vs r hX ha hr
  obtain ⟨l, at', ⟨⟩⟩ := x
  obtain rfl : bmR l at' = r := Option.some.inj hr
  obtain ⟨cs, vs', rfl, hc, cs2, vs2, rfl, hc2, rfl⟩ := ha
  obtain ⟨a, cap, rfl, h1, h2, h3⟩ := RepC.sl_iff.1 hc
  obtain rfl := RepC.int_iff.1 hc2
  refine read_main hP l at' a cap w X hX h1 h2 (h3.imp id ?_)
  rintro ⟨b, o, c, el, fz, rfl, hv, hsz, hel⟩
  exact ⟨b, o, c, el, fz, rfl, hv, hsz, fun i x hx => RepC.int_iff.1 (hel i x hx)⟩
end Yp
