/- A part of the proof of DigBack. -/
import Derived.Test.YtkmimlgogeeooaaYqL
set_option linter.unusedVariables false
set_option linter.unusedSimpArgs false
namespace Yp
open Go
theorem ob_of {α β : Type} {o : Option α} {a : α} {k : α → Option β} (h : o = some a) : ob o k = k a := by rw [h]; rfl
theorem sel_of_t {α : Type} {c : Bool} {a b : α} (h : c = true) : sel c a b = a := by rw [h]; rfl
theorem sel_of_f {α : Type} {c : Bool} {a b : α} (h : c = false) : sel c a b = b := by rw [h]; rfl
theorem ck_of {α : Type} {c : Bool} {a : Option α} (h : c = true) : ck c a = a := by rw [h]; rfl
theorem lc_of {σ ρ β : Type} {f : σ → Option (LS σ ρ)} {x : σ} {kn : σ → Option β} {ke : Nat → σ → Option β} {kr : ρ → Option β} (n : Nat) (h : (loopN f n x).isSome = true) : lc (loop f x) kn ke kr = lc (loopN f n x) kn ke kr := by rw [loop_ev n h]
theorem lc_eq {σ ρ β : Type} {o o' : Option (LS σ ρ)} {kn : σ → Option β} {ke : Nat → σ → Option β} {kr : ρ → Option β} (h : o = o') : lc o kn ke kr = lc o' kn ke kr := by rw [h]
/-- a loop that runs over n places, and may leave at one that is not as it should be -/
theorem loop_scan {σ ρ : Type} {f : σ → Option (LS σ ρ)} (st : Nat → σ) (n : Nat) (p : Nat → Prop) (r : ρ) (k : Nat) (hs : ∀ i, i < n → (∀ j, j ≤ i → p j) → f (st i) = some (.nx (st (i + 1)))) (hb : ∀ i, i < n → (∀ j, j < i → p j) → ¬ p i → f (st i) = some (.rt r))
    (he : (∀ i, i < n → p i) → f (st n) = some (.ex k (st n))) : ((∀ i, i < n → p i) ∧ loop f (st 0) = some (.ex k (st n))) ∨ ((∃ i, i < n ∧ ¬ p i) ∧ loop f (st 0) = some (.rt r)) := by
  by_cases h : ∀ i, i < n → p i
  · refine .inl ⟨h, ?_⟩
    rw [loop_count st n (fun i hi => hs i hi fun j hj => h j (by omega)) 0 (Nat.zero_le _)]
    exact loop_ex (he h)
  · refine .inr ?_
    have hex : ∃ i, i < n ∧ ¬ p i := by
      refine Classical.byContradiction fun hc => h fun i hi => Classical.byContradiction fun hp => hc ⟨i, hi, hp⟩
    refine ⟨hex, ?_⟩
    obtain ⟨k, hk, hp⟩ := hex
    induction k using Nat.strongRecOn with
    | _ k ih =>
      by_cases hl : ∃ j, j < k ∧ ¬ p j
      · obtain ⟨j, hj, hpj⟩ := hl
        exact ih j hj (by omega) hpj
      · have hall : ∀ i, i < k → p i := fun i hi => Classical.byContradiction fun hp => hl ⟨i, hi, hp⟩
        rw [loop_count st k (fun i hi => hs i (by omega) fun j hj => hall j (by omega)) 0 (Nat.zero_le _)]
        exact loop_rt (hb k hk hall hp)
theorem lt_nat {a b : Nat} : lt (a : Int) (b : Int) = decide (a < b) := by unfold lt; rw [decide_eq_decide]; omega
theorem le_nat {a b : Nat} : le (a : Int) (b : Int) = decide (a ≤ b) := by unfold le; rw [decide_eq_decide]; omega
theorem lt_t {a b : Int} (h : a < b) : lt a b = true := decide_eq_true h
theorem lt_f {a b : Int} (h : ¬ a < b) : lt a b = false := decide_eq_false h
theorem le_t {a b : Int} (h : a ≤ b) : le a b = true := decide_eq_true h
theorem le_f {a b : Int} (h : ¬ a ≤ b) : le a b = false := decide_eq_false h
theorem beq_t {a b : Int} (h : a = b) : beq a b = true := by unfold beq; exact beq_iff_eq.2 h
theorem beq_f {a b : Int} (h : ¬ a = b) : beq a b = false := by unfold beq; exact beq_eq_false_iff_ne.2 h
theorem seq_t {a b : List UInt8} (h : a = b) : seq a b = true := by unfold seq; exact beq_iff_eq.2 h
theorem seq_f {a b : List UInt8} (h : ¬ a = b) : seq a b = false := by unfold seq; exact beq_eq_false_iff_ne.2 h
theorem nlt_t {a b : Nat} (h : a < b) : nlt a b = true := by unfold nlt; rw [Nat.blt_eq]; exact h
theorem nlt_f {a b : Nat} (h : ¬ a < b) : nlt a b = false := by
  unfold nlt; cases hb : Nat.blt a b with
  | false => rfl
  | true => rw [Nat.blt_eq] at hb; exact absurd hb h
theorem inB_nat {a n : Nat} (h : a < n) : inB (a : Int) (n : Int) = true := by
  simp only [inB, Bool.and_eq_true, decide_eq_true_eq]; omega
theorem inB_t {a n : Int} (h0 : 0 ≤ a) (h : a < n) : inB a n = true := by
  simp only [inB, Bool.and_eq_true, decide_eq_true_eq]; omega
theorem inC_t {a b n : Int} (h0 : 0 ≤ a) (h : a ≤ b) (h' : b ≤ n) : inC a b n = true := by
  simp only [inC, Bool.and_eq_true, decide_eq_true_eq]; omega
theorem rm_t {c n : Nat} (h : n * c ≤ 140737488355328) : rm c n = true := decide_eq_true h
theorem i64_nat {n : Nat} (h : n ≤ 9223372036854775807) : i64 (n : Int) = (n : Int) := i64_of (by omega) (by omega)
theorem len_nat {α : Type} (l : List α) : len l = ((l.length : Nat) : Int) := rfl
theorem nth_get {α : Type} {l : List α} {i : Nat} {d : α} (h : i < l.length) : nth l i d = l[i] := by
  simp [nth, List.getD_eq_getElem?_getD, h]
theorem n8_lt (x : UInt8) : x.toNat < 256 := x.toNat_lt
theorem u8_nat' (q : Nat) : u8 (q : Int) = UInt8.ofNat q := by
  apply UInt8.toNat_inj.1
  unfold u8
  have h1 : (UInt8.ofInt (q : Int)).toNat = q % 256 := by
    simp [UInt8.ofInt, UInt8.toNat_ofNat]
    omega
  rw [h1]; simp
theorem pow_cast (b n : Nat) : ((b : Int) ^ n) = ((b ^ n : Nat) : Int) := (Int.natCast_pow b n).symm
theorem beb_iff {a b : Bool} : beb a b = true ↔ a = b := by unfold beb; exact beq_iff_eq
/-- a sign below 128 is read as it is -/
theorem decode_low {l : List UInt8} {i : Nat} (h : i < l.length) (hl : l[i].toNat < 128) : decode l i = (l[i].toNat, 1) := by
  have hb : ((⟨l.toArray⟩ : ByteArray).get! (i + 0)).toNat = l[i].toNat := by
    show (l.toArray[i + 0]!).toNat = _
    simp [h]
  unfold decode Utf8.decode
  simp only [hb]
  rw [if_pos hl]
/-- a sign that is not below 128 is read as no such -/
theorem decode_high {l : List UInt8} {i : Nat} (h : i < l.length) (hl : ¬ l[i].toNat < 128) : 128 ≤ (decode l i).1 ∧ (decode l i).1 ≤ 1114111 := by
  have hb : ((⟨l.toArray⟩ : ByteArray).get! (i + 0)).toNat = l[i].toNat := by
    show (l.toArray[i + 0]!).toNat = _
    simp [h]
  have h256 := n8_lt l[i]
  unfold decode Utf8.decode
  simp only [hb, if_neg hl, Utf8.runeError]
  have b : ∀ k, ((⟨l.toArray⟩ : ByteArray).get! k).toNat < 256 := fun k => n8_lt _
  generalize l[i].toNat = c at *
  repeat' split
  all_goals simp only
  all_goals (rename_i hc hd; simp only [Bool.and_eq_true, decide_eq_true_eq, beq_iff_eq, Utf8.valid, Bool.or_eq_true] at hc hd; omega)
theorem iadd_nat {a b : Nat} : iadd (a : Int) (b : Int) = ((a + b : Nat) : Int) := by simp [iadd]
theorem imul_nat {a b : Nat} : imul (a : Int) (b : Int) = ((a * b : Nat) : Int) := by simp [imul]
theorem isub_nat {a b : Nat} (h : b ≤ a) : isub (a : Int) (b : Int) = ((a - b : Nat) : Int) := by simp only [isub]; omega
theorem idiv_nat {a b : Nat} : idiv (a : Int) (b : Int) = ((a / b : Nat) : Int) := by simp only [idiv]; exact (Int.ofNat_tdiv _ _).symm
theorem imod_nat {a b : Nat} : imod (a : Int) (b : Int) = ((a % b : Nat) : Int) := by simp only [imod]; exact (Int.ofNat_tmod _ _).symm
theorem i64_add {a b : Nat} (h : a + b ≤ 9223372036854775807) : i64 (iadd (a : Int) (b : Int)) = ((a + b : Nat) : Int) := by rw [iadd_nat, i64_nat h]
theorem i64_mul {a b : Nat} (h : a * b ≤ 9223372036854775807) : i64 (imul (a : Int) (b : Int)) = ((a * b : Nat) : Int) := by rw [imul_nat, i64_nat h]
theorem i64_sub {a b : Nat} (h : b ≤ a) (h' : a ≤ 9223372036854775807) : i64 (isub (a : Int) (b : Int)) = ((a - b : Nat) : Int) := by rw [isub_nat h, i64_nat (by omega)]
theorem i64_div {a b : Nat} (h' : a ≤ 9223372036854775807) : i64 (idiv (a : Int) (b : Int)) = ((a / b : Nat) : Int) := by rw [idiv_nat, i64_nat (Nat.le_trans (Nat.div_le_self _ _) h')]
theorem nat_nat {a : Nat} : nat (a : Int) = a := by simp [nat]
theorem n8_u8 {a : Nat} (h : a < 256) : n8 (u8 (a : Int)) = (a : Int) := by
  rw [u8_nat']; simp only [n8, UInt8.toNat_ofNat']; omega
end Yp
