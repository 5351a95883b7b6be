/- A part of the proof of DigBack. -/
import Derived.Test.YtkmimlgogeeooaaYpLaw
set_option linter.unusedVariables false
set_option linter.unusedSimpArgs false
namespace Yp
open Go
theorem loopN_mono {σ ρ : Type} {f : σ → Option (LS σ ρ)} : ∀ {n m : Nat} {x : σ} {r : LS σ ρ}, loopN f n x = some r → n ≤ m → loopN f m x = some r
  | 0, _, _, _, h, _ => by simp [loopN] at h
  | n + 1, 0, _, _, _, h => by omega
  | n + 1, m + 1, x, r, h, hm => by
    simp only [loopN] at h ⊢
    split at h
    · exact loopN_mono h (by omega)
    · exact h
theorem loop_of {σ ρ : Type} {f : σ → Option (LS σ ρ)} {x : σ} {r : LS σ ρ} (n : Nat) (h : loopN f n x = some r) : loop f x = some r := by
  have hex : ∃ n, (loopN f n x).isSome := ⟨n, by rw [h]; rfl⟩
  unfold loop
  rw [dif_pos hex]
  have hs := Classical.choose_spec hex
  obtain ⟨r', hr⟩ := Option.isSome_iff_exists.1 hs
  have h1 := loopN_mono hr (Nat.le_max_left _ n)
  have h2 := loopN_mono h (Nat.le_max_right (Classical.choose hex) n)
  rw [hr]; rw [h1] at h2; exact h2
theorem loop_ev {σ ρ : Type} {f : σ → Option (LS σ ρ)} {x : σ} (n : Nat) (h : (loopN f n x).isSome = true) : loop f x = loopN f n x := by
  obtain ⟨r, hr⟩ := Option.isSome_iff_exists.1 h
  rw [hr]; exact loop_of n hr
theorem loop_nx {σ ρ : Type} {f : σ → Option (LS σ ρ)} {x y : σ} (h : f x = some (.nx y)) : loop f x = loop f y := by
  cases hy : loop f y with
  | some r =>
    obtain ⟨n, hn⟩ := loop_some hy
    exact loop_of (n + 1) (by simp [loopN, h, hn])
  | none =>
    cases hx : loop f x with
    | none => rfl
    | some r =>
      obtain ⟨n, hn⟩ := loop_some hx
      cases n with
      | zero => simp [loopN] at hn
      | succ n =>
        simp only [loopN, h] at hn
        rw [loop_of n hn] at hy; cases hy
theorem loop_ex {σ ρ : Type} {f : σ → Option (LS σ ρ)} {x y : σ} {k : Nat} (h : f x = some (.ex k y)) : loop f x = some (.ex k y) := loop_of 1 (by simp [loopN, h])
theorem loop_rt {σ ρ : Type} {f : σ → Option (LS σ ρ)} {x : σ} {r : ρ} (h : f x = some (.rt r)) : loop f x = some (.rt r) := loop_of 1 (by simp [loopN, h])
/-- a loop over a counted state -/
theorem loop_count {σ ρ : Type} {f : σ → Option (LS σ ρ)} (st : Nat → σ) (n : Nat) (h : ∀ i, i < n → f (st i) = some (.nx (st (i + 1)))) : ∀ i, i ≤ n → loop f (st i) = loop f (st n) := by
  intro i hi
  obtain ⟨d, rfl⟩ : ∃ d, n = i + d := ⟨n - i, by omega⟩
  clear hi
  induction d generalizing i with
  | zero => rfl
  | succ d ih =>
    rw [loop_nx (h i (by omega))]
    have := ih (i + 1) (fun j hj => h j (by omega))
    rw [this]; congr 2; omega
theorem i64_of {n : Int} (h1 : -9223372036854775808 ≤ n) (h2 : n ≤ 9223372036854775807) : i64 n = n := by
  show (if (true && decide (n % 18446744073709551616 ≥ 9223372036854775808)) = true then n % 18446744073709551616 - 18446744073709551616 else n % 18446744073709551616) = n
  simp only [Bool.true_and, decide_eq_true_eq]
  split <;> omega
theorem sel_t {α : Type} (a b : α) : sel true a b = a := rfl
theorem sel_f {α : Type} (a b : α) : sel false a b = b := rfl
theorem ck_t {α : Type} (a : Option α) : ck true a = a := rfl
theorem ob_s {α β : Type} (a : α) (k : α → Option β) : ob (some a) k = k a := rfl
theorem sel_ite {α : Type} (c : Bool) (a b : α) : sel c a b = if c = true then a else b := by cases c <;> rfl
end Yp
