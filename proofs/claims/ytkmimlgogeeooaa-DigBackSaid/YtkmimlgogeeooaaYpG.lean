/- The engine, part G: values as plain data. -/
import Derived.Test.YtkmimlgogeeooaaYpF
set_option linter.unusedVariables false
set_option linter.unusedSimpArgs false
namespace Yp
open Go

theorem cast_some {a b : Ty} {x : a.den} {y : b.den} (h : Ty.cast a b x = some y) : ∃ e : a = b, e ▸ x = y := by
  unfold Ty.cast at h
  split at h
  · rename_i e _; cases h; exact ⟨e, rfl⟩
  · cases h
theorem castL_some {a b : Ty} {x : List a.den} {y : List b.den} (h : Ty.castL a b x = some y) : ∃ e : a = b, e ▸ x = y := by
  unfold Ty.castL at h
  split at h
  · rename_i e _; cases h; exact ⟨e, rfl⟩
  · cases h
theorem is_eq {a b : Ty} (h : Ty.is a b = true) : a = b := by
  unfold Ty.is at h
  cases hs : Ty.same a b with
  | none => rw [hs] at h; cases h
  | some e => exact e.down
section
variable {φ : Pl} {H : View} {B : Nat → Blk}
/-- the cells of a variable as plain data -/
theorem toD_T : ∀ {pv : PV} {t : Ty} {x : t.den} {cs : List Value}, toD' pv t = some x → RepT φ H B pv t cs → RepC H t x cs := by
  intro pv
  induction pv with
  | sc t' y =>
    intro t x cs h hr
    obtain ⟨e, rfl⟩ := cast_some h
    obtain ⟨e', hr⟩ := hr
    exact hr
  | kb b =>
    intro t x cs h hr
    cases t <;> try (cases h; done)
    obtain ⟨_, v, rfl, _, h3⟩ := hr
    cases h
    simp only [RepS] at h3; rw [h3]; exact RepC.bool_iff.2 rfl
  | nil =>
    intro t x cs h hr
    cases t <;> try (cases h; done)
    obtain ⟨_, v, rfl, _, h3⟩ := hr
    cases h
    simp only [RepS] at h3; rw [h3]; exact RepC.sl_iff.2 ⟨none, 0, rfl, Nat.le_refl _, by unfold maxLen; omega, .inl rfl⟩
  | csl e l =>
    intro t x cs h hr
    cases t <;> try (cases h; done)
    obtain ⟨_, v, rfl, _, h3⟩ := hr
    obtain ⟨e', rfl⟩ := castL_some h
    subst e'
    obtain ⟨a, _, h4⟩ := h3
    exact h4
  | two u v hu hv =>
    intro t x cs h hr
    cases t <;> try (cases h; done)
    rename_i a b
    obtain ⟨c1, c2, rfl, h1, h2⟩ := hr
    have h' : twoO (toD' u a) (toD' v b) = some x := h
    cases hy : toD' u a with
    | none => rw [hy] at h'; cases h'
    | some y =>
      cases hz : toD' v b with
      | none => rw [hy, hz] at h'; cases h'
      | some z =>
        rw [hy, hz] at h'; cases h'
        exact RepC.pair_iff.2 ⟨c1, c2, rfl, hu hy h1, hv hz h2⟩
  | agg t' u _ => intro t x cs h hr; exact hr.elim
  | _ => intro t x cs h; cases h
theorem RepT.isAgg_two {u v : PV} {t : Ty} {cs : List Value} (h : RepT φ H B (.two u v) t cs) : t.isAgg = true := by
  cases t <;> first | rfl | exact h.elim
/-- a value as plain data -/
theorem toD_P {pv : PV} {t : Ty} {x : t.den} {v : Value} (h : toD t pv = some x) (hr : RepP φ H B pv v) : RepP φ H B (.sc t x) v := by
  unfold toD at h
  cases pv <;> try (cases h; done)
  case kb b =>
    cases t <;> try (cases h; done)
    cases h
    simp only [RepP, RepQ, RepS] at hr; rw [hr]; exact RepP.mk_bool _ _ _ _
  case sc t' y =>
    obtain ⟨e, rfl⟩ := cast_some h
    subst e
    exact hr
  case nil =>
    cases t <;> try (cases h; done)
    cases h
    simp only [RepP, RepQ, RepS] at hr; rw [hr]
    exact ⟨[_], RepC.sl_iff.2 ⟨none, 0, rfl, Nat.le_refl _, by unfold maxLen; omega, .inl rfl⟩, rfl⟩
  case csl e l =>
    cases t <;> try (cases h; done)
    obtain ⟨e', rfl⟩ := castL_some h
    subst e'
    obtain ⟨a, h3, h4⟩ := hr
    exact ⟨[v], h4, rfl⟩
  case two u w => exact hr.elim
  case agg t' u =>
    have h' : (bif Ty.is t' t then toD' u t else none) = some x := h
    cases hi : Ty.is t' t with
    | false => rw [hi] at h'; cases h'
    | true =>
      rw [hi] at h'
      have h : toD' u t = some x := h'
      have e := is_eq hi
      subst e
      obtain ⟨ha, cs, h1, h2⟩ := hr
      exact ⟨cs, toD_T h h1, by rw [h2, mkV, if_pos ha]⟩
end
end Yp
