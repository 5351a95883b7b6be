/- The engine, part K: loads. -/
import Derived.Test.YtkmimlgogeeooaaYpJ
set_option linter.unusedVariables false
set_option linter.unusedSimpArgs false
namespace Yp
open Go
variable {P : Program}
section
variable {K : Kp} {w0 w : World} {φ : Pl} {M : Nat → Prop} {B B' : Nat → Blk} {H : View}
theorem wrap_P {pv : PV} {t : Ty} {cs : List Value} (h : RepT φ H B pv t cs) : RepP φ H B (wrapA t pv) (mkV t cs) := by
  cases pv with
  | two u v =>
    have ha := h.isAgg_two
    refine ⟨ha, cs, h, ?_⟩
    simp [mkV, ha]
  | sc s x =>
    obtain ⟨rfl, hc⟩ := h
    exact ⟨cs, hc, rfl⟩
  | agg t a => exact h.elim
  | tup a => exact h.elim
  | bad => trivial
  | _ =>
    obtain ⟨ha, v, rfl, _, hr⟩ := h
    have : mkV t [v] = v := by simp [mkV, ha]
    rw [this]; exact hr
theorem getp_sc : ∀ {p : List Sel} {s : Ty} {x : s.den} {u : PV}, getp (.sc s x) p = some u → ∃ s' x', u = .sc s' x' := by
  intro p
  induction p with
  | nil => intro s x u h; simp only [getp, Option.some.injEq] at h; exact ⟨s, x, h.symm⟩
  | cons q p ih =>
    intro s x u h
    cases q <;> cases s <;> try (cases h; done)
    · exact ih h
    · exact ih h
    · exact ih h
theorem wrap_sc {p : List Sel} {s t : Ty} {x : s.den} {u : PV} (h : getp (.sc s x) p = some u) : wrapA t u = u := by
  obtain ⟨s', x', rfl⟩ := getp_sc h; rfl
/-- a load out of a row's element -/
theorem row_load {e t : Ty} {l : List e.den} {i : Nat} {p : List Sel} {pv : PV} {off : Nat} {c : Array Value} {o : Nat} (hrow : Row H e l c o) (hi : i < l.length)
    (ho : e.offOf p = some (off, t)) (hg : getp (.sc e (nth l i e.zero)) p = some pv) :
    o + i * e.size + off + t.size ≤ c.size ∧ RepP φ H B pv (mkV t (seg c (o + i * e.size + off) t.size)) := by
  have hle := offOf_le ho
  have h1 : (i + 1) * e.size ≤ l.length * e.size := Nat.mul_le_mul_right _ hi
  rw [Nat.add_mul] at h1
  have h2 := hrow.1
  refine ⟨by omega, ?_⟩
  have h3 := hrow.2 i _ (lget_nth (d := e.zero) hi)
  have h4 := getp_T (φ := φ) (H := H) (B := B) (pv := .sc e (nth l i e.zero)) (t := e) ⟨rfl, h3⟩ ho hg
  rw [seg_seg _ _ _ _ _ hle] at h4
  have h5 := wrap_P h4
  rwa [wrap_sc hg] at h5
theorem ldo_go {t : Ty} {tid : TypeId} (ht : (fit P t).1 tid) {g : Nat → PV} {a v : PV} {va : Value} (h : (loadP t a).go g B = some (v, B')) (hm : Mem K w0 φ M B w)
    (hr : RepP φ (view w M) B a va) : B' = B ∧ ∃ r, (Instr.loadAt tid va).run P w = .ok r w ∧ RepP φ (view w M) B v r := by
  have key : ∀ {b o : Nat} {c : Array Value} {el : TypeId} {fz : Nat × Nat} {q : Nat}, w.heap[b]? = some (.cells c el fz) → q + t.size ≤ c.size →
      (Instr.loadAt tid (.pointer (some ⟨b, q, none⟩))).run P w = .ok (mkV t (seg c q t.size)) w := by
    intro b o c el fz q hb hq
    simp [Instr.loadAt, Instr.sureAddr, run_loadVar' ht hb hq]
  cases a with
  | ptr id p =>
    simp only [loadP, PM.go] at h
    have hb := hm.blks id
    have hs : RepS φ (view w M) B (.ptr id p) va := hr
    simp only [RepS] at hs
    generalize hB : B id = bl at h hb hs
    cases bl <;> try (cases h; done)
    rename_i rt u
    obtain ⟨b, o, n, off, t', h1, h2, rfl⟩ := hs
    obtain ⟨b', o', c, el, fz, g1, g2, g3, g4, g5, g6⟩ := hb
    rw [h1] at g1
    cases g1
    simp only [offOf_at h2] at h
    cases hgp : getp u p with
    | none => rw [hgp] at h; cases h
    | some pv =>
      simp only [hgp] at h
      cases hti : Ty.is t' t with
      | false => rw [hti] at h; cases h
      | true =>
        rw [hti] at h
        simp only [cond, PM.go, Option.some.injEq, Prod.mk.injEq] at h
        obtain ⟨rfl, rfl⟩ := h
        have := is_eq hti
        subst this
        have hle := offOf_le h2
        refine ⟨rfl, _, key (o := 0) g2 (by omega), ?_⟩
        have h4 := getp_T g4 h2 hgp
        rw [seg_seg _ _ _ _ _ hle] at h4
        exact wrap_P h4
  | ipt e l i p =>
    have hs : RepS φ (view w M) B (.ipt e l i p) va := hr
    obtain ⟨hi, b, o, cap, off, t', h1, h2, rfl⟩ := hs
    simp only [loadP, offOf_at h2] at h
    cases hgp : getp (.sc e (nth l i e.zero)) p with
    | none => rw [hgp] at h; cases h
    | some pv =>
      simp only [hgp] at h
      cases hti : Ty.is t' t with
      | false => rw [hti] at h; cases h
      | true =>
        rw [hti] at h
        simp only [cond, PM.go, Option.some.injEq, Prod.mk.injEq] at h
        obtain ⟨rfl, rfl⟩ := h
        have := is_eq hti
        subst this
        obtain ⟨a', cap', q1, q2, q3, q4⟩ := RepC.sl_iff.1 h1
        simp only [List.cons.injEq, Value.slice.injEq, and_true] at q1
        rcases q4 with q4 | ⟨b', o', c, el, fz, p1, p2, p3, p4⟩
        · subst q4; cases hi
        · rw [← q1.1] at p1
          cases p1
          obtain ⟨r1, r2⟩ := row_load (φ := φ) (B := B) (H := view w M) ⟨p3, p4⟩ hi h2 hgp
          exact ⟨rfl, _, key (o := 0) (view_some.1 p2).2 r1, r2⟩
  | opt id i p =>
    simp only [loadP, PM.go] at h
    have hb := hm.blks id
    have hs : RepS φ (view w M) B (.opt id i p) va := hr
    simp only [RepS] at hs
    generalize hB : B id = bl at h hb hs
    cases bl <;> try (cases h; done)
    · rename_i e l
      obtain ⟨hi, b, o, n, off, t', h1, h2, rfl⟩ := hs
      rcases hb.2 with ⟨g1, _⟩ | ⟨b', o', c, el, fz, g1, g2, g3, _⟩
      · rw [g1] at h1; cases h1
      · rw [h1] at g1
        cases g1
        simp only [offOf_at h2] at h
        cases hgp : getp (.sc e (nth l i e.zero)) p with
        | none => rw [hgp] at h; cases h
        | some pv =>
          simp only [hgp] at h
          cases hti : Ty.is t' t with
          | false => rw [hti] at h; cases h
          | true =>
            rw [hti] at h
            simp only [cond, PM.go, Option.some.injEq, Prod.mk.injEq] at h
            obtain ⟨rfl, rfl⟩ := h
            have := is_eq hti
            subst this
            obtain ⟨r1, r2⟩ := row_load (φ := φ) (B := B) (H := view w M) g3 hi h2 hgp
            exact ⟨rfl, _, key (o := 0) g2 r1, r2⟩
    · rename_i e l
      obtain ⟨hi, b, o, n, off, t', h1, h2, rfl⟩ := hs
      rcases hb.2 with ⟨g1, _⟩ | ⟨b', o', c, el, fz, g1, g2, g3⟩
      · rw [g1] at h1; cases h1
      · rw [h1] at g1
        cases g1
        simp only [offOf_at h2] at h
        cases hgp : getp (.sc e (nth l i e.zero)) p with
        | none => rw [hgp] at h; cases h
        | some pv =>
          simp only [hgp] at h
          cases hti : Ty.is t' t with
          | false => rw [hti] at h; cases h
          | true =>
            rw [hti] at h
            simp only [cond, PM.go, Option.some.injEq, Prod.mk.injEq] at h
            obtain ⟨rfl, rfl⟩ := h
            have := is_eq hti
            subst this
            obtain ⟨r1, r2⟩ := row_load (φ := φ) (B := B) (H := view w M) g3 hi h2 hgp
            exact ⟨rfl, _, key (o := 0) (view_some.1 g2).2 r1, r2⟩
  | _ => cases h
end
end Yp
