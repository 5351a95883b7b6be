/- The engine, part M: the operation 'store'. -/
import Derived.Test.YtkmimlgogeeooaaYpL
set_option linter.unusedVariables false
set_option linter.unusedSimpArgs false
namespace Yp
open Go
variable {P : Program}
section
variable {K : Kp} {w0 w : World} {φ : Pl} {M : Nat → Prop} {B B' : Nat → Blk} {g : Nat → PV}
theorem RepOwn.slice {id : Nat} {e : Ty} {off len : Nat} {v : Value} (h : RepOwn φ id e off len v) : ∃ a c, v = .slice a len c := by
  rcases h with ⟨rfl, a, rfl⟩ | ⟨b, o, n, cap, _, rfl, _⟩ <;> exact ⟨_, _, rfl⟩
theorem fits_T {t : Ty} {v : PV} {va : Value} {H : View} (h : (fitsT t v).go g B = some ((), B')) (hr : RepP φ H B v va) : B' = B ∧ ∃ cu, va.cells.toList = cu ∧ RepT φ H B (stripA v) t cu := by
  cases v <;> try (cases h; done)
  case kb b =>
    obtain ⟨hi, hB⟩ := need_go h
    have := is_eq hi; subst this
    simp only [RepP, RepQ, RepS] at hr; subst hr
    exact ⟨hB, [.bool b], rfl, rfl, RepC.bool_iff.2 rfl⟩
  case sc s x =>
    obtain ⟨hi, hB⟩ := need_go h
    have := is_eq hi; subst this
    obtain ⟨cs, h1, rfl⟩ := hr
    exact ⟨hB, cs, by rw [mkV_cells h1], rfl, h1⟩
  case nil =>
    cases t <;> try (cases h; done)
    cases h
    simp only [RepP, RepQ, RepS] at hr; subst hr
    exact ⟨rfl, _, rfl, rfl, _, rfl, rfl, rfl⟩
  case csl e l =>
    obtain ⟨hi, hB⟩ := need_go h
    have := is_eq hi; subst this
    obtain ⟨a, h1, h2⟩ := hr
    exact ⟨hB, [va], by subst h1; rfl, rfl, va, rfl, by subst h1; rfl, a, h1, h2⟩
  case agg s x =>
    obtain ⟨hi, hB⟩ := need_go h
    have := is_eq hi; subst this
    obtain ⟨ha, cs, h1, rfl⟩ := hr
    exact ⟨hB, cs, rfl, h1⟩
  case own id ne =>
    simp only [fitsT, PM.go] at h
    have hr' : RepS φ H B (.own id ne) va := hr
    have hs := hr'
    simp only [RepS] at hs
    generalize hB : B id = bl at h hs
    cases bl <;> try (cases h; done)
    all_goals
      obtain ⟨hi, hB'⟩ := need_go h
      have := is_eq hi; subst this
      obtain ⟨a, c, rfl⟩ := hs.1.slice
      exact ⟨hB', _, rfl, rfl, _, rfl, rfl, hr'⟩
theorem run_storeVar' {t : Ty} {tid : TypeId} (h : (fit P t).1 tid) {b o : Nat} {c : Array Value} {el : TypeId} {fz : Nat × Nat} (hb : w.heap[b]? = some (.cells c el fz)) (hf : okFz c fz)
    {v : Value} {cu : List Value} (hv : v.cells.toList = cu) (hl : cu.length = t.size) (h1 : ∀ v ∈ cu, v.oneCell' = true) (hn : o + t.size ≤ c.size) :
    ∃ w', (storeVar tid ⟨b, o, none⟩ v).run P w = .ok () w' ∧ ∃ c' : Array Value, Put1 w w' b (.cells c' el fz) ∧ c'.toList = splice c.toList o cu := by
  obtain ⟨w', h2, c', h3, h4⟩ := run_storeCells' (P := P) (b := b) (el := el) (fz := fz) (o := o) cu 0 c w hb hf (by omega) h1
  refine ⟨w', ?_, c', h3, by simpa using h4⟩
  unfold storeVar
  have hsz : v.cells.size = t.size := by rw [← hl, ← hv]; simp
  simp [run_sizeOf' h, hsz, hv, h2]
theorem Put1.view_le {w' : World} {b : Nat} {ob : Obj} (h : Put1 w w' b ob) (hM : M b) : (view w M).Le (view w' M) :=
  Yp.view_le fun j o hj ho => ⟨hj, (h.other j fun e => hj (e ▸ hM)).trans ho⟩
theorem seg_list (c : Array Value) (o n : Nat) : seg c o n = (c.toList.drop o).take n := rfl
theorem Row.put {H : View} {e : Ty} {l : List e.den} {c c' : Array Value} {o i off : Nat} {y : e.den} {cu : List Value} (h : Row H e l c o) (hi : i < l.length) (hoff : off + cu.length ≤ e.size)
    (hc : c'.toList = splice c.toList (o + i * e.size + off) cu) (hy : RepC H e y (splice (seg c (o + i * e.size) e.size) off cu)) : c'.size = c.size ∧ Row H e (upd l i y) c' o := by
  have h1 := h.1
  have hmul : (i + 1) * e.size ≤ l.length * e.size := Nat.mul_le_mul_right _ hi
  rw [Nat.add_mul] at hmul
  have hfit : o + i * e.size + off + cu.length ≤ c.toList.length := by simp; omega
  have hsz : c'.size = c.size := by
    have := congrArg List.length hc
    rw [splice_length hfit] at this
    simpa using this
  refine ⟨hsz, by simp only [upd, List.length_set]; omega, fun j z hj => ?_⟩
  by_cases hji : j = i
  · subst hji
    rw [lget_upd_same hi] at hj
    cases hj
    rw [seg_list, hc, splice_in (by omega) hoff]
    exact hy
  · rw [lget_upd_ne hji] at hj
    rw [seg_list, hc, splice_away hfit]
    · exact h.2 j z hj
    · rcases Nat.lt_or_gt_of_ne hji with h | h
      · have := Nat.mul_le_mul_right e.size (show j + 1 ≤ i from h)
        rw [Nat.add_mul] at this; left; omega
      · have := Nat.mul_le_mul_right e.size (show i + 1 ≤ j from h)
        rw [Nat.add_mul] at this; right; omega
theorem store_go {t : Ty} {tid : TypeId} (ht : (fit P t).1 tid) {a v r : PV} {va vv : Value} (h : (storeP t a v).go g B = some (r, B')) (hm : Mem K w0 φ M B w)
    (hra : RepP φ (view w M) B a va) (hrv : RepP φ (view w M) B v vv) :
    r = .undef ∧ ∃ w' M', (Instr.storeAt tid va vv).run P w = .ok () w' ∧ Mem K w0 φ M' B' w' ∧ Ext φ M B w φ M' B' w' := by
  cases a with
  | ptr id p =>
    simp only [storeP, PM.go] at h
    have hb := hm.blks id
    have hs : RepS φ (view w M) B (.ptr id p) va := hra
    simp only [RepS] at hs
    generalize hB : B id = bl at h hb hs
    cases bl <;> try (cases h; done)
    rename_i rt u
    obtain ⟨b, o, n, off, t', h1, h2, rfl⟩ := hs
    obtain ⟨b', o', c, el, fz, g1, g2, g3, g4, g5, g6⟩ := hb
    rw [h1] at g1
    cases g1
    simp only [offOf_at h2] at h
    generalize hgp : setp u p (stripA v) = q at h
    cases q with
    | none => cases h
    | some pv =>
      simp only at h
      cases hti : Ty.is t' t with
      | false => rw [hti] at h; cases h
      | true =>
        rw [hti] at h
        simp only [cond] at h
        have := is_eq hti
        subst this
        obtain ⟨_, B1, hf, h'⟩ := PM.go_bind_some h
        clear h
        obtain ⟨rfl, cu, hcu, hT⟩ := fits_T hf hrv
        cases h'
        have hle := offOf_le h2
        obtain ⟨w', hw, c', hp, hc'⟩ := run_storeVar' (P := P) (w := w) ht (o := o + off) g2 g5 hcu hT.length hT.one (by omega)
        have hTl := hT.length
        have hsz : c'.size = c.size := by
          have := congrArg List.length hc'
          rw [splice_length (by simp; omega)] at this
          simpa using this
        obtain ⟨hm', he'⟩ := hm.put (id := id) (x := (b, o, c.size)) (w' := w') (by rw [hB]; rfl) h1 g6 hp.os hp.tape hp.output hp.size hp.other (.box rt pv) (by rw [hB]; rfl) fun he => by
          refine ⟨b, o, c', el, fz, by rw [h1, hsz], hp.here, by omega, ?_, fun j hj => g5 j (by omega), g6⟩
          have hTT := he.T (setp_T g4 h2 hgp hT)
          rw [seg_list, hc', splice_in (by simp; omega) (by omega), ← seg_list]
          exact hTT
        exact ⟨rfl, w', M, by simp [Instr.storeAt, Instr.sureAddr, hw], hm', he'⟩
  | opt id i p =>
    simp only [storeP] at h
    obtain ⟨x, B1, hx, h⟩ := PM.go_bind_some h
    obtain ⟨cu, rfl, M1, hm1, he1, _, _, hcu⟩ := toDM_P hx hm hrv
    have hcu := hcu rfl
    simp only [PM.go] at h
    have hb := hm1.blks id
    have hs : RepS φ (view w M1) B1 (.opt id i p) va := he1.p hra
    simp only [RepS] at hs
    generalize hB : B1 id = bl at h hb hs
    cases bl <;> try (cases h; done)
    rename_i e l
    obtain ⟨hi, b, o, n, off, t', h1, h2, rfl⟩ := hs
    rcases hb with ⟨hpos, ⟨g1, _⟩ | ⟨b', o', c, el, fz, g1, g2, g3, g4, g5⟩⟩
    · rw [g1] at h1; cases h1
    · rw [h1] at g1
      cases g1
      simp only [offOf_at h2] at h
      cases hti : Ty.is t' t with
      | false => rw [hti] at h; cases h
      | true =>
        rw [hti] at h
        simp only [cond] at h
        have := is_eq hti
        subst this
        generalize hgp : setp (.sc e (nth l i e.zero)) p (.sc t' x) = q at h
        cases q with
        | none => cases h
        | some pv =>
          simp only at h
          generalize hy : toD e pv = y at h
          cases y with
          | none => cases h
          | some y =>
            cases h
            have hle := offOf_le h2
            have hcl := hcu.length
            have g31 := g3.1
            have hmul : (i + 1) * e.size ≤ l.length * e.size := Nat.mul_le_mul_right _ hi
            rw [Nat.add_mul] at hmul
            obtain ⟨w', hw, c', hp, hc'⟩ := run_storeVar' (P := P) (w := w) ht (o := o + i * e.size + off) (v := mkV t' cu) g2 g4 (by rw [mkV_cells hcu]) hcl hcu.one (by omega)
            have hseg := g3.2 i _ (lget_nth (d := e.zero) hi)
            have hT := setp_T (φ := φ) (H := view w M1) (B := B1) (pv := .sc e (nth l i e.zero)) (t := e) ⟨rfl, hseg⟩ h2 hgp (cu := cu) ⟨rfl, hcu⟩
            have hyC := toD_T hy hT
            obtain ⟨hsz, hrow⟩ := g3.put hi (by omega) hc' hyC
            obtain ⟨hm', he'⟩ := hm1.put (id := id) (x := (b, o, c.size)) (w' := w') (by rw [hB]; rfl) h1 g5 hp.os hp.tape hp.output hp.size hp.other (.ob e (upd l i y)) (by rw [hB]; exact ⟨rfl, by simp [upd]⟩) fun he => by
              exact ⟨hpos, .inr ⟨b, o, c', el, fz, by rw [h1, hsz], hp.here, hrow.mono he.vw, fun j hj => g4 j (by omega), g5⟩⟩
            exact ⟨rfl, w', M1, by simp [Instr.storeAt, Instr.sureAddr, hw], hm', he1.trans he'⟩
  | _ => cases h
end
end Yp
