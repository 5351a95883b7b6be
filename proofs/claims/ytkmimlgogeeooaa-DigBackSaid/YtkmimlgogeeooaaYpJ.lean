/- The engine, part J: operations that read memory. -/
import Derived.Test.YtkmimlgogeeooaaYpI
set_option linter.unusedVariables false
set_option linter.unusedSimpArgs false
namespace Yp
open Go
variable {P : Program}

theorem fit_und_int {k : IntKind} {tid : TypeId} (h : (fit P (.int k)).1 tid) : P.underlying tid = some (.int k) := h.1
theorem fit_und {t : Ty} {tid : TypeId} (h : (fit P t).1 tid) : ∃ d, P.underlying tid = some d := by
  cases t with
  | bool => exact ⟨_, h.1⟩ | int k => exact ⟨_, h.1⟩ | str => exact ⟨_, h.1⟩
  | sl e => obtain ⟨⟨et, h, _⟩, _⟩ := h; exact ⟨_, h⟩
  | unit => obtain ⟨⟨et, h, _⟩, _⟩ := h; exact ⟨_, h⟩
  | pair a b => obtain ⟨⟨et, h, _⟩, _⟩ := h; exact ⟨_, h⟩
  | ar n e => obtain ⟨⟨et, h, _⟩, _⟩ := h; exact ⟨_, h⟩
theorem run_convert_int {src dst : TypeId} {k k' : IntKind} {d : TypeDesc} (hs : P.underlying src = some d) (hd : P.underlying dst = some (.int k)) (n : Int) (w : World) :
    (convert src dst (.int k' n)).run P w = .ok (.int k (k.wrap n)) w := by
  unfold convert
  simp [run_underlying hs, run_underlying hd]
  cases d <;> simp [Conv.intToInt]
/-- cells of a row in the heap -/
theorem cell_of {w : World} {b : Nat} {c : Array Value} {el : TypeId} {fz : Nat × Nat} (h : w.heap[b]? = some (.cells c el fz)) (i : Nat) : w.cell? ⟨b, i, none⟩ = c[i]? := by
  simp [World.cell?, h]
theorem add_none (b o n : Nat) : (⟨b, o, none⟩ : Addr).add n = ⟨b, o + n, none⟩ := by
  unfold Addr.add; split
  · rename_i h; subst h; rfl
  · rfl
theorem run_load_seg {w : World} {b o n : Nat} {c : Array Value} {el : TypeId} {fz : Nat × Nat} (h : w.heap[b]? = some (.cells c el fz)) (hn : o + n ≤ c.size) :
    (loadCells ⟨b, o, none⟩ n).run P w = .ok (seg c o n).toArray w := by
  have := run_loadCells_list (P := P) (w := w) ⟨b, o, none⟩ (seg c o n) (fun j v hj => by
    rw [add_none, cell_of h]
    have hlt : j < n := by
      rcases Nat.lt_or_ge j n with h | h
      · exact h
      · have := seg_length hn; rw [List.getElem?_eq_none (by omega)] at hj; cases hj
    rw [seg_get hlt] at hj; exact hj)
  rwa [seg_length hn] at this
theorem run_isAgg {t : Ty} {tid : TypeId} (h : (fit P t).1 tid) (w : World) : (isAgg tid).run P w = .ok t.isAgg w := by
  unfold isAgg
  cases t with
  | bool => simp [run_underlying h.1, Ty.isAgg]
  | int k => simp [run_underlying h.1, Ty.isAgg]
  | str => simp [run_underlying h.1, Ty.isAgg]
  | sl e => obtain ⟨⟨et, h, _⟩, _⟩ := h; simp [run_underlying h, Ty.isAgg]
  | unit => obtain ⟨⟨et, h, _⟩, _⟩ := h; simp [run_underlying h, Ty.isAgg]
  | pair a b => obtain ⟨⟨et, h, _⟩, _⟩ := h; simp [run_underlying h, Ty.isAgg]
  | ar n e => obtain ⟨⟨et, h, _⟩, _⟩ := h; simp [run_underlying h, Ty.isAgg]
theorem run_typeInfo' {t : TypeId} {i : TypeInfo} (h : P.info? t = some i) (w : World) : (typeInfo t).run P w = .ok i w := by
  unfold typeInfo; simp [h]
theorem run_sizeOf' {t : Ty} {tid : TypeId} (h : (fit P t).1 tid) (w : World) : (Go.sizeOf tid).run P w = .ok t.size w := by
  obtain ⟨i, h1, h2, _⟩ := fit_info h
  unfold Go.sizeOf; simp [run_typeInfo' h1, h2]
theorem size_one {t : Ty} (h : t.isAgg = false) : t.size = 1 := by cases t <;> first | rfl | cases h
theorem run_loadVar' {t : Ty} {tid : TypeId} (h : (fit P t).1 tid) {w : World} {b o : Nat} {c : Array Value} {el : TypeId} {fz : Nat × Nat} (hb : w.heap[b]? = some (.cells c el fz)) (hn : o + t.size ≤ c.size) :
    (loadVar tid ⟨b, o, none⟩).run P w = .ok (mkV t (seg c o t.size)) w := by
  unfold loadVar
  cases ha : t.isAgg with
  | true => simp [run_isAgg h, ha, run_sizeOf' h, run_load_seg hb hn, mkV]
  | false =>
    have h1 := size_one ha
    have hlt : o < c.size := by omega
    have hc : w.cell? ⟨b, o, none⟩ = some c[o] := by rw [cell_of hb]; exact Array.getElem?_eq_getElem hlt
    have hs : seg c o 1 = [c[o]] := by
      have hl := seg_length (c := c) (o := o) (n := 1) (by omega)
      have hg := seg_get (c := c) (o := o) (n := 1) (i := 0) (by omega)
      match hsg : seg c o 1, hl, hg with
      | [x], _, hg => simp [hlt] at hg; rw [hg]
    simp [run_isAgg h, ha, load, Sem.run, hc, mkV, h1, hs]
theorem fit_field : ∀ (f : Nat) {t : Ty} {l : List Field} {off d : Nat} {ft : Ty}, (fit P t).2 l off → t.offOf (fieldSel f) = some (d, ft) →
    ∃ fd, l[f]? = some fd ∧ fd.offset = off + d ∧ (fit P ft).1 fd.type := by
  intro f
  induction f with
  | zero =>
    intro t l off d ft h ho
    cases t <;> try (cases ho; done)
    obtain ⟨fd, r, rfl, h1, h2, h3⟩ := h
    simp only [fieldSel, Ty.offOf, Option.some.injEq, Prod.mk.injEq] at ho
    obtain ⟨rfl, rfl⟩ := ho
    exact ⟨fd, rfl, h1, h2⟩
  | succ f ih =>
    intro t l off d ft h ho
    cases t <;> try (cases ho; done)
    rename_i a b
    obtain ⟨fd, r, rfl, h1, h2, h3⟩ := h
    simp only [fieldSel, Ty.offOf] at ho
    cases hb : b.offOf (fieldSel f) with
    | none => rw [hb] at ho; cases ho
    | some q =>
      rw [hb] at ho
      simp only [Option.map_some, Option.some.injEq, Prod.mk.injEq] at ho
      obtain ⟨rfl, rfl⟩ := ho
      obtain ⟨fd', g1, g2, g3⟩ := ih h3 hb
      exact ⟨fd', by simpa using g1, by rw [g2]; omega, g3⟩
theorem fit_struct {t : Ty} {tid : TypeId} {f d : Nat} {ft : Ty} (h : (fit P t).1 tid) (ho : t.offOf (fieldSel f) = some (d, ft)) :
    ∃ fs fd, P.underlying tid = some (.struct fs) ∧ fs[f]? = some fd ∧ fd.offset = d ∧ (fit P ft).1 fd.type := by
  have hp : ∃ a b, t = .pair a b := by
    cases f <;> cases t <;> simp only [fieldSel, Ty.offOf] at ho <;> first | exact ⟨_, _, rfl⟩ | cases ho
  obtain ⟨a, b, rfl⟩ := hp
  obtain ⟨⟨fs, hu, fd, r, h1, h2, h3, h4⟩, _⟩ := h
  have : (fit P (.pair a b)).2 fs.toList 0 := ⟨fd, r, h1, h2, h3, by simpa using h4⟩
  obtain ⟨fd', g1, g2, g3⟩ := fit_field f this ho
  exact ⟨fs, fd', hu, by simpa using g1, by omega, g3⟩
theorem run_fieldAt {t : Ty} {tid : TypeId} {f d : Nat} {ft : Ty} (h : (fit P t).1 tid) (ho : t.offOf (fieldSel f) = some (d, ft)) (hs : 0 < ft.size) (b o : Nat) (w : World) :
    (Instr.fieldAt tid (.pointer (some ⟨b, o, none⟩)) f).run P w = .ok (.pointer (some ⟨b, o + d, none⟩)) w := by
  obtain ⟨fs, fd, h1, h2, h3, h4⟩ := fit_struct h ho
  have hz := run_sizeOf' h4 w
  have hne : ft.size ≠ 0 := by omega
  simp [Instr.fieldAt, run_underlying h1, h2, Instr.sureAddr, fieldPlace, hz, hne, h3, add_none]
theorem offOf_at : ∀ {p : List Sel} {t t' : Ty} {o : Nat}, t.offOf p = some (o, t') → t.at p = some t' := by
  intro p
  induction p with
  | nil => intro t t' o h; cases t <;> simp only [Ty.offOf, Option.some.injEq, Prod.mk.injEq] at h <;> (obtain ⟨_, rfl⟩ := h; rfl)
  | cons s p ih =>
    intro t t' o h
    cases s with
    | fst => cases t <;> try (cases h; done)
             exact ih h
    | snd =>
      cases t <;> try (cases h; done)
      rename_i a b
      simp only [Ty.offOf, Option.map_eq_some_iff] at h
      obtain ⟨q, hq, he⟩ := h
      cases he
      exact ih hq
    | ix i =>
      cases t <;> try (cases h; done)
      rename_i n e
      simp only [Ty.offOf] at h
      split at h
      · simp only [Option.map_eq_some_iff] at h
        obtain ⟨q, hq, he⟩ := h
        cases he
        exact ih hq
      · cases h
theorem offOf_app : ∀ {p q : List Sel} {t t1 t2 : Ty} {o1 o2 : Nat}, t.offOf p = some (o1, t1) → t1.offOf q = some (o2, t2) → t.offOf (p ++ q) = some (o1 + o2, t2) := by
  intro p
  induction p with
  | nil =>
    intro q t t1 t2 o1 o2 h g
    have : t = t1 ∧ o1 = 0 := by cases t <;> simp only [Ty.offOf, Option.some.injEq, Prod.mk.injEq] at h <;> exact ⟨h.2, h.1.symm⟩
    obtain ⟨rfl, rfl⟩ := this
    simpa using g
  | cons s p ih =>
    intro q t t1 t2 o1 o2 h g
    cases s with
    | fst => cases t <;> try (cases h; done)
             exact ih h g
    | snd =>
      cases t <;> try (cases h; done)
      rename_i a b
      simp only [Ty.offOf, Option.map_eq_some_iff] at h
      obtain ⟨r, hr, he⟩ := h
      cases he
      simp only [List.cons_append, Ty.offOf, ih hr g, Option.map_some, Nat.add_assoc]
    | ix i =>
      cases t <;> try (cases h; done)
      rename_i n e
      simp only [Ty.offOf] at h
      split at h
      · rename_i hi
        simp only [Option.map_eq_some_iff] at h
        obtain ⟨r, hr, he⟩ := h
        cases he
        simp only [List.cons_append, Ty.offOf, if_pos hi, ih hr g, Option.map_some, Nat.add_assoc]
      · cases h
section
variable {φ : Pl} {H : View} {B : Nat → Blk}
theorem take_all {α : Type} (cs : List α) (n : Nat) (h : cs.length = n) : (cs.drop 0).take n = cs := by subst h; simp
theorem offOf_le : ∀ {p : List Sel} {t t' : Ty} {off : Nat}, t.offOf p = some (off, t') → off + t'.size ≤ t.size := by
  intro p
  induction p with
  | nil =>
    intro t t' off ho
    have : t = t' ∧ off = 0 := by cases t <;> simp only [Ty.offOf, Option.some.injEq, Prod.mk.injEq] at ho <;> exact ⟨ho.2, ho.1.symm⟩
    obtain ⟨rfl, rfl⟩ := this
    omega
  | cons s p ih =>
    intro t t' off ho
    cases s with
    | fst =>
      cases t <;> try (cases ho; done)
      rename_i a b
      have := ih (t := a) ho
      simp only [Ty.size]; omega
    | snd =>
      cases t <;> try (cases ho; done)
      rename_i a b
      simp only [Ty.offOf, Option.map_eq_some_iff] at ho
      obtain ⟨r, hr, he⟩ := ho
      cases he
      have := ih (t := b) (off := r.1) (t' := r.2) hr
      simp only [Ty.size]; omega
    | ix i =>
      cases t <;> try (cases ho; done)
      rename_i n e
      simp only [Ty.offOf] at ho
      split at ho
      · rename_i hi
        simp only [Option.map_eq_some_iff] at ho
        obtain ⟨r, hr, he⟩ := ho
        cases he
        have := ih (t := e) (off := r.1) (t' := r.2) hr
        have h2 : (i + 1) * e.size ≤ n * e.size := Nat.mul_le_mul_right _ hi
        rw [Nat.add_mul] at h2
        simp only [Ty.size]; omega
      · cases ho
theorem cut_left {α : Type} (c1 c2 : List α) (o n : Nat) (h : o + n ≤ c1.length) : ((c1 ++ c2).drop o).take n = (c1.drop o).take n := by
  rw [List.drop_append_of_le_length (by omega), List.take_append_of_le_length (by rw [List.length_drop]; omega)]
theorem cut_right {α : Type} (c1 c2 : List α) (o n : Nat) : ((c1 ++ c2).drop (c1.length + o)).take n = (c2.drop o).take n := by
  rw [← List.drop_drop, List.drop_left]
theorem cut_cut {α : Type} (cs : List α) (a m o n : Nat) (h : o + n ≤ m) : ((((cs.drop a).take m).drop o).take n) = (cs.drop (a + o)).take n := by
  rw [List.drop_take, List.take_take, List.drop_drop, Nat.min_eq_left (by omega)]
theorem lget_nth {α : Type} {l : List α} {i : Nat} {d : α} (h : i < l.length) : lget l i = some (nth l i d) := by
  simp only [lget, nth, List.getD_eq_getElem?_getD]
  rw [List.getElem?_eq_getElem h]; rfl
theorem getp_T : ∀ {p : List Sel} {pv u : PV} {t t' : Ty} {off : Nat} {cs : List Value}, RepT φ H B pv t cs → t.offOf p = some (off, t') → getp pv p = some u →
    RepT φ H B u t' ((cs.drop off).take t'.size) := by
  intro p
  induction p with
  | nil =>
    intro pv u t t' off cs h ho hg
    have : t = t' ∧ off = 0 := by cases t <;> simp only [Ty.offOf, Option.some.injEq, Prod.mk.injEq] at ho <;> exact ⟨ho.2, ho.1.symm⟩
    obtain ⟨rfl, rfl⟩ := this
    have : u = pv := by cases pv <;> simp only [getp, Option.some.injEq] at hg <;> exact hg.symm
    subst this
    rw [take_all cs _ h.length]
    exact h
  | cons s p ih =>
    intro pv u t t' off cs h ho hg
    cases s with
    | fst =>
      cases t <;> try (cases ho; done)
      rename_i a b
      have hle := offOf_le (t := a) ho
      cases pv <;> try (cases hg; done)
      · rename_i s x
        obtain ⟨hst, hx⟩ := h
        subst hst
        obtain ⟨c1, c2, rfl, h1, h2⟩ := RepC.pair_iff.1 hx
        rw [cut_left _ _ _ _ (by rw [h1.length]; exact hle)]
        exact ih (pv := .sc a x.1) (t := a) ⟨rfl, h1⟩ ho hg
      · rename_i v1 v2
        obtain ⟨c1, c2, rfl, h1, h2⟩ := h
        rw [cut_left _ _ _ _ (by rw [h1.length]; exact hle)]
        exact ih h1 ho hg
    | snd =>
      cases t <;> try (cases ho; done)
      rename_i a b
      simp only [Ty.offOf, Option.map_eq_some_iff] at ho
      obtain ⟨r, hr, he⟩ := ho
      cases he
      cases pv <;> try (cases hg; done)
      · rename_i s x
        obtain ⟨hst, hx⟩ := h
        subst hst
        obtain ⟨c1, c2, rfl, h1, h2⟩ := RepC.pair_iff.1 hx
        rw [← h1.length, cut_right]
        exact ih (pv := .sc b x.2) (t := b) ⟨rfl, h2⟩ hr hg
      · rename_i v1 v2
        obtain ⟨c1, c2, rfl, h1, h2⟩ := h
        rw [← h1.length, cut_right]
        exact ih h2 hr hg
    | ix i =>
      cases t <;> try (cases ho; done)
      rename_i n e
      simp only [Ty.offOf] at ho
      split at ho
      · rename_i hi
        simp only [Option.map_eq_some_iff] at ho
        obtain ⟨r, hr, he⟩ := ho
        cases he
        have hle := offOf_le (t := e) (off := r.1) (t' := r.2) hr
        cases pv <;> try (cases hg; done)
        rename_i s x
        obtain ⟨hst, hx⟩ := h
        subst hst
        obtain ⟨h1, h2, h3⟩ := RepC.ar_iff'.1 hx
        rw [← cut_cut cs (i * e.size) e.size r.1 r.2.size hle]
        refine ih (pv := .sc e (nth (x : List e.den) i e.zero)) (t := e) ⟨rfl, ?_⟩ hr hg
        have hlt : i < (x : List e.den).length := by
          have h4 : (x : List e.den).length = n := h1
          omega
        refine h3 i _ ?_
        exact lget_nth hlt
      · cases ho
end
end Yp
