/- The engine, part L: stores. -/
import Derived.Test.YtkmimlgogeeooaaYpK
set_option linter.unusedVariables false
set_option linter.unusedSimpArgs false
namespace Yp
open Go
variable {P : Program}

/-- a world with another thing in one block -/
structure Put1 (w w' : World) (b : Nat) (ob : Obj) : Prop where
  os : w'.os = w.os
  tape : w'.tape = w.tape
  output : w'.output = w.output
  size : w'.heap.size = w.heap.size
  here : w'.heap[b]? = some ob
  other : ∀ j, j ≠ b → w'.heap[j]? = w.heap[j]?
def splice (cs : List Value) (o : Nat) (vs : List Value) : List Value := cs.take o ++ vs ++ cs.drop (o + vs.length)
theorem splice_length {cs : List Value} {o : Nat} {vs : List Value} (h : o + vs.length ≤ cs.length) : (splice cs o vs).length = cs.length := by
  simp [splice]; omega
theorem splice_get {cs : List Value} {o : Nat} {vs : List Value} (h : o + vs.length ≤ cs.length) (i : Nat) :
    (splice cs o vs)[i]? = if i < o then cs[i]? else if i < o + vs.length then vs[i - o]? else cs[i]? := by
  unfold splice
  rw [List.append_assoc, List.getElem?_append]
  have hl : (cs.take o).length = o := by simp; omega
  rw [hl]
  split
  · rename_i h1; simp [h1]
  · rename_i h1
    rw [List.getElem?_append]
    split
    · rename_i h2; rw [if_pos (by omega)]
    · rename_i h2
      rw [if_neg (by omega), List.getElem?_drop]
      congr 1; omega
theorem run_storeCells' {b : Nat} {el : TypeId} {fz : Nat × Nat} {o : Nat} : ∀ (vs : List Value) (i : Nat) (c : Array Value) (w : World), w.heap[b]? = some (.cells c el fz) → okFz c fz →
    o + i + vs.length ≤ c.size → (∀ v ∈ vs, v.oneCell' = true) →
    ∃ w', (storeCells ⟨b, o, none⟩ vs i).run P w = .ok () w' ∧ ∃ c' : Array Value, Put1 w w' b (.cells c' el fz) ∧ c'.toList = splice c.toList (o + i) vs
  | [], i, c, w, hb, _, _, _ => ⟨w, rfl, c, ⟨rfl, rfl, rfl, rfl, hb, fun _ _ => rfl⟩, by simp [splice]⟩
  | v :: vs, i, c, w, hb, hf, hn, h1 => by
    have hlt : o + i < c.size := by simp at hn; omega
    have hcell : w.cell? ⟨b, o + i, none⟩ = some c[o + i] := by rw [cell_of hb]; exact Array.getElem?_eq_getElem hlt
    have hfz : w.frozen? ⟨b, o + i, none⟩ = false := by
      have := hf (o + i) hlt
      simp only [World.frozen?, hb]
      simp; omega
    have hset : (w.setCell ⟨b, o + i, none⟩ v).heap[b]? = some (.cells (c.setIfInBounds (o + i) v) el fz) := by
      simp [World.setCell, Array.getElem?_modify, hb]
    have hst : (store ((⟨b, o, none⟩ : Addr).add i) v).run P w = .ok () (w.setCell ⟨b, o + i, none⟩ v) := by
      rw [add_none, run_store P w _ v _ (h1 v (by simp)), hcell, hfz]; rfl
    obtain ⟨w', h2, c', h3, h4⟩ := run_storeCells' (o := o) vs (i + 1) (c.setIfInBounds (o + i) v) (w.setCell ⟨b, o + i, none⟩ v) hset
      (fun j hj => hf j (by simpa using hj)) (by simp at hn ⊢; omega) (fun u hu => h1 u (by simp [hu]))
    refine ⟨w', ?_, c', ?_, ?_⟩
    · unfold storeCells
      simp [hst, h2]
    · refine ⟨h3.os, h3.tape, h3.output, h3.size.trans (by simp [World.setCell]), h3.here, fun j hj => (h3.other j hj).trans ?_⟩
      simp [World.setCell, Array.getElem?_modify, Ne.symm hj]
    · rw [h4]
      have hn' : o + i + (v :: vs).length ≤ c.toList.length := by simpa using hn
      apply List.ext_getElem?
      intro j
      rw [splice_get (by simp at hn ⊢; omega), splice_get hn']
      simp only [Array.toList_setIfInBounds, List.getElem?_set, List.length_cons, Array.length_toList]
      by_cases h5 : j < o + i
      · rw [if_pos (by omega), if_pos h5, if_neg (by omega)]
      · rw [if_neg h5]
        by_cases h6 : j = o + i
        · subst h6
          simp [hlt]
        · by_cases h7 : j < o + i + (vs.length + 1)
          · rw [if_neg (by omega), if_pos (by omega), if_pos h7]
            rw [show j - (o + i) = (j - (o + (i + 1))) + 1 by omega, List.getElem?_cons_succ]
          · rw [if_neg (by omega), if_neg (by omega), if_neg h7, if_neg (by omega)]
theorem splice_left {c1 c2 : List Value} {o : Nat} {vs : List Value} (h : o + vs.length ≤ c1.length) : splice (c1 ++ c2) o vs = splice c1 o vs ++ c2 := by
  unfold splice
  rw [List.take_append_of_le_length (by omega), List.drop_append_of_le_length (by omega)]
  simp
theorem splice_right {c1 c2 : List Value} {o : Nat} {vs : List Value} : splice (c1 ++ c2) (c1.length + o) vs = c1 ++ splice c2 o vs := by
  unfold splice
  rw [List.take_append, List.drop_append, List.take_of_length_le (by omega), List.drop_of_length_le (by omega)]
  simp [Nat.add_assoc, Nat.add_sub_cancel_left]
theorem splice_nil {cs : List Value} {o : Nat} : splice cs o [] = cs := by simp [splice]
theorem splice_all {cs vs : List Value} (h : vs.length = cs.length) : splice cs 0 vs = vs := by simp [splice, h]
/-- a piece of a spliced row that is not touched, or that holds what is new -/
theorem splice_away {cs vs : List Value} {o a n : Nat} (h : o + vs.length ≤ cs.length) (hd : a + n ≤ o ∨ o + vs.length ≤ a) : ((splice cs o vs).drop a).take n = (cs.drop a).take n := by
  apply List.ext_getElem?
  intro j
  simp only [List.getElem?_take, List.getElem?_drop]
  split
  · rename_i hj
    rw [splice_get h]
    split
    · rfl
    · split
      · omega
      · rfl
  · rfl
theorem splice_in {cs vs : List Value} {o a n : Nat} (h : a + o + vs.length ≤ cs.length) (hd : o + vs.length ≤ n) : ((splice cs (a + o) vs).drop a).take n = splice ((cs.drop a).take n) o vs := by
  apply List.ext_getElem?
  intro j
  have hl : o + vs.length ≤ ((cs.drop a).take n).length := by simp; omega
  rw [splice_get hl]
  simp only [List.getElem?_take, List.getElem?_drop]
  rw [splice_get h]
  by_cases hj : j < n
  · rw [if_pos hj]
    by_cases h1 : j < o
    · rw [if_pos (by omega), if_pos h1, if_pos hj]
    · rw [if_neg (by omega), if_neg h1]
      by_cases h2 : j < o + vs.length
      · rw [if_pos (by omega), if_pos h2]
        congr 1; omega
      · rw [if_neg (by omega), if_neg h2, if_pos hj]
  · rw [if_neg hj, if_neg (by omega), if_neg (by omega), if_neg hj]
section
variable {φ : Pl} {H : View} {B : Nat → Blk}
theorem toD_sc {s t : Ty} {x : s.den} {y : t.den} (h : toD t (.sc s x) = some y) : ∃ e : s = t, e ▸ x = y := cast_some h
theorem lget_upd_same {α : Type} {l : List α} {i : Nat} {x : α} (h : i < l.length) : lget (upd l i x) i = some x := by simp [lget, upd, h]
theorem lget_upd_ne {α : Type} {l : List α} {i j : Nat} {x : α} (h : j ≠ i) : lget (upd l i x) j = lget l j := by simp [lget, upd, List.getElem?_set, Ne.symm h]
/-- a part of a variable replaced -/
theorem setp_T : ∀ {p : List Sel} {pv u pv' : PV} {t t' : Ty} {off : Nat} {cs cu : List Value}, RepT φ H B pv t cs → t.offOf p = some (off, t') → setp pv p u = some pv' → RepT φ H B u t' cu →
    RepT φ H B pv' t (splice cs off cu) := by
  intro p
  induction p with
  | nil =>
    intro pv u pv' t t' off cs cu h ho hs hu
    have : t = t' ∧ off = 0 := by cases t <;> simp only [Ty.offOf, Option.some.injEq, Prod.mk.injEq] at ho <;> exact ⟨ho.2, ho.1.symm⟩
    obtain ⟨rfl, rfl⟩ := this
    have : u = pv' := by cases pv <;> simp only [setp, Option.some.injEq] at hs <;> exact hs
    subst this
    rw [splice_all (by rw [hu.length, h.length])]
    exact hu
  | cons s p ih =>
    intro pv u pv' t t' off cs cu h ho hs hu
    cases s with
    | fst =>
      cases t <;> try (cases ho; done)
      rename_i a b
      have hle := offOf_le (t := a) ho
      cases pv <;> try (cases hs; done)
      · rename_i s x
        obtain ⟨hst, hx⟩ := h
        subst hst
        obtain ⟨c1, c2, rfl, h1, h2⟩ := RepC.pair_iff.1 hx
        simp only [setp, Option.map_eq_some_iff] at hs
        obtain ⟨q, hq, rfl⟩ := hs
        rw [splice_left (by rw [hu.length, h1.length]; exact hle)]
        exact ⟨_, _, rfl, ih (pv := .sc a x.1) (t := a) ⟨rfl, h1⟩ ho hq hu, rfl, h2⟩
      · rename_i v1 v2
        obtain ⟨c1, c2, rfl, h1, h2⟩ := h
        simp only [setp, Option.map_eq_some_iff] at hs
        obtain ⟨q, hq, rfl⟩ := hs
        rw [splice_left (by rw [hu.length, h1.length]; exact hle)]
        exact ⟨_, _, rfl, ih h1 ho hq hu, h2⟩
    | snd =>
      cases t <;> try (cases ho; done)
      rename_i a b
      simp only [Ty.offOf, Option.map_eq_some_iff] at ho
      obtain ⟨r, hr, he⟩ := ho
      cases he
      cases pv <;> try (cases hs; done)
      · rename_i s x
        obtain ⟨hst, hx⟩ := h
        subst hst
        obtain ⟨c1, c2, rfl, h1, h2⟩ := RepC.pair_iff.1 hx
        simp only [setp, Option.map_eq_some_iff] at hs
        obtain ⟨q, hq, rfl⟩ := hs
        rw [← h1.length, splice_right]
        exact ⟨_, _, rfl, ⟨rfl, h1⟩, ih (pv := .sc b x.2) (t := b) ⟨rfl, h2⟩ hr hq hu⟩
      · rename_i v1 v2
        obtain ⟨c1, c2, rfl, h1, h2⟩ := h
        simp only [setp, Option.map_eq_some_iff] at hs
        obtain ⟨q, hq, rfl⟩ := hs
        rw [← h1.length, splice_right]
        exact ⟨_, _, rfl, h1, ih h2 hr hq hu⟩
    | ix i =>
      cases t <;> try (cases ho; done)
      rename_i n e
      simp only [Ty.offOf] at ho
      split at ho
      · rename_i hi
        simp only [Option.map_eq_some_iff] at ho
        obtain ⟨r, hr, he⟩ := ho
        cases he
        have hle := offOf_le (t := e) (off := r.1) (t' := r.2) hr
        cases pv <;> try (cases hs; done)
        rename_i s x
        obtain ⟨hst, hx⟩ := h
        subst hst
        obtain ⟨h1, h2, h3⟩ := RepC.ar_iff'.1 hx
        have h1 : (x : List e.den).length = n := h1
        simp only [setp] at hs
        generalize hq : setp (.sc e (nth (x : List e.den) i e.zero)) p u = q at hs
        cases q with
        | none => cases hs
        | some q =>
          simp only [Option.map_eq_some_iff] at hs
          obtain ⟨y, hy, rfl⟩ := hs
          have hlt : i < (x : List e.den).length := by omega
          have hul := hu.length
          have hmul : (i + 1) * e.size ≤ n * e.size := Nat.mul_le_mul_right _ hi
          rw [Nat.add_mul] at hmul
          have hfit : i * e.size + r.1 + cu.length ≤ cs.length := by omega
          have h4 := ih (pv := .sc e (nth (x : List e.den) i e.zero)) (t := e) ⟨rfl, h3 i _ (lget_nth hlt)⟩ hr hq hu
          have h5 := toD_T hy h4
          refine ⟨rfl, (RepC.ar_iff (l := upd (x : List e.den) i y)).2 ⟨(List.length_set (as := (x : List e.den))).trans h1, by rw [splice_length hfit, h2], fun j z hj => ?_⟩⟩
          by_cases hji : j = i
          · subst hji
            rw [lget_upd_same hlt] at hj
            cases hj
            rw [splice_in hfit (by omega)]
            exact h5
          · have hj : lget (x : List e.den) j = some z := (lget_upd_ne (l := (x : List e.den)) hji).symm.trans hj
            rw [splice_away hfit]
            · exact h3 j z hj
            · rcases Nat.lt_or_gt_of_ne hji with h | h
              · have := Nat.mul_le_mul_right e.size (show j + 1 ≤ i from h)
                rw [Nat.add_mul] at this; left; omega
              · have := Nat.mul_le_mul_right e.size (show i + 1 ≤ j from h)
                rw [Nat.add_mul] at this; right; omega
      · cases ho
end
end Yp
