/- The engine, part U: literals of structs, arrays, slices. -/
import Derived.Test.YtkmimlgogeeooaaYpT
set_option linter.unusedVariables false
set_option linter.unusedSimpArgs false
namespace Yp
open Go
variable {P : Program}
def PsRep (φ : Pl) (H : View) (B : Nat → Blk) : List (Nat × PV) → List (Nat × Value) → Prop
  | [], [] => True
  | p :: ps, v :: vs => p.1 = v.1 ∧ RepP φ H B p.2 v.2 ∧ PsRep φ H B ps vs
  | _, _ => False
section
variable {K : Kp} {w0 w : World} {φ : Pl} {M : Nat → Prop} {B B' : Nat → Blk} {g : Nat → PV} {H : View}
theorem PsRep.ext {φ' : Pl} {M' : Nat → Prop} {w' : World} (he : Ext φ M B w φ' M' B' w') : ∀ {ps : List (Nat × PV)} {vs : List (Nat × Value)}, PsRep φ (view w M) B ps vs → PsRep φ' (view w' M') B' ps vs
  | [], [], _ => trivial
  | _ :: _, _ :: _, h => ⟨h.1, he.p h.2.1, PsRep.ext he h.2.2⟩
  | [], _ :: _, h => h.elim
  | _ :: _, [], h => h.elim
theorem partsP_go {a : Act} (hs : Slots φ H B g a) : ∀ {l : List (Nat × Operand)} {B' : Nat → Blk} {ps : List (Nat × PV)}, (partsP l).go g B = some (ps, B') → B' = B ∧ PsRep φ H B ps (l.map fun p => (p.1, a.eval p.2))
  | [], B', ps, h => by cases h; exact ⟨rfl, trivial⟩
  | p :: l, B', ps, h => by
    have h : (((opd p.2).bind fun v => .ret (p.1, v)).bind fun b => (partsP l).bind fun bs => .ret (b :: bs)).go g B = some (ps, B') := h
    obtain ⟨b, B1, h1, h2⟩ := PM.go_bind_some h
    obtain ⟨v, B2, h3, h4⟩ := PM.go_bind_some h1
    cases h4
    obtain ⟨hB2, hv⟩ := opd_go h3 hs
    obtain ⟨bs, B3, h5, h6⟩ := PM.go_bind_some h2
    cases h6
    rw [hB2] at h5
    obtain ⟨hB, hp⟩ := partsP_go hs h5
    exact ⟨hB, rfl, hv, hp⟩
/-- the cells of one part laid in -/
theorem lay_list (off : Nat) : ∀ (vs : List Value) (k : Nat) (cs : Array Value), off + k + vs.length ≤ cs.size →
    ((vs.zipIdx k).foldl (fun cs (p : Value × Nat) => cs.setIfInBounds (off + p.2) p.1) cs).toList = splice cs.toList (off + k) vs
  | [], k, cs, h => by simp [splice]
  | v :: vs, k, cs, h => by
    simp only [List.zipIdx_cons, List.foldl_cons]
    simp only [List.length_cons] at h
    have hlen : off + (k + 1) + vs.length ≤ cs.toList.length := by simp; omega
    have hlen2 : off + k + (v :: vs).length ≤ cs.toList.length := by simp; omega
    rw [lay_list off vs (k + 1) _ (by simp; omega)]
    apply List.ext_getElem?
    intro j
    rw [splice_get (by simp; omega), splice_get hlen2]
    simp only [Array.toList_setIfInBounds, List.getElem?_set, List.length_cons, Array.length_toList]
    by_cases h5 : j < off + k
    · rw [if_pos (by omega), if_pos h5, if_neg (by omega)]
    · rw [if_neg h5]
      by_cases h6 : j = off + k
      · subst h6
        have : off + k < cs.size := by omega
        simp [this]
      · by_cases h7 : j < off + k + (vs.length + 1)
        · rw [if_neg (by omega), if_pos (by omega), if_pos h7]
          rw [show j - (off + k) = (j - (off + (k + 1))) + 1 by omega, List.getElem?_cons_succ]
        · rw [if_neg (by omega), if_neg (by omega), if_neg h7, if_neg (by omega)]
theorem lay_array (off : Nat) (vs cs : Array Value) (h : off + vs.size ≤ cs.size) :
    (vs.zipIdx.foldl (fun cs (p : Value × Nat) => cs.setIfInBounds (off + p.2) p.1) cs).toList = splice cs.toList off vs.toList := by
  have := lay_list off vs.toList 0 cs (by simpa using h)
  rw [← Array.foldl_toList]
  simpa using this
theorem fill_cons {place : Nat → Option (Nat × Nat)} {cs : Array Value} {i : Nat} {v : Value} {rest : List (Nat × Value)} {off size : Nat} (hp : place i = some (off, size)) (hs : v.cells.size = size) (hn : off + size ≤ cs.size) :
    ∃ cs' : Array Value, cs'.toList = splice cs.toList off v.cells.toList ∧ Instr.fill place cs ((i, v) :: rest) = Instr.fill place cs' rest := by
  refine ⟨_, lay_array off v.cells cs (by omega), ?_⟩
  have h1 : ¬ (v.cells.size ≠ size) := by omega
  have h2 : ¬ (off + v.cells.size > cs.size) := by omega
  simp [Instr.fill, hp, hs]
  omega
theorem places_of : ∀ {t : Ty} {l : List Field} {off : Nat}, (fit P t).2 l off → ∃ places, l.mapM (fun f => (P.info? f.type).map fun i => (f.offset, i.size)) = some places ∧
    ∀ i d ft, t.offOf (fieldSel i) = some (d, ft) → places[i]? = some (off + d, ft.size)
  | .bool, _, _, h => h.elim | .int _, _, _, h => h.elim | .str, _, _, h => h.elim | .sl _, _, _, h => h.elim | .ar _ _, _, _, h => h.elim
  | .unit, l, off, h => by
    have h : l = [] := h
    subst h
    exact ⟨[], rfl, fun i d ft h => by cases i <;> cases h⟩
  | .pair a b, l, off, h => by
    obtain ⟨f, r, rfl, h1, h2, h3⟩ := h
    obtain ⟨ps, g1, g2⟩ := places_of h3
    obtain ⟨i, k1, k2, _⟩ := fit_info h2
    refine ⟨(off, a.size) :: ps, by simp [List.mapM_cons, g1, k1, k2, h1], fun j d ft h => ?_⟩
    cases j with
    | zero =>
      simp only [fieldSel, Ty.offOf] at h
      have : (0, a) = (d, ft) := Option.some.inj h
      cases this
      rfl
    | succ j =>
      simp only [fieldSel, Ty.offOf, Option.map_eq_some_iff] at h
      obtain ⟨q, hq, he⟩ := h
      cases he
      have := g2 j q.1 q.2 hq
      simp only [List.getElem?_cons_succ, this]
      congr 2; omega
theorem build_fill {t : Ty} {place : Nat → Option (Nat × Nat)} (hpl : ∀ i d ft, t.offOf (fieldSel i) = some (d, ft) → place i = some (d, ft.size)) :
    ∀ {ps : List (Nat × PV)} {vs : List (Nat × Value)} {v v' : PV} {cs : Array Value}, (fitParts t ps).go g B = some ((), B') → setParts t v ps = some v' → PsRep φ H B ps vs → RepT φ H B v t cs.toList →
    B' = B ∧ ∃ cs', Instr.fill place cs vs = some cs' ∧ RepT φ H B v' t cs'.toList
  | [], [], v, v', cs, h1, h2, h3, h4 => by
    cases h1; cases h2
    exact ⟨rfl, cs, rfl, h4⟩
  | [], _ :: _, v, v', cs, h1, h2, h3, h4 => h3.elim
  | _ :: _, [], v, v', cs, h1, h2, h3, h4 => h3.elim
  | (i, u) :: ps, (j, x) :: vs, v, v', cs, h1, h2, h3, h4 => by
    obtain ⟨hij, hx, h3⟩ := h3
    have hij : i = j := hij
    subst hij
    simp only [fitParts] at h1
    simp only [setParts] at h2
    cases hat : t.at (fieldSel i) with
    | none => rw [hat] at h1; cases h1
    | some ft =>
      rw [hat] at h1
      simp only at h1
      obtain ⟨_, B1, h5, h6⟩ := PM.go_bind_some h1
      clear h1
      obtain ⟨hB1, cu, hcu, hT⟩ := fits_T h5 hx
      rw [hB1] at h6
      obtain ⟨d, ho⟩ := at_off_field hat
      cases hs : setp v (fieldSel i) (stripA u) with
      | none => rw [hs] at h2; cases h2
      | some v1 =>
        rw [hs] at h2
        have hl := hT.length
        have hle := offOf_le ho
        have hsz : x.cells.size = ft.size := by rw [← hl, ← hcu]; simp
        have hcs := h4.length
        obtain ⟨cs1, e1, e2⟩ := fill_cons (rest := vs) (hpl i d ft ho) hsz (cs := cs) (by simp at hcs; omega)
        have hT1 := setp_T h4 ho hs hT
        rw [← hcu, ← e1] at hT1
        obtain ⟨hB, cs2, e3, e4⟩ := build_fill hpl h6 h2 h3 hT1
        exact ⟨hB, cs2, by rw [e2]; exact e3, e4⟩
theorem build_st_go {t : Ty} (hst : isSt t = true) {tid : TypeId} (ht : (fit P t).1 tid) {ps : List (Nat × PV)} {parts : Array (Nat × Value)} {r : PV}
    (h : ((fitParts t ps).bind fun _ => (PM.opt (setParts t (zeroPV t) ps)).bind fun v => .ret (wrapA t v)).go g B = some (r, B')) (hps : PsRep φ H B ps parts.toList) (w : World) :
    B' = B ∧ ∃ v, (Instr.build tid parts).run P w = .ok v w ∧ RepP φ H B r v := by
  obtain ⟨_, B1, h1, h2⟩ := PM.go_bind_some h
  obtain ⟨v, B2, h3, h4⟩ := PM.go_bind_some h2
  obtain ⟨h5, rfl⟩ := opt_go h3
  cases h4
  have hag : t.isAgg = true := by cases t <;> first | rfl | cases hst
  obtain ⟨fs, hu, hf2⟩ : ∃ fs, P.underlying tid = some (.struct fs) ∧ (fit P t).2 fs.toList 0 := by
    cases t <;> try (cases hst; done)
    · obtain ⟨⟨fs, hu, he⟩, _⟩ := ht; exact ⟨fs, hu, he⟩
    · obtain ⟨⟨fs, hu, f, q, e1, e2, e3, e4⟩, _⟩ := ht; exact ⟨fs, hu, f, q, e1, e2, e3, by simpa using e4⟩
  obtain ⟨places, p1, p2⟩ := places_of hf2
  obtain ⟨i, k1, k2, _, k4⟩ := fit_info ht
  have hz' : RepT φ H B (zeroPV t) t (zcells t).toArray.toList := zeroPV_T t
  obtain ⟨hB, cs', e1, e2⟩ := build_fill (g := g) (B' := B') (place := (places.toArray[·]?)) (fun i d ft ho => by have := p2 i d ft ho; simpa using this) h1 h5 hps hz'
  refine ⟨hB, .agg cs', run_build w tid parts cs' ?_, ?_⟩
  · have hzc : ((mkV t (zcells t))).cells = (zcells t).toArray := zcells_mkV t
    simp only [Program.built, k1, hu, k4, p1, hzc]
    exact e1
  · have := wrap_P e2
    simp only [mkV, hag, if_true] at this
    simpa using this
/-- elements laid in -/
theorem setAll_length {α : Type} : ∀ (xs : List (Nat × α)) (l : List α), (setAll l xs).length = l.length
  | [], l => rfl
  | (i, x) :: xs, l => by simp only [setAll]; rw [setAll_length xs]; simp
theorem Els.set {e : Ty} {l : List e.den} {cs : List Value} (h : Els H e l cs) {i : Nat} (hi : i < l.length) {x : e.den} {cu : List Value} (hx : RepC H e x cu) : Els H e (l.set i x) (splice cs (i * e.size) cu) := by
  have hl := hx.length
  have hm := mul_le (s := e.size) hi
  have hfit : i * e.size + cu.length ≤ cs.length := by rw [h.1, hl]; exact hm
  refine ⟨by rw [splice_length hfit, h.1, List.length_set], fun j y hj => ?_⟩
  by_cases hji : j = i
  · subst hji
    have := lget_upd_same (x := x) hi
    simp only [upd] at this
    rw [this] at hj; cases hj
    have := splice_in (a := j * e.size) (o := 0) (n := e.size) (cs := cs) (vs := cu) (by simpa using hfit) (by omega)
    simp only [Nat.add_zero] at this
    rw [this, splice_all]
    · exact hx
    · rw [List.length_take, List.length_drop]; omega
  · have := lget_upd_ne (l := l) (x := x) hji
    simp only [upd] at this
    rw [this] at hj
    rw [splice_away hfit]
    · exact h.2 j y hj
    · rcases Nat.lt_or_gt_of_ne hji with h | h
      · have := mul_le (s := e.size) h; left; omega
      · have := mul_le (s := e.size) h; right; omega
/-- the parts as data, and their cells -/
def XsRep (H : View) (e : Ty) : List (Nat × e.den) → List (Nat × Value) → Prop
  | [], [] => True
  | p :: ps, v :: vs => p.1 = v.1 ∧ RepC H e p.2 v.2.cells.toList ∧ XsRep H e ps vs
  | _, _ => False
theorem XsRep.mono {H' : View} (hl : H.Le H') {e : Ty} : ∀ {xs : List (Nat × e.den)} {vs : List (Nat × Value)}, XsRep H e xs vs → XsRep H' e xs vs
  | [], [], _ => trivial
  | _ :: _, _ :: _, h => ⟨h.1, h.2.1.mono hl, XsRep.mono hl h.2.2⟩
  | [], _ :: _, h => h.elim
  | _ :: _, [], h => h.elim
theorem toParts_go {e : Ty} : ∀ {ps : List (Nat × PV)} {vs : List (Nat × Value)} {xs : List (Nat × e.den)} {M : Nat → Prop} {B B' : Nat → Blk}, (toParts e ps).go g B = some (xs, B') → Mem K w0 φ M B w → PsRep φ (view w M) B ps vs →
    ∃ M', Mem K w0 φ M' B' w ∧ Ext φ M B w φ M' B' w ∧ XsRep (view w M') e xs vs ∧ xs.map (·.1) = ps.map (·.1)
  | [], [], xs, M, B, B', h, hm, _ => by cases h; exact ⟨M, hm, Ext.refl _ _ _ _, trivial, rfl⟩
  | [], _ :: _, xs, M, B, B', h, hm, hp => hp.elim
  | _ :: _, [], xs, M, B, B', h, hm, hp => hp.elim
  | (i, u) :: ps, (j, v) :: vs, xs, M, B, B', h, hm, hp => by
    obtain ⟨hij, hu, hp⟩ := hp
    have hij : i = j := hij
    subst hij
    simp only [toParts] at h
    obtain ⟨x, B1, h1, h2⟩ := PM.go_bind_some h
    obtain ⟨xs', B2, h3, h4⟩ := PM.go_bind_some h2
    cases h4
    obtain ⟨cs, hv, M1, m1, e1, _, _, f1⟩ := toDM_P h1 hm hu
    obtain ⟨M2, m2, e2, f2, f3⟩ := toParts_go h3 m1 (hp.ext e1)
    refine ⟨M2, m2, e1.trans e2, ⟨rfl, ?_, f2⟩, by simp [f3]⟩
    have hv : v = mkV e cs := hv
    have hC := f1 rfl
    rw [hv, mkV_cells hC]
    exact hC.mono e2.vw
theorem fill_els {e : Ty} {place : Nat → Option (Nat × Nat)} (hpl : ∀ i, place i = some (i * e.size, e.size)) :
    ∀ {xs : List (Nat × e.den)} {vs : List (Nat × Value)} {l : List e.den} {cs : Array Value}, XsRep H e xs vs → (∀ p ∈ xs.map (·.1), p < l.length) → Els H e l cs.toList →
    ∃ cs', Instr.fill place cs vs = some cs' ∧ Els H e (setAll l xs) cs'.toList
  | [], [], l, cs, _, _, h => ⟨cs, rfl, h⟩
  | [], _ :: _, l, cs, hx, _, h => hx.elim
  | _ :: _, [], l, cs, hx, _, h => hx.elim
  | (i, x) :: xs, (j, v) :: vs, l, cs, hx, hi, h => by
    obtain ⟨hij, hC, hx⟩ := hx
    have hij : i = j := hij
    subst hij
    have hlt : i < l.length := hi i (by simp)
    have hl := hC.length
    have hm := mul_le (s := e.size) hlt
    have hsz : v.cells.size = e.size := by simpa using hl
    have hcs := h.1
    obtain ⟨cs1, e1, e2⟩ := fill_cons (rest := vs) (hpl i) hsz (cs := cs) (by simp at hcs; omega)
    have h1 := h.set hlt hC
    rw [← e1] at h1
    obtain ⟨cs2, e3, e4⟩ := fill_els hpl hx (fun p hp => by rw [List.length_set]; exact hi p (by simp at hp ⊢; exact .inr hp)) h1
    exact ⟨cs2, by rw [e2]; exact e3, e4⟩
theorem Els.ar {e : Ty} {l : List e.den} {cs : List Value} {n : Nat} (h : Els H e l cs) (hn : l.length = n) : RepC H (.ar n e) l cs := RepC.ar_iff.2 ⟨hn, by rw [h.1, hn], h.2⟩
theorem build_ar_go {n : Nat} {e : Ty} {tid : TypeId} (ht : (fit P (.ar n e)).1 tid) {ps : List (Nat × PV)} {parts : Array (Nat × Value)} {r : PV}
    (h : ((PM.need (ps.all fun p => Nat.blt p.1 n)).bind fun _ => (toParts e ps).bind fun xs => .ret (.sc (.ar n e) (setAll (List.replicate n e.zero) xs))).go g B = some (r, B')) (hm : Mem K w0 φ M B w) (hps : PsRep φ (view w M) B ps parts.toList) :
    ∃ v, (Instr.build tid parts).run P w = .ok v w ∧ After K w0 φ M B w B' r v w := by
  obtain ⟨_, B1, h1, h2⟩ := PM.go_bind_some h
  obtain ⟨hall, rfl⟩ := need_go h1
  obtain ⟨xs, B2, h3, h4⟩ := PM.go_bind_some h2
  cases h4
  obtain ⟨M2, m2, e2, f2, f3⟩ := toParts_go h3 hm hps
  obtain ⟨i, k1, k2, _, k4⟩ := fit_info ht
  obtain ⟨⟨et, hu, he⟩, _⟩ := ht
  obtain ⟨ie, j1, j2, _, j4⟩ := fit_info he
  have hz := RepC.ar_iff.1 (RepC.zero (view w M2) (.ar n e))
  have hE : Els (view w M2) e (List.replicate n e.zero) (zcells (.ar n e)).toArray.toList := ⟨by simpa using hz.2.1, fun i x hi => by simpa using hz.2.2 i x hi⟩
  have hlt : ∀ p ∈ xs.map (·.1), p < (List.replicate n e.zero).length := fun p hp => by
    rw [f3, List.mem_map] at hp
    obtain ⟨q, hq, rfl⟩ := hp
    have := List.all_eq_true.1 hall q hq
    simpa using this
  obtain ⟨cs', q1, q2⟩ := fill_els (place := fun i => some (i * ie.size, ie.size)) (fun i => by rw [j2]) f2 hlt hE
  have hzc : (mkV (.ar n e) (zcells (.ar n e))).cells = (zcells (.ar n e)).toArray := zcells_mkV _
  refine ⟨.agg cs', run_build w tid parts cs' ?_, φ, M2, m2, e2, cs'.toList, q2.ar (by rw [setAll_length]; simp), by simp [mkV, Ty.isAgg]⟩
  simp only [Program.built, k1, hu, k4, j1, hzc]
  exact q1
theorem buildSlice_go {e : Ty} {tid : TypeId} (ht : (fit P (.sl e)).1 tid) {d n : Nat} {ps : List (Nat × PV)} {parts : Array (Nat × Value)} {r : PV} (h : (buildSliceP d e n ps).go g B = some (r, B')) (hm : Mem K w0 φ M B w)
    (hps : PsRep φ (view w M) B ps parts.toList) : ∃ v w', (Instr.buildSlice tid n parts).run P w = .ok v w' ∧ After K w0 φ M B w B' r v w' := by
  unfold buildSliceP at h
  obtain ⟨_, B1, h1, h2⟩ := PM.go_bind_some h
  obtain ⟨hall, rfl⟩ := need_go h1
  simp only [Bool.and_eq_true, Nat.ble_eq] at hall
  obtain ⟨xs, B2, h3, h4⟩ := PM.go_bind_some h2
  obtain ⟨hpos, hnew, rfl, rfl⟩ := newRow_go h4
  obtain ⟨M2, m2, e2, f2, f3⟩ := toParts_go h3 hm hps
  obtain ⟨⟨et, hu, he⟩, _⟩ := ht
  obtain ⟨ie, j1, j2, _, j4⟩ := fit_info he
  have hzr := zeroes_Row (view w M2) hpos (n := n) (m := n) (Nat.le_refl _)
  have hE0 := hzr.els
  have hsegall : seg (madeCells (zcells e).toArray (n * e.size)) 0 ((rep n e.zero).length * e.size) = (madeCells (zcells e).toArray (n * e.size)).toList := by
    refine seg_all rfl ?_
    simp [size_madeCells, rep]
  rw [hsegall] at hE0
  have hlt : ∀ p ∈ xs.map (·.1), p < (rep n e.zero).length := fun p hp => by
    rw [f3, List.mem_map] at hp
    obtain ⟨q, hq, rfl⟩ := hp
    have := List.all_eq_true.1 hall.1 q hq
    simpa [rep] using this
  obtain ⟨cs', q1, q2⟩ := fill_els (place := fun i => some (i * ie.size, ie.size)) (fun i => by rw [j2]) f2 hlt hE0
  have hlen : (setAll (List.replicate n e.zero) xs).length = n := by rw [setAll_length]; simp
  have hsz : cs'.size = n * e.size := by have := q2.1; rw [setAll_length] at this; simpa [rep] using this
  have hmax : n ≤ maxLen := by
    have : n * 1 ≤ n * e.size := Nat.mul_le_mul_left _ hpos
    unfold maxLen; omega
  refine ⟨.slice (some ⟨w.heap.size, 0, none⟩) n n, w.alloc (.cells cs' et), ?_, ?_⟩
  · have hzc := zcells_mkV e
    have hbig : ¬ (n * ie.size > 2 ^ 24) := by rw [j2]; omega
    have hmk : ∀ z, madeCells z (n * ie.size) = (Array.range (n * ie.size)).map (z[· % z.size]!) := fun _ => rfl
    rw [← j2] at q1
    by_cases h0 : n * ie.size = 0
    · have hmk0 : madeCells (zcells e).toArray (n * ie.size) = #[] := by rw [h0]; simp [madeCells]
      rw [hmk0] at q1
      have hs := run_sizeOf' he w
      rw [j2] at h0 q1
      have hn0 : n = 0 := by rcases Nat.mul_eq_zero.1 h0 with h | h <;> omega
      have hr0 : Array.range (0 * e.size) = #[] := by simp
      rw [hn0]
      simp [Instr.buildSlice, run_underlying hu, hs, q1, Go.newRow, Array.range_zero']
    · have hs := run_sizeOf' he w
      have hzv := run_zeroValue' he w
      rw [j2] at h0 hbig q1
      have hbig' : ¬ (16777216 < n * e.size) := by omega
      simp only [madeCells] at q1
      simp [Instr.buildSlice, run_underlying hu, hs, h0, hbig', hzv, hzc, Go.newRow]
      simp at q1
      rw [q1]
      simp
  · have hrow : Row (view w M2) e (setAll (List.replicate n e.zero) xs) cs' 0 := by
      refine Els.row (by rw [hlen, hsz]; omega) ?_
      rw [seg_all rfl (by rw [hlen]; simpa using hsz)]
      exact q2
    have := row_born (K := K) (w0 := w0) (φ := φ) (M := M2) (B := B2) (w := w) m2 hnew (w' := w.alloc (.cells cs' et)) rfl rfl rfl (by rw [alloc_size]; exact Nat.lt_succ_self _) (alloc_old w _) hpos (l := setAll (List.replicate n e.zero) xs) (alloc_new w _) (okFz_zero _) (view_full w M2) hrow (cap := n) (by rw [hlen]; exact Nat.le_refl _) hmax (by rw [hsz]; exact Nat.le_refl _) (Nat.blt 0 n) (fun h => by rw [hlen]; simpa using Nat.pos_iff_ne_zero.1 (by simpa using h))
    obtain ⟨φ', M', a1, a2, a3⟩ := this
    rw [hlen] at a3
    exact ⟨φ', M', a1, e2.trans a2, a3⟩
end
end Yp
