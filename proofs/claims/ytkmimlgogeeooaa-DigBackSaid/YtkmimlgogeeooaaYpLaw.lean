/- The engine: from a law's contract to its row. -/
import Derived.Test.YtkmimlgogeeooaaYpZ2
import Derived.ProofKit
import Derived.OpenShut
set_option linter.unusedVariables false
set_option linter.unusedSimpArgs false
namespace Yp
open Go Go.ChangeShapes Go.WideShapes Go.ChangeAt Go.RowKit
variable {P : Program} {H : Type} {enc : TypeId × Value → H}
theorem cellsOf_fit {t : Ty} {tid : TypeId} (h : (fit P t).1 tid) : P.cellsOf tid = t.size := by
  obtain ⟨i, h1, h2, _⟩ := fit_info h
  simp [Program.cellsOf, h1, h2]
theorem cells_seg {w : World} {base : Nat} {a : Addr} {n : Nat} {cs : List Value} (h : w.cells? base a n = some cs) (hn : 0 < n) (hs : a.spot = none) :
    ∃ c el fz, w.heap[a.block]? = some (.cells c el fz) ∧ a.off + n ≤ c.size ∧ cs = seg c a.off n := by
  unfold World.cells? at h
  split at h
  · have hlen := mapM_some_length h
    have hget := mapM_some_get h
    simp only [List.length_range] at hlen
    have hadd : ∀ i, a.add i = ⟨a.block, a.off + i, none⟩ := fun i => by
      obtain ⟨b, o, s⟩ := a
      simp only at hs; subst hs
      exact add_none b o i
    have at' : ∀ i, i < n → w.cell? ⟨a.block, a.off + i, none⟩ = cs[i]? := fun i hi => by
      have := hget i i (by simp [hi])
      rw [hadd] at this; exact this
    have h0 := at' 0 hn
    rw [List.getElem?_eq_getElem (by omega)] at h0
    cases hb : w.heap[a.block]? with
    | none => simp [World.cell?, hb] at h0
    | some ob =>
      cases ob with
      | cells c el fz =>
        have hc : ∀ i, i < n → c[a.off + i]? = cs[i]? := fun i hi => by rw [← at' i hi, cell_of hb]
        have hle : a.off + n ≤ c.size := by
          have := hc (n - 1) (by omega)
          rw [List.getElem?_eq_getElem (by omega)] at this
          have := (Array.getElem?_eq_some_iff.1 this).1
          omega
        refine ⟨c, el, fz, rfl, hle, ?_⟩
        apply List.ext_getElem?
        intro i
        by_cases hi : i < n
        · rw [seg_get hi, hc i hi]
        · have hl := seg_length hle
          rw [List.getElem?_eq_none (by omega), List.getElem?_eq_none (by omega)]
      | _ => simp [World.cell?, hb] at h0
  · cases h
theorem list_of {α : Type} {p : Nat → α → Prop} : ∀ (n : Nat), (∀ i, i < n → ∃ x, p i x) → ∃ l : List α, l.length = n ∧ ∀ i x, lget l i = some x → p i x
  | 0, _ => ⟨[], rfl, fun i x h => by simp [lget] at h⟩
  | n + 1, h => by
    obtain ⟨l, h1, h2⟩ := list_of n fun i hi => h i (by omega)
    obtain ⟨x, hx⟩ := h n (by omega)
    refine ⟨l ++ [x], by simp [h1], fun i y hy => ?_⟩
    simp only [lget] at hy
    by_cases hi : i < n
    · rw [List.getElem?_append_left (by omega)] at hy; exact h2 i y hy
    · rw [List.getElem?_append_right (by omega)] at hy
      have : i = n := by
        rcases Nat.lt_or_ge (i - l.length) 1 with h | h
        · omega
        · rw [List.getElem?_eq_none (by simpa using h)] at hy; cases hy
      subst this
      rw [h1] at hy
      simp at hy; rw [← hy]; exact hx
/-- no slice of things without cells -/
def posT : Ty → Bool
  | .sl e => Nat.blt 0 e.size && posT e | .pair a b => posT a && posT b | .ar _ e => posT e | _ => true
/-- the numbers lie in their kinds, and a slice is no longer than a slice can be -/
def okd : (t : Ty) → t.den → Prop
  | .int k, x => k.min ≤ KD.to k x ∧ KD.to k x ≤ k.max
  | .sl e, l => (l : List e.den).length ≤ maxLen ∧ ∀ (i : Nat) (x : e.den), lget (α := e.den) l i = some x → okd e x
  | .ar n e, l => (l : List e.den).length = n ∧ ∀ (i : Nat) (x : e.den), lget (α := e.den) l i = some x → okd e x
  | .pair a b, x => okd a x.1 ∧ okd b x.2
  | .bool, _ => True
  | .str, _ => True
  | .unit, _ => True
def okL : (ts : List Ty) → denL ts → Prop
  | [], _ => True
  | t :: ts, x => okd t x.1 ∧ okL ts x.2
/-- what reads as data holds data -/
theorem trod_C {w : World} {base : Nat} {sp : Nat → Bool} {held : Bool} : ∀ (t : Ty), posT t = true → (∀ (tid : TypeId) (fuel : Nat) (cs : List Value) (x : DataW H × List MemPlace), (fit P t).1 tid → DataW.trod enc P w base sp held fuel tid cs = some x → ∃ d : t.den, RepC (full w) t d cs ∧ okd t d) ∧
    ∀ (l : List Field) (off fuel : Nat) (cs : List Value), (fit P t).2 l off → cs.length = off + t.size → (∀ f ∈ l, ∃ x, DataW.trod enc P w base sp held fuel f.type ((cs.drop f.offset).take (P.cellsOf f.type)) = some x) → ∃ d : t.den, RepC (full w) t d (cs.drop off) ∧ okd t d
  | .bool, _ => by
    refine ⟨fun tid fuel cs x hf h => ?_, fun l off fuel cs hf => hf.elim⟩
    obtain ⟨b, rfl, _⟩ := DataW.trod_bool hf.1 h
    exact ⟨(b : Bool), RepC.bool_iff.2 rfl, trivial⟩
  | .int k, _ => by
    refine ⟨fun tid fuel cs x hf h => ?_, fun l off fuel cs hf => hf.elim⟩
    obtain ⟨n, rfl, _, hw⟩ := DataW.trod_int hf.1 h
    have hb : k.min ≤ n ∧ n ≤ k.max := by simpa [Lit.wf] using hw
    have he : KD.to k (KD.lit k n) = n := KD.lit_in k n fun hu => ⟨by cases k <;> simp_all [uns, IntKind.min, IntKind.signed], hb.2⟩
    refine ⟨KD.lit k n, RepC.int_iff.2 (by rw [he]), ?_⟩
    simp only [okd]
    rw [he]; exact hb
  | .str, _ => by
    refine ⟨fun tid fuel cs x hf h => ?_, fun l off fuel cs hf => hf.elim⟩
    obtain ⟨s, rfl, _⟩ := DataW.trod_string hf.1 h
    exact ⟨(s.data.toList : List UInt8), RepC.str_iff.2 (by simp), trivial⟩
  | .sl e, hp => by
    refine ⟨fun tid fuel cs x hf h => ?_, fun l off fuel cs hf => hf.elim⟩
    obtain ⟨⟨et, hu, he⟩, _⟩ := hf
    simp only [posT, Bool.and_eq_true, Nat.blt_eq] at hp
    rcases DataW.trod_slice hu h with ⟨rfl, _⟩ | ⟨a, len, cap, elems, rest, n, _, rfl, _, h1, h2, h3, h4, h5, _⟩
    · exact ⟨([] : List e.den), RepC.sl_iff.2 ⟨none, 0, rfl, Nat.le_refl _, by unfold maxLen; omega, .inl rfl⟩, Nat.zero_le _, fun i x h => by simp [lget] at h⟩
    · have hcell := cellsOf_fit he
      rw [hcell] at h5
      by_cases hl : len = 0
      · subst hl
        exact ⟨([] : List e.den), RepC.sl_iff.2 ⟨some a, cap, rfl, h2, h3, .inl rfl⟩, Nat.zero_le _, fun i x h => by simp [lget] at h⟩
      · have hsp : a.spot = none := by
          have := h5 0 (by omega)
          rw [List.getElem?_eq_getElem (by omega), Option.bind_eq_some_iff] at this
          obtain ⟨q, hq, _⟩ := this
          unfold World.cells? at hq
          split at hq
          · have hg := mapM_some_get hq 0 0 (by simp [hp.1])
            have hql := mapM_some_length hq
            simp only [List.length_range] at hql
            rw [List.getElem?_eq_getElem (by omega)] at hg
            have ha : ((a.add (0 * e.size)).add 0) = a := by simp [Addr.add]
            rw [ha] at hg
            cases hs : a.spot with
            | none => rfl
            | some s =>
              simp only [World.cell?, hs] at hg
              split at hg <;> simp at hg
          · cases hq
        have hadd : ∀ i, a.add (i * e.size) = ⟨a.block, a.off + i * e.size, none⟩ := fun i => by
          obtain ⟨b, o, s⟩ := a
          simp only at hsp; subst hsp
          exact add_none b o _
        have key : ∀ i, i < len → ∃ x : e.den, ∃ c el fz, w.heap[a.block]? = some (.cells c el fz) ∧ a.off + i * e.size + e.size ≤ c.size ∧ RepC (full w) e x (seg c (a.off + i * e.size) e.size) ∧ okd e x := fun i hi => by
          have := h5 i hi
          rw [List.getElem?_eq_getElem (by omega), Option.bind_eq_some_iff] at this
          obtain ⟨q, hq, hd⟩ := this
          rw [hadd] at hq
          obtain ⟨c, el, fz, g1, g2, rfl⟩ := cells_seg hq hp.1 rfl
          obtain ⟨d, hd⟩ := (trod_C e hp.2).1 et n _ _ he hd
          exact ⟨d, c, el, fz, g1, g2, hd⟩
        obtain ⟨_, c, el, fz, g1, _, _⟩ := key 0 (by omega)
        have key' : ∀ i, i < len → ∃ x : e.den, a.off + i * e.size + e.size ≤ c.size ∧ RepC (full w) e x (seg c (a.off + i * e.size) e.size) ∧ okd e x := fun i hi => by
          obtain ⟨x, c', el', fz', k1, k2, k3⟩ := key i hi
          rw [g1] at k1; cases k1
          exact ⟨x, k2, k3⟩
        obtain ⟨l, l1, l2⟩ := list_of len key'
        have hge : a.off + len * e.size ≤ c.size := by
          obtain ⟨x, k2, _⟩ := key' (len - 1) (by omega)
          have : len * e.size = (len - 1) * e.size + e.size := by
            conv => lhs; rw [show len = (len - 1) + 1 by omega, Nat.add_mul, Nat.one_mul]
          omega
        obtain ⟨b, o, s⟩ := a
        simp only at hsp; subst hsp
        exact ⟨(l : List e.den), RepC.sl_iff.2 ⟨_, cap, by rw [l1], by rw [l1]; exact h2, h3, .inr ⟨b, o, c, el, fz, rfl, g1, by rw [l1]; exact hge, fun i x hi => (l2 i x hi).2.1⟩⟩, by show l.length ≤ _; rw [l1]; omega, fun i x hi => (l2 i x hi).2.2⟩
  | .unit, _ => by
    refine ⟨fun tid fuel cs x hf h => ?_, fun l off fuel cs hf hl _ => ⟨(), RepC.unit_iff.2 (List.length_eq_zero_iff.1 (by rw [List.length_drop, hl]; simp [Ty.size])), trivial⟩⟩
    obtain ⟨⟨fs, hu, hfs⟩, hi⟩ := hf
    obtain ⟨xs, n, _, _, hl, _⟩ := DataW.trod_struct hu h
    have hc : P.cellsOf tid = Ty.unit.size := cellsOf_fit (t := .unit) ⟨⟨fs, hu, hfs⟩, hi⟩
    exact ⟨(), RepC.unit_iff.2 (List.length_eq_zero_iff.1 (by rw [hl, hc]; rfl)), trivial⟩
  | .pair a b, hp => by
    simp only [posT, Bool.and_eq_true] at hp
    have second : ∀ (l : List Field) (off fuel : Nat) (cs : List Value), (fit P (.pair a b)).2 l off → cs.length = off + (Ty.pair a b).size → (∀ f ∈ l, ∃ x, DataW.trod enc P w base sp held fuel f.type ((cs.drop f.offset).take (P.cellsOf f.type)) = some x) → ∃ d : (Ty.pair a b).den, RepC (full w) (.pair a b) d (cs.drop off) ∧ okd (.pair a b) d := by
      intro l off fuel cs hf hl hx
      obtain ⟨f, r, rfl, h1, h2, h3⟩ := hf
      obtain ⟨x, hx0⟩ := hx f (by simp)
      rw [cellsOf_fit h2, h1] at hx0
      obtain ⟨da, hda, hoa⟩ := (trod_C a hp.1).1 f.type fuel _ _ h2 hx0
      simp only [Ty.size] at hl
      obtain ⟨db, hdb, hob⟩ := (trod_C b hp.2).2 r (off + a.size) fuel cs h3 (by omega) fun f' hf' => hx f' (by simp [hf'])
      refine ⟨(da, db), RepC.pair_iff.2 ⟨_, _, ?_, hda, hdb⟩, hoa, hob⟩
      rw [← List.drop_drop, List.take_append_drop]
    refine ⟨fun tid fuel cs x hf h => ?_, second⟩
    have hc := cellsOf_fit hf
    obtain ⟨⟨fs, hu, f, r, e1, e2, e3, e4⟩, hi⟩ := hf
    obtain ⟨xs, n, rfl, _, hl, hxl, hx⟩ := DataW.trod_struct hu h
    have hf2 : (fit P (.pair a b)).2 fs.toList 0 := ⟨f, r, e1, e2, e3, by simpa using e4⟩
    obtain ⟨d, hd⟩ := second fs.toList 0 n cs hf2 (by rw [hl, hc]; omega) fun f' hf' => by
      obtain ⟨i, hi, rfl⟩ := List.getElem_of_mem hf'
      have hi' : i < fs.size := by simpa using hi
      have := hx i fs[i] (Array.getElem?_eq_getElem hi')
      rw [List.getElem?_eq_getElem (by omega)] at this
      exact ⟨_, by simpa using this⟩
    exact ⟨d, by simpa using hd⟩
  | .ar n e, hp => by
    refine ⟨fun tid fuel cs x hf h => ?_, fun l off fuel cs hf => hf.elim⟩
    have hc := cellsOf_fit hf
    obtain ⟨⟨et, hu, he⟩, _⟩ := hf
    obtain ⟨xs, m, rfl, _, hl, hxl, hx⟩ := DataW.trod_array hu h
    rw [cellsOf_fit he] at hx
    obtain ⟨l, l1, l2⟩ := list_of (p := fun i (x : e.den) => RepC (full w) e x ((cs.drop (i * e.size)).take e.size) ∧ okd e x) n fun i hi => by
      have := hx i hi
      rw [List.getElem?_eq_getElem (by omega)] at this
      exact (trod_C e hp).1 et m _ _ he this
    exact ⟨(l : List e.den), RepC.ar_iff.2 ⟨l1, by rw [hl, hc]; rfl, fun i x h => (l2 i x h).1⟩, l1, fun i x h => (l2 i x h).2⟩
/-- an argument that reads as data -/
theorem arg_C {w : World} {base : Nat} {sp : Nat → Bool} {held : Bool} {t : Ty} (hp : posT t = true) {tid : TypeId} (hf : (fit P t).1 tid) {r : Reach} {b0 : Nat} {v : Value} {d : DataW H} {ps : List MemPlace} (hval : Value.okWide P w r b0 tid v) (h : DataW.Trod enc P w base sp held tid v d ps) :
    ∃ (x : t.den) (cs : List Value), v = mkV t cs ∧ RepC (full w) t x cs ∧ okd t x := by
  obtain ⟨fuel, h⟩ := h
  obtain ⟨x, hx⟩ := (trod_C t hp).1 tid fuel _ _ hf h
  refine ⟨x, _, ?_, hx⟩
  cases t with
  | bool => obtain ⟨b, rfl⟩ := okWide_bool hf.1 hval; rfl
  | int k => obtain ⟨n, rfl⟩ := okWide_int hf.1 hval; rfl
  | str => obtain ⟨s, rfl⟩ := okWide_string hf.1 hval; rfl
  | sl e => obtain ⟨⟨et, hu, _⟩, _⟩ := hf; obtain ⟨a, l, c, rfl⟩ := okWide_slice hu hval; rfl
  | unit => obtain ⟨⟨fs, hu, _⟩, _⟩ := hf; obtain ⟨cs, rfl, _⟩ := okWide_struct hu hval; simp [mkV, Ty.isAgg, Value.cells]
  | pair a b => obtain ⟨⟨fs, hu, _⟩, _⟩ := hf; obtain ⟨cs, rfl, _⟩ := okWide_struct hu hval; simp [mkV, Ty.isAgg, Value.cells]
  | ar n e =>
    obtain ⟨⟨et, hu, _⟩, _⟩ := hf
    unfold Value.okWide at hval
    rw [hu] at hval
    obtain ⟨cs, rfl, _⟩ := hval
    simp [mkV, Ty.isAgg, Value.cells]
def fitsL (P : Program) : List TypeId → List Ty → Prop
  | [], [] => True
  | i :: is, t :: ts => ((fit P t).1 i ∧ posT t = true) ∧ fitsL P is ts
  | _, _ => False
def fitsLB (P : Program) : List TypeId → List Ty → Bool
  | [], [] => true
  | i :: is, t :: ts => ((fitB P t).1 i && posT t) && fitsLB P is ts
  | _, _ => false
theorem fitsL_of : ∀ {is : List TypeId} {ts : List Ty}, fitsLB P is ts = true → fitsL P is ts
  | [], [], _ => trivial
  | i :: is, t :: ts, h => by
    simp only [fitsLB, Bool.and_eq_true] at h
    exact ⟨⟨(fitB_ok t).1 i h.1.1, h.1.2⟩, fitsL_of h.2⟩
  | [], _ :: _, h => by cases h
  | _ :: _, [], h => by cases h
theorem args_C {w : World} {base : Nat} {sp : Nat → Bool} {held : Bool} {r : Reach} {b0 : Nat} : ∀ {is : List TypeId} {ts : List Ty} {vs : List Value} {ds : List (DataW H)} {ps : List MemPlace}, fitsL P is ts → (∀ (j : Nat) t v, is[j]? = some t → vs[j]? = some v → Value.okWide P w r b0 t v) →
    DataW.TrodAll enc P w base sp held is vs ds ps → ∃ x : denL ts, ArgsRep (full w) ts x vs ∧ okL ts x
  | [], [], [], [], _, _, _, _ => ⟨(), rfl, trivial⟩
  | i :: is, t :: ts, v :: vs, d :: ds, ps, hf, hv, h => by
    obtain ⟨p, q, h1, h2, _⟩ := h
    obtain ⟨x, cs, e1, e2, e3⟩ := arg_C hf.1.2 hf.1.1 (hv 0 i v rfl rfl) h1
    obtain ⟨y, hy, hy'⟩ := args_C hf.2 (fun j t v hj hvj => hv (j + 1) t v (by simpa using hj) (by simpa using hvj)) h2
    exact ⟨(x, y), ⟨cs, vs, by rw [e1], e2, hy⟩, e3, hy'⟩
  | [], [], [], _ :: _, _, _, _, h => h.elim
  | [], [], _ :: _, [], _, _, _, h => h.elim
  | [], [], _ :: _, _ :: _, _, _, _, h => h.elim
  | _ :: _, _ :: _, [], [], _, _, _, h => h.elim
  | _ :: _, _ :: _, [], _ :: _, _, _, _, h => h.elim
  | _ :: _, _ :: _, _ :: _, [], _, _, _, h => h.elim
  | [], _ :: _, _, _, _, hf, _, _ => hf.elim
  | _ :: _, [], _, _, _, hf, _, _ => hf.elim
theorem trodAll_stays {W W' : World} {sp' : Nat → Bool} (hl : laidOutB P = true) : ∀ {is : List TypeId} {vs : List Value} {ds : List (DataW H)} {ps : List MemPlace}, (is.all fun t => P.readableRec t && Nat.blt t P.types.size) = true →
    DataW.TrodAll enc P W 0 (fun _ => true) true is vs ds ps → (∀ p ∈ ps, W.sameAt W' p) → (∀ p ∈ ps, sp' p.block = true) → DataW.TrodAll enc P W' 0 sp' true is vs ds ps
  | [], [], [], _, _, h, _, _ => h
  | t :: is, v :: vs, d :: ds, ps, hr, h, hs, hsp => by
    obtain ⟨p, q, h1, h2, rfl⟩ := h
    simp only [List.all_cons, Bool.and_eq_true, Nat.blt_eq] at hr
    exact ⟨p, q, WideElems.Trod_stays hl hr.1.1 hr.1.2 h1 (fun x hx => hs x (by simp [hx])) (fun x hx => hsp x (by simp [hx])), trodAll_stays hl (by simpa using hr.2) h2 (fun x hx => hs x (by simp [hx])) (fun x hx => hsp x (by simp [hx])), rfl⟩
  | [], [], _ :: _, _, _, h, _, _ => h.elim
  | [], _ :: _, [], _, _, h, _, _ => h.elim
  | [], _ :: _, _ :: _, _, _, h, _, _ => h.elim
  | _ :: _, [], [], _, _, h, _, _ => h.elim
  | _ :: _, [], _ :: _, _, _, h, _, _ => h.elim
  | _ :: _, _ :: _, [], _, _, h, _, _ => h.elim
theorem post_of_below {f : Func} {s : ChangeSpec} {apart fresh handsOn again : Bool} {W W' : World} {args : Array Value} {v : Value} {ds gs : List (DataW H)} {before pa pv : List MemPlace}
    (hW : DataW.Whole enc P f.params.toList s.vars apart W args.toList ds gs before)
    (hres : ∀ (b : Nat) (sp : Nat → Bool) (hd : Bool), DataW.TrodAll enc P W' b sp hd f.resultTypes.toList (v.resultList f.resultTypes.size) (s.fn H (ds ++ gs)).results [])
    (hargs : ∀ sp : Nat → Bool, (∀ p ∈ before, sp p.block = true) → DataW.TrodAll enc P W' 0 sp true f.params.toList args.toList (s.fn H (ds ++ gs)).args pa)
    (hvars : ∀ sp : Nat → Bool, (∀ p ∈ before, sp p.block = true) → DataW.TrodVars enc P W' sp s.vars (s.fn H (ds ++ gs)).vars pv)
    (hps : before = pa ++ pv) (hb : Below W.heap.size W W')
    (hok : ∀ (j : Nat) (t : TypeId) (r : Value), f.resultTypes[j]? = some t → (v.resultList f.resultTypes.size)[j]? = some r → Value.okWide P W' .any 0 t r) :
    s.post enc P f apart fresh handsOn again W args v W' := by
  have hlt : ∀ p ∈ before, p.block < W.heap.size := fun p hp => hW.lt p hp
  have hold : ∀ p ∈ before, (fun b => decide (b < W.heap.size)) p.block = true := fun p hp => by simpa using hlt p hp
  refine ⟨ds, gs, before, [], pa, pv, hW, hres _ _ _, hargs _ hold, hvars _ hold, World.keptBut_mono (fun p hp => ⟨hp, ?_⟩) (hb.frame (· ∈ before)), fun _ => ?_⟩
  · rw [hps, List.mem_append] at hp
    exact Or.inr hp
  · obtain ⟨_, _, _, _, _, hz, hn⟩ := hW
    refine ⟨hok, _, _, ([] ++ pa) ++ pv, ⟨[] ++ pa, pv, trodAll_append (hargs _ (fun _ _ => rfl)) (hres _ _ _), hvars _ (fun _ _ => rfl), rfl, ?_, ?_⟩, ?_⟩
    · intro b off hp
      have hin : MemPlace.cell b off ∈ before := by rw [hps]; simpa using hp
      rw [hb.frozen (hlt _ hin)]
      exact hz b off hin
    · intro ha
      have := hn ha
      rw [hps] at this
      simpa using this
    · intro p hp _
      rw [hps]
      simpa using hp
/-- a law that is true at each of its arguments -/
theorem law_post {F : Nat} {fn : Func} {ts : List Ty} {m : denL ts → Option (denR [.im .bool])} {s : ChangeSpec} (hok : FOK P F ⟨ts, [.im .bool], m⟩) (hfit : fitsLB P fn.params.toList ts = true) (hl : laidOutB P = true)
    (hread : (fn.params.toList.all fun t => P.readableRec t && Nat.blt t P.types.size) = true) {bt : TypeId} (hres : fn.resultTypes = #[bt]) (hbt : P.underlying bt = some .bool) (hvars : s.vars = []) {apart : Bool}
    {W : World} {base : Nat} {args : Array Value} {ds gs : List (DataW H)} {before : List MemPlace} (hfn : ds.length = fn.params.size → (s.fn H (ds ++ gs)).results = [.lit (.bool true)] ∧ (s.fn H (ds ++ gs)).args = ds ∧ (s.fn H (ds ++ gs)).vars = [])
    (hval : ∀ (j : Nat) t v, fn.params[j]? = some t → args[j]? = some v → Value.okWide P W .any base t v) (hW : DataW.Whole enc P fn.params.toList s.vars apart W args.toList ds gs before)
    (htrue : ∀ x : denL ts, okL ts x → m x = some (true, ())) :
    Calls P F args W fun e W' => ∃ v, e = .returned v ∧ s.post enc P fn apart true false false W args v W' := by
  have hW' := hW
  obtain ⟨p, q, hA, hV, hpq, hfz, hnd⟩ := hW
  have hlen : ds.length = fn.params.size := by
    have : ∀ (is : List TypeId) (vs : List Value) (ds : List (DataW H)) (ps : List MemPlace), DataW.TrodAll enc P W 0 (fun _ => true) true is vs ds ps → ds.length = is.length := by
      intro is
      induction is with
      | nil => intro vs ds ps h; cases vs <;> cases ds <;> first | rfl | exact h.elim
      | cons i is ih =>
        intro vs ds ps h
        cases vs <;> cases ds <;> first | exact h.elim | skip
        obtain ⟨_, _, _, h2, _⟩ := h
        simp [ih _ _ _ h2]
    have := this _ _ _ _ hA
    simpa using this
  obtain ⟨f1, f2, f3⟩ := hfn hlen
  obtain ⟨x, hx, hox⟩ := args_C (fitsL_of hfit) (fun j t v hj hv => hval j t v (by simpa using hj) (by simpa using hv)) hA
  have hq : q = [] := by
    rw [hvars] at hV
    cases gs with
    | nil => exact hV
    | cons => exact hV.elim
  subst hq
  have hfull : (full W).Le (view W fun _ => False) := fun b o hb => view_some.2 ⟨fun h => h, hb⟩
  have hc := hok.2 W (fun _ => False) x args.toList (true, ()) (fun _ h => h.elim) (hx.mono hfull) (htrue x hox)
  rw [Array.toArray_toList] at hc
  refine hc.mono ?_
  rintro e W' ⟨vr, rfl, M', k1, k2, k3, k4, k5, k6, k7, us, k8, rfl⟩
  obtain ⟨cs, us', rfl, r1, r2⟩ := k8
  have hus : us' = [] := r2
  subst hus
  have hcs := RepC.bool_iff.1 r1
  subst hcs
  have hb : Below W.heap.size W W' := ⟨k1, k2, k3, k4, k5⟩
  refine ⟨.bool true, rfl, ?_⟩
  refine post_of_below (pa := p) (pv := []) hW' (fun b sp hd => ?_) (fun sp hsp => ?_) (fun sp _ => ?_) hpq hb ?_
  · rw [hres, f1]
    exact trodAll_cons_mk (p := []) (shut_bool hbt true) trodAll_mk0
  · rw [f2]
    refine trodAll_stays hl hread hA (fun y hy => hb.same (by have := hW'.lt y (by rw [hpq]; simpa using hy); exact this)) fun y hy => hsp y (by rw [hpq]; simpa using hy)
  · rw [hvars, f3]; rfl
  · exact ok_one hres rfl (okWide_bool_mk hbt true)
end Yp
