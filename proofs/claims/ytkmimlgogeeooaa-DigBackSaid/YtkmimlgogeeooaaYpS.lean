/- The engine, part S: append, conversions, iterators, comparisons. -/
import Derived.Test.YtkmimlgogeeooaaYpR
set_option linter.unusedVariables false
set_option linter.unusedSimpArgs false
namespace Yp
open Go
variable {P : Program}
section
variable {K : Kp} {w0 w : World} {φ : Pl} {M : Nat → Prop} {B B' : Nat → Blk} {g : Nat → PV} {H : View}
theorem arg_go {e : Ty} {x : PV} {vx : Value} {ys : List e.den} (h : (appendArg e x).go g B = some (ys, B')) (hm : Mem K w0 φ M B w) (hr : RepP φ (view w M) B x vx) :
    B' = B ∧ ∃ news, Sup P w e.size ys.length vx news ∧ Els (view w M) e ys news := by
  by_cases hs : ∃ l, x = .sc .str l
  · obtain ⟨l, rfl⟩ := hs
    obtain ⟨hc, rfl⟩ := opt_go h
    obtain ⟨e', rfl⟩ := castL_some hc
    subst e'
    rw [RepP.str hr]
    exact ⟨rfl, _, sup_str l, Els.bytes l⟩
  · have hx : appendArg e x = toDM false (.sl e) x := by
      cases x with
      | sc t l =>
        cases t with
        | str => exact absurd ⟨_, rfl⟩ hs
        | _ => rfl
      | _ => rfl
    rw [hx] at h
    obtain ⟨hB, ad, cap, rfl, h2⟩ := seq_go h hm hr
    refine ⟨hB, ?_⟩
    rcases h2 with h2 | ⟨b, o, c, el, fz, rfl, g2, g3⟩
    · subst h2; exact ⟨[], sup_nil _ _ _, Els.nil e⟩
    · exact ⟨_, sup_row g2 g3, g3.els⟩
theorem neOwn_len {e : Ty} {x : PV} {vx : Value} {ys : List e.den} (hn : neOwn x = true) (h : (appendArg e x).go g B = some (ys, B')) (hr : RepP φ (view w M) B x vx) : ys.length ≠ 0 := by
  cases x <;> try (cases hn; done)
  rename_i id ne
  cases ne <;> try (cases hn; done)
  have hs : RepS φ (view w M) B (.own id true) vx := hr
  have h' : (rowM false id e).go g B = some (ys, B') := h
  simp only [rowM, PM.go] at h'
  simp only [RepS] at hs
  generalize hB : B id = bl at h' hs
  cases bl <;> try (cases h'; done)
  · obtain ⟨y, B1, h1, h2⟩ := PM.go_bind_some h'
    obtain ⟨hc, rfl⟩ := opt_go h1
    obtain ⟨ee, rfl⟩ := castL_some hc
    subst ee
    cases h2
    exact hs.2 trivial
  · obtain ⟨hc, rfl⟩ := opt_go h'
    obtain ⟨ee, rfl⟩ := castL_some hc
    subst ee
    exact hs.2 trivial
theorem seq_und {t : Ty} {tid : TypeId} (h : (fit P t).1 tid) (hs : isSeq t = true) : ∃ d, P.underlying tid = some d ∧ (d = .string ∨ ∃ q, d = .slice q) := by
  cases t <;> try (cases hs; done)
  · exact ⟨_, h.1, .inl rfl⟩
  · obtain ⟨⟨et, hu, _⟩, _⟩ := h; exact ⟨_, hu, .inr ⟨_, rfl⟩⟩
theorem append_go {e u : Ty} {tid uid ty : TypeId} (ht : (fit P (.sl e)).1 tid) (hu : (fit P u).1 uid) (hq : isSeq u = true) {d : Nat} {s x r : PV} {vs vx : Value} (h : (appendP d e s x).go g B = some (r, B'))
    (hm : Mem K w0 φ M B w) (hrs : RepP φ (view w M) B s vs) (hrx : RepP φ (view w M) B x vx) :
    ∃ v w', (Builtin.append_ #[tid, uid] ty #[vs, vx]).run P w = .ok v w' ∧ After K w0 φ M B w B' r v w' := by
  unfold appendP at h
  replace h := bif_go h; obtain ⟨hpos, h⟩ := h
  have hpos : 0 < e.size := by simpa using hpos
  obtain ⟨ys, B1, h1, h2⟩ := PM.go_bind_some h
  clear h
  obtain ⟨rfl, news, hx, hE⟩ := arg_go (P := P) h1 hm hrx
  obtain ⟨⟨et, hut, he⟩, _⟩ := ht
  obtain ⟨dd, huu, hd⟩ := seq_und hu hq
  cases s <;> try (cases h2; done)
  case nil =>
    replace h2 := chk_go h2; obtain ⟨hroom, h2⟩ := h2
    obtain ⟨_, hnew, rfl, rfl⟩ := newRow_go h2
    simp only [RepP, RepQ, RepS] at hrs; subst hrs
    exact append_nil_go hpos hut he huu hd hm hx hE hroom hnew
  case own id ne =>
    simp only [PM.go] at h2
    generalize hB : B1 id = bl at h2
    cases bl <;> try (cases h2; done)
    rename_i e' l
    obtain ⟨l', B2, h3, h2⟩ := PM.go_bind_some h2
    obtain ⟨hc, rfl⟩ := opt_go h3
    obtain ⟨ee, rfl⟩ := castL_some hc
    subst ee
    replace h2 := chk_go h2; obtain ⟨hroom, h2⟩ := h2
    simp only [PM.go] at h2
    obtain ⟨_, hnew, rfl, rfl⟩ := newRow_go h2
    have hne : 16 * d ≠ id := fun e => by rw [e, updB_same] at hnew; cases hnew
    rw [updB_ne _ _ hne] at hnew
    exact append_own_go hpos hut he huu hd hm hx hE hB hrs hroom hnew
  case csl e' l =>
    obtain ⟨l', B2, h3, h2⟩ := PM.go_bind_some h2
    obtain ⟨hc, rfl⟩ := opt_go h3
    obtain ⟨ee, rfl⟩ := castL_some hc
    subst ee
    replace h2 := chk_go h2; obtain ⟨hroom, h2⟩ := h2
    obtain ⟨ad, rfl, hC⟩ := hrs
    have key := append_csl_go (ty := ty) hpos hut he huu hd hm hx hE hC hroom
    cases hn : neOwn x with
    | true =>
      rw [hn] at h2
      obtain ⟨_, hnew, rfl, rfl⟩ := newRow_go h2
      exact key.2 (neOwn_len hn h1 hrx) _ hnew
    | false =>
      rw [hn] at h2
      cases h2
      exact key.1
theorem freeze_end {c : Array Value} {el : TypeId} {fz : Nat × Nat} (hf : okFz c fz) (hfz : fz = (0, 0)) {b : Nat} (hb : w.heap[b]? = some (.cells c el fz)) :
    ∃ w', (markStringish ⟨b, 0, none⟩).run P w = .ok () w' ∧ Put1 w w' b (.cells c el (c.size, c.size + 1)) := by
  subst hfz
  refine ⟨w.freeze ⟨b, c.size, none⟩ 1, ?_, ?_⟩
  · have hs : w.shape? b = some (el, c.size) := by simp [World.shape?, hb]
    simp [markStringish, shape, Sem.run, hs, freeze]
  · refine ⟨rfl, rfl, rfl, by simp [World.freeze], ?_, fun j hj => ?_⟩
    · simp [World.freeze, Array.getElem?_modify, hb]
    · simp [World.freeze, Array.getElem?_modify, Ne.symm hj]
theorem convert_sb_go {src dst : TypeId} (hs : P.underlying src = some .string) (ht : (fit P (.sl (.int .u8))).1 dst) {id : Nat} (hid : B id = .new) {l : List UInt8} (hl : l.length ≤ 140737488355328) (hm : Mem K w0 φ M B w) :
    ∃ v w', (convert src dst (.string ⟨l.toArray⟩)).run P w = .ok v w' ∧ After K w0 φ M B w (updB B id (.ob (.int .u8) (l : List (KD .u8)))) (.own id false) v w' := by
  obtain ⟨⟨et, hu, he⟩, _⟩ := ht
  have hmax : l.length ≤ maxLen := by unfold maxLen; omega
  have hge := grownCap_ge w l.length 0 et
  have hcm := grownCap_le_maxLen w l.length 0 et hmax
  have hsz : (⟨l.toArray⟩ : ByteArray).size = l.length := rfl
  generalize hcur : ((⟨l.toArray⟩ : ByteArray).data.map (fun b => Value.int .u8 (b.toNat : Int)) ++ Array.replicate (grownCap w l.length 0 et - l.length) (.int .u8 0)) = cur
  have hcs : cur.size = grownCap w l.length 0 et := by rw [← hcur]; simp; omega
  obtain ⟨w', h1, h2⟩ := freeze_end (P := P) (w := w.drew.alloc (.cells cur et)) (b := w.heap.size) (okFz_zero cur) rfl (alloc_new w.drew _)
  refine ⟨.slice (some ⟨w.heap.size, 0, none⟩) l.length (grownCap w l.length 0 et), w', ?_, ?_⟩
  · have hgc : (Question.appendCap l.length 0 et).cut (w.tape w.drawn (Question.appendCap l.length 0 et)) = grownCap w l.length 0 et := rfl
    have hcur' : (Array.map (fun b => Value.int .u8 (b.toNat : Int)) l.toArray ++ Array.replicate (grownCap w l.length 0 et - l.length) (.int .u8 0)) = cur := hcur
    have hs2 := he.1
    unfold convert
    simp only [Sem.run_bind, run_underlying hs, run_underlying hu, Result.andThen, run_underlying hs2]
    unfold Conv.stringToBytes
    simp only [Sem.run_bind, run_choose_drew, Question.forced, Bool.false_eq_true, if_false, Result.andThen, hsz, hgc, Go.newRow, run_newObj_alloc, Sem.run_pure]
    rw [hcur]
    have h1' : (markStringish ⟨w.drew.heap.size, 0, none⟩).run P (w.drew.alloc (.cells cur et)) = .ok () w' := h1
    simp only [h1', Result.andThen]
    rfl
  · have hrow : Row (view w M) (.int .u8) (l : List (KD .u8)) cur 0 := by
      refine Els.row ?_ ?_
      · simp only [Ty.size, Nat.mul_one]; rw [hcs]
        show 0 + l.length ≤ _
        omega
      · have : seg cur 0 ((l : List (KD .u8)).length * (Ty.int .u8).size) = l.map fun b => Value.int .u8 b.toNat := by
          rw [seg_list, ← hcur]
          simp only [Ty.size, Nat.mul_one, List.drop_zero, Array.toList_append, Array.toList_map]
          have hl : ((⟨l.toArray⟩ : ByteArray).data.toList.map fun b => Value.int .u8 (b.toNat : Int)).length = l.length := by simp
          show List.take l.length _ = _
          rw [← hl]; exact List.take_left
        exact Eq.mpr (congrArg (Els (view w M) (Ty.int .u8) l) this) (Els.bytes l)
    refine row_born (K := K) (w0 := w0) (φ := φ) (M := M) (B := B) (w := w) hm hid h2.os h2.tape h2.output (by rw [h2.size, alloc_size]; exact Nat.lt_succ_self _) (fun b hb => (h2.other b (by omega)).trans (alloc_old w.drew _ b hb)) (e := .int .u8) (by decide) (l := (l : List (KD .u8))) h2.here ?_ (view_full w M) hrow (cap := grownCap w l.length 0 et) hge hcm ?_ false (fun h => by cases h)
    · intro i hi h
      exact absurd h.1 (by omega)
    · simp only [Ty.size, Nat.mul_one]; omega
theorem convert_bs_go {src dst : TypeId} (hs : (fit P (.sl (.int .u8))).1 src) (hd : P.underlying dst = some .string) {l : List UInt8} {a : PV} {va : Value} (h : (toDM false (.sl (.int .u8)) a).go g B = some ((l : List (KD .u8)), B'))
    (hm : Mem K w0 φ M B w) (hr : RepP φ (view w M) B a va) : B' = B ∧ (convert src dst va).run P w = .ok (.string ⟨l.toArray⟩) w := by
  obtain ⟨⟨et, hu, he⟩, _⟩ := hs
  obtain ⟨hB, ad, cap, rfl, h2⟩ := seq_go h hm hr
  refine ⟨hB, ?_⟩
  rw [run_convert_bytes_string w src dst et _ _ _ hu he.1 hd]
  have hnil : ∀ n, n = 0 → l.length = n → l = [] := fun n h1 h2 => List.length_eq_zero_iff.1 (h2.trans h1)
  rcases h2 with h2 | ⟨b, o, c, el, fz, rfl, g2, g3⟩
  · have h2' : l = [] := h2
    subst h2'
    cases ad with
    | none => simp [Conv.bytesToString]; rfl
    | some ad =>
      have := run_bytesToString (P := P) w ad 0 cap [] (by simp [loadCells, loadCellsFrom])
      exact this
  · have hE := g3.els
    have hseg : seg c o ((l : List (KD .u8)).length * (Ty.int .u8).size) = (l.map fun x => (x.toNat : Int)).map (Value.int .u8) := by
      apply List.ext_getElem?
      intro i
      by_cases hi : i < l.length
      · have h5 := hE.2 i l[i] (List.getElem?_eq_getElem hi)
        simp only [Ty.size, Nat.mul_one] at h5 ⊢
        have h6 := RepC.int_iff.1 h5
        have h7 : ((seg c o (l : List (KD .u8)).length).drop i)[0]? = some (Value.int .u8 (KD.to .u8 l[i])) := by
          have h8 := congrArg (fun q : List Value => q[0]?) h6
          simp only [List.getElem?_take] at h8
          exact h8
        rw [List.getElem?_drop, Nat.add_zero] at h7
        rw [h7]
        simp [hi]; rfl
      · have hl := hE.1
        simp only [Ty.size, Nat.mul_one] at hl ⊢
        have hl' : (seg c o (l : List (KD .u8)).length).length = l.length := hl
        rw [List.getElem?_eq_none (by omega), List.getElem?_eq_none (by simp; omega)]
    have hload := run_load_seg (P := P) (w := w) (b := b) (o := o) (n := l.length) g2 (by have := g3.1; simp only [Ty.size, Nat.mul_one] at this; exact this)
    have hseg' : seg c o l.length = (l.map fun x => (x.toNat : Int)).map (Value.int .u8) := by
      have := hseg; simp only [Ty.size, Nat.mul_one] at this; exact this
    rw [hseg'] at hload
    have hrun := run_bytesToString (P := P) w ⟨b, o, none⟩ l.length cap _ hload
    have hfold : ∀ (l : List UInt8) (s : ByteArray), (l.map fun x => (x.toNat : Int)).foldl (fun r n => r.push (UInt8.ofNat n.toNat)) s = ⟨s.data ++ l.toArray⟩ := by
      intro l
      induction l with
      | nil => intro s; simp
      | cons x l ih =>
        intro s
        simp only [List.map_cons, List.foldl_cons, ih]
        congr 1
        have : UInt8.ofNat ((x.toNat : Int).toNat) = x := by simp
        rw [this]
        apply Array.ext'
        simp [ByteArray.push]
    rw [hfold] at hrun
    have : (⟨ByteArray.empty.data ++ l.toArray⟩ : ByteArray) = ⟨l.toArray⟩ := by
      exact congrArg ByteArray.mk Array.empty_append
    rw [this] at hrun
    exact hrun
end
end Yp
