/- The engine, part P: new blocks. -/
import Derived.Test.YtkmimlgogeeooaaYpO
set_option linter.unusedVariables false
set_option linter.unusedSimpArgs false
namespace Yp
open Go
variable {P : Program}
/-- what an operation leaves -/
def After (K : Kp) (w0 : World) (φ : Pl) (M : Nat → Prop) (B : Nat → Blk) (w : World) (B' : Nat → Blk) (v : PV) (r : Value) (w' : World) : Prop :=
  ∃ φ' M', Mem K w0 φ' M' B' w' ∧ Ext φ M B w φ' M' B' w' ∧ RepP φ' (view w' M') B' v r
section
variable {K : Kp} {w0 w : World} {φ : Pl} {M : Nat → Prop} {B B' : Nat → Blk} {g : Nat → PV}
theorem After.same (hm : Mem K w0 φ M B w) {v : PV} {r : Value} (h : B' = B) (hr : RepP φ (view w M) B v r) : After K w0 φ M B w B' v r w := by
  subst h; exact ⟨φ, M, hm, Ext.refl _ _ _ _, hr⟩
theorem fresh_go {id : Nat} {k : PM PV} {r : PV × (Nat → Blk)} (h : (Yp.fresh id k).go g B = some r) : B id = .new ∧ k.go g B = some r := by
  simp only [Yp.fresh, PM.go] at h
  generalize hB : B id = b at h
  cases b <;> first | exact ⟨rfl, h⟩ | cases h
theorem RepB.lt {id : Nat} {b : Blk} {H : View} (h : RepB φ M w H B id b) (hm : b.mut = true) {x : Nat × Nat × Nat} (hx : φ id = some x) : x.1 < w.heap.size := by
  have hlt : ∀ {b : Nat} {o : Obj}, w.heap[b]? = some o → b < w.heap.size := fun ho => (Array.getElem?_eq_some_iff.1 ho).1
  cases b with
  | new => cases hm
  | gone => cases hm
  | fz e l => cases hm
  | box t v => obtain ⟨b, o, c, el, fz, h1, h2, _⟩ := h; rw [h1] at hx; cases hx; exact hlt h2
  | ob e l =>
    rcases h.2 with ⟨h1, _⟩ | ⟨b, o, c, el, fz, h1, h2, _⟩
    · rw [h1] at hx; cases hx
    · rw [h1] at hx; cases hx; exact hlt h2
  | it s p => obtain ⟨b, h1, h2, _⟩ := h; rw [h1] at hx; cases hx; exact hlt h2
theorem Mem.born (hm : Mem K w0 φ M B w) {id : Nat} (hid : B id = .new) {w' : World} (h1 : w'.os = w.os) (h2 : w'.tape = w.tape) (h3 : w'.output = w.output) (hs : w.heap.size < w'.heap.size)
    (hb : ∀ b, b < w.heap.size → w'.heap[b]? = w.heap[b]?) (blk : Blk) (n : Nat)
    (hr : ∀ φ' M', Ext φ M B w φ' M' (updB B id blk) w' → φ' id = some (w.heap.size, 0, n) → M' w.heap.size → RepB φ' M' w' (view w' M') (updB B id blk) id blk) :
    ∃ φ' M', Mem K w0 φ' M' (updB B id blk) w' ∧ Ext φ M B w φ' M' (updB B id blk) w' ∧ φ' id = some (w.heap.size, 0, n) := by
  obtain ⟨m1, e1⟩ := hm.grow h1 h2 h3 (Nat.le_of_lt hs) hb (fun b => b = w.heap.size) (fun b h => by omega)
  obtain ⟨m2, e2⟩ := m1.adopt hid blk (some (w.heap.size, 0, n)) (fun _ y hy hk => by cases hy; have h1 := hm.klt _ hk; have h2 := hm.size; simp only at h1; omega) (fun _ y hy j hj z hz => by
    cases hy
    have := (hm.blks j).lt hj hz
    simp only; omega) (fun he => hr _ _ (e1.trans he) (updP_same _ _ _) (.inr rfl))
  exact ⟨_, _, m2, e1.trans e2, updP_same _ _ _⟩
theorem alloc_old (w : World) (o : Obj) (b : Nat) (h : b < w.heap.size) : (w.alloc o).heap[b]? = w.heap[b]? := by
  show (w.heap.push o)[b]? = _
  rw [Array.getElem?_push, if_neg (by omega)]
theorem alloc_new (w : World) (o : Obj) : (w.alloc o).heap[w.heap.size]? = some o := by
  show (w.heap.push o)[w.heap.size]? = _
  simp
theorem alloc_size (w : World) (o : Obj) : (w.alloc o).heap.size = w.heap.size + 1 := by
  show (w.heap.push o).size = _
  simp
theorem okFz_zero (c : Array Value) : okFz c (0, 0) := fun i _ h => by simp at h
theorem seg_all {c : Array Value} {cu : List Value} (h : c.toList = cu) {n : Nat} (hn : cu.length = n) : seg c 0 n = cu := by
  simp only [seg, h]; subst hn; simp
theorem box_go {t : Ty} {tid : TypeId} (ht : (fit P t).1 tid) {id : Nat} (hid : B id = .new) {pv : PV} {v : Value} {cu : List Value} (hm : Mem K w0 φ M B w) (hv : v.cells.toList = cu) (hT : RepT φ (view w M) B pv t cu) :
    ∃ r w', (Instr.box tid v).run P w = .ok r w' ∧ After K w0 φ M B w (updB B id (.box t pv)) (.ptr id []) r w' := by
  have hsz : v.cells.size = t.size := by rw [← hT.length, ← hv]; simp
  refine ⟨.pointer (some ⟨w.heap.size, 0, none⟩), w.alloc (.cells v.cells tid), by simp [Instr.box, newVar, Go.newRow], ?_⟩
  obtain ⟨φ', M', m1, e1, h1⟩ := hm.born hid (w' := w.alloc (.cells v.cells tid)) rfl rfl rfl (by rw [alloc_size]; omega) (alloc_old w _) (.box t pv) v.cells.size fun φ' M' he hp hM => by
    refine ⟨w.heap.size, 0, v.cells, tid, (0, 0), hp, alloc_new w _, by omega, ?_, okFz_zero _, hM⟩
    rw [seg_all hv hT.length]
    exact he.T hT
  refine ⟨φ', M', m1, e1, ?_⟩
  simp only [RepP, RepQ, RepS, updB_same]
  exact ⟨_, _, _, 0, t, h1, offOf_nil t, rfl⟩
theorem zeroPV_T {H : View} : ∀ t : Ty, RepT φ H B (zeroPV t) t (zcells t)
  | .bool => ⟨rfl, RepC.zero _ .bool⟩
  | .int k => ⟨rfl, RepC.zero _ (.int k)⟩
  | .str => ⟨rfl, RepC.zero _ .str⟩
  | .sl e => ⟨rfl, _, rfl, rfl, rfl⟩
  | .unit => ⟨rfl, RepC.zero _ .unit⟩
  | .pair a b => ⟨_, _, rfl, zeroPV_T a, zeroPV_T b⟩
  | .ar n e => ⟨rfl, RepC.zero _ (.ar n e)⟩
theorem run_zeroValue' {t : Ty} {tid : TypeId} (ht : (fit P t).1 tid) (w : World) : (zeroValue tid).run P w = .ok (mkV t (zcells t)) w := by
  obtain ⟨i, h1, h2, h3, h4⟩ := fit_info ht
  unfold zeroValue; simp [run_typeInfo' h1, h4]
theorem zcells_mkV (t : Ty) : (mkV t (zcells t)).cells = (zcells t).toArray := mkV_cells (RepC.zero (fun _ => none) t)
theorem alloc_go {t : Ty} {tid : TypeId} (ht : (fit P t).1 tid) {id : Nat} (hid : B id = .new) (hm : Mem K w0 φ M B w) :
    ∃ r w', (Instr.alloc tid true (.tuple #[])).run P w = .ok r w' ∧ After K w0 φ M B w (updB B id (.box t (zeroPV t))) (.ptr id []) r w' := by
  obtain ⟨r, w', h1, h2⟩ := box_go ht hid hm (v := mkV t (zcells t)) (cu := zcells t) (by rw [zcells_mkV]) (zeroPV_T t)
  refine ⟨r, w', ?_, h2⟩
  simp only [Instr.box] at h1
  simp [Instr.alloc, run_zeroValue' ht] at h1 ⊢
  exact h1
/-- a new row of elements, in a world that may have drawn -/
theorem row_born (hm : Mem K w0 φ M B w) {id : Nat} (hid : B id = .new) {w' : World} (h1 : w'.os = w.os) (h2 : w'.tape = w.tape) (h3 : w'.output = w.output) (hs : w.heap.size < w'.heap.size)
    (hb : ∀ b, b < w.heap.size → w'.heap[b]? = w.heap[b]?) {e : Ty} (hpos : 0 < e.size) {l : List e.den} {cur : Array Value} {el : TypeId} {fz : Nat × Nat} (hc : w'.heap[w.heap.size]? = some (.cells cur el fz)) (hf : okFz cur fz)
    {H : View} (hH : H.Le (full w)) (hrow : Row (view w M) e l cur 0) {cap : Nat} (hcap : l.length ≤ cap) (hmax : cap ≤ maxLen) (hsz : cap * e.size ≤ cur.size) (ne : Bool) (hne : ne = true → l.length ≠ 0) :
    After K w0 φ M B w (updB B id (.ob e l)) (.own id ne) (.slice (some ⟨w.heap.size, 0, none⟩) l.length cap) w' := by
  obtain ⟨φ', M', m1, e1, p1⟩ := hm.born hid h1 h2 h3 hs hb (.ob e l) cur.size fun φ' M' he hp hM =>
    ⟨hpos, .inr ⟨w.heap.size, 0, cur, el, fz, hp, hc, hrow.mono he.vw, hf, hM⟩⟩
  refine ⟨φ', M', m1, e1, ?_⟩
  simp only [RepP, RepQ, RepS, updB_same]
  exact ⟨.inr ⟨_, 0, _, cap, p1, by simp, hcap, hmax, by simpa using hsz⟩, hne⟩
theorem newRow_go {id : Nat} {e : Ty} {l : List e.den} {ne : Bool} {r : PV} (h : (Yp.newRow id e l ne).go g B = some (r, B')) : 0 < e.size ∧ B id = .new ∧ r = .own id ne ∧ B' = updB B id (.ob e l) := by
  unfold Yp.newRow at h
  replace h := bif_go h; obtain ⟨h0, h⟩ := h
  replace h := fresh_go h; obtain ⟨h1, h⟩ := h
  cases h
  exact ⟨by simpa using h0, h1, rfl, rfl⟩
theorem zeroes_get {z : List Value} {n : Nat} {i : Nat} (h : i < n) : (madeCells z.toArray n)[i]? = some (z.toArray[i % z.length]!) := by
  simp [madeCells, h]
theorem zeroes_seg {z : List Value} {m i : Nat} (hz : 0 < z.length) (h : i < m) : seg (madeCells z.toArray (m * z.length)) (i * z.length) z.length = z := by
  have hmul : (i + 1) * z.length ≤ m * z.length := Nat.mul_le_mul_right _ h
  rw [Nat.add_mul] at hmul
  apply List.ext_getElem?
  intro j
  by_cases hj : j < z.length
  · rw [seg_get hj, zeroes_get (by omega)]
    have : (i * z.length + j) % z.length = j := by rw [Nat.add_comm, Nat.add_mul_mod_self_right, Nat.mod_eq_of_lt hj]
    rw [this]
    simp [hj]
  · have hl := seg_length (c := madeCells z.toArray (m * z.length)) (o := i * z.length) (n := z.length) (by rw [size_madeCells]; omega)
    rw [List.getElem?_eq_none (by omega), List.getElem?_eq_none (by omega)]
theorem zeroes_Row (H : View) {e : Ty} (hpos : 0 < e.size) {n m : Nat} (h : n ≤ m) : Row H e (rep n e.zero) (madeCells (zcells e).toArray (m * e.size)) 0 := by
  refine ⟨?_, fun i x hi => ?_⟩
  · rw [size_madeCells]; simp only [rep, List.length_replicate, Nat.zero_add]; exact Nat.mul_le_mul_right _ h
  · simp only [lget, rep, List.getElem?_replicate] at hi
    split at hi
    · rename_i hin
      cases hi
      have hl := zcells_length e
      have := zeroes_seg (z := zcells e) (m := m) (i := i) (by omega) (by omega)
      rw [hl] at this
      rw [Nat.zero_add, this]
      exact RepC.zero H e
    · cases hi
theorem bytes_pos (e : Ty) : 0 < e.bytes := by
  unfold Ty.bytes
  split <;> omega
theorem room_iff {e : Ty} {n : Nat} : room e n = true ↔ n * e.bytes ≤ 140737488355328 := by unfold room rm; exact decide_eq_true_iff
theorem room_le {e : Ty} {n : Nat} (h : room e n = true) : n ≤ maxLen := by
  rw [room_iff] at h
  have : n * 1 ≤ n * e.bytes := Nat.mul_le_mul_left _ (bytes_pos e)
  unfold maxLen; omega
theorem room_bytes {e : Ty} {n b : Nat} (h : room e n = true) (hb : b ≤ e.bytes) : n * b ≤ 140737488355328 := by
  rw [room_iff] at h
  have : n * b ≤ n * e.bytes := Nat.mul_le_mul_left _ hb
  omega
theorem make_go {e : Ty} {tid : TypeId} (ht : (fit P (.sl e)).1 tid) {id : Nat} {l c : Int} {kl kc : IntKind} {r : PV} (hm : Mem K w0 φ M B w)
    (h : (PM.chk (band (inC 0 l c) (room e (nat c))) (Yp.newRow id e (rep (nat l) e.zero) false)).go g B = some (r, B')) :
    ∃ v w', (Instr.makeSlice tid (.int kl l) (.int kc c)).run P w = .ok v w' ∧ After K w0 φ M B w B' r v w' := by
  replace h := chk_go h; obtain ⟨hc, h⟩ := h
  simp only [band, Bool.and_eq_true] at hc
  obtain ⟨h0, hid, rfl, rfl⟩ := newRow_go h
  obtain ⟨_, k1, k2⟩ := inC_iff.1 hc.1
  have hroom := hc.2
  obtain ⟨⟨et, hu, he⟩, _⟩ := ht
  obtain ⟨i, g1, g2, g3, g4⟩ := fit_info he
  have hby := room_bytes hroom g3
  have hmax := room_le hroom
  have hn : ((nat c : Nat) : Int) = c := by unfold nat; omega
  have hbI : (i.bytes : Int) * c ≤ 281474976710656 := by
    have : ((nat c * i.bytes : Nat) : Int) ≤ 140737488355328 := Int.ofNat_le.2 hby
    rw [Int.natCast_mul, hn, Int.mul_comm] at this
    omega
  have hr := run_make (P := P) w tid et i _ hu g1 g4 kl kc l c k1 k2 hbI (by unfold maxLen at hmax; omega)
  refine ⟨_, _, hr, ?_⟩
  rw [zcells_mkV, g2]
  have hlen : (rep (nat l) e.zero).length = l.toNat := by simp [rep, nat]
  have := row_born (K := K) (w0 := w0) (φ := φ) (M := M) (B := B) (w := w) hm hid (w' := w.alloc (.cells (madeCells (zcells e).toArray (c.toNat * e.size)) et)) rfl rfl rfl (by rw [alloc_size]; omega) (alloc_old w _) h0
    (l := rep (nat l) e.zero) (alloc_new w _) (okFz_zero _) (view_full w M) (zeroes_Row _ h0 (by unfold nat; omega)) (cap := c.toNat) (by rw [hlen]; omega) (by unfold nat at hmax; exact hmax) (by rw [size_madeCells]; exact Nat.le_refl _) false (fun h => by cases h)
  rwa [hlen] at this
theorem range_go {tid : TypeId} (hu : P.underlying tid = some .string) {id : Nat} (hid : B id = .new) {l : List UInt8} (hm : Mem K w0 φ M B w) :
    ∃ v w', (Instr.range tid (.string ⟨l.toArray⟩)).run P w = .ok v w' ∧ After K w0 φ M B w (updB B id (.it l 0)) (.itp id) v w' := by
  refine ⟨.pointer (some ⟨w.heap.size, 0, none⟩), w.alloc (.stringIter ⟨l.toArray⟩ 0), by simp [Instr.range, run_underlying hu], ?_⟩
  obtain ⟨φ', M', m1, e1, p1⟩ := hm.born hid (w' := w.alloc (.stringIter ⟨l.toArray⟩ 0)) rfl rfl rfl (by rw [alloc_size]; omega) (alloc_old w _) (.it l 0) 0 fun φ' M' he hp hM =>
    ⟨w.heap.size, hp, alloc_new w _, hM⟩
  refine ⟨φ', M', m1, e1, ?_⟩
  simp only [RepP, RepQ, RepS, updB_same]
  exact ⟨_, p1, rfl⟩
end
end Yp
