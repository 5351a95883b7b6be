/- The engine, part Q: append. -/
import Derived.Test.YtkmimlgogeeooaaYpP
set_option linter.unusedVariables false
set_option linter.unusedSimpArgs false
namespace Yp
open Go
variable {P : Program}
section
variable {K : Kp} {w0 w : World} {φ : Pl} {M : Nat → Prop} {B B' : Nat → Blk} {g : Nat → PV} {H : View}
/-- cells that hold elements, one behind the other -/
def Els (H : View) (e : Ty) (l : List e.den) (cs : List Value) : Prop := cs.length = l.length * e.size ∧ ∀ (i : Nat) (x : e.den), lget l i = some x → RepC H e x ((cs.drop (i * e.size)).take e.size)
theorem lget_lt {α : Type} {l : List α} {i : Nat} {x : α} (h : lget l i = some x) : i < l.length := (List.getElem?_eq_some_iff.1 h).1
theorem mul_le {i n s : Nat} (h : i < n) : i * s + s ≤ n * s := by
  have := Nat.mul_le_mul_right s (show i + 1 ≤ n from h)
  rwa [Nat.add_mul, Nat.one_mul] at this
theorem Row.els {e : Ty} {l : List e.den} {c : Array Value} {o : Nat} (h : Row H e l c o) : Els H e l (seg c o (l.length * e.size)) := by
  refine ⟨seg_length h.1, fun i x hi => ?_⟩
  rw [seg_seg _ _ _ _ _ (mul_le (lget_lt hi))]
  exact h.2 i x hi
theorem Els.row {e : Ty} {l : List e.den} {c : Array Value} {o : Nat} (hn : o + l.length * e.size ≤ c.size) (h : Els H e l (seg c o (l.length * e.size))) : Row H e l c o := by
  refine ⟨hn, fun i x hi => ?_⟩
  have := h.2 i x hi
  rwa [seg_seg _ _ _ _ _ (mul_le (lget_lt hi))] at this
theorem Els.nil (e : Ty) : Els H e [] [] := ⟨by simp, fun i x hi => by simp [lget] at hi⟩
theorem Els.append {e : Ty} {l m : List e.den} {cs ds : List Value} (h : Els H e l cs) (k : Els H e m ds) : Els H e (l ++ m) (cs ++ ds) := by
  refine ⟨by rw [List.length_append, List.length_append, h.1, k.1, Nat.add_mul], fun i x hi => ?_⟩
  by_cases hl : i < l.length
  · simp only [lget] at hi
    rw [List.getElem?_append_left hl] at hi
    rw [cut_left _ _ _ _ (by rw [h.1]; exact mul_le hl)]
    exact h.2 i x hi
  · simp only [lget] at hi
    rw [List.getElem?_append_right (by omega)] at hi
    have := k.2 (i - l.length) x hi
    rw [← cut_right cs ds, h.1, ← Nat.add_mul] at this
    rwa [show l.length + (i - l.length) = i by omega] at this
theorem Els.one {e : Ty} {l : List e.den} {cs : List Value} (h : Els H e l cs) : ∀ v ∈ cs, v.oneCell' = true := by
  intro v hv
  obtain ⟨i, hi, hm⟩ := mem_chunk _ _ cs h.1 v hv
  exact (h.2 i _ (List.getElem?_eq_getElem hi)).one v hm
theorem Els.bytes (l : List UInt8) : Els H (.int .u8) (l : List (KD .u8)) (l.map fun b => Value.int .u8 b.toNat) := by
  refine ⟨by simp only [List.length_map, Ty.size, Nat.mul_one]; rfl, fun i x hi => ?_⟩
  simp only [Ty.size, Nat.mul_one]
  have hlt := lget_lt hi
  have : ((l.map fun b => Value.int .u8 (b.toNat : Int)).drop i).take 1 = [Value.int .u8 (KD.to .u8 x)] := by
    apply List.ext_getElem?
    intro j
    cases j with
    | zero =>
      simp only [List.getElem?_take, List.getElem?_drop, List.getElem?_map, Nat.add_zero, lget] at hi ⊢
      have hi' : l[i]? = some (x : UInt8) := hi
      simp [hi']; rfl
    | succ j => simp [List.getElem?_take]
  rw [this]
  exact RepC.int_iff.2 rfl
/-- a slice or a string, whose elements are read -/
theorem seq_go {e : Ty} {x : PV} {vx : Value} {ys : List e.den} (h : (toDM false (.sl e) x).go g B = some (ys, B')) (hm : Mem K w0 φ M B w) (hr : RepP φ (view w M) B x vx) :
    B' = B ∧ ∃ ad cap, vx = .slice ad ys.length cap ∧ (ys = [] ∨ ∃ b o c el fz, ad = some ⟨b, o, none⟩ ∧ w.heap[b]? = some (.cells c el fz) ∧ Row (view w M) e ys c o) := by
  have plain : ∀ {v : Value}, RepC (view w M) (.sl e) ys [v] → ∃ ad cap, v = .slice ad ys.length cap ∧ (ys = [] ∨ ∃ b o c el fz, ad = some ⟨b, o, none⟩ ∧ w.heap[b]? = some (.cells c el fz) ∧ Row (view w M) e ys c o) := by
    intro v hC
    obtain ⟨ad, cap, h1, _, _, h4⟩ := RepC.sl_iff.1 hC
    simp only [List.cons.injEq, and_true] at h1
    refine ⟨ad, cap, h1, ?_⟩
    rcases h4 with h4 | ⟨b, o, c, el, fz, g1, g2, g3⟩
    · exact .inl h4
    · exact .inr ⟨b, o, c, el, fz, g1, (view_some.1 g2).2, g3⟩
  have row : ∀ {id : Nat} {e' : Ty} {l : List e'.den}, (B id = .ob e' l ∨ B id = .fz e' l) → (φ id = none ∧ l.length = 0) ∨ ∃ b o c el fz, φ id = some (b, o, c.size) ∧ w.heap[b]? = some (.cells c el fz) ∧ Row (view w M) e' l c o := by
    intro id e' l hb
    have hbl := hm.blks id
    rcases hb with hb | hb <;> rw [hb] at hbl
    · rcases hbl.2 with h | ⟨b, o, c, el, fz, g1, g2, g3, _⟩
      · exact .inl h
      · exact .inr ⟨b, o, c, el, fz, g1, g2, g3⟩
    · rcases hbl.2 with h | ⟨b, o, c, el, fz, g1, g2, g3⟩
      · exact .inl h
      · exact .inr ⟨b, o, c, el, fz, g1, (view_some.1 g2).2, g3⟩
  have piece : ∀ {id : Nat} {l : List e.den} {off n : Nat} {v : Value}, (B id = .ob e l ∨ B id = .fz e l) → RepOwn φ id e off n v → off + n ≤ l.length →
      ∃ ad cap, v = .slice ad (cut l off n).length cap ∧ (cut l off n = [] ∨ ∃ b o c el fz, ad = some ⟨b, o, none⟩ ∧ w.heap[b]? = some (.cells c el fz) ∧ Row (view w M) e (cut l off n) c o) := by
    intro id l off n v hb ho hle
    rw [cut_length hle]
    rcases ho with ⟨h1, a, h2⟩ | ⟨b, o, m, cap, h1, h2, h3, h4, h5⟩
    · subst h1; exact ⟨a, 0, h2, .inl (by simp [cut])⟩
    · refine ⟨_, cap, h2, ?_⟩
      rcases row hb with ⟨k1, k2⟩ | ⟨b', o', c, el, fz, k1, k2, k3⟩
      · exact .inl (List.length_eq_zero_iff.1 (by rw [cut_length hle]; omega))
      · rw [h1] at k1; cases k1
        refine .inr ⟨b, o + off * e.size, c, el, fz, rfl, k2, ?_, fun i x hi => ?_⟩
        · rw [cut_length hle]
          have h6 := k3.1
          have : (off + n) * e.size ≤ l.length * e.size := Nat.mul_le_mul_right _ hle
          rw [Nat.add_mul] at this
          omega
        · have hin := lget_lt hi
          rw [cut_length hle] at hin
          rw [cut_get hin] at hi
          have := k3.2 (off + i) x hi
          rw [Nat.add_mul, ← Nat.add_assoc] at this
          exact this
  unfold toDM at h
  cases x <;> try (cases h; done)
  case sc t y =>
    obtain ⟨hc, rfl⟩ := opt_go h
    obtain ⟨e', rfl⟩ := cast_some hc
    subst e'
    obtain ⟨cs, hC, rfl⟩ := hr
    obtain ⟨ad, cap, rfl, _⟩ := RepC.sl_iff'.1 hC
    exact ⟨rfl, plain hC⟩
  case nil =>
    have h : (PM.opt (nilD (.sl e))).go g B = some (ys, B') := h
    obtain ⟨hc, rfl⟩ := opt_go h
    cases hc
    simp only [RepP, RepQ, RepS] at hr; subst hr
    exact ⟨rfl, none, 0, rfl, .inl rfl⟩
  case csl e' l =>
    obtain ⟨hc, rfl⟩ := opt_go h
    obtain ⟨ee, rfl⟩ := castL_some hc
    subst ee
    obtain ⟨ad, _, hC⟩ := hr
    exact ⟨rfl, plain hC⟩
  case agg t u =>
    exfalso
    obtain ⟨ha, _⟩ := hr
    have h' : (bif Ty.is t (.sl e) then toDM' false u (.sl e) else .fail : PM (Ty.sl e).den).go g B = some (ys, B') := h
    obtain ⟨hi, _⟩ := bif_go h'
    have := is_eq hi; subst this; cases ha
  case own id ne =>
    have hs : RepS φ (view w M) B (.own id ne) vx := hr
    have h' : (rowM false id e).go g B = some (ys, B') := h
    simp only [rowM, PM.go] at h'
    simp only [RepS] at hs
    generalize hB : B id = bl at h' hs
    cases bl <;> try (cases h'; done)
    · obtain ⟨y, B1, h1, h2⟩ := PM.go_bind_some h'
      obtain ⟨hc, rfl⟩ := opt_go h1
      obtain ⟨ee, rfl⟩ := castL_some hc
      subst ee
      cases h2
      have := piece (.inl hB) hs.1 (by omega)
      rw [cut_all] at this
      exact ⟨rfl, this⟩
    · obtain ⟨hc, rfl⟩ := opt_go h'
      obtain ⟨ee, rfl⟩ := castL_some hc
      subst ee
      have := piece (.inr hB) hs.1 (by omega)
      rw [cut_all] at this
      exact ⟨rfl, this⟩
  case osl id off n =>
    have hs : RepS φ (view w M) B (.osl id off n) vx := hr
    have h' : ((rowM false id e).bind fun x => .ret (cut x off n)).go g B = some (ys, B') := h
    obtain ⟨z, B2, h3, h4⟩ := PM.go_bind_some h'
    cases h4
    simp only [rowM, PM.go] at h3
    simp only [RepS] at hs
    generalize hB : B id = bl at h3 hs
    cases bl <;> try (cases h3; done)
    · obtain ⟨y, B1, h1, h2⟩ := PM.go_bind_some h3
      obtain ⟨hc, rfl⟩ := opt_go h1
      obtain ⟨ee, rfl⟩ := castL_some hc
      subst ee
      cases h2
      exact ⟨rfl, piece (.inl hB) hs.2 hs.1⟩
    · obtain ⟨hc, rfl⟩ := opt_go h3
      obtain ⟨ee, rfl⟩ := castL_some hc
      subst ee
      exact ⟨rfl, piece (.inr hB) hs.2 hs.1⟩
/-! ### the machine's append -/
/-- its second argument: how many, and their cells, in any world of this heap -/
def Sup (P : Program) (w : World) (size n : Nat) (x : Value) (news : List Value) : Prop :=
  (∀ w' : World, (Builtin.lenOf x).run P w' = .ok n w') ∧ ∀ w' : World, w'.heap = w.heap → (Builtin.firstCells size n x).run P w' = .ok news.toArray w'
theorem sup_row {e : Ty} {l : List e.den} {b o : Nat} {c : Array Value} {el : TypeId} {fz : Nat × Nat} {cap : Nat} (hb : w.heap[b]? = some (.cells c el fz)) (hr : Row H e l c o) :
    Sup P w e.size l.length (.slice (some ⟨b, o, none⟩) l.length cap) (seg c o (l.length * e.size)) := by
  refine ⟨fun _ => rfl, fun w' hw => ?_⟩
  simp only [Builtin.firstCells]
  exact run_load_seg (by rw [hw]; exact hb) hr.1
theorem sup_nil (s : Nat) (ad : Option Addr) (cap : Nat) : Sup P w s 0 (.slice ad 0 cap) [] := by
  refine ⟨fun _ => rfl, fun w' _ => ?_⟩
  cases ad <;> simp [Builtin.firstCells, loadCells, loadCellsFrom]
theorem sup_str (l : List UInt8) : Sup P w 1 l.length (.string ⟨l.toArray⟩) (l.map fun b => Value.int .u8 b.toNat) := by
  refine ⟨fun _ => rfl, fun w' _ => ?_⟩
  simp only [Builtin.firstCells]
  have : ((⟨l.toArray⟩ : ByteArray).extract 0 l.length) = ⟨l.toArray⟩ := by
    apply ByteArray.ext
    simp [ByteArray.data_extract]
  simp [this]
theorem run_append_in {t u ty et : TypeId} {i : TypeInfo} {d : TypeDesc} (ht : P.underlying t = some (.slice et)) (hu : P.underlying u = some d) (hd : d = .string ∨ ∃ q, d = .slice q) (hi : P.info? et = some i)
    {x : Value} {n : Nat} {news : List Value} (hx : Sup P w i.size n x news) {b o sLen sCap : Nat} (hroom : sLen + n ≤ sCap) {c : Array Value} {el : TypeId} {fz : Nat × Nat} (hb : w.heap[b]? = some (.cells c el fz)) (hf : okFz c fz)
    (hn : o + sLen * i.size + news.length ≤ c.size) (h1 : ∀ v ∈ news, v.oneCell' = true) :
    ∃ w', (Builtin.append_ #[t, u] ty #[.slice (some ⟨b, o, none⟩) sLen sCap, x]).run P w = .ok (.slice (some ⟨b, o, none⟩) (sLen + n) sCap) w' ∧
      ∃ c' : Array Value, Put1 w w' b (.cells c' el fz) ∧ c'.toList = splice c.toList (o + sLen * i.size) news := by
  obtain ⟨w', h2, c', h3, h4⟩ := run_storeCells' (P := P) (b := b) (el := el) (fz := fz) (o := o + sLen * i.size) news 0 c w hb hf (by omega) h1
  refine ⟨w', ?_, c', h3, by simpa using h4⟩
  have e1 := hx.1 w
  have e2 := hx.2 w rfl
  rcases hd with rfl | ⟨q, rfl⟩ <;> simp [Builtin.append_, run_underlying ht, run_underlying hu, Go.sizeOf, typeInfo, hi, e1, e2, hroom, add_none, h2]
theorem run_append_none {t u ty et : TypeId} {i : TypeInfo} {d : TypeDesc} (ht : P.underlying t = some (.slice et)) (hu : P.underlying u = some d) (hd : d = .string ∨ ∃ q, d = .slice q) (hi : P.info? et = some i)
    {x : Value} (hx : Sup P w i.size 0 x []) {ad : Option Addr} {sCap : Nat} :
    (Builtin.append_ #[t, u] ty #[.slice ad 0 sCap, x]).run P w = .ok (.slice ad 0 sCap) w := by
  have e1 := hx.1 w
  have e2 := hx.2 w rfl
  cases ad <;> (rcases hd with rfl | ⟨q, rfl⟩ <;> simp [Builtin.append_, run_underlying ht, run_underlying hu, Go.sizeOf, typeInfo, hi, e1, e2, storeCells])
theorem run_append_new {t u ty et : TypeId} {i : TypeInfo} {z : Value} {d : TypeDesc} (ht : P.underlying t = some (.slice et)) (hu : P.underlying u = some d) (hd : d = .string ∨ ∃ q, d = .slice q) (hi : P.info? et = some i) (hz : i.zero = some z)
    {x : Value} {n : Nat} {news : List Value} (hx : Sup P w i.size n x news) {ad : Option Addr} {sLen sCap : Nat} {olds : List Value} (ho : Sup P w i.size sLen (.slice ad sLen sCap) olds) (hg : sCap < sLen + n)
    (hmax : sLen + n ≤ maxLen) (hfit : (sLen + n) * i.bytes ≤ 140737488355328) :
    (Builtin.append_ #[t, u] ty #[.slice ad sLen sCap, x]).run P w =
      .ok (.slice (some ⟨w.heap.size, 0, none⟩) (sLen + n) (grownCap w (sLen + n) sCap et))
        (w.drew.alloc (.cells (olds.toArray ++ news.toArray ++ Builtin.zeroCells z.cells (grownCap w (sLen + n) sCap et - (sLen + n))) et)) := by
  have hn : ¬ (sLen + n ≤ sCap) := by omega
  have h63' : ¬ (9223372036854775807 < ((sLen : Int) + (n : Int))) := by unfold maxLen at hmax; omega
  have hfit' := growslice_fits hg hfit
  have h48' : ¬ (281474976710656 < Builtin.nextslicecap (sLen + n) sCap * i.bytes) := by omega
  have e1 := hx.1 w
  have e2 := hx.2 w.drew rfl
  have e3 := ho.2 w.drew rfl
  rcases hd with rfl | ⟨q, rfl⟩ <;> simp [Builtin.append_, run_underlying ht, run_underlying hu, Go.sizeOf, typeInfo, zeroValue, hi, hz, e1, hn, h63', h48', Question.forced, e2, e3, Go.newRow, grownCap] <;> (congr 2; apply Array.ext'; simp)
end
end Yp
