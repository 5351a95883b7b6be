/- The engine, part C: what it means that memory holds data. -/
import Derived.Test.YtkmimlgogeeooaaYpB
set_option linter.unusedVariables false
set_option linter.unusedSimpArgs false
namespace Yp
open Go

/-! ### numbers -/
theorem KD.to_of (k : IntKind) (n : Int) : KD.to k (KD.of k n) = k.wrap n := by
  cases k <;> simp only [KD.to, KD.of, i64, i32, i16, i8, u8, u16, u32, u64, n8, n16, n32, n64]
  · rw [UInt8.ofInt, UInt8.toNat_ofNat']; simp [IntKind.wrap, IntKind.signed, IntKind.bits]; omega
  · rw [UInt16.ofInt, UInt16.toNat_ofNat']; simp [IntKind.wrap, IntKind.signed, IntKind.bits]; omega
  · rw [UInt32.ofInt, UInt32.toNat_ofNat']; simp [IntKind.wrap, IntKind.signed, IntKind.bits]; omega
  · rw [UInt64.ofInt, UInt64.toNat_ofNat']; simp [IntKind.wrap, IntKind.signed, IntKind.bits]; omega
theorem KD.to_lit (k : IntKind) (n : Int) (h : litOK k n = true) : KD.to k (KD.lit k n) = n := by
  cases k <;> cases n <;> simp only [KD.to, KD.lit, u8, u16, u32, u64, n8, n16, n32, n64, litOK, Nat.blt_eq, Bool.false_eq_true] at h ⊢
  · rw [UInt8.ofInt, UInt8.toNat_ofNat']; simp; omega
  · rw [UInt16.ofInt, UInt16.toNat_ofNat']; simp; omega
  · rw [UInt32.ofInt, UInt32.toNat_ofNat']; simp; omega
  · rw [UInt64.ofInt, UInt64.toNat_ofNat']; simp; omega

/-! ### cells -/
def seg (c : Array Value) (o n : Nat) : List Value := (c.toList.drop o).take n
abbrev lget {α : Type} (l : List α) (i : Nat) : Option α := l[i]?
abbrev View := Nat → Option Obj
def View.Le (H H' : View) : Prop := ∀ b o, H b = some o → H' b = some o
theorem View.Le.refl (H : View) : H.Le H := fun _ _ h => h
theorem View.Le.trans {H H' H'' : View} (h : H.Le H') (g : H'.Le H'') : H.Le H'' := fun b o e => g b o (h b o e)

/-- cells that hold a datum -/
def RepC (H : View) : (t : Ty) → t.den → List Value → Prop
  | .bool, b, cs => cs = [.bool b]
  | .int k, x, cs => cs = [.int k (KD.to k x)]
  | .str, s, cs => cs = [.string ⟨(s : List UInt8).toArray⟩]
  | .sl e, l, cs => ∃ a cap, cs = [.slice a (l : List e.den).length cap] ∧ (l : List e.den).length ≤ cap ∧ cap ≤ maxLen ∧
      ((l : List e.den) = [] ∨ ∃ b o c el fz, a = some ⟨b, o, none⟩ ∧ H b = some (.cells c el fz) ∧ o + (l : List e.den).length * e.size ≤ c.size ∧
        ∀ (i : Nat) (x : e.den), lget (α := e.den) l i = some x → RepC H e x (seg c (o + i * e.size) e.size))
  | .unit, _, cs => cs = []
  | .pair a b, x, cs => ∃ c1 c2, cs = c1 ++ c2 ∧ RepC H a x.1 c1 ∧ RepC H b x.2 c2
  | .ar n e, l, cs => (l : List e.den).length = n ∧ cs.length = n * e.size ∧
      ∀ (i : Nat) (x : e.den), lget (α := e.den) l i = some x → RepC H e x ((cs.drop (i * e.size)).take e.size)

theorem RepC.length {H : View} : ∀ {t : Ty} {x : t.den} {cs : List Value}, RepC H t x cs → cs.length = t.size
  | .bool, _, _, h => by rw [RepC] at h; rw [h]; rfl
  | .int _, _, _, h => by rw [RepC] at h; rw [h]; rfl
  | .str, _, _, h => by rw [RepC] at h; rw [h]; rfl
  | .sl _, _, _, h => by rw [RepC] at h; obtain ⟨a, cap, h, _⟩ := h; rw [h]; rfl
  | .unit, _, _, h => by rw [RepC] at h; rw [h]; rfl
  | .pair a b, _, _, h => by
    rw [RepC] at h; obtain ⟨c1, c2, h, h1, h2⟩ := h
    rw [h, List.length_append, RepC.length h1, RepC.length h2]; rfl
  | .ar n e, _, _, h => by rw [RepC] at h; exact h.2.1

theorem RepC.mono {H H' : View} (hl : H.Le H') : ∀ {t : Ty} {x : t.den} {cs : List Value}, RepC H t x cs → RepC H' t x cs
  | .bool, _, _, h => by rw [RepC] at h ⊢; exact h
  | .int _, _, _, h => by rw [RepC] at h ⊢; exact h
  | .str, _, _, h => by rw [RepC] at h ⊢; exact h
  | .sl e, _, _, h => by
    rw [RepC] at h ⊢
    obtain ⟨a, cap, h, hc, hm, h2⟩ := h
    refine ⟨a, cap, h, hc, hm, ?_⟩
    rcases h2 with h2 | ⟨b, o, c, el, fz, ha, hb, hs, hx⟩
    · exact .inl h2
    · exact .inr ⟨b, o, c, el, fz, ha, hl _ _ hb, hs, fun i x hi => RepC.mono hl (hx i x hi)⟩
  | .unit, _, _, h => by rw [RepC] at h ⊢; exact h
  | .pair a b, _, _, h => by
    rw [RepC] at h ⊢; obtain ⟨c1, c2, h, h1, h2⟩ := h
    exact ⟨c1, c2, h, RepC.mono hl h1, RepC.mono hl h2⟩
  | .ar n e, _, _, h => by
    rw [RepC] at h ⊢
    exact ⟨h.1, h.2.1, fun i x hi => RepC.mono hl (h.2.2 i x hi)⟩

theorem mem_chunk {α : Type} (n e : Nat) (cs : List α) (h : cs.length = n * e) (v : α) (hv : v ∈ cs) : ∃ i, i < n ∧ v ∈ (cs.drop (i * e)).take e := by
  obtain ⟨j, hj, rfl⟩ := List.getElem_of_mem hv
  have he : 0 < e := by rcases Nat.eq_zero_or_pos e with h0 | h0; · subst h0; simp at h; subst h; simp at hj
                        · exact h0
  refine ⟨j / e, ?_, ?_⟩
  · exact Nat.div_lt_of_lt_mul (by rw [Nat.mul_comm]; omega)
  · rw [List.mem_iff_getElem]
    have hm : j % e < e := Nat.mod_lt _ he
    have hd : j / e * e + j % e = j := by rw [Nat.mul_comm]; exact Nat.div_add_mod j e
    have hlen : j % e < ((cs.drop (j / e * e)).take e).length := by
      rw [List.length_take, List.length_drop]; omega
    refine ⟨j % e, hlen, ?_⟩
    rw [List.getElem_take, List.getElem_drop]
    congr 1

theorem RepC.one {H : View} : ∀ {t : Ty} {x : t.den} {cs : List Value}, RepC H t x cs → ∀ v ∈ cs, v.oneCell' = true
  | .bool, _, _, h => by rw [RepC] at h; subst h; simp [Value.oneCell']
  | .int _, _, _, h => by rw [RepC] at h; subst h; simp [Value.oneCell']
  | .str, _, _, h => by rw [RepC] at h; subst h; simp [Value.oneCell']
  | .sl _, _, _, h => by rw [RepC] at h; obtain ⟨a, cap, h, _⟩ := h; subst h; simp [Value.oneCell']
  | .unit, _, _, h => by rw [RepC] at h; subst h; simp
  | .pair a b, _, _, h => by
    rw [RepC] at h; obtain ⟨c1, c2, h, h1, h2⟩ := h
    subst h
    intro v hv
    rcases List.mem_append.1 hv with hv | hv
    · exact RepC.one h1 v hv
    · exact RepC.one h2 v hv
  | .ar n e, x, cs, h => by
    rw [RepC] at h
    obtain ⟨hn, hl, hx⟩ := h
    intro v hv
    obtain ⟨i, hi, hm⟩ := mem_chunk n e.size cs hl v hv
    have : i < (x : List e.den).length := by omega
    exact RepC.one (hx i _ (List.getElem?_eq_getElem this)) v hm

/-- the value whose cells are these -/
def mkV (t : Ty) (cs : List Value) : Value := if t.isAgg then .agg cs.toArray else cs.headD undef
theorem mkV_cells {H : View} {t : Ty} {x : t.den} {cs : List Value} (h : RepC H t x cs) : (mkV t cs).cells = cs.toArray := by
  cases t with
  | unit => rfl
  | pair a b => rfl
  | ar n e => rfl
  | bool => rw [RepC] at h; subst h; rfl
  | int k => rw [RepC] at h; subst h; rfl
  | str => rw [RepC] at h; subst h; rfl
  | sl e => rw [RepC] at h; obtain ⟨a, cap, h, _⟩ := h; subst h; rfl
theorem seg_length {c : Array Value} {o n : Nat} (h : o + n ≤ c.size) : (seg c o n).length = n := by
  simp [seg]; omega
theorem seg_get {c : Array Value} {o n i : Nat} (h : i < n) : (seg c o n)[i]? = c[o + i]? := by
  simp [seg, h]
theorem seg_seg (c : Array Value) (o n p m : Nat) (h : p + m ≤ n) : ((seg c o n).drop p).take m = seg c (o + p) m := by
  unfold seg
  rw [List.drop_take, List.take_take, List.drop_drop, Nat.min_eq_left (by omega)]
theorem seg_add (c : Array Value) (o m n : Nat) : seg c o (m + n) = seg c o m ++ seg c (o + m) n := by
  unfold seg
  rw [List.take_add, List.drop_drop]
theorem RepC.int_iff {H : View} {k : IntKind} {x : (Ty.int k).den} {cs : List Value} : RepC H (.int k) x cs ↔ cs = [.int k (KD.to k x)] := by rw [RepC]
theorem RepC.bool_iff {H : View} {x : Ty.bool.den} {cs : List Value} : RepC H .bool x cs ↔ cs = [.bool x] := by rw [RepC]
theorem RepC.str_iff {H : View} {x : Ty.str.den} {cs : List Value} : RepC H .str x cs ↔ cs = [.string ⟨(x : List UInt8).toArray⟩] := by rw [RepC]
theorem RepC.unit_iff {H : View} {x : Ty.unit.den} {cs : List Value} : RepC H .unit x cs ↔ cs = [] := by rw [RepC]
theorem RepC.pair_iff {H : View} {a b : Ty} {x : (Ty.pair a b).den} {cs : List Value} : RepC H (.pair a b) x cs ↔ ∃ c1 c2, cs = c1 ++ c2 ∧ RepC H a x.1 c1 ∧ RepC H b x.2 c2 := by rw [RepC]
theorem RepC.ar_iff' {H : View} {n : Nat} {e : Ty} {l : (Ty.ar n e).den} {cs : List Value} : RepC H (.ar n e) l cs ↔ (l : List e.den).length = n ∧ cs.length = n * e.size ∧
    ∀ (i : Nat) (x : e.den), lget (α := e.den) l i = some x → RepC H e x ((cs.drop (i * e.size)).take e.size) := by rw [RepC]
theorem RepC.ar_iff {H : View} {n : Nat} {e : Ty} {l : List e.den} {cs : List Value} : RepC H (.ar n e) l cs ↔ l.length = n ∧ cs.length = n * e.size ∧
    ∀ (i : Nat) (x : e.den), lget l i = some x → RepC H e x ((cs.drop (i * e.size)).take e.size) := RepC.ar_iff'
theorem RepC.sl_iff' {H : View} {e : Ty} {l : (Ty.sl e).den} {cs : List Value} : RepC H (.sl e) l cs ↔ ∃ a cap, cs = [.slice a (l : List e.den).length cap] ∧ (l : List e.den).length ≤ cap ∧ cap ≤ maxLen ∧
      ((l : List e.den) = [] ∨ ∃ b o c el fz, a = some ⟨b, o, none⟩ ∧ H b = some (.cells c el fz) ∧ o + (l : List e.den).length * e.size ≤ c.size ∧
        ∀ (i : Nat) (x : e.den), lget (α := e.den) l i = some x → RepC H e x (seg c (o + i * e.size) e.size)) := by rw [RepC]
theorem RepC.sl_iff {H : View} {e : Ty} {l : List e.den} {cs : List Value} : RepC H (.sl e) l cs ↔ ∃ a cap, cs = [.slice a l.length cap] ∧ l.length ≤ cap ∧ cap ≤ maxLen ∧
      (l = [] ∨ ∃ b o c el fz, a = some ⟨b, o, none⟩ ∧ H b = some (.cells c el fz) ∧ o + l.length * e.size ≤ c.size ∧
        ∀ (i : Nat) (x : e.den), lget l i = some x → RepC H e x (seg c (o + i * e.size) e.size)) := RepC.sl_iff'
end Yp
