/- The engine, part I: operations without memory. -/
import Derived.Test.YtkmimlgogeeooaaYpH
set_option linter.unusedVariables false
set_option linter.unusedSimpArgs false
namespace Yp
open Go
variable {P : Program}

theorem unP_go {op : UnOp} {p : PV} {g : Nat → PV} {B B' : Nat → Blk} {v : PV} (h : (unP op p).go g B = some (v, B')) {x : Value} {φ : Pl} {H : View} (hx : RepP φ H B p x) (w : World) :
    B' = B ∧ ∃ v', (Op.unary op x).run P w = .ok v' w ∧ RepP φ H B v v' := by
  have hof : ∀ (k : IntKind) (n : Int), RepP φ H B (.sc (.int k) (KD.of k n)) (.int k (k.wrap n)) := fun k n => by
    have := RepP.mk_int φ H B k (KD.of k n)
    rwa [KD.to_of] at this
  unfold unP at h
  split at h
  · rename_i b
    cases h
    simp only [RepP, RepQ, RepS] at hx; subst hx
    exact ⟨rfl, _, rfl, rfl⟩
  · rename_i b
    cases h
    rw [hx.bool]
    exact ⟨rfl, _, rfl, RepP.mk_bool _ _ _ _⟩
  · rename_i k n
    cases h
    rw [hx.int]
    exact ⟨rfl, _, by simp [Op.unary, Op.intArith]; rfl, by simpa [isub] using hof k (0 - KD.to k n)⟩
  · rename_i k n
    cases h
    rw [hx.int]
    exact ⟨rfl, _, by cases k <;> rfl, hof k _⟩
  · cases h
theorem extractP_go {p : PV} {i : Nat} {g : Nat → PV} {B B' : Nat → Blk} {v : PV} (h : (extractP p i).go g B = some (v, B')) {x : Value} {φ : Pl} {H : View} (hx : RepP φ H B p x) (w : World) :
    B' = B ∧ ∃ v', (Instr.extract x i).run P w = .ok v' w ∧ RepQ φ H B v v' := by
  unfold extractP at h
  split at h
  · rename_i a
    obtain ⟨h, hB⟩ := opt_go h
    obtain ⟨vs, hl, rfl⟩ := hx
    refine ⟨hB, ?_⟩
    have key : ∀ (i : Nat) (a : PV) (vs : List Value), getp a (fieldSel i) = some v → RepL φ H B a vs → ∃ v', vs[i]? = some v' ∧ RepQ φ H B v v' := by
      intro i
      induction i with
      | zero =>
        intro a vs h hl
        cases a <;> simp only [fieldSel, getp] at h <;> try (cases h; done)
        · rename_i t y
          cases t <;> (try simp only [getp] at h) <;> try (cases h; done)
          exact hl.elim
        · obtain ⟨u, us, rfl, h1, h2⟩ := hl
          (try simp only [getp] at h); cases h
          exact ⟨u, rfl, h1⟩
      | succ i ih =>
        intro a vs h hl
        cases a <;> simp only [fieldSel, getp] at h <;> try (cases h; done)
        · rename_i t y
          cases t <;> (try simp only [getp] at h) <;> try (cases h; done)
          exact hl.elim
        · obtain ⟨u, us, rfl, h1, h2⟩ := hl
          obtain ⟨v', h3, h4⟩ := ih _ _ h h2
          exact ⟨v', by simpa using h3, h4⟩
    obtain ⟨v', h1, h2⟩ := key i a vs h hl
    refine ⟨v', ?_, h2⟩
    simp [Instr.extract, h1]
  · cases h
theorem pickP_go {c a b : PV} {g : Nat → PV} {B B' : Nat → Blk} {v : PV} (h : (pickP c a b).go g B = some (v, B')) {x y z : Value} {φ : Pl} {H : View}
    (hc : RepP φ H B c x) (ha : RepP φ H B a y) (hb : RepP φ H B b z) (w : World) :
    B' = B ∧ ∃ v', (do pure (Next.value (if ← asBool x then y else z)) : Sem Next).run P w = .ok (.value v') w ∧ RepP φ H B v v' := by
  have fin : ∀ (t : Ty) (c : Bool) (p q : t.den), RepP φ H B (.sc t p) y → RepP φ H B (.sc t q) z → x = .bool c →
      ∃ v', (do pure (Next.value (if ← asBool x then y else z)) : Sem Next).run P w = .ok (.value v') w ∧ RepP φ H B (.sc t (sel c p q)) v' := by
    intro t c p q h1 h2 h3
    subst h3
    cases c with
    | true => exact ⟨y, rfl, h1⟩
    | false => exact ⟨z, rfl, h2⟩
  unfold pickP at h
  split at h
  · rename_i c
    cases h
    simp only [RepP, RepQ, RepS] at hc; subst hc
    cases c with
    | true => exact ⟨rfl, y, rfl, ha⟩
    | false => exact ⟨rfl, z, rfl, hb⟩
  · rename_i c
    split at h
    · rename_i t p
      split at h
      · rename_i q hq
        cases h
        exact ⟨rfl, fin t c p q ha (toD_P hq hb) hc.bool⟩
      · cases h
    · rename_i p
      split at h
      · rename_i q hq
        cases h
        refine ⟨rfl, fin .bool c p q ?_ (toD_P hq hb) hc.bool⟩
        simp only [RepP, RepQ, RepS] at ha; rw [ha]; exact RepP.mk_bool _ _ _ _
      · cases h
    · cases h
  · cases h
theorem inB_iff {i n : Int} : inB i n = true ↔ 0 ≤ i ∧ i < n := by simp [inB]
theorem index_str_go {l : List UInt8} {i : Int} {g : Nat → PV} {B B' : Nat → Blk} {v : PV} (h : (indexP .str (.sc .str l) i).go g B = some (v, B')) {tid : TypeId} (hu : P.underlying tid = some .string) (k : IntKind)
    {φ : Pl} {H : View} (w : World) : B' = B ∧ ∃ v', (Instr.index tid (.string ⟨l.toArray⟩) (.int k i)).run P w = .ok v' w ∧ RepP φ H B v v' := by
  simp only [indexP, PM.go] at h
  split at h
  · rename_i hc
    cases h
    obtain ⟨h0, h1⟩ := inB_iff.1 hc
    have hlt : i.toNat < l.length := by unfold len at h1; omega
    have hs : i.toNat < (⟨l.toArray⟩ : ByteArray).size := hlt
    have hg : (⟨l.toArray⟩ : ByteArray)[i.toNat]? = some l[i.toNat] := by
      rw [getElem?_pos (⟨l.toArray⟩ : ByteArray) i.toNat hs]; rfl
    refine ⟨rfl, .int .u8 (l[i.toNat].toNat : Int), ?_, ?_⟩
    · simp [Instr.index, asIntOf, run_underlying hu, h0, hg]
    · have e : nth l (nat i) (u8 0) = l[i.toNat] := by simp [nth, nat, hlt]
      show RepP φ H B (.sc (.int .u8) (nth l (nat i) (u8 0) : KD .u8)) _
      rw [show (nth l (nat i) (u8 0) : KD .u8) = l[i.toNat] from e]
      exact RepP.mk_int φ H B .u8 l[i.toNat]
  · cases h
theorem inC_iff {lo hi n : Int} : inC lo hi n = true ↔ 0 ≤ lo ∧ lo ≤ hi ∧ hi ≤ n := by simp [inC, and_assoc]
/-- the bounds of a slice expression, as the machine works them out -/
theorem sliceBounds_go {isSlice : Bool} {n cap : Nat} {lo hi : Option Int} {ks kh : IntKind} (hcap : n ≤ cap) (h : inC (boundO lo 0) (boundO hi n) n = true) (w : World) :
    (Instr.sliceBounds isSlice n cap (lo.map fun i => .int ks i) (hi.map fun i => .int kh i) none).run P w = .ok ((boundO lo 0).toNat, (boundO hi n).toNat, cap) w := by
  obtain ⟨h1, h2, h3⟩ := inC_iff.1 h
  cases lo with
  | none =>
    cases hi with
    | none => simp [Instr.sliceBounds, boundO]
    | some hi =>
      simp only [boundO] at h1 h2 h3 ⊢
      have g1 : 0 ≤ hi ∧ hi ≤ (cap : Int) := ⟨by omega, by omega⟩
      simp [Instr.sliceBounds, Instr.sliceBound, asIntOf, g1]
  | some lo =>
    cases hi with
    | none =>
      simp only [boundO] at h1 h2 h3 ⊢
      have g1 : 0 ≤ lo ∧ lo ≤ (n : Int) := ⟨h1, by omega⟩
      simp [Instr.sliceBounds, Instr.sliceBound, asIntOf, g1]
    | some hi =>
      simp only [boundO] at h1 h2 h3 ⊢
      have g1 : 0 ≤ hi ∧ hi ≤ (cap : Int) := ⟨by omega, by omega⟩
      have g2 : 0 ≤ lo ∧ lo ≤ ((hi.toNat : Nat) : Int) := ⟨h1, by omega⟩
      simp [Instr.sliceBounds, Instr.sliceBound, asIntOf, g1, g2]
      omega
theorem optI_go {o : Option Operand} {g : Nat → PV} {B B' : Nat → Blk} {r : Option Int} (h : (optI o).go g B = some (r, B')) {φ : Pl} {H : View} {a : Act} (hs : Slots φ H B g a) :
    B' = B ∧ ∃ k, o.map a.eval = r.map fun i => .int k i := by
  cases o with
  | none => cases h; exact ⟨rfl, .i64, rfl⟩
  | some x =>
    obtain ⟨v, B1, h1, h⟩ := PM.go_bind_some h
    obtain ⟨hB, hv⟩ := opd_go h1 hs
    obtain ⟨n, B2, h2, h⟩ := PM.go_bind_some h
    cases h
    cases v <;> try (cases h2; done)
    rename_i t y
    cases t <;> try (cases h2; done)
    rename_i k
    cases h2
    exact ⟨hB, k, by simp only [Option.map_some, hv.int]⟩
theorem slice_str_go {l : List UInt8} {lo hi : Option Int} {g : Nat → PV} {B B' : Nat → Blk} {v : PV} (h : (sliceP .str (.sc .str l) lo hi none).go g B = some (v, B')) {tid : TypeId} (hu : P.underlying tid = some .string)
    (ks kh : IntKind) {φ : Pl} {H : View} (w : World) :
    B' = B ∧ ∃ v', (Instr.sliceAt tid (.string ⟨l.toArray⟩) (lo.map fun i => .int ks i) (hi.map fun i => .int kh i) none).run P w = .ok v' w ∧ RepP φ H B v v' := by
  have h : (if inC (boundO lo 0) (boundO hi (len l)) (len l) = true then some (PV.sc .str (sub l (boundO lo 0) (boundO hi (len l))), B) else none) = some (v, B') := h
  split at h
  · rename_i hc
    cases h
    have hb := sliceBounds_go (P := P) (isSlice := false) (ks := ks) (kh := kh) (Nat.le_refl l.length) hc w
    have hsz : (⟨l.toArray⟩ : ByteArray).size = l.length := rfl
    refine ⟨rfl, .string ⟨(sub l (boundO lo 0) (boundO hi l.length)).toArray⟩, ?_, RepP.mk_str _ _ _ _⟩
    have he : (⟨l.toArray⟩ : ByteArray).extract (boundO lo 0).toNat (boundO hi l.length).toNat = ⟨(sub l (boundO lo 0) (boundO hi l.length)).toArray⟩ := by
      apply ByteArray.ext
      simp [sub, ByteArray.data_extract]
    simp [Instr.sliceAt, Instr.slice, run_underlying hu, hsz, hb, he]
  · cases h
end Yp
