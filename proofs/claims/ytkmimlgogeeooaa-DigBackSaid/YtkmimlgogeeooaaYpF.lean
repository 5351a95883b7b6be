/- The engine, part F: operations on plain values. -/
import Derived.Test.YtkmimlgogeeooaaYpE
set_option linter.unusedVariables false
set_option linter.unusedSimpArgs false
namespace Yp
open Go
variable {P : Program}

theorem wp_value {o : Oper} {a : Act} {w w' : World} {v : Value} {K : Act → World → Prop} {Q : Exit → Act → World → Prop}
    (h : (execOp a.eval o).run P w = .ok (.value v) w') (hk : K (a.put o.dst v) w') : o.wp P a w K Q := by
  unfold Oper.wp; rw [h]; exact hk
theorem wp_skip' {o : Oper} {a : Act} {w w' : World} {K : Act → World → Prop} {Q : Exit → Act → World → Prop}
    (h : (execOp a.eval o).run P w = .ok .skip w') (hk : K (a.put o.dst undef) w') : o.wp P a w K Q := by
  unfold Oper.wp; rw [h]; exact hk
theorem eqGuard_int (op : BinOp) (t : TypeId) (x y : Operand) (k k' : IntKind) (n m : Int) (w : World) : (eqGuard op t x y (.int k n) (.int k' m)).run P w = .ok () w := by
  unfold eqGuard; cases op <;> rfl
theorem eqGuard_str (op : BinOp) (t : TypeId) (x y : Operand) (n m : ByteArray) (w : World) : (eqGuard op t x y (.string n) (.string m)).run P w = .ok () w := by
  unfold eqGuard; cases op <;> rfl
theorem wrap_fit (k : IntKind) (n : Int) (h1 : k.min ≤ n) (h2 : n ≤ k.max) : k.wrap n = n := by
  cases k <;> simp [IntKind.min, IntKind.max, IntKind.signed, IntKind.bits, IntKind.wrap] at * <;> omega
theorem KD.to_uns (k : IntKind) (x : KD k) (h : uns k = true) : 0 ≤ KD.to k x := by
  cases k <;> first | cases h; done | exact Int.natCast_nonneg _
/-- a number that is the kind's, where the kind is unsigned -/
theorem KD.lit_in (k : IntKind) (n : Int) (h : uns k = true → 0 ≤ n ∧ n ≤ k.max) : KD.to k (KD.lit k n) = n := by
  apply KD.to_lit
  cases k <;> first
    | rfl
    | (have := h rfl; cases n with
        | ofNat m => simp [litOK, IntKind.max, IntKind.signed, IntKind.bits] at *; omega
        | negSucc m => omega)
theorem KD.to_max (k : IntKind) (x : KD k) (h : uns k = true) : KD.to k x ≤ k.max := by
  cases k with
  | u8 => have := UInt8.toNat_lt x; simp only [KD.to, n8, IntKind.max, IntKind.signed, IntKind.bits]; simp; omega
  | u16 => have := UInt16.toNat_lt x; simp only [KD.to, n16, IntKind.max, IntKind.signed, IntKind.bits]; simp; omega
  | u32 => have := UInt32.toNat_lt x; simp only [KD.to, n32, IntKind.max, IntKind.signed, IntKind.bits]; simp; omega
  | u64 => have := UInt64.toNat_lt x; simp only [KD.to, n64, IntKind.max, IntKind.signed, IntKind.bits]; simp; omega
  | _ => cases h
theorem run_pure' {α : Type} (a : α) (w : World) : (pure a : Sem α).run P w = .ok a w := rfl
theorem binI_go {nz : Bool} {op : BinOp} {k : IntKind} {x y : KD k} {g : Nat → PV} {B B' : Nat → Blk} {v : PV} (h : (binI nz op k x y).go g B = some (v, B'))
    (hnz : nz = true → KD.to k y ≠ 0) (t : TypeId) (w : World) (φ : Pl) (H : View) :
    B' = B ∧ ∃ v', (binOp op t (.int k (KD.to k x)) (.int k (KD.to k y))).run P w = .ok v' w ∧ RepP φ H B v v' := by
  have hof : ∀ n : Int, RepP φ H B (.sc (.int k) (KD.of k n)) (.int k (k.wrap n)) := fun n => by
    have := RepP.mk_int φ H B k (KD.of k n)
    rwa [KD.to_of] at this
  have hb : ∀ b : Bool, RepP φ H B (.sc .bool b) (.bool b) := RepP.mk_bool φ H B
  cases op <;> simp only [binI] at h
  all_goals try (cases h; done)
  case add => cases h; exact ⟨rfl, _, by simp [binOp, Op.intArith, iadd, isub, imul], hof _⟩
  case sub => cases h; exact ⟨rfl, _, by simp [binOp, Op.intArith, iadd, isub, imul], hof _⟩
  case mul => cases h; exact ⟨rfl, _, by simp [binOp, Op.intArith, iadd, isub, imul], hof _⟩
  case and => cases h; exact ⟨rfl, _, by simp [binOp, Op.intBits, andI, orI, xorI, notI], hof _⟩
  case or => cases h; exact ⟨rfl, _, by simp [binOp, Op.intBits, andI, orI, xorI, notI], hof _⟩
  case xor => cases h; exact ⟨rfl, _, by simp [binOp, Op.intBits, andI, orI, xorI, notI], hof _⟩
  case andNot => cases h; exact ⟨rfl, _, by simp [binOp, Op.intBits, andI, orI, xorI, notI], hof _⟩
  case eql => cases h; exact ⟨rfl, _, by simp [binOp, Op.intCmp, beq, bnot, lt, le, bne], hb _⟩
  case neq => cases h; exact ⟨rfl, _, by simp [binOp, Op.intCmp, beq, bnot, lt, le, bne], hb _⟩
  case lss => cases h; exact ⟨rfl, _, by simp [binOp, Op.intCmp, beq, bnot, lt, le, bne], hb _⟩
  case leq => cases h; exact ⟨rfl, _, by simp [binOp, Op.intCmp, beq, bnot, lt, le, bne], hb _⟩
  case gtr => cases h; exact ⟨rfl, _, by simp [binOp, Op.intCmp, beq, bnot, lt, le, bne], hb _⟩
  case geq => cases h; exact ⟨rfl, _, by simp [binOp, Op.intCmp, beq, bnot, lt, le, bne], hb _⟩
  case quo =>
    have key : KD.to k y ≠ 0 ∧ B' = B ∧ v = .sc (.int k) (KD.of k (idiv (KD.to k x) (KD.to k y))) := by
      cases nz with
      | true => cases h; exact ⟨hnz rfl, rfl, rfl⟩
      | false =>
        simp only [chkU, cond, PM.go] at h
        split at h
        · rename_i hc; cases h; exact ⟨by simpa [bnot, beq] using hc, rfl, rfl⟩
        · cases h
    obtain ⟨h0, hB, rfl⟩ := key
    exact ⟨hB, _, by simp [binOp, Op.intDiv, h0, idiv], hof _⟩
  case rem =>
    have key : KD.to k y ≠ 0 ∧ B' = B ∧ v = .sc (.int k) (KD.lit k (imod (KD.to k x) (KD.to k y))) := by
      cases nz with
      | true => cases h; exact ⟨hnz rfl, rfl, rfl⟩
      | false =>
        simp only [chkU, cond, PM.go] at h
        split at h
        · rename_i hc; cases h; exact ⟨by simpa [bnot, beq] using hc, rfl, rfl⟩
        · cases h
    obtain ⟨h0, hB, rfl⟩ := key
    refine ⟨hB, _, by simp [binOp, Op.intDiv, h0]; rfl, ?_⟩
    have hm := RepP.mk_int φ H B k (KD.lit k (imod (KD.to k x) (KD.to k y)))
    rw [KD.lit_in] at hm
    · exact hm
    · intro hu
      have h1 := KD.to_uns k x hu; have h2 := KD.to_uns k y hu; have h3 := KD.to_max k y hu
      unfold imod
      have h4 := Int.tmod_nonneg (KD.to k y) h1
      have h5 : (KD.to k x).tmod (KD.to k y) < KD.to k y := Int.tmod_lt_of_pos _ (by omega)
      omega
theorem binS_go {op : BinOp} {x y : List UInt8} {g : Nat → PV} {B B' : Nat → Blk} {v : PV} (h : (binS op x y).go g B = some (v, B')) (t : TypeId) (w : World) (φ : Pl) (H : View) :
    B' = B ∧ ∃ v', (binOp op t (.string ⟨x.toArray⟩) (.string ⟨y.toArray⟩)).run P w = .ok v' w ∧ RepP φ H B v v' := by
  have hb : ∀ b : Bool, RepP φ H B (.sc .bool b) (.bool b) := RepP.mk_bool φ H B
  have hl : ∀ z : List UInt8, ByteArray.toList ⟨z.toArray⟩ = z := fun z => by rw [ByteArray.toList_eq]
  cases op <;> simp only [binS] at h
  all_goals try (cases h; done)
  case add =>
    simp only [PM.go] at h
    split at h
    · rename_i hc
      cases h
      refine ⟨rfl, _, ?_, RepP.mk_str φ H B (app x y)⟩
      have hs : ¬ ((x.length + y.length : Nat) : Int) > IntKind.i64.max := by
        have hc' : ((x.length : Int) + (y.length : Int)) ≤ 140737488355328 := of_decide_eq_true hc
        simp only [IntKind.max, IntKind.signed, IntKind.bits]
        simp
        omega
      have hz : (⟨x.toArray⟩ ++ ⟨y.toArray⟩ : ByteArray) = ⟨(app x y).toArray⟩ := by
        apply ByteArray.ext
        simp [app, ByteArray.data_append]
      have h1 : (⟨x.toArray⟩ : ByteArray).size = x.length := rfl
      have h2 : (⟨y.toArray⟩ : ByteArray).size = y.length := rfl
      simp only [binOp, Op.stringOp, h1, h2, if_neg hs, hz]
      rfl
    · cases h
  case eql => cases h; exact ⟨rfl, _, by simp [binOp, Op.stringOp, hl, seq], hb _⟩
  case neq => cases h; exact ⟨rfl, _, by simp [binOp, Op.stringOp, hl, seq, bnot], hb _⟩
  case lss => cases h; exact ⟨rfl, _, by simp [binOp, Op.stringOp, hl, seq, bytesLess], hb _⟩
  case leq => cases h; exact ⟨rfl, _, by simp [binOp, Op.stringOp, hl, seq, bytesLess, bor], hb _⟩
  case gtr => cases h; exact ⟨rfl, _, by simp [binOp, Op.stringOp, hl, seq, bytesLess, bor, bnot], hb _⟩
  case geq => cases h; exact ⟨rfl, _, by simp [binOp, Op.stringOp, hl, seq, bytesLess, bor, bnot], hb _⟩
end Yp
