/- The engine, part E: what one operation of the evaluator means. -/
import Derived.Test.YtkmimlgogeeooaaYpC4
set_option linter.unusedVariables false
set_option linter.unusedSimpArgs false
namespace Yp
open Go

/-- an operation's program, on slots and blocks as functions -/
def PM.go {α : Type} (g : Nat → PV) : PM α → (Nat → Blk) → Option (α × (Nat → Blk))
  | .fail, _ => none
  | .ret a, B => some (a, B)
  | .chk c k, B => if c = true then k.go g B else none
  | .br c x y, B => if c = true then x.go g B else y.go g B
  | .bo _ o k, B => (match o with | some a => (k a).go g B | none => none)
  | .rt i k, B => (k (g i)).go g B
  | .rb i k, B => (k (B i)).go g B
  | .wb i b k, B => k.go g (updB B i b)
theorem PM.go_bind {α β : Type} (g : Nat → PV) (m : PM α) (f : α → PM β) (B : Nat → Blk) :
    (m.bind f).go g B = (match m.go g B with | some (a, B') => (f a).go g B' | none => none) := by
  induction m generalizing B with
  | fail => rfl
  | ret a => rfl
  | chk c k ih => simp only [PM.bind, PM.go]; split <;> simp [ih]
  | br c x y hx hy => simp only [PM.bind, PM.go]; split <;> simp [hx, hy]
  | bo d o k ih => cases o <;> simp only [PM.bind, PM.go, ih]
  | rt i k ih => simp only [PM.bind, PM.go, ih]
  | rb i k ih => simp only [PM.bind, PM.go, ih]
  | wb i b k ih => simp only [PM.bind, PM.go, ih]
theorem PM.go_bind_some {α β : Type} {g : Nat → PV} {m : PM α} {f : α → PM β} {B : Nat → Blk} {r : β × (Nat → Blk)} (h : (m.bind f).go g B = some r) :
    ∃ a B', m.go g B = some (a, B') ∧ (f a).go g B' = some r := by
  rw [PM.go_bind] at h
  split at h
  · rename_i a B' hm; exact ⟨a, B', hm, h⟩
  · cases h

/-- blocks as an operation has left them so far -/
def overW (B : Nat → Blk) (wr : List (Nat × Blk)) : Nat → Blk := fun id => lookW wr id (B id)
theorem overW_cons (B : Nat → Blk) (i : Nat) (b : Blk) (wr : List (Nat × Blk)) : overW B ((i, b) :: wr) = updB (overW B wr) i b := by
  funext j
  simp only [overW, lookW, updB]
  by_cases h : i = j
  · subst h; rw [Nat.beq_refl]; simp
  · have : Nat.beq i j = false := by cases hb : Nat.beq i j with
      | false => rfl
      | true => exact absurd (Nat.eq_of_beq_eq_true hb) h
    rw [this]; simp [Ne.symm h]
/-- what the tree of an operation's run comes to -/
theorem PM.run_ev {α β : Type} (s : St) (m : PM α) : ∀ (qt : Nat) (qb : List Nat) (wr : List (Nat × Blk)) (k : α × Eff → R β) (r : β), ((m.run s qt qb wr).bind k).ev = some r →
    ∃ a e, m.go s.getT (overW s.getB wr) = some (a, overW s.getB e.wr) ∧ (k (a, e)).ev = some r := by
  induction m with
  | fail => intro qt qb wr k r h; cases h
  | ret a => intro qt qb wr k r h; exact ⟨a, _, rfl, h⟩
  | chk c m ih =>
    intro qt qb wr k r h
    simp only [PM.run, R.bind, R.ev, ck, PM.go] at h ⊢
    cases c with
    | true => simpa using ih qt qb wr k r h
    | false => cases h
  | br c x y hx hy =>
    intro qt qb wr k r h
    simp only [PM.run, R.bind, R.ev, sel, PM.go] at h ⊢
    cases c with
    | true => simpa using hx qt qb wr k r h
    | false => simpa using hy qt qb wr k r h
  | bo d o m ih =>
    intro qt qb wr k r h
    cases o with
    | some a => exact ih a qt qb wr k r h
    | none => cases h
  | rt i m ih => intro qt qb wr k r h; exact ih (s.getT i) _ qb wr k r h
  | rb i m ih => intro qt qb wr k r h; exact ih _ qt (i :: qb) wr k r h
  | wb i b m ih =>
    intro qt qb wr k r h
    obtain ⟨a, e, h1, h2⟩ := ih qt qb ((i, b) :: wr) k r h
    refine ⟨a, e, ?_, h2⟩
    simp only [PM.go]
    rw [← overW_cons]
    exact h1

def Slots (φ : Pl) (H : View) (B : Nat → Blk) (g : Nat → PV) (a : Act) : Prop := ∀ t, RepP φ H B (g t) (a.tmps.getD t undef)
theorem Slots.ext {φ φ' : Pl} {M M' : Nat → Prop} {B B' : Nat → Blk} {w w' : World} {g : Nat → PV} {a : Act} (h : Slots φ (view w M) B g a) (he : Ext φ M B w φ' M' B' w') : Slots φ' (view w' M') B' g a :=
  fun t => he.p (h t)
theorem opt_go {α : Type} {g : Nat → PV} {o : Option α} {B B' : Nat → Blk} {a : α} (h : (PM.opt o).go g B = some (a, B')) : o = some a ∧ B' = B := by
  cases o with
  | none => cases h
  | some b => simp only [PM.opt, PM.go, Option.some.injEq, Prod.mk.injEq] at h; exact ⟨by rw [h.1], h.2.symm⟩
theorem need_go {g : Nat → PV} {b : Bool} {B B' : Nat → Blk} {a : Unit} (h : (PM.need b).go g B = some (a, B')) : b = true ∧ B' = B := by
  cases b with
  | false => cases h
  | true => simp only [PM.need, cond, PM.go, Option.some.injEq, Prod.mk.injEq] at h; exact ⟨rfl, h.2.symm⟩
theorem constP_go {g : Nat → PV} {c : Value} {B B' : Nat → Blk} {v : PV} (h : (constP c).go g B = some (v, B')) (φ : Pl) (H : View) : B' = B ∧ RepP φ H B v c := by
  unfold constP at h
  split at h
  · cases h; exact ⟨rfl, rfl⟩
  · rename_i k n
    cases hl : litOK k n with
    | false => rw [hl] at h; cases h
    | true =>
      rw [hl] at h; cases h
      exact ⟨rfl, [.int k n], RepC.int_iff.2 (by rw [KD.to_lit k n hl]), rfl⟩
  · rename_i s
    cases h
    exact ⟨rfl, [.string s], RepC.str_iff.2 rfl, rfl⟩
  · cases h; exact ⟨rfl, rfl⟩
  · cases h
theorem opd_go {g : Nat → PV} {x : Operand} {B B' : Nat → Blk} {v : PV} (h : (opd x).go g B = some (v, B')) {φ : Pl} {H : View} {a : Act} (hs : Slots φ H B g a) : B' = B ∧ RepP φ H B v (a.eval x) := by
  cases x with
  | tmp t => cases h; exact ⟨rfl, hs t⟩
  | const c => exact constP_go h φ H
  | global i => cases h
  | func f => cases h; exact ⟨rfl, rfl⟩
/-- values by their shape -/
theorem RepP.int {φ : Pl} {H : View} {B : Nat → Blk} {k : IntKind} {x : KD k} {v : Value} (h : RepP φ H B (.sc (.int k) x) v) : v = .int k (KD.to k x) := by
  obtain ⟨cs, h, rfl⟩ := h
  rw [RepC.int_iff.1 h]; rfl
theorem RepP.mk_int (φ : Pl) (H : View) (B : Nat → Blk) (k : IntKind) (x : KD k) : RepP φ H B (.sc (.int k) x) (.int k (KD.to k x)) :=
  ⟨[.int k (KD.to k x)], RepC.int_iff.2 rfl, rfl⟩
theorem RepP.bool {φ : Pl} {H : View} {B : Nat → Blk} {x : Bool} {v : Value} (h : RepP φ H B (.sc .bool x) v) : v = .bool x := by
  obtain ⟨cs, h, rfl⟩ := h
  rw [RepC.bool_iff.1 h]; rfl
theorem RepP.mk_bool (φ : Pl) (H : View) (B : Nat → Blk) (x : Bool) : RepP φ H B (.sc .bool x) (.bool x) := ⟨[.bool x], RepC.bool_iff.2 rfl, rfl⟩
theorem RepP.str {φ : Pl} {H : View} {B : Nat → Blk} {x : List UInt8} {v : Value} (h : RepP φ H B (.sc .str x) v) : v = .string ⟨x.toArray⟩ := by
  obtain ⟨cs, h, rfl⟩ := h
  rw [RepC.str_iff.1 h]; rfl
theorem RepP.mk_str (φ : Pl) (H : View) (B : Nat → Blk) (x : List UInt8) : RepP φ H B (.sc .str x) (.string ⟨x.toArray⟩) := ⟨[.string ⟨x.toArray⟩], RepC.str_iff.2 rfl, rfl⟩
end Yp
