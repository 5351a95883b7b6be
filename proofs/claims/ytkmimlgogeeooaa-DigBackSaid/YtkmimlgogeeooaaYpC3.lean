/- The engine, part C3: what it means that a state of the evaluator fits the machine's. -/
import Derived.Test.YtkmimlgogeeooaaYpC2
set_option linter.unusedVariables false
set_option linter.unusedSimpArgs false
namespace Yp
open Go

/-- where a block lies: the machine's block, its first cell, how many cells that block has; none: a nil slice -/
abbrev Pl := Nat → Option (Nat × Nat × Nat)
def Ty.offOf : Ty → List Sel → Option (Nat × Ty)
  | t, [] => some (0, t)
  | .pair a _, .fst :: p => a.offOf p
  | .pair a b, .snd :: p => (b.offOf p).map fun q => (a.size + q.1, q.2)
  | .ar n e, .ix i :: p => if i < n then (e.offOf p).map fun q => (i * e.size + q.1, q.2) else none
  | _, _ => none
def RepOwn (φ : Pl) (id : Nat) (e : Ty) (off len : Nat) (v : Value) : Prop :=
  (len = 0 ∧ ∃ a, v = .slice a 0 0) ∨
  ∃ b o n cap, φ id = some (b, o, n) ∧ v = .slice (some ⟨b, o + off * e.size, none⟩) len cap ∧ len ≤ cap ∧ cap ≤ maxLen ∧ o + (off + cap) * e.size ≤ n
section
variable (φ : Pl) (H : View) (B : Nat → Blk)
/-- a value of one cell that is no plain datum -/
def RepS : PV → Value → Prop
  | .bad, _ => True
  | .undef, v => v = Go.undef
  | .kb b, v => v = .bool b
  | .nil, v => v = .slice none 0 0
  | .own id ne, v => (match B id with
    | .ob e l => RepOwn φ id e 0 l.length v ∧ (ne = true → l.length ≠ 0)
    | .fz e l => RepOwn φ id e 0 l.length v ∧ (ne = true → l.length ≠ 0)
    | .gone => True
    | _ => False)
  | .osl id off n, v => (match B id with
    | .ob e l => off + n ≤ l.length ∧ RepOwn φ id e off n v
    | .fz e l => off + n ≤ l.length ∧ RepOwn φ id e off n v
    | .gone => True
    | _ => False)
  | .csl e l, v => ∃ a, v = .slice a l.length l.length ∧ RepC H (.sl e) l [v]
  | .ptr id p, v => (match B id with
    | .box t _ => ∃ b o n off t', φ id = some (b, o, n) ∧ t.offOf p = some (off, t') ∧ v = .pointer (some ⟨b, o + off, none⟩)
    | .gone => True
    | _ => False)
  | .opt id i p, v => (match B id with
    | .ob e l => i < l.length ∧ ∃ b o n off t', φ id = some (b, o, n) ∧ e.offOf p = some (off, t') ∧ v = .pointer (some ⟨b, o + i * e.size + off, none⟩)
    | .fz e l => i < l.length ∧ ∃ b o n off t', φ id = some (b, o, n) ∧ e.offOf p = some (off, t') ∧ v = .pointer (some ⟨b, o + i * e.size + off, none⟩)
    | .gone => True
    | _ => False)
  | .ipt e l i p, v => i < l.length ∧ ∃ b o cap off t', RepC H (.sl e) l [.slice (some ⟨b, o, none⟩) l.length cap] ∧ e.offOf p = some (off, t') ∧ v = .pointer (some ⟨b, o + i * e.size + off, none⟩)
  | .itp id, v => (match B id with
    | .it _ _ => ∃ b, φ id = some (b, 0, 0) ∧ v = .pointer (some ⟨b, 0, none⟩)
    | .gone => True
    | _ => False)
  | .clo f, v => v = .func (.func f) #[] #[]
  | .sc _ _, _ => False
  | .two _ _, _ => False
  | .agg _ _, _ => False
  | .tup _, _ => False
/-- the cells of a variable -/
def RepT : PV → Ty → List Value → Prop
  | .two u v, t, cs => (match t with | .pair a b => ∃ c1 c2, cs = c1 ++ c2 ∧ RepT u a c1 ∧ RepT v b c2 | _ => False)
  | .sc t' x, t, cs => ∃ h : t' = t, RepC H t (h ▸ x) cs
  | .agg _ _, _, _ => False
  | .tup _, _, _ => False
  | .bad, t, cs => cs.length = t.size ∧ ∀ v ∈ cs, v.oneCell' = true
  | pv, t, cs => t.isAgg = false ∧ ∃ v, cs = [v] ∧ v.oneCell' = true ∧ RepS φ H B pv v
def RepQ : PV → Value → Prop
  | .sc t x, v => ∃ cs, RepC H t x cs ∧ v = mkV t cs
  | .agg t a, v => t.isAgg = true ∧ ∃ cs, RepT φ H B a t cs ∧ v = .agg cs.toArray
  | pv, v => RepS φ H B pv v
def RepL : PV → List Value → Prop
  | .two u r, vs => ∃ v vs', vs = v :: vs' ∧ RepQ φ H B u v ∧ RepL r vs'
  | .sc .unit _, vs => vs = []
  | _, _ => False
def RepP : PV → Value → Prop
  | .tup a, v => ∃ vs, RepL φ H B a vs ∧ v = .tuple vs.toArray
  | pv, v => RepQ φ H B pv v
end
/-- what may become of a block while what refers to it stays true -/
def Blk.Le : Blk → Blk → Prop
  | .new, _ => True
  | _, .gone => True
  | .box t _, .box t' _ => t = t'
  | .ob e l, .ob e' l' => e = e' ∧ l.length = l'.length
  | .ob e l, .fz e' l' => e = e' ∧ l.length = l'.length
  | .fz e l, .fz e' l' => e = e' ∧ l.length = l'.length
  | .it s _, .it s' _ => s = s'
  | _, _ => False
theorem Blk.Le.refl : ∀ b : Blk, b.Le b
  | .new => trivial | .gone => trivial | .box _ _ => rfl | .ob _ _ => ⟨rfl, rfl⟩ | .fz _ _ => ⟨rfl, rfl⟩ | .it _ _ => rfl
def Blk.live : Blk → Bool
  | .new => false | _ => true
theorem RepOwn.congr {φ φ' : Pl} {id : Nat} {e : Ty} {off len : Nat} {v : Value} (h : φ' id = φ id) (hr : RepOwn φ id e off len v) : RepOwn φ' id e off len v := by
  unfold RepOwn at *; rw [h]; exact hr
section
variable {φ φ' : Pl} {H H' : View} {B B' : Nat → Blk}
theorem RepS.mono (hφ : ∀ id, (B id).live = true → φ' id = φ id) (hH : H.Le H') (hB : ∀ id, (B id).Le (B' id)) : ∀ {pv : PV} {v : Value}, RepS φ H B pv v → RepS φ' H' B' pv v := by
  intro pv v h
  cases pv with
  | bad => trivial
  | undef => exact h
  | kb b => exact h
  | nil => exact h
  | sc t x => exact h
  | two a b => exact h
  | agg t a => exact h
  | tup a => exact h
  | clo f => exact h
  | csl e l => obtain ⟨a, h1, h2⟩ := h; exact ⟨a, h1, h2.mono hH⟩
  | ipt e l i p => obtain ⟨h0, b, o, cap, off, t', h1, h2, h3⟩ := h; exact ⟨h0, b, o, cap, off, t', h1.mono hH, h2, h3⟩
  | own id ne =>
    have hb := hB id; have hf := hφ id
    simp only [RepS] at h ⊢
    cases hb0 : B id <;> cases hb1 : B' id <;> simp only [hb0, hb1, Blk.Le, Blk.live] at hb hf h ⊢ <;> try (first | exact h.elim | exact hb.elim | trivial)
    all_goals
      obtain ⟨rfl, hl⟩ := hb
      rw [← hl]
      exact ⟨h.1.congr (hf trivial), h.2⟩
  | osl id off n =>
    have hb := hB id; have hf := hφ id
    simp only [RepS] at h ⊢
    cases hb0 : B id <;> cases hb1 : B' id <;> simp only [hb0, hb1, Blk.Le, Blk.live] at hb hf h ⊢ <;> try (first | exact h.elim | exact hb.elim | trivial)
    all_goals
      obtain ⟨rfl, hl⟩ := hb
      rw [← hl]
      exact ⟨h.1, h.2.congr (hf trivial)⟩
  | ptr id p =>
    have hb := hB id; have hf := hφ id
    simp only [RepS] at h ⊢
    cases hb0 : B id <;> cases hb1 : B' id <;> simp only [hb0, hb1, Blk.Le, Blk.live] at hb hf h ⊢ <;> try (first | exact h.elim | exact hb.elim | trivial)
    all_goals
      subst hb
      rw [hf trivial]
      exact h
  | opt id i p =>
    have hb := hB id; have hf := hφ id
    simp only [RepS] at h ⊢
    cases hb0 : B id <;> cases hb1 : B' id <;> simp only [hb0, hb1, Blk.Le, Blk.live] at hb hf h ⊢ <;> try (first | exact h.elim | exact hb.elim | trivial)
    all_goals
      obtain ⟨rfl, hl⟩ := hb
      rw [← hl, hf trivial]
      exact h
  | itp id =>
    have hb := hB id; have hf := hφ id
    simp only [RepS] at h ⊢
    cases hb0 : B id <;> cases hb1 : B' id <;> simp only [hb0, hb1, Blk.Le, Blk.live] at hb hf h ⊢ <;> try (first | exact h.elim | exact hb.elim | trivial)
    all_goals
      rw [hf trivial]
      exact h
theorem RepT.mono (hφ : ∀ id, (B id).live = true → φ' id = φ id) (hH : H.Le H') (hB : ∀ id, (B id).Le (B' id)) : ∀ {pv : PV} {t : Ty} {cs : List Value}, RepT φ H B pv t cs → RepT φ' H' B' pv t cs := by
  intro pv
  induction pv with
  | two u v hu hv =>
    intro t cs h
    cases t <;> simp only [RepT] at h ⊢ <;> try exact h
    obtain ⟨c1, c2, h, h1, h2⟩ := h
    exact ⟨c1, c2, h, hu h1, hv h2⟩
  | sc t' x => intro t cs h; obtain ⟨h0, h⟩ := h; exact ⟨h0, h.mono hH⟩
  | agg t a => intro t cs h; exact h
  | tup a => intro t cs h; exact h
  | bad => intro t cs h; exact h
  | _ => intro t cs h; obtain ⟨h0, v, h1, h2, h3⟩ := h; exact ⟨h0, v, h1, h2, RepS.mono hφ hH hB h3⟩
theorem RepQ.mono (hφ : ∀ id, (B id).live = true → φ' id = φ id) (hH : H.Le H') (hB : ∀ id, (B id).Le (B' id)) {pv : PV} {v : Value} (h : RepQ φ H B pv v) : RepQ φ' H' B' pv v := by
  cases pv with
  | sc t x => obtain ⟨cs, h1, h2⟩ := h; exact ⟨cs, h1.mono hH, h2⟩
  | agg t a => obtain ⟨h0, cs, h1, h2⟩ := h; exact ⟨h0, cs, RepT.mono hφ hH hB h1, h2⟩
  | _ => simp only [RepQ] at h ⊢; exact RepS.mono hφ hH hB h
theorem RepL.mono (hφ : ∀ id, (B id).live = true → φ' id = φ id) (hH : H.Le H') (hB : ∀ id, (B id).Le (B' id)) : ∀ {pv : PV} {vs : List Value}, RepL φ H B pv vs → RepL φ' H' B' pv vs := by
  intro pv
  induction pv with
  | two u r hu hr => intro vs h; obtain ⟨v, vs', h0, h1, h2⟩ := h; exact ⟨v, vs', h0, RepQ.mono hφ hH hB h1, hr h2⟩
  | sc t x => intro vs h; cases t <;> exact h
  | _ => intro vs h; exact h
theorem RepP.mono (hφ : ∀ id, (B id).live = true → φ' id = φ id) (hH : H.Le H') (hB : ∀ id, (B id).Le (B' id)) {pv : PV} {v : Value} (h : RepP φ H B pv v) : RepP φ' H' B' pv v := by
  cases pv with
  | tup a => obtain ⟨vs, h1, h2⟩ := h; exact ⟨vs, RepL.mono hφ hH hB h1, h2⟩
  | _ => simp only [RepP] at h ⊢; exact RepQ.mono hφ hH hB h
end
theorem RepT.length {φ : Pl} {H : View} {B : Nat → Blk} : ∀ {pv : PV} {t : Ty} {cs : List Value}, RepT φ H B pv t cs → cs.length = t.size := by
  intro pv
  induction pv with
  | two u v hu hv =>
    intro t cs h
    cases t <;> simp only [RepT] at h
    obtain ⟨c1, c2, h, h1, h2⟩ := h
    rw [h, List.length_append, hu h1, hv h2]; rfl
  | sc t' x => intro t cs h; obtain ⟨h0, h⟩ := h; exact h.length
  | agg t a => intro t cs h; exact h.elim
  | tup a => intro t cs h; exact h.elim
  | bad => intro t cs h; exact h.1
  | _ =>
    intro t cs h; obtain ⟨h0, v, h1, h2, h3⟩ := h
    subst h1
    cases t <;> first | rfl | cases h0
theorem RepT.one {φ : Pl} {H : View} {B : Nat → Blk} : ∀ {pv : PV} {t : Ty} {cs : List Value}, RepT φ H B pv t cs → ∀ v ∈ cs, v.oneCell' = true := by
  intro pv
  induction pv with
  | two u v hu hv =>
    intro t cs h
    cases t <;> simp only [RepT] at h
    obtain ⟨c1, c2, h, h1, h2⟩ := h
    subst h
    intro w hw
    rcases List.mem_append.1 hw with hw | hw
    · exact hu h1 w hw
    · exact hv h2 w hw
  | sc t' x => intro t cs h; obtain ⟨h0, h⟩ := h; exact h.one
  | agg t a => intro t cs h; exact h.elim
  | tup a => intro t cs h; exact h.elim
  | bad => intro t cs h; exact h.2
  | _ =>
    intro t cs h; obtain ⟨h0, v, h1, h2, h3⟩ := h
    subst h1
    intro w hw; simp at hw; rw [hw]; exact h2
end Yp
