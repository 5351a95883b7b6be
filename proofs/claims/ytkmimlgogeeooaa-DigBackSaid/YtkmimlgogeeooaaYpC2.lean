/- The engine, part C2: a program's types as types of plain data. -/
import Derived.Test.YtkmimlgogeeooaaYpC
set_option linter.unusedVariables false
set_option linter.unusedSimpArgs false
namespace Yp
open Go

def zcells : Ty → List Value
  | .bool => [.bool false] | .int k => [.int k 0] | .str => [.string ⟨#[]⟩] | .sl _ => [.slice none 0 0] | .unit => []
  | .pair a b => zcells a ++ zcells b
  | .ar n e => (List.replicate n (zcells e)).flatten
theorem zcells_length : ∀ t : Ty, (zcells t).length = t.size
  | .bool => rfl | .int _ => rfl | .str => rfl | .sl _ => rfl | .unit => rfl
  | .pair a b => by simp [zcells, Ty.size, zcells_length a, zcells_length b]
  | .ar n e => by simp [zcells, Ty.size, zcells_length e]
theorem flatten_chunk {α : Type} (l : List α) (n i : Nat) (h : i < n) : ((List.replicate n l).flatten.drop (i * l.length)).take l.length = l := by
  induction n generalizing i with
  | zero => omega
  | succ n ih =>
    rw [List.replicate_succ, List.flatten_cons]
    cases i with
    | zero => simp
    | succ i =>
      have : (i + 1) * l.length = l.length + i * l.length := by rw [Nat.add_mul]; omega
      rw [this, ← List.drop_drop, List.drop_left]
      exact ih i (by omega)
theorem KD.to_zero (k : IntKind) : KD.to k (KD.zero k) = 0 := by
  cases k <;> first | rfl | decide
theorem RepC.zero (H : View) : ∀ t : Ty, RepC H t t.zero (zcells t)
  | .bool => by rw [RepC]; rfl
  | .int k => by rw [RepC]; simp [zcells, Ty.zero, KD.to_zero]
  | .str => by rw [RepC]; rfl
  | .sl e => by rw [RepC]; exact ⟨none, 0, rfl, Nat.le_refl _, by unfold maxLen; omega, .inl rfl⟩
  | .unit => by rw [RepC]; rfl
  | .pair a b => by rw [RepC]; exact ⟨_, _, rfl, RepC.zero H a, RepC.zero H b⟩
  | .ar n e => by
    rw [RepC]
    refine ⟨by simp [Ty.zero], by simp [zcells, zcells_length e], fun i x hi => ?_⟩
    simp only [lget, Ty.zero, List.getElem?_replicate] at hi
    split at hi
    · rename_i h
      cases hi
      have := flatten_chunk (zcells e) n i h
      rw [zcells_length] at this
      simp only [zcells]
      rw [this]
      exact RepC.zero H e
    · cases hi

/-- a type's row in the program's table fits a type of plain data -/
def infoOK (P : Program) (tid : TypeId) (t : Ty) : Prop :=
  ∃ i, P.info? tid = some i ∧ i.size = t.size ∧ i.bytes ≤ t.bytes ∧ i.zero = some (mkV t (zcells t))
def fit (P : Program) : Ty → (TypeId → Prop) × (List Field → Nat → Prop)
  | .bool => (fun t => P.underlying t = some .bool ∧ infoOK P t .bool, fun _ _ => False)
  | .int k => (fun t => P.underlying t = some (.int k) ∧ infoOK P t (.int k), fun _ _ => False)
  | .str => (fun t => P.underlying t = some .string ∧ infoOK P t .str, fun _ _ => False)
  | .sl e => (fun t => (∃ et, P.underlying t = some (.slice et) ∧ (fit P e).1 et) ∧ infoOK P t (.sl e), fun _ _ => False)
  | .unit => (fun t => (∃ fs, P.underlying t = some (.struct fs) ∧ fs.toList = []) ∧ infoOK P t .unit, fun l _ => l = [])
  | .pair a b =>
    (fun t => (∃ fs, P.underlying t = some (.struct fs) ∧ ∃ f r, fs.toList = f :: r ∧ f.offset = 0 ∧ (fit P a).1 f.type ∧ (fit P b).2 r a.size) ∧ infoOK P t (.pair a b),
     fun l off => ∃ f r, l = f :: r ∧ f.offset = off ∧ (fit P a).1 f.type ∧ (fit P b).2 r (off + a.size))
  | .ar n e => (fun t => (∃ et, P.underlying t = some (.array n et) ∧ (fit P e).1 et) ∧ infoOK P t (.ar n e), fun _ _ => False)
theorem fit_info {P : Program} : ∀ {t : Ty} {tid : TypeId}, (fit P t).1 tid → infoOK P tid t
  | .bool, _, h => h.2 | .int _, _, h => h.2 | .str, _, h => h.2 | .sl _, _, h => h.2 | .unit, _, h => h.2 | .pair _ _, _, h => h.2 | .ar _ _, _, h => h.2

/-! the same as a test -/
def cellEq : Value → Value → Bool
  | .bool a, .bool b => a == b
  | .int k n, .int k' m => decide (k = k') && decide (n = m)
  | .string s, .string t => s.data.toList.isEmpty && t.data.toList.isEmpty
  | .slice none 0 0, .slice none 0 0 => true
  | _, _ => false
theorem cellEq_eq {a b : Value} (h : cellEq a b = true) : a = b := by
  unfold cellEq at h
  split at h
  · simp at h; rw [h]
  · simp at h; rw [h.1, h.2]
  · rename_i s t
    simp only [Bool.and_eq_true, List.isEmpty_iff] at h
    obtain ⟨⟨ds⟩, ⟨dt⟩⟩ := (⟨s, t⟩ : ByteArray × ByteArray)
    have h1 : s.data = t.data := by
      have := h.1; have := h.2
      apply Array.ext'
      rw [h.1, h.2]
    rcases s with ⟨s⟩; rcases t with ⟨t⟩
    simp at h1; rw [h1]
  · rfl
  · cases h
def cellsEq : List Value → List Value → Bool
  | [], [] => true
  | a :: l, b :: m => cellEq a b && cellsEq l m
  | _, _ => false
theorem cellsEq_eq : ∀ {l m : List Value}, cellsEq l m = true → l = m
  | [], [], _ => rfl
  | a :: l, b :: m, h => by
    simp only [cellsEq, Bool.and_eq_true] at h
    rw [cellEq_eq h.1, cellsEq_eq h.2]
  | [], _ :: _, h => by cases h
  | _ :: _, [], h => by cases h
def zeroB (t : Ty) : Option Value → Bool
  | some (.agg cs) => t.isAgg && cellsEq cs.toList (zcells t)
  | some v => !t.isAgg && cellsEq [v] (zcells t)
  | none => false
theorem zeroB_eq {t : Ty} {o : Option Value} (h : zeroB t o = true) : o = some (mkV t (zcells t)) := by
  unfold zeroB at h
  split at h
  · rename_i cs
    simp only [Bool.and_eq_true] at h
    rw [← cellsEq_eq h.2, mkV, if_pos h.1]
  · rename_i v _
    simp only [Bool.and_eq_true, Bool.not_eq_true'] at h
    rw [← cellsEq_eq h.2, mkV, if_neg (by simp [h.1])]
    rfl
  · cases h
def infoB (P : Program) (tid : TypeId) (t : Ty) : Bool :=
  match P.info? tid with
  | some i => Nat.beq i.size t.size && Nat.ble i.bytes t.bytes && zeroB t i.zero
  | none => false
theorem infoB_ok {P : Program} {tid : TypeId} {t : Ty} (h : infoB P tid t = true) : infoOK P tid t := by
  unfold infoB at h
  split at h
  · rename_i i hi
    simp only [Bool.and_eq_true, Nat.beq_eq, Nat.ble_eq] at h
    exact ⟨i, hi, h.1.1, h.1.2, zeroB_eq h.2⟩
  · cases h
def fitB (P : Program) : Ty → (TypeId → Bool) × (List Field → Nat → Bool)
  | .bool => (fun t => (match P.underlying t with | some .bool => true | _ => false) && infoB P t .bool, fun _ _ => false)
  | .int k => (fun t => (match P.underlying t with | some (.int k') => decide (k' = k) | _ => false) && infoB P t (.int k), fun _ _ => false)
  | .str => (fun t => (match P.underlying t with | some .string => true | _ => false) && infoB P t .str, fun _ _ => false)
  | .sl e => (fun t => (match P.underlying t with | some (.slice et) => (fitB P e).1 et | _ => false) && infoB P t (.sl e), fun _ _ => false)
  | .unit => (fun t => (match P.underlying t with | some (.struct fs) => fs.toList.isEmpty | _ => false) && infoB P t .unit, fun l _ => l.isEmpty)
  | .pair a b =>
    (fun t => (match P.underlying t with
        | some (.struct fs) => (match fs.toList with | f :: r => Nat.beq f.offset 0 && (fitB P a).1 f.type && (fitB P b).2 r a.size | [] => false)
        | _ => false) && infoB P t (.pair a b),
     fun l off => match l with | f :: r => Nat.beq f.offset off && (fitB P a).1 f.type && (fitB P b).2 r (off + a.size) | [] => false)
  | .ar n e => (fun t => (match P.underlying t with | some (.array m et) => Nat.beq m n && (fitB P e).1 et | _ => false) && infoB P t (.ar n e), fun _ _ => false)
theorem fitB_ok {P : Program} : ∀ (t : Ty), (∀ tid, (fitB P t).1 tid = true → (fit P t).1 tid) ∧ (∀ l off, (fitB P t).2 l off = true → (fit P t).2 l off)
  | .bool => by
    refine ⟨fun tid h => ?_, fun l off h => by cases h⟩
    simp only [fitB, Bool.and_eq_true] at h
    refine ⟨?_, infoB_ok h.2⟩
    have h1 := h.1; split at h1 <;> first | assumption | cases h1
  | .int k => by
    refine ⟨fun tid h => ?_, fun l off h => by cases h⟩
    simp only [fitB, Bool.and_eq_true] at h
    refine ⟨?_, infoB_ok h.2⟩
    have h1 := h.1
    split at h1
    · rename_i hu; simp at h1; rw [← h1]; exact hu
    · cases h1
  | .str => by
    refine ⟨fun tid h => ?_, fun l off h => by cases h⟩
    simp only [fitB, Bool.and_eq_true] at h
    refine ⟨?_, infoB_ok h.2⟩
    have h1 := h.1; split at h1 <;> first | assumption | cases h1
  | .sl e => by
    refine ⟨fun tid h => ?_, fun l off h => by cases h⟩
    simp only [fitB, Bool.and_eq_true] at h
    refine ⟨?_, infoB_ok h.2⟩
    have h1 := h.1
    split at h1
    · rename_i et hu; exact ⟨et, hu, (fitB_ok e).1 _ h1⟩
    · cases h1
  | .unit => by
    refine ⟨fun tid h => ?_, fun l off h => by simpa [fitB, fit] using h⟩
    simp only [fitB, Bool.and_eq_true] at h
    refine ⟨?_, infoB_ok h.2⟩
    have h1 := h.1
    split at h1
    · rename_i fs hu; exact ⟨fs, hu, by simpa using h1⟩
    · cases h1
  | .pair a b => by
    refine ⟨fun tid h => ?_, fun l off h => ?_⟩
    · simp only [fitB, Bool.and_eq_true] at h
      refine ⟨?_, infoB_ok h.2⟩
      have h1 := h.1
      split at h1
      · rename_i fs hu
        split at h1
        · rename_i f r hf
          simp only [Bool.and_eq_true, Nat.beq_eq] at h1
          exact ⟨fs, hu, f, r, hf, h1.1.1, (fitB_ok a).1 _ h1.1.2, (fitB_ok b).2 _ _ h1.2⟩
        · cases h1
      · cases h1
    · simp only [fitB] at h
      split at h
      · rename_i f r
        simp only [Bool.and_eq_true, Nat.beq_eq] at h
        exact ⟨f, r, rfl, h.1.1, (fitB_ok a).1 _ h.1.2, (fitB_ok b).2 _ _ h.2⟩
      · cases h
  | .ar n e => by
    refine ⟨fun tid h => ?_, fun l off h => by cases h⟩
    simp only [fitB, Bool.and_eq_true] at h
    refine ⟨?_, infoB_ok h.2⟩
    have h1 := h.1
    split at h1
    · rename_i m et hu
      simp only [Bool.and_eq_true, Nat.beq_eq] at h1
      rw [← h1.1]
      exact ⟨et, hu, (fitB_ok e).1 _ h1.2⟩
    · cases h1
/-- a table of types that is right -/
def tabOK (P : Program) (T : Nat → Option Ty) : Prop := ∀ tid t, T tid = some t → (fit P t).1 tid
theorem tabOK_of (P : Program) : ∀ (l : List (Nat × Ty)), (l.all fun p => (fitB P p.2).1 p.1) = true → tabOK P (lookT l)
  | [], _ => fun tid t h => by cases h
  | (i, u) :: r, h => fun tid t ht => by
    simp only [List.all_cons, Bool.and_eq_true] at h
    simp only [lookT] at ht
    cases hb : Nat.beq i tid with
    | true => rw [hb] at ht; cases ht; rw [← Nat.eq_of_beq_eq_true hb]; exact (fitB_ok _).1 _ h.1
    | false => rw [hb] at ht; exact tabOK_of P r h.2 tid t ht
end Yp
