/- The engine, part N: addresses, parts, lengths. -/
import Derived.Test.YtkmimlgogeeooaaYpM
set_option linter.unusedVariables false
set_option linter.unusedSimpArgs false
namespace Yp
open Go
variable {P : Program}
section
variable {K : Kp} {w0 w : World} {φ : Pl} {M : Nat → Prop} {B B' : Nat → Blk} {g : Nat → PV}
theorem at_off_field : ∀ {f : Nat} {t ft : Ty}, t.at (fieldSel f) = some ft → ∃ d, t.offOf (fieldSel f) = some (d, ft) := by
  intro f
  induction f with
  | zero =>
    intro t ft h
    cases t <;> try (cases h; done)
    rename_i a b
    have : a = ft := by cases a <;> exact Option.some.inj h
    subst this
    exact ⟨0, by cases a <;> rfl⟩
  | succ f ih =>
    intro t ft h
    cases t <;> try (cases h; done)
    rename_i a b
    obtain ⟨d, hd⟩ := ih (t := b) h
    exact ⟨a.size + d, by simp only [fieldSel, Ty.offOf, hd, Option.map_some]⟩
theorem fieldOK_spec {t' st : Option Ty} {f : Nat} (h : fieldOK t' st f = true) : ∃ s d ft, t' = some s ∧ st = some s ∧ s.offOf (fieldSel f) = some (d, ft) ∧ 0 < ft.size := by
  unfold fieldOK at h
  split at h
  · rename_i a b
    simp only [Bool.and_eq_true] at h
    obtain ⟨h1, h2⟩ := h
    have := is_eq h1; subst this
    split at h2
    · rename_i ft hft
      obtain ⟨d, hd⟩ := at_off_field hft
      exact ⟨a, d, ft, rfl, rfl, hd, by simpa using h2⟩
    · cases h2
  · cases h
theorem bif_go {α : Type} {c : Bool} {x : PM α} {r : α × (Nat → Blk)} (h : (bif c then x else .fail : PM α).go g B = some r) : c = true ∧ x.go g B = some r := by
  cases c with
  | true => exact ⟨rfl, h⟩
  | false => cases h
theorem chk_go {α : Type} {c : Bool} {x : PM α} {r : α × (Nat → Blk)} (h : (PM.chk c x).go g B = some r) : c = true ∧ x.go g B = some r := by
  simp only [PM.go] at h
  split at h
  · exact ⟨by assumption, h⟩
  · cases h
theorem fieldAddr_go {st : Option Ty} {tid : TypeId} (ht : ∀ t, st = some t → (fit P t).1 tid) {f : Nat} {a r : PV} {va : Value} (h : (fieldAddrP st f a).go g B = some (r, B'))
    (hra : RepP φ (view w M) B a va) : B' = B ∧ ∃ v, (Instr.fieldAt tid va f).run P w = .ok v w ∧ RepP φ (view w M) B r v := by
  cases a with
  | ptr id p =>
    simp only [fieldAddrP, PM.go] at h
    have hs : RepS φ (view w M) B (.ptr id p) va := hra
    simp only [RepS] at hs
    generalize hB : B id = bl at h hs
    cases bl <;> try (cases h; done)
    rename_i rt u
    obtain ⟨b, o, n, off, t', h1, h2, rfl⟩ := hs
    replace h := bif_go h; obtain ⟨hc, h⟩ := h
    cases h
    obtain ⟨s, d, ft, e1, e2, e3, e4⟩ := fieldOK_spec hc
    rw [offOf_at h2] at e1; cases e1
    refine ⟨rfl, _, run_fieldAt (ht _ e2) e3 e4 b (o + off) w, ?_⟩
    simp only [RepP, RepQ, RepS, hB]
    exact ⟨b, o, n, off + d, ft, h1, offOf_app h2 e3, by rw [Nat.add_assoc]⟩
  | ipt e l i p =>
    obtain ⟨hi, b, o, cap, off, t', h1, h2, rfl⟩ := (hra : RepS φ (view w M) B (.ipt e l i p) va)
    simp only [fieldAddrP] at h
    replace h := bif_go h; obtain ⟨hc, h⟩ := h
    cases h
    obtain ⟨s, d, ft, e1, e2, e3, e4⟩ := fieldOK_spec hc
    rw [offOf_at h2] at e1; cases e1
    exact ⟨rfl, _, run_fieldAt (ht _ e2) e3 e4 b _ w, hi, b, o, cap, off + d, ft, h1, offOf_app h2 e3, by rw [Nat.add_assoc]⟩
  | opt id i p =>
    simp only [fieldAddrP, PM.go] at h
    have hs : RepS φ (view w M) B (.opt id i p) va := hra
    simp only [RepS] at hs
    generalize hB : B id = bl at h hs
    cases bl <;> try (cases h; done)
    all_goals
      obtain ⟨hi, b, o, n, off, t', h1, h2, rfl⟩ := hs
      replace h := bif_go h; obtain ⟨hc, h⟩ := h
      cases h
      obtain ⟨s, d, ft, e1, e2, e3, e4⟩ := fieldOK_spec hc
      rw [offOf_at h2] at e1; cases e1
      refine ⟨rfl, _, run_fieldAt (ht _ e2) e3 e4 b _ w, ?_⟩
      simp only [RepP, RepQ, RepS, hB]
      exact ⟨hi, b, o, n, off + d, ft, h1, offOf_app h2 e3, by rw [Nat.add_assoc]⟩
  | _ => cases h
theorem arrP_spec {t' : Option Ty} {xt : Ty} {i : Int} {v r : PV} (h : (arrP t' xt i v).go g B = some (r, B')) : B' = B ∧ r = v ∧ ∃ n e, xt = .ar n e ∧ t' = some (.ar n e) ∧ 0 < e.size ∧ 0 ≤ i ∧ i < n := by
  unfold arrP at h
  split at h
  · rename_i t' n e
    replace h := bif_go h; obtain ⟨hc, h⟩ := h
    replace h := chk_go h; obtain ⟨hi, h⟩ := h
    cases h
    simp only [Bool.and_eq_true, Nat.blt_eq] at hc
    have := is_eq hc.1; subst this
    obtain ⟨h1, h2⟩ := inB_iff.1 hi
    exact ⟨rfl, rfl, n, e, rfl, rfl, hc.2, h1, h2⟩
  · cases h
theorem offOf_ix {n : Nat} {e : Ty} {i : Nat} (h : i < n) : (Ty.ar n e).offOf [.ix i] = some (i * e.size, e) := by
  simp only [Ty.offOf, if_pos h]
  cases e <;> rfl
theorem run_indexAt_ar {n : Nat} {e : Ty} {tid : TypeId} (ht : (fit P (.ar n e)).1 tid) {k : IntKind} {i : Int} (h0 : 0 ≤ i) (h1 : i < n) (b o : Nat) (w : World) :
    (Instr.indexAt tid (.pointer (some ⟨b, o, none⟩)) (.int k i)).run P w = .ok (.pointer (some ⟨b, o + i.toNat * e.size, none⟩)) w := by
  obtain ⟨⟨et, hu, he⟩, _⟩ := ht
  have hz := run_sizeOf' he w
  simp [Instr.indexAt, asIntOf, run_underlying hu, Instr.sureAddr, h0, h1, hz, add_none]
theorem run_indexAt_sl {e : Ty} {tid : TypeId} (ht : (fit P (.sl e)).1 tid) {k : IntKind} {i : Int} {n cap : Nat} (h0 : 0 ≤ i) (h1 : i < n) (b o : Nat) (w : World) :
    (Instr.indexAt tid (.slice (some ⟨b, o, none⟩) n cap) (.int k i)).run P w = .ok (.pointer (some ⟨b, o + i.toNat * e.size, none⟩)) w := by
  obtain ⟨⟨et, hu, he⟩, _⟩ := ht
  have hz := run_sizeOf' he w
  simp [Instr.indexAt, asIntOf, run_underlying hu, h0, h1, hz, add_none]
theorem offOf_nil (e : Ty) : e.offOf [] = some (0, e) := by cases e <;> rfl
theorem sl_addr {H : View} {e : Ty} {l : List e.den} {v : Value} (h : RepC H (.sl e) l [v]) (hn : l ≠ []) : ∃ b o cap, v = .slice (some ⟨b, o, none⟩) l.length cap := by
  obtain ⟨a, cap, h1, _, _, h2⟩ := RepC.sl_iff.1 h
  rcases h2 with h2 | ⟨b, o, c, el, fz, rfl, _⟩
  · exact absurd h2 hn
  · exact ⟨b, o, cap, by simpa using h1⟩
theorem ix_data {H : View} {e : Ty} {l : List e.den} {v : Value} (h : RepC H (.sl e) l [v]) {tid : TypeId} (ht : (fit P (.sl e)).1 tid) {k : IntKind} {i : Int} (hi : inB i (len l) = true) (w : World) :
    ∃ r, (Instr.indexAt tid v (.int k i)).run P w = .ok r w ∧ RepP φ H B (.ipt e l (nat i) []) r := by
  obtain ⟨h0, h1⟩ := inB_iff.1 hi
  have h1 : i < (l.length : Int) := h1
  have hlt : i.toNat < l.length := by omega
  obtain ⟨b, o, cap, rfl⟩ := sl_addr h (fun e => by subst e; simp at hlt)
  exact ⟨_, run_indexAt_sl ht h0 h1 b o w, hlt, b, o, cap, 0, e, h, offOf_nil e, rfl⟩
theorem own_addr {id : Nat} {e : Ty} {off n : Nat} {v : Value} (h : RepOwn φ id e off n v) (hn : 0 < n) : ∃ b o m cap, φ id = some (b, o, m) ∧ v = .slice (some ⟨b, o + off * e.size, none⟩) n cap := by
  rcases h with ⟨h, _⟩ | ⟨b, o, m, cap, h1, h2, _⟩
  · omega
  · exact ⟨b, o, m, cap, h1, h2⟩
theorem indexAddr_go {xt : Ty} {tid : TypeId} (ht : (fit P xt).1 tid) {a r : PV} {va : Value} {k : IntKind} {i : Int} (h : (indexAddrP xt a i).go g B = some (r, B'))
    (hra : RepP φ (view w M) B a va) : B' = B ∧ ∃ v, (Instr.indexAt tid va (.int k i)).run P w = .ok v w ∧ RepP φ (view w M) B r v := by
  cases a with
  | sc t l =>
    cases xt <;> try (cases h; done)
    rename_i e
    simp only [indexAddrP] at h
    replace h := PM.go_bind_some h; obtain ⟨y, B1, h1, h⟩ := h
    obtain ⟨hc, rfl⟩ := opt_go h1
    obtain ⟨e', rfl⟩ := cast_some hc
    subst e'
    replace h := chk_go h; obtain ⟨hi, h⟩ := h
    cases h
    obtain ⟨cs, hC, rfl⟩ := hra
    obtain ⟨a, cap, rfl, _⟩ := RepC.sl_iff'.1 hC
    exact ⟨rfl, ix_data hC ht hi w⟩
  | csl e l =>
    simp only [indexAddrP] at h
    replace h := bif_go h; obtain ⟨hc, h⟩ := h
    have := is_eq hc; subst this
    replace h := chk_go h; obtain ⟨hi, h⟩ := h
    cases h
    obtain ⟨a, _, hC⟩ := hra
    exact ⟨rfl, ix_data hC ht hi w⟩
  | own id ne =>
    simp only [indexAddrP, PM.go] at h
    have hs : RepS φ (view w M) B (.own id ne) va := hra
    simp only [RepS] at hs
    generalize hB : B id = bl at h hs
    cases bl <;> try (cases h; done)
    all_goals
      replace h := bif_go h; obtain ⟨hc, h⟩ := h
      have := is_eq hc; subst this
      replace h := chk_go h; obtain ⟨hi, h⟩ := h
      cases h
      obtain ⟨h0, h1⟩ := inB_iff.1 hi
      rename_i e l
      have h1 : i < (l.length : Int) := h1
      obtain ⟨b, o, m, cap, g1, rfl⟩ := own_addr hs.1 (by omega)
      refine ⟨rfl, _, run_indexAt_sl ht h0 h1 b _ w, ?_⟩
      simp only [RepP, RepQ, RepS, hB]
      exact ⟨by unfold nat; omega, b, o, m, 0, e, g1, offOf_nil e, by simp [nat]⟩
  | osl id off n =>
    simp only [indexAddrP, PM.go] at h
    have hs : RepS φ (view w M) B (.osl id off n) va := hra
    simp only [RepS] at hs
    generalize hB : B id = bl at h hs
    cases bl <;> try (cases h; done)
    all_goals
      replace h := bif_go h; obtain ⟨hc, h⟩ := h
      have := is_eq hc; subst this
      replace h := chk_go h; obtain ⟨hi, h⟩ := h
      cases h
      obtain ⟨h0, h1⟩ := inB_iff.1 hi
      rename_i e l
      have h1 : i < (n : Int) := h1
      obtain ⟨b, o, m, cap, g1, rfl⟩ := own_addr hs.2 (by omega)
      refine ⟨rfl, _, run_indexAt_sl ht h0 h1 b _ w, ?_⟩
      simp only [RepP, RepQ, RepS, hB]
      have hle := hs.1
      exact ⟨by unfold nadd nat; omega, b, o, m, 0, e, g1, offOf_nil e, by simp only [nat, nadd, Nat.add_mul, Nat.add_zero, Nat.add_assoc]⟩
  | ptr id p =>
    simp only [indexAddrP, PM.go] at h
    have hs : RepS φ (view w M) B (.ptr id p) va := hra
    simp only [RepS] at hs
    generalize hB : B id = bl at h hs
    cases bl <;> try (cases h; done)
    rename_i rt u
    obtain ⟨b, o, n, off, t', h1, h2, rfl⟩ := hs
    obtain ⟨hB', rfl, m, e, rfl, e2, e3, e4, e5⟩ := arrP_spec h
    rw [offOf_at h2] at e2; cases e2
    refine ⟨hB', _, run_indexAt_ar ht e4 e5 b (o + off) w, ?_⟩
    simp only [RepP, RepQ, RepS, hB]
    exact ⟨b, o, n, off + (nat i) * e.size, e, h1, offOf_app h2 (offOf_ix (by unfold nat; omega)), by rw [Nat.add_assoc]; rfl⟩
  | ipt e l j p =>
    obtain ⟨hi, b, o, cap, off, t', h1, h2, rfl⟩ := (hra : RepS φ (view w M) B (.ipt e l j p) va)
    simp only [indexAddrP] at h
    obtain ⟨hB', rfl, m, e', rfl, e2, e3, e4, e5⟩ := arrP_spec h
    rw [offOf_at h2] at e2; cases e2
    exact ⟨hB', _, run_indexAt_ar ht e4 e5 b _ w, hi, b, o, cap, off + (nat i) * e'.size, e', h1, offOf_app h2 (offOf_ix (by unfold nat; omega)), by rw [Nat.add_assoc (o + j * e.size)]; rfl⟩
  | opt id j p =>
    simp only [indexAddrP, PM.go] at h
    have hs : RepS φ (view w M) B (.opt id j p) va := hra
    simp only [RepS] at hs
    generalize hB : B id = bl at h hs
    cases bl <;> try (cases h; done)
    all_goals
      rename_i e l
      obtain ⟨hi, b, o, n, off, t', h1, h2, rfl⟩ := hs
      obtain ⟨hB', rfl, m, e', rfl, e2, e3, e4, e5⟩ := arrP_spec h
      rw [offOf_at h2] at e2; cases e2
      refine ⟨hB', _, run_indexAt_ar ht e4 e5 b _ w, ?_⟩
      simp only [RepP, RepQ, RepS, hB]
      exact ⟨hi, b, o, n, off + (nat i) * e'.size, e', h1, offOf_app h2 (offOf_ix (by unfold nat; omega)), by rw [Nat.add_assoc (o + j * e.size)]; rfl⟩
  | _ => cases h
end
end Yp
