/- The engine, part Y2: what a loop's round turns. -/
import Derived.Test.YtkmimlgogeeooaaYpY
set_option linter.unusedVariables false
set_option linter.unusedSimpArgs false
namespace Yp
open Go
variable {P : Program}
/-! ### what a value refers to -/
def refsL : PV → List Nat
  | .own id _ => [id] | .osl id _ _ => [id] | .ptr id _ => [id] | .opt id _ _ => [id] | .itp id => [id]
  | .two a b => refsL a ++ refsL b | .agg _ a => refsL a | .tup a => refsL a
  | _ => []
section
variable {φ φ' : Pl} {H H' : View} {B B' : Nat → Blk}
theorem RepS.loc {pv : PV} (hφ : ∀ id, id ∈ refsL pv → (B id).live = true → φ' id = φ id) (hH : H.Le H') (hB : ∀ id, id ∈ refsL pv → (B id).Le (B' id)) {v : Value} (h : RepS φ H B pv v) : RepS φ' H' B' pv v := by
  have key : ∀ id0 : Nat, (∀ id, id ∈ refsL pv → id = id0) → id0 ∈ refsL pv → RepS φ' H' B' pv v := fun id0 h1 h2 => by
    have hφ2 : ∀ id, (B id).live = true → (fun j => if j = id0 then φ' j else φ j) id = φ id := fun id hl => by
      by_cases hi : id = id0
      · subst hi; simp [hφ id h2 hl]
      · simp [hi]
    have hB2 : ∀ id, (B id).Le ((fun j => if j = id0 then B' j else B j) id) := fun id => by
      by_cases hi : id = id0
      · subst hi; simp [hB id h2]
      · simp [hi, Blk.Le.refl]
    have := RepS.mono (φ' := fun j => if j = id0 then φ' j else φ j) (H' := H') (B' := fun j => if j = id0 then B' j else B j) hφ2 hH hB2 h
    cases pv <;> simp only [refsL, List.mem_singleton, forall_eq, List.not_mem_nil] at h1 h2 <;> (try exact h2.elim)
    all_goals (first | (subst h2; simpa [RepS, RepOwn] using this) | exact this.elim)
  cases pv with
  | own id ne => exact key id (fun _ h => by simpa [refsL] using h) (by simp [refsL])
  | osl id o n => exact key id (fun _ h => by simpa [refsL] using h) (by simp [refsL])
  | ptr id p => exact key id (fun _ h => by simpa [refsL] using h) (by simp [refsL])
  | opt id i p => exact key id (fun _ h => by simpa [refsL] using h) (by simp [refsL])
  | itp id => exact key id (fun _ h => by simpa [refsL] using h) (by simp [refsL])
  | csl e l => obtain ⟨a, h1, h2⟩ := h; exact ⟨a, h1, h2.mono hH⟩
  | ipt e l i p => obtain ⟨h0, b, o, cap, off, t', h1, h2, h3⟩ := h; exact ⟨h0, b, o, cap, off, t', h1.mono hH, h2, h3⟩
  | _ => exact h
theorem RepT.loc : ∀ {pv : PV} {t : Ty} {cs : List Value}, (∀ id, id ∈ refsL pv → (B id).live = true → φ' id = φ id) → H.Le H' → (∀ id, id ∈ refsL pv → (B id).Le (B' id)) → RepT φ H B pv t cs → RepT φ' H' B' pv t cs := by
  intro pv
  induction pv with
  | two u v hu hv =>
    intro t cs hφ hH hB h
    cases t <;> simp only [RepT] at h ⊢ <;> try exact h
    obtain ⟨c1, c2, h, h1, h2⟩ := h
    exact ⟨c1, c2, h, hu (fun id hi => hφ id (by simp [refsL, hi])) hH (fun id hi => hB id (by simp [refsL, hi])) h1, hv (fun id hi => hφ id (by simp [refsL, hi])) hH (fun id hi => hB id (by simp [refsL, hi])) h2⟩
  | sc t' x => intro t cs hφ hH hB h; obtain ⟨h0, h⟩ := h; exact ⟨h0, h.mono hH⟩
  | agg t a => intro t cs hφ hH hB h; exact h
  | tup a => intro t cs hφ hH hB h; exact h
  | bad => intro t cs hφ hH hB h; exact h
  | _ => intro t cs hφ hH hB h; obtain ⟨h0, v, h1, h2, h3⟩ := h; exact ⟨h0, v, h1, h2, RepS.loc hφ hH hB h3⟩
theorem RepQ.loc {pv : PV} (hφ : ∀ id, id ∈ refsL pv → (B id).live = true → φ' id = φ id) (hH : H.Le H') (hB : ∀ id, id ∈ refsL pv → (B id).Le (B' id)) {v : Value} (h : RepQ φ H B pv v) : RepQ φ' H' B' pv v := by
  cases pv with
  | sc t x => obtain ⟨cs, h1, h2⟩ := h; exact ⟨cs, h1.mono hH, h2⟩
  | agg t a => obtain ⟨h0, cs, h1, h2⟩ := h; exact ⟨h0, cs, RepT.loc hφ hH hB h1, h2⟩
  | _ => simp only [RepQ] at h ⊢; exact RepS.loc hφ hH hB h
theorem RepL.loc : ∀ {pv : PV} {vs : List Value}, (∀ id, id ∈ refsL pv → (B id).live = true → φ' id = φ id) → H.Le H' → (∀ id, id ∈ refsL pv → (B id).Le (B' id)) → RepL φ H B pv vs → RepL φ' H' B' pv vs := by
  intro pv
  induction pv with
  | two u r hu hr =>
    intro vs hφ hH hB h
    obtain ⟨v, vs', h0, h1, h2⟩ := h
    exact ⟨v, vs', h0, RepQ.loc (fun id hi => hφ id (by simp [refsL, hi])) hH (fun id hi => hB id (by simp [refsL, hi])) h1, hr (fun id hi => hφ id (by simp [refsL, hi])) hH (fun id hi => hB id (by simp [refsL, hi])) h2⟩
  | sc t x => intro vs hφ hH hB h; cases t <;> exact h
  | _ => intro vs hφ hH hB h; exact h
theorem RepP.loc {pv : PV} (hφ : ∀ id, id ∈ refsL pv → (B id).live = true → φ' id = φ id) (hH : H.Le H') (hB : ∀ id, id ∈ refsL pv → (B id).Le (B' id)) {v : Value} (h : RepP φ H B pv v) : RepP φ' H' B' pv v := by
  cases pv with
  | tup a => obtain ⟨vs, h1, h2⟩ := h; exact ⟨vs, RepL.loc hφ hH hB h1, h2⟩
  | _ => simp only [RepP] at h ⊢; exact RepQ.loc hφ hH hB h
/-- what is referred to is there -/
theorem RepS.old {pv : PV} {v : Value} (h : RepS φ H B pv v) : ∀ id, id ∈ refsL pv → B id ≠ .new := by
  intro id hi hn
  cases pv <;> simp only [refsL, List.mem_singleton, List.not_mem_nil] at hi <;> (try exact hi.elim)
  all_goals (first | (subst hi; simp only [RepS, hn] at h) | exact h.elim)
theorem RepT.old : ∀ {pv : PV} {t : Ty} {cs : List Value}, RepT φ H B pv t cs → ∀ id, id ∈ refsL pv → B id ≠ .new := by
  intro pv
  induction pv with
  | two u v hu hv =>
    intro t cs h id hi
    cases t <;> simp only [RepT] at h
    obtain ⟨c1, c2, h, h1, h2⟩ := h
    simp only [refsL, List.mem_append] at hi
    exact hi.elim (hu h1 id) (hv h2 id)
  | sc t' x => intro t cs h id hi; simp [refsL] at hi
  | agg t a => intro t cs h; exact h.elim
  | tup a => intro t cs h; exact h.elim
  | bad => intro t cs h id hi; simp [refsL] at hi
  | _ => intro t cs h; obtain ⟨h0, v, h1, h2, h3⟩ := h; exact h3.old
theorem RepQ.old {pv : PV} {v : Value} (h : RepQ φ H B pv v) : ∀ id, id ∈ refsL pv → B id ≠ .new := by
  cases pv with
  | sc t x => intro id hi; simp [refsL] at hi
  | agg t a => obtain ⟨h0, cs, h1, h2⟩ := h; exact h1.old
  | _ => simp only [RepQ] at h; exact RepS.old h
theorem RepL.old : ∀ {pv : PV} {vs : List Value}, RepL φ H B pv vs → ∀ id, id ∈ refsL pv → B id ≠ .new := by
  intro pv
  induction pv with
  | two u r hu hr =>
    intro vs h id hi
    obtain ⟨v, vs', h0, h1, h2⟩ := h
    simp only [refsL, List.mem_append] at hi
    exact hi.elim (h1.old id) (hr h2 id)
  | sc t x => intro vs h id hi; simp [refsL] at hi
  | _ => intro vs h; exact h.elim
theorem RepP.old {pv : PV} {v : Value} (h : RepP φ H B pv v) : ∀ id, id ∈ refsL pv → B id ≠ .new := by
  cases pv with
  | tup a => obtain ⟨vs, h1, h2⟩ := h; exact h1.old
  | _ => simp only [RepP] at h; exact RepQ.old h
end
/-! ### boxes and iterators stay -/
def Stay (B B' : Nat → Blk) : Prop := ∀ id, ((∃ t v, B id = .box t v) ∨ ∃ s p, B id = .it s p) → B' id = B id
theorem Stay.refl (B : Nat → Blk) : Stay B B := fun _ _ => rfl
theorem Stay.trans {B B' B'' : Nat → Blk} (h : Stay B B') (k : Stay B' B'') : Stay B B'' := fun id hi => by
  have h1 := h id hi
  rw [k id (by rw [h1]; exact hi), h1]
theorem Stay.upd {B : Nat → Blk} {id : Nat} {e : Ty} {l : List e.den} (h : B id = .ob e l) (b : Blk) : Stay B (updB B id b) := fun j hj => by
  rw [updB_ne]
  rintro rfl
  rw [h] at hj
  rcases hj with ⟨t, v, h⟩ | ⟨s, p, h⟩ <;> cases h
section
variable {g : Nat → PV}
theorem row_stay {frz : Bool} {id : Nat} {e : Ty} {x : List e.den} {B B' : Nat → Blk} (h : (rowM frz id e).go g B = some (x, B')) : Stay B B' := by
  simp only [rowM, PM.go] at h
  generalize hB : B id = bl at h
  cases bl <;> try (cases h; done)
  · obtain ⟨y, B1, h1, h2⟩ := PM.go_bind_some h
    obtain ⟨_, hB1⟩ := opt_go h1
    cases frz with
    | false => cases h2; rw [hB1]; exact Stay.refl _
    | true => cases h2; rw [hB1]; exact Stay.upd hB _
  · obtain ⟨_, h1⟩ := opt_go h; rw [h1]; exact Stay.refl _
theorem toDM_stay {frz : Bool} : ∀ {pv : PV} {t : Ty} {x : t.den} {B B' : Nat → Blk}, (toDM' frz pv t).go g B = some (x, B') → Stay B B' := by
  intro pv
  induction pv with
  | own id ne =>
    intro t x B B' h
    cases t <;> try (cases h; done)
    exact row_stay h
  | osl id off n =>
    intro t x B B' h
    cases t <;> try (cases h; done)
    obtain ⟨y, B1, h1, h2⟩ := PM.go_bind_some h
    cases h2
    exact row_stay h1
  | two u v hu hv =>
    intro t x B B' h
    cases t <;> try (cases h; done)
    obtain ⟨y, B1, h1, h2⟩ := PM.go_bind_some h
    obtain ⟨z, B2, h3, h4⟩ := PM.go_bind_some h2
    cases h4
    exact (hu h1).trans (hv h3)
  | agg t' u hu =>
    intro t x B B' h
    have h' : (bif Ty.is t' t then toDM' frz u t else .fail : PM t.den).go g B = some (x, B') := h
    obtain ⟨_, h'⟩ := bif_go h'
    exact hu h'
  | sc t' y => intro t x B B' h; obtain ⟨_, h1⟩ := opt_go h; rw [h1]; exact Stay.refl _
  | kb b => intro t x B B' h; obtain ⟨_, h1⟩ := opt_go h; rw [h1]; exact Stay.refl _
  | nil => intro t x B B' h; obtain ⟨_, h1⟩ := opt_go h; rw [h1]; exact Stay.refl _
  | csl e l => intro t x B B' h; obtain ⟨_, h1⟩ := opt_go h; rw [h1]; exact Stay.refl _
  | _ => intro t x B B' h; cases h
theorem ownS_stay {e : Ty} {pv : PV} {x : List e.den} {B B' : Nat → Blk} (h : (ownS e pv).go g B = some (x, B')) : Stay B B' := by
  cases pv <;> try (cases h; done)
  · obtain ⟨_, h⟩ := bif_go (show (bif Nat.blt 0 e.size then .ret [] else .fail : PM (List e.den)).go g B = some (x, B') from h)
    cases h; exact Stay.refl _
  · rename_i id ne
    simp only [ownS, PM.go] at h
    generalize hB : B id = bl at h
    cases bl <;> try (cases h; done)
    obtain ⟨y, B1, h1, h2⟩ := PM.go_bind_some h
    obtain ⟨_, hB1⟩ := opt_go h1
    cases h2
    rw [hB1]; exact Stay.upd hB _
theorem outS_stay : ∀ {sh : Sh} {pv : PV} {x : sh.den} {B B' : Nat → Blk}, (outS sh pv).go g B = some (x, B') → Stay B B'
  | .d t, pv, x, B, B', h => toDM_stay (pv := pv) h
  | .o _ e, pv, x, B, B', h => ownS_stay h
  | .p a b, pv, x, B, B', h => by
    simp only [outS] at h
    cases hs : splitP pv with
    | none => rw [hs] at h; cases h
    | some uw =>
      obtain ⟨u, v⟩ := uw
      rw [hs] at h
      simp only at h
      obtain ⟨y, B1, h1, h2⟩ := PM.go_bind_some h
      obtain ⟨z, B2, h3, h4⟩ := PM.go_bind_some h2
      cases h4
      exact (outS_stay h1).trans (outS_stay h3)
end
/-! ### what is taken out -/
def ShF (w : World) (M : Nat → Prop) (lo : Nat) : (sh : Sh) → sh.den → List Value → (Nat → Prop) → (Nat → Prop) → Prop
  | .d t, x, cs, U, U' => RepC (view w M) t x cs ∧ U' = U
  | .o _ e, l, cs, U, U' => 0 < e.size ∧ ∃ v, cs = [v] ∧ v.oneCell' = true ∧ (((l : List e.den) = [] ∧ (∃ a, v = .slice a 0 0) ∧ U' = U) ∨ ∃ b, OwRep w M lo U e l v b ∧ U' = fun j => U j ∨ j = b)
  | .p a b, x, cs, U, U' => ∃ c1 c2 Um, cs = c1 ++ c2 ∧ ShF w M lo a x.1 c1 U Um ∧ ShF w M lo b x.2 c2 Um U'
theorem ShF.one {w : World} {M : Nat → Prop} {lo : Nat} : ∀ {sh : Sh} {x : sh.den} {cs : List Value} {U U' : Nat → Prop}, ShF w M lo sh x cs U U' → ∀ v ∈ cs, v.oneCell' = true
  | .d t, x, cs, U, U', h => h.1.one
  | .o _ e, l, cs, U, U', h => by obtain ⟨_, v, rfl, h1, _⟩ := h; intro w hw; simp at hw; rw [hw]; exact h1
  | .p a b, x, cs, U, U', h => by
    obtain ⟨c1, c2, Um, rfl, h1, h2⟩ := h
    intro v hv
    exact (List.mem_append.1 hv).elim (h1.one v) (h2.one v)
theorem ShF.sub {w : World} {M : Nat → Prop} {lo : Nat} : ∀ {sh : Sh} {x : sh.den} {cs : List Value} {U U' : Nat → Prop}, ShF w M lo sh x cs U U' → ∀ b, U b → U' b
  | .d t, x, cs, U, U', h => by intro b hb; rw [h.2]; exact hb
  | .o _ e, l, cs, U, U', h => by
    obtain ⟨_, v, _, _, h⟩ := h
    intro b hb
    rcases h with ⟨_, _, h⟩ | ⟨_, _, h⟩ <;> rw [h]
    · exact hb
    · exact .inl hb
  | .p a b, x, cs, U, U', h => by obtain ⟨c1, c2, Um, _, h1, h2⟩ := h; exact fun b hb => h2.sub b (h1.sub b hb)
theorem ShF.le {w : World} {M M' : Nat → Prop} {lo : Nat} (hv : (view w M).Le (view w M')) : ∀ {sh : Sh} {x : sh.den} {cs : List Value} {U U' : Nat → Prop}, ShF w M lo sh x cs U U' → (∀ b, U' b → M' b) → ShF w M' lo sh x cs U U'
  | .d t, x, cs, U, U', h, _ => ⟨h.1.mono hv, h.2⟩
  | .o _ e, l, cs, U, U', h, hM => by
    obtain ⟨h0, v, h1, h2, h⟩ := h
    refine ⟨h0, v, h1, h2, ?_⟩
    rcases h with h | ⟨b, h, h3⟩
    · exact .inl h
    · exact .inr ⟨b, h.le hv (hM b (by rw [h3]; exact .inr rfl)), h3⟩
  | .p a b, x, cs, U, U', h, hM => by
    obtain ⟨c1, c2, Um, h0, h1, h2⟩ := h
    exact ⟨c1, c2, Um, h0, h1.le hv (fun b hb => hM b (h2.sub b hb)), h2.le hv hM⟩
section
variable {K : Kp} {w0 w : World} {φ : Pl} {M : Nat → Prop} {B B' : Nat → Blk} {g : Nat → PV}
theorem split_T {H : View} {pv u v : PV} {ta tb : Ty} {cs : List Value} (h : splitP pv = some (u, v)) (hr : RepT φ H B pv (.pair ta tb) cs) : ∃ c1 c2, cs = c1 ++ c2 ∧ RepT φ H B u ta c1 ∧ RepT φ H B v tb c2 := by
  cases pv <;> try (cases h; done)
  · rename_i t x
    cases t <;> try (cases h; done)
    cases h
    obtain ⟨e, hC⟩ := hr
    cases e
    obtain ⟨c1, c2, h0, h1, h2⟩ := RepC.pair_iff.1 hC
    exact ⟨c1, c2, h0, ⟨rfl, h1⟩, rfl, h2⟩
  · cases h
    exact hr
/-- a slice of the call's own, or none, taken -/
theorem ownS_go (hK : ∀ b, K.k b ↔ b < w0.heap.size) {e : Ty} {pv : PV} {x : List e.den} {v : Value} (h : (ownS e pv).go g B = some (x, B')) (hm : Mem K w0 φ M B w) (hr : RepS φ (view w M) B pv v) {U : Nat → Prop} (hU : Taken φ M B U) :
    0 < e.size ∧ v.oneCell' = true ∧ ∃ U', Mem K w0 φ M B' w ∧ Ext φ M B w φ M B' w ∧ Taken φ M B' U' ∧ ((x = [] ∧ (∃ a, v = .slice a 0 0) ∧ U' = U) ∨ ∃ b, OwRep w M w0.heap.size U e x v b ∧ U' = fun j => U j ∨ j = b) := by
  cases pv <;> try (cases h; done)
  · obtain ⟨h0, h⟩ := bif_go (show (bif Nat.blt 0 e.size then .ret [] else .fail : PM (List e.den)).go g B = some (x, B') from h)
    cases h
    simp only [RepS] at hr; subst hr
    exact ⟨by simpa using h0, rfl, U, hm, Ext.refl _ _ _ _, hU, .inl ⟨rfl, ⟨none, rfl⟩, rfl⟩⟩
  · rename_i id ne
    simp only [ownS, PM.go] at h
    have hbl := hm.blks id
    simp only [RepS] at hr
    generalize hB : B id = bl at h hr hbl
    cases bl <;> try (cases h; done)
    rename_i e' l
    obtain ⟨y, B1, h1, h2⟩ := PM.go_bind_some h
    obtain ⟨hc, hB1⟩ := opt_go h1
    obtain ⟨ee, rfl⟩ := castL_some hc
    subst ee
    cases h2
    rw [hB1]
    obtain ⟨m1, e1, h3⟩ := take_own hm hK hB (off := 0) (n := l.length) (by omega) hr.1 hU
    rw [cut_all] at h3
    obtain ⟨ad, c, hv⟩ := hr.1.slice
    refine ⟨hbl.1, by rw [hv]; rfl, ?_⟩
    rcases h3 with ⟨h3, h4, h5⟩ | ⟨b, h3, h5⟩
    · exact ⟨U, m1, e1, h5, .inl ⟨h3, h4, rfl⟩⟩
    · exact ⟨_, m1, e1, h5, .inr ⟨b, h3, rfl⟩⟩
theorem outS_go (hK : ∀ b, K.k b ↔ b < w0.heap.size) : ∀ {sh : Sh} {pv : PV} {x : sh.den} {M : Nat → Prop} {B B' : Nat → Blk} {cs : List Value} {U : Nat → Prop}, (outS sh pv).go g B = some (x, B') → Mem K w0 φ M B w → RepT φ (view w M) B pv (shTy sh) cs → Taken φ M B U →
    ∃ M' U', Mem K w0 φ M' B' w ∧ Ext φ M B w φ M' B' w ∧ Taken φ M' B' U' ∧ ShF w M' w0.heap.size sh x cs U U'
  | .d t, pv, x, M, B, B', cs, U, h, hm, hr, hU => by
    obtain ⟨M', m1, e1, t1, _, f1⟩ := toDM_T (pv := pv) h hm hr
    exact ⟨M', U, m1, e1, hU.thin t1, f1 rfl, rfl⟩
  | .o _ e, pv, x, M, B, B', cs, U, h, hm, hr, hU => by
    have h' : (ownS e pv).go g B = some (x, B') := h
    have hS : ∃ v, cs = [v] ∧ RepS φ (view w M) B pv v := by
      cases pv <;> try (cases h'; done)
      all_goals (obtain ⟨_, v, h1, _, h2⟩ := hr; exact ⟨v, h1, h2⟩)
    obtain ⟨v, rfl, hS⟩ := hS
    obtain ⟨h0, h1, U', m1, e1, t1, h2⟩ := ownS_go hK h' hm hS hU
    exact ⟨M, U', m1, e1, t1, h0, v, rfl, h1, h2⟩
  | .p a b, pv, x, M, B, B', cs, U, h, hm, hr, hU => by
    simp only [outS] at h
    cases hs : splitP pv with
    | none => rw [hs] at h; cases h
    | some uw =>
      obtain ⟨u, v⟩ := uw
      rw [hs] at h
      simp only at h
      obtain ⟨y, B1, h1, h2⟩ := PM.go_bind_some h
      obtain ⟨z, B2, h3, h4⟩ := PM.go_bind_some h2
      cases h4
      obtain ⟨c1, c2, rfl, r1, r2⟩ := split_T hs hr
      obtain ⟨M1, U1, m1, e1, t1, f1⟩ := outS_go hK h1 hm r1 hU
      obtain ⟨M2, U2, m2, e2, t2, f2⟩ := outS_go hK h3 m1 (e1.T r2) t1
      exact ⟨M2, U2, m2, e1.trans e2, t2, c1, c2, U1, rfl, f1.le e2.vw (fun b hb => t2.2 b (f2.sub b hb)), f2⟩
end
/-- the entries' data, and what they are in memory -/
def EF (φ : Pl) (w : World) (M : Nat → Prop) (B : Nat → Blk) (lo : Nat) (a : Act) : (es : List En) → denE es → (Nat → Prop) → (Nat → Prop) → Prop
  | [], _, U, U' => U' = U
  | .sl i t :: r, x, U, U' => (∃ cs, RepC (view w M) t x.1 cs ∧ a.tmps.getD i undef = mkV t cs) ∧ EF φ w M B lo a r x.2 U U'
  | .ow i _ e :: r, x, U, U' => 0 < e.size ∧ ∃ Um, (((x.1 : List e.den) = [] ∧ (∃ ad, a.tmps.getD i undef = .slice ad 0 0) ∧ Um = U) ∨ ∃ b, OwRep w M lo U e x.1 (a.tmps.getD i undef) b ∧ Um = fun j => U j ∨ j = b) ∧ EF φ w M B lo a r x.2 Um U'
  | .bk id e :: r, x, U, U' => B id = .ob e x.1 ∧ EF φ w M B lo a r x.2 U U'
  | .bx id t sh :: r, x, U, U' => (∃ v, B id = .box t v) ∧ shTy sh = t ∧ ∃ b o c el fz Um, φ id = some (b, o, Array.size c) ∧ w.heap[b]? = some (.cells c el fz) ∧ o + t.size ≤ c.size ∧ okFz c fz ∧ M b ∧ ShF w M lo sh x.1 (seg c o t.size) U Um ∧ EF φ w M B lo a r x.2 Um U'
  | .it id _ :: r, x, U, U' => (∃ s, B id = .it s x.1) ∧ EF φ w M B lo a r x.2 U U'
theorem EF.sub {φ : Pl} {w : World} {M : Nat → Prop} {B : Nat → Blk} {lo : Nat} {a : Act} : ∀ {es : List En} {x : denE es} {U U' : Nat → Prop}, EF φ w M B lo a es x U U' → ∀ b, U b → U' b
  | [], _, U, U', h => by intro b hb; have h : U' = U := h; rw [h]; exact hb
  | .sl i t :: r, x, U, U', h => h.2.sub
  | .ow i _ e :: r, x, U, U', h => by
    obtain ⟨_, Um, h1, h2⟩ := h
    intro b hb
    refine h2.sub b ?_
    rcases h1 with ⟨_, _, h1⟩ | ⟨_, _, h1⟩ <;> rw [h1]
    · exact hb
    · exact .inl hb
  | .bk id e :: r, x, U, U', h => h.2.sub
  | .bx id t sh :: r, x, U, U', h => by
    obtain ⟨_, _, b, o, c, el, fz, Um, _, _, _, _, _, h1, h2⟩ := h
    exact fun b hb => h2.sub b (h1.sub b hb)
  | .it id s :: r, x, U, U', h => h.2.sub
end Yp
