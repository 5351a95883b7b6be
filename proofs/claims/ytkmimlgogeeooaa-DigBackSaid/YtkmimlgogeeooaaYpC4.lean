/- The engine, part C4: memory. -/
import Derived.Test.YtkmimlgogeeooaaYpC3
set_option linter.unusedVariables false
set_option linter.unusedSimpArgs false
namespace Yp
open Go

open Classical in
/-- the heap without the blocks that may still be written -/
noncomputable def view (w : World) (M : Nat → Prop) : View := fun b => if M b then none else w.heap[b]?
theorem view_some {w : World} {M : Nat → Prop} {b : Nat} {o : Obj} : view w M b = some o ↔ ¬ M b ∧ w.heap[b]? = some o := by
  unfold view
  split <;> simp_all
theorem view_le {w w' : World} {M M' : Nat → Prop} (h : ∀ b o, ¬ M b → w.heap[b]? = some o → ¬ M' b ∧ w'.heap[b]? = some o) : (view w M).Le (view w' M') := by
  intro b o hb
  rw [view_some] at hb ⊢
  exact h b o hb.1 hb.2
def okFz (c : Array Value) (fz : Nat × Nat) : Prop := ∀ i, i < c.size → ¬ (fz.1 ≤ i ∧ i < fz.2)
def Row (H : View) (e : Ty) (l : List e.den) (c : Array Value) (o : Nat) : Prop :=
  o + l.length * e.size ≤ c.size ∧ ∀ (i : Nat) (x : e.den), lget l i = some x → RepC H e x (seg c (o + i * e.size) e.size)
theorem Row.mono {H H' : View} (hl : H.Le H') {e : Ty} {l : List e.den} {c : Array Value} {o : Nat} (h : Row H e l c o) : Row H' e l c o :=
  ⟨h.1, fun i x hi => (h.2 i x hi).mono hl⟩
section
variable (φ : Pl) (M : Nat → Prop) (w : World) (H : View) (B : Nat → Blk)
def RepB (id : Nat) : Blk → Prop
  | .new => True
  | .gone => True
  | .box t v => ∃ b o c el fz, φ id = some (b, o, c.size) ∧ w.heap[b]? = some (.cells c el fz) ∧ o + t.size ≤ c.size ∧ RepT φ H B v t (seg c o t.size) ∧ okFz c fz ∧ M b
  | .ob e l => 0 < e.size ∧ ((φ id = none ∧ l.length = 0) ∨ ∃ b o c el fz, φ id = some (b, o, c.size) ∧ w.heap[b]? = some (.cells c el fz) ∧ Row H e l c o ∧ okFz c fz ∧ M b)
  | .fz e l => 0 < e.size ∧ ((φ id = none ∧ l.length = 0) ∨ ∃ b o c el fz, φ id = some (b, o, c.size) ∧ H b = some (.cells c el fz) ∧ Row H e l c o)
  | .it s p => ∃ b, φ id = some (b, 0, 0) ∧ w.heap[b]? = some (.stringIter ⟨s.toArray⟩ p) ∧ M b
end
def Blk.mut : Blk → Bool
  | .box _ _ => true | .ob _ _ => true | .it _ _ => true | _ => false
theorem Blk.live_of_mut {b : Blk} (h : b.mut = true) : b.live = true := by cases b <;> first | rfl | cases h
/-- what was there when the call began: the blocks that stay as they were, and those of them that the call cannot see -/
structure Kp where
  k : Nat → Prop
  x : Nat → Prop
structure Mem (K : Kp) (w0 : World) (φ : Pl) (M : Nat → Prop) (B : Nat → Blk) (w : World) : Prop where
  os : w.os = w0.os
  tape : w.tape = w0.tape
  output : w.output = w0.output
  size : w0.heap.size ≤ w.heap.size
  keep : ∀ b, K.k b → w.heap[b]? = w0.heap[b]?
  klt : ∀ b, K.k b → b < w0.heap.size
  hid : ∀ b, K.k b → (M b ↔ K.x b)
  own : ∀ id, (B id).mut = true → ∀ x, φ id = some x → ¬ K.k x.1
  mlt : ∀ b, M b → b < w.heap.size
  blks : ∀ id, RepB φ M w (view w M) B id (B id)
  sep : ∀ i j, i ≠ j → (B i).mut = true → (B j).mut = true → ∀ x y, φ i = some x → φ j = some y → x.1 ≠ y.1
/-- what was true of values stays true -/
structure Ext (φ : Pl) (M : Nat → Prop) (B : Nat → Blk) (w : World) (φ' : Pl) (M' : Nat → Prop) (B' : Nat → Blk) (w' : World) : Prop where
  pl : ∀ id, (B id).live = true → φ' id = φ id
  vw : (view w M).Le (view w' M')
  bl : ∀ id, (B id).Le (B' id)
theorem Ext.refl (φ : Pl) (M : Nat → Prop) (B : Nat → Blk) (w : World) : Ext φ M B w φ M B w :=
  ⟨fun _ _ => rfl, View.Le.refl _, fun _ => Blk.Le.refl _⟩
theorem Ext.p {φ φ' : Pl} {M M' : Nat → Prop} {B B' : Nat → Blk} {w w' : World} (h : Ext φ M B w φ' M' B' w') {pv : PV} {v : Value} (hp : RepP φ (view w M) B pv v) : RepP φ' (view w' M') B' pv v :=
  hp.mono h.pl h.vw h.bl
def updB (B : Nat → Blk) (id : Nat) (b : Blk) : Nat → Blk := fun j => if j = id then b else B j
theorem updB_same (B : Nat → Blk) (id : Nat) (b : Blk) : updB B id b id = b := by simp [updB]
theorem updB_ne (B : Nat → Blk) {id j : Nat} (b : Blk) (h : j ≠ id) : updB B id b j = B j := by simp [updB, h]
/-- a block that nobody speaks of any more -/
theorem RepB.congr {φ φ' : Pl} {M M' : Nat → Prop} {w w' : World} {H H' : View} {B B' : Nat → Blk} {id : Nat} {b : Blk}
    (hid : φ' id = φ id) (hφ : ∀ id, (B id).live = true → φ' id = φ id) (hH : H.Le H') (hB : ∀ id, (B id).Le (B' id))
    (hw : ∀ x, φ id = some x → b.mut = true → w'.heap[x.1]? = w.heap[x.1]?) (hM : ∀ x, φ id = some x → b.mut = true → M x.1 → M' x.1)
    (h : RepB φ M w H B id b) : RepB φ' M' w' H' B' id b := by
  cases b with
  | new => trivial
  | gone => trivial
  | box t v =>
    obtain ⟨b, o, c, el, fz, h1, h2, h3, h4, h5, h6⟩ := h
    exact ⟨b, o, c, el, fz, hid.trans h1, (hw _ h1 rfl).trans h2, h3, h4.mono hφ hH hB, h5, hM _ h1 rfl h6⟩
  | ob e l =>
    refine ⟨h.1, ?_⟩
    rcases h.2 with ⟨h1, h2⟩ | ⟨b, o, c, el, fz, h1, h2, h3, h4, h5⟩
    · exact .inl ⟨hid.trans h1, h2⟩
    · exact .inr ⟨b, o, c, el, fz, hid.trans h1, (hw _ h1 rfl).trans h2, h3.mono hH, h4, hM _ h1 rfl h5⟩
  | fz e l =>
    refine ⟨h.1, ?_⟩
    rcases h.2 with ⟨h1, h2⟩ | ⟨b, o, c, el, fz, h1, h2, h3⟩
    · exact .inl ⟨hid.trans h1, h2⟩
    · exact .inr ⟨b, o, c, el, fz, hid.trans h1, hH _ _ h2, h3.mono hH⟩
  | it s p =>
    obtain ⟨b, h1, h2, h3⟩ := h
    exact ⟨b, hid.trans h1, (hw _ h1 rfl).trans h2, hM _ h1 rfl h3⟩
section
variable {K : Kp} {w0 w : World} {φ : Pl} {M : Nat → Prop} {B : Nat → Blk}
/-- consumed -/
theorem Mem.gone (h : Mem K w0 φ M B w) (id : Nat) : Mem K w0 φ M (updB B id .gone) w ∧ Ext φ M B w φ M (updB B id .gone) w := by
  have he : Ext φ M B w φ M (updB B id .gone) w := ⟨fun _ _ => rfl, View.Le.refl _, fun j => by
    by_cases hj : j = id
    · subst hj; rw [updB_same]; cases B j <;> trivial
    · rw [updB_ne _ _ hj]; exact Blk.Le.refl _⟩
  refine ⟨{ h with own := fun j hj => ?_, blks := fun j => ?_, sep := fun i j hij hi hj => ?_ }, he⟩
  · by_cases h1 : j = id
    · subst h1; rw [updB_same] at hj; cases hj
    · rw [updB_ne _ _ h1] at hj; exact h.own j hj
  · by_cases hj : j = id
    · subst hj; rw [updB_same]; trivial
    · rw [updB_ne _ _ hj]
      exact (h.blks j).congr rfl he.pl he.vw he.bl (fun _ _ _ => rfl) (fun _ _ _ h => h)
  · by_cases h1 : i = id
    · subst h1; rw [updB_same] at hi; cases hi
    · by_cases h2 : j = id
      · subst h2; rw [updB_same] at hj; cases hj
      · rw [updB_ne _ _ h1] at hi; rw [updB_ne _ _ h2] at hj
        exact h.sep i j hij hi hj
/-- fewer may be written, and only such as somebody had -/
def Thin (φ : Pl) (M : Nat → Prop) (B : Nat → Blk) (M' : Nat → Prop) (B' : Nat → Blk) : Prop :=
  (∀ b, M b → ¬ M' b → ∃ j, (B j).mut = true ∧ ∃ z, φ j = some z ∧ z.1 = b) ∧ ∀ j, (B' j).mut = true → (B j).mut = true
theorem Thin.refl (φ : Pl) (M : Nat → Prop) (B : Nat → Blk) : Thin φ M B M B := ⟨fun b h h' => absurd h h', fun _ h => h⟩
theorem Thin.trans {φ : Pl} {M M' M'' : Nat → Prop} {B B' B'' : Nat → Blk} (h : Thin φ M B M' B') (k : Thin φ M' B' M'' B'') : Thin φ M B M'' B'' := by
  refine ⟨fun b h1 h2 => ?_, fun j hj => h.2 j (k.2 j hj)⟩
  by_cases hm : M' b
  · obtain ⟨j, hj, z, hz⟩ := k.1 b hm h2
    exact ⟨j, h.2 j hj, z, hz⟩
  · exact h.1 b h1 hm
/-- kept from now on -/
theorem Mem.freeze (h : Mem K w0 φ M B w) {id : Nat} {e : Ty} {l : List e.den} (hb : B id = .ob e l) :
    ∃ M', Mem K w0 φ M' (updB B id (.fz e l)) w ∧ Ext φ M B w φ M' (updB B id (.fz e l)) w ∧ Thin φ M B M' (updB B id (.fz e l)) := by
  refine ⟨fun b => M b ∧ ∀ x, φ id = some x → b ≠ x.1, ?_⟩
  have hv : (view w M).Le (view w fun b => M b ∧ ∀ x, φ id = some x → b ≠ x.1) := view_le fun b o hM ho => ⟨fun hc => hM hc.1, ho⟩
  have he : Ext φ M B w φ (fun b => M b ∧ ∀ x, φ id = some x → b ≠ x.1) (updB B id (.fz e l)) w := ⟨fun _ _ => rfl, hv, fun j => by
    by_cases hj : j = id
    · subst hj; rw [updB_same, hb]; exact ⟨rfl, rfl⟩
    · rw [updB_ne _ _ hj]; exact Blk.Le.refl _⟩
  refine ⟨{ h with hid := fun b hk => ⟨fun hm => (h.hid b hk).1 hm.1, fun hx => ⟨(h.hid b hk).2 hx, fun x hx2 e => h.own id (by rw [hb]; rfl) x hx2 (e ▸ hk)⟩⟩, mlt := fun b hm => h.mlt b hm.1, own := fun j hj => ?_, blks := fun j => ?_, sep := fun i j hij hi hj => ?_ }, he, ⟨fun b hb hn => ?_, fun j hj => ?_⟩⟩
  · by_cases h1 : j = id
    · subst h1; rw [updB_same] at hj; cases hj
    · rw [updB_ne _ _ h1] at hj; exact h.own j hj
  · by_cases hj : j = id
    · subst hj; rw [updB_same]
      have hr := h.blks j
      rw [hb] at hr
      refine ⟨hr.1, ?_⟩
      rcases hr.2 with ⟨h1, h2⟩ | ⟨b, o, c, el, fz, h1, h2, h3, h4, h5⟩
      · exact .inl ⟨h1, h2⟩
      · exact .inr ⟨b, o, c, el, fz, h1, view_some.2 ⟨fun hc => hc.2 _ h1 rfl, h2⟩, h3.mono hv⟩
    · rw [updB_ne _ _ hj]
      refine (h.blks j).congr rfl he.pl he.vw he.bl (fun _ _ _ => rfl) fun x hx hm hM => ⟨hM, fun y hy => ?_⟩
      exact h.sep j id hj hm (by rw [hb]; rfl) x y hx hy
  · by_cases h1 : i = id
    · subst h1; rw [updB_same] at hi; cases hi
    · by_cases h2 : j = id
      · subst h2; rw [updB_same] at hj; cases hj
      · rw [updB_ne _ _ h1] at hi; rw [updB_ne _ _ h2] at hj
        exact h.sep i j hij hi hj
  · refine Classical.byContradiction fun hc => hn ⟨hb, fun x hx e => hc ⟨id, by rw [‹B id = _›]; rfl, x, hx, e.symm⟩⟩
  · by_cases h1 : j = id
    · subst h1; rw [updB_same] at hj; cases hj
    · rw [updB_ne _ _ h1] at hj; exact hj
def updP (φ : Pl) (id : Nat) (x : Option (Nat × Nat × Nat)) : Pl := fun j => if j = id then x else φ j
theorem updP_same (φ : Pl) (id : Nat) (x : Option (Nat × Nat × Nat)) : updP φ id x id = x := by simp [updP]
theorem updP_ne (φ : Pl) {id j : Nat} (x : Option (Nat × Nat × Nat)) (h : j ≠ id) : updP φ id x j = φ j := by simp [updP, h]
/-- new blocks, of which some ('N') may yet be written -/
theorem Mem.grow (h : Mem K w0 φ M B w) {w' : World} (h1 : w'.os = w.os) (h2 : w'.tape = w.tape) (h3 : w'.output = w.output) (hs : w.heap.size ≤ w'.heap.size)
    (hb : ∀ b, b < w.heap.size → w'.heap[b]? = w.heap[b]?) (N : Nat → Prop) (hN : ∀ b, N b → w.heap.size ≤ b ∧ b < w'.heap.size) :
    Mem K w0 φ (fun b => M b ∨ N b) B w' ∧ Ext φ M B w φ (fun b => M b ∨ N b) B w' := by
  have hlt : ∀ b o, w.heap[b]? = some o → b < w.heap.size := fun b o ho => (Array.getElem?_eq_some_iff.1 ho).1
  have hv : (view w M).Le (view w' fun b => M b ∨ N b) := view_le fun b o hM ho =>
    ⟨fun hc => hc.elim hM fun hn => by have := hN b hn; have := hlt b o ho; omega, (hb b (hlt b o ho)).trans ho⟩
  have he : Ext φ M B w φ (fun b => M b ∨ N b) B w' := ⟨fun _ _ => rfl, hv, fun _ => Blk.Le.refl _⟩
  refine ⟨{ os := h1.trans h.os, tape := h2.trans h.tape, output := h3.trans h.output, size := Nat.le_trans h.size hs, keep := fun b hk => ?_, klt := h.klt,
            hid := fun b hk => ⟨fun hm => ?_, fun hx => .inl ((h.hid b hk).2 hx)⟩, own := h.own, mlt := fun b hm => ?_, blks := fun j => ?_, sep := h.sep }, he⟩
  · exact (hb b (Nat.lt_of_lt_of_le (h.klt b hk) h.size)).trans (h.keep b hk)
  · rcases hm with hm | hm
    · exact (h.hid b hk).1 hm
    · have := hN b hm; have := h.klt b hk; have := h.size; omega
  · rcases hm with hm | hm
    · exact Nat.lt_of_lt_of_le (h.mlt b hm) hs
    · exact (hN b hm).2
  · refine (h.blks j).congr rfl he.pl he.vw he.bl (fun x hx hm => hb _ ?_) (fun x _ _ hm => .inl hm)
    have hr := h.blks j
    generalize B j = bl at hr hm
    cases bl with
    | new => cases hm
    | gone => cases hm
    | fz e l => cases hm
    | box t v => obtain ⟨b, o, c, el, fz, h1, h2, _⟩ := hr; rw [h1] at hx; cases hx; exact hlt _ _ h2
    | ob e l =>
      rcases hr.2 with ⟨h1, _⟩ | ⟨b, o, c, el, fz, h1, h2, _⟩
      · rw [h1] at hx; cases hx
      · rw [h1] at hx; cases hx; exact hlt _ _ h2
    | it s p => obtain ⟨b, h1, h2, _⟩ := hr; rw [h1] at hx; cases hx; exact hlt _ _ h2
/-- a block gets a number -/
theorem Mem.adopt (h : Mem K w0 φ M B w) {id : Nat} (hid : B id = .new) (blk : Blk) (x : Option (Nat × Nat × Nat))
    (hown : blk.mut = true → ∀ y, x = some y → ¬ K.k y.1) (hsep : blk.mut = true → ∀ y, x = some y → ∀ j, (B j).mut = true → ∀ z, φ j = some z → z.1 ≠ y.1)
    (hr : Ext φ M B w (updP φ id x) M (updB B id blk) w → RepB (updP φ id x) M w (view w M) (updB B id blk) id blk) :
    Mem K w0 (updP φ id x) M (updB B id blk) w ∧ Ext φ M B w (updP φ id x) M (updB B id blk) w := by
  have he : Ext φ M B w (updP φ id x) M (updB B id blk) w := ⟨fun j hj => updP_ne _ _ (fun e => by subst e; rw [hid] at hj; cases hj), View.Le.refl _, fun j => by
    by_cases hj : j = id
    · subst hj; rw [updB_same, hid]; trivial
    · rw [updB_ne _ _ hj]; exact Blk.Le.refl _⟩
  refine ⟨{ h with own := fun j hj y hy => ?_, blks := fun j => ?_, sep := fun i j hij hi hj y z hy hz => ?_ }, he⟩
  · by_cases h1 : j = id
    · subst h1; rw [updB_same] at hj; rw [updP_same] at hy; exact hown hj y hy
    · rw [updB_ne _ _ h1] at hj; rw [updP_ne _ _ h1] at hy; exact h.own j hj y hy
  · by_cases hj : j = id
    · subst hj; rw [updB_same]; exact hr he
    · rw [updB_ne _ _ hj]
      exact (h.blks j).congr (updP_ne _ _ hj) he.pl he.vw he.bl (fun _ _ _ => rfl) (fun _ _ _ h => h)
  · by_cases h1 : i = id
    · subst h1
      have h2 : j ≠ i := fun e => hij e.symm
      rw [updB_same] at hi; rw [updB_ne _ _ h2] at hj; rw [updP_same] at hy; rw [updP_ne _ _ h2] at hz
      exact (hsep hi y hy j hj z hz).symm
    · by_cases h2 : j = id
      · subst h2
        rw [updB_same] at hj; rw [updB_ne _ _ h1] at hi; rw [updP_same] at hz; rw [updP_ne _ _ h1] at hy
        exact hsep hj z hz i hi y hy
      · rw [updB_ne _ _ h1] at hi; rw [updB_ne _ _ h2] at hj; rw [updP_ne _ _ h1] at hy; rw [updP_ne _ _ h2] at hz
        exact h.sep i j hij hi hj y z hy hz
/-- a store into a block of the call's own -/
theorem Mem.put (h : Mem K w0 φ M B w) {id : Nat} {x : Nat × Nat × Nat} (hm : (B id).mut = true) (hx : φ id = some x) (hMx : M x.1) {w' : World}
    (h1 : w'.os = w.os) (h2 : w'.tape = w.tape) (h3 : w'.output = w.output) (hs : w'.heap.size = w.heap.size)
    (hb : ∀ b, b ≠ x.1 → w'.heap[b]? = w.heap[b]?) (blk : Blk) (hle : (B id).Le blk)
    (hr : Ext φ M B w φ M (updB B id blk) w' → RepB φ M w' (view w' M) (updB B id blk) id blk) :
    Mem K w0 φ M (updB B id blk) w' ∧ Ext φ M B w φ M (updB B id blk) w' := by
  have hv : (view w M).Le (view w' M) := view_le fun b o hM ho => ⟨hM, (hb b fun e => hM (e ▸ hMx)).trans ho⟩
  have he : Ext φ M B w φ M (updB B id blk) w' := ⟨fun _ _ => rfl, hv, fun j => by
    by_cases hj : j = id
    · subst hj; rw [updB_same]; exact hle
    · rw [updB_ne _ _ hj]; exact Blk.Le.refl _⟩
  refine ⟨{ os := h1.trans h.os, tape := h2.trans h.tape, output := h3.trans h.output, size := hs ▸ h.size, keep := fun b hk => ?_, klt := h.klt,
            hid := h.hid, own := fun j hj => ?_, mlt := fun b hm => hs ▸ h.mlt b hm, blks := fun j => ?_, sep := fun i j hij hi hj => ?_ }, he⟩
  · exact (hb b fun e => h.own id hm x hx (e ▸ hk)).trans (h.keep b hk)
  · by_cases h1 : j = id
    · subst h1; exact h.own j hm
    · rw [updB_ne _ _ h1] at hj; exact h.own j hj
  · by_cases hj : j = id
    · subst hj; rw [updB_same]; exact hr he
    · rw [updB_ne _ _ hj]
      exact (h.blks j).congr rfl he.pl he.vw he.bl (fun y hy hmj => hb _ (h.sep j id hj hmj hm y x hy hx)) (fun _ _ _ h => h)
  · have key : ∀ k, ((updB B id blk) k).mut = true → (B k).mut = true := fun k hk => by
      by_cases hk' : k = id
      · subst hk'; exact hm
      · rw [updB_ne _ _ hk'] at hk; exact hk
    exact h.sep i j hij (key i hi) (key j hj)
theorem Ext.trans {φ1 φ2 : Pl} {M1 M2 : Nat → Prop} {B1 B2 : Nat → Blk} {w1 w2 : World} (h : Ext φ M B w φ1 M1 B1 w1) (g : Ext φ1 M1 B1 w1 φ2 M2 B2 w2) : Ext φ M B w φ2 M2 B2 w2 := by
  refine ⟨fun id hl => ?_, h.vw.trans g.vw, fun id => ?_⟩
  · have h1 := h.pl id hl; have hb := h.bl id
    rw [← h1]
    refine g.pl id ?_
    generalize B id = b at *; generalize B1 id = b1 at *
    cases b <;> cases b1 <;> simp only [Blk.Le] at hb <;> first | rfl | cases hl
  · have hb := h.bl id; have gb := g.bl id
    generalize B id = b at *; generalize B1 id = b1 at *; generalize B2 id = b2 at *
    cases b <;> cases b1 <;> cases b2 <;> simp only [Blk.Le] at hb gb ⊢ <;> first | exact hb.elim | exact gb.elim | trivial | exact hb.trans gb | exact ⟨hb.1.trans gb.1, hb.2.trans gb.2⟩
end
end Yp
