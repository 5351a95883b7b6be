/- The engine, part V: calls. -/
import Derived.Test.YtkmimlgogeeooaaYpU
set_option linter.unusedVariables false
set_option linter.unusedSimpArgs false
namespace Yp
open Go
variable {P : Program}
def ArgsRep (H : View) : (ts : List Ty) → denL ts → List Value → Prop
  | [], _, vs => vs = []
  | t :: ts, x, vs => ∃ cs vs', vs = mkV t cs :: vs' ∧ RepC H t x.1 cs ∧ ArgsRep H ts x.2 vs'
/-- a result that its taker may write: in a block that is new (from 'lo' on), and no other result's -/
def OwRep (w : World) (M : Nat → Prop) (lo : Nat) (U : Nat → Prop) (e : Ty) (l : List e.den) (v : Value) (b : Nat) : Prop :=
  ∃ o c el fz cap, v = .slice (some ⟨b, o, none⟩) l.length cap ∧ l.length ≤ cap ∧ cap ≤ maxLen ∧ o + cap * e.size ≤ c.size ∧ w.heap[b]? = some (.cells c el fz) ∧ Row (view w M) e l c o ∧ okFz c fz ∧ M b ∧ lo ≤ b ∧ ¬ U b
def ResRep (w : World) (M : Nat → Prop) (lo : Nat) : (rs : List RTy) → denR rs → List Value → (Nat → Prop) → Prop
  | [], _, vs, _ => vs = []
  | .im t :: rs, x, vs, U => ∃ cs vs', vs = mkV t cs :: vs' ∧ RepC (view w M) t x.1 cs ∧ ResRep w M lo rs x.2 vs' U
  | .cl e :: rs, x, vs, U => ∃ a vs', vs = .slice a (x.1 : List e.den).length (x.1 : List e.den).length :: vs' ∧ RepC (view w M) (.sl e) x.1 [.slice a (x.1 : List e.den).length (x.1 : List e.den).length] ∧ ResRep w M lo rs x.2 vs' U
  | .ow e :: rs, x, vs, U => ∃ v vs', vs = v :: vs' ∧ (((x.1 : List e.den) = [] ∧ (∃ a, v = .slice a 0 0) ∧ ResRep w M lo rs x.2 vs' U) ∨ ∃ b, OwRep w M lo U e x.1 v b ∧ ResRep w M lo rs x.2 vs' (fun j => U j ∨ j = b))
def vrOf : List Value → Value
  | [v] => v
  | vs => .tuple vs.toArray
def RetOK (w : World) (X : Nat → Prop) (w' : World) (rs : List RTy) (r : denR rs) (vr : Value) : Prop :=
  ∃ M' : Nat → Prop, w'.os = w.os ∧ w'.tape = w.tape ∧ w'.output = w.output ∧ w.heap.size ≤ w'.heap.size ∧ (∀ b, b < w.heap.size → w'.heap[b]? = w.heap[b]?) ∧ (∀ b, b < w.heap.size → (M' b ↔ X b)) ∧ (∀ b, M' b → b < w'.heap.size) ∧
    ∃ vs, ResRep w' M' w.heap.size rs r vs (fun _ => False) ∧ vr = vrOf vs
def Called (P : Program) (f : Nat) : Prop := ∃ fn, P.funcs[f]? = some fn ∧ fn.body.isSome = true ∧ (fn.name == "runtime.NumGoroutine") = false
/-- a function does what a model says -/
def FOK (P : Program) (f : Nat) (s : FSpec) : Prop :=
  Called P f ∧ ∀ (w : World) (X : Nat → Prop) (x : denL s.args) (vs : List Value) (r : denR s.res), (∀ b, X b → b < w.heap.size) → ArgsRep (view w X) s.args x vs → s.fn x = some r →
    Calls P f vs.toArray w fun e w' => ∃ vr, e = .returned vr ∧ RetOK w X w' s.res r vr
section
variable {K : Kp} {w0 w : World} {φ : Pl} {M : Nat → Prop} {B B' : Nat → Blk} {g : Nat → PV} {H : View}
theorem RepC.flat {H' : View} : ∀ {t : Ty} {x : t.den} {cs : List Value}, t.flat = true → RepC H t x cs → RepC H' t x cs
  | .bool, _, _, _, h => RepC.bool_iff.2 (RepC.bool_iff.1 h)
  | .int k, _, _, _, h => RepC.int_iff.2 (RepC.int_iff.1 h)
  | .str, _, _, _, h => RepC.str_iff.2 (RepC.str_iff.1 h)
  | .sl _, _, _, hf, _ => by cases hf
  | .unit, _, _, _, h => RepC.unit_iff.2 (RepC.unit_iff.1 h)
  | .pair a b, x, cs, hf, h => by
    simp only [Ty.flat, Bool.and_eq_true] at hf
    obtain ⟨c1, c2, h0, h1, h2⟩ := RepC.pair_iff.1 h
    exact RepC.pair_iff.2 ⟨c1, c2, h0, RepC.flat hf.1 h1, RepC.flat hf.2 h2⟩
  | .ar n e, x, cs, hf, h => by
    obtain ⟨h0, h1, h2⟩ := RepC.ar_iff'.1 h
    exact RepC.ar_iff'.2 ⟨h0, h1, fun i x hi => RepC.flat hf (h2 i x hi)⟩
theorem ArgsRep.mono {H' : View} (hl : H.Le H') : ∀ {ts : List Ty} {x : denL ts} {vs : List Value}, ArgsRep H ts x vs → ArgsRep H' ts x vs
  | [], _, _, h => h
  | _ :: _, _, _, ⟨cs, vs', h, h1, h2⟩ => ⟨cs, vs', h, h1.mono hl, ArgsRep.mono hl h2⟩
def PVs (φ : Pl) (H : View) (B : Nat → Blk) : List PV → List Value → Prop
  | [], [] => True
  | p :: ps, v :: vs => RepP φ H B p v ∧ PVs φ H B ps vs
  | _, _ => False
theorem PVs.ext {φ' : Pl} {M' : Nat → Prop} {w' : World} (he : Ext φ M B w φ' M' B' w') : ∀ {ps : List PV} {vs : List Value}, PVs φ (view w M) B ps vs → PVs φ' (view w' M') B' ps vs
  | [], [], _ => trivial
  | _ :: _, _ :: _, h => ⟨he.p h.1, PVs.ext he h.2⟩
  | [], _ :: _, h => h.elim
  | _ :: _, [], h => h.elim
theorem toDL_go {frz : Bool} : ∀ {ts : List Ty} {ps : List PV} {vs : List Value} {x : denL ts} {M : Nat → Prop} {B B' : Nat → Blk}, (toDL frz ts ps).go g B = some (x, B') → Mem K w0 φ M B w → PVs φ (view w M) B ps vs →
    ∃ M', Mem K w0 φ M' B' w ∧ Ext φ M B w φ M' B' w ∧ ArgsRep (full w) ts x vs ∧ (frz = true → ArgsRep (view w M') ts x vs)
  | [], [], [], x, M, B, B', h, hm, _ => by cases h; exact ⟨M, hm, Ext.refl _ _ _ _, rfl, fun _ => rfl⟩
  | [], [], _ :: _, x, M, B, B', h, hm, hp => hp.elim
  | [], _ :: _, _, x, M, B, B', h, hm, hp => by cases h
  | _ :: _, [], _, x, M, B, B', h, hm, hp => by cases h
  | _ :: _, _ :: _, [], x, M, B, B', h, hm, hp => hp.elim
  | t :: ts, p :: ps, v :: vs, x, M, B, B', h, hm, hp => by
    simp only [toDL] at h
    obtain ⟨y, B1, h1, h2⟩ := PM.go_bind_some h
    obtain ⟨ys, B2, h3, h4⟩ := PM.go_bind_some h2
    cases h4
    obtain ⟨cs, hv, M1, m1, e1, _, f1, f2⟩ := toDM_P h1 hm hp.1
    obtain ⟨M2, m2, e2, f3, f4⟩ := toDL_go h3 m1 (hp.2.ext e1)
    subst hv
    exact ⟨M2, m2, e1.trans e2, ⟨cs, vs, rfl, f1, f3⟩, fun hf => ⟨cs, vs, rfl, (f2 hf).mono e2.vw, f4 hf⟩⟩
theorem mapP_go {a : Act} (hs : Slots φ H B g a) : ∀ {l : List Operand} {B' : Nat → Blk} {ps : List PV}, (mapP opd l).go g B = some (ps, B') → B' = B ∧ PVs φ H B ps (l.map a.eval)
  | [], B', ps, h => by cases h; exact ⟨rfl, trivial⟩
  | p :: l, B', ps, h => by
    simp only [mapP] at h
    obtain ⟨b, B1, h1, h2⟩ := PM.go_bind_some h
    obtain ⟨hB1, hv⟩ := opd_go h1 hs
    obtain ⟨bs, B3, h5, h6⟩ := PM.go_bind_some h2
    cases h6
    rw [hB1] at h5
    obtain ⟨hB, hp⟩ := mapP_go hs h5
    exact ⟨hB, hv, hp⟩
/-- after a call -/
theorem Mem.ret (hm : Mem K w0 φ M B w) {w' : World} {M' : Nat → Prop} (h1 : w'.os = w.os) (h2 : w'.tape = w.tape) (h3 : w'.output = w.output) (hs : w.heap.size ≤ w'.heap.size)
    (hb : ∀ b, b < w.heap.size → w'.heap[b]? = w.heap[b]?) (hM : ∀ b, b < w.heap.size → (M' b ↔ M b)) (hlt : ∀ b, M' b → b < w'.heap.size) :
    Mem K w0 φ M' B w' ∧ Ext φ M B w φ M' B w' := by
  have hl : ∀ b o, w.heap[b]? = some o → b < w.heap.size := fun b o ho => (Array.getElem?_eq_some_iff.1 ho).1
  have hv : (view w M).Le (view w' M') := view_le fun b o hn ho => ⟨fun hc => hn ((hM b (hl b o ho)).1 hc), (hb b (hl b o ho)).trans ho⟩
  have he : Ext φ M B w φ M' B w' := ⟨fun _ _ => rfl, hv, fun _ => Blk.Le.refl _⟩
  have hk : ∀ b, K.k b → b < w.heap.size := fun b h => Nat.lt_of_lt_of_le (hm.klt b h) hm.size
  refine ⟨{ os := h1.trans hm.os, tape := h2.trans hm.tape, output := h3.trans hm.output, size := Nat.le_trans hm.size hs, keep := fun b h => (hb b (hk b h)).trans (hm.keep b h), klt := hm.klt,
            hid := fun b h => (hM b (hk b h)).trans (hm.hid b h), own := hm.own, mlt := hlt, blks := fun j => ?_, sep := hm.sep }, he⟩
  exact (hm.blks j).congr rfl he.pl he.vw he.bl (fun x hx hmj => hb _ ((hm.blks j).lt hmj hx)) (fun x hx hmj hMx => (hM _ ((hm.blks j).lt hmj hx)).2 hMx)
theorem RepL.cons {u r : PV} {v : Value} {vs : List Value} (h : RepP φ H B u v) (hu : ∀ a, u ≠ .tup a) (k : RepL φ H B r vs) : RepL φ H B (.two u r) (v :: vs) := by
  refine ⟨v, vs, rfl, ?_, k⟩
  cases u <;> first | exact h | exact absurd rfl (hu _)
/-- one result gets its number -/
theorem resP_go {lo : Nat} {r : RTy} {rs : List RTy} {x : denR (r :: rs)} {vs : List Value} {U : Nat → Prop} (hr : ResRep w M lo (r :: rs) x vs U) {id : Nat} {v : PV} (h : (resP id r x.1).go g B = some (v, B')) (hm : Mem K w0 φ M B w)
    (hlo : w0.heap.size ≤ lo) (hU : ∀ j, (B j).mut = true → ∀ z, φ j = some z → z.1 < lo ∨ U z.1) :
    ∃ φ' U' u vs', vs = u :: vs' ∧ Mem K w0 φ' M B' w ∧ Ext φ M B w φ' M B' w ∧ RepP φ' (view w M) B' v u ∧ (∀ a, v ≠ .tup a) ∧ ResRep w M lo rs x.2 vs' U' ∧ (∀ j, (B' j).mut = true → ∀ z, φ' j = some z → z.1 < lo ∨ U' z.1) := by
  cases r with
  | im t =>
    cases h
    obtain ⟨cs, vs', rfl, h1, h2⟩ := hr
    exact ⟨φ, U, _, vs', rfl, hm, Ext.refl _ _ _ _, ⟨cs, h1, rfl⟩, (fun a h => by cases h), h2, hU⟩
  | cl e =>
    cases h
    obtain ⟨a, vs', rfl, h1, h2⟩ := hr
    exact ⟨φ, U, _, vs', rfl, hm, Ext.refl _ _ _ _, ⟨a, rfl, h1⟩, (fun a h => by cases h), h2, hU⟩
  | ow e =>
    obtain ⟨hpos, hnew, rfl, rfl⟩ := newRow_go h
    obtain ⟨u, vs', rfl, h1⟩ := hr
    rcases h1 with ⟨h1, ⟨a, rfl⟩, h2⟩ | ⟨b, ⟨o, c, el, fz, cap, rfl, k1, k2, k3, k4, k5, k6, k7, k8, k9⟩, h2⟩
    · have hlen : (x.1 : List e.den).length = 0 := by rw [h1]; rfl
      obtain ⟨m1, e1⟩ := hm.adopt hnew (.ob e x.1) none (fun _ y hy => by cases hy) (fun _ y hy => by cases hy) (fun _ => ⟨hpos, .inl ⟨updP_same _ _ _, hlen⟩⟩)
      refine ⟨_, U, _, vs', rfl, m1, e1, ?_, (fun a h => by cases h), h2, fun j hj z hz => ?_⟩
      · simp only [RepP, RepQ, RepS, updB_same]
        exact ⟨.inl ⟨hlen, a, rfl⟩, fun h => by cases h⟩
      · by_cases hji : j = id
        · subst hji; rw [updP_same] at hz; cases hz
        · rw [updB_ne _ _ hji] at hj; rw [updP_ne _ _ hji] at hz; exact hU j hj z hz
    · obtain ⟨m1, e1⟩ := hm.adopt hnew (.ob e x.1) (some (b, o, c.size)) (fun _ y hy hk => by cases hy; have := hm.klt _ hk; simp only at this; omega) (fun _ y hy j hj z hz => by
          cases hy
          rcases hU j hj z hz with h | h
          · simp only; omega
          · exact fun e => k9 (by have e : z.1 = b := e; rw [← e]; exact h)) (fun he => ⟨hpos, .inr ⟨b, o, c, el, fz, updP_same _ _ _, k4, k5, k6, k7⟩⟩)
      refine ⟨_, fun j => U j ∨ j = b, _, vs', rfl, m1, e1, ?_, (fun a h => by cases h), h2, fun j hj z hz => ?_⟩
      · simp only [RepP, RepQ, RepS, updB_same]
        exact ⟨.inr ⟨b, o, c.size, cap, updP_same _ _ _, by simp, k1, k2, by simpa using k3⟩, fun h => by cases h⟩
      · by_cases hji : j = id
        · subst hji; rw [updP_same] at hz; cases hz; exact .inr (.inr rfl)
        · rw [updB_ne _ _ hji] at hj; rw [updP_ne _ _ hji] at hz
          exact (hU j hj z hz).imp (fun h => h) .inl
theorem resL_go {lo : Nat} (hlo : w0.heap.size ≤ lo) : ∀ {rs : List RTy} {x : denR rs} {vs : List Value} {U : Nat → Prop} {id : Nat} {v : PV} {φ : Pl} {B B' : Nat → Blk}, ResRep w M lo rs x vs U → (resL id rs x).go g B = some (v, B') → Mem K w0 φ M B w →
    (∀ j, (B j).mut = true → ∀ z, φ j = some z → z.1 < lo ∨ U z.1) → ∃ φ', Mem K w0 φ' M B' w ∧ Ext φ M B w φ' M B' w ∧ RepL φ' (view w M) B' v vs
  | [], x, vs, U, id, v, φ, B, B', hr, h, hm, hU => by cases h; exact ⟨φ, hm, Ext.refl _ _ _ _, hr⟩
  | r :: rs, x, vs, U, id, v, φ, B, B', hr, h, hm, hU => by
    simp only [resL] at h
    obtain ⟨y, B1, h1, h2⟩ := PM.go_bind_some h
    obtain ⟨ys, B2, h3, h4⟩ := PM.go_bind_some h2
    cases h4
    obtain ⟨φ1, U1, u, vs', rfl, m1, e1, f1, f2, f3, f4⟩ := resP_go hr h1 hm hlo hU
    obtain ⟨φ2, m2, e2, f5⟩ := resL_go hlo f3 h3 m1 f4
    exact ⟨φ2, m2, e1.trans e2, RepL.cons (e2.p f1) f2 f5⟩
theorem ResRep.length {w : World} {M : Nat → Prop} {lo : Nat} : ∀ {rs : List RTy} {x : denR rs} {vs : List Value} {U : Nat → Prop}, ResRep w M lo rs x vs U → vs.length = rs.length
  | [], _, vs, _, h => by have h : vs = [] := h; subst h; rfl
  | .im t :: rs, x, vs, U, h => by obtain ⟨cs, vs', h0, h1, h2⟩ := h; subst h0; simp [ResRep.length h2]
  | .cl t :: rs, x, vs, U, h => by obtain ⟨cs, vs', h0, h1, h2⟩ := h; subst h0; simp [ResRep.length h2]
  | .ow t :: rs, x, vs, U, h => by
    obtain ⟨v, vs', h0, h1⟩ := h
    subst h0
    rcases h1 with ⟨_, _, h2⟩ | ⟨_, _, h2⟩ <;> simp [ResRep.length h2]
theorem ResRep.flat {w : World} {M M' : Nat → Prop} {lo : Nat} : ∀ {rs : List RTy} {x : denR rs} {vs : List Value} {U : Nat → Prop}, rs.all RTy.flat = true → ResRep w M lo rs x vs U → ResRep w M' lo rs x vs U
  | [], _, _, _, _, h => h
  | .im t :: rs, x, vs, U, hf, h => by
    simp only [List.all_cons, Bool.and_eq_true] at hf
    obtain ⟨cs, vs', h0, h1, h2⟩ := h
    exact ⟨cs, vs', h0, RepC.flat hf.1 h1, ResRep.flat hf.2 h2⟩
  | .ow e :: rs, x, vs, U, hf, h => by simp only [List.all_cons, Bool.and_eq_true] at hf; cases hf.1
  | .cl e :: rs, x, vs, U, hf, h => by simp only [List.all_cons, Bool.and_eq_true] at hf; cases hf.1
/-- what a call's results come to -/
theorem ret_go {rs : List RTy} {d : Nat} {r : denR rs} {v : PV} {vs : List Value} (hm : Mem K w0 φ M B w) {lo : Nat} (hlo : w0.heap.size ≤ lo) (hU : ∀ j, (B j).mut = true → ∀ z, φ j = some z → z.1 < lo)
    (hr : ResRep w M lo rs r vs (fun _ => False))
    (h : (callRes d rs r).go g B = some (v, B')) :
    ∃ φ', Mem K w0 φ' M B' w ∧ Ext φ M B w φ' M B' w ∧ RepP φ' (view w M) B' v (vrOf vs) := by
  have hU' : ∀ j, (B j).mut = true → ∀ z, φ j = some z → z.1 < lo ∨ (fun _ : Nat => False) z.1 := fun j hj z hz => .inl (hU j hj z hz)
  match rs, r, hr, h with
  | [], r, hr, h =>
    cases h
    have : vs = [] := hr
    subst this
    exact ⟨φ, hm, Ext.refl _ _ _ _, [], rfl, rfl⟩
  | [t], r, hr, h =>
    obtain ⟨φ1, U1, u, vs', rfl, m1, e1, f1, f2, f3, f4⟩ := resP_go hr h hm hlo hU'
    have : vs' = [] := f3
    subst this
    exact ⟨φ1, m1, e1, f1⟩
  | t :: t' :: ts, r, hr, h =>
    obtain ⟨y, B1, h1, h2⟩ := PM.go_bind_some h
    cases h2
    obtain ⟨φ1, m1, e1, f1⟩ := resL_go hlo hr h1 hm hU'
    refine ⟨φ1, m1, e1, ?_⟩
    have hlen := hr.length
    have hne : ∀ q, vs ≠ [q] := by
      intro q hq
      rw [hq] at hlen
      simp at hlen
    match vs, hne, f1 with
    | [], _, f1 => exact ⟨[], f1, rfl⟩
    | [q], hne, _ => exact absurd rfl (hne q)
    | q :: q' :: vs, _, f1 => exact ⟨_, f1, rfl⟩
theorem bo_go {α β : Type} {d : β} {o : Option β} {k : β → PM α} : (PM.bo d o k).go g B = (match o with | some a => (k a).go g B | none => none) := by
  cases o <;> simp only [PM.go]
theorem call_go {E : Env} (hG : ∀ f s, E.G f = some s → FOK P f s) {d f : Nat} {ps : List PV} {vs : List Value} {v : PV} (h : (callP E d f ps).go g B = some (v, B')) (hm : Mem K w0 φ M B w) (hps : PVs φ (view w M) B ps vs) :
    Called P f ∧ Calls P f vs.toArray w fun e w' => ∃ vr, e = .returned vr ∧ After K w0 φ M B w B' v vr w' := by
  unfold callP at h
  cases hg : E.G f with
  | none => rw [hg] at h; cases h
  | some s =>
    rw [hg] at h
    simp only at h
    obtain ⟨x, B1, h1, h2⟩ := PM.go_bind_some h
    obtain ⟨M1, m1, e1, f1, f2⟩ := toDL_go h1 hm hps
    obtain ⟨hcd, hok⟩ := hG f s hg
    replace h2 : (PM.bo (zeroR s.res) (s.fn x) fun r => callRes d s.res r).go g B1 = some (v, B') := h2
    rw [bo_go] at h2
    cases hr : s.fn x with
    | none => rw [hr] at h2; cases h2
    | some r =>
      rw [hr] at h2
      simp only at h2
      refine ⟨hcd, ?_⟩
      cases hfl : s.res.all RTy.flat with
      | false =>
        rw [hfl] at f2
        refine (hok w M1 x vs r m1.mlt (f2 rfl) hr).mono ?_
        rintro e w' ⟨vr, rfl, M', k1, k2, k3, k4, k5, k6, k7, us, k8, rfl⟩
        obtain ⟨m2, e2⟩ := m1.ret k1 k2 k3 k4 k5 k6 k7
        obtain ⟨φ3, m3, e3, f3⟩ := ret_go (g := g) m2 m1.size (fun j hj z hz => (m1.blks j).lt hj hz) k8 h2
        exact ⟨_, rfl, φ3, M', m3, (e1.trans e2).trans e3, f3⟩
      | true =>
        have hv : (full w).Le (view w fun _ => False) := fun b o hb => view_some.2 ⟨fun h => h, hb⟩
        refine (hok w (fun _ => False) x vs r (fun _ h => h.elim) (f1.mono hv) hr).mono ?_
        rintro e w' ⟨vr, rfl, M', k1, k2, k3, k4, k5, k6, k7, us, k8, rfl⟩
        obtain ⟨m2, e2⟩ := m1.grow k1 k2 k3 k4 k5 (fun _ => False) (fun _ h => h.elim)
        obtain ⟨φ3, m3, e3, f3⟩ := ret_go (g := g) m2 m1.size (fun j hj z hz => (m1.blks j).lt hj hz) (k8.flat hfl) h2
        exact ⟨_, rfl, φ3, _, m3, (e1.trans e2).trans e3, f3⟩
end
end Yp
