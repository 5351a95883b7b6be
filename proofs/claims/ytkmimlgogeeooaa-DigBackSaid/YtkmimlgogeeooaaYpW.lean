/- The engine, part W: every operation. -/
import Derived.Test.YtkmimlgogeeooaaYpV
set_option linter.unusedVariables false
set_option linter.unusedSimpArgs false
namespace Yp
open Go
variable {P : Program}
section
variable {K : Kp} {w0 w : World} {φ : Pl} {M : Nat → Prop} {B B' : Nat → Blk} {g : Nat → PV} {H : View}
theorem asI_go {v : PV} {n : Int} {x : Value} (h : (asI v).go g B = some (n, B')) (hr : RepP φ H B v x) : B' = B ∧ ∃ k, x = .int k n := by
  cases v <;> try (cases h; done)
  rename_i t y
  cases t <;> try (cases h; done)
  rename_i k
  cases h
  exact ⟨rfl, k, hr.int⟩
theorem elemT_some {t e : Ty} (h : elemT t = some e) : t = .sl e := by
  cases t <;> try (cases h; done)
  exact congrArg Ty.sl (Option.some.inj h)
theorem RepQ.toP {v : PV} {x : Value} (h : RepQ φ H B v x) (hu : ∀ a, v ≠ .tup a) : RepP φ H B v x := by
  cases v <;> first | exact h | exact absurd rfl (hu _)
theorem opd_bind {α : Type} {x : Operand} {f : PV → PM α} {r : α × (Nat → Blk)} (h : ((opd x).bind f).go g B = some r) {a : Act} (hs : Slots φ H B g a) : ∃ v, RepP φ H B v (a.eval x) ∧ (f v).go g B = some r := by
  obtain ⟨v, B1, h1, h2⟩ := PM.go_bind_some h
  obtain ⟨e, hv⟩ := opd_go h1 hs
  rw [e] at h2
  exact ⟨v, hv, h2⟩
theorem opt_bind {α β : Type} {o : Option β} {f : β → PM α} {r : α × (Nat → Blk)} (h : ((PM.opt o).bind f).go g B = some r) : ∃ v, o = some v ∧ (f v).go g B = some r := by
  obtain ⟨v, B1, h1, h2⟩ := PM.go_bind_some h
  obtain ⟨hv, e⟩ := opt_go h1
  rw [e] at h2
  exact ⟨v, hv, h2⟩
theorem asI_bind {α : Type} {p : PV} {f : Int → PM α} {r : α × (Nat → Blk)} (h : ((asI p).bind f).go g B = some r) {x : Value} (hr : RepP φ H B p x) : ∃ n k, x = .int k n ∧ (f n).go g B = some r := by
  obtain ⟨v, B1, h1, h2⟩ := PM.go_bind_some h
  obtain ⟨e, k, hv⟩ := asI_go h1 hr
  rw [e] at h2
  exact ⟨v, k, hv, h2⟩
theorem optI_bind {α : Type} {o : Option Operand} {f : Option Int → PM α} {r : α × (Nat → Blk)} (h : ((optI o).bind f).go g B = some r) {a : Act} (hs : Slots φ H B g a) : ∃ n k, o.map a.eval = (n.map fun i => .int k i) ∧ (f n).go g B = some r := by
  obtain ⟨v, B1, h1, h2⟩ := PM.go_bind_some h
  obtain ⟨e, k, hv⟩ := optI_go h1 hs
  rw [e] at h2
  exact ⟨v, k, hv, h2⟩
theorem need_bind {α : Type} {b : Bool} {f : Unit → PM α} {r : α × (Nat → Blk)} (h : ((PM.need b).bind f).go g B = some r) : b = true ∧ (f ()).go g B = some r := by
  obtain ⟨v, B1, h1, h2⟩ := PM.go_bind_some h
  obtain ⟨hv, e⟩ := need_go h1
  rw [e] at h2
  exact ⟨hv, h2⟩
theorem builtin_go {E : Env} (hT : tabOK P E.T) {d : Nat} {b : Builtin} {ats : Array TypeId} {ps : List PV} {vs : List Value} {v : PV} (h : (builtinP E d b ats.toList ps).go g B = some (v, B')) (hm : Mem K w0 φ M B w)
    (hps : PVs φ (view w M) B ps vs) (ty : TypeId) (cs : Array Bool) : ∃ r w', (Go.builtin b ats ty cs vs.toArray).run P w = .ok (.value r) w' ∧ After K w0 φ M B w B' v r w' := by
  unfold builtinP at h
  split at h
  · -- len
    split at h
    · rename_i t ts a hats
      obtain ⟨xt, B1, h1, h2⟩ := PM.go_bind_some h
      obtain ⟨ht, rfl⟩ := opt_go h1
      match vs, hps with
      | [va], hps =>
        have h0 : ats[0]? = some t := by rw [← Array.getElem?_toList, hats]; rfl
        obtain ⟨hB, r, h3, h4⟩ := len_go (P := P) (hT _ _ ht) h2 hps.1 h0 ty
        exact ⟨r, w, by simp [Go.builtin, h3], After.same hm hB h4⟩
      | [], hps => exact hps.elim
      | _ :: _ :: _, hps => exact hps.2.elim
    · cases h
  · -- append
    split at h
    · rename_i t u s x hats
      split at h
      · rename_i e ut ht hu
        replace h := bif_go h; obtain ⟨hq, h⟩ := h
        match vs, hps with
        | [vs, vx], hps =>
          have hats' : ats = #[t, u] := by apply Array.ext'; exact hats
          subst hats'
          obtain ⟨r, w', h3, h4⟩ := append_go (ty := ty) (hT _ _ ht) (hT _ _ hu) hq h hm hps.1 hps.2.1
          exact ⟨r, w', by simp [Go.builtin, h3], h4⟩
        | [], hps => exact hps.elim
        | [_], hps => exact hps.2.elim
        | _ :: _ :: _ :: _, hps => exact hps.2.2.elim
      · cases h
    · cases h
  · -- min
    split at h
    · rename_i a b
      cases h
      match vs, hps with
      | [va, vb], hps =>
        obtain ⟨h1, h2, _⟩ := hps
        have e1 := h1.int; have e2 := h2.int
        subst e1; subst e2
        refine ⟨_, w, by simp [Go.builtin, Builtin.min_, Builtin.min2]; rfl, After.same hm rfl ?_⟩
        exact RepP.mk_int _ _ _ .i64 (minI a b)
      | [], hps => exact hps.elim
      | [_], hps => exact hps.2.elim
      | _ :: _ :: _ :: _, hps => exact hps.2.2.elim
    · cases h
  · -- max
    split at h
    · rename_i a b
      cases h
      match vs, hps with
      | [va, vb], hps =>
        obtain ⟨h1, h2, _⟩ := hps
        have e1 := h1.int; have e2 := h2.int
        subst e1; subst e2
        refine ⟨_, w, by simp [Go.builtin, Builtin.max_, Builtin.max2]; rfl, After.same hm rfl ?_⟩
        exact RepP.mk_int _ _ _ .i64 (maxI a b)
      | [], hps => exact hps.elim
      | [_], hps => exact hps.2.elim
      | _ :: _ :: _ :: _, hps => exact hps.2.2.elim
    · cases h
  · cases h
theorem ptr_value {v : PV} {x : Value} (hr : RepP φ H B v x) {r : PV} (h : (nilCheckP v).go g B = some (r, B')) : B' = B ∧ r = v ∧ ∃ a, x = .pointer (some a) := by
  cases v <;> try (cases h; done)
  case ptr id p =>
    simp only [nilCheckP, PM.go] at h
    have hs : RepS φ H B (.ptr id p) x := hr
    simp only [RepS] at hs
    generalize hB : B id = bl at h hs
    cases bl <;> try (cases h; done)
    cases h
    obtain ⟨b, o, n, off, t', h1, h2, rfl⟩ := hs
    exact ⟨rfl, rfl, _, rfl⟩
  case opt id i p =>
    simp only [nilCheckP, PM.go] at h
    have hs : RepS φ H B (.opt id i p) x := hr
    simp only [RepS] at hs
    generalize hB : B id = bl at h hs
    cases bl <;> try (cases h; done)
    all_goals
      cases h
      obtain ⟨hi, b, o, n, off, t', h1, h2, rfl⟩ := hs
      exact ⟨rfl, rfl, _, rfl⟩
  case ipt e l i p =>
    cases h
    obtain ⟨hi, b, o, cap, off, t', h1, h2, rfl⟩ := hr
    exact ⟨rfl, rfl, _, rfl⟩
theorem nzO_spec {a : Act} {y : Operand} (h : nzO y = true) : ∀ k n, a.eval y = .int k n → n ≠ 0 := by
  unfold nzO at h
  split at h
  · intro k n hn; simp only [Act.eval, Value.int.injEq] at hn; obtain ⟨_, rfl⟩ := hn; simp; omega
  · intro k n hn; simp only [Act.eval, Value.int.injEq] at hn; obtain ⟨_, rfl⟩ := hn; simp
  · cases h
theorem nnO_spec {a : Act} {y : Operand} (h : nnO y = true) : ∀ k n, a.eval y = .int k n → 0 ≤ n := by
  unfold nnO at h
  split at h
  · intro k n hn; simp only [Act.eval, Value.int.injEq] at hn; obtain ⟨_, rfl⟩ := hn; simp
  · cases h
theorem extract_ntup {p : PV} {i : Nat} {v : PV} (h : (extractP p i).go g B = some (v, B')) {x : Value} (hr : RepP φ H B p x) : ∀ a, v ≠ .tup a := by
  rintro a rfl
  unfold extractP at h
  split at h
  · obtain ⟨h, _⟩ := opt_go h
    obtain ⟨vs, hl, rfl⟩ := hr
    rename_i q
    have key : ∀ (i : Nat) (q : PV) (vs : List Value), getp q (fieldSel i) = some (.tup a) → RepL φ H B q vs → False := by
      intro i
      induction i with
      | zero =>
        intro q vs h hl
        cases q <;> simp only [fieldSel, getp] at h <;> try (cases h; done)
        · rename_i t y
          cases t <;> (try simp only [getp] at h) <;> cases h
        · obtain ⟨u, us, rfl, h1, h2⟩ := hl
          (try simp only [getp] at h); cases h
          exact h1.elim
      | succ i ih =>
        intro q vs h hl
        cases q <;> simp only [fieldSel, getp] at h <;> try (cases h; done)
        · rename_i t y
          cases t <;> (try simp only [getp] at h) <;> try (cases h; done)
          exact hl.elim
        · obtain ⟨u, us, rfl, h1, h2⟩ := hl
          exact ih _ _ h h2
    exact key i _ vs h hl
  · cases h
/-- an operation that yields a value -/
def Gives (P : Program) (K : Kp) (w0 : World) (φ : Pl) (M : Nat → Prop) (B : Nat → Blk) (w : World) (B' : Nat → Blk) (v : PV) (s : Sem Next) : Prop :=
  ∃ r w', s.run P w = .ok (.value r) w' ∧ After K w0 φ M B w B' v r w'
theorem Gives.of {s : Sem Value} {v : PV} {r : Value} {w' : World} (h : s.run P w = .ok r w') (ha : After K w0 φ M B w B' v r w') : Gives P K w0 φ M B w B' v (do pure (.value (← s))) :=
  ⟨r, w', by simp [h], ha⟩
theorem Gives.pure {v : PV} {r : Value} (ha : After K w0 φ M B w B' v r w) : Gives P K w0 φ M B w B' v (pure (.value r)) := ⟨r, w, rfl, ha⟩
/-- an operation's meaning -/
theorem op_go {E : Env} (hT : tabOK P E.T) (hG : ∀ f s, E.G f = some s → FOK P f s) {o : Oper} {a : Act} {v : PV} (h : (opP E o).go g B = some (v, B')) (hm : Mem K w0 φ M B w) (hs : Slots φ (view w M) B g a)
    {Kn : Act → World → Prop} {Q : Exit → Act → World → Prop} (hk : ∀ r w', After K w0 φ M B w B' v r w' → Kn (a.put o.dst r) w') : o.wp P a w Kn Q := by
  have gives : Gives P K w0 φ M B w B' v (execOp a.eval o) → o.wp P a w Kn Q := fun ⟨r, w', h1, h2⟩ => wp_value h1 (hk r w' h2)
  obtain ⟨dst, op, type, pos, after, guard⟩ := o
  cases op <;> try (cases h; done)
  case move x =>
    obtain ⟨hB, hv⟩ := opd_go h hs
    exact gives (Gives.pure (After.same hm hB hv))
  case assign x =>
    obtain ⟨hB, hv⟩ := opd_go h hs
    exact gives (Gives.pure (After.same hm hB hv))
  case pick c x y =>
    replace h := opd_bind h hs; obtain ⟨pc, hc, h⟩ := h
    replace h := opd_bind h hs; obtain ⟨px, hx, h⟩ := h
    replace h := opd_bind h hs; obtain ⟨py, hy, h⟩ := h
    obtain ⟨hB, v', h4, h5⟩ := pickP_go (P := P) h hc hx hy w
    exact gives ⟨v', w, h4, After.same hm hB h5⟩
  case alloc t =>
    replace h := opt_bind h; obtain ⟨ty, ht, h⟩ := h
    replace h := fresh_go h; obtain ⟨hid, h⟩ := h
    cases h
    obtain ⟨r, w', h1, h2⟩ := alloc_go (hT _ _ ht) hid hm
    exact gives (Gives.of h1 h2)
  case box t x =>
    replace h := opt_bind h; obtain ⟨ty, ht, h⟩ := h
    replace h := opd_bind h hs; obtain ⟨px, hx, h⟩ := h
    obtain ⟨_, B1, h1, h2⟩ := PM.go_bind_some h
    obtain ⟨e, cu, hcu, hTT⟩ := fits_T h1 hx
    rw [e] at h2
    obtain ⟨hid, h2⟩ := fresh_go h2
    cases h2
    obtain ⟨r, w', h1, h2⟩ := box_go (hT _ _ ht) hid hm hcu hTT
    exact gives (Gives.of h1 h2)
  case build t parts =>
    replace h := opt_bind h; obtain ⟨ty, ht, h⟩ := h
    obtain ⟨ps, B1, h1, h2⟩ := PM.go_bind_some h
    obtain ⟨e, hps⟩ := partsP_go hs h1
    rw [e] at h2
    have hps' : PsRep φ (view w M) B ps (parts.map fun (i, x) => (i, a.eval x)).toList := by simpa using hps
    cases ty <;> try (cases h2; done)
    case ar n e =>
      obtain ⟨r, h3, h4⟩ := build_ar_go (hT _ _ ht) h2 hm hps'
      exact gives (Gives.of h3 h4)
    case unit =>
      obtain ⟨hB, r, h3, h4⟩ := build_st_go rfl (hT _ _ ht) h2 hps' w
      exact gives (Gives.of h3 (After.same hm hB h4))
    case pair x y =>
      obtain ⟨hB, r, h3, h4⟩ := build_st_go rfl (hT _ _ ht) h2 hps' w
      exact gives (Gives.of h3 (After.same hm hB h4))
  case buildSlice t n parts =>
    replace h := opt_bind h; obtain ⟨ty, ht, h⟩ := h
    replace h := opt_bind h; obtain ⟨e, he, h⟩ := h
    have := elemT_some he; subst this
    obtain ⟨ps, B1, h1, h2⟩ := PM.go_bind_some h
    obtain ⟨eB, hps⟩ := partsP_go hs h1
    rw [eB] at h2
    have hps' : PsRep φ (view w M) B ps (parts.map fun (i, x) => (i, a.eval x)).toList := by simpa using hps
    obtain ⟨r, w', h3, h4⟩ := buildSlice_go (hT _ _ ht) h2 hm hps'
    exact gives (Gives.of h3 h4)
  case load t x =>
    replace h := opt_bind h; obtain ⟨ty, ht, h⟩ := h
    replace h := opd_bind h hs; obtain ⟨px, hx, h⟩ := h
    obtain ⟨hB, r, h3, h4⟩ := ldo_go (hT _ _ ht) h hm hx
    exact gives (Gives.of h3 (After.same hm hB h4))
  case store t x y =>
    replace h := opt_bind h; obtain ⟨ty, ht, h⟩ := h
    replace h := opd_bind h hs; obtain ⟨px, hx, h⟩ := h
    replace h := opd_bind h hs; obtain ⟨py, hy, h⟩ := h
    obtain ⟨rfl, w', M', h3, h4, h5⟩ := store_go (hT _ _ ht) h hm hx hy
    exact wp_skip' (w' := w') (by simp [execOp, h3]) (hk _ _ ⟨φ, M', h4, h5, rfl⟩)
  case nilCheck x =>
    replace h := opd_bind h hs; obtain ⟨px, hx, h⟩ := h
    obtain ⟨hB, rfl, ad, he⟩ := ptr_value hx h
    refine gives ⟨a.eval x, w, ?_, After.same hm hB hx⟩
    simp only [execOp, he]; rfl
  case binOp op t x y yt =>
    replace h := opd_bind h hs; obtain ⟨px, hx, h⟩ := h
    replace h := opd_bind h hs; obtain ⟨py, hy, h⟩ := h
    obtain ⟨hB, r, h3, h4⟩ := binP_go hT h hx hy (fun hz => nzO_spec hz) (fun hz => nnO_spec hz) x y w
    exact gives (Gives.of h3 (After.same hm hB h4))
  case unOp op t x =>
    replace h := opd_bind h hs; obtain ⟨px, hx, h⟩ := h
    obtain ⟨hB, r, h3, h4⟩ := unP_go (P := P) h hx w
    exact gives (Gives.of h3 (After.same hm hB h4))
  case convert s t x =>
    replace h := opd_bind h hs; obtain ⟨px, hx, h⟩ := h
    unfold convP at h
    replace h := opt_bind h; obtain ⟨ts, hts, h⟩ := h
    replace h := opt_bind h; obtain ⟨tt, htt, h⟩ := h
    have fs := hT _ _ hts
    have ft := hT _ _ htt
    cases tt <;> try (cases h; done)
    case int k =>
      cases px <;> try (cases h; done)
      rename_i pt pl
      cases pt <;> try (cases h; done)
      rename_i k'
      cases h
      have e := hx.int
      obtain ⟨d, hd⟩ := fit_und fs
      have hr := run_convert_int (P := P) (k := k) (k' := k') hd ft.1 (KD.to k' pl) w
      rw [← e] at hr
      refine gives (Gives.of hr (After.same hm rfl ?_))
      have := RepP.mk_int φ (view w M) B k (KD.of k (KD.to k' pl))
      rwa [KD.to_of] at this
    case str =>
      cases ts <;> try (cases h; done)
      case str =>
        cases px <;> try (cases h; done)
        rename_i pt pl
        cases pt <;> try (cases h; done)
        cases h
        have e := hx.str
        refine gives (Gives.of (r := a.eval x) (w' := w) ?_ (After.same hm rfl hx))
        rw [e]
        simp [convert, run_underlying fs.1, run_underlying ft.1]
      case sl e =>
        replace h := bif_go h; obtain ⟨hb, h⟩ := h
        have he : e = .int .u8 := by
          unfold isBytes at hb
          split at hb
          · rename_i heq; exact (Ty.sl.inj heq)
          · cases hb
        subst he
        obtain ⟨l, B1, h1, h2⟩ := PM.go_bind_some h
        cases h2
        obtain ⟨hB, hr⟩ := convert_bs_go (l := l) fs ft.1 h1 hm hx
        exact gives (Gives.of hr (After.same hm hB (RepP.mk_str _ _ _ l)))
    case sl e =>
      cases ts <;> try (cases h; done)
      cases px <;> try (cases h; done)
      rename_i pt pl
      cases pt <;> try (cases h; done)
      · replace h := bif_go h; obtain ⟨hb, h⟩ := h
        have he : e = .int .u8 := by
          unfold isBytes at hb
          split at hb
          · rename_i heq; exact (Ty.sl.inj heq)
          · cases hb
        subst he
        replace h := chk_go h; obtain ⟨hroom, h⟩ := h
        obtain ⟨_, hnew, rfl, rfl⟩ := newRow_go h
        have e := hx.str
        have hlen : (pl : List UInt8).length * 1 ≤ 140737488355328 := of_decide_eq_true hroom
        obtain ⟨r, w', h3, h4⟩ := convert_sb_go (P := P) (l := pl) fs.1 ft hnew (by omega) hm
        rw [← e] at h3
        exact gives (Gives.of h3 h4)
  case makeSlice t l c =>
    replace h := opt_bind h; obtain ⟨ty, ht, h⟩ := h
    replace h := opt_bind h; obtain ⟨e, he, h⟩ := h
    have := elemT_some he; subst this
    replace h := opd_bind h hs; obtain ⟨pl, hl, h⟩ := h
    replace h := asI_bind h hl; obtain ⟨nl, kl, el, h⟩ := h
    replace h := opd_bind h hs; obtain ⟨pc, hc, h⟩ := h
    replace h := asI_bind h hc; obtain ⟨nc, kc, ec, h⟩ := h
    obtain ⟨r, w', h3, h4⟩ := make_go (kl := kl) (kc := kc) (hT _ _ ht) hm h
    rw [← el, ← ec] at h3
    exact gives (Gives.of h3 h4)
  case slice t x lo hi mx =>
    replace h := opt_bind h; obtain ⟨ty, ht, h⟩ := h
    replace h := opd_bind h hs; obtain ⟨px, hx, h⟩ := h
    replace h := optI_bind h hs; obtain ⟨nlo, klo, elo, h⟩ := h
    replace h := optI_bind h hs; obtain ⟨nhi, khi, ehi, h⟩ := h
    replace h := optI_bind h hs; obtain ⟨nmx, kmx, emx, h⟩ := h
    have key : ∀ {s : Sem Value}, (∃ r w', s.run P w = .ok r w' ∧ After K w0 φ M B w B' v r w') → s = Instr.sliceAt t (a.eval x) (nlo.map fun i => .int klo i) (nhi.map fun i => .int khi i) (nmx.map fun i => .int kmx i) →
        Oper.wp P ⟨dst, .slice t x lo hi mx, type, pos, after, guard⟩ a w Kn Q := by
      rintro s ⟨r, w', h1, h2⟩ rfl
      refine gives ⟨r, w', ?_, h2⟩
      simp only [execOp, elo, ehi, emx]
      simp [h1]
    cases nmx with
    | some m =>
      obtain ⟨hB, r, h3, h4⟩ := slice3_go (P := P) (hT _ _ ht) h hx klo khi kmx
      exact key ⟨r, w, h3, After.same hm hB h4⟩ rfl
    | none =>
      cases ty <;> try (cases h; done)
      case str =>
        cases px <;> try (cases h; done)
        rename_i pt pl
        cases pt <;> try (cases h; done)
        have e := hx.str
        obtain ⟨hB, r, h3, h4⟩ := slice_str_go (P := P) h (hT _ _ ht).1 klo khi (φ := φ) (H := view w M) w
        exact key ⟨r, w, by rw [← e] at h3; exact h3, After.same hm hB h4⟩ rfl
      case sl e =>
        obtain ⟨hB, r, h3, h4⟩ := slice_row_go (P := P) (hT _ _ ht) h hm hx klo khi
        exact key ⟨r, w, h3, After.same hm hB h4⟩ rfl
  case fieldAddr s x f =>
    replace h := opd_bind h hs; obtain ⟨px, hx, h⟩ := h
    obtain ⟨hB, r, h3, h4⟩ := fieldAddr_go (P := P) (fun t ht => hT _ _ ht) h hx
    exact gives (Gives.of h3 (After.same hm hB h4))
  case field t x f =>
    replace h := opd_bind h hs; obtain ⟨px, hx, h⟩ := h
    obtain ⟨hB, r, h3, h4⟩ := field_go (P := P) hT h hx
    exact gives (Gives.of h3 (After.same hm hB h4))
  case indexAddr t x i =>
    replace h := opt_bind h; obtain ⟨ty, ht, h⟩ := h
    replace h := opd_bind h hs; obtain ⟨px, hx, h⟩ := h
    replace h := opd_bind h hs; obtain ⟨pi, hi, h⟩ := h
    replace h := asI_bind h hi; obtain ⟨n, k, ei, h⟩ := h
    obtain ⟨hB, r, h3, h4⟩ := indexAddr_go (P := P) (k := k) (hT _ _ ht) h hx
    rw [← ei] at h3
    exact gives (Gives.of h3 (After.same hm hB h4))
  case index t x i =>
    replace h := opt_bind h; obtain ⟨ty, ht, h⟩ := h
    replace h := opd_bind h hs; obtain ⟨px, hx, h⟩ := h
    replace h := opd_bind h hs; obtain ⟨pi, hi, h⟩ := h
    replace h := asI_bind h hi; obtain ⟨n, k, ei, h⟩ := h
    cases ty with
    | str =>
      have hq : ∃ l, px = .sc .str l := by
        cases px <;> try (cases h; done)
        rename_i pt pl
        cases pt <;> first | exact ⟨_, rfl⟩ | cases h
      obtain ⟨l, rfl⟩ := hq
      have e := hx.str
      obtain ⟨hB, r, h3, h4⟩ := index_str_go (P := P) h (hT _ _ ht).1 k (φ := φ) (H := view w M) w
      rw [← ei, ← e] at h3
      exact gives (Gives.of h3 (After.same hm hB h4))
    | ar m e =>
      obtain ⟨hB, r, h3, h4⟩ := index_ar_go (P := P) (hT _ _ ht) h hx k
      rw [← ei] at h3
      exact gives (Gives.of h3 (After.same hm hB h4))
    | _ =>
      cases px <;> try (cases h; done)
      rename_i pt pl
      cases pt <;> cases h
  case range t x =>
    replace h := opt_bind h; obtain ⟨ty, ht, h⟩ := h
    replace h := need_bind h; obtain ⟨hi, h⟩ := h
    have := is_eq hi; subst this
    replace h := opd_bind h hs; obtain ⟨px, hx, h⟩ := h
    cases px <;> try (cases h; done)
    rename_i pt pl
    cases pt <;> try (cases h; done)
    replace h := fresh_go h; obtain ⟨hid, h⟩ := h
    cases h
    have e := hx.str
    obtain ⟨r, w', h3, h4⟩ := range_go (P := P) (hT _ _ ht).1 hid (l := pl) hm
    rw [← e] at h3
    exact gives (Gives.of h3 h4)
  case next x b =>
    cases b <;> try (cases h; done)
    replace h := opd_bind h hs; obtain ⟨px, hx, h⟩ := h
    obtain ⟨r, w', h3, h4⟩ := next_go (P := P) h hm hx type
    exact gives (Gives.of h3 h4)
  case extract x i =>
    replace h := opd_bind h hs; obtain ⟨px, hx, h⟩ := h
    obtain ⟨hB, r, h3, h4⟩ := extractP_go (P := P) h hx w
    refine gives (Gives.of h3 (After.same hm hB ?_))
    exact h4.toP (extract_ntup h hx)
  case call c =>
    obtain ⟨callee, args, ats⟩ := c
    cases callee <;> try (cases h; done)
    case builtin b =>
      obtain ⟨ps, B1, h1, h2⟩ := PM.go_bind_some h
      obtain ⟨e, hps⟩ := mapP_go hs h1
      rw [e] at h2
      have ha : (args.toList.map a.eval).toArray = args.map a.eval := by apply Array.ext'; simp
      have key : ∀ cs, Gives P K w0 φ M B w B' v (Go.builtin b ats type cs (args.map a.eval)) := fun cs => by
        obtain ⟨r, w', h3, h4⟩ := builtin_go (P := P) hT h2 hm hps type cs
        rw [ha] at h3
        exact ⟨r, w', h3, h4⟩
      exact gives (key _)
    case value f =>
      replace h := opd_bind h hs; obtain ⟨pf, hf, h⟩ := h
      cases pf <;> try (cases h; done)
      rename_i fid
      have hf : a.eval f = .func (.func fid) #[] #[] := hf
      obtain ⟨ps, B1, h1, h2⟩ := PM.go_bind_some h
      obtain ⟨e, hps⟩ := mapP_go hs h1
      rw [e] at h2
      obtain ⟨⟨fn, c1, c2, c3⟩, hcall⟩ := call_go (P := P) hG h2 hm hps
      have ha : (args.toList.map a.eval).toArray = args.map a.eval := by apply Array.ext'; simp
      rw [ha] at hcall
      have hbn : ¬ fn.body = none := by intro hb; rw [hb] at c2; cases c2
      have c3' : ¬ fn.name = "runtime.NumGoroutine" := by simpa using c3
      have hrun : (execOp a.eval ⟨dst, .call ⟨.value f, args, ats⟩, type, pos, after, guard⟩).run P w = .ok (.enter fid (args.map a.eval)) w := by
        simp only [execOp, resolve]
        simp [hf, Deferred.ofValue, invoke, callFunc, c1, c3', hbn]
      unfold Oper.wp
      rw [hrun, Oper.upon_enter]
      refine hcall.mono ?_
      rintro e w' ⟨vr, rfl, ha⟩
      exact hk vr w' ha
end
end Yp
