/- The engine, part O: lengths, parts of values, slices of rows. -/
import Derived.Test.YtkmimlgogeeooaaYpN
set_option linter.unusedVariables false
set_option linter.unusedSimpArgs false
namespace Yp
open Go
variable {P : Program}
section
variable {K : Kp} {w0 w : World} {φ : Pl} {M : Nat → Prop} {B B' : Nat → Blk} {g : Nat → PV}
theorem RepP.mk_len (H : View) (n : Nat) : RepP φ H B (Yp.int (n : Int)) (goInt n) := RepP.mk_int φ H B .i64 (n : Int)
theorem len_go {xt : Ty} {tid : TypeId} (ht : (fit P xt).1 tid) {a r : PV} {va : Value} (h : (lenP xt a).go g B = some (r, B')) (hra : RepP φ (view w M) B a va)
    {ats : Array TypeId} (h0 : ats[0]? = some tid) (ty : TypeId) : B' = B ∧ ∃ v, (Builtin.len_ ats ty #[va]).run P w = .ok v w ∧ RepP φ (view w M) B r v := by
  have fin : ∀ {n c : Nat} {ad : Option Addr} {e : Ty}, (fit P (.sl e)).1 tid → (Builtin.len_ ats ty #[.slice ad n c]).run P w = .ok (goInt n) w := by
    intro n c ad e hf
    obtain ⟨⟨et, hu, _⟩, _⟩ := hf
    simp [Builtin.len_, h0, run_underlying hu]
  cases xt <;> try (cases h; done)
  case str =>
    cases a <;> try (cases h; done)
    rename_i t x
    cases t <;> try (cases h; done)
    cases h
    rw [hra.str]
    exact ⟨rfl, _, by simp [Builtin.len_, h0, run_underlying ht.1]; rfl, RepP.mk_len _ (x : List UInt8).length⟩
  case ar n e =>
    cases h
    obtain ⟨⟨et, hu, _⟩, _⟩ := ht
    exact ⟨rfl, goInt n, by simp [Builtin.len_, h0, run_underlying hu], RepP.mk_len _ n⟩
  case sl e =>
    cases a <;> try (cases h; done)
    case sc t x =>
      cases t <;> try (cases h; done)
      cases h
      obtain ⟨cs, hC, rfl⟩ := hra
      obtain ⟨ad, cap, rfl, _⟩ := RepC.sl_iff'.1 hC
      exact ⟨rfl, _, fin ht, RepP.mk_len _ _⟩
    case csl e' l =>
      cases h
      obtain ⟨ad, rfl, _⟩ := hra
      exact ⟨rfl, _, fin ht, RepP.mk_len _ _⟩
    case nil =>
      cases h
      simp only [RepP, RepQ, RepS] at hra; subst hra
      exact ⟨rfl, _, fin ht, RepP.mk_len _ 0⟩
    case own id ne =>
      simp only [lenP, PM.go] at h
      have hs : RepS φ (view w M) B (.own id ne) va := hra
      simp only [RepS] at hs
      generalize hB : B id = bl at h hs
      cases bl <;> try (cases h; done)
      all_goals
        cases h
        obtain ⟨ad, c, rfl⟩ := hs.1.slice
        exact ⟨rfl, _, fin ht, RepP.mk_len _ _⟩
    case osl id off n =>
      simp only [lenP, PM.go] at h
      have hs : RepS φ (view w M) B (.osl id off n) va := hra
      simp only [RepS] at hs
      generalize hB : B id = bl at h hs
      cases bl <;> try (cases h; done)
      all_goals
        cases h
        obtain ⟨ad, c, rfl⟩ := hs.2.slice
        exact ⟨rfl, _, fin ht, RepP.mk_len _ _⟩
theorem run_part {t : Ty} {tid : TypeId} (h : (fit P t).1 tid) {cs : Array Value} {off : Nat} (hn : off + t.size ≤ cs.size) (w : World) : (part tid cs off).run P w = .ok (mkV t (seg cs off t.size)) w := by
  unfold part
  cases ha : t.isAgg with
  | true =>
    have he : cs.extract off (off + t.size) = (seg cs off t.size).toArray := by
      apply Array.ext'
      simp [seg]
    simp [run_isAgg h, ha, run_sizeOf' h, mkV, he]
  | false =>
    have h1 := size_one ha
    have hlt : off < cs.size := by omega
    have hs : seg cs off 1 = [cs[off]] := by
      have hl := seg_length (c := cs) (o := off) (n := 1) (by omega)
      have hg := seg_get (c := cs) (o := off) (n := 1) (i := 0) (by omega)
      match hsg : seg cs off 1, hl, hg with
      | [x], _, hg => simp [hlt] at hg; rw [hg]
    simp [run_isAgg h, ha, Array.getElem?_eq_getElem hlt, mkV, h1, hs]
theorem field_go {E : Env} (hT : tabOK P E.T) {tid : TypeId} {f : Nat} {a r : PV} {va : Value} (h : (fieldP E tid f a).go g B = some (r, B')) (hra : RepP φ (view w M) B a va) :
    B' = B ∧ ∃ v, (Instr.field tid va f).run P w = .ok v w ∧ RepP φ (view w M) B r v := by
  unfold fieldP at h
  cases ht : E.T tid with
  | none => rw [ht] at h; cases h
  | some t =>
    rw [ht] at h
    simp only at h
    have hf := hT _ _ ht
    obtain ⟨_, B1, h1, h'⟩ := PM.go_bind_some h
    clear h
    obtain ⟨rfl, cu, hcu, hTT⟩ := fits_T h1 hra
    cases hat : t.at (fieldSel f) with
    | none => rw [hat] at h'; cases h'
    | some ft =>
      cases hg : getp (stripA a) (fieldSel f) with
      | none => rw [hat, hg] at h'; cases h'
      | some v =>
        rw [hat, hg] at h'
        cases h'
        obtain ⟨d, ho⟩ := at_off_field hat
        obtain ⟨fs, fd, g1, g2, g3, g4⟩ := fit_struct hf ho
        have hle := offOf_le ho
        have hl := hTT.length
        have hag : t.isAgg = true := by cases f <;> cases t <;> first | rfl | cases ho
        have hagg : va = .agg cu.toArray := by
          cases a <;> try (cases h1; done)
          case kb b => obtain ⟨hi, _⟩ := need_go h1; have := is_eq hi; subst this; cases hag
          case nil => cases t <;> first | cases hag; done | cases h1
          case csl e l => obtain ⟨hi, _⟩ := need_go h1; have := is_eq hi; subst this; cases hag
          case own id ne =>
            simp only [fitsT, PM.go] at h1
            generalize B' id = bl at h1
            cases bl <;> try (cases h1; done)
            all_goals
              obtain ⟨hi, _⟩ := need_go h1
              have := is_eq hi; subst this; cases hag
          case sc s x =>
            obtain ⟨hi, _⟩ := need_go h1
            have := is_eq hi; subst this
            obtain ⟨cs, q1, rfl⟩ := hra
            rw [mkV_cells q1] at hcu
            simp only [mkV, hag, if_true]; rw [← hcu]
          case agg s x =>
            obtain ⟨_, cs, q1, rfl⟩ := hra
            simp only [Value.cells] at hcu; rw [← hcu]
        subst hagg
        refine ⟨rfl, mkV ft (seg cu.toArray d ft.size), ?_, wrap_P (getp_T hTT ho hg)⟩
        have hp := run_part (P := P) g4 (cs := cu.toArray) (off := d) (by simp; omega) w
        simp [Instr.field, run_underlying g1, g2, asAgg, g3, hp]
theorem index_ar_go {n : Nat} {e : Ty} {tid : TypeId} (ht : (fit P (.ar n e)).1 tid) {a r : PV} {va : Value} {i : Int} (h : (indexP (.ar n e) a i).go g B = some (r, B')) (hra : RepP φ (view w M) B a va) (k : IntKind) :
    B' = B ∧ ∃ v, (Instr.index tid va (.int k i)).run P w = .ok v w ∧ RepP φ (view w M) B r v := by
  have h' : ((PM.opt (toD (.ar n e) a)).bind fun l => .chk (inB i (ofn n)) (.ret (.sc e (nth (l : List e.den) (nat i) e.zero)))).go g B = some (r, B') := by
    unfold indexP at h
    split at h
    · cases h
    · exact h
  obtain ⟨l, B1, h1, h2⟩ := PM.go_bind_some h'
  obtain ⟨hd, rfl⟩ := opt_go h1
  obtain ⟨hi, h2⟩ := chk_go h2
  cases h2
  obtain ⟨cs, hC, rfl⟩ := toD_P hd hra
  obtain ⟨q1, q2, q3⟩ := RepC.ar_iff'.1 hC
  have q1 : (l : List e.den).length = n := q1
  obtain ⟨⟨et, hu, he⟩, _⟩ := ht
  obtain ⟨h0, h1⟩ := inB_iff.1 hi
  have h1 : i < (n : Int) := h1
  have hlt : i.toNat < (l : List e.den).length := by omega
  have hz := run_sizeOf' he w
  have hmul : (i.toNat + 1) * e.size ≤ n * e.size := Nat.mul_le_mul_right _ (by omega)
  rw [Nat.add_mul] at hmul
  have hp := run_part (P := P) he (cs := cs.toArray) (off := i.toNat * e.size) (by simp; omega) w
  refine ⟨rfl, mkV e (seg cs.toArray (i.toNat * e.size) e.size), ?_, ?_⟩
  · simp [Instr.index, asIntOf, run_underlying hu, mkV, Ty.isAgg, h0, h1, hz, hp]
  · exact ⟨_, q3 _ _ (lget_nth (d := e.zero) hlt), rfl⟩
/-- slices of rows -/
theorem run_slice_row {e : Ty} {tid : TypeId} (ht : (fit P (.sl e)).1 tid) {ad : Option Addr} {n cap : Nat} {lo hi : Option Int} {ks kh : IntKind} (hcap : n ≤ cap) (h : inC (boundO lo 0) (boundO hi n) n = true) (w : World) :
    (Instr.sliceAt tid (.slice ad n cap) (lo.map fun i => .int ks i) (hi.map fun i => .int kh i) none).run P w =
      .ok (.slice (if cap = (boundO lo 0).toNat then ad else ad.map (·.add ((boundO lo 0).toNat * e.size))) ((boundO hi n).toNat - (boundO lo 0).toNat) (cap - (boundO lo 0).toNat)) w := by
  obtain ⟨⟨et, hu, he⟩, _⟩ := ht
  have hb := sliceBounds_go (P := P) (isSlice := true) (ks := ks) (kh := kh) hcap h w
  have hz := run_sizeOf' he w
  simp [Instr.sliceAt, Instr.slice, run_underlying hu, hb, hz]
theorem sub_cut {α : Type} (l : List α) (lo hi : Int) : sub l lo hi = cut l lo.toNat (hi.toNat - lo.toNat) := rfl
theorem RepC.sub {H : View} {e : Ty} {l : List e.den} {ad : Option Addr} {cap : Nat} (hC : RepC H (.sl e) l [.slice ad l.length cap]) {L N cap' : Nat} (hle : L + N ≤ l.length) (hcap : N ≤ cap') (hcap' : cap' ≤ cap - L) :
    RepC H (.sl e) (cut l L N) [.slice (if cap' = 0 then ad else ad.map (·.add (L * e.size))) N cap'] := by
  obtain ⟨a', c', h1, h2, h3, h4⟩ := RepC.sl_iff.1 hC
  simp only [List.cons.injEq, Value.slice.injEq, and_true] at h1
  obtain ⟨rfl, _, rfl⟩ := h1
  refine RepC.sl_iff.2 ⟨_, cap', by rw [cut_length hle], by rw [cut_length hle]; exact hcap, by omega, ?_⟩
  by_cases hN : N = 0
  · left; exact List.length_eq_zero_iff.1 ((cut_length hle).trans hN)
  · rcases h4 with h4 | ⟨b, o, c, el, fz, rfl, g2, g3, g4⟩
    · subst h4; simp at hle; omega
    · right
      rw [if_neg (by omega)]
      refine ⟨b, o + L * e.size, c, el, fz, by simp [add_none], g2, ?_, fun i x hi => ?_⟩
      · rw [cut_length hle]
        have : (L + N) * e.size ≤ l.length * e.size := Nat.mul_le_mul_right _ hle
        rw [Nat.add_mul] at this; omega
      · have hin : i < N := by
          rcases Nat.lt_or_ge i N with h | h
          · exact h
          · have : (cut l L N).length ≤ i := by rw [cut_length hle]; exact h
            simp only [lget, List.getElem?_eq_none this] at hi; cases hi
        rw [cut_get hin] at hi
        have := g4 (L + i) x hi
        rw [Nat.add_mul, ← Nat.add_assoc] at this
        exact this
theorem slice_data {H : View} {e : Ty} {tid : TypeId} (ht : (fit P (.sl e)).1 tid) {l : List e.den} {va : Value} (hC : RepC H (.sl e) l [va]) {lo hi : Option Int} {ks kh : IntKind} (h : inC (boundO lo 0) (boundO hi (len l)) (len l) = true) (w : World) :
    ∃ v, (Instr.sliceAt tid va (lo.map fun i => .int ks i) (hi.map fun i => .int kh i) none).run P w = .ok v w ∧ RepP φ H B (.sc (.sl e) (sub l (boundO lo 0) (boundO hi (len l)))) v := by
  obtain ⟨ad, cap, h1, h2, h3, h4⟩ := RepC.sl_iff.1 hC
  simp only [List.cons.injEq, and_true] at h1
  subst h1
  have hr := run_slice_row (P := P) ht (ad := ad) (ks := ks) (kh := kh) h2 h w
  refine ⟨_, hr, ?_⟩
  obtain ⟨k1, k2, k3⟩ := inC_iff.1 h
  have k3 : boundO hi (len l) ≤ (l.length : Int) := k3
  have := hC.sub (L := (boundO lo 0).toNat) (N := (boundO hi (len l)).toNat - (boundO lo 0).toNat) (cap' := cap - (boundO lo 0).toNat) (by omega) (by omega) (Nat.le_refl _)
  refine ⟨_, this, ?_⟩
  simp only [mkV, Ty.isAgg, Bool.false_eq_true, if_false, List.headD_cons]
  congr 1
  by_cases hc : cap = (boundO lo 0).toNat
  · rw [if_pos hc, if_pos (by omega)]
  · rw [if_neg hc, if_neg (by omega)]
theorem RepOwn.sub {id : Nat} {e : Ty} {off n : Nat} {ad : Option Addr} {cap : Nat} (h : RepOwn φ id e off n (.slice ad n cap)) {L N : Nat} (hle : L + N ≤ n) :
    RepOwn φ id e (off + L) N (.slice (if cap = L then ad else ad.map (·.add (L * e.size))) N (cap - L)) := by
  rcases h with ⟨h1, a, h2⟩ | ⟨b, o, m, cap', h1, h2, h3, h4, h5⟩
  · simp only [Value.slice.injEq] at h2
    obtain ⟨rfl, _, rfl⟩ := h2
    left; exact ⟨by omega, _, by rw [show N = 0 by omega, show 0 - L = 0 by omega]⟩
  · simp only [Value.slice.injEq] at h2
    obtain ⟨rfl, _, rfl⟩ := h2
    by_cases hc : cap = L
    · left; exact ⟨by omega, _, by rw [show N = 0 by omega, show cap - L = 0 by omega]⟩
    · right
      refine ⟨b, o, m, cap - L, h1, ?_, by omega, by omega, by rw [show off + L + (cap - L) = off + cap by omega]; exact h5⟩
      rw [if_neg hc]; simp [add_none, Nat.add_mul, Nat.add_assoc]
theorem slice_row_go {e : Ty} {tid : TypeId} (ht : (fit P (.sl e)).1 tid) {a r : PV} {va : Value} {lo hi : Option Int} (h : (sliceP (.sl e) a lo hi none).go g B = some (r, B'))
    (hm : Mem K w0 φ M B w) (hra : RepP φ (view w M) B a va) (ks kh : IntKind) :
    B' = B ∧ ∃ v, (Instr.sliceAt tid va (lo.map fun i => .int ks i) (hi.map fun i => .int kh i) none).run P w = .ok v w ∧ RepP φ (view w M) B r v := by
  cases a <;> try (cases h; done)
  case sc t x =>
    have h : ((PM.opt (Ty.cast t (.sl e) x)).bind fun l => .chk (inC (boundO lo 0) (boundO hi (len (l : List e.den))) (len (l : List e.den))) (.ret (.sc (.sl e) (Yp.sub (l : List e.den) (boundO lo 0) (boundO hi (len (l : List e.den))))))).go g B = some (r, B') := h
    replace h := PM.go_bind_some h; obtain ⟨l, B1, h1, h⟩ := h
    obtain ⟨hc, rfl⟩ := opt_go h1
    obtain ⟨e', rfl⟩ := cast_some hc
    subst e'
    replace h := chk_go h; obtain ⟨hb, h⟩ := h
    cases h
    obtain ⟨cs, hC, rfl⟩ := hra
    obtain ⟨ad, cap, rfl, _⟩ := RepC.sl_iff'.1 hC
    exact ⟨rfl, slice_data ht hC hb w⟩
  case csl e' l =>
    simp only [sliceP] at h
    replace h := bif_go h; obtain ⟨hc, h⟩ := h
    have := is_eq hc; cases this
    replace h := chk_go h; obtain ⟨hb, h⟩ := h
    cases h
    obtain ⟨ad, _, hC⟩ := hra
    exact ⟨rfl, slice_data ht hC hb w⟩
  case own id ne =>
    simp only [sliceP, PM.go] at h
    have hs : RepS φ (view w M) B (.own id ne) va := hra
    have hbl := hm.blks id
    simp only [RepS] at hs
    generalize hB : B id = bl at h hs hbl
    cases bl <;> try (cases h; done)
    · replace h := bif_go h; obtain ⟨hc, h⟩ := h
      have := is_eq hc; cases this
      replace h := chk_go h; obtain ⟨hb, h⟩ := h
      cases h
      rename_i l
      obtain ⟨ad, cap, rfl⟩ := hs.1.slice
      have hcap : l.length ≤ cap := by
        rcases hs.1 with ⟨h1, a, h2⟩ | ⟨b, o, m, cap', h1, h2, h3, h4, h5⟩
        · omega
        · simp only [Value.slice.injEq] at h2; omega
      refine ⟨rfl, _, run_slice_row ht hcap hb w, ?_⟩
      obtain ⟨k1, k2, k3⟩ := inC_iff.1 hb
      have k3 : boundO hi (len l) ≤ (l.length : Int) := k3
      have k4 : boundO hi (l.length : Int) = boundO hi (len l) := rfl
      have := hs.1.sub (L := (boundO lo 0).toNat) (N := (boundO hi (len l)).toNat - (boundO lo 0).toNat) (by omega)
      simp only [RepP, RepQ, RepS, hB]
      simp only [Nat.zero_add] at this
      exact ⟨by unfold nat nsub; omega, this⟩
    · replace h := bif_go h; obtain ⟨hc, h⟩ := h
      have := is_eq hc; cases this
      replace h := chk_go h; obtain ⟨hb, h⟩ := h
      cases h
      rename_i l
      exact ⟨rfl, slice_data ht (own_C_all hs.1 hbl.2) hb w⟩
  case osl id off n =>
    simp only [sliceP, PM.go] at h
    have hs : RepS φ (view w M) B (.osl id off n) va := hra
    have hbl := hm.blks id
    simp only [RepS] at hs
    generalize hB : B id = bl at h hs hbl
    cases bl <;> try (cases h; done)
    all_goals
      replace h := bif_go h; obtain ⟨hc, h⟩ := h
      have := is_eq hc; cases this
      replace h := chk_go h; obtain ⟨hb, h⟩ := h
      cases h
      rename_i l
      obtain ⟨hle, hs⟩ := hs
      obtain ⟨ad, cap, rfl⟩ := hs.slice
      have hcap : n ≤ cap := by
        rcases hs with ⟨h1, a, h2⟩ | ⟨b, o, m, cap', h1, h2, h3, h4, h5⟩
        · omega
        · simp only [Value.slice.injEq] at h2; omega
      refine ⟨rfl, _, run_slice_row ht hcap hb w, ?_⟩
      obtain ⟨k1, k2, k3⟩ := inC_iff.1 hb
      have k3 : boundO hi (ofn n) ≤ (n : Int) := k3
      have k4 : boundO hi (n : Int) = boundO hi (ofn n) := rfl
      have := hs.sub (L := (boundO lo 0).toNat) (N := (boundO hi (ofn n)).toNat - (boundO lo 0).toNat) (by omega)
      simp only [RepP, RepQ, RepS, hB]
      exact ⟨by unfold nat nsub nadd; omega, this⟩
theorem slice3_go {xt : Ty} {tid : TypeId} (ht : (fit P xt).1 tid) {a r : PV} {va : Value} {lo hi : Option Int} {m : Int} (h : (sliceP xt a lo hi (some m)).go g B = some (r, B'))
    (hra : RepP φ (view w M) B a va) (ks kh km : IntKind) :
    B' = B ∧ ∃ v, (Instr.sliceAt tid va (lo.map fun i => .int ks i) (hi.map fun i => .int kh i) (some (.int km m))).run P w = .ok v w ∧ RepP φ (view w M) B r v := by
  cases hi with
  | none => cases h
  | some hi =>
    cases a <;> try (cases h; done)
    rename_i t x
    cases xt <;> try (cases h; done)
    rename_i e
    have h : ((PM.opt (Ty.cast t (.sl e) x)).bind fun l => .chk (band (inC (boundO lo 0) hi (len (l : List e.den))) (beq hi m)) (.ret (.csl e (Yp.sub (l : List e.den) (boundO lo 0) hi)))).go g B = some (r, B') := h
    replace h := PM.go_bind_some h; obtain ⟨l, B1, h1, h⟩ := h
    obtain ⟨hc, rfl⟩ := opt_go h1
    obtain ⟨e', rfl⟩ := cast_some hc
    subst e'
    replace h := chk_go h; obtain ⟨hb, h⟩ := h
    cases h
    simp only [band, Bool.and_eq_true, Yp.beq, beq_iff_eq] at hb
    obtain ⟨hb, rfl⟩ := hb
    obtain ⟨k1, k2, k3⟩ := inC_iff.1 hb
    obtain ⟨cs, hC, rfl⟩ := hra
    obtain ⟨ad, cap, rfl, q2, _⟩ := RepC.sl_iff'.1 hC
    have k3 : hi ≤ ((x : List e.den).length : Int) := k3
    obtain ⟨⟨et, hu, he⟩, _⟩ := ht
    have hz := run_sizeOf' he w
    have g1 : 0 ≤ hi ∧ hi ≤ (cap : Int) := ⟨by omega, by omega⟩
    have g0 : 0 ≤ hi := g1.1
    have g2 : ∀ i : Int, 0 ≤ i → i ≤ hi → (0 ≤ i ∧ i ≤ ((hi.toNat : Nat) : Int)) := fun i h1 h2 => ⟨h1, by omega⟩
    have hsb : (Instr.sliceBounds true (x : List e.den).length cap (lo.map fun i => .int ks i) (some (.int kh hi)) (some (.int km hi))).run P w = .ok ((boundO lo 0).toNat, hi.toNat, hi.toNat) w := by
      cases lo with
      | none => simp [Instr.sliceBounds, Instr.sliceBound, asIntOf, g1, boundO, g0, Int.max_eq_left g0]
      | some lo =>
        simp only [boundO] at k1 k2 ⊢
        simp [Instr.sliceBounds, Instr.sliceBound, asIntOf, g1, g0, Int.max_eq_left g0, k1, k2]
    refine ⟨rfl, .slice (if hi.toNat = (boundO lo 0).toNat then ad else ad.map (·.add ((boundO lo 0).toNat * e.size))) (hi.toNat - (boundO lo 0).toNat) (hi.toNat - (boundO lo 0).toNat), ?_, ?_⟩
    · simp [Instr.sliceAt, Instr.slice, run_underlying hu, hsb, hz, mkV, Ty.isAgg]
    · have := hC.sub (L := (boundO lo 0).toNat) (N := hi.toNat - (boundO lo 0).toNat) (cap' := hi.toNat - (boundO lo 0).toNat) (by omega) (by omega) (by omega)
      have hlen : (Yp.sub (x : List e.den) (boundO lo 0) hi).length = hi.toNat - (boundO lo 0).toNat := cut_length (α := e.den) (l := (x : List e.den)) (by omega)
      have he2 : (if hi.toNat = (boundO lo 0).toNat then ad else ad.map (·.add ((boundO lo 0).toNat * e.size))) = if hi.toNat - (boundO lo 0).toNat = 0 then ad else ad.map (·.add ((boundO lo 0).toNat * e.size)) := by
        by_cases hc : hi.toNat = (boundO lo 0).toNat
        · rw [if_pos hc, if_pos (by omega)]
        · rw [if_neg hc, if_neg (by omega)]
      rw [he2]
      show ∃ ad', Value.slice _ _ _ = .slice ad' (Yp.sub (x : List e.den) (boundO lo 0) hi).length (Yp.sub (x : List e.den) (boundO lo 0) hi).length ∧ _
      exact ⟨_, by rw [hlen], this⟩
end
end Yp
