/- The engine, part H: slices of the call's own as plain data. -/
import Derived.Test.YtkmimlgogeeooaaYpG
set_option linter.unusedVariables false
set_option linter.unusedSimpArgs false
namespace Yp
open Go

def full (w : World) : View := fun b => w.heap[b]?
theorem view_full (w : World) (M : Nat → Prop) : (view w M).Le (full w) := fun _ _ h => (view_some.1 h).2
theorem cut_length {α : Type} {l : List α} {off n : Nat} (h : off + n ≤ l.length) : (cut l off n).length = n := by
  simp [cut]; omega
theorem cut_get {α : Type} {l : List α} {off n i : Nat} (h : i < n) : lget (cut l off n) i = lget l (off + i) := by
  simp [lget, cut, List.getElem?_take, h]
theorem cut_all {α : Type} (l : List α) : cut l 0 l.length = l := by simp [cut]
/-- a piece of a row of elements -/
theorem own_C {φ : Pl} {H : View} {id : Nat} {e : Ty} {l : List e.den} {off n : Nat} {v : Value} (hr : RepOwn φ id e off n v) (hle : off + n ≤ l.length)
    (hb : (φ id = none ∧ l.length = 0) ∨ ∃ b o c el fz, φ id = some (b, o, c.size) ∧ H b = some (.cells c el fz) ∧ Row H e l c o) : RepC H (.sl e) (cut l off n) [v] := by
  refine RepC.sl_iff.2 ?_
  rw [cut_length hle]
  rcases hr with ⟨h1, a, h2⟩ | ⟨b, o, m, cap, h1, h2, h3, h4, h5⟩
  · subst h1 h2
    exact ⟨a, 0, rfl, Nat.le_refl _, by unfold maxLen; omega, .inl (by simp [cut])⟩
  · refine ⟨_, cap, by rw [h2], h3, h4, ?_⟩
    rcases hb with ⟨g1, g2⟩ | ⟨b', o', c, el, fz, g1, g2, g3⟩
    · rw [h1] at g1; cases g1
    · rw [h1] at g1; cases g1
      refine .inr ⟨b, o + off * e.size, c, el, fz, rfl, g2, ?_, fun i x hi => ?_⟩
      · have : (off + n) * e.size ≤ (off + cap) * e.size := Nat.mul_le_mul_right _ (by omega)
        rw [Nat.add_mul] at this
        have h6 := h5
        omega
      · have hin : i < n := by
          rcases Nat.lt_or_ge i n with h | h
          · exact h
          · have : (cut l off n).length ≤ i := by rw [cut_length hle]; exact h
            simp only [lget, List.getElem?_eq_none this] at hi; cases hi
        rw [cut_get hin] at hi
        have := g3.2 (off + i) x hi
        rw [Nat.add_mul, ← Nat.add_assoc] at this
        exact this
theorem own_C_all {φ : Pl} {H : View} {id : Nat} {e : Ty} {l : List e.den} {v : Value} (hr : RepOwn φ id e 0 l.length v)
    (hb : (φ id = none ∧ l.length = 0) ∨ ∃ b o c el fz, φ id = some (b, o, c.size) ∧ H b = some (.cells c el fz) ∧ Row H e l c o) : RepC H (.sl e) l [v] := by
  have := own_C hr (by omega) hb
  rwa [cut_all] at this
section
variable {K : Kp} {w0 w : World} {φ : Pl} {M : Nat → Prop} {B B' : Nat → Blk} {g : Nat → PV}
theorem ob_full {i : Nat} {e : Ty} {l : List e.den} (h : RepB φ M w (view w M) B i (.ob e l)) : (φ i = none ∧ l.length = 0) ∨ ∃ b o c el fz, φ i = some (b, o, c.size) ∧ full w b = some (.cells c el fz) ∧ Row (full w) e l c o := by
  rcases h.2 with h | ⟨b, o, c, el, fz, h1, h2, h3, _⟩
  · exact .inl h
  · exact .inr ⟨b, o, c, el, fz, h1, h2, h3.mono (view_full w M)⟩
theorem rowM_go {frz : Bool} {id : Nat} {e : Ty} {x : List e.den} (h : (rowM frz id e).go g B = some (x, B')) (hm : Mem K w0 φ M B w) :
    ∃ M', Mem K w0 φ M' B' w ∧ Ext φ M B w φ M' B' w ∧ Thin φ M B M' B' ∧ (B id = .ob e x ∨ B id = .fz e x) ∧
      ((φ id = none ∧ x.length = 0) ∨ ∃ b o c el fz, φ id = some (b, o, c.size) ∧ full w b = some (.cells c el fz) ∧ Row (full w) e x c o) ∧
      (frz = true → (φ id = none ∧ x.length = 0) ∨ ∃ b o c el fz, φ id = some (b, o, c.size) ∧ view w M' b = some (.cells c el fz) ∧ Row (view w M') e x c o) := by
  simp only [rowM, PM.go] at h
  have hb := hm.blks id
  cases hB : B id with
  | ob e' l =>
    rw [hB] at h hb
    obtain ⟨y, B1, h1, h2⟩ := PM.go_bind_some h
    obtain ⟨hc, rfl⟩ := opt_go h1
    obtain ⟨ee, rfl⟩ := castL_some hc
    subst ee
    cases frz with
    | false =>
      cases h2
      exact ⟨M, hm, Ext.refl _ _ _ _, Thin.refl _ _ _, .inl rfl, ob_full hb, fun h => by cases h⟩
    | true =>
      obtain ⟨M', hm', he', ht'⟩ := hm.freeze hB
      cases h2
      have hb' := hm'.blks id
      rw [updB_same] at hb'
      exact ⟨M', hm', he', ht', .inl rfl, ob_full hb, fun _ => hb'.2⟩
  | fz e' l =>
    rw [hB] at h hb
    obtain ⟨hc, rfl⟩ := opt_go h
    obtain ⟨ee, rfl⟩ := castL_some hc
    subst ee
    refine ⟨M, hm, Ext.refl _ _ _ _, Thin.refl _ _ _, .inr rfl, ?_, fun _ => hb.2⟩
    rcases hb.2 with h | ⟨b, o, c, el, fz, h1, h2, h3⟩
    · exact .inl h
    · exact .inr ⟨b, o, c, el, fz, h1, view_full w M _ _ h2, h3.mono (view_full w M)⟩
  | new => rw [hB] at h; cases h
  | gone => rw [hB] at h; cases h
  | box t v => rw [hB] at h; cases h
  | it s p => rw [hB] at h; cases h
theorem Ext.T {φ' : Pl} {M' : Nat → Prop} {w' : World} (h : Ext φ M B w φ' M' B' w') {pv : PV} {t : Ty} {cs : List Value} (hp : RepT φ (view w M) B pv t cs) : RepT φ' (view w' M') B' pv t cs :=
  hp.mono h.pl h.vw h.bl
/-- what 'toDM' leaves -/
def Got (K : Kp) (w0 w : World) (φ : Pl) (M : Nat → Prop) (B B' : Nat → Blk) (frz : Bool) (t : Ty) (x : t.den) (cs : List Value) : Prop :=
  ∃ M', Mem K w0 φ M' B' w ∧ Ext φ M B w φ M' B' w ∧ Thin φ M B M' B' ∧ RepC (full w) t x cs ∧ (frz = true → RepC (view w M') t x cs)
theorem Got.plain (hm : Mem K w0 φ M B w) {frz : Bool} {t : Ty} {x : t.den} {cs : List Value} (h : RepC (view w M) t x cs) : Got K w0 w φ M B B frz t x cs :=
  ⟨M, hm, Ext.refl _ _ _ _, Thin.refl _ _ _, h.mono (view_full w M), fun _ => h⟩
theorem own_S {e : Ty} {x : List e.den} {id : Nat} {ne : Bool} {H : View} {v : Value} (hb : B id = .ob e x ∨ B id = .fz e x) (h : RepS φ H B (.own id ne) v) : RepOwn φ id e 0 x.length v := by
  rcases hb with hb | hb <;> simp only [RepS, hb] at h <;> exact h.1
theorem osl_S {e : Ty} {x : List e.den} {id off n : Nat} {H : View} {v : Value} (hb : B id = .ob e x ∨ B id = .fz e x) (h : RepS φ H B (.osl id off n) v) : off + n ≤ x.length ∧ RepOwn φ id e off n v := by
  rcases hb with hb | hb <;> simp only [RepS, hb] at h <;> exact h
theorem own_Got {frz : Bool} {id : Nat} {ne : Bool} {t : Ty} {x : t.den} {v : Value} (h : (ownM frz id t).go g B = some (x, B')) (hm : Mem K w0 φ M B w) (hr : RepS φ (view w M) B (.own id ne) v) :
    Got K w0 w φ M B B' frz t x [v] := by
  cases t <;> try (cases h; done)
  obtain ⟨M', h1, h2, ht, h3, h4, h5⟩ := rowM_go h hm
  have ho := own_S h3 hr
  exact ⟨M', h1, h2, ht, own_C_all ho h4, fun hf => own_C_all ho (h5 hf)⟩
theorem osl_Got {frz : Bool} {id off n : Nat} {t : Ty} {x : t.den} {v : Value} (h : (oslM frz id off n t).go g B = some (x, B')) (hm : Mem K w0 φ M B w) (hr : RepS φ (view w M) B (.osl id off n) v) :
    Got K w0 w φ M B B' frz t x [v] := by
  cases t <;> try (cases h; done)
  obtain ⟨y, B1, hy, h⟩ := PM.go_bind_some h
  cases h
  obtain ⟨M', h1, h2, ht, h3, h4, h5⟩ := rowM_go hy hm
  have ho := osl_S h3 hr
  exact ⟨M', h1, h2, ht, own_C ho.2 ho.1 h4, fun hf => own_C ho.2 ho.1 (h5 hf)⟩
theorem toDM_T {frz : Bool} : ∀ {pv : PV} {B B' : Nat → Blk} {M : Nat → Prop} {t : Ty} {x : t.den} {cs : List Value}, (toDM' frz pv t).go g B = some (x, B') → Mem K w0 φ M B w → RepT φ (view w M) B pv t cs →
    Got K w0 w φ M B B' frz t x cs := by
  intro pv
  induction pv with
  | own id ne =>
    intro B B' M t x cs h hm hr
    obtain ⟨_, v, rfl, _, h3⟩ := hr
    exact own_Got h hm h3
  | osl id off n =>
    intro B B' M t x cs h hm hr
    obtain ⟨_, v, rfl, _, h3⟩ := hr
    exact osl_Got h hm h3
  | two u v hu hv =>
    intro B B' M t x cs h hm hr
    cases t <;> try (cases h; done)
    rename_i a b
    obtain ⟨c1, c2, rfl, r1, r2⟩ := hr
    obtain ⟨y, B1, hy, h⟩ := PM.go_bind_some h
    obtain ⟨z, B2, hz, h⟩ := PM.go_bind_some h
    cases h
    obtain ⟨M1, m1, e1, t1, f1, v1⟩ := hu hy hm r1
    obtain ⟨M2, m2, e2, t2, f2, v2⟩ := hv hz m1 (e1.T r2)
    exact ⟨M2, m2, e1.trans e2, t1.trans t2, RepC.pair_iff.2 ⟨c1, c2, rfl, f1, f2⟩, fun hf => RepC.pair_iff.2 ⟨c1, c2, rfl, (v1 hf).mono e2.vw, v2 hf⟩⟩
  | sc t' y =>
    intro B B' M t x cs h hm hr
    obtain ⟨hc, rfl⟩ := opt_go h
    exact Got.plain hm (toD_T (pv := .sc t' y) hc hr)
  | kb b =>
    intro B B' M t x cs h hm hr
    obtain ⟨hc, rfl⟩ := opt_go h
    exact Got.plain hm (toD_T (pv := .kb b) hc hr)
  | nil =>
    intro B B' M t x cs h hm hr
    obtain ⟨hc, rfl⟩ := opt_go h
    exact Got.plain hm (toD_T (pv := .nil) hc hr)
  | csl e l =>
    intro B B' M t x cs h hm hr
    obtain ⟨hc, rfl⟩ := opt_go h
    exact Got.plain hm (toD_T (pv := .csl e l) hc hr)
  | agg t' u _ => intro B B' M t x cs h hm hr; exact hr.elim
  | _ => intro B B' M t x cs h; cases h
theorem toDM_P {frz : Bool} {pv : PV} {t : Ty} {x : t.den} {v : Value} (h : (toDM frz t pv).go g B = some (x, B')) (hm : Mem K w0 φ M B w) (hr : RepP φ (view w M) B pv v) :
    ∃ cs, v = mkV t cs ∧ Got K w0 w φ M B B' frz t x cs := by
  unfold toDM at h
  have plain : ∀ {t : Ty} {x : t.den}, RepP φ (view w M) B (.sc t x) v → ∃ cs, v = mkV t cs ∧ Got K w0 w φ M B B frz t x cs := fun ⟨cs, h1, h2⟩ => ⟨cs, h2, Got.plain hm h1⟩
  cases pv <;> try (cases h; done)
  case own id ne =>
    have hg := own_Got h hm hr
    cases t <;> try (cases h; done)
    exact ⟨[v], rfl, hg⟩
  case osl id off n =>
    have hg := osl_Got h hm hr
    cases t <;> try (cases h; done)
    exact ⟨[v], rfl, hg⟩
  case two u w => exact hr.elim
  case sc t' y =>
    obtain ⟨hc, rfl⟩ := opt_go h
    exact plain (toD_P (pv := .sc t' y) hc hr)
  case kb b =>
    obtain ⟨hc, rfl⟩ := opt_go h
    exact plain (toD_P (pv := .kb b) hc hr)
  case nil =>
    obtain ⟨hc, rfl⟩ := opt_go h
    exact plain (toD_P (pv := .nil) hc hr)
  case csl e l =>
    obtain ⟨hc, rfl⟩ := opt_go h
    exact plain (toD_P (pv := .csl e l) hc hr)
  case agg t' u =>
    have h' : (bif Ty.is t' t then toDM' frz u t else .fail : PM t.den).go g B = some (x, B') := h
    cases hi : Ty.is t' t with
    | false => rw [hi] at h'; cases h'
    | true =>
      rw [hi] at h'
      have e := is_eq hi
      subst e
      obtain ⟨ha, cs, h1, h2⟩ := hr
      exact ⟨cs, by rw [h2, mkV, if_pos ha], toDM_T h' hm h1⟩
end
end Yp
