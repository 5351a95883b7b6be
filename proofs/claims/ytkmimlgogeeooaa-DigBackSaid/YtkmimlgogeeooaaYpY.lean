/- The engine, part Y: results. -/
import Derived.Test.YtkmimlgogeeooaaYpX4
set_option linter.unusedVariables false
set_option linter.unusedSimpArgs false
namespace Yp
open Go
variable {P : Program}
section
variable {K : Kp} {w0 w : World} {φ : Pl} {M : Nat → Prop} {B B' : Nat → Blk} {g : Nat → PV} {H : View} {E : Env}
theorem here_ev {α β : Type} {s : St} {m : PM α} {k : α × St → R β} {r : β} (h : ((PM.here s m).bind k).ev = some r) :
    ∃ a wr, m.go s.getT s.getB = some (a, overW s.getB wr) ∧ (k (a, s.setBs wr)).ev = some r := by
  unfold PM.here at h
  rw [R.bind_assoc] at h
  obtain ⟨a, e, h1, h2⟩ := PM.run_ev s m 0 [] [] _ r h
  simp only [St.setBsF_eq, R.bind] at h2
  exact ⟨a, e.wr, h1, h2⟩
/-- of the taken blocks none is anybody's -/
def Taken (φ : Pl) (M : Nat → Prop) (B : Nat → Blk) (U : Nat → Prop) : Prop := (∀ j, (B j).mut = true → ∀ z, φ j = some z → ¬ U z.1) ∧ ∀ b, U b → M b
theorem Taken.le {B' : Nat → Blk} {U : Nat → Prop} (h : Taken φ M B U) (hB : ∀ j, (B' j).mut = true → (B j).mut = true) : Taken φ M B' U := ⟨fun j hj => h.1 j (hB j hj), h.2⟩
theorem Taken.thin {M' : Nat → Prop} {U : Nat → Prop} (h : Taken φ M B U) (ht : Thin φ M B M' B') : Taken φ M' B' U := by
  refine ⟨fun j hj => h.1 j (ht.2 j hj), fun b hb => Classical.byContradiction fun hn => ?_⟩
  obtain ⟨j, hj, z, hz, rfl⟩ := ht.1 b (h.2 b hb) hn
  exact h.1 j hj z hz hb
theorem OwRep.le {lo : Nat} {U : Nat → Prop} {M' : Nat → Prop} {e : Ty} {l : List e.den} {v : Value} {b : Nat} (h : OwRep w M lo U e l v b) (hv : (view w M).Le (view w M')) (hM : M' b) : OwRep w M' lo U e l v b := by
  obtain ⟨o, c, el, fz, cap, h1, h2, h3, h4, h5, h6, h7, h8, h9, h10⟩ := h
  exact ⟨o, c, el, fz, cap, h1, h2, h3, h4, h5, h6.mono hv, h7, hM, h9, h10⟩
theorem ResRep.le {lo : Nat} {M' : Nat → Prop} (hv : (view w M).Le (view w M')) : ∀ {rs : List RTy} {x : denR rs} {vs : List Value} {U : Nat → Prop}, ResRep w M lo rs x vs U → (∀ b, M b → ¬ U b → lo ≤ b → M' b) → ResRep w M' lo rs x vs U
  | [], _, _, _, h, _ => h
  | .im t :: rs, x, vs, U, h, hM => by
    obtain ⟨cs, vs', h0, h1, h2⟩ := h
    exact ⟨cs, vs', h0, h1.mono hv, ResRep.le hv h2 hM⟩
  | .cl e :: rs, x, vs, U, h, hM => by
    obtain ⟨a, vs', h0, h1, h2⟩ := h
    exact ⟨a, vs', h0, h1.mono hv, ResRep.le hv h2 hM⟩
  | .ow e :: rs, x, vs, U, h, hM => by
    obtain ⟨v, vs', h0, h1⟩ := h
    refine ⟨v, vs', h0, ?_⟩
    rcases h1 with ⟨h1, h2, h3⟩ | ⟨b, h1, h2⟩
    · exact .inl ⟨h1, h2, ResRep.le hv h3 hM⟩
    · right
      refine ⟨b, h1.le hv ?_, ResRep.le hv h2 fun b' hb hu => hM b' hb fun hc => hu (.inl hc)⟩
      obtain ⟨o, c, el, fz, cap, _, _, _, _, _, _, _, h8, h9, h10⟩ := h1
      exact hM b h8 h10 h9
/-- a slice of the call's own, consumed -/
theorem take_own (hm : Mem K w0 φ M B w) (hK : ∀ b, K.k b ↔ b < w0.heap.size) {id : Nat} {e : Ty} {l : List e.den} (hB : B id = .ob e l) {off n : Nat} {v : Value} (hle : off + n ≤ l.length) (hr : RepOwn φ id e off n v) {U : Nat → Prop} (hU : Taken φ M B U) :
    Mem K w0 φ M (updB B id .gone) w ∧ Ext φ M B w φ M (updB B id .gone) w ∧
      ((cut l off n = [] ∧ (∃ a, v = .slice a 0 0) ∧ Taken φ M (updB B id .gone) U) ∨ ∃ b, OwRep w M w0.heap.size U e (cut l off n) v b ∧ Taken φ M (updB B id .gone) fun j => U j ∨ j = b) := by
  obtain ⟨m1, e1⟩ := hm.gone id
  refine ⟨m1, e1, ?_⟩
  have hmut : ∀ j, ((updB B id .gone) j).mut = true → j ≠ id ∧ (B j).mut = true := fun j hj => by
    by_cases h : j = id
    · subst h; rw [updB_same] at hj; cases hj
    · rw [updB_ne _ _ h] at hj; exact ⟨h, hj⟩
  have hbl := hm.blks id
  rw [hB] at hbl
  rcases hr with ⟨h1, a, h2⟩ | ⟨b, o, m, cap, h1, h2, h3, h4, h5⟩
  · left
    exact ⟨List.length_eq_zero_iff.1 (by rw [cut_length hle]; exact h1), ⟨a, h2⟩, hU.le fun j hj => (hmut j hj).2⟩
  · rcases hbl.2 with ⟨g1, _⟩ | ⟨b', o', c, el, fz, g1, g2, g3, g4, g5⟩
    · rw [g1] at h1; cases h1
    · rw [h1] at g1; cases g1
      right
      refine ⟨b, ⟨o + off * e.size, c, el, fz, cap, by rw [cut_length hle]; exact h2, by rw [cut_length hle]; exact h3, h4, by rw [Nat.add_mul] at h5; omega, g2, ⟨?_, fun i x hi => ?_⟩, g4, g5, ?_, hU.1 id (by rw [hB]; rfl) _ h1⟩, ⟨fun j hj z hz hc => ?_, fun j hj => hj.elim (hU.2 j) (fun h => h ▸ g5)⟩⟩
      · rw [cut_length hle]
        have := g3.1
        have h6 : (off + n) * e.size ≤ l.length * e.size := Nat.mul_le_mul_right _ hle
        rw [Nat.add_mul] at h6; omega
      · have hin := lget_lt hi
        rw [cut_length hle] at hin
        rw [cut_get hin] at hi
        have := g3.2 (off + i) x hi
        rwa [Nat.add_mul, ← Nat.add_assoc] at this
      · have := hm.own id (by rw [hB]; rfl) _ h1
        rw [hK] at this; simp only at this; omega
      · obtain ⟨hji, hjm⟩ := hmut j hj
        rcases hc with hc | hc
        · exact hU.1 j hjm z hz hc
        · exact hm.sep j id hji hjm (by rw [hB]; rfl) z _ hz h1 hc
theorem toR_go (hK : ∀ b, K.k b ↔ b < w0.heap.size) {r : RTy} {v : PV} {x : r.den} {u : Value} (h : (toR r v).go g B = some (x, B')) (hm : Mem K w0 φ M B w) (hr : RepP φ (view w M) B v u) {U : Nat → Prop} (hU : Taken φ M B U) :
    ∃ M' U', Mem K w0 φ M' B' w ∧ Ext φ M B w φ M' B' w ∧ Taken φ M' B' U' ∧ (∀ b, U b → U' b) ∧
      ∀ {rs : List RTy} {y : denR rs} {vs : List Value} {M'' : Nat → Prop}, (view w M').Le (view w M'') → (∀ b, U' b → M'' b) → ResRep w M'' w0.heap.size rs y vs U' → ResRep w M'' w0.heap.size (r :: rs) (x, y) (u :: vs) U := by
  cases r with
  | im t =>
    obtain ⟨cs, hu, M', m1, e1, t1, _, f1⟩ := toDM_P h hm hr
    exact ⟨M', U, m1, e1, hU.thin t1, fun _ h => h, fun hv _ hrest => ⟨cs, _, by rw [hu], (f1 rfl).mono hv, hrest⟩⟩
  | cl e =>
    replace h : (clP e v).go g B = some (x, B') := h
    cases v <;> try (cases h; done)
    · cases h
      simp only [RepP, RepQ, RepS] at hr; subst hr
      exact ⟨M, U, hm, Ext.refl _ _ _ _, hU, fun _ h => h, fun hv _ hrest => ⟨none, _, rfl, RepC.sl_iff.2 ⟨none, 0, rfl, Nat.le_refl _, by unfold maxLen; omega, .inl rfl⟩, hrest⟩⟩
    · obtain ⟨hc, rfl⟩ := opt_go h
      obtain ⟨ee, rfl⟩ := castL_some hc
      subst ee
      obtain ⟨a, rfl, hC⟩ := hr
      exact ⟨M, U, hm, Ext.refl _ _ _ _, hU, fun _ h => h, fun hv _ hrest => ⟨a, _, rfl, hC.mono hv, hrest⟩⟩
  | ow e =>
    replace h : (takeP e v).go g B = some (x, B') := h
    have fin : ∀ {id : Nat} {l : List e.den} {off n : Nat}, B id = .ob e l → off + n ≤ l.length → RepOwn φ id e off n u → ∃ M' U', Mem K w0 φ M' (updB B id .gone) w ∧ Ext φ M B w φ M' (updB B id .gone) w ∧ Taken φ M' (updB B id .gone) U' ∧ (∀ b, U b → U' b) ∧
        ∀ {rs : List RTy} {y : denR rs} {vs : List Value} {M'' : Nat → Prop}, (view w M').Le (view w M'') → (∀ b, U' b → M'' b) → ResRep w M'' w0.heap.size rs y vs U' → ResRep w M'' w0.heap.size (.ow e :: rs) ((cut l off n : List e.den), y) (u :: vs) U := by
      intro id l off n hB hle ho
      obtain ⟨m1, e1, h3⟩ := take_own hm hK hB hle ho hU
      rcases h3 with ⟨h3, h4, h5⟩ | ⟨b, h3, h5⟩
      · exact ⟨M, U, m1, e1, h5, fun _ h => h, fun hv _ hrest => ⟨_, _, rfl, .inl ⟨h3, h4, hrest⟩⟩⟩
      · exact ⟨M, _, m1, e1, h5, fun _ h => .inl h, fun hv hM hrest => ⟨_, _, rfl, .inr ⟨b, h3.le hv (hM b (.inr rfl)), hrest⟩⟩⟩
    cases v <;> try (cases h; done)
    case nil =>
      cases h
      simp only [RepP, RepQ, RepS] at hr; subst hr
      exact ⟨M, U, hm, Ext.refl _ _ _ _, hU, fun _ h => h, fun hv _ hrest => ⟨_, _, rfl, .inl ⟨rfl, ⟨none, rfl⟩, hrest⟩⟩⟩
    case own id ne =>
      simp only [takeP, PM.go] at h
      have hs : RepS φ (view w M) B (.own id ne) u := hr
      simp only [RepS] at hs
      generalize hB : B id = bl at h hs
      cases bl <;> try (cases h; done)
      rename_i e' l
      obtain ⟨y, B1, h1, h2⟩ := PM.go_bind_some h
      obtain ⟨hc, hB1⟩ := opt_go h1
      obtain ⟨ee, rfl⟩ := castL_some hc
      subst ee
      cases h2
      rw [hB1]
      have := fin hB (off := 0) (n := l.length) (by omega) hs.1
      rw [cut_all] at this
      exact this
    case osl id off n =>
      simp only [takeP, PM.go] at h
      have hs : RepS φ (view w M) B (.osl id off n) u := hr
      simp only [RepS] at hs
      generalize hB : B id = bl at h hs
      cases bl <;> try (cases h; done)
      rename_i e' l
      obtain ⟨y, B1, h1, h2⟩ := PM.go_bind_some h
      obtain ⟨hc, hB1⟩ := opt_go h1
      obtain ⟨ee, rfl⟩ := castL_some hc
      subst ee
      cases h2
      rw [hB1]
      exact fin hB hs.1 hs.2
theorem rets_go (hK : ∀ b, K.k b ↔ b < w0.heap.size) : ∀ {rs : List RTy} {vs : List PV} {us : List Value} {s : St} {M : Nat → Prop} {ρ : Type} {k : denR rs → R ρ} {r : ρ} {U : Nat → Prop}, ((rets s rs vs).bind k).ev = some r →
    Mem K w0 φ M s.getB w → PVs φ (view w M) s.getB vs us → Taken φ M s.getB U → ∃ x M' B', (k x).ev = some r ∧ Mem K w0 φ M' B' w ∧ (view w M).Le (view w M') ∧ (∀ b, U b → M' b) ∧ ResRep w M' w0.heap.size rs x us U
  | [], [], [], s, M, ρ, k, r, U, h, hm, _, hU => ⟨(), M, _, h, hm, View.Le.refl _, hU.2, rfl⟩
  | [], [], _ :: _, s, M, ρ, k, r, U, h, hm, hp, hU => hp.elim
  | [], _ :: _, _, s, M, ρ, k, r, U, h, hm, hp, hU => by cases h
  | _ :: _, [], _, s, M, ρ, k, r, U, h, hm, hp, hU => by cases h
  | _ :: _, _ :: _, [], s, M, ρ, k, r, U, h, hm, hp, hU => hp.elim
  | t :: rs, v :: vs, u :: us, s, M, ρ, k, r, U, h, hm, hp, hU => by
    simp only [rets] at h
    rw [R.bind_assoc] at h
    obtain ⟨x, wr, h1, h2⟩ := here_ev h
    simp only at h2
    rw [R.bind_assoc] at h2
    obtain ⟨M1, U1, m1, e1, t1, hle, hres⟩ := toR_go hK h1 hm hp.1 hU
    rw [← St.getB_sets] at m1 e1 t1
    obtain ⟨y, M2, B2, q1, q2, q3, q4, q5⟩ := rets_go hK h2 m1 (hp.2.ext e1) t1
    exact ⟨(x, y), M2, B2, q1, q2, e1.vw.trans q3, fun b hb => q4 b (hle b hb), hres q3 q4 q5⟩
/-- the results' values -/
def resRun (P : Program) (tmps : Array Value) (w : World) : List ResultVar → List Value → Prop
  | [], us => us = []
  | .tmp t :: rs, us => ∃ us', us = tmps.getD t undef :: us' ∧ resRun P tmps w rs us'
  | .cell a t :: rs, us => ∃ ad u us', us = u :: us' ∧ tmps.getD a undef = .pointer (some ad) ∧ (loadVar t ad).run P w = .ok u w ∧ resRun P tmps w rs us'
theorem resV_go (hT : tabOK P E.T) : ∀ {l : List ResultVar} {s : St} {ρ : Type} {k : List PV → R ρ} {r : ρ} {a : Act}, ((resV E s l).bind k).ev = some r → Mem K w0 φ M s.getB w → Slots φ (view w M) s.getB s.getT a →
    ∃ vs us, (k vs).ev = some r ∧ PVs φ (view w M) s.getB vs us ∧ resRun P a.tmps w l us
  | [], s, ρ, k, r, a, h, hm, hs => ⟨[], [], h, trivial, rfl⟩
  | rv :: l, s, ρ, k, r, a, h, hm, hs => by
    simp only [resV] at h
    rw [R.bind_assoc] at h
    obtain ⟨v, wr, h1, h2⟩ := here_ev h
    simp only at h2
    rw [R.bind_assoc] at h2
    have hTT : (s.setBs wr).getT = s.getT := St.setBs_T s wr
    cases rv with
    | tmp t =>
      simp only [resD, PM.go, Option.some.injEq, Prod.mk.injEq] at h1
      obtain ⟨rfl, hB⟩ := h1
      obtain ⟨vs, us, h3, h4, h5⟩ := resV_go hT h2 hm hs
      exact ⟨s.getT t :: vs, a.tmps.getD t undef :: us, h3, ⟨hs t, h4⟩, us, rfl, h5⟩
    | cell ad t =>
      simp only [resD] at h1
      obtain ⟨ty, ht, h1⟩ := opt_bind h1
      simp only [PM.go] at h1
      have hp := hs ad
      obtain ⟨hB, u, g1, g2⟩ := ldo_go (hT _ _ ht) h1 hm hp
      obtain ⟨vs, us, h3, h4, h5⟩ := resV_go hT h2 hm hs
      have hptr : ∃ q, a.tmps.getD ad undef = .pointer (some q) := by
        generalize s.getT ad = pv at h1 hp
        cases pv <;> try (cases h1; done)
        case ptr id p =>
          simp only [loadP, PM.go] at h1
          have hp : RepS φ (view w M) s.getB (.ptr id p) (a.tmps.getD ad undef) := hp
          simp only [RepS] at hp
          generalize s.getB id = bl at h1 hp
          cases bl <;> try (cases h1; done)
          obtain ⟨b, o, n, off, t', _, _, e⟩ := hp; exact ⟨_, e⟩
        case opt id i p =>
          simp only [loadP, PM.go] at h1
          have hp : RepS φ (view w M) s.getB (.opt id i p) (a.tmps.getD ad undef) := hp
          simp only [RepS] at hp
          generalize s.getB id = bl at h1 hp
          cases bl <;> try (cases h1; done)
          all_goals
            obtain ⟨_, b, o, n, off, t', _, _, e⟩ := hp; exact ⟨_, e⟩
        case ipt e l i p =>
          obtain ⟨_, b, o, n, off, t', _, _, e⟩ := hp; exact ⟨_, e⟩
      obtain ⟨q, hq⟩ := hptr
      rw [hq] at g1
      refine ⟨v :: vs, u :: us, h3, ⟨g2, h4⟩, q, u, us, rfl, hq, ?_, h5⟩
      simpa [Instr.loadAt, Instr.sureAddr] using g1
theorem results_go {fn : Func} {tmps : Array Value} {us : List Value} (h : resRun P tmps w fn.results.toList us) : (results fn tmps).run P w = .ok (vrOf us) w := by
  have key : ∀ (f : ResultVar → Sem Value), (∀ t, f (.tmp t) = pure (tmps.getD t undef)) → (∀ a t, f (.cell a t) = do loadVar t (← asAddr (tmps.getD a undef))) →
      ∀ (l : List ResultVar) (us : List Value), resRun P tmps w l us → (l.mapM f).run P w = Result.ok us w := by
    intro f f1 f2 l
    induction l with
    | nil => intro us h; cases h; rfl
    | cons rv l ih =>
      intro us h
      cases rv with
      | tmp t =>
        obtain ⟨us', rfl, h⟩ := h
        simp [List.mapM_cons, ih us' h, f1]
      | cell a t =>
        obtain ⟨ad, u, us', rfl, h1, h2, h3⟩ := h
        simp only [List.mapM_cons, f2, h1, asAddr]
        simp [ih us' h3, h2]
  unfold results
  rw [Array.mapM_eq_mapM_toList]
  simp only [Sem.run_bind, Sem.run_map]
  rw [key _ (fun _ => rfl) (fun _ _ => rfl) _ _ h]
  match us with
  | [] => rfl
  | [_] => rfl
  | _ :: _ :: _ => rfl
end
end Yp
