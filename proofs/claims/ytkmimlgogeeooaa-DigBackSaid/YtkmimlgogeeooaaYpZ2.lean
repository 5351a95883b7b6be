/- The engine, part Z2: a function does what its model says. -/
import Derived.Test.YtkmimlgogeeooaaYpZ
set_option linter.unusedVariables false
set_option linter.unusedSimpArgs false
namespace Yp
open Go
variable {P : Program}
theorem fillU_spec : ∀ (n i : Nat) (s : St), ∃ s' : St, s'.h = s.h ∧ s'.w = s.w ∧ (∀ (γ : Type 1) (k : Tr → γ), fillU n i s.t k = k s'.t) ∧ (∀ j, s'.getT j = s.getT j ∨ (i ≤ j ∧ (s'.getT j = .undef ∨ s'.getT j = .bad)))
  | 0, i, s => ⟨s, rfl, rfl, fun _ _ => rfl, fun _ => .inl rfl⟩
  | n + 1, i, s => by
    obtain ⟨s', h1, h2, h3, h4⟩ := fillU_spec n (i + 1) (s.setT i .undef)
    refine ⟨s', h1, h2, fun γ k => ?_, fun j => ?_⟩
    · simp only [fillU, setF_eq]; exact h3 γ k
    · rcases h4 j with h | ⟨h, h'⟩
      · by_cases hj : j = i
        · subst hj
          right; refine ⟨Nat.le_refl _, ?_⟩
          rw [h]; exact s.getT_same j .undef
        · left; rw [h, s.getT_ne _ hj]
      · exact .inr ⟨by omega, h'⟩
theorem fill_spec (n : Nat) : ∀ (vs : List PV) (i : Nat) (s : St), ∃ s' : St, s'.h = s.h ∧ s'.w = s.w ∧ (∀ (γ : Type 1) (k : Tr → γ), fill n vs i s.t k = k s'.t) ∧
    ∀ j, s'.getT j = s.getT j ∨ (∃ v, i ≤ j ∧ vs[j - i]? = some v ∧ (s'.getT j = v ∨ s'.getT j = .bad)) ∨ (i + vs.length ≤ j ∧ (s'.getT j = .undef ∨ s'.getT j = .bad))
  | [], i, s => by
    obtain ⟨s', h1, h2, h3, h4⟩ := fillU_spec (n - i) i s
    exact ⟨s', h1, h2, h3, fun j => (h4 j).imp id fun h => .inr ⟨by simpa using h.1, h.2⟩⟩
  | v :: vs, i, s => by
    obtain ⟨s', h1, h2, h3, h4⟩ := fill_spec n vs (i + 1) (s.setT i v)
    refine ⟨s', h1, h2, fun γ k => ?_, fun j => ?_⟩
    · simp only [fill, fP_eq, setF_eq]; exact h3 γ k
    · rcases h4 j with h | ⟨u, hj, h, h'⟩ | ⟨h, h'⟩
      · by_cases hj : j = i
        · subst hj
          right; left
          refine ⟨v, Nat.le_refl _, by simp, ?_⟩
          rw [h]; exact s.getT_same j v
        · left; rw [h, s.getT_ne _ hj]
      · right; left
        refine ⟨u, by omega, ?_, h'⟩
        rw [show j - i = (j - (i + 1)) + 1 by omega, List.getElem?_cons_succ]; exact h
      · right; right
        exact ⟨by simp only [List.length_cons]; omega, h'⟩
theorem args_get {H : View} {φ : Pl} {B : Nat → Blk} : ∀ {ts : List Ty} {x : denL ts} {vs : List Value}, ArgsRep H ts x vs → (argsPV ts x).length = vs.length ∧ ∀ (j : Nat) (p : PV), (argsPV ts x)[j]? = some p → ∃ v : Value, vs[j]? = some v ∧ RepP φ H B p v
  | [], x, vs, h => by have h : vs = [] := h; subst h; exact ⟨rfl, fun j p h => by simp [argsPV] at h⟩
  | t :: ts, x, vs, h => by
    obtain ⟨cs, vs', rfl, h1, h2⟩ := h
    obtain ⟨g1, g2⟩ := args_get (φ := φ) (B := B) h2
    refine ⟨by simp [argsPV, g1], fun j p hj => ?_⟩
    cases j with
    | zero =>
      simp only [argsPV, List.getElem?_cons_zero, Option.some.injEq] at hj
      subst hj
      exact ⟨_, rfl, cs, h1, rfl⟩
    | succ j =>
      simp only [argsPV, List.getElem?_cons_succ] at hj
      obtain ⟨v, h3, h4⟩ := g2 j p hj
      exact ⟨v, by simpa using h3, h4⟩
theorem model_go {E : Env} (hT : tabOK P E.T) (hG : ∀ f s, E.G f = some s → FOK P f s) (hmix : P.follows .mixedOrders = true) {f : Nat} {fn : Func} (hf : P.funcs[f]? = some fn) (hname : (fn.name == "runtime.NumGoroutine") = false)
    (nv : Nat) (ts : List Ty) (rs : List RTy) (hb : fn.body.isSome = true) : FOK P f ⟨ts, rs, model E fn nv ts rs⟩ := by
  refine ⟨⟨fn, hf, hb, hname⟩, ?_⟩
  intro w X x vs r hX hargs hmod
  have hmod : model E fn nv ts rs x = some r := hmod
  unfold model at hmod
  cases hbody : fn.body with
  | none => rw [hbody] at hb; cases hb
  | some c =>
    rw [hbody] at hmod
    simp only at hmod
    cases hle : Nat.ble fn.ntmps 1000000 with
    | false => rw [hle] at hmod; cases hmod
    | true =>
      rw [hle] at hmod
      simp only [Bool.not_true, cond_false] at hmod
      have hnt : fn.ntmps ≤ 1000000 := by simpa using hle
      obtain ⟨s, h1, h2, h3, h4⟩ := fill_spec fn.ntmps (argsPV ts x) 0 ⟨.e, [], []⟩
      rw [h3] at hmod
      have hs : (⟨s.t, [], []⟩ : St) = s := by cases s; simp only at h1 h2; rw [h1, h2]
      rw [hs] at hmod
      refine calls_of_wp hf hbody ?_
      let K : Kp := ⟨fun b => b < w.heap.size, X⟩
      have hB : s.getB = fun _ => Blk.new := by funext j; unfold St.getB; rw [h1]; rfl
      have hm : Mem K w (fun _ => none) X s.getB w := by
        rw [hB]
        exact ⟨rfl, rfl, rfl, Nat.le_refl _, fun _ _ => rfl, fun _ h => h, fun _ _ => Iff.rfl, (fun _ h => by cases h), hX, fun _ => trivial, (fun _ _ _ h => by cases h)⟩
      obtain ⟨g1, g2⟩ := args_get (φ := fun _ => none) (B := s.getB) hargs
      have hslots : Slots (fun _ => none) (view w X) s.getB s.getT { tmps := vs.toArray ++ Array.replicate (fn.ntmps - vs.toArray.size) undef, defers := [] } := by
        intro j
        have hbad : (⟨.e, [], []⟩ : St).getT j = .bad := Tr.get_e 40 j
        rcases h4 j with h | ⟨p, _, h, h'⟩ | ⟨h, h'⟩
        · rw [h, hbad]; trivial
        · rcases h' with h' | h' <;> rw [h']
          · obtain ⟨v, hv, hr⟩ := g2 j p (by simpa using h)
            have hlt : j < vs.length := (List.getElem?_eq_some_iff.1 hv).1
            have : (vs.toArray ++ Array.replicate (fn.ntmps - vs.toArray.size) undef).getD j undef = v := by
              rw [Array.getD_eq_getD_getElem?, Array.getElem?_append_left (by simpa using hlt)]
              simp [hv]
            show RepP _ _ _ p ((vs.toArray ++ Array.replicate (fn.ntmps - vs.toArray.size) undef).getD j undef)
            rw [this]; exact hr
          · trivial
        · rcases h' with h' | h' <;> rw [h']
          · have hlt : vs.length ≤ j := by rw [g1] at h; simpa using h
            have : (vs.toArray ++ Array.replicate (fn.ntmps - vs.toArray.size) undef).getD j undef = undef := by
              rw [Array.getD_eq_getD_getElem?, Array.getElem?_append_right (by simpa using hlt)]
              by_cases hj : j - vs.toArray.size < fn.ntmps - vs.toArray.size
              · rw [Array.getElem?_replicate, if_pos hj]; rfl
              · rw [Array.getElem?_replicate, if_neg hj]; rfl
            exact this
          · trivial
      have hsize : fn.ntmps ≤ (vs.toArray ++ Array.replicate (fn.ntmps - vs.toArray.size) undef).size := by simp; omega
      refine run_go (P := P) (w0 := w) (K := K) hT hG hmix (fun b => Iff.rfl) hnt c s (denR rs) _ r hmod (fun _ => none) X w _ hm hslots hsize _ (fun s2 φ' M' w' a' hk hn => ?_) (fun id s2 φ' M' w' a' hk hn => by cases hk) (fun y w' a' hk hd hu => ?_)
      · obtain ⟨vs2, us, q1, q2, q3⟩ := resV_go hT hk hn.mem hn.slots
        have q1' : ((rets s2 rs vs2).bind R.leaf).ev = some r := by rw [bind_leaf]; exact q1
        obtain ⟨y, M2, B2, q4, m1, v1, _, rr⟩ := rets_go (K := K) (w0 := w) (fun b => Iff.rfl) q1' hn.mem q2 (U := fun _ => False) ⟨fun _ _ _ _ h => h, fun _ h => h.elim⟩
        cases q4
        exact ⟨hn.keep.2.1, vrOf us, results_go q3, vrOf us, rfl, M2, m1.os, m1.tape, m1.output, m1.size, fun b hb => m1.keep b hb, fun b hb => m1.hid b hb, m1.mlt, us, rr, rfl⟩
      · cases hk
        obtain ⟨us, q1, q2⟩ := hu
        exact ⟨hd, vrOf us, results_go q1, vrOf us, rfl, q2⟩
/-- the contracts of a list of functions, each proved out of the ones ahead -/
theorem lookG_nil (f : Nat) (s : FSpec) : lookG [] f = some s → FOK P f s := fun h => by cases h
theorem lookG_cons {l : List (Nat × FSpec)} (h : ∀ f s, lookG l f = some s → FOK P f s) {f0 : Nat} {s0 : FSpec} (h0 : FOK P f0 s0) : ∀ f s, lookG ((f0, s0) :: l) f = some s → FOK P f s := by
  intro f s hs
  simp only [lookG] at hs
  cases hb : Nat.beq f0 f with
  | true => rw [hb] at hs; cases hs; rw [← Nat.eq_of_beq_eq_true hb]; exact h0
  | false => rw [hb] at hs; exact h f s hs
theorem FOK.congr {f : Nat} {ts : List Ty} {rs : List RTy} {m m' : denL ts → Option (denR rs)} (h : FOK P f ⟨ts, rs, m⟩) (he : ∀ x, m x = m' x) : FOK P f ⟨ts, rs, m'⟩ := by
  have : m = m' := funext he
  rw [← this]; exact h
end Yp
