/- The engine, part X2: what happens in a region, in the text's order. -/
import Derived.Test.YtkmimlgogeeooaaYpX
set_option linter.unusedVariables false
set_option linter.unusedSimpArgs false
namespace Yp
open Go
structure Ev where
  i : Nat
  o : Oper
  v : PV
  rb : List Nat
  wr : List (Nat × Blk)
def putT (g : Nat → PV) (dst : Option Nat) (v : PV) : Nat → PV := match dst with | some d => updT g d v | none => g
def putS (s : St) (dst : Option Nat) (v : PV) : St := match dst with | some d => s.setT d v | none => s
def stT : List Ev → (Nat → Bool) → (Nat → PV) → Nat → PV
  | [], _, g => g
  | e :: tr, L, g => stT tr L (bif L e.i then putT g e.o.dst e.v else g)
def stB : List Ev → (Nat → Bool) → (Nat → Blk) → Nat → Blk
  | [], _, B => B
  | e :: tr, L, B => stB tr L (bif L e.i then overW B e.wr else B)
def Wants (ops : List Oper) (o : Oper) (g : Nat → PV) : Prop := o.guard = none ∨ ∃ j want d, o.guard = some (j, want) ∧ (ops[j]?).bind (·.dst) = some d ∧ g d = .kb want
def Skips (ops : List Oper) (o : Oper) (g : Nat → PV) : Prop := ∃ j want d, o.guard = some (j, want) ∧ (ops[j]?).bind (·.dst) = some d ∧ (g d = .kb (!want) ∨ g d = .undef)
/-- as what a value is laid down -/
def Same (v0 v : PV) : Prop := v = v0 ∨ ∃ c, v0 = .sc .bool c ∧ v = .kb c
def EvOK (E : Env) (ops : List Oper) (nt : Nat) (draw : Bool) (g : Nat → PV) (B : Nat → Blk) (e : Ev) : Prop :=
  (∀ d, e.o.dst = some d → d < nt) ∧
  ((Wants ops e.o g ∧ ∃ v0, Same v0 e.v ∧ (opP E e.o).go g B = some (v0, overW B e.wr) ∧
      (draw = true → ∀ g2 B2, (∀ t, Nat.testBit (readsOf ops e.o) t = true → g2 t = g t) → (∀ id, id ∈ e.rb → B2 id = B id) → (opP E e.o).go g2 B2 = some (v0, overW B2 e.wr))) ∨
   (Skips ops e.o g ∧ e.v = .undef ∧ e.wr = [] ∧ e.rb = []))
def Valid (E : Env) (ops : List Oper) (nt : Nat) (draw : Bool) : List Ev → (Nat → PV) → (Nat → Blk) → Prop
  | [], _, _ => True
  | e :: tr, g, B => EvOK E ops nt draw g B e ∧ Valid E ops nt draw tr (putT g e.o.dst e.v) (overW B e.wr)
def feet : List Ev → List Foot
  | [] => []
  | e :: tr => (match e.rb, e.wr with | [], [] => feet tr | _, _ => ⟨e.i, e.rb, e.wr.map (·.1)⟩ :: feet tr)
/-- the trees' runs: an operation sees no more than it tells -/
theorem PM.run_loc {α β : Type} (s : St) (m : PM α) : ∀ (qt : Nat) (qb : List Nat) (wr : List (Nat × Blk)) (k : α × Eff → R β) (r : β), ((m.run s qt qb wr).bind k).ev = some r →
    ∃ a e, (k (a, e)).ev = some r ∧ m.go s.getT (overW s.getB wr) = some (a, overW s.getB e.wr) ∧
      (∀ g2 B2, (∀ t, Nat.testBit e.rt t = true → g2 t = s.getT t) → (∀ id, id ∈ e.rb → B2 id = s.getB id) → m.go g2 (overW B2 wr) = some (a, overW B2 e.wr)) ∧
      (∀ t, Nat.testBit qt t = true → Nat.testBit e.rt t = true) ∧ (∀ id, id ∈ qb → id ∈ e.rb) := by
  induction m with
  | fail => intro qt qb wr k r h; cases h
  | ret a => intro qt qb wr k r h; exact ⟨a, _, h, rfl, fun _ _ _ _ => rfl, fun _ h => h, fun _ h => h⟩
  | chk c m ih =>
    intro qt qb wr k r h
    simp only [PM.run, R.bind, R.ev, ck, PM.go] at h ⊢
    cases c with
    | true => simpa using ih qt qb wr k r h
    | false => cases h
  | br c x y hx hy =>
    intro qt qb wr k r h
    simp only [PM.run, R.bind, R.ev, sel, PM.go] at h ⊢
    cases c with
    | true => simpa using hx qt qb wr k r h
    | false => simpa using hy qt qb wr k r h
  | bo d o m ih =>
    intro qt qb wr k r h
    cases o with
    | some a => exact ih a qt qb wr k r h
    | none => cases h
  | rt i m ih =>
    intro qt qb wr k r h
    obtain ⟨a, e, h1, h2, h3, h4, h5⟩ := ih (s.getT i) (qt ||| 2 ^ i) qb wr k r h
    have hi : Nat.testBit e.rt i = true := h4 i (by simp [Nat.testBit_or])
    refine ⟨a, e, h1, h2, fun g2 B2 hg hb => ?_, fun t ht => h4 t (by simp [Nat.testBit_or, ht]), h5⟩
    simp only [PM.go]
    rw [hg i hi]
    exact h3 g2 B2 hg hb
  | rb i m ih =>
    intro qt qb wr k r h
    obtain ⟨a, e, h1, h2, h3, h4, h5⟩ := ih (lookW wr i (s.getB i)) qt (i :: qb) wr k r h
    have hi : i ∈ e.rb := h5 i (by simp)
    refine ⟨a, e, h1, h2, fun g2 B2 hg hb => ?_, h4, fun id hid => h5 id (by simp [hid])⟩
    simp only [PM.go]
    have : overW B2 wr i = lookW wr i (s.getB i) := by unfold overW; rw [hb i hi]
    rw [this]
    exact h3 g2 B2 hg hb
  | wb i b m ih =>
    intro qt qb wr k r h
    obtain ⟨a, e, h1, h2, h3, h4, h5⟩ := ih qt qb ((i, b) :: wr) k r h
    refine ⟨a, e, h1, ?_, fun g2 B2 hg hb => ?_, h4, h5⟩
    · simp only [PM.go]; rw [← overW_cons]; exact h2
    · simp only [PM.go]; rw [← overW_cons]; exact h3 g2 B2 hg hb
theorem setD_ev {α β : Type} {nt : Nat} {dst : Option Nat} {s : St} {v : PV} {k0 : St → R α} {k : α → R β} {r : β} (h : ((setD nt dst s v k0).bind k).ev = some r) :
    (∀ d, dst = some d → d < nt) ∧ ((k0 (putS s dst v)).bind k).ev = some r := by
  cases dst with
  | none => exact ⟨fun d h => by (cases h), h⟩
  | some d =>
    simp only [setD] at h
    cases hd : Nat.blt d nt with
    | false => rw [hd] at h; cases h
    | true =>
      rw [hd, cond_true, St.setTF_eq] at h
      exact ⟨fun d' h' => by cases h'; simpa using hd, h⟩
theorem putS_T {s : St} {dst : Option Nat} {v : PV} {nt : Nat} (hnt : nt ≤ 1000000) (hd : ∀ d, dst = some d → d < nt) : (putS s dst v).getT = putT s.getT dst v := by
  cases dst with
  | none => rfl
  | some d => exact s.getT_set v (Nat.lt_of_lt_of_le (hd d rfl) hnt)
theorem putS_B {s : St} {dst : Option Nat} {v : PV} : (putS s dst v).getB = s.getB := by cases dst <;> rfl
theorem putS_w {s : St} {dst : Option Nat} {v : PV} : (putS s dst v).w = s.w := by cases dst <;> rfl
theorem putS_Fr {s : St} {dst : Option Nat} {v : PV} {D : List Nat} (h : ∀ d, dst = some d → d ∈ D) : Fr D s (putS s dst v) := by
  cases dst with
  | none => exact Fr.refl D s
  | some d => exact Fr.setT d v (h d rfl)
theorem guard_ev {ρ : Type} {ops : List Oper} {o : Oper} {s : St} {exec skip : R St} {k : St → R ρ} {r : ρ} (h : ((guardK ops o s exec skip).bind k).ev = some r) :
    (Wants ops o s.getT ∧ (exec.bind k).ev = some r) ∨ (Skips ops o s.getT ∧ (skip.bind k).ev = some r) := by
  unfold guardK at h
  cases hg : o.guard with
  | none => rw [hg] at h; exact .inl ⟨.inl hg, h⟩
  | some jw =>
    obtain ⟨j, want⟩ := jw
    rw [hg] at h
    simp only at h
    cases hd : (ops[j]?).bind (·.dst) with
    | none => rw [hd] at h; cases h
    | some g =>
      rw [hd] at h
      simp only at h
      cases hv : s.getT g <;> rw [hv] at h <;> try (cases h; done)
      · exact .inr ⟨⟨j, want, g, hg, hd, .inr hv⟩, h⟩
      · rename_i b
        cases b <;> cases want
        · exact .inl ⟨.inr ⟨j, _, g, hg, hd, hv⟩, h⟩
        · exact .inr ⟨⟨j, _, g, hg, hd, .inl hv⟩, h⟩
        · exact .inr ⟨⟨j, _, g, hg, hd, .inl hv⟩, h⟩
        · exact .inl ⟨.inr ⟨j, _, g, hg, hd, hv⟩, h⟩
theorem dsts_cons (o : Oper) (rest : List Oper) : (∀ d, o.dst = some d → d ∈ dsts (o :: rest)) ∧ ∀ t, t ∈ dsts rest → t ∈ dsts (o :: rest) := by
  cases hd : o.dst with
  | none =>
    have e : dsts (o :: rest) = dsts rest := by simp only [dsts, hd]
    exact ⟨fun d h => by (cases h), fun t h => by rw [e]; exact h⟩
  | some d =>
    have e : dsts (o :: rest) = d :: dsts rest := by simp only [dsts, hd]
    exact ⟨fun d' h => by cases h; rw [e]; exact List.mem_cons_self, fun t h => by rw [e]; exact List.mem_cons_of_mem _ h⟩
theorem bval_some {v : PV} {c : Bool} (h : bval v = some c) : v = .sc .bool c := by
  unfold bval at h
  split at h
  · cases h; rfl
  · cases h
/-- what a region's run comes to -/
def RunsTo (E : Env) (ops : List Oper) (nt : Nat) (draw : Bool) (i : Nat) (l : List Oper) (s : St) (fp : List Foot) (s2 : St) : Prop :=
  ∃ (tr : List Ev) (s1 : St), tr.map (·.i) = List.range' i l.length ∧ tr.map (·.o) = l ∧ Valid E ops nt draw tr s.getT s.getB ∧ s1.getT = stT tr (fun _ => true) s.getT ∧ s1.getB = stB tr (fun _ => true) s.getB ∧
    Weak s1 s2 ∧ Fr (dsts l) s s2 ∧ (draw = true → regOK ops = true ∧ ordOK (beforeL ops []) (fp.reverse ++ feet tr) = true)
theorem footOf_feet {e : Ev} {tr : List Ev} {fp : List Foot} {b : List Nat} (h : ordOK b ((footOf true e.i e.rb e.wr fp).reverse ++ feet tr) = true) : ordOK b (fp.reverse ++ feet (e :: tr)) = true := by
  cases hr : e.rb <;> cases hw : e.wr <;> simp only [footOf, hr, hw, cond, feet, List.reverse_cons, List.append_assoc, List.singleton_append] at h ⊢ <;> exact h
theorem runsTo_cons {E : Env} {ops : List Oper} {nt : Nat} {draw : Bool} {i : Nat} {o : Oper} {rest : List Oper} {s sx : St} {fp fp' : List Foot} {s2 : St} {e : Ev} (hnt : nt ≤ 1000000) (hi : e.i = i) (ho : e.o = o) (hev : EvOK E ops nt draw s.getT s.getB e)
    (hT : sx.getT = putT s.getT o.dst e.v) (hB : sx.getB = overW s.getB e.wr) (hF : Fr (dsts (o :: rest)) s sx)
    (hfp : draw = true → ∀ (b : List Nat) (tr : List Ev), ordOK b (fp'.reverse ++ feet tr) = true → ordOK b (fp.reverse ++ feet (e :: tr)) = true) (h : RunsTo E ops nt draw (i + 1) rest sx fp' s2) : RunsTo E ops nt draw i (o :: rest) s fp s2 := by
  obtain ⟨tr, s1, h1, h2, h3, h4, h5, h6, h7, h8⟩ := h
  have hd := dsts_cons o rest
  refine ⟨e :: tr, s1, ?_, ?_, ⟨hev, ?_⟩, ?_, ?_, h6, hF.sub h7 (fun t h => h) hd.2, fun hdr => ⟨(h8 hdr).1, hfp hdr _ tr (h8 hdr).2⟩⟩
  · simp only [List.map_cons, hi, h1, List.length_cons, List.range'_succ]
  · simp only [List.map_cons, ho, h2]
  · rw [ho, ← hT, ← hB]; exact h3
  · simp only [stT, cond, ho, ← hT]; exact h4
  · simp only [stB, cond, ← hB]; exact h5
theorem runOps_tr {E : Env} {ops : List Oper} {nv nt : Nat} {draw : Bool} (hnt : nt ≤ 1000000) : ∀ (l : List Oper) (top : Bool) (i : Nat) (s : St) (fp : List Foot) {ρ : Type} (k : St → R ρ) (r : ρ),
    ((runOps E ops nv nt draw top i l s fp).bind k).ev = some r → ∃ s2, RunsTo E ops nt draw i l s fp s2 ∧ (k s2).ev = some r := by
  intro l
  induction l with
  | nil =>
    intro top i s fp ρ k r h
    simp only [runOps] at h
    cases hc : (!draw || (regOK ops && ordOK (beforeL ops []) fp.reverse)) with
    | false => rw [hc] at h; cases h
    | true =>
      rw [hc] at h
      refine ⟨s, ⟨[], s, rfl, rfl, trivial, rfl, rfl, Weak.refl s, Fr.refl _ s, fun hd => ?_⟩, h⟩
      subst hd
      simp only [Bool.not_true, Bool.false_or, Bool.and_eq_true] at hc
      exact ⟨hc.1, by simpa [feet] using hc.2⟩
  | cons o rest ih =>
    intro top i s fp ρ k r h
    have hd := dsts_cons o rest
    simp only [runOps] at h
    rcases guard_ev h with ⟨hw, h⟩ | ⟨hw, h⟩
    · rw [R.bind_assoc] at h
      obtain ⟨v, ef, h, hgo, hloc, _, _⟩ := PM.run_loc s (opP E o) 0 [] [] _ r h
      simp only [St.setBsF_eq, fP_eq] at h
      have hgo : (opP E o).go s.getT s.getB = some (v, overW s.getB ef.wr) := hgo
      cases hrd : (draw && !(Nat.beq (ef.rt ||| readsOf ops o) (readsOf ops o))) with
      | true => rw [hrd] at h; cases h
      | false =>
        rw [hrd, cond_false] at h
        have hsub : draw = true → ∀ t, Nat.testBit ef.rt t = true → Nat.testBit (readsOf ops o) t = true := by
          intro hdr t ht
          subst hdr
          simp only [Bool.true_and, Bool.not_eq_false'] at hrd
          have := Nat.eq_of_beq_eq_true hrd
          rw [← this]; simp [Nat.testBit_or, ht]
        have hloc' : draw = true → ∀ g2 B2, (∀ t, Nat.testBit (readsOf ops o) t = true → g2 t = s.getT t) → (∀ id, id ∈ ef.rb → B2 id = s.getB id) → (opP E o).go g2 B2 = some (v, overW B2 ef.wr) :=
          fun hdr g2 B2 hg hb => hloc g2 B2 (fun t ht => hg t (hsub hdr t ht)) hb
        have evok : ∀ v', Same v v' → (∀ d, o.dst = some d → d < nt) → EvOK E ops nt draw s.getT s.getB ⟨i, o, v', ef.rb, ef.wr⟩ := fun v' hs hdn => ⟨hdn, .inl ⟨hw, v, hs, hgo, hloc'⟩⟩
        have hsT : (s.setBs ef.wr).getT = s.getT := St.setBs_T s _
        have hsB : (s.setBs ef.wr).getB = overW s.getB ef.wr := St.getB_sets s _
        have foot : ∀ v', draw = true → ∀ (b : List Nat) (tr : List Ev), ordOK b ((footOf draw i ef.rb ef.wr fp).reverse ++ feet tr) = true → ordOK b (fp.reverse ++ feet (⟨i, o, v', ef.rb, ef.wr⟩ :: tr)) = true := by
          intro v' hdr b tr h
          subst hdr
          exact footOf_feet (e := ⟨i, o, v', ef.rb, ef.wr⟩) h
        -- one way on
        have way : ∀ (v' : PV) (top' : Bool) {ρ : Type} (k : St → R ρ) (r : ρ), Same v v' → ((setD nt o.dst (s.setBs ef.wr) v' fun s => runOps E ops nv nt draw top' (i + 1) rest s (footOf draw i ef.rb ef.wr fp)).bind k).ev = some r →
            ∃ s2, RunsTo E ops nt draw i (o :: rest) s fp s2 ∧ (k s2).ev = some r ∧ Fr (dsts rest) (putS (s.setBs ef.wr) o.dst v') s2 ∧ (∀ d, o.dst = some d → d < nt) := by
          intro v' top' ρ k r hs h
          obtain ⟨hdn, h⟩ := setD_ev h
          obtain ⟨s2, hr, hk⟩ := ih top' (i + 1) _ _ k r h
          refine ⟨s2, runsTo_cons hnt rfl rfl (evok v' hs hdn) ?_ ?_ ?_ (foot v') hr, hk, ?_, hdn⟩
          · rw [putS_T hnt hdn, hsT]
          · rw [putS_B, hsB]
          · exact (Fr.setBs ef.wr _).sub (putS_Fr hd.1) (fun t h => h) (fun t h => h)
          · obtain ⟨tr, s1, _, _, _, _, _, _, h7, _⟩ := hr; exact h7
        cases hg : (Nat.testBit (gmask ops) i && (bval v).isSome) with
        | false =>
          rw [hg, cond_false] at h
          obtain ⟨s2, h1, h2, _⟩ := way v top k r (.inl rfl) h
          exact ⟨s2, h1, h2⟩
        | true =>
          rw [hg, cond_true] at h
          cases hb : bval v with
          | none => rw [hb] at h; cases h
          | some c =>
            rw [hb] at h
            simp only at h
            have hv := bval_some hb
            -- the two ways
            have two : ∀ {ρ : Type} (k : St → R ρ) (r : ρ), ((R.br c (setD nt o.dst (s.setBs ef.wr) (.kb true) fun s => runOps E ops nv nt draw false (i + 1) rest s (footOf draw i ef.rb ef.wr fp)) (setD nt o.dst (s.setBs ef.wr) (.kb false) fun s => runOps E ops nv nt draw false (i + 1) rest s (footOf draw i ef.rb ef.wr fp))).bind k).ev = some r →
                ∃ s2, RunsTo E ops nt draw i (o :: rest) s fp s2 ∧ (k s2).ev = some r ∧ Fr (dsts rest) (putS (s.setBs ef.wr) o.dst (.kb c)) s2 ∧ (∀ d, o.dst = some d → d < nt) := by
              intro ρ k r h
              simp only [R.bind, R.ev, sel] at h
              cases c with
              | true => exact way (.kb true) false k r (.inr ⟨true, hv, rfl⟩) h
              | false => exact way (.kb false) false k r (.inr ⟨false, hv, rfl⟩) h
            cases top with
            | false =>
              obtain ⟨s2, h1, h2, _⟩ := two k r h
              exact ⟨s2, h1, h2⟩
            | true =>
              rw [cond_true] at h
              obtain ⟨hdn, h⟩ := setD_ev h
              rcases joinT_ev (fun t ht => (List.mem_filter.1 ht).1) h with h | ⟨ks, p, hp, hrest⟩
              · obtain ⟨s2, h1, h2, _⟩ := two k r h
                exact ⟨s2, h1, h2⟩
              · obtain ⟨s2, ⟨tr, s1, q1, q2, q3, q4, q5, q6, q7, q8⟩, h2, h3, _⟩ := two _ p hp
                obtain ⟨p', hpe, hpl⟩ : ∃ p', (bif Nat.beq s2.w.length (putS (s.setBs ef.wr) o.dst (.sc .bool c)).w.length then getK s2 ks else none) = some p' ∧ (R.leaf p').ev = some p := by
                  have h2' : ((R.ofO (bif Nat.beq s2.w.length (putS (s.setBs ef.wr) o.dst (.sc .bool c)).w.length then getK s2 ks else none)).bind R.leaf).ev = some p := by rw [bind_leaf]; exact h2
                  exact R.ofO_ev h2'
                cases hpl
                cases hlen : Nat.beq s2.w.length (putS (s.setBs ef.wr) o.dst (.sc .bool c)).w.length with
                | false => rw [hlen] at hpe; cases hpe
                | true =>
                  rw [hlen, cond_true] at hpe
                  have hfw : Fw (dsts rest) (putS (s.setBs ef.wr) o.dst (.sc .bool c)) s2 := by
                    obtain ⟨f1, nw, f2, f3⟩ := h3
                    refine ⟨fun t ht => ?_, nw, by rw [f2, putS_w, putS_w], fun id hid => by rw [f3 id hid, putS_B, putS_B]⟩
                    rw [f1 t ht, putS_T hnt hdn, putS_T hnt hdn]
                    cases hdst : o.dst with
                    | none => exact .inl rfl
                    | some d =>
                      by_cases htd : t = d
                      · right
                        refine ⟨.bool, c, by simp [putT, updT, htd], ?_⟩
                        simp only [putT, updT, htd, if_true]; rfl
                      · left; simp [putT, updT, htd]
                  obtain ⟨s3, w1, w2, w3⟩ := hrest s2 hfw (Nat.eq_of_beq_eq_true hlen) hpe
                  refine ⟨s3, ⟨tr, s1, q1, q2, q3, q4, q5, q6.trans w1, ?_, q8⟩, w3⟩
                  exact ((Fr.setBs ef.wr _).sub (putS_Fr hd.1) (fun t h => h) (fun t h => h)).sub w2 (fun t h => h) hd.2
    · obtain ⟨hdn, h⟩ := setD_ev h
      obtain ⟨s2, hr, hk⟩ := ih top (i + 1) _ fp k r h
      refine ⟨s2, runsTo_cons (e := ⟨i, o, .undef, [], []⟩) hnt rfl rfl ⟨hdn, .inr ⟨hw, rfl, rfl, rfl⟩⟩ ?_ ?_ (putS_Fr hd.1) (fun _ b tr h => h) hr, hk⟩
      · rw [putS_T hnt hdn]
      · rw [putS_B]; rfl
end Yp
