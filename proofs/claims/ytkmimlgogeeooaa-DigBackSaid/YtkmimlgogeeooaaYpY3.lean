/- The engine, part Y3: a loop's head. -/
import Derived.Test.YtkmimlgogeeooaaYpY2
set_option linter.unusedVariables false
set_option linter.unusedSimpArgs false
namespace Yp
open Go
variable {P : Program}
section
variable {K : Kp} {w0 w : World} {φ : Pl} {M : Nat → Prop} {B B' : Nat → Blk} {g : Nat → PV} {a : Act}
theorem Stay.box {B B' : Nat → Blk} (h : Stay B B') {id : Nat} {t : Ty} {v : PV} (hb : B id = .box t v) : B' id = .box t v := (h id (.inl ⟨t, v, hb⟩)).trans hb
theorem Stay.it {B B' : Nat → Blk} (h : Stay B B') {id : Nat} {s : List UInt8} {p : Nat} (hb : B id = .it s p) : B' id = .it s p := (h id (.inr ⟨s, p, hb⟩)).trans hb
theorem outL_go (hK : ∀ b, K.k b ↔ b < w0.heap.size) : ∀ {es : List En} {s : St} {M : Nat → Prop} {U : Nat → Prop} {ρ : Type} {k : denE es × St → R ρ} {r : ρ}, ((outL s es).bind k).ev = some r → Mem K w0 φ M s.getB w → Slots φ (view w M) s.getB s.getT a → Taken φ M s.getB U →
    ∃ y s2 M2 U', (k (y, s2)).ev = some r ∧ Mem K w0 φ M2 s2.getB w ∧ Ext φ M s.getB w φ M2 s2.getB w ∧ s2.getT = s.getT ∧ Fr [] s s2 ∧ Stay s.getB s2.getB ∧ Taken φ M2 s2.getB U' ∧ EF φ w M2 s2.getB w0.heap.size a es y U U'
  | [], s, M, U, ρ, k, r, h, hm, hs, hU => ⟨(), s, M, U, h, hm, Ext.refl _ _ _ _, rfl, Fr.refl _ _, Stay.refl _, hU, rfl⟩
  | .bk id e :: es, s, M, U, ρ, k, r, h, hm, hs, hU => by
    simp only [outL, isBk, cond_true] at h
    rw [R.bind_assoc] at h
    obtain ⟨y, s2, M2, U', h1, m2, e2, t2, f2, st2, tk2, ef2⟩ := outL_go hK h hm hs hU
    rw [R.bind_assoc] at h1
    simp only [outE] at h1
    obtain ⟨x, wr, h3, h4⟩ := here_ev h1
    simp only [PM.go] at h3
    generalize hB : s2.getB id = bl at h3
    cases bl <;> try (cases h3; done)
    rename_i e' l
    obtain ⟨hc, hB2⟩ := opt_go h3
    obtain ⟨ee, rfl⟩ := castL_some hc
    subst ee
    rw [← St.getB_sets] at hB2
    refine ⟨(l, y), s2.setBs wr, M2, U', h4, by rw [hB2]; exact m2, by rw [hB2]; exact e2, by rw [St.setBs_T]; exact t2, (f2.trans (Fr.setBs wr [])).mono (by simp), by rw [hB2]; exact st2, by rw [hB2]; exact tk2, ?_⟩
    rw [hB2]
    exact ⟨hB, ef2⟩
  | .sl i t :: es, s, M, U, ρ, k, r, h, hm, hs, hU => by
    simp only [outL, isBk, cond_false] at h
    rw [R.bind_assoc] at h
    simp only [outE] at h
    obtain ⟨x, wr, h1, h2⟩ := here_ev h
    simp only at h2
    rw [R.bind_assoc] at h2
    simp only [PM.go] at h1
    obtain ⟨cs, hv, M1, m1, e1, t1, _, f1⟩ := toDM_P h1 hm (hs i)
    have hst := toDM_stay (pv := s.getT i) h1
    rw [← St.getB_sets] at m1 e1 t1 hst
    obtain ⟨y, s2, M2, U', h3, m2, e2, t2, f2, st2, tk2, ef2⟩ := outL_go hK h2 m1 (by rw [St.setBs_T]; exact hs.ext e1) (hU.thin t1)
    exact ⟨(x, y), s2, M2, U', h3, m2, e1.trans e2, t2.trans (St.setBs_T s wr), ((Fr.setBs wr []).trans f2).mono (by simp), hst.trans st2, tk2, ⟨cs, (f1 rfl).mono e2.vw, hv⟩, ef2⟩
  | .ow i id e :: es, s, M, U, ρ, k, r, h, hm, hs, hU => by
    simp only [outL, isBk, cond_false] at h
    rw [R.bind_assoc] at h
    simp only [outE] at h
    obtain ⟨x, wr, h1, h2⟩ := here_ev h
    simp only at h2
    rw [R.bind_assoc] at h2
    simp only [PM.go] at h1
    have hS : RepS φ (view w M) s.getB (s.getT i) (a.tmps.getD i undef) := by
      have hr := hs i
      generalize s.getT i = pv at h1 hr
      cases pv <;> try (cases h1; done)
      all_goals exact hr
    obtain ⟨h0, hone, U1, m1, e1, t1, f1⟩ := ownS_go hK h1 hm hS hU
    have hst := ownS_stay h1
    rw [← St.getB_sets] at m1 e1 t1 hst
    obtain ⟨y, s2, M2, U', h3, m2, e2, t2, f2, st2, tk2, ef2⟩ := outL_go hK h2 m1 (by rw [St.setBs_T]; exact hs.ext e1) t1
    refine ⟨(x, y), s2, M2, U', h3, m2, e1.trans e2, t2.trans (St.setBs_T s wr), ((Fr.setBs wr []).trans f2).mono (by simp), hst.trans st2, tk2, h0, U1, ?_, ef2⟩
    rcases f1 with f1 | ⟨b, f1, f3⟩
    · exact .inl f1
    · exact .inr ⟨b, f1.le e2.vw (tk2.2 b (ef2.sub b (by rw [f3]; exact .inr rfl))), f3⟩
  | .bx id t sh :: es, s, M, U, ρ, k, r, h, hm, hs, hU => by
    simp only [outL, isBk, cond_false] at h
    rw [R.bind_assoc] at h
    simp only [outE] at h
    obtain ⟨x, wr, h1, h2⟩ := here_ev h
    simp only at h2
    rw [R.bind_assoc] at h2
    simp only [PM.go] at h1
    have hbl := hm.blks id
    generalize hB : s.getB id = bl at h1 hbl
    cases bl <;> try (cases h1; done)
    rename_i t' v
    obtain ⟨hc, h1⟩ := bif_go h1
    simp only [Bool.and_eq_true] at hc
    have e1 := is_eq hc.1; subst e1
    have hsh := is_eq hc.2
    obtain ⟨b, o, c, el, fz, g1, g2, g3, g4, g5, g6⟩ := hbl
    obtain ⟨M1, U1, m1, e1, t1, f1⟩ := outS_go hK h1 hm (by rw [hsh]; exact g4) hU
    have hst := outS_stay h1
    rw [← St.getB_sets] at m1 e1 t1 hst
    obtain ⟨y, s2, M2, U', h3, m2, e2, t2, f2, st2, tk2, ef2⟩ := outL_go hK h2 m1 (by rw [St.setBs_T]; exact hs.ext e1) t1
    have hB2 : s2.getB id = .box t' v := (hst.trans st2).box hB
    have hM2 : M2 b := by
      have := m2.blks id
      rw [hB2] at this
      obtain ⟨b', o', c', el', fz', q1, _, _, _, _, q6⟩ := this
      rw [g1] at q1
      simp only [Option.some.injEq, Prod.mk.injEq] at q1
      rw [q1.1]; exact q6
    exact ⟨(x, y), s2, M2, U', h3, m2, e1.trans e2, t2.trans (St.setBs_T s wr), ((Fr.setBs wr []).trans f2).mono (by simp), hst.trans st2, tk2, ⟨v, hB2⟩, hsh, b, o, c, el, fz, U1, g1, g2, g3, g5, hM2,
      f1.le e2.vw (fun b hb => tk2.2 b (ef2.sub b hb)), ef2⟩
  | .it id str :: es, s, M, U, ρ, k, r, h, hm, hs, hU => by
    simp only [outL, isBk, cond_false] at h
    rw [R.bind_assoc] at h
    simp only [outE] at h
    obtain ⟨x, wr, h1, h2⟩ := here_ev h
    simp only at h2
    rw [R.bind_assoc] at h2
    simp only [PM.go] at h1
    generalize hB : s.getB id = bl at h1
    rcases bl with _ | _ | _ | _ | _ | ⟨str', p⟩
    · cases h1
    · cases h1
    · cases h1
    · cases h1
    · cases h1
    · have h1' := Option.some.inj (show some ((p : Nat), s.getB) = some ((x : Nat), overW s.getB wr) from h1)
      have hx : p = x := congrArg Prod.fst h1'
      have hB1 : s.getB = overW s.getB wr := congrArg Prod.snd h1'
      rw [← St.getB_sets] at hB1
      obtain ⟨y, s2, M2, U', h3, m2, e2, t2, f2, st2, tk2, ef2⟩ := outL_go hK h2 (by rw [← hB1]; exact hm) (by rw [St.setBs_T, ← hB1]; exact hs) (by rw [← hB1]; exact hU)
      rw [← hB1] at e2 st2
      exact ⟨(x, y), s2, M2, U', h3, m2, e2, t2.trans (St.setBs_T s wr), ((Fr.setBs wr []).trans f2).mono (by simp), st2, tk2, ⟨str', by rw [← hx]; exact st2.it hB⟩, ef2⟩
/-! ### laid back -/
theorem Blk.Le.trans {a b c : Blk} (h : a.Le b) (k : b.Le c) : a.Le c := by
  cases a <;> cases b <;> cases c <;> simp only [Blk.Le] at h k ⊢ <;> first | exact h.elim | exact k.elim | trivial | exact h.trans k | exact ⟨h.1.trans k.1, h.2.trans k.2⟩
/-- whose block it is: nobody's, or one that was taken and laid back -/
def Held (φ : Pl) (B : Nat → Blk) (Uf A : Nat → Prop) : Prop := ∀ j, (B j).mut = true → ∀ z, φ j = some z → ¬ Uf z.1 ∨ A z.1
theorem adopt_own (hm : Mem K w0 φ M B w) (hK : ∀ b, K.k b ↔ b < w0.heap.size) {id : Nat} (hid : B id = .new) {e : Ty} (hpos : 0 < e.size) {l : List e.den} {v : Value} {U U' Uf A : Nat → Prop}
    (h : (l = [] ∧ (∃ ad, v = .slice ad 0 0) ∧ U' = U) ∨ ∃ b, OwRep w M w0.heap.size U e l v b ∧ U' = fun j => U j ∨ j = b) (hUf : ∀ b, U' b → Uf b) (hA : ∀ b, A b → U' b → U b) (hH : Held φ B Uf A) :
    ∃ φ', Mem K w0 φ' M (updB B id (.ob e l)) w ∧ Ext φ M B w φ' M (updB B id (.ob e l)) w ∧ RepS φ' (view w M) (updB B id (.ob e l)) (.own id false) v ∧ (∀ j, j ≠ id → φ' j = φ j) ∧ Held φ' (updB B id (.ob e l)) Uf (fun b => A b ∨ (U' b ∧ ¬ U b)) := by
  rcases h with ⟨rfl, ⟨ad, rfl⟩, rfl⟩ | ⟨b, ⟨o, c, el, fz, cap, rfl, k1, k2, k3, k4, k5, k6, k7, k8, k9⟩, rfl⟩
  · obtain ⟨m1, e1⟩ := hm.adopt hid (.ob e []) none (fun _ y hy => by cases hy) (fun _ y hy => by cases hy) (fun _ => ⟨hpos, .inl ⟨updP_same _ _ _, rfl⟩⟩)
    refine ⟨_, m1, e1, ?_, fun j hj => updP_ne _ _ hj, fun j hj z hz => ?_⟩
    · simp only [RepS, updB_same]
      exact ⟨.inl ⟨rfl, ad, rfl⟩, fun h => by cases h⟩
    · by_cases hji : j = id
      · subst hji; rw [updP_same] at hz; cases hz
      · rw [updB_ne _ _ hji] at hj; rw [updP_ne _ _ hji] at hz
        exact (hH j hj z hz).imp (fun h => h) .inl
  · obtain ⟨m1, e1⟩ := hm.adopt hid (.ob e l) (some (b, o, c.size)) (fun _ y hy hk => by cases hy; rw [hK] at hk; simp only at hk; omega) (fun _ y hy j hj z hz hc => by
        cases hy
        have hc : z.1 = b := hc
        rcases hH j hj z hz with h | h
        · exact h (hUf _ (.inr hc))
        · exact k9 (by have := hA _ h (.inr hc); rwa [hc] at this)) (fun _ => ⟨hpos, .inr ⟨b, o, c, el, fz, updP_same _ _ _, k4, k5, k6, k7⟩⟩)
    refine ⟨_, m1, e1, ?_, fun j hj => updP_ne _ _ hj, fun j hj z hz => ?_⟩
    · simp only [RepS, updB_same]
      exact ⟨.inr ⟨b, o, c.size, cap, updP_same _ _ _, by simp, k1, k2, by simpa using k3⟩, fun h => by cases h⟩
    · by_cases hji : j = id
      · subst hji; rw [updP_same] at hz; cases hz; exact .inr (.inr ⟨.inr rfl, k9⟩)
      · rw [updB_ne _ _ hji] at hj; rw [updP_ne _ _ hji] at hz
        exact (hH j hj z hz).imp (fun h => h) .inl
theorem overW_nil (B : Nat → Blk) : overW B [] = B := rfl
theorem overW_app (B : Nat → Blk) : ∀ (l m : List (Nat × Blk)), overW B (l ++ m) = overW (overW B m) l
  | [], m => rfl
  | (i, b) :: l, m => by rw [List.cons_append, overW_cons, overW_app B l m, overW_cons]
theorem inS_go (hK : ∀ b, K.k b ↔ b < w0.heap.size) {Uf : Nat → Prop} : ∀ {sh : Sh} {x : sh.den} {cs : List Value} {U U' A : Nat → Prop} {B : Nat → Blk} {φ : Pl}, Mem K w0 φ M B w → (∀ id ∈ shIds sh, B id = .new) → (shIds sh).Nodup →
    ShF w M w0.heap.size sh x cs U U' → (∀ b, U' b → Uf b) → (∀ b, A b → U' b → U b) → Held φ B Uf A →
    ∃ φ' A', Mem K w0 φ' M (overW B (inS sh x).2) w ∧ Ext φ M B w φ' M (overW B (inS sh x).2) w ∧ RepT φ' (view w M) (overW B (inS sh x).2) (inS sh x).1 (shTy sh) cs ∧
      (∀ j, j ∉ shIds sh → φ' j = φ j) ∧ Held φ' (overW B (inS sh x).2) Uf A' ∧ (∀ b, A' b → A b ∨ (U' b ∧ ¬ U b)) ∧ (inS sh x).2.map (·.1) = shIds sh ∧ ∀ p ∈ (inS sh x).2, ∃ e l, p.2 = .ob e l
  | .d t, x, cs, U, U', A, B, φ, hm, hid, hnd, h, hUf, hA, hH => ⟨φ, A, hm, Ext.refl _ _ _ _, ⟨rfl, h.1⟩, fun j _ => rfl, hH, fun b hb => .inl hb, rfl, fun p hp => by simp [inS] at hp⟩
  | .o id e, x, cs, U, U', A, B, φ, hm, hid, hnd, h, hUf, hA, hH => by
    obtain ⟨h0, v, rfl, h1, h2⟩ := h
    obtain ⟨φ', m1, e1, r1, p1, q1⟩ := adopt_own hm hK (hid id (by simp [shIds])) h0 h2 hUf hA hH
    have hB : overW B (inS (.o id e) x).2 = updB B id (.ob e x) := by
      show overW B [(id, .ob e x)] = _
      rw [overW_cons]; rfl
    rw [hB]
    refine ⟨φ', _, m1, e1, ⟨rfl, v, rfl, h1, r1⟩, fun j hj => ?_, q1, fun b hb => hb, rfl, fun p hp => ?_⟩
    · have : j ≠ id := by simpa [shIds] using hj
      exact p1 j this
    · have : p = (id, .ob e x) := by simpa [inS] using hp
      exact ⟨e, x, by rw [this]⟩
  | .p a b, x, cs, U, U', A, B, φ, hm, hid, hnd, h, hUf, hA, hH => by
    obtain ⟨c1, c2, Um, rfl, f1, f2⟩ := h
    simp only [shIds, List.nodup_append] at hnd
    obtain ⟨n1, n2, n3⟩ := hnd
    have hUm : ∀ b, Um b → U' b := f2.sub
    have hU : ∀ b, U b → Um b := f1.sub
    obtain ⟨φ1, A1, m1, e1, r1, p1, q1, a1, k1, o1⟩ := inS_go hK (sh := b) hm (fun id hi => hid id (by simp [shIds, hi])) n2 f2 hUf (fun b hb hu => hU b (hA b hb hu)) hH
    obtain ⟨φ2, A2, m2, e2, r2, p2, q2, a2, k2, o2⟩ := inS_go hK (sh := a) (B := overW B (inS b x.2).2) m1 (fun id hi => by
      have : overW B (inS b x.2).2 id = B id := lookW_off _ _ (by rw [k1]; exact fun hc => n3 id hi id hc rfl)
      rw [this]; exact hid id (by simp [shIds, hi])) n1 f1 (fun b hb => hUf b (hUm b hb)) (fun b hb hu => by
        rcases a1 b hb with h | h
        · exact hA b h (hUm b hu)
        · exact absurd hu h.2) q1
    have hB : overW B (inS (.p a b) x).2 = overW (overW B (inS b x.2).2) (inS a x.1).2 := overW_app B _ _
    rw [hB]
    refine ⟨φ2, A2, m2, e1.trans e2, ⟨c1, c2, rfl, r2, r1.mono e2.pl e2.vw e2.bl⟩, fun j hj => ?_, q2, fun b' hb => ?_, by simp only [inS, List.map_append, k1, k2, shIds], fun p hp => ?_⟩
    · simp only [shIds, List.mem_append, not_or] at hj
      exact (p2 j hj.1).trans (p1 j hj.2)
    · rcases a2 b' hb with h | h
      · rcases a1 b' h with h | h
        · exact .inl h
        · exact .inr ⟨h.1, fun hu => h.2 (hU _ hu)⟩
      · exact .inr ⟨hUm _ h.1, h.2⟩
    · simp only [inS, List.mem_append] at hp
      exact hp.elim (o2 p) (o1 p)
theorem Slots.setT {H : View} {s : St} {B : Nat → Blk} (hs : Slots φ H B s.getT a) {i : Nat} {v : PV} (h : RepP φ H B v (a.tmps.getD i undef)) : Slots φ H B (s.setT i v).getT a := by
  intro t
  by_cases ht : t = i
  · subst ht
    rcases s.getT_same t v with h' | h' <;> rw [h']
    · exact h
    · trivial
  · rw [s.getT_ne v ht]; exact hs t
theorem recontent (hm : Mem K w0 φ M B w) {id : Nat} {t : Ty} {u v : PV} (hB : B id = .box t u) {b o : Nat} {c : Array Value} {el : TypeId} {fz : Nat × Nat} (h1 : φ id = some (b, o, c.size)) (h2 : w.heap[b]? = some (.cells c el fz)) (h3 : o + t.size ≤ c.size) (h4 : okFz c fz) (h5 : M b)
    (hr : RepT φ (view w M) B v t (seg c o t.size)) : Mem K w0 φ M (updB B id (.box t v)) w ∧ Ext φ M B w φ M (updB B id (.box t v)) w :=
  hm.put (by rw [hB]; rfl) h1 h5 rfl rfl rfl rfl (fun _ _ => rfl) (.box t v) (by rw [hB]; rfl) fun he => ⟨b, o, c, el, fz, h1, h2, h3, he.T hr, h4, h5⟩
/-- what must stand at the head before the entries are laid back -/
def Ready (φ0 : Pl) (B2 : Nat → Blk) (φ : Pl) (B : Nat → Blk) : List En → Prop
  | [] => True
  | .bk id e :: r => (φ id = φ0 id ∧ ∃ l, B id = .ob e l ∧ B2 id = .ob e l) ∧ Ready φ0 B2 φ B r
  | .bx id t _ :: r => (φ id = φ0 id ∧ B id = .box t .bad) ∧ Ready φ0 B2 φ B r
  | .it id _ :: r => (φ id = φ0 id ∧ ∃ s p, B id = .it s p ∧ B2 id = .it s p) ∧ Ready φ0 B2 φ B r
  | _ :: r => Ready φ0 B2 φ B r
theorem Ready.congr {φ0 : Pl} {B2 : Nat → Blk} {φ φ' : Pl} {B B' : Nat → Blk} : ∀ {es : List En}, Ready φ0 B2 φ B es → (∀ id ∈ oids es, φ' id = φ id ∧ B' id = B id) → Ready φ0 B2 φ' B' es
  | [], _, _ => trivial
  | .bk id e :: r, h, hq => by
    have := hq id (by simp [oids])
    exact ⟨by rw [this.1, this.2]; exact h.1, Ready.congr h.2 fun j hj => hq j (by simp [oids, hj])⟩
  | .bx id t sh :: r, h, hq => by
    have := hq id (by simp [oids])
    exact ⟨by rw [this.1, this.2]; exact h.1, Ready.congr h.2 fun j hj => hq j (by simp [oids, hj])⟩
  | .it id s :: r, h, hq => by
    have := hq id (by simp [oids])
    exact ⟨by rw [this.1, this.2]; exact h.1, Ready.congr h.2 fun j hj => hq j (by simp [oids, hj])⟩
  | .sl i t :: r, h, hq => Ready.congr (es := r) h hq
  | .ow i id e :: r, h, hq => Ready.congr (es := r) h hq
/-- the functions' state and the state's: they differ at blocks that are yet to be laid back -/
def Agree (B : Nat → Blk) (s : St) (es : List En) : Prop := (∀ j, j ∉ oids es → B j = s.getB j) ∧ ∀ j s' p, B j = .it s' p → ∃ p', s.getB j = .it s' p'
theorem Agree.upd {B : Nat → Blk} {s : St} {es es' : List En} (h : Agree B s es) (id : Nat) (b : Blk) (hes : ∀ j, j ∉ oids es' → j ≠ id → j ∉ oids es) : Agree (updB B id b) (s.setB id b) es' := by
  refine ⟨fun j hj => ?_, fun j s' p hj => ?_⟩
  · rw [St.getB_set]
    by_cases hji : j = id
    · subst hji; rw [updB_same, updB_same]
    · rw [updB_ne _ _ hji, updB_ne _ _ hji]; exact h.1 j (hes j hj hji)
  · rw [St.getB_set]
    by_cases hji : j = id
    · subst hji; rw [updB_same] at hj ⊢; exact ⟨p, hj⟩
    · rw [updB_ne _ _ hji] at hj ⊢; exact h.2 j s' p hj
theorem Agree.over {B : Nat → Blk} {s : St} {es : List En} (h : Agree B s es) : ∀ (l : List (Nat × Blk)), Agree (overW B l) (s.setBs l) es
  | [] => h
  | (i, b) :: l => by
    rw [overW_cons]
    exact (Agree.over h l).upd i b fun j hj _ => hj
theorem inL_go (hK : ∀ b, K.k b ↔ b < w0.heap.size) {φ0 : Pl} {B2 : Nat → Blk} {Uf : Nat → Prop} : ∀ {es : List En} {x : denE es} {U U' A : Nat → Prop} {s : St} {B : Nat → Blk} {φ : Pl}, Mem K w0 φ M B w → Slots φ (view w M) B s.getT a → Agree B s es → (∀ id ∈ nids es, B id = .new) → (nids es ++ oids es).Nodup →
    EF φ0 w M B2 w0.heap.size a es x U U' → Ready φ0 B2 φ B es → (∀ b, U' b → Uf b) → (∀ b, A b → U' b → U b) → Held φ B Uf A →
    ∃ s2 φ', (∀ (γ : Type 1) (k : St → γ), inL s es x k = k s2) ∧ Mem K w0 φ' M s2.getB w ∧ Ext φ M B w φ' M s2.getB w ∧ Slots φ' (view w M) s2.getB s2.getT a ∧
      (∀ id, id ∉ nids es → φ' id = φ id) ∧ (∃ nw, s2.w = nw ++ s.w ∧ (∀ id ∈ nw, id ∈ nids es ∨ id ∈ oids es) ∧ ∀ id, id ∉ nw → s2.getB id = s.getB id) ∧ (∀ t, t ∉ enSlots es → s2.getT t = s.getT t)
  | [], x, U, U', A, s, B, φ, hm, hs, hag, _, _, _, _, _, _, _ => by
    have hB : B = s.getB := funext fun j => hag.1 j (by simp [oids])
    subst hB
    exact ⟨s, φ, fun _ _ => rfl, hm, Ext.refl _ _ _ _, hs, fun _ _ => rfl, ⟨[], rfl, fun id h => by simp at h, fun _ _ => rfl⟩, fun _ _ => rfl⟩
  | .sl i t :: es, x, U, U', A, s, B, φ, hm, hs, hag, hn, hnd, hef, hrd, hUf, hA, hH => by
    obtain ⟨⟨cs, f1, f2⟩, hef⟩ := hef
    obtain ⟨s2, φ', q1, q2, q3, q4, q5, q6, q7⟩ := inL_go hK (es := es) (s := s.setT i (.sc t x.1)) hm (hs.setT ⟨cs, f1, f2⟩) hag hn hnd hef hrd hUf hA hH
    refine ⟨s2, φ', fun γ k => ?_, q2, q3, q4, q5, q6, fun t' ht => ?_⟩
    · simp only [inL, inE, St.setTF_eq]; exact q1 γ k
    · simp only [enSlots, List.mem_cons, not_or] at ht
      rw [q7 t' ht.2]; exact s.getT_ne _ ht.1
  | .ow i id e :: es, x, U, U', A, s, B, φ, hm, hs, hag, hn, hnd, hef, hrd, hUf, hA, hH => by
    obtain ⟨h0, Um, f1, hef⟩ := hef
    have hnd' : id ∉ nids es ∧ id ∉ oids es ∧ (nids es ++ oids es).Nodup := by
      simp only [nids, oids, List.cons_append, List.nodup_cons, List.mem_append, not_or] at hnd
      exact ⟨hnd.1.1, hnd.1.2, hnd.2⟩
    have hUm := hef.sub
    have hU : ∀ b, U b → Um b := fun b hb => by
      rcases f1 with ⟨_, _, h⟩ | ⟨_, _, h⟩
      · rw [h]; exact hb
      · rw [h]; exact .inl hb
    obtain ⟨φ1, m1, e1, r1, p1, h1⟩ := adopt_own hm hK (hn id (by simp [nids])) h0 f1 (fun b hb => hUf b (hUm b hb)) (fun b hb hu => hA b hb (hUm b hu)) hH
    obtain ⟨s2, φ', q1, q2, q3, q4, q5, ⟨nw, q6, q6a, q6b⟩, q7⟩ := inL_go hK (es := es) (s := (s.setB id (.ob e x.1)).setT i (.own id false)) m1 (Slots.setT (s := s.setB id (.ob e x.1)) (hs.ext e1) r1)
      (Agree.upd (es' := es) hag id _ fun j hj _ => hj) (fun j hj => by
        have hji : j ≠ id := fun h => hnd'.1 (h ▸ hj)
        rw [updB_ne _ _ hji]; exact hn j (by simp [nids, hj])) hnd'.2.2 hef (Ready.congr (es := es) hrd fun j hj => by
        have hji : j ≠ id := fun h => hnd'.2.1 (h ▸ hj)
        exact ⟨p1 j hji, updB_ne _ _ hji⟩) hUf (fun b hb hu => hb.elim (fun h => hU b (hA b h hu)) (fun h => h.1)) h1
    refine ⟨s2, φ', fun γ k => ?_, q2, e1.trans q3, q4, fun j hj => ?_, ⟨nw ++ [id], by rw [q6]; simp [St.setT, St.setB], fun j hj => ?_, fun j hj => ?_⟩, fun t' ht => ?_⟩
    · simp only [inL, inE, St.setBF_eq, St.setTF_eq]; exact q1 γ k
    · simp only [nids, List.mem_cons, not_or] at hj
      rw [q5 j hj.2, p1 j hj.1]
    · simp only [List.mem_append, List.mem_singleton] at hj
      rcases hj with hj | hj
      · rcases q6a j hj with h | h
        · exact .inl (by simp [nids, h])
        · exact .inr (by simpa [oids] using h)
      · exact .inl (by simp [nids, hj])
    · simp only [List.mem_append, List.mem_singleton, not_or] at hj
      rw [q6b j hj.1]
      show (s.setB id (.ob e x.1)).getB j = s.getB j
      rw [St.getB_set, updB_ne _ _ hj.2]
    · simp only [enSlots, List.mem_cons, not_or] at ht
      rw [q7 t' ht.2]; exact St.getT_ne _ _ ht.1
  | .bk id e :: es, x, U, U', A, s, B, φ, hm, hs, hag, hn, hnd, hef, hrd, hUf, hA, hH => by
    obtain ⟨f1, hef⟩ := hef
    obtain ⟨⟨_, l, g1, g2⟩, hrd⟩ := hrd
    rw [f1] at g2
    have hBB : updB B id (.ob e x.1) = B := by
      funext j
      by_cases hj : j = id
      · subst hj; rw [updB_same, g1, g2]
      · rw [updB_ne _ _ hj]
    have hnd' : (nids es ++ oids es).Nodup := by
      simp only [nids, oids] at hnd
      exact hnd.sublist (List.Sublist.append_left (List.sublist_cons_self _ _) _)
    have hag' := Agree.upd (es' := es) hag id (.ob e x.1) fun j hj hji => by simp [oids, hj, hji]
    rw [hBB] at hag'
    obtain ⟨s2, φ', q1, q2, q3, q4, q5, ⟨nw, q6, q6a, q6b⟩, q7⟩ := inL_go hK (es := es) (s := s.setB id (.ob e x.1)) (φ := φ) hm hs hag' hn hnd' hef hrd hUf hA hH
    refine ⟨s2, φ', fun γ k => ?_, q2, q3, q4, q5, ⟨nw ++ [id], by rw [q6]; simp [St.setB], fun j hj => ?_, fun j hj => ?_⟩, q7⟩
    · simp only [inL, inE, St.setBF_eq]; exact q1 γ k
    · simp only [List.mem_append, List.mem_singleton] at hj
      rcases hj with hj | hj
      · exact (q6a j hj).imp (fun h => by simpa [nids] using h) (fun h => by simp [oids, h])
      · exact .inr (by simp [oids, hj])
    · simp only [List.mem_append, List.mem_singleton, not_or] at hj
      rw [q6b j hj.1, St.getB_set, updB_ne _ _ hj.2]
  | .it id str :: es, x, U, U', A, s, B, φ, hm, hs, hag, hn, hnd, hef, hrd, hUf, hA, hH => by
    obtain ⟨⟨s', f1⟩, hef⟩ := hef
    obtain ⟨⟨_, s0, p, g1, g2⟩, hrd⟩ := hrd
    rw [f1] at g2
    cases g2
    obtain ⟨p', hsp⟩ := hag.2 id s' x.1 g1
    have hBB : updB B id (.it s' x.1) = B := by
      funext j
      by_cases hj : j = id
      · subst hj; rw [updB_same, g1]
      · rw [updB_ne _ _ hj]
    have hnd' : (nids es ++ oids es).Nodup := by
      simp only [nids, oids] at hnd
      exact hnd.sublist (List.Sublist.append_left (List.sublist_cons_self _ _) _)
    have hag' := Agree.upd (es' := es) hag id (.it s' x.1) fun j hj hji => by simp [oids, hj, hji]
    rw [hBB] at hag'
    obtain ⟨s2, φ', q1, q2, q3, q4, q5, ⟨nw, q6, q6a, q6b⟩, q7⟩ := inL_go hK (es := es) (s := s.setB id (.it s' x.1)) (φ := φ) hm hs hag' hn hnd' hef hrd hUf hA hH
    refine ⟨s2, φ', fun γ k => ?_, q2, q3, q4, q5, ⟨nw ++ [id], by rw [q6]; simp [St.setB], fun j hj => ?_, fun j hj => ?_⟩, q7⟩
    · simp only [inL, inE, hsp, St.setBF_eq]; exact q1 γ k
    · simp only [List.mem_append, List.mem_singleton] at hj
      rcases hj with hj | hj
      · exact (q6a j hj).imp (fun h => by simpa [nids] using h) (fun h => by simp [oids, h])
      · exact .inr (by simp [oids, hj])
    · simp only [List.mem_append, List.mem_singleton, not_or] at hj
      rw [q6b j hj.1, St.getB_set, updB_ne _ _ hj.2]
  | .bx id t sh :: es, x, U, U', A, s, B, φ, hm, hs, hag, hn, hnd, hef, hrd, hUf, hA, hH => by
    obtain ⟨_, hsh, b, o, c, el, fz, Um, g1, g2, g3, g4, g5, f1, hef⟩ := hef
    obtain ⟨⟨hφ, hB⟩, hrd⟩ := hrd
    simp only [nids, oids] at hn hnd
    have hnd1 : (shIds sh).Nodup := (List.nodup_append.1 (List.nodup_append.1 hnd).1).1
    have hnd2 : (nids es ++ oids es).Nodup := by
      refine hnd.sublist ?_
      exact (List.sublist_append_right _ _).append (List.sublist_cons_self _ _)
    have hdis : ∀ j, j ∈ shIds sh → j ∉ nids es ∧ j ≠ id ∧ j ∉ oids es := fun j hj => by
      refine ⟨fun hc => (List.nodup_append.1 (List.nodup_append.1 hnd).1).2.2 j hj j hc rfl, fun hc => ?_, fun hc => ?_⟩
      · exact (List.nodup_append.1 hnd).2.2 j (by simp [hj]) id (by simp) hc
      · exact (List.nodup_append.1 hnd).2.2 j (by simp [hj]) j (by simp [hc]) rfl
    have hidn : id ∉ nids es ∧ id ∉ oids es := by
      refine ⟨fun hc => ?_, fun hc => ?_⟩
      · exact (List.nodup_append.1 hnd).2.2 id (by simp [hc]) id (by simp) rfl
      · exact (List.nodup_cons.1 (List.nodup_append.1 hnd).2.1).1 hc
    have hUm := hef.sub
    obtain ⟨φ1, A1, m1, e1, r1, p1, h1, a1, k1, o1⟩ := inS_go hK hm (fun j hj => hn j (by simp [hj])) hnd1 f1 (fun b hb => hUf b (hUm b hb)) (fun b hb hu => hA b hb (hUm b hu)) hH
    have off : ∀ j, j ∉ shIds sh → overW B (inS sh x.1).2 j = B j := fun j hj => lookW_off _ _ (by rw [k1]; exact hj)
    have hidsh : id ∉ shIds sh := fun hc => (hdis id hc).2.1 rfl
    have hB1 : overW B (inS sh x.1).2 id = .box t .bad := by rw [off id hidsh, hB]
    have hφ1 : φ1 id = some (b, o, c.size) := by rw [p1 id hidsh, hφ, g1]
    rw [hsh] at r1
    obtain ⟨m2, e2⟩ := recontent m1 hB1 hφ1 g2 g3 g4 g5 r1
    have hH2 : Held φ1 (updB (overW B (inS sh x.1).2) id (.box t (inS sh x.1).1)) Uf A1 := by
      intro j hj z hz
      by_cases hji : j = id
      · subst hji; exact h1 j (by rw [hB1]; rfl) z hz
      · rw [updB_ne _ _ hji] at hj; exact h1 j hj z hz
    have hag' : Agree (updB (overW B (inS sh x.1).2) id (.box t (inS sh x.1).1)) ((s.setBs (inS sh x.1).2).setB id (.box t (inS sh x.1).1)) es :=
      (Agree.over hag _).upd (es' := es) id _ fun j hj hji => by simp [oids, hj, hji]
    have hT : ((s.setBs (inS sh x.1).2).setB id (.box t (inS sh x.1).1)).getT = s.getT := St.setBs_T s _
    obtain ⟨s2, φ', q1, q2, q3, q4, q5, ⟨nw, q6, q6a, q6b⟩, q7⟩ := inL_go hK (es := es) (s := (s.setBs (inS sh x.1).2).setB id (.box t (inS sh x.1).1)) m2 (by rw [hT]; exact (hs.ext e1).ext e2) hag' (fun j hj => by
        have hji : j ≠ id := fun h => hidn.1 (h ▸ hj)
        rw [updB_ne _ _ hji, off j fun hc => (hdis j hc).1 hj]; exact hn j (by simp [hj])) hnd2 hef (Ready.congr (es := es) hrd fun j hj => by
        have hji : j ≠ id := fun h => hidn.2 (h ▸ hj)
        have hjs : j ∉ shIds sh := fun hc => (hdis j hc).2.2 hj
        exact ⟨p1 j hjs, by rw [updB_ne _ _ hji, off j hjs]⟩) hUf (fun b hb hu => by
        rcases a1 b hb with h | h
        · exact f1.sub b (hA b h hu)
        · exact h.1) hH2
    refine ⟨s2, φ', fun γ k => ?_, q2, (e1.trans e2).trans q3, q4, fun j hj => ?_, ⟨nw ++ ([id] ++ shIds sh), ?_, fun j hj => ?_, fun j hj => ?_⟩, fun t' ht => ?_⟩
    · simp only [inL, inE, St.setBsF_eq, St.setBF_eq]; exact q1 γ k
    · simp only [nids, List.mem_append, not_or] at hj
      rw [q5 j hj.2, p1 j hj.1]
    · rw [q6]
      have : ((s.setBs (inS sh x.1).2).setB id (.box t (inS sh x.1).1)).w = id :: (shIds sh ++ s.w) := by
        show id :: (s.setBs (inS sh x.1).2).w = _
        rw [St.setBs_w, k1]
      rw [this]; simp
    · simp only [List.mem_append, List.mem_singleton] at hj
      rcases hj with hj | hj | hj
      · rcases q6a j hj with h | h
        · exact .inl (by simp [nids, h])
        · exact .inr (by simp [oids, h])
      · exact .inr (by simp [oids, hj])
      · exact .inl (by simp [nids, hj])
    · simp only [List.mem_append, List.mem_singleton, not_or] at hj
      rw [q6b j hj.1, St.getB_set, updB_ne _ _ hj.2.1, St.getB_sets]
      exact lookW_off _ _ (by rw [k1]; exact hj.2.2)
    · rw [q7 t' ht, hT]
/-! ### the head, out of a round's end -/
def boxTy : List En → Nat → Option Ty
  | [], _ => none
  | .bx id t _ :: r, j => if j = id then some t else boxTy r j
  | _ :: r, j => boxTy r j
theorem boxTy_mem : ∀ {es : List En} {id : Nat} {t : Ty} {sh : Sh}, En.bx id t sh ∈ es → ∃ t', boxTy es id = some t'
  | e :: es, id, t, sh, h => by
    rcases List.mem_cons.1 h with rfl | h
    · exact ⟨t, by simp [boxTy]⟩
    · obtain ⟨t', h'⟩ := boxTy_mem h
      cases e <;> simp only [boxTy] <;> first | exact ⟨t', h'⟩ | (split; exact ⟨_, rfl⟩; exact ⟨t', h'⟩)
theorem EF.box {lo : Nat} {B2 : Nat → Blk} : ∀ {es : List En} {x : denE es} {U U' : Nat → Prop} {id : Nat} {t : Ty}, EF φ w M B2 lo a es x U U' → boxTy es id = some t →
    (∃ v, B2 id = .box t v) ∧ ∃ b o c el fz, φ id = some (b, o, Array.size c) ∧ w.heap[b]? = some (.cells c el fz) ∧ o + t.size ≤ c.size ∧ okFz c fz ∧ M b ∧ ∀ v ∈ seg c o t.size, v.oneCell' = true
  | [], _, _, _, _, _, _, h => by cases h
  | .sl i t' :: es, x, U, U', id, t, hef, h => EF.box (es := es) hef.2 h
  | .ow i _ e :: es, x, U, U', id, t, hef, h => by obtain ⟨_, Um, _, hef⟩ := hef; exact EF.box (es := es) hef h
  | .bk _ e :: es, x, U, U', id, t, hef, h => EF.box (es := es) hef.2 h
  | .it _ s :: es, x, U, U', id, t, hef, h => EF.box (es := es) hef.2 h
  | .bx id' t' sh :: es, x, U, U', id, t, hef, h => by
    obtain ⟨hv, hsh, b, o, c, el, fz, Um, g1, g2, g3, g4, g5, f1, hef⟩ := hef
    simp only [boxTy] at h
    split at h
    · rename_i hid
      cases h
      subst hid
      exact ⟨hv, b, o, c, el, fz, g1, g2, g3, g4, g5, f1.one⟩
    · exact EF.box (es := es) hef h
def mid (b0 B2 : Nat → Blk) (es : List En) : Nat → Blk := fun id => if isNew (b0 id) = true then .new else match boxTy es id with | some t => .box t .bad | none => B2 id
theorem isNew_iff {b : Blk} : isNew b = true ↔ b = .new := by cases b <;> simp [isNew]
theorem mid_ready {b0 B2 : Nat → Blk} {es : List En} {lo : Nat} (hold : ∀ id ∈ oids es, b0 id ≠ .new) {x0 : denE es} {U0 U0' : Nat → Prop} (h0 : EF φ w M B2 lo a es x0 U0 U0') : ∀ {r : List En} {x : denE r} {U U' : Nat → Prop}, (∀ e ∈ r, e ∈ es) → (∀ id ∈ oids r, id ∈ oids es) → EF φ w M B2 lo a r x U U' → Ready φ B2 φ (mid b0 B2 es) r
  | [], _, _, _, _, _, _ => trivial
  | .sl i t' :: r, x, U, U', hm, ho, h => mid_ready hold h0 (r := r) (fun e he => hm e (by simp [he])) ho h.2
  | .ow i _ e :: r, x, U, U', hm, ho, h => by obtain ⟨_, Um, _, h⟩ := h; exact mid_ready hold h0 (r := r) (fun e he => hm e (by simp [he])) ho h
  | .bk id e :: r, x, U, U', hm, ho, h => by
    refine ⟨⟨rfl, x.1, ?_, h.1⟩, mid_ready hold h0 (r := r) (fun e he => hm e (by simp [he])) (fun j hj => ho j (by simp [oids, hj])) h.2⟩
    unfold mid
    rw [if_neg (by rw [isNew_iff]; exact hold id (ho id (by simp [oids])))]
    cases hb : boxTy es id with
    | none => exact h.1
    | some t => obtain ⟨⟨v, hv⟩, _⟩ := h0.box hb; rw [h.1] at hv; cases hv
  | .it id s :: r, x, U, U', hm, ho, h => by
    obtain ⟨⟨s', h1⟩, h2⟩ := h
    refine ⟨⟨rfl, s', x.1, ?_, h1⟩, mid_ready hold h0 (r := r) (fun e he => hm e (by simp [he])) (fun j hj => ho j (by simp [oids, hj])) h2⟩
    unfold mid
    rw [if_neg (by rw [isNew_iff]; exact hold id (ho id (by simp [oids])))]
    cases hb : boxTy es id with
    | none => exact h1
    | some t => obtain ⟨⟨v, hv⟩, _⟩ := h0.box hb; rw [h1] at hv; cases hv
  | .bx id t sh :: r, x, U, U', hm, ho, h => by
    obtain ⟨⟨v, hv⟩, hsh, b, o, c, el, fz, Um, g1, g2, g3, g4, g5, f1, h⟩ := h
    refine ⟨⟨rfl, ?_⟩, mid_ready hold h0 (r := r) (fun e he => hm e (by simp [he])) (fun j hj => ho j (by simp [oids, hj])) h⟩
    unfold mid
    rw [if_neg (by rw [isNew_iff]; exact hold id (ho id (by simp [oids])))]
    obtain ⟨t', ht⟩ := boxTy_mem (hm (.bx id t sh) (by simp))
    rw [ht]
    obtain ⟨⟨v', hv'⟩, _⟩ := h0.box ht
    rw [hv] at hv'; cases hv'; rfl
/-- blocks that were not there at the head are forgotten; variables that the entries hold say nothing -/
theorem mid_mem {b0 B2 : Nat → Blk} {es : List En} {lo : Nat} (hm : Mem K w0 φ M B2 w) {x : denE es} {U U' : Nat → Prop} (hef : EF φ w M B2 lo a es x U U') (hbox : ∀ id t v, b0 id = .box t v → ∀ j ∈ refsL v, b0 j ≠ .new)
    (hc2 : ∀ id, b0 id ≠ .new → id ∉ oids es → B2 id = b0 id) (hob : ∀ id ∈ oids es, ∀ t v, B2 id = .box t v → ∃ t', boxTy es id = some t') :
    Mem K w0 φ M (mid b0 B2 es) w ∧ (∀ id, b0 id ≠ .new → (B2 id).Le (mid b0 B2 es id)) ∧ (∀ id, (mid b0 B2 es id).mut = true → (B2 id).mut = true) := by
  have hmut : ∀ id, (mid b0 B2 es id).mut = true → (B2 id).mut = true := fun id h => by
    unfold mid at h
    split at h
    · cases h
    · split at h
      · rename_i t ht
        obtain ⟨⟨v, hv⟩, _⟩ := hef.box ht
        rw [hv]; rfl
      · exact h
  have hle : ∀ id, b0 id ≠ .new → (B2 id).Le (mid b0 B2 es id) := fun id hid => by
    unfold mid
    rw [if_neg (by rw [isNew_iff]; exact hid)]
    split
    · rename_i t ht
      obtain ⟨⟨v, hv⟩, _⟩ := hef.box ht
      rw [hv]; rfl
    · exact Blk.Le.refl _
  refine ⟨{ hm with own := fun id h => hm.own id (hmut id h), blks := fun id => ?_, sep := fun i j hij hi hj => hm.sep i j hij (hmut i hi) (hmut j hj) }, hle, hmut⟩
  have hbl := hm.blks id
  by_cases hn : isNew (b0 id) = true
  · unfold mid; rw [if_pos hn]; trivial
  · have hid : b0 id ≠ .new := fun h => hn (isNew_iff.2 h)
    cases hb : boxTy es id with
    | some t =>
      have hmid : mid b0 B2 es id = .box t .bad := by unfold mid; rw [if_neg hn, hb]
      rw [hmid]
      obtain ⟨_, b, o, c, el, fz, g1, g2, g3, g4, g5, g6⟩ := hef.box hb
      exact ⟨b, o, c, el, fz, g1, g2, g3, ⟨seg_length g3, g6⟩, g4, g5⟩
    | none =>
      have hmid : mid b0 B2 es id = B2 id := by unfold mid; rw [if_neg hn, hb]
      rw [hmid]
      generalize hB : B2 id = bl at hbl
      cases bl with
      | new => trivial
      | gone => trivial
      | ob e l => exact hbl
      | fz e l => exact hbl
      | it s p => exact hbl
      | box t v =>
        have hno : id ∉ oids es := fun hc => by
          obtain ⟨t', ht'⟩ := hob id hc t v hB
          rw [hb] at ht'; cases ht'
        have h0 : b0 id = .box t v := by rw [← hc2 id hid hno, hB]
        obtain ⟨b, o, c, el, fz, g1, g2, g3, g4, g5, g6⟩ := hbl
        exact ⟨b, o, c, el, fz, g1, g2, g3, RepT.loc (fun _ _ _ => rfl) (View.Le.refl _) (fun j hj => hle j (hbox id t v h0 j hj)) g4, g5, g6⟩
end
end Yp
