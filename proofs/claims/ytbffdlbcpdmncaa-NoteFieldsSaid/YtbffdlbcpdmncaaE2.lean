/- A part of the proof of the statements of this seat: the engine that turns code into plain functions, and its soundness. No condition of its own. -/
import Derived.Test.YtbffdlbcpdmncaaE1
import Derived.ProofKit
import Derived.OpenShut
set_option linter.unusedVariables false
set_option linter.unusedSimpArgs false
namespace Yp
open Go
variable {P : Program}
section
variable {K : Kp} {w0 w : World} {φ : Pl} {M : Nat → Prop} {B B' : Nat → Blk} {g : Nat → PV} {a : Act}
theorem Stay.box {B B' : Nat → Blk} (h : Stay B B') {id : Nat} {t : Ty} {v : PV} (hb : B id = .box t v) : B' id = .box t v := (h id (.inl ⟨t, v, hb⟩)).trans hb
theorem Stay.it {B B' : Nat → Blk} (h : Stay B B') {id : Nat} {s : List UInt8} {p : Nat} (hb : B id = .it s p) : B' id = .it s p := (h id (.inr ⟨s, p, hb⟩)).trans hb
theorem outL_go : ∀ {es : List En} {s : St} {M : Nat → Prop} {U : Nat → Prop} {ρ : Type} {k : denE es × St → R ρ} {r : ρ}, ((outL s es).bind k).ev = some r → Mem K w0 φ M s.getB w → Slots φ (view w M) s.getB s.getT a → Taken φ M s.getB U →
    ∃ y s2 M2 U', (k (y, s2)).ev = some r ∧ Mem K w0 φ M2 s2.getB w ∧ Ext φ M s.getB w φ M2 s2.getB w ∧ s2.getT = s.getT ∧ Fr [] s s2 ∧ Stay s.getB s2.getB ∧ Taken φ M2 s2.getB U' ∧ EF φ w M2 s2.getB (fun b => ¬ K.k b) a es y U U'
  | [], s, M, U, ρ, k, r, h, hm, hs, hU => ⟨(), s, M, U, h, hm, Ext.refl _ _ _ _, rfl, Fr.refl _ _, Stay.refl _, hU, rfl⟩
  | .bk id e :: es, s, M, U, ρ, k, r, h, hm, hs, hU => by
    simp only [outL, isBk, cond_true] at h
    rw [R.bind_assoc] at h
    obtain ⟨y, s2, M2, U', h1, m2, e2, t2, f2, st2, tk2, ef2⟩ := outL_go h hm hs hU
    rw [R.bind_assoc] at h1
    simp only [outE] at h1
    obtain ⟨x, wr, h3, h4⟩ := here_ev h1
    simp only [PM.go] at h3
    generalize hB : s2.getB id = bl at h3
    cases bl <;> try (cases h3; done)
    rename_i e' l
    obtain ⟨hc, hB2⟩ := opt_go h3
    obtain ⟨ee, rfl⟩ := castL_some hc
    subst ee
    rw [← St.getB_sets] at hB2
    refine ⟨(l, y), s2.setBs wr, M2, U', h4, by rw [hB2]; exact m2, by rw [hB2]; exact e2, by rw [St.setBs_T]; exact t2, (f2.trans (Fr.setBs wr [])).mono (by simp), by rw [hB2]; exact st2, by rw [hB2]; exact tk2, ?_⟩
    rw [hB2]
    exact ⟨hB, ef2⟩
  | .sl i t :: es, s, M, U, ρ, k, r, h, hm, hs, hU => by
    simp only [outL, isBk, cond_false] at h
    rw [R.bind_assoc] at h
    simp only [outE] at h
    obtain ⟨x, wr, h1, h2⟩ := here_ev h
    simp only at h2
    rw [R.bind_assoc] at h2
    simp only [PM.go] at h1
    obtain ⟨cs, hv, M1, m1, e1, t1, _, f1⟩ := toDM_P h1 hm (hs i)
    have hst := toDM_stay (pv := s.getT i) h1
    rw [← St.getB_sets] at m1 e1 t1 hst
    obtain ⟨y, s2, M2, U', h3, m2, e2, t2, f2, st2, tk2, ef2⟩ := outL_go h2 m1 (by rw [St.setBs_T]; exact hs.ext e1) (hU.thin t1)
    exact ⟨(x, y), s2, M2, U', h3, m2, e1.trans e2, t2.trans (St.setBs_T s wr), ((Fr.setBs wr []).trans f2).mono (by simp), hst.trans st2, tk2, ⟨cs, (f1 rfl).mono e2.vw, hv⟩, ef2⟩
  | .ow i id e :: es, s, M, U, ρ, k, r, h, hm, hs, hU => by
    simp only [outL, isBk, cond_false] at h
    rw [R.bind_assoc] at h
    simp only [outE] at h
    obtain ⟨x, wr, h1, h2⟩ := here_ev h
    simp only at h2
    rw [R.bind_assoc] at h2
    simp only [PM.go] at h1
    have hS : RepS φ (view w M) s.getB (s.getT i) (a.tmps.getD i undef) := by
      have hr := hs i
      generalize s.getT i = pv at h1 hr
      cases pv <;> try (cases h1; done)
      all_goals exact hr
    obtain ⟨h0, hone, U1, m1, e1, t1, f1⟩ := ownS_go h1 hm hS hU
    have hst := ownS_stay h1
    rw [← St.getB_sets] at m1 e1 t1 hst
    obtain ⟨y, s2, M2, U', h3, m2, e2, t2, f2, st2, tk2, ef2⟩ := outL_go h2 m1 (by rw [St.setBs_T]; exact hs.ext e1) t1
    refine ⟨(x, y), s2, M2, U', h3, m2, e1.trans e2, t2.trans (St.setBs_T s wr), ((Fr.setBs wr []).trans f2).mono (by simp), hst.trans st2, tk2, h0, U1, ?_, ef2⟩
    rcases f1 with f1 | ⟨b, f1, f3⟩
    · exact .inl f1
    · exact .inr ⟨b, f1.le e2.vw (tk2.2 b (ef2.sub b (by rw [f3]; exact .inr rfl))), f3⟩
  | .bx id t sh :: es, s, M, U, ρ, k, r, h, hm, hs, hU => by
    simp only [outL, isBk, cond_false] at h
    rw [R.bind_assoc] at h
    simp only [outE] at h
    obtain ⟨x, wr, h1, h2⟩ := here_ev h
    simp only at h2
    rw [R.bind_assoc] at h2
    simp only [PM.go] at h1
    have hbl := hm.blks id
    generalize hB : s.getB id = bl at h1 hbl
    cases bl <;> try (cases h1; done)
    rename_i t' v
    obtain ⟨hc, h1⟩ := bif_go h1
    simp only [Bool.and_eq_true] at hc
    have e1 := is_eq hc.1; subst e1
    have hsh := is_eq hc.2
    obtain ⟨b, o, c, el, fz, g1, g2, g3, g4, g5, g6⟩ := hbl
    obtain ⟨M1, U1, m1, e1, t1, f1⟩ := outS_go h1 hm (by rw [hsh]; exact g4) hU
    have hst := outS_stay h1
    rw [← St.getB_sets] at m1 e1 t1 hst
    obtain ⟨y, s2, M2, U', h3, m2, e2, t2, f2, st2, tk2, ef2⟩ := outL_go h2 m1 (by rw [St.setBs_T]; exact hs.ext e1) t1
    have hB2 : s2.getB id = .box t' v := (hst.trans st2).box hB
    have hM2 : M2 b := by
      have := m2.blks id
      rw [hB2] at this
      obtain ⟨b', o', c', el', fz', q1, _, _, _, _, q6⟩ := this
      rw [g1] at q1
      simp only [Option.some.injEq, Prod.mk.injEq] at q1
      rw [q1.1]; exact q6
    exact ⟨(x, y), s2, M2, U', h3, m2, e1.trans e2, t2.trans (St.setBs_T s wr), ((Fr.setBs wr []).trans f2).mono (by simp), hst.trans st2, tk2, ⟨v, hB2⟩, hsh, b, o, c, el, fz, U1, g1, g2, g3, g5, hM2,
      f1.le e2.vw (fun b hb => tk2.2 b (ef2.sub b hb)), ef2⟩
  | .it id str :: es, s, M, U, ρ, k, r, h, hm, hs, hU => by
    simp only [outL, isBk, cond_false] at h
    rw [R.bind_assoc] at h
    simp only [outE] at h
    obtain ⟨x, wr, h1, h2⟩ := here_ev h
    simp only at h2
    rw [R.bind_assoc] at h2
    simp only [PM.go] at h1
    generalize hB : s.getB id = bl at h1
    rcases bl with _ | _ | _ | _ | _ | ⟨str', p⟩ | _
    · cases h1
    · cases h1
    · cases h1
    · cases h1
    · cases h1
    · have h1' := Option.some.inj (show some ((p : Nat), s.getB) = some ((x : Nat), overW s.getB wr) from h1)
      have hx : p = x := congrArg Prod.fst h1'
      have hB1 : s.getB = overW s.getB wr := congrArg Prod.snd h1'
      rw [← St.getB_sets] at hB1
      obtain ⟨y, s2, M2, U', h3, m2, e2, t2, f2, st2, tk2, ef2⟩ := outL_go h2 (by rw [← hB1]; exact hm) (by rw [St.setBs_T, ← hB1]; exact hs) (by rw [← hB1]; exact hU)
      rw [← hB1] at e2 st2
      exact ⟨(x, y), s2, M2, U', h3, m2, e2, t2.trans (St.setBs_T s wr), ((Fr.setBs wr []).trans f2).mono (by simp), st2, tk2, ⟨str', by rw [← hx]; exact st2.it hB⟩, ef2⟩
    · cases h1
theorem Blk.Le.trans {a b c : Blk} (h : a.Le b) (k : b.Le c) : a.Le c := by
  cases a <;> cases b <;> cases c <;> simp only [Blk.Le] at h k ⊢ <;> first | exact h.elim | exact k.elim | trivial | exact h.trans k | exact ⟨h.1.trans k.1, h.2.trans k.2⟩
def Held (φ : Pl) (B : Nat → Blk) (Uf A : Nat → Prop) : Prop := ∀ j, (B j).mut = true → ∀ z, φ j = some z → ¬ Uf z.1 ∨ A z.1
theorem adopt_own (hm : Mem K w0 φ M B w) {id : Nat} (hid : B id = .new) {e : Ty} (hpos : 0 < e.size) {l : List e.den} {v : Value} {U U' Uf A : Nat → Prop}
    (h : (l = [] ∧ (∃ ad, v = .slice ad 0 0) ∧ U' = U) ∨ ∃ b, OwRep w M (fun b => ¬ K.k b) U e l v b ∧ U' = fun j => U j ∨ j = b) (hUf : ∀ b, U' b → Uf b) (hA : ∀ b, A b → U' b → U b) (hH : Held φ B Uf A) :
    ∃ φ', Mem K w0 φ' M (updB B id (.ob e l)) w ∧ Ext φ M B w φ' M (updB B id (.ob e l)) w ∧ RepS φ' (view w M) (updB B id (.ob e l)) (.own id false) v ∧ (∀ j, j ≠ id → φ' j = φ j) ∧ Held φ' (updB B id (.ob e l)) Uf (fun b => A b ∨ (U' b ∧ ¬ U b)) := by
  rcases h with ⟨rfl, ⟨ad, rfl⟩, rfl⟩ | ⟨b, ⟨o, c, el, fz, cap, rfl, k1, k2, k3, k4, k5, k6, k7, k8, k9⟩, rfl⟩
  · obtain ⟨m1, e1⟩ := hm.adopt hid (.ob e []) none (fun _ y hy => by cases hy) (fun _ y hy => by cases hy) (fun _ => ⟨hpos, .inl ⟨updP_same _ _ _, rfl⟩⟩)
    refine ⟨_, m1, e1, ?_, fun j hj => updP_ne _ _ hj, fun j hj z hz => ?_⟩
    · simp only [RepS, updB_same]
      exact ⟨.inl ⟨rfl, ad, rfl⟩, fun h => by cases h⟩
    · by_cases hji : j = id
      · subst hji; rw [updP_same] at hz; cases hz
      · rw [updB_ne _ _ hji] at hj; rw [updP_ne _ _ hji] at hz
        exact (hH j hj z hz).imp (fun h => h) .inl
  · obtain ⟨m1, e1⟩ := hm.adopt hid (.ob e l) (some (b, o, c.size)) (fun _ y hy hk => by cases hy; exact k8 hk) (fun _ y hy j hj z hz hc => by
        cases hy
        have hc : z.1 = b := hc
        rcases hH j hj z hz with h | h
        · exact h (hUf _ (.inr hc))
        · exact k9 (by have := hA _ h (.inr hc); rwa [hc] at this)) (fun _ => ⟨hpos, .inr ⟨b, o, c, el, fz, updP_same _ _ _, k4, k5, k6, k7⟩⟩)
    refine ⟨_, m1, e1, ?_, fun j hj => updP_ne _ _ hj, fun j hj z hz => ?_⟩
    · simp only [RepS, updB_same]
      exact ⟨.inr ⟨b, o, c.size, cap, updP_same _ _ _, by simp, k1, k2, by simpa using k3⟩, fun h => by cases h⟩
    · by_cases hji : j = id
      · subst hji; rw [updP_same] at hz; cases hz; exact .inr (.inr ⟨.inr rfl, k9⟩)
      · rw [updB_ne _ _ hji] at hj; rw [updP_ne _ _ hji] at hz
        exact (hH j hj z hz).imp (fun h => h) .inl
theorem overW_app (B : Nat → Blk) : ∀ (l m : List (Nat × Blk)), overW B (l ++ m) = overW (overW B m) l
  | [], m => rfl
  | (i, b) :: l, m => by rw [List.cons_append, overW_cons, overW_app B l m, overW_cons]
theorem inS_go {Uf : Nat → Prop} : ∀ {sh : Sh} {x : sh.den} {cs : List Value} {U U' A : Nat → Prop} {B : Nat → Blk} {φ : Pl}, Mem K w0 φ M B w → (∀ id ∈ shIds sh, B id = .new) → (shIds sh).Nodup →
    ShF w M (fun b => ¬ K.k b) sh x cs U U' → (∀ b, U' b → Uf b) → (∀ b, A b → U' b → U b) → Held φ B Uf A →
    ∃ φ' A', Mem K w0 φ' M (overW B (inS sh x).2) w ∧ Ext φ M B w φ' M (overW B (inS sh x).2) w ∧ RepT φ' (view w M) (overW B (inS sh x).2) (inS sh x).1 (shTy sh) cs ∧
      (∀ j, j ∉ shIds sh → φ' j = φ j) ∧ Held φ' (overW B (inS sh x).2) Uf A' ∧ (∀ b, A' b → A b ∨ (U' b ∧ ¬ U b)) ∧ (inS sh x).2.map (·.1) = shIds sh ∧ ∀ p ∈ (inS sh x).2, ∃ e l, p.2 = .ob e l
  | .d t, x, cs, U, U', A, B, φ, hm, hid, hnd, h, hUf, hA, hH => ⟨φ, A, hm, Ext.refl _ _ _ _, ⟨rfl, h.1⟩, fun j _ => rfl, hH, fun b hb => .inl hb, rfl, fun p hp => by simp [inS] at hp⟩
  | .o id e, x, cs, U, U', A, B, φ, hm, hid, hnd, h, hUf, hA, hH => by
    obtain ⟨h0, v, rfl, h1, h2⟩ := h
    obtain ⟨φ', m1, e1, r1, p1, q1⟩ := adopt_own hm (hid id (by simp [shIds])) h0 h2 hUf hA hH
    have hB : overW B (inS (.o id e) x).2 = updB B id (.ob e x) := by
      show overW B [(id, .ob e x)] = _
      rw [overW_cons]; rfl
    rw [hB]
    refine ⟨φ', _, m1, e1, ⟨rfl, v, rfl, h1, r1⟩, fun j hj => ?_, q1, fun b hb => hb, rfl, fun p hp => ?_⟩
    · have : j ≠ id := by simpa [shIds] using hj
      exact p1 j this
    · have : p = (id, .ob e x) := by simpa [inS] using hp
      exact ⟨e, x, by rw [this]⟩
  | .p a b, x, cs, U, U', A, B, φ, hm, hid, hnd, h, hUf, hA, hH => by
    obtain ⟨c1, c2, Um, rfl, f1, f2⟩ := h
    simp only [shIds, List.nodup_append] at hnd
    obtain ⟨n1, n2, n3⟩ := hnd
    have hUm : ∀ b, Um b → U' b := f2.sub
    have hU : ∀ b, U b → Um b := f1.sub
    obtain ⟨φ1, A1, m1, e1, r1, p1, q1, a1, k1, o1⟩ := inS_go (sh := b) hm (fun id hi => hid id (by simp [shIds, hi])) n2 f2 hUf (fun b hb hu => hU b (hA b hb hu)) hH
    obtain ⟨φ2, A2, m2, e2, r2, p2, q2, a2, k2, o2⟩ := inS_go (sh := a) (B := overW B (inS b x.2).2) m1 (fun id hi => by
      have : overW B (inS b x.2).2 id = B id := lookW_off _ _ (by rw [k1]; exact fun hc => n3 id hi id hc rfl)
      rw [this]; exact hid id (by simp [shIds, hi])) n1 f1 (fun b hb => hUf b (hUm b hb)) (fun b hb hu => by
        rcases a1 b hb with h | h
        · exact hA b h (hUm b hu)
        · exact absurd hu h.2) q1
    have hB : overW B (inS (.p a b) x).2 = overW (overW B (inS b x.2).2) (inS a x.1).2 := overW_app B _ _
    rw [hB]
    refine ⟨φ2, A2, m2, e1.trans e2, ⟨c1, c2, rfl, r2, r1.mono e2.pl e2.vw e2.bl⟩, fun j hj => ?_, q2, fun b' hb => ?_, by simp only [inS, List.map_append, k1, k2, shIds], fun p hp => ?_⟩
    · simp only [shIds, List.mem_append, not_or] at hj
      exact (p2 j hj.1).trans (p1 j hj.2)
    · rcases a2 b' hb with h | h
      · rcases a1 b' h with h | h
        · exact .inl h
        · exact .inr ⟨h.1, fun hu => h.2 (hU _ hu)⟩
      · exact .inr ⟨hUm _ h.1, h.2⟩
    · simp only [inS, List.mem_append] at hp
      exact hp.elim (o2 p) (o1 p)
theorem Slots.setT {H : View} {s : St} {B : Nat → Blk} (hs : Slots φ H B s.getT a) {i : Nat} {v : PV} (h : RepP φ H B v (a.tmps.getD i undef)) : Slots φ H B (s.setT i v).getT a := by
  intro t
  by_cases ht : t = i
  · subst ht
    rcases s.getT_same t v with h' | h' <;> rw [h']
    · exact h
    · trivial
  · rw [s.getT_ne v ht]; exact hs t
theorem recontent (hm : Mem K w0 φ M B w) {id : Nat} {t : Ty} {u v : PV} (hB : B id = .box t u) {b o : Nat} {c : Array Value} {el : TypeId} {fz : Nat × Nat} (h1 : φ id = some (b, o, c.size)) (h2 : w.heap[b]? = some (.cells c el fz)) (h3 : o + t.size ≤ c.size) (h4 : okFz c fz) (h5 : M b)
    (hr : RepT φ (view w M) B v t (seg c o t.size)) : Mem K w0 φ M (updB B id (.box t v)) w ∧ Ext φ M B w φ M (updB B id (.box t v)) w :=
  hm.put (by rw [hB]; rfl) h1 h5 rfl rfl rfl rfl (fun _ _ => rfl) (.box t v) (by rw [hB]; rfl) fun he => ⟨b, o, c, el, fz, h1, h2, h3, he.T hr, h4, h5⟩
def Ready (φ0 : Pl) (B2 : Nat → Blk) (φ : Pl) (B : Nat → Blk) : List En → Prop
  | [] => True
  | .bk id e :: r => (φ id = φ0 id ∧ ∃ l, B id = .ob e l ∧ B2 id = .ob e l) ∧ Ready φ0 B2 φ B r
  | .bx id t _ :: r => (φ id = φ0 id ∧ B id = .box t .bad) ∧ Ready φ0 B2 φ B r
  | .it id _ :: r => (φ id = φ0 id ∧ ∃ s p, B id = .it s p ∧ B2 id = .it s p) ∧ Ready φ0 B2 φ B r
  | _ :: r => Ready φ0 B2 φ B r
theorem Ready.congr {φ0 : Pl} {B2 : Nat → Blk} {φ φ' : Pl} {B B' : Nat → Blk} : ∀ {es : List En}, Ready φ0 B2 φ B es → (∀ id ∈ oids es, φ' id = φ id ∧ B' id = B id) → Ready φ0 B2 φ' B' es
  | [], _, _ => trivial
  | .bk id e :: r, h, hq => by
    have := hq id (by simp [oids])
    exact ⟨by rw [this.1, this.2]; exact h.1, Ready.congr h.2 fun j hj => hq j (by simp [oids, hj])⟩
  | .bx id t sh :: r, h, hq => by
    have := hq id (by simp [oids])
    exact ⟨by rw [this.1, this.2]; exact h.1, Ready.congr h.2 fun j hj => hq j (by simp [oids, hj])⟩
  | .it id s :: r, h, hq => by
    have := hq id (by simp [oids])
    exact ⟨by rw [this.1, this.2]; exact h.1, Ready.congr h.2 fun j hj => hq j (by simp [oids, hj])⟩
  | .sl i t :: r, h, hq => Ready.congr (es := r) h hq
  | .ow i id e :: r, h, hq => Ready.congr (es := r) h hq
def Agree (B : Nat → Blk) (s : St) (es : List En) : Prop := (∀ j, j ∉ oids es → B j = s.getB j) ∧ ∀ j s' p, B j = .it s' p → ∃ p', s.getB j = .it s' p'
theorem Agree.upd {B : Nat → Blk} {s : St} {es es' : List En} (h : Agree B s es) (id : Nat) (b : Blk) (hes : ∀ j, j ∉ oids es' → j ≠ id → j ∉ oids es) : Agree (updB B id b) (s.setB id b) es' := by
  refine ⟨fun j hj => ?_, fun j s' p hj => ?_⟩
  · rw [St.getB_set]
    by_cases hji : j = id
    · subst hji; rw [updB_same, updB_same]
    · rw [updB_ne _ _ hji, updB_ne _ _ hji]; exact h.1 j (hes j hj hji)
  · rw [St.getB_set]
    by_cases hji : j = id
    · subst hji; rw [updB_same] at hj ⊢; exact ⟨p, hj⟩
    · rw [updB_ne _ _ hji] at hj ⊢; exact h.2 j s' p hj
theorem Agree.over {B : Nat → Blk} {s : St} {es : List En} (h : Agree B s es) : ∀ (l : List (Nat × Blk)), Agree (overW B l) (s.setBs l) es
  | [] => h
  | (i, b) :: l => by
    rw [overW_cons]
    exact (Agree.over h l).upd i b fun j hj _ => hj
theorem inL_go {φ0 : Pl} {B2 : Nat → Blk} {Uf : Nat → Prop} : ∀ {es : List En} {x : denE es} {U U' A : Nat → Prop} {s : St} {B : Nat → Blk} {φ : Pl}, Mem K w0 φ M B w → Slots φ (view w M) B s.getT a → Agree B s es → (∀ id ∈ nids es, B id = .new) → (nids es ++ oids es).Nodup →
    EF φ0 w M B2 (fun b => ¬ K.k b) a es x U U' → Ready φ0 B2 φ B es → (∀ b, U' b → Uf b) → (∀ b, A b → U' b → U b) → Held φ B Uf A →
    ∃ s2 φ', (∀ (γ : Type 1) (k : St → γ), inL s es x k = k s2) ∧ Mem K w0 φ' M s2.getB w ∧ Ext φ M B w φ' M s2.getB w ∧ Slots φ' (view w M) s2.getB s2.getT a ∧
      (∀ id, id ∉ nids es → φ' id = φ id) ∧ (∃ nw, s2.w = nw ++ s.w ∧ (∀ id ∈ nw, id ∈ nids es ∨ id ∈ oids es) ∧ ∀ id, id ∉ nw → s2.getB id = s.getB id) ∧ (∀ t, t ∉ enSlots es → s2.getT t = s.getT t)
  | [], x, U, U', A, s, B, φ, hm, hs, hag, _, _, _, _, _, _, _ => by
    have hB : B = s.getB := funext fun j => hag.1 j (by simp [oids])
    subst hB
    exact ⟨s, φ, fun _ _ => rfl, hm, Ext.refl _ _ _ _, hs, fun _ _ => rfl, ⟨[], rfl, fun id h => by simp at h, fun _ _ => rfl⟩, fun _ _ => rfl⟩
  | .sl i t :: es, x, U, U', A, s, B, φ, hm, hs, hag, hn, hnd, hef, hrd, hUf, hA, hH => by
    obtain ⟨⟨cs, f1, f2⟩, hef⟩ := hef
    obtain ⟨s2, φ', q1, q2, q3, q4, q5, q6, q7⟩ := inL_go (es := es) (s := s.setT i (.sc t x.1)) hm (hs.setT ⟨cs, f1, f2⟩) hag hn hnd hef hrd hUf hA hH
    refine ⟨s2, φ', fun γ k => ?_, q2, q3, q4, q5, q6, fun t' ht => ?_⟩
    · simp only [inL, inE, St.setTF_eq]; exact q1 γ k
    · simp only [enSlots, List.mem_cons, not_or] at ht
      rw [q7 t' ht.2]; exact s.getT_ne _ ht.1
  | .ow i id e :: es, x, U, U', A, s, B, φ, hm, hs, hag, hn, hnd, hef, hrd, hUf, hA, hH => by
    obtain ⟨h0, Um, f1, hef⟩ := hef
    have hnd' : id ∉ nids es ∧ id ∉ oids es ∧ (nids es ++ oids es).Nodup := by
      simp only [nids, oids, List.cons_append, List.nodup_cons, List.mem_append, not_or] at hnd
      exact ⟨hnd.1.1, hnd.1.2, hnd.2⟩
    have hUm := hef.sub
    have hU : ∀ b, U b → Um b := fun b hb => by
      rcases f1 with ⟨_, _, h⟩ | ⟨_, _, h⟩
      · rw [h]; exact hb
      · rw [h]; exact .inl hb
    obtain ⟨φ1, m1, e1, r1, p1, h1⟩ := adopt_own hm (hn id (by simp [nids])) h0 f1 (fun b hb => hUf b (hUm b hb)) (fun b hb hu => hA b hb (hUm b hu)) hH
    obtain ⟨s2, φ', q1, q2, q3, q4, q5, ⟨nw, q6, q6a, q6b⟩, q7⟩ := inL_go (es := es) (s := (s.setB id (.ob e x.1)).setT i (.own id false)) m1 (Slots.setT (s := s.setB id (.ob e x.1)) (hs.ext e1) r1)
      (Agree.upd (es' := es) hag id _ fun j hj _ => hj) (fun j hj => by
        have hji : j ≠ id := fun h => hnd'.1 (h ▸ hj)
        rw [updB_ne _ _ hji]; exact hn j (by simp [nids, hj])) hnd'.2.2 hef (Ready.congr (es := es) hrd fun j hj => by
        have hji : j ≠ id := fun h => hnd'.2.1 (h ▸ hj)
        exact ⟨p1 j hji, updB_ne _ _ hji⟩) hUf (fun b hb hu => hb.elim (fun h => hU b (hA b h hu)) (fun h => h.1)) h1
    refine ⟨s2, φ', fun γ k => ?_, q2, e1.trans q3, q4, fun j hj => ?_, ⟨nw ++ [id], by rw [q6]; simp [St.setT, St.setB], fun j hj => ?_, fun j hj => ?_⟩, fun t' ht => ?_⟩
    · simp only [inL, inE, St.setBF_eq, St.setTF_eq]; exact q1 γ k
    · simp only [nids, List.mem_cons, not_or] at hj
      rw [q5 j hj.2, p1 j hj.1]
    · simp only [List.mem_append, List.mem_singleton] at hj
      rcases hj with hj | hj
      · rcases q6a j hj with h | h
        · exact .inl (by simp [nids, h])
        · exact .inr (by simpa [oids] using h)
      · exact .inl (by simp [nids, hj])
    · simp only [List.mem_append, List.mem_singleton, not_or] at hj
      rw [q6b j hj.1]
      show (s.setB id (.ob e x.1)).getB j = s.getB j
      rw [St.getB_set, updB_ne _ _ hj.2]
    · simp only [enSlots, List.mem_cons, not_or] at ht
      rw [q7 t' ht.2]; exact St.getT_ne _ _ ht.1
  | .bk id e :: es, x, U, U', A, s, B, φ, hm, hs, hag, hn, hnd, hef, hrd, hUf, hA, hH => by
    obtain ⟨f1, hef⟩ := hef
    obtain ⟨⟨_, l, g1, g2⟩, hrd⟩ := hrd
    rw [f1] at g2
    have hBB : updB B id (.ob e x.1) = B := by
      funext j
      by_cases hj : j = id
      · subst hj; rw [updB_same, g1, g2]
      · rw [updB_ne _ _ hj]
    have hnd' : (nids es ++ oids es).Nodup := by
      simp only [nids, oids] at hnd
      exact hnd.sublist (List.Sublist.append_left (List.sublist_cons_self _ _) _)
    have hag' := Agree.upd (es' := es) hag id (.ob e x.1) fun j hj hji => by simp [oids, hj, hji]
    rw [hBB] at hag'
    obtain ⟨s2, φ', q1, q2, q3, q4, q5, ⟨nw, q6, q6a, q6b⟩, q7⟩ := inL_go (es := es) (s := s.setB id (.ob e x.1)) (φ := φ) hm hs hag' hn hnd' hef hrd hUf hA hH
    refine ⟨s2, φ', fun γ k => ?_, q2, q3, q4, q5, ⟨nw ++ [id], by rw [q6]; simp [St.setB], fun j hj => ?_, fun j hj => ?_⟩, q7⟩
    · simp only [inL, inE, St.setBF_eq]; exact q1 γ k
    · simp only [List.mem_append, List.mem_singleton] at hj
      rcases hj with hj | hj
      · exact (q6a j hj).imp (fun h => by simpa [nids] using h) (fun h => by simp [oids, h])
      · exact .inr (by simp [oids, hj])
    · simp only [List.mem_append, List.mem_singleton, not_or] at hj
      rw [q6b j hj.1, St.getB_set, updB_ne _ _ hj.2]
  | .it id str :: es, x, U, U', A, s, B, φ, hm, hs, hag, hn, hnd, hef, hrd, hUf, hA, hH => by
    obtain ⟨⟨s', f1⟩, hef⟩ := hef
    obtain ⟨⟨_, s0, p, g1, g2⟩, hrd⟩ := hrd
    rw [f1] at g2
    cases g2
    obtain ⟨p', hsp⟩ := hag.2 id s' x.1 g1
    have hBB : updB B id (.it s' x.1) = B := by
      funext j
      by_cases hj : j = id
      · subst hj; rw [updB_same, g1]
      · rw [updB_ne _ _ hj]
    have hnd' : (nids es ++ oids es).Nodup := by
      simp only [nids, oids] at hnd
      exact hnd.sublist (List.Sublist.append_left (List.sublist_cons_self _ _) _)
    have hag' := Agree.upd (es' := es) hag id (.it s' x.1) fun j hj hji => by simp [oids, hj, hji]
    rw [hBB] at hag'
    obtain ⟨s2, φ', q1, q2, q3, q4, q5, ⟨nw, q6, q6a, q6b⟩, q7⟩ := inL_go (es := es) (s := s.setB id (.it s' x.1)) (φ := φ) hm hs hag' hn hnd' hef hrd hUf hA hH
    refine ⟨s2, φ', fun γ k => ?_, q2, q3, q4, q5, ⟨nw ++ [id], by rw [q6]; simp [St.setB], fun j hj => ?_, fun j hj => ?_⟩, q7⟩
    · simp only [inL, inE, hsp, St.setBF_eq]; exact q1 γ k
    · simp only [List.mem_append, List.mem_singleton] at hj
      rcases hj with hj | hj
      · exact (q6a j hj).imp (fun h => by simpa [nids] using h) (fun h => by simp [oids, h])
      · exact .inr (by simp [oids, hj])
    · simp only [List.mem_append, List.mem_singleton, not_or] at hj
      rw [q6b j hj.1, St.getB_set, updB_ne _ _ hj.2]
  | .bx id t sh :: es, x, U, U', A, s, B, φ, hm, hs, hag, hn, hnd, hef, hrd, hUf, hA, hH => by
    obtain ⟨_, hsh, b, o, c, el, fz, Um, g1, g2, g3, g4, g5, f1, hef⟩ := hef
    obtain ⟨⟨hφ, hB⟩, hrd⟩ := hrd
    simp only [nids, oids] at hn hnd
    have hnd1 : (shIds sh).Nodup := (List.nodup_append.1 (List.nodup_append.1 hnd).1).1
    have hnd2 : (nids es ++ oids es).Nodup := by
      refine hnd.sublist ?_
      exact (List.sublist_append_right _ _).append (List.sublist_cons_self _ _)
    have hdis : ∀ j, j ∈ shIds sh → j ∉ nids es ∧ j ≠ id ∧ j ∉ oids es := fun j hj => by
      refine ⟨fun hc => (List.nodup_append.1 (List.nodup_append.1 hnd).1).2.2 j hj j hc rfl, fun hc => ?_, fun hc => ?_⟩
      · exact (List.nodup_append.1 hnd).2.2 j (by simp [hj]) id (by simp) hc
      · exact (List.nodup_append.1 hnd).2.2 j (by simp [hj]) j (by simp [hc]) rfl
    have hidn : id ∉ nids es ∧ id ∉ oids es := by
      refine ⟨fun hc => ?_, fun hc => ?_⟩
      · exact (List.nodup_append.1 hnd).2.2 id (by simp [hc]) id (by simp) rfl
      · exact (List.nodup_cons.1 (List.nodup_append.1 hnd).2.1).1 hc
    have hUm := hef.sub
    obtain ⟨φ1, A1, m1, e1, r1, p1, h1, a1, k1, o1⟩ := inS_go hm (fun j hj => hn j (by simp [hj])) hnd1 f1 (fun b hb => hUf b (hUm b hb)) (fun b hb hu => hA b hb (hUm b hu)) hH
    have off : ∀ j, j ∉ shIds sh → overW B (inS sh x.1).2 j = B j := fun j hj => lookW_off _ _ (by rw [k1]; exact hj)
    have hidsh : id ∉ shIds sh := fun hc => (hdis id hc).2.1 rfl
    have hB1 : overW B (inS sh x.1).2 id = .box t .bad := by rw [off id hidsh, hB]
    have hφ1 : φ1 id = some (b, o, c.size) := by rw [p1 id hidsh, hφ, g1]
    rw [hsh] at r1
    obtain ⟨m2, e2⟩ := recontent m1 hB1 hφ1 g2 g3 g4 g5 r1
    have hH2 : Held φ1 (updB (overW B (inS sh x.1).2) id (.box t (inS sh x.1).1)) Uf A1 := by
      intro j hj z hz
      by_cases hji : j = id
      · subst hji; exact h1 j (by rw [hB1]; rfl) z hz
      · rw [updB_ne _ _ hji] at hj; exact h1 j hj z hz
    have hag' : Agree (updB (overW B (inS sh x.1).2) id (.box t (inS sh x.1).1)) ((s.setBs (inS sh x.1).2).setB id (.box t (inS sh x.1).1)) es :=
      (Agree.over hag _).upd (es' := es) id _ fun j hj hji => by simp [oids, hj, hji]
    have hT : ((s.setBs (inS sh x.1).2).setB id (.box t (inS sh x.1).1)).getT = s.getT := St.setBs_T s _
    obtain ⟨s2, φ', q1, q2, q3, q4, q5, ⟨nw, q6, q6a, q6b⟩, q7⟩ := inL_go (es := es) (s := (s.setBs (inS sh x.1).2).setB id (.box t (inS sh x.1).1)) m2 (by rw [hT]; exact (hs.ext e1).ext e2) hag' (fun j hj => by
        have hji : j ≠ id := fun h => hidn.1 (h ▸ hj)
        rw [updB_ne _ _ hji, off j fun hc => (hdis j hc).1 hj]; exact hn j (by simp [hj])) hnd2 hef (Ready.congr (es := es) hrd fun j hj => by
        have hji : j ≠ id := fun h => hidn.2 (h ▸ hj)
        have hjs : j ∉ shIds sh := fun hc => (hdis j hc).2.2 hj
        exact ⟨p1 j hjs, by rw [updB_ne _ _ hji, off j hjs]⟩) hUf (fun b hb hu => by
        rcases a1 b hb with h | h
        · exact f1.sub b (hA b h hu)
        · exact h.1) hH2
    refine ⟨s2, φ', fun γ k => ?_, q2, (e1.trans e2).trans q3, q4, fun j hj => ?_, ⟨nw ++ ([id] ++ shIds sh), ?_, fun j hj => ?_, fun j hj => ?_⟩, fun t' ht => ?_⟩
    · simp only [inL, inE, St.setBsF_eq, St.setBF_eq]; exact q1 γ k
    · simp only [nids, List.mem_append, not_or] at hj
      rw [q5 j hj.2, p1 j hj.1]
    · rw [q6]
      have : ((s.setBs (inS sh x.1).2).setB id (.box t (inS sh x.1).1)).w = id :: (shIds sh ++ s.w) := by
        show id :: (s.setBs (inS sh x.1).2).w = _
        rw [St.setBs_w, k1]
      rw [this]; simp
    · simp only [List.mem_append, List.mem_singleton] at hj
      rcases hj with hj | hj | hj
      · rcases q6a j hj with h | h
        · exact .inl (by simp [nids, h])
        · exact .inr (by simp [oids, h])
      · exact .inr (by simp [oids, hj])
      · exact .inl (by simp [nids, hj])
    · simp only [List.mem_append, List.mem_singleton, not_or] at hj
      rw [q6b j hj.1, St.getB_set, updB_ne _ _ hj.2.1, St.getB_sets]
      exact lookW_off _ _ (by rw [k1]; exact hj.2.2)
    · rw [q7 t' ht, hT]
def boxTy : List En → Nat → Option Ty
  | [], _ => none
  | .bx id t _ :: r, j => if j = id then some t else boxTy r j
  | _ :: r, j => boxTy r j
theorem boxTy_mem : ∀ {es : List En} {id : Nat} {t : Ty} {sh : Sh}, En.bx id t sh ∈ es → ∃ t', boxTy es id = some t'
  | e :: es, id, t, sh, h => by
    rcases List.mem_cons.1 h with rfl | h
    · exact ⟨t, by simp [boxTy]⟩
    · obtain ⟨t', h'⟩ := boxTy_mem h
      cases e <;> simp only [boxTy] <;> first | exact ⟨t', h'⟩ | (split; exact ⟨_, rfl⟩; exact ⟨t', h'⟩)
theorem EF.box {lo : Nat → Prop} {B2 : Nat → Blk} : ∀ {es : List En} {x : denE es} {U U' : Nat → Prop} {id : Nat} {t : Ty}, EF φ w M B2 lo a es x U U' → boxTy es id = some t →
    (∃ v, B2 id = .box t v) ∧ ∃ b o c el fz, φ id = some (b, o, Array.size c) ∧ w.heap[b]? = some (.cells c el fz) ∧ o + t.size ≤ c.size ∧ okFz c fz ∧ M b ∧ ∀ v ∈ seg c o t.size, v.oneCell' = true
  | [], _, _, _, _, _, _, h => by cases h
  | .sl i t' :: es, x, U, U', id, t, hef, h => EF.box (es := es) hef.2 h
  | .ow i _ e :: es, x, U, U', id, t, hef, h => by obtain ⟨_, Um, _, hef⟩ := hef; exact EF.box (es := es) hef h
  | .bk _ e :: es, x, U, U', id, t, hef, h => EF.box (es := es) hef.2 h
  | .it _ s :: es, x, U, U', id, t, hef, h => EF.box (es := es) hef.2 h
  | .bx id' t' sh :: es, x, U, U', id, t, hef, h => by
    obtain ⟨hv, hsh, b, o, c, el, fz, Um, g1, g2, g3, g4, g5, f1, hef⟩ := hef
    simp only [boxTy] at h
    split at h
    · rename_i hid
      cases h
      subst hid
      exact ⟨hv, b, o, c, el, fz, g1, g2, g3, g4, g5, f1.one⟩
    · exact EF.box (es := es) hef h
def mid (b0 B2 : Nat → Blk) (es : List En) : Nat → Blk := fun id => if isNew (b0 id) = true then .new else match boxTy es id with | some t => .box t .bad | none => B2 id
theorem isNew_iff {b : Blk} : isNew b = true ↔ b = .new := by cases b <;> simp [isNew]
theorem mid_ready {b0 B2 : Nat → Blk} {es : List En} {lo : Nat → Prop} (hold : ∀ id ∈ oids es, b0 id ≠ .new) {x0 : denE es} {U0 U0' : Nat → Prop} (h0 : EF φ w M B2 lo a es x0 U0 U0') : ∀ {r : List En} {x : denE r} {U U' : Nat → Prop}, (∀ e ∈ r, e ∈ es) → (∀ id ∈ oids r, id ∈ oids es) → EF φ w M B2 lo a r x U U' → Ready φ B2 φ (mid b0 B2 es) r
  | [], _, _, _, _, _, _ => trivial
  | .sl i t' :: r, x, U, U', hm, ho, h => mid_ready hold h0 (r := r) (fun e he => hm e (by simp [he])) ho h.2
  | .ow i _ e :: r, x, U, U', hm, ho, h => by obtain ⟨_, Um, _, h⟩ := h; exact mid_ready hold h0 (r := r) (fun e he => hm e (by simp [he])) ho h
  | .bk id e :: r, x, U, U', hm, ho, h => by
    refine ⟨⟨rfl, x.1, ?_, h.1⟩, mid_ready hold h0 (r := r) (fun e he => hm e (by simp [he])) (fun j hj => ho j (by simp [oids, hj])) h.2⟩
    unfold mid
    rw [if_neg (by rw [isNew_iff]; exact hold id (ho id (by simp [oids])))]
    cases hb : boxTy es id with
    | none => exact h.1
    | some t => obtain ⟨⟨v, hv⟩, _⟩ := h0.box hb; rw [h.1] at hv; cases hv
  | .it id s :: r, x, U, U', hm, ho, h => by
    obtain ⟨⟨s', h1⟩, h2⟩ := h
    refine ⟨⟨rfl, s', x.1, ?_, h1⟩, mid_ready hold h0 (r := r) (fun e he => hm e (by simp [he])) (fun j hj => ho j (by simp [oids, hj])) h2⟩
    unfold mid
    rw [if_neg (by rw [isNew_iff]; exact hold id (ho id (by simp [oids])))]
    cases hb : boxTy es id with
    | none => exact h1
    | some t => obtain ⟨⟨v, hv⟩, _⟩ := h0.box hb; rw [h1] at hv; cases hv
  | .bx id t sh :: r, x, U, U', hm, ho, h => by
    obtain ⟨⟨v, hv⟩, hsh, b, o, c, el, fz, Um, g1, g2, g3, g4, g5, f1, h⟩ := h
    refine ⟨⟨rfl, ?_⟩, mid_ready hold h0 (r := r) (fun e he => hm e (by simp [he])) (fun j hj => ho j (by simp [oids, hj])) h⟩
    unfold mid
    rw [if_neg (by rw [isNew_iff]; exact hold id (ho id (by simp [oids])))]
    obtain ⟨t', ht⟩ := boxTy_mem (hm (.bx id t sh) (by simp))
    rw [ht]
    obtain ⟨⟨v', hv'⟩, _⟩ := h0.box ht
    rw [hv] at hv'; cases hv'; rfl
theorem EF.kind {lo : Nat → Prop} {B2 : Nat → Blk} : ∀ {es : List En} {x : denE es} {U U' : Nat → Prop}, EF φ w M B2 lo a es x U U' → ∀ id ∈ oids es, ∀ kt vt l, B2 id ≠ .mp kt vt l
  | [], _, _, _, _, id, hi, _, _, _ => by simp [oids] at hi
  | .sl i t' :: es, x, U, U', h, id, hi, kt, vt, l => EF.kind (es := es) h.2 id hi kt vt l
  | .ow i _ e :: es, x, U, U', h, id, hi, kt, vt, l => by obtain ⟨_, Um, _, h⟩ := h; exact EF.kind (es := es) h id hi kt vt l
  | .bk id' e :: es, x, U, U', h, id, hi, kt, vt, l => by
    simp only [oids, List.mem_cons] at hi
    rcases hi with rfl | hi
    · rw [h.1]; intro h; cases h
    · exact EF.kind (es := es) h.2 id hi kt vt l
  | .it id' s :: es, x, U, U', h, id, hi, kt, vt, l => by
    simp only [oids, List.mem_cons] at hi
    rcases hi with rfl | hi
    · obtain ⟨⟨s', h1⟩, _⟩ := h; rw [h1]; intro h; cases h
    · exact EF.kind (es := es) h.2 id hi kt vt l
  | .bx id' t0 sh0 :: es, x, U, U', h, id, hi, kt, vt, l => by
    simp only [oids, List.mem_cons] at hi
    rcases hi with rfl | hi
    · obtain ⟨⟨v, hv⟩, _⟩ := h; rw [hv]; intro h; cases h
    · obtain ⟨_, _, b, o, c, el, fz, Um, _, _, _, _, _, _, h⟩ := h
      exact EF.kind (es := es) h id hi kt vt l
theorem mid_mem {b0 B2 : Nat → Blk} {es : List En} {lo : Nat → Prop} (hm : Mem K w0 φ M B2 w) {x : denE es} {U U' : Nat → Prop} (hef : EF φ w M B2 lo a es x U U') (hbox : ∀ id t v, b0 id = .box t v → ∀ j ∈ refsL v, b0 j ≠ .new) (hmap : ∀ id kt vt l, b0 id = .mp kt vt l → ∀ p ∈ l, ∀ j ∈ refsL p.2, b0 j ≠ .new)
    (hc2 : ∀ id, b0 id ≠ .new → id ∉ oids es → B2 id = b0 id) (hob : ∀ id ∈ oids es, ∀ t v, B2 id = .box t v → ∃ t', boxTy es id = some t') :
    Mem K w0 φ M (mid b0 B2 es) w ∧ (∀ id, b0 id ≠ .new → (B2 id).Le (mid b0 B2 es id)) ∧ (∀ id, (mid b0 B2 es id).mut = true → (B2 id).mut = true) := by
  have hmut : ∀ id, (mid b0 B2 es id).mut = true → (B2 id).mut = true := fun id h => by
    unfold mid at h
    split at h
    · cases h
    · split at h
      · rename_i t ht
        obtain ⟨⟨v, hv⟩, _⟩ := hef.box ht
        rw [hv]; rfl
      · exact h
  have hle : ∀ id, b0 id ≠ .new → (B2 id).Le (mid b0 B2 es id) := fun id hid => by
    unfold mid
    rw [if_neg (by rw [isNew_iff]; exact hid)]
    split
    · rename_i t ht
      obtain ⟨⟨v, hv⟩, _⟩ := hef.box ht
      rw [hv]; rfl
    · exact Blk.Le.refl _
  refine ⟨{ hm with own := fun id h => hm.own id (hmut id h), blks := fun id => ?_, sep := fun i j hij hi hj => hm.sep i j hij (hmut i hi) (hmut j hj) }, hle, hmut⟩
  have hbl := hm.blks id
  by_cases hn : isNew (b0 id) = true
  · unfold mid; rw [if_pos hn]; trivial
  · have hid : b0 id ≠ .new := fun h => hn (isNew_iff.2 h)
    cases hb : boxTy es id with
    | some t =>
      have hmid : mid b0 B2 es id = .box t .bad := by unfold mid; rw [if_neg hn, hb]
      rw [hmid]
      obtain ⟨_, b, o, c, el, fz, g1, g2, g3, g4, g5, g6⟩ := hef.box hb
      exact ⟨b, o, c, el, fz, g1, g2, g3, ⟨seg_length g3, g6⟩, g4, g5⟩
    | none =>
      have hmid : mid b0 B2 es id = B2 id := by unfold mid; rw [if_neg hn, hb]
      rw [hmid]
      generalize hB : B2 id = bl at hbl
      cases bl with
      | new => trivial
      | gone => trivial
      | ob e l => exact hbl
      | fz e l => exact hbl
      | it s p => exact hbl
      | mp kt vt l =>
        have hno : id ∉ oids es := fun hc => hef.kind id hc kt vt l hB
        have h0 : b0 id = .mp kt vt l := by rw [← hc2 id hid hno, hB]
        obtain ⟨b, es', clk, g1, g2, g3, g4⟩ := hbl
        exact ⟨b, es', clk, g1, g2, g3.loc (fun _ _ _ _ _ => rfl) (View.Le.refl _) (fun p hp j hj => hle j (hmap id kt vt l h0 p hp j hj)), g4⟩
      | box t v =>
        have hno : id ∉ oids es := fun hc => by
          obtain ⟨t', ht'⟩ := hob id hc t v hB
          rw [hb] at ht'; cases ht'
        have h0 : b0 id = .box t v := by rw [← hc2 id hid hno, hB]
        obtain ⟨b, o, c, el, fz, g1, g2, g3, g4, g5, g6⟩ := hbl
        exact ⟨b, o, c, el, fz, g1, g2, g3, RepT.loc (fun _ _ _ => rfl) (View.Le.refl _) (fun j hj => hle j (hbox id t v h0 j hj)) g4, g5, g6⟩
end
end Yp
namespace Yp
open Go
variable {P : Program}
theorem wp_loop_rec {c : Code} {Q : Exit → Act → World → Prop} (I : Nat → Act → World → Prop) (hz : ∀ a w, ¬ I 0 a w)
    (round : ∀ n a w, I (n + 1) a w → c.wp P (Exit.then (fun a' w' => I n a' w') Q) a w) {n : Nat} {a : Act} {w : World} (h : I n a w) : (Code.loop c).wp P Q a w := by
  intro b k cs
  have key : ∀ n a w, I n a w → ∃ e a' w', Q e a' w' ∧ Arrives P (lone (b.at a (.code c :: .inLoop c :: k)) cs w) b k cs e a' w' := by
    intro n
    induction n with
    | zero => intro a w h; exact absurd h (hz a w)
    | succ n ih =>
      intro a w hI
      obtain ⟨e, a₁, w₁, hq, harr⟩ := round n a w hI b (.inLoop c :: k) cs
      cases e with
      | normal =>
        obtain ⟨e₂, a₂, w₂, hq₂, harr₂⟩ := ih a₁ w₁ hq
        exact ⟨e₂, a₂, w₂, hq₂, .of_steps (Steps.trans harr (.one step_inLoop)) harr₂⟩
      | exit id => exact ⟨_, a₁, w₁, hq, .pass (x := .inLoop c) rfl (fun _ _ => .inl (by simp)) harr⟩
      | goto l => exact ⟨_, a₁, w₁, hq, .pass (x := .inLoop c) rfl (fun _ _ => .inl (by simp)) harr⟩
      | ret => exact ⟨_, a₁, w₁, hq, .pass (x := .inLoop c) rfl (fun _ _ => .inl (by simp)) harr⟩
      | panic ch => exact ⟨_, a₁, w₁, hq, .pass (x := .inLoop c) rfl (fun _ _ => .inl (by simp)) harr⟩
      | outgrown => exact ⟨_, a₁, w₁, hq, .pass (x := .inLoop c) rfl (fun _ _ => .inl (by simp)) harr⟩
  obtain ⟨e, a', w', hq, harr⟩ := key n a w h
  exact ⟨e, a', w', hq, .of_steps (.one step_loop) harr⟩
theorem mem_dedup : ∀ {l : List Nat} {t : Nat}, t ∈ dedup l ↔ t ∈ l
  | [], t => by simp [dedup]
  | i :: l, t => by
    simp only [dedup]
    cases hc : l.any (Nat.beq i) with
    | true =>
      simp only [cond, List.mem_cons]
      rw [mem_dedup]
      refine ⟨.inr, fun h => h.elim (fun h => ?_) id⟩
      obtain ⟨j, hj, hb⟩ := List.any_eq_true.1 hc
      rw [h, Nat.eq_of_beq_eq_true hb]; exact hj
    | false =>
      simp only [cond, List.mem_cons]
      rw [mem_dedup]
theorem nodupB_spec : ∀ {l : List Nat}, nodupB l = true → l.Nodup
  | [], _ => List.nodup_nil
  | i :: l, h => by
    simp only [nodupB, Bool.and_eq_true, Bool.not_eq_true'] at h
    refine List.nodup_cons.2 ⟨fun hc => ?_, nodupB_spec h.2⟩
    have : l.any (Nat.beq i) = true := List.any_eq_true.2 ⟨i, hc, Nat.beq_refl i⟩
    rw [this] at h; cases h.1
theorem headOK_spec {base : St} {es : List En} {asg : List Nat} (h : headOK base es asg = true) :
    (nids es ++ oids es).Nodup ∧ (∀ id ∈ nids es, base.getB id = .new) ∧ (∀ id ∈ oids es, base.getB id ≠ .new) ∧ ∀ i ∈ enSlots es, i ∈ asg := by
  simp only [headOK, Bool.and_eq_true] at h
  obtain ⟨⟨⟨h1, h2⟩, h3⟩, h4⟩ := h
  refine ⟨nodupB_spec h1, fun id hi => isNew_iff.1 (List.all_eq_true.1 h2 id hi), fun id hi hc => ?_, fun i hi => ?_⟩
  · have := List.all_eq_true.1 h3 id hi
    rw [hc] at this; cases this
  · obtain ⟨j, hj, hb⟩ := List.any_eq_true.1 (List.all_eq_true.1 h4 i hi)
    rw [Nat.eq_of_beq_eq_true hb]; exact hj
theorem endOK_spec {base : St} {es : List En} {s : St} (h : endOK base es s = true) {nw : List Nat} (hw : s.w = nw ++ base.w) : ∀ id ∈ nw, base.getB id = .new ∨ id ∈ oids es := by
  intro id hi
  have ht : s.w.take (s.w.length - base.w.length) = nw := by
    rw [hw]
    simp only [List.length_append, Nat.add_sub_cancel]
    exact List.take_left
  unfold endOK at h
  rw [ht] at h
  have := List.all_eq_true.1 h id hi
  simp only [Bool.or_eq_true] at this
  rcases this with h | h
  · exact .inl (isNew_iff.1 h)
  · obtain ⟨j, hj, hb⟩ := List.any_eq_true.1 h
    right; rw [Nat.eq_of_beq_eq_true hb]; exact hj
theorem exits_ev {ρ σ : Type} {kk : Nat} {s : St} {k : Out σ → R ρ} {r : ρ} : ∀ {l : List Nat}, ((exits kk s l).bind k).ev = some r → (k (.ex kk s)).ev = some r
  | [], h => by cases h
  | [i], h => by
    simp only [exits, R.bind, R.ev, ck] at h
    cases hc : neb kk i with
    | false => rw [hc] at h; cases h
    | true => rw [hc] at h; have := Nat.eq_of_beq_eq_true hc; subst this; exact h
  | i :: j :: l, h => by
    simp only [exits, R.bind, R.ev, sel] at h
    cases hc : neb kk i with
    | false => rw [hc] at h; exact exits_ev h
    | true => rw [hc] at h; have := Nat.eq_of_beq_eq_true hc; subst this; exact h
theorem loop_some {σ ρ : Type} {f : σ → Option (LS σ ρ)} {x : σ} {o : LS σ ρ} (h : loop f x = some o) : ∃ n, loopN f n x = some o := by
  unfold loop at h
  split at h
  · exact ⟨_, h⟩
  · cases h
theorem boxTy_oids : ∀ {es : List En} {id : Nat} {t : Ty}, boxTy es id = some t → id ∈ oids es
  | [], _, _, h => by cases h
  | .sl _ _ :: es, _, _, h => boxTy_oids (es := es) h
  | .ow _ _ _ :: es, _, _, h => boxTy_oids (es := es) h
  | .bk _ _ :: es, _, _, h => List.mem_cons_of_mem _ (boxTy_oids (es := es) h)
  | .it _ _ :: es, _, _, h => List.mem_cons_of_mem _ (boxTy_oids (es := es) h)
  | .bx id' t' sh :: es, id, t, h => by
    simp only [boxTy] at h
    split at h
    · rename_i e; rw [e]; simp [oids]
    · exact List.mem_cons_of_mem _ (boxTy_oids h)
section
variable {K : Kp} {w0 w : World} {φ : Pl} {M : Nat → Prop} {B B' : Nat → Blk} {g : Nat → PV} {a : Act} {E : Env} {rs : List RTy} {res : List ResultVar} {nv nt : Nat} {inl : Bool}
theorem EF.oid {lo : Nat → Prop} {B2 : Nat → Blk} : ∀ {es : List En} {x : denE es} {U U' : Nat → Prop}, EF φ w M B2 lo a es x U U' → ∀ id ∈ oids es, ∀ t v, B2 id = .box t v → ∃ t' sh, En.bx id t' sh ∈ es
  | [], _, _, _, _, id, hi, _, _, _ => by simp [oids] at hi
  | .sl i t' :: es, x, U, U', h, id, hi, t, v, hb => by obtain ⟨t', sh, h⟩ := EF.oid (es := es) h.2 id hi t v hb; exact ⟨t', sh, by simp [h]⟩
  | .ow i _ e :: es, x, U, U', h, id, hi, t, v, hb => by obtain ⟨_, Um, _, h⟩ := h; obtain ⟨t', sh, h⟩ := EF.oid (es := es) h id hi t v hb; exact ⟨t', sh, by simp [h]⟩
  | .bk id' e :: es, x, U, U', h, id, hi, t, v, hb => by
    simp only [oids, List.mem_cons] at hi
    rcases hi with rfl | hi
    · rw [h.1] at hb; cases hb
    · obtain ⟨t', sh, h⟩ := EF.oid (es := es) h.2 id hi t v hb; exact ⟨t', sh, by simp [h]⟩
  | .it id' s :: es, x, U, U', h, id, hi, t, v, hb => by
    simp only [oids, List.mem_cons] at hi
    rcases hi with rfl | hi
    · obtain ⟨⟨s', h1⟩, _⟩ := h; rw [h1] at hb; cases hb
    · obtain ⟨t', sh, h⟩ := EF.oid (es := es) h.2 id hi t v hb; exact ⟨t', sh, by simp [h]⟩
  | .bx id' t0 sh0 :: es, x, U, U', h, id, hi, t, v, hb => by
    simp only [oids, List.mem_cons] at hi
    rcases hi with rfl | hi
    · exact ⟨t0, sh0, by simp⟩
    · obtain ⟨_, _, b, o, c, el, fz, Um, _, _, _, _, _, _, h⟩ := h
      obtain ⟨t', sh, h⟩ := EF.oid (es := es) h id hi t v hb; exact ⟨t', sh, by simp [h]⟩
structure Now (K : Kp) (w0 : World) (D : List Nat) (s : St) (φ : Pl) (M : Nat → Prop) (w : World) (a : Act) (s2 : St) (φ' : Pl) (M' : Nat → Prop) (w' : World) (a' : Act) : Prop where
  fr : Fr D s s2
  mem : Mem K w0 φ' M' s2.getB w'
  ext : Ext φ M s.getB w φ' M' s2.getB w'
  slots : Slots φ' (view w' M') s2.getB s2.getT a'
  keep : Keep D a a'
def exitOf (id : Nat) : Exit := if id = RET then .ret else .exit id
def RunGo (P : Program) (K : Kp) (w0 : World) (E : Env) (rs : List RTy) (res : List ResultVar) (nv nt : Nat) (inl : Bool) (c : Code) : Prop :=
  ∀ (s : St) (ρ : Type) (k : Out (denR rs) → R ρ) (r : ρ), ((run E rs res nv nt inl c s).bind k).ev = some r → ∀ (φ : Pl) (M : Nat → Prop) (w : World) (a : Act), Mem K w0 φ M s.getB w → Slots φ (view w M) s.getB s.getT a → nt ≤ a.tmps.size →
    ∀ (Q : Exit → Act → World → Prop),
      (∀ s2 φ' M' w' a', (k (.nx s2)).ev = some r → Now K w0 (assigned c) s φ M w a s2 φ' M' w' a' → Q .normal a' w') →
      (∀ id s2 φ' M' w' a', (k (.ex id s2)).ev = some r → Now K w0 (assigned c) s φ M w a s2 φ' M' w' a' → Q (exitOf id) a' w') →
      (∀ x w' a', (k (.rt x)).ev = some r → a'.defers = a.defers → (∃ us, resRun P a'.tmps w' res us ∧ RetOK w0 K.x w' rs x (vrOf us)) → Q .ret a' w') → c.wp P Q a w
theorem live_ne {b : Blk} (h : b.live = true) : b ≠ .new := by rintro rfl; cases h
theorem le_new {b c : Blk} (h : b.Le c) (hc : c = .new) : b = .new := by subst hc; cases b <;> first | rfl | exact h.elim
theorem loop_go {b : Code} (ih : RunGo P K w0 E rs res nv nt inl b) : RunGo P K w0 E rs res nv nt inl (.loop b) := by
  intro s ρ k r h φ0 M0 w00 a0 hm hs hna Q _ hqe hqr
  simp only [run, R.leavesF_eq, fEs_eq] at h
  generalize hes : entries E.b s ((run E rs res nv nt inl b s).leaves) (dedup (assigned b)) = es at h
  generalize hex : exOf ((run E rs res nv nt inl b s).leaves) = exs at h
  rw [R.bind_assoc] at h
  obtain ⟨x0, s1, M1, U1, h1, m1, e1, t1, f1, st1, tk1, ef1⟩ := outL_go (a := a0) h hm hs (U := fun _ => False) ⟨fun _ _ _ _ h => h, fun _ h => h.elim⟩
  obtain ⟨base, bB, bw, bT, bT', bk⟩ := wipe_spec (dedup (assigned b)) s1
  rw [bk] at h1
  cases hho : headOK base es (dedup (assigned b)) with
  | false => rw [hho] at h1; cases h1
  | true =>
    rw [hho, cond_true] at h1
    obtain ⟨hnd, hnew, hold, hsl⟩ := headOK_spec hho
    simp only [R.bind, R.ev] at h1
    -- static facts
    have hbox : ∀ id t v, base.getB id = .box t v → ∀ j ∈ refsL v, base.getB j ≠ .new := by
      intro id t v hb
      rw [bB] at hb ⊢
      have := m1.blks id
      rw [hb] at this
      obtain ⟨_, _, _, _, _, _, _, _, hT, _⟩ := this
      exact hT.old
    have hmap : ∀ id kt vt l, base.getB id = .mp kt vt l → ∀ p ∈ l, ∀ j ∈ refsL p.2, base.getB j ≠ .new := by
      intro id kt vt l hb
      rw [bB] at hb ⊢
      have := m1.blks id
      rw [hb] at this
      obtain ⟨_, _, _, _, _, hM, _⟩ := this
      exact hM.old
    have holdT : ∀ t, t ∉ dedup (assigned b) → ∀ j ∈ refsL (base.getT t), base.getB j ≠ .new := by
      intro t ht
      rw [bB, bT t ht]
      have := (hs.ext e1) t
      rw [← t1] at this
      exact this.old
    -- the head
    let Head : denE es → Act → World → Prop := fun x a w => ∃ (sx : St) (φ : Pl) (M : Nat → Prop), (∀ (γ : Type 1) (k : St → γ), inL base es x k = k sx) ∧ Mem K w0 φ M sx.getB w ∧ Slots φ (view w M) sx.getB sx.getT a ∧
      Ext φ0 M0 s.getB w00 φ M sx.getB w ∧ Keep (assigned b) a0 a ∧ (∀ id, (base.getB id).Le (sx.getB id)) ∧ (∃ nw, sx.w = nw ++ base.w ∧ ∀ id, id ∉ nw → sx.getB id = base.getB id) ∧ (∀ t, t ∉ enSlots es → sx.getT t = base.getT t)
    have assemble : ∀ (s' : St) (φ' : Pl) (M2 : Nat → Prop) (w' : World) (a' : Act) (y : denE es) (s2 : St) (U' : Nat → Prop), Mem K w0 φ' M2 s2.getB w' → Slots φ' (view w' M2) s2.getB s2.getT a' → Ext φ0 M0 s.getB w00 φ' M2 s2.getB w' → Keep (assigned b) a0 a' →
        Taken φ' M2 s2.getB U' → EF φ' w' M2 s2.getB (fun b => ¬ K.k b) a' es y (fun _ => False) U' → (∀ t, t ∉ dedup (assigned b) → s2.getT t = base.getT t) → (∀ id, base.getB id ≠ .new → id ∉ oids es → s2.getB id = base.getB id) → (∀ id, (base.getB id).Le (s2.getB id)) → Head y a' w' := by
      intro s' φ' M2 w' a' y s2 U' hm2 hs2 he2 hk2 htk hef hc1 hc2 hle
      have hob : ∀ id ∈ oids es, ∀ t v, s2.getB id = .box t v → ∃ t', boxTy es id = some t' := fun id hi t v hb => by
        obtain ⟨t', sh, hmem⟩ := hef.oid id hi t v hb
        exact boxTy_mem hmem
      obtain ⟨mm, hle2, hmut⟩ := mid_mem hm2 hef hbox hmap hc2 hob
      have hrd : Ready φ' s2.getB φ' (mid base.getB s2.getB es) es := mid_ready hold hef (fun e h => h) (fun id h => h) hef
      have hsl0 : Slots φ' (view w' M2) (mid base.getB s2.getB es) base.getT a' := by
        intro t
        by_cases ht : t ∈ dedup (assigned b)
        · rw [bT' t ht]; trivial
        · rw [← hc1 t ht]
          refine RepP.loc (fun _ _ _ => rfl) (View.Le.refl _) (fun j hj => hle2 j ?_) (hs2 t)
          rw [hc1 t ht] at hj
          exact holdT t ht j hj
      have hag : Agree (mid base.getB s2.getB es) base es := by
        refine ⟨fun j hj => ?_, fun j s' p hj => ?_⟩
        · unfold mid
          split
          · rename_i hn; exact (isNew_iff.1 hn).symm
          · rename_i hn
            have hn' : base.getB j ≠ .new := fun h => hn (isNew_iff.2 h)
            cases hb : boxTy es j with
            | some t => exact absurd (boxTy_oids hb) hj
            | none => exact hc2 j hn' hj
        · unfold mid at hj
          split at hj
          · cases hj
          · rename_i hn
            have hn' : base.getB j ≠ .new := fun h => hn (isNew_iff.2 h)
            split at hj
            · cases hj
            · have := hle j
              rw [hj] at this
              generalize base.getB j = q at this hn'
              cases q <;> simp only [Blk.Le] at this <;> first | exact this.elim | exact absurd rfl hn' | exact ⟨_, by rw [this]⟩
      have hnewm : ∀ id ∈ nids es, mid base.getB s2.getB es id = .new := fun id hi => by unfold mid; rw [if_pos (isNew_iff.2 (hnew id hi))]
      obtain ⟨sx, φx, q1, q2, q3, q4, q5, ⟨nw, q6, q6a, q6b⟩, q7⟩ := inL_go (Uf := U') (A := fun _ => False) mm hsl0 hag hnewm hnd hef hrd (fun b hb => hb) (fun b hb => hb.elim) (fun j hj z hz => .inl (htk.1 j (hmut j hj) z hz))
      have chain : ∀ id, base.getB id ≠ .new → (s2.getB id).Le (sx.getB id) := fun id hid => (hle2 id hid).trans (q3.bl id)
      have nonnew : ∀ id, s.getB id ≠ .new → base.getB id ≠ .new := fun id hid hc => hid (le_new (e1.bl id) (by rw [← bB]; exact hc))
      refine ⟨sx, φx, M2, q1, q2, q4, ⟨fun id hl => ?_, he2.vw.trans q3.vw, fun id => ?_⟩, hk2, fun id => ?_, ⟨nw, q6, q6b⟩, q7⟩
      · have hb := nonnew id (live_ne hl)
        rw [q5 id fun hc => hb (hnew id hc)]
        exact he2.pl id hl
      · by_cases hid : s.getB id = .new
        · rw [hid]; cases sx.getB id <;> trivial
        · exact (he2.bl id).trans (chain id (nonnew id hid))
      · by_cases hid : base.getB id = .new
        · rw [hid]; cases sx.getB id <;> trivial
        · exact (hle id).trans (chain id hid)
    -- what the loop comes to
    cases hl : loop (fun x => (inL base es x fun s => R.bind (run E rs res nv nt inl b s) (roundEnd base es)).ev) x0 with
    | none => rw [hl] at h1; cases h1
    | some o =>
      rw [hl] at h1
      obtain ⟨n, hn⟩ := loop_some hl
      have hnx : ∀ y, o ≠ .nx y := by rintro y rfl; cases h1
      -- what becomes of its end
      have finE : ∀ kk y, o = .ex kk y → ∀ a' w', Head y a' w' → Q (exitOf kk) a' w' := by
        rintro kk y rfl a' w' ⟨sx, φ, M, p1, p2, p3, p4, p5, p6, ⟨nw, p7, p7b⟩, p8⟩
        have h1 : ((inL base es y fun s => exits kk s exs).bind k).ev = some r := h1
        rw [p1] at h1
        refine hqe kk sx φ M w' a' (exits_ev h1) ⟨⟨fun t ht => ?_, ?_⟩, p2, p4, p3, p5⟩
        · have ht' : t ∉ dedup (assigned b) := fun hc => ht (mem_dedup.1 hc)
          rw [p8 t fun hc => ht' (hsl t hc), bT t ht', t1]
        · obtain ⟨_, nwo, g1, g2⟩ := f1
          refine ⟨nw ++ nwo, by rw [p7, bw, g1, List.append_assoc], fun id hid => ?_⟩
          rw [List.mem_append, not_or] at hid
          rw [p7b id hid.1, bB, g2 id hid.2]
      have finR : ∀ x, o = .rt x → ∀ a' w', a'.defers = a0.defers → (∃ us, resRun P a'.tmps w' res us ∧ RetOK w0 K.x w' rs x (vrOf us)) → Q .ret a' w' := by
        rintro x rfl a' w' hd hu
        exact hqr x w' a' h1 hd hu
      have h0 : Head x0 a0 w00 := by
        refine assemble s1 φ0 M1 w00 a0 x0 s1 U1 m1 (by rw [t1]; exact hs.ext e1) e1 (Keep.refl _ _) tk1 ef1 (fun t ht => (bT t ht).symm) (fun id _ _ => by rw [bB]) (fun id => by rw [bB]; exact Blk.Le.refl _)
      refine wp_loop_rec (fun n a w => ∃ x, loopN (fun x => (inL base es x fun s => R.bind (run E rs res nv nt inl b s) (roundEnd base es)).ev) n x = some o ∧ Head x a w) (fun a w => by rintro ⟨x, hx, _⟩; cases hx) ?_ (n := n) ⟨x0, hn, h0⟩
      rintro n a w ⟨x, hx, sx, φ, M, p1, p2, p3, p4, p5, p6, ⟨nw, p7, p7b⟩, p8⟩
      simp only [loopN] at hx
      rw [p1] at hx
      have hsz : nt ≤ a.tmps.size := by rw [p5.1]; exact hna
      -- a round's end
      have theEnd : ∀ (s' : St) (φ' : Pl) (M' : Nat → Prop) (w' : World) (a' : Act) {ρ' : Type} (kk : denE es → R ρ') (o' : ρ'), Now K w0 (assigned b) sx φ M w a s' φ' M' w' a' → ((outL s' es).bind fun y => bif endOK base es y.2 then kk y.1 else .fail).ev = some o' → ∃ y, (kk y).ev = some o' ∧ Head y a' w' := by
        intro s' φ' M' w' a' ρ' kk o' hnow hev
        obtain ⟨y, s2, M2, U', h3, m2, e2, t2, f2, st2, tk2, ef2⟩ := outL_go (a := a') hev hnow.mem hnow.slots (U := fun _ => False) ⟨fun _ _ _ _ h => h, fun _ h => h.elim⟩
        cases heo : endOK base es s2 with
        | false => rw [heo] at h3; cases h3
        | true =>
          rw [heo, cond_true] at h3
          refine ⟨y, h3, ?_⟩
          obtain ⟨hf1, nw1, hf2, hf3⟩ := hnow.fr
          obtain ⟨_, nw2, hg2, hg3⟩ := f2
          have hw : s2.w = (nw2 ++ (nw1 ++ nw)) ++ base.w := by rw [hg2, hf2, p7]; simp
          have hend := endOK_spec heo hw
          refine assemble s' φ' M2 w' a' y s2 U' m2 (by rw [t2]; exact hnow.slots.ext e2) ((p4.trans hnow.ext).trans e2) (p5.sub hnow.keep (fun t h => h) (fun t h => h)) tk2 ef2 (fun t ht => ?_) (fun id hid hno => ?_) (fun id => ((p6 id).trans (hnow.ext.bl id)).trans (e2.bl id))
          · rw [t2, hf1 t (fun hc => ht (mem_dedup.2 hc)), p8 t fun hc => ht (hsl t hc)]
          · have hnot : id ∉ nw2 ++ (nw1 ++ nw) := fun hc => (hend id hc).elim hid hno
            simp only [List.mem_append, not_or] at hnot
            rw [hg3 id hnot.1, hf3 id hnot.2.1, p7b id hnot.2.2]
      cases hf : ((run E rs res nv nt inl b sx).bind (roundEnd base es)).ev with
      | none => rw [hf] at hx; cases hx
      | some o' =>
        rw [hf] at hx
        refine ih sx _ (roundEnd base es) o' hf φ M w a p2 p3 hsz _ (fun s' φ' M' w' a' hev hnow => ?_) (fun id s' φ' M' w' a' hev hnow => ?_) (fun x' w' a' hev hd hu => ?_)
        · obtain ⟨y, h3, hh⟩ := theEnd s' φ' M' w' a' (fun y => .leaf (LS.nx y)) o' hnow hev
          cases h3
          exact ⟨y, hx, hh⟩
        · obtain ⟨y, h3, hh⟩ := theEnd s' φ' M' w' a' (fun y => .leaf (LS.ex id y)) o' hnow hev
          cases h3
          cases hx
          have hf := finE id y rfl a' w' hh
          revert hf
          unfold exitOf
          split <;> exact fun h => h
        · cases hev
          cases hx
          exact finR x' rfl a' w' (hd.trans p5.2.1) hu
end
end Yp
namespace Yp
open Go
variable {P : Program}
theorem Fr.T {s s2 : St} (h : Fr [] s s2) : s2.getT = s.getT := funext fun t => h.1 t (by simp)
section
variable {K : Kp} {w0 w : World} {φ : Pl} {M : Nat → Prop} {B B' : Nat → Blk} {g : Nat → PV} {H : View} {E : Env} {nv nt : Nat}
theorem funP_rep {s : St} {f : Operand} {a : Act} (hs : Slots φ H s.getB s.getT a) : RepP φ H s.getB (funP s f) (a.eval f) ∨ funP s f = .bad := by
  cases f with
  | tmp t => exact .inl (hs t)
  | func f => exact .inl ⟨[], rfl, rfl⟩
  | const v => exact .inr rfl
  | global i => exact .inr rfl
theorem opS_go (hT : tabOK P E.T) (hC : cmpOK P E.T E.C) (hMp : mapsOK P E.M) (hG : ∀ f s, E.G f = some s → FOK P f s) (hI : ∀ f g, E.I f = some g → InlOK P f g)
    {o : Oper} {s : St} {ρ : Type} {k : PV × St → R ρ} {r : ρ} (h : ((opS E o s).bind k).ev = some r) {a : Act} (hm : Mem K w0 φ M s.getB w) (hs : Slots φ (view w M) s.getB s.getT a)
    {Kn : Act → World → Prop} {Q : Exit → Act → World → Prop}
    (hk : ∀ v s2 φ' M' w' x, (k (v, s2)).ev = some r → Mem K w0 φ' M' s2.getB w' → Ext φ M s.getB w φ' M' s2.getB w' → RepP φ' (view w' M') s2.getB v x → Fr [] s s2 → Kn (a.put o.dst x) w') : o.wp P a w Kn Q := by
  have plain : ((((opP E o).run s 0 [] []).bind fun r => s.setBsF r.2.wr fun s1 => fP r.1 fun v => .leaf (v, s1) : R (PV × St)).bind k).ev = some r → o.wp P a w Kn Q := by
    intro h
    rw [R.bind_assoc] at h
    obtain ⟨v, e, h1, h2⟩ := PM.run_ev s (opP E o) 0 [] [] _ r h
    simp only [St.setBsF_eq, fP_eq, R.bind] at h2
    have hB : (s.setBs e.wr).getB = overW s.getB e.wr := St.getB_sets s _
    refine op_go hT hC hMp hG h1 hm hs fun x w' ha => ?_
    obtain ⟨φ', M', m1, e1, r1⟩ := ha
    exact hk v (s.setBs e.wr) φ' M' w' x h2 (by rw [hB]; exact m1) (by rw [hB]; exact e1) (by rw [hB]; exact r1) (Fr.setBs e.wr [])
  unfold opS at h
  obtain ⟨dst, op, type, pos, after, guard⟩ := o
  cases op <;> try (exact plain h)
  rename_i c
  obtain ⟨callee, args, ats⟩ := c
  cases callee <;> try (exact plain h)
  rename_i f
  simp only at h
  cases hi : inlR E (dst.getD 0) (funP s f) args.toList s with
  | none => rw [hi] at h; exact plain h
  | some t =>
    rw [hi] at h
    simp only at h
    unfold inlR at hi
    split at hi
    · rename_i F nf env hf
      split at hi
      · rename_i gI hgI
        cases hi
        have hok := hI _ _ hgI
        rw [R.bind_assoc, R.bind_assoc] at h
        obtain ⟨ps, wr, h1, h2⟩ := here_ev h
        obtain ⟨e1, hps⟩ := mapP_go hs h1
        simp only at h2
        have hB : (s.setBs wr).getB = s.getB := by rw [St.getB_sets, e1]
        have hrep : RepP φ (view w M) s.getB (.clo F nf env) (a.eval f) := by
          rcases funP_rep (f := f) hs with h | h
          · rw [hf] at h; exact h
          · rw [hf] at h; cases h
        obtain ⟨us, he, hfv⟩ := hrep
        refine wp_enter hfv hok.1 ?_
        have ha : (args.toList.map a.eval).toArray = args.map a.eval := by apply Array.ext'; simp
        have hargs : (us.take nf ++ (args.toList.map a.eval ++ us.drop nf)).toArray = (us.take nf).toArray ++ args.map a.eval ++ (us.drop nf).toArray := by rw [← ha]; simp
        rw [← hargs]
        refine (hok.2 K w0 _ (cloArgs nf env ps) (s.setBs wr) _ _ r h2 φ M w _ (by rw [hB]; exact hm) (by rw [hB]; exact cloArgs_go he hps)).mono ?_
        rintro e w' ⟨vr, rfl, v, s2, φ', M', q1, q2, q3, q4, q5⟩
        rw [hB] at q3
        simp only [fP_eq, R.bind] at q1
        exact ⟨vr, rfl, hk v s2 φ' M' w' vr q1 q2 q3 q4 (((Fr.setBs wr []).trans q5).mono (by simp))⟩
      · cases hi
    · cases hi
theorem runSeq_go (hT : tabOK P E.T) (hC : cmpOK P E.T E.C) (hMp : mapsOK P E.M) (hG : ∀ f s, E.G f = some s → FOK P f s) (hI : ∀ f g, E.I f = some g → InlOK P f g)
    (hnt : nt ≤ 1000000) {ops : Array Oper} {Q : Exit → Act → World → Prop} : ∀ (l : List Oper) (top : Bool) (i : Nat) (s : St) {ρ : Type} (k : St → R ρ) (r : ρ), ((runSeq E ops.toList nv nt top i l s).bind k).ev = some r →
    ∀ (φ : Pl) (M : Nat → Prop) (w : World) (a : Act), Mem K w0 φ M s.getB w → Slots φ (view w M) s.getB s.getT a → nt ≤ a.tmps.size →
    (∀ s2 φ' M' w' a', (k s2).ev = some r → Fr (dsts l) s s2 → Mem K w0 φ' M' s2.getB w' → Ext φ M s.getB w φ' M' s2.getB w' → Slots φ' (view w' M') s2.getB s2.getT a' → Keep (dsts l) a a' → Q .normal a' w') → wpList P ops Q l a w := by
  intro l
  induction l with
  | nil => intro top i s ρ k r h φ M w a hm hs hna hq; exact hq s φ M w a h (Fr.refl _ _) hm (Ext.refl _ _ _ _) hs (Keep.refl _ _)
  | cons o rest ih =>
    intro top i s ρ k r h φ M w a hm hs hna hq
    have hd := dsts_cons o rest
    simp only [runSeq] at h
    -- a value laid down, and on
    have way : ∀ {ρ : Type} (k : St → R ρ) (r : ρ) (top' : Bool) (s1 : St) (v v' : PV) (φ1 : Pl) (M1 : Nat → Prop) (w1 : World) (x : Value), Same v v' → ((setD nt o.dst s1 v' fun s => runSeq E ops.toList nv nt top' (i + 1) rest s).bind k).ev = some r →
        Mem K w0 φ1 M1 s1.getB w1 → Slots φ1 (view w1 M1) s1.getB s1.getT a → RepP φ1 (view w1 M1) s1.getB v x →
        (∀ s2 φ' M' w' a', (k s2).ev = some r → Fr (dsts rest) (putS s1 o.dst v') s2 → (∀ d, o.dst = some d → d < nt) → Mem K w0 φ' M' s2.getB w' → Ext φ1 M1 s1.getB w1 φ' M' s2.getB w' → Slots φ' (view w' M') s2.getB s2.getT a' → Keep (dsts (o :: rest)) a a' → Q .normal a' w') →
        wpList P ops Q rest (a.put o.dst x) w1 := by
      intro ρ k r top' s1 v v' φ1 M1 w1 x hsame h m1 sl1 r1 hq
      obtain ⟨hdn, h⟩ := setD_ev h
      have hda : ∀ d, o.dst = some d → d < a.tmps.size := fun d hd => Nat.lt_of_lt_of_le (hdn d hd) hna
      refine ih top' (i + 1) _ k r h φ1 M1 w1 _ (by rw [putS_B]; exact m1) (by rw [putS_B, putS_T hnt hdn]; exact sl1.put hda (hsame.rep r1)) (by simp only [Act.put]; split <;> simpa using hna) fun s2 φ' M' w' a' hk hf m2 e2 s2' k2 => ?_
      rw [putS_B] at e2
      exact hq s2 φ' M' w' a' hk hf hdn m2 e2 s2' ((Keep.put hd.1).sub k2 (fun t h => h) hd.2)
    rcases guard_ev h with ⟨hw, h⟩ | ⟨hw, h⟩
    · simp only [wpList]
      rw [if_pos (wants_go hw hs)]
      left
      rw [R.bind_assoc] at h
      refine opS_go hT hC hMp hG hI h hm hs fun v s1 φ1 M1 w1 x h m1 e1 r1 f1 => ?_
      simp only at h
      have sl1 : Slots φ1 (view w1 M1) s1.getB s1.getT a := by rw [f1.T]; exact hs.ext e1
      have fr1 : ∀ v' s2, (∀ d, o.dst = some d → d < nt) → Fr (dsts rest) (putS s1 o.dst v') s2 → Fr (dsts (o :: rest)) s s2 := fun v' s2 _ hf => (f1.sub (putS_Fr hd.1) (fun t h => by simp at h) (fun t h => h)).sub hf (fun t h => h) hd.2
      cases hg : (Nat.testBit (gmask ops.toList) i && (bval v).isSome) with
      | false =>
        rw [hg, cond_false] at h
        exact way k r top s1 v v φ1 M1 w1 x (.inl rfl) h m1 sl1 r1 fun s2 φ' M' w' a' hk hf hdn m2 e2 s2' k2 => hq s2 φ' M' w' a' hk (fr1 v s2 hdn hf) m2 (e1.trans e2) s2' k2
      | true =>
        rw [hg, cond_true] at h
        cases hb : bval v with
        | none => rw [hb] at h; cases h
        | some c =>
          rw [hb] at h
          simp only at h
          have hv := bval_some hb
          -- the two ways
          have two : ∀ {ρ : Type} (k : St → R ρ) (r : ρ), ((R.br c (setD nt o.dst s1 (.kb true) fun s => runSeq E ops.toList nv nt false (i + 1) rest s) (setD nt o.dst s1 (.kb false) fun s => runSeq E ops.toList nv nt false (i + 1) rest s)).bind k).ev = some r →
              (∀ s2 φ' M' w' a', (k s2).ev = some r → Fr (dsts rest) (putS s1 o.dst (.kb c)) s2 → (∀ d, o.dst = some d → d < nt) → Mem K w0 φ' M' s2.getB w' → Ext φ1 M1 s1.getB w1 φ' M' s2.getB w' → Slots φ' (view w' M') s2.getB s2.getT a' → Keep (dsts (o :: rest)) a a' → Q .normal a' w') →
              wpList P ops Q rest (a.put o.dst x) w1 := by
            intro ρ k r h hq
            simp only [R.bind, R.ev, sel] at h
            cases c with
            | true => exact way k r false s1 v (.kb true) φ1 M1 w1 x (.inr ⟨true, hv, rfl⟩) h m1 sl1 r1 hq
            | false => exact way k r false s1 v (.kb false) φ1 M1 w1 x (.inr ⟨false, hv, rfl⟩) h m1 sl1 r1 hq
          cases top with
          | false => exact two k r h fun s2 φ' M' w' a' hk hf hdn m2 e2 s2' k2 => hq s2 φ' M' w' a' hk (fr1 _ s2 hdn hf) m2 (e1.trans e2) s2' k2
          | true =>
            rw [cond_true] at h
            obtain ⟨hdn, h⟩ := setD_ev h
            rcases joinT_ev (fun t ht => (List.mem_filter.1 ht).1) h with h | ⟨ks, p, hp, hrest⟩
            · exact two k r h fun s2 φ' M' w' a' hk hf hdn m2 e2 s2' k2 => hq s2 φ' M' w' a' hk (fr1 _ s2 hdn hf) m2 (e1.trans e2) s2' k2
            · refine two _ p hp fun s2 φ' M' w' a' h2 hf _ m2 e2 s2' k2 => ?_
              obtain ⟨p', hpe, hpl⟩ : ∃ p', (bif Nat.beq s2.w.length (putS s1 o.dst (.sc .bool c)).w.length then getK s2 ks else none) = some p' ∧ (R.leaf p').ev = some p := by
                have h2' : ((R.ofO (bif Nat.beq s2.w.length (putS s1 o.dst (.sc .bool c)).w.length then getK s2 ks else none)).bind R.leaf).ev = some p := by rw [bind_leaf]; exact h2
                exact R.ofO_ev h2'
              cases hpl
              cases hlen : Nat.beq s2.w.length (putS s1 o.dst (.sc .bool c)).w.length with
              | false => rw [hlen] at hpe; cases hpe
              | true =>
                rw [hlen, cond_true] at hpe
                have hfw : Fw (dsts rest) (putS s1 o.dst (.sc .bool c)) s2 := by
                  obtain ⟨f1, nw, f2, f3⟩ := hf
                  refine ⟨fun t ht => ?_, nw, by rw [f2, putS_w, putS_w], fun id hid => by rw [f3 id hid, putS_B, putS_B]⟩
                  rw [f1 t ht, putS_T hnt hdn, putS_T hnt hdn]
                  cases hdst : o.dst with
                  | none => exact .inl rfl
                  | some d =>
                    by_cases htd : t = d
                    · right
                      refine ⟨.bool, c, by simp [putT, updT, htd], ?_⟩
                      simp only [putT, updT, htd, if_true]; rfl
                    · left; simp [putT, updT, htd]
                obtain ⟨s3, w1', w2', w3'⟩ := hrest s2 hfw (Nat.eq_of_beq_eq_true hlen) hpe
                refine hq s3 φ' M' w' a' w3' ?_ (by rw [w1'.2]; exact m2) (by rw [w1'.2]; exact e1.trans e2) (s2'.weak w1') k2
                exact (f1.sub (putS_Fr hd.1) (fun t h => by simp at h) (fun t h => h)).sub w2' (fun t h => h) hd.2
    · simp only [wpList]
      rw [if_neg (by rw [skips_go hw hs]; simp)]
      exact way k r top s .undef .undef φ M w undef (.inl rfl) h hm hs (undef_rep rfl) fun s2 φ' M' w' a' hk hf hdn m2 e2 s2' k2 => hq s2 φ' M' w' a' hk ((putS_Fr hd.1).sub hf (fun t h => h) hd.2) m2 e2 s2' k2
end
end Yp
namespace Yp
open Go
variable {P : Program}
section
variable {K : Kp} {w0 w : World} {φ : Pl} {M : Nat → Prop} {B B' : Nat → Blk} {g : Nat → PV} {a : Act} {E : Env} {rs : List RTy} {res : List ResultVar} {nv nt : Nat} {inl : Bool}
theorem Now.refl {D : List Nat} {s : St} (hm : Mem K w0 φ M s.getB w) (hs : Slots φ (view w M) s.getB s.getT a) : Now K w0 D s φ M w a s φ M w a := ⟨Fr.refl _ _, hm, Ext.refl _ _ _ _, hs, Keep.refl _ _⟩
theorem Now.trans {D D' D'' : List Nat} {s s1 s2 : St} {φ1 φ2 : Pl} {M1 M2 : Nat → Prop} {w1 w2 : World} {a1 a2 : Act} (h : Now K w0 D s φ M w a s1 φ1 M1 w1 a1) (k : Now K w0 D' s1 φ1 M1 w1 a1 s2 φ2 M2 w2 a2)
    (hd : ∀ t, t ∈ D → t ∈ D'') (hd' : ∀ t, t ∈ D' → t ∈ D'') : Now K w0 D'' s φ M w a s2 φ2 M2 w2 a2 := ⟨h.fr.sub k.fr hd hd', k.mem, h.ext.trans k.ext, k.slots, h.keep.sub k.keep hd hd'⟩
theorem Now.mono {D D' : List Nat} {s s1 : St} {φ1 : Pl} {M1 : Nat → Prop} {w1 : World} {a1 : Act} (h : Now K w0 D s φ M w a s1 φ1 M1 w1 a1) (hd : ∀ t, t ∈ D → t ∈ D') : Now K w0 D' s φ M w a s1 φ1 M1 w1 a1 :=
  ⟨h.fr.mono hd, h.mem, h.ext, h.slots, h.keep.1, h.keep.2.1, fun t ht => h.keep.2.2 t fun hc => ht (hd t hc)⟩
theorem run_go (hT : tabOK P E.T) (hC : cmpOK P E.T E.C) (hMp : mapsOK P E.M) (hG : ∀ f s, E.G f = some s → FOK P f s) (hI : ∀ f g, E.I f = some g → InlOK P f g) (hmix : P.follows .mixedOrders = true) (hK : inl = false → ∀ b, K.k b ↔ b < w0.heap.size) (hnt : nt ≤ 1000000) : ∀ c : Code, RunGo P K w0 E rs res nv nt inl c
  | .skip => fun s ρ k r h φ M w a hm hs hna Q hq1 hq2 hq3 => wp_skip (hq1 s φ M w a h (Now.refl hm hs))
  | .label l => fun s ρ k r h φ M w a hm hs hna Q hq1 hq2 hq3 => wp_label (hq1 s φ M w a h (Now.refl hm hs))
  | .region id ops draw => fun s ρ k r h φ M w a hm hs hna Q hq1 hq2 hq3 => by
    simp only [run] at h
    cases hc : (!draw && callsF E ops.toList) with
    | false =>
      rw [hc, cond_false, R.bind_assoc] at h
      exact region_go hT hC hMp hG hI hmix hnt h hm hs hna fun s2 φ' M' w' a' hk hf m1 e1 s1 k1 => hq1 s2 φ' M' w' a' hk ⟨hf, m1, e1, s1, k1⟩
    | true =>
      rw [hc, cond_true, R.bind_assoc] at h
      simp only [Bool.and_eq_true, Bool.not_eq_true'] at hc
      rw [hc.1]
      exact wp_region_list (runSeq_go hT hC hMp hG hI hnt ops.toList true 0 s _ r h φ M w a hm hs hna fun s2 φ' M' w' a' hk hf m1 e1 s1 k1 => hq1 s2 φ' M' w' a' hk ⟨hf, m1, e1, s1, k1⟩)
  | .seq x y => fun s ρ k r h φ M w a hm hs hna Q hq1 hq2 hq3 => by
    simp only [run] at h
    rw [R.bind_assoc] at h
    have memL : ∀ t, t ∈ assigned x → t ∈ assigned (.seq x y) := fun t h => List.mem_append_left _ h
    have memR : ∀ t, t ∈ assigned y → t ∈ assigned (.seq x y) := fun t h => List.mem_append_right _ h
    refine wp_seq (run_go hT hC hMp hG hI hmix hK hnt x s ρ _ r h φ M w a hm hs hna _ (fun s2 φ' M' w' a' hk hn => ?_) (fun id s2 φ' M' w' a' hk hn => ?_) (fun v w' a' hk hd hu => ?_))
    · exact run_go hT hC hMp hG hI hmix hK hnt y s2 ρ k r hk φ' M' w' a' hn.mem hn.slots (by rw [hn.keep.1]; exact hna) Q (fun s3 φ3 M3 w3 a3 hk3 hn3 => hq1 s3 φ3 M3 w3 a3 hk3 (hn.trans hn3 memL memR))
        (fun id s3 φ3 M3 w3 a3 hk3 hn3 => hq2 id s3 φ3 M3 w3 a3 hk3 (hn.trans hn3 memL memR)) (fun v w3 a3 hk3 hd hu => hq3 v w3 a3 hk3 (hd.trans hn.keep.2.1) hu)
    · have hq := hq2 id s2 φ' M' w' a' hk (hn.mono memL)
      revert hq; unfold exitOf; split <;> exact fun h => h
    · exact hq3 v w' a' hk hd hu
  | .cond c x y => fun s ρ k r h φ M w a hm hs hna Q hq1 hq2 hq3 => by
    simp only [run] at h
    rw [R.bind_assoc] at h
    have memL : ∀ t, t ∈ assigned x → t ∈ assigned (.cond c x y) := fun t h => List.mem_append_left _ h
    have memR : ∀ t, t ∈ assigned y → t ∈ assigned (.cond c x y) := fun t h => List.mem_append_right _ h
    obtain ⟨v, wr, h1, h2⟩ := here_ev h
    obtain ⟨_, hv⟩ := opd_go h1 hs
    simp only at h2
    have goX : ∀ {ρ : Type} (k : Out (denR rs) → R ρ) (r : ρ), ((run E rs res nv nt inl x s).bind k).ev = some r → (∀ s2 φ' M' w' a', (k (.nx s2)).ev = some r → Now K w0 (assigned x) s φ M w a s2 φ' M' w' a' → Q .normal a' w') →
        (∀ id s2 φ' M' w' a', (k (.ex id s2)).ev = some r → Now K w0 (assigned x) s φ M w a s2 φ' M' w' a' → Q (exitOf id) a' w') →
        (∀ v w' a', (k (.rt v)).ev = some r → a'.defers = a.defers → (∃ us, resRun P a'.tmps w' res us ∧ RetOK w0 K.x w' rs v (vrOf us)) → Q .ret a' w') → x.wp P Q a w :=
      fun k r hx g1 g2 g3 => run_go hT hC hMp hG hI hmix hK hnt x s _ k r hx φ M w a hm hs hna Q g1 g2 g3
    have goY : ∀ {ρ : Type} (k : Out (denR rs) → R ρ) (r : ρ), ((run E rs res nv nt inl y s).bind k).ev = some r → (∀ s2 φ' M' w' a', (k (.nx s2)).ev = some r → Now K w0 (assigned y) s φ M w a s2 φ' M' w' a' → Q .normal a' w') →
        (∀ id s2 φ' M' w' a', (k (.ex id s2)).ev = some r → Now K w0 (assigned y) s φ M w a s2 φ' M' w' a' → Q (exitOf id) a' w') →
        (∀ v w' a', (k (.rt v)).ev = some r → a'.defers = a.defers → (∃ us, resRun P a'.tmps w' res us ∧ RetOK w0 K.x w' rs v (vrOf us)) → Q .ret a' w') → y.wp P Q a w :=
      fun k r hx g1 g2 g3 => run_go hT hC hMp hG hI hmix hK hnt y s _ k r hx φ M w a hm hs hna Q g1 g2 g3
    have wayX : ((run E rs res nv nt inl x s).bind k).ev = some r → x.wp P Q a w := fun hx => goX k r hx (fun s2 φ' M' w' a' hk hn => hq1 s2 φ' M' w' a' hk (hn.mono memL)) (fun id s2 φ' M' w' a' hk hn => hq2 id s2 φ' M' w' a' hk (hn.mono memL)) hq3
    have wayY : ((run E rs res nv nt inl y s).bind k).ev = some r → y.wp P Q a w := fun hx => goY k r hx (fun s2 φ' M' w' a' hk hn => hq1 s2 φ' M' w' a' hk (hn.mono memR)) (fun id s2 φ' M' w' a' hk hn => hq2 id s2 φ' M' w' a' hk (hn.mono memR)) hq3
    cases v <;> try (cases h2; done)
    case kb t =>
      have hv : a.eval c = .bool t := hv
      cases t with
      | true => exact wp_cond_true hv (wayX h2)
      | false => exact wp_cond_false hv (wayY h2)
    case sc ty t =>
      cases ty <;> try (cases h2; done)
      have hv : a.eval c = .bool t := RepP.bool hv
      have br : ((R.br t (run E rs res nv nt inl x s) (run E rs res nv nt inl y s)).bind k).ev = some r → (Code.cond c x y).wp P Q a w := fun hb => by
        simp only [R.bind, R.ev, sel] at hb
        have ht : ∃ tb : Bool, tb = t := ⟨t, rfl⟩
        obtain ⟨tb, htb⟩ := ht
        subst htb
        cases tb with
        | true => exact wp_cond_true hv (wayX hb)
        | false => exact wp_cond_false hv (wayY hb)
      generalize (plainC [] x && plainC [] y) = c1 at h2
      cases c1 with
      | false => exact br h2
      | true =>
        simp only [cond_true] at h2
        rw [R.bind_assoc] at h2
        -- each side, to whatever
        have side : ∀ {ρ : Type} (k' : St → R ρ) (r' : ρ), (((R.br t ((run E rs res nv nt inl x s).omap nxO) ((run E rs res nv nt inl y s).omap nxO))).bind k').ev = some r' →
            (∀ s2 φ' M' w' a', (k' s2).ev = some r' → Now K w0 (assigned (.cond c x y)) s φ M w a s2 φ' M' w' a' → Q .normal a' w') → (Code.cond c x y).wp P Q a w := by
          intro ρ k' r' hb hn'
          simp only [R.bind, R.ev, sel, R.omap_ev, R.bind_assoc] at hb
          have fin : ∀ {D : List Nat} (hD : ∀ t, t ∈ D → t ∈ assigned (.cond c x y)), (∀ s2 φ' M' w' a', ((R.ofO (nxO (.nx s2 : Out (denR rs)))).bind k').ev = some r' → Now K w0 D s φ M w a s2 φ' M' w' a' → Q .normal a' w') ∧
              (∀ id s2 φ' M' w' a', ((R.ofO (nxO (.ex id s2 : Out (denR rs)))).bind k').ev = some r' → Now K w0 D s φ M w a s2 φ' M' w' a' → Q (exitOf id) a' w') ∧
              (∀ v w' a', ((R.ofO (nxO (.rt v : Out (denR rs)))).bind k').ev = some r' → a'.defers = a.defers → (∃ us, resRun P a'.tmps w' res us ∧ RetOK w0 K.x w' rs v (vrOf us)) → Q .ret a' w') :=
            fun hD => ⟨fun s2 φ' M' w' a' hk hn => hn' s2 φ' M' w' a' hk (hn.mono hD), (fun id s2 φ' M' w' a' hk _ => by cases hk), (fun v w' a' hk _ _ => by cases hk)⟩
          have ht : ∃ tb : Bool, tb = t := ⟨t, rfl⟩
          obtain ⟨tb, htb⟩ := ht
          subst htb
          cases tb with
          | true => obtain ⟨f1, f2, f3⟩ := fin memL; exact wp_cond_true hv (goX _ r' hb f1 f2 f3)
          | false => obtain ⟨f1, f2, f3⟩ := fin memR; exact wp_cond_false hv (goY _ r' hb f1 f2 f3)
        rcases joinT_ev (fun t ht => (List.mem_filter.1 ht).1) h2 with h3 | ⟨ks, p, hp, hrest⟩
        · exact side _ r h3 fun s2 φ' M' w' a' hk hn => hq1 s2 φ' M' w' a' hk hn
        · refine side _ p hp fun s2 φ' M' w' a' hk hn => ?_
          have hk2 : ((R.ofO (bif Nat.beq s2.w.length s.w.length then getK s2 ks else none)).bind R.leaf).ev = some p := by rw [bind_leaf]; exact hk
          obtain ⟨p', hpe, hpl⟩ := R.ofO_ev hk2
          cases hpl
          cases hlen : Nat.beq s2.w.length s.w.length with
          | false => rw [hlen] at hpe; cases hpe
          | true =>
            rw [hlen, cond_true] at hpe
            have hfr : Fr (dedup (assigned x ++ assigned y)) s s2 := hn.fr.mono fun t ht => mem_dedup.2 ht
            obtain ⟨s3, w1, w2, w3⟩ := hrest s2 hfr.fw (Nat.eq_of_beq_eq_true hlen) hpe
            refine hq1 s3 φ' M' w' a' w3 ⟨w2.mono fun t ht => mem_dedup.1 ht, by rw [w1.2]; exact hn.mem, by rw [w1.2]; exact hn.ext, hn.slots.weak w1, hn.keep⟩
  | .block id x => fun s ρ k r h φ M w a hm hs hna Q hq1 hq2 hq3 => by
    simp only [run] at h
    cases hret : Nat.beq id RET with
    | true => rw [hret] at h; cases h
    | false =>
    rw [hret, cond_false, R.bind_assoc] at h
    have hne : id ≠ RET := fun e => by rw [e, Nat.beq_refl] at hret; cases hret
    refine wp_block (run_go hT hC hMp hG hI hmix hK hnt x s ρ _ r h φ M w a hm hs hna _ (fun s2 φ' M' w' a' hk hn => hq1 s2 φ' M' w' a' hk hn) (fun i s2 φ' M' w' a' hk hn => ?_) (fun v w' a' hk hd hu => hq3 v w' a' hk hd hu))
    replace hk : ((bif Nat.beq i id then R.leaf (LS.nx s2) else R.leaf (LS.ex i s2) : R (Out (denR rs))).bind k).ev = some r := hk
    cases hb : Nat.beq i id with
    | true =>
      rw [hb] at hk
      have hi := Nat.eq_of_beq_eq_true hb
      unfold exitOf
      rw [if_neg (by rw [hi]; exact hne)]
      simp only [Exit.inBlock]
      rw [if_pos hi]
      exact hq1 s2 φ' M' w' a' hk hn
    | false =>
      rw [hb] at hk
      have hq := hq2 i s2 φ' M' w' a' hk hn
      revert hq
      unfold exitOf
      split
      · exact fun h => h
      · simp only [Exit.inBlock]
        rw [if_neg (by rintro rfl; rw [Nat.beq_refl] at hb; cases hb)]
        exact fun h => h
  | .exit id => fun s ρ k r h φ M w a hm hs hna Q hq1 hq2 hq3 => by
    simp only [run] at h
    cases hret : Nat.beq id RET with
    | true => rw [hret] at h; cases h
    | false =>
      rw [hret, cond_false] at h
      have hne : id ≠ RET := fun e => by rw [e, Nat.beq_refl] at hret; cases hret
      have hq := hq2 id s φ M w a h (Now.refl hm hs)
      unfold exitOf at hq
      rw [if_neg hne] at hq
      exact wp_exit hq
  | .ret => fun s ρ k r h φ M w a hm hs hna Q hq1 hq2 hq3 => by
    simp only [run] at h
    cases hinl : inl with
    | true =>
      rw [hinl, cond_true] at h
      have hq := hq2 RET s φ M w a h (Now.refl hm hs)
      unfold exitOf at hq
      rw [if_pos rfl] at hq
      exact wp_ret hq
    | false =>
    rw [hinl, cond_false, R.bind_assoc] at h
    obtain ⟨vs, us, h1, h2, h3⟩ := resV_go hT h hm hs
    rw [R.bind_assoc] at h1
    obtain ⟨x, M', B', h4, m1, v1, _, rr⟩ := rets_go h1 hm h2 (U := fun _ => False) ⟨fun _ _ _ _ h => h, fun _ h => h.elim⟩
    have hK' := hK hinl
    rw [show (fun b => ¬ K.k b) = (fun b => ¬ b < w0.heap.size) from funext fun b => by rw [hK' b]] at rr
    refine wp_ret (hq3 x w a h4 rfl ⟨us, h3, M', m1.os, m1.tape, m1.output, m1.size, fun b hb => m1.keep b ((hK' b).2 hb), fun b hb => m1.hid b ((hK' b).2 hb), m1.mlt, us, rr, rfl⟩)
  | .loop b => loop_go (run_go hT hC hMp hG hI hmix hK hnt b)
  | .goto l => fun s ρ k r h => by simp only [run] at h; cases h
  | .scope c => fun s ρ k r h => by simp only [run] at h; cases h
  | .refuse why => fun s ρ k r h => by simp only [run] at h; cases h
  | .rangeFunc f ps x y => fun s ρ k r h => by simp only [run] at h; cases h
end
end Yp
namespace Yp
open Go
variable {P : Program}
theorem fillU_spec : ∀ (n i : Nat) (s : St), ∃ s' : St, s'.h = s.h ∧ s'.w = s.w ∧ (∀ (γ : Type 1) (k : Tr → γ), fillU n i s.t k = k s'.t) ∧ (∀ j, s'.getT j = s.getT j ∨ (i ≤ j ∧ (s'.getT j = .undef ∨ s'.getT j = .bad)))
  | 0, i, s => ⟨s, rfl, rfl, fun _ _ => rfl, fun _ => .inl rfl⟩
  | n + 1, i, s => by
    obtain ⟨s', h1, h2, h3, h4⟩ := fillU_spec n (i + 1) (s.setT i .undef)
    refine ⟨s', h1, h2, fun γ k => ?_, fun j => ?_⟩
    · simp only [fillU, setF_eq]; exact h3 γ k
    · rcases h4 j with h | ⟨h, h'⟩
      · by_cases hj : j = i
        · subst hj
          right; refine ⟨Nat.le_refl _, ?_⟩
          rw [h]; exact s.getT_same j .undef
        · left; rw [h, s.getT_ne _ hj]
      · exact .inr ⟨by omega, h'⟩
theorem fill_spec (n : Nat) : ∀ (vs : List PV) (i : Nat) (s : St), ∃ s' : St, s'.h = s.h ∧ s'.w = s.w ∧ (∀ (γ : Type 1) (k : Tr → γ), fill n vs i s.t k = k s'.t) ∧
    ∀ j, s'.getT j = s.getT j ∨ (∃ v, i ≤ j ∧ vs[j - i]? = some v ∧ (s'.getT j = v ∨ s'.getT j = .bad)) ∨ (i + vs.length ≤ j ∧ (s'.getT j = .undef ∨ s'.getT j = .bad))
  | [], i, s => by
    obtain ⟨s', h1, h2, h3, h4⟩ := fillU_spec (n - i) i s
    exact ⟨s', h1, h2, h3, fun j => (h4 j).imp id fun h => .inr ⟨by simpa using h.1, h.2⟩⟩
  | v :: vs, i, s => by
    obtain ⟨s', h1, h2, h3, h4⟩ := fill_spec n vs (i + 1) (s.setT i v)
    refine ⟨s', h1, h2, fun γ k => ?_, fun j => ?_⟩
    · simp only [fill, fP_eq, setF_eq]; exact h3 γ k
    · rcases h4 j with h | ⟨u, hj, h, h'⟩ | ⟨h, h'⟩
      · by_cases hj : j = i
        · subst hj
          right; left
          refine ⟨v, Nat.le_refl _, by simp, ?_⟩
          rw [h]; exact s.getT_same j v
        · left; rw [h, s.getT_ne _ hj]
      · right; left
        refine ⟨u, by omega, ?_, h'⟩
        rw [show j - i = (j - (i + 1)) + 1 by omega, List.getElem?_cons_succ]; exact h
      · right; right
        exact ⟨by simp only [List.length_cons]; omega, h'⟩
theorem args_get {H : View} {φ : Pl} {B : Nat → Blk} : ∀ {ts : List Ty} {x : denL ts} {vs : List Value}, ArgsRep H ts x vs → (argsPV ts x).length = vs.length ∧ ∀ (j : Nat) (p : PV), (argsPV ts x)[j]? = some p → ∃ v : Value, vs[j]? = some v ∧ RepP φ H B p v
  | [], x, vs, h => by have h : vs = [] := h; subst h; exact ⟨rfl, fun j p h => by simp [argsPV] at h⟩
  | t :: ts, x, vs, h => by
    obtain ⟨cs, vs', rfl, h1, h2⟩ := h
    obtain ⟨g1, g2⟩ := args_get (φ := φ) (B := B) h2
    refine ⟨by simp [argsPV, g1], fun j p hj => ?_⟩
    cases j with
    | zero =>
      simp only [argsPV, List.getElem?_cons_zero, Option.some.injEq] at hj
      subst hj
      exact ⟨_, rfl, cs, h1, rfl⟩
    | succ j =>
      simp only [argsPV, List.getElem?_cons_succ] at hj
      obtain ⟨v, h3, h4⟩ := g2 j p hj
      exact ⟨v, by simpa using h3, h4⟩
structure EOK (P : Program) (E : Env) : Prop where
  T : tabOK P E.T
  C : cmpOK P E.T E.C
  M : mapsOK P E.M
  G : ∀ f s, E.G f = some s → FOK P f s
  I : ∀ f g, E.I f = some g → InlOK P f g
theorem model_go {E : Env} (hE : EOK P E) (hmix : P.follows .mixedOrders = true) {f : Nat} {fn : Func} (hf : P.funcs[f]? = some fn) (hname : (fn.name == "runtime.NumGoroutine") = false)
    (nv : Nat) (ts : List Ty) (rs : List RTy) (hb : fn.body.isSome = true) : FOK P f ⟨ts, rs, model E fn nv ts rs⟩ := by
  refine ⟨⟨fn, hf, hb, hname⟩, ?_⟩
  intro w X x vs r hX hargs hmod
  have hmod : model E fn nv ts rs x = some r := hmod
  unfold model at hmod
  cases hbody : fn.body with
  | none => rw [hbody] at hb; cases hb
  | some c =>
    rw [hbody] at hmod
    simp only at hmod
    cases hle : Nat.ble fn.ntmps 1000000 with
    | false => rw [hle] at hmod; cases hmod
    | true =>
      rw [hle] at hmod
      simp only [Bool.not_true, cond_false] at hmod
      have hnt : fn.ntmps ≤ 1000000 := by simpa using hle
      obtain ⟨s, h1, h2, h3, h4⟩ := fill_spec fn.ntmps (argsPV ts x) 0 ⟨.e, [], []⟩
      rw [h3] at hmod
      have hs : (⟨s.t, [], []⟩ : St) = s := by cases s; simp only at h1 h2; rw [h1, h2]
      rw [hs] at hmod
      refine calls_of_wp hf hbody ?_
      let K : Kp := ⟨fun b => b < w.heap.size, X⟩
      have hB : s.getB = fun _ => Blk.new := by funext j; unfold St.getB; rw [h1]; rfl
      have hm : Mem K w (fun _ => none) X s.getB w := by
        rw [hB]
        exact ⟨rfl, rfl, rfl, Nat.le_refl _, fun _ _ => rfl, fun _ h => h, fun _ _ => Iff.rfl, (fun _ h => by cases h), hX, fun _ => trivial, (fun _ _ _ h => by cases h)⟩
      obtain ⟨g1, g2⟩ := args_get (φ := fun _ => none) (B := s.getB) hargs
      have hslots : Slots (fun _ => none) (view w X) s.getB s.getT { tmps := vs.toArray ++ Array.replicate (fn.ntmps - vs.toArray.size) undef, defers := [] } := by
        intro j
        have hbad : (⟨.e, [], []⟩ : St).getT j = .bad := Tr.get_e 40 j
        rcases h4 j with h | ⟨p, _, h, h'⟩ | ⟨h, h'⟩
        · rw [h, hbad]; trivial
        · rcases h' with h' | h' <;> rw [h']
          · obtain ⟨v, hv, hr⟩ := g2 j p (by simpa using h)
            have hlt : j < vs.length := (List.getElem?_eq_some_iff.1 hv).1
            have : (vs.toArray ++ Array.replicate (fn.ntmps - vs.toArray.size) undef).getD j undef = v := by
              rw [Array.getD_eq_getD_getElem?, Array.getElem?_append_left (by simpa using hlt)]
              simp [hv]
            show RepP _ _ _ p ((vs.toArray ++ Array.replicate (fn.ntmps - vs.toArray.size) undef).getD j undef)
            rw [this]; exact hr
          · trivial
        · rcases h' with h' | h' <;> rw [h']
          · have hlt : vs.length ≤ j := by rw [g1] at h; simpa using h
            have : (vs.toArray ++ Array.replicate (fn.ntmps - vs.toArray.size) undef).getD j undef = undef := by
              rw [Array.getD_eq_getD_getElem?, Array.getElem?_append_right (by simpa using hlt)]
              by_cases hj : j - vs.toArray.size < fn.ntmps - vs.toArray.size
              · rw [Array.getElem?_replicate, if_pos hj]; rfl
              · rw [Array.getElem?_replicate, if_neg hj]; rfl
            exact this
          · trivial
      have hsize : fn.ntmps ≤ (vs.toArray ++ Array.replicate (fn.ntmps - vs.toArray.size) undef).size := by simp; omega
      refine run_go (P := P) (w0 := w) (K := K) hE.T hE.C hE.M hE.G hE.I hmix (fun _ b => Iff.rfl) hnt c s (denR rs) _ r hmod (fun _ => none) X w _ hm hslots hsize _ (fun s2 φ' M' w' a' hk hn => ?_) (fun id s2 φ' M' w' a' hk hn => by cases hk) (fun y w' a' hk hd hu => ?_)
      · obtain ⟨vs2, us, q1, q2, q3⟩ := resV_go hE.T hk hn.mem hn.slots
        have q1' : ((rets s2 rs vs2).bind R.leaf).ev = some r := by rw [bind_leaf]; exact q1
        obtain ⟨y, M2, B2, q4, m1, v1, _, rr⟩ := rets_go (K := K) (w0 := w) q1' hn.mem q2 (U := fun _ => False) ⟨fun _ _ _ _ h => h, fun _ h => h.elim⟩
        cases q4
        exact ⟨hn.keep.2.1, vrOf us, results_go q3, vrOf us, rfl, M2, m1.os, m1.tape, m1.output, m1.size, fun b hb => m1.keep b hb, fun b hb => m1.hid b hb, m1.mlt, us, rr, rfl⟩
      · cases hk
        obtain ⟨us, q1, q2⟩ := hu
        exact ⟨hd, vrOf us, results_go q1, vrOf us, rfl, q2⟩
theorem tup_go {φ : Pl} {H : View} {B : Nat → Blk} {vs : List PV} {us : List Value} (h : PVs φ H B vs us) (hn : vs.all notTup = true) : RepP φ H B (tupOf vs) (vrOf us) := by
  have list : ∀ {vs : List PV} {us : List Value}, PVs φ H B vs us → vs.all notTup = true → RepL φ H B (vs.foldr PV.two (.sc .unit ())) us := by
    intro vs
    induction vs with
    | nil => intro us h _; cases us with
      | nil => rfl
      | cons => exact h.elim
    | cons v vs ih =>
      intro us h hn
      cases us with
      | nil => exact h.elim
      | cons u us =>
        simp only [List.all_cons, Bool.and_eq_true] at hn
        exact ⟨u, us, rfl, toQ h.1 (notTup_ne hn.1), ih h.2 hn.2⟩
  match vs, us, h, hn with
  | [], [], _, _ => exact ⟨[], rfl, rfl⟩
  | [v], [u], h, _ => exact h.1
  | v :: v' :: vs, u :: u' :: us, h, hn => exact ⟨_, list h hn, rfl⟩
  | [], _ :: _, h, _ => exact h.elim
  | _ :: _, [], h, _ => exact h.elim
  | [_], _ :: _ :: _, h, _ => exact h.2.elim
  | _ :: _ :: _, [_], h, _ => exact h.2.elim
theorem pvs_get {H : View} {φ : Pl} {B : Nat → Blk} : ∀ {ps : List PV} {vs : List Value}, PVs φ H B ps vs → ∀ (j : Nat) (p : PV), ps[j]? = some p → ∃ v : Value, vs[j]? = some v ∧ RepP φ H B p v
  | [], [], _, j, p, h => by simp at h
  | p :: ps, v :: vs, h, j, q, hj => by
    cases j with
    | zero => simp only [List.getElem?_cons_zero, Option.some.injEq] at hj; subst hj; exact ⟨v, rfl, h.1⟩
    | succ j =>
      simp only [List.getElem?_cons_succ] at hj
      obtain ⟨u, h1, h2⟩ := pvs_get h.2 j q hj
      exact ⟨u, by simpa using h1, h2⟩
  | [], _ :: _, h, _, _, _ => h.elim
  | _ :: _, [], h, _, _, _ => h.elim
theorem inl_go {E : Env} (hE : EOK P E) (hmix : P.follows .mixedOrders = true) {f : Nat} {fn : Func} (hf : P.funcs[f]? = some fn) (hname : (fn.name == "runtime.NumGoroutine") = false)
    (nv : Nat) (hb : fn.body.isSome = true) : InlOK P f (inlF E fn nv) := by
  refine ⟨⟨fn, hf, hb, hname⟩, ?_⟩
  intro K w0 bs ps s ρ k r h φ M w vs hm hps
  unfold inlF at h
  cases hbody : fn.body with
  | none => rw [hbody] at hb; cases hb
  | some c =>
    rw [hbody] at h
    simp only at h
    cases hle : Nat.ble fn.ntmps 1000000 with
    | false => rw [hle] at h; cases h
    | true =>
      rw [hle] at h
      simp only [Bool.not_true, cond_false] at h
      have hnt : fn.ntmps ≤ 1000000 := by simpa using hle
      obtain ⟨s1, h1, h2, h3, h4⟩ := fill_spec fn.ntmps ps 0 ⟨.e, s.h, s.w⟩
      rw [h3] at h
      have hs : (⟨s1.t, s.h, s.w⟩ : St) = s1 := by cases s1; simp only at h1 h2; rw [h1, h2]
      rw [hs, R.bind_assoc] at h
      refine calls_of_wp hf hbody ?_
      have hB : s1.getB = s.getB := by funext j; unfold St.getB; rw [h1]
      have hm1 : Mem K w0 φ M s1.getB w := by rw [hB]; exact hm
      have g1 := hps.length
      have g2 := pvs_get hps
      have hslots : Slots φ (view w M) s1.getB s1.getT { tmps := vs.toArray ++ Array.replicate (fn.ntmps - vs.toArray.size) undef, defers := [] } := by
        intro j
        rw [hB]
        have hbad : (⟨.e, s.h, s.w⟩ : St).getT j = .bad := Tr.get_e 40 j
        rcases h4 j with h | ⟨p, _, h, h'⟩ | ⟨h, h'⟩
        · rw [h, hbad]; trivial
        · rcases h' with h' | h' <;> rw [h']
          · obtain ⟨v, hv, hr⟩ := g2 j p (by simpa using h)
            have hlt : j < vs.length := (List.getElem?_eq_some_iff.1 hv).1
            have : (vs.toArray ++ Array.replicate (fn.ntmps - vs.toArray.size) undef).getD j undef = v := by
              rw [Array.getD_eq_getD_getElem?, Array.getElem?_append_left (by simpa using hlt)]
              simp [hv]
            show RepP _ _ _ p ((vs.toArray ++ Array.replicate (fn.ntmps - vs.toArray.size) undef).getD j undef)
            rw [this]; exact hr
          · trivial
        · rcases h' with h' | h' <;> rw [h']
          · have hlt : vs.length ≤ j := by rw [g1] at h; simpa using h
            have : (vs.toArray ++ Array.replicate (fn.ntmps - vs.toArray.size) undef).getD j undef = undef := by
              rw [Array.getD_eq_getD_getElem?, Array.getElem?_append_right (by simpa using hlt)]
              by_cases hj : j - vs.toArray.size < fn.ntmps - vs.toArray.size
              · rw [Array.getElem?_replicate, if_pos hj]; rfl
              · rw [Array.getElem?_replicate, if_neg hj]; rfl
            exact this
          · trivial
      have hsize : fn.ntmps ≤ (vs.toArray ++ Array.replicate (fn.ntmps - vs.toArray.size) undef).size := by simp; omega
      -- its end
      have fin : ∀ s2 φ' M' w' a', (((resV { E with b := bs } s2 fn.results.toList).bind fun vs => bif vs.all notTup then .leaf (tupOf vs, (⟨s.t, s2.h, s2.w⟩ : St)) else .fail).bind k).ev = some r →
          Now K w0 (assigned c) s1 φ M w { tmps := vs.toArray ++ Array.replicate (fn.ntmps - vs.toArray.size) undef, defers := [] } s2 φ' M' w' a' →
          a'.defers = [] ∧ ∃ v, (results fn a'.tmps).run P w' = .ok v w' ∧ (∃ vr, Ending.returned v = .returned vr ∧ ∃ v s2 φ' M', (k (v, s2)).ev = some r ∧ Mem K w0 φ' M' s2.getB w' ∧ Ext φ M s.getB w φ' M' s2.getB w' ∧ RepP φ' (view w' M') s2.getB v vr ∧ Fr [] s s2) := by
        intro s2 φ' M' w' a' hk hn
        rw [R.bind_assoc] at hk
        obtain ⟨vs2, us, q1, q2, q3⟩ := resV_go (E := { E with b := bs }) hE.T hk hn.mem hn.slots
        cases hall : vs2.all notTup with
        | false => rw [hall] at q1; cases q1
        | true =>
          rw [hall, cond_true] at q1
          have q1 : (k (tupOf vs2, (⟨s.t, s2.h, s2.w⟩ : St))).ev = some r := q1
          have hB2 : (⟨s.t, s2.h, s2.w⟩ : St).getB = s2.getB := rfl
          refine ⟨hn.keep.2.1, vrOf us, results_go q3, vrOf us, rfl, tupOf vs2, ⟨s.t, s2.h, s2.w⟩, φ', M', q1, hn.mem, by rw [← hB]; exact hn.ext, tup_go q2 hall, fun _ _ => rfl, ?_⟩
          obtain ⟨_, nw, f1, f2⟩ := hn.fr
          exact ⟨nw, by show s2.w = nw ++ s.w; rw [f1, h2], fun id hid => by show s2.getB id = s.getB id; rw [f2 id hid, hB]⟩
      refine run_go (P := P) (w0 := w0) (K := K) (E := { E with b := bs }) (inl := true) hE.T hE.C hE.M hE.G hE.I hmix (fun h => by cases h) hnt c s1 ρ _ r h φ M w _ hm1 hslots hsize _ (fun s2 φ' M' w' a' hk hn => ?_) (fun id s2 φ' M' w' a' hk hn => ?_) (fun y w' a' hk hd hu => by cases hk)
      · exact fin s2 φ' M' w' a' hk hn
      · replace hk : ((bif Nat.beq id RET then (resV { E with b := bs } s2 fn.results.toList).bind fun vs => bif vs.all notTup then .leaf (tupOf vs, (⟨s.t, s2.h, s2.w⟩ : St)) else .fail else .fail : R (PV × St)).bind k).ev = some r := hk
        cases hb : Nat.beq id RET with
        | false => rw [hb] at hk; cases hk
        | true =>
          rw [hb, cond_true] at hk
          unfold exitOf
          rw [if_pos (Nat.eq_of_beq_eq_true hb)]
          exact fin s2 φ' M' w' a' hk hn
theorem lookI_nil (f : Nat) (g : Inl) : lookI [] f = some g → InlOK P f g := fun h => by cases h
theorem lookI_cons {l : List (Nat × Inl)} (h : ∀ f g, lookI l f = some g → InlOK P f g) {f0 : Nat} {g0 : Inl} (h0 : InlOK P f0 g0) : ∀ f g, lookI ((f0, g0) :: l) f = some g → InlOK P f g := by
  intro f g hs
  simp only [lookI] at hs
  cases hb : Nat.beq f0 f with
  | true => rw [hb] at hs; cases hs; rw [← Nat.eq_of_beq_eq_true hb]; exact h0
  | false => rw [hb] at hs; exact h f g hs
theorem lookG_nil (f : Nat) (s : FSpec) : lookG [] f = some s → FOK P f s := fun h => by cases h
theorem lookG_cons {l : List (Nat × FSpec)} (h : ∀ f s, lookG l f = some s → FOK P f s) {f0 : Nat} {s0 : FSpec} (h0 : FOK P f0 s0) : ∀ f s, lookG ((f0, s0) :: l) f = some s → FOK P f s := by
  intro f s hs
  simp only [lookG] at hs
  cases hb : Nat.beq f0 f with
  | true => rw [hb] at hs; cases hs; rw [← Nat.eq_of_beq_eq_true hb]; exact h0
  | false => rw [hb] at hs; exact h f s hs
theorem FOK.congr {f : Nat} {ts : List Ty} {rs : List RTy} {m m' : denL ts → Option (denR rs)} (h : FOK P f ⟨ts, rs, m⟩) (he : ∀ x, m x = m' x) : FOK P f ⟨ts, rs, m'⟩ := by
  have : m = m' := funext he
  rw [← this]; exact h
end Yp
namespace Yp
open Go Go.ChangeShapes Go.WideShapes Go.ChangeAt Go.RowKit
variable {P : Program} {H : Type} {enc : TypeId × Value → H}
theorem cellsOf_fit {t : Ty} {tid : TypeId} (h : (fit P t).1 tid) : P.cellsOf tid = t.size := by
  obtain ⟨i, h1, h2, _⟩ := fit_info h
  simp [Program.cellsOf, h1, h2]
theorem cells_seg {w : World} {base : Nat} {a : Addr} {n : Nat} {cs : List Value} (h : w.cells? base a n = some cs) (hn : 0 < n) (hs : a.spot = none) :
    ∃ c el fz, w.heap[a.block]? = some (.cells c el fz) ∧ a.off + n ≤ c.size ∧ cs = seg c a.off n := by
  unfold World.cells? at h
  split at h
  · have hlen := mapM_some_length h
    have hget := mapM_some_get h
    simp only [List.length_range] at hlen
    have hadd : ∀ i, a.add i = ⟨a.block, a.off + i, none⟩ := fun i => by
      obtain ⟨b, o, s⟩ := a
      simp only at hs; subst hs
      exact add_none b o i
    have at' : ∀ i, i < n → w.cell? ⟨a.block, a.off + i, none⟩ = cs[i]? := fun i hi => by
      have := hget i i (by simp [hi])
      rw [hadd] at this; exact this
    have h0 := at' 0 hn
    rw [List.getElem?_eq_getElem (by omega)] at h0
    cases hb : w.heap[a.block]? with
    | none => simp [World.cell?, hb] at h0
    | some ob =>
      cases ob with
      | cells c el fz =>
        have hc : ∀ i, i < n → c[a.off + i]? = cs[i]? := fun i hi => by rw [← at' i hi, cell_of hb]
        have hle : a.off + n ≤ c.size := by
          have := hc (n - 1) (by omega)
          rw [List.getElem?_eq_getElem (by omega)] at this
          have := (Array.getElem?_eq_some_iff.1 this).1
          omega
        refine ⟨c, el, fz, rfl, hle, ?_⟩
        apply List.ext_getElem?
        intro i
        by_cases hi : i < n
        · rw [seg_get hi, hc i hi]
        · have hl := seg_length hle
          rw [List.getElem?_eq_none (by omega), List.getElem?_eq_none (by omega)]
      | _ => simp [World.cell?, hb] at h0
  · cases h
theorem list_of {α : Type} {p : Nat → α → Prop} : ∀ (n : Nat), (∀ i, i < n → ∃ x, p i x) → ∃ l : List α, l.length = n ∧ ∀ i x, lget l i = some x → p i x
  | 0, _ => ⟨[], rfl, fun i x h => by simp [lget] at h⟩
  | n + 1, h => by
    obtain ⟨l, h1, h2⟩ := list_of n fun i hi => h i (by omega)
    obtain ⟨x, hx⟩ := h n (by omega)
    refine ⟨l ++ [x], by simp [h1], fun i y hy => ?_⟩
    simp only [lget] at hy
    by_cases hi : i < n
    · rw [List.getElem?_append_left (by omega)] at hy; exact h2 i y hy
    · rw [List.getElem?_append_right (by omega)] at hy
      have : i = n := by
        rcases Nat.lt_or_ge (i - l.length) 1 with h | h
        · omega
        · rw [List.getElem?_eq_none (by simpa using h)] at hy; cases hy
      subst this
      rw [h1] at hy
      simp at hy; rw [← hy]; exact hx
def posT : Ty → Bool
  | .sl e => Nat.blt 0 e.size && posT e | .pair a b => posT a && posT b | .ar _ e => posT e | .op _ => false | .fn _ => false | _ => true
def okd : (t : Ty) → t.den → Prop
  | .int k, x => k.min ≤ KD.to k x ∧ KD.to k x ≤ k.max
  | .sl e, l => (l : List e.den).length ≤ maxLen ∧ ∀ (i : Nat) (x : e.den), lget (α := e.den) l i = some x → okd e x
  | .ar n e, l => (l : List e.den).length = n ∧ ∀ (i : Nat) (x : e.den), lget (α := e.den) l i = some x → okd e x
  | .pair a b, x => okd a x.1 ∧ okd b x.2
  | .bool, _ => True
  | .str, _ => True
  | .unit, _ => True
  | .op _, _ => True
  | .fn _, _ => True
def okL : (ts : List Ty) → denL ts → Prop
  | [], _ => True
  | t :: ts, x => okd t x.1 ∧ okL ts x.2
theorem trod_C {w : World} {base : Nat} {sp : Nat → Bool} {held : Bool} : ∀ (t : Ty), posT t = true → (∀ (tid : TypeId) (fuel : Nat) (cs : List Value) (x : DataW H × List MemPlace), (fit P t).1 tid → DataW.trod enc P w base sp held fuel tid cs = some x → ∃ d : t.den, RepC (full w) t d cs ∧ okd t d) ∧
    ∀ (l : List Field) (off fuel : Nat) (cs : List Value), (fit P t).2 l off → cs.length = off + t.size → (∀ f ∈ l, ∃ x, DataW.trod enc P w base sp held fuel f.type ((cs.drop f.offset).take (P.cellsOf f.type)) = some x) → ∃ d : t.den, RepC (full w) t d (cs.drop off) ∧ okd t d
  | .op _, hp => by cases hp
  | .fn _, hp => by cases hp
  | .bool, _ => by
    refine ⟨fun tid fuel cs x hf h => ?_, fun l off fuel cs hf => hf.elim⟩
    obtain ⟨b, rfl, _⟩ := DataW.trod_bool hf.1 h
    exact ⟨(b : Bool), RepC.bool_iff.2 rfl, trivial⟩
  | .int k, _ => by
    refine ⟨fun tid fuel cs x hf h => ?_, fun l off fuel cs hf => hf.elim⟩
    obtain ⟨n, rfl, _, hw⟩ := DataW.trod_int hf.1 h
    have hb : k.min ≤ n ∧ n ≤ k.max := by simpa [Lit.wf] using hw
    have he : KD.to k (KD.lit k n) = n := KD.lit_in k n fun hu => ⟨by cases k <;> simp_all [uns, IntKind.min, IntKind.signed], hb.2⟩
    refine ⟨KD.lit k n, RepC.int_iff.2 (by rw [he]), ?_⟩
    simp only [okd]
    rw [he]; exact hb
  | .str, _ => by
    refine ⟨fun tid fuel cs x hf h => ?_, fun l off fuel cs hf => hf.elim⟩
    obtain ⟨s, rfl, _⟩ := DataW.trod_string hf.1 h
    exact ⟨(s.data.toList : List UInt8), RepC.str_iff.2 (by simp), trivial⟩
  | .sl e, hp => by
    refine ⟨fun tid fuel cs x hf h => ?_, fun l off fuel cs hf => hf.elim⟩
    obtain ⟨⟨et, hu, he⟩, _⟩ := hf
    simp only [posT, Bool.and_eq_true, Nat.blt_eq] at hp
    rcases DataW.trod_slice hu h with ⟨rfl, _⟩ | ⟨a, len, cap, elems, rest, n, _, rfl, _, h1, h2, h3, h4, h5, _⟩
    · exact ⟨([] : List e.den), RepC.sl_iff.2 ⟨none, 0, rfl, Nat.le_refl _, by unfold maxLen; omega, .inl rfl⟩, Nat.zero_le _, fun i x h => by simp [lget] at h⟩
    · have hcell := cellsOf_fit he
      rw [hcell] at h5
      by_cases hl : len = 0
      · subst hl
        exact ⟨([] : List e.den), RepC.sl_iff.2 ⟨some a, cap, rfl, h2, h3, .inl rfl⟩, Nat.zero_le _, fun i x h => by simp [lget] at h⟩
      · have hsp : a.spot = none := by
          have := h5 0 (by omega)
          rw [List.getElem?_eq_getElem (by omega), Option.bind_eq_some_iff] at this
          obtain ⟨q, hq, _⟩ := this
          unfold World.cells? at hq
          split at hq
          · have hg := mapM_some_get hq 0 0 (by simp [hp.1])
            have hql := mapM_some_length hq
            simp only [List.length_range] at hql
            rw [List.getElem?_eq_getElem (by omega)] at hg
            have ha : ((a.add (0 * e.size)).add 0) = a := by simp [Addr.add]
            rw [ha] at hg
            cases hs : a.spot with
            | none => rfl
            | some s =>
              simp only [World.cell?, hs] at hg
              split at hg <;> simp at hg
          · cases hq
        have hadd : ∀ i, a.add (i * e.size) = ⟨a.block, a.off + i * e.size, none⟩ := fun i => by
          obtain ⟨b, o, s⟩ := a
          simp only at hsp; subst hsp
          exact add_none b o _
        have key : ∀ i, i < len → ∃ x : e.den, ∃ c el fz, w.heap[a.block]? = some (.cells c el fz) ∧ a.off + i * e.size + e.size ≤ c.size ∧ RepC (full w) e x (seg c (a.off + i * e.size) e.size) ∧ okd e x := fun i hi => by
          have := h5 i hi
          rw [List.getElem?_eq_getElem (by omega), Option.bind_eq_some_iff] at this
          obtain ⟨q, hq, hd⟩ := this
          rw [hadd] at hq
          obtain ⟨c, el, fz, g1, g2, rfl⟩ := cells_seg hq hp.1 rfl
          obtain ⟨d, hd⟩ := (trod_C e hp.2).1 et n _ _ he hd
          exact ⟨d, c, el, fz, g1, g2, hd⟩
        obtain ⟨_, c, el, fz, g1, _, _⟩ := key 0 (by omega)
        have key' : ∀ i, i < len → ∃ x : e.den, a.off + i * e.size + e.size ≤ c.size ∧ RepC (full w) e x (seg c (a.off + i * e.size) e.size) ∧ okd e x := fun i hi => by
          obtain ⟨x, c', el', fz', k1, k2, k3⟩ := key i hi
          rw [g1] at k1; cases k1
          exact ⟨x, k2, k3⟩
        obtain ⟨l, l1, l2⟩ := list_of len key'
        have hge : a.off + len * e.size ≤ c.size := by
          obtain ⟨x, k2, _⟩ := key' (len - 1) (by omega)
          have : len * e.size = (len - 1) * e.size + e.size := by
            conv => lhs; rw [show len = (len - 1) + 1 by omega, Nat.add_mul, Nat.one_mul]
          omega
        obtain ⟨b, o, s⟩ := a
        simp only at hsp; subst hsp
        exact ⟨(l : List e.den), RepC.sl_iff.2 ⟨_, cap, by rw [l1], by rw [l1]; exact h2, h3, .inr ⟨b, o, c, el, fz, rfl, g1, by rw [l1]; exact hge, fun i x hi => (l2 i x hi).2.1⟩⟩, by show l.length ≤ _; rw [l1]; omega, fun i x hi => (l2 i x hi).2.2⟩
  | .unit, _ => by
    refine ⟨fun tid fuel cs x hf h => ?_, fun l off fuel cs hf hl _ => ⟨(), RepC.unit_iff.2 (List.length_eq_zero_iff.1 (by rw [List.length_drop, hl]; simp [Ty.size])), trivial⟩⟩
    obtain ⟨⟨fs, hu, hfs⟩, hi⟩ := hf
    obtain ⟨xs, n, _, _, hl, _⟩ := DataW.trod_struct hu h
    have hc : P.cellsOf tid = Ty.unit.size := cellsOf_fit (t := .unit) ⟨⟨fs, hu, hfs⟩, hi⟩
    exact ⟨(), RepC.unit_iff.2 (List.length_eq_zero_iff.1 (by rw [hl, hc]; rfl)), trivial⟩
  | .pair a b, hp => by
    simp only [posT, Bool.and_eq_true] at hp
    have second : ∀ (l : List Field) (off fuel : Nat) (cs : List Value), (fit P (.pair a b)).2 l off → cs.length = off + (Ty.pair a b).size → (∀ f ∈ l, ∃ x, DataW.trod enc P w base sp held fuel f.type ((cs.drop f.offset).take (P.cellsOf f.type)) = some x) → ∃ d : (Ty.pair a b).den, RepC (full w) (.pair a b) d (cs.drop off) ∧ okd (.pair a b) d := by
      intro l off fuel cs hf hl hx
      obtain ⟨f, r, rfl, h1, h2, h3⟩ := hf
      obtain ⟨x, hx0⟩ := hx f (by simp)
      rw [cellsOf_fit h2, h1] at hx0
      obtain ⟨da, hda, hoa⟩ := (trod_C a hp.1).1 f.type fuel _ _ h2 hx0
      simp only [Ty.size] at hl
      obtain ⟨db, hdb, hob⟩ := (trod_C b hp.2).2 r (off + a.size) fuel cs h3 (by omega) fun f' hf' => hx f' (by simp [hf'])
      refine ⟨(da, db), RepC.pair_iff.2 ⟨_, _, ?_, hda, hdb⟩, hoa, hob⟩
      rw [← List.drop_drop, List.take_append_drop]
    refine ⟨fun tid fuel cs x hf h => ?_, second⟩
    have hc := cellsOf_fit hf
    obtain ⟨⟨fs, hu, f, r, e1, e2, e3, e4⟩, hi⟩ := hf
    obtain ⟨xs, n, rfl, _, hl, hxl, hx⟩ := DataW.trod_struct hu h
    have hf2 : (fit P (.pair a b)).2 fs.toList 0 := ⟨f, r, e1, e2, e3, by simpa using e4⟩
    obtain ⟨d, hd⟩ := second fs.toList 0 n cs hf2 (by rw [hl, hc]; omega) fun f' hf' => by
      obtain ⟨i, hi, rfl⟩ := List.getElem_of_mem hf'
      have hi' : i < fs.size := by simpa using hi
      have := hx i fs[i] (Array.getElem?_eq_getElem hi')
      rw [List.getElem?_eq_getElem (by omega)] at this
      exact ⟨_, by simpa using this⟩
    exact ⟨d, by simpa using hd⟩
  | .ar n e, hp => by
    refine ⟨fun tid fuel cs x hf h => ?_, fun l off fuel cs hf => hf.elim⟩
    have hc := cellsOf_fit hf
    obtain ⟨⟨et, hu, he⟩, _⟩ := hf
    obtain ⟨xs, m, rfl, _, hl, hxl, hx⟩ := DataW.trod_array hu h
    rw [cellsOf_fit he] at hx
    obtain ⟨l, l1, l2⟩ := list_of (p := fun i (x : e.den) => RepC (full w) e x ((cs.drop (i * e.size)).take e.size) ∧ okd e x) n fun i hi => by
      have := hx i hi
      rw [List.getElem?_eq_getElem (by omega)] at this
      exact (trod_C e hp).1 et m _ _ he this
    exact ⟨(l : List e.den), RepC.ar_iff.2 ⟨l1, by rw [hl, hc]; rfl, fun i x h => (l2 i x h).1⟩, l1, fun i x h => (l2 i x h).2⟩
theorem arg_C {w : World} {base : Nat} {sp : Nat → Bool} {held : Bool} {t : Ty} (hp : posT t = true) {tid : TypeId} (hf : (fit P t).1 tid) {r : Reach} {b0 : Nat} {v : Value} {d : DataW H} {ps : List MemPlace} (hval : Value.okWide P w r b0 tid v) (h : DataW.Trod enc P w base sp held tid v d ps) :
    ∃ (x : t.den) (cs : List Value), v = mkV t cs ∧ RepC (full w) t x cs ∧ okd t x := by
  obtain ⟨fuel, h⟩ := h
  obtain ⟨x, hx⟩ := (trod_C t hp).1 tid fuel _ _ hf h
  refine ⟨x, _, ?_, hx⟩
  cases t with
  | op k => cases hp
  | fn k => cases hp
  | bool => obtain ⟨b, rfl⟩ := okWide_bool hf.1 hval; rfl
  | int k => obtain ⟨n, rfl⟩ := okWide_int hf.1 hval; rfl
  | str => obtain ⟨s, rfl⟩ := okWide_string hf.1 hval; rfl
  | sl e => obtain ⟨⟨et, hu, _⟩, _⟩ := hf; obtain ⟨a, l, c, rfl⟩ := okWide_slice hu hval; rfl
  | unit => obtain ⟨⟨fs, hu, _⟩, _⟩ := hf; obtain ⟨cs, rfl, _⟩ := okWide_struct hu hval; simp [mkV, Ty.isAgg, Value.cells]
  | pair a b => obtain ⟨⟨fs, hu, _⟩, _⟩ := hf; obtain ⟨cs, rfl, _⟩ := okWide_struct hu hval; simp [mkV, Ty.isAgg, Value.cells]
  | ar n e =>
    obtain ⟨⟨et, hu, _⟩, _⟩ := hf
    unfold Value.okWide at hval
    rw [hu] at hval
    obtain ⟨cs, rfl, _⟩ := hval
    simp [mkV, Ty.isAgg, Value.cells]
def fitsL (P : Program) : List TypeId → List Ty → Prop
  | [], [] => True
  | i :: is, t :: ts => ((fit P t).1 i ∧ posT t = true) ∧ fitsL P is ts
  | _, _ => False
def fitsLB (P : Program) : List TypeId → List Ty → Bool
  | [], [] => true
  | i :: is, t :: ts => ((fitB P t).1 i && posT t) && fitsLB P is ts
  | _, _ => false
theorem fitsL_of : ∀ {is : List TypeId} {ts : List Ty}, fitsLB P is ts = true → fitsL P is ts
  | [], [], _ => trivial
  | i :: is, t :: ts, h => by
    simp only [fitsLB, Bool.and_eq_true] at h
    exact ⟨⟨(fitB_ok t).1 i h.1.1, h.1.2⟩, fitsL_of h.2⟩
  | [], _ :: _, h => by cases h
  | _ :: _, [], h => by cases h
theorem args_C {w : World} {base : Nat} {sp : Nat → Bool} {held : Bool} {r : Reach} {b0 : Nat} : ∀ {is : List TypeId} {ts : List Ty} {vs : List Value} {ds : List (DataW H)} {ps : List MemPlace}, fitsL P is ts → (∀ (j : Nat) t v, is[j]? = some t → vs[j]? = some v → Value.okWide P w r b0 t v) →
    DataW.TrodAll enc P w base sp held is vs ds ps → ∃ x : denL ts, ArgsRep (full w) ts x vs ∧ okL ts x
  | [], [], [], [], _, _, _, _ => ⟨(), rfl, trivial⟩
  | i :: is, t :: ts, v :: vs, d :: ds, ps, hf, hv, h => by
    obtain ⟨p, q, h1, h2, _⟩ := h
    obtain ⟨x, cs, e1, e2, e3⟩ := arg_C hf.1.2 hf.1.1 (hv 0 i v rfl rfl) h1
    obtain ⟨y, hy, hy'⟩ := args_C hf.2 (fun j t v hj hvj => hv (j + 1) t v (by simpa using hj) (by simpa using hvj)) h2
    exact ⟨(x, y), ⟨cs, vs, by rw [e1], e2, hy⟩, e3, hy'⟩
  | [], [], [], _ :: _, _, _, _, h => h.elim
  | [], [], _ :: _, [], _, _, _, h => h.elim
  | [], [], _ :: _, _ :: _, _, _, _, h => h.elim
  | _ :: _, _ :: _, [], [], _, _, _, h => h.elim
  | _ :: _, _ :: _, [], _ :: _, _, _, _, h => h.elim
  | _ :: _, _ :: _, _ :: _, [], _, _, _, h => h.elim
  | [], _ :: _, _, _, _, hf, _, _ => hf.elim
  | _ :: _, [], _, _, _, hf, _, _ => hf.elim
theorem trodAll_stays {W W' : World} {sp' : Nat → Bool} (hl : laidOutB P = true) : ∀ {is : List TypeId} {vs : List Value} {ds : List (DataW H)} {ps : List MemPlace}, (is.all fun t => P.readableRec t && Nat.blt t P.types.size) = true →
    DataW.TrodAll enc P W 0 (fun _ => true) true is vs ds ps → (∀ p ∈ ps, W.sameAt W' p) → (∀ p ∈ ps, sp' p.block = true) → DataW.TrodAll enc P W' 0 sp' true is vs ds ps
  | [], [], [], _, _, h, _, _ => h
  | t :: is, v :: vs, d :: ds, ps, hr, h, hs, hsp => by
    obtain ⟨p, q, h1, h2, rfl⟩ := h
    simp only [List.all_cons, Bool.and_eq_true, Nat.blt_eq] at hr
    exact ⟨p, q, WideElems.Trod_stays hl hr.1.1 hr.1.2 h1 (fun x hx => hs x (by simp [hx])) (fun x hx => hsp x (by simp [hx])), trodAll_stays hl (by simpa using hr.2) h2 (fun x hx => hs x (by simp [hx])) (fun x hx => hsp x (by simp [hx])), rfl⟩
  | [], [], _ :: _, _, _, h, _, _ => h.elim
  | [], _ :: _, [], _, _, h, _, _ => h.elim
  | [], _ :: _, _ :: _, _, _, h, _, _ => h.elim
  | _ :: _, [], [], _, _, h, _, _ => h.elim
  | _ :: _, [], _ :: _, _, _, h, _, _ => h.elim
  | _ :: _, _ :: _, [], _, _, h, _, _ => h.elim
theorem post_of_below {f : Func} {s : ChangeSpec} {apart fresh handsOn again : Bool} {W W' : World} {args : Array Value} {v : Value} {ds gs : List (DataW H)} {before pa pv : List MemPlace}
    (hW : DataW.Whole enc P f.params.toList s.vars apart W args.toList ds gs before)
    (hres : ∀ (b : Nat) (sp : Nat → Bool) (hd : Bool), DataW.TrodAll enc P W' b sp hd f.resultTypes.toList (v.resultList f.resultTypes.size) (s.fn H (ds ++ gs)).results [])
    (hargs : ∀ sp : Nat → Bool, (∀ p ∈ before, sp p.block = true) → DataW.TrodAll enc P W' 0 sp true f.params.toList args.toList (s.fn H (ds ++ gs)).args pa)
    (hvars : ∀ sp : Nat → Bool, (∀ p ∈ before, sp p.block = true) → DataW.TrodVars enc P W' sp s.vars (s.fn H (ds ++ gs)).vars pv)
    (hps : before = pa ++ pv) (hb : Below W.heap.size W W')
    (hok : ∀ (j : Nat) (t : TypeId) (r : Value), f.resultTypes[j]? = some t → (v.resultList f.resultTypes.size)[j]? = some r → Value.okWide P W' .any 0 t r) :
    s.post enc P f apart fresh handsOn again W args v W' := by
  have hlt : ∀ p ∈ before, p.block < W.heap.size := fun p hp => hW.lt p hp
  have hold : ∀ p ∈ before, (fun b => decide (b < W.heap.size)) p.block = true := fun p hp => by simpa using hlt p hp
  refine ⟨ds, gs, before, [], pa, pv, hW, hres _ _ _, hargs _ hold, hvars _ hold, World.keptBut_mono (fun p hp => ⟨hp, ?_⟩) (hb.frame (· ∈ before)), fun _ => ?_⟩
  · rw [hps, List.mem_append] at hp
    exact Or.inr hp
  · obtain ⟨_, _, _, _, _, hz, hn⟩ := hW
    refine ⟨hok, _, _, ([] ++ pa) ++ pv, ⟨[] ++ pa, pv, trodAll_append (hargs _ (fun _ _ => rfl)) (hres _ _ _), hvars _ (fun _ _ => rfl), rfl, ?_, ?_⟩, ?_⟩
    · intro b off hp
      have hin : MemPlace.cell b off ∈ before := by rw [hps]; simpa using hp
      rw [hb.frozen (hlt _ hin)]
      exact hz b off hin
    · intro ha
      have := hn ha
      rw [hps] at this
      simpa using this
    · intro p hp _
      rw [hps]
      simpa using hp
theorem law_post {F : Nat} {fn : Func} {ts : List Ty} {m : denL ts → Option (denR [.im .bool])} {s : ChangeSpec} (hok : FOK P F ⟨ts, [.im .bool], m⟩) (hfit : fitsLB P fn.params.toList ts = true) (hl : laidOutB P = true)
    (hread : (fn.params.toList.all fun t => P.readableRec t && Nat.blt t P.types.size) = true) {bt : TypeId} (hres : fn.resultTypes = #[bt]) (hbt : P.underlying bt = some .bool) (hvars : s.vars = []) {apart : Bool}
    {W : World} {base : Nat} {args : Array Value} {ds gs : List (DataW H)} {before : List MemPlace} (hfn : ds.length = fn.params.size → (s.fn H (ds ++ gs)).results = [.lit (.bool true)] ∧ (s.fn H (ds ++ gs)).args = ds ∧ (s.fn H (ds ++ gs)).vars = [])
    (hval : ∀ (j : Nat) t v, fn.params[j]? = some t → args[j]? = some v → Value.okWide P W .any base t v) (hW : DataW.Whole enc P fn.params.toList s.vars apart W args.toList ds gs before)
    (htrue : ∀ x : denL ts, okL ts x → m x = some (true, ())) :
    Calls P F args W fun e W' => ∃ v, e = .returned v ∧ s.post enc P fn apart true false false W args v W' := by
  have hW' := hW
  obtain ⟨p, q, hA, hV, hpq, hfz, hnd⟩ := hW
  have hlen : ds.length = fn.params.size := by
    have : ∀ (is : List TypeId) (vs : List Value) (ds : List (DataW H)) (ps : List MemPlace), DataW.TrodAll enc P W 0 (fun _ => true) true is vs ds ps → ds.length = is.length := by
      intro is
      induction is with
      | nil => intro vs ds ps h; cases vs <;> cases ds <;> first | rfl | exact h.elim
      | cons i is ih =>
        intro vs ds ps h
        cases vs <;> cases ds <;> first | exact h.elim | skip
        obtain ⟨_, _, _, h2, _⟩ := h
        simp [ih _ _ _ h2]
    have := this _ _ _ _ hA
    simpa using this
  obtain ⟨f1, f2, f3⟩ := hfn hlen
  obtain ⟨x, hx, hox⟩ := args_C (fitsL_of hfit) (fun j t v hj hv => hval j t v (by simpa using hj) (by simpa using hv)) hA
  have hq : q = [] := by
    rw [hvars] at hV
    cases gs with
    | nil => exact hV
    | cons => exact hV.elim
  subst hq
  have hfull : (full W).Le (view W fun _ => False) := fun b o hb => view_some.2 ⟨fun h => h, hb⟩
  have hc := hok.2 W (fun _ => False) x args.toList (true, ()) (fun _ h => h.elim) (hx.mono hfull) (htrue x hox)
  rw [Array.toArray_toList] at hc
  refine hc.mono ?_
  rintro e W' ⟨vr, rfl, M', k1, k2, k3, k4, k5, k6, k7, us, k8, rfl⟩
  obtain ⟨cs, us', rfl, r1, r2⟩ := k8
  have hus : us' = [] := r2
  subst hus
  have hcs := RepC.bool_iff.1 r1
  subst hcs
  have hb : Below W.heap.size W W' := ⟨k1, k2, k3, k4, k5⟩
  refine ⟨.bool true, rfl, ?_⟩
  refine post_of_below (pa := p) (pv := []) hW' (fun b sp hd => ?_) (fun sp hsp => ?_) (fun sp _ => ?_) hpq hb ?_
  · rw [hres, f1]
    exact trodAll_cons_mk (p := []) (shut_bool hbt true) trodAll_mk0
  · rw [f2]
    refine trodAll_stays hl hread hA (fun y hy => hb.same (by have := hW'.lt y (by rw [hpq]; simpa using hy); exact this)) fun y hy => hsp y (by rw [hpq]; simpa using hy)
  · rw [hvars, f3]; rfl
  · exact ok_one hres rfl (okWide_bool_mk hbt true)
end Yp