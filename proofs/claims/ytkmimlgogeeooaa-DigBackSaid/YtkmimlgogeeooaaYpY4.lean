/- The engine, part Y4: loops. -/
import Derived.Test.YtkmimlgogeeooaaYpY3
set_option linter.unusedVariables false
set_option linter.unusedSimpArgs false
namespace Yp
open Go
variable {P : Program}
theorem wp_loop_rec {c : Code} {Q : Exit → Act → World → Prop} (I : Nat → Act → World → Prop) (hz : ∀ a w, ¬ I 0 a w)
    (round : ∀ n a w, I (n + 1) a w → c.wp P (Exit.then (fun a' w' => I n a' w') Q) a w) {n : Nat} {a : Act} {w : World} (h : I n a w) : (Code.loop c).wp P Q a w := by
  intro b k cs
  have key : ∀ n a w, I n a w → ∃ e a' w', Q e a' w' ∧ Arrives P (lone (b.at a (.code c :: .inLoop c :: k)) cs w) b k cs e a' w' := by
    intro n
    induction n with
    | zero => intro a w h; exact absurd h (hz a w)
    | succ n ih =>
      intro a w hI
      obtain ⟨e, a₁, w₁, hq, harr⟩ := round n a w hI b (.inLoop c :: k) cs
      cases e with
      | normal =>
        obtain ⟨e₂, a₂, w₂, hq₂, harr₂⟩ := ih a₁ w₁ hq
        exact ⟨e₂, a₂, w₂, hq₂, .of_steps (Steps.trans harr (.one step_inLoop)) harr₂⟩
      | exit id => exact ⟨_, a₁, w₁, hq, .pass (x := .inLoop c) rfl (fun _ _ => .inl (by simp)) harr⟩
      | goto l => exact ⟨_, a₁, w₁, hq, .pass (x := .inLoop c) rfl (fun _ _ => .inl (by simp)) harr⟩
      | ret => exact ⟨_, a₁, w₁, hq, .pass (x := .inLoop c) rfl (fun _ _ => .inl (by simp)) harr⟩
      | panic ch => exact ⟨_, a₁, w₁, hq, .pass (x := .inLoop c) rfl (fun _ _ => .inl (by simp)) harr⟩
      | outgrown => exact ⟨_, a₁, w₁, hq, .pass (x := .inLoop c) rfl (fun _ _ => .inl (by simp)) harr⟩
  obtain ⟨e, a', w', hq, harr⟩ := key n a w h
  exact ⟨e, a', w', hq, .of_steps (.one step_loop) harr⟩
theorem mem_dedup : ∀ {l : List Nat} {t : Nat}, t ∈ dedup l ↔ t ∈ l
  | [], t => by simp [dedup]
  | i :: l, t => by
    simp only [dedup]
    cases hc : l.any (Nat.beq i) with
    | true =>
      simp only [cond, List.mem_cons]
      rw [mem_dedup]
      refine ⟨.inr, fun h => h.elim (fun h => ?_) id⟩
      obtain ⟨j, hj, hb⟩ := List.any_eq_true.1 hc
      rw [h, Nat.eq_of_beq_eq_true hb]; exact hj
    | false =>
      simp only [cond, List.mem_cons]
      rw [mem_dedup]
theorem nodupB_spec : ∀ {l : List Nat}, nodupB l = true → l.Nodup
  | [], _ => List.nodup_nil
  | i :: l, h => by
    simp only [nodupB, Bool.and_eq_true, Bool.not_eq_true'] at h
    refine List.nodup_cons.2 ⟨fun hc => ?_, nodupB_spec h.2⟩
    have : l.any (Nat.beq i) = true := List.any_eq_true.2 ⟨i, hc, Nat.beq_refl i⟩
    rw [this] at h; cases h.1
theorem headOK_spec {base : St} {es : List En} {asg : List Nat} (h : headOK base es asg = true) :
    (nids es ++ oids es).Nodup ∧ (∀ id ∈ nids es, base.getB id = .new) ∧ (∀ id ∈ oids es, base.getB id ≠ .new) ∧ ∀ i ∈ enSlots es, i ∈ asg := by
  simp only [headOK, Bool.and_eq_true] at h
  obtain ⟨⟨⟨h1, h2⟩, h3⟩, h4⟩ := h
  refine ⟨nodupB_spec h1, fun id hi => isNew_iff.1 (List.all_eq_true.1 h2 id hi), fun id hi hc => ?_, fun i hi => ?_⟩
  · have := List.all_eq_true.1 h3 id hi
    rw [hc] at this; cases this
  · obtain ⟨j, hj, hb⟩ := List.any_eq_true.1 (List.all_eq_true.1 h4 i hi)
    rw [Nat.eq_of_beq_eq_true hb]; exact hj
theorem endOK_spec {base : St} {es : List En} {s : St} (h : endOK base es s = true) {nw : List Nat} (hw : s.w = nw ++ base.w) : ∀ id ∈ nw, base.getB id = .new ∨ id ∈ oids es := by
  intro id hi
  have ht : s.w.take (s.w.length - base.w.length) = nw := by
    rw [hw]
    simp only [List.length_append, Nat.add_sub_cancel]
    exact List.take_left
  unfold endOK at h
  rw [ht] at h
  have := List.all_eq_true.1 h id hi
  simp only [Bool.or_eq_true] at this
  rcases this with h | h
  · exact .inl (isNew_iff.1 h)
  · obtain ⟨j, hj, hb⟩ := List.any_eq_true.1 h
    right; rw [Nat.eq_of_beq_eq_true hb]; exact hj
theorem exits_ev {ρ σ : Type} {kk : Nat} {s : St} {k : Out σ → R ρ} {r : ρ} : ∀ {l : List Nat}, ((exits kk s l).bind k).ev = some r → (k (.ex kk s)).ev = some r
  | [], h => by cases h
  | [i], h => by
    simp only [exits, R.bind, R.ev, ck] at h
    cases hc : neb kk i with
    | false => rw [hc] at h; cases h
    | true => rw [hc] at h; have := Nat.eq_of_beq_eq_true hc; subst this; exact h
  | i :: j :: l, h => by
    simp only [exits, R.bind, R.ev, sel] at h
    cases hc : neb kk i with
    | false => rw [hc] at h; exact exits_ev h
    | true => rw [hc] at h; have := Nat.eq_of_beq_eq_true hc; subst this; exact h
theorem loop_some {σ ρ : Type} {f : σ → Option (LS σ ρ)} {x : σ} {o : LS σ ρ} (h : loop f x = some o) : ∃ n, loopN f n x = some o := by
  unfold loop at h
  split at h
  · exact ⟨_, h⟩
  · cases h
theorem boxTy_oids : ∀ {es : List En} {id : Nat} {t : Ty}, boxTy es id = some t → id ∈ oids es
  | [], _, _, h => by cases h
  | .sl _ _ :: es, _, _, h => boxTy_oids (es := es) h
  | .ow _ _ _ :: es, _, _, h => boxTy_oids (es := es) h
  | .bk _ _ :: es, _, _, h => List.mem_cons_of_mem _ (boxTy_oids (es := es) h)
  | .it _ _ :: es, _, _, h => List.mem_cons_of_mem _ (boxTy_oids (es := es) h)
  | .bx id' t' sh :: es, id, t, h => by
    simp only [boxTy] at h
    split at h
    · rename_i e; rw [e]; simp [oids]
    · exact List.mem_cons_of_mem _ (boxTy_oids h)
section
variable {K : Kp} {w0 w : World} {φ : Pl} {M : Nat → Prop} {B B' : Nat → Blk} {g : Nat → PV} {a : Act} {E : Env} {rs : List RTy} {res : List ResultVar} {nv nt : Nat}
theorem EF.oid {lo : Nat} {B2 : Nat → Blk} : ∀ {es : List En} {x : denE es} {U U' : Nat → Prop}, EF φ w M B2 lo a es x U U' → ∀ id ∈ oids es, ∀ t v, B2 id = .box t v → ∃ t' sh, En.bx id t' sh ∈ es
  | [], _, _, _, _, id, hi, _, _, _ => by simp [oids] at hi
  | .sl i t' :: es, x, U, U', h, id, hi, t, v, hb => by obtain ⟨t', sh, h⟩ := EF.oid (es := es) h.2 id hi t v hb; exact ⟨t', sh, by simp [h]⟩
  | .ow i _ e :: es, x, U, U', h, id, hi, t, v, hb => by obtain ⟨_, Um, _, h⟩ := h; obtain ⟨t', sh, h⟩ := EF.oid (es := es) h id hi t v hb; exact ⟨t', sh, by simp [h]⟩
  | .bk id' e :: es, x, U, U', h, id, hi, t, v, hb => by
    simp only [oids, List.mem_cons] at hi
    rcases hi with rfl | hi
    · rw [h.1] at hb; cases hb
    · obtain ⟨t', sh, h⟩ := EF.oid (es := es) h.2 id hi t v hb; exact ⟨t', sh, by simp [h]⟩
  | .it id' s :: es, x, U, U', h, id, hi, t, v, hb => by
    simp only [oids, List.mem_cons] at hi
    rcases hi with rfl | hi
    · obtain ⟨⟨s', h1⟩, _⟩ := h; rw [h1] at hb; cases hb
    · obtain ⟨t', sh, h⟩ := EF.oid (es := es) h.2 id hi t v hb; exact ⟨t', sh, by simp [h]⟩
  | .bx id' t0 sh0 :: es, x, U, U', h, id, hi, t, v, hb => by
    simp only [oids, List.mem_cons] at hi
    rcases hi with rfl | hi
    · exact ⟨t0, sh0, by simp⟩
    · obtain ⟨_, _, b, o, c, el, fz, Um, _, _, _, _, _, _, h⟩ := h
      obtain ⟨t', sh, h⟩ := EF.oid (es := es) h id hi t v hb; exact ⟨t', sh, by simp [h]⟩
/-- what holds after some code -/
structure Now (K : Kp) (w0 : World) (D : List Nat) (s : St) (φ : Pl) (M : Nat → Prop) (w : World) (a : Act) (s2 : St) (φ' : Pl) (M' : Nat → Prop) (w' : World) (a' : Act) : Prop where
  fr : Fr D s s2
  mem : Mem K w0 φ' M' s2.getB w'
  ext : Ext φ M s.getB w φ' M' s2.getB w'
  slots : Slots φ' (view w' M') s2.getB s2.getT a'
  keep : Keep D a a'
def RunGo (P : Program) (K : Kp) (w0 : World) (E : Env) (rs : List RTy) (res : List ResultVar) (nv nt : Nat) (c : Code) : Prop :=
  ∀ (s : St) (ρ : Type) (k : Out (denR rs) → R ρ) (r : ρ), ((run E rs res nv nt c s).bind k).ev = some r → ∀ (φ : Pl) (M : Nat → Prop) (w : World) (a : Act), Mem K w0 φ M s.getB w → Slots φ (view w M) s.getB s.getT a → nt ≤ a.tmps.size →
    ∀ (Q : Exit → Act → World → Prop),
      (∀ s2 φ' M' w' a', (k (.nx s2)).ev = some r → Now K w0 (assigned c) s φ M w a s2 φ' M' w' a' → Q .normal a' w') →
      (∀ id s2 φ' M' w' a', (k (.ex id s2)).ev = some r → Now K w0 (assigned c) s φ M w a s2 φ' M' w' a' → Q (.exit id) a' w') →
      (∀ x w' a', (k (.rt x)).ev = some r → a'.defers = a.defers → (∃ us, resRun P a'.tmps w' res us ∧ RetOK w0 K.x w' rs x (vrOf us)) → Q .ret a' w') → c.wp P Q a w
theorem live_ne {b : Blk} (h : b.live = true) : b ≠ .new := by rintro rfl; cases h
theorem ne_live {b : Blk} (h : b ≠ .new) : b.live = true := by cases b <;> first | rfl | exact absurd rfl h
theorem le_new {b c : Blk} (h : b.Le c) (hc : c = .new) : b = .new := by subst hc; cases b <;> first | rfl | exact h.elim
theorem loop_go (hK : ∀ b, K.k b ↔ b < w0.heap.size) {b : Code} (ih : RunGo P K w0 E rs res nv nt b) : RunGo P K w0 E rs res nv nt (.loop b) := by
  intro s ρ k r h φ0 M0 w00 a0 hm hs hna Q _ hqe hqr
  simp only [run, R.leavesF_eq, fEs_eq] at h
  generalize hes : entries s ((run E rs res nv nt b s).leaves) (dedup (assigned b)) = es at h
  generalize hex : exOf ((run E rs res nv nt b s).leaves) = exs at h
  rw [R.bind_assoc] at h
  obtain ⟨x0, s1, M1, U1, h1, m1, e1, t1, f1, st1, tk1, ef1⟩ := outL_go (a := a0) hK h hm hs (U := fun _ => False) ⟨fun _ _ _ _ h => h, fun _ h => h.elim⟩
  obtain ⟨base, bB, bw, bT, bT', bk⟩ := wipe_spec (dedup (assigned b)) s1
  rw [bk] at h1
  cases hho : headOK base es (dedup (assigned b)) with
  | false => rw [hho] at h1; cases h1
  | true =>
    rw [hho, cond_true] at h1
    obtain ⟨hnd, hnew, hold, hsl⟩ := headOK_spec hho
    simp only [R.bind, R.ev] at h1
    -- static facts
    have hbox : ∀ id t v, base.getB id = .box t v → ∀ j ∈ refsL v, base.getB j ≠ .new := by
      intro id t v hb
      rw [bB] at hb ⊢
      have := m1.blks id
      rw [hb] at this
      obtain ⟨_, _, _, _, _, _, _, _, hT, _⟩ := this
      exact hT.old
    have holdT : ∀ t, t ∉ dedup (assigned b) → ∀ j ∈ refsL (base.getT t), base.getB j ≠ .new := by
      intro t ht
      rw [bB, bT t ht]
      have := (hs.ext e1) t
      rw [← t1] at this
      exact this.old
    -- the head
    let Head : denE es → Act → World → Prop := fun x a w => ∃ (sx : St) (φ : Pl) (M : Nat → Prop), (∀ (γ : Type 1) (k : St → γ), inL base es x k = k sx) ∧ Mem K w0 φ M sx.getB w ∧ Slots φ (view w M) sx.getB sx.getT a ∧
      Ext φ0 M0 s.getB w00 φ M sx.getB w ∧ Keep (assigned b) a0 a ∧ (∀ id, (base.getB id).Le (sx.getB id)) ∧ (∃ nw, sx.w = nw ++ base.w ∧ ∀ id, id ∉ nw → sx.getB id = base.getB id) ∧ (∀ t, t ∉ enSlots es → sx.getT t = base.getT t)
    have assemble : ∀ (s' : St) (φ' : Pl) (M2 : Nat → Prop) (w' : World) (a' : Act) (y : denE es) (s2 : St) (U' : Nat → Prop), Mem K w0 φ' M2 s2.getB w' → Slots φ' (view w' M2) s2.getB s2.getT a' → Ext φ0 M0 s.getB w00 φ' M2 s2.getB w' → Keep (assigned b) a0 a' →
        Taken φ' M2 s2.getB U' → EF φ' w' M2 s2.getB w0.heap.size a' es y (fun _ => False) U' → (∀ t, t ∉ dedup (assigned b) → s2.getT t = base.getT t) → (∀ id, base.getB id ≠ .new → id ∉ oids es → s2.getB id = base.getB id) → (∀ id, (base.getB id).Le (s2.getB id)) → Head y a' w' := by
      intro s' φ' M2 w' a' y s2 U' hm2 hs2 he2 hk2 htk hef hc1 hc2 hle
      have hob : ∀ id ∈ oids es, ∀ t v, s2.getB id = .box t v → ∃ t', boxTy es id = some t' := fun id hi t v hb => by
        obtain ⟨t', sh, hmem⟩ := hef.oid id hi t v hb
        exact boxTy_mem hmem
      obtain ⟨mm, hle2, hmut⟩ := mid_mem hm2 hef hbox hc2 hob
      have hrd : Ready φ' s2.getB φ' (mid base.getB s2.getB es) es := mid_ready hold hef (fun e h => h) (fun id h => h) hef
      have hsl0 : Slots φ' (view w' M2) (mid base.getB s2.getB es) base.getT a' := by
        intro t
        by_cases ht : t ∈ dedup (assigned b)
        · rw [bT' t ht]; trivial
        · rw [← hc1 t ht]
          refine RepP.loc (fun _ _ _ => rfl) (View.Le.refl _) (fun j hj => hle2 j ?_) (hs2 t)
          rw [hc1 t ht] at hj
          exact holdT t ht j hj
      have hag : Agree (mid base.getB s2.getB es) base es := by
        refine ⟨fun j hj => ?_, fun j s' p hj => ?_⟩
        · unfold mid
          split
          · rename_i hn; exact (isNew_iff.1 hn).symm
          · rename_i hn
            have hn' : base.getB j ≠ .new := fun h => hn (isNew_iff.2 h)
            cases hb : boxTy es j with
            | some t => exact absurd (boxTy_oids hb) hj
            | none => exact hc2 j hn' hj
        · unfold mid at hj
          split at hj
          · cases hj
          · rename_i hn
            have hn' : base.getB j ≠ .new := fun h => hn (isNew_iff.2 h)
            split at hj
            · cases hj
            · have := hle j
              rw [hj] at this
              generalize base.getB j = q at this hn'
              cases q <;> simp only [Blk.Le] at this <;> first | exact this.elim | exact absurd rfl hn' | exact ⟨_, by rw [this]⟩
      have hnewm : ∀ id ∈ nids es, mid base.getB s2.getB es id = .new := fun id hi => by unfold mid; rw [if_pos (isNew_iff.2 (hnew id hi))]
      obtain ⟨sx, φx, q1, q2, q3, q4, q5, ⟨nw, q6, q6a, q6b⟩, q7⟩ := inL_go (Uf := U') (A := fun _ => False) hK mm hsl0 hag hnewm hnd hef hrd (fun b hb => hb) (fun b hb => hb.elim) (fun j hj z hz => .inl (htk.1 j (hmut j hj) z hz))
      have chain : ∀ id, base.getB id ≠ .new → (s2.getB id).Le (sx.getB id) := fun id hid => (hle2 id hid).trans (q3.bl id)
      have nonnew : ∀ id, s.getB id ≠ .new → base.getB id ≠ .new := fun id hid hc => hid (le_new (e1.bl id) (by rw [← bB]; exact hc))
      refine ⟨sx, φx, M2, q1, q2, q4, ⟨fun id hl => ?_, he2.vw.trans q3.vw, fun id => ?_⟩, hk2, fun id => ?_, ⟨nw, q6, q6b⟩, q7⟩
      · have hb := nonnew id (live_ne hl)
        rw [q5 id fun hc => hb (hnew id hc)]
        exact he2.pl id hl
      · by_cases hid : s.getB id = .new
        · rw [hid]; cases sx.getB id <;> trivial
        · exact (he2.bl id).trans (chain id (nonnew id hid))
      · by_cases hid : base.getB id = .new
        · rw [hid]; cases sx.getB id <;> trivial
        · exact (hle id).trans (chain id hid)
    -- what the loop comes to
    cases hl : loop (fun x => (inL base es x fun s => R.bind (run E rs res nv nt b s) (roundEnd base es)).ev) x0 with
    | none => rw [hl] at h1; cases h1
    | some o =>
      rw [hl] at h1
      obtain ⟨n, hn⟩ := loop_some hl
      have hnx : ∀ y, o ≠ .nx y := by rintro y rfl; cases h1
      -- what becomes of its end
      have finE : ∀ kk y, o = .ex kk y → ∀ a' w', Head y a' w' → Q (.exit kk) a' w' := by
        rintro kk y rfl a' w' ⟨sx, φ, M, p1, p2, p3, p4, p5, p6, ⟨nw, p7, p7b⟩, p8⟩
        have h1 : ((inL base es y fun s => exits kk s exs).bind k).ev = some r := h1
        rw [p1] at h1
        refine hqe kk sx φ M w' a' (exits_ev h1) ⟨⟨fun t ht => ?_, ?_⟩, p2, p4, p3, p5⟩
        · have ht' : t ∉ dedup (assigned b) := fun hc => ht (mem_dedup.1 hc)
          rw [p8 t fun hc => ht' (hsl t hc), bT t ht', t1]
        · obtain ⟨_, nwo, g1, g2⟩ := f1
          refine ⟨nw ++ nwo, by rw [p7, bw, g1, List.append_assoc], fun id hid => ?_⟩
          rw [List.mem_append, not_or] at hid
          rw [p7b id hid.1, bB, g2 id hid.2]
      have finR : ∀ x, o = .rt x → ∀ a' w', a'.defers = a0.defers → (∃ us, resRun P a'.tmps w' res us ∧ RetOK w0 K.x w' rs x (vrOf us)) → Q .ret a' w' := by
        rintro x rfl a' w' hd hu
        exact hqr x w' a' h1 hd hu
      have h0 : Head x0 a0 w00 := by
        refine assemble s1 φ0 M1 w00 a0 x0 s1 U1 m1 (by rw [t1]; exact hs.ext e1) e1 (Keep.refl _ _) tk1 ef1 (fun t ht => (bT t ht).symm) (fun id _ _ => by rw [bB]) (fun id => by rw [bB]; exact Blk.Le.refl _)
      refine wp_loop_rec (fun n a w => ∃ x, loopN (fun x => (inL base es x fun s => R.bind (run E rs res nv nt b s) (roundEnd base es)).ev) n x = some o ∧ Head x a w) (fun a w => by rintro ⟨x, hx, _⟩; cases hx) ?_ (n := n) ⟨x0, hn, h0⟩
      rintro n a w ⟨x, hx, sx, φ, M, p1, p2, p3, p4, p5, p6, ⟨nw, p7, p7b⟩, p8⟩
      simp only [loopN] at hx
      rw [p1] at hx
      have hsz : nt ≤ a.tmps.size := by rw [p5.1]; exact hna
      -- a round's end
      have theEnd : ∀ (s' : St) (φ' : Pl) (M' : Nat → Prop) (w' : World) (a' : Act) {ρ' : Type} (kk : denE es → R ρ') (o' : ρ'), Now K w0 (assigned b) sx φ M w a s' φ' M' w' a' → ((outL s' es).bind fun y => bif endOK base es y.2 then kk y.1 else .fail).ev = some o' → ∃ y, (kk y).ev = some o' ∧ Head y a' w' := by
        intro s' φ' M' w' a' ρ' kk o' hnow hev
        obtain ⟨y, s2, M2, U', h3, m2, e2, t2, f2, st2, tk2, ef2⟩ := outL_go (a := a') hK hev hnow.mem hnow.slots (U := fun _ => False) ⟨fun _ _ _ _ h => h, fun _ h => h.elim⟩
        cases heo : endOK base es s2 with
        | false => rw [heo] at h3; cases h3
        | true =>
          rw [heo, cond_true] at h3
          refine ⟨y, h3, ?_⟩
          obtain ⟨hf1, nw1, hf2, hf3⟩ := hnow.fr
          obtain ⟨_, nw2, hg2, hg3⟩ := f2
          have hw : s2.w = (nw2 ++ (nw1 ++ nw)) ++ base.w := by rw [hg2, hf2, p7]; simp
          have hend := endOK_spec heo hw
          refine assemble s' φ' M2 w' a' y s2 U' m2 (by rw [t2]; exact hnow.slots.ext e2) ((p4.trans hnow.ext).trans e2) (p5.sub hnow.keep (fun t h => h) (fun t h => h)) tk2 ef2 (fun t ht => ?_) (fun id hid hno => ?_) (fun id => ((p6 id).trans (hnow.ext.bl id)).trans (e2.bl id))
          · rw [t2, hf1 t (fun hc => ht (mem_dedup.2 hc)), p8 t fun hc => ht (hsl t hc)]
          · have hnot : id ∉ nw2 ++ (nw1 ++ nw) := fun hc => (hend id hc).elim hid hno
            simp only [List.mem_append, not_or] at hnot
            rw [hg3 id hnot.1, hf3 id hnot.2.1, p7b id hnot.2.2]
      cases hf : ((run E rs res nv nt b sx).bind (roundEnd base es)).ev with
      | none => rw [hf] at hx; cases hx
      | some o' =>
        rw [hf] at hx
        refine ih sx _ (roundEnd base es) o' hf φ M w a p2 p3 hsz _ (fun s' φ' M' w' a' hev hnow => ?_) (fun id s' φ' M' w' a' hev hnow => ?_) (fun x' w' a' hev hd hu => ?_)
        · obtain ⟨y, h3, hh⟩ := theEnd s' φ' M' w' a' (fun y => .leaf (LS.nx y)) o' hnow hev
          cases h3
          exact ⟨y, hx, hh⟩
        · obtain ⟨y, h3, hh⟩ := theEnd s' φ' M' w' a' (fun y => .leaf (LS.ex id y)) o' hnow hev
          cases h3
          cases hx
          exact finE id y rfl a' w' hh
        · cases hev
          cases hx
          exact finR x' rfl a' w' (hd.trans p5.2.1) hu
end
end Yp
