/- The engine, part Z: code, and functions. -/
import Derived.Test.YtkmimlgogeeooaaYpY4
set_option linter.unusedVariables false
set_option linter.unusedSimpArgs false
namespace Yp
open Go
variable {P : Program}
section
variable {K : Kp} {w0 w : World} {φ : Pl} {M : Nat → Prop} {B B' : Nat → Blk} {g : Nat → PV} {a : Act} {E : Env} {rs : List RTy} {res : List ResultVar} {nv nt : Nat}
theorem Now.refl {D : List Nat} {s : St} (hm : Mem K w0 φ M s.getB w) (hs : Slots φ (view w M) s.getB s.getT a) : Now K w0 D s φ M w a s φ M w a := ⟨Fr.refl _ _, hm, Ext.refl _ _ _ _, hs, Keep.refl _ _⟩
theorem Now.trans {D D' D'' : List Nat} {s s1 s2 : St} {φ1 φ2 : Pl} {M1 M2 : Nat → Prop} {w1 w2 : World} {a1 a2 : Act} (h : Now K w0 D s φ M w a s1 φ1 M1 w1 a1) (k : Now K w0 D' s1 φ1 M1 w1 a1 s2 φ2 M2 w2 a2)
    (hd : ∀ t, t ∈ D → t ∈ D'') (hd' : ∀ t, t ∈ D' → t ∈ D'') : Now K w0 D'' s φ M w a s2 φ2 M2 w2 a2 := ⟨h.fr.sub k.fr hd hd', k.mem, h.ext.trans k.ext, k.slots, h.keep.sub k.keep hd hd'⟩
theorem Now.mono {D D' : List Nat} {s s1 : St} {φ1 : Pl} {M1 : Nat → Prop} {w1 : World} {a1 : Act} (h : Now K w0 D s φ M w a s1 φ1 M1 w1 a1) (hd : ∀ t, t ∈ D → t ∈ D') : Now K w0 D' s φ M w a s1 φ1 M1 w1 a1 :=
  ⟨h.fr.mono hd, h.mem, h.ext, h.slots, h.keep.1, h.keep.2.1, fun t ht => h.keep.2.2 t fun hc => ht (hd t hc)⟩
theorem run_go (hT : tabOK P E.T) (hG : ∀ f s, E.G f = some s → FOK P f s) (hmix : P.follows .mixedOrders = true) (hK : ∀ b, K.k b ↔ b < w0.heap.size) (hnt : nt ≤ 1000000) : ∀ c : Code, RunGo P K w0 E rs res nv nt c
  | .skip => fun s ρ k r h φ M w a hm hs hna Q hq1 hq2 hq3 => wp_skip (hq1 s φ M w a h (Now.refl hm hs))
  | .label l => fun s ρ k r h φ M w a hm hs hna Q hq1 hq2 hq3 => wp_label (hq1 s φ M w a h (Now.refl hm hs))
  | .region id ops draw => fun s ρ k r h φ M w a hm hs hna Q hq1 hq2 hq3 => by
    simp only [run] at h
    rw [R.bind_assoc] at h
    exact region_go hT hG hmix hnt h hm hs hna fun s2 φ' M' w' a' hk hf m1 e1 s1 k1 => hq1 s2 φ' M' w' a' hk ⟨hf, m1, e1, s1, k1⟩
  | .seq x y => fun s ρ k r h φ M w a hm hs hna Q hq1 hq2 hq3 => by
    simp only [run] at h
    rw [R.bind_assoc] at h
    have inl : ∀ t, t ∈ assigned x → t ∈ assigned (.seq x y) := fun t h => List.mem_append_left _ h
    have inr : ∀ t, t ∈ assigned y → t ∈ assigned (.seq x y) := fun t h => List.mem_append_right _ h
    refine wp_seq (run_go hT hG hmix hK hnt x s ρ _ r h φ M w a hm hs hna _ (fun s2 φ' M' w' a' hk hn => ?_) (fun id s2 φ' M' w' a' hk hn => ?_) (fun v w' a' hk hd hu => ?_))
    · exact run_go hT hG hmix hK hnt y s2 ρ k r hk φ' M' w' a' hn.mem hn.slots (by rw [hn.keep.1]; exact hna) Q (fun s3 φ3 M3 w3 a3 hk3 hn3 => hq1 s3 φ3 M3 w3 a3 hk3 (hn.trans hn3 inl inr))
        (fun id s3 φ3 M3 w3 a3 hk3 hn3 => hq2 id s3 φ3 M3 w3 a3 hk3 (hn.trans hn3 inl inr)) (fun v w3 a3 hk3 hd hu => hq3 v w3 a3 hk3 (hd.trans hn.keep.2.1) hu)
    · exact hq2 id s2 φ' M' w' a' hk (hn.mono inl)
    · exact hq3 v w' a' hk hd hu
  | .cond c x y => fun s ρ k r h φ M w a hm hs hna Q hq1 hq2 hq3 => by
    simp only [run] at h
    rw [R.bind_assoc] at h
    have inl : ∀ t, t ∈ assigned x → t ∈ assigned (.cond c x y) := fun t h => List.mem_append_left _ h
    have inr : ∀ t, t ∈ assigned y → t ∈ assigned (.cond c x y) := fun t h => List.mem_append_right _ h
    obtain ⟨v, wr, h1, h2⟩ := here_ev h
    obtain ⟨_, hv⟩ := opd_go h1 hs
    simp only at h2
    have goX : ∀ {ρ : Type} (k : Out (denR rs) → R ρ) (r : ρ), ((run E rs res nv nt x s).bind k).ev = some r → (∀ s2 φ' M' w' a', (k (.nx s2)).ev = some r → Now K w0 (assigned x) s φ M w a s2 φ' M' w' a' → Q .normal a' w') →
        (∀ id s2 φ' M' w' a', (k (.ex id s2)).ev = some r → Now K w0 (assigned x) s φ M w a s2 φ' M' w' a' → Q (.exit id) a' w') →
        (∀ v w' a', (k (.rt v)).ev = some r → a'.defers = a.defers → (∃ us, resRun P a'.tmps w' res us ∧ RetOK w0 K.x w' rs v (vrOf us)) → Q .ret a' w') → x.wp P Q a w :=
      fun k r hx g1 g2 g3 => run_go hT hG hmix hK hnt x s _ k r hx φ M w a hm hs hna Q g1 g2 g3
    have goY : ∀ {ρ : Type} (k : Out (denR rs) → R ρ) (r : ρ), ((run E rs res nv nt y s).bind k).ev = some r → (∀ s2 φ' M' w' a', (k (.nx s2)).ev = some r → Now K w0 (assigned y) s φ M w a s2 φ' M' w' a' → Q .normal a' w') →
        (∀ id s2 φ' M' w' a', (k (.ex id s2)).ev = some r → Now K w0 (assigned y) s φ M w a s2 φ' M' w' a' → Q (.exit id) a' w') →
        (∀ v w' a', (k (.rt v)).ev = some r → a'.defers = a.defers → (∃ us, resRun P a'.tmps w' res us ∧ RetOK w0 K.x w' rs v (vrOf us)) → Q .ret a' w') → y.wp P Q a w :=
      fun k r hx g1 g2 g3 => run_go hT hG hmix hK hnt y s _ k r hx φ M w a hm hs hna Q g1 g2 g3
    have wayX : ((run E rs res nv nt x s).bind k).ev = some r → x.wp P Q a w := fun hx => goX k r hx (fun s2 φ' M' w' a' hk hn => hq1 s2 φ' M' w' a' hk (hn.mono inl)) (fun id s2 φ' M' w' a' hk hn => hq2 id s2 φ' M' w' a' hk (hn.mono inl)) hq3
    have wayY : ((run E rs res nv nt y s).bind k).ev = some r → y.wp P Q a w := fun hx => goY k r hx (fun s2 φ' M' w' a' hk hn => hq1 s2 φ' M' w' a' hk (hn.mono inr)) (fun id s2 φ' M' w' a' hk hn => hq2 id s2 φ' M' w' a' hk (hn.mono inr)) hq3
    cases v <;> try (cases h2; done)
    case kb t =>
      have hv : a.eval c = .bool t := hv
      cases t with
      | true => exact wp_cond_true hv (wayX h2)
      | false => exact wp_cond_false hv (wayY h2)
    case sc ty t =>
      cases ty <;> try (cases h2; done)
      have hv : a.eval c = .bool t := RepP.bool hv
      have br : ((R.br t (run E rs res nv nt x s) (run E rs res nv nt y s)).bind k).ev = some r → (Code.cond c x y).wp P Q a w := fun hb => by
        simp only [R.bind, R.ev, sel] at hb
        have ht : ∃ tb : Bool, tb = t := ⟨t, rfl⟩
        obtain ⟨tb, htb⟩ := ht
        subst htb
        cases tb with
        | true => exact wp_cond_true hv (wayX hb)
        | false => exact wp_cond_false hv (wayY hb)
      simp only [R.leavesF_eq] at h2
      generalize (Nat.blt 0 (nxOf (run E rs res nv nt x s).leaves).length && Nat.blt 0 (nxOf (run E rs res nv nt y s).leaves).length) = c1 at h2
      generalize (Nat.beq (nxOf (run E rs res nv nt x s).leaves).length (run E rs res nv nt x s).leaves.length && Nat.beq (nxOf (run E rs res nv nt y s).leaves).length (run E rs res nv nt y s).leaves.length) = c2 at h2
      cases c1 with
      | false => exact br h2
      | true =>
        cases c2 with
        | false => exact br h2
        | true =>
          simp only [cond_true] at h2
          rw [R.bind_assoc] at h2
          -- each side, to whatever
          have side : ∀ {ρ : Type} (k' : St → R ρ) (r' : ρ), (((R.br t ((run E rs res nv nt x s).omap nxO) ((run E rs res nv nt y s).omap nxO))).bind k').ev = some r' →
              (∀ s2 φ' M' w' a', (k' s2).ev = some r' → Now K w0 (assigned (.cond c x y)) s φ M w a s2 φ' M' w' a' → Q .normal a' w') → (Code.cond c x y).wp P Q a w := by
            intro ρ k' r' hb hn'
            simp only [R.bind, R.ev, sel, R.omap_ev, R.bind_assoc] at hb
            have fin : ∀ {D : List Nat} (hD : ∀ t, t ∈ D → t ∈ assigned (.cond c x y)), (∀ s2 φ' M' w' a', ((R.ofO (nxO (.nx s2 : Out (denR rs)))).bind k').ev = some r' → Now K w0 D s φ M w a s2 φ' M' w' a' → Q .normal a' w') ∧
                (∀ id s2 φ' M' w' a', ((R.ofO (nxO (.ex id s2 : Out (denR rs)))).bind k').ev = some r' → Now K w0 D s φ M w a s2 φ' M' w' a' → Q (.exit id) a' w') ∧
                (∀ v w' a', ((R.ofO (nxO (.rt v : Out (denR rs)))).bind k').ev = some r' → a'.defers = a.defers → (∃ us, resRun P a'.tmps w' res us ∧ RetOK w0 K.x w' rs v (vrOf us)) → Q .ret a' w') :=
              fun hD => ⟨fun s2 φ' M' w' a' hk hn => hn' s2 φ' M' w' a' hk (hn.mono hD), (fun id s2 φ' M' w' a' hk _ => by cases hk), (fun v w' a' hk _ _ => by cases hk)⟩
            have ht : ∃ tb : Bool, tb = t := ⟨t, rfl⟩
            obtain ⟨tb, htb⟩ := ht
            subst htb
            cases tb with
            | true => obtain ⟨f1, f2, f3⟩ := fin inl; exact wp_cond_true hv (goX _ r' hb f1 f2 f3)
            | false => obtain ⟨f1, f2, f3⟩ := fin inr; exact wp_cond_false hv (goY _ r' hb f1 f2 f3)
          rcases joinT_ev (fun t ht => (List.mem_filter.1 ht).1) h2 with h3 | ⟨ks, p, hp, hrest⟩
          · exact side _ r h3 fun s2 φ' M' w' a' hk hn => hq1 s2 φ' M' w' a' hk hn
          · refine side _ p hp fun s2 φ' M' w' a' hk hn => ?_
            have hk2 : ((R.ofO (bif Nat.beq s2.w.length s.w.length then getK s2 ks else none)).bind R.leaf).ev = some p := by rw [bind_leaf]; exact hk
            obtain ⟨p', hpe, hpl⟩ := R.ofO_ev hk2
            cases hpl
            cases hlen : Nat.beq s2.w.length s.w.length with
            | false => rw [hlen] at hpe; cases hpe
            | true =>
              rw [hlen, cond_true] at hpe
              have hfr : Fr (dedup (assigned x ++ assigned y)) s s2 := hn.fr.mono fun t ht => mem_dedup.2 ht
              obtain ⟨s3, w1, w2, w3⟩ := hrest s2 hfr.fw (Nat.eq_of_beq_eq_true hlen) hpe
              refine hq1 s3 φ' M' w' a' w3 ⟨w2.mono fun t ht => mem_dedup.1 ht, by rw [w1.2]; exact hn.mem, by rw [w1.2]; exact hn.ext, hn.slots.weak w1, hn.keep⟩
  | .block id x => fun s ρ k r h φ M w a hm hs hna Q hq1 hq2 hq3 => by
    simp only [run] at h
    rw [R.bind_assoc] at h
    refine wp_block (run_go hT hG hmix hK hnt x s ρ _ r h φ M w a hm hs hna _ (fun s2 φ' M' w' a' hk hn => hq1 s2 φ' M' w' a' hk hn) (fun i s2 φ' M' w' a' hk hn => ?_) (fun v w' a' hk hd hu => hq3 v w' a' hk hd hu))
    simp only [Exit.inBlock]
    replace hk : ((bif Nat.beq i id then R.leaf (LS.nx s2) else R.leaf (LS.ex i s2) : R (Out (denR rs))).bind k).ev = some r := hk
    cases hb : Nat.beq i id with
    | true =>
      rw [hb] at hk
      rw [if_pos (Nat.eq_of_beq_eq_true hb)]
      exact hq1 s2 φ' M' w' a' hk hn
    | false =>
      rw [hb] at hk
      rw [if_neg (by rintro rfl; rw [Nat.beq_refl] at hb; cases hb)]
      exact hq2 i s2 φ' M' w' a' hk hn
  | .exit id => fun s ρ k r h φ M w a hm hs hna Q hq1 hq2 hq3 => wp_exit (hq2 id s φ M w a h (Now.refl hm hs))
  | .ret => fun s ρ k r h φ M w a hm hs hna Q hq1 hq2 hq3 => by
    simp only [run] at h
    rw [R.bind_assoc] at h
    obtain ⟨vs, us, h1, h2, h3⟩ := resV_go hT h hm hs
    rw [R.bind_assoc] at h1
    obtain ⟨x, M', B', h4, m1, v1, _, rr⟩ := rets_go hK h1 hm h2 (U := fun _ => False) ⟨fun _ _ _ _ h => h, fun _ h => h.elim⟩
    refine wp_ret (hq3 x w a h4 rfl ⟨us, h3, M', m1.os, m1.tape, m1.output, m1.size, fun b hb => m1.keep b ((hK b).2 hb), fun b hb => m1.hid b ((hK b).2 hb), m1.mlt, us, rr, rfl⟩)
  | .loop b => loop_go hK (run_go hT hG hmix hK hnt b)
  | .goto l => fun s ρ k r h => by simp only [run] at h; cases h
  | .scope c => fun s ρ k r h => by simp only [run] at h; cases h
  | .refuse why => fun s ρ k r h => by simp only [run] at h; cases h
  | .rangeFunc f ps x y => fun s ρ k r h => by simp only [run] at h; cases h
end
end Yp
