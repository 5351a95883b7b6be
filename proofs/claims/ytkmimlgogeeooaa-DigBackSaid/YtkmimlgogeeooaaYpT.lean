/- The engine, part T: literals; comparisons; shifts. -/
import Derived.Test.YtkmimlgogeeooaaYpS
set_option linter.unusedVariables false
set_option linter.unusedSimpArgs false
namespace Yp
open Go
variable {P : Program}
section
variable {K : Kp} {w0 w : World} {φ : Pl} {M : Nat → Prop} {B B' : Nat → Blk} {g : Nat → PV} {H : View}
theorem next_go {x r : PV} {vx : Value} (h : (nextP x).go g B = some (r, B')) (hm : Mem K w0 φ M B w) (hr : RepP φ (view w M) B x vx) (ty : TypeId) :
    ∃ v w', (Instr.next vx true ty).run P w = .ok v w' ∧ After K w0 φ M B w B' r v w' := by
  cases x <;> try (cases h; done)
  rename_i id
  simp only [nextP, PM.go] at h
  have hs : RepS φ (view w M) B (.itp id) vx := hr
  have hbl := hm.blks id
  simp only [RepS] at hs
  generalize hB : B id = bl at h hs hbl
  cases bl <;> try (cases h; done)
  rename_i s p
  obtain ⟨b, h1, rfl⟩ := hs
  obtain ⟨b', g1, g2, g3⟩ := hbl
  rw [h1] at g1; cases g1
  have hgo : ∀ w' : World, w'.heap[b]? = some (.stringIter ⟨s.toArray⟩ p) → (getObj b).run P w' = .ok (.stringIter ⟨s.toArray⟩ p) w' := fun w' hw => by simp [getObj, Sem.run, hw]
  have hsz : (⟨s.toArray⟩ : ByteArray).size = s.length := rfl
  by_cases hp : p < s.length
  · have hn : nlt p (ln s) = true := by simpa [nlt, ln] using hp
    rw [PM.go, if_pos hn] at h
    cases h
    let w' : World := { w with heap := w.heap.setIfInBounds b (.stringIter ⟨s.toArray⟩ (p + (decode s p).2)) }
    have hlt : b < w.heap.size := (Array.getElem?_eq_some_iff.1 g2).1
    have hb' : w'.heap[b]? = some (.stringIter ⟨s.toArray⟩ (p + (decode s p).2)) := by simp [w', hlt]
    have ho : ∀ j, j ≠ b → w'.heap[j]? = w.heap[j]? := fun j hj => by simp [w', Array.getElem?_setIfInBounds_ne (Ne.symm hj)]
    have hdec : Utf8.decode (⟨s.toArray⟩ : ByteArray) p = decode s p := rfl
    refine ⟨.tuple #[.bool true, goInt p, .int .i32 ((decode s p).1 : Int)], w', ?_, ?_⟩
    · simp [Instr.next, hgo w g2, hsz, hp, hdec, setObj, Sem.run, g2, w']
    · obtain ⟨m1, e1⟩ := hm.put (id := id) (x := (b, 0, 0)) (w' := w') (by rw [hB]; rfl) h1 g3 rfl rfl rfl (by simp [w']) ho (.it s (nadd p (decode s p).2)) (by rw [hB]; rfl) (fun _ => ⟨b, h1, hb', g3⟩)
      refine ⟨φ, M, m1, e1, [.bool true, goInt p, .int .i32 ((decode s p).1 : Int)], ?_, rfl⟩
      have q1 : RepQ φ (view w' M) (updB B id (.it s (nadd p (decode s p).2))) (Yp.int (ofn p)) (goInt p) := RepP.mk_len (φ := φ) (B := updB B id (.it s (nadd p (decode s p).2))) _ p
      have q2 : RepQ φ (view w' M) (updB B id (.it s (nadd p (decode s p).2))) (.sc (.int .i32) (ofn (decode s p).1)) (.int .i32 ((decode s p).1 : Int)) := RepP.mk_int φ _ (updB B id (.it s (nadd p (decode s p).2))) .i32 ((decode s p).1 : Int)
      exact ⟨_, _, rfl, rfl, _, _, rfl, q1, _, _, rfl, q2, rfl⟩
  · have hn : ¬ (nlt p (ln s) = true) := by simpa [nlt, ln] using hp
    rw [PM.go, if_neg hn] at h
    cases h
    refine ⟨.tuple #[.bool false], w, ?_, After.same hm rfl ?_⟩
    · simp [Instr.next, hgo w g2, hsz, hp]
    · exact ⟨[.bool false], ⟨_, _, rfl, rfl, rfl⟩, rfl⟩
theorem chkU_go {b c : Bool} {k : PM PV} {r : PV × (Nat → Blk)} (h : (chkU b c k).go g B = some r) : (b = true ∨ c = true) ∧ k.go g B = some r := by
  cases b with
  | true => exact ⟨.inl rfl, h⟩
  | false => obtain ⟨h1, h2⟩ := chk_go h; exact ⟨.inr h1, h2⟩
theorem shift_go {op : BinOp} (hop : op = .shl ∨ op = .shr) {k k' : IntKind} {x : KD k} {y : KD k'} (hy : 0 ≤ KD.to k' y) (t : TypeId) (w : World) :
    ∃ v, (binOp op t (.int k (KD.to k x)) (.int k' (KD.to k' y))).run P w = .ok v w ∧
      RepP φ H B (match op with | .shl => .sc (.int k) (KD.of k (shlI k (KD.to k x) (KD.to k' y))) | _ => .sc (.int k) (KD.lit k (shrI k (KD.to k x) (KD.to k' y)))) v := by
  have hn : ¬ KD.to k' y < 0 := by omega
  rcases hop with rfl | rfl
  · refine ⟨.int k (k.wrap (shlI k (KD.to k x) (KD.to k' y))), by simp [binOp, Op.shift, hn, shlI], ?_⟩
    have := RepP.mk_int φ H B k (KD.of k (shlI k (KD.to k x) (KD.to k' y)))
    rwa [KD.to_of] at this
  · refine ⟨.int k (shrI k (KD.to k x) (KD.to k' y)), by simp [binOp, Op.shift, hn, shrI], ?_⟩
    have := RepP.mk_int φ H B k (KD.lit k (shrI k (KD.to k x) (KD.to k' y)))
    rw [KD.lit_in] at this
    · exact this
    · intro hu
      have h1 := KD.to_uns k x hu
      have h2 := KD.to_max k x hu
      unfold shrI
      have hp : (0 : Int) < 2 ^ (Nat.min (KD.to k' y).toNat k.bits) := Int.pow_pos (by omega)
      rw [Int.fdiv_eq_ediv_of_nonneg _ (Int.le_of_lt hp)]
      exact ⟨Int.ediv_nonneg h1 (Int.le_of_lt hp), Int.le_trans (Int.ediv_le_self _ h1) h2⟩
theorem run_equalIn_bool (n : Nat) {tid : TypeId} (hu : P.underlying tid = some .bool) (p q : Bool) (w : World) : (Op.equalIn (n + 1) tid (.bool p) (.bool q)).run P w = .ok (p == q) w := by
  rw [Op.equalIn]
  simp only [Sem.run_bind, run_underlying hu, Result.andThen]
  rfl
theorem run_equal_bool {tid : TypeId} (hu : P.underlying tid = some .bool) (p q : Bool) (w : World) : (Op.equal tid (.bool p) (.bool q)).run P w = .ok (p == q) w :=
  run_equalIn_bool 9999 hu p q w
theorem binE_go {E : Env} (hT : tabOK P E.T) {op : BinOp} {tid : TypeId} {a b r : PV} {va vb : Value} (h : (binE E op tid a b).go g B = some (r, B')) (hra : RepP φ H B a va) (hrb : RepP φ H B b vb) (x y : Operand) (w : World) :
    B' = B ∧ ∃ v, (do eqGuard op tid x y va vb; binOp op tid va vb : Sem Value).run P w = .ok v w ∧ RepP φ H B r v := by
  unfold binE at h
  cases ht : E.T tid with
  | none => rw [ht] at h; cases h
  | some t =>
    rw [ht] at h
    replace h := bif_go h; obtain ⟨hi, h⟩ := h
    have := is_eq hi; subst this
    have hu : P.underlying tid = some .bool := (hT _ _ ht).1
    cases ha : toD .bool a with
    | none => rw [ha] at h; cases h
    | some p =>
      cases hb : toD .bool b with
      | none => rw [ha, hb] at h; cases h
      | some q =>
        rw [ha, hb] at h
        have e1 := (toD_P ha hra).bool
        have e2 := (toD_P hb hrb).bool
        subst e1; subst e2
        have hg : (eqGuard op tid x y (.bool p) (.bool q)).run P w = .ok () w := by unfold eqGuard; cases op <;> rfl
        have heq : (Op.equal tid (.bool p) (.bool q)).run P w = .ok (beb p q) w := run_equal_bool hu p q w
        cases op <;> try (cases h; done)
        · cases h
          exact ⟨rfl, _, by simp [hg, binOp, heq], RepP.mk_bool _ _ _ _⟩
        · cases h
          exact ⟨rfl, _, by simp [hg, binOp, heq, bnot], RepP.mk_bool _ _ _ _⟩
theorem binP_go {E : Env} (hT : tabOK P E.T) {nz nn : Bool} {op : BinOp} {tid : TypeId} {a b r : PV} {va vb : Value} (h : (binP E nz nn op tid a b).go g B = some (r, B')) (hra : RepP φ H B a va) (hrb : RepP φ H B b vb)
    (hnz : nz = true → ∀ k n, vb = .int k n → n ≠ 0) (hnn : nn = true → ∀ k n, vb = .int k n → 0 ≤ n) (x y : Operand) (w : World) :
    B' = B ∧ ∃ v, (do eqGuard op tid x y va vb; binOp op tid va vb : Sem Value).run P w = .ok v w ∧ RepP φ H B r v := by
  unfold binP at h
  split at h
  · rename_i k p k' q
    have e1 := hra.int; have e2 := hrb.int
    subst e1; subst e2
    have hg := eqGuard_int (P := P) op tid x y k k' (KD.to k p) (KD.to k' q) w
    split at h
    · obtain ⟨hc, h⟩ := chkU_go h
      cases h
      have hy : 0 ≤ KD.to k' q := by
        rcases hc with hc | hc
        · simp only [Bool.or_eq_true] at hc
          rcases hc with hc | hc
          · exact hnn hc _ _ rfl
          · exact KD.to_uns _ _ hc
        · simpa [le] using hc
      obtain ⟨v, h1, h2⟩ := shift_go (P := P) (φ := φ) (H := H) (B := B) (op := .shl) (.inl rfl) (x := p) (y := q) hy tid w
      exact ⟨rfl, v, by simp [hg, h1], h2⟩
    · obtain ⟨hc, h⟩ := chkU_go h
      cases h
      have hy : 0 ≤ KD.to k' q := by
        rcases hc with hc | hc
        · simp only [Bool.or_eq_true] at hc
          rcases hc with hc | hc
          · exact hnn hc _ _ rfl
          · exact KD.to_uns _ _ hc
        · simpa [le] using hc
      obtain ⟨v, h1, h2⟩ := shift_go (P := P) (φ := φ) (H := H) (B := B) (op := .shr) (.inr rfl) (x := p) (y := q) hy tid w
      exact ⟨rfl, v, by simp [hg, h1], h2⟩
    · split at h
      · rename_i q' hq
        obtain ⟨e, rfl⟩ := cast_some hq
        cases e
        obtain ⟨hB, v, h1, h2⟩ := binI_go (P := P) h (fun hz => hnz hz _ _ rfl) tid w φ H
        exact ⟨hB, v, by simp [hg, h1], h2⟩
      · cases h
  · rename_i p q
    have e1 := hra.str; have e2 := hrb.str
    subst e1; subst e2
    have hg := eqGuard_str (P := P) op tid x y ⟨p.toArray⟩ ⟨q.toArray⟩ w
    obtain ⟨hB, v, h1, h2⟩ := binS_go (P := P) h tid w φ H
    exact ⟨hB, v, by simp [hg, h1], h2⟩
  · exact binE_go hT h hra hrb x y w
end
end Yp
