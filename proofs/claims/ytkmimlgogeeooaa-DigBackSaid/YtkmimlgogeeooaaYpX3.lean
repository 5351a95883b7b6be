/- The engine, part X3: regions. -/
import Derived.Test.YtkmimlgogeeooaaYpX2
set_option linter.unusedVariables false
set_option linter.unusedSimpArgs false
namespace Yp
open Go
variable {P : Program}
/-- of the machine's slots what is not named stays -/
def Keep (D : List Nat) (a a' : Act) : Prop := a'.tmps.size = a.tmps.size ∧ a'.defers = a.defers ∧ ∀ t, t ∉ D → a'.tmps.getD t undef = a.tmps.getD t undef
theorem Keep.refl (D : List Nat) (a : Act) : Keep D a a := ⟨rfl, rfl, fun _ _ => rfl⟩
theorem Keep.sub {D D' E : List Nat} {a b c : Act} (h : Keep D a b) (k : Keep D' b c) (hd : ∀ t, t ∈ D → t ∈ E) (hd' : ∀ t, t ∈ D' → t ∈ E) : Keep E a c :=
  ⟨k.1.trans h.1, k.2.1.trans h.2.1, fun t ht => (k.2.2 t fun hc => ht (hd' t hc)).trans (h.2.2 t fun hc => ht (hd t hc))⟩
theorem Keep.put {a : Act} {dst : Option Nat} {v : Value} {D : List Nat} (h : ∀ d, dst = some d → d ∈ D) : Keep D a (a.put dst v) := by
  cases dst with
  | none => exact Keep.refl D a
  | some d =>
    refine ⟨by simp [Act.put], rfl, fun t ht => ?_⟩
    have : d ≠ t := fun e => ht (e ▸ h d rfl)
    simp [Act.put, Array.getElem?_setIfInBounds_ne this]
section
variable {K : Kp} {w0 w : World} {φ : Pl} {M : Nat → Prop} {B B' : Nat → Blk} {g : Nat → PV} {H : View} {E : Env} {nt : Nat}
theorem Same.rep {v0 v : PV} {x : Value} (h : Same v0 v) (hr : RepP φ H B v0 x) : RepP φ H B v x := by
  rcases h with rfl | ⟨c, rfl, rfl⟩
  · exact hr
  · rw [hr.bool]; rfl
theorem Slots.put {a : Act} (hs : Slots φ H B g a) {dst : Option Nat} (hd : ∀ d, dst = some d → d < a.tmps.size) {v : PV} {x : Value} (hr : RepP φ H B v x) : Slots φ H B (putT g dst v) (a.put dst x) := by
  cases dst with
  | none => exact hs
  | some d =>
    intro t
    simp only [putT, updT]
    by_cases h : t = d
    · subst h
      have := hd t rfl
      rw [if_pos rfl]
      simpa [Act.put, this] using hr
    · rw [if_neg h]
      have := hs t
      simpa [Act.put, Array.getElem?_setIfInBounds_ne (Ne.symm h)] using this
theorem yielded_of {ops : Array Oper} {a : Act} {j d : Nat} (h : (ops.toList[j]?).bind (·.dst) = some d) : (∀ b, a.tmps.getD d undef = .bool b → yielded ops a.tmps j = some b) ∧ (a.tmps.getD d undef = undef → yielded ops a.tmps j = none) := by
  rw [Array.getElem?_toList] at h
  unfold yielded
  rw [h]
  simp only [Option.bind_some]
  refine ⟨fun b hb => ?_, fun hb => ?_⟩
  · cases hg : a.tmps[d]? with
    | none => rw [Array.getD_eq_getD_getElem?, hg] at hb; cases hb
    | some v => rw [Array.getD_eq_getD_getElem?, hg] at hb; simp only [Option.getD_some] at hb; rw [hb]
  · cases hg : a.tmps[d]? with
    | none => rfl
    | some v => rw [Array.getD_eq_getD_getElem?, hg] at hb; simp only [Option.getD_some] at hb; rw [hb]; rfl
theorem wants_go {ops : Array Oper} {o : Oper} {a : Act} (h : Wants ops.toList o g) (hs : Slots φ H B g a) : Region.wanted o (yielded ops a.tmps) = true := by
  rcases h with h | ⟨j, want, d, h1, h2, h3⟩
  · simp [Region.wanted, h]
  · have hv := hs d
    rw [h3] at hv
    have hv : a.tmps.getD d undef = .bool want := hv
    simp [Region.wanted, h1, (yielded_of h2).1 _ hv]
theorem skips_go {ops : Array Oper} {o : Oper} {a : Act} (h : Skips ops.toList o g) (hs : Slots φ H B g a) : Region.wanted o (yielded ops a.tmps) = false := by
  obtain ⟨j, want, d, h1, h2, h3⟩ := h
  have hv := hs d
  rcases h3 with h3 | h3 <;> rw [h3] at hv
  · have hv : a.tmps.getD d undef = .bool (!want) := hv
    simp [Region.wanted, h1, (yielded_of h2).1 _ hv]
  · have hv : a.tmps.getD d undef = undef := hv
    simp [Region.wanted, h1, (yielded_of h2).2 hv]
theorem undef_rep {x : Value} (h : x = undef) : RepP φ H B .undef x := h
/-- one event, at whatever state it sees the same in -/
theorem ev_go (hT : tabOK P E.T) (hG : ∀ f s, E.G f = some s → FOK P f s) {ops : Array Oper} {e : Ev} {a : Act} (hn : ∀ d, e.o.dst = some d → d < nt) (hnt : nt ≤ a.tmps.size) (hm : Mem K w0 φ M B w) (hs : Slots φ (view w M) B g a)
    (h : (Wants ops.toList e.o g ∧ ∃ v0, Same v0 e.v ∧ (opP E e.o).go g B = some (v0, overW B e.wr)) ∨ (Skips ops.toList e.o g ∧ e.v = .undef ∧ e.wr = []))
    {Kn : Act → World → Prop} {Q : Exit → Act → World → Prop}
    (hk : ∀ φ' M' w' x, Mem K w0 φ' M' (overW B e.wr) w' → Ext φ M B w φ' M' (overW B e.wr) w' → Slots φ' (view w' M') (overW B e.wr) (putT g e.o.dst e.v) (a.put e.o.dst x) → Kn (a.put e.o.dst x) w') :
    if Region.wanted e.o (yielded ops a.tmps) then e.o.wp P a w Kn Q else Kn (a.put e.o.dst undef) w := by
  have hd : ∀ d, e.o.dst = some d → d < a.tmps.size := fun d h => Nat.lt_of_lt_of_le (hn d h) hnt
  rcases h with ⟨hw, v0, hs0, hgo⟩ | ⟨hw, hv, hwr⟩
  · rw [if_pos (wants_go hw hs)]
    refine op_go hT hG hgo hm hs fun r w' ha => ?_
    obtain ⟨φ', M', m1, e1, r1⟩ := ha
    exact hk φ' M' w' r m1 e1 ((hs.ext e1).put hd (hs0.rep r1))
  · rw [if_neg (by rw [skips_go hw hs]; simp)]
    have hB : overW B e.wr = B := by rw [hwr]; rfl
    have := hk φ M w undef (by rw [hB]; exact hm) (by rw [hB]; exact Ext.refl _ _ _ _) (by rw [hB, hv]; exact hs.put hd (undef_rep rfl))
    exact this
/-- in the text's order -/
theorem tr_list (hT : tabOK P E.T) (hG : ∀ f s, E.G f = some s → FOK P f s) {ops : Array Oper} {Q : Exit → Act → World → Prop} : ∀ (tr : List Ev) {φ : Pl} {M : Nat → Prop} {B : Nat → Blk} {g : Nat → PV} {w : World} {a : Act},
    Valid E ops.toList nt false tr g B → Mem K w0 φ M B w → Slots φ (view w M) B g a → nt ≤ a.tmps.size →
    (∀ φ' M' w' a', Mem K w0 φ' M' (stB tr (fun _ => true) B) w' → Ext φ M B w φ' M' (stB tr (fun _ => true) B) w' → Slots φ' (view w' M') (stB tr (fun _ => true) B) (stT tr (fun _ => true) g) a' → Keep (dsts (tr.map (·.o))) a a' → Q .normal a' w') →
    wpList P ops Q (tr.map (·.o)) a w
  | [], φ, M, B, g, w, a, _, hm, hs, _, hq => hq φ M w a hm (Ext.refl _ _ _ _) hs (Keep.refl _ _)
  | e :: tr, φ, M, B, g, w, a, hv, hm, hs, hnt, hq => by
    obtain ⟨⟨hn, hev⟩, hv⟩ := hv
    have hd := dsts_cons e.o (tr.map (·.o))
    have := ev_go (P := P) (Kn := wpList P ops Q (tr.map (·.o))) (Q := Q) hT hG hn hnt hm hs (hev.imp (fun ⟨h1, v0, h2, h3, _⟩ => ⟨h1, v0, h2, h3⟩) (fun ⟨h1, h2, h3, _⟩ => ⟨h1, h2, h3⟩)) fun φ' M' w' x m1 e1 s1 => by
      refine tr_list hT hG tr hv m1 s1 (by simp only [Act.put]; split <;> simpa using hnt) fun φ2 M2 w2 a2 m2 e2 s2 k2 => ?_
      exact hq φ2 M2 w2 a2 m2 (e1.trans e2) s2 ((Keep.put hd.1).sub k2 (fun t h => h) hd.2)
    simp only [List.map_cons, wpList]
    split
    · rename_i hw; rw [if_pos hw] at this; exact .inl this
    · rename_i hw; rw [if_neg hw] at this; exact this
/-! ### drawn orders -/
theorem stT_congr {t : Nat} : ∀ (tr : List Ev) {L L' : Nat → Bool} {g g' : Nat → PV}, g t = g' t → (∀ e ∈ tr, e.o.dst = some t → L e.i = L' e.i) → stT tr L g t = stT tr L' g' t
  | [], _, _, _, _, h, _ => h
  | e :: tr, L, L', g, g', h, hL => by
    simp only [stT]
    refine stT_congr tr ?_ fun e' he => hL e' (List.mem_cons_of_mem _ he)
    have key : ∀ (x : Nat → PV), e.o.dst ≠ some t → putT x e.o.dst e.v t = x t := fun x hne => by
      cases hd : e.o.dst with
      | none => rfl
      | some d => simp only [putT, updT]; rw [if_neg]; intro h; exact hne (by rw [hd, h])
    by_cases hd : e.o.dst = some t
    · rw [hL e List.mem_cons_self hd]
      cases L' e.i with
      | false => exact h
      | true => simp only [cond, hd, putT, updT, if_true]
    · cases L e.i <;> cases L' e.i <;> simp only [cond, key _ hd, h]
theorem lookW_off {id : Nat} : ∀ (l : List (Nat × Blk)) (d : Blk), id ∉ l.map (·.1) → lookW l id d = d
  | [], _, _ => rfl
  | p :: l, d, h => by
    simp only [List.map_cons, List.mem_cons, not_or] at h
    simp only [lookW]
    rw [beq_false (Ne.symm h.1)]
    exact lookW_off l d h.2
theorem lookW_on {id : Nat} : ∀ (l : List (Nat × Blk)) (d d' : Blk), id ∈ l.map (·.1) → lookW l id d = lookW l id d'
  | [], _, _, h => by simp at h
  | p :: l, d, d', h => by
    simp only [lookW]
    by_cases hp : p.1 = id
    · rw [beq_true hp]; rfl
    · rw [beq_false hp]
      simp only [List.map_cons, List.mem_cons] at h
      exact lookW_on l d d' (h.resolve_left (Ne.symm hp))
theorem stB_congr {id : Nat} : ∀ (tr : List Ev) {L L' : Nat → Bool} {B B' : Nat → Blk}, B id = B' id → (∀ e ∈ tr, id ∈ e.wr.map (·.1) → L e.i = L' e.i) → stB tr L B id = stB tr L' B' id
  | [], _, _, _, _, h, _ => h
  | e :: tr, L, L', B, B', h, hL => by
    simp only [stB]
    refine stB_congr tr ?_ fun e' he => hL e' (List.mem_cons_of_mem _ he)
    by_cases hd : id ∈ e.wr.map (·.1)
    · rw [hL e List.mem_cons_self hd]
      cases L' e.i with
      | false => exact h
      | true => simp only [cond, overW, h]
    · have key : ∀ (x : Nat → Blk), overW x e.wr id = x id := fun x => lookW_off _ _ hd
      cases L e.i <;> cases L' e.i <;> simp only [cond, key, h]
theorem stT_app (L : Nat → Bool) : ∀ (a b : List Ev) (g : Nat → PV), stT (a ++ b) L g = stT b L (stT a L g)
  | [], _, _ => rfl
  | e :: a, b, g => stT_app L a b _
theorem stB_app (L : Nat → Bool) : ∀ (a b : List Ev) (B : Nat → Blk), stB (a ++ b) L B = stB b L (stB a L B)
  | [], _, _ => rfl
  | e :: a, b, B => stB_app L a b _
theorem Valid.at {ops : List Oper} {draw : Bool} {e : Ev} : ∀ (pre : List Ev) {post : List Ev} {g : Nat → PV} {B : Nat → Blk}, Valid E ops nt draw (pre ++ e :: post) g B → EvOK E ops nt draw (stT pre (fun _ => true) g) (stB pre (fun _ => true) B) e
  | [], _, _, _, h => h.1
  | _ :: pre, _, _, _, h => Valid.at pre h.2
end
/-! ### the checks -/
def Hits (e1 e2 : Ev) (id : Nat) : Prop := (id ∈ e1.wr.map (·.1) ∧ id ∈ e2.rb) ∨ (id ∈ e1.wr.map (·.1) ∧ id ∈ e2.wr.map (·.1)) ∨ (id ∈ e1.rb ∧ id ∈ e2.wr.map (·.1))
theorem meet_of {a b : List Nat} {k : Nat} (h1 : k ∈ a) (h2 : k ∈ b) : meet a b = true := by
  unfold meet
  exact List.any_eq_true.2 ⟨k, h1, List.any_eq_true.2 ⟨k, h2, Nat.beq_refl k⟩⟩
theorem feet_mem {e : Ev} : ∀ {tr : List Ev}, e ∈ tr → (e.rb ≠ [] ∨ e.wr ≠ []) → (⟨e.i, e.rb, e.wr.map (·.1)⟩ : Foot) ∈ feet tr
  | [], h, _ => by simp at h
  | e' :: tr, h, hne => by
    simp only [feet]
    rcases List.mem_cons.1 h with rfl | h
    · cases hr : e.rb <;> cases hw : e.wr
      · exact absurd hne (by simp [hr, hw])
      all_goals exact List.mem_cons_self
    · have := feet_mem h hne
      cases hr : e'.rb <;> cases hw : e'.wr
      · exact this
      all_goals exact List.mem_cons_of_mem _ this
theorem ordOK_spec {bf : List Nat} : ∀ {tr : List Ev}, ordOK bf (feet tr) = true → tr.Pairwise fun e1 e2 => ∀ id, Hits e1 e2 id → Nat.testBit (bf.getD e2.i 0) e1.i = true
  | [], _ => List.Pairwise.nil
  | e :: tr, h => by
    have split : ordOK bf (feet tr) = true ∧ ((e.rb ≠ [] ∨ e.wr ≠ []) → (feet tr).all (fun g => !((⟨e.i, e.rb, e.wr.map (·.1)⟩ : Foot).clash g) || Nat.testBit (bf.getD g.i 0) e.i) = true) := by
      simp only [feet] at h
      cases hr : e.rb <;> cases hw : e.wr <;> rw [hr, hw] at h
      · exact ⟨h, fun hne => by simp at hne⟩
      all_goals
        simp only [ordOK, Bool.and_eq_true] at h
        exact ⟨h.2, fun _ => by rw [← hr, ← hw]; rw [← hr, ← hw] at h; exact h.1⟩
    refine List.Pairwise.cons (fun e2 he2 id hh => ?_) (ordOK_spec split.1)
    have hne : (e.rb ≠ [] ∨ e.wr ≠ []) ∧ (e2.rb ≠ [] ∨ e2.wr ≠ []) := by
      have ne : ∀ {l : List Nat}, id ∈ l → l ≠ [] := fun h e => by rw [e] at h; simp at h
      have ne' : ∀ {l : List (Nat × Blk)}, id ∈ l.map (·.1) → l ≠ [] := fun h e => by rw [e] at h; simp at h
      rcases hh with ⟨h1, h2⟩ | ⟨h1, h2⟩ | ⟨h1, h2⟩
      · exact ⟨.inr (ne' h1), .inl (ne h2)⟩
      · exact ⟨.inr (ne' h1), .inr (ne' h2)⟩
      · exact ⟨.inl (ne h1), .inr (ne' h2)⟩
    have := List.all_eq_true.1 (split.2 hne.1) _ (feet_mem he2 hne.2)
    have hcl : (⟨e.i, e.rb, e.wr.map (·.1)⟩ : Foot).clash ⟨e2.i, e2.rb, e2.wr.map (·.1)⟩ = true := by
      unfold Foot.clash
      rcases hh with ⟨h1, h2⟩ | ⟨h1, h2⟩ | ⟨h1, h2⟩
      · simp only [meet_of h1 h2, Bool.true_or]
      · simp only [meet_of h1 h2, Bool.true_or, Bool.or_true]
      · simp only [meet_of h1 h2, Bool.or_true]
    simpa [hcl] using this
def SlotCond (bf : List Nat) (p : Nat × Nat × Nat) (i rd wr : Nat) : Prop := (Nat.land p.2.2 (rd ||| wr) = 0 ∧ Nat.land p.2.1 wr = 0) ∨ Nat.testBit (bf.getD i 0) p.1 = true
theorem slotsOK_spec {ops : List Oper} {bf : List Nat} : ∀ {l : List Oper} {i : Nat} {acc : List (Nat × Nat × Nat)}, slotsOK ops bf i l acc = true →
    (∀ p ∈ acc, ∀ k o, l[k]? = some o → SlotCond bf p (i + k) (readsOf ops o) (writesOf o)) ∧
    ∀ k1 k2 o1 o2, k1 < k2 → l[k1]? = some o1 → l[k2]? = some o2 → SlotCond bf (i + k1, readsOf ops o1, writesOf o1) (i + k2) (readsOf ops o2) (writesOf o2)
  | [], i, acc, _ => ⟨fun p _ k o h => by simp at h, fun k1 k2 o1 o2 _ h _ => by simp at h⟩
  | o :: l, i, acc, h => by
    simp only [slotsOK, Bool.and_eq_true] at h
    obtain ⟨h1, h2⟩ := h
    obtain ⟨r1, r2⟩ := slotsOK_spec h2
    refine ⟨fun p hp k o' hk => ?_, fun k1 k2 o1 o2 hlt hk1 hk2 => ?_⟩
    · cases k with
      | zero =>
        simp only [List.getElem?_cons_zero, Option.some.injEq] at hk
        subst hk
        have := List.all_eq_true.1 h1 p hp
        simp only [Bool.or_eq_true, Bool.and_eq_true] at this
        exact this.imp (fun h => ⟨Nat.eq_of_beq_eq_true h.1, Nat.eq_of_beq_eq_true h.2⟩) id
      | succ k =>
        simp only [List.getElem?_cons_succ] at hk
        have := r1 p (List.mem_cons_of_mem _ hp) k o' hk
        rwa [show i + 1 + k = i + (k + 1) by omega] at this
    · cases k2 with
      | zero => omega
      | succ k2 =>
        simp only [List.getElem?_cons_succ] at hk2
        cases k1 with
        | zero =>
          simp only [List.getElem?_cons_zero, Option.some.injEq] at hk1
          subst hk1
          have := r1 _ List.mem_cons_self k2 o2 hk2
          rwa [show i + 1 + k2 = i + (k2 + 1) by omega] at this
        | succ k1 =>
          simp only [List.getElem?_cons_succ] at hk1
          have := r2 k1 k2 o1 o2 (by omega) hk1 hk2
          rwa [show i + 1 + k2 = i + (k2 + 1) by omega, show i + 1 + k1 = i + (k1 + 1) by omega] at this
theorem land_zero {a b t : Nat} (h : Nat.land a b = 0) (h1 : Nat.testBit a t = true) (h2 : Nat.testBit b t = true) : False := by
  have : Nat.testBit (Nat.land a b) t = true := by
    have h3 : Nat.testBit (a &&& b) t = (Nat.testBit a t && Nat.testBit b t) := Nat.testBit_and a b t
    exact h3.trans (by simp [h1, h2])
  rw [h] at this; simp at this
theorem writes_bit {o : Oper} {t : Nat} (h : o.dst = some t) : Nat.testBit (writesOf o) t = true := by simp [writesOf, h]
def edgeF (acc : List Nat) (s : Nat) (e : Edge) : Nat := bif Region.binds .any e then s ||| 2 ^ e.on ||| acc.getD e.on 0 else s
theorem fold_edges {acc : List Nat} {i : Nat} : ∀ (l : List Edge) (s : Nat), Nat.testBit (l.foldl (edgeF acc) s) i = true → Nat.testBit s i = true ∨ ∃ e ∈ l, Region.binds .any e = true ∧ (i = e.on ∨ Nat.testBit (acc.getD e.on 0) i = true)
  | [], s, h => .inl h
  | e :: l, s, h => by
    rcases fold_edges l _ h with h | ⟨e', he, h⟩
    · unfold edgeF at h
      cases hb : Region.binds .any e with
      | false => rw [hb] at h; exact .inl h
      | true =>
        rw [hb] at h
        simp only [cond, Nat.testBit_or, Bool.or_eq_true] at h
        rcases h with (h | h) | h
        · exact .inl h
        · right; refine ⟨e, List.mem_cons_self, hb, .inl ?_⟩
          rw [Nat.testBit_two_pow] at h; simpa using (of_decide_eq_true h).symm
        · right; exact ⟨e, List.mem_cons_self, hb, .inr h⟩
    · right; exact ⟨e', List.mem_cons_of_mem _ he, h⟩
theorem beforeL_get : ∀ (l : List Oper) (acc : List Nat), (∃ suf, beforeL l acc = acc ++ suf) ∧
    ∀ j o, l[j]? = some o → ∃ pre, pre.length = acc.length + j ∧ (∃ suf, beforeL l acc = pre ++ suf) ∧ (beforeL l acc).getD (acc.length + j) 0 = o.after.toList.foldl (edgeF pre) 0
  | [], acc => ⟨⟨[], by simp [beforeL]⟩, fun j o h => by simp at h⟩
  | o :: l, acc => by
    obtain ⟨⟨suf, h1⟩, h2⟩ := beforeL_get l (acc ++ [o.after.toList.foldl (edgeF acc) 0])
    have hdef : beforeL (o :: l) acc = beforeL l (acc ++ [o.after.toList.foldl (edgeF acc) 0]) := rfl
    refine ⟨⟨o.after.toList.foldl (edgeF acc) 0 :: suf, by rw [hdef, h1]; simp⟩, fun j o' hj => ?_⟩
    cases j with
    | zero =>
      simp only [List.getElem?_cons_zero, Option.some.injEq] at hj
      subst hj
      refine ⟨acc, rfl, ⟨o.after.toList.foldl (edgeF acc) 0 :: suf, by rw [hdef, h1]; simp⟩, ?_⟩
      rw [hdef, h1]
      simp [List.getD_eq_getElem?_getD]
    | succ j =>
      simp only [List.getElem?_cons_succ] at hj
      obtain ⟨pre, p1, p2, p3⟩ := h2 j o' hj
      simp only [List.length_append, List.length_cons, List.length_nil] at p1 p3
      refine ⟨pre, by omega, by rw [hdef]; exact p2, ?_⟩
      rw [hdef, show acc.length + (j + 1) = acc.length + (0 + 1) + j by omega]
      exact p3
/-- what comes before what is listed is listed -/
theorem before_spec {ops : List Oper} {L : Nat → Bool} (hcl : ∀ i o, ops[i]? = some o → L i = true → ∀ e ∈ o.after.toList, Region.binds .any e = true → L e.on = true) :
    ∀ j o, ops[j]? = some o → (∀ e ∈ o.after.toList, Region.binds .any e = true → L e.on = true) → ∀ i, Nat.testBit ((beforeL ops []).getD j 0) i = true → L i = true := by
  intro j
  induction j using Nat.strongRecOn with
  | _ j ih =>
    intro o ho hed i hi
    obtain ⟨pre, p1, ⟨suf, p2⟩, p3⟩ := (beforeL_get ops []).2 j o ho
    simp only [List.length_nil, Nat.zero_add] at p1 p3
    rw [p3] at hi
    rcases fold_edges _ _ hi with h | ⟨e, he, hb, h | h⟩
    · simp at h
    · rw [h]; exact hed e he hb
    · have hon := hed e he hb
      have hlt : e.on < j := by
        rcases Nat.lt_or_ge e.on j with h' | h'
        · exact h'
        · rw [List.getD_eq_getElem?_getD, List.getElem?_eq_none (by omega)] at h; simp at h
      have hpre : pre.getD e.on 0 = (beforeL ops []).getD e.on 0 := by
        rw [p2, List.getD_eq_getElem?_getD, List.getD_eq_getElem?_getD, List.getElem?_append_left (by omega)]
      rw [hpre] at h
      have hlen : e.on < ops.length := by
        have := (List.getElem?_eq_some_iff.1 ho).1; omega
      exact ih e.on hlt _ (List.getElem?_eq_getElem hlen) (hcl _ _ (List.getElem?_eq_getElem hlen) hon) i h
theorem edgesOK_spec : ∀ {l : List Oper} {i : Nat}, edgesOK i l = true → ∀ k o, l[k]? = some o → ∀ e ∈ o.after.toList, Region.binds .any e = true → e.on < i + k
  | [], _, _, k, o, h => by simp at h
  | o :: l, i, h, k, o', hk => by
    simp only [edgesOK, Bool.and_eq_true] at h
    cases k with
    | zero =>
      simp only [List.getElem?_cons_zero, Option.some.injEq] at hk
      subst hk
      intro e he hb
      have := List.all_eq_true.1 h.1 e he
      simpa [hb] using this
    | succ k =>
      simp only [List.getElem?_cons_succ] at hk
      intro e he hb
      have := edgesOK_spec h.2 k o' hk e he hb
      omega
end Yp
