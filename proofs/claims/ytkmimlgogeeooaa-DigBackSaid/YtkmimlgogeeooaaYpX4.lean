/- The engine, part X4: regions that draw their order. -/
import Derived.Test.YtkmimlgogeeooaaYpX3
set_option linter.unusedVariables false
set_option linter.unusedSimpArgs false
namespace Yp
open Go
variable {P : Program}
section
variable {K : Kp} {w0 : World} {E : Env} {nt : Nat} {ops : Array Oper} {tr : List Ev}
def lt' (j : Nat) : Nat → Bool := fun i => decide (i < j)
def le' (j : Nat) : Nat → Bool := fun i => decide (i ≤ j)
def Lof (listed : Array Bool) : Nat → Bool := fun i => listed.getD i false
theorem Lof_set {listed : Array Bool} {j : Nat} (hj : j < listed.size) (i : Nat) : Lof (listed.setIfInBounds j true) i = (decide (i = j) || Lof listed i) := by
  unfold Lof
  by_cases h : i = j
  · subst h; simp [hj]
  · simp [Array.getElem?_setIfInBounds_ne (Ne.symm h), h]
/-- what is fixed -/
structure Fix (E : Env) (nt : Nat) (ops : Array Oper) (tr : List Ev) (g0 : Nat → PV) (B0 : Nat → Blk) : Prop where
  is : tr.map (·.i) = List.range' 0 ops.size
  os : tr.map (·.o) = ops.toList
  valid : Valid E ops.toList nt true tr g0 B0
  slots : slotsOK ops.toList (beforeL ops.toList []) 0 ops.toList [] = true
  edges : edgesOK 0 ops.toList = true
  ord : tr.Pairwise fun e1 e2 => ∀ id, Hits e1 e2 id → Nat.testBit ((beforeL ops.toList []).getD e2.i 0) e1.i = true
variable {g0 : Nat → PV} {B0 : Nat → Blk}
theorem Fix.len (f : Fix E nt ops tr g0 B0) : tr.length = ops.size := by
  have := congrArg List.length f.is
  simpa using this
theorem Fix.at (f : Fix E nt ops tr g0 B0) {k : Nat} {e : Ev} (h : tr[k]? = some e) : e.i = k ∧ ops.toList[k]? = some e.o := by
  have h1 : (tr.map (·.i))[k]? = some e.i := by rw [List.getElem?_map, h]; rfl
  have h2 : (tr.map (·.o))[k]? = some e.o := by rw [List.getElem?_map, h]; rfl
  rw [f.is, List.getElem?_range'] at h1
  · rw [f.os] at h2
    refine ⟨?_, h2⟩
    simp at h1; exact h1.symm
  · have := (List.getElem?_eq_some_iff.1 h).1
    rw [f.len] at this; exact this
theorem Fix.mem (f : Fix E nt ops tr g0 B0) {e : Ev} (h : e ∈ tr) : tr[e.i]? = some e := by
  obtain ⟨k, hk, rfl⟩ := List.getElem_of_mem h
  have := f.at (List.getElem?_eq_getElem hk)
  rw [this.1]; exact List.getElem?_eq_getElem hk
theorem Fix.split (f : Fix E nt ops tr g0 B0) {e : Ev} (h : e ∈ tr) : ∃ pre post, tr = pre ++ e :: post ∧ (∀ x ∈ pre, x.i < e.i) ∧ (∀ x ∈ post, e.i < x.i) := by
  have hg := f.mem h
  obtain ⟨hlt, he⟩ := List.getElem?_eq_some_iff.1 hg
  refine ⟨tr.take e.i, tr.drop (e.i + 1), ?_, fun x hx => ?_, fun x hx => ?_⟩
  · have h1 : tr.drop e.i = e :: tr.drop (e.i + 1) := by
      rw [List.drop_eq_getElem_cons hlt, he]
    rw [← h1, List.take_append_drop]
  · obtain ⟨k, hk, rfl⟩ := List.getElem_of_mem hx
    rw [List.length_take] at hk
    have : tr[k]? = some (tr.take e.i)[k] := by
      rw [List.getElem_take]; exact List.getElem?_eq_getElem (by omega)
    rw [(f.at this).1]; omega
  · obtain ⟨k, hk, rfl⟩ := List.getElem_of_mem hx
    rw [List.length_drop] at hk
    have : tr[e.i + 1 + k]? = some (tr.drop (e.i + 1))[k] := by
      rw [List.getElem_drop]; exact List.getElem?_eq_getElem (by omega)
    rw [(f.at this).1]; omega
/-- of two events the elder one comes first, if they hit each other -/
theorem Fix.hits (f : Fix E nt ops tr g0 B0) {e1 e2 : Ev} (h1 : e1 ∈ tr) (h2 : e2 ∈ tr) (hlt : e1.i < e2.i) {id : Nat} (h : Hits e1 e2 id) : Nat.testBit ((beforeL ops.toList []).getD e2.i 0) e1.i = true := by
  obtain ⟨pre, post, hs, hpre, hpost⟩ := f.split h1
  have hp := f.ord
  rw [hs] at hp h2
  rcases List.mem_append.1 h2 with h2 | h2
  · have := hpre e2 h2; omega
  · rcases List.mem_cons.1 h2 with rfl | h2
    · omega
    · have := (List.pairwise_append.1 hp).2.1
      exact (List.pairwise_cons.1 this).1 e2 h2 id h
theorem Fix.slot (f : Fix E nt ops tr g0 B0) {e1 e2 : Ev} (h1 : e1 ∈ tr) (h2 : e2 ∈ tr) (hlt : e1.i < e2.i) {t : Nat}
    (h : (e1.o.dst = some t ∧ (Nat.testBit (readsOf ops.toList e2.o) t = true ∨ e2.o.dst = some t)) ∨ (Nat.testBit (readsOf ops.toList e1.o) t = true ∧ e2.o.dst = some t)) :
    Nat.testBit ((beforeL ops.toList []).getD e2.i 0) e1.i = true := by
  have hc := (slotsOK_spec f.slots).2 e1.i e2.i e1.o e2.o hlt (f.at (f.mem h1)).2 (f.at (f.mem h2)).2
  simp only [Nat.zero_add] at hc
  rcases hc with ⟨c1, c2⟩ | hc
  · exfalso
    rcases h with ⟨d1, d2⟩ | ⟨d1, d2⟩
    · refine land_zero c1 (writes_bit d1) ?_
      rw [Nat.testBit_or]
      rcases d2 with d2 | d2
      · simp [d2]
      · simp [writes_bit d2]
    · exact land_zero c2 d1 (writes_bit d2)
  · exact hc
def Closed (ops : Array Oper) (L : Nat → Bool) : Prop := ∀ i o, ops.toList[i]? = some o → L i = true → ∀ e ∈ o.after.toList, Region.binds .any e = true → L e.on = true
/-- an event that is next: what came before it is listed, what comes behind it isn't -/
structure Next (ops : Array Oper) (L : Nat → Bool) (e : Ev) : Prop where
  un : L e.i = false
  ed : ∀ x ∈ e.o.after.toList, Region.binds .any x = true → L x.on = true
theorem Next.elder (f : Fix E nt ops tr g0 B0) {L : Nat → Bool} (hcl : Closed ops L) {e x : Ev} (he : e ∈ tr) (hn : Next ops L e) (hb : Nat.testBit ((beforeL ops.toList []).getD e.i 0) x.i = true) : L x.i = true :=
  before_spec hcl e.i e.o (f.at (f.mem he)).2 hn.ed x.i hb
theorem Next.younger (f : Fix E nt ops tr g0 B0) {L : Nat → Bool} (hcl : Closed ops L) {e x : Ev} (hx : x ∈ tr) (hn : Next ops L e) (hb : Nat.testBit ((beforeL ops.toList []).getD x.i 0) e.i = true) : L x.i = false := by
  cases hL : L x.i with
  | false => rfl
  | true =>
    have := before_spec hcl x.i x.o (f.at (f.mem hx)).2 (hcl _ _ (f.at (f.mem hx)).2 hL) e.i hb
    rw [hn.un] at this; cases this
theorem text_T {e : Ev} {pre post : List Ev} (hpre : ∀ x ∈ pre, x.i < e.i) (hpost : ∀ x ∈ post, e.i < x.i) (t : Nat) : stT (pre ++ e :: post) (lt' e.i) g0 t = stT pre (fun _ => true) g0 t := by
  rw [stT_app]
  have h1 : ∀ (g : Nat → PV), stT (e :: post) (lt' e.i) g t = g t := fun g => by
    have : stT (e :: post) (lt' e.i) g t = stT (e :: post) (fun _ => false) g t := stT_congr _ rfl fun x hx _ => by
      rcases List.mem_cons.1 hx with rfl | hx
      · simp [lt']
      · have := hpost x hx; simp only [lt', decide_eq_false_iff_not]; omega
    rw [this]
    have : ∀ (l : List Ev) (g : Nat → PV), stT l (fun _ => false) g = g := by
      intro l; induction l with
      | nil => intro g; rfl
      | cons y l ih => intro g; simp only [stT, cond]; exact ih g
    rw [this]
  rw [h1]
  exact stT_congr pre rfl fun x hx _ => by have := hpre x hx; simp [lt', this]
theorem text_B {e : Ev} {pre post : List Ev} (hpre : ∀ x ∈ pre, x.i < e.i) (hpost : ∀ x ∈ post, e.i < x.i) (id : Nat) : stB (pre ++ e :: post) (lt' e.i) B0 id = stB pre (fun _ => true) B0 id := by
  rw [stB_app]
  have h1 : ∀ (B : Nat → Blk), stB (e :: post) (lt' e.i) B id = B id := fun B => by
    have : stB (e :: post) (lt' e.i) B id = stB (e :: post) (fun _ => false) B id := stB_congr _ rfl fun x hx _ => by
      rcases List.mem_cons.1 hx with rfl | hx
      · simp [lt']
      · have := hpost x hx; simp only [lt', decide_eq_false_iff_not]; omega
    rw [this]
    have : ∀ (l : List Ev) (B : Nat → Blk), stB l (fun _ => false) B = B := by
      intro l; induction l with
      | nil => intro g; rfl
      | cons y l ih => intro g; simp only [stB, cond]; exact ih g
    rw [this]
  rw [h1]
  exact stB_congr pre rfl fun x hx _ => by have := hpre x hx; simp [lt', this]
/-- what a next event sees is what it saw in the text's order -/
theorem sees_T (f : Fix E nt ops tr g0 B0) {L : Nat → Bool} (hcl : Closed ops L) {e : Ev} (he : e ∈ tr) (hn : Next ops L e) {t : Nat} (ht : Nat.testBit (readsOf ops.toList e.o) t = true) : stT tr L g0 t = stT tr (lt' e.i) g0 t := by
  refine stT_congr tr rfl fun x hx hd => ?_
  rcases Nat.lt_trichotomy x.i e.i with h | h | h
  · have := hn.elder f hcl he (f.slot hx he h (.inl ⟨hd, .inl ht⟩))
    simp [lt', h, this]
  · rw [h, hn.un]; simp [lt']
  · have := hn.younger f hcl hx (f.slot he hx h (.inr ⟨ht, hd⟩))
    rw [this]; simp only [lt']; symm; simp; omega
theorem sees_B (f : Fix E nt ops tr g0 B0) {L : Nat → Bool} (hcl : Closed ops L) {e : Ev} (he : e ∈ tr) (hn : Next ops L e) {id : Nat} (ht : id ∈ e.rb ∨ id ∈ e.wr.map (·.1)) : stB tr L B0 id = stB tr (lt' e.i) B0 id := by
  refine stB_congr tr rfl fun x hx hd => ?_
  rcases Nat.lt_trichotomy x.i e.i with h | h | h
  · have := hn.elder f hcl he (f.hits hx he h (id := id) (ht.elim (fun h => .inl ⟨hd, h⟩) (fun h => .inr (.inl ⟨hd, h⟩))))
    simp [lt', h, this]
  · rw [h, hn.un]; simp [lt']
  · have := hn.younger f hcl hx (f.hits he hx h (id := id) (ht.elim (fun h => .inr (.inr ⟨h, hd⟩)) (fun h => .inr (.inl ⟨h, hd⟩))))
    rw [this]; simp only [lt']; symm; simp; omega
def add (L : Nat → Bool) (j : Nat) : Nat → Bool := fun i => decide (i = j) || L i
theorem adds_T (f : Fix E nt ops tr g0 B0) {L : Nat → Bool} (hcl : Closed ops L) {e : Ev} (he : e ∈ tr) (hn : Next ops L e) : putT (stT tr L g0) e.o.dst e.v = stT tr (add L e.i) g0 := by
  funext t
  by_cases hd : e.o.dst = some t
  · have h1 : stT tr (add L e.i) g0 t = stT tr (le' e.i) g0 t := stT_congr tr rfl fun x hx hxd => by
      rcases Nat.lt_trichotomy x.i e.i with h | h | h
      · have := hn.elder f hcl he (f.slot hx he h (.inl ⟨hxd, .inr hd⟩))
        simp [le', add, Nat.le_of_lt h, this]
      · rw [h]; simp [le', add]
      · have := hn.younger f hcl hx (f.slot he hx h (.inl ⟨hd, .inr hxd⟩))
        have h2 : ¬ x.i = e.i := by omega
        have h3 : ¬ x.i ≤ e.i := by omega
        simp [le', add, this, h2, h3]
    rw [h1]
    obtain ⟨pre, post, hs, hpre, hpost⟩ := f.split he
    have h2 : ∀ (g : Nat → PV), stT (e :: post) (le' e.i) g t = e.v := fun g => by
      simp only [stT]
      have : stT post (le' e.i) (bif le' e.i e.i then putT g e.o.dst e.v else g) t = stT post (fun _ => false) (bif le' e.i e.i then putT g e.o.dst e.v else g) t := stT_congr _ rfl fun x hx _ => by
        have := hpost x hx; simp only [le', decide_eq_false_iff_not]; omega
      rw [this]
      have : ∀ (l : List Ev) (g : Nat → PV), stT l (fun _ => false) g = g := by
        intro l; induction l with
        | nil => intro g; rfl
        | cons y l ih => intro g; simp only [stT, cond]; exact ih g
      rw [this]
      simp [le', hd, putT, updT]
    have h3 : stT tr (le' e.i) g0 t = e.v := by rw [hs, stT_app]; exact h2 _
    rw [h3]
    simp [hd, putT, updT]
  · have h1 : putT (stT tr L g0) e.o.dst e.v t = stT tr L g0 t := by
      cases hdd : e.o.dst with
      | none => rfl
      | some d => simp only [putT, updT]; rw [if_neg]; intro h; exact hd (by rw [hdd, h])
    rw [h1]
    refine stT_congr tr rfl fun x hx hxd => ?_
    by_cases hxe : x.i = e.i
    · have : x = e := by
        have h1 := f.mem hx; have h2 := f.mem he
        rw [hxe, h2] at h1; exact (Option.some.inj h1).symm
      subst this
      exact absurd hxd hd
    · simp [add, hxe]
theorem adds_B (f : Fix E nt ops tr g0 B0) {L : Nat → Bool} (hcl : Closed ops L) {e : Ev} (he : e ∈ tr) (hn : Next ops L e) : overW (stB tr L B0) e.wr = stB tr (add L e.i) B0 := by
  funext id
  by_cases hd : id ∈ e.wr.map (·.1)
  · have h1 : stB tr (add L e.i) B0 id = stB tr (le' e.i) B0 id := stB_congr tr rfl fun x hx hxd => by
      rcases Nat.lt_trichotomy x.i e.i with h | h | h
      · have := hn.elder f hcl he (f.hits hx he h (id := id) (.inr (.inl ⟨hxd, hd⟩)))
        simp [le', add, Nat.le_of_lt h, this]
      · rw [h]; simp [le', add]
      · have := hn.younger f hcl hx (f.hits he hx h (id := id) (.inr (.inl ⟨hd, hxd⟩)))
        have h2 : ¬ x.i = e.i := by omega
        have h3 : ¬ x.i ≤ e.i := by omega
        simp [le', add, this, h2, h3]
    rw [h1]
    obtain ⟨pre, post, hs, hpre, hpost⟩ := f.split he
    have h2 : ∀ (B : Nat → Blk), stB (e :: post) (le' e.i) B id = lookW e.wr id (B id) := fun B => by
      simp only [stB]
      have : stB post (le' e.i) (bif le' e.i e.i then overW B e.wr else B) id = stB post (fun _ => false) (bif le' e.i e.i then overW B e.wr else B) id := stB_congr _ rfl fun x hx _ => by
        have := hpost x hx; simp only [le', decide_eq_false_iff_not]; omega
      rw [this]
      have : ∀ (l : List Ev) (g : Nat → Blk), stB l (fun _ => false) g = g := by
        intro l; induction l with
        | nil => intro g; rfl
        | cons y l ih => intro g; simp only [stB, cond]; exact ih g
      rw [this]
      simp [le', overW]
    have h3 : stB tr (le' e.i) B0 id = lookW e.wr id (stB pre (le' e.i) B0 id) := by rw [hs, stB_app]; exact h2 _
    rw [h3]
    exact lookW_on _ _ _ hd
  · have h1 : overW (stB tr L B0) e.wr id = stB tr L B0 id := lookW_off _ _ hd
    rw [h1]
    refine stB_congr tr rfl fun x hx hxd => ?_
    by_cases hxe : x.i = e.i
    · have : x = e := by
        have h1 := f.mem hx; have h2 := f.mem he
        rw [hxe, h2] at h1; exact (Option.some.inj h1).symm
      subst this
      exact absurd hxd hd
    · simp [add, hxe]
theorem guard_bit {o : Oper} {j d : Nat} {want : Bool} (h1 : o.guard = some (j, want)) (h2 : (ops.toList[j]?).bind (·.dst) = some d) : Nat.testBit (readsOf ops.toList o) d = true := by
  have hb : ∀ (l : List Nat), d ∈ l → Nat.testBit (bits l) d = true := by
    intro l h
    induction l with
    | nil => simp at h
    | cons x l ih =>
      simp only [bits, Nat.testBit_or, Bool.or_eq_true]
      rcases List.mem_cons.1 h with rfl | h
      · left; simp
      · right; exact ih h
  refine hb _ (List.mem_append_right _ ?_)
  rw [h1]
  simp only [dstOf]
  cases ho : ops.toList[j]? with
  | none => rw [ho] at h2; cases h2
  | some o' =>
    rw [ho] at h2
    have h2 : o'.dst = some d := h2
    simp [h2]
/-- any order -/
theorem tr_any (hT : tabOK P E.T) (hG : ∀ f s, E.G f = some s → FOK P f s) (f : Fix E nt ops tr g0 B0) {Q : Exit → Act → World → Prop} {φ0 : Pl} {M0 : Nat → Prop} {wb : World} {a0 : Act} (hnt : nt ≤ a0.tmps.size)
    (hq : ∀ φ' M' w' a', Mem K w0 φ' M' (stB tr (fun _ => true) B0) w' → Ext φ0 M0 B0 wb φ' M' (stB tr (fun _ => true) B0) w' → Slots φ' (view w' M') (stB tr (fun _ => true) B0) (stT tr (fun _ => true) g0) a' → Keep (dsts ops.toList) a0 a' → Q .normal a' w') :
    ∀ (fuel : Nat) (listed : Array Bool) (φ : Pl) (M : Nat → Prop) (w : World) (a : Act), listed.size = ops.size → Closed ops (Lof listed) → ((List.range ops.size).filter fun i => !(Lof listed i)).length ≤ fuel →
      Mem K w0 φ M (stB tr (Lof listed) B0) w → Ext φ0 M0 B0 wb φ M (stB tr (Lof listed) B0) w → Slots φ (view w M) (stB tr (Lof listed) B0) (stT tr (Lof listed) g0) a → Keep (dsts ops.toList) a0 a → wpAny P .any ops Q fuel listed a w := by
  -- all are listed where none is ready
  have all : ∀ listed : Array Bool, listed.size = ops.size → Region.ready .any ops listed = [] → ∀ i, i < ops.size → Lof listed i = true := by
    intro listed hls hr i
    induction i using Nat.strongRecOn with
    | _ i ih =>
      intro hi
      cases hL : Lof listed i with
      | true => rfl
      | false =>
        exfalso
        have hmem : i ∈ Region.ready .any ops listed := by
          rw [mem_ready]
          refine ⟨?_, ops[i], Array.getElem?_eq_getElem hi, fun e he hb => ?_⟩
          · unfold Lof at hL
            have : i < listed.size := by omega
            simp [this] at hL ⊢; exact hL
          · have hlt := edgesOK_spec f.edges i ops[i] (by rw [Array.getElem?_toList]; exact Array.getElem?_eq_getElem hi) e (by simpa using he) hb
            exact ih e.on (by omega) (by omega)
        rw [hr] at hmem; cases hmem
  have fin : ∀ (listed : Array Bool) (φ : Pl) (M : Nat → Prop) (w : World) (a : Act), listed.size = ops.size → Region.ready .any ops listed = [] → Mem K w0 φ M (stB tr (Lof listed) B0) w → Ext φ0 M0 B0 wb φ M (stB tr (Lof listed) B0) w →
      Slots φ (view w M) (stB tr (Lof listed) B0) (stT tr (Lof listed) g0) a → Keep (dsts ops.toList) a0 a → Q .normal a w := by
    intro listed φ M w a hls hr hm he hs hk
    have hL := all listed hls hr
    have hin : ∀ x ∈ tr, Lof listed x.i = true := fun x hx => hL _ (by
      have := (List.getElem?_eq_some_iff.1 (f.mem hx)).1
      rw [f.len] at this; exact this)
    have eB : stB tr (Lof listed) B0 = stB tr (fun _ => true) B0 := funext fun id => stB_congr tr rfl fun x hx _ => hin x hx
    have eT : stT tr (Lof listed) g0 = stT tr (fun _ => true) g0 := funext fun t => stT_congr tr rfl fun x hx _ => hin x hx
    rw [eB] at hm he hs; rw [eT] at hs
    exact hq φ M w a hm he hs hk
  intro fuel
  induction fuel with
  | zero =>
    intro listed φ M w a hls hcl hcnt hm he hs hk
    have hr : Region.ready .any ops listed = [] := by
      rw [List.eq_nil_iff_forall_not_mem]
      intro i hi
      obtain ⟨h0, o, ho, _⟩ := mem_ready.1 hi
      have hlt : i < ops.size := (Array.getElem?_eq_some_iff.1 ho).1
      have : i ∈ (List.range ops.size).filter fun i => !(Lof listed i) := by
        rw [List.mem_filter]
        refine ⟨List.mem_range.2 hlt, ?_⟩
        unfold Lof
        have : i < listed.size := by omega
        simp [this] at h0 ⊢; exact h0
      rw [List.length_eq_zero_iff.1 (Nat.le_zero.1 hcnt)] at this
      cases this
    exact ⟨hr, fin listed φ M w a hls hr hm he hs hk⟩
  | succ fuel ih =>
    intro listed φ M w a hls hcl hcnt hm he hs hk
    refine ⟨fun hr => fin listed φ M w a hls hr hm he hs hk, fun j hj => ?_⟩
    obtain ⟨h0, o, ho, hed⟩ := mem_ready.1 hj
    have hlt : j < ops.size := (Array.getElem?_eq_some_iff.1 ho).1
    have hjl : j < listed.size := by omega
    have hLj : Lof listed j = false := by unfold Lof; simp [hjl] at h0 ⊢; exact h0
    -- its event
    obtain ⟨e, he1⟩ : ∃ e, tr[j]? = some e := ⟨_, List.getElem?_eq_getElem (by rw [f.len]; exact hlt)⟩
    have hmem : e ∈ tr := List.mem_of_getElem? he1
    obtain ⟨hei, heo⟩ := f.at he1
    have hoe : e.o = o := by rw [Array.getElem?_toList, ho] at heo; exact (Option.some.inj heo).symm
    have hn : Next ops (Lof listed) e := ⟨by rw [hei]; exact hLj, fun x hx hb => by
      rw [hoe] at hx; exact hed x (by simpa using hx) hb⟩
    obtain ⟨pre, post, hsp, hpre, hpost⟩ := f.split hmem
    have hv := f.valid
    rw [hsp] at hv
    obtain ⟨hdn, hev⟩ := Valid.at pre hv
    have hTx : ∀ t, Nat.testBit (readsOf ops.toList e.o) t = true → stT tr (Lof listed) g0 t = stT pre (fun _ => true) g0 t := fun t ht => by
      rw [sees_T f hcl hmem hn ht, ← text_T (g0 := g0) hpre hpost t, ← hsp]
    have hBx : ∀ id, id ∈ e.rb → stB tr (Lof listed) B0 id = stB pre (fun _ => true) B0 id := fun id hid => by
      rw [sees_B f hcl hmem hn (.inl hid), ← text_B (B0 := B0) hpre hpost id, ← hsp]
    have hev' : (Wants ops.toList e.o (stT tr (Lof listed) g0) ∧ ∃ v0, Same v0 e.v ∧ (opP E e.o).go (stT tr (Lof listed) g0) (stB tr (Lof listed) B0) = some (v0, overW (stB tr (Lof listed) B0) e.wr)) ∨
        (Skips ops.toList e.o (stT tr (Lof listed) g0) ∧ e.v = .undef ∧ e.wr = []) := by
      rcases hev with ⟨hw, v0, hs0, _, hloc⟩ | ⟨hw, hv1, hv2, _⟩
      · left
        refine ⟨?_, v0, hs0, hloc rfl _ _ hTx hBx⟩
        rcases hw with hw | ⟨j', want, d, g1, g2, g3⟩
        · exact .inl hw
        · exact .inr ⟨j', want, d, g1, g2, by rw [hTx d (guard_bit g1 g2)]; exact g3⟩
      · right
        obtain ⟨j', want, d, g1, g2, g3⟩ := hw
        exact ⟨⟨j', want, d, g1, g2, by rw [hTx d (guard_bit g1 g2)]; exact g3⟩, hv1, hv2⟩
    have hL' : Lof (listed.setIfInBounds j true) = add (Lof listed) e.i := by funext i; rw [Lof_set hjl, hei]; rfl
    have hnt' : nt ≤ a.tmps.size := by rw [hk.1]; exact hnt
    have hgo := ev_go (P := P) (Kn := wpAny P .any ops Q fuel (listed.setIfInBounds j true)) (Q := Q) hT hG hdn hnt' hm hs hev' fun φ' M' w' x m1 e1 s1 => by
      rw [adds_B f hcl hmem hn, ← hL'] at m1 e1 s1
      rw [adds_T f hcl hmem hn, ← hL'] at s1
      refine ih (listed.setIfInBounds j true) φ' M' w' _ (by simpa using hls) ?_ ?_ m1 (he.trans e1) s1 (hk.sub (Keep.put (D := dsts ops.toList) fun d hd => ?_) (fun t h => h) (fun t h => h))
      · intro i oi hoi hLi x hx hb
        rw [Lof_set hjl] at hLi ⊢
        simp only [Bool.or_eq_true, decide_eq_true_eq] at hLi ⊢
        right
        rcases hLi with hLi | hLi
        · subst hLi
          have : oi = e.o := by rw [heo] at hoi; exact (Option.some.inj hoi).symm
          subst this
          exact hn.ed x hx hb
        · exact hcl i oi hoi hLi x hx hb
      · have hlen : ((List.range ops.size).filter fun i => !(Lof (listed.setIfInBounds j true) i)).length < ((List.range ops.size).filter fun i => !(Lof listed i)).length := by
          have hsub : ((List.range ops.size).filter fun i => !(Lof (listed.setIfInBounds j true) i)) = ((List.range ops.size).filter fun i => !(Lof listed i)).filter fun i => !(decide (i = j)) := by
            rw [List.filter_filter]
            congr 1
            funext i
            rw [Lof_set hjl, Bool.not_or]
          rw [hsub]
          have hj' : j ∈ ((List.range ops.size).filter fun i => !(Lof listed i)) := by rw [List.mem_filter]; exact ⟨List.mem_range.2 hlt, by rw [hLj]; rfl⟩
          exact List.length_filter_lt_length_iff_exists.2 ⟨j, hj', by simp⟩
        omega
      · have : ∀ (l : List Oper), e.o ∈ l → d ∈ dsts l := by
          intro l hl
          induction l with
          | nil => cases hl
          | cons y l ih =>
            rcases List.mem_cons.1 hl with h | h
            · exact (dsts_cons y l).1 d (by rw [← h]; exact hd)
            · exact (dsts_cons y l).2 d (ih h)
        exact this _ (List.mem_of_getElem? heo)
    unfold wpOp
    rw [ho]
    simp only
    rw [hoe] at hgo
    split
    · rename_i hw; rw [if_pos hw] at hgo; exact .inl hgo
    · rename_i hw; rw [if_neg hw] at hgo; exact hgo
/-- a region -/
theorem region_go (hT : tabOK P E.T) (hG : ∀ f s, E.G f = some s → FOK P f s) (hmix : P.follows .mixedOrders = true) {nv : Nat} (hnt : nt ≤ 1000000) {id : Nat} {draw : Bool} {s : St} {ρ : Type} {k : St → R ρ} {r : ρ}
    (h : ((runOps E ops.toList nv nt draw true 0 ops.toList s []).bind k).ev = some r) {φ : Pl} {M : Nat → Prop} {w : World} {a : Act} (hm : Mem K w0 φ M s.getB w) (hs : Slots φ (view w M) s.getB s.getT a) (hna : nt ≤ a.tmps.size)
    {Q : Exit → Act → World → Prop}
    (hq : ∀ s2 φ' M' w' a', (k s2).ev = some r → Fr (dsts ops.toList) s s2 → Mem K w0 φ' M' s2.getB w' → Ext φ M s.getB w φ' M' s2.getB w' → Slots φ' (view w' M') s2.getB s2.getT a' → Keep (dsts ops.toList) a a' → Q .normal a' w') :
    (Code.region id ops draw).wp P Q a w := by
  obtain ⟨s2, ⟨tr, s1, h1, h2, h3, h4, h5, h6, h7, h8⟩, hk⟩ := runOps_tr hnt _ _ _ _ _ k r h
  have fin : ∀ φ' M' w' a', Mem K w0 φ' M' (stB tr (fun _ => true) s.getB) w' → Ext φ M s.getB w φ' M' (stB tr (fun _ => true) s.getB) w' → Slots φ' (view w' M') (stB tr (fun _ => true) s.getB) (stT tr (fun _ => true) s.getT) a' → Keep (dsts ops.toList) a a' → Q .normal a' w' := by
    intro φ' M' w' a' m1 e1 s1 k1
    rw [← h5] at m1 e1 s1; rw [← h4] at s1
    exact hq s2 φ' M' w' a' hk h7 (by rw [h6.2]; exact m1) (by rw [h6.2]; exact e1) (s1.weak h6) k1
  cases draw with
  | false =>
    refine wp_region_list ?_
    have := tr_list (P := P) hT hG (ops := ops) (Q := Q) tr h3 hm hs hna (by rw [h2]; exact fin)
    rw [h2] at this
    exact this
  | true =>
    obtain ⟨hr, ho⟩ := h8 rfl
    simp only [regOK, Bool.and_eq_true] at hr
    refine wp_region_any hmix ?_
    have f : Fix E nt ops tr s.getT s.getB := ⟨by simpa using h1, h2, h3, hr.2, hr.1, ordOK_spec (by simpa using ho)⟩
    have hL0 : Lof (Array.replicate ops.size false) = fun _ => false := by
      funext i; unfold Lof
      by_cases hi : i < ops.size <;> simp [hi]
    have nB : ∀ (l : List Ev) (B : Nat → Blk), stB l (fun _ => false) B = B := by
      intro l; induction l with
      | nil => intro g; rfl
      | cons y l ih => intro g; simp only [stB, cond]; exact ih g
    have nT : ∀ (l : List Ev) (g : Nat → PV), stT l (fun _ => false) g = g := by
      intro l; induction l with
      | nil => intro g; rfl
      | cons y l ih => intro g; simp only [stT, cond]; exact ih g
    have hm' : Mem K w0 φ M s.getB { w with drawn := w.drawn + 1 } := { hm with keep := hm.keep, blks := hm.blks }
    refine tr_any (P := P) (K := K) (w0 := w0) hT hG f hna fin ops.size _ φ M { w with drawn := w.drawn + 1 } a (by simp) ?_ ?_ ?_ ?_ ?_ (Keep.refl _ _)
    · intro i o _ h; rw [hL0] at h; cases h
    · exact Nat.le_trans (List.length_filter_le _ _) (by simp)
    · rw [hL0, nB]; exact hm'
    · rw [hL0, nB]; exact ⟨fun _ _ => rfl, View.Le.refl _, fun _ => Blk.Le.refl _⟩
    · rw [hL0, nB, nT]; exact hs
end
end Yp
