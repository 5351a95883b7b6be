/- The engine, part R: the operation append, on values. -/
import Derived.Test.YtkmimlgogeeooaaYpQ
set_option linter.unusedVariables false
set_option linter.unusedSimpArgs false
namespace Yp
open Go
variable {P : Program}
section
variable {K : Kp} {w0 w : World} {φ : Pl} {M : Nat → Prop} {B B' : Nat → Blk} {g : Nat → PV} {H : View}
theorem seg_put {c c' : Array Value} {o : Nat} {vs : List Value} (hc : c'.toList = splice c.toList o vs) (hn : o + vs.length ≤ c.size) {a n : Nat} (h : a + n ≤ o) : seg c' a n = seg c a n := by
  rw [seg_list, hc, splice_away (by simpa using hn) (.inl h), ← seg_list]
theorem seg_put_here {c c' : Array Value} {o : Nat} {vs : List Value} (hc : c'.toList = splice c.toList o vs) (hn : o + vs.length ≤ c.size) : seg c' o vs.length = vs := by
  rw [seg_list, hc]
  unfold splice
  have hl : (c.toList.take o).length = o := by simp; omega
  rw [List.append_assoc, List.drop_append_of_le_length (by omega), List.drop_of_length_le (by omega), List.nil_append, List.take_left]
theorem size_put {c c' : Array Value} {o : Nat} {vs : List Value} (hc : c'.toList = splice c.toList o vs) (hn : o + vs.length ≤ c.size) : c'.size = c.size := by
  have := congrArg List.length hc
  rw [splice_length (by simpa using hn)] at this
  simpa using this
/-- appended where a slice of the call's own has none yet -/
theorem append_own_go {e : Ty} (hpos : 0 < e.size) {t u ty et : TypeId} {d : TypeDesc} (ht : P.underlying t = some (.slice et)) (he : (fit P e).1 et) (hu : P.underlying u = some d) (hd : d = .string ∨ ∃ q, d = .slice q)
    (hm : Mem K w0 φ M B w) {x : Value} {ys : List e.den} {news : List Value} (hx : Sup P w e.size ys.length x news) (hE : Els (view w M) e ys news)
    {id : Nat} {l : List e.den} {ne : Bool} {vs : Value} (hB : B id = .ob e l) (hr : RepS φ (view w M) B (.own id ne) vs) (hroom : room e (ln l + ln ys) = true) {nid : Nat} (hnew : B nid = .new) :
    ∃ r w', (Builtin.append_ #[t, u] ty #[vs, x]).run P w = .ok r w' ∧ After K w0 φ M B w (updB (updB B id .gone) nid (.ob e (l ++ ys))) (.own nid false) r w' := by
  have hne : nid ≠ id := fun e => by rw [e, hB] at hnew; cases hnew
  obtain ⟨i, g1, g2, g3, g4⟩ := fit_info he
  have hby := room_bytes hroom g3
  have hmax := room_le hroom
  have hbl := hm.blks id
  rw [hB] at hbl
  simp only [RepS, hB] at hr
  obtain ⟨hown, _⟩ := hr
  have hE1 := hE.1
  -- the old cells
  have grow : ∀ {ad : Option Addr} {cap : Nat} {olds : List Value}, Sup P w e.size l.length (.slice ad l.length cap) olds → Els (view w M) e l olds → cap < l.length + ys.length →
      ∃ r w', (Builtin.append_ #[t, u] ty #[.slice ad l.length cap, x]).run P w = .ok r w' ∧ After K w0 φ M B w (updB (updB B id .gone) nid (.ob e (l ++ ys))) (.own nid false) r w' := by
    intro ad cap olds ho hEo hg
    have hr := run_append_new (P := P) (w := w) (ty := ty) ht hu hd g1 g4 (x := x) (n := ys.length) (news := news) (by rw [g2]; exact hx) (ad := ad) (sLen := l.length) (sCap := cap) (olds := olds) (by rw [g2]; exact ho) hg hmax hby
    refine ⟨_, _, hr, ?_⟩
    obtain ⟨m1, e1⟩ := hm.gone id
    have hge := grownCap_ge w (l.length + ys.length) cap et
    have hcm := grownCap_le_maxLen w (l.length + ys.length) cap et hmax
    have hEls := hEo.append hE
    have hseg : seg (olds.toArray ++ news.toArray ++ Builtin.zeroCells (mkV e (zcells e)).cells (grownCap w (l.length + ys.length) cap et - (l.length + ys.length))) 0 ((l ++ ys).length * e.size) = olds ++ news := by
      rw [seg_list, ← hEls.1]
      simp only [Array.toList_append, List.drop_zero]
      exact List.take_left
    have hsz : grownCap w (l.length + ys.length) cap et * e.size = (olds.toArray ++ news.toArray ++ Builtin.zeroCells (mkV e (zcells e)).cells (grownCap w (l.length + ys.length) cap et - (l.length + ys.length))).size := by
      rw [Array.size_append, size_zeroCells, zcells_mkV]
      simp only [Array.size_append, List.size_toArray, zcells_length, hEo.1, hE1, ← Nat.add_mul]
      congr 1; omega
    have hrow : Row (view w M) e (l ++ ys) (olds.toArray ++ news.toArray ++ Builtin.zeroCells (mkV e (zcells e)).cells (grownCap w (l.length + ys.length) cap et - (l.length + ys.length))) 0 := by
      refine Els.row ?_ ?_
      · rw [← hsz, Nat.zero_add, List.length_append]; exact Nat.mul_le_mul_right _ hge
      · rw [hseg]; exact hEls
    have := row_born (K := K) (w0 := w0) (φ := φ) (M := M) (B := updB B id .gone) (w := w) m1 (id := nid) (by rw [updB_ne _ _ hne]; exact hnew)
      (w' := w.drew.alloc (.cells (olds.toArray ++ news.toArray ++ Builtin.zeroCells (mkV e (zcells e)).cells (grownCap w (l.length + ys.length) cap et - (l.length + ys.length))) et))
      rfl rfl rfl (by rw [alloc_size]; exact Nat.lt_succ_self _) (alloc_old w.drew _) hpos (l := l ++ ys) (alloc_new w.drew _) (okFz_zero _) (view_full w M) hrow (cap := grownCap w (l.length + ys.length) cap et) (by rw [List.length_append]; exact hge) hcm (by rw [hsz]; exact Nat.le_refl _) false (fun h => by cases h)
    obtain ⟨φ', M', m2, e2, h2⟩ := this
    rw [List.length_append] at h2
    exact ⟨φ', M', m2, e1.trans e2, h2⟩
  rcases hown with ⟨h1, ad, h2⟩ | ⟨b, o, n, cap, h1, h2, h3, h4, h5⟩
  · have hl : l = [] := List.length_eq_zero_iff.1 h1
    subst hl; subst h2
    by_cases hy : ys.length = 0
    · have hys : ys = [] := List.length_eq_zero_iff.1 hy
      subst hys
      have hn : news = [] := List.length_eq_zero_iff.1 (by rw [hE1]; simp)
      subst hn
      refine ⟨_, _, run_append_none (P := P) ht hu hd g1 (by rw [g2]; exact hx), ?_⟩
      obtain ⟨m1, e1⟩ := hm.gone id
      obtain ⟨m2, e2⟩ := m1.adopt (id := nid) (by rw [updB_ne _ _ hne]; exact hnew) (.ob e ([] ++ [])) none (fun _ y hy => by cases hy) (fun _ y hy => by cases hy) (fun _ => ⟨hpos, .inl ⟨updP_same _ _ _, rfl⟩⟩)
      refine ⟨_, _, m2, e1.trans e2, ?_⟩
      simp only [RepP, RepQ, RepS, updB_same]
      exact ⟨.inl ⟨rfl, ad, rfl⟩, fun h => by cases h⟩
    · exact grow (olds := []) (sup_nil _ _ _) (Els.nil e) (by simp; omega)
  · subst h2
    rcases hbl.2 with ⟨k1, _⟩ | ⟨b', o', c, el, fz, k1, k2, k3, k4, k5⟩
    · rw [h1] at k1; cases k1
    · rw [h1] at k1; cases k1
      simp only [Nat.zero_mul, Nat.add_zero, Nat.zero_add] at h5 ⊢
      have ho := sup_row (P := P) (cap := cap) k2 k3
      by_cases hg : cap < l.length + ys.length
      · exact grow ho k3.els hg
      · have hroom2 : l.length + ys.length ≤ cap := by omega
        have hmul : (l.length + ys.length) * e.size ≤ cap * e.size := Nat.mul_le_mul_right _ hroom2
        rw [Nat.add_mul] at hmul
        obtain ⟨w', hr, c', hp, hc'⟩ := run_append_in (P := P) (w := w) (ty := ty) ht hu hd g1 (x := x) (n := ys.length) (news := news) (by rw [g2]; exact hx) (b := b) (o := o) (sLen := l.length) (sCap := cap) hroom2 k2 k4 (by rw [g2]; omega) hE.one
        rw [g2] at hc'
        have hfit : o + l.length * e.size + news.length ≤ c.size := by omega
        have hsz := size_put hc' hfit
        refine ⟨_, w', hr, ?_⟩
        have hrow' : ∀ {H' : View}, (view w M).Le H' → Row H' e l c' o := fun hle => by
          refine Els.row (by omega) ?_
          rw [seg_put hc' hfit (Nat.le_refl _)]
          exact (k3.mono hle).els
        obtain ⟨m1, e1⟩ := hm.put (id := id) (x := (b, o, c.size)) (w' := w') (by rw [hB]; rfl) h1 k5 hp.os hp.tape hp.output hp.size hp.other (.ob e l) (by rw [hB]; exact ⟨rfl, rfl⟩) fun he => by
          exact ⟨hpos, .inr ⟨b, o, c', el, fz, by rw [h1, hsz], hp.here, hrow' he.vw, fun j hj => k4 j (by omega), k5⟩⟩
        have hBB : updB B id (.ob e l) = B := by
          funext j
          by_cases hj : j = id
          · subst hj; rw [updB_same, hB]
          · rw [updB_ne _ _ hj]
        rw [hBB] at m1 e1
        obtain ⟨m2, e2⟩ := m1.gone id
        have e12 := e1.trans e2
        obtain ⟨m3, e3⟩ := m2.adopt (id := nid) (by rw [updB_ne _ _ hne]; exact hnew) (.ob e (l ++ ys)) (some (b, o, c.size)) (fun _ y hy => by cases hy; exact m1.own id (by rw [hB]; rfl) _ h1) (fun _ y hy j hj z hz => by
            cases hy
            have hji : j ≠ id := fun e => by subst e; rw [updB_same] at hj; cases hj
            rw [updB_ne _ _ hji] at hj
            exact m1.sep j id hji hj (by rw [hB]; rfl) z _ hz h1) (fun he => by
          refine ⟨hpos, .inr ⟨b, o, c', el, fz, by rw [updP_same, hsz], hp.here, ?_, fun j hj => k4 j (by omega), k5⟩⟩
          refine Els.row (by rw [List.length_append, Nat.add_mul]; omega) ?_
          rw [List.length_append, Nat.add_mul, seg_add, seg_put hc' hfit (Nat.le_refl _), ← hE1, seg_put_here hc' hfit]
          have hle := e12.vw
          exact ((k3.mono hle).els).append ⟨hE1, fun i x hi => (hE.2 i x hi).mono hle⟩)
        refine ⟨_, _, m3, e12.trans e3, ?_⟩
        simp only [RepP, RepQ, RepS, updB_same]
        refine ⟨.inr ⟨b, o, c.size, cap, updP_same _ _ _, by rw [Nat.zero_mul, Nat.add_zero, List.length_append], by rw [List.length_append]; exact hroom2, h4, by rw [Nat.zero_add]; exact h5⟩, fun h => by cases h⟩
/-- appended to data: a slice that nobody may write behind -/
theorem append_csl_go {e : Ty} (hpos : 0 < e.size) {t u ty et : TypeId} {d : TypeDesc} (ht : P.underlying t = some (.slice et)) (he : (fit P e).1 et) (hu : P.underlying u = some d) (hd : d = .string ∨ ∃ q, d = .slice q)
    (hm : Mem K w0 φ M B w) {x : Value} {ys : List e.den} {news : List Value} (hx : Sup P w e.size ys.length x news) (hE : Els (view w M) e ys news)
    {l : List e.den} {ad : Option Addr} (hC : RepC (view w M) (.sl e) l [.slice ad l.length l.length]) (hroom : room e (ln l + ln ys) = true) :
    (∃ r w', (Builtin.append_ #[t, u] ty #[.slice ad l.length l.length, x]).run P w = .ok r w' ∧ After K w0 φ M B w B (.sc (.sl e) (l ++ ys)) r w') ∧
    (ys.length ≠ 0 → ∀ nid, B nid = .new → ∃ r w', (Builtin.append_ #[t, u] ty #[.slice ad l.length l.length, x]).run P w = .ok r w' ∧ After K w0 φ M B w (updB B nid (.ob e (l ++ ys))) (.own nid false) r w') := by
  obtain ⟨i, g1, g2, g3, g4⟩ := fit_info he
  have hby := room_bytes hroom g3
  have hmax := room_le hroom
  have hE1 := hE.1
  obtain ⟨olds, ho, hEo⟩ : ∃ olds, Sup P w e.size l.length (.slice ad l.length l.length) olds ∧ Els (view w M) e l olds := by
    obtain ⟨a', c', q1, _, _, q2⟩ := RepC.sl_iff.1 hC
    simp only [List.cons.injEq, Value.slice.injEq, and_true] at q1
    rcases q2 with q2 | ⟨b, o, c, el, fz, q3, q4, q5⟩
    · subst q2; exact ⟨[], sup_nil _ _ _, Els.nil e⟩
    · rw [← q1.1] at q3; subst q3
      exact ⟨_, sup_row (view_some.1 q4).2 q5, Row.els q5⟩
  by_cases hy : ys.length = 0
  · have hys : ys = [] := List.length_eq_zero_iff.1 hy
    subst hys
    have hn : news = [] := List.length_eq_zero_iff.1 (by rw [hE1]; simp)
    subst hn
    refine ⟨?_, fun h => absurd hy h⟩
    have hrun : (Builtin.append_ #[t, u] ty #[.slice ad l.length l.length, x]).run P w = .ok (.slice ad l.length l.length) w := by
      have e1 := hx.1 w
      have e2 := hx.2 w rfl
      rw [← g2] at e2
      simp only [List.length_nil] at e1 e2
      cases ad <;> (rcases hd with rfl | ⟨q, rfl⟩ <;> simp [Builtin.append_, run_underlying ht, run_underlying hu, Go.sizeOf, typeInfo, g1, e1, e2, storeCells])
    refine ⟨_, _, hrun, After.same hm rfl ?_⟩
    rw [List.append_nil]
    exact ⟨_, hC, rfl⟩
  · have hg : l.length < l.length + ys.length := by omega
    have hr := run_append_new (P := P) (w := w) (ty := ty) ht hu hd g1 g4 (x := x) (n := ys.length) (news := news) (by rw [g2]; exact hx) (ad := ad) (sLen := l.length) (sCap := l.length) (olds := olds) (by rw [g2]; exact ho) hg hmax hby
    have hge := grownCap_ge w (l.length + ys.length) l.length et
    have hcm := grownCap_le_maxLen w (l.length + ys.length) l.length et hmax
    have hEls := hEo.append hE
    generalize hcur : (olds.toArray ++ news.toArray ++ Builtin.zeroCells (mkV e (zcells e)).cells (grownCap w (l.length + ys.length) l.length et - (l.length + ys.length))) = cur at hr
    have hseg : seg cur 0 ((l ++ ys).length * e.size) = olds ++ news := by
      rw [← hcur, seg_list, ← hEls.1]
      simp only [Array.toList_append, List.drop_zero]
      exact List.take_left
    have hsz : grownCap w (l.length + ys.length) l.length et * e.size = cur.size := by
      rw [← hcur, Array.size_append, size_zeroCells, zcells_mkV]
      simp only [Array.size_append, List.size_toArray, zcells_length, hEo.1, hE1, ← Nat.add_mul]
      congr 1; omega
    have hrow : Row (view w M) e (l ++ ys) cur 0 := by
      refine Els.row ?_ ?_
      · rw [← hsz, Nat.zero_add, List.length_append]; exact Nat.mul_le_mul_right _ hge
      · rw [hseg]; exact hEls
    refine ⟨⟨_, _, hr, ?_⟩, fun _ nid hnew => ⟨_, _, hr, ?_⟩⟩
    · obtain ⟨m1, e1⟩ := hm.grow (w' := w.drew.alloc (.cells cur et)) rfl rfl rfl (by rw [alloc_size]; exact Nat.le_succ _) (alloc_old w.drew _) (fun _ => False) (fun b h => h.elim)
      refine ⟨_, _, m1, e1, [_], RepC.sl_iff.2 ⟨some ⟨w.heap.size, 0, none⟩, grownCap w (l.length + ys.length) l.length et, by rw [List.length_append], by rw [List.length_append]; exact hge, hcm, .inr ⟨w.heap.size, 0, cur, et, (0, 0), rfl, ?_, (hrow.mono e1.vw).1, fun i x hi => (hrow.mono e1.vw).2 i x hi⟩⟩, rfl⟩
      refine view_some.2 ⟨fun h => h.elim (fun h => ?_) id, alloc_new w.drew _⟩
      have := hm.mlt _ h; omega
    · have := row_born (K := K) (w0 := w0) (φ := φ) (M := M) (B := B) (w := w) hm (id := nid) hnew
        (w' := w.drew.alloc (.cells cur et)) rfl rfl rfl (by rw [alloc_size]; exact Nat.lt_succ_self _) (alloc_old w.drew _) hpos (l := l ++ ys) (alloc_new w.drew _) (okFz_zero _) (view_full w M) hrow (cap := grownCap w (l.length + ys.length) l.length et) (by rw [List.length_append]; exact hge) hcm (by rw [hsz]; exact Nat.le_refl _) false (fun h => by cases h)
      rw [List.length_append] at this
      exact this
theorem append_nil_go {e : Ty} (hpos : 0 < e.size) {t u ty et : TypeId} {d : TypeDesc} (ht : P.underlying t = some (.slice et)) (he : (fit P e).1 et) (hu : P.underlying u = some d) (hd : d = .string ∨ ∃ q, d = .slice q)
    (hm : Mem K w0 φ M B w) {x : Value} {ys : List e.den} {news : List Value} (hx : Sup P w e.size ys.length x news) (hE : Els (view w M) e ys news) (hroom : room e (ln ys) = true) {nid : Nat} (hnew : B nid = .new) :
    ∃ r w', (Builtin.append_ #[t, u] ty #[.slice none 0 0, x]).run P w = .ok r w' ∧ After K w0 φ M B w (updB B nid (.ob e ys)) (.own nid false) r w' := by
  by_cases hy : ys.length = 0
  · have hys : ys = [] := List.length_eq_zero_iff.1 hy
    subst hys
    have hn : news = [] := List.length_eq_zero_iff.1 (by rw [hE.1]; simp)
    subst hn
    obtain ⟨i, g1, g2, g3, g4⟩ := fit_info he
    refine ⟨_, _, run_append_none (P := P) ht hu hd g1 (by rw [g2]; exact hx), ?_⟩
    obtain ⟨m2, e2⟩ := hm.adopt (id := nid) hnew (.ob e []) none (fun _ y hy => by cases hy) (fun _ y hy => by cases hy) (fun _ => ⟨hpos, .inl ⟨updP_same _ _ _, rfl⟩⟩)
    refine ⟨_, _, m2, e2, ?_⟩
    simp only [RepP, RepQ, RepS, updB_same]
    exact ⟨.inl ⟨rfl, none, rfl⟩, fun h => by cases h⟩
  · have := (append_csl_go (ty := ty) hpos ht he hu hd hm hx hE (l := []) (ad := none) (RepC.sl_iff.2 ⟨none, 0, rfl, Nat.le_refl _, by unfold maxLen; omega, .inl rfl⟩) (by simpa [ln] using hroom)).2 hy nid hnew
    simpa using this
end
end Yp
