/- A part of the proof of the statements of this seat: plain functions, and laws on them. No condition of its own. -/
import Derived.Test.YtbffdlbcpdmncaaQ2
set_option linter.unusedVariables false
set_option linter.unusedSimpArgs false
namespace Yp
open Go
def few (m : M) : Prop := m.2.1.length ≤ 40 ∧ ∀ v ∈ m.2.1, v.2.1.length ≤ 450
theorem few.fewM {m : M} (h : few m) : fewM m := ⟨by have := h.1; omega, fun v hv => by have := h.2 v hv; omega⟩
def fwStep (_ : Unit) (v : V) : LS Unit (Bool × Unit) := if v.2.1.length ≤ 450 then .nx () else .rt (false, ())
theorem foldS_fw {σ : Type} {mk : Unit → Nat → σ} {e : Nat} : ∀ (l : List V) (i : Nat), ((∀ v ∈ l, v.2.1.length ≤ 450) ∧ ∃ y, foldS mk e fwStep () i l = .ex e y) ∨ ((¬ ∀ v ∈ l, v.2.1.length ≤ 450) ∧ foldS mk e fwStep () i l = .rt (false, ()))
  | [], i => .inl ⟨by simp, _, rfl⟩
  | v :: r, i => by
    by_cases h : v.2.1.length ≤ 450
    · have hs : fwStep () v = .nx () := if_pos h
      have := foldS_fw (mk := mk) (e := e) r (i + 1)
      simp only [foldS, hs, List.mem_cons, forall_eq_or_imp, h, true_and]; exact this
    · have hs : fwStep () v = .rt (false, ()) := if_neg h
      exact .inr ⟨fun hc => h (hc v (by simp)), by simp only [foldS, hs]⟩
theorem ref07_Few_spec (m : M) : ref07_Few (m, ()) = some (D (few m), ()) := by
  unfold ref07_Few
  by_cases hl : m.2.1.length ≤ 40
  · generalize hf : (fun (x_1 : Bool × Int × Unit) => _) = f
    have key := loop_fold (f := f) m.2.1 (fun (_ : Unit) i => (false, (i : Int), ())) 0 fwStep (fun _ _ => True) (fun _ i h _ => ⟨?_, fun _ _ => trivial⟩) (fun _ _ => ?_) () trivial
    · refine (sel_of_f (by simp (disch := first | assumption | omega | (dsimp only; omega) | decide) only [↓g02, ↓g03, ↓g04, ↓g05, ↓g06, g01, g02, g03, g04, g05, g06, g07, g08, g09, g10, g11, g12, g13, g14, g15, g16, g17, g18, g19, g20, g21, g22, g23, g24, g25, g26, g27, g28, g29, g30, g31, g32, g34, g35, g36, g37, g38, g39, g40, g41, g42, g43, g44, g45, g46, g47, g48, g49, g50, g51, g52, g53, g54, g55, g56, g57, g58, g60, g61, eq_self, not_true_eq_false, not_false_eq_true, List.nil_append, List.append_nil, List.length_nil, and_true, true_and, or_true, true_or, or_false, false_or, and_false, false_and, iff_self, if_true, if_false, lc_rt', lc_ex', lc_nx, g62, g63, Int.toNat_natCast, Int.natCast_add, nth_get, g33, g64, g65, Int.toNat_zero, Bool.false_eq_true, Int.reduceToNat, g66]; omega)).trans ((lc_eq key).trans ?_)
      rcases foldS_fw (mk := fun _ i => ((false, (i : Int), ()) : Bool × Int × Unit)) (e := 0) m.2.1 0 with ⟨h1, y, h2⟩ | ⟨h1, h2⟩
      · have : few m := ⟨hl, h1⟩
        rw [h2]; simp (disch := first | assumption | omega | (dsimp only; omega) | decide) only [↓g02, ↓g03, ↓g04, ↓g05, ↓g06, g01, g02, g03, g04, g05, g06, g07, g08, g09, g10, g11, g12, g13, g14, g15, g16, g17, g18, g19, g20, g21, g22, g23, g24, g25, g26, g27, g28, g29, g30, g31, g32, g34, g35, g36, g37, g38, g39, g40, g41, g42, g43, g44, g45, g46, g47, g48, g49, g50, g51, g52, g53, g54, g55, g56, g57, g58, g60, g61, eq_self, not_true_eq_false, not_false_eq_true, List.nil_append, List.append_nil, List.length_nil, and_true, true_and, or_true, true_or, or_false, false_or, and_false, false_and, iff_self, if_true, if_false, lc_rt', lc_ex', lc_nx, g62, g63, Int.toNat_natCast, Int.natCast_add, nth_get, g33, g64, g65, Int.toNat_zero, Bool.false_eq_true, Int.reduceToNat, g66, this]
      · have : ¬ few m := fun h => h1 h.2
        rw [h2]; simp (disch := first | assumption | omega | (dsimp only; omega) | decide) only [↓g02, ↓g03, ↓g04, ↓g05, ↓g06, g01, g02, g03, g04, g05, g06, g07, g08, g09, g10, g11, g12, g13, g14, g15, g16, g17, g18, g19, g20, g21, g22, g23, g24, g25, g26, g27, g28, g29, g30, g31, g32, g34, g35, g36, g37, g38, g39, g40, g41, g42, g43, g44, g45, g46, g47, g48, g49, g50, g51, g52, g53, g54, g55, g56, g57, g58, g60, g61, eq_self, not_true_eq_false, not_false_eq_true, List.nil_append, List.append_nil, List.length_nil, and_true, true_and, or_true, true_or, or_false, false_or, and_false, false_and, iff_self, if_true, if_false, lc_rt', lc_ex', lc_nx, g62, g63, Int.toNat_natCast, Int.natCast_add, nth_get, g33, g64, g65, Int.toNat_zero, Bool.false_eq_true, Int.reduceToNat, g66, this]
    · subst hf
      by_cases h1 : (m.2.1[i]).2.1.length ≤ 450
      · have hs : fwStep () m.2.1[i] = .nx () := if_pos h1
        simp (disch := first | assumption | omega | (dsimp only; omega) | decide) only [↓g02, ↓g03, ↓g04, ↓g05, ↓g06, g01, g02, g03, g04, g05, g06, g07, g08, g09, g10, g11, g12, g13, g14, g15, g16, g17, g18, g19, g20, g21, g22, g23, g24, g25, g26, g27, g28, g29, g30, g31, g32, g34, g35, g36, g37, g38, g39, g40, g41, g42, g43, g44, g45, g46, g47, g48, g49, g50, g51, g52, g53, g54, g55, g56, g57, g58, g60, g61, eq_self, not_true_eq_false, not_false_eq_true, List.nil_append, List.append_nil, List.length_nil, and_true, true_and, or_true, true_or, or_false, false_or, and_false, false_and, iff_self, if_true, if_false, lc_rt', lc_ex', lc_nx, g62, g63, Int.toNat_natCast, Int.natCast_add, nth_get, g33, g64, g65, Int.toNat_zero, Bool.false_eq_true, Int.reduceToNat, g66, hs, liftS]
      · have hs : fwStep () m.2.1[i] = .rt (false, ()) := if_neg h1
        simp (disch := first | assumption | omega | (dsimp only; omega) | decide) only [↓g02, ↓g03, ↓g04, ↓g05, ↓g06, g01, g02, g03, g04, g05, g06, g07, g08, g09, g10, g11, g12, g13, g14, g15, g16, g17, g18, g19, g20, g21, g22, g23, g24, g25, g26, g27, g28, g29, g30, g31, g32, g34, g35, g36, g37, g38, g39, g40, g41, g42, g43, g44, g45, g46, g47, g48, g49, g50, g51, g52, g53, g54, g55, g56, g57, g58, g60, g61, eq_self, not_true_eq_false, not_false_eq_true, List.nil_append, List.append_nil, List.length_nil, and_true, true_and, or_true, true_or, or_false, false_or, and_false, false_and, iff_self, if_true, if_false, lc_rt', lc_ex', lc_nx, g62, g63, Int.toNat_natCast, Int.natCast_add, nth_get, g33, g64, g65, Int.toNat_zero, Bool.false_eq_true, Int.reduceToNat, g66, hs, liftS]
    · subst hf; simp (disch := first | assumption | omega | (dsimp only; omega) | decide) only [↓g02, ↓g03, ↓g04, ↓g05, ↓g06, g01, g02, g03, g04, g05, g06, g07, g08, g09, g10, g11, g12, g13, g14, g15, g16, g17, g18, g19, g20, g21, g22, g23, g24, g25, g26, g27, g28, g29, g30, g31, g32, g34, g35, g36, g37, g38, g39, g40, g41, g42, g43, g44, g45, g46, g47, g48, g49, g50, g51, g52, g53, g54, g55, g56, g57, g58, g60, g61, eq_self, not_true_eq_false, not_false_eq_true, List.nil_append, List.append_nil, List.length_nil, and_true, true_and, or_true, true_or, or_false, false_or, and_false, false_and, iff_self, if_true, if_false, lc_rt', lc_ex', lc_nx, g62, g63, Int.toNat_natCast, Int.natCast_add, nth_get, g33, g64, g65, Int.toNat_zero, Bool.false_eq_true, Int.reduceToNat, g66]
  · have : ¬ few m := fun h => hl h.1
    simp (disch := first | assumption | omega | (dsimp only; omega) | decide) only [↓g02, ↓g03, ↓g04, ↓g05, ↓g06, g01, g02, g03, g04, g05, g06, g07, g08, g09, g10, g11, g12, g13, g14, g15, g16, g17, g18, g19, g20, g21, g22, g23, g24, g25, g26, g27, g28, g29, g30, g31, g32, g34, g35, g36, g37, g38, g39, g40, g41, g42, g43, g44, g45, g46, g47, g48, g49, g50, g51, g52, g53, g54, g55, g56, g57, g58, g60, g61, eq_self, not_true_eq_false, not_false_eq_true, List.nil_append, List.append_nil, List.length_nil, and_true, true_and, or_true, true_or, or_false, false_or, and_false, false_and, iff_self, if_true, if_false, lc_rt', lc_ex', lc_nx, g62, g63, Int.toNat_natCast, Int.natCast_add, nth_get, g33, g64, g65, Int.toNat_zero, Bool.false_eq_true, Int.reduceToNat, g66, this]
theorem law07_shown_spec : law07_shown () = some (true, ()) := by
  unfold law07_shown
  refine (ob_of (iso_Set_spec _ _ _ (by decide +kernel) (by decide +kernel))).trans ?_
  refine (ob_of (iso_Write_spec _ ⟨by decide +kernel, by decide +kernel⟩)).trans ?_
  refine (ob_of (iso_Read_spec _ (by decide +kernel))).trans ?_
  refine (ob_of (iso_Get_spec _ _ (by decide +kernel))).trans ?_
  refine (ob_of (iso_Reply_spec _)).trans ?_
  refine (ob_of (iso_Drop_spec _ _ (by decide +kernel))).trans ?_
  refine (ob_of (a := (true, ())) ?_).trans rfl
  repeat first
    | refine (sel_of_t (by decide +kernel)).trans ?_
    | refine (sel_of_t (D_t (by decide +kernel))).trans ?_
    | refine (sel_of_t (by rw [D_f (by decide +kernel)]; rfl)).trans ?_
    | refine (ob_of (ref01_Hex_spec _ (by decide +kernel))).trans ?_
    | refine (ob_of (iso_Same_spec _ _ (by decide +kernel))).trans ?_
    | refine (ob_of (iso_Class_spec _)).trans ?_
    | refine (ob_of (iso_Type_spec _)).trans ?_
    | refine (ob_of (iso_Right_spec _ ⟨by decide +kernel, by decide +kernel⟩)).trans ?_
  rw [D_f (by decide +kernel)]; rfl
theorem law07_IsoTypes' (n : UInt16) : law07_IsoTypes (n, ()) = some (true, ()) := by
  unfold law07_IsoTypes
  have hn := n.toNat_lt
  simp (disch := first | assumption | omega | (dsimp only; omega) | decide) only [↓g02, ↓g03, ↓g04, ↓g05, ↓g06, g01, g02, g03, g04, g05, g06, g07, g08, g09, g10, g11, g12, g13, g14, g15, g16, g17, g18, g19, g20, g21, g22, g23, g24, g25, g26, g27, g28, g29, g30, g31, g32, g34, g35, g36, g37, g38, g39, g40, g41, g42, g43, g44, g45, g46, g47, g48, g49, g50, g51, g52, g53, g54, g55, g56, g57, g58, g60, g61, eq_self, not_true_eq_false, not_false_eq_true, List.nil_append, List.append_nil, List.length_nil, and_true, true_and, or_true, true_or, or_false, false_or, and_false, false_and, iff_self, if_true, if_false, lc_rt', lc_ex', lc_nx, g62, g63, Int.toNat_natCast, Int.natCast_add, nth_get, g33, g64, g65, Int.toNat_zero, Bool.false_eq_true, Int.reduceToNat, g66, law07_shown_spec]
  obtain ⟨m, hm⟩ : ∃ m : Int, (n.toNat : Int) % 1100 = m := ⟨_, rfl⟩
  have hb : 0 ≤ m ∧ m < 1100 := by omega
  have hP : ((((m < 1000 ∧ 1 ≤ m / 100) ∧ m / 100 ≤ 8) ∧ m / 10 % 10 ≤ 4) ∧ m % 10 ≤ 5) = typeOK m := propext (by unfold typeOK; omega)
  simp only [hm, hP]
  by_cases ht : typeOK m
  · have htb := ht
    unfold typeOK at htb
    by_cases h2 : m / 10 % 10 = 0 ∨ m / 10 % 10 = 2
    · have hr : replyD m = (m + 10, true, ()) := by unfold replyD; rw [if_pos ⟨ht, h2⟩]
      have ht' : typeOK (m + 10) := by unfold typeOK; omega
      have hr' : replyD (m + 10) = (0, false, ()) := by unfold replyD; rw [if_neg (by omega)]
      simp (disch := first | assumption | omega | (dsimp only; omega) | decide) only [↓g02, ↓g03, ↓g04, ↓g05, ↓g06, g01, g02, g03, g04, g05, g06, g07, g08, g09, g10, g11, g12, g13, g14, g15, g16, g17, g18, g19, g20, g21, g22, g23, g24, g25, g26, g27, g28, g29, g30, g31, g32, g34, g35, g36, g37, g38, g39, g40, g41, g42, g43, g44, g45, g46, g47, g48, g49, g50, g51, g52, g53, g54, g55, g56, g57, g58, g60, g61, eq_self, not_true_eq_false, not_false_eq_true, List.nil_append, List.append_nil, List.length_nil, and_true, true_and, or_true, true_or, or_false, false_or, and_false, false_and, iff_self, if_true, if_false, lc_rt', lc_ex', lc_nx, g62, g63, Int.toNat_natCast, Int.natCast_add, nth_get, g33, g64, g65, Int.toNat_zero, Bool.false_eq_true, Int.reduceToNat, g66, iso_Reply_spec, iso_Type_spec, iso_Class_spec, ht, hr, ht', hr']
      exact some_D (by omega)
    · have hr : replyD m = (0, false, ()) := by unfold replyD; rw [if_neg (by omega)]
      simp (disch := first | assumption | omega | (dsimp only; omega) | decide) only [↓g02, ↓g03, ↓g04, ↓g05, ↓g06, g01, g02, g03, g04, g05, g06, g07, g08, g09, g10, g11, g12, g13, g14, g15, g16, g17, g18, g19, g20, g21, g22, g23, g24, g25, g26, g27, g28, g29, g30, g31, g32, g34, g35, g36, g37, g38, g39, g40, g41, g42, g43, g44, g45, g46, g47, g48, g49, g50, g51, g52, g53, g54, g55, g56, g57, g58, g60, g61, eq_self, not_true_eq_false, not_false_eq_true, List.nil_append, List.append_nil, List.length_nil, and_true, true_and, or_true, true_or, or_false, false_or, and_false, false_and, iff_self, if_true, if_false, lc_rt', lc_ex', lc_nx, g62, g63, Int.toNat_natCast, Int.natCast_add, nth_get, g33, g64, g65, Int.toNat_zero, Bool.false_eq_true, Int.reduceToNat, g66, iso_Reply_spec, iso_Type_spec, iso_Class_spec, ht, hr]
  · have hr : replyD m = (0, false, ()) := by unfold replyD; rw [if_neg (by simp [ht])]
    simp (disch := first | assumption | omega | (dsimp only; omega) | decide) only [↓g02, ↓g03, ↓g04, ↓g05, ↓g06, g01, g02, g03, g04, g05, g06, g07, g08, g09, g10, g11, g12, g13, g14, g15, g16, g17, g18, g19, g20, g21, g22, g23, g24, g25, g26, g27, g28, g29, g30, g31, g32, g34, g35, g36, g37, g38, g39, g40, g41, g42, g43, g44, g45, g46, g47, g48, g49, g50, g51, g52, g53, g54, g55, g56, g57, g58, g60, g61, eq_self, not_true_eq_false, not_false_eq_true, List.nil_append, List.append_nil, List.length_nil, and_true, true_and, or_true, true_or, or_false, false_or, and_false, false_and, iff_self, if_true, if_false, lc_rt', lc_ex', lc_nx, g62, g63, Int.toNat_natCast, Int.natCast_add, nth_get, g33, g64, g65, Int.toNat_zero, Bool.false_eq_true, Int.reduceToNat, g66, iso_Reply_spec, iso_Type_spec, iso_Class_spec, ht, hr]
theorem law07_IsoTypes_true (x : denL [.int .u16]) (_ : okL [.int .u16] x) : law07_IsoTypes x = some (true, ()) := law07_IsoTypes' x.1
theorem rdM_len {b : List UInt8} : (rdM b).1.2.1.length ≤ 1000 := by
  rcases rdM_err (b := b) with h | h
  · rcases hx : rdM b with ⟨m, e, u⟩
    rw [hx] at h
    simp only at h
    subst h
    have hr := (rightM_iff.1 (rdM_inv hx).1).1
    have hL := rightF_L1 hr
    have hs := rightL_sorted hL
    have hm := rightL_mem hL
    have hlen : (nosF m.2.1).length ≤ 128 := by
      have key : ∀ (l : List Int) (lo : Int), l.Pairwise (· < ·) → (∀ n ∈ l, lo < n ∧ n ≤ 128) → (l.length : Int) ≤ 128 - lo ∨ l = [] := by
        intro l
        induction l with
        | nil => intros; exact .inr rfl
        | cons x r ih =>
          intro lo hp h
          rw [List.pairwise_cons] at hp
          have hx := h x (by simp)
          left
          rcases ih x hp.2 (fun n hn => ⟨hp.1 n hn, (h n (by simp [hn])).2⟩) with h1 | h1
          · simp only [List.length_cons]; omega
          · subst h1; simp; omega
      rcases key _ 1 hs (fun n hn => ⟨(hm n hn).1, (hm n hn).2.1⟩) with h1 | h1
      · omega
      · rw [h1]; simp
    simp only [nosF, List.length_map] at hlen
    show m.2.1.length ≤ 1000
    omega
  · rw [h]; simp [noM]
theorem law07_IsoTells' (a b : M) (m : Int) : law07_IsoTells (a, b, m, ()) = some (true, ()) := by
  unfold law07_IsoTells
  by_cases ha : few a
  · by_cases hb : few b
    · have ha' := ha.fewM
      have hl := ha'.1
      simp (disch := first | assumption | omega | (dsimp only; omega) | decide) only [↓g02, ↓g03, ↓g04, ↓g05, ↓g06, g01, g02, g03, g04, g05, g06, g07, g08, g09, g10, g11, g12, g13, g14, g15, g16, g17, g18, g19, g20, g21, g22, g23, g24, g25, g26, g27, g28, g29, g30, g31, g32, g34, g35, g36, g37, g38, g39, g40, g41, g42, g43, g44, g45, g46, g47, g48, g49, g50, g51, g52, g53, g54, g55, g56, g57, g58, g60, g61, eq_self, not_true_eq_false, not_false_eq_true, List.nil_append, List.append_nil, List.length_nil, and_true, true_and, or_true, true_or, or_false, false_or, and_false, false_and, iff_self, if_true, if_false, lc_rt', lc_ex', lc_nx, g62, g63, Int.toNat_natCast, Int.natCast_add, nth_get, g33, g64, g65, Int.toNat_zero, Bool.false_eq_true, Int.reduceToNat, g66, law07_shown_spec, ref07_Few_spec, ha, hb, iso_Write_spec, ref07_Write_spec, iso_Reply_spec, ref07_Reply_spec, ref01_Same_spec, iso_Right_spec, ref07_Right_spec, iso_Same_spec, ref07_Same_spec, iso_Type_spec, ref07_Type_spec, iso_Class_spec, ref07_Class_spec]
    · simp (disch := first | assumption | omega | (dsimp only; omega) | decide) only [↓g02, ↓g03, ↓g04, ↓g05, ↓g06, g01, g02, g03, g04, g05, g06, g07, g08, g09, g10, g11, g12, g13, g14, g15, g16, g17, g18, g19, g20, g21, g22, g23, g24, g25, g26, g27, g28, g29, g30, g31, g32, g34, g35, g36, g37, g38, g39, g40, g41, g42, g43, g44, g45, g46, g47, g48, g49, g50, g51, g52, g53, g54, g55, g56, g57, g58, g60, g61, eq_self, not_true_eq_false, not_false_eq_true, List.nil_append, List.append_nil, List.length_nil, and_true, true_and, or_true, true_or, or_false, false_or, and_false, false_and, iff_self, if_true, if_false, lc_rt', lc_ex', lc_nx, g62, g63, Int.toNat_natCast, Int.natCast_add, nth_get, g33, g64, g65, Int.toNat_zero, Bool.false_eq_true, Int.reduceToNat, g66, law07_shown_spec, ref07_Few_spec, ha, hb]
  · simp (disch := first | assumption | omega | (dsimp only; omega) | decide) only [↓g02, ↓g03, ↓g04, ↓g05, ↓g06, g01, g02, g03, g04, g05, g06, g07, g08, g09, g10, g11, g12, g13, g14, g15, g16, g17, g18, g19, g20, g21, g22, g23, g24, g25, g26, g27, g28, g29, g30, g31, g32, g34, g35, g36, g37, g38, g39, g40, g41, g42, g43, g44, g45, g46, g47, g48, g49, g50, g51, g52, g53, g54, g55, g56, g57, g58, g60, g61, eq_self, not_true_eq_false, not_false_eq_true, List.nil_append, List.append_nil, List.length_nil, and_true, true_and, or_true, true_or, or_false, false_or, and_false, false_and, iff_self, if_true, if_false, lc_rt', lc_ex', lc_nx, g62, g63, Int.toNat_natCast, Int.natCast_add, nth_get, g33, g64, g65, Int.toNat_zero, Bool.false_eq_true, Int.reduceToNat, g66, law07_shown_spec, ref07_Few_spec, ha]
theorem law07_IsoTells_true (x : denL [.pair (.int .i64) (.pair (.sl (.pair (.int .i64) (.pair (.sl (.int .u8)) .unit))) .unit), .pair (.int .i64) (.pair (.sl (.pair (.int .i64) (.pair (.sl (.int .u8)) .unit))) .unit), .int .i64]) (_ : okL [.pair (.int .i64) (.pair (.sl (.pair (.int .i64) (.pair (.sl (.int .u8)) .unit))) .unit), .pair (.int .i64) (.pair (.sl (.pair (.int .i64) (.pair (.sl (.int .u8)) .unit))) .unit), .int .i64] x) : law07_IsoTells x = some (true, ()) := law07_IsoTells' x.1 x.2.1 x.2.2.1
theorem law07_IsoReads' (b : List UInt8) : law07_IsoReads (b, ()) = some (true, ()) := by
  unfold law07_IsoReads
  by_cases hl : (b.length : Int) ≤ 2500
  · have h2 := rdM_len (b := b)
    simp (disch := first | assumption | omega | (dsimp only; omega) | decide) only [↓g02, ↓g03, ↓g04, ↓g05, ↓g06, g01, g02, g03, g04, g05, g06, g07, g08, g09, g10, g11, g12, g13, g14, g15, g16, g17, g18, g19, g20, g21, g22, g23, g24, g25, g26, g27, g28, g29, g30, g31, g32, g34, g35, g36, g37, g38, g39, g40, g41, g42, g43, g44, g45, g46, g47, g48, g49, g50, g51, g52, g53, g54, g55, g56, g57, g58, g60, g61, eq_self, not_true_eq_false, not_false_eq_true, List.nil_append, List.append_nil, List.length_nil, and_true, true_and, or_true, true_or, or_false, false_or, and_false, false_and, iff_self, if_true, if_false, lc_rt', lc_ex', lc_nx, g62, g63, Int.toNat_natCast, Int.natCast_add, nth_get, g33, g64, g65, Int.toNat_zero, Bool.false_eq_true, Int.reduceToNat, g66, law07_shown_spec, iso_Read_spec, ref07_Read_spec, ref07_Same_spec]
  · simp (disch := first | assumption | omega | (dsimp only; omega) | decide) only [↓g02, ↓g03, ↓g04, ↓g05, ↓g06, g01, g02, g03, g04, g05, g06, g07, g08, g09, g10, g11, g12, g13, g14, g15, g16, g17, g18, g19, g20, g21, g22, g23, g24, g25, g26, g27, g28, g29, g30, g31, g32, g34, g35, g36, g37, g38, g39, g40, g41, g42, g43, g44, g45, g46, g47, g48, g49, g50, g51, g52, g53, g54, g55, g56, g57, g58, g60, g61, eq_self, not_true_eq_false, not_false_eq_true, List.nil_append, List.append_nil, List.length_nil, and_true, true_and, or_true, true_or, or_false, false_or, and_false, false_and, iff_self, if_true, if_false, lc_rt', lc_ex', lc_nx, g62, g63, Int.toNat_natCast, Int.natCast_add, nth_get, g33, g64, g65, Int.toNat_zero, Bool.false_eq_true, Int.reduceToNat, g66, law07_shown_spec]
theorem law07_IsoReads_true (x : denL [.sl (.int .u8)]) (_ : okL [.sl (.int .u8)] x) : law07_IsoReads x = some (true, ()) := law07_IsoReads' x.1
theorem rightF_gt {l : List V} {last : Int} (h : rightF last l = true) : ∀ v ∈ l, last < v.1 := fun v hv => (rightF_mem h v hv).1
theorem getR_gt {l : List V} {no last : Int} (hl : no ≤ last) (h : rightF last l = true) : getR no l = ([], false, ()) := by
  refine getR_none ?_
  induction l generalizing last with
  | nil => rfl
  | cons v r ih =>
    simp only [rightF, Bool.and_eq_true, decide_eq_true_eq] at h
    unfold getR
    rw [if_neg (by omega)]
    exact ih (last := v.1) (by omega) h.2.2
theorem getD_getR {l : List V} {no : Int} : ∀ {last : Int}, rightF last l = true → getD l no = getR no l := by
  induction l with
  | nil => intros; rfl
  | cons v r ih =>
    intro last h
    simp only [rightF, Bool.and_eq_true, decide_eq_true_eq] at h
    unfold getR
    by_cases hc : no ≤ v.1
    · have h0 : findI no (v :: r) = 0 := by unfold findI; rw [if_pos hc]
      have h1 : hasI no (v :: r) = decide (v.1 = no) := by unfold hasI; rw [if_pos hc]
      unfold getD
      rw [h0, h1]
      by_cases he : v.1 = no
      · rw [if_pos he, decide_eq_true he, if_pos rfl]; rfl
      · rw [if_neg he, decide_eq_false he, if_neg (by simp), getR_gt (by omega) h.2.2]
    · have h0 : findI no (v :: r) = findI no r + 1 := by conv => { lhs; unfold findI }; rw [if_neg hc]
      have h1 : hasI no (v :: r) = hasI no r := by conv => { lhs; unfold hasI }; rw [if_neg hc]
      rw [if_neg (by omega), ← ih h.2.2]
      unfold getD
      rw [h0, h1]; rfl
theorem filter_lt_gt {l : List V} {no last : Int} (hl : no ≤ last) (h : rightF last l = true) : l.filter (fun v => decide (v.1 < no)) = [] ∧ l.filter (fun v => decide (no < v.1)) = l ∧ l.filter (fun v => !(decide (v.1 = no))) = l := by
  have hg := rightF_gt h
  refine ⟨List.filter_eq_nil_iff.2 fun v hv => ?_, List.filter_eq_self.2 fun v hv => ?_, List.filter_eq_self.2 fun v hv => ?_⟩ <;> have := hg v hv <;> simp <;> omega
theorem withD_setR {l : List V} {x : V} : ∀ {last : Int}, rightF last l = true → withD l x = setR l x := by
  induction l with
  | nil => intros; rfl
  | cons v r ih =>
    intro last h
    simp only [rightF, Bool.and_eq_true, decide_eq_true_eq] at h
    by_cases hc : x.1 ≤ v.1
    · have h0 : findI x.1 (v :: r) = 0 := by unfold findI; rw [if_pos hc]
      have h1 : hasI x.1 (v :: r) = decide (v.1 = x.1) := by unfold hasI; rw [if_pos hc]
      obtain ⟨f1, f2, _⟩ := filter_lt_gt (no := x.1) hc h.2.2
      unfold withD setR
      rw [h0, h1]
      by_cases he : v.1 = x.1
      · rw [decide_eq_true he, if_pos rfl, List.filter_cons_of_neg (by simp; omega), List.filter_cons_of_neg (by simp; omega), f1, f2]; rfl
      · rw [decide_eq_false he, if_neg (by simp), List.filter_cons_of_neg (by simp; omega), List.filter_cons_of_pos (by simp; omega), f1, f2]; rfl
    · have h0 : findI x.1 (v :: r) = findI x.1 r + 1 := by conv => { lhs; unfold findI }; rw [if_neg hc]
      have h1 : hasI x.1 (v :: r) = hasI x.1 r := by conv => { lhs; unfold hasI }; rw [if_neg hc]
      have hr := ih h.2.2
      unfold withD setR at hr ⊢
      rw [h0, h1, List.filter_cons_of_pos (by simp; omega), List.filter_cons_of_neg (by simp; omega)]
      cases hh : hasI x.1 r
      · rw [hh, if_neg (by simp)] at hr
        rw [if_neg (by simp)]
        simp only [List.take_succ_cons, List.drop_succ_cons, List.cons_append, hr]
      · rw [hh, if_pos rfl] at hr
        rw [if_pos rfl]
        simp only [List.take_succ_cons, List.drop_succ_cons, List.cons_append, hr]
theorem dropL_eq {l : List V} {no : Int} : ∀ {last : Int}, rightF last l = true → dropL l no = dropR l no := by
  unfold dropR
  induction l with
  | nil => intros; rfl
  | cons v r ih =>
    intro last h
    simp only [rightF, Bool.and_eq_true, decide_eq_true_eq] at h
    by_cases hc : no ≤ v.1
    · have h0 : findI no (v :: r) = 0 := by unfold findI; rw [if_pos hc]
      have h1 : hasI no (v :: r) = decide (v.1 = no) := by unfold hasI; rw [if_pos hc]
      obtain ⟨_, _, f3⟩ := filter_lt_gt (no := no) hc h.2.2
      unfold dropL
      rw [h0, h1]
      by_cases he : v.1 = no
      · rw [decide_eq_true he, if_pos rfl, List.filter_cons_of_neg (by simp [he]), f3]; rfl
      · rw [decide_eq_false he, if_neg (by simp), List.filter_cons_of_pos (by simp [he]), f3]
    · have h0 : findI no (v :: r) = findI no r + 1 := by conv => { lhs; unfold findI }; rw [if_neg hc]
      have h1 : hasI no (v :: r) = hasI no r := by conv => { lhs; unfold hasI }; rw [if_neg hc]
      have hr := ih h.2.2
      unfold dropL at hr ⊢
      rw [h0, h1, List.filter_cons_of_pos (by simp; omega)]
      cases hh : hasI no r
      · rw [hh, if_neg (by simp)] at hr
        rw [if_neg (by simp), ← hr]
      · rw [hh, if_pos rfl] at hr
        rw [if_pos rfl]
        simp only [List.take_succ_cons, List.drop_succ_cons, List.cons_append, hr]
theorem law07_IsoSets' (m : M) (no : Int) (v : List UInt8) : law07_IsoSets (m, no, v, ()) = some (true, ()) := by
  unfold law07_IsoSets
  by_cases hm : few m
  · have hm' := hm.fewM
    have hl := hm'.1
    cases hr : rightM m
    · simp (disch := first | assumption | omega | (dsimp only; omega) | decide) only [↓g02, ↓g03, ↓g04, ↓g05, ↓g06, g01, g02, g03, g04, g05, g06, g07, g08, g09, g10, g11, g12, g13, g14, g15, g16, g17, g18, g19, g20, g21, g22, g23, g24, g25, g26, g27, g28, g29, g30, g31, g32, g34, g35, g36, g37, g38, g39, g40, g41, g42, g43, g44, g45, g46, g47, g48, g49, g50, g51, g52, g53, g54, g55, g56, g57, g58, g60, g61, eq_self, not_true_eq_false, not_false_eq_true, List.nil_append, List.append_nil, List.length_nil, and_true, true_and, or_true, true_or, or_false, false_or, and_false, false_and, iff_self, if_true, if_false, lc_rt', lc_ex', lc_nx, g62, g63, Int.toNat_natCast, Int.natCast_add, nth_get, g33, g64, g65, Int.toNat_zero, Bool.false_eq_true, Int.reduceToNat, g66, law07_shown_spec, ref07_Few_spec, hm, ref07_Right_spec, hr]
    · by_cases hv : (v.length : Int) ≤ 450
      · have hF := (rightM_iff.1 hr).1
        have hs : setD' m no v = setRD m no v := by unfold setD' setRD; rw [withD_setR hF]
        have hg : getD m.2.1 no = getR no m.2.1 := getD_getR hF
        have hd := dropL_eq (no := no) hF
        have hsl : (setRD m no v).1.2.1.length ≤ 1000000 := by
          unfold setRD
          have h1 := List.length_filter_le (fun u : V => decide (u.1 < no)) m.2.1
          have h2 := List.length_filter_le (fun u : V => decide (no < u.1)) m.2.1
          repeat' split
          · show m.2.1.length ≤ 1000000; omega
          · show (setR m.2.1 (no, v, ())).length ≤ 1000000
            unfold setR
            simp only [List.length_append, List.length_cons]; omega
          · show m.2.1.length ≤ 1000000; omega
        have hfl : (dropR m.2.1 no).length ≤ m.2.1.length := List.length_filter_le (fun u : V => !(decide (u.1 = no))) m.2.1
        simp (disch := first | assumption | omega | (dsimp only; omega) | decide) only [↓g02, ↓g03, ↓g04, ↓g05, ↓g06, g01, g02, g03, g04, g05, g06, g07, g08, g09, g10, g11, g12, g13, g14, g15, g16, g17, g18, g19, g20, g21, g22, g23, g24, g25, g26, g27, g28, g29, g30, g31, g32, g34, g35, g36, g37, g38, g39, g40, g41, g42, g43, g44, g45, g46, g47, g48, g49, g50, g51, g52, g53, g54, g55, g56, g57, g58, g60, g61, eq_self, not_true_eq_false, not_false_eq_true, List.nil_append, List.append_nil, List.length_nil, and_true, true_and, or_true, true_or, or_false, false_or, and_false, false_and, iff_self, if_true, if_false, lc_rt', lc_ex', lc_nx, g62, g63, Int.toNat_natCast, Int.natCast_add, nth_get, g33, g64, g65, Int.toNat_zero, Bool.false_eq_true, Int.reduceToNat, g66, law07_shown_spec, ref07_Few_spec, hm, ref07_Right_spec, hr, iso_Set_spec, ref07_Set_spec, iso_Get_spec, ref07_Get_spec, iso_Drop_spec, ref07_Drop_spec, ref07_Same_spec, ref01_Same_spec, hs, hg, hd]
      · simp (disch := first | assumption | omega | (dsimp only; omega) | decide) only [↓g02, ↓g03, ↓g04, ↓g05, ↓g06, g01, g02, g03, g04, g05, g06, g07, g08, g09, g10, g11, g12, g13, g14, g15, g16, g17, g18, g19, g20, g21, g22, g23, g24, g25, g26, g27, g28, g29, g30, g31, g32, g34, g35, g36, g37, g38, g39, g40, g41, g42, g43, g44, g45, g46, g47, g48, g49, g50, g51, g52, g53, g54, g55, g56, g57, g58, g60, g61, eq_self, not_true_eq_false, not_false_eq_true, List.nil_append, List.append_nil, List.length_nil, and_true, true_and, or_true, true_or, or_false, false_or, and_false, false_and, iff_self, if_true, if_false, lc_rt', lc_ex', lc_nx, g62, g63, Int.toNat_natCast, Int.natCast_add, nth_get, g33, g64, g65, Int.toNat_zero, Bool.false_eq_true, Int.reduceToNat, g66, law07_shown_spec, ref07_Few_spec, hm, ref07_Right_spec, hr]
  · simp (disch := first | assumption | omega | (dsimp only; omega) | decide) only [↓g02, ↓g03, ↓g04, ↓g05, ↓g06, g01, g02, g03, g04, g05, g06, g07, g08, g09, g10, g11, g12, g13, g14, g15, g16, g17, g18, g19, g20, g21, g22, g23, g24, g25, g26, g27, g28, g29, g30, g31, g32, g34, g35, g36, g37, g38, g39, g40, g41, g42, g43, g44, g45, g46, g47, g48, g49, g50, g51, g52, g53, g54, g55, g56, g57, g58, g60, g61, eq_self, not_true_eq_false, not_false_eq_true, List.nil_append, List.append_nil, List.length_nil, and_true, true_and, or_true, true_or, or_false, false_or, and_false, false_and, iff_self, if_true, if_false, lc_rt', lc_ex', lc_nx, g62, g63, Int.toNat_natCast, Int.natCast_add, nth_get, g33, g64, g65, Int.toNat_zero, Bool.false_eq_true, Int.reduceToNat, g66, law07_shown_spec, ref07_Few_spec, hm]
theorem wrM_len {m : M} (hm : few m) (hr : rightM m = true) : 10 ≤ (wrM m).length ∧ (wrM m).length ≤ 20000 := by
  have hF := (rightM_iff.1 hr).1
  have h2 := typB_length (m := m.1)
  have h8 := bmW_len8 (nosF m.2.1)
  have hfl : ∀ l : List V, (∀ v ∈ l, fitsD v.1 v.2.1 = true) → (l.flatMap wrV).length ≤ 402 * l.length := by
    intro l
    induction l with
    | nil => simp
    | cons v r ih =>
      intro h
      have h1 : (wrV v).length ≤ 402 := (wrD_fit (h v (by simp))).2.1
      have h2 := ih fun u hu => h u (by simp [hu])
      rw [List.flatMap_cons, List.length_append, List.length_cons]; omega
  have := hfl m.2.1 fun v hv => (rightF_mem hF v hv).2
  have := hm.1
  unfold wrM
  rw [List.length_append, List.length_append]; omega
theorem rdM_self {m : M} (hr : rightM m = true) : rdM (wrM m) = (m, 0, ()) := by
  have := rdM_hit (q := []) hr
  rw [List.append_nil, if_pos rfl] at this; exact this
theorem wrM_pref {a b : M} {q : List UInt8} (ha : rightM a = true) (hb : rightM b = true) (h : wrM b = wrM a ++ q) : a = b := by
  have h1 := rdM_hit (q := q) ha
  rw [← h, rdM_self hb] at h1
  by_cases hq : q = []
  · rw [if_pos hq] at h1; exact (Prod.mk.inj h1).1.symm
  · rw [if_neg hq] at h1; simp at h1
theorem wrM_apart {a b : M} {n : Nat} (ha : rightM a = true) (hb : rightM b = true) (hn : n = min (wrM a).length (wrM b).length) : (wrM a).take n = (wrM b).take n ↔ a = b := by
  refine ⟨fun h => ?_, fun h => by rw [h]⟩
  rcases Nat.le_total (wrM a).length (wrM b).length with hle | hle
  · rw [Nat.min_eq_left hle] at hn
    rw [hn, List.take_length] at h
    exact wrM_pref ha hb (((List.take_append_drop (wrM a).length (wrM b)).symm).trans (congrArg (· ++ _) h.symm))
  · rw [Nat.min_eq_right hle] at hn
    rw [hn, List.take_length] at h
    exact (wrM_pref hb ha (((List.take_append_drop (wrM b).length (wrM a)).symm).trans (congrArg (· ++ _) h))).symm
theorem law07_IsoCuts' (m : M) (c : UInt16) (x : UInt8) : law07_IsoCuts (m, c, x, ()) = some (true, ()) := by
  unfold law07_IsoCuts
  by_cases hm : few m
  · have hm' := hm.fewM
    have hl := hm'.1
    cases hr : rightM m
    · simp (disch := first | assumption | omega | (dsimp only; omega) | decide) only [↓g02, ↓g03, ↓g04, ↓g05, ↓g06, g01, g02, g03, g04, g05, g06, g07, g08, g09, g10, g11, g12, g13, g14, g15, g16, g17, g18, g19, g20, g21, g22, g23, g24, g25, g26, g27, g28, g29, g30, g31, g32, g34, g35, g36, g37, g38, g39, g40, g41, g42, g43, g44, g45, g46, g47, g48, g49, g50, g51, g52, g53, g54, g55, g56, g57, g58, g60, g61, eq_self, not_true_eq_false, not_false_eq_true, List.nil_append, List.append_nil, List.length_nil, and_true, true_and, or_true, true_or, or_false, false_or, and_false, false_and, iff_self, if_true, if_false, lc_rt', lc_ex', lc_nx, g62, g63, Int.toNat_natCast, Int.natCast_add, nth_get, g33, g64, g65, Int.toNat_zero, Bool.false_eq_true, Int.reduceToNat, g66, law07_shown_spec, ref07_Few_spec, hm, ref07_Right_spec, hr]
    · have hw := wrM_len hm hr
      have hc := c.toNat_lt
      have hmod := Nat.mod_lt c.toNat (show 0 < (wrM m).length by omega)
      have hmm : ((c.toNat : Int) % ((wrM m).length : Int)) = ((c.toNat % (wrM m).length : Nat) : Int) := by simp
      have hcut := rdM_cut hr hmod
      have htl : ((wrM m).take (c.toNat % (wrM m).length)).length ≤ 1000000 := by rw [List.length_take]; omega
      have hlong := rdM_hit (q := [x]) hr
      rw [if_neg (by simp)] at hlong
      have hll : (wrM m ++ [x]).length ≤ 1000000 := by rw [List.length_append]; simp; omega
      have hct : ∀ n, cut (wrM m) 0 (n - 0) = (wrM m).take n := fun n => by simp [cut]
      simp (disch := first | assumption | omega | (dsimp only; omega) | decide) only [↓g02, ↓g03, ↓g04, ↓g05, ↓g06, g01, g02, g03, g04, g05, g06, g07, g08, g09, g10, g11, g12, g13, g14, g15, g16, g17, g18, g19, g20, g21, g22, g23, g24, g25, g26, g27, g28, g29, g30, g31, g32, g34, g35, g36, g37, g38, g39, g40, g41, g42, g43, g44, g45, g46, g47, g48, g49, g50, g51, g52, g53, g54, g55, g56, g57, g58, g60, g61, eq_self, not_true_eq_false, not_false_eq_true, List.nil_append, List.append_nil, List.length_nil, and_true, true_and, or_true, true_or, or_false, false_or, and_false, false_and, iff_self, if_true, if_false, lc_rt', lc_ex', lc_nx, g62, g63, Int.toNat_natCast, Int.natCast_add, nth_get, g33, g64, g65, Int.toNat_zero, Bool.false_eq_true, Int.reduceToNat, g66, law07_shown_spec, ref07_Few_spec, hm, ref07_Right_spec, hr, iso_Write_spec, hmm, hct, iso_Read_spec, hcut, hlong, List.length_cons, noM]
  · simp (disch := first | assumption | omega | (dsimp only; omega) | decide) only [↓g02, ↓g03, ↓g04, ↓g05, ↓g06, g01, g02, g03, g04, g05, g06, g07, g08, g09, g10, g11, g12, g13, g14, g15, g16, g17, g18, g19, g20, g21, g22, g23, g24, g25, g26, g27, g28, g29, g30, g31, g32, g34, g35, g36, g37, g38, g39, g40, g41, g42, g43, g44, g45, g46, g47, g48, g49, g50, g51, g52, g53, g54, g55, g56, g57, g58, g60, g61, eq_self, not_true_eq_false, not_false_eq_true, List.nil_append, List.append_nil, List.length_nil, and_true, true_and, or_true, true_or, or_false, false_or, and_false, false_and, iff_self, if_true, if_false, lc_rt', lc_ex', lc_nx, g62, g63, Int.toNat_natCast, Int.natCast_add, nth_get, g33, g64, g65, Int.toNat_zero, Bool.false_eq_true, Int.reduceToNat, g66, law07_shown_spec, ref07_Few_spec, hm]
theorem law07_IsoApart' (a b : M) : law07_IsoApart (a, b, ()) = some (true, ()) := by
  unfold law07_IsoApart
  by_cases ha : few a
  · by_cases hb : few b
    · have ha' := ha.fewM
      have hb' := hb.fewM
      have hl := ha'.1
      cases hr : rightM a
      · simp (disch := first | assumption | omega | (dsimp only; omega) | decide) only [↓g02, ↓g03, ↓g04, ↓g05, ↓g06, g01, g02, g03, g04, g05, g06, g07, g08, g09, g10, g11, g12, g13, g14, g15, g16, g17, g18, g19, g20, g21, g22, g23, g24, g25, g26, g27, g28, g29, g30, g31, g32, g34, g35, g36, g37, g38, g39, g40, g41, g42, g43, g44, g45, g46, g47, g48, g49, g50, g51, g52, g53, g54, g55, g56, g57, g58, g60, g61, eq_self, not_true_eq_false, not_false_eq_true, List.nil_append, List.append_nil, List.length_nil, and_true, true_and, or_true, true_or, or_false, false_or, and_false, false_and, iff_self, if_true, if_false, lc_rt', lc_ex', lc_nx, g62, g63, Int.toNat_natCast, Int.natCast_add, nth_get, g33, g64, g65, Int.toNat_zero, Bool.false_eq_true, Int.reduceToNat, g66, law07_shown_spec, ref07_Few_spec, ha, hb, ref07_Right_spec, hr]
      cases hr2 : rightM b
      · simp (disch := first | assumption | omega | (dsimp only; omega) | decide) only [↓g02, ↓g03, ↓g04, ↓g05, ↓g06, g01, g02, g03, g04, g05, g06, g07, g08, g09, g10, g11, g12, g13, g14, g15, g16, g17, g18, g19, g20, g21, g22, g23, g24, g25, g26, g27, g28, g29, g30, g31, g32, g34, g35, g36, g37, g38, g39, g40, g41, g42, g43, g44, g45, g46, g47, g48, g49, g50, g51, g52, g53, g54, g55, g56, g57, g58, g60, g61, eq_self, not_true_eq_false, not_false_eq_true, List.nil_append, List.append_nil, List.length_nil, and_true, true_and, or_true, true_or, or_false, false_or, and_false, false_and, iff_self, if_true, if_false, lc_rt', lc_ex', lc_nx, g62, g63, Int.toNat_natCast, Int.natCast_add, nth_get, g33, g64, g65, Int.toNat_zero, Bool.false_eq_true, Int.reduceToNat, g66, law07_shown_spec, ref07_Few_spec, ha, hb, ref07_Right_spec, hr, hr2]
      simp (disch := first | assumption | omega | (dsimp only; omega) | decide) only [↓g02, ↓g03, ↓g04, ↓g05, ↓g06, g01, g02, g03, g04, g05, g06, g07, g08, g09, g10, g11, g12, g13, g14, g15, g16, g17, g18, g19, g20, g21, g22, g23, g24, g25, g26, g27, g28, g29, g30, g31, g32, g34, g35, g36, g37, g38, g39, g40, g41, g42, g43, g44, g45, g46, g47, g48, g49, g50, g51, g52, g53, g54, g55, g56, g57, g58, g60, g61, eq_self, not_true_eq_false, not_false_eq_true, List.nil_append, List.append_nil, List.length_nil, and_true, true_and, or_true, true_or, or_false, false_or, and_false, false_and, iff_self, if_true, if_false, lc_rt', lc_ex', lc_nx, g62, g63, Int.toNat_natCast, Int.natCast_add, nth_get, g33, g64, g65, Int.toNat_zero, Bool.false_eq_true, Int.reduceToNat, g66, law07_shown_spec, ref07_Few_spec, ha, hb, ref07_Right_spec, hr, hr2, iso_Write_spec, ref01_Same_spec, ref07_Same_spec]
      refine some_D ?_
      simp only [cut, List.drop_zero, Nat.sub_zero]
      exact wrM_apart hr hr2 (by omega)
    · simp (disch := first | assumption | omega | (dsimp only; omega) | decide) only [↓g02, ↓g03, ↓g04, ↓g05, ↓g06, g01, g02, g03, g04, g05, g06, g07, g08, g09, g10, g11, g12, g13, g14, g15, g16, g17, g18, g19, g20, g21, g22, g23, g24, g25, g26, g27, g28, g29, g30, g31, g32, g34, g35, g36, g37, g38, g39, g40, g41, g42, g43, g44, g45, g46, g47, g48, g49, g50, g51, g52, g53, g54, g55, g56, g57, g58, g60, g61, eq_self, not_true_eq_false, not_false_eq_true, List.nil_append, List.append_nil, List.length_nil, and_true, true_and, or_true, true_or, or_false, false_or, and_false, false_and, iff_self, if_true, if_false, lc_rt', lc_ex', lc_nx, g62, g63, Int.toNat_natCast, Int.natCast_add, nth_get, g33, g64, g65, Int.toNat_zero, Bool.false_eq_true, Int.reduceToNat, g66, law07_shown_spec, ref07_Few_spec, ha, hb]
  · simp (disch := first | assumption | omega | (dsimp only; omega) | decide) only [↓g02, ↓g03, ↓g04, ↓g05, ↓g06, g01, g02, g03, g04, g05, g06, g07, g08, g09, g10, g11, g12, g13, g14, g15, g16, g17, g18, g19, g20, g21, g22, g23, g24, g25, g26, g27, g28, g29, g30, g31, g32, g34, g35, g36, g37, g38, g39, g40, g41, g42, g43, g44, g45, g46, g47, g48, g49, g50, g51, g52, g53, g54, g55, g56, g57, g58, g60, g61, eq_self, not_true_eq_false, not_false_eq_true, List.nil_append, List.append_nil, List.length_nil, and_true, true_and, or_true, true_or, or_false, false_or, and_false, false_and, iff_self, if_true, if_false, lc_rt', lc_ex', lc_nx, g62, g63, Int.toNat_natCast, Int.natCast_add, nth_get, g33, g64, g65, Int.toNat_zero, Bool.false_eq_true, Int.reduceToNat, g66, law07_shown_spec, ref07_Few_spec, ha]
theorem law07_IsoBack' (m : M) (b : List UInt8) : law07_IsoBack (m, b, ()) = some (true, ()) := by
  unfold law07_IsoBack
  by_cases hm : few m
  · by_cases hb : (b.length : Int) ≤ 2500
    · have hm' := hm.fewM
      have hl := hm'.1
      rcases hx : rdM b with ⟨n, e, u⟩
      have hn := rdM_len (b := b)
      have herr := rdM_err (b := b)
      rw [hx] at hn herr
      by_cases he : e = 0
      · subst he
        obtain ⟨r1, r2⟩ := rdM_inv hx
        have hnF : fewM n := by
          refine ⟨by have : n.2.1.length ≤ 1000 := hn; omega, fun v hv => ?_⟩
          obtain ⟨k, l, h1, h2⟩ := fitsD_iff.1 (rightF_mem (rightM_iff.1 r1).1 v hv).2
          have := fv_len h1 h2
          omega
        cases hr : rightM m
        · simp (disch := first | assumption | omega | (dsimp only; omega) | decide) only [↓g02, ↓g03, ↓g04, ↓g05, ↓g06, g01, g02, g03, g04, g05, g06, g07, g08, g09, g10, g11, g12, g13, g14, g15, g16, g17, g18, g19, g20, g21, g22, g23, g24, g25, g26, g27, g28, g29, g30, g31, g32, g34, g35, g36, g37, g38, g39, g40, g41, g42, g43, g44, g45, g46, g47, g48, g49, g50, g51, g52, g53, g54, g55, g56, g57, g58, g60, g61, eq_self, not_true_eq_false, not_false_eq_true, List.nil_append, List.append_nil, List.length_nil, and_true, true_and, or_true, true_or, or_false, false_or, and_false, false_and, iff_self, if_true, if_false, lc_rt', lc_ex', lc_nx, g62, g63, Int.toNat_natCast, Int.natCast_add, nth_get, g33, g64, g65, Int.toNat_zero, Bool.false_eq_true, Int.reduceToNat, g66, law07_shown_spec, ref07_Few_spec, hm, iso_Write_spec, ref07_Right_spec, hr, iso_Read_spec, hx, r1, r2, ref01_Same_spec]
        · have hw := wrM_len hm hr
          have hs := rdM_self hr
          simp (disch := first | assumption | omega | (dsimp only; omega) | decide) only [↓g02, ↓g03, ↓g04, ↓g05, ↓g06, g01, g02, g03, g04, g05, g06, g07, g08, g09, g10, g11, g12, g13, g14, g15, g16, g17, g18, g19, g20, g21, g22, g23, g24, g25, g26, g27, g28, g29, g30, g31, g32, g34, g35, g36, g37, g38, g39, g40, g41, g42, g43, g44, g45, g46, g47, g48, g49, g50, g51, g52, g53, g54, g55, g56, g57, g58, g60, g61, eq_self, not_true_eq_false, not_false_eq_true, List.nil_append, List.append_nil, List.length_nil, and_true, true_and, or_true, true_or, or_false, false_or, and_false, false_and, iff_self, if_true, if_false, lc_rt', lc_ex', lc_nx, g62, g63, Int.toNat_natCast, Int.natCast_add, nth_get, g33, g64, g65, Int.toNat_zero, Bool.false_eq_true, Int.reduceToNat, g66, law07_shown_spec, ref07_Few_spec, hm, iso_Write_spec, ref07_Right_spec, hr, iso_Read_spec, hx, hs, r1, r2, ref01_Same_spec, ref07_Same_spec]
      · have hn0 : n = noM := by simpa [he] using herr
        subst hn0
        cases hr : rightM m
        · simp (disch := first | assumption | omega | (dsimp only; omega) | decide) only [↓g02, ↓g03, ↓g04, ↓g05, ↓g06, g01, g02, g03, g04, g05, g06, g07, g08, g09, g10, g11, g12, g13, g14, g15, g16, g17, g18, g19, g20, g21, g22, g23, g24, g25, g26, g27, g28, g29, g30, g31, g32, g34, g35, g36, g37, g38, g39, g40, g41, g42, g43, g44, g45, g46, g47, g48, g49, g50, g51, g52, g53, g54, g55, g56, g57, g58, g60, g61, eq_self, not_true_eq_false, not_false_eq_true, List.nil_append, List.append_nil, List.length_nil, and_true, true_and, or_true, true_or, or_false, false_or, and_false, false_and, iff_self, if_true, if_false, lc_rt', lc_ex', lc_nx, g62, g63, Int.toNat_natCast, Int.natCast_add, nth_get, g33, g64, g65, Int.toNat_zero, Bool.false_eq_true, Int.reduceToNat, g66, law07_shown_spec, ref07_Few_spec, hm, iso_Write_spec, ref07_Right_spec, hr, iso_Read_spec, hx, noM]
        · have hw := wrM_len hm hr
          have hs := rdM_self hr
          simp (disch := first | assumption | omega | (dsimp only; omega) | decide) only [↓g02, ↓g03, ↓g04, ↓g05, ↓g06, g01, g02, g03, g04, g05, g06, g07, g08, g09, g10, g11, g12, g13, g14, g15, g16, g17, g18, g19, g20, g21, g22, g23, g24, g25, g26, g27, g28, g29, g30, g31, g32, g34, g35, g36, g37, g38, g39, g40, g41, g42, g43, g44, g45, g46, g47, g48, g49, g50, g51, g52, g53, g54, g55, g56, g57, g58, g60, g61, eq_self, not_true_eq_false, not_false_eq_true, List.nil_append, List.append_nil, List.length_nil, and_true, true_and, or_true, true_or, or_false, false_or, and_false, false_and, iff_self, if_true, if_false, lc_rt', lc_ex', lc_nx, g62, g63, Int.toNat_natCast, Int.natCast_add, nth_get, g33, g64, g65, Int.toNat_zero, Bool.false_eq_true, Int.reduceToNat, g66, law07_shown_spec, ref07_Few_spec, hm, iso_Write_spec, ref07_Right_spec, hr, iso_Read_spec, hx, hs, ref07_Same_spec, noM]
    · simp (disch := first | assumption | omega | (dsimp only; omega) | decide) only [↓g02, ↓g03, ↓g04, ↓g05, ↓g06, g01, g02, g03, g04, g05, g06, g07, g08, g09, g10, g11, g12, g13, g14, g15, g16, g17, g18, g19, g20, g21, g22, g23, g24, g25, g26, g27, g28, g29, g30, g31, g32, g34, g35, g36, g37, g38, g39, g40, g41, g42, g43, g44, g45, g46, g47, g48, g49, g50, g51, g52, g53, g54, g55, g56, g57, g58, g60, g61, eq_self, not_true_eq_false, not_false_eq_true, List.nil_append, List.append_nil, List.length_nil, and_true, true_and, or_true, true_or, or_false, false_or, and_false, false_and, iff_self, if_true, if_false, lc_rt', lc_ex', lc_nx, g62, g63, Int.toNat_natCast, Int.natCast_add, nth_get, g33, g64, g65, Int.toNat_zero, Bool.false_eq_true, Int.reduceToNat, g66, law07_shown_spec, ref07_Few_spec, hm]
  · simp (disch := first | assumption | omega | (dsimp only; omega) | decide) only [↓g02, ↓g03, ↓g04, ↓g05, ↓g06, g01, g02, g03, g04, g05, g06, g07, g08, g09, g10, g11, g12, g13, g14, g15, g16, g17, g18, g19, g20, g21, g22, g23, g24, g25, g26, g27, g28, g29, g30, g31, g32, g34, g35, g36, g37, g38, g39, g40, g41, g42, g43, g44, g45, g46, g47, g48, g49, g50, g51, g52, g53, g54, g55, g56, g57, g58, g60, g61, eq_self, not_true_eq_false, not_false_eq_true, List.nil_append, List.append_nil, List.length_nil, and_true, true_and, or_true, true_or, or_false, false_or, and_false, false_and, iff_self, if_true, if_false, lc_rt', lc_ex', lc_nx, g62, g63, Int.toNat_natCast, Int.natCast_add, nth_get, g33, g64, g65, Int.toNat_zero, Bool.false_eq_true, Int.reduceToNat, g66, law07_shown_spec, ref07_Few_spec, hm]
theorem law07_IsoSets_true (x : denL [(.pair (.int .i64) (.pair (.sl (.pair (.int .i64) (.pair (.sl (.int .u8)) .unit))) .unit)), .int .i64, .sl (.int .u8)]) (_ : okL [(.pair (.int .i64) (.pair (.sl (.pair (.int .i64) (.pair (.sl (.int .u8)) .unit))) .unit)), .int .i64, .sl (.int .u8)] x) : law07_IsoSets x = some (true, ()) := law07_IsoSets' x.1 x.2.1 x.2.2.1
theorem law07_IsoCuts_true (x : denL [(.pair (.int .i64) (.pair (.sl (.pair (.int .i64) (.pair (.sl (.int .u8)) .unit))) .unit)), .int .u16, .int .u8]) (_ : okL [(.pair (.int .i64) (.pair (.sl (.pair (.int .i64) (.pair (.sl (.int .u8)) .unit))) .unit)), .int .u16, .int .u8] x) : law07_IsoCuts x = some (true, ()) := law07_IsoCuts' x.1 x.2.1 x.2.2.1
theorem law07_IsoApart_true (x : denL [(.pair (.int .i64) (.pair (.sl (.pair (.int .i64) (.pair (.sl (.int .u8)) .unit))) .unit)), (.pair (.int .i64) (.pair (.sl (.pair (.int .i64) (.pair (.sl (.int .u8)) .unit))) .unit))]) (_ : okL [(.pair (.int .i64) (.pair (.sl (.pair (.int .i64) (.pair (.sl (.int .u8)) .unit))) .unit)), (.pair (.int .i64) (.pair (.sl (.pair (.int .i64) (.pair (.sl (.int .u8)) .unit))) .unit))] x) : law07_IsoApart x = some (true, ()) := law07_IsoApart' x.1 x.2.1
theorem law07_IsoBack_true (x : denL [(.pair (.int .i64) (.pair (.sl (.pair (.int .i64) (.pair (.sl (.int .u8)) .unit))) .unit)), .sl (.int .u8)]) (_ : okL [(.pair (.int .i64) (.pair (.sl (.pair (.int .i64) (.pair (.sl (.int .u8)) .unit))) .unit)), .sl (.int .u8)] x) : law07_IsoBack x = some (true, ()) := law07_IsoBack' x.1 x.2.1
end Yp

namespace Yp
open Go
theorem setR_cons {v x : V} {r : List V} (h : rightF v.1 r = true) : setR (v :: r) x = if v.1 < x.1 then v :: setR r x else if v.1 = x.1 then x :: r else x :: v :: r := by
  unfold setR
  by_cases h1 : v.1 < x.1
  · rw [if_pos h1, List.filter_cons_of_pos (by simp; omega), List.filter_cons_of_neg (by simp; omega)]; rfl
  · obtain ⟨f1, f2, _⟩ := filter_lt_gt (no := x.1) (by omega) h
    rw [if_neg h1, List.filter_cons_of_neg (by simp; omega), f1]
    by_cases h2 : v.1 = x.1
    · rw [if_pos h2, List.filter_cons_of_neg (by simp; omega), f2]; rfl
    · rw [if_neg h2, List.filter_cons_of_pos (by simp; omega), f2]; rfl
theorem setR_right {l : List V} {x : V} (hx : fitsD x.1 x.2.1 = true) : ∀ {last : Int}, last < x.1 → rightF last l = true → rightF last (setR l x) = true := by
  induction l with
  | nil => intro last h1 _; simp [setR, rightF, h1, hx]
  | cons v r ih =>
    intro last h1 h
    have h' := h
    simp only [rightF, Bool.and_eq_true, decide_eq_true_eq] at h'
    rw [setR_cons h'.2.2]
    by_cases h2 : v.1 < x.1
    · rw [if_pos h2]
      simp only [rightF, Bool.and_eq_true, decide_eq_true_eq]
      exact ⟨h'.1, h'.2.1, ih h2 h'.2.2⟩
    · rw [if_neg h2]
      by_cases h3 : v.1 = x.1
      · rw [if_pos h3]
        simp only [rightF, Bool.and_eq_true, decide_eq_true_eq]
        exact ⟨h1, hx, h3 ▸ h'.2.2⟩
      · rw [if_neg h3]
        simp only [rightF, Bool.and_eq_true, decide_eq_true_eq]
        exact ⟨h1, hx, by omega, h'.2.1, h'.2.2⟩
theorem getR_set {l : List V} {x : V} {no : Int} : ∀ {last : Int}, rightF last l = true → getR no (setR l x) = if x.1 = no then (x.2.1, true, ()) else getR no l := by
  induction l with
  | nil => intros; rfl
  | cons v r ih =>
    intro last h
    simp only [rightF, Bool.and_eq_true, decide_eq_true_eq] at h
    rw [setR_cons h.2.2]
    by_cases h2 : v.1 < x.1
    · rw [if_pos h2]
      simp only [getR]
      rw [ih h.2.2]
      by_cases h3 : v.1 = no
      · rw [if_pos h3, if_neg (by omega), if_pos h3]
      · rw [if_neg h3, if_neg h3]
    · rw [if_neg h2]
      by_cases h3 : v.1 = x.1
      · rw [if_pos h3]
        simp only [getR]
        by_cases h4 : x.1 = no
        · rw [if_pos h4, if_pos h4]
        · rw [if_neg h4, if_neg h4, if_neg (by omega)]
      · rw [if_neg h3]
        simp only [getR]
theorem setR_set {l : List V} {x y : V} (hxy : x.1 = y.1) : ∀ {last : Int}, rightF last l = true → setR (setR l x) y = setR l y := by
  intro last h
  unfold setR
  rw [hxy]
  simp only [List.filter_append, List.filter_filter, List.filter_cons]
  rw [hxy]
  simp only [Int.lt_irrefl, decide_false, Bool.false_eq_true, if_false, Bool.and_self]
  have e1 : l.filter (fun v => decide (v.1 < y.1) && decide (y.1 < v.1)) = [] := List.filter_eq_nil_iff.2 fun v _ => by simp; omega
  have e2 : l.filter (fun v => decide (y.1 < v.1) && decide (v.1 < y.1)) = [] := List.filter_eq_nil_iff.2 fun v _ => by simp; omega
  rw [e1, e2]; simp
theorem dropR_set {l : List V} {x : V} : ∀ {last : Int}, rightF last l = true → dropR (setR l x) x.1 = dropR l x.1 := by
  induction l with
  | nil => intros; simp [dropR, setR]
  | cons v r ih =>
    intro last h
    simp only [rightF, Bool.and_eq_true, decide_eq_true_eq] at h
    rw [setR_cons h.2.2]
    have hi := ih h.2.2
    unfold dropR at hi ⊢
    by_cases h2 : v.1 < x.1
    · rw [if_pos h2, List.filter_cons_of_pos (by simp; omega), List.filter_cons_of_pos (by simp; omega), hi]
    · rw [if_neg h2]
      by_cases h3 : v.1 = x.1
      · rw [if_pos h3, List.filter_cons_of_neg (by simp), List.filter_cons_of_neg (by simp; omega)]
      · rw [if_neg h3, List.filter_cons_of_neg (by simp)]
theorem dropR_right {l : List V} {no : Int} : ∀ {last : Int}, rightF last l = true → rightF last (dropR l no) = true := by
  induction l with
  | nil => intros; rfl
  | cons v r ih =>
    intro last h
    simp only [rightF, Bool.and_eq_true, decide_eq_true_eq] at h
    unfold dropR at ih ⊢
    by_cases h3 : v.1 = no
    · rw [List.filter_cons_of_neg (by simp [h3])]
      exact ih (rightF_weak (by omega) h.2.2)
    · rw [List.filter_cons_of_pos (by simp [h3])]
      simp only [rightF, Bool.and_eq_true, decide_eq_true_eq]
      exact ⟨h.1, h.2.1, ih h.2.2⟩
theorem getR_drop {l : List V} {no other : Int} : getR other (dropR l no) = if other = no then ([], false, ()) else getR other l := by
  induction l with
  | nil => simp [dropR, getR]
  | cons v r ih =>
    unfold dropR at ih ⊢
    by_cases h3 : v.1 = no
    · rw [List.filter_cons_of_neg (by simp [h3]), ih]
      by_cases h4 : other = no
      · rw [if_pos h4, if_pos h4]
      · rw [if_neg h4, if_neg h4]; simp only [getR]; rw [if_neg (by omega)]
    · rw [List.filter_cons_of_pos (by simp [h3])]
      simp only [getR]
      rw [ih]
      by_cases h4 : other = no
      · rw [if_pos h4, if_pos h4, if_neg (by omega)]
      · rw [if_neg h4, if_neg h4]
theorem law07_IsoHolds' (m : M) (no : Int) (v w : List UInt8) (other : Int) : law07_IsoHolds ((m, no, v, w, other, ()), ()) = some (true, ()) := by
  unfold law07_IsoHolds
  by_cases hm : few m
  · have hm' := hm.fewM
    have hl := hm'.1
    have hl40 := hm.1
    cases hr : rightM m
    · simp (disch := first | assumption | omega | (dsimp only; omega) | decide) only [↓g02, ↓g03, ↓g04, ↓g05, ↓g06, g01, g02, g03, g04, g05, g06, g07, g08, g09, g10, g11, g12, g13, g14, g15, g16, g17, g18, g19, g20, g21, g22, g23, g24, g25, g26, g27, g28, g29, g30, g31, g32, g34, g35, g36, g37, g38, g39, g40, g41, g42, g43, g44, g45, g46, g47, g48, g49, g50, g51, g52, g53, g54, g55, g56, g57, g58, g60, g61, eq_self, not_true_eq_false, not_false_eq_true, List.nil_append, List.append_nil, List.length_nil, and_true, true_and, or_true, true_or, or_false, false_or, and_false, false_and, iff_self, if_true, if_false, lc_rt', lc_ex', lc_nx, g62, g63, Int.toNat_natCast, Int.natCast_add, nth_get, g33, g64, g65, Int.toNat_zero, Bool.false_eq_true, Int.reduceToNat, g66, law07_shown_spec, ref07_Few_spec, hm, ref07_Right_spec, hr]
    · by_cases hv : (v.length : Int) ≤ 450 ∧ (w.length : Int) ≤ 450
      · obtain ⟨hF, ht⟩ := rightM_iff.1 hr
        by_cases ho : formOf no = none
        · have hs : setD' m no v = (m, 12, ()) := by unfold setD'; rw [if_pos ho]
          simp (disch := first | assumption | omega | (dsimp only; omega) | decide) only [↓g02, ↓g03, ↓g04, ↓g05, ↓g06, g01, g02, g03, g04, g05, g06, g07, g08, g09, g10, g11, g12, g13, g14, g15, g16, g17, g18, g19, g20, g21, g22, g23, g24, g25, g26, g27, g28, g29, g30, g31, g32, g34, g35, g36, g37, g38, g39, g40, g41, g42, g43, g44, g45, g46, g47, g48, g49, g50, g51, g52, g53, g54, g55, g56, g57, g58, g60, g61, eq_self, not_true_eq_false, not_false_eq_true, List.nil_append, List.append_nil, List.length_nil, and_true, true_and, or_true, true_or, or_false, false_or, and_false, false_and, iff_self, if_true, if_false, lc_rt', lc_ex', lc_nx, g62, g63, Int.toNat_natCast, Int.natCast_add, nth_get, g33, g64, g65, Int.toNat_zero, Bool.false_eq_true, Int.reduceToNat, g66, law07_shown_spec, ref07_Few_spec, hm, ref07_Right_spec, hr, iso_Set_spec, hs, ref07_Same_spec]
        cases hfv : fitsD no v
        · have hs : setD' m no v = (m, 1, ()) := by unfold setD'; rw [if_neg ho, hfv, if_neg (by simp)]
          simp (disch := first | assumption | omega | (dsimp only; omega) | decide) only [↓g02, ↓g03, ↓g04, ↓g05, ↓g06, g01, g02, g03, g04, g05, g06, g07, g08, g09, g10, g11, g12, g13, g14, g15, g16, g17, g18, g19, g20, g21, g22, g23, g24, g25, g26, g27, g28, g29, g30, g31, g32, g34, g35, g36, g37, g38, g39, g40, g41, g42, g43, g44, g45, g46, g47, g48, g49, g50, g51, g52, g53, g54, g55, g56, g57, g58, g60, g61, eq_self, not_true_eq_false, not_false_eq_true, List.nil_append, List.append_nil, List.length_nil, and_true, true_and, or_true, true_or, or_false, false_or, and_false, false_and, iff_self, if_true, if_false, lc_rt', lc_ex', lc_nx, g62, g63, Int.toNat_natCast, Int.natCast_add, nth_get, g33, g64, g65, Int.toNat_zero, Bool.false_eq_true, Int.reduceToNat, g66, law07_shown_spec, ref07_Few_spec, hm, ref07_Right_spec, hr, iso_Set_spec, hs, ref07_Same_spec]
        have hno := fitsD_no hfv
        have hs : setD' m no v = ((m.1, setR m.2.1 (no, v, ()), ()), 0, ()) := by unfold setD'; rw [if_neg ho, hfv, if_pos rfl, withD_setR hF]
        have hF1 : rightF 0 (setR m.2.1 (no, v, ())) = true := setR_right hfv (by show (0 : Int) < no; omega) hF
        have hF2 : rightF 0 (dropR m.2.1 no) = true := dropR_right hF
        have hd1 : dropL (setR m.2.1 (no, v, ())) no = dropR m.2.1 no := (dropL_eq hF1).trans (dropR_set (x := (no, v, ())) hF)
        have hd2 : dropL m.2.1 no = dropR m.2.1 no := dropL_eq hF
        have hg1 : getD (setR m.2.1 (no, v, ())) no = (v, true, ()) := by rw [getD_getR hF1, getR_set hF, if_pos rfl]
        have hg2 : getD (dropR m.2.1 no) no = ([], false, ()) := by rw [getD_getR hF2, getR_drop, if_pos rfl]
        have hg3 : getD m.2.1 other = getR other m.2.1 := getD_getR hF
        have hg4 : getD (setR m.2.1 (no, v, ())) other = if no = other then (v, true, ()) else getR other m.2.1 := by rw [getD_getR hF1, getR_set hF]
        have hg5 : getD (dropR m.2.1 no) other = if other = no then ([], false, ()) else getR other m.2.1 := by rw [getD_getR hF2, getR_drop]
        have hR1 : rightM (m.1, setR m.2.1 (no, v, ()), ()) = true := rightM_iff.2 ⟨hF1, ht⟩
        have hR2 : rightM (m.1, dropR m.2.1 no, ()) = true := rightM_iff.2 ⟨hF2, ht⟩
        have hls : ∀ u, (setR m.2.1 (no, u, ())).length ≤ 100 := fun u => by
          have h1 := List.length_filter_le (fun u : V => decide (u.1 < no)) m.2.1
          have h2 := List.length_filter_le (fun u : V => decide (no < u.1)) m.2.1
          unfold setR
          simp only [List.length_append, List.length_cons]; omega
        have hlv := hls v
        have hlw := hls w
        have hld : (dropR m.2.1 no).length ≤ m.2.1.length := List.length_filter_le (fun u : V => !(decide (u.1 = no))) m.2.1
        have hf1 : fewM (m.1, setR m.2.1 (no, v, ()), ()) := ⟨by show (setR m.2.1 (no, v, ())).length ≤ 1000; omega, fun u hu => by
          obtain ⟨k, l, h1, h2⟩ := fitsD_iff.1 (rightF_mem hF1 u hu).2
          have := fv_len h1 h2
          omega⟩
        have hf2 : fewM (m.1, dropR m.2.1 no, ()) := ⟨by show (dropR m.2.1 no).length ≤ 1000; omega, fun u hu => by
          obtain ⟨k, l, h1, h2⟩ := fitsD_iff.1 (rightF_mem hF2 u hu).2
          have := fv_len h1 h2
          omega⟩
        cases hfw : fitsD no w
        · have hs2 : setD' (m.1, setR m.2.1 (no, v, ()), ()) no w = ((m.1, setR m.2.1 (no, v, ()), ()), 1, ()) := by unfold setD'; rw [if_neg ho, hfw, if_neg (by simp)]
          have hs3 : setD' m no w = (m, 1, ()) := by unfold setD'; rw [if_neg ho, hfw, if_neg (by simp)]
          by_cases hoth : other = no
          · simp (disch := first | assumption | omega | (dsimp only; omega) | decide) only [↓g02, ↓g03, ↓g04, ↓g05, ↓g06, g01, g02, g03, g04, g05, g06, g07, g08, g09, g10, g11, g12, g13, g14, g15, g16, g17, g18, g19, g20, g21, g22, g23, g24, g25, g26, g27, g28, g29, g30, g31, g32, g34, g35, g36, g37, g38, g39, g40, g41, g42, g43, g44, g45, g46, g47, g48, g49, g50, g51, g52, g53, g54, g55, g56, g57, g58, g60, g61, eq_self, not_true_eq_false, not_false_eq_true, List.nil_append, List.append_nil, List.length_nil, and_true, true_and, or_true, true_or, or_false, false_or, and_false, false_and, iff_self, if_true, if_false, lc_rt', lc_ex', lc_nx, g62, g63, Int.toNat_natCast, Int.natCast_add, nth_get, g33, g64, g65, Int.toNat_zero, Bool.false_eq_true, Int.reduceToNat, g66, law07_shown_spec, ref07_Few_spec, hm, ref07_Right_spec, hr, iso_Set_spec, hs, ref07_Same_spec, iso_Get_spec, iso_Drop_spec, hs2, hs3, hd1, hd2, hg1, hg2, hg3, hg4, hg5, ref01_Same_spec, hR1, hR2, hf1, hf2, hoth]
          · have hoth' : ¬ no = other := fun e => hoth e.symm
            simp (disch := first | assumption | omega | (dsimp only; omega) | decide) only [↓g02, ↓g03, ↓g04, ↓g05, ↓g06, g01, g02, g03, g04, g05, g06, g07, g08, g09, g10, g11, g12, g13, g14, g15, g16, g17, g18, g19, g20, g21, g22, g23, g24, g25, g26, g27, g28, g29, g30, g31, g32, g34, g35, g36, g37, g38, g39, g40, g41, g42, g43, g44, g45, g46, g47, g48, g49, g50, g51, g52, g53, g54, g55, g56, g57, g58, g60, g61, eq_self, not_true_eq_false, not_false_eq_true, List.nil_append, List.append_nil, List.length_nil, and_true, true_and, or_true, true_or, or_false, false_or, and_false, false_and, iff_self, if_true, if_false, lc_rt', lc_ex', lc_nx, g62, g63, Int.toNat_natCast, Int.natCast_add, nth_get, g33, g64, g65, Int.toNat_zero, Bool.false_eq_true, Int.reduceToNat, g66, law07_shown_spec, ref07_Few_spec, hm, ref07_Right_spec, hr, iso_Set_spec, hs, ref07_Same_spec, iso_Get_spec, iso_Drop_spec, hs2, hs3, hd1, hd2, hg1, hg2, hg3, hg4, hg5, ref01_Same_spec, hR1, hR2, hf1, hf2, hoth, hoth']
        · have hs2 : setD' (m.1, setR m.2.1 (no, v, ()), ()) no w = ((m.1, setR m.2.1 (no, w, ()), ()), 0, ()) := by
            unfold setD'; rw [if_neg ho, hfw, if_pos rfl, withD_setR hF1, setR_set (x := (no, v, ())) (y := (no, w, ())) rfl hF]
          have hs3 : setD' m no w = ((m.1, setR m.2.1 (no, w, ()), ()), 0, ()) := by unfold setD'; rw [if_neg ho, hfw, if_pos rfl, withD_setR hF]
          by_cases hoth : other = no
          · simp (disch := first | assumption | omega | (dsimp only; omega) | decide) only [↓g02, ↓g03, ↓g04, ↓g05, ↓g06, g01, g02, g03, g04, g05, g06, g07, g08, g09, g10, g11, g12, g13, g14, g15, g16, g17, g18, g19, g20, g21, g22, g23, g24, g25, g26, g27, g28, g29, g30, g31, g32, g34, g35, g36, g37, g38, g39, g40, g41, g42, g43, g44, g45, g46, g47, g48, g49, g50, g51, g52, g53, g54, g55, g56, g57, g58, g60, g61, eq_self, not_true_eq_false, not_false_eq_true, List.nil_append, List.append_nil, List.length_nil, and_true, true_and, or_true, true_or, or_false, false_or, and_false, false_and, iff_self, if_true, if_false, lc_rt', lc_ex', lc_nx, g62, g63, Int.toNat_natCast, Int.natCast_add, nth_get, g33, g64, g65, Int.toNat_zero, Bool.false_eq_true, Int.reduceToNat, g66, law07_shown_spec, ref07_Few_spec, hm, ref07_Right_spec, hr, iso_Set_spec, hs, ref07_Same_spec, iso_Get_spec, iso_Drop_spec, hs2, hs3, hd1, hd2, hg1, hg2, hg3, hg4, hg5, ref01_Same_spec, hR1, hR2, hf1, hf2, hoth]
          · have hoth' : ¬ no = other := fun e => hoth e.symm
            simp (disch := first | assumption | omega | (dsimp only; omega) | decide) only [↓g02, ↓g03, ↓g04, ↓g05, ↓g06, g01, g02, g03, g04, g05, g06, g07, g08, g09, g10, g11, g12, g13, g14, g15, g16, g17, g18, g19, g20, g21, g22, g23, g24, g25, g26, g27, g28, g29, g30, g31, g32, g34, g35, g36, g37, g38, g39, g40, g41, g42, g43, g44, g45, g46, g47, g48, g49, g50, g51, g52, g53, g54, g55, g56, g57, g58, g60, g61, eq_self, not_true_eq_false, not_false_eq_true, List.nil_append, List.append_nil, List.length_nil, and_true, true_and, or_true, true_or, or_false, false_or, and_false, false_and, iff_self, if_true, if_false, lc_rt', lc_ex', lc_nx, g62, g63, Int.toNat_natCast, Int.natCast_add, nth_get, g33, g64, g65, Int.toNat_zero, Bool.false_eq_true, Int.reduceToNat, g66, law07_shown_spec, ref07_Few_spec, hm, ref07_Right_spec, hr, iso_Set_spec, hs, ref07_Same_spec, iso_Get_spec, iso_Drop_spec, hs2, hs3, hd1, hd2, hg1, hg2, hg3, hg4, hg5, ref01_Same_spec, hR1, hR2, hf1, hf2, hoth, hoth']
      · by_cases hv1 : (v.length : Int) ≤ 450
        · simp (disch := first | assumption | omega | (dsimp only; omega) | decide) only [↓g02, ↓g03, ↓g04, ↓g05, ↓g06, g01, g02, g03, g04, g05, g06, g07, g08, g09, g10, g11, g12, g13, g14, g15, g16, g17, g18, g19, g20, g21, g22, g23, g24, g25, g26, g27, g28, g29, g30, g31, g32, g34, g35, g36, g37, g38, g39, g40, g41, g42, g43, g44, g45, g46, g47, g48, g49, g50, g51, g52, g53, g54, g55, g56, g57, g58, g60, g61, eq_self, not_true_eq_false, not_false_eq_true, List.nil_append, List.append_nil, List.length_nil, and_true, true_and, or_true, true_or, or_false, false_or, and_false, false_and, iff_self, if_true, if_false, lc_rt', lc_ex', lc_nx, g62, g63, Int.toNat_natCast, Int.natCast_add, nth_get, g33, g64, g65, Int.toNat_zero, Bool.false_eq_true, Int.reduceToNat, g66, law07_shown_spec, ref07_Few_spec, hm, ref07_Right_spec, hr]
        · simp (disch := first | assumption | omega | (dsimp only; omega) | decide) only [↓g02, ↓g03, ↓g04, ↓g05, ↓g06, g01, g02, g03, g04, g05, g06, g07, g08, g09, g10, g11, g12, g13, g14, g15, g16, g17, g18, g19, g20, g21, g22, g23, g24, g25, g26, g27, g28, g29, g30, g31, g32, g34, g35, g36, g37, g38, g39, g40, g41, g42, g43, g44, g45, g46, g47, g48, g49, g50, g51, g52, g53, g54, g55, g56, g57, g58, g60, g61, eq_self, not_true_eq_false, not_false_eq_true, List.nil_append, List.append_nil, List.length_nil, and_true, true_and, or_true, true_or, or_false, false_or, and_false, false_and, iff_self, if_true, if_false, lc_rt', lc_ex', lc_nx, g62, g63, Int.toNat_natCast, Int.natCast_add, nth_get, g33, g64, g65, Int.toNat_zero, Bool.false_eq_true, Int.reduceToNat, g66, law07_shown_spec, ref07_Few_spec, hm, ref07_Right_spec, hr]
  · simp (disch := first | assumption | omega | (dsimp only; omega) | decide) only [↓g02, ↓g03, ↓g04, ↓g05, ↓g06, g01, g02, g03, g04, g05, g06, g07, g08, g09, g10, g11, g12, g13, g14, g15, g16, g17, g18, g19, g20, g21, g22, g23, g24, g25, g26, g27, g28, g29, g30, g31, g32, g34, g35, g36, g37, g38, g39, g40, g41, g42, g43, g44, g45, g46, g47, g48, g49, g50, g51, g52, g53, g54, g55, g56, g57, g58, g60, g61, eq_self, not_true_eq_false, not_false_eq_true, List.nil_append, List.append_nil, List.length_nil, and_true, true_and, or_true, true_or, or_false, false_or, and_false, false_and, iff_self, if_true, if_false, lc_rt', lc_ex', lc_nx, g62, g63, Int.toNat_natCast, Int.natCast_add, nth_get, g33, g64, g65, Int.toNat_zero, Bool.false_eq_true, Int.reduceToNat, g66, law07_shown_spec, ref07_Few_spec, hm]
theorem law07_IsoHolds_true (x : denL [.pair (.pair (.int .i64) (.pair (.sl (.pair (.int .i64) (.pair (.sl (.int .u8)) .unit))) .unit)) (.pair (.int .i64) (.pair (.sl (.int .u8)) (.pair (.sl (.int .u8)) (.pair (.int .i64) .unit))))]) (_ : okL [.pair (.pair (.int .i64) (.pair (.sl (.pair (.int .i64) (.pair (.sl (.int .u8)) .unit))) .unit)) (.pair (.int .i64) (.pair (.sl (.int .u8)) (.pair (.sl (.int .u8)) (.pair (.int .i64) .unit))))] x) : law07_IsoHolds x = some (true, ()) := law07_IsoHolds' x.1.1 x.1.2.1 x.1.2.2.1 x.1.2.2.2.1 x.1.2.2.2.2.1
end Yp
