/- A part of the proof of the statements of this seat: plain functions, and laws on them. No condition of its own. -/
import Derived.Test.YtbffdlbcpdmncaaQ1
set_option linter.unusedVariables false
set_option linter.unusedSimpArgs false
namespace Yp
open Go
def noM : M := (0, [], ())
def rdFs (b : List UInt8) : List Int → Int → List V → Option Int × Int × List V
  | [], at', F => (none, at', F)
  | n :: r, at', F => if (rdD n b at').2.2.1 = 0 then rdFs b r (rdD n b at').2.1 (F ++ [(n, (rdD n b at').1, ())]) else (some (rdD n b at').2.2.1, at', F)
def rdStep (b : List UInt8) (s : Int × List V) (n : Int) : LS (Int × List V) (M × Int × Unit) := if (rdD n b s.1).2.2.1 = 0 then .nx ((rdD n b s.1).2.1, s.2 ++ [(n, (rdD n b s.1).1, ())]) else .rt (noM, (rdD n b s.1).2.2.1, ())
theorem foldS_rd {σ : Type} {mk : Int × List V → Nat → σ} {e : Nat} {b : List UInt8} : ∀ (l : List Int) (s : Int × List V) (i : Nat), foldS mk e (rdStep b) s i l = match rdFs b l s.1 s.2 with | (none, a, F) => .ex e (mk (a, F) (i + l.length)) | (some q, _, _) => .rt (noM, q, ())
  | [], s, i => rfl
  | n :: r, s, i => by
    unfold rdFs
    by_cases h : (rdD n b s.1).2.2.1 = 0
    · have hs : rdStep b s n = .nx ((rdD n b s.1).2.1, s.2 ++ [(n, (rdD n b s.1).1, ())]) := if_pos h
      simp only [foldS, hs, if_pos h]
      rw [foldS_rd r _ (i + 1)]
      simp only [List.length_cons, Nat.add_assoc, Nat.add_comm 1]
    · have hs : rdStep b s n = .rt (noM, (rdD n b s.1).2.2.1, ()) := if_neg h
      simp only [foldS, hs, if_neg h]
def ofStep (_ : Unit) (n : Int) : LS Unit (M × Int × Unit) := if (formOf n).isSome = true then .nx () else .rt (noM, 2, ())
theorem foldS_of {σ : Type} {mk : Unit → Nat → σ} {e : Nat} : ∀ (l : List Int) (i : Nat), foldS mk e ofStep () i l = if ∀ n ∈ l, (formOf n).isSome = true then .ex e (mk () (i + l.length)) else .rt (noM, 2, ())
  | [], i => by simp [foldS]
  | n :: r, i => by
    by_cases h : (formOf n).isSome = true
    · have hs : ofStep () n = .nx () := if_pos h
      simp only [foldS, hs, List.mem_cons, forall_eq_or_imp, h, true_and]
      rw [foldS_of r (i + 1)]
      simp only [List.length_cons, Nat.add_assoc, Nat.add_comm 1]
    · have hs : ofStep () n = .rt (noM, 2, ()) := if_neg h
      simp only [foldS, hs]
      rw [if_neg fun hc => h (hc n (by simp))]
def rdE (b : List UInt8) (m : Int) (l : List Int) (at' : Int) : M × Int × Unit :=
  if ∀ n ∈ l, (formOf n).isSome = true then (match rdFs b l at' [] with | (none, a, F) => if a < (b.length : Int) then (noM, 4, ()) else ((m, F, ()), 0, ()) | (some q, _, _) => (noM, q, ())) else (noM, 2, ())
def rdM (b : List UInt8) : M × Int × Unit :=
  if (takeBcd b 0 4).2.2.1 ≠ 0 then (noM, (takeBcd b 0 4).2.2.1, ()) else if typeOK (val (takeBcd b 0 4).1 : Int) then
    (if (bmR b 2).2.2.1 ≠ 0 then (noM, (bmR b 2).2.2.1, ()) else rdE b (val (takeBcd b 0 4).1 : Int) (bmR b 2).1 (bmR b 2).2.1) else (noM, 2, ())
theorem numsB_length {c : List UInt8} : (numsB c).length ≤ 8 * c.length + 1 := by
  unfold numsB
  have := List.length_filter_le (fun n => Nat.ble 2 n && hasB c n) (List.range (8 * c.length + 1))
  rwa [List.length_range] at this
theorem bmR_length {b : List UInt8} {a : Int} : (bmR b a).1.length ≤ 129 := by
  unfold bmR
  split
  · simp
  unfold bmC
  split
  · simp
  split
  · split
    · simp
    · have := numsB_length (c := (b.drop a.toNat).take 16)
      have h2 := List.length_take_le 16 (b.drop a.toNat)
      simp only [List.length_map]; omega
  · have := numsB_length (c := (b.drop a.toNat).take 8)
    have h2 := List.length_take_le 8 (b.drop a.toNat)
    simp only [List.length_map]; omega
theorem fr_is {o : Option (Int × Int)} : (fr o).2.1 = o.isSome := by cases o <;> rfl
theorem rd_loops {Of : Int × Unit → Option ((Int × Int × Unit) × Bool × Unit)} (hOf : ∀ n, Of (n, ()) = some (fr (formOf n))) {Rd : Int × List UInt8 × Int × Unit → Option (List UInt8 × Int × Int × Unit)} {b : List UInt8} (hRd : ∀ n a, Rd (n, b, a, ()) = some (rdD n b a))
    {l : List Int} (hl : l.length ≤ 129) {at' mti : Int} {e1 : Int} {f : Int × Int × Unit → Option (LS (Int × Int × Unit) (M × Int × Unit))} {g : Int × Int × Int × M × Unit → Option (LS (Int × Int × Int × M × Unit) (M × Int × Unit))}
    (hf : ∀ x (i : Nat), f (x, (i : Int), ()) = sel (lt (i : Int) (len l)) (ck (inB (i : Int) (len l)) (ob (Of (nth l (nat (i : Int)) 0, ())) fun a => sel (bnot a.2.1) (some (.rt (noM, 2, ()))) (some (.nx (x, i64 (iadd (i : Int) 1), ()))))) (some (.ex 0 (x, (i : Int), ()))))
    (hg : ∀ x a (i : Nat) (F : List V), g (x, a, (i : Int), (mti, F, ()), ()) = sel (lt (i : Int) (len l)) (ck (inB (i : Int) (len l)) (ob (Rd (nth l (nat (i : Int)) 0, b, a, ())) fun q => sel (bnot (beq q.2.2.1 0)) (some (.rt (noM, q.2.2.1, ())))
      (ck (rm 56 (nadd (ln F) 1)) (some (.nx (x, q.2.1, i64 (iadd (i : Int) 1), (mti, app F [(nth l (nat (i : Int)) 0, q.1, ())], ()), ())))))) (some (.ex 2 (x, a, (i : Int), (mti, F, ()), ())))) (x0 : Int) :
    lc (loop f (x0, 0, ())) (fun _ => none) (fun i a => ck (neb i 0) (lc (loop g (a.1, at', 0, (mti, [], ()), ())) (fun _ => none) (fun i a => ck (neb i 2) (sel (lt a.2.1 (len b)) (some (noM, 4, ())) (some ((a.2.2.2.1.1, a.2.2.2.1.2.1, a.2.2.2.1.2.2), 0, ())))) fun r => some r)) (fun r => some r) = some (rdE b mti l at') := by
  have key := loop_fold (f := f) l (fun (_ : Unit) i => (x0, (i : Int), ())) 0 ofStep (fun _ _ => True) (fun _ i h _ => ⟨?_, fun _ _ => trivial⟩) (fun _ _ => ?_) () trivial
  · refine (lc_eq key).trans ?_
    rw [foldS_of]
    unfold rdE
    by_cases ho : ∀ n ∈ l, (formOf n).isSome = true
    · rw [if_pos ho, if_pos ho]
      refine lc_ex'.trans ((ck_of g62).trans ?_)
      have key2 := loop_fold (f := g) l (fun (s : Int × List V) i => (x0, s.1, (i : Int), (mti, s.2, ()), ())) 2 (rdStep b) (fun s i => s.2.length ≤ i) (fun s i h hI => ⟨?_, fun s' hs => ?_⟩) (fun s _ => ?_) (at', []) (Nat.le_refl _)
      · refine (lc_eq key2).trans ?_
        rw [foldS_rd]
        rcases rdFs b l at' [] with ⟨_ | q, a, F⟩
        · refine lc_ex'.trans ((ck_of g62).trans ?_)
          by_cases ha : a < (b.length : Int)
          · simp only [if_pos ha]; simp (disch := first | assumption | omega | (dsimp only; omega) | decide) only [↓g02, ↓g03, ↓g04, ↓g05, ↓g06, g01, g02, g03, g04, g05, g06, g07, g08, g09, g10, g11, g12, g13, g14, g15, g16, g17, g18, g19, g20, g21, g22, g23, g24, g25, g26, g27, g28, g29, g30, g31, g32, g34, g35, g36, g37, g38, g39, g40, g41, g42, g43, g44, g45, g46, g47, g48, g49, g50, g51, g52, g53, g54, g55, g56, g57, g58, g60, g61, eq_self, not_true_eq_false, not_false_eq_true, List.nil_append, List.append_nil, List.length_nil, and_true, true_and, or_true, true_or, or_false, false_or, and_false, false_and, iff_self, if_true, if_false, lc_rt', lc_ex', lc_nx, g62, g63, Int.toNat_natCast, Int.natCast_add, nth_get, g33, g64, g65, Int.toNat_zero, Bool.false_eq_true, Int.reduceToNat, g66]
          · simp only [if_neg ha]; simp (disch := first | assumption | omega | (dsimp only; omega) | decide) only [↓g02, ↓g03, ↓g04, ↓g05, ↓g06, g01, g02, g03, g04, g05, g06, g07, g08, g09, g10, g11, g12, g13, g14, g15, g16, g17, g18, g19, g20, g21, g22, g23, g24, g25, g26, g27, g28, g29, g30, g31, g32, g34, g35, g36, g37, g38, g39, g40, g41, g42, g43, g44, g45, g46, g47, g48, g49, g50, g51, g52, g53, g54, g55, g56, g57, g58, g60, g61, eq_self, not_true_eq_false, not_false_eq_true, List.nil_append, List.append_nil, List.length_nil, and_true, true_and, or_true, true_or, or_false, false_or, and_false, false_and, iff_self, if_true, if_false, lc_rt', lc_ex', lc_nx, g62, g63, Int.toNat_natCast, Int.natCast_add, nth_get, g33, g64, g65, Int.toNat_zero, Bool.false_eq_true, Int.reduceToNat, g66]
        · rfl
      · rw [hg]
        by_cases h0 : (rdD l[i] b s.1).2.2.1 = 0
        · have hst : rdStep b s l[i] = .nx ((rdD l[i] b s.1).2.1, s.2 ++ [(l[i], (rdD l[i] b s.1).1, ())]) := if_pos h0
          simp (disch := first | assumption | omega | (dsimp only; omega) | decide) only [↓g02, ↓g03, ↓g04, ↓g05, ↓g06, g01, g02, g03, g04, g05, g06, g07, g08, g09, g10, g11, g12, g13, g14, g15, g16, g17, g18, g19, g20, g21, g22, g23, g24, g25, g26, g27, g28, g29, g30, g31, g32, g34, g35, g36, g37, g38, g39, g40, g41, g42, g43, g44, g45, g46, g47, g48, g49, g50, g51, g52, g53, g54, g55, g56, g57, g58, g60, g61, eq_self, not_true_eq_false, not_false_eq_true, List.nil_append, List.append_nil, List.length_nil, and_true, true_and, or_true, true_or, or_false, false_or, and_false, false_and, iff_self, if_true, if_false, lc_rt', lc_ex', lc_nx, g62, g63, Int.toNat_natCast, Int.natCast_add, nth_get, g33, g64, g65, Int.toNat_zero, Bool.false_eq_true, Int.reduceToNat, g66, hRd, h0, hst, liftS]
        · have hst : rdStep b s l[i] = .rt (noM, (rdD l[i] b s.1).2.2.1, ()) := if_neg h0
          simp (disch := first | assumption | omega | (dsimp only; omega) | decide) only [↓g02, ↓g03, ↓g04, ↓g05, ↓g06, g01, g02, g03, g04, g05, g06, g07, g08, g09, g10, g11, g12, g13, g14, g15, g16, g17, g18, g19, g20, g21, g22, g23, g24, g25, g26, g27, g28, g29, g30, g31, g32, g34, g35, g36, g37, g38, g39, g40, g41, g42, g43, g44, g45, g46, g47, g48, g49, g50, g51, g52, g53, g54, g55, g56, g57, g58, g60, g61, eq_self, not_true_eq_false, not_false_eq_true, List.nil_append, List.append_nil, List.length_nil, and_true, true_and, or_true, true_or, or_false, false_or, and_false, false_and, iff_self, if_true, if_false, lc_rt', lc_ex', lc_nx, g62, g63, Int.toNat_natCast, Int.natCast_add, nth_get, g33, g64, g65, Int.toNat_zero, Bool.false_eq_true, Int.reduceToNat, g66, hRd, h0, hst, liftS]
      · unfold rdStep at hs
        split at hs
        · cases hs; rw [List.length_append]; simp; omega
        · cases hs
      · rw [hg]; simp (disch := first | assumption | omega | (dsimp only; omega) | decide) only [↓g02, ↓g03, ↓g04, ↓g05, ↓g06, g01, g02, g03, g04, g05, g06, g07, g08, g09, g10, g11, g12, g13, g14, g15, g16, g17, g18, g19, g20, g21, g22, g23, g24, g25, g26, g27, g28, g29, g30, g31, g32, g34, g35, g36, g37, g38, g39, g40, g41, g42, g43, g44, g45, g46, g47, g48, g49, g50, g51, g52, g53, g54, g55, g56, g57, g58, g60, g61, eq_self, not_true_eq_false, not_false_eq_true, List.nil_append, List.append_nil, List.length_nil, and_true, true_and, or_true, true_or, or_false, false_or, and_false, false_and, iff_self, if_true, if_false, lc_rt', lc_ex', lc_nx, g62, g63, Int.toNat_natCast, Int.natCast_add, nth_get, g33, g64, g65, Int.toNat_zero, Bool.false_eq_true, Int.reduceToNat, g66]
    · rw [if_neg ho, if_neg ho]; rfl
  · rw [hf]
    cases h0 : (formOf l[i]).isSome
    · have hst : ofStep () l[i] = .rt (noM, 2, ()) := if_neg (by rw [h0]; simp)
      simp (disch := first | assumption | omega | (dsimp only; omega) | decide) only [↓g02, ↓g03, ↓g04, ↓g05, ↓g06, g01, g02, g03, g04, g05, g06, g07, g08, g09, g10, g11, g12, g13, g14, g15, g16, g17, g18, g19, g20, g21, g22, g23, g24, g25, g26, g27, g28, g29, g30, g31, g32, g34, g35, g36, g37, g38, g39, g40, g41, g42, g43, g44, g45, g46, g47, g48, g49, g50, g51, g52, g53, g54, g55, g56, g57, g58, g60, g61, eq_self, not_true_eq_false, not_false_eq_true, List.nil_append, List.append_nil, List.length_nil, and_true, true_and, or_true, true_or, or_false, false_or, and_false, false_and, iff_self, if_true, if_false, lc_rt', lc_ex', lc_nx, g62, g63, Int.toNat_natCast, Int.natCast_add, nth_get, g33, g64, g65, Int.toNat_zero, Bool.false_eq_true, Int.reduceToNat, g66, hOf, fr_is, h0, hst, liftS]
    · have hst : ofStep () l[i] = .nx () := if_pos h0
      simp (disch := first | assumption | omega | (dsimp only; omega) | decide) only [↓g02, ↓g03, ↓g04, ↓g05, ↓g06, g01, g02, g03, g04, g05, g06, g07, g08, g09, g10, g11, g12, g13, g14, g15, g16, g17, g18, g19, g20, g21, g22, g23, g24, g25, g26, g27, g28, g29, g30, g31, g32, g34, g35, g36, g37, g38, g39, g40, g41, g42, g43, g44, g45, g46, g47, g48, g49, g50, g51, g52, g53, g54, g55, g56, g57, g58, g60, g61, eq_self, not_true_eq_false, not_false_eq_true, List.nil_append, List.append_nil, List.length_nil, and_true, true_and, or_true, true_or, or_false, false_or, and_false, false_and, iff_self, if_true, if_false, lc_rt', lc_ex', lc_nx, g62, g63, Int.toNat_natCast, Int.natCast_add, nth_get, g33, g64, g65, Int.toNat_zero, Bool.false_eq_true, Int.reduceToNat, g66, hOf, fr_is, h0, hst, liftS]
  · rw [hf]; simp (disch := first | assumption | omega | (dsimp only; omega) | decide) only [↓g02, ↓g03, ↓g04, ↓g05, ↓g06, g01, g02, g03, g04, g05, g06, g07, g08, g09, g10, g11, g12, g13, g14, g15, g16, g17, g18, g19, g20, g21, g22, g23, g24, g25, g26, g27, g28, g29, g30, g31, g32, g34, g35, g36, g37, g38, g39, g40, g41, g42, g43, g44, g45, g46, g47, g48, g49, g50, g51, g52, g53, g54, g55, g56, g57, g58, g60, g61, eq_self, not_true_eq_false, not_false_eq_true, List.nil_append, List.append_nil, List.length_nil, and_true, true_and, or_true, true_or, or_false, false_or, and_false, false_and, iff_self, if_true, if_false, lc_rt', lc_ex', lc_nx, g62, g63, Int.toNat_natCast, Int.natCast_add, nth_get, g33, g64, g65, Int.toNat_zero, Bool.false_eq_true, Int.reduceToNat, g66]
theorem iso_Read_spec (b : List UInt8) (hl : b.length ≤ 1000000) : iso_Read (b, ()) = some (rdM b) := by
  unfold iso_Read
  refine (ob_of (dig_TakeBcd_spec b 0 4 hl)).trans ?_
  unfold rdM
  rcases takeBcd_cases (b := b) (I := 0) (N := 4) (Nat.zero_le _) (by omega) with ⟨_, h⟩ | ⟨_, h, _⟩ | ⟨s, h4, h, hf, hs, _⟩
  · replace h : takeBcd b 0 4 = ([], 0, 3, ()) := h
    rw [h]; rfl
  · replace h : takeBcd b 0 4 = ([], 0, 2, ()) := h
    rw [h]; rfl
  · replace h : takeBcd b 0 4 = (s, 2, 0, ()) := h
    rw [h]
    refine (sel_of_f rfl).trans ?_
    refine (ob_of (dig_Value_spec s)).trans ?_
    rw [if_pos ⟨by omega, by omega, hf⟩, if_neg (by simp)]
    refine (ob_of (iso_Type_spec _)).trans ?_
    by_cases ht : typeOK (val s : Int)
    · refine (sel_of_f (by rw [D_t ht]; rfl)).trans ?_
      rw [if_pos ht]
      refine (ob_of (a := bmR b 2) rfl).trans ?_
      by_cases h0 : (bmR b 2).2.2.1 = 0
      · refine (sel_of_f (by rw [beq_t h0]; rfl)).trans ?_
        rw [if_neg (by simp [h0])]
        exact rd_loops (e1 := 0) field_Of_spec (b := b) (fun n a => field_Read_spec n b a hl) bmR_length (fun _ _ => rfl) (fun _ _ _ _ => rfl) 0
      · refine (sel_of_t (by rw [beq_f h0]; rfl)).trans ?_
        rw [if_pos h0]; rfl
    · refine (sel_of_t (by rw [D_f ht]; rfl)).trans ?_
      rw [if_neg ht]; rfl
theorem ref07_Read_spec (b : List UInt8) (hl : b.length ≤ 1000000) : ref07_Read (b, ()) = some (rdM b) := by
  unfold ref07_Read
  unfold rdM
  rcases takeBcd_cases (b := b) (I := 0) (N := 4) (Nat.zero_le _) (by omega) with ⟨h2, h⟩ | ⟨h2, h, _⟩ | ⟨s, h4, h, hf, hs, _⟩
  · replace h : takeBcd b 0 4 = ([], 0, 3, ()) := h
    rw [h]
    exact (sel_of_t (lt_t (by simp only [len]; omega))).trans rfl
  · replace h : takeBcd b 0 4 = ([], 0, 2, ()) := h
    rw [h]
    refine (sel_of_f (lt_f (by simp only [len]; omega))).trans ?_
    refine (ob_of (ref01_TakeBcd_spec b 0 4 hl)).trans ?_
    rw [h]
    refine (ob_of (ref01_Value_spec [] (by simp))).trans ?_
    rfl
  · replace h : takeBcd b 0 4 = (s, 2, 0, ()) := h
    rw [h]
    refine (sel_of_f (lt_f (by simp only [len]; omega))).trans ?_
    refine (ob_of (ref01_TakeBcd_spec b 0 4 hl)).trans ?_
    rw [h]
    refine (ob_of (ref01_Value_spec s (by omega))).trans ?_
    rw [if_pos ⟨by omega, by omega, hf⟩, if_neg (by simp)]
    by_cases ht : typeOK (val s : Int)
    · refine (ob_of (a := (false, ())) ((sel_of_f rfl).trans ((ob_of (ref07_Type_spec _)).trans (by rw [D_t ht]; rfl)))).trans ?_
      refine (sel_of_f rfl).trans ?_
      rw [if_pos ht]
      refine (ob_of (ref06_Read_spec b 2 hl)).trans ?_
      by_cases h0 : (bmR b 2).2.2.1 = 0
      · refine (sel_of_f (by rw [beq_t h0]; rfl)).trans ?_
        rw [if_neg (by simp [h0])]
        refine rd_loops (e1 := 0) ref05_Of_spec (b := b) (fun n a => ref05_Read_spec n b a hl) bmR_length (fun _ _ => rfl) (fun x a i F => ?_) 0
        by_cases hi : i < (bmR b 2).1.length
        · have hin : inB (i : Int) (len (bmR b 2).1) = true := inB_nat hi
          simp only [hin, ck_t]; rfl
        · refine (sel_of_f (lt_f (by simp only [len]; omega))).trans (sel_of_f (lt_f (by simp only [len]; omega))).symm
      · refine (sel_of_t (by rw [beq_f h0]; rfl)).trans ?_
        rw [if_pos h0]; rfl
    · refine (ob_of (a := (true, ())) ((sel_of_f rfl).trans ((ob_of (ref07_Type_spec _)).trans (by rw [D_f ht]; rfl)))).trans ?_
      rw [if_neg ht]; rfl
end Yp
namespace Yp
open Go
noncomputable def concatM {α : Type} (c : Nat) (z : α) (x : List (List α) × Unit) : Option (List α × Unit) :=
  lc (loop (fun (x_1 : Int × Int × Unit) => sel (lt x_1.2.1 (len x.1)) (ck (inB x_1.2.1 (len x.1)) (sel (lt (i64 (iadd x_1.1 (len (nth x.1 (nat x_1.2.1) (none' α))))) 0) none
        (some (LS.nx (i64 (iadd x_1.1 (len (nth x.1 (nat x_1.2.1) (none' α)))), i64 (iadd x_1.2.1 1), ()))))) (some (LS.ex 0 (x_1.1, x_1.2.1, ())))) (0, 0, ()))
  (fun (a : Int × Int × Unit) => none)
  (fun (i : Nat) (a : Int × Int × Unit) => ck (neb i 0) (sel (lt a.1 0) none (sel (lt 0 (i64 (isub a.1 (i64 (isub 0 0))))) (ck (inC 0 0 0)
       (ck (band (le 0 (i64 (isub a.1 (i64 (isub 0 0))))) (rm c (nat (i64 (isub a.1 (i64 (isub 0 0))))))) (ck (inC 0 0 (len (rep (nat (i64 (isub a.1 (i64 (isub 0 0))))) z)))
         (lc (loop (fun (x_1 : List α × Int × Unit) => sel (lt x_1.2.1 (len x.1)) (ck (inB x_1.2.1 (len x.1)) (ck (rm c (nadd (ln x_1.1) (ln (nth x.1 (nat x_1.2.1) (none' α)))))
            (some (LS.nx (app x_1.1 (nth x.1 (nat x_1.2.1) (none' α)), i64 (iadd x_1.2.1 1), ()))))) (some (LS.ex 2 (x_1.1, x_1.2.1, ())))) (cut (rep (nat (i64 (isub a.1 (i64 (isub 0 0))))) z) (nat 0) (nsub (nat 0) (nat 0)), 0, ()))
          (fun (a : List α × Int × Unit) => none) (fun (i : Nat) (a : List α × Int × Unit) => ck (neb i 2) (some (a.1, ()))) fun (r : List α × Unit) => some r))))
      (lc (loop (fun (x_1 : List α × Int × Unit) => sel (lt x_1.2.1 (len x.1)) (ck (inB x_1.2.1 (len x.1)) (ck (rm c (nadd (ln x_1.1) (ln (nth x.1 (nat x_1.2.1) (none' α)))))
            (some (LS.nx (app x_1.1 (nth x.1 (nat x_1.2.1) (none' α)), i64 (iadd x_1.2.1 1), ()))))) (some (LS.ex 2 (x_1.1, x_1.2.1, ())))) (none' α, 0, ()))
       (fun (a : List α × Int × Unit) => none) (fun (i : Nat) (a : List α × Int × Unit) => ck (neb i 2) (some (a.1, ()))) fun (r : List α × Unit) => some r))))
  fun (r : List α × Unit) => some r
theorem foldS_all' {α β σ ρ : Type} {mk : β → Nat → σ} {e : Nat} {step : β → α → LS β ρ} {g : β → α → β} (h : ∀ b x, step b x = .nx (g b x)) : ∀ (l : List α) (b : β) (i : Nat), foldS mk e step b i l = .ex e (mk (l.foldl g b) (i + l.length))
  | [], b, i => rfl
  | x :: r, b, i => by
    simp only [foldS, h, List.foldl_cons, List.length_cons]
    rw [foldS_all' h r (g b x) (i + 1)]
    congr 2; omega
theorem foldl_len {α : Type} (ls : List (List α)) : ∀ a : Int, ls.foldl (fun s x => s + (x.length : Int)) a = a + (ls.flatten.length : Int) := by
  induction ls with
  | nil => intro a; simp
  | cons x r ih => intro a; rw [List.foldl_cons, ih]; simp only [List.flatten_cons, List.length_append]; omega
theorem foldl_cat {α : Type} (ls : List (List α)) : ∀ a : List α, ls.foldl (fun s x => s ++ x) a = a ++ ls.flatten := by
  induction ls with
  | nil => intro a; simp
  | cons x r ih => intro a; rw [List.foldl_cons, ih]; simp
theorem concatM_spec {α : Type} {c : Nat} {z : α} (hc : c ≤ 100000) (ls : List (List α)) (hl : ls.length ≤ 100) (hx : ∀ x ∈ ls, x.length ≤ 1000000) : concatM c z (ls, ()) = some (ls.flatten, ()) := by
  unfold concatM
  generalize hf : (fun (x_1 : Int × Int × Unit) => _) = f
  generalize hg : (fun (x_1 : List α × Int × Unit) => (_ : Option (LS (List α × Int × Unit) (List α × Unit)))) = g
  have hmul : ∀ n : Nat, n ≤ 100000000 → n * c ≤ 140737488355328 := fun n hn => Nat.le_trans (Nat.mul_le_mul hn hc) (by omega)
  have hlen : ls.flatten.length ≤ 100000000 := by
    have : ∀ ls : List (List α), (∀ x ∈ ls, x.length ≤ 1000000) → ls.flatten.length ≤ 1000000 * ls.length := by
      intro ls
      induction ls with
      | nil => simp
      | cons x r ih =>
        intro h
        have h1 := h x (by simp)
        have h2 := ih fun u hu => h u (by simp [hu])
        simp only [List.flatten_cons, List.length_append, List.length_cons]; omega
    have := this ls hx
    omega
  have key := loop_fold (f := f) (ρ := List α × Unit) ls (fun (s : Int) i => (s, (i : Int), ())) 0 (fun s x => .nx (s + (x.length : Int))) (fun s i => 0 ≤ s ∧ s ≤ 1000000 * i) (fun s i h hI => ⟨?_, fun b' hb => ?_⟩) (fun s _ => ?_) 0 (by simp)
  · rw [foldS_all' (g := fun (s : Int) (x : List α) => s + (x.length : Int)) (fun _ _ => rfl), foldl_len, Int.zero_add] at key
    replace key : loop f (0, 0, ()) = _ := key
    have key2 := loop_fold (f := g) (ρ := List α × Unit) ls (fun (s : List α) i => (s, (i : Int), ())) 2 (fun s x => .nx (s ++ x)) (fun s i => s.length ≤ 1000000 * i) (fun s i h hI => ⟨?_, fun b' hb => ?_⟩) (fun s _ => ?_) [] (by simp)
    · rw [foldS_all' (g := fun (s : List α) (x : List α) => s ++ x) (fun _ _ => rfl), foldl_cat, List.nil_append] at key2
      replace key2 : loop g ([], 0, ()) = _ := key2
      refine (lc_eq key).trans (lc_ex'.trans ((ck_of g62).trans ((sel_of_f (by simp (disch := first | assumption | omega | (dsimp only; omega) | decide) only [↓g02, ↓g03, ↓g04, ↓g05, ↓g06, g01, g02, g03, g04, g05, g06, g07, g08, g09, g10, g11, g12, g13, g14, g15, g16, g17, g18, g19, g20, g21, g22, g23, g24, g25, g26, g27, g28, g29, g30, g31, g32, g34, g35, g36, g37, g38, g39, g40, g41, g42, g43, g44, g45, g46, g47, g48, g49, g50, g51, g52, g53, g54, g55, g56, g57, g58, g60, g61, eq_self, not_true_eq_false, not_false_eq_true, List.nil_append, List.append_nil, List.length_nil, and_true, true_and, or_true, true_or, or_false, false_or, and_false, false_and, iff_self, if_true, if_false, lc_rt', lc_ex', lc_nx, g62, g63, Int.toNat_natCast, Int.natCast_add, nth_get, g33, g64, g65, Int.toNat_zero, Bool.false_eq_true, Int.reduceToNat, g66]; omega)).trans ?_)))
      by_cases h0 : 0 < ls.flatten.length
      · refine (sel_of_t (by simp (disch := first | assumption | omega | (dsimp only; omega) | decide) only [↓g02, ↓g03, ↓g04, ↓g05, ↓g06, g01, g02, g03, g04, g05, g06, g07, g08, g09, g10, g11, g12, g13, g14, g15, g16, g17, g18, g19, g20, g21, g22, g23, g24, g25, g26, g27, g28, g29, g30, g31, g32, g34, g35, g36, g37, g38, g39, g40, g41, g42, g43, g44, g45, g46, g47, g48, g49, g50, g51, g52, g53, g54, g55, g56, g57, g58, g60, g61, eq_self, not_true_eq_false, not_false_eq_true, List.nil_append, List.append_nil, List.length_nil, and_true, true_and, or_true, true_or, or_false, false_or, and_false, false_and, iff_self, if_true, if_false, lc_rt', lc_ex', lc_nx, g62, g63, Int.toNat_natCast, Int.natCast_add, nth_get, g33, g64, g65, Int.toNat_zero, Bool.false_eq_true, Int.reduceToNat, g66]; omega)).trans ((ck_of (by simp (disch := first | assumption | omega | (dsimp only; omega) | decide) only [↓g02, ↓g03, ↓g04, ↓g05, ↓g06, g01, g02, g03, g04, g05, g06, g07, g08, g09, g10, g11, g12, g13, g14, g15, g16, g17, g18, g19, g20, g21, g22, g23, g24, g25, g26, g27, g28, g29, g30, g31, g32, g34, g35, g36, g37, g38, g39, g40, g41, g42, g43, g44, g45, g46, g47, g48, g49, g50, g51, g52, g53, g54, g55, g56, g57, g58, g60, g61, eq_self, not_true_eq_false, not_false_eq_true, List.nil_append, List.append_nil, List.length_nil, and_true, true_and, or_true, true_or, or_false, false_or, and_false, false_and, iff_self, if_true, if_false, lc_rt', lc_ex', lc_nx, g62, g63, Int.toNat_natCast, Int.natCast_add, nth_get, g33, g64, g65, Int.toNat_zero, Bool.false_eq_true, Int.reduceToNat, g66]; decide)).trans ?_)
        have hrep : ∀ (n : Nat) (a : α), (rep n a).length = n := fun n a => by simp [rep]
        have h5 : i64 (isub (ls.flatten.length : Int) (i64 (isub 0 0))) = (ls.flatten.length : Int) := by simp (disch := first | assumption | omega | (dsimp only; omega) | decide) only [↓g02, ↓g03, ↓g04, ↓g05, ↓g06, g01, g02, g03, g04, g05, g06, g07, g08, g09, g10, g11, g12, g13, g14, g15, g16, g17, g18, g19, g20, g21, g22, g23, g24, g25, g26, g27, g28, g29, g30, g31, g32, g34, g35, g36, g37, g38, g39, g40, g41, g42, g43, g44, g45, g46, g47, g48, g49, g50, g51, g52, g53, g54, g55, g56, g57, g58, g60, g61, eq_self, not_true_eq_false, not_false_eq_true, List.nil_append, List.append_nil, List.length_nil, and_true, true_and, or_true, true_or, or_false, false_or, and_false, false_and, iff_self, if_true, if_false, lc_rt', lc_ex', lc_nx, g62, g63, Int.toNat_natCast, Int.natCast_add, nth_get, g33, g64, g65, Int.toNat_zero, Bool.false_eq_true, Int.reduceToNat, g66]; omega
        simp only [h5]
        have hm := hmul _ hlen
        refine (ck_of (by simp (disch := first | assumption | omega | (dsimp only; omega) | decide) only [↓g02, ↓g03, ↓g04, ↓g05, ↓g06, g01, g02, g03, g04, g05, g06, g07, g08, g09, g10, g11, g12, g13, g14, g15, g16, g17, g18, g19, g20, g21, g22, g23, g24, g25, g26, g27, g28, g29, g30, g31, g32, g34, g35, g36, g37, g38, g39, g40, g41, g42, g43, g44, g45, g46, g47, g48, g49, g50, g51, g52, g53, g54, g55, g56, g57, g58, g60, g61, eq_self, not_true_eq_false, not_false_eq_true, List.nil_append, List.append_nil, List.length_nil, and_true, true_and, or_true, true_or, or_false, false_or, and_false, false_and, iff_self, if_true, if_false, lc_rt', lc_ex', lc_nx, g62, g63, Int.toNat_natCast, Int.natCast_add, nth_get, g33, g64, g65, Int.toNat_zero, Bool.false_eq_true, Int.reduceToNat, g66]; exact ⟨by omega, hm⟩)).trans ((ck_of (by simp (disch := first | assumption | omega | (dsimp only; omega) | decide) only [↓g02, ↓g03, ↓g04, ↓g05, ↓g06, g01, g02, g03, g04, g05, g06, g07, g08, g09, g10, g11, g12, g13, g14, g15, g16, g17, g18, g19, g20, g21, g22, g23, g24, g25, g26, g27, g28, g29, g30, g31, g32, g34, g35, g36, g37, g38, g39, g40, g41, g42, g43, g44, g45, g46, g47, g48, g49, g50, g51, g52, g53, g54, g55, g56, g57, g58, g60, g61, eq_self, not_true_eq_false, not_false_eq_true, List.nil_append, List.append_nil, List.length_nil, and_true, true_and, or_true, true_or, or_false, false_or, and_false, false_and, iff_self, if_true, if_false, lc_rt', lc_ex', lc_nx, g62, g63, Int.toNat_natCast, Int.natCast_add, nth_get, g33, g64, g65, Int.toNat_zero, Bool.false_eq_true, Int.reduceToNat, g66, hrep]; exact ⟨by omega, by omega, by omega⟩)).trans ?_)
        have hcut : cut (rep (nat (ls.flatten.length : Int)) z) (nat 0) (nsub (nat 0) (nat 0)) = [] := by simp [cut, nat, nsub]
        rw [hcut]
        refine (lc_eq key2).trans ?_
        simp (disch := first | assumption | omega | (dsimp only; omega) | decide) only [↓g02, ↓g03, ↓g04, ↓g05, ↓g06, g01, g02, g03, g04, g05, g06, g07, g08, g09, g10, g11, g12, g13, g14, g15, g16, g17, g18, g19, g20, g21, g22, g23, g24, g25, g26, g27, g28, g29, g30, g31, g32, g34, g35, g36, g37, g38, g39, g40, g41, g42, g43, g44, g45, g46, g47, g48, g49, g50, g51, g52, g53, g54, g55, g56, g57, g58, g60, g61, eq_self, not_true_eq_false, not_false_eq_true, List.nil_append, List.append_nil, List.length_nil, and_true, true_and, or_true, true_or, or_false, false_or, and_false, false_and, iff_self, if_true, if_false, lc_rt', lc_ex', lc_nx, g62, g63, Int.toNat_natCast, Int.natCast_add, nth_get, g33, g64, g65, Int.toNat_zero, Bool.false_eq_true, Int.reduceToNat, g66]
      · refine (sel_of_f (by simp (disch := first | assumption | omega | (dsimp only; omega) | decide) only [↓g02, ↓g03, ↓g04, ↓g05, ↓g06, g01, g02, g03, g04, g05, g06, g07, g08, g09, g10, g11, g12, g13, g14, g15, g16, g17, g18, g19, g20, g21, g22, g23, g24, g25, g26, g27, g28, g29, g30, g31, g32, g34, g35, g36, g37, g38, g39, g40, g41, g42, g43, g44, g45, g46, g47, g48, g49, g50, g51, g52, g53, g54, g55, g56, g57, g58, g60, g61, eq_self, not_true_eq_false, not_false_eq_true, List.nil_append, List.append_nil, List.length_nil, and_true, true_and, or_true, true_or, or_false, false_or, and_false, false_and, iff_self, if_true, if_false, lc_rt', lc_ex', lc_nx, g62, g63, Int.toNat_natCast, Int.natCast_add, nth_get, g33, g64, g65, Int.toNat_zero, Bool.false_eq_true, Int.reduceToNat, g66]; omega)).trans ((lc_eq key2).trans ?_)
        simp (disch := first | assumption | omega | (dsimp only; omega) | decide) only [↓g02, ↓g03, ↓g04, ↓g05, ↓g06, g01, g02, g03, g04, g05, g06, g07, g08, g09, g10, g11, g12, g13, g14, g15, g16, g17, g18, g19, g20, g21, g22, g23, g24, g25, g26, g27, g28, g29, g30, g31, g32, g34, g35, g36, g37, g38, g39, g40, g41, g42, g43, g44, g45, g46, g47, g48, g49, g50, g51, g52, g53, g54, g55, g56, g57, g58, g60, g61, eq_self, not_true_eq_false, not_false_eq_true, List.nil_append, List.append_nil, List.length_nil, and_true, true_and, or_true, true_or, or_false, false_or, and_false, false_and, iff_self, if_true, if_false, lc_rt', lc_ex', lc_nx, g62, g63, Int.toNat_natCast, Int.natCast_add, nth_get, g33, g64, g65, Int.toNat_zero, Bool.false_eq_true, Int.reduceToNat, g66]
    · subst hg
      have h2 := hx ls[i] (List.getElem_mem h)
      have hm := hmul (s.length + (ls[i]).length) (by omega)
      simp (disch := first | assumption | omega | (dsimp only; omega) | decide) only [↓g02, ↓g03, ↓g04, ↓g05, ↓g06, g01, g02, g03, g04, g05, g06, g07, g08, g09, g10, g11, g12, g13, g14, g15, g16, g17, g18, g19, g20, g21, g22, g23, g24, g25, g26, g27, g28, g29, g30, g31, g32, g34, g35, g36, g37, g38, g39, g40, g41, g42, g43, g44, g45, g46, g47, g48, g49, g50, g51, g52, g53, g54, g55, g56, g57, g58, g60, g61, eq_self, not_true_eq_false, not_false_eq_true, List.nil_append, List.append_nil, List.length_nil, and_true, true_and, or_true, true_or, or_false, false_or, and_false, false_and, iff_self, if_true, if_false, lc_rt', lc_ex', lc_nx, g62, g63, Int.toNat_natCast, Int.natCast_add, nth_get, g33, g64, g65, Int.toNat_zero, Bool.false_eq_true, Int.reduceToNat, g66, liftS]
    · cases hb
      have h2 := hx ls[i] (List.getElem_mem h)
      rw [List.length_append]; omega
    · subst hg; simp (disch := first | assumption | omega | (dsimp only; omega) | decide) only [↓g02, ↓g03, ↓g04, ↓g05, ↓g06, g01, g02, g03, g04, g05, g06, g07, g08, g09, g10, g11, g12, g13, g14, g15, g16, g17, g18, g19, g20, g21, g22, g23, g24, g25, g26, g27, g28, g29, g30, g31, g32, g34, g35, g36, g37, g38, g39, g40, g41, g42, g43, g44, g45, g46, g47, g48, g49, g50, g51, g52, g53, g54, g55, g56, g57, g58, g60, g61, eq_self, not_true_eq_false, not_false_eq_true, List.nil_append, List.append_nil, List.length_nil, and_true, true_and, or_true, true_or, or_false, false_or, and_false, false_and, iff_self, if_true, if_false, lc_rt', lc_ex', lc_nx, g62, g63, Int.toNat_natCast, Int.natCast_add, nth_get, g33, g64, g65, Int.toNat_zero, Bool.false_eq_true, Int.reduceToNat, g66]
  · subst hf
    have h2 := hx ls[i] (List.getElem_mem h)
    simp (disch := first | assumption | omega | (dsimp only; omega) | decide) only [↓g02, ↓g03, ↓g04, ↓g05, ↓g06, g01, g02, g03, g04, g05, g06, g07, g08, g09, g10, g11, g12, g13, g14, g15, g16, g17, g18, g19, g20, g21, g22, g23, g24, g25, g26, g27, g28, g29, g30, g31, g32, g34, g35, g36, g37, g38, g39, g40, g41, g42, g43, g44, g45, g46, g47, g48, g49, g50, g51, g52, g53, g54, g55, g56, g57, g58, g60, g61, eq_self, not_true_eq_false, not_false_eq_true, List.nil_append, List.append_nil, List.length_nil, and_true, true_and, or_true, true_or, or_false, false_or, and_false, false_and, iff_self, if_true, if_false, lc_rt', lc_ex', lc_nx, g62, g63, Int.toNat_natCast, Int.natCast_add, nth_get, g33, g64, g65, Int.toNat_zero, Bool.false_eq_true, Int.reduceToNat, g66, liftS]
  · cases hb
    have h2 := hx ls[i] (List.getElem_mem h)
    omega
  · subst hf; simp (disch := first | assumption | omega | (dsimp only; omega) | decide) only [↓g02, ↓g03, ↓g04, ↓g05, ↓g06, g01, g02, g03, g04, g05, g06, g07, g08, g09, g10, g11, g12, g13, g14, g15, g16, g17, g18, g19, g20, g21, g22, g23, g24, g25, g26, g27, g28, g29, g30, g31, g32, g34, g35, g36, g37, g38, g39, g40, g41, g42, g43, g44, g45, g46, g47, g48, g49, g50, g51, g52, g53, g54, g55, g56, g57, g58, g60, g61, eq_self, not_true_eq_false, not_false_eq_true, List.nil_append, List.append_nil, List.length_nil, and_true, true_and, or_true, true_or, or_false, false_or, and_false, false_and, iff_self, if_true, if_false, lc_rt', lc_ex', lc_nx, g62, g63, Int.toNat_natCast, Int.natCast_add, nth_get, g33, g64, g65, Int.toNat_zero, Bool.false_eq_true, Int.reduceToNat, g66]
end Yp
namespace Yp
open Go
theorem Concat_spec (ls : List (List V)) (hl : ls.length ≤ 100) (hx : ∀ x ∈ ls, x.length ≤ 1000000) : slices_Concat_api_Val_api_Val (ls, ()) = some (ls.flatten, ()) :=
  (show slices_Concat_api_Val_api_Val (ls, ()) = concatM 56 (0, none' UInt8, ()) (ls, ()) from rfl).trans (concatM_spec (by omega) ls hl hx)
def findI (no : Int) : List V → Nat
  | [] => 0
  | v :: r => if no ≤ v.1 then 0 else findI no r + 1
def hasI (no : Int) : List V → Bool
  | [] => false
  | v :: r => if no ≤ v.1 then decide (v.1 = no) else hasI no r
theorem findI_le (no : Int) : ∀ l : List V, findI no l ≤ l.length
  | [] => Nat.le_refl _
  | v :: r => by
    unfold findI
    split
    · exact Nat.zero_le _
    · have := findI_le no r
      simp only [List.length_cons]; omega
theorem hasI_lt {no : Int} : ∀ {l : List V}, hasI no l = true → ∃ h : findI no l < l.length, (l[findI no l]).1 = no
  | [], h => by cases h
  | v :: r, h => by
    unfold hasI at h
    by_cases hc : no ≤ v.1
    · rw [if_pos hc] at h
      have : findI no (v :: r) = 0 := by unfold findI; rw [if_pos hc]
      simp only [this]
      exact ⟨by simp, by simpa using h⟩
    · rw [if_neg hc] at h
      obtain ⟨h1, h2⟩ := hasI_lt h
      have : findI no (v :: r) = findI no r + 1 := by conv => { lhs; unfold findI }; rw [if_neg hc]
      simp only [this]
      exact ⟨by simp; omega, by simpa using h2⟩
theorem find_spec (l : List V) (no : Int) (hl : l.length ≤ 1000000) : iso_rows_api_Val_find ((l, 1, ()), no, ()) = some ((findI no l : Int), hasI no l, ()) := by
  unfold iso_rows_api_Val_find
  generalize hf : (fun (x_1 : Int × Bool × Int × Unit) => _) = f
  have key : ∀ (r : List V) (i : Nat), l.drop i = r → i ≤ l.length → loop f (0, false, (i : Int), ()) = if i + findI no r < l.length then some (.rt (((i + findI no r : Nat) : Int), hasI no r, ())) else some (.ex 0 (0, false, (l.length : Int), ())) := by
    intro r
    induction r with
    | nil =>
      intro i hr hi
      have hl' := congrArg List.length hr
      rw [List.length_drop, List.length_nil] at hl'
      have : i = l.length := by omega
      subst this
      rw [if_neg (by simp [findI])]
      refine loop_ex ?_
      subst hf; simp (disch := first | assumption | omega | (dsimp only; omega) | decide) only [↓g02, ↓g03, ↓g04, ↓g05, ↓g06, g01, g02, g03, g04, g05, g06, g07, g08, g09, g10, g11, g12, g13, g14, g15, g16, g17, g18, g19, g20, g21, g22, g23, g24, g25, g26, g27, g28, g29, g30, g31, g32, g34, g35, g36, g37, g38, g39, g40, g41, g42, g43, g44, g45, g46, g47, g48, g49, g50, g51, g52, g53, g54, g55, g56, g57, g58, g60, g61, eq_self, not_true_eq_false, not_false_eq_true, List.nil_append, List.append_nil, List.length_nil, and_true, true_and, or_true, true_or, or_false, false_or, and_false, false_and, iff_self, if_true, if_false, lc_rt', lc_ex', lc_nx, g62, g63, Int.toNat_natCast, Int.natCast_add, nth_get, g33, g64, g65, Int.toNat_zero, Bool.false_eq_true, Int.reduceToNat, g66]
    | cons v r ih =>
      intro i hr hi
      have hl' := congrArg List.length hr
      rw [List.length_drop, List.length_cons] at hl'
      have hlt : i < l.length := by omega
      rw [List.drop_eq_getElem_cons hlt] at hr
      obtain ⟨hv, hr'⟩ := List.cons.inj hr
      have hp : iso_fields_1 (v, ()) = some (v.1, ()) := rfl
      by_cases hc : no ≤ v.1
      · have h0 : findI no (v :: r) = 0 := by unfold findI; rw [if_pos hc]
        have h1 : hasI no (v :: r) = D (v.1 = no) := by unfold hasI; rw [if_pos hc]; exact g51
        rw [h0, h1, if_pos (by omega)]
        refine loop_rt ?_
        subst hf; simp (disch := first | assumption | omega | (dsimp only; omega) | decide) only [↓g02, ↓g03, ↓g04, ↓g05, ↓g06, g01, g02, g03, g04, g05, g06, g07, g08, g09, g10, g11, g12, g13, g14, g15, g16, g17, g18, g19, g20, g21, g22, g23, g24, g25, g26, g27, g28, g29, g30, g31, g32, g34, g35, g36, g37, g38, g39, g40, g41, g42, g43, g44, g45, g46, g47, g48, g49, g50, g51, g52, g53, g54, g55, g56, g57, g58, g60, g61, eq_self, not_true_eq_false, not_false_eq_true, List.nil_append, List.append_nil, List.length_nil, and_true, true_and, or_true, true_or, or_false, false_or, and_false, false_and, iff_self, if_true, if_false, lc_rt', lc_ex', lc_nx, g62, g63, Int.toNat_natCast, Int.natCast_add, nth_get, g33, g64, g65, Int.toNat_zero, Bool.false_eq_true, Int.reduceToNat, g66, hv, hp, Int.add_zero]
      · have h0 : findI no (v :: r) = findI no r + 1 := by conv => { lhs; unfold findI }; rw [if_neg hc]
        have h1 : hasI no (v :: r) = hasI no r := by conv => { lhs; unfold hasI }; rw [if_neg hc]
        rw [h0, h1]
        refine (loop_nx (y := (0, false, ((i + 1 : Nat) : Int), ())) ?_).trans ((ih (i + 1) hr' hlt).trans ?_)
        · subst hf; simp (disch := first | assumption | omega | (dsimp only; omega) | decide) only [↓g02, ↓g03, ↓g04, ↓g05, ↓g06, g01, g02, g03, g04, g05, g06, g07, g08, g09, g10, g11, g12, g13, g14, g15, g16, g17, g18, g19, g20, g21, g22, g23, g24, g25, g26, g27, g28, g29, g30, g31, g32, g34, g35, g36, g37, g38, g39, g40, g41, g42, g43, g44, g45, g46, g47, g48, g49, g50, g51, g52, g53, g54, g55, g56, g57, g58, g60, g61, eq_self, not_true_eq_false, not_false_eq_true, List.nil_append, List.append_nil, List.length_nil, and_true, true_and, or_true, true_or, or_false, false_or, and_false, false_and, iff_self, if_true, if_false, lc_rt', lc_ex', lc_nx, g62, g63, Int.toNat_natCast, Int.natCast_add, nth_get, g33, g64, g65, Int.toNat_zero, Bool.false_eq_true, Int.reduceToNat, g66, hv, hp]
        · rw [show i + 1 + findI no r = i + (findI no r + 1) by omega]
  have k0 := key l 0 rfl (Nat.zero_le _)
  rw [Nat.zero_add] at k0
  refine (lc_eq k0).trans ?_
  by_cases hlt : findI no l < l.length
  · rw [if_pos hlt]; rfl
  · rw [if_neg hlt]
    have he := findI_le no l
    have : findI no l = l.length := by omega
    have hn : hasI no l = false := (Bool.not_eq_true _).mp fun h => hlt (hasI_lt h).1
    rw [this, hn]; rfl
def getD (l : List V) (no : Int) : List UInt8 × Bool × Unit := if hasI no l = true then ((nth l (findI no l) (0, [], ())).2.1, true, ()) else ([], false, ())
theorem iso_Get_spec (m : M) (no : Int) (hl : m.2.1.length ≤ 1000000) : iso_Get (m, no, ()) = some (getD m.2.1 no) := by
  unfold iso_Get
  refine (ob_of (show iso_fields (m, ()) = some ((m.2.1, 1, ()), ()) from rfl)).trans ?_
  refine (ob_of (find_spec m.2.1 no hl)).trans ?_
  unfold getD
  cases h : hasI no m.2.1
  · rfl
  · obtain ⟨h1, h2⟩ := hasI_lt h
    exact (sel_of_f rfl).trans ((ck_of (inB_nat h1)).trans rfl)
def withD (l : List V) (x : V) : List V := l.take (findI x.1 l) ++ (x :: l.drop (if hasI x.1 l = true then findI x.1 l + 1 else findI x.1 l))
theorem sub_pre {α : Type} {l : List α} {n : Nat} : sub l 0 (n : Int) = l.take n := by simp [sub]
theorem sub_suf {α : Type} {l : List α} {n : Nat} : sub l (n : Int) (len l) = l.drop n := by
  simp only [sub, len, Int.toNat_natCast]; rw [List.take_of_length_le (by rw [List.length_drop]; omega)]
theorem with_spec (l : List V) (x : V) (hl : l.length ≤ 100000) : iso_rows_api_Val_with ((l, 1, ()), x, ()) = some (withD l x, ()) := by
  unfold iso_rows_api_Val_with
  refine (ck_of g62).trans ((ob_of (show iso_fields_1 (x, ()) = some (x.1, ()) from rfl)).trans ((ob_of (find_spec l x.1 (by omega))).trans ?_))
  have hle := findI_le x.1 l
  have hc : ∀ n : Nat, slices_Concat_api_Val_api_Val ([l.take (findI x.1 l), [x], l.drop n], ()) = some (l.take (findI x.1 l) ++ (x :: l.drop n), ()) := fun n => by
    rw [Concat_spec _ (by simp) (fun y hy => by
      simp only [List.mem_cons, List.not_mem_nil, or_false] at hy
      rcases hy with rfl | rfl | rfl
      · have := List.length_take_le' (findI x.1 l) l; omega
      · simp
      · rw [List.length_drop]; omega)]
    simp
  unfold withD
  cases h : hasI x.1 l
  · refine (ob_of (sel_of_f rfl)).trans ?_
    refine (ck_of (by simp (disch := first | assumption | omega | (dsimp only; omega) | decide) only [↓g02, ↓g03, ↓g04, ↓g05, ↓g06, g01, g02, g03, g04, g05, g06, g07, g08, g09, g10, g11, g12, g13, g14, g15, g16, g17, g18, g19, g20, g21, g22, g23, g24, g25, g26, g27, g28, g29, g30, g31, g32, g34, g35, g36, g37, g38, g39, g40, g41, g42, g43, g44, g45, g46, g47, g48, g49, g50, g51, g52, g53, g54, g55, g56, g57, g58, g60, g61, eq_self, not_true_eq_false, not_false_eq_true, List.nil_append, List.append_nil, List.length_nil, and_true, true_and, or_true, true_or, or_false, false_or, and_false, false_and, iff_self, if_true, if_false, lc_rt', lc_ex', lc_nx, g62, g63, Int.toNat_natCast, Int.natCast_add, nth_get, g33, g64, g65, Int.toNat_zero, Bool.false_eq_true, Int.reduceToNat, g66]; omega)).trans ((ck_of (by simp (disch := first | assumption | omega | (dsimp only; omega) | decide) only [↓g02, ↓g03, ↓g04, ↓g05, ↓g06, g01, g02, g03, g04, g05, g06, g07, g08, g09, g10, g11, g12, g13, g14, g15, g16, g17, g18, g19, g20, g21, g22, g23, g24, g25, g26, g27, g28, g29, g30, g31, g32, g34, g35, g36, g37, g38, g39, g40, g41, g42, g43, g44, g45, g46, g47, g48, g49, g50, g51, g52, g53, g54, g55, g56, g57, g58, g60, g61, eq_self, not_true_eq_false, not_false_eq_true, List.nil_append, List.append_nil, List.length_nil, and_true, true_and, or_true, true_or, or_false, false_or, and_false, false_and, iff_self, if_true, if_false, lc_rt', lc_ex', lc_nx, g62, g63, Int.toNat_natCast, Int.natCast_add, nth_get, g33, g64, g65, Int.toNat_zero, Bool.false_eq_true, Int.reduceToNat, g66]; omega)).trans ?_)
    simp only [sub_pre, sub_suf]
    exact (ob_of (hc _)).trans rfl
  · obtain ⟨h1, h2⟩ := hasI_lt h
    have e : i64 (iadd (findI x.1 l : Int) 1) = ((findI x.1 l + 1 : Nat) : Int) := i64_add (b := 1) (by omega)
    refine (ob_of (sel_of_t rfl)).trans ?_
    simp only [e]
    refine (ck_of (by simp (disch := first | assumption | omega | (dsimp only; omega) | decide) only [↓g02, ↓g03, ↓g04, ↓g05, ↓g06, g01, g02, g03, g04, g05, g06, g07, g08, g09, g10, g11, g12, g13, g14, g15, g16, g17, g18, g19, g20, g21, g22, g23, g24, g25, g26, g27, g28, g29, g30, g31, g32, g34, g35, g36, g37, g38, g39, g40, g41, g42, g43, g44, g45, g46, g47, g48, g49, g50, g51, g52, g53, g54, g55, g56, g57, g58, g60, g61, eq_self, not_true_eq_false, not_false_eq_true, List.nil_append, List.append_nil, List.length_nil, and_true, true_and, or_true, true_or, or_false, false_or, and_false, false_and, iff_self, if_true, if_false, lc_rt', lc_ex', lc_nx, g62, g63, Int.toNat_natCast, Int.natCast_add, nth_get, g33, g64, g65, Int.toNat_zero, Bool.false_eq_true, Int.reduceToNat, g66]; omega)).trans ((ck_of (by simp (disch := first | assumption | omega | (dsimp only; omega) | decide) only [↓g02, ↓g03, ↓g04, ↓g05, ↓g06, g01, g02, g03, g04, g05, g06, g07, g08, g09, g10, g11, g12, g13, g14, g15, g16, g17, g18, g19, g20, g21, g22, g23, g24, g25, g26, g27, g28, g29, g30, g31, g32, g34, g35, g36, g37, g38, g39, g40, g41, g42, g43, g44, g45, g46, g47, g48, g49, g50, g51, g52, g53, g54, g55, g56, g57, g58, g60, g61, eq_self, not_true_eq_false, not_false_eq_true, List.nil_append, List.append_nil, List.length_nil, and_true, true_and, or_true, true_or, or_false, false_or, and_false, false_and, iff_self, if_true, if_false, lc_rt', lc_ex', lc_nx, g62, g63, Int.toNat_natCast, Int.natCast_add, nth_get, g33, g64, g65, Int.toNat_zero, Bool.false_eq_true, Int.reduceToNat, g66]; omega)).trans ?_)
    simp only [sub_pre, sub_suf]
    exact (ob_of (hc _)).trans rfl
def setD' (m : M) (no : Int) (v : List UInt8) : M × Int × Unit := if formOf no = none then (m, 12, ()) else if fitsD no v = true then ((m.1, withD m.2.1 (no, v, ()), ()), 0, ()) else (m, 1, ())
theorem iso_Set_spec (m : M) (no : Int) (v : List UInt8) (hl : m.2.1.length ≤ 100000) (hv : v.length ≤ 1000000) : iso_Set (m, no, v, ()) = some (setD' m no v) := by
  unfold iso_Set setD'
  refine (ob_of (field_Of_spec no)).trans ?_
  rw [fr_is]
  cases ho : formOf no with
  | none => rfl
  | some p =>
    rw [if_neg (by simp)]
    refine (sel_of_f rfl).trans ((ob_of (field_Fits_spec no v hv)).trans ?_)
    cases hf : fitsD no v
    · rfl
    · exact (sel_of_f rfl).trans ((ob_of (show iso_fields (m, ()) = some ((m.2.1, 1, ()), ()) from rfl)).trans ((ob_of (with_spec m.2.1 (no, v, ()) hl)).trans rfl))
def getR (no : Int) : List V → List UInt8 × Bool × Unit
  | [] => ([], false, ())
  | v :: r => if v.1 = no then (v.2.1, true, ()) else getR no r
def grStep (no : Int) (_ : Unit) (v : V) : LS Unit (List UInt8 × Bool × Unit) := if v.1 = no then .rt (v.2.1, true, ()) else .nx ()
theorem foldS_gr {σ : Type} {mk : Unit → Nat → σ} {e : Nat} {no : Int} : ∀ (l : List V) (i : Nat), ∃ j, foldS mk e (grStep no) () i l = if (getR no l).2.1 = true then .rt (getR no l) else .ex e (mk () j)
  | [], i => ⟨i, rfl⟩
  | v :: r, i => by
    by_cases h : v.1 = no
    · have hs : grStep no () v = .rt (v.2.1, true, ()) := if_pos h
      have hg : getR no (v :: r) = (v.2.1, true, ()) := by unfold getR; rw [if_pos h]
      exact ⟨0, by simp only [foldS, hs, hg, if_pos]⟩
    · have hs : grStep no () v = .nx () := if_neg h
      have hg : getR no (v :: r) = getR no r := by conv => { lhs; unfold getR }; rw [if_neg h]
      obtain ⟨j, hj⟩ := foldS_gr (mk := mk) (e := e) (no := no) r (i + 1)
      exact ⟨j, by simp only [foldS, hs, hg]; exact hj⟩
theorem getR_none {no : Int} : ∀ {l : List V}, (getR no l).2.1 = false → getR no l = ([], false, ())
  | [], _ => rfl
  | v :: r, h => by
    unfold getR at h ⊢
    split
    · rename_i hc; rw [if_pos hc] at h; cases h
    · rename_i hc; rw [if_neg hc] at h; exact getR_none h
theorem ref07_Get_spec (m : M) (no : Int) (hl : m.2.1.length ≤ 1000000) : ref07_Get (m, no, ()) = some (getR no m.2.1) := by
  unfold ref07_Get
  generalize hf : (fun (x_1 : Bool × Int × Unit) => _) = f
  have key := loop_fold (f := f) m.2.1 (fun (_ : Unit) i => (false, (i : Int), ())) 0 (grStep no) (fun _ _ => True) (fun _ i h _ => ⟨?_, fun _ _ => trivial⟩) (fun _ _ => ?_) () trivial
  · refine (lc_eq key).trans ?_
    obtain ⟨j, hj⟩ := foldS_gr (mk := fun _ i => ((false, (i : Int), ()) : Bool × Int × Unit)) (e := 0) (no := no) m.2.1 0
    rw [hj]
    cases h : (getR no m.2.1).2.1
    · rw [getR_none h]; rfl
    · rfl
  · subst hf
    by_cases h1 : (m.2.1[i]).1 = no
    · have hs : grStep no () m.2.1[i] = .rt (m.2.1[i].2.1, true, ()) := if_pos h1
      simp (disch := first | assumption | omega | (dsimp only; omega) | decide) only [↓g02, ↓g03, ↓g04, ↓g05, ↓g06, g01, g02, g03, g04, g05, g06, g07, g08, g09, g10, g11, g12, g13, g14, g15, g16, g17, g18, g19, g20, g21, g22, g23, g24, g25, g26, g27, g28, g29, g30, g31, g32, g34, g35, g36, g37, g38, g39, g40, g41, g42, g43, g44, g45, g46, g47, g48, g49, g50, g51, g52, g53, g54, g55, g56, g57, g58, g60, g61, eq_self, not_true_eq_false, not_false_eq_true, List.nil_append, List.append_nil, List.length_nil, and_true, true_and, or_true, true_or, or_false, false_or, and_false, false_and, iff_self, if_true, if_false, lc_rt', lc_ex', lc_nx, g62, g63, Int.toNat_natCast, Int.natCast_add, nth_get, g33, g64, g65, Int.toNat_zero, Bool.false_eq_true, Int.reduceToNat, g66, hs, liftS]
    · have hs : grStep no () m.2.1[i] = .nx () := if_neg h1
      simp (disch := first | assumption | omega | (dsimp only; omega) | decide) only [↓g02, ↓g03, ↓g04, ↓g05, ↓g06, g01, g02, g03, g04, g05, g06, g07, g08, g09, g10, g11, g12, g13, g14, g15, g16, g17, g18, g19, g20, g21, g22, g23, g24, g25, g26, g27, g28, g29, g30, g31, g32, g34, g35, g36, g37, g38, g39, g40, g41, g42, g43, g44, g45, g46, g47, g48, g49, g50, g51, g52, g53, g54, g55, g56, g57, g58, g60, g61, eq_self, not_true_eq_false, not_false_eq_true, List.nil_append, List.append_nil, List.length_nil, and_true, true_and, or_true, true_or, or_false, false_or, and_false, false_and, iff_self, if_true, if_false, lc_rt', lc_ex', lc_nx, g62, g63, Int.toNat_natCast, Int.natCast_add, nth_get, g33, g64, g65, Int.toNat_zero, Bool.false_eq_true, Int.reduceToNat, g66, hs, liftS]
  · subst hf; simp (disch := first | assumption | omega | (dsimp only; omega) | decide) only [↓g02, ↓g03, ↓g04, ↓g05, ↓g06, g01, g02, g03, g04, g05, g06, g07, g08, g09, g10, g11, g12, g13, g14, g15, g16, g17, g18, g19, g20, g21, g22, g23, g24, g25, g26, g27, g28, g29, g30, g31, g32, g34, g35, g36, g37, g38, g39, g40, g41, g42, g43, g44, g45, g46, g47, g48, g49, g50, g51, g52, g53, g54, g55, g56, g57, g58, g60, g61, eq_self, not_true_eq_false, not_false_eq_true, List.nil_append, List.append_nil, List.length_nil, and_true, true_and, or_true, true_or, or_false, false_or, and_false, false_and, iff_self, if_true, if_false, lc_rt', lc_ex', lc_nx, g62, g63, Int.toNat_natCast, Int.natCast_add, nth_get, g33, g64, g65, Int.toNat_zero, Bool.false_eq_true, Int.reduceToNat, g66]
theorem foldl_keep (p : V → Bool) (l : List V) : ∀ a : List V, l.foldl (fun s v => if p v = true then s ++ [v] else s) a = a ++ l.filter p := by
  induction l with
  | nil => intro a; simp
  | cons v r ih =>
    intro a
    rw [List.foldl_cons, ih]
    by_cases h : p v = true
    · rw [if_pos h, List.filter_cons_of_pos h]; simp
    · rw [if_neg h, List.filter_cons_of_neg h]
theorem keep_loop {ρ : Type} {f : List V × Int × Unit → Option (LS (List V × Int × Unit) ρ)} {l : List V} {e : Nat} (p : V → Bool) (hl : l.length ≤ 100000) (a : List V) (ha : a.length ≤ 100000)
    (hf : ∀ (s : List V) (i : Nat) (h : i < l.length), s.length ≤ 200000 → f (s, (i : Int), ()) = some (.nx (if p l[i] = true then s ++ [l[i]] else s, ((i + 1 : Nat) : Int), ()))) (he : ∀ s, f (s, (l.length : Int), ()) = some (.ex e (s, (l.length : Int), ()))) :
    loop f (a, 0, ()) = some (.ex e (a ++ l.filter p, (l.length : Int), ())) := by
  have key := loop_fold (f := f) l (fun (s : List V) i => (s, (i : Int), ())) e (fun s v => .nx (if p v = true then s ++ [v] else s)) (fun s i => s.length ≤ 100000 + i) (fun s i h hI => ⟨hf s i h (by omega), fun b' hb => ?_⟩) (fun s _ => he s) a (by omega)
  · rw [foldS_all' (g := fun (s : List V) (v : V) => if p v = true then s ++ [v] else s) (fun _ _ => rfl), foldl_keep, Nat.zero_add] at key
    exact key
  · cases hb
    split
    · rw [List.length_append]; simp; omega
    · omega
def dropR (l : List V) (no : Int) : List V := l.filter (fun v => !(decide (v.1 = no)))
theorem ref07_Drop_spec (m : M) (no : Int) (hl : m.2.1.length ≤ 100000) : ref07_Drop (m, no, ()) = some ((m.1, dropR m.2.1 no, ()), ()) := by
  unfold ref07_Drop dropR
  generalize hf : (fun (x_1 : List V × Int × Unit) => _) = f
  have key := keep_loop (f := f) (e := 0) (fun v => !(decide (v.1 = no))) hl [] (by simp) (fun s i h hs => ?_) (fun s => ?_)
  · refine (lc_eq key).trans ?_
    simp (disch := first | assumption | omega | (dsimp only; omega) | decide) only [↓g02, ↓g03, ↓g04, ↓g05, ↓g06, g01, g02, g03, g04, g05, g06, g07, g08, g09, g10, g11, g12, g13, g14, g15, g16, g17, g18, g19, g20, g21, g22, g23, g24, g25, g26, g27, g28, g29, g30, g31, g32, g34, g35, g36, g37, g38, g39, g40, g41, g42, g43, g44, g45, g46, g47, g48, g49, g50, g51, g52, g53, g54, g55, g56, g57, g58, g60, g61, eq_self, not_true_eq_false, not_false_eq_true, List.nil_append, List.append_nil, List.length_nil, and_true, true_and, or_true, true_or, or_false, false_or, and_false, false_and, iff_self, if_true, if_false, lc_rt', lc_ex', lc_nx, g62, g63, Int.toNat_natCast, Int.natCast_add, nth_get, g33, g64, g65, Int.toNat_zero, Bool.false_eq_true, Int.reduceToNat, g66]
  · subst hf
    by_cases h1 : (m.2.1[i]).1 = no
    · have e : (!(decide ((m.2.1[i]).1 = no))) = false := by rw [decide_eq_true h1]; rfl
      simp (disch := first | assumption | omega | (dsimp only; omega) | decide) only [↓g02, ↓g03, ↓g04, ↓g05, ↓g06, g01, g02, g03, g04, g05, g06, g07, g08, g09, g10, g11, g12, g13, g14, g15, g16, g17, g18, g19, g20, g21, g22, g23, g24, g25, g26, g27, g28, g29, g30, g31, g32, g34, g35, g36, g37, g38, g39, g40, g41, g42, g43, g44, g45, g46, g47, g48, g49, g50, g51, g52, g53, g54, g55, g56, g57, g58, g60, g61, eq_self, not_true_eq_false, not_false_eq_true, List.nil_append, List.append_nil, List.length_nil, and_true, true_and, or_true, true_or, or_false, false_or, and_false, false_and, iff_self, if_true, if_false, lc_rt', lc_ex', lc_nx, g62, g63, Int.toNat_natCast, Int.natCast_add, nth_get, g33, g64, g65, Int.toNat_zero, Bool.false_eq_true, Int.reduceToNat, g66, h1, Bool.not_true]
    · simp (disch := first | assumption | omega | (dsimp only; omega) | decide) only [↓g02, ↓g03, ↓g04, ↓g05, ↓g06, g01, g02, g03, g04, g05, g06, g07, g08, g09, g10, g11, g12, g13, g14, g15, g16, g17, g18, g19, g20, g21, g22, g23, g24, g25, g26, g27, g28, g29, g30, g31, g32, g34, g35, g36, g37, g38, g39, g40, g41, g42, g43, g44, g45, g46, g47, g48, g49, g50, g51, g52, g53, g54, g55, g56, g57, g58, g60, g61, eq_self, not_true_eq_false, not_false_eq_true, List.nil_append, List.append_nil, List.length_nil, and_true, true_and, or_true, true_or, or_false, false_or, and_false, false_and, iff_self, if_true, if_false, lc_rt', lc_ex', lc_nx, g62, g63, Int.toNat_natCast, Int.natCast_add, nth_get, g33, g64, g65, Int.toNat_zero, Bool.false_eq_true, Int.reduceToNat, g66, h1, List.length_cons, Bool.not_false]
  · subst hf; simp (disch := first | assumption | omega | (dsimp only; omega) | decide) only [↓g02, ↓g03, ↓g04, ↓g05, ↓g06, g01, g02, g03, g04, g05, g06, g07, g08, g09, g10, g11, g12, g13, g14, g15, g16, g17, g18, g19, g20, g21, g22, g23, g24, g25, g26, g27, g28, g29, g30, g31, g32, g34, g35, g36, g37, g38, g39, g40, g41, g42, g43, g44, g45, g46, g47, g48, g49, g50, g51, g52, g53, g54, g55, g56, g57, g58, g60, g61, eq_self, not_true_eq_false, not_false_eq_true, List.nil_append, List.append_nil, List.length_nil, and_true, true_and, or_true, true_or, or_false, false_or, and_false, false_and, iff_self, if_true, if_false, lc_rt', lc_ex', lc_nx, g62, g63, Int.toNat_natCast, Int.natCast_add, nth_get, g33, g64, g65, Int.toNat_zero, Bool.false_eq_true, Int.reduceToNat, g66]
def setR (l : List V) (x : V) : List V := l.filter (fun v => decide (v.1 < x.1)) ++ (x :: l.filter (fun v => decide (x.1 < v.1)))
def setRD (m : M) (no : Int) (v : List UInt8) : M × Int × Unit := if formOf no = none then (m, 12, ()) else if fitsD no v = true then ((m.1, setR m.2.1 (no, v, ()), ()), 0, ()) else (m, 1, ())
theorem ref07_Set_spec (m : M) (no : Int) (v : List UInt8) (hl : m.2.1.length ≤ 90000) (hv : v.length ≤ 1000000) : ref07_Set (m, no, v, ()) = some (setRD m no v) := by
  unfold ref07_Set setRD
  generalize hf : (fun (x_1 : List V × Int × Unit) => (_ : Option (LS (List V × Int × Unit) (M × Int × Unit)))) = f
  generalize hg : (fun (x_1 : List V × Int × Unit) => (_ : Option (LS (List V × Int × Unit) (M × Int × Unit)))) = g
  refine (ob_of (ref05_Of_spec no)).trans ?_
  rw [fr_is]
  cases ho : formOf no with
  | none => rfl
  | some p =>
    rw [if_neg (by simp)]
    refine (sel_of_f rfl).trans ((ob_of (ref05_Fits_spec no v hv)).trans ?_)
    cases hfi : fitsD no v
    · rfl
    refine (sel_of_f rfl).trans ?_
    have hfl : (m.2.1.filter (fun u => decide (u.1 < no))).length ≤ m.2.1.length := List.length_filter_le _ _
    have key := keep_loop (f := f) (e := 0) (fun u => decide (u.1 < no)) (by omega) [] (by simp) (fun s i h hs => ?_) (fun s => ?_) (l := m.2.1)
    · have key2 := keep_loop (f := g) (e := 2) (fun u => decide (no < u.1)) (by omega) (m.2.1.filter (fun u => decide (u.1 < no)) ++ [(no, v, ())]) (by rw [List.length_append]; simp; omega) (fun s i h hs => ?_) (fun s => ?_) (l := m.2.1)
      · refine (lc_eq key).trans (lc_ex'.trans ((ck_of g62).trans ((ck_of (rm_t (by simp only [nadd, ln, List.length_append, List.length_cons, List.length_nil]; omega))).trans ((lc_eq key2).trans ?_))))
        simp (disch := first | assumption | omega | (dsimp only; omega) | decide) only [↓g02, ↓g03, ↓g04, ↓g05, ↓g06, g01, g02, g03, g04, g05, g06, g07, g08, g09, g10, g11, g12, g13, g14, g15, g16, g17, g18, g19, g20, g21, g22, g23, g24, g25, g26, g27, g28, g29, g30, g31, g32, g34, g35, g36, g37, g38, g39, g40, g41, g42, g43, g44, g45, g46, g47, g48, g49, g50, g51, g52, g53, g54, g55, g56, g57, g58, g60, g61, eq_self, not_true_eq_false, not_false_eq_true, List.nil_append, List.append_nil, List.length_nil, and_true, true_and, or_true, true_or, or_false, false_or, and_false, false_and, iff_self, if_true, if_false, lc_rt', lc_ex', lc_nx, g62, g63, Int.toNat_natCast, Int.natCast_add, nth_get, g33, g64, g65, Int.toNat_zero, Bool.false_eq_true, Int.reduceToNat, g66, setR]
        simp
      · subst hg
        by_cases h1 : no < (m.2.1[i]).1
        · simp (disch := first | assumption | omega | (dsimp only; omega) | decide) only [↓g02, ↓g03, ↓g04, ↓g05, ↓g06, g01, g02, g03, g04, g05, g06, g07, g08, g09, g10, g11, g12, g13, g14, g15, g16, g17, g18, g19, g20, g21, g22, g23, g24, g25, g26, g27, g28, g29, g30, g31, g32, g34, g35, g36, g37, g38, g39, g40, g41, g42, g43, g44, g45, g46, g47, g48, g49, g50, g51, g52, g53, g54, g55, g56, g57, g58, g60, g61, eq_self, not_true_eq_false, not_false_eq_true, List.nil_append, List.append_nil, List.length_nil, and_true, true_and, or_true, true_or, or_false, false_or, and_false, false_and, iff_self, if_true, if_false, lc_rt', lc_ex', lc_nx, g62, g63, Int.toNat_natCast, Int.natCast_add, nth_get, g33, g64, g65, Int.toNat_zero, Bool.false_eq_true, Int.reduceToNat, g66, h1, List.length_cons]
        · simp (disch := first | assumption | omega | (dsimp only; omega) | decide) only [↓g02, ↓g03, ↓g04, ↓g05, ↓g06, g01, g02, g03, g04, g05, g06, g07, g08, g09, g10, g11, g12, g13, g14, g15, g16, g17, g18, g19, g20, g21, g22, g23, g24, g25, g26, g27, g28, g29, g30, g31, g32, g34, g35, g36, g37, g38, g39, g40, g41, g42, g43, g44, g45, g46, g47, g48, g49, g50, g51, g52, g53, g54, g55, g56, g57, g58, g60, g61, eq_self, not_true_eq_false, not_false_eq_true, List.nil_append, List.append_nil, List.length_nil, and_true, true_and, or_true, true_or, or_false, false_or, and_false, false_and, iff_self, if_true, if_false, lc_rt', lc_ex', lc_nx, g62, g63, Int.toNat_natCast, Int.natCast_add, nth_get, g33, g64, g65, Int.toNat_zero, Bool.false_eq_true, Int.reduceToNat, g66, h1]
      · subst hg; simp (disch := first | assumption | omega | (dsimp only; omega) | decide) only [↓g02, ↓g03, ↓g04, ↓g05, ↓g06, g01, g02, g03, g04, g05, g06, g07, g08, g09, g10, g11, g12, g13, g14, g15, g16, g17, g18, g19, g20, g21, g22, g23, g24, g25, g26, g27, g28, g29, g30, g31, g32, g34, g35, g36, g37, g38, g39, g40, g41, g42, g43, g44, g45, g46, g47, g48, g49, g50, g51, g52, g53, g54, g55, g56, g57, g58, g60, g61, eq_self, not_true_eq_false, not_false_eq_true, List.nil_append, List.append_nil, List.length_nil, and_true, true_and, or_true, true_or, or_false, false_or, and_false, false_and, iff_self, if_true, if_false, lc_rt', lc_ex', lc_nx, g62, g63, Int.toNat_natCast, Int.natCast_add, nth_get, g33, g64, g65, Int.toNat_zero, Bool.false_eq_true, Int.reduceToNat, g66]
    · subst hf
      by_cases h1 : (m.2.1[i]).1 < no
      · simp (disch := first | assumption | omega | (dsimp only; omega) | decide) only [↓g02, ↓g03, ↓g04, ↓g05, ↓g06, g01, g02, g03, g04, g05, g06, g07, g08, g09, g10, g11, g12, g13, g14, g15, g16, g17, g18, g19, g20, g21, g22, g23, g24, g25, g26, g27, g28, g29, g30, g31, g32, g34, g35, g36, g37, g38, g39, g40, g41, g42, g43, g44, g45, g46, g47, g48, g49, g50, g51, g52, g53, g54, g55, g56, g57, g58, g60, g61, eq_self, not_true_eq_false, not_false_eq_true, List.nil_append, List.append_nil, List.length_nil, and_true, true_and, or_true, true_or, or_false, false_or, and_false, false_and, iff_self, if_true, if_false, lc_rt', lc_ex', lc_nx, g62, g63, Int.toNat_natCast, Int.natCast_add, nth_get, g33, g64, g65, Int.toNat_zero, Bool.false_eq_true, Int.reduceToNat, g66, h1, List.length_cons]
      · simp (disch := first | assumption | omega | (dsimp only; omega) | decide) only [↓g02, ↓g03, ↓g04, ↓g05, ↓g06, g01, g02, g03, g04, g05, g06, g07, g08, g09, g10, g11, g12, g13, g14, g15, g16, g17, g18, g19, g20, g21, g22, g23, g24, g25, g26, g27, g28, g29, g30, g31, g32, g34, g35, g36, g37, g38, g39, g40, g41, g42, g43, g44, g45, g46, g47, g48, g49, g50, g51, g52, g53, g54, g55, g56, g57, g58, g60, g61, eq_self, not_true_eq_false, not_false_eq_true, List.nil_append, List.append_nil, List.length_nil, and_true, true_and, or_true, true_or, or_false, false_or, and_false, false_and, iff_self, if_true, if_false, lc_rt', lc_ex', lc_nx, g62, g63, Int.toNat_natCast, Int.natCast_add, nth_get, g33, g64, g65, Int.toNat_zero, Bool.false_eq_true, Int.reduceToNat, g66, h1]
    · subst hf; simp (disch := first | assumption | omega | (dsimp only; omega) | decide) only [↓g02, ↓g03, ↓g04, ↓g05, ↓g06, g01, g02, g03, g04, g05, g06, g07, g08, g09, g10, g11, g12, g13, g14, g15, g16, g17, g18, g19, g20, g21, g22, g23, g24, g25, g26, g27, g28, g29, g30, g31, g32, g34, g35, g36, g37, g38, g39, g40, g41, g42, g43, g44, g45, g46, g47, g48, g49, g50, g51, g52, g53, g54, g55, g56, g57, g58, g60, g61, eq_self, not_true_eq_false, not_false_eq_true, List.nil_append, List.append_nil, List.length_nil, and_true, true_and, or_true, true_or, or_false, false_or, and_false, false_and, iff_self, if_true, if_false, lc_rt', lc_ex', lc_nx, g62, g63, Int.toNat_natCast, Int.natCast_add, nth_get, g33, g64, g65, Int.toNat_zero, Bool.false_eq_true, Int.reduceToNat, g66]
end Yp
namespace Yp
open Go
set_option linter.unusedVariables false
set_option linter.unusedSimpArgs false
def dg (n : Int) (w : Nat) : List UInt8 := ps 10 dch n.toNat w
theorem dg_length {n : Int} {w : Nat} : (dg n w).length = w := ps_length _ _ _ _
theorem dg_figs {n : Int} {w : Nat} : figs (dg n w) := figs_ps
theorem dg_val {n : Int} {w : Nat} (h0 : 0 ≤ n) (h : n < 10 ^ w) : (val (dg n w) : Int) = n := by
  unfold dg
  rw [val_ps, Nat.mod_eq_of_lt (by have : ((n.toNat : Nat) : Int) < ((10 ^ w : Nat) : Int) := by rw [Int.toNat_of_nonneg h0]; push_cast; exact h
                                   exact Int.ofNat_lt.1 this)]
  omega
theorem note_figures_spec {n : Int} {w : Nat} (h1 : 1 ≤ w) (h2 : w ≤ 18) (h0 : 0 ≤ n) (h : n < 10 ^ w) (h64 : n ≤ 9223372036854775807) : note_figures (n, (w : Int), ()) = some (dg n w, ()) := by
  unfold note_figures
  rw [dig_Digits_spec _ _ h64, if_pos ⟨show (1 : Int) ≤ (w : Int) by omega, show (w : Int) ≤ 18 by omega, h0, by simpa using h⟩]
  show ck (rm 1 (ln (dg n w))) _ = _
  simp (disch := first | assumption | omega | (dsimp only; omega) | decide) only [↓g02, ↓g03, ↓g04, ↓g05, ↓g06, g01, g02, g03, g04, g05, g06, g07, g08, g09, g10, g11, g12, g13, g14, g15, g16, g17, g18, g19, g20, g21, g22, g23, g24, g25, g26, g27, g28, g29, g30, g31, g32, g34, g35, g36, g37, g38, g39, g40, g41, g42, g43, g44, g45, g46, g47, g48, g49, g50, g51, g52, g53, g54, g55, g56, g57, g58, g60, g61, eq_self, not_true_eq_false, not_false_eq_true, List.nil_append, List.append_nil, List.length_nil, and_true, true_and, or_true, true_or, or_false, false_or, and_false, false_and, iff_self, if_true, if_false, lc_rt', lc_ex', lc_nx, g62, g63, Int.toNat_natCast, Int.natCast_add, nth_get, g33, g64, g65, Int.toNat_zero, Bool.false_eq_true, Int.reduceToNat, g66, dg_length]
  rfl
theorem ref16_figures_spec {n : Int} {w : Nat} (h1 : 1 ≤ w) (h2 : w ≤ 18) (h0 : 0 ≤ n) (h : n < 10 ^ w) (h64 : n ≤ 9223372036854775807) : ref16_figures (n, (w : Int), ()) = some (dg n w, ()) := by
  unfold ref16_figures
  rw [ref01_Digits_spec _ _ h64, if_pos ⟨show (1 : Int) ≤ (w : Int) by omega, show (w : Int) ≤ 18 by omega, h0, by simpa using h⟩]
  show ck (rm 1 (ln (dg n w))) _ = _
  simp (disch := first | assumption | omega | (dsimp only; omega) | decide) only [↓g02, ↓g03, ↓g04, ↓g05, ↓g06, g01, g02, g03, g04, g05, g06, g07, g08, g09, g10, g11, g12, g13, g14, g15, g16, g17, g18, g19, g20, g21, g22, g23, g24, g25, g26, g27, g28, g29, g30, g31, g32, g34, g35, g36, g37, g38, g39, g40, g41, g42, g43, g44, g45, g46, g47, g48, g49, g50, g51, g52, g53, g54, g55, g56, g57, g58, g60, g61, eq_self, not_true_eq_false, not_false_eq_true, List.nil_append, List.append_nil, List.length_nil, and_true, true_and, or_true, true_or, or_false, false_or, and_false, false_and, iff_self, if_true, if_false, lc_rt', lc_ex', lc_nx, g62, g63, Int.toNat_natCast, Int.natCast_add, nth_get, g33, g64, g65, Int.toNat_zero, Bool.false_eq_true, Int.reduceToNat, g66, dg_length]
  rfl
def msgN (n : N) : M :=
  if n.1 = false then (810, [(11, dg n.2.2.1 6, ()), (39, dg n.2.2.2.1 2, ()), (70, dg n.2.1 3, ())], ())
  else if n.2.1 = 101 then (800, [(11, dg n.2.2.1 6, ()), (48, hexOf n.2.2.2.2.2.2.1, ()), (53, dg n.2.2.2.2.1 16, ()), (70, dg n.2.1 3, ()), (96, n.2.2.2.2.2.1, ())], ())
  else if n.2.1 = 201 then (800, [(11, dg n.2.2.1 6, ()), (15, dg n.2.2.2.2.2.2.2.1 6, ()), (70, dg n.2.1 3, ())], ())
  else (800, [(11, dg n.2.2.1 6, ()), (70, dg n.2.1 3, ())], ())
theorem fits_dg {no k : Int} {w : Nat} (h : formOf no = some (k, (w : Int))) (hw : 1 ≤ w) {n : Int} : fitsD no (dg n w) = true := by
  unfold fitsD
  rw [h]
  refine decide_eq_true ⟨⟨fun _ => dg_figs, fun _ => figs_rng dg_figs⟩, ?_⟩
  unfold fln
  rw [dg_length]
  split <;> omega
theorem fo11 : formOf 11 = some (1, 6) := by decide
theorem fo15 : formOf 15 = some (1, 6) := by decide
theorem fo39 : formOf 39 = some (3, 2) := by decide
theorem fo48 : formOf 48 = some (5, 400) := by decide
theorem fo53 : formOf 53 = some (1, 16) := by decide
theorem fo70 : formOf 70 = some (1, 3) := by decide
theorem fo96 : formOf 96 = some (6, 8) := by decide
theorem fo41 : formOf 41 = some (3, 8) := by decide
theorem fits96 {v : List UInt8} (h : v.length = 8) : fitsD 96 v = true := by
  unfold fitsD
  rw [fo96]
  refine decide_eq_true ⟨⟨fun h => by omega, fun h => by omega⟩, ?_⟩
  unfold fln
  rw [if_pos (by omega), h]; rfl
theorem nset_in {t : Int} {l : List V} {no : Int} {v : List UInt8} (hl : l.length ≤ 100) (hv : v.length ≤ 1000) (hf : fitsD no v = true) : iso_Set ((t, l, ()), no, v, ()) = some ((t, withD l (no, v, ()), ()), 0, ()) := by
  rw [iso_Set_spec (t, l, ()) no v (show l.length ≤ 100000 by omega) (by omega)]
  obtain ⟨k, m, hk, _⟩ := fitsD_iff.1 hf
  unfold setD'
  rw [if_neg (by rw [hk]; simp), if_pos hf]
theorem nib_rng : ∀ k : Nat, k < 16 → 32 ≤ (nib k).toNat ∧ (nib k).toNat ≤ 126 := by decide
theorem hexOf_mem {b : List UInt8} {c : UInt8} (h : c ∈ hexOf b) : 32 ≤ c.toNat ∧ c.toNat ≤ 126 := by
  unfold hexOf at h
  obtain ⟨x, _, hc⟩ := List.mem_flatMap.1 h
  have hx := x.toNat_lt
  simp only [List.mem_cons, List.not_mem_nil, or_false] at hc
  rcases hc with rfl | rfl
  · exact nib_rng _ (by omega)
  · exact nib_rng _ (by omega)
theorem hexOf_rng {b : List UInt8} : rng 32 126 (hexOf b) := by
  intro i h
  have := hexOf_mem (List.getElem_mem h)
  rw [n8_nat]; omega
theorem fits48 {b : List UInt8} (h : b.length = 3) : fitsD 48 (hexOf b) = true := by
  unfold fitsD
  rw [fo48]
  refine decide_eq_true ⟨⟨fun h => by omega, fun _ => hexOf_rng⟩, ?_⟩
  unfold fln
  rw [hexOf_length, h]; decide
theorem setc {t : Int} {l l' : List V} {no : Int} {v : List UInt8} (hl : l.length ≤ 100) (hv : v.length ≤ 1000) (hf : fitsD no v = true) (hw : withD l (no, v, ()) = l') : iso_Set ((t, l, ()), no, v, ()) = some ((t, l', ()), 0, ()) := by rw [← hw]; exact nset_in hl hv hf
theorem note_message_spec {n : N} (hr : rightN n) : note_message (n, ()) = some (msgN n, ()) := by
  obtain ⟨rq, c, st, rs, g, no, k, d, ⟨⟩⟩ := n
  have hr' := rightN_iff.1 hr
  obtain ⟨hc, s1, s2, r1, r2, r3, hk⟩ := hr'
  have hc0 : 0 ≤ c ∧ c ≤ 301 := by unfold knownC at hc; omega
  have e11 : note_figures (st, 6, ()) = some (dg st 6, ()) := note_figures_spec (n := st) (w := 6) (by omega) (by omega) (by omega) (by omega) (by omega)
  have e70 : note_figures (c, 3, ()) = some (dg c 3, ()) := note_figures_spec (n := c) (w := 3) (by omega) (by omega) (by omega) (by omega) (by omega)
  have e39 : note_figures (rs, 2, ()) = some (dg rs 2, ()) := note_figures_spec (n := rs) (w := 2) (by omega) (by omega) (by omega) (by omega) (by omega)
  have f11 := fun n => fits_dg (no := 11) (w := 6) (n := n) fo11 (by omega)
  have f15 := fun n => fits_dg (no := 15) (w := 6) (n := n) fo15 (by omega)
  have f39 := fun n => fits_dg (no := 39) (w := 2) (n := n) fo39 (by omega)
  have f53 := fun n => fits_dg (no := 53) (w := 16) (n := n) fo53 (by omega)
  have f70 := fun n => fits_dg (no := 70) (w := 3) (n := n) fo70 (by omega)
  have len : ∀ {n : Int} {w : Nat}, w ≤ 20 → (dg n w).length ≤ 1000 := fun h => by rw [dg_length]; omega
  have t1 : iso_Set ((810, ([] : List V), ()), 11, dg st 6, ()) = some ((810, [(11, dg st 6, ())], ()), 0, ()) := setc (l := []) (by decide) (len (by omega)) (f11 st) rfl
  have t2 : iso_Set ((810, [(11, dg st 6, ())], ()), 70, dg c 3, ()) = some ((810, [(11, dg st 6, ()), (70, dg c 3, ())], ()), 0, ()) := setc (by simp) (len (by omega)) (f70 c) rfl
  unfold note_message
  cases rq
  · have t3 : iso_Set ((810, [(11, dg st 6, ()), (70, dg c 3, ())], ()), 39, dg rs 2, ()) = some ((810, [(11, dg st 6, ()), (39, dg rs 2, ()), (70, dg c 3, ())], ()), 0, ()) := setc (by simp) (len (by omega)) (f39 rs) rfl
    simp (disch := first | assumption | omega | (dsimp only; omega) | decide) only [↓g02, ↓g03, ↓g04, ↓g05, ↓g06, g01, g02, g03, g04, g05, g06, g07, g08, g09, g10, g11, g12, g13, g14, g15, g16, g17, g18, g19, g20, g21, g22, g23, g24, g25, g26, g27, g28, g29, g30, g31, g32, g34, g35, g36, g37, g38, g39, g40, g41, g42, g43, g44, g45, g46, g47, g48, g49, g50, g51, g52, g53, g54, g55, g56, g57, g58, g60, g61, eq_self, not_true_eq_false, not_false_eq_true, List.nil_append, List.append_nil, List.length_nil, and_true, true_and, or_true, true_or, or_false, false_or, and_false, false_and, iff_self, if_true, if_false, lc_rt', lc_ex', lc_nx, g62, g63, Int.toNat_natCast, Int.natCast_add, nth_get, g33, g64, g65, Int.toNat_zero, Bool.false_eq_true, Int.reduceToNat, g66, e11, e70, e39, t1, t2, t3]
    rfl
  · by_cases h1 : c = 101
    · subst h1
      rw [if_pos ⟨rfl, rfl⟩] at hk
      obtain ⟨g1, g2, hn, hkc, hd⟩ := hk
      have e53 : note_figures (g, 16, ()) = some (dg g 16, ()) := note_figures_spec (n := g) (w := 16) (by omega) (by omega) (by omega) (by omega) (by omega)
      have ex := dig_Hex_spec k (by omega)
      have hxl : (hexOf k).length = 6 := by rw [hexOf_length, hkc]
      have t3 : iso_Set ((800, [(11, dg st 6, ()), (70, dg 101 3, ())], ()), 48, hexOf k, ()) = some ((800, [(11, dg st 6, ()), (48, hexOf k, ()), (70, dg 101 3, ())], ()), 0, ()) := setc (by simp) (by omega) (fits48 hkc) rfl
      have t4 : iso_Set ((800, [(11, dg st 6, ()), (48, hexOf k, ()), (70, dg 101 3, ())], ()), 53, dg g 16, ()) = some ((800, [(11, dg st 6, ()), (48, hexOf k, ()), (53, dg g 16, ()), (70, dg 101 3, ())], ()), 0, ()) := setc (by simp) (len (by omega)) (f53 g) rfl
      have t5 : iso_Set ((800, [(11, dg st 6, ()), (48, hexOf k, ()), (53, dg g 16, ()), (70, dg 101 3, ())], ()), 96, no, ()) = some ((800, [(11, dg st 6, ()), (48, hexOf k, ()), (53, dg g 16, ()), (70, dg 101 3, ()), (96, no, ())], ()), 0, ()) := setc (by simp) (by omega) (fits96 hn) rfl
      simp (disch := first | assumption | omega | (dsimp only; omega) | decide) only [↓g02, ↓g03, ↓g04, ↓g05, ↓g06, g01, g02, g03, g04, g05, g06, g07, g08, g09, g10, g11, g12, g13, g14, g15, g16, g17, g18, g19, g20, g21, g22, g23, g24, g25, g26, g27, g28, g29, g30, g31, g32, g34, g35, g36, g37, g38, g39, g40, g41, g42, g43, g44, g45, g46, g47, g48, g49, g50, g51, g52, g53, g54, g55, g56, g57, g58, g60, g61, eq_self, not_true_eq_false, not_false_eq_true, List.nil_append, List.append_nil, List.length_nil, and_true, true_and, or_true, true_or, or_false, false_or, and_false, false_and, iff_self, if_true, if_false, lc_rt', lc_ex', lc_nx, g62, g63, Int.toNat_natCast, Int.natCast_add, nth_get, g33, g64, g65, Int.toNat_zero, Bool.false_eq_true, Int.reduceToNat, g66, e11, e70, e39, e53, ex, t1, t2, t3, t4, t5, hxl]
      rfl
    · by_cases h2 : c = 201
      · subst h2
        rw [if_neg (by omega), if_pos ⟨rfl, rfl⟩] at hk
        obtain ⟨_, _, _, d1, d2⟩ := hk
        have e15 : note_figures (d, 6, ()) = some (dg d 6, ()) := note_figures_spec (n := d) (w := 6) (by omega) (by omega) (by omega) (by omega) (by omega)
        have t3 : iso_Set ((800, [(11, dg st 6, ()), (70, dg 201 3, ())], ()), 15, dg d 6, ()) = some ((800, [(11, dg st 6, ()), (15, dg d 6, ()), (70, dg 201 3, ())], ()), 0, ()) := setc (by simp) (len (by omega)) (f15 d) rfl
        simp (disch := first | assumption | omega | (dsimp only; omega) | decide) only [↓g02, ↓g03, ↓g04, ↓g05, ↓g06, g01, g02, g03, g04, g05, g06, g07, g08, g09, g10, g11, g12, g13, g14, g15, g16, g17, g18, g19, g20, g21, g22, g23, g24, g25, g26, g27, g28, g29, g30, g31, g32, g34, g35, g36, g37, g38, g39, g40, g41, g42, g43, g44, g45, g46, g47, g48, g49, g50, g51, g52, g53, g54, g55, g56, g57, g58, g60, g61, eq_self, not_true_eq_false, not_false_eq_true, List.nil_append, List.append_nil, List.length_nil, and_true, true_and, or_true, true_or, or_false, false_or, and_false, false_and, iff_self, if_true, if_false, lc_rt', lc_ex', lc_nx, g62, g63, Int.toNat_natCast, Int.natCast_add, nth_get, g33, g64, g65, Int.toNat_zero, Bool.false_eq_true, Int.reduceToNat, g66, e11, e70, e39, e15, t1, t2, t3]
        rfl
      · simp (disch := first | assumption | omega | (dsimp only; omega) | decide) only [↓g02, ↓g03, ↓g04, ↓g05, ↓g06, g01, g02, g03, g04, g05, g06, g07, g08, g09, g10, g11, g12, g13, g14, g15, g16, g17, g18, g19, g20, g21, g22, g23, g24, g25, g26, g27, g28, g29, g30, g31, g32, g34, g35, g36, g37, g38, g39, g40, g41, g42, g43, g44, g45, g46, g47, g48, g49, g50, g51, g52, g53, g54, g55, g56, g57, g58, g60, g61, eq_self, not_true_eq_false, not_false_eq_true, List.nil_append, List.append_nil, List.length_nil, and_true, true_and, or_true, true_or, or_false, false_or, and_false, false_and, iff_self, if_true, if_false, lc_rt', lc_ex', lc_nx, g62, g63, Int.toNat_natCast, Int.natCast_add, nth_get, g33, g64, g65, Int.toNat_zero, Bool.false_eq_true, Int.reduceToNat, g66, e11, e70, e39, t1, t2, h1, h2, D_f h1, D_f h2]
        show _ = some (if true = false then _ else if c = 101 then _ else if c = 201 then _ else _, ())
        rw [if_neg (by decide), if_neg h1, if_neg h2]
theorem ref16_Message_spec {n : N} (hr : rightN n) : ref16_Message (n, ()) = some (msgN n, ()) := by
  obtain ⟨rq, c, st, rs, g, no, k, d, ⟨⟩⟩ := n
  have hr' := rightN_iff.1 hr
  obtain ⟨hc, s1, s2, r1, r2, r3, hk⟩ := hr'
  have hc0 : 0 ≤ c ∧ c ≤ 301 := by unfold knownC at hc; omega
  have e11 : ref16_figures (st, 6, ()) = some (dg st 6, ()) := ref16_figures_spec (n := st) (w := 6) (by omega) (by omega) (by omega) (by omega) (by omega)
  have e70 : ref16_figures (c, 3, ()) = some (dg c 3, ()) := ref16_figures_spec (n := c) (w := 3) (by omega) (by omega) (by omega) (by omega) (by omega)
  have e39 : ref16_figures (rs, 2, ()) = some (dg rs 2, ()) := ref16_figures_spec (n := rs) (w := 2) (by omega) (by omega) (by omega) (by omega) (by omega)
  unfold ref16_Message
  cases rq
  · simp (disch := first | assumption | omega | (dsimp only; omega) | decide) only [↓g02, ↓g03, ↓g04, ↓g05, ↓g06, g01, g02, g03, g04, g05, g06, g07, g08, g09, g10, g11, g12, g13, g14, g15, g16, g17, g18, g19, g20, g21, g22, g23, g24, g25, g26, g27, g28, g29, g30, g31, g32, g34, g35, g36, g37, g38, g39, g40, g41, g42, g43, g44, g45, g46, g47, g48, g49, g50, g51, g52, g53, g54, g55, g56, g57, g58, g60, g61, eq_self, not_true_eq_false, not_false_eq_true, List.nil_append, List.append_nil, List.length_nil, and_true, true_and, or_true, true_or, or_false, false_or, and_false, false_and, iff_self, if_true, if_false, lc_rt', lc_ex', lc_nx, g62, g63, Int.toNat_natCast, Int.natCast_add, nth_get, g33, g64, g65, Int.toNat_zero, Bool.false_eq_true, Int.reduceToNat, g66, e11, e70, e39, List.length_cons, List.length_nil, List.length_append]
    rfl
  · by_cases h1 : c = 101
    · subst h1
      rw [if_pos ⟨rfl, rfl⟩] at hk
      obtain ⟨g1, g2, hn, hkc, hd⟩ := hk
      have e53 : ref16_figures (g, 16, ()) = some (dg g 16, ()) := ref16_figures_spec (n := g) (w := 16) (by omega) (by omega) (by omega) (by omega) (by omega)
      have ex := ref01_Hex_spec k (by omega)
      have hxl : (hexOf k).length = 6 := by rw [hexOf_length, hkc]
      simp (disch := first | assumption | omega | (dsimp only; omega) | decide) only [↓g02, ↓g03, ↓g04, ↓g05, ↓g06, g01, g02, g03, g04, g05, g06, g07, g08, g09, g10, g11, g12, g13, g14, g15, g16, g17, g18, g19, g20, g21, g22, g23, g24, g25, g26, g27, g28, g29, g30, g31, g32, g34, g35, g36, g37, g38, g39, g40, g41, g42, g43, g44, g45, g46, g47, g48, g49, g50, g51, g52, g53, g54, g55, g56, g57, g58, g60, g61, eq_self, not_true_eq_false, not_false_eq_true, List.nil_append, List.append_nil, List.length_nil, and_true, true_and, or_true, true_or, or_false, false_or, and_false, false_and, iff_self, if_true, if_false, lc_rt', lc_ex', lc_nx, g62, g63, Int.toNat_natCast, Int.natCast_add, nth_get, g33, g64, g65, Int.toNat_zero, Bool.false_eq_true, Int.reduceToNat, g66, e11, e70, e39, e53, ex, hxl, List.length_cons, List.length_nil, List.length_append]
      rfl
    · by_cases h2 : c = 201
      · subst h2
        rw [if_neg (by omega), if_pos ⟨rfl, rfl⟩] at hk
        obtain ⟨_, _, _, d1, d2⟩ := hk
        have e15 : ref16_figures (d, 6, ()) = some (dg d 6, ()) := ref16_figures_spec (n := d) (w := 6) (by omega) (by omega) (by omega) (by omega) (by omega)
        simp (disch := first | assumption | omega | (dsimp only; omega) | decide) only [↓g02, ↓g03, ↓g04, ↓g05, ↓g06, g01, g02, g03, g04, g05, g06, g07, g08, g09, g10, g11, g12, g13, g14, g15, g16, g17, g18, g19, g20, g21, g22, g23, g24, g25, g26, g27, g28, g29, g30, g31, g32, g34, g35, g36, g37, g38, g39, g40, g41, g42, g43, g44, g45, g46, g47, g48, g49, g50, g51, g52, g53, g54, g55, g56, g57, g58, g60, g61, eq_self, not_true_eq_false, not_false_eq_true, List.nil_append, List.append_nil, List.length_nil, and_true, true_and, or_true, true_or, or_false, false_or, and_false, false_and, iff_self, if_true, if_false, lc_rt', lc_ex', lc_nx, g62, g63, Int.toNat_natCast, Int.natCast_add, nth_get, g33, g64, g65, Int.toNat_zero, Bool.false_eq_true, Int.reduceToNat, g66, e11, e70, e39, e15, List.length_cons, List.length_nil, List.length_append]
        rfl
      · simp (disch := first | assumption | omega | (dsimp only; omega) | decide) only [↓g02, ↓g03, ↓g04, ↓g05, ↓g06, g01, g02, g03, g04, g05, g06, g07, g08, g09, g10, g11, g12, g13, g14, g15, g16, g17, g18, g19, g20, g21, g22, g23, g24, g25, g26, g27, g28, g29, g30, g31, g32, g34, g35, g36, g37, g38, g39, g40, g41, g42, g43, g44, g45, g46, g47, g48, g49, g50, g51, g52, g53, g54, g55, g56, g57, g58, g60, g61, eq_self, not_true_eq_false, not_false_eq_true, List.nil_append, List.append_nil, List.length_nil, and_true, true_and, or_true, true_or, or_false, false_or, and_false, false_and, iff_self, if_true, if_false, lc_rt', lc_ex', lc_nx, g62, g63, Int.toNat_natCast, Int.natCast_add, nth_get, g33, g64, g65, Int.toNat_zero, Bool.false_eq_true, Int.reduceToNat, g66, e11, e70, e39, h1, h2, D_f h1, D_f h2, List.length_cons, List.length_nil, List.length_append]
        show _ = some (if true = false then _ else if c = 101 then _ else if c = 201 then _ else _, ())
        rw [if_neg (by decide), if_neg h1, if_neg h2]
        rfl
end Yp
namespace Yp
open Go
theorem sorted_ext : ∀ {a b : List Int}, a.Pairwise (· < ·) → b.Pairwise (· < ·) → (∀ n, n ∈ a ↔ n ∈ b) → a = b
  | [], [], _, _, _ => rfl
  | [], y :: b, _, _, h => by have := (h y).2 (by simp); cases this
  | x :: a, [], _, _, h => by have := (h x).1 (by simp); cases this
  | x :: a, y :: b, ha, hb, h => by
    rw [List.pairwise_cons] at ha hb
    have hxy : x = y := by
      have h1 := (h x).1 (by simp)
      have h2 := (h y).2 (by simp)
      rcases List.mem_cons.1 h1 with h1 | h1
      · exact h1
      · rcases List.mem_cons.1 h2 with h2 | h2
        · exact h2.symm
        · have := hb.1 x h1
          have := ha.1 y h2
          omega
    subst hxy
    rw [sorted_ext ha.2 hb.2 fun n => ?_]
    have := h n
    simp only [List.mem_cons] at this
    constructor
    · intro hn
      rcases this.1 (.inr hn) with rfl | h1
      · have := ha.1 n hn; omega
      · exact h1
    · intro hn
      rcases this.2 (.inr hn) with rfl | h1
      · have := hb.1 n hn; omega
      · exact h1
theorem rightL_sorted {l : List Int} : ∀ {last : Int}, rightL last l = true → l.Pairwise (· < ·) := by
  induction l with
  | nil => intros; exact List.Pairwise.nil
  | cons x r ih =>
    intro last h
    have hm := h
    simp only [rightL, Bool.and_eq_true, decide_eq_true_eq] at h
    exact List.pairwise_cons.2 ⟨fun y hy => (rightL_mem h.2 y hy).1, ih h.2⟩
theorem rightL_of {l : List Int} : ∀ {last : Int}, l.Pairwise (· < ·) → (∀ n ∈ l, last < n ∧ n ≤ 128 ∧ n ≠ 65) → rightL last l = true := by
  induction l with
  | nil => intros; rfl
  | cons x r ih =>
    intro last hp h
    rw [List.pairwise_cons] at hp
    simp only [rightL, Bool.and_eq_true, decide_eq_true_eq]
    refine ⟨h x (by simp), ih hp.2 fun n hn => ⟨hp.1 n hn, (h n (by simp [hn])).2⟩⟩
theorem numsB_sorted (c : List UInt8) : ((numsB c).map Int.ofNat).Pairwise (· < ·) := by
  rw [List.pairwise_map]
  refine List.Pairwise.imp ?_ (show (numsB c).Pairwise (· < ·) from List.Pairwise.filter _ List.pairwise_lt_range)
  intro a b h; exact Int.ofNat_lt.2 h
theorem numsB_mem {c : List UInt8} {n : Nat} : n ∈ numsB c ↔ n ≤ 8 * c.length ∧ 2 ≤ n ∧ hasB c n = true := by
  unfold numsB
  rw [List.mem_filter, List.mem_range, Bool.and_eq_true]
  constructor
  · rintro ⟨h1, h2, h3⟩; exact ⟨by omega, Nat.le_of_ble_eq_true h2, h3⟩
  · rintro ⟨h1, h2, h3⟩; exact ⟨by omega, Nat.ble_eq_true_of_le h2, h3⟩
theorem bmW_has {l : List Int} (h : rightL 1 l = true) {n : Nat} (h1 : 1 ≤ n) (h2 : n ≤ 8 * (bmW l).length) : hasB (bmW l) n = (decide ((n : Int) ∈ l) || (Nat.beq n 1 && wideL l)) := by
  rw [bmW_length] at h2
  unfold bmW
  cases hw : wideL l
  · rw [hw] at h2
    rw [if_neg (by simp)] at h2 ⊢
    rw [hasB_rowB h1 h2, Bool.and_false, Bool.or_false]; rfl
  · rw [hw] at h2
    rw [if_pos rfl] at h2 ⊢
    rw [hasB_rowB h1 h2, Bool.and_true]
    unfold memI
    refine Bool.eq_iff_iff.2 ?_
    simp only [Bool.or_eq_true, decide_eq_true_eq, List.mem_cons, Nat.beq_eq]
    rw [or_comm]
    refine or_congr Iff.rfl ?_
    omega
theorem nums_bmW {l : List Int} (h : rightL 1 l = true) : (numsB (bmW l)).map Int.ofNat = l := by
  refine sorted_ext (numsB_sorted _) (rightL_sorted h) fun n => ?_
  rw [List.mem_map]
  have hm := rightL_mem h
  constructor
  · rintro ⟨k, hk, rfl⟩
    obtain ⟨h1, h2, h3⟩ := numsB_mem.1 hk
    rw [bmW_has h (by omega) h1] at h3
    have : Nat.beq k 1 = false := (Bool.not_eq_true _).mp fun hb => by have := Nat.eq_of_beq_eq_true hb; omega
    rw [this, Bool.false_and, Bool.or_false, decide_eq_true_eq] at h3
    exact h3
  · intro hn
    have hb := hm n hn
    refine ⟨n.toNat, numsB_mem.2 ⟨?_, by omega, ?_⟩, by simp; omega⟩
    · rw [bmW_length]
      split
      · omega
      · rename_i hw
        have := not_wide h hw n hn
        omega
    · rw [bmW_has h (by omega) (by
        rw [bmW_length]
        split
        · omega
        · rename_i hw
          have := not_wide h hw n hn
          omega)]
      rw [Int.toNat_of_nonneg (by omega), decide_eq_true hn, Bool.true_or]
theorem bmW_len8 (l : List Int) : 8 ≤ (bmW l).length ∧ (bmW l).length ≤ 16 := by rw [bmW_length]; split <;> omega
theorem bmW_one {l : List Int} (h : rightL 1 l = true) : hasB (bmW l) 1 = wideL l := by
  rw [bmW_has h (by omega) (by have := bmW_len8 l; omega)]
  have : decide (((1 : Nat) : Int) ∈ l) = false := decide_eq_false fun hc => by have := (rightL_mem h _ hc).1; omega
  rw [this]; rfl
theorem wide_mem {l : List Int} (h : rightL 1 l = true) : wideL l = true ↔ ∃ n ∈ l, 64 < n := by
  constructor
  · intro hw
    unfold wideL at hw
    rw [Bool.and_eq_true, decide_eq_true_eq, decide_eq_true_eq] at hw
    exact ⟨_, by rw [nth_get (show l.length - 1 < l.length by omega)]; exact List.getElem_mem _, hw.2⟩
  · rintro ⟨n, hn, h1⟩
    refine Classical.byContradiction fun hw => ?_
    have := not_wide h hw n hn
    omega
theorem bmC_hit {l : List Int} {c q : List UInt8} {a : Int} (h : rightL 1 l = true) (hc : c = bmW l ++ q) : bmC c a = (l, a + ((bmW l).length : Int), 0, ()) := by
  have h8 := bmW_len8 l
  have hcl : c.length = (bmW l).length + q.length := by rw [hc, List.length_append]
  have ht : c.take (bmW l).length = bmW l := by rw [hc, List.take_left]
  have h1 : hasB c 1 = wideL l := by
    rw [← bmW_one h, ← ht]
    exact (hasB_take (by omega) (by omega) (by omega)).symm
  have hn := nums_bmW h
  have hbl := bmW_length l
  unfold bmC
  rw [h1]
  cases hw : wideL l
  · rw [hw, if_neg (by simp)] at hbl
    rw [hbl] at ht hcl ⊢
    rw [if_neg (by simp; omega), if_neg (by simp), ht, hn]; rfl
  · rw [hw, if_pos rfl] at hbl
    rw [hbl] at ht hcl ⊢
    rw [if_neg (by simp; omega), if_pos rfl, ht, hn, if_neg]
    · rfl
    · rintro (hc65 | hall)
      · have : ((65 : Nat) : Int) ∈ l := by rw [← hn]; exact List.mem_map.2 ⟨65, hc65, rfl⟩
        have := (rightL_mem h _ this).2.2
        exact this rfl
      · obtain ⟨n, hn1, hn2⟩ := (wide_mem h).1 hw
        have hb := rightL_mem h n hn1
        rw [← hn] at hn1
        obtain ⟨k, hk, rfl⟩ := List.mem_map.1 hn1
        have := hall k hk
        simp at hn2 hb; omega
theorem bmR_hit {l : List Int} {b q : List UInt8} {A : Nat} (h : rightL 1 l = true) (hA : A ≤ b.length) (hb : b.drop A = bmW l ++ q) : bmR b A = (l, ((A + (bmW l).length : Nat) : Int), 0, ()) := by
  unfold bmR
  rw [if_neg (by omega), Int.toNat_natCast, bmC_hit h hb, Int.natCast_add]
theorem bmC_inv {c : List UInt8} {a a' : Int} {l : List Int} (h : bmC c a = (l, a', 0, ())) : rightL 1 l = true ∧ a' = a + ((bmW l).length : Int) ∧ (bmW l).length ≤ c.length ∧ c = bmW l ++ c.drop (bmW l).length := by
  unfold bmC at h
  by_cases h0 : c.length < 8 ∨ (hasB c 1 = true ∧ c.length < 16)
  · rw [if_pos h0] at h; simp at h
  rw [if_neg h0] at h
  have main : ∀ size : Nat, size = 8 ∨ size = 16 → size ≤ c.length → (hasB c 1 = true ↔ size = 16) → l = (numsB (c.take size)).map Int.ofNat → (size = 16 → ¬ (65 ∈ numsB (c.take 16) ∨ ∀ n ∈ numsB (c.take 16), n < 65)) → rightL 1 l = true ∧ bmW l = c.take size := by
    intro size hs hsc h1 hl h65
    have htl : (c.take size).length = size := by rw [List.length_take]; omega
    have hr : rightL 1 l = true := by
      rw [hl]
      refine rightL_of (numsB_sorted _) fun n hn => ?_
      obtain ⟨k, hk, rfl⟩ := List.mem_map.1 hn
      obtain ⟨k1, k2, k3⟩ := numsB_mem.1 hk
      rw [htl] at k1
      refine ⟨by simp; omega, by simp; omega, fun hc => ?_⟩
      have hk65 : k = 65 := by simp at hc; omega
      subst hk65
      have h16 : size = 16 := by omega
      subst h16
      exact h65 rfl (.inl hk)
    have hw : wideL l = true ↔ size = 16 := by
      rw [wide_mem hr, hl]
      constructor
      · rintro ⟨n, hn, h1⟩
        obtain ⟨k, hk, rfl⟩ := List.mem_map.1 hn
        obtain ⟨k1, _⟩ := numsB_mem.1 hk
        rw [htl] at k1
        simp at h1; omega
      · intro h16
        subst h16
        refine Classical.byContradiction fun hc => h65 rfl (.inr fun n hn => Classical.byContradiction fun hlt => hc ⟨(n : Int), List.mem_map.2 ⟨n, hn, rfl⟩, by omega⟩)
    refine ⟨hr, ?_⟩
    have hbl : (bmW l).length = size := by
      rw [bmW_length]
      split
      · rename_i h; exact (hw.1 h).symm
      · rename_i h; have : ¬ size = 16 := fun e => h (hw.2 e); omega
    refine row_ext (by rw [hbl, htl]) fun n n1 n2 => ?_
    rw [bmW_has hr n1 n2]
    rw [hbl] at n2
    rw [hl]
    by_cases hn1 : n = 1
    · subst hn1
      have hd : decide (((1 : Nat) : Int) ∈ (numsB (c.take size)).map Int.ofNat) = false := decide_eq_false fun hc => by
        obtain ⟨k, hk, hk1⟩ := List.mem_map.1 hc
        have := (numsB_mem.1 hk).2.1
        simp at hk1; omega
      rw [hd, Bool.false_or, hasB_take (by omega) (by omega) hsc, ← hl]
      have hb : Nat.beq 1 1 = true := rfl
      rw [hb, Bool.true_and]
      exact Bool.eq_iff_iff.2 (hw.trans h1.symm)
    · have hb : Nat.beq n 1 = false := (Bool.not_eq_true _).mp fun hb => hn1 (Nat.eq_of_beq_eq_true hb)
      rw [hb, Bool.false_and, Bool.or_false]
      refine Bool.eq_iff_iff.2 ?_
      rw [decide_eq_true_eq, List.mem_map]
      constructor
      · rintro ⟨k, hk, hk1⟩
        have : k = n := by simp at hk1; omega
        subst this
        exact (numsB_mem.1 hk).2.2
      · intro hh
        exact ⟨n, numsB_mem.2 ⟨by rw [htl]; omega, by omega, hh⟩, rfl⟩
  by_cases h1 : hasB c 1 = true
  · rw [if_pos h1] at h
    by_cases h65 : 65 ∈ numsB (c.take 16) ∨ ∀ n ∈ numsB (c.take 16), n < 65
    · rw [if_pos h65] at h; simp at h
    rw [if_neg h65] at h
    simp only [Prod.mk.injEq, and_true] at h
    have h16 : 16 ≤ c.length := by
      refine Classical.byContradiction fun hc => h0 (.inr ⟨h1, by omega⟩)
    obtain ⟨r1, r2⟩ := main 16 (.inr rfl) h16 (iff_of_true h1 rfl) h.1.symm (fun _ => h65)
    have hbl : (bmW l).length = 16 := by rw [r2, List.length_take]; omega
    rw [hbl]
    refine ⟨r1, h.2.symm, h16, ?_⟩
    rw [r2, List.take_append_drop]
  · rw [if_neg h1] at h
    simp only [Prod.mk.injEq, and_true] at h
    obtain ⟨r1, r2⟩ := main 8 (.inl rfl) (by omega) (iff_of_false h1 (by omega)) h.1.symm (fun e => absurd e (by omega))
    have hbl : (bmW l).length = 8 := by rw [r2, List.length_take]; omega
    rw [hbl]
    refine ⟨r1, h.2.symm, by omega, ?_⟩
    rw [r2, List.take_append_drop]
theorem wrV_eq {v : V} {k l : Int} (ho : formOf v.1 = some (k, l)) (hv : fv k l v.2.1) : wrV v = wrF k v.2.1 := by
  unfold wrV wrD; rw [ho]; simp only [if_pos hv]
theorem rdD_hit {v : V} {b q : List UInt8} {A : Nat} (hf : fitsD v.1 v.2.1 = true) (hA : A ≤ b.length) (h : b.drop A = wrV v ++ q) : rdD v.1 b A = (v.2.1, ((A + (wrV v).length : Nat) : Int), 0, ()) := by
  obtain ⟨k, l, ho, hv⟩ := fitsD_iff.1 hf
  rw [wrV_eq ho hv] at h ⊢
  unfold rdD; rw [ho]
  exact rdF_hit ho hA hv h
theorem rdD_inv {no : Int} {v b : List UInt8} {A : Nat} {I : Int} (hA : A ≤ b.length) (h : rdD no b A = (v, I, 0, ())) : fitsD no v = true ∧ I = ((A + (wrV (no, v, ())).length : Nat) : Int) ∧ A + (wrV (no, v, ())).length ≤ b.length ∧ b.drop A = wrV (no, v, ()) ++ b.drop (A + (wrV (no, v, ())).length) := by
  cases ho : formOf no with
  | none => unfold rdD at h; rw [ho] at h; simp at h
  | some p =>
    obtain ⟨k, l⟩ := p
    have h' : rdF k l b A = (v, I, 0, ()) := by unfold rdD at h; rw [ho] at h; exact h
    obtain ⟨m1, m2, m3, m4⟩ := rdF_inv ho hA h'
    rw [wrV_eq (v := (no, v, ())) ho m1]
    exact ⟨fitsD_iff.2 ⟨k, l, ho, m1⟩, m2, m3, m4⟩
theorem rdFs_hit {b : List UInt8} : ∀ {l : List V} {A : Nat} {F : List V} {q : List UInt8}, (∀ v ∈ l, fitsD v.1 v.2.1 = true) → A ≤ b.length → b.drop A = l.flatMap wrV ++ q → rdFs b (nosF l) A F = (none, ((A + (l.flatMap wrV).length : Nat) : Int), F ++ l)
  | [], A, F, q, _, _, _ => by simp [rdFs, nosF]
  | v :: r, A, F, q, hf, hA, h => by
    rw [List.flatMap_cons, List.append_assoc] at h
    have h1 := rdD_hit (hf v (by simp)) hA h
    have h2 := drop_app_len hA h
    simp only [nosF, List.map_cons, rdFs]
    rw [h1, if_pos rfl]
    have := rdFs_hit (F := F ++ [(v.1, v.2.1, ())]) (fun u hu => hf u (by simp [hu])) h2.1 h2.2
    simp only
    rw [show r.map (fun v => v.1) = nosF r from rfl, this, List.flatMap_cons, List.length_append, Nat.add_assoc]
    have hv : (v.1, v.2.1, ()) = v := by obtain ⟨a, b, ⟨⟩⟩ := v; rfl
    rw [hv, List.append_assoc]; rfl
theorem rdFs_inv {b : List UInt8} : ∀ {ns : List Int} {A : Nat} {F F' : List V} {a' : Int}, A ≤ b.length → rdFs b ns A F = (none, a', F') → ∃ l : List V, F' = F ++ l ∧ nosF l = ns ∧ (∀ v ∈ l, fitsD v.1 v.2.1 = true) ∧ a' = ((A + (l.flatMap wrV).length : Nat) : Int) ∧ A + (l.flatMap wrV).length ≤ b.length ∧ b.drop A = l.flatMap wrV ++ b.drop (A + (l.flatMap wrV).length)
  | [], A, F, F', a', hA, h => by
    simp only [rdFs, Prod.mk.injEq, true_and] at h
    obtain ⟨rfl, rfl⟩ := h
    exact ⟨[], by simp, rfl, by simp, by simp, by simpa using hA, by simp⟩
  | n :: r, A, F, F', a', hA, h => by
    simp only [rdFs] at h
    by_cases h0 : (rdD n b A).2.2.1 = 0
    · rw [if_pos h0] at h
      rcases hx : rdD n b A with ⟨v, I, e, u⟩
      rw [hx] at h0 h
      simp only at h0
      subst h0
      obtain ⟨m1, m2, m3, m4⟩ := rdD_inv hA hx
      subst m2
      obtain ⟨l, l1, l2, l3, l4, l5, l6⟩ := rdFs_inv m3 h
      refine ⟨(n, v, ()) :: l, by rw [l1]; simp, by simp only [nosF, List.map_cons]; rw [← l2]; rfl, fun w hw => ?_, ?_, ?_, ?_⟩
      · rcases List.mem_cons.1 hw with rfl | hw
        · exact m1
        · exact l3 w hw
      · rw [l4, List.flatMap_cons, List.length_append]; omega
      · rw [List.flatMap_cons, List.length_append]; omega
      · rw [List.flatMap_cons, List.length_append, List.append_assoc, ← Nat.add_assoc, ← l6]; exact m4
    · rw [if_neg h0] at h; simp at h
theorem rightF_of {l : List V} : ∀ {last : Int}, rightL last (nosF l) = true → (∀ v ∈ l, fitsD v.1 v.2.1 = true) → rightF last l = true := by
  induction l with
  | nil => intros; rfl
  | cons x r ih =>
    intro last h hf
    simp only [nosF, List.map_cons, rightL, Bool.and_eq_true, decide_eq_true_eq] at h
    simp only [rightF, Bool.and_eq_true, decide_eq_true_eq]
    exact ⟨h.1.1, hf x (by simp), ih h.2 fun v hv => hf v (by simp [hv])⟩
theorem rightF_weak {l : List V} {last last' : Int} (hl : last' ≤ last) (h : rightF last l = true) : rightF last' l = true := by
  cases l with
  | nil => rfl
  | cons x r =>
    simp only [rightF, Bool.and_eq_true, decide_eq_true_eq] at h ⊢
    exact ⟨by omega, h.2⟩
theorem rdFs_err {b : List UInt8} : ∀ {ns : List Int} {A : Int} {F F' : List V} {a' e : Int}, rdFs b ns A F = (some e, a', F') → ¬ e = 0
  | [], A, F, F', a', e, h => by simp [rdFs] at h
  | n :: r, A, F, F', a', e, h => by
    simp only [rdFs] at h
    by_cases h0 : (rdD n b A).2.2.1 = 0
    · rw [if_pos h0] at h; exact rdFs_err h
    · rw [if_neg h0] at h
      simp only [Prod.mk.injEq, Option.some.injEq] at h
      rw [← h.1]; exact h0
theorem val4 {m : Int} (h : typeOK m) : val (ps 10 dch m.toNat 4) = m.toNat := by
  unfold typeOK at h
  rw [val_ps, Nat.mod_eq_of_lt (by omega)]
theorem take4_hit {m : Int} {b q : List UInt8} (h : typeOK m) (hb : b = typB m ++ q) : takeBcd b 0 4 = (ps 10 dch m.toNat 4, 2, 0, ()) := by
  have := takeBcd_hit (b := b) (s := ps 10 dch m.toNat 4) (q := q) (I := 0) (Nat.zero_le _) (by rw [ps_length]; omega) figs_ps hb
  rw [ps_length] at this; exact this
theorem isSome_of {l : List V} (h : ∀ v ∈ l, fitsD v.1 v.2.1 = true) : ∀ n ∈ nosF l, (formOf n).isSome = true := by
  intro n hn
  obtain ⟨v, hv, rfl⟩ := List.mem_map.1 hn
  obtain ⟨k, l, ho, _⟩ := fitsD_iff.1 (h v hv)
  rw [ho]; rfl
theorem rightM_iff {m : M} : rightM m = true ↔ rightF 0 m.2.1 = true ∧ typeOK m.1 := by unfold rightM; rw [Bool.and_eq_true, decide_eq_true_eq]
theorem rdM_hit {m : M} {q : List UInt8} (h : rightM m = true) : rdM (wrM m ++ q) = if q = [] then (m, 0, ()) else (noM, 4, ()) := by
  obtain ⟨hF, ht⟩ := rightM_iff.1 h
  have hfit := fun v hv => (rightF_mem hF v hv).2
  have hL := rightF_L1 hF
  have e : wrM m ++ q = typB m.1 ++ (bmW (nosF m.2.1) ++ (m.2.1.flatMap wrV ++ q)) := by unfold wrM; simp
  generalize hb : wrM m ++ q = b at *
  have h4 := take4_hit ht e
  have htl := typB_length (m := m.1)
  have hd := drop_app_len (b := b) (A := 0) (Nat.zero_le _) e
  rw [Nat.zero_add, htl] at hd
  have hr := bmR_hit hL hd.1 hd.2
  have hd2 := drop_app_len hd.1 hd.2
  have hfs := rdFs_hit (F := []) hfit hd2.1 hd2.2
  have hd3 := drop_app_len hd2.1 hd2.2
  have hbl := drop_len hd3.1 hd3.2
  unfold rdM
  rw [h4, if_neg (by simp)]
  simp only
  rw [val4 ht, Int.toNat_of_nonneg (by unfold typeOK at ht; omega), if_pos ht]
  replace hr : bmR b 2 = _ := hr
  rw [hr, if_neg (by simp)]
  unfold rdE
  rw [if_pos (isSome_of hfit), hfs]
  simp only [List.nil_append]
  by_cases hq : q = []
  · subst hq
    rw [List.length_nil] at hbl
    rw [if_pos rfl, if_neg (by omega)]
  · rw [if_neg hq, if_pos (by have := List.length_pos_iff.2 hq; omega)]
theorem rdM_inv {b : List UInt8} {m : M} (h : rdM b = (m, 0, ())) : rightM m = true ∧ wrM m = b := by
  unfold rdM at h
  by_cases h0 : (takeBcd b 0 4).2.2.1 ≠ 0
  · rw [if_pos h0] at h
    simp only [Prod.mk.injEq, and_true] at h
    exact absurd h.2 h0
  rw [if_neg h0] at h
  rcases takeBcd_cases (b := b) (I := 0) (N := 4) (Nat.zero_le _) (by omega) with ⟨_, e⟩ | ⟨_, e, _⟩ | ⟨s, h4, e, hf, hs, htk⟩
  · exact absurd (by rw [show takeBcd b 0 4 = _ from e]; simp) h0
  · exact absurd (by rw [show takeBcd b 0 4 = _ from e]; simp) h0
  · replace e : takeBcd b 0 4 = (s, 2, 0, ()) := e
    rw [e] at h
    simp only at h
    by_cases ht : typeOK (val s : Int)
    · rw [if_pos ht] at h
      have hty : typB (val s : Int) = bcd (pad s) := by unfold typB; rw [Int.toNat_natCast, ← hs, ps_val hf]
      have hd : b.drop 0 = typB (val s : Int) ++ b.drop 2 := by rw [hty]; exact drop_of_tk htk
      rw [List.drop_zero] at hd
      by_cases hz : (bmR b 2).2.2.1 ≠ 0
      · rw [if_pos hz] at h
        simp only [Prod.mk.injEq, and_true] at h
        exact absurd h.2 hz
      rw [if_neg hz] at h
      rcases hx : bmR b 2 with ⟨l, a', er, u⟩
      rw [hx] at h hz
      simp only [ne_eq, Decidable.not_not] at hz h
      subst hz
      have hC : bmC (b.drop 2) 2 = (l, a', 0, ()) := by
        unfold bmR at hx
        rw [if_neg (by omega)] at hx; exact hx
      obtain ⟨c1, c2, c3, c4⟩ := bmC_inv hC
      rw [List.length_drop] at c3
      rw [List.drop_drop] at c4
      unfold rdE at h
      by_cases ho : ∀ n ∈ l, (formOf n).isSome = true
      · rw [if_pos ho] at h
        have ha' : a' = ((2 + (bmW l).length : Nat) : Int) := by omega
        rw [ha'] at h
        rcases hfs : rdFs b l ((2 + (bmW l).length : Nat) : Int) [] with ⟨_ | er, a2, F⟩
        · rw [hfs] at h
          simp only at h
          obtain ⟨L, l1, l2, l3, l4, l5, l6⟩ := rdFs_inv (by omega) hfs
          by_cases hlt : a2 < (b.length : Int)
          · rw [if_pos hlt] at h; simp at h
          rw [if_neg hlt] at h
          simp only [Prod.mk.injEq, and_true] at h
          rw [List.nil_append] at l1
          subst l1
          have hend : b.drop (2 + (bmW l).length + (F.flatMap wrV).length) = [] := List.drop_eq_nil_of_le (by omega)
          rw [hend, List.append_nil] at l6
          rw [← h]
          refine ⟨rightM_iff.2 ⟨rightF_weak (by omega) (rightF_of (last := 1) (by rw [l2]; exact c1) l3), ht⟩, ?_⟩
          unfold wrM
          simp only
          rw [l2, ← l6, ← c4, ← hd]
        · rw [hfs] at h
          simp only [Prod.mk.injEq, and_true] at h
          exact absurd h.2 (rdFs_err hfs)
      · rw [if_neg ho] at h; simp at h
    · rw [if_neg ht] at h; simp at h
theorem rdM_err {b : List UInt8} : (rdM b).2.1 = 0 ∨ (rdM b).1 = noM := by
  unfold rdM
  by_cases h0 : (takeBcd b 0 4).2.2.1 ≠ 0
  · rw [if_pos h0]; exact .inr rfl
  rw [if_neg h0]
  by_cases ht : typeOK (val (takeBcd b 0 4).1 : Int)
  · rw [if_pos ht]
    by_cases hz : (bmR b 2).2.2.1 ≠ 0
    · rw [if_pos hz]; exact .inr rfl
    rw [if_neg hz]
    unfold rdE
    split
    · rcases rdFs b (bmR b 2).1 (bmR b 2).2.1 [] with ⟨_ | er, a2, F⟩
      · simp only
        split
        · exact .inr rfl
        · exact .inl rfl
      · exact .inr rfl
    · exact .inr rfl
  · rw [if_neg ht]; exact .inr rfl
end Yp
namespace Yp
open Go
def few (m : M) : Prop := m.2.1.length ≤ 40 ∧ ∀ v ∈ m.2.1, v.2.1.length ≤ 450
theorem few.fewM {m : M} (h : few m) : fewM m := ⟨by have := h.1; omega, fun v hv => by have := h.2 v hv; omega⟩
theorem rdM_len {b : List UInt8} : (rdM b).1.2.1.length ≤ 1000 := by
  rcases rdM_err (b := b) with h | h
  · rcases hx : rdM b with ⟨m, e, u⟩
    rw [hx] at h
    simp only at h
    subst h
    have hr := (rightM_iff.1 (rdM_inv hx).1).1
    have hL := rightF_L1 hr
    have hs := rightL_sorted hL
    have hm := rightL_mem hL
    have hlen : (nosF m.2.1).length ≤ 128 := by
      have key : ∀ (l : List Int) (lo : Int), l.Pairwise (· < ·) → (∀ n ∈ l, lo < n ∧ n ≤ 128) → (l.length : Int) ≤ 128 - lo ∨ l = [] := by
        intro l
        induction l with
        | nil => intros; exact .inr rfl
        | cons x r ih =>
          intro lo hp h
          rw [List.pairwise_cons] at hp
          have hx := h x (by simp)
          left
          rcases ih x hp.2 (fun n hn => ⟨hp.1 n hn, (h n (by simp [hn])).2⟩) with h1 | h1
          · simp only [List.length_cons]; omega
          · subst h1; simp; omega
      rcases key _ 1 hs (fun n hn => ⟨(hm n hn).1, (hm n hn).2.1⟩) with h1 | h1
      · omega
      · rw [h1]; simp
    simp only [nosF, List.length_map] at hlen
    show m.2.1.length ≤ 1000
    omega
  · rw [h]; simp [noM]
theorem rightF_gt {l : List V} {last : Int} (h : rightF last l = true) : ∀ v ∈ l, last < v.1 := fun v hv => (rightF_mem h v hv).1
theorem getR_gt {l : List V} {no last : Int} (hl : no ≤ last) (h : rightF last l = true) : getR no l = ([], false, ()) := by
  refine getR_none ?_
  induction l generalizing last with
  | nil => rfl
  | cons v r ih =>
    simp only [rightF, Bool.and_eq_true, decide_eq_true_eq] at h
    unfold getR
    rw [if_neg (by omega)]
    exact ih (last := v.1) (by omega) h.2.2
theorem getD_getR {l : List V} {no : Int} : ∀ {last : Int}, rightF last l = true → getD l no = getR no l := by
  induction l with
  | nil => intros; rfl
  | cons v r ih =>
    intro last h
    simp only [rightF, Bool.and_eq_true, decide_eq_true_eq] at h
    unfold getR
    by_cases hc : no ≤ v.1
    · have h0 : findI no (v :: r) = 0 := by unfold findI; rw [if_pos hc]
      have h1 : hasI no (v :: r) = decide (v.1 = no) := by unfold hasI; rw [if_pos hc]
      unfold getD
      rw [h0, h1]
      by_cases he : v.1 = no
      · rw [if_pos he, decide_eq_true he, if_pos rfl]; rfl
      · rw [if_neg he, decide_eq_false he, if_neg (by simp), getR_gt (by omega) h.2.2]
    · have h0 : findI no (v :: r) = findI no r + 1 := by conv => { lhs; unfold findI }; rw [if_neg hc]
      have h1 : hasI no (v :: r) = hasI no r := by conv => { lhs; unfold hasI }; rw [if_neg hc]
      rw [if_neg (by omega), ← ih h.2.2]
      unfold getD
      rw [h0, h1]; rfl
theorem filter_lt_gt {l : List V} {no last : Int} (hl : no ≤ last) (h : rightF last l = true) : l.filter (fun v => decide (v.1 < no)) = [] ∧ l.filter (fun v => decide (no < v.1)) = l ∧ l.filter (fun v => !(decide (v.1 = no))) = l := by
  have hg := rightF_gt h
  refine ⟨List.filter_eq_nil_iff.2 fun v hv => ?_, List.filter_eq_self.2 fun v hv => ?_, List.filter_eq_self.2 fun v hv => ?_⟩ <;> have := hg v hv <;> simp <;> omega
theorem wrM_len {m : M} (hm : few m) (hr : rightM m = true) : 10 ≤ (wrM m).length ∧ (wrM m).length ≤ 20000 := by
  have hF := (rightM_iff.1 hr).1
  have h2 := typB_length (m := m.1)
  have h8 := bmW_len8 (nosF m.2.1)
  have hfl : ∀ l : List V, (∀ v ∈ l, fitsD v.1 v.2.1 = true) → (l.flatMap wrV).length ≤ 402 * l.length := by
    intro l
    induction l with
    | nil => simp
    | cons v r ih =>
      intro h
      have h1 : (wrV v).length ≤ 402 := (wrD_fit (h v (by simp))).2.1
      have h2 := ih fun u hu => h u (by simp [hu])
      rw [List.flatMap_cons, List.length_append, List.length_cons]; omega
  have := hfl m.2.1 fun v hv => (rightF_mem hF v hv).2
  have := hm.1
  unfold wrM
  rw [List.length_append, List.length_append]; omega
theorem rdM_self {m : M} (hr : rightM m = true) : rdM (wrM m) = (m, 0, ()) := by
  have := rdM_hit (q := []) hr
  rw [List.append_nil, if_pos rfl] at this; exact this
end Yp
namespace Yp
open Go
set_option linter.unusedVariables false
set_option linter.unusedSimpArgs false
theorem msgN_right {n : N} (hr : rightN n) : rightM (msgN n) = true := by
  obtain ⟨rq, c, st, rs, g, no, k, d, ⟨⟩⟩ := n
  have hr' := rightN_iff.1 hr
  obtain ⟨hc, s1, s2, r1, r2, r3, hk⟩ := hr'
  have f11 := fun n => fits_dg (no := 11) (w := 6) (n := n) fo11 (by omega)
  have f15 := fun n => fits_dg (no := 15) (w := 6) (n := n) fo15 (by omega)
  have f39 := fun n => fits_dg (no := 39) (w := 2) (n := n) fo39 (by omega)
  have f53 := fun n => fits_dg (no := 53) (w := 16) (n := n) fo53 (by omega)
  have f70 := fun n => fits_dg (no := 70) (w := 3) (n := n) fo70 (by omega)
  unfold msgN rightM
  cases rq
  · simp [rightF, f11, f39, f70, typeOK]
  · by_cases h1 : c = 101
    · subst h1
      rw [if_pos ⟨rfl, rfl⟩] at hk
      obtain ⟨g1, g2, hn, hkc, hd⟩ := hk
      simp [rightF, f11, f53, f70, fits48 hkc, fits96 hn, typeOK]
    · by_cases h2 : c = 201
      · subst h2
        simp [rightF, f11, f15, f70, typeOK]
      · simp [rightF, f11, f70, typeOK, h1, h2]
theorem msgN_few {n : N} (hr : rightN n) : few (msgN n) := by
  obtain ⟨rq, c, st, rs, g, no, k, d, ⟨⟩⟩ := n
  have hr' := rightN_iff.1 hr
  obtain ⟨hc, s1, s2, r1, r2, r3, hk⟩ := hr'
  unfold msgN few
  cases rq
  · simp [dg_length]
  · by_cases h1 : c = 101
    · subst h1
      rw [if_pos ⟨rfl, rfl⟩] at hk
      obtain ⟨g1, g2, hn, hkc, hd⟩ := hk
      simp [dg_length, hexOf_length, hkc, hn]
    · by_cases h2 : c = 201
      · subst h2
        simp [dg_length]
      · simp [dg_length, h1, h2]
def wrN (n : N) : List UInt8 × Int × Unit := if rightN n then (wrM (msgN n), 0, ()) else ([], 1, ())
theorem note_Write_spec (n : N) : note_Write (n, ()) = some (wrN n) := by
  unfold note_Write wrN
  by_cases h : rightN n
  · simp (disch := first | assumption | omega | (dsimp only; omega) | decide) only [↓g02, ↓g03, ↓g04, ↓g05, ↓g06, g01, g02, g03, g04, g05, g06, g07, g08, g09, g10, g11, g12, g13, g14, g15, g16, g17, g18, g19, g20, g21, g22, g23, g24, g25, g26, g27, g28, g29, g30, g31, g32, g34, g35, g36, g37, g38, g39, g40, g41, g42, g43, g44, g45, g46, g47, g48, g49, g50, g51, g52, g53, g54, g55, g56, g57, g58, g60, g61, eq_self, not_true_eq_false, not_false_eq_true, List.nil_append, List.append_nil, List.length_nil, and_true, true_and, or_true, true_or, or_false, false_or, and_false, false_and, iff_self, if_true, if_false, lc_rt', lc_ex', lc_nx, g62, g63, Int.toNat_natCast, Int.natCast_add, nth_get, g33, g64, g65, Int.toNat_zero, Bool.false_eq_true, Int.reduceToNat, g66, note_Right_spec, D_t h, note_message_spec h, iso_Write_spec (msgN n) (msgN_few h).fewM, msgN_right h]
    rw [if_pos h]
  · simp (disch := first | assumption | omega | (dsimp only; omega) | decide) only [↓g02, ↓g03, ↓g04, ↓g05, ↓g06, g01, g02, g03, g04, g05, g06, g07, g08, g09, g10, g11, g12, g13, g14, g15, g16, g17, g18, g19, g20, g21, g22, g23, g24, g25, g26, g27, g28, g29, g30, g31, g32, g34, g35, g36, g37, g38, g39, g40, g41, g42, g43, g44, g45, g46, g47, g48, g49, g50, g51, g52, g53, g54, g55, g56, g57, g58, g60, g61, eq_self, not_true_eq_false, not_false_eq_true, List.nil_append, List.append_nil, List.length_nil, and_true, true_and, or_true, true_or, or_false, false_or, and_false, false_and, iff_self, if_true, if_false, lc_rt', lc_ex', lc_nx, g62, g63, Int.toNat_natCast, Int.natCast_add, nth_get, g33, g64, g65, Int.toNat_zero, Bool.false_eq_true, Int.reduceToNat, g66, note_Right_spec, D_f h]
    rw [if_neg h]
theorem ref16_Write_spec (n : N) : ref16_Write (n, ()) = some (wrN n) := by
  unfold ref16_Write wrN
  by_cases h : rightN n
  · simp (disch := first | assumption | omega | (dsimp only; omega) | decide) only [↓g02, ↓g03, ↓g04, ↓g05, ↓g06, g01, g02, g03, g04, g05, g06, g07, g08, g09, g10, g11, g12, g13, g14, g15, g16, g17, g18, g19, g20, g21, g22, g23, g24, g25, g26, g27, g28, g29, g30, g31, g32, g34, g35, g36, g37, g38, g39, g40, g41, g42, g43, g44, g45, g46, g47, g48, g49, g50, g51, g52, g53, g54, g55, g56, g57, g58, g60, g61, eq_self, not_true_eq_false, not_false_eq_true, List.nil_append, List.append_nil, List.length_nil, and_true, true_and, or_true, true_or, or_false, false_or, and_false, false_and, iff_self, if_true, if_false, lc_rt', lc_ex', lc_nx, g62, g63, Int.toNat_natCast, Int.natCast_add, nth_get, g33, g64, g65, Int.toNat_zero, Bool.false_eq_true, Int.reduceToNat, g66, ref16_Right_spec, D_t h, ref16_Message_spec h, ref07_Write_spec (msgN n) (msgN_few h).fewM, msgN_right h]
    rw [if_pos h]
  · simp (disch := first | assumption | omega | (dsimp only; omega) | decide) only [↓g02, ↓g03, ↓g04, ↓g05, ↓g06, g01, g02, g03, g04, g05, g06, g07, g08, g09, g10, g11, g12, g13, g14, g15, g16, g17, g18, g19, g20, g21, g22, g23, g24, g25, g26, g27, g28, g29, g30, g31, g32, g34, g35, g36, g37, g38, g39, g40, g41, g42, g43, g44, g45, g46, g47, g48, g49, g50, g51, g52, g53, g54, g55, g56, g57, g58, g60, g61, eq_self, not_true_eq_false, not_false_eq_true, List.nil_append, List.append_nil, List.length_nil, and_true, true_and, or_true, true_or, or_false, false_or, and_false, false_and, iff_self, if_true, if_false, lc_rt', lc_ex', lc_nx, g62, g63, Int.toNat_natCast, Int.natCast_add, nth_get, g33, g64, g65, Int.toNat_zero, Bool.false_eq_true, Int.reduceToNat, g66, ref16_Right_spec, D_f h]
    rw [if_neg h]
theorem ref16_Few_spec (n : N) : ref16_Few (n, ()) = some (D (n.2.2.2.2.2.1.length ≤ 50 ∧ n.2.2.2.2.2.2.1.length ≤ 50), ()) := by
  unfold ref16_Few
  simp (disch := first | assumption | omega | (dsimp only; omega) | decide) only [↓g02, ↓g03, ↓g04, ↓g05, ↓g06, g01, g02, g03, g04, g05, g06, g07, g08, g09, g10, g11, g12, g13, g14, g15, g16, g17, g18, g19, g20, g21, g22, g23, g24, g25, g26, g27, g28, g29, g30, g31, g32, g34, g35, g36, g37, g38, g39, g40, g41, g42, g43, g44, g45, g46, g47, g48, g49, g50, g51, g52, g53, g54, g55, g56, g57, g58, g60, g61, eq_self, not_true_eq_false, not_false_eq_true, List.nil_append, List.append_nil, List.length_nil, and_true, true_and, or_true, true_or, or_false, false_or, and_false, false_and, iff_self, if_true, if_false, lc_rt', lc_ex', lc_nx, g62, g63, Int.toNat_natCast, Int.natCast_add, nth_get, g33, g64, g65, Int.toNat_zero, Bool.false_eq_true, Int.reduceToNat, g66]
  exact someD_iff (by omega)
theorem note_Same_spec (a b : N) : note_Same (a, b, ()) = some (D (a = b), ()) := by
  obtain ⟨a1, a2, a3, a4, a5, a6, a7, a8, ⟨⟩⟩ := a
  obtain ⟨b1, b2, b3, b4, b5, b6, b7, b8, ⟨⟩⟩ := b
  unfold note_Same
  simp (disch := first | assumption | omega | (dsimp only; omega) | decide) only [↓g02, ↓g03, ↓g04, ↓g05, ↓g06, g01, g02, g03, g04, g05, g06, g07, g08, g09, g10, g11, g12, g13, g14, g15, g16, g17, g18, g19, g20, g21, g22, g23, g24, g25, g26, g27, g28, g29, g30, g31, g32, g34, g35, g36, g37, g38, g39, g40, g41, g42, g43, g44, g45, g46, g47, g48, g49, g50, g51, g52, g53, g54, g55, g56, g57, g58, g60, g61, eq_self, not_true_eq_false, not_false_eq_true, List.nil_append, List.append_nil, List.length_nil, and_true, true_and, or_true, true_or, or_false, false_or, and_false, false_and, iff_self, if_true, if_false, lc_rt', lc_ex', lc_nx, g62, g63, Int.toNat_natCast, Int.natCast_add, nth_get, g33, g64, g65, Int.toNat_zero, Bool.false_eq_true, Int.reduceToNat, g66, bytes_Equal_spec]
  refine someD_iff ?_
  simp only [Prod.mk.injEq, and_true]; grind
theorem ref16_Same_spec (a b : N) : ref16_Same (a, b, ()) = some (D (a = b), ()) := by
  obtain ⟨a1, a2, a3, a4, a5, a6, a7, a8, ⟨⟩⟩ := a
  obtain ⟨b1, b2, b3, b4, b5, b6, b7, b8, ⟨⟩⟩ := b
  unfold ref16_Same
  simp (disch := first | assumption | omega | (dsimp only; omega) | decide) only [↓g02, ↓g03, ↓g04, ↓g05, ↓g06, g01, g02, g03, g04, g05, g06, g07, g08, g09, g10, g11, g12, g13, g14, g15, g16, g17, g18, g19, g20, g21, g22, g23, g24, g25, g26, g27, g28, g29, g30, g31, g32, g34, g35, g36, g37, g38, g39, g40, g41, g42, g43, g44, g45, g46, g47, g48, g49, g50, g51, g52, g53, g54, g55, g56, g57, g58, g60, g61, eq_self, not_true_eq_false, not_false_eq_true, List.nil_append, List.append_nil, List.length_nil, and_true, true_and, or_true, true_or, or_false, false_or, and_false, false_and, iff_self, if_true, if_false, lc_rt', lc_ex', lc_nx, g62, g63, Int.toNat_natCast, Int.natCast_add, nth_get, g33, g64, g65, Int.toNat_zero, Bool.false_eq_true, Int.reduceToNat, g66, ref01_Same_spec]
  refine someD_iff ?_
  simp only [Prod.mk.injEq, and_true]; grind
def noN : N := (false, 0, 0, 0, 0, [], [], 0, ())
def ansN (n : N) (r : Int) : N × Int × Unit := if n.1 = false then (noN, 9, ()) else if r < 0 ∨ 99 < r then (noN, 1, ()) else ((false, n.2.1, n.2.2.1, r, 0, [], [], 0, ()), 0, ())
theorem note_Answer_spec (n : N) (r : Int) : note_Answer (n, r, ()) = some (ansN n r) := by
  obtain ⟨a1, a2, a3, a4, a5, a6, a7, a8, ⟨⟩⟩ := n
  unfold note_Answer ansN noN
  cases a1 <;> by_cases h : r < 0 ∨ 99 < r
  all_goals simp (disch := first | assumption | omega | (dsimp only; omega) | decide) only [↓g02, ↓g03, ↓g04, ↓g05, ↓g06, g01, g02, g03, g04, g05, g06, g07, g08, g09, g10, g11, g12, g13, g14, g15, g16, g17, g18, g19, g20, g21, g22, g23, g24, g25, g26, g27, g28, g29, g30, g31, g32, g34, g35, g36, g37, g38, g39, g40, g41, g42, g43, g44, g45, g46, g47, g48, g49, g50, g51, g52, g53, g54, g55, g56, g57, g58, g60, g61, eq_self, not_true_eq_false, not_false_eq_true, List.nil_append, List.append_nil, List.length_nil, and_true, true_and, or_true, true_or, or_false, false_or, and_false, false_and, iff_self, if_true, if_false, lc_rt', lc_ex', lc_nx, g62, g63, Int.toNat_natCast, Int.natCast_add, nth_get, g33, g64, g65, Int.toNat_zero, Bool.false_eq_true, Int.reduceToNat, g66, h]
  all_goals simp [h]
theorem ref16_Answer_spec (n : N) (r : Int) : ref16_Answer (n, r, ()) = some (ansN n r) := note_Answer_spec n r
end Yp
namespace Yp
open Go
set_option linter.unusedVariables false
set_option linter.unusedSimpArgs false
def valD (v : List UInt8) : Int := if 1 ≤ v.length ∧ v.length ≤ 18 ∧ figs v then ((val v : Nat) : Int) else 0
def unhD (s : List UInt8) : List UInt8 := if s.length % 2 = 0 ∧ hexy s then unh s else []
def gv (m : M) (no : Int) : List UInt8 := (getR no m.2.1).1
noncomputable def rdN0 (m : M) : N := (D (m.1 = 800), valD (gv m 70), valD (gv m 11), valD (gv m 39), valD (gv m 53), gv m 96, unhD (gv m 48), valD (gv m 15), ())
noncomputable def rdN (b : List UInt8) : N × Int × Unit := if (rdM b).2.1 = 0 then (if rightN (rdN0 (rdM b).1) ∧ msgN (rdN0 (rdM b).1) = (rdM b).1 then (rdN0 (rdM b).1, 0, ()) else (noN, 2, ())) else (noN, (rdM b).2.1, ())
theorem getR_mem {l : List V} {no : Int} : (getR no l).1 = [] ∨ ∃ v ∈ l, v.1 = no ∧ (getR no l).1 = v.2.1 := by
  induction l with
  | nil => exact .inl rfl
  | cons v r ih =>
    unfold getR
    split
    · exact .inr ⟨v, by simp, by assumption, rfl⟩
    · exact ih.imp id fun ⟨u, h1, h2, h3⟩ => ⟨u, by simp [h1], h2, h3⟩
theorem formOf_400 {no k l : Int} (h : formOf no = some (k, l)) : l ≤ 400 := by
  unfold formOf at h
  rw [Option.map_eq_some_iff] at h
  obtain ⟨r, h1, h2⟩ := h
  have hm := List.mem_of_find?_eq_some h1
  have : ∀ r ∈ frows, nth r 1 0 ≤ 400 := by decide
  have := this r hm
  cases h2
  exact this
theorem fits_400 {no : Int} {v : List UInt8} (h : fitsD no v = true) : v.length ≤ 400 := by
  obtain ⟨k, l, h1, h2⟩ := fitsD_iff.1 h
  have := formOf_400 h1
  have h3 := h2.2
  unfold fln at h3
  split at h3 <;> omega
theorem getR_400 {m : M} (hr : rightM m = true) (no : Int) : (getR no m.2.1).1.length ≤ 400 := by
  rcases getR_mem (l := m.2.1) (no := no) with h | ⟨v, hv, _, h⟩
  · rw [h]; simp
  · rw [h]; exact fits_400 (rightF_mem (rightM_iff.1 hr).1 v hv).2
theorem value_spec (s : List UInt8) : ∃ e, dig_Value (s, ()) = some (valD s, e, ()) := by
  rw [dig_Value_spec]
  unfold valD
  split <;> exact ⟨_, rfl⟩
theorem rvalue_spec (s : List UInt8) (hl : s.length ≤ 1000000) : ∃ e, ref01_Value (s, ()) = some (valD s, e, ()) := by
  rw [ref01_Value_spec _ hl]
  unfold valD
  split <;> exact ⟨_, rfl⟩
theorem unhex_spec (s : List UInt8) (hl : s.length ≤ 1000000) : ∃ e, dig_Unhex (s, ()) = some (unhD s, e, ()) := by
  rw [dig_Unhex_spec _ hl]
  unfold unhD
  split <;> exact ⟨_, rfl⟩
theorem runhex_spec (s : List UInt8) (hl : s.length ≤ 1000000) : ∃ e, ref01_Unhex (s, ()) = some (unhD s, e, ()) := by
  rw [ref01_Unhex_spec _ hl]
  unfold unhD
  split <;> exact ⟨_, rfl⟩
theorem note_Read_spec (b : List UInt8) (hl : b.length ≤ 1000000) : note_Read (b, ()) = some (rdN b) := by
  unfold note_Read rdN
  refine (ob_of (iso_Read_spec b hl)).trans ?_
  by_cases h0 : (rdM b).2.1 = 0
  · obtain ⟨m, hm⟩ : ∃ m, rdM b = (m, 0, ()) := ⟨(rdM b).1, by rw [← h0]⟩
    obtain ⟨hr, hw⟩ := rdM_inv hm
    have hml := rdM_len (b := b)
    rw [hm] at hml ⊢
    have hf := (rightM_iff.1 hr).1
    have g : ∀ no, iso_Get (m, no, ()) = some (getR no m.2.1) := fun no => by rw [iso_Get_spec m no (by simp only at hml; omega), getD_getR hf]
    have gl := getR_400 hr
    obtain ⟨e1, v70⟩ := value_spec (gv m 70)
    obtain ⟨e2, v11⟩ := value_spec (gv m 11)
    obtain ⟨e3, v39⟩ := value_spec (gv m 39)
    obtain ⟨e4, v53⟩ := value_spec (gv m 53)
    obtain ⟨e5, v15⟩ := value_spec (gv m 15)
    obtain ⟨e6, u48⟩ := unhex_spec (gv m 48) (by have := gl 48; unfold gv; omega)
    unfold gv at v70 v11 v39 v53 v15 u48
    simp (disch := first | assumption | omega | (dsimp only; omega) | decide) only [↓g02, ↓g03, ↓g04, ↓g05, ↓g06, g01, g02, g03, g04, g05, g06, g07, g08, g09, g10, g11, g12, g13, g14, g15, g16, g17, g18, g19, g20, g21, g22, g23, g24, g25, g26, g27, g28, g29, g30, g31, g32, g34, g35, g36, g37, g38, g39, g40, g41, g42, g43, g44, g45, g46, g47, g48, g49, g50, g51, g52, g53, g54, g55, g56, g57, g58, g60, g61, eq_self, not_true_eq_false, not_false_eq_true, List.nil_append, List.append_nil, List.length_nil, and_true, true_and, or_true, true_or, or_false, false_or, and_false, false_and, iff_self, if_true, if_false, lc_rt', lc_ex', lc_nx, g62, g63, Int.toNat_natCast, Int.natCast_add, nth_get, g33, g64, g65, Int.toNat_zero, Bool.false_eq_true, Int.reduceToNat, g66, g, v70, v11, v39, v53, v15, u48, note_Right_spec]
    show sel (D (¬ rightN (rdN0 m))) (some (noN, 2, ())) (ob (note_message (rdN0 m, ())) fun a_15 => ob (iso_Same (a_15.1, m, ())) fun a_16 => sel (bnot a_16.1) (some (noN, 2, ())) (some (rdN0 m, 0, ()))) = _
    by_cases hn : rightN (rdN0 m)
    · rw [D_f (fun h => h hn)]
      have hs := iso_Same_spec (msgN (rdN0 m)) m (by have := (msgN_few hn).1; omega)
      simp (disch := first | assumption | omega | (dsimp only; omega) | decide) only [↓g02, ↓g03, ↓g04, ↓g05, ↓g06, g01, g02, g03, g04, g05, g06, g07, g08, g09, g10, g11, g12, g13, g14, g15, g16, g17, g18, g19, g20, g21, g22, g23, g24, g25, g26, g27, g28, g29, g30, g31, g32, g34, g35, g36, g37, g38, g39, g40, g41, g42, g43, g44, g45, g46, g47, g48, g49, g50, g51, g52, g53, g54, g55, g56, g57, g58, g60, g61, eq_self, not_true_eq_false, not_false_eq_true, List.nil_append, List.append_nil, List.length_nil, and_true, true_and, or_true, true_or, or_false, false_or, and_false, false_and, iff_self, if_true, if_false, lc_rt', lc_ex', lc_nx, g62, g63, Int.toNat_natCast, Int.natCast_add, nth_get, g33, g64, g65, Int.toNat_zero, Bool.false_eq_true, Int.reduceToNat, g66, note_message_spec hn, hs]
      by_cases he : msgN (rdN0 m) = m
      · rw [if_pos ⟨hn, he⟩, D_f (fun h => h he)]; rfl
      · rw [if_neg (fun h => he h.2), D_t he]; rfl
    · rw [if_neg (fun h => hn h.1), D_t hn]; rfl
  · rw [if_neg h0]
    simp (disch := first | assumption | omega | (dsimp only; omega) | decide) only [↓g02, ↓g03, ↓g04, ↓g05, ↓g06, g01, g02, g03, g04, g05, g06, g07, g08, g09, g10, g11, g12, g13, g14, g15, g16, g17, g18, g19, g20, g21, g22, g23, g24, g25, g26, g27, g28, g29, g30, g31, g32, g34, g35, g36, g37, g38, g39, g40, g41, g42, g43, g44, g45, g46, g47, g48, g49, g50, g51, g52, g53, g54, g55, g56, g57, g58, g60, g61, eq_self, not_true_eq_false, not_false_eq_true, List.nil_append, List.append_nil, List.length_nil, and_true, true_and, or_true, true_or, or_false, false_or, and_false, false_and, iff_self, if_true, if_false, lc_rt', lc_ex', lc_nx, g62, g63, Int.toNat_natCast, Int.natCast_add, nth_get, g33, g64, g65, Int.toNat_zero, Bool.false_eq_true, Int.reduceToNat, g66, h0]
    rfl
theorem ref16_number_spec {m : M} (hr : rightM m = true) (hl : m.2.1.length ≤ 1000) (no : Int) : ref16_number (m, no, ()) = some (valD (gv m no), ()) := by
  unfold ref16_number gv
  obtain ⟨e, he⟩ := rvalue_spec (getR no m.2.1).1 (by have := getR_400 hr no; omega)
  have hg := ref07_Get_spec m no (by omega)
  simp (disch := first | assumption | omega | (dsimp only; omega) | decide) only [↓g02, ↓g03, ↓g04, ↓g05, ↓g06, g01, g02, g03, g04, g05, g06, g07, g08, g09, g10, g11, g12, g13, g14, g15, g16, g17, g18, g19, g20, g21, g22, g23, g24, g25, g26, g27, g28, g29, g30, g31, g32, g34, g35, g36, g37, g38, g39, g40, g41, g42, g43, g44, g45, g46, g47, g48, g49, g50, g51, g52, g53, g54, g55, g56, g57, g58, g60, g61, eq_self, not_true_eq_false, not_false_eq_true, List.nil_append, List.append_nil, List.length_nil, and_true, true_and, or_true, true_or, or_false, false_or, and_false, false_and, iff_self, if_true, if_false, lc_rt', lc_ex', lc_nx, g62, g63, Int.toNat_natCast, Int.natCast_add, nth_get, g33, g64, g65, Int.toNat_zero, Bool.false_eq_true, Int.reduceToNat, g66, hg, he]
theorem wr_iff {b : List UInt8} {m : M} {n : N} (hm : rdM b = (m, 0, ())) (hn : rightN n) : wrM (msgN n) = b ↔ msgN n = m := by
  obtain ⟨hr, hw⟩ := rdM_inv hm
  constructor
  · intro h
    have := rdM_self (msgN_right hn)
    rw [h, hm] at this
    exact (congrArg Prod.fst this).symm
  · intro h; rw [h, hw]
theorem ref16_Read_spec (b : List UInt8) (hl : b.length ≤ 1000000) : ref16_Read (b, ()) = some (rdN b) := by
  unfold ref16_Read rdN
  refine (ob_of (ref07_Read_spec b hl)).trans ?_
  by_cases h0 : (rdM b).2.1 = 0
  · obtain ⟨m, hm⟩ : ∃ m, rdM b = (m, 0, ()) := ⟨(rdM b).1, by rw [← h0]⟩
    obtain ⟨hr, hw⟩ := rdM_inv hm
    have hml := rdM_len (b := b)
    rw [hm] at hml ⊢
    have hml : m.2.1.length ≤ 1000 := hml
    have g : ∀ no, ref07_Get (m, no, ()) = some (getR no m.2.1) := fun no => ref07_Get_spec m no (by omega)
    have gl := getR_400 hr
    have nu := ref16_number_spec hr hml
    obtain ⟨e6, u48⟩ := runhex_spec (gv m 48) (by have := gl 48; unfold gv; omega)
    unfold gv at u48 nu
    simp (disch := first | assumption | omega | (dsimp only; omega) | decide) only [↓g02, ↓g03, ↓g04, ↓g05, ↓g06, g01, g02, g03, g04, g05, g06, g07, g08, g09, g10, g11, g12, g13, g14, g15, g16, g17, g18, g19, g20, g21, g22, g23, g24, g25, g26, g27, g28, g29, g30, g31, g32, g34, g35, g36, g37, g38, g39, g40, g41, g42, g43, g44, g45, g46, g47, g48, g49, g50, g51, g52, g53, g54, g55, g56, g57, g58, g60, g61, eq_self, not_true_eq_false, not_false_eq_true, List.nil_append, List.append_nil, List.length_nil, and_true, true_and, or_true, true_or, or_false, false_or, and_false, false_and, iff_self, if_true, if_false, lc_rt', lc_ex', lc_nx, g62, g63, Int.toNat_natCast, Int.natCast_add, nth_get, g33, g64, g65, Int.toNat_zero, Bool.false_eq_true, Int.reduceToNat, g66, g, nu, u48, ref16_Write_spec, ref01_Same_spec]
    show sel (D (¬ (wrN (rdN0 m)).2.1 = 0 ∨ ¬ (wrN (rdN0 m)).1 = b)) (some (noN, 2, ())) (some (rdN0 m, 0, ())) = _
    unfold wrN
    by_cases hn : rightN (rdN0 m)
    · rw [if_pos hn]
      by_cases he : msgN (rdN0 m) = m
      · rw [if_pos ⟨hn, he⟩, D_f (fun h => h.elim (fun h => h rfl) (fun h => h ((wr_iff hm hn).2 he)))]; rfl
      · rw [if_neg (fun h => he h.2), D_t (.inr fun h => he ((wr_iff hm hn).1 h))]; rfl
    · rw [if_neg hn, if_neg (fun h => hn h.1), D_t (.inl (by decide))]; rfl
  · rw [if_neg h0]
    simp (disch := first | assumption | omega | (dsimp only; omega) | decide) only [↓g02, ↓g03, ↓g04, ↓g05, ↓g06, g01, g02, g03, g04, g05, g06, g07, g08, g09, g10, g11, g12, g13, g14, g15, g16, g17, g18, g19, g20, g21, g22, g23, g24, g25, g26, g27, g28, g29, g30, g31, g32, g34, g35, g36, g37, g38, g39, g40, g41, g42, g43, g44, g45, g46, g47, g48, g49, g50, g51, g52, g53, g54, g55, g56, g57, g58, g60, g61, eq_self, not_true_eq_false, not_false_eq_true, List.nil_append, List.append_nil, List.length_nil, and_true, true_and, or_true, true_or, or_false, false_or, and_false, false_and, iff_self, if_true, if_false, lc_rt', lc_ex', lc_nx, g62, g63, Int.toNat_natCast, Int.natCast_add, nth_get, g33, g64, g65, Int.toNat_zero, Bool.false_eq_true, Int.reduceToNat, g66, h0]
    rfl
theorem valD_dg {n : Int} {w : Nat} (h1 : 1 ≤ w) (h2 : w ≤ 18) (h0 : 0 ≤ n) (h : n < 10 ^ w) : valD (dg n w) = n := by
  unfold valD
  rw [if_pos ⟨by rw [dg_length]; exact h1, by rw [dg_length]; exact h2, dg_figs⟩]
  exact dg_val h0 h
theorem valD_nil : valD [] = 0 := by unfold valD; rw [if_neg (by simp)]
theorem unhD_nil : unhD [] = [] := by unfold unhD; split <;> rfl
theorem unhD_hex {b : List UInt8} : unhD (hexOf b) = b := by
  unfold unhD
  rw [if_pos ⟨by rw [hexOf_length]; omega, hexy_hexOf b⟩, unh_hexOf]
theorem rdN_back {n : N} (hr : rightN n) : rdN0 (msgN n) = n := by
  obtain ⟨rq, c, st, rs, g, no, k, d, ⟨⟩⟩ := n
  obtain ⟨hc, s1, s2, r1, r2, r3, hk⟩ := rightN_iff.1 hr
  have hc0 : 0 ≤ c ∧ c ≤ 301 := by unfold knownC at hc; omega
  have v11 : valD (dg st 6) = st := valD_dg (by omega) (by omega) (by omega) (by omega)
  have v70 : valD (dg c 3) = c := valD_dg (by omega) (by omega) (by omega) (by omega)
  have v39 : valD (dg rs 2) = rs := valD_dg (by omega) (by omega) (by omega) (by omega)
  unfold rdN0 gv msgN
  simp only [len0] at hk
  cases rq
  · simp only [Bool.false_eq_true, false_and, if_false] at hk
    obtain ⟨h1, h2, h3, h4⟩ := hk
    subst h1 h2 h3 h4
    simp [getR, v11, v70, v39, valD_nil, unhD_nil, D]
  · have hrs := r3 rfl
    subst hrs
    by_cases h1 : c = 101
    · subst h1
      rw [if_pos ⟨rfl, rfl⟩] at hk
      obtain ⟨g1, g2, hn, hkc, hd⟩ := hk
      subst hd
      have v53 : valD (dg g 16) = g := valD_dg (by omega) (by omega) (by omega) (by omega)
      simp [getR, v11, v70, v53, valD_nil, unhD_hex, D]
    · rw [if_neg (by simp [h1])] at hk
      by_cases h2 : c = 201
      · subst h2
        rw [if_pos ⟨rfl, rfl⟩] at hk
        obtain ⟨h3, h4, h5, d1, d2⟩ := hk
        subst h3 h4 h5
        have v15 : valD (dg d 6) = d := valD_dg (by omega) (by omega) (by omega) (by omega)
        simp [getR, v11, v70, v15, valD_nil, unhD_nil, D]
      · rw [if_neg (by simp [h2])] at hk
        obtain ⟨h3, h4, h5, h6⟩ := hk
        subst h3 h4 h5 h6
        simp [getR, v11, v70, valD_nil, unhD_nil, D, h1, h2]
theorem rdN_wr {n : N} (hr : rightN n) : rdN (wrM (msgN n)) = (n, 0, ()) := by
  unfold rdN
  rw [rdM_self (msgN_right hr), rdN_back hr, if_pos rfl, if_pos ⟨hr, rfl⟩]
def n0 : N := (true, 301, 7, 0, 0, [], [], 0, ())
theorem law16_shown_spec : law16_shown () = some (true, ()) := by
  unfold law16_shown
  have hr : rightN n0 := by decide
  have ha : rightN (ansN n0 0).1 := by decide
  have w1 : note_Write (n0, ()) = some (wrM (msgN n0), 0, ()) := by rw [note_Write_spec]; unfold wrN; rw [if_pos hr]
  have w2 : note_Write ((ansN n0 0).1, ()) = some (wrM (msgN (ansN n0 0).1), 0, ()) := by rw [note_Write_spec]; unfold wrN; rw [if_pos ha]
  refine (ob_of w1).trans ?_
  refine (ob_of (note_Read_spec _ (by decide +kernel))).trans ?_
  rw [rdN_wr hr]
  refine (ob_of (note_Answer_spec n0 0)).trans ?_
  refine (ob_of w2).trans ?_
  refine (ob_of (a := (true, ())) ?_).trans rfl
  repeat first
    | refine (sel_of_t (by decide +kernel)).trans ?_
    | refine (sel_of_t (D_t (by decide +kernel))).trans ?_
    | refine (sel_of_t (by rw [D_f (by decide +kernel)]; rfl)).trans ?_
    | refine (ck_of (by decide +kernel)).trans ?_
    | refine (ob_of (ref01_Hex_spec _ (by decide +kernel))).trans ?_
    | refine (ob_of (note_Same_spec _ _)).trans ?_
    | refine (ob_of (note_Right_spec _)).trans ?_
  rw [D_f (fun h => Bool.noConfusion (congrArg (fun x : N => x.1) h))]; rfl
end Yp
namespace Yp
open Go
theorem setR_cons {v x : V} {r : List V} (h : rightF v.1 r = true) : setR (v :: r) x = if v.1 < x.1 then v :: setR r x else if v.1 = x.1 then x :: r else x :: v :: r := by
  unfold setR
  by_cases h1 : v.1 < x.1
  · rw [if_pos h1, List.filter_cons_of_pos (by simp; omega), List.filter_cons_of_neg (by simp; omega)]; rfl
  · obtain ⟨f1, f2, _⟩ := filter_lt_gt (no := x.1) (by omega) h
    rw [if_neg h1, List.filter_cons_of_neg (by simp; omega), f1]
    by_cases h2 : v.1 = x.1
    · rw [if_pos h2, List.filter_cons_of_neg (by simp; omega), f2]; rfl
    · rw [if_neg h2, List.filter_cons_of_pos (by simp; omega), f2]; rfl
theorem setR_right {l : List V} {x : V} (hx : fitsD x.1 x.2.1 = true) : ∀ {last : Int}, last < x.1 → rightF last l = true → rightF last (setR l x) = true := by
  induction l with
  | nil => intro last h1 _; simp [setR, rightF, h1, hx]
  | cons v r ih =>
    intro last h1 h
    have h' := h
    simp only [rightF, Bool.and_eq_true, decide_eq_true_eq] at h'
    rw [setR_cons h'.2.2]
    by_cases h2 : v.1 < x.1
    · rw [if_pos h2]
      simp only [rightF, Bool.and_eq_true, decide_eq_true_eq]
      exact ⟨h'.1, h'.2.1, ih h2 h'.2.2⟩
    · rw [if_neg h2]
      by_cases h3 : v.1 = x.1
      · rw [if_pos h3]
        simp only [rightF, Bool.and_eq_true, decide_eq_true_eq]
        exact ⟨h1, hx, h3 ▸ h'.2.2⟩
      · rw [if_neg h3]
        simp only [rightF, Bool.and_eq_true, decide_eq_true_eq]
        exact ⟨h1, hx, by omega, h'.2.1, h'.2.2⟩
theorem dropR_right {l : List V} {no : Int} : ∀ {last : Int}, rightF last l = true → rightF last (dropR l no) = true := by
  induction l with
  | nil => intros; rfl
  | cons v r ih =>
    intro last h
    simp only [rightF, Bool.and_eq_true, decide_eq_true_eq] at h
    unfold dropR at ih ⊢
    by_cases h3 : v.1 = no
    · rw [List.filter_cons_of_neg (by simp [h3])]
      exact ih (rightF_weak (by omega) h.2.2)
    · rw [List.filter_cons_of_pos (by simp [h3])]
      simp only [rightF, Bool.and_eq_true, decide_eq_true_eq]
      exact ⟨h.1, h.2.1, ih h.2.2⟩
theorem getR_drop {l : List V} {no other : Int} : getR other (dropR l no) = if other = no then ([], false, ()) else getR other l := by
  induction l with
  | nil => simp [dropR, getR]
  | cons v r ih =>
    unfold dropR at ih ⊢
    by_cases h3 : v.1 = no
    · rw [List.filter_cons_of_neg (by simp [h3]), ih]
      by_cases h4 : other = no
      · rw [if_pos h4, if_pos h4]
      · rw [if_neg h4, if_neg h4]; simp only [getR]; rw [if_neg (by omega)]
    · rw [List.filter_cons_of_pos (by simp [h3])]
      simp only [getR]
      rw [ih]
      by_cases h4 : other = no
      · rw [if_pos h4, if_pos h4, if_neg (by omega)]
      · rw [if_neg h4, if_neg h4]
end Yp
namespace Yp
open Go
set_option linter.unusedVariables false
set_option linter.unusedSimpArgs false
def fewN (n : N) : Prop := n.2.2.2.2.2.1.length ≤ 50 ∧ n.2.2.2.2.2.2.1.length ≤ 50
theorem fewN_spec (n : N) : ref16_Few (n, ()) = some (D (fewN n), ()) := ref16_Few_spec n
theorem wrN_t {n : N} (h : rightN n) : wrN n = (wrM (msgN n), 0, ()) := by unfold wrN; rw [if_pos h]
theorem wrN_f {n : N} (h : ¬ rightN n) : wrN n = ([], 1, ()) := by unfold wrN; rw [if_neg h]
theorem law16_NoteTells' (a b : N) (r : Int) : law16_NoteTells (a, b, r, ()) = some (true, ()) := by
  unfold law16_NoteTells
  by_cases ha : fewN a
  · by_cases hb : fewN b
    · by_cases hr : rightN a
      · simp (disch := first | assumption | omega | (dsimp only; omega) | decide) only [↓g02, ↓g03, ↓g04, ↓g05, ↓g06, g01, g02, g03, g04, g05, g06, g07, g08, g09, g10, g11, g12, g13, g14, g15, g16, g17, g18, g19, g20, g21, g22, g23, g24, g25, g26, g27, g28, g29, g30, g31, g32, g34, g35, g36, g37, g38, g39, g40, g41, g42, g43, g44, g45, g46, g47, g48, g49, g50, g51, g52, g53, g54, g55, g56, g57, g58, g60, g61, eq_self, not_true_eq_false, not_false_eq_true, List.nil_append, List.append_nil, List.length_nil, and_true, true_and, or_true, true_or, or_false, false_or, and_false, false_and, iff_self, if_true, if_false, lc_rt', lc_ex', lc_nx, g62, g63, Int.toNat_natCast, Int.natCast_add, nth_get, g33, g64, g65, Int.toNat_zero, Bool.false_eq_true, Int.reduceToNat, g66, law16_shown_spec, fewN_spec, ha, hb, note_Write_spec, ref16_Write_spec, ref16_Right_spec, note_Right_spec, note_Same_spec, ref16_Same_spec, ref01_Same_spec, note_Answer_spec, ref16_Answer_spec, hr]
      · simp (disch := first | assumption | omega | (dsimp only; omega) | decide) only [↓g02, ↓g03, ↓g04, ↓g05, ↓g06, g01, g02, g03, g04, g05, g06, g07, g08, g09, g10, g11, g12, g13, g14, g15, g16, g17, g18, g19, g20, g21, g22, g23, g24, g25, g26, g27, g28, g29, g30, g31, g32, g34, g35, g36, g37, g38, g39, g40, g41, g42, g43, g44, g45, g46, g47, g48, g49, g50, g51, g52, g53, g54, g55, g56, g57, g58, g60, g61, eq_self, not_true_eq_false, not_false_eq_true, List.nil_append, List.append_nil, List.length_nil, and_true, true_and, or_true, true_or, or_false, false_or, and_false, false_and, iff_self, if_true, if_false, lc_rt', lc_ex', lc_nx, g62, g63, Int.toNat_natCast, Int.natCast_add, nth_get, g33, g64, g65, Int.toNat_zero, Bool.false_eq_true, Int.reduceToNat, g66, law16_shown_spec, fewN_spec, ha, hb, note_Write_spec, ref16_Write_spec, ref16_Right_spec, note_Right_spec, note_Same_spec, ref16_Same_spec, ref01_Same_spec, note_Answer_spec, ref16_Answer_spec, hr]
    · simp (disch := first | assumption | omega | (dsimp only; omega) | decide) only [↓g02, ↓g03, ↓g04, ↓g05, ↓g06, g01, g02, g03, g04, g05, g06, g07, g08, g09, g10, g11, g12, g13, g14, g15, g16, g17, g18, g19, g20, g21, g22, g23, g24, g25, g26, g27, g28, g29, g30, g31, g32, g34, g35, g36, g37, g38, g39, g40, g41, g42, g43, g44, g45, g46, g47, g48, g49, g50, g51, g52, g53, g54, g55, g56, g57, g58, g60, g61, eq_self, not_true_eq_false, not_false_eq_true, List.nil_append, List.append_nil, List.length_nil, and_true, true_and, or_true, true_or, or_false, false_or, and_false, false_and, iff_self, if_true, if_false, lc_rt', lc_ex', lc_nx, g62, g63, Int.toNat_natCast, Int.natCast_add, nth_get, g33, g64, g65, Int.toNat_zero, Bool.false_eq_true, Int.reduceToNat, g66, law16_shown_spec, fewN_spec, ha, hb]
  · simp (disch := first | assumption | omega | (dsimp only; omega) | decide) only [↓g02, ↓g03, ↓g04, ↓g05, ↓g06, g01, g02, g03, g04, g05, g06, g07, g08, g09, g10, g11, g12, g13, g14, g15, g16, g17, g18, g19, g20, g21, g22, g23, g24, g25, g26, g27, g28, g29, g30, g31, g32, g34, g35, g36, g37, g38, g39, g40, g41, g42, g43, g44, g45, g46, g47, g48, g49, g50, g51, g52, g53, g54, g55, g56, g57, g58, g60, g61, eq_self, not_true_eq_false, not_false_eq_true, List.nil_append, List.append_nil, List.length_nil, and_true, true_and, or_true, true_or, or_false, false_or, and_false, false_and, iff_self, if_true, if_false, lc_rt', lc_ex', lc_nx, g62, g63, Int.toNat_natCast, Int.natCast_add, nth_get, g33, g64, g65, Int.toNat_zero, Bool.false_eq_true, Int.reduceToNat, g66, law16_shown_spec, fewN_spec, ha]
theorem law16_NoteReads' (b : List UInt8) : law16_NoteReads (b, ()) = some (true, ()) := by
  unfold law16_NoteReads
  by_cases hl : (b.length : Int) ≤ 1200
  · simp (disch := first | assumption | omega | (dsimp only; omega) | decide) only [↓g02, ↓g03, ↓g04, ↓g05, ↓g06, g01, g02, g03, g04, g05, g06, g07, g08, g09, g10, g11, g12, g13, g14, g15, g16, g17, g18, g19, g20, g21, g22, g23, g24, g25, g26, g27, g28, g29, g30, g31, g32, g34, g35, g36, g37, g38, g39, g40, g41, g42, g43, g44, g45, g46, g47, g48, g49, g50, g51, g52, g53, g54, g55, g56, g57, g58, g60, g61, eq_self, not_true_eq_false, not_false_eq_true, List.nil_append, List.append_nil, List.length_nil, and_true, true_and, or_true, true_or, or_false, false_or, and_false, false_and, iff_self, if_true, if_false, lc_rt', lc_ex', lc_nx, g62, g63, Int.toNat_natCast, Int.natCast_add, nth_get, g33, g64, g65, Int.toNat_zero, Bool.false_eq_true, Int.reduceToNat, g66, law16_shown_spec, note_Read_spec, ref16_Read_spec, ref16_Same_spec]
  · simp (disch := first | assumption | omega | (dsimp only; omega) | decide) only [↓g02, ↓g03, ↓g04, ↓g05, ↓g06, g01, g02, g03, g04, g05, g06, g07, g08, g09, g10, g11, g12, g13, g14, g15, g16, g17, g18, g19, g20, g21, g22, g23, g24, g25, g26, g27, g28, g29, g30, g31, g32, g34, g35, g36, g37, g38, g39, g40, g41, g42, g43, g44, g45, g46, g47, g48, g49, g50, g51, g52, g53, g54, g55, g56, g57, g58, g60, g61, eq_self, not_true_eq_false, not_false_eq_true, List.nil_append, List.append_nil, List.length_nil, and_true, true_and, or_true, true_or, or_false, false_or, and_false, false_and, iff_self, if_true, if_false, lc_rt', lc_ex', lc_nx, g62, g63, Int.toNat_natCast, Int.natCast_add, nth_get, g33, g64, g65, Int.toNat_zero, Bool.false_eq_true, Int.reduceToNat, g66, law16_shown_spec]
theorem wrV_le {v : V} (h : fitsD v.1 v.2.1 = true) : (wrV v).length ≤ v.2.1.length + 2 := by
  obtain ⟨k, l, h1, h2⟩ := fitsD_iff.1 h
  unfold wrV wrD
  rw [h1]
  simp only [if_pos h2]
  rw [wrF_length (form_ok h1).1]
  repeat' split
  all_goals omega
theorem wrM_le {m : M} (hr : rightM m = true) : (wrM m).length ≤ 18 + (m.2.1.map (fun v => v.2.1.length + 2)).sum := by
  have hF := (rightM_iff.1 hr).1
  have h2 := typB_length (m := m.1)
  have h8 := bmW_len8 (nosF m.2.1)
  have hfl : ∀ l : List V, (∀ v ∈ l, fitsD v.1 v.2.1 = true) → (l.flatMap wrV).length ≤ (l.map (fun v => v.2.1.length + 2)).sum := by
    intro l
    induction l with
    | nil => simp
    | cons v r ih =>
      intro h
      have h1 := wrV_le (h v (by simp))
      have h2 := ih fun u hu => h u (by simp [hu])
      rw [List.flatMap_cons, List.length_append, List.map_cons, List.sum_cons]; omega
  have := hfl m.2.1 fun v hv => (rightF_mem hF v hv).2
  unfold wrM
  rw [List.length_append, List.length_append]; omega
theorem wrM_900 {n : N} (hr : rightN n) : (wrM (msgN n)).length ≤ 900 := by
  have h := wrM_le (msgN_right hr)
  obtain ⟨rq, c, st, rs, g, no, k, d, ⟨⟩⟩ := n
  obtain ⟨hc, s1, s2, r1, r2, r3, hk⟩ := rightN_iff.1 hr
  refine Nat.le_trans h ?_
  unfold msgN
  cases rq
  · simp [dg_length]
  · by_cases h1 : c = 101
    · subst h1
      rw [if_pos ⟨rfl, rfl⟩] at hk
      obtain ⟨g1, g2, hn, hkc, hd⟩ := hk
      simp [dg_length, hexOf_length]; omega
    · by_cases h2 : c = 201
      · subst h2; simp [dg_length]
      · simp [dg_length, h1, h2]
theorem rdN_cases (b : List UInt8) : (∃ n, rdN b = (n, 0, ()) ∧ rightN n ∧ wrM (msgN n) = b) ∨ ∃ e, ¬ e = 0 ∧ rdN b = (noN, e, ()) := by
  unfold rdN
  by_cases h0 : (rdM b).2.1 = 0
  · obtain ⟨m, hm⟩ : ∃ m, rdM b = (m, 0, ()) := ⟨(rdM b).1, by rw [← h0]⟩
    rw [if_pos h0]
    by_cases h1 : rightN (rdN0 (rdM b).1) ∧ msgN (rdN0 (rdM b).1) = (rdM b).1
    · rw [if_pos h1]
      refine .inl ⟨_, rfl, h1.1, ?_⟩
      rw [hm] at h1 ⊢
      exact (wr_iff hm h1.1).2 h1.2
    · rw [if_neg h1]; exact .inr ⟨2, by decide, rfl⟩
  · rw [if_neg h0]; exact .inr ⟨_, h0, rfl⟩
theorem D_self {α : Type} {a : α} : D (a = a) = true := D_t rfl
theorem law16_NoteBack' (n : N) (b : List UInt8) : law16_NoteBack (n, b, ()) = some (true, ()) := by
  unfold law16_NoteBack
  by_cases hn : fewN n
  · by_cases hl : (b.length : Int) ≤ 1200
    · by_cases hr : rightN n
      · have h9 := wrM_900 hr
        rcases rdN_cases b with ⟨m, h1, h2, h3⟩ | ⟨e, h1, h2⟩
        · simp (disch := first | assumption | omega | (dsimp only; omega) | decide) only [↓g02, ↓g03, ↓g04, ↓g05, ↓g06, g01, g02, g03, g04, g05, g06, g07, g08, g09, g10, g11, g12, g13, g14, g15, g16, g17, g18, g19, g20, g21, g22, g23, g24, g25, g26, g27, g28, g29, g30, g31, g32, g34, g35, g36, g37, g38, g39, g40, g41, g42, g43, g44, g45, g46, g47, g48, g49, g50, g51, g52, g53, g54, g55, g56, g57, g58, g60, g61, eq_self, not_true_eq_false, not_false_eq_true, List.nil_append, List.append_nil, List.length_nil, and_true, true_and, or_true, true_or, or_false, false_or, and_false, false_and, iff_self, if_true, if_false, lc_rt', lc_ex', lc_nx, g62, g63, Int.toNat_natCast, Int.natCast_add, nth_get, g33, g64, g65, Int.toNat_zero, Bool.false_eq_true, Int.reduceToNat, g66, law16_shown_spec, fewN_spec, hn, note_Write_spec, ref16_Right_spec, note_Read_spec, ref16_Same_spec, ref01_Same_spec, hr, wrN_t hr, rdN_wr hr, h1, wrN_t h2, h2, h3, D_self]
        · simp (disch := first | assumption | omega | (dsimp only; omega) | decide) only [↓g02, ↓g03, ↓g04, ↓g05, ↓g06, g01, g02, g03, g04, g05, g06, g07, g08, g09, g10, g11, g12, g13, g14, g15, g16, g17, g18, g19, g20, g21, g22, g23, g24, g25, g26, g27, g28, g29, g30, g31, g32, g34, g35, g36, g37, g38, g39, g40, g41, g42, g43, g44, g45, g46, g47, g48, g49, g50, g51, g52, g53, g54, g55, g56, g57, g58, g60, g61, eq_self, not_true_eq_false, not_false_eq_true, List.nil_append, List.append_nil, List.length_nil, and_true, true_and, or_true, true_or, or_false, false_or, and_false, false_and, iff_self, if_true, if_false, lc_rt', lc_ex', lc_nx, g62, g63, Int.toNat_natCast, Int.natCast_add, nth_get, g33, g64, g65, Int.toNat_zero, Bool.false_eq_true, Int.reduceToNat, g66, law16_shown_spec, fewN_spec, hn, note_Write_spec, ref16_Right_spec, note_Read_spec, ref16_Same_spec, ref01_Same_spec, hr, wrN_t hr, rdN_wr hr, h1, h2, noN, D_self]
      · rcases rdN_cases b with ⟨m, h1, h2, h3⟩ | ⟨e, h1, h2⟩
        · simp (disch := first | assumption | omega | (dsimp only; omega) | decide) only [↓g02, ↓g03, ↓g04, ↓g05, ↓g06, g01, g02, g03, g04, g05, g06, g07, g08, g09, g10, g11, g12, g13, g14, g15, g16, g17, g18, g19, g20, g21, g22, g23, g24, g25, g26, g27, g28, g29, g30, g31, g32, g34, g35, g36, g37, g38, g39, g40, g41, g42, g43, g44, g45, g46, g47, g48, g49, g50, g51, g52, g53, g54, g55, g56, g57, g58, g60, g61, eq_self, not_true_eq_false, not_false_eq_true, List.nil_append, List.append_nil, List.length_nil, and_true, true_and, or_true, true_or, or_false, false_or, and_false, false_and, iff_self, if_true, if_false, lc_rt', lc_ex', lc_nx, g62, g63, Int.toNat_natCast, Int.natCast_add, nth_get, g33, g64, g65, Int.toNat_zero, Bool.false_eq_true, Int.reduceToNat, g66, law16_shown_spec, fewN_spec, hn, note_Write_spec, ref16_Right_spec, note_Read_spec, ref16_Same_spec, ref01_Same_spec, hr, wrN_f hr, h1, wrN_t h2, h2, h3, D_self]
        · simp (disch := first | assumption | omega | (dsimp only; omega) | decide) only [↓g02, ↓g03, ↓g04, ↓g05, ↓g06, g01, g02, g03, g04, g05, g06, g07, g08, g09, g10, g11, g12, g13, g14, g15, g16, g17, g18, g19, g20, g21, g22, g23, g24, g25, g26, g27, g28, g29, g30, g31, g32, g34, g35, g36, g37, g38, g39, g40, g41, g42, g43, g44, g45, g46, g47, g48, g49, g50, g51, g52, g53, g54, g55, g56, g57, g58, g60, g61, eq_self, not_true_eq_false, not_false_eq_true, List.nil_append, List.append_nil, List.length_nil, and_true, true_and, or_true, true_or, or_false, false_or, and_false, false_and, iff_self, if_true, if_false, lc_rt', lc_ex', lc_nx, g62, g63, Int.toNat_natCast, Int.natCast_add, nth_get, g33, g64, g65, Int.toNat_zero, Bool.false_eq_true, Int.reduceToNat, g66, law16_shown_spec, fewN_spec, hn, note_Write_spec, ref16_Right_spec, note_Read_spec, ref16_Same_spec, ref01_Same_spec, hr, wrN_f hr, h1, h2, noN, D_self]
    · simp (disch := first | assumption | omega | (dsimp only; omega) | decide) only [↓g02, ↓g03, ↓g04, ↓g05, ↓g06, g01, g02, g03, g04, g05, g06, g07, g08, g09, g10, g11, g12, g13, g14, g15, g16, g17, g18, g19, g20, g21, g22, g23, g24, g25, g26, g27, g28, g29, g30, g31, g32, g34, g35, g36, g37, g38, g39, g40, g41, g42, g43, g44, g45, g46, g47, g48, g49, g50, g51, g52, g53, g54, g55, g56, g57, g58, g60, g61, eq_self, not_true_eq_false, not_false_eq_true, List.nil_append, List.append_nil, List.length_nil, and_true, true_and, or_true, true_or, or_false, false_or, and_false, false_and, iff_self, if_true, if_false, lc_rt', lc_ex', lc_nx, g62, g63, Int.toNat_natCast, Int.natCast_add, nth_get, g33, g64, g65, Int.toNat_zero, Bool.false_eq_true, Int.reduceToNat, g66, law16_shown_spec, fewN_spec, hn]
  · simp (disch := first | assumption | omega | (dsimp only; omega) | decide) only [↓g02, ↓g03, ↓g04, ↓g05, ↓g06, g01, g02, g03, g04, g05, g06, g07, g08, g09, g10, g11, g12, g13, g14, g15, g16, g17, g18, g19, g20, g21, g22, g23, g24, g25, g26, g27, g28, g29, g30, g31, g32, g34, g35, g36, g37, g38, g39, g40, g41, g42, g43, g44, g45, g46, g47, g48, g49, g50, g51, g52, g53, g54, g55, g56, g57, g58, g60, g61, eq_self, not_true_eq_false, not_false_eq_true, List.nil_append, List.append_nil, List.length_nil, and_true, true_and, or_true, true_or, or_false, false_or, and_false, false_and, iff_self, if_true, if_false, lc_rt', lc_ex', lc_nx, g62, g63, Int.toNat_natCast, Int.natCast_add, nth_get, g33, g64, g65, Int.toNat_zero, Bool.false_eq_true, Int.reduceToNat, g66, law16_shown_spec, fewN_spec, hn]
theorem wrN_inj {n o : N} (hn : rightN n) (ho : rightN o) : wrM (msgN n) = wrM (msgN o) ↔ n = o := by
  refine ⟨fun h => ?_, fun h => by rw [h]⟩
  have := rdN_wr hn
  rw [h, rdN_wr ho] at this
  exact (Prod.mk.inj this).1.symm
theorem law16_NoteAnswers' (n o : N) (r : Int) : law16_NoteAnswers (n, o, r, ()) = some (true, ()) := by
  unfold law16_NoteAnswers
  by_cases hn : fewN n
  · by_cases ho : fewN o
    · by_cases rn : rightN n
      · by_cases ro : rightN o
        · have hs := wrN_inj rn ro
          by_cases hq : n.1 = false
          · have ha : ansN n r = (noN, 9, ()) := by unfold ansN; rw [if_pos hq]
            simp (disch := first | assumption | omega | (dsimp only; omega) | decide) only [↓g02, ↓g03, ↓g04, ↓g05, ↓g06, g01, g02, g03, g04, g05, g06, g07, g08, g09, g10, g11, g12, g13, g14, g15, g16, g17, g18, g19, g20, g21, g22, g23, g24, g25, g26, g27, g28, g29, g30, g31, g32, g34, g35, g36, g37, g38, g39, g40, g41, g42, g43, g44, g45, g46, g47, g48, g49, g50, g51, g52, g53, g54, g55, g56, g57, g58, g60, g61, eq_self, not_true_eq_false, not_false_eq_true, List.nil_append, List.append_nil, List.length_nil, and_true, true_and, or_true, true_or, or_false, false_or, and_false, false_and, iff_self, if_true, if_false, lc_rt', lc_ex', lc_nx, g62, g63, Int.toNat_natCast, Int.natCast_add, nth_get, g33, g64, g65, Int.toNat_zero, Bool.false_eq_true, Int.reduceToNat, g66, law16_shown_spec, fewN_spec, hn, ho, ref16_Right_spec, rn, ro, note_Write_spec, wrN_t rn, wrN_t ro, ref01_Same_spec, ref16_Same_spec, hs, note_Answer_spec, ha, hq, noN, D_self]
          · by_cases hb : r < 0 ∨ 99 < r
            · have ha : ansN n r = (noN, 1, ()) := by unfold ansN; rw [if_neg hq, if_pos hb]
              simp (disch := first | assumption | omega | (dsimp only; omega) | decide) only [↓g02, ↓g03, ↓g04, ↓g05, ↓g06, g01, g02, g03, g04, g05, g06, g07, g08, g09, g10, g11, g12, g13, g14, g15, g16, g17, g18, g19, g20, g21, g22, g23, g24, g25, g26, g27, g28, g29, g30, g31, g32, g34, g35, g36, g37, g38, g39, g40, g41, g42, g43, g44, g45, g46, g47, g48, g49, g50, g51, g52, g53, g54, g55, g56, g57, g58, g60, g61, eq_self, not_true_eq_false, not_false_eq_true, List.nil_append, List.append_nil, List.length_nil, and_true, true_and, or_true, true_or, or_false, false_or, and_false, false_and, iff_self, if_true, if_false, lc_rt', lc_ex', lc_nx, g62, g63, Int.toNat_natCast, Int.natCast_add, nth_get, g33, g64, g65, Int.toNat_zero, Bool.false_eq_true, Int.reduceToNat, g66, law16_shown_spec, fewN_spec, hn, ho, ref16_Right_spec, rn, ro, note_Write_spec, wrN_t rn, wrN_t ro, ref01_Same_spec, ref16_Same_spec, hs, note_Answer_spec, ha, hq, hb, noN, D_self]
            · have ha : ansN n r = ((false, n.2.1, n.2.2.1, r, 0, [], [], 0, ()), 0, ()) := by unfold ansN; rw [if_neg hq, if_neg hb]
              have ha2 : ansN (false, n.2.1, n.2.2.1, r, 0, [], [], 0, ()) 0 = (noN, 9, ()) := by unfold ansN; rw [if_pos rfl]
              have hr2 : rightN (false, n.2.1, n.2.2.1, r, 0, [], [], 0, ()) := by
                obtain ⟨rq, c, st, rs, g, no, k, d, ⟨⟩⟩ := n
                rw [rightN_iff] at rn ⊢
                simp only at *
                simp
                grind
              simp (disch := first | assumption | omega | (dsimp only; omega) | decide) only [↓g02, ↓g03, ↓g04, ↓g05, ↓g06, g01, g02, g03, g04, g05, g06, g07, g08, g09, g10, g11, g12, g13, g14, g15, g16, g17, g18, g19, g20, g21, g22, g23, g24, g25, g26, g27, g28, g29, g30, g31, g32, g34, g35, g36, g37, g38, g39, g40, g41, g42, g43, g44, g45, g46, g47, g48, g49, g50, g51, g52, g53, g54, g55, g56, g57, g58, g60, g61, eq_self, not_true_eq_false, not_false_eq_true, List.nil_append, List.append_nil, List.length_nil, and_true, true_and, or_true, true_or, or_false, false_or, and_false, false_and, iff_self, if_true, if_false, lc_rt', lc_ex', lc_nx, g62, g63, Int.toNat_natCast, Int.natCast_add, nth_get, g33, g64, g65, Int.toNat_zero, Bool.false_eq_true, Int.reduceToNat, g66, law16_shown_spec, fewN_spec, hn, ho, ref16_Right_spec, rn, ro, note_Write_spec, wrN_t rn, wrN_t ro, ref01_Same_spec, ref16_Same_spec, hs, note_Answer_spec, ha, ha2, hr2, hq, hb, D_self]
        · simp (disch := first | assumption | omega | (dsimp only; omega) | decide) only [↓g02, ↓g03, ↓g04, ↓g05, ↓g06, g01, g02, g03, g04, g05, g06, g07, g08, g09, g10, g11, g12, g13, g14, g15, g16, g17, g18, g19, g20, g21, g22, g23, g24, g25, g26, g27, g28, g29, g30, g31, g32, g34, g35, g36, g37, g38, g39, g40, g41, g42, g43, g44, g45, g46, g47, g48, g49, g50, g51, g52, g53, g54, g55, g56, g57, g58, g60, g61, eq_self, not_true_eq_false, not_false_eq_true, List.nil_append, List.append_nil, List.length_nil, and_true, true_and, or_true, true_or, or_false, false_or, and_false, false_and, iff_self, if_true, if_false, lc_rt', lc_ex', lc_nx, g62, g63, Int.toNat_natCast, Int.natCast_add, nth_get, g33, g64, g65, Int.toNat_zero, Bool.false_eq_true, Int.reduceToNat, g66, law16_shown_spec, fewN_spec, hn, ho, ref16_Right_spec, rn, ro]
      · simp (disch := first | assumption | omega | (dsimp only; omega) | decide) only [↓g02, ↓g03, ↓g04, ↓g05, ↓g06, g01, g02, g03, g04, g05, g06, g07, g08, g09, g10, g11, g12, g13, g14, g15, g16, g17, g18, g19, g20, g21, g22, g23, g24, g25, g26, g27, g28, g29, g30, g31, g32, g34, g35, g36, g37, g38, g39, g40, g41, g42, g43, g44, g45, g46, g47, g48, g49, g50, g51, g52, g53, g54, g55, g56, g57, g58, g60, g61, eq_self, not_true_eq_false, not_false_eq_true, List.nil_append, List.append_nil, List.length_nil, and_true, true_and, or_true, true_or, or_false, false_or, and_false, false_and, iff_self, if_true, if_false, lc_rt', lc_ex', lc_nx, g62, g63, Int.toNat_natCast, Int.natCast_add, nth_get, g33, g64, g65, Int.toNat_zero, Bool.false_eq_true, Int.reduceToNat, g66, law16_shown_spec, fewN_spec, hn, ho, ref16_Right_spec, rn]
    · simp (disch := first | assumption | omega | (dsimp only; omega) | decide) only [↓g02, ↓g03, ↓g04, ↓g05, ↓g06, g01, g02, g03, g04, g05, g06, g07, g08, g09, g10, g11, g12, g13, g14, g15, g16, g17, g18, g19, g20, g21, g22, g23, g24, g25, g26, g27, g28, g29, g30, g31, g32, g34, g35, g36, g37, g38, g39, g40, g41, g42, g43, g44, g45, g46, g47, g48, g49, g50, g51, g52, g53, g54, g55, g56, g57, g58, g60, g61, eq_self, not_true_eq_false, not_false_eq_true, List.nil_append, List.append_nil, List.length_nil, and_true, true_and, or_true, true_or, or_false, false_or, and_false, false_and, iff_self, if_true, if_false, lc_rt', lc_ex', lc_nx, g62, g63, Int.toNat_natCast, Int.natCast_add, nth_get, g33, g64, g65, Int.toNat_zero, Bool.false_eq_true, Int.reduceToNat, g66, law16_shown_spec, fewN_spec, hn, ho]
  · simp (disch := first | assumption | omega | (dsimp only; omega) | decide) only [↓g02, ↓g03, ↓g04, ↓g05, ↓g06, g01, g02, g03, g04, g05, g06, g07, g08, g09, g10, g11, g12, g13, g14, g15, g16, g17, g18, g19, g20, g21, g22, g23, g24, g25, g26, g27, g28, g29, g30, g31, g32, g34, g35, g36, g37, g38, g39, g40, g41, g42, g43, g44, g45, g46, g47, g48, g49, g50, g51, g52, g53, g54, g55, g56, g57, g58, g60, g61, eq_self, not_true_eq_false, not_false_eq_true, List.nil_append, List.append_nil, List.length_nil, and_true, true_and, or_true, true_or, or_false, false_or, and_false, false_and, iff_self, if_true, if_false, lc_rt', lc_ex', lc_nx, g62, g63, Int.toNat_natCast, Int.natCast_add, nth_get, g33, g64, g65, Int.toNat_zero, Bool.false_eq_true, Int.reduceToNat, g66, law16_shown_spec, fewN_spec, hn]
theorem nosF_drop {l : List V} {no : Int} : nosF (dropR l no) = (nosF l).filter (fun x => !(decide (x = no))) := by
  induction l with
  | nil => rfl
  | cons v r ih =>
    unfold dropR nosF at ih ⊢
    by_cases h : v.1 = no
    · rw [List.filter_cons_of_neg (by simp [h]), List.map_cons, List.filter_cons_of_neg (by simp [h]), ih]
    · rw [List.filter_cons_of_pos (by simp [h]), List.map_cons, List.map_cons, List.filter_cons_of_pos (by simp [h]), ih]
theorem nosN {n : N} : nosF (msgN n).2.1 = if n.1 = false then [11, 39, 70] else if n.2.1 = 101 then [11, 48, 53, 70, 96] else if n.2.1 = 201 then [11, 15, 70] else [11, 70] := by
  unfold msgN
  split
  · rfl
  · split
    · rfl
    · split <;> rfl
theorem mtiN {n : N} : (msgN n).1 = if n.1 = false then 810 else 800 := by
  unfold msgN
  split
  · rfl
  · split
    · rfl
    · split <;> rfl
theorem no_drop {n n' : N} (hr : rightN n) (hr' : rightN n') {no : Int} (hm : no ∈ nosF (msgN n).2.1) : ¬ msgN n' = ((msgN n).1, dropR (msgN n).2.1 no, ()) := by
  intro h
  have h1 : (msgN n').1 = (msgN n).1 := by rw [h]
  have hq : n'.1 = n.1 := by
    rw [mtiN, mtiN] at h1
    cases h2 : n'.1 <;> cases h3 : n.1 <;> simp [h2, h3] at h1 <;> rfl
  have hd : nosF (msgN n').2.1 = (nosF (msgN n).2.1).filter (fun x => !(decide (x = no))) := by rw [h]; exact nosF_drop
  have h70 : (70 : Int) ∈ nosF (msgN n').2.1 := by
    rw [nosN]
    repeat' split
    all_goals decide
  have hn70 : ¬ (70 : Int) = no := by
    intro he; rw [hd, ← he] at h70
    simp at h70
  have hc : n'.2.1 = n.2.1 := by
    have e1 : n'.2.1 = valD (gv (msgN n') 70) := congrArg (fun x : N => x.2.1) (rdN_back hr').symm
    have e2 : n.2.1 = valD (gv (msgN n) 70) := congrArg (fun x : N => x.2.1) (rdN_back hr).symm
    rw [e1, e2, h]
    unfold gv
    rw [getR_drop, if_neg hn70]
  have hs : nosF (msgN n').2.1 = nosF (msgN n).2.1 := by rw [nosN, nosN, hq, hc]
  rw [hs] at hd
  rw [hd] at hm
  simp at hm
theorem no_41 {n n' : N} {t : Int} {v : List UInt8} {l : List V} : ¬ msgN n' = (t, setR l (41, v, ()), ()) := by
  intro h
  have h1 : (41 : Int) ∈ nosF (msgN n').2.1 := by rw [h]; simp [nosF, setR]
  rw [nosN] at h1
  revert h1
  repeat' split
  all_goals decide
theorem rdN_no {m : M} (hr : rightM m = true) (h : ∀ n', rightN n' → ¬ msgN n' = m) : rdN (wrM m) = (noN, 2, ()) := by
  unfold rdN
  rw [rdM_self hr, if_pos rfl, if_neg fun hc => h _ hc.1 hc.2]
theorem nth_getD {α : Type} {l : List α} {i : Nat} {d : α} (h : i < l.length) : nth l i d = l[i] := by
  unfold nth
  simp [h]
theorem law16_NoteFields' (n : N) (k : UInt8) (v : List UInt8) : law16_NoteFields (n, k, v, ()) = some (true, ()) := by
  unfold law16_NoteFields
  by_cases hn : fewN n
  · by_cases rn : rightN n
    · by_cases hv : (v.length : Int) ≤ 50
      · have hb := rdN_back rn
        have hm := msgN_right rn
        have h9 := wrM_900 rn
        have hS := @no_drop n
        have hT := @no_41 n
        have hfew := msgN_few rn
        have hw := rdM_self hm
        have hself := rdN_wr rn
        have hmt : (msgN n).1 = if n.1 = false then 810 else 800 := mtiN
        have hL : 2 ≤ (nosF (msgN n).2.1).length ∧ (nosF (msgN n).2.1).length ≤ 5 := by
          rw [nosN]
          split
          · decide
          · split
            · decide
            · split <;> decide
        have hnl : (nosF (msgN n).2.1).length = (msgN n).2.1.length := by simp [nosF]
        rw [hnl] at hL
        have v70 : valD (gv (msgN n) 70) = n.2.1 := congrArg (fun x : N => x.2.1) hb
        have v11 : valD (gv (msgN n) 11) = n.2.2.1 := congrArg (fun x : N => x.2.2.1) hb
        have g4 := getR_400 hm
        have g1 := g4 70
        have g2 := g4 11
        obtain ⟨e1, x70⟩ := rvalue_spec (gv (msgN n) 70) (by unfold gv; omega)
        obtain ⟨e2, x11⟩ := rvalue_spec (gv (msgN n) 11) (by unfold gv; omega)
        rw [v70] at x70
        rw [v11] at x11
        unfold gv at x70 x11
        obtain ⟨i, hj0⟩ : ∃ i : Nat, k.toNat % (msgN n).2.1.length = i := ⟨_, rfl⟩
        have hi : i < (msgN n).2.1.length := by rw [← hj0]; exact Nat.mod_lt _ (by omega)
        have hk := k.toNat_lt
        have hj : imod (i64 (n8 k)) ((msgN n).2.1.length : Int) = (i : Int) := by
          rw [show n8 k = ((k.toNat : Nat) : Int) from rfl, i64_nat (by omega), imod_nat, hj0]
        have hmem : ((msgN n).2.1[i]).1 ∈ nosF (msgN n).2.1 := List.mem_map.2 ⟨_, List.getElem_mem hi, rfl⟩
        have hF := (rightM_iff.1 hm).1
        have ht := (rightM_iff.1 hm).2
        generalize hmm : msgN n = m at *
        obtain ⟨no, hno⟩ : ∃ no : Int, (m.2.1[i]).1 = no := ⟨_, rfl⟩
        rw [hno] at hmem
        have hd : ref07_Drop (m, no, ()) = some ((m.1, dropR m.2.1 no, ()), ()) := ref07_Drop_spec m no (by omega)
        have hR2 : rightM (m.1, dropR m.2.1 no, ()) = true := rightM_iff.2 ⟨dropR_right hF, ht⟩
        have hfl : (dropR m.2.1 no).length ≤ m.2.1.length := List.length_filter_le (fun u : V => !(decide (u.1 = no))) m.2.1
        have hfd : few (m.1, dropR m.2.1 no, ()) := ⟨by show (dropR m.2.1 no).length ≤ 40; omega, fun u hu => hfew.2 u (List.mem_filter.1 hu).1⟩
        have hwd : ref07_Write ((m.1, dropR m.2.1 no, ()), ()) = some (wrM (m.1, dropR m.2.1 no, ()), 0, ()) := by rw [ref07_Write_spec _ hfd.fewM, if_pos hR2]
        have hrd : note_Read (wrM (m.1, dropR m.2.1 no, ()), ()) = some (noN, 2, ()) := by
          rw [note_Read_spec _ (by have := (wrM_len hfd hR2).2; omega), rdN_no hR2 fun n' hn' => ?_]
          subst hmm
          exact hS rn hn' hmem
        have hw0 : ref07_Write (m, ()) = some (wrM m, 0, ()) := by rw [ref07_Write_spec _ hfew.fewM, if_pos hm]
        have g70 := ref07_Get_spec m 70 (by omega)
        have g11 := ref07_Get_spec m 11 (by omega)
        have hrm := ref07_Read_spec (wrM m) (by omega)
        have hnr := note_Read_spec (wrM m) (by omega)
        rw [hw] at hrm
        rw [hself] at hnr
        have hwn : note_Write (n, ()) = some (wrM m, 0, ()) := by rw [note_Write_spec, wrN_t rn, hmm]
        have hnth : (nth m.2.1 i (0, [], ())).1 = no := by rw [nth_getD hi]; exact hno
        have hset := ref07_Set_spec m 41 v (by omega) (by omega)
        have hmt2 : (m.1 = 800 ↔ n.1 = true) ∧ (m.1 = 800 ∨ m.1 = 810) := by
          rw [hmt]; cases n.1 <;> simp
        have hx : D (m.1 = 800) = n.1 := by
          cases hq : n.1
          · exact D_f (by rw [hmt2.1, hq]; simp)
          · exact D_t (by rw [hmt2.1, hq])
        have hbd : band (bnot n.1) (D (¬ m.1 = 810)) = false := by
          cases hq : n.1
          · rw [hq, if_pos rfl] at hmt
            rw [D_f (fun h => h hmt)]; rfl
          · rfl
        cases hfv : fitsD 41 v
        · have hs : setRD m 41 v = (m, 1, ()) := by unfold setRD; rw [fo41, if_neg (by simp), hfv, if_neg (by simp)]
          rw [hs] at hset
          simp (disch := first | assumption | omega | (dsimp only; omega) | decide) only [↓g02, ↓g03, ↓g04, ↓g05, ↓g06, g01, g02, g03, g04, g05, g06, g07, g08, g09, g10, g11, g12, g13, g14, g15, g16, g17, g18, g19, g20, g21, g22, g23, g24, g25, g26, g27, g28, g29, g30, g31, g32, g34, g35, g36, g37, g38, g39, g40, g41, g42, g43, g44, g45, g46, g47, g48, g49, g50, g51, g52, g53, g54, g55, g56, g57, g58, g60, g61, eq_self, not_true_eq_false, not_false_eq_true, List.nil_append, List.append_nil, List.length_nil, and_true, true_and, or_true, true_or, or_false, false_or, and_false, false_and, iff_self, if_true, if_false, lc_rt', lc_ex', lc_nx, g62, g63, Int.toNat_natCast, Int.natCast_add, nth_get, g33, g64, g65, Int.toNat_zero, Bool.false_eq_true, Int.reduceToNat, g66, law16_shown_spec, fewN_spec, hn, rn, ref16_Right_spec, hwn, hrm, g70, g11, x70, x11, hj, hnth, hd, hwd, hrd, hset, hw0, hnr, hx, hbd, hi, hno]
        · have hs : setRD m 41 v = ((m.1, setR m.2.1 (41, v, ()), ()), 0, ()) := by unfold setRD; rw [fo41, if_neg (by simp), hfv, if_pos rfl]
          rw [hs] at hset
          have hF1 : rightF 0 (setR m.2.1 (41, v, ())) = true := setR_right hfv (by show (0 : Int) < 41; omega) hF
          have hR1 : rightM (m.1, setR m.2.1 (41, v, ()), ()) = true := rightM_iff.2 ⟨hF1, ht⟩
          have hls : (setR m.2.1 (41, v, ())).length ≤ 40 := by
            have h1 := List.length_filter_le (fun u : V => decide (u.1 < 41)) m.2.1
            have h2 := List.length_filter_le (fun u : V => decide (41 < u.1)) m.2.1
            unfold setR
            simp only [List.length_append, List.length_cons]; omega
          have hf1 : few (m.1, setR m.2.1 (41, v, ()), ()) := ⟨hls, fun u hu => by
            have := fits_400 (rightF_mem hF1 u hu).2
            omega⟩
          have hw1 : ref07_Write ((m.1, setR m.2.1 (41, v, ()), ()), ()) = some (wrM (m.1, setR m.2.1 (41, v, ()), ()), 0, ()) := by rw [ref07_Write_spec _ hf1.fewM, if_pos hR1]
          have hr1 : note_Read (wrM (m.1, setR m.2.1 (41, v, ()), ()), ()) = some (noN, 2, ()) := by
            rw [note_Read_spec _ (by have := (wrM_len hf1 hR1).2; omega), rdN_no hR1 fun n' hn' => ?_]
            exact no_41 (n := n)
          simp (disch := first | assumption | omega | (dsimp only; omega) | decide) only [↓g02, ↓g03, ↓g04, ↓g05, ↓g06, g01, g02, g03, g04, g05, g06, g07, g08, g09, g10, g11, g12, g13, g14, g15, g16, g17, g18, g19, g20, g21, g22, g23, g24, g25, g26, g27, g28, g29, g30, g31, g32, g34, g35, g36, g37, g38, g39, g40, g41, g42, g43, g44, g45, g46, g47, g48, g49, g50, g51, g52, g53, g54, g55, g56, g57, g58, g60, g61, eq_self, not_true_eq_false, not_false_eq_true, List.nil_append, List.append_nil, List.length_nil, and_true, true_and, or_true, true_or, or_false, false_or, and_false, false_and, iff_self, if_true, if_false, lc_rt', lc_ex', lc_nx, g62, g63, Int.toNat_natCast, Int.natCast_add, nth_get, g33, g64, g65, Int.toNat_zero, Bool.false_eq_true, Int.reduceToNat, g66, law16_shown_spec, fewN_spec, hn, rn, ref16_Right_spec, hwn, hrm, g70, g11, x70, x11, hj, hnth, hd, hwd, hrd, hset, hw1, hr1, hx, hbd, hi, hno]
      · simp (disch := first | assumption | omega | (dsimp only; omega) | decide) only [↓g02, ↓g03, ↓g04, ↓g05, ↓g06, g01, g02, g03, g04, g05, g06, g07, g08, g09, g10, g11, g12, g13, g14, g15, g16, g17, g18, g19, g20, g21, g22, g23, g24, g25, g26, g27, g28, g29, g30, g31, g32, g34, g35, g36, g37, g38, g39, g40, g41, g42, g43, g44, g45, g46, g47, g48, g49, g50, g51, g52, g53, g54, g55, g56, g57, g58, g60, g61, eq_self, not_true_eq_false, not_false_eq_true, List.nil_append, List.append_nil, List.length_nil, and_true, true_and, or_true, true_or, or_false, false_or, and_false, false_and, iff_self, if_true, if_false, lc_rt', lc_ex', lc_nx, g62, g63, Int.toNat_natCast, Int.natCast_add, nth_get, g33, g64, g65, Int.toNat_zero, Bool.false_eq_true, Int.reduceToNat, g66, law16_shown_spec, fewN_spec, hn, ref16_Right_spec, rn]
    · simp (disch := first | assumption | omega | (dsimp only; omega) | decide) only [↓g02, ↓g03, ↓g04, ↓g05, ↓g06, g01, g02, g03, g04, g05, g06, g07, g08, g09, g10, g11, g12, g13, g14, g15, g16, g17, g18, g19, g20, g21, g22, g23, g24, g25, g26, g27, g28, g29, g30, g31, g32, g34, g35, g36, g37, g38, g39, g40, g41, g42, g43, g44, g45, g46, g47, g48, g49, g50, g51, g52, g53, g54, g55, g56, g57, g58, g60, g61, eq_self, not_true_eq_false, not_false_eq_true, List.nil_append, List.append_nil, List.length_nil, and_true, true_and, or_true, true_or, or_false, false_or, and_false, false_and, iff_self, if_true, if_false, lc_rt', lc_ex', lc_nx, g62, g63, Int.toNat_natCast, Int.natCast_add, nth_get, g33, g64, g65, Int.toNat_zero, Bool.false_eq_true, Int.reduceToNat, g66, law16_shown_spec, fewN_spec, hn, ref16_Right_spec, rn]
  · simp (disch := first | assumption | omega | (dsimp only; omega) | decide) only [↓g02, ↓g03, ↓g04, ↓g05, ↓g06, g01, g02, g03, g04, g05, g06, g07, g08, g09, g10, g11, g12, g13, g14, g15, g16, g17, g18, g19, g20, g21, g22, g23, g24, g25, g26, g27, g28, g29, g30, g31, g32, g34, g35, g36, g37, g38, g39, g40, g41, g42, g43, g44, g45, g46, g47, g48, g49, g50, g51, g52, g53, g54, g55, g56, g57, g58, g60, g61, eq_self, not_true_eq_false, not_false_eq_true, List.nil_append, List.append_nil, List.length_nil, and_true, true_and, or_true, true_or, or_false, false_or, and_false, false_and, iff_self, if_true, if_false, lc_rt', lc_ex', lc_nx, g62, g63, Int.toNat_natCast, Int.natCast_add, nth_get, g33, g64, g65, Int.toNat_zero, Bool.false_eq_true, Int.reduceToNat, g66, law16_shown_spec, fewN_spec, hn]
theorem law16_NoteTells_true (x : denL [.pair .bool (.pair (.int .i64) (.pair (.int .i64) (.pair (.int .i64) (.pair (.int .i64) (.pair (.sl (.int .u8)) (.pair (.sl (.int .u8)) (.pair (.int .i64) .unit))))))), .pair .bool (.pair (.int .i64) (.pair (.int .i64) (.pair (.int .i64) (.pair (.int .i64) (.pair (.sl (.int .u8)) (.pair (.sl (.int .u8)) (.pair (.int .i64) .unit))))))), .int .i64]) (_ : okL [.pair .bool (.pair (.int .i64) (.pair (.int .i64) (.pair (.int .i64) (.pair (.int .i64) (.pair (.sl (.int .u8)) (.pair (.sl (.int .u8)) (.pair (.int .i64) .unit))))))), .pair .bool (.pair (.int .i64) (.pair (.int .i64) (.pair (.int .i64) (.pair (.int .i64) (.pair (.sl (.int .u8)) (.pair (.sl (.int .u8)) (.pair (.int .i64) .unit))))))), .int .i64] x) : law16_NoteTells x = some (true, ()) := law16_NoteTells' x.1 x.2.1 x.2.2.1
theorem law16_NoteReads_true (x : denL [.sl (.int .u8)]) (_ : okL [.sl (.int .u8)] x) : law16_NoteReads x = some (true, ()) := law16_NoteReads' x.1
theorem law16_NoteBack_true (x : denL [.pair .bool (.pair (.int .i64) (.pair (.int .i64) (.pair (.int .i64) (.pair (.int .i64) (.pair (.sl (.int .u8)) (.pair (.sl (.int .u8)) (.pair (.int .i64) .unit))))))), .sl (.int .u8)]) (_ : okL [.pair .bool (.pair (.int .i64) (.pair (.int .i64) (.pair (.int .i64) (.pair (.int .i64) (.pair (.sl (.int .u8)) (.pair (.sl (.int .u8)) (.pair (.int .i64) .unit))))))), .sl (.int .u8)] x) : law16_NoteBack x = some (true, ()) := law16_NoteBack' x.1 x.2.1
theorem law16_NoteAnswers_true (x : denL [.pair .bool (.pair (.int .i64) (.pair (.int .i64) (.pair (.int .i64) (.pair (.int .i64) (.pair (.sl (.int .u8)) (.pair (.sl (.int .u8)) (.pair (.int .i64) .unit))))))), .pair .bool (.pair (.int .i64) (.pair (.int .i64) (.pair (.int .i64) (.pair (.int .i64) (.pair (.sl (.int .u8)) (.pair (.sl (.int .u8)) (.pair (.int .i64) .unit))))))), .int .i64]) (_ : okL [.pair .bool (.pair (.int .i64) (.pair (.int .i64) (.pair (.int .i64) (.pair (.int .i64) (.pair (.sl (.int .u8)) (.pair (.sl (.int .u8)) (.pair (.int .i64) .unit))))))), .pair .bool (.pair (.int .i64) (.pair (.int .i64) (.pair (.int .i64) (.pair (.int .i64) (.pair (.sl (.int .u8)) (.pair (.sl (.int .u8)) (.pair (.int .i64) .unit))))))), .int .i64] x) : law16_NoteAnswers x = some (true, ()) := law16_NoteAnswers' x.1 x.2.1 x.2.2.1
theorem law16_NoteFields_true (x : denL [.pair .bool (.pair (.int .i64) (.pair (.int .i64) (.pair (.int .i64) (.pair (.int .i64) (.pair (.sl (.int .u8)) (.pair (.sl (.int .u8)) (.pair (.int .i64) .unit))))))), .int .u8, .sl (.int .u8)]) (_ : okL [.pair .bool (.pair (.int .i64) (.pair (.int .i64) (.pair (.int .i64) (.pair (.int .i64) (.pair (.sl (.int .u8)) (.pair (.sl (.int .u8)) (.pair (.int .i64) .unit))))))), .int .u8, .sl (.int .u8)] x) : law16_NoteFields x = some (true, ()) := law16_NoteFields' x.1 x.2.1 x.2.2.1
end Yp