/- A part of the proof of DigBack. -/
import Derived.Test.YtkmimlgogeeooaaYqS9
set_option linter.unusedVariables false
set_option linter.unusedSimpArgs false
namespace Yp
open Go
def vl (B : Nat) (wt : UInt8 → Nat) (l : List UInt8) : Nat := l.foldl (fun n c => B * n + wt c) 0
theorem vl_snoc (B : Nat) (wt : UInt8 → Nat) (l : List UInt8) (c : UInt8) : vl B wt (l ++ [c]) = B * vl B wt l + wt c := by
  unfold vl; rw [List.foldl_append]; rfl
theorem ps_snoc (B : Nat) (g : Nat → UInt8) (v : Nat) : ∀ n, ps B g v (n + 1) = ps B g (v / B) n ++ [g (v % B)]
  | 0 => by simp [ps]
  | n + 1 => by
    have e : ps B g v (n + 1 + 1) = g (v / B ^ (n + 1) % B) :: ps B g v (n + 1) := rfl
    have e2 : ps B g (v / B) (n + 1) = g (v / B / B ^ n % B) :: ps B g (v / B) n := rfl
    rw [e, ps_snoc B g v n, e2, Nat.div_div_eq_div_mul, Nat.pow_succ', List.cons_append]
theorem vl_ps {B : Nat} {g : Nat → UInt8} {wt : UInt8 → Nat} (hB : 0 < B) (h : ∀ d, d < B → wt (g d) = d) : ∀ (n v : Nat), vl B wt (ps B g v n) = v % B ^ n
  | 0, v => by simp [ps, vl, Nat.mod_one]
  | n + 1, v => by
    rw [ps_snoc, vl_snoc, vl_ps hB h n, h _ (Nat.mod_lt _ hB), Nat.pow_succ', Nat.mod_mul]
    omega
theorem ps_vl {B : Nat} {g : Nat → UInt8} {wt : UInt8 → Nat} {l : List UInt8} (h : ∀ c ∈ l, wt c < B ∧ g (wt c) = c) : ∀ i, i ≤ l.length → ps B g (vl B wt (l.take i)) i = l.take i
  | 0, _ => by simp [ps]
  | i + 1, hi => by
    have hc := h _ (List.getElem_mem (show i < l.length by omega))
    rw [List.take_succ_eq_append_getElem (by omega), vl_snoc, ps_snoc]
    have e1 : (B * vl B wt (l.take i) + wt l[i]) / B = vl B wt (l.take i) := by
      rw [Nat.mul_add_div (by omega), Nat.div_eq_of_lt hc.1]; omega
    have e2 : (B * vl B wt (l.take i) + wt l[i]) % B = wt l[i] := by
      rw [Nat.mul_add_mod, Nat.mod_eq_of_lt hc.1]
    rw [e1, e2, ps_vl h i (by omega), hc.2]
theorem bev_vl (l : List UInt8) : bev l = vl 256 UInt8.toNat l := rfl
theorem val_vl (l : List UInt8) : val l = vl 10 dv l := rfl
theorem bev_ps (v n : Nat) : bev (ps 256 byt v n) = v % 256 ^ n := by
  rw [bev_vl]
  refine vl_ps (by omega) (fun d hd => ?_) n v
  simp only [byt, UInt8.toNat_ofNat']; omega
theorem val_ps (v n : Nat) : val (ps 10 dch v n) = v % 10 ^ n := by
  rw [val_vl]
  refine vl_ps (by omega) (fun d hd => ?_) n v
  simp only [dv, dch, UInt8.toNat_ofNat']; omega
theorem ps_bev (l : List UInt8) : ps 256 byt (bev l) l.length = l := by
  have := ps_vl (B := 256) (g := byt) (wt := UInt8.toNat) (l := l) (fun c _ => ⟨n8_lt c, ofNat_toNat c⟩) l.length (Nat.le_refl _)
  rw [List.take_length] at this; exact this
theorem ps_val {l : List UInt8} (hf : figs l) : ps 10 dch (val l) l.length = l := by
  have := ps_vl (B := 10) (g := dch) (wt := dv) (l := l) (fun c hc => by
    obtain ⟨i, hi, rfl⟩ := List.getElem_of_mem hc
    have := dig_split (hf i hi)
    exact ⟨this.2, this.1.symm⟩) l.length (Nat.le_refl _)
  rw [List.take_length] at this; exact this
theorem bev_lt_pow (l : List UInt8) : bev l < 256 ^ l.length := by
  have := bev_lt (s := l) l.length (Nat.le_refl _)
  rw [List.take_length] at this; exact this
theorem val_lt_pow {l : List UInt8} (hf : figs l) : val l < 10 ^ l.length := by
  have := val_lt (s := l) l.length (Nat.le_refl _) (fun j _ h => hf j h)
  rw [List.take_length] at this; exact this
/-! ### pairs of signs -/
theorem hexOf_get {b : List UInt8} : ∀ {i : Nat} (h : i < b.length), nth (hexOf b) (2 * i) (u8 0) = nib (b[i].toNat / 16) ∧ nth (hexOf b) (2 * i + 1) (u8 0) = nib (b[i].toNat % 16) := by
  induction b with
  | nil => intro i h; simp at h
  | cons x r ih =>
    intro i h
    have e : hexOf (x :: r) = nib (x.toNat / 16) :: nib (x.toNat % 16) :: hexOf r := rfl
    cases i with
    | zero => rw [e]; exact ⟨rfl, rfl⟩
    | succ i =>
      have := ih (i := i) (by simpa using h)
      rw [e]
      exact this
/-- a row that is told pair by pair -/
theorem pairs_ext {a b : List UInt8} {k : Nat} (ha : a.length = 2 * k) (hb : b.length = 2 * k) (h : ∀ i, i < k → nth a (2 * i) (u8 0) = nth b (2 * i) (u8 0) ∧ nth a (2 * i + 1) (u8 0) = nth b (2 * i + 1) (u8 0)) : a = b := by
  apply List.ext_getElem
  · omega
  · intro j h1 h2
    have := h (j / 2) (by omega)
    by_cases hp : j % 2 = 0
    · have := this.1
      rw [show 2 * (j / 2) = j by omega, nth_get h1, nth_get h2] at this; exact this
    · have := this.2
      rw [show 2 * (j / 2) + 1 = j by omega, nth_get h1, nth_get h2] at this; exact this
theorem nib_dv : ∀ d : Nat, d < 16 → isFig (nib d) → dv (nib d) = d := by decide +kernel
theorem dv_nib : ∀ d : Nat, d < 10 → nib d = UInt8.ofNat (48 + d) := by decide +kernel
theorem hval_nib : ∀ c : UInt8, isHex c → nib (hval c) = c := all8 (by decide +kernel)
theorem nib_hval : ∀ d : Nat, d < 16 → isHex (nib d) ∧ hval (nib d) = d := by decide +kernel
theorem hexOf_bcd {p : List UInt8} (hf : figs p) (he : p.length % 2 = 0) : hexOf (bcd p) = p := by
  have hl : (bcd p).length = p.length / 2 := by simp [bcd]
  refine pairs_ext (k := p.length / 2) (by rw [hexOf_length, hl]) (by omega) fun i hi => ?_
  have hi' : i < (bcd p).length := by omega
  have h0 : 2 * i < p.length := by omega
  have h1 : 2 * i + 1 < p.length := by omega
  obtain ⟨e1, e2⟩ := hexOf_get hi'
  obtain ⟨a1, a2⟩ := dig_split (hf _ h0)
  obtain ⟨b1, b2⟩ := dig_split (hf _ h1)
  have hg : (bcd p)[i] = UInt8.ofNat (16 * dv p[2 * i] + dv p[2 * i + 1]) := by simp [bcd, dat, nth_get h0, nth_get h1]
  have hn : (bcd p)[i].toNat = 16 * dv p[2 * i] + dv p[2 * i + 1] := by rw [hg, UInt8.toNat_ofNat']; omega
  rw [e1, e2, hn, nth_get h0, nth_get h1]
  rw [show (16 * dv p[2 * i] + dv p[2 * i + 1]) / 16 = dv p[2 * i] by omega, show (16 * dv p[2 * i] + dv p[2 * i + 1]) % 16 = dv p[2 * i + 1] by omega]
  rw [dv_nib _ a2, dv_nib _ b2]
  exact ⟨a1.symm, b1.symm⟩
theorem bcd_hexOf {u : List UInt8} (hf : figs (hexOf u)) : bcd (hexOf u) = u := by
  have hl := hexOf_length u
  apply List.ext_getElem
  · simp [bcd]; omega
  · intro i h1 h2
    obtain ⟨e1, e2⟩ := hexOf_get h2
    have f0 := hf (2 * i) (by omega)
    have f1 := hf (2 * i + 1) (by omega)
    rw [← nth_get (d := u8 0)] at f0 f1
    rw [e1] at f0; rw [e2] at f1
    have hu := n8_lt u[i]
    simp only [bcd, List.getElem_map, List.getElem_range, dat, e1, e2]
    rw [nib_dv _ (by omega) f0, nib_dv _ (by omega) f1]
    apply UInt8.toNat_inj.1
    rw [UInt8.toNat_ofNat']; omega
theorem hexy_hexOf (b : List UInt8) : hexy (hexOf b) := by
  have hl := hexOf_length b
  refine (hexy_of (k := b.length) (by omega)).1 fun i hi => ?_
  obtain ⟨e1, e2⟩ := hexOf_get hi
  have hu := n8_lt b[i]
  rw [e1, e2]
  exact ⟨(nib_hval _ (by omega)).1, (nib_hval _ (by omega)).1⟩
theorem unh_hexOf (b : List UInt8) : unh (hexOf b) = b := by
  have hl := hexOf_length b
  apply List.ext_getElem
  · simp [unh]; omega
  · intro i h1 h2
    obtain ⟨e1, e2⟩ := hexOf_get h2
    have hu := n8_lt b[i]
    simp only [unh, List.getElem_map, List.getElem_range, e1, e2]
    rw [(nib_hval _ (by omega)).2, (nib_hval _ (by omega)).2]
    apply UInt8.toNat_inj.1
    rw [UInt8.toNat_ofNat']; omega
theorem hexOf_unh {s : List UInt8} (h : hexy s) (he : s.length % 2 = 0) : hexOf (unh s) = s := by
  have hl : (unh s).length = s.length / 2 := by simp [unh]
  refine pairs_ext (k := s.length / 2) (by rw [hexOf_length, hl]) (by omega) fun i hi => ?_
  have hi' : i < (unh s).length := by omega
  have h0 : 2 * i < s.length := by omega
  have h1 : 2 * i + 1 < s.length := by omega
  obtain ⟨e1, e2⟩ := hexOf_get hi'
  have a2 := hval_lt _ (h _ h0)
  have b2 := hval_lt _ (h _ h1)
  have hg : (unh s)[i] = UInt8.ofNat (16 * hval s[2 * i] + hval s[2 * i + 1]) := by simp [unh, nth_get h0, nth_get h1]
  have hn : (unh s)[i].toNat = 16 * hval s[2 * i] + hval s[2 * i + 1] := by rw [hg, UInt8.toNat_ofNat']; omega
  rw [e1, e2, hn, nth_get h0, nth_get h1]
  rw [show (16 * hval s[2 * i] + hval s[2 * i + 1]) / 16 = hval s[2 * i] by omega, show (16 * hval s[2 * i] + hval s[2 * i + 1]) % 16 = hval s[2 * i + 1] by omega]
  exact ⟨hval_nib _ (h _ h0), hval_nib _ (h _ h1)⟩
end Yp
