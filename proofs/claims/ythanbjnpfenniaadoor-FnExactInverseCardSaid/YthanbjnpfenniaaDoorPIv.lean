/- The polynomial with given values: both sides. -/
import Derived.Test.YthanbjnpfenniaaDoorPPl
import Derived.Test.YthanbjnpfenniaaDoorPPoly
import Derived.Test.YthanbjnpfenniaaDoorPInv
import Derived.Test.YthanbjnpfenniaaDoorEqIv
namespace Go.Proofs.YthanbjnpfenniaaDoor.Fw
open Go Go.RowKit
set_option linter.unusedVariables false

/-- What p does not divide. -/
theorem not_dvd_small {p a : Int} (h0 : 0 < a) (h1 : a < p) : ¬ p ∣ a := fun h => by
  have := Int.le_of_dvd h0 h
  omega
theorem pow_one_mod {p w : Int} (hp : 1 < p) {k : Nat} (h : w ^ k % p = 1) : ∀ t, w ^ (k * t) % p = 1
  | 0 => by rw [Nat.mul_zero, Int.pow_zero]; exact Int.emod_eq_of_lt (by omega) hp
  | t + 1 => by rw [Nat.mul_succ, Int.pow_add, Int.mul_emod, pow_one_mod hp h t, h, Int.one_mul]; exact Int.emod_eq_of_lt (by omega) hp
theorem inv_pow {p w b : Int} (hp : 1 < p) (h : w * b % p = 1) (k : Nat) : w ^ k * b ^ k % p = 1 := by
  rw [← Int.mul_pow]
  have := pow_one_mod (w := w * b) (k := 1) hp (by rwa [Int.pow_succ, Int.pow_zero, Int.one_mul]) k
  rwa [Nat.one_mul] at this
theorem unit_cancel {p a x y : Int} (hp : 1 < p) (hx : a * x % p = 1) (hy : a * y % p = 1) : x % p = y % p := by
  have e1 : x * (a * y) % p = x % p := by rw [← mul_mod_r, hy, Int.mul_one]
  have e2 : y * (a * x) % p = y % p := by rw [← mul_mod_r, hx, Int.mul_one]
  refine e1.symm.trans (Eq.trans ?_ e2)
  congr 1
  rw [← Int.mul_assoc, ← Int.mul_assoc, Int.mul_comm x a, Int.mul_comm y a, Int.mul_assoc, Int.mul_assoc, Int.mul_comm x y]
/-- A power of the root with the opposite exponent is the inverse's power. -/
theorem root_neg {p w b : Int} (hp : 1 < p) {n2 : Nat} (h2 : 0 < n2) (hw : w ^ n2 % p = 1) (hb : w * b % p = 1) (k : Nat) : w ^ ((-(k : Int)) % (n2 : Int)).toNat % p = b ^ k % p := by
  refine unit_cancel (a := w ^ k) hp ?_ (inv_pow hp hb k)
  rw [← Int.pow_add]
  have e : ∃ t, k + ((-(k : Int)) % (n2 : Int)).toNat = n2 * t := by
    have h1 : 0 ≤ (-(k : Int)) % (n2 : Int) := Int.emod_nonneg _ (by omega)
    have h3 : ((n2 : Int)) ∣ (k : Int) + (-(k : Int)) % (n2 : Int) := by
      apply Int.dvd_of_emod_eq_zero
      rw [Int.add_emod_emod, Int.add_right_neg]; simp
    obtain ⟨t, ht⟩ := h3
    have ht0 : 0 ≤ t := by
      by_cases c : 0 ≤ t
      · exact c
      · have : (n2 : Int) * t ≤ (n2 : Int) * (-1) := Int.mul_le_mul_of_nonneg_left (by omega) (by omega)
        omega
    refine ⟨t.toNat, ?_⟩
    have : ((n2 * t.toNat : Nat) : Int) = (n2 : Int) * t := by push_cast; rw [Int.toNat_of_nonneg ht0]
    omega
  obtain ⟨t, ht⟩ := e
  rw [ht]
  exact pow_one_mod hp hw t
/-- A ring's facts. -/
structure RingF (p : Int) (m : Nat) (w : Int) : Prop where
  pr : primeB p = true
  n : m = 2 ∨ m = 4 ∨ m = 8 ∨ m = 16
  big : (m : Int) < p
  w0 : 0 < w
  w1 : w < p
  rt : w ^ (2 * m) % p = 1
theorem ring_f {p w : Int} {m : Nat} (h : RingB p m w) : RingF p m w := by
  have hn := h.n
  have hr := (primeB_iff.1 h.pr).1
  obtain ⟨r0, r1, r2⟩ := h.rt
  have hm : m = 2 ∨ m = 4 ∨ m = 8 ∨ m = 16 := by omega
  refine ⟨h.pr, hm, ?_, r0, r1, ?_⟩
  · have hd := Int.dvd_of_emod_eq_zero h.dv
    have := Int.le_of_dvd (by omega) hd
    omega
  · rw [show (2 * (m : Int)).toNat = 2 * m by omega] at r2
    exact r2
noncomputable def sumI (p w : Int) (m : Nat) (f : List Int) (j : Nat) : Int := foldN (fun k s => (s + f.getD k 0 * (w ^ ((-((ptAt m k * j : Nat) : Int)) % ((2 * m : Nat) : Int)).toNat % p)) % p) 0 m 0
theorem mod_pow_rng {p x : Int} (hp : 0 < p) : 0 ≤ x % p ∧ x % p < p := ⟨Int.emod_nonneg _ (by omega), Int.emod_lt_of_pos _ hp⟩
theorem ptsP_get {m k : Nat} (h : k < m) : (ptsP m).getD k 0 = (ptAt m k : Int) := by
  unfold ptsP
  rw [getD_get (by rw [idxL_length]; exact h), idxL_get, Nat.zero_add]
theorem ptsP_len (m : Nat) : (ptsP m).length = m := by unfold ptsP; rw [idxL_length]
theorem inverse_ring {p w : Int} {m : Nat} (hR : RingF p m w) {f : List Int} (hf : PolyOK p m f) : ∃ r : List Int, PolyOK p m r ∧ (∀ n, Big + 9 ≤ n → c_impl_polynomial (run tb orc n) f w p (ptsP m) = some r) ∧ (∀ n, Big + 9 ≤ n → c_spec_l3Inverse (run tb orc n) p m w f = some r) := by
  have hbig := big_ge
  have hr := (primeB_iff.1 hR.pr).1
  have hm := hR.n
  have hbg := hR.big
  have lf := hf.len
  obtain ⟨by_, b0, b1, b2, b3⟩ := inverse_both (a := (m : Int)) hr.1 hr.2 (coprime_pr hR.pr (not_dvd_small (by omega) hbg))
  obtain ⟨bk, k0, k1, k2, k3⟩ := inverse_both (a := w) hr.1 hr.2 (coprime_pr hR.pr (not_dvd_small hR.w0 hR.w1))
  have hw0 := hR.w0
  have hw1 := hR.w1
  have inv : ∀ (k : Nat) (s : Int), 0 ≤ s ∧ s < p → ∀ j, 0 ≤ (s + f.getD k 0 * (w ^ ((-((ptAt m k * j : Nat) : Int)) % ((2 * m : Nat) : Int)).toNat % p)) % p ∧ (s + f.getD k 0 * (w ^ ((-((ptAt m k * j : Nat) : Int)) % ((2 * m : Nat) : Int)).toNat % p)) % p < p := fun k s _ j => mod_pow_rng (by omega)
  have hs : ∀ j, 0 ≤ sumI p w m f j ∧ sumI p w m f j < p := fun j => fold_inv (P := fun s => 0 ≤ s ∧ s < p) (fun k s h => inv k s h j) m 0 0 ⟨by omega, by omega⟩
  have pe : ∀ k j : Nat, j < m → (ptAt m k * j : Nat) ≤ 1000 := fun k j hj => by
    have := (pt_rng (k := k) hm).2
    have h1 : ptAt m k * j ≤ 32 * 16 := Nat.mul_le_mul (by omega) (by omega)
    omega
  refine ⟨idxL (fun j => sumI p w m f j * by_ % p) 0 m, poly_idx fun j _ => mod_pow_rng (by omega), fun n hn => ?_, fun n hn => ?_⟩
  · obtain ⟨n, rfl, hq⟩ := up (k := 8) hn
    rw [impl_polynomial_eq]; unfold impl_polynomial_f impl_polynomial_x
    rw [lf, (b3 n (by omega)).1]
    simp only [Option.bind_some]
    refine (map_idx (fun i out => (i, out)) (fun j => sumI p w m f j * by_ % p) (fun out => some out) (len := m) (G := impl_polynomial_g1 (run tb orc n) n f w p (ptsP m) (by_, true)) (fun self j out hj ho => ?_) (fun self out ho => ?_) m 0 [] (by omega) rfl n (by omega)).trans rfl
    · show impl_polynomial_x1 _ _ _ _ _ _ _ _ _ = _
      unfold impl_polynomial_x1
      dsimp only
      rw [if_pos (by omega)]
      refine (fold_idx (fun k s => ((s, k) : Int × Int)) (fun k s => (s + f.getD k 0 * (w ^ ((-((ptAt m k * j : Nat) : Int)) % ((2 * m : Nat) : Int)).toNat % p)) % p) (fun _ s => 0 ≤ s ∧ s < p) (fun s => self (((j + 1 : Nat) : Int), out ++ [s * by_ % p])) (len := m) (G := impl_polynomial_g2 (run tb orc n) n self f w p (ptsP m) (by_, true) ((j : Int), out)) (fun self2 k s hk hv => ⟨inv k s hv j, ?_⟩) (fun self2 s hv => ?_) m 0 0 (by omega) ⟨by omega, by omega⟩ n (by omega)).1
      · show impl_polynomial_x2 _ _ _ _ _ _ _ _ _ _ = _
        unfold impl_polynomial_x2
        dsimp only
        have hpl := ptsP_len m
        have rf := hf.rng k (by omega)
        have rx := mod_pow_rng (x := w ^ ((-((ptAt m k * j : Nat) : Int)) % ((2 * m : Nat) : Int)).toNat) (by omega : 0 < p)
        have q := mul_small rf.1 (by omega) rx.1 (by omega)
        have pb := (pt_rng (k := k) hm).2
        have pj := pe k j hj
        have ee : -(ptAt m k : Int) * (j : Int) = -((ptAt m k * j : Nat) : Int) := by push_cast; rw [Int.neg_mul]
        rw [if_pos (by omega), if_pos (by omega), if_pos (by omega), if_pos (by omega), if_pos (by omega), nat_i, ptsP_get hk, w64 (n := 0 - (ptAt m k : Int)) (by omega) (by omega), Int.zero_sub, ee, w64 (n := -((ptAt m k * j : Nat) : Int)) (by omega) (by omega), lf, w64 (n := 2 * (m : Int)) (by omega) (by omega), show 2 * (m : Int) = ((2 * m : Nat) : Int) by push_cast; rfl, mod_ret (by omega) (by omega) (by omega)]
        simp only [Option.bind_some]
        have e0 : 0 ≤ (-((ptAt m k * j : Nat) : Int)) % ((2 * m : Nat) : Int) := Int.emod_nonneg _ (by omega)
        have e1 : (-((ptAt m k * j : Nat) : Int)) % ((2 * m : Nat) : Int) < ((2 * m : Nat) : Int) := Int.emod_lt_of_pos _ (by omega)
        rw [pow_ret (by omega) e0 (by omega) (by omega) (by omega)]
        simp only [Option.bind_some]
        rw [if_neg (by omega), w64 (n := f.getD k 0 * (w ^ ((-((ptAt m k * j : Nat) : Int)) % ((2 * m : Nat) : Int)).toNat % p)) (by omega) (by omega), w64 (n := s + f.getD k 0 * (w ^ ((-((ptAt m k * j : Nat) : Int)) % ((2 * m : Nat) : Int)).toNat % p)) (by omega) (by omega), tmod_nn (by omega), w64 (by omega) (by omega), ni1]
      · show impl_polynomial_x2 _ _ _ _ _ _ _ _ _ _ = _
        unfold impl_polynomial_x2
        dsimp only
        have hpl := ptsP_len m
        have q := mul_small hv.1 (by omega) b0 (by omega)
        rw [if_neg (by omega), if_neg (by omega), if_pos (by rw [List.length_singleton]; exact lim_lt (by omega)), w64 (n := s * by_) (by omega) (by omega), tmod_nn q.1, w64 (by omega) (by omega), ni1]
    · show impl_polynomial_x1 _ _ _ _ _ _ _ _ _ = _
      unfold impl_polynomial_x1
      dsimp only
      rw [if_neg (by omega)]
  · obtain ⟨n, rfl, hq⟩ := up (k := 8) hn
    rw [spec_l3Inverse_eq]; unfold spec_l3Inverse_f spec_l3Inverse_x
    rw [(k3 n (by omega)).2]
    simp only [Option.bind_some]
    rw [(b3 n (by omega)).2]
    simp only [Option.bind_some]
    rw [points_ret (by omega) hm]
    simp only [Option.bind_some]
    refine (map_idx (fun i out => (i, out)) (fun j => sumI p w m f j * by_ % p) (fun out => some out) (len := m) (G := spec_l3Inverse_g1 (run tb orc n) n p m w f bk by_ (ptsP m)) (fun self j out hj ho => ?_) (fun self out ho => ?_) m 0 [] (by omega) rfl n (by omega)).trans rfl
    · show spec_l3Inverse_x1 _ _ _ _ _ _ _ _ _ _ _ = _
      unfold spec_l3Inverse_x1
      dsimp only
      rw [if_pos (by omega)]
      refine (fold_idx (fun k s => ((s, k) : Int × Int)) (fun k s => (s + f.getD k 0 * (w ^ ((-((ptAt m k * j : Nat) : Int)) % ((2 * m : Nat) : Int)).toNat % p)) % p) (fun _ s => 0 ≤ s ∧ s < p) (fun s => self (((j + 1 : Nat) : Int), out ++ [s * by_ % p])) (len := m) (G := spec_l3Inverse_g2 (run tb orc n) n self p m w f bk by_ (ptsP m) ((j : Int), out)) (fun self2 k s hk hv => ⟨inv k s hv j, ?_⟩) (fun self2 s hv => ?_) m 0 0 (by omega) ⟨by omega, by omega⟩ n (by omega)).1
      · show spec_l3Inverse_x2 _ _ _ _ _ _ _ _ _ _ _ _ = _
        unfold spec_l3Inverse_x2
        dsimp only
        have hpl := ptsP_len m
        have rf := hf.rng k (by omega)
        have rx := mod_pow_rng (x := bk ^ (ptAt m k * j)) (by omega : 0 < p)
        have q := mul_small rf.1 (by omega) rx.1 (by omega)
        have pb := (pt_rng (k := k) hm).2
        have pj := pe k j hj
        have ee : (ptAt m k : Int) * (j : Int) = ((ptAt m k * j : Nat) : Int) := by push_cast; rfl
        rw [if_pos (by omega), if_pos (by omega), if_pos (by omega), if_pos (by omega), if_pos (by omega), nat_i, ptsP_get hk, ee, w64 (n := ((ptAt m k * j : Nat) : Int)) (by omega) (by omega), l1Pow_ret (by omega) (by omega) (by omega) (by omega) (by omega), nat_i]
        simp only [Option.bind_some]
        rw [if_neg (by omega), w64 (n := f.getD k 0 * (bk ^ (ptAt m k * j) % p)) (by omega) (by omega), w64 (n := s + f.getD k 0 * (bk ^ (ptAt m k * j) % p)) (by omega) (by omega), tmod_nn (by omega), w64 (by omega) (by omega), ni1, root_neg (n2 := 2 * m) (by omega) (by omega) hR.rt k2]
      · show spec_l3Inverse_x2 _ _ _ _ _ _ _ _ _ _ _ _ = _
        unfold spec_l3Inverse_x2
        dsimp only
        have hpl := ptsP_len m
        have q := mul_small hv.1 (by omega) b0 (by omega)
        rw [if_neg (by omega), if_neg (by omega), if_pos (by rw [List.length_singleton]; exact lim_lt (by omega)), w64 (n := s * by_) (by omega) (by omega), tmod_nn q.1, w64 (by omega) (by omega), ni1]
    · show spec_l3Inverse_x1 _ _ _ _ _ _ _ _ _ _ _ = _
      unfold spec_l3Inverse_x1
      dsimp only
      rw [if_neg (by omega)]
end Go.Proofs.YthanbjnpfenniaaDoor.Fw
