/- Inverses modulo a prime: both sides. -/
import Derived.Test.YthanbjnpfenniaaDoorPPow
import Derived.Test.YthanbjnpfenniaaDoorEqV
namespace Go.Proofs.YthanbjnpfenniaaDoor.Fw
open Go Go.RowKit
set_option linter.unusedVariables false

theorem nat_mul_le {a b c : Int} (ha : 0 ≤ a) (h : b ≤ c) : a * b ≤ a * c := Int.mul_le_mul_of_nonneg_left h ha
theorem step_bound {p old cur tO tC q : Int} (hc : 1 ≤ cur) (ho : 1 ≤ old) (hq : q = old / cur) (h : (tC.natAbs : Int) * old + (tO.natAbs : Int) * cur ≤ p) :
    (((tO - q * tC).natAbs : Int) * cur + (tC.natAbs : Int) * (old - q * cur) ≤ p) ∧ (tO.natAbs : Int) ≤ p ∧ ((q * tC).natAbs : Int) ≤ p ∧ 0 ≤ q ∧ q * cur ≤ old ∧ old - q * cur < cur := by
  have q0 : 0 ≤ q := by rw [hq]; exact Int.ediv_nonneg (by omega) (by omega)
  have q1 : q ≤ old := by rw [hq]; exact Int.ediv_le_self _ (by omega)
  have q2 : q * cur ≤ old := by rw [hq]; exact Int.ediv_mul_le _ (by omega)
  have q3 : old - q * cur < cur := by
    rw [hq, Int.mul_comm]
    have := Int.emod_add_mul_ediv old cur
    have := Int.emod_lt_of_pos old (by omega : 0 < cur)
    omega
  have a0 : 0 ≤ (tC.natAbs : Int) * old := Int.mul_nonneg (by omega) (by omega)
  have a1 : 0 ≤ (tO.natAbs : Int) * cur := Int.mul_nonneg (by omega) (by omega)
  have a2 : (tO.natAbs : Int) * 1 ≤ (tO.natAbs : Int) * cur := nat_mul_le (by omega) hc
  have a3 : (tC.natAbs : Int) * q ≤ (tC.natAbs : Int) * old := nat_mul_le (by omega) q1
  have a4 : ((q * tC).natAbs : Int) = q * (tC.natAbs : Int) := by rw [Int.natAbs_mul]; push_cast; rw [show ((q.natAbs : Nat) : Int) = q by omega]
  have a5 : ((tO - q * tC).natAbs : Int) ≤ (tO.natAbs : Int) + q * (tC.natAbs : Int) := by rw [← a4]; omega
  have a6 : ((tO - q * tC).natAbs : Int) * cur ≤ ((tO.natAbs : Int) + q * (tC.natAbs : Int)) * cur := Int.mul_le_mul_of_nonneg_right a5 (by omega)
  have a7 : ((tO.natAbs : Int) + q * (tC.natAbs : Int)) * cur + (tC.natAbs : Int) * (old - q * cur) = (tO.natAbs : Int) * cur + (tC.natAbs : Int) * old := by
    rw [Int.add_mul, Int.mul_sub, Int.mul_comm q (tC.natAbs : Int), Int.mul_assoc]; omega
  refine ⟨by omega, by omega, ?_, q0, q2, q3⟩
  rw [a4, Int.mul_comm]; omega
theorem euclid {n : Nat} (hn : Big + 1 ≤ n) {p a : Int} (hp : 2 ≤ p) (hp' : p ≤ 268435456) : ∀ (k : Nat) (old cur tO tC : Int), 0 ≤ cur → cur < k → 1 ≤ old → old ≤ 268435456 → cur ≤ 268435456 → (tC.natAbs : Int) * old + (tO.natAbs : Int) * cur ≤ p →
    (a * tC - cur) % p = 0 → (a * tO - old) % p = 0 → (∀ d : Int, d ∣ old → d ∣ cur → d ∣ 1) →
    ∃ t, (a * t - 1) % p = 0 ∧ ∀ K, k ≤ K → iterO (impl_inverse_g1 (run tb orc n) n p) K (old, cur, tO, tC) = some (t % p, true) ∧ iterO (spec_l1Inv_g1 (run tb orc n) n p) K (cur, old, tC, tO) = some (t % p) := by
  intro k
  induction k with
  | zero => intro old cur tO tC h0 h1; omega
  | succ k ih =>
    intro old cur tO tC h0 h1 ho ho' hc' hE hC hO hd
    by_cases c : cur = 0
    · subst c
      have e1 : old = 1 := by
        have := Int.le_of_dvd (by omega) (hd old (Int.dvd_refl _) (Int.dvd_zero _))
        omega
      subst e1
      refine ⟨tO, hO, fun K hK => ?_⟩
      obtain ⟨K, rfl⟩ : ∃ j, K = j + 1 := ⟨K - 1, by omega⟩
      constructor
      · rw [iterO_succ]; unfold impl_inverse_g1 impl_inverse_x1
        dsimp only
        rw [if_pos rfl, mod_ret hn (by omega) (by omega)]
        simp
      · rw [iterO_succ]; unfold spec_l1Inv_g1 spec_l1Inv_x1
        dsimp only
        rw [if_pos rfl, if_pos rfl, l1Mod_ret hn (by omega) (by omega)]
        rfl
    · generalize hq : old / cur = q
      obtain ⟨b1, b2, b3, b4, b5, b6⟩ := step_bound (q := q) (by omega) ho hq.symm hE
      have qc : 0 ≤ q * cur := Int.mul_nonneg b4 h0
      have q1 : q ≤ old := by rw [← hq]; exact Int.ediv_le_self _ (by omega)
      obtain ⟨t, t1, t2⟩ := ih cur (old - q * cur) tC (tO - q * tC) (by omega) (by omega) (by omega) (by omega) (by omega) (by omega) (by
          rw [show a * (tO - q * tC) - (old - q * cur) = (a * tO - old) - q * (a * tC - cur) by
            rw [Int.mul_sub, Int.mul_sub, ← Int.mul_assoc, Int.mul_comm a q, Int.mul_assoc]; omega]
          rw [Int.sub_emod, hO, Int.mul_emod, hC]; simp) hC (fun d d1 d2 => hd d (by
            have : old = (old - q * cur) + q * cur := by omega
            rw [this]; exact Int.dvd_add d2 (Int.dvd_trans d1 (Int.dvd_mul_left _ _))) d1)
      refine ⟨t, t1, fun K hK => ?_⟩
      obtain ⟨K, rfl⟩ : ∃ j, K = j + 1 := ⟨K - 1, by omega⟩
      obtain ⟨u1, u2⟩ := t2 K (by omega)
      have b3' : -268435456 ≤ q * tC ∧ q * tC ≤ 268435456 := by omega
      constructor
      · refine Eq.trans ?_ u1
        show impl_inverse_x1 _ _ _ _ = _
        unfold impl_inverse_x1
        dsimp only
        rw [if_neg c, if_neg c, tdiv_nn (by omega), hq, w64 (n := q) (by omega) (by omega), w64 (n := q * cur) (by omega) (by omega), w64 (n := q * tC) (by omega) (by omega), w64 (n := old - q * cur) (by omega) (by omega), w64 (n := tO - q * tC) (by omega) (by omega)]
      · refine Eq.trans ?_ u2
        show spec_l1Inv_x1 _ _ _ _ = _
        unfold spec_l1Inv_x1
        dsimp only
        rw [if_neg c, if_neg c, tdiv_nn (by omega), hq, w64 (n := q) (by omega) (by omega), w64 (n := q * cur) (by omega) (by omega), w64 (n := q * tC) (by omega) (by omega), w64 (n := old - q * cur) (by omega) (by omega), w64 (n := tO - q * tC) (by omega) (by omega)]
/-- The inverse of what p does not divide. -/
theorem inverse_both {p a : Int} (hp : 2 ≤ p) (hp' : p ≤ 268435456) (hd : ∀ d : Int, d ∣ p → d ∣ a % p → d ∣ 1) : ∃ t, 0 ≤ t ∧ t < p ∧ a * t % p = 1 ∧ ∀ n, Big + 2 ≤ n → c_impl_inverse (run tb orc n) a p = some (t, true) ∧ c_spec_l1Inv (run tb orc n) a p = some t := by
  have hbig := big_ge
  have a0 : 0 ≤ a % p := Int.emod_nonneg _ (by omega)
  have a1 : a % p < p := Int.emod_lt_of_pos _ (by omega)
  have a2 : a % p ≠ 0 := fun h => by
    have := Int.le_of_dvd (by omega) (hd p (Int.dvd_refl _) (by rw [h]; exact Int.dvd_zero _))
    omega
  have key : ∀ m, Big + 1 ≤ m → _ := fun m hm => euclid (n := m) hm (a := a % p) hp hp' 268435457 p (a % p) 0 1 a0 (by omega) (by omega) hp' (by omega) (by simp) (by simp) (by rw [Int.mul_zero, Int.zero_sub]; simp) hd
  obtain ⟨t, t1, _⟩ := key (Big + 1) (Nat.le_refl _)
  have hu : ∀ x, (a % p * x - 1) % p = 0 → a * (x % p) % p = 1 := by
    intro x hx
    rw [Int.mul_emod, Int.emod_emod_of_dvd _ (Int.dvd_refl p), ← Int.mul_emod]
    have h1 : (a * x - 1) % p = 0 := by rw [Int.sub_emod, Int.mul_emod, ← Int.emod_emod_of_dvd a (Int.dvd_refl p), ← Int.mul_emod, ← Int.sub_emod]; exact hx
    have h2 := Int.emod_emod_of_dvd (a * x) (Int.dvd_refl p)
    have h3 : a * x = (a * x - 1) + 1 := by omega
    rw [h3, Int.add_emod, h1, Int.zero_add, Int.emod_emod_of_dvd _ (Int.dvd_refl p)]
    exact Int.emod_eq_of_lt (by omega) (by omega)
  have un : ∀ x y, (a % p * x - 1) % p = 0 → (a % p * y - 1) % p = 0 → x % p = y % p := by
    intro x y hx hy
    have hx' := hu x hx
    have hy' := hu y hy
    have e1 : (x % p) * (a * (y % p)) % p = x % p := by rw [← mul_mod_r, hy', Int.mul_one, Int.emod_emod_of_dvd _ (Int.dvd_refl p)]
    have e2 : (y % p) * (a * (x % p)) % p = y % p := by rw [← mul_mod_r, hx', Int.mul_one, Int.emod_emod_of_dvd _ (Int.dvd_refl p)]
    refine e1.symm.trans (Eq.trans ?_ e2)
    congr 1
    generalize x % p = u
    generalize y % p = w
    rw [← Int.mul_assoc, ← Int.mul_assoc, Int.mul_comm u a, Int.mul_comm w a, Int.mul_assoc, Int.mul_assoc, Int.mul_comm u w]
  refine ⟨t % p, Int.emod_nonneg _ (by omega), Int.emod_lt_of_pos _ (by omega), hu t t1, fun n hn => ?_⟩
  obtain ⟨n, rfl, hq⟩ := up (k := 1) hn
  obtain ⟨t', t1', t2⟩ := key n hq
  rw [un t t' t1 t1']
  obtain ⟨k, rfl⟩ : ∃ k, n = k + 1 := ⟨n - 1, by omega⟩
  constructor
  · rw [impl_inverse_eq]; unfold impl_inverse_f impl_inverse_x
    rw [mod_ret (by omega) (by omega) (by omega)]
    simp only [Option.bind_some]
    refine Eq.trans ?_ (t2 k (by omega)).1
    show impl_inverse_x1 _ _ _ _ = _
    unfold impl_inverse_x1
    dsimp only
    rw [if_neg (by omega), if_neg (by omega), tdiv_nn a0, Int.ediv_eq_zero_of_lt a0 a1, w64 (n := 0) (by omega) (by omega), Int.zero_mul, Int.zero_mul, w64 (n := 0) (by omega) (by omega), Int.sub_zero, Int.sub_zero, w64 (by omega) (by omega), w64 (by omega) (by omega)]
  · rw [spec_l1Inv_eq]; unfold spec_l1Inv_f spec_l1Inv_x
    rw [l1Mod_ret (by omega) (by omega) (by omega)]
    simp only [Option.bind_some]
    exact (t2 (k + 1) (by omega)).2
theorem coprime_pr {p a : Int} (hp : primeB p = true) (h : ¬ p ∣ a) : ∀ d : Int, d ∣ p → d ∣ a % p → d ∣ 1 := by
  have hr := (primeB_iff.1 hp).1
  intro d d1 d2
  have hpr := primeB_pr hp
  have e : p.natAbs = p.toNat := by omega
  have := Int.natAbs_dvd_natAbs.2 d1
  rw [e] at this
  rcases hpr.2 _ this with h1 | h1
  · exact Int.natAbs_dvd.1 (by rw [h1]; exact Int.dvd_refl _)
  · exfalso
    apply h
    have : p ∣ a % p := by
      rw [← Int.natAbs_dvd] at d2
      rw [h1] at d2
      rwa [show ((p.toNat : Nat) : Int) = p by omega] at d2
    exact (Int.dvd_iff_emod_eq_zero).2 (by
      have h2 := Int.emod_eq_zero_of_dvd this
      rwa [Int.emod_emod_of_dvd _ (Int.dvd_refl p)] at h2)
end Go.Proofs.YthanbjnpfenniaaDoor.Fw
