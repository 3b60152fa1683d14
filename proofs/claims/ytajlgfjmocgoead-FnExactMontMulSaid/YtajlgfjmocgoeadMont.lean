/- Montgomery's words: Newton's halves and Euclid's road find one inverse by 2^32; products by them. -/
import Derived.Test.YtajlgfjmocgoeadModel5
import Derived.Test.YtajlgfjmocgoeadPow
namespace Go.Proofs.Ytajlgfjmocgoead.Mont
open Go.RowKit Go.Proofs.YtajlgfjmocgoeadW.PrintWords Go.Proofs.YtajlgfjmocgoeadW.PrintLast Go.Proofs.YtajlgfjmocgoeadW.PrintMore Go.Proofs.Ytajlgfjmocgoead.Lib Go.Proofs.Ytajlgfjmocgoead.M Go.Proofs.Ytajlgfjmocgoead.Word Go.Proofs.Ytajlgfjmocgoead.Pow

/-- One of Newton's halves: p x = 1 by 2^k, then p x (2 - p x) = 1 by 2^(2k). -/
theorem newton {p x : Int} {k : Nat} (h : (p * x - 1) % 2 ^ k = 0) (y : Int) (hy : (y - x * (2 - p * x)) % 2 ^ (k + k) = 0) : (p * y - 1) % 2 ^ (k + k) = 0 := by
  obtain ⟨c, hc⟩ := Int.dvd_of_emod_eq_zero h
  obtain ⟨d, hd⟩ := Int.dvd_of_emod_eq_zero hy
  refine Int.emod_eq_zero_of_dvd ⟨p * d - c * c, ?_⟩
  have e1 : p * y - 1 = p * (y - x * (2 - p * x)) - (p * x - 1) * (p * x - 1) := by
    rw [Int.mul_sub p y, Int.sub_mul (p * x) 1, Int.mul_sub (p * x) (p * x) 1, Int.mul_sub x 2, Int.mul_sub p (x * 2)]
    have : p * (x * (p * x)) = p * x * (p * x) := by rw [← Int.mul_assoc]
    have : p * (x * 2) = p * x * 2 := by rw [← Int.mul_assoc]
    omega
  rw [e1, hd, hc, Int.mul_sub, Int.pow_add]
  have e2 : p * (2 ^ k * 2 ^ k * d) = 2 ^ k * 2 ^ k * (p * d) := by rw [Int.mul_left_comm]
  have e3 : 2 ^ k * c * (2 ^ k * c) = 2 ^ k * 2 ^ k * (c * c) := by rw [Int.mul_assoc, Int.mul_left_comm c, ← Int.mul_assoc]
  rw [e2, e3]

/-- The reference's next x. -/
def nx (p x : Int) : Int := x * ((2 - p * x % 4294967296) % 4294967296) % 4294967296
theorem nx_range (p x : Int) : 0 ≤ nx p x ∧ nx p x < 4294967296 := ⟨Int.emod_nonneg _ (by omega), Int.emod_lt_of_pos _ (by omega)⟩
theorem nx_cong (p x : Int) : (nx p x - x * (2 - p * x)) % 4294967296 = 0 := by
  unfold nx
  have e : (x * ((2 - p * x % 4294967296) % 4294967296) % 4294967296) % 4294967296 = (x * (2 - p * x)) % 4294967296 := by
    rw [Int.emod_emod, Int.mul_emod, Int.emod_emod, Int.sub_emod 2 (p * x % 4294967296), Int.emod_emod, ← Int.sub_emod, ← Int.mul_emod]
  have h1 := Int.emod_add_mul_ediv (x * ((2 - p * x % 4294967296) % 4294967296)) 4294967296
  generalize x * ((2 - p * x % 4294967296) % 4294967296) = u at *
  generalize x * (2 - p * x) = v at *
  omega
theorem cong_down {a : Int} {j : Nat} (hj : j ≤ 32) (h : a % 4294967296 = 0) : a % 2 ^ j = 0 := by
  obtain ⟨c, hc⟩ := Int.dvd_of_emod_eq_zero h
  refine Int.emod_eq_zero_of_dvd ⟨2 ^ (32 - j) * c, ?_⟩
  rw [hc, ← Int.mul_assoc, ← Int.pow_add, show j + (32 - j) = 32 by omega]; rfl
theorem nx_five {p : Int} (hp : p % 2 = 1) : (p * nx p (nx p (nx p (nx p (nx p 1)))) - 1) % 4294967296 = 0 := by
  have h0 : (p * 1 - 1) % 2 ^ 1 = 0 := by rw [Int.mul_one]; omega
  have h1 := newton (k := 1) h0 (nx p 1) (cong_down (by omega) (nx_cong p 1))
  have h2 := newton (k := 2) h1 (nx p (nx p 1)) (cong_down (by omega) (nx_cong p _))
  have h3 := newton (k := 4) h2 (nx p (nx p (nx p 1))) (cong_down (by omega) (nx_cong p _))
  have h4 := newton (k := 8) h3 (nx p (nx p (nx p (nx p 1)))) (cong_down (by omega) (nx_cong p _))
  exact newton (k := 16) h4 (nx p (nx p (nx p (nx p (nx p 1))))) (cong_down (by omega) (nx_cong p _))

theorem word_s (a b : Int) (ha : 0 ≤ a) (ha2 : a < 4294967296) (hb : 0 ≤ b) (hb2 : b < 4294967296) : spec_l1Word.f a b = some (a * b % 4294967296) := by
  unfold spec_l1Word.f
  rw [Int.emod_eq_of_lt ha ha2, Int.emod_eq_of_lt hb hb2]

theorem mont_step (p x i : Int) (hp : 0 ≤ p) (hp2 : p < 4294967296) (hx : 0 ≤ x) (hx2 : x < 4294967296) (hi : i < 5) (hi0 : 0 ≤ i) (K : Nat) : spec_MontOf.l0 (K + 1) p x i = spec_MontOf.l0 K p (nx p x) (i + 1) := by
  simp only [spec_MontOf.l0]
  have r := Int.emod_nonneg (p * x) (show (4294967296 : Int) ≠ 0 by omega)
  have r2 := Int.emod_lt_of_pos (p * x) (show (0 : Int) < 4294967296 by omega)
  rw [if_pos hi, word_s p x hp hp2 hx hx2, bind_some, w64 (n := 2 - p * x % 4294967296) (by omega) (by omega), modf_s (by omega) (by omega), bind_some,
    word_s x _ hx hx2 (Int.emod_nonneg _ (by omega)) (Int.emod_lt_of_pos _ (by omega)), bind_some, w64 (n := i + 1) (by omega) (by omega)]
  rfl

/-- An odd number's inverse by 2^32, as both find it. -/
theorem inv32 {p : Int} (h0 : 0 < p) (h1 : p < 4294967296) (hodd : p % 2 = 1) :
    ∃ i, 1 ≤ i ∧ i < 4294967296 ∧ (p * i - 1) % 4294967296 = 0 ∧ Ev (fun k => impl_inverse.f k p 4294967296) (i, true) ∧ nx p (nx p (nx p (nx p (nx p 1)))) = i := by
  obtain ⟨g, i, hi, hE, _⟩ := inverse_both p 4294967296 (by omega) (by omega)
  have hn := nx_five hodd
  have hr := nx_range p (nx p (nx p (nx p (nx p 1))))
  generalize nx p (nx p (nx p (nx p (nx p 1)))) = x at *
  have hp : p % 4294967296 = p := Int.emod_eq_of_lt (by omega) h1
  have hg : g = 1 := by
    have e := hi.gcd
    rw [hp] at e
    obtain ⟨c, hc⟩ := Int.dvd_of_emod_eq_zero hn
    have d1 : ((Int.gcd p 4294967296 : Nat) : Int) ∣ p := Int.gcd_dvd_left ..
    have d2 : ((Int.gcd p 4294967296 : Nat) : Int) ∣ 4294967296 := Int.gcd_dvd_right ..
    have d3 : ((Int.gcd p 4294967296 : Nat) : Int) ∣ 1 := by
      have : (1 : Int) = p * x - 4294967296 * c := by omega
      rw [this]
      exact Int.dvd_sub (Int.dvd_trans d1 (Int.dvd_mul_right ..)) (Int.dvd_trans d2 (Int.dvd_mul_right ..))
    have := Int.le_of_dvd (by omega) d3
    have hne : Int.gcd p 4294967296 ≠ 0 := by
      intro hz
      have := Int.gcd_eq_zero_iff.1 hz
      omega
    omega
  subst hg
  have hm := hi.mul
  rw [hp] at hm
  have hxi : x = i := by
    -- p x = 1 = i p
    obtain ⟨c, hc⟩ := Int.dvd_of_emod_eq_zero hn
    obtain ⟨d, hd⟩ := Int.dvd_of_emod_eq_zero hm
    have e : x - i = 4294967296 * (x * d * (-1) + i * c) := by
      have e1 : x * (i * p - 1) = 4294967296 * (x * d) := by rw [hd, Int.mul_left_comm]
      have e2 : i * (p * x - 1) = 4294967296 * (i * c) := by rw [hc, Int.mul_left_comm]
      rw [Int.mul_sub, Int.mul_one] at e1 e2
      have e3 : x * (i * p) = i * (p * x) := by rw [Int.mul_comm x, Int.mul_assoc]
      rw [Int.mul_add, Int.mul_neg_one]
      rw [Int.mul_neg]
      omega
    have := hi.i0
    have := hi.i1
    omega
  subst hxi
  refine ⟨x, ?_, hr.2, hn, hE, rfl⟩
  by_cases hz : x = 0
  · subst hz; simp at hn
  · omega

theorem montOf_both (p : Int) : ∃ r, Ev (fun k => impl_MontOf.f k p) r ∧ Ev (fun k => spec_MontOf.f k p) r ∧ (r.2.2.2 = true → 3 ≤ p ∧ p ≤ 268435456 ∧ p % 2 = 1) := by
  by_cases h : 2 ≤ p ∧ p ≤ 268435456
  · by_cases h2 : Int.tmod p 2 = 0
    · refine ⟨(0, 0, 0, false), ⟨1, fun k hk => ?_⟩, ⟨1, fun k hk => ?_⟩, fun h => by simp at h⟩
      · show impl_MontOf.f k p = _
        obtain ⟨k, rfl⟩ : ∃ j, k = j + 1 := ⟨k - 1, by omega⟩
        unfold impl_MontOf.f
        rw [mod_i, bind_some, decide_eq_true h, if_pos rfl, h2]
        simp only [impl_MontOf.j0]; rfl
      · show spec_MontOf.f k p = _
        obtain ⟨k, rfl⟩ : ∃ j, k = j + 1 := ⟨k - 1, by omega⟩
        unfold spec_MontOf.f
        rw [mod_s, bind_some, decide_eq_true h, if_pos rfl, h2]
        simp only [spec_MontOf.j0]; rfl
    · have hodd : p % 2 = 1 := by rw [tmod_nn (by omega)] at h2; omega
      obtain ⟨i, i1, i2, i3, ⟨K1, k1⟩, hx⟩ := inv32 (p := p) (by omega) (by omega) hodd
      dsimp only at k1
      have hb : (Int.tmod p 2 == 0) = false := beq_eq_false_iff_ne.mpr h2
      have two : powN 2 64 p = (4294967296 % p) * (4294967296 % p) % p := by
        unfold powN
        obtain ⟨P, rfl⟩ := Int.eq_ofNat_of_zero_le (show 0 ≤ p by omega)
        have e : ((2 : Int) % (P : Int)).toNat = 2 % P := by
          have : (2 : Int) % (P : Int) = ((2 % P : Nat) : Int) := rfl
          rw [this, Int.toNat_natCast]
        rw [e]
        have e2 : (64 : Int).toNat = 64 := rfl
        have e3 : (4294967296 : Int) % (P : Int) = ((4294967296 % P : Nat) : Int) := rfl
        rw [e2, e3, Int.toNat_natCast, ← Nat.pow_mod]
        have e4 : (((4294967296 % P : Nat) : Int) * ((4294967296 % P : Nat) : Int)) % (P : Int) = (((4294967296 % P) * (4294967296 % P) % P : Nat) : Int) := rfl
        have e5 : (2 : Nat) ^ 64 = 4294967296 * 4294967296 := by decide
        rw [e4, ← Nat.mul_mod, e5]
      refine ⟨(p, 4294967296 - i, (4294967296 % p) * (4294967296 % p) % p, true), ⟨K1 + 67, fun k hk => ?_⟩, ⟨20, fun k hk => ?_⟩, fun _ => ⟨by omega, by omega, hodd⟩⟩
      · show impl_MontOf.f k p = _
        obtain ⟨k, rfl⟩ : ∃ j, k = j + 1 := ⟨k - 1, by omega⟩
        unfold impl_MontOf.f
        rw [mod_i, bind_some, decide_eq_true h, if_pos rfl, hb]
        simp only [impl_MontOf.j0]
        rw [if_neg (by simp), k1 _ (by omega), bind_some]
        dsimp only
        rw [pow_i (by omega) (by omega) (by omega) (by omega) k (by omega), bind_some, two, w64 (by omega) (by omega)]
      · show spec_MontOf.f k p = _
        obtain ⟨k, rfl⟩ : ∃ j, k = j + 7 := ⟨k - 7, by omega⟩
        unfold spec_MontOf.f
        rw [mod_s, bind_some, decide_eq_true h, if_pos rfl, hb]
        show spec_MontOf.j0 (k + 6 + 1) p false = _
        simp only [spec_MontOf.j0]
        rw [if_neg (by simp)]
        show spec_MontOf.l0 (k + 1 + 1 + 1 + 1 + 1 + 1) p 1 0 = _
        have r := nx_range p
        rw [mont_step p 1 0 (by omega) (by omega) (by omega) (by omega) (by omega) (by omega), mont_step p _ _ (by omega) (by omega) (r _).1 (r _).2 (by omega) (by omega),
          mont_step p _ _ (by omega) (by omega) (r _).1 (r _).2 (by omega) (by omega), mont_step p _ _ (by omega) (by omega) (r _).1 (r _).2 (by omega) (by omega),
          mont_step p _ _ (by omega) (by omega) (r _).1 (r _).2 (by omega) (by omega), hx]
        simp only [spec_MontOf.l0]
        have q0 := Int.emod_nonneg 4294967296 (show p ≠ 0 by omega)
        have q1 := Int.emod_lt_of_pos 4294967296 (show 0 < p by omega)
        have qq : (4294967296 % p) * (4294967296 % p) ≤ 268435456 * 268435456 := Int.mul_le_mul (by omega) (by omega) (by omega) (by omega)
        have qp : 0 ≤ (4294967296 % p) * (4294967296 % p) := Int.mul_nonneg q0 q0
        rw [if_neg (by omega), if_neg (by omega), w64 (n := -i) (by omega) (by omega), modf_s (by omega) (by omega), bind_some, w64 (by omega) (by omega), tmod_nn qp]
        have e : (-i) % 4294967296 = 4294967296 - i := by omega
        rw [e]
  · refine ⟨(0, 0, 0, false), ⟨1, fun k hk => ?_⟩, ⟨1, fun k hk => ?_⟩, fun h => by simp at h⟩
    · show impl_MontOf.f k p = _
      obtain ⟨k, rfl⟩ : ∃ j, k = j + 1 := ⟨k - 1, by omega⟩
      unfold impl_MontOf.f
      rw [mod_i, bind_some, decide_eq_false h, if_neg (by simp)]
      simp only [impl_MontOf.j0]; rfl
    · show spec_MontOf.f k p = _
      obtain ⟨k, rfl⟩ : ∃ j, k = j + 1 := ⟨k - 1, by omega⟩
      unfold spec_MontOf.f
      rw [mod_s, bind_some, decide_eq_false h, if_neg (by simp)]
      simp only [spec_MontOf.j0]; rfl

theorem montOf : laws_FnExactMontOf.Pure := by
  intro p hp
  obtain ⟨⟨a, b, c, d⟩, ⟨K1, h1⟩, ⟨K2, h2⟩, _⟩ := montOf_both p
  dsimp only at h1 h2
  refine ⟨K1 + K2, ?_⟩
  unfold laws_FnExactMontOf.f
  rw [h2 _ (by omega), bind_some, h1 _ (by omega), bind_some]
  dsimp only
  unfold laws_eqMont.f
  rw [if_pos rfl, if_pos rfl, if_pos rfl, bind_some, if_pos rfl, if_neg (by simp)]

/-- 2^32's inverse by an odd modulus: both find it. -/
theorem back_both {p : Int} (h0 : 3 ≤ p) (h1 : p ≤ 268435456) (hodd : p % 2 = 1) :
    ∃ i, 0 ≤ i ∧ i < p ∧ Ev (fun k => impl_inverse.f k (powN 2 32 p) p) (i, true) ∧ Ev (fun k => spec_l1Inv.f k (4294967296 % p) p) i ∧ (i * 4294967296 - 1) % p = 0 := by
  have e : powN 2 32 p = 4294967296 % p := by
    unfold powN
    obtain ⟨P, rfl⟩ := Int.eq_ofNat_of_zero_le (show 0 ≤ p by omega)
    have e : ((2 : Int) % (P : Int)).toNat = 2 % P := by
      have : (2 : Int) % (P : Int) = ((2 % P : Nat) : Int) := rfl
      rw [this, Int.toNat_natCast]
    have e2 : (32 : Int).toNat = 32 := rfl
    rw [e, e2, Int.toNat_natCast, ← Nat.pow_mod]; rfl
  rw [e]
  obtain ⟨g, i, hi, hE, hS⟩ := inverse_both (4294967296 % p) p (by omega) (by omega)
  obtain ⟨x, _, _, hx, _⟩ := inv32 (p := p) (by omega) (by omega) hodd
  rw [Int.emod_emod] at hi
  have hg : g = 1 := by
    have e := hi.gcd
    obtain ⟨c, hc⟩ := Int.dvd_of_emod_eq_zero hx
    have d1 : ((Int.gcd (4294967296 % p) p : Nat) : Int) ∣ p := Int.gcd_dvd_right ..
    have d0 : ((Int.gcd (4294967296 % p) p : Nat) : Int) ∣ 4294967296 % p := Int.gcd_dvd_left ..
    have d2 : ((Int.gcd (4294967296 % p) p : Nat) : Int) ∣ 4294967296 := by
      have h := Int.dvd_add d0 (Int.dvd_trans d1 (Int.dvd_mul_right p (4294967296 / p)))
      rwa [Int.emod_add_mul_ediv] at h
    have d3 : ((Int.gcd (4294967296 % p) p : Nat) : Int) ∣ 1 := by
      have : (1 : Int) = p * x - 4294967296 * c := by omega
      rw [this]
      exact Int.dvd_sub (Int.dvd_trans d1 (Int.dvd_mul_right ..)) (Int.dvd_trans d2 (Int.dvd_mul_right ..))
    have := Int.le_of_dvd (by omega) d3
    have hne : Int.gcd (4294967296 % p) p ≠ 0 := by
      intro hz
      have := Int.gcd_eq_zero_iff.1 hz
      omega
    omega
  subst hg
  rw [if_pos rfl] at hS
  refine ⟨i, hi.i0, hi.i1, hE, hS, ?_⟩
  have hm := hi.mul
  obtain ⟨d, hd⟩ := Int.dvd_of_emod_eq_zero hm
  have e5 : (4294967296 : Int) = 4294967296 % p + p * (4294967296 / p) := (Int.emod_add_mul_ediv ..).symm
  refine Int.emod_eq_zero_of_dvd ⟨d + i * (4294967296 / p), ?_⟩
  have e6 : i * 4294967296 = i * (4294967296 % p) + p * (i * (4294967296 / p)) := by
    have : i * (4294967296 % p + p * (4294967296 / p)) = i * (4294967296 % p) + p * (i * (4294967296 / p)) := by rw [Int.mul_add, Int.mul_left_comm]
    rw [← this, ← e5]
  rw [Int.mul_add]; omega

theorem montMul_both (p a2 a3 x y : Int) : ∃ r, Ev (fun k => impl_MontMul.f k p a2 a3 x y) r ∧ Ev (fun k => spec_MontMul.f k p a2 a3 x y) r := by
  obtain ⟨⟨a, b, c, d⟩, ⟨K1, h1⟩, ⟨K2, h2⟩, hd⟩ := montOf_both p
  dsimp only at h1 h2 hd
  have no : ∀ k, impl_MontMul.j0 (k + 1) x y true p a2 a3 = some (0, false) := fun k => by simp only [impl_MontMul.j0]; rfl
  have no2 : ∀ k, spec_MontMul.j0 (k + 1) x y true p a2 a3 = some (0, false) := fun k => by simp only [spec_MontMul.j0]; rfl
  cases d with
  | false =>
    refine ⟨(0, false), ⟨K1 + 1, fun k hk => ?_⟩, ⟨K2 + 1, fun k hk => ?_⟩⟩
    · show impl_MontMul.f k p a2 a3 x y = _
      obtain ⟨k, rfl⟩ : ∃ j, k = j + 1 := ⟨k - 1, by omega⟩
      unfold impl_MontMul.f
      rw [h1 _ (by omega), bind_some, if_neg (by simp), no]
    · show spec_MontMul.f k p a2 a3 x y = _
      obtain ⟨k, rfl⟩ : ∃ j, k = j + 1 := ⟨k - 1, by omega⟩
      unfold spec_MontMul.f
      rw [h2 _ (by omega), bind_some, if_neg (by simp), no2]
  | true =>
    obtain ⟨hp, hp2, hodd⟩ := hd rfl
    by_cases h3 : (!(a == p) || (!(b == a2) || (!(c == a3)))) = true
    · refine ⟨(0, false), ⟨K1 + 1, fun k hk => ?_⟩, ⟨K2 + 1, fun k hk => ?_⟩⟩
      · show impl_MontMul.f k p a2 a3 x y = _
        obtain ⟨k, rfl⟩ : ∃ j, k = j + 1 := ⟨k - 1, by omega⟩
        unfold impl_MontMul.f
        rw [h1 _ (by omega), bind_some, if_pos rfl]
        dsimp only
        rw [if_pos h3, no]
      · show spec_MontMul.f k p a2 a3 x y = _
        obtain ⟨k, rfl⟩ : ∃ j, k = j + 1 := ⟨k - 1, by omega⟩
        unfold spec_MontMul.f
        rw [h2 _ (by omega), bind_some, if_pos rfl]
        dsimp only
        rw [if_pos h3, no2]
    · by_cases h4 : 0 ≤ x ∧ x ≤ wrap64 (p - 1)
      · by_cases h5 : 0 ≤ y ∧ y ≤ wrap64 (p - 1)
        · obtain ⟨i, i0, i1, ⟨K3, k3⟩, ⟨K4, k4⟩, _⟩ := back_both hp hp2 hodd
          dsimp only at k3 k4
          refine ⟨(Int.tmod (wrap64 ((Int.tmod (wrap64 (x * y)) p) * i)) p, true), ⟨K1 + K3 + 67, fun k hk => ?_⟩, ⟨K2 + K4 + 1, fun k hk => ?_⟩⟩
          · show impl_MontMul.f k p a2 a3 x y = _
            obtain ⟨k, rfl⟩ : ∃ j, k = j + 1 := ⟨k - 1, by omega⟩
            unfold impl_MontMul.f
            rw [h1 _ (by omega), bind_some, if_pos rfl]
            dsimp only
            rw [if_neg h3, in_i, bind_some, decide_eq_true h4, if_pos rfl, in_i, bind_some, decide_eq_true h5]
            simp only [impl_MontMul.j0]
            rw [if_neg (by simp), pow_i (by omega) (by omega) (by omega) (by omega) k (by omega), bind_some, k3 _ (by omega), bind_some, if_neg (by omega)]
          · show spec_MontMul.f k p a2 a3 x y = _
            obtain ⟨k, rfl⟩ : ∃ j, k = j + 1 := ⟨k - 1, by omega⟩
            unfold spec_MontMul.f
            rw [h2 _ (by omega), bind_some, if_pos rfl]
            dsimp only
            rw [if_neg h3, in_s, bind_some, decide_eq_true h4, if_pos rfl, in_s, bind_some, decide_eq_true h5]
            simp only [spec_MontMul.j0]
            rw [if_neg (by simp), if_neg (by omega), k4 _ (by omega), bind_some, if_neg (by omega)]
        · refine ⟨(0, false), ⟨K1 + 1, fun k hk => ?_⟩, ⟨K2 + 1, fun k hk => ?_⟩⟩
          · show impl_MontMul.f k p a2 a3 x y = _
            obtain ⟨k, rfl⟩ : ∃ j, k = j + 1 := ⟨k - 1, by omega⟩
            unfold impl_MontMul.f
            rw [h1 _ (by omega), bind_some, if_pos rfl]
            dsimp only
            rw [if_neg h3, in_i, bind_some, decide_eq_true h4, if_pos rfl, in_i, bind_some, decide_eq_false h5]
            exact no k
          · show spec_MontMul.f k p a2 a3 x y = _
            obtain ⟨k, rfl⟩ : ∃ j, k = j + 1 := ⟨k - 1, by omega⟩
            unfold spec_MontMul.f
            rw [h2 _ (by omega), bind_some, if_pos rfl]
            dsimp only
            rw [if_neg h3, in_s, bind_some, decide_eq_true h4, if_pos rfl, in_s, bind_some, decide_eq_false h5]
            exact no2 k
      · refine ⟨(0, false), ⟨K1 + 1, fun k hk => ?_⟩, ⟨K2 + 1, fun k hk => ?_⟩⟩
        · show impl_MontMul.f k p a2 a3 x y = _
          obtain ⟨k, rfl⟩ : ∃ j, k = j + 1 := ⟨k - 1, by omega⟩
          unfold impl_MontMul.f
          rw [h1 _ (by omega), bind_some, if_pos rfl]
          dsimp only
          rw [if_neg h3, in_i, bind_some, decide_eq_false h4, if_neg (by simp)]
          exact no k
        · show spec_MontMul.f k p a2 a3 x y = _
          obtain ⟨k, rfl⟩ : ∃ j, k = j + 1 := ⟨k - 1, by omega⟩
          unfold spec_MontMul.f
          rw [h2 _ (by omega), bind_some, if_pos rfl]
          dsimp only
          rw [if_neg h3, in_s, bind_some, decide_eq_false h4, if_neg (by simp)]
          exact no2 k

theorem montMul : ∀ (a0_0 : Int) (a0_1 : Int) (a0_2 : Int) (a1 : Int) (a2 : Int), (Lit.int .i64 a0_0).wf = true → (Lit.int .i64 a0_1).wf = true → (Lit.int .i64 a0_2).wf = true →
    (Lit.int .i64 a1).wf = true → (Lit.int .i64 a2).wf = true → ∃ k, laws_FnExactMontMul.f k a0_0 a0_1 a0_2 a1 a2 = some true := by
  intro p s m x y _ _ _ _ _
  obtain ⟨⟨a, b⟩, ⟨K1, h1⟩, ⟨K2, h2⟩⟩ := montMul_both p s m x y
  dsimp only at h1 h2
  refine ⟨K1 + K2, ?_⟩
  unfold laws_FnExactMontMul.f laws_toMont.f
  rw [bind_some]
  dsimp only
  rw [h2 _ (by omega), bind_some, bind_some]
  dsimp only
  rw [h1 _ (by omega), bind_some, if_pos rfl, if_neg (by simp)]

end Go.Proofs.Ytajlgfjmocgoead.Mont
