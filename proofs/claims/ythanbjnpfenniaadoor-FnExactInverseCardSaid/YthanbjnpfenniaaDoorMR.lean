/- Below 2^28 a number that passes the strong test with the twelve least primes and is divided by none of them is a prime. -/
import Derived.Test.YthanbjnpfenniaaDoorNumTh
namespace Go.Proofs.YthanbjnpfenniaaDoor.NumTh

/-- What the strong test with a base says: n - 1 = 2^s d, d odd. -/
def Strong (n s d a : Nat) : Prop := a ^ d % n = 1 ∨ ∃ k, k < s ∧ a ^ (2 ^ k * d) % n = n - 1

theorem pow_mod_of {a b n : Nat} (k : Nat) (h : a % n = b % n) : a ^ k % n = b ^ k % n := by
  rw [Nat.pow_mod, h, ← Nat.pow_mod]

theorem one_pow_mod {n x : Nat} (hn : 2 ≤ n) (k : Nat) (h : x % n = 1) : x ^ k % n = 1 := by
  rw [Nat.pow_mod, h, Nat.one_pow]; exact Nat.mod_eq_of_lt (by omega)

theorem mod_of_dvd {p n x y : Nat} (h : p ∣ n) (e : x % n = y % n) : x % p = y % p := by
  rw [← Nat.mod_mod_of_dvd x h, e, Nat.mod_mod_of_dvd y h]

theorem mod_one_of_dvd {p n x : Nat} (hp : 2 ≤ p) (h : p ∣ n) (hn : 0 < n) (e : x % n = 1) : x % p = 1 := by
  have hle := Nat.le_of_dvd hn h
  have : x % n = 1 % n := by rw [e, Nat.mod_eq_of_lt (by omega : 1 < n)]
  rw [mod_of_dvd h this, Nat.mod_eq_of_lt (by omega)]

/-- A number's like of -1 by n is like -1 by a divisor. -/
theorem mod_neg_of_dvd {p n x : Nat} (h : p ∣ n) (hn : 0 < n) (e : x % n = n - 1) : (x + 1) % p = 0 := by
  have h1 : (x + 1) % n = 0 := by
    rw [Nat.add_mod, e]
    by_cases h2 : n = 1
    · subst h2; simp
    · rw [Nat.mod_eq_of_lt (by omega : 1 < n), show n - 1 + 1 = n by omega, Nat.mod_self]
  have := mod_of_dvd h (show (x + 1) % n = 0 % n by rw [h1, Nat.zero_mod])
  simpa using this

theorem sq_neg {p x : Nat} (hp : 2 ≤ p) (h : (x + 1) % p = 0) : x ^ 2 % p = 1 := by
  obtain ⟨c, hc⟩ := Nat.dvd_of_mod_eq_zero h
  cases x with
  | zero => have : p ∣ 1 := ⟨c, by omega⟩
            have := Nat.le_of_dvd (by omega) this; omega
  | succ y =>
    have e : (y + 1) ^ 2 = 1 + p * (c * y) := by
      have : (y + 1) ^ 2 = (y + 1 + 1) * y + 1 := by
        rw [Nat.pow_two, Nat.add_mul, Nat.mul_add, Nat.add_mul, Nat.add_mul]; omega
      rw [this, hc, Nat.mul_assoc]; omega
    rw [e, Nat.add_mul_mod_self_left, Nat.mod_eq_of_lt (by omega)]

theorem odd_neg {p x d : Nat} (hp : 2 ≤ p) (h : (x + 1) % p = 0) (hd : d % 2 = 1) : (x ^ d + 1) % p = 0 := by
  obtain ⟨m, rfl⟩ : ∃ m, d = 2 * m + 1 := ⟨d / 2, by omega⟩
  have h2 : (x ^ 2) ^ m % p = 1 := one_pow_mod hp m (sq_neg hp h)
  rw [Nat.pow_succ, Nat.pow_mul]
  have : (x ^ 2) ^ m * x % p = x % p := by
    rw [Nat.mul_mod, h2, Nat.one_mul, Nat.mod_mod]
  rw [Nat.add_mod, this, ← Nat.add_mod, h]

/-- An element with an odd power 1 and a square 1 is 1. -/
theorem one_of_odd {p v d : Nat} (hp : 2 ≤ p) (h2 : v ^ 2 % p = 1) (hd : d % 2 = 1) (h : v ^ d % p = 1) : v % p = 1 := by
  obtain ⟨m, rfl⟩ : ∃ m, d = 2 * m + 1 := ⟨d / 2, by omega⟩
  have h3 : (v ^ 2) ^ m % p = 1 := one_pow_mod hp m h2
  rw [Nat.pow_succ, Nat.pow_mul, Nat.mul_mod, h3, Nat.one_mul, Nat.mod_mod] at h
  exact h

/-- From u^(2^e) = 1 down to u^(2^k) = 1 where u^(2^k d) = 1 for an odd d. -/
theorem down {p u d : Nat} (hp : 2 ≤ p) (hd : d % 2 = 1) (k : Nat) (h : u ^ (2 ^ k * d) % p = 1) :
    ∀ e, u ^ (2 ^ (k + e)) % p = 1 → u ^ (2 ^ k) % p = 1
  | 0, he => he
  | e + 1, he => by
    refine down hp hd k h e ?_
    refine one_of_odd hp (d := d) ?_ hd ?_
    · rw [← Nat.pow_mul, ← Nat.pow_succ]; exact he
    · rw [← Nat.pow_mul, show 2 ^ (k + e) * d = (2 ^ k * d) * 2 ^ e by rw [Nat.pow_add, Nat.mul_assoc, Nat.mul_assoc, Nat.mul_comm (2 ^ e) d], Nat.pow_mul]
      exact one_pow_mod hp _ h

/-- 'T is the place of u among its squares': u^(2^t) = 1 just from T on. -/
def Lies (p u T : Nat) : Prop := ∀ t, u ^ (2 ^ t) % p = 1 ↔ T ≤ t

theorem Lies.unique {p u T S : Nat} (h : Lies p u T) (g : Lies p u S) : T = S := by
  have h1 := (h T).2 (Nat.le_refl T)
  have h2 := (g S).2 (Nat.le_refl S)
  have h3 := (g T).1 h1
  have h4 := (h S).1 h2
  omega

theorem pow_up {p u : Nat} (hp : 2 ≤ p) {k t : Nat} (hk : k ≤ t) (h : u ^ (2 ^ k) % p = 1) : u ^ (2 ^ t) % p = 1 := by
  obtain ⟨j, rfl⟩ : ∃ j, t = k + j := ⟨t - k, by omega⟩
  rw [Nat.pow_add, Nat.pow_mul]; exact one_pow_mod hp _ h

/-- The test says the same of each odd prime (indeed of each odd number p with a^(2^e f) = 1) that divides n. -/
theorem lies_of_strong {p n d a e f : Nat} (hp : 3 ≤ p) (hn : 0 < n) (hd : p ∣ n) (hodd : d % 2 = 1) (hf : f % 2 = 1)
    (h1 : a ^ (2 ^ e * f) % p = 1) (T : Nat) (hT : (T = 0 ∧ a ^ d % n = 1) ∨ (∃ k, T = k + 1 ∧ a ^ (2 ^ k * d) % n = n - 1)) :
    Lies p (a ^ f) T := by
  have hfe : (a ^ f) ^ (2 ^ e) % p = 1 := by rw [← Nat.pow_mul, Nat.mul_comm]; exact h1
  rcases hT with ⟨rfl, h⟩ | ⟨k, rfl, h⟩
  · have h' : a ^ d % p = 1 := mod_one_of_dvd (by omega) hd hn h
    have hu : (a ^ f) ^ (2 ^ 0 * d) % p = 1 := by
      rw [Nat.pow_zero, Nat.one_mul, ← Nat.pow_mul, Nat.mul_comm, Nat.pow_mul]; exact one_pow_mod (by omega) _ h'
    have h0 := down (by omega) hodd 0 hu e (by rw [Nat.zero_add]; exact hfe)
    exact fun t => ⟨fun _ => Nat.zero_le t, fun _ => pow_up (by omega) (Nat.zero_le t) h0⟩
  · have h' : (a ^ (2 ^ k * d) + 1) % p = 0 := mod_neg_of_dvd hd hn h
    have hneg : ((a ^ f) ^ (2 ^ k * d) + 1) % p = 0 := by
      rw [← Nat.pow_mul, Nat.mul_comm, Nat.pow_mul]; exact odd_neg (by omega) h' hf
    have hone : (a ^ f) ^ (2 ^ (k + 1) * d) % p = 1 := by
      have := sq_neg (by omega : 2 ≤ p) hneg
      rw [← Nat.pow_mul] at this
      rw [Nat.pow_succ, Nat.mul_assoc, Nat.mul_comm 2 d, ← Nat.mul_assoc]; exact this
    have hk1 : (a ^ f) ^ (2 ^ (k + 1)) % p = 1 := by
      by_cases hle : e ≤ k + 1
      · exact pow_up (by omega) hle hfe
      · refine down (by omega) hodd (k + 1) hone (e - (k + 1)) ?_
        rw [show k + 1 + (e - (k + 1)) = e by omega]; exact hfe
    intro t
    refine ⟨fun ht => ?_, fun ht => pow_up (by omega) ht hk1⟩
    by_cases hle : k + 1 ≤ t
    · exact hle
    · exfalso
      have hk : (a ^ f) ^ (2 ^ k) % p = 1 := pow_up (by omega) (by omega : t ≤ k) ht
      have : (a ^ f) ^ (2 ^ k * d) % p = 1 := by rw [Nat.pow_mul]; exact one_pow_mod (by omega) _ hk
      rw [Nat.add_mod, this, Nat.mod_eq_of_lt (by omega : 1 < p)] at hneg
      rw [Nat.mod_eq_of_lt (by omega)] at hneg
      omega

/-- So two odd primes that divide n lie alike. -/
theorem alike {p q n s d a e f e' f' T S : Nat} (hp : 3 ≤ p) (hq : 3 ≤ q) (hn : 0 < n) (hpn : p ∣ n) (hqn : q ∣ n) (hodd : d % 2 = 1)
    (hf : f % 2 = 1) (hf' : f' % 2 = 1) (h1 : a ^ (2 ^ e * f) % p = 1) (h2 : a ^ (2 ^ e' * f') % q = 1) (hs : Strong n s d a)
    (hT : Lies p (a ^ f) T) (hS : Lies q (a ^ f') S) : T = S := by
  rcases hs with h | ⟨k, _, h⟩
  · have g1 := lies_of_strong hp hn hpn hodd hf h1 0 (Or.inl ⟨rfl, h⟩)
    have g2 := lies_of_strong hq hn hqn hodd hf' h2 0 (Or.inl ⟨rfl, h⟩)
    rw [hT.unique g1, hS.unique g2]
  · have g1 := lies_of_strong hp hn hpn hodd hf h1 (k + 1) (Or.inr ⟨k, rfl, h⟩)
    have g2 := lies_of_strong hq hn hqn hodd hf' h2 (k + 1) (Or.inr ⟨k, rfl, h⟩)
    rw [hT.unique g1, hS.unique g2]

theorem strong_fermat {n s d a : Nat} (hn : 2 ≤ n) (hsd : n - 1 = 2 ^ s * d) (h : Strong n s d a) : a ^ (n - 1) % n = 1 := by
  rw [hsd]
  rcases h with h | ⟨k, hk, h⟩
  · rw [Nat.mul_comm, Nat.pow_mul]; exact one_pow_mod hn _ h
  · have hneg : (a ^ (2 ^ k * d) + 1) % n = 0 := mod_neg_of_dvd (Nat.dvd_refl n) (by omega) h
    have h2 := sq_neg hn hneg
    rw [← Nat.pow_mul] at h2
    obtain ⟨j, rfl⟩ : ∃ j, s = k + 1 + j := ⟨s - (k + 1), by omega⟩
    have e : 2 ^ (k + 1 + j) * d = (2 ^ k * d * 2) * 2 ^ j := by
      rw [Nat.pow_add, Nat.pow_succ]
      rw [Nat.mul_assoc, Nat.mul_assoc, Nat.mul_assoc, Nat.mul_assoc]
      congr 1
      rw [Nat.mul_comm (2 ^ j) d, Nat.mul_left_comm]
    rw [e, Nat.pow_mul]; exact one_pow_mod hn _ h2

/-! ### A square of a prime -/
theorem square_case {p n a : Nat} (h : Pr p) (hn : p * p ∣ n) (hpos : 0 < n) (ha : ¬ p ∣ a) (hF : a ^ (n - 1) % n = 1) : a ^ (p - 1) % (p * p) = 1 := by
  have hp := h.1
  have hpp : 2 ≤ p * p := Nat.le_trans hp (Nat.le_mul_of_pos_left p (by omega))
  have h1 : a ^ (n - 1) % (p * p) = 1 := mod_one_of_dvd hpp hn hpos hF
  have hx : a ^ (p - 1) % p = 1 := fermat_one h ha
  -- x = 1 + p t, so x^p = 1 by p p
  have key : ∀ x, x % p = 1 → x ^ p % (p * p) = 1 := by
    intro x hx
    obtain ⟨t, rfl⟩ : ∃ t, x = p * t + 1 := ⟨x / p, by have := Nat.div_add_mod x p; omega⟩
    obtain ⟨m, rfl⟩ : ∃ m, p = m + 2 := ⟨p - 2, by omega⟩
    rw [binom]
    rw [show m + 2 + 1 = (m + 1 + 1) + 1 from rfl, sumTo_front, sumTo_front]
    have hz : (m + 2) * (m + 2) ∣ sumTo (fun i => ch (m + 2) (i + 1 + 1) * ((m + 2) * t) ^ (i + 1 + 1)) (m + 1) := by
      refine sumTo_mod _ (fun i _ => ?_)
      refine Nat.dvd_trans ⟨t * t * ((m + 2) * t) ^ i, ?_⟩ (Nat.dvd_mul_left _ _)
      rw [Nat.pow_succ, Nat.pow_succ]
      generalize ((m + 2) * t) ^ i = z
      rw [Nat.mul_assoc, Nat.mul_comm z, show (m + 2) * t * ((m + 2) * t) = (m + 2) * (m + 2) * (t * t) by
        rw [Nat.mul_assoc, Nat.mul_left_comm t, ← Nat.mul_assoc], Nat.mul_assoc]
    obtain ⟨c, hc⟩ := hz
    simp only [ch_zero, Nat.pow_zero, Nat.mul_one, Nat.zero_add]
    rw [hc]
    have hc1 : ch (m + 2) 1 = m + 2 := by
      have := ch_mul (m + 1) 0
      rw [ch_zero] at this
      simpa using this
    rw [hc1, Nat.pow_one, ← Nat.mul_assoc, ← Nat.mul_add, Nat.add_mul_mod_self_left, Nat.mod_eq_of_lt (by omega)]
  have hxp := key _ hx
  obtain ⟨c, hc⟩ := hn
  -- x^n = 1 and x^(n-1) = 1
  have hxn : (a ^ (p - 1)) ^ n % (p * p) = 1 := by
    rw [hc, show p * p * c = p * (p * c) by rw [Nat.mul_assoc], Nat.pow_mul]; exact one_pow_mod hpp _ hxp
  have hxm : (a ^ (p - 1)) ^ (n - 1) % (p * p) = 1 := by
    rw [← Nat.pow_mul, Nat.mul_comm, Nat.pow_mul]; exact one_pow_mod hpp _ h1
  have e : (a ^ (p - 1)) ^ n = (a ^ (p - 1)) ^ (n - 1) * a ^ (p - 1) := by
    rw [← Nat.pow_succ]; congr 1; omega
  rw [e, Nat.mul_mod, hxm, Nat.one_mul, Nat.mod_mod] at hxn
  exact hxn

/-! ### Two primes -/
theorem two_case {p q a : Nat} (hp : 2 ≤ p) (h : Pr q) (ha : ¬ q ∣ a) (hF : a ^ (p * q - 1) % (p * q) = 1) : q ∣ a ^ (p - 1) - 1 := by
  have hq := h.1
  have hpos : 0 < p * q := Nat.mul_pos (by omega) (by omega)
  have h1 : a ^ (p * q - 1) % q = 1 := mod_one_of_dvd hq (Nat.dvd_mul_left q p) hpos hF
  have h2 : a ^ (q - 1) % q = 1 := fermat_one h ha
  have e : p * q - 1 = (q - 1) * p + (p - 1) := by
    rw [Nat.sub_mul, Nat.one_mul, Nat.mul_comm q p]
    have : p ≤ p * q := Nat.le_mul_of_pos_right p (by omega)
    omega
  rw [e, Nat.pow_add, Nat.pow_mul, Nat.mul_mod, one_pow_mod hq _ h2, Nat.one_mul, Nat.mod_mod] at h1
  have ha0 : 0 < a := by
    rcases Nat.eq_zero_or_pos a with z | z
    · subst z; exact absurd (Nat.dvd_zero q) ha
    · exact z
  have hpos2 : 0 < a ^ (p - 1) := Nat.pow_pos ha0
  have := Nat.div_add_mod (a ^ (p - 1)) q
  exact ⟨a ^ (p - 1) / q, by omega⟩

end Go.Proofs.YthanbjnpfenniaaDoor.NumTh
