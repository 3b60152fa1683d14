/- Below a prime there is a number whose half power is -1; each number's half power is 1 or -1. -/
import Derived.Test.YthanbjnpfenniaaDoorPPow
namespace Go.Proofs.YthanbjnpfenniaaDoor.NumTh

/-- The sum of the k-th powers of the numbers below n. -/
def pw (k n : Nat) : Nat := sumTo (fun a => a ^ k) n

theorem pw_sum (k : Nat) : ∀ n, sumTo (fun j => ch (k + 1) j * pw j n) (k + 1) = n ^ (k + 1)
  | 0 => by
    rw [Nat.zero_pow (by omega)]
    have : ∀ m, sumTo (fun j => ch (k + 1) j * pw j 0) m = 0 := by
      intro m
      induction m with
      | zero => rfl
      | succ m ih => show sumTo _ m + ch (k + 1) m * pw m 0 = 0; rw [ih]; show 0 + ch (k + 1) m * 0 = 0; simp
    exact this _
  | n + 1 => by
    have ih := pw_sum k n
    have e : sumTo (fun j => ch (k + 1) j * pw j (n + 1)) (k + 1) = sumTo (fun j => ch (k + 1) j * pw j n + ch (k + 1) j * n ^ j) (k + 1) := by
      apply sumTo_congr
      intro j _
      show ch (k + 1) j * (pw j n + n ^ j) = _
      rw [Nat.mul_add]
    rw [e, sumTo_add, ih, binom]
    show _ = sumTo (fun j => ch (k + 1) j * n ^ j) (k + 1) + ch (k + 1) (k + 1) * n ^ (k + 1)
    rw [ch_self]; omega

theorem ch_last : ∀ n, ch (n + 1) n = n + 1
  | 0 => rfl
  | n + 1 => by
    show ch (n + 1) n + ch (n + 1) (n + 1) = n + 2
    rw [ch_last n, ch_self]

theorem pw_zero {p : Nat} (hp : Pr p) : ∀ k, k + 1 < p → p ∣ pw k p := by
  intro k
  induction k using Nat.strongRecOn with
  | ind k ih =>
    intro hk
    have h := pw_sum k p
    have h1 : sumTo (fun j => ch (k + 1) j * pw j p) (k + 1) = sumTo (fun j => ch (k + 1) j * pw j p) k + ch (k + 1) k * pw k p := rfl
    rw [h1, ch_last] at h
    have hs : p ∣ sumTo (fun j => ch (k + 1) j * pw j p) k := sumTo_mod k (fun j hj => Nat.dvd_trans (ih j hj (by omega)) (Nat.dvd_mul_left _ _))
    have hp2 : p ∣ p ^ (k + 1) := ⟨p ^ k, by rw [Nat.pow_succ, Nat.mul_comm]⟩
    have h3 : p ∣ (k + 1) * pw k p := by
      have := (Nat.dvd_add_right hs).1 (by rw [h]; exact hp2)
      exact this
    rcases hp.dvd_mul h3 with x | x
    · have := Nat.le_of_dvd (by omega) x; omega
    · exact x

theorem half_pow {p a : Nat} (hp : Pr p) (h3 : p % 2 = 1) (ha : ¬ p ∣ a) : a ^ ((p - 1) / 2) % p = 1 ∨ a ^ ((p - 1) / 2) % p = p - 1 := by
  have h2 := hp.1
  have f := fermat_one hp ha
  have e : p - 1 = (p - 1) / 2 * 2 := by omega
  rw [e, Nat.pow_mul, Nat.pow_mod] at f
  have hlt := Nat.mod_lt (a ^ ((p - 1) / 2)) (show 0 < p by omega)
  generalize a ^ ((p - 1) / 2) % p = x at f hlt ⊢
  have hx : p ∣ (x + 1) * (x - 1) := by
    cases x with
    | zero => simp at f
    | succ y =>
      rw [Nat.add_sub_cancel]
      have e2 : (y + 1) ^ 2 = (y + 1 + 1) * y + 1 := by rw [Nat.pow_two, Nat.add_mul, Nat.mul_add, Nat.add_mul, Nat.add_mul]; omega
      rw [e2] at f
      have := Nat.div_add_mod ((y + 1 + 1) * y + 1) p
      exact ⟨((y + 1 + 1) * y + 1) / p, by omega⟩
  rcases hp.dvd_mul hx with g | g
  · right
    have := Nat.le_of_dvd (by omega) g
    omega
  · left
    by_cases hx1 : x ≤ 1
    · have : x ≠ 0 := by rintro rfl; simp at f
      omega
    · have := Nat.le_of_dvd (by omega) g
      omega

theorem exists_nonres {p : Nat} (hp : Pr p) (h3 : p % 2 = 1) : ∃ a, 2 ≤ a ∧ a < p ∧ a ^ ((p - 1) / 2) % p = p - 1 := by
  have h2 := hp.1
  have hk : (p - 1) / 2 + 1 < p := by omega
  have hz := pw_zero hp ((p - 1) / 2) hk
  by_cases hex : ∃ a, 2 ≤ a ∧ a < p ∧ a ^ ((p - 1) / 2) % p = p - 1
  · exact hex
  · exfalso
    have all : ∀ a, 1 ≤ a → a < p → a ^ ((p - 1) / 2) % p = 1 := by
      intro a h1 h2'
      by_cases e : a = 1
      · subst e; rw [Nat.one_pow]; exact Nat.mod_eq_of_lt (by omega)
      · rcases half_pow hp h3 (a := a) (fun hd => by have := Nat.le_of_dvd (by omega) hd; omega) with g | g
        · exact g
        · exact absurd ⟨a, by omega, h2', g⟩ hex
    have count : ∀ n, 1 ≤ n → n ≤ p → (pw ((p - 1) / 2) n) % p = (n - 1) % p := by
      intro n
      induction n with
      | zero => intro h _; omega
      | succ n ih =>
        intro _ hn
        show (pw ((p - 1) / 2) n + n ^ ((p - 1) / 2)) % p = _
        by_cases e : n = 0
        · subst e
          show (0 + 0 ^ ((p - 1) / 2)) % p = _
          rw [Nat.zero_pow (by omega)]
        · rw [Nat.add_mod, ih (by omega) (by omega), all n (by omega) (by omega)]
          have e1 : (1 : Nat) = 1 % p := (Nat.mod_eq_of_lt (by omega)).symm
          rw [e1, ← Nat.add_mod]
          have : 1 % p = 1 := Nat.mod_eq_of_lt (by omega)
          rw [this]
          congr 1; omega
    have := count p (by omega) (Nat.le_refl _)
    rw [Nat.mod_eq_zero_of_dvd hz, Nat.mod_eq_of_lt (by omega)] at this
    omega

end Go.Proofs.YthanbjnpfenniaaDoor.NumTh
