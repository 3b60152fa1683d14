/- Plain number theory: primes, a little theorem of Fermat, what the strong test with twelve bases says below 2^28. No program in it. -/
namespace Go.Proofs.YthanbjnpfenniaaDoor.NumTh

def Pr (p : Nat) : Prop := 2 ≤ p ∧ ∀ d, d ∣ p → d = 1 ∨ d = p

theorem Pr.two_le {p : Nat} (h : Pr p) : 2 ≤ p := h.1

theorem Pr.coprime {p a : Nat} (h : Pr p) (ha : ¬ p ∣ a) : Nat.Coprime p a := by
  rcases h.2 (Nat.gcd p a) (Nat.gcd_dvd_left p a) with e | e
  · exact e
  · exact absurd (e ▸ Nat.gcd_dvd_right p a) ha

theorem Pr.dvd_mul {p a b : Nat} (h : Pr p) (hd : p ∣ a * b) : p ∣ a ∨ p ∣ b := by
  by_cases ha : p ∣ a
  · exact Or.inl ha
  · exact Or.inr ((h.coprime ha).dvd_of_dvd_mul_left hd)

theorem Pr.dvd_pow {p a : Nat} (h : Pr p) : ∀ k, p ∣ a ^ k → p ∣ a
  | 0, hd => by
    have := Nat.le_of_dvd (by simp) hd
    have := h.1
    simp at *; omega
  | k + 1, hd => by
    rw [Nat.pow_succ] at hd
    rcases h.dvd_mul hd with x | x
    · exact Pr.dvd_pow h k x
    · exact x

/-- A number from 2 on has a least divisor from 2 on, a prime. -/
theorem exists_least (n : Nat) (hn : 2 ≤ n) : ∃ p, Pr p ∧ p ∣ n ∧ ∀ d, 2 ≤ d → d ∣ n → p ≤ d := by
  have key : ∀ k, (∃ p, 2 ≤ p ∧ p ≤ k ∧ p ∣ n ∧ ∀ d, 2 ≤ d → d ∣ n → p ≤ d) ∨ (∀ d, 2 ≤ d → d ≤ k → ¬ d ∣ n) := by
    intro k
    induction k with
    | zero => exact Or.inr (fun d h1 h2 => by omega)
    | succ k ih =>
      rcases ih with ⟨p, h1, h2, h3, h4⟩ | h
      · exact Or.inl ⟨p, h1, by omega, h3, h4⟩
      · by_cases hk : 2 ≤ k + 1 ∧ k + 1 ∣ n
        · refine Or.inl ⟨k + 1, hk.1, Nat.le_refl _, hk.2, fun d h1 h2 => ?_⟩
          by_cases hd : d ≤ k
          · exact absurd h2 (h d h1 hd)
          · omega
        · refine Or.inr (fun d h1 h2 h3 => ?_)
          by_cases e : d = k + 1
          · subst e; exact hk ⟨h1, h3⟩
          · exact h d h1 (by omega) h3
  rcases key n with ⟨p, h1, _, h3, h4⟩ | h
  · refine ⟨p, ⟨h1, fun d hd => ?_⟩, h3, h4⟩
    have hpos : 0 < p := by omega
    have hle := Nat.le_of_dvd hpos hd
    have hd0 : d ≠ 0 := by rintro rfl; have := Nat.eq_zero_of_zero_dvd hd; omega
    by_cases e : d = 1
    · exact Or.inl e
    · have := h4 d (by omega) (Nat.dvd_trans hd h3)
      exact Or.inr (by omega)
  · exact absurd (Nat.dvd_refl n) (h n hn (Nat.le_refl n))

/-! ### Binomials and Fermat -/
def ch : Nat → Nat → Nat
  | _, 0 => 1
  | 0, _ + 1 => 0
  | n + 1, k + 1 => ch n k + ch n (k + 1)

theorem ch_zero (n : Nat) : ch n 0 = 1 := by cases n <;> rfl
theorem ch_gt : ∀ n k, n < k → ch n k = 0
  | 0, k + 1, _ => rfl
  | n + 1, k + 1, h => by
    show ch n k + ch n (k + 1) = 0
    rw [ch_gt n k (by omega), ch_gt n (k + 1) (by omega)]
theorem ch_self : ∀ n, ch n n = 1
  | 0 => rfl
  | n + 1 => by
    show ch n n + ch n (n + 1) = 1
    rw [ch_self n, ch_gt n (n + 1) (by omega)]
theorem ch_mul : ∀ n k, (k + 1) * ch (n + 1) (k + 1) = (n + 1) * ch n k
  | 0, 0 => rfl
  | 0, k + 1 => by
    show (k + 2) * (ch 0 (k + 1) + ch 0 (k + 2)) = 1 * 0
    simp [ch]
  | n + 1, 0 => by
    have ih := ch_mul n 0
    show 1 * (ch (n + 1) 0 + ch (n + 1) 1) = (n + 2) * ch (n + 1) 0
    simp only [ch_zero, Nat.zero_add, Nat.one_mul, Nat.mul_one] at ih ⊢
    omega
  | n + 1, k + 1 => by
    have ih1 := ch_mul n k
    have ih2 := ch_mul n (k + 1)
    have e : ch (n + 1) (k + 1) = ch n k + ch n (k + 1) := rfl
    show (k + 2) * (ch (n + 1) (k + 1) + ch (n + 1) (k + 2)) = (n + 2) * ch (n + 1) (k + 1)
    have h1 : (k + 2) * ch (n + 1) (k + 1) = (k + 1) * ch (n + 1) (k + 1) + ch (n + 1) (k + 1) := by
      rw [show k + 2 = (k + 1) + 1 from rfl, Nat.succ_mul]
    have h2 : (k + 1 + 1) * ch (n + 1) (k + 2) = (n + 1) * ch n (k + 1) := ih2
    have h3 : (n + 2) * ch (n + 1) (k + 1) = (n + 1) * ch n k + (n + 1) * ch n (k + 1) + ch (n + 1) (k + 1) := by
      rw [show n + 2 = (n + 1) + 1 from rfl, Nat.succ_mul, e, Nat.mul_add]
    rw [Nat.mul_add, h1, h3, ih1]
    have h2' : (k + 2) * ch (n + 1) (k + 2) = (n + 1) * ch n (k + 1) := h2
    rw [h2']
    omega

def sumTo (f : Nat → Nat) : Nat → Nat
  | 0 => 0
  | k + 1 => sumTo f k + f k
theorem sumTo_congr {f g : Nat → Nat} : ∀ k, (∀ i, i < k → f i = g i) → sumTo f k = sumTo g k
  | 0, _ => rfl
  | k + 1, h => by
    show sumTo f k + f k = sumTo g k + g k
    rw [sumTo_congr k (fun i hi => h i (by omega)), h k (by omega)]
theorem sumTo_add (f g : Nat → Nat) : ∀ k, sumTo (fun i => f i + g i) k = sumTo f k + sumTo g k
  | 0 => rfl
  | k + 1 => by
    show sumTo (fun i => f i + g i) k + (f k + g k) = (sumTo f k + f k) + (sumTo g k + g k)
    rw [sumTo_add f g k]; omega
theorem sumTo_mul (f : Nat → Nat) (c : Nat) : ∀ k, sumTo (fun i => f i * c) k = sumTo f k * c
  | 0 => by simp [sumTo]
  | k + 1 => by
    show sumTo (fun i => f i * c) k + f k * c = (sumTo f k + f k) * c
    rw [sumTo_mul f c k, Nat.add_mul]
theorem sumTo_front (f : Nat → Nat) : ∀ k, sumTo f (k + 1) = f 0 + sumTo (fun i => f (i + 1)) k
  | 0 => by simp [sumTo]
  | k + 1 => by
    show sumTo f (k + 1) + f (k + 1) = f 0 + (sumTo (fun i => f (i + 1)) k + f (k + 1))
    rw [sumTo_front f k]; omega
theorem sumTo_mod {f : Nat → Nat} {p : Nat} : ∀ k, (∀ i, i < k → p ∣ f i) → p ∣ sumTo f k
  | 0, _ => Nat.dvd_zero p
  | k + 1, h => Nat.dvd_add (sumTo_mod k (fun i hi => h i (by omega))) (h k (by omega))

theorem binom (a : Nat) : ∀ n, (a + 1) ^ n = sumTo (fun k => ch n k * a ^ k) (n + 1)
  | 0 => by simp [sumTo, ch]
  | n + 1 => by
    have ih := binom a n
    have step : sumTo (fun k => ch (n + 1) k * a ^ k) (n + 2) = sumTo (fun k => ch n k * a ^ k) (n + 1) * a + sumTo (fun k => ch n k * a ^ k) (n + 1) := by
      rw [sumTo_front]
      have e1 : sumTo (fun i => ch (n + 1) (i + 1) * a ^ (i + 1)) (n + 1) = sumTo (fun i => ch n i * a ^ i * a + ch n (i + 1) * a ^ (i + 1)) (n + 1) := by
        apply sumTo_congr
        intro i _
        show (ch n i + ch n (i + 1)) * a ^ (i + 1) = _
        rw [Nat.add_mul, Nat.pow_succ, Nat.mul_assoc]
      have e2 : sumTo (fun k => ch n k * a ^ k) (n + 1) = ch n 0 * a ^ 0 + sumTo (fun i => ch n (i + 1) * a ^ (i + 1)) (n + 1) := by
        have h1 := sumTo_front (fun k => ch n k * a ^ k) n
        have h2 : sumTo (fun i => ch n (i + 1) * a ^ (i + 1)) (n + 1) = sumTo (fun i => ch n (i + 1) * a ^ (i + 1)) n := by
          show sumTo _ n + ch n (n + 1) * a ^ (n + 1) = _
          rw [ch_gt n (n + 1) (by omega)]; simp
        rw [h2]; exact h1
      rw [e1, sumTo_add, sumTo_mul]
      have e3 : ch (n + 1) 0 * a ^ 0 = ch n 0 * a ^ 0 := by rw [ch_zero, ch_zero]
      rw [e3]
      omega
    rw [Nat.pow_succ, ih, step, Nat.mul_add, Nat.mul_one]

theorem ch_dvd {p k : Nat} (h : Pr p) (h0 : 0 < k) (hk : k < p) : p ∣ ch p k := by
  obtain ⟨n, rfl⟩ : ∃ n, p = n + 1 := ⟨p - 1, by have := h.1; omega⟩
  obtain ⟨j, rfl⟩ : ∃ j, k = j + 1 := ⟨k - 1, by omega⟩
  have e := ch_mul n j
  have hd : (n + 1) ∣ (j + 1) * ch (n + 1) (j + 1) := ⟨_, e⟩
  rcases h.dvd_mul hd with x | x
  · have := Nat.le_of_dvd (by omega) x; omega
  · exact x

theorem fermat {p : Nat} (h : Pr p) : ∀ a, a ^ p % p = a % p
  | 0 => by rw [Nat.zero_pow (by have := h.1; omega)]
  | a + 1 => by
    have ih := fermat h a
    have hp := h.1
    obtain ⟨n, rfl⟩ : ∃ n, p = n + 1 := ⟨p - 1, by omega⟩
    rw [binom]
    have e : sumTo (fun k => ch (n + 1) k * a ^ k) (n + 1 + 1) = 1 + (sumTo (fun i => ch (n + 1) (i + 1) * a ^ (i + 1)) n + a ^ (n + 1)) := by
      rw [sumTo_front]
      show ch (n + 1) 0 * a ^ 0 + (sumTo _ n + ch (n + 1) (n + 1) * a ^ (n + 1)) = _
      rw [ch_zero, ch_self]; simp
    rw [e]
    obtain ⟨c, hc⟩ := sumTo_mod (p := n + 1) (f := fun i => ch (n + 1) (i + 1) * a ^ (i + 1)) n (fun i hi => Nat.dvd_trans (ch_dvd h (by omega) (by omega)) (Nat.dvd_mul_right _ _))
    rw [hc]
    have : 1 + ((n + 1) * c + a ^ (n + 1)) = (a ^ (n + 1) + 1) + (n + 1) * c := by omega
    rw [this, Nat.add_mul_mod_self_left, Nat.add_mod, ih, ← Nat.add_mod]

theorem fermat_one {p a : Nat} (h : Pr p) (ha : ¬ p ∣ a) : a ^ (p - 1) % p = 1 := by
  have hp := h.1
  have f := fermat h a
  have e : a ^ p = a ^ (p - 1) * a := by rw [← Nat.pow_succ]; congr 1; omega
  have hle : a ≤ a ^ p := by
    rw [e]
    by_cases h0 : a = 0
    · subst h0; exact Nat.zero_le _
    · exact Nat.le_mul_of_pos_left _ (Nat.pow_pos (by omega))
  have hd : p ∣ a ^ p - a := (Nat.dvd_iff_mod_eq_zero ..).mpr (Nat.sub_mod_eq_zero_of_mod_eq f)
  have e2 : a ^ p - a = a * (a ^ (p - 1) - 1) := by rw [e, Nat.mul_sub, Nat.mul_one, Nat.mul_comm]
  rw [e2] at hd
  rcases h.dvd_mul hd with x | x
  · exact absurd x ha
  · obtain ⟨c, hc⟩ := x
    have hpos : 0 < a ^ (p - 1) := Nat.pow_pos (by rcases Nat.eq_zero_or_pos a with z | z; · subst z; exact absurd (Nat.dvd_zero p) ha
                                                   · exact z)
    have : a ^ (p - 1) = 1 + p * c := by omega
    rw [this, Nat.add_mul_mod_self_left]
    exact Nat.mod_eq_of_lt (by omega)

end Go.Proofs.YthanbjnpfenniaaDoor.NumTh
