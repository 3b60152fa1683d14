/- The words of the program and of the reference (l1): what each comes to, for all arguments that are met. -/
import Derived.Test.YtajlgfjmocgoeadModel
import Derived.Test.YtajlgfjmocgoeadBits
namespace Go.Proofs.Ytajlgfjmocgoead.Word
open Go.RowKit Go.Proofs.YtajlgfjmocgoeadW.PrintWords Go.Proofs.YtajlgfjmocgoeadW.PrintLast Go.Proofs.YtajlgfjmocgoeadW.PrintMore Go.Proofs.Ytajlgfjmocgoead.Lib Go.Proofs.Ytajlgfjmocgoead.M

/-! ### ranges -/
theorem in_i (a b c : Int) : impl_in.f a b c = some (decide (b ≤ a ∧ a ≤ c)) := by
  unfold impl_in.f
  by_cases h : b ≤ a <;> simp [h]
theorem in_s (a b c : Int) : spec_l1In.f a b c = some (decide (b ≤ a ∧ a ≤ c)) := by
  unfold spec_l1In.f
  by_cases h : b ≤ a <;> simp [h]
theorem mod_i (p : Int) : impl_isModulus.f p = some (decide (2 ≤ p ∧ p ≤ 268435456)) := by
  unfold impl_isModulus.f; rw [in_i]; rfl
theorem mod_s (p : Int) : spec_l1Modulus.f p = some (decide (2 ≤ p ∧ p ≤ 268435456)) := by
  unfold spec_l1Modulus.f; rw [in_s]; rfl

/-! ### what is left of a number -/
theorem tmod_fix (a m : Int) (hm : 0 < m) : (if Int.tmod a m < 0 then Int.tmod a m + m else Int.tmod a m) = a % m := by
  have h1 : Int.tmod a m = if 0 ≤ a ∨ a % m = 0 then a % m else a % m - m := by
    rw [Int.tmod_eq_emod]
    by_cases h : 0 ≤ a ∨ m ∣ a
    · have h' : 0 ≤ a ∨ a % m = 0 := by
        rcases h with h | h
        · exact Or.inl h
        · exact Or.inr (Int.emod_eq_zero_of_dvd h)
      rw [if_pos h, if_pos h']; simp
    · have h' : ¬ (0 ≤ a ∨ a % m = 0) := by
        intro h2
        rcases h2 with h2 | h2
        · exact h (Or.inl h2)
        · exact h (Or.inr (Int.dvd_of_emod_eq_zero h2))
      rw [if_neg h, if_neg h']
      omega
  have h2 := Int.emod_nonneg a (show m ≠ 0 by omega)
  have h3 := Int.emod_lt_of_pos a hm
  rw [h1]
  split <;> split <;> omega

theorem modf_s {a m : Int} (h0 : 0 < m) (hm : m ≤ 4611686018427387904) : spec_l1Mod.f a m = some (a % m) := by
  unfold spec_l1Mod.f
  rw [if_neg (by omega)]
  have h := tmod_fix a m h0
  have h2 := Int.emod_nonneg a (show m ≠ 0 by omega)
  have h3 := Int.emod_lt_of_pos a h0
  by_cases hc : Int.tmod a m < 0
  · rw [if_pos hc] at h ⊢
    rw [h, w64 (by omega) (by omega)]
  · rw [if_neg hc] at h ⊢
    rw [h]
theorem modf_i {a m : Int} (h0 : 0 < m) (hm : m ≤ 4611686018427387904) : impl_mod.f a m = some (a % m) := modf_s h0 hm

/-! ### Euclid -/
/-- What both of Euclid's roads keep: the greatest divisor, the numbers by which the first one has come, and their bounds. -/
structure Eu (m a y x v u : Int) : Prop where
  x0 : 0 ≤ x
  y1 : 1 ≤ y
  xy : x ≤ m ∧ y ≤ m
  gcd : Int.gcd y x = Int.gcd a m
  hu : (u * a - x) % m = 0
  hv : (v * a - y) % m = 0
  bd : (0 ≤ u ∧ v ≤ 0 ∧ u * y - v * x = m) ∨ (u ≤ 0 ∧ 0 ≤ v ∧ v * x - u * y = m)
  vb : -m ≤ v ∧ v ≤ m

theorem Eu.step {m a y x v u : Int} (h : Eu m a y x v u) (hx : x ≠ 0) : Eu m a x (y % x) u (v - y / x * u) ∧ -m ≤ v - y / x * u ∧ v - y / x * u ≤ m := by
  obtain ⟨x0, y1, ⟨xm, ym⟩, g, hu, hv, bd, vb⟩ := h
  have hxp : 0 < x := by omega
  have e : y % x = y - y / x * x := by have := Int.emod_add_mul_ediv y x; rw [Int.mul_comm] at this; omega
  have q0 : 0 ≤ y / x := Int.ediv_nonneg (by omega) (by omega)
  have r0 := Int.emod_nonneg y hx
  have r1 := Int.emod_lt_of_pos y hxp
  have ym' : 0 < m := by omega
  -- the new relation of sizes
  have key : (v - y / x * u) * x - u * (y % x) = v * x - u * y := by
    rw [e, Int.sub_mul, Int.mul_sub]
    have : y / x * u * x = u * (y / x * x) := by rw [Int.mul_comm (y / x) u, Int.mul_assoc]
    omega
  have ub : -m ≤ u ∧ u ≤ m := by
    rcases bd with ⟨b1, b2, b3⟩ | ⟨b1, b2, b3⟩
    · have h1 : 0 ≤ -v * x := Int.mul_nonneg (by omega) x0
      have h2 : u * 1 ≤ u * y := Int.mul_le_mul_of_nonneg_left y1 b1
      rw [Int.neg_mul] at h1
      omega
    · have h1 : 0 ≤ v * x := Int.mul_nonneg b2 x0
      have h2 : -u * 1 ≤ -u * y := Int.mul_le_mul_of_nonneg_left y1 (by omega)
      rw [Int.neg_mul u 1, Int.neg_mul u y] at h2
      omega
  have nb : (0 ≤ v - y / x * u ∧ u ≤ 0 ∧ (v - y / x * u) * x - u * (y % x) = m) ∨ (v - y / x * u ≤ 0 ∧ 0 ≤ u ∧ u * (y % x) - (v - y / x * u) * x = m) := by
    rcases bd with ⟨b1, b2, b3⟩ | ⟨b1, b2, b3⟩
    · right
      have : 0 ≤ y / x * u := Int.mul_nonneg q0 b1
      exact ⟨by omega, b1, by omega⟩
    · left
      have : 0 ≤ y / x * (-u) := Int.mul_nonneg q0 (by omega)
      rw [Int.mul_neg] at this
      exact ⟨by omega, b1, by omega⟩
  have nbd : -m ≤ v - y / x * u ∧ v - y / x * u ≤ m := by
    rcases nb with ⟨b1, b2, b3⟩ | ⟨b1, b2, b3⟩
    · have h1 : 0 ≤ -u * (y % x) := Int.mul_nonneg (by omega) r0
      have h2 : (v - y / x * u) * 1 ≤ (v - y / x * u) * x := Int.mul_le_mul_of_nonneg_left (by omega) b1
      rw [Int.neg_mul] at h1
      omega
    · have h1 : 0 ≤ u * (y % x) := Int.mul_nonneg b2 r0
      have h2 : -(v - y / x * u) * 1 ≤ -(v - y / x * u) * x := Int.mul_le_mul_of_nonneg_left (by omega) (by omega)
      rw [Int.neg_mul (v - y / x * u) x] at h2
      omega
  refine ⟨⟨r0, by omega, ⟨by omega, xm⟩, ?_, ?_, hu, ?_, ub⟩, nbd⟩
  · rw [← g, e, Int.gcd_sub_mul_right_right, Int.gcd_comm]
  · have e2 : (v - y / x * u) * a - y % x = (v * a - y) - y / x * (u * a - x) := by
      rw [e, Int.sub_mul, Int.mul_sub, Int.mul_assoc]; omega
    rw [e2]
    obtain ⟨c, hc⟩ := Int.dvd_of_emod_eq_zero hv
    obtain ⟨d, hd⟩ := Int.dvd_of_emod_eq_zero hu
    rw [hc, hd]
    refine Int.emod_eq_zero_of_dvd ⟨c - y / x * d, ?_⟩
    rw [Int.mul_sub, Int.mul_left_comm]
  · exact nb


/-- What Euclid's road by a modulus finds: the greatest divisor g and a number i that takes a to g. -/
structure Inv (m a g i : Int) : Prop where
  gcd : g = (Int.gcd a m : Nat)
  i0 : 0 ≤ i
  i1 : i < m
  mul : (i * a - g) % m = 0

theorem Eu.done {m a y x v u : Int} (h : Eu m a y x v u) (hx : x = 0) : Inv m a y (v % m) := by
  obtain ⟨_, y1, ⟨_, ym⟩, g, _, hv, _, _⟩ := h
  subst hx
  have m0 : 0 < m := by omega
  refine ⟨?_, Int.emod_nonneg v (by omega), Int.emod_lt_of_pos v m0, ?_⟩
  · rw [← g, Int.gcd_zero]
    omega
  · obtain ⟨c, hc⟩ := Int.dvd_of_emod_eq_zero hv
    refine Int.emod_eq_zero_of_dvd ⟨c - v / m * a, ?_⟩
    have e : v % m = v - m * (v / m) := by have := Int.emod_add_mul_ediv v m; omega
    rw [e, Int.sub_mul, Int.mul_sub, ← hc, Int.mul_assoc]; omega

theorem euclid {m a : Int} (hm : m ≤ 4294967296) : ∀ (n : Nat) (y x v u : Int), x ≤ n → Eu m a y x v u →
    ∃ g i, Inv m a g i ∧ (∀ k, n < k → impl_inverse.l0 k m y x v u = some (i, g == 1)) ∧ (∀ k, n < k → spec_l1Inv.l0 k m x y u v = some (if g = 1 then i else 0))
  | n, y, x, v, u, hn, h => by
    have m0 : 0 < m := by have := h.y1; have := h.xy; omega
    have ym := h.xy.2
    have y1 := h.y1
    by_cases hx : x = 0
    · refine ⟨y, v % m, h.done hx, ?_, ?_⟩
      · intro k hk
        obtain ⟨k, rfl⟩ : ∃ j, k = j + 1 := ⟨k - 1, by omega⟩
        simp only [impl_inverse.l0]
        rw [if_pos hx, modf_i m0 (by omega)]; rfl
      · intro k hk
        obtain ⟨k, rfl⟩ : ∃ j, k = j + 1 := ⟨k - 1, by omega⟩
        simp only [spec_l1Inv.l0]
        rw [if_pos hx]
        by_cases hy : y = 1
        · rw [if_pos hy, if_pos hy, modf_s m0 (by omega)]; rfl
        · rw [if_neg hy, if_neg hy]
    · obtain ⟨hs, b1, b2⟩ := h.step hx
      have hx0 := h.x0
      have r0 := hs.x0
      have r1 := Int.emod_lt_of_pos y (show 0 < x by omega)
      obtain ⟨n, rfl⟩ : ∃ j, n = j + 1 := ⟨n - 1, by omega⟩
      obtain ⟨g, i, hi, h1, h2⟩ := euclid hm n x (y % x) u (v - y / x * u) (by omega) hs
      have q0 : 0 ≤ y / x := Int.ediv_nonneg (by omega) (by omega)
      have q1 : y / x ≤ y := Int.ediv_le_self x (by omega)
      have e0 : Int.tdiv y x = y / x := tdiv_nn (by omega)
      have e1 : wrap64 (Int.tdiv y x) = y / x := by rw [e0]; exact w64 (by omega) (by omega)
      have em : y / x * x = y - y % x := by have := Int.emod_add_mul_ediv y x; rw [Int.mul_comm] at this; omega
      have rle : 0 ≤ y / x * x := Int.mul_nonneg q0 hx0
      have e2 : wrap64 (y / x * x) = y - y % x := by rw [em]; exact w64 (by omega) (by omega)
      have e3 : wrap64 (y - (y - y % x)) = y % x := by rw [w64 (by omega) (by omega)]; omega
      have vb := h.vb
      have e4 : wrap64 (y / x * u) = y / x * u := w64 (by omega) (by omega)
      have e5 : wrap64 (v - y / x * u) = v - y / x * u := w64 (by omega) (by omega)
      refine ⟨g, i, hi, ?_, ?_⟩
      · intro k hk
        obtain ⟨k, rfl⟩ : ∃ j, k = j + 1 := ⟨k - 1, by omega⟩
        simp only [impl_inverse.l0]
        rw [if_neg hx, e1, e2, e3, e4, e5]
        exact h1 k (by omega)
      · intro k hk
        obtain ⟨k, rfl⟩ : ∃ j, k = j + 1 := ⟨k - 1, by omega⟩
        simp only [spec_l1Inv.l0]
        rw [if_neg hx, e1, e2, e3, e4, e5]
        exact h2 k (by omega)

theorem Eu.start {m a : Int} (hm : 0 < m) (h0 : 0 ≤ a) (h1 : a ≤ m) : Eu m a m a 0 1 := by
  refine ⟨h0, by omega, ⟨h1, by omega⟩, Int.gcd_comm .., by simp, by simp, Or.inl ⟨by omega, by omega, by omega⟩, by omega⟩

/-- The program's and the reference's inverse by a modulus up to 2^32: i takes a to g; the program hands i back and whether g is 1, the reference i where g is 1 and 0 elsewhere. -/
theorem inverse_both (a m : Int) (h0 : 0 < m) (hm : m ≤ 4294967296) : ∃ g i, Inv m (a % m) g i ∧ Ev (fun k => impl_inverse.f k a m) (i, g == 1) ∧ Ev (fun k => spec_l1Inv.f k a m) (if g = 1 then i else 0) := by
  have r0 := Int.emod_nonneg a (show m ≠ 0 by omega)
  have r1 := Int.emod_lt_of_pos a h0
  obtain ⟨g, i, hi, h1, h2⟩ := euclid hm m.toNat m (a % m) 0 1 (by omega) (Eu.start h0 r0 (by omega))
  refine ⟨g, i, hi, ⟨m.toNat + 2, fun k hk => ?_⟩, ⟨m.toNat + 1, fun k hk => ?_⟩⟩
  · show impl_inverse.f k a m = _
    unfold impl_inverse.f
    rw [modf_i h0 (by omega), bind_some]
    obtain ⟨k, rfl⟩ : ∃ j, k = j + 1 := ⟨k - 1, by omega⟩
    simp only [impl_inverse.l0]
    rw [if_neg (by omega)]
    have e0 : Int.tdiv (a % m) m = 0 := by rw [tdiv_nn r0]; exact Int.ediv_eq_zero_of_lt r0 r1
    rw [e0]
    have z : wrap64 0 = 0 := w64 (by omega) (by omega)
    have z1 : wrap64 1 = 1 := w64 (by omega) (by omega)
    have ea : wrap64 (a % m) = a % m := w64 (by omega) (by omega)
    simp only [z, Int.zero_mul, Int.sub_zero, ea, z1]
    exact h1 k (by omega)
  · show spec_l1Inv.f k a m = _
    unfold spec_l1Inv.f
    rw [modf_s h0 (by omega), bind_some]
    exact h2 k (by omega)

end Go.Proofs.Ytajlgfjmocgoead.Word
