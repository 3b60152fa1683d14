/- The inequalities of a long division by limbs: a guessed figure of the quotient, mended by the second limb, is right or one too great. No program in it. -/
import Derived.Test.YtnlgciomdghfiaaLimbs
namespace Go.Proofs.Ytnlgciomdghfiaa.Limbs

/-- The great numbers of one round: U = top * B^(m+1) + u2 * B^m + U', V = (v1 * B + v2) * B^m + V', both rests below B^m. P stands for B^m. -/
structure Round (P top u2 U' U v1 v2 V' V : Int) : Prop where
  p : 1 ≤ P
  u : U = (top * 268435456 + u2) * P + U'
  v : V = (v1 * 268435456 + v2) * P + V'
  u0 : 0 ≤ U' ∧ U' < P
  v0 : 0 ≤ V' ∧ V' < P
  u2b : 0 ≤ u2 ∧ u2 < 268435456
  v2b : 0 ≤ v2 ∧ v2 < 268435456
  v1b : 268435456 ≤ 2 * v1 ∧ v1 < 268435456
  t0 : 0 ≤ top
  lt : U < V * 268435456

variable {P top u2 U' U v1 v2 V' V q left : Int}

theorem mul_le (a : Int) {b c : Int} (h : b ≤ c) (ha : 0 ≤ a) : a * b ≤ a * c := Int.mul_le_mul_of_nonneg_left h ha
theorem mul_le' (a : Int) {b c : Int} (h : b ≤ c) (ha : 0 ≤ a) : b * a ≤ c * a := Int.mul_le_mul_of_nonneg_right h ha

theorem Round.vpos (h : Round P top u2 U' U v1 v2 V' V) : 0 < V := by
  obtain ⟨p, u, v, u0, v0, u2b, v2b, v1b, t0, lt⟩ := h
  have h1 : 1 * P ≤ (v1 * 268435456 + v2) * P := mul_le' P (by omega) (by omega)
  omega

/-- The top is below (v1 + 1) 268435456. -/
theorem Round.top_lt (h : Round P top u2 U' U v1 v2 V' V) : top < (v1 + 1) * 268435456 := by
  obtain ⟨p, u, v, u0, v0, u2b, v2b, v1b, t0, lt⟩ := h
  by_cases hc : top < (v1 + 1) * 268435456
  · exact hc
  · exfalso
    have h1 : ((v1 + 1) * 268435456 * 268435456) * P ≤ (top * 268435456 + u2) * P := mul_le' P (by omega) (by omega)
    have h2 : V < ((v1 + 1) * 268435456) * P := by
      have : (v1 * 268435456 + v2 + 1) * P ≤ ((v1 + 1) * 268435456) * P := mul_le' P (by omega) (by omega)
      rw [Int.add_mul (v1 * 268435456 + v2) 1 P] at this
      omega
    have h3 : (V + 1) * 268435456 ≤ (((v1 + 1) * 268435456) * P) * 268435456 := mul_le' 268435456 (by omega) (by omega)
    have e : (((v1 + 1) * 268435456) * P) * 268435456 = ((v1 + 1) * 268435456 * 268435456) * P := by rw [Int.mul_assoc, Int.mul_comm P 268435456, ← Int.mul_assoc]
    rw [e, Int.add_mul] at h3
    omega

/-- What the guess keeps. -/
structure Guess (top v1 U V q left : Int) : Prop where
  eq : q * v1 + left = top
  l0 : 0 ≤ left
  up : U < (q + 1) * V

theorem Round.start (h : Round P top u2 U' U v1 v2 V' V) (heq : q * v1 + left = top) (l0 : 0 ≤ left) (l1 : left < v1) : Guess top v1 U V q left := by
  refine ⟨heq, l0, ?_⟩
  obtain ⟨p, u, v, u0, v0, u2b, v2b, v1b, t0, lt⟩ := h
  have q0 : 0 ≤ q + 1 := by
    by_cases hq : 0 ≤ q + 1
    · exact hq
    · have : q * v1 ≤ (-2) * v1 := mul_le' v1 (by omega) (by omega)
      omega
  have h1 : top + 1 ≤ (q + 1) * v1 := by rw [Int.add_mul]; omega
  have h2 : (top + 1) * 268435456 ≤ (q + 1) * v1 * 268435456 := mul_le' 268435456 h1 (by omega)
  have h3 : (q + 1) * ((v1 * 268435456) * P) ≤ (q + 1) * V := by
    refine mul_le (q + 1) ?_ q0
    have : (v1 * 268435456) * P ≤ (v1 * 268435456 + v2) * P := mul_le' P (by omega) (by omega)
    omega
  have h4 : ((top + 1) * 268435456) * P ≤ ((q + 1) * v1 * 268435456) * P := mul_le' P h2 (by omega)
  have e : (q + 1) * ((v1 * 268435456) * P) = ((q + 1) * v1 * 268435456) * P := by rw [← Int.mul_assoc, ← Int.mul_assoc]
  rw [e] at h3
  have h5 : (top * 268435456 + u2 + 1) * P ≤ ((top + 1) * 268435456) * P := mul_le' P (by omega) (by omega)
  rw [Int.add_mul (top * 268435456 + u2) 1 P] at h5
  omega

theorem Guess.q0 (hv : 0 < V) (hu : 0 ≤ U) (h : Guess top v1 U V q left) : 0 ≤ q := by
  have := h.up
  by_cases hq : 0 ≤ q
  · exact hq
  · have : (q + 1) * V ≤ 0 * V := mul_le' V (by omega) (by omega)
    omega

theorem Round.u_nonneg (h : Round P top u2 U' U v1 v2 V' V) : 0 ≤ U := by
  obtain ⟨p, u, v, u0, v0, u2b, v2b, v1b, t0, lt⟩ := h
  have : 0 ≤ (top * 268435456 + u2) * P := Int.mul_nonneg (by omega) (by omega)
  omega

/-- Where the test says so the guess is too great: one less is a guess still. -/
theorem Round.step (h : Round P top u2 U' U v1 v2 V' V) (g : Guess top v1 U V q left) (ht : 268435456 ≤ q ∨ left * 268435456 + u2 < q * v2) : Guess top v1 U V (q - 1) (left + v1) := by
  have hv := h.vpos
  have hq := g.q0 hv h.u_nonneg
  obtain ⟨p, u, v, u0, v0, u2b, v2b, v1b, t0, lt⟩ := h
  obtain ⟨eq, l0, up⟩ := g
  refine ⟨by rw [Int.sub_mul]; omega, by omega, ?_⟩
  rw [show q - 1 + 1 = q by omega]
  rcases ht with ht | ht
  · have : 268435456 * V ≤ q * V := mul_le' V ht (by omega)
    rw [Int.mul_comm 268435456 V] at this
    omega
  · have h1 : top * 268435456 + u2 + 1 ≤ q * (v1 * 268435456 + v2) := by
      rw [Int.mul_add, ← Int.mul_assoc]
      have : (q * v1 + left) * 268435456 = top * 268435456 := by rw [eq]
      rw [Int.add_mul] at this
      omega
    have h2 : (top * 268435456 + u2 + 1) * P ≤ q * (v1 * 268435456 + v2) * P := mul_le' P h1 (by omega)
    have h3 : q * ((v1 * 268435456 + v2) * P) ≤ q * V := mul_le q (by omega) hq
    rw [← Int.mul_assoc] at h3
    rw [Int.add_mul (top * 268435456 + u2) 1 P] at h2
    omega

/-- Where the test says no the guess is a figure, and right or one too great. -/
theorem Round.done (h : Round P top u2 U' U v1 v2 V' V) (g : Guess top v1 U V q left) (ht : ¬ (left < 268435456 ∧ (268435456 ≤ q ∨ left * 268435456 + u2 < q * v2))) :
    0 ≤ q ∧ q < 268435456 ∧ U < (q + 1) * V ∧ (q - 1) * V ≤ U := by
  have hv := h.vpos
  have hU := h.u_nonneg
  have hq := g.q0 hv hU
  have htop := h.top_lt
  obtain ⟨p, u, v, u0, v0, u2b, v2b, v1b, t0, lt⟩ := h
  obtain ⟨eq, l0, up⟩ := g
  have key : q < 268435456 ∧ q * v2 ≤ left * 268435456 + u2 := by
    by_cases hl : left < 268435456
    · have : ¬ (268435456 ≤ q ∨ left * 268435456 + u2 < q * v2) := fun x => ht ⟨hl, x⟩
      omega
    · have hqB : q < 268435456 := by
        by_cases hc : q < 268435456
        · exact hc
        · have h1 : 268435456 * v1 ≤ q * v1 := mul_le' v1 (by omega) (by omega)
          rw [Int.add_mul, Int.one_mul, Int.mul_comm v1 268435456] at htop
          omega
      refine ⟨hqB, ?_⟩
      have h1 : q * v2 ≤ 268435456 * v2 := mul_le' v2 (by omega) (by omega)
      have h2 : 268435456 * v2 ≤ 268435456 * 268435456 := mul_le 268435456 (by omega) (by omega)
      have h3 : 268435456 * 268435456 ≤ left * 268435456 := mul_le' 268435456 (by omega) (by omega)
      omega
  refine ⟨hq, key.1, up, ?_⟩
  have h1 : q * (v1 * 268435456 + v2) ≤ top * 268435456 + u2 := by
    rw [Int.mul_add, ← Int.mul_assoc]
    have : (q * v1 + left) * 268435456 = top * 268435456 := by rw [eq]
    rw [Int.add_mul] at this
    omega
  have h2 : q * (v1 * 268435456 + v2) * P ≤ (top * 268435456 + u2) * P := mul_le' P h1 (by omega)
  have h3 : q * V' ≤ q * P := mul_le q (by omega) hq
  have h4 : q * P ≤ 268435456 * P := mul_le' P (by omega) (by omega)
  have h5 : 268435456 * P ≤ (v1 * 268435456 + v2) * P := by
    refine mul_le' P ?_ (by omega)
    have : 1 * 268435456 ≤ v1 * 268435456 := mul_le' 268435456 (by omega) (by omega)
    omega
  have e : q * V = q * (v1 * 268435456 + v2) * P + q * V' := by rw [v, Int.mul_add, ← Int.mul_assoc]
  rw [Int.sub_mul]
  omega

end Go.Proofs.Ytnlgciomdghfiaa.Limbs
