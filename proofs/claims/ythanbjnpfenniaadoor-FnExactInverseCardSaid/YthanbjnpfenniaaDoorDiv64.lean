/- A figure of long division to the base 2^32, by a guess that is mended. No program in it. -/
namespace Go.Proofs.YthanbjnpfenniaaDoor.Div64

/-- A guess q at the figure of u * 2^32 + d by v1 * 2^32 + v0, and what is left of u. -/
structure Dg (u d v1 v0 q r : Int) : Prop where
  h : q * v1 + r = u
  hi : u * 4294967296 + d < (q + 1) * (v1 * 4294967296 + v0)
  q0 : 0 ≤ q
  r0 : 0 ≤ r
theorem split (q v1 v0 : Int) : q * (v1 * 4294967296 + v0) = q * v1 * 4294967296 + q * v0 := by rw [Int.mul_add, Int.mul_assoc]
theorem Dg.start {u d v1 v0 : Int} (hu : 0 ≤ u) (hd : d < 4294967296) (h1 : 0 < v1) (h0 : 0 ≤ v0) : Dg u d v1 v0 (u / v1) (u % v1) := by
  have e := Int.mul_ediv_add_emod u v1
  have r0 := Int.emod_nonneg u (show v1 ≠ 0 by omega)
  have r1 := Int.emod_lt_of_pos u h1
  have q0 : 0 ≤ u / v1 := Int.ediv_nonneg hu (by omega)
  refine ⟨by rw [Int.mul_comm]; exact e, ?_, q0, r0⟩
  rw [split]
  have e2 : (u / v1 + 1) * v1 = v1 * (u / v1) + v1 := by rw [Int.add_mul, Int.one_mul, Int.mul_comm]
  have e3 : 0 ≤ (u / v1 + 1) * v0 := Int.mul_nonneg (by omega) h0
  omega
theorem Dg.step {u d v1 v0 q r : Int} (g : Dg u d v1 v0 q r) (hu : u < v1 * 4294967296 + v0) (hd0 : 0 ≤ d) (hd : d < 4294967296) (h1 : 0 < v1) (h0 : 0 ≤ v0)
    (hc : 4294967296 ≤ q ∨ 4294967296 * r + d < q * v0) : Dg u d v1 v0 (q - 1) (r + v1) := by
  have hq0 := g.q0
  have hr0 := g.r0
  have hq : 0 < q := by
    rcases hc with hc | hc
    · omega
    · rcases Int.lt_or_le 0 q with h | h
      · exact h
      · have : q = 0 := by omega
        subst this; omega
  have e := g.h
  refine ⟨by rw [Int.sub_mul]; omega, ?_, by omega, by omega⟩
  rw [show q - 1 + 1 = q by omega, split]
  rcases hc with hc | hc
  · have e1 : 4294967296 * (v1 * 4294967296 + v0) ≤ q * (v1 * 4294967296 + v0) := Int.mul_le_mul_of_nonneg_right hc (by omega)
    rw [split q] at e1
    omega
  · have e2 : q * v1 = u - r := by omega
    rw [e2, Int.sub_mul]
    omega
theorem Dg.small {u d v1 v0 q r : Int} (g : Dg u d v1 v0 q r) (hu : u < v1 * 4294967296 + v0) (hd0 : 0 ≤ d) (h1 : 0 < v1) (h0 : 0 ≤ v0) (h0' : v0 < 4294967296) (hr : 4294967296 ≤ r) : q < 4294967296 ∧ q * v0 ≤ 4294967296 * r + d := by
  have hq0 := g.q0
  have e := g.h
  have hq : q < 4294967296 := by
    rcases Int.lt_or_le q 4294967296 with h | h
    · exact h
    · have : 4294967296 * v1 ≤ q * v1 := Int.mul_le_mul_of_nonneg_right h (by omega)
      omega
  refine ⟨hq, ?_⟩
  have : q * v0 ≤ 4294967295 * 4294967295 := Int.mul_le_mul (by omega) (by omega) h0 (by omega)
  omega
/-- Where it cannot be mended it is the figure; and what is left. -/
theorem Dg.done {u d v1 v0 q r : Int} (g : Dg u d v1 v0 q r) (h1 : 0 < v1) (h0 : 0 ≤ v0) (hc : q * v0 ≤ 4294967296 * r + d) :
    q = (u * 4294967296 + d) / (v1 * 4294967296 + v0) ∧ u * 4294967296 + d - q * (v1 * 4294967296 + v0) = (u * 4294967296 + d) % (v1 * 4294967296 + v0) := by
  have hq0 := g.q0
  have e := g.h
  have hi := g.hi
  have lo : q * (v1 * 4294967296 + v0) ≤ u * 4294967296 + d := by
    rw [split]
    have e2 : q * v1 = u - r := by omega
    rw [e2, Int.sub_mul]; omega
  have hp : 0 < v1 * 4294967296 + v0 := by omega
  have hq : (u * 4294967296 + d) / (v1 * 4294967296 + v0) = q := by
    rw [Int.add_mul, Int.one_mul] at hi
    generalize u * 4294967296 + d = x at *
    generalize v1 * 4294967296 + v0 = y at *
    rw [Int.mul_comm] at lo
    have a1 : q ≤ x / y := Int.le_ediv_of_mul_le hp (by rw [Int.mul_comm]; exact lo)
    have a2 : x / y < q + 1 := Int.ediv_lt_of_lt_mul hp (by rw [Int.add_mul, Int.one_mul]; exact hi)
    omega
  refine ⟨hq.symm, ?_⟩
  have := Int.mul_ediv_add_emod (u * 4294967296 + d) (v1 * 4294967296 + v0)
  rw [hq, Int.mul_comm] at this
  omega
/-- Two figures make the quotient. -/
theorem two_figs {u d1 d0 y : Int} (hy : 0 < y) : let q1 := (u * 4294967296 + d1) / y; let m := (u * 4294967296 + d1) % y; let q0 := (m * 4294967296 + d0) / y
    (u * 18446744073709551616 + (d1 * 4294967296 + d0)) / y = q1 * 4294967296 + q0 ∧ (u * 18446744073709551616 + (d1 * 4294967296 + d0)) % y = (m * 4294967296 + d0) % y := by
  intro q1 m q0
  have e1 : y * q1 + m = u * 4294967296 + d1 := Int.mul_ediv_add_emod _ _
  have e2 : y * q0 + (m * 4294967296 + d0) % y = m * 4294967296 + d0 := Int.mul_ediv_add_emod _ _
  have e3 : u * 18446744073709551616 + (d1 * 4294967296 + d0) = (m * 4294967296 + d0) % y + y * (q1 * 4294967296 + q0) := by
    rw [Int.mul_add, ← Int.mul_assoc]; omega
  have r0 := Int.emod_nonneg (m * 4294967296 + d0) (show y ≠ 0 by omega)
  have r1 := Int.emod_lt_of_pos (m * 4294967296 + d0) hy
  rw [e3]
  constructor
  · rw [Int.add_mul_ediv_left _ _ (by omega), Int.ediv_eq_zero_of_lt r0 r1]; omega
  · rw [Int.add_mul_emod_self_left, Int.emod_eq_of_lt r0 r1]
end Go.Proofs.YthanbjnpfenniaaDoor.Div64
