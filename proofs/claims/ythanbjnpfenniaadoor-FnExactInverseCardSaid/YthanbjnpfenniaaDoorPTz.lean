/- How many noughts a number ends in: the library's table. -/
import Derived.Test.YthanbjnpfenniaaDoorPU64
import Derived.Test.YthanbjnpfenniaaDoorEqP
namespace Go.Proofs.YthanbjnpfenniaaDoor.Fw
open Go Go.RowKit
set_option linter.unusedVariables false

/-- How many noughts a number ends in, in base 2; at most so many. -/
def tzF : Nat → Nat → Nat
  | 0, _ => 0
  | f + 1, n => if n % 2 = 0 then tzF f (n / 2) + 1 else 0
theorem tzF_le : ∀ f n, tzF f n ≤ f
  | 0, _ => Nat.le_refl _
  | f + 1, n => by
    unfold tzF
    split
    · have := tzF_le f (n / 2); omega
    · omega
theorem tzF_lt : ∀ f n, 0 < n → n < 2 ^ f → tzF f n < f
  | 0, n, h0, h => by simp at h; omega
  | f + 1, n, h0, h => by
    unfold tzF
    split
    · have := tzF_lt f (n / 2) (by omega) (by rw [Nat.pow_succ] at h; omega); omega
    · omega
/-- The number is a power of two times an odd one. -/
theorem tzF_split : ∀ f n, 0 < n → n < 2 ^ f → n = 2 ^ tzF f n * (n / 2 ^ tzF f n) ∧ n / 2 ^ tzF f n % 2 = 1
  | 0, n, h0, h => by simp at h; omega
  | f + 1, n, h0, h => by
    unfold tzF
    split
    · rename_i he
      obtain ⟨h1, h2⟩ := tzF_split f (n / 2) (by omega) (by rw [Nat.pow_succ] at h; omega)
      rw [Nat.pow_succ, Nat.mul_comm _ 2, ← Nat.div_div_eq_div_mul]
      refine ⟨?_, h2⟩
      rw [Nat.mul_assoc, ← h1]; omega
    · simp; omega
theorem and_two (a b : Nat) : a &&& b = 2 * (a / 2 &&& b / 2) + (a % 2) * (b % 2) := by
  have h1 : (a &&& b) / 2 = a / 2 &&& b / 2 := Nat.and_div_two
  have h2 : (a &&& b) % 2 = (a % 2) * (b % 2) := by
    have e := Nat.and_mod_two_eq_one (a := a) (b := b)
    have hx := Nat.mod_two_eq_zero_or_one (a &&& b)
    rcases Nat.mod_two_eq_zero_or_one a with ha | ha <;> rcases Nat.mod_two_eq_zero_or_one b with hb | hb <;> rw [ha, hb] at e ⊢ <;> rcases hx with hx | hx <;> rw [hx] at e ⊢ <;> simp at e ⊢
  omega
theorem and_compl : ∀ (w m : Nat), m < 2 ^ w → m &&& (2 ^ w - 1 - m) = 0
  | 0, m, h => by simp at h; subst h; rfl
  | w + 1, m, h => by
    rw [Nat.pow_succ] at h
    have e1 : (2 ^ (w + 1) - 1 - m) / 2 = 2 ^ w - 1 - m / 2 := by rw [Nat.pow_succ]; omega
    have e2 : (m % 2) * ((2 ^ (w + 1) - 1 - m) % 2) = 0 := by
      rcases Nat.mod_two_eq_zero_or_one m with hm | hm
      · rw [hm]; simp
      · have : (2 ^ (w + 1) - 1 - m) % 2 = 0 := by rw [Nat.pow_succ]; omega
        rw [this]; simp
    rw [and_two, e1, and_compl w (m / 2) (by omega), e2]
theorem and_neg : ∀ (w n : Nat), 0 < n → n < 2 ^ w → n &&& (2 ^ w - n) = 2 ^ tzF w n
  | 0, n, h0, h => by simp at h; omega
  | w + 1, n, h0, h => by
    have hp : 2 ^ (w + 1) = 2 * 2 ^ w := by rw [Nat.pow_succ, Nat.mul_comm]
    rw [hp] at h ⊢
    unfold tzF
    rw [and_two]
    split
    · rename_i he
      have e1 : (2 * 2 ^ w - n) / 2 = 2 ^ w - n / 2 := by omega
      rw [e1, and_neg w (n / 2) (by omega) (by omega), he, Nat.pow_succ, Nat.zero_mul]; omega
    · have e1 : (2 * 2 ^ w - n) / 2 = 2 ^ w - 1 - n / 2 := by omega
      have e2 : (2 * 2 ^ w - n) % 2 = 1 := by omega
      have e3 : n % 2 = 1 := by omega
      rw [e1, and_compl w (n / 2) (by omega), e2, e3]
theorem tz_is : ∃ f : Nat → Nat, ∀ n, f n = tzF 64 n := ⟨tzF 64, fun _ => rfl⟩
/-- How many noughts a number of 64 bits ends in. -/
noncomputable def tz : Nat → Nat := Classical.choose tz_is
theorem tz_eq (n : Nat) : tz n = tzF 64 n := Classical.choose_spec tz_is n
theorem tz_lt {n : Nat} (h0 : 0 < n) (h1 : n < 18446744073709551616) : tz n < 64 := by rw [tz_eq]; exact tzF_lt 64 n h0 h1
theorem tz_split {n : Nat} (h0 : 0 < n) (h1 : n < 18446744073709551616) : n = 2 ^ tz n * (n / 2 ^ tz n) ∧ n / 2 ^ tz n % 2 = 1 := by rw [tz_eq]; exact tzF_split 64 n h0 h1
theorem tz_and {n : Nat} (h0 : 0 < n) (h1 : n < 18446744073709551616) : n &&& (18446744073709551616 - n) = 2 ^ tz n := by rw [tz_eq]; exact and_neg 64 n h0 h1
theorem gl0_all : ∀ k : Fin 64, gl0.getD ((2 ^ k.val * 285870213051353865) % 18446744073709551616 / 288230376151711744) 0 = (k.val : Int) := by decide +kernel
theorem tz64_ret {n : Nat} (hn : Big + 1 ≤ n) {x : Int} (h0 : 0 < x) (h1 : x < 18446744073709551616) : c_bits_TrailingZeros64 (run tb orc n) x = some (tz x.toNat : Int) := by
  obtain ⟨n, rfl, hm⟩ := up hn
  rw [bits_TrailingZeros64_eq]; unfold bits_TrailingZeros64_f bits_TrailingZeros64_x
  have hk : tz x.toNat < 64 := tz_lt (by omega) (by omega)
  have ha : Go.bits .and .u64 x (wr .u64 (0 - x)) = ((2 ^ tz x.toNat : Nat) : Int) := by
    rw [and_u64, wr_u64]
    have e1 : (x % 18446744073709551616).toNat = x.toNat := by omega
    have e2 : ((0 - x) % 18446744073709551616 % 18446744073709551616).toNat = 18446744073709551616 - x.toNat := by omega
    rw [e1, e2, tz_and (by omega) (by omega)]
  have n58 : ¬ ((58 : Int) < 0) := by omega
  have nx : ¬ (x = 0) := by omega
  rw [if_neg nx, if_neg n58, ha, shr_u58, wr_u64]
  generalize tz x.toNat = k at hk ⊢
  have hnat : (((2 ^ k : Nat) : Int) * 285870213051353865) % 18446744073709551616 / 288230376151711744 = (((2 ^ k * 285870213051353865) % 18446744073709551616 / 288230376151711744 : Nat) : Int) := by
    rw [Int.natCast_ediv, Int.natCast_emod, Int.natCast_mul]; rfl
  rw [hnat]
  have hlt : (2 ^ k * 285870213051353865) % 18446744073709551616 / 288230376151711744 < 64 := by
    have := Nat.mod_lt (2 ^ k * 285870213051353865) (show 0 < 18446744073709551616 by omega)
    omega
  have hg := gl0_all ⟨k, hk⟩
  dsimp only at hg
  generalize (2 ^ k * 285870213051353865) % 18446744073709551616 / 288230376151711744 = j at hlt hg ⊢
  rw [if_pos (by omega), if_pos (by omega)]
  unfold rd
  rw [nat_i, hg, w64 (by omega) (by omega)]
end Go.Proofs.YthanbjnpfenniaaDoor.Fw
