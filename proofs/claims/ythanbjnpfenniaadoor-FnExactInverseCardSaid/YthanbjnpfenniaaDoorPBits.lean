/- Bitwise words of Go on whole numbers: what 'and', 'or' and the shifts come to. -/
import Derived.Test.YthanbjnpfenniaaDoorPKit
import Derived.Laws.BitsLemmas
namespace Go.Proofs.YthanbjnpfenniaaDoor.Fw
open Go Go.RowKit

theorem i64_wrap (n : Int) : IntKind.i64.wrap n = wrap64 n := by
  unfold wrap64
  simp [IntKind.wrap, IntKind.signed, IntKind.bits]
  omega
theorem u64_wrap (n : Int) : IntKind.u64.wrap n = n % 18446744073709551616 := by
  simp [IntKind.wrap, IntKind.signed, IntKind.bits]
theorem wp64 {n : Int} (h1 : -9223372036854775808 ≤ n) (h2 : n ≤ 9223372036854775807) : wrap64 n = n := by unfold wrap64; omega
theorem shr_28 (x : Int) : shr .i64 x 28 = x / 268435456 := by unfold shr; rfl
theorem and_i64 (x y : Int) : Go.bits .and .i64 x y = wrap64 (((x % 18446744073709551616).toNat &&& (y % 18446744073709551616).toNat : Nat) : Int) := by
  rw [← i64_wrap]
  show IntKind.i64.wrap (((BitVec.ofInt 64 x) &&& (BitVec.ofInt 64 y)).toNat : Int) = _
  rw [BitVec.toNat_and, BitVec.toNat_ofInt, BitVec.toNat_ofInt]; rfl
theorem or_i64 (x y : Int) : Go.bits .or .i64 x y = wrap64 (((x % 18446744073709551616).toNat ||| (y % 18446744073709551616).toNat : Nat) : Int) := by
  rw [← i64_wrap]
  show IntKind.i64.wrap (((BitVec.ofInt 64 x) ||| (BitVec.ofInt 64 y)).toNat : Int) = _
  rw [BitVec.toNat_or, BitVec.toNat_ofInt, BitVec.toNat_ofInt]; rfl
theorem and_u64 (x y : Int) : Go.bits .and .u64 x y = (((x % 18446744073709551616).toNat &&& (y % 18446744073709551616).toNat : Nat) : Int) := by
  have e : Go.bits .and .u64 x y = IntKind.u64.wrap (((x % 18446744073709551616).toNat &&& (y % 18446744073709551616).toNat : Nat) : Int) := by
    show IntKind.u64.wrap (((BitVec.ofInt 64 x) &&& (BitVec.ofInt 64 y)).toNat : Int) = _
    rw [BitVec.toNat_and, BitVec.toNat_ofInt, BitVec.toNat_ofInt]; rfl
  rw [e, u64_wrap]
  have : (x % 18446744073709551616).toNat &&& (y % 18446744073709551616).toNat ≤ (x % 18446744073709551616).toNat := Nat.and_le_left
  omega

theorem and_mask_i64 (x : Int) (k : Nat) (hk : k ≤ 62) : Go.bits .and .i64 x (2 ^ k - 1) = x % 2 ^ k := by
  have hp : (0 : Int) < 2 ^ k := Int.pow_pos (by omega)
  have hle : (2 : Int) ^ k ≤ 2 ^ 62 := by
    have : (2 : Nat) ^ k ≤ 2 ^ 62 := Nat.pow_le_pow_right (by omega) hk
    have := Int.ofNat_le.mpr this
    simpa using this
  rw [and_i64]
  have e1 : ((2 : Int) ^ k - 1) % 18446744073709551616 = 2 ^ k - 1 := Int.emod_eq_of_lt (by omega) (by omega)
  rw [e1]
  have e2 : ((2 : Int) ^ k - 1).toNat = 2 ^ k - 1 := by
    have : ((2 : Int) ^ k) = ((2 ^ k : Nat) : Int) := by simp
    rw [this]; have : 0 < 2 ^ k := Nat.pow_pos (by omega); omega
  rw [e2, Nat.and_two_pow_sub_one_eq_mod]
  have e3 : (((x % 18446744073709551616).toNat % 2 ^ k : Nat) : Int) = x % 2 ^ k := by
    rw [Int.natCast_emod, Int.toNat_of_nonneg (by omega)]
    have : ((2 ^ k : Nat) : Int) = 2 ^ k := by simp
    rw [this]
    refine Int.emod_emod_of_dvd x ⟨2 ^ (64 - k), ?_⟩
    rw [← Int.pow_add, show k + (64 - k) = 64 by omega]; rfl
  rw [e3]
  have := Int.emod_nonneg x (show (2 : Int) ^ k ≠ 0 by omega)
  have := Int.emod_lt_of_pos x hp
  exact wp64 (by omega) (by omega)

theorem and_one_i64 (x : Int) : Go.bits .and .i64 x 1 = x % 2 := by
  have := and_mask_i64 x 1 (by omega)
  simpa using this
theorem and_limb (x : Int) : Go.bits .and .i64 x 268435455 = x % 268435456 := by
  have := and_mask_i64 x 28 (by omega)
  simpa using this

theorem or_disjoint (x y k : Nat) (h1 : x % 2 ^ k = 0) (h2 : y < 2 ^ k) : x ||| y = x + y := by
  obtain ⟨q, rfl⟩ : ∃ q, x = 2 ^ k * q := ⟨x / 2 ^ k, by have := Nat.div_add_mod x (2 ^ k); omega⟩
  exact (Nat.two_pow_add_eq_or_of_lt h2 q).symm

theorem or_i64_add {x y : Int} (k : Nat) (hx : 0 ≤ x) (hy : 0 ≤ y) (h1 : x % 2 ^ k = 0) (h2 : y < 2 ^ k) (h3 : x + y < 9223372036854775808) :
    Go.bits .or .i64 x y = x + y := by
  obtain ⟨a, rfl⟩ := Int.eq_ofNat_of_zero_le hx
  obtain ⟨b, rfl⟩ := Int.eq_ofNat_of_zero_le hy
  have hpk : ((2 ^ k : Nat) : Int) = 2 ^ k := by simp
  have g1 : a % 2 ^ k = 0 := by
    rw [← hpk] at h1
    have : ((a % 2 ^ k : Nat) : Int) = 0 := by rw [Int.natCast_emod]; exact h1
    omega
  have g2 : b < 2 ^ k := by rw [← hpk] at h2; omega
  rw [or_i64]
  have e1 : ((a : Int) % 18446744073709551616).toNat = a := by omega
  have e2 : ((b : Int) % 18446744073709551616).toNat = b := by omega
  rw [e1, e2, or_disjoint a b k g1 g2]
  exact (wp64 (by omega) (by omega)).trans (by omega)

end Go.Proofs.YthanbjnpfenniaaDoor.Fw
