/- Words of 64 bits without a sign: shifts, masks, sums. -/
import Derived.Test.YthanbjnpfenniaaDoorPBits
namespace Go.Proofs.YthanbjnpfenniaaDoor.Fw
open Go Go.RowKit
set_option linter.unusedVariables false

theorem shr_lit {k : IntKind} (x : Int) {s : Int} {m : Nat} (hs : s.toNat = m) (h : m ≤ k.bits) : shr k x s = x / 2 ^ m := by
  unfold shr; rw [hs, Nat.min_eq_left h]
theorem shr_u32 (x : Int) : shr .u64 x 32 = x / 4294967296 := shr_lit x (m := 32) rfl (by decide)
theorem shr_u1 (x : Int) : shr .u64 x 1 = x / 2 := by
  have := shr_lit (k := .u64) x (s := 1) (m := 1) rfl (by decide)
  simpa using this
theorem shr_i1 (x : Int) : shr .i64 x 1 = x / 2 := by
  have := shr_lit (k := .i64) x (s := 1) (m := 1) rfl (by decide)
  simpa using this
theorem shr_u58 (x : Int) : shr .u64 x 58 = x / 288230376151711744 := shr_lit x (m := 58) rfl (by decide)
theorem shr_un (x : Int) (s : Nat) (h : s ≤ 64) : shr .u64 x (s : Int) = x / 2 ^ s := shr_lit x (Int.toNat_natCast s) h
theorem shl_un (x : Int) (s : Nat) (h : s ≤ 64) : shl .u64 x (s : Int) = (x * 2 ^ s) % 18446744073709551616 := by
  have e : min s IntKind.u64.bits = s := Nat.min_eq_left h
  unfold shl; rw [wr_u64, Int.toNat_natCast, e]
theorem and_mask_u64 (x : Int) (k : Nat) (hk : k ≤ 63) : Go.bits .and .u64 x (2 ^ k - 1) = x % 2 ^ k := by
  have hp : (0 : Int) < 2 ^ k := Int.pow_pos (by omega)
  have hle : (2 : Int) ^ k ≤ 2 ^ 63 := by
    have : (2 : Nat) ^ k ≤ 2 ^ 63 := Nat.pow_le_pow_right (by omega) hk
    have := Int.ofNat_le.mpr this
    simpa using this
  rw [and_u64]
  have e1 : ((2 : Int) ^ k - 1) % 18446744073709551616 = 2 ^ k - 1 := Int.emod_eq_of_lt (by omega) (by omega)
  rw [e1]
  have e2 : ((2 : Int) ^ k - 1).toNat = 2 ^ k - 1 := by
    have : ((2 : Int) ^ k) = ((2 ^ k : Nat) : Int) := by simp
    rw [this]; have : 0 < 2 ^ k := Nat.pow_pos (by omega); omega
  rw [e2, Nat.and_two_pow_sub_one_eq_mod, Int.natCast_emod, Int.toNat_of_nonneg (by omega)]
  have : ((2 ^ k : Nat) : Int) = 2 ^ k := by simp
  rw [this]
  refine Int.emod_emod_of_dvd x ⟨2 ^ (64 - k), ?_⟩
  rw [← Int.pow_add, show k + (64 - k) = 64 by omega]; rfl
theorem and_u32 (x : Int) : Go.bits .and .u64 x 4294967295 = x % 4294967296 := by
  have := and_mask_u64 x 32 (by omega)
  simpa using this
theorem and_u1 (x : Int) : Go.bits .and .u64 x 1 = x % 2 := by
  have := and_mask_u64 x 1 (by omega)
  simpa using this
theorem or_u64 (x y : Int) : Go.bits .or .u64 x y = (((x % 18446744073709551616).toNat ||| (y % 18446744073709551616).toNat : Nat) : Int) % 18446744073709551616 := by
  rw [← u64_wrap]
  show IntKind.u64.wrap (((BitVec.ofInt 64 x) ||| (BitVec.ofInt 64 y)).toNat : Int) = _
  rw [BitVec.toNat_or, BitVec.toNat_ofInt, BitVec.toNat_ofInt]; rfl
theorem or_u64_add {x y : Int} (k : Nat) (hx : 0 ≤ x) (hy : 0 ≤ y) (h1 : x % 2 ^ k = 0) (h2 : y < 2 ^ k) (h3 : x + y < 18446744073709551616) :
    Go.bits .or .u64 x y = x + y := by
  obtain ⟨a, rfl⟩ := Int.eq_ofNat_of_zero_le hx
  obtain ⟨b, rfl⟩ := Int.eq_ofNat_of_zero_le hy
  have hpk : ((2 ^ k : Nat) : Int) = 2 ^ k := by simp
  have g1 : a % 2 ^ k = 0 := by
    rw [← hpk] at h1
    have : ((a % 2 ^ k : Nat) : Int) = 0 := by rw [Int.natCast_emod]; exact h1
    omega
  have g2 : b < 2 ^ k := by rw [← hpk] at h2; omega
  rw [or_u64]
  have e1 : ((a : Int) % 18446744073709551616).toNat = a := by omega
  have e2 : ((b : Int) % 18446744073709551616).toNat = b := by omega
  rw [e1, e2, or_disjoint a b k g1 g2]
  omega
end Go.Proofs.YthanbjnpfenniaaDoor.Fw
