/- Counting ones: bits.OnesCount64 of 16 bits, and sums of bits. -/
import Derived.Test.YtnlgciomdghfiaaPBits
import Derived.Test.YtnlgciomdghfiaaEqCoin
import Derived.KernelRfl
namespace Go.Proofs.Ytnlgciomdghfiaa.Fw
open Go Go.RowKit
set_option linter.unusedVariables false

def ocN (x : Nat) : Nat :=
  let n1 := (x >>> 1 &&& 6148914691236517205) + (x &&& 6148914691236517205)
  let n2 := (n1 >>> 2 &&& 3689348814741910323) + (n1 &&& 3689348814741910323)
  let n3 := (n2 >>> 4 + n2) &&& 1085102592571150095
  let n4 := n3 + n3 >>> 8
  let n5 := n4 + n4 >>> 16
  let n6 := n5 + n5 >>> 32
  n6 % 128
def chkO : Nat → Nat → Bool
  | 0, x => Nat.beq (ocN x) (ocN (x / 2) + x % 2)
  | d + 1, x => chkO d x && chkO d (x + 2 ^ d)
theorem chkO_all : chkO 16 0 = true := by kernel_rfl
theorem chkO_get : ∀ (d x y : Nat), chkO d x = true → x ≤ y → y < x + 2 ^ d → ocN y = ocN (y / 2) + y % 2
  | 0, x, y, h, h1, h2 => by
    have : y = x := by simp at h2; omega
    subst this
    exact Nat.eq_of_beq_eq_true h
  | d + 1, x, y, h, h1, h2 => by
    simp only [chkO, Bool.and_eq_true] at h
    rw [Nat.pow_succ] at h2
    by_cases hy : y < x + 2 ^ d
    · exact chkO_get d x y h.1 h1 hy
    · exact chkO_get d (x + 2 ^ d) y h.2 (by omega) (by omega)
/-- The sum of the lowest bits. -/
def bsN (x : Nat) : Nat → Nat
  | 0 => 0
  | k + 1 => bsN x k + x / 2 ^ k % 2
theorem bsN_low (x : Nat) : ∀ k, bsN x (k + 1) = x % 2 + bsN (x / 2) k
  | 0 => by simp [bsN]
  | k + 1 => by
    show bsN x (k + 1) + x / 2 ^ (k + 1) % 2 = x % 2 + (bsN (x / 2) k + x / 2 / 2 ^ k % 2)
    rw [bsN_low x k, Nat.div_div_eq_div_mul, Nat.pow_succ, Nat.mul_comm 2]; omega
theorem ocN_bs : ∀ (k x : Nat), k ≤ 16 → x < 2 ^ k → ocN x = bsN x k
  | 0, x, _, h => by
    have : x = 0 := by simp at h; omega
    subst this; rfl
  | k + 1, x, hk, h => by
    have hx : x < 2 ^ 16 := Nat.lt_of_lt_of_le h (Nat.pow_le_pow_right (by omega) hk)
    rw [chkO_get 16 0 x chkO_all (Nat.zero_le _) (by simpa using hx), bsN_low]
    rw [ocN_bs k (x / 2) (by omega) (by rw [Nat.pow_succ] at h; omega)]; omega
theorem andN (a b : Nat) (ha : a < 18446744073709551616) (hb : b < 18446744073709551616) : Go.bits .and .u64 (a : Int) (b : Int) = ((a &&& b : Nat) : Int) := by
  rw [and_u64]
  have e1 : ((a : Int) % 18446744073709551616).toNat = a := by omega
  have e2 : ((b : Int) % 18446744073709551616).toNat = b := by omega
  rw [e1, e2]
theorem wrN (a : Nat) (ha : a < 18446744073709551616) : wr .u64 (a : Int) = (a : Int) := wu64 (by omega) (by omega)
theorem shrN (a k : Nat) (hk : k ≤ 64) : shr .u64 (a : Int) (k : Int) = ((a >>> k : Nat) : Int) := by
  unfold shr
  rw [Int.toNat_natCast, Nat.min_eq_left (show k ≤ IntKind.u64.bits from hk), Nat.shiftRight_eq_div_pow, Int.natCast_ediv, Int.natCast_pow]; rfl
theorem and_le1 (a b : Nat) : a &&& b ≤ a := Nat.and_le_left
theorem shr_le (a k : Nat) : a >>> k ≤ a := by rw [Nat.shiftRight_eq_div_pow]; exact Nat.div_le_self _ _
theorem ones_val (C : Ca tb) (x : Nat) (hx : x < 65536) : bits_OnesCount64_x C (x : Int) = some ((ocN x : Nat) : Int) := by
  have b1 := and_le1 (x >>> 1) 6148914691236517205
  have b2 := and_le1 x 6148914691236517205
  have b3 := shr_le x 1
  have h1 : wr .u64 ((Go.bits .and .u64 (shr .u64 (x : Int) (1:Int)) (6148914691236517205:Int)) + (Go.bits .and .u64 (x : Int) (6148914691236517205:Int))) = ((((x >>> 1 &&& 6148914691236517205) + (x &&& 6148914691236517205) : Nat)) : Int) := by
    rw [show shr .u64 (x : Int) (1 : Int) = _ from shrN x 1 (by omega), show Go.bits .and .u64 (((x >>> 1 : Nat)) : Int) (6148914691236517205:Int) = _ from andN _ 6148914691236517205 (by omega) (by omega), show Go.bits .and .u64 (x : Int) (6148914691236517205:Int) = _ from andN x 6148914691236517205 (by omega) (by omega), ← Int.natCast_add, wrN _ (by omega)]
  have bn1 : (x >>> 1 &&& 6148914691236517205) + (x &&& 6148914691236517205) < 131072 := by omega
  unfold bits_OnesCount64_x ocN
  dsimp only
  rw [h1]
  generalize (x >>> 1 &&& 6148914691236517205) + (x &&& 6148914691236517205) = n1 at bn1 ⊢
  have c1 := and_le1 (n1 >>> 2) 3689348814741910323
  have c2 := and_le1 n1 3689348814741910323
  have c3 := shr_le n1 2
  have h2 : wr .u64 ((Go.bits .and .u64 (shr .u64 (n1 : Int) (2:Int)) (3689348814741910323:Int)) + (Go.bits .and .u64 (n1 : Int) (3689348814741910323:Int))) = ((((n1 >>> 2 &&& 3689348814741910323) + (n1 &&& 3689348814741910323) : Nat)) : Int) := by
    rw [show shr .u64 (n1 : Int) (2 : Int) = _ from shrN n1 2 (by omega), show Go.bits .and .u64 (((n1 >>> 2 : Nat)) : Int) (3689348814741910323:Int) = _ from andN _ 3689348814741910323 (by omega) (by omega), show Go.bits .and .u64 (n1 : Int) (3689348814741910323:Int) = _ from andN n1 3689348814741910323 (by omega) (by omega), ← Int.natCast_add, wrN _ (by omega)]
  have bn2 : (n1 >>> 2 &&& 3689348814741910323) + (n1 &&& 3689348814741910323) < 262144 := by omega
  rw [h2]
  generalize (n1 >>> 2 &&& 3689348814741910323) + (n1 &&& 3689348814741910323) = n2 at bn2 ⊢
  have d3 := shr_le n2 4
  have d1 := and_le1 (n2 >>> 4 + n2) 1085102592571150095
  have h3 : Go.bits .and .u64 (wr .u64 ((shr .u64 (n2 : Int) (4:Int)) + (n2 : Int))) (1085102592571150095:Int) = (((n2 >>> 4 + n2) &&& 1085102592571150095 : Nat) : Int) := by
    rw [show shr .u64 (n2 : Int) (4 : Int) = _ from shrN n2 4 (by omega), ← Int.natCast_add, wrN _ (by omega)]
    exact andN _ 1085102592571150095 (by omega) (by omega)
  have bn3 : (n2 >>> 4 + n2) &&& 1085102592571150095 < 524288 := by omega
  rw [h3]
  generalize (n2 >>> 4 + n2) &&& 1085102592571150095 = n3 at bn3 ⊢
  have e3 := shr_le n3 8
  have h4 : wr .u64 ((n3 : Int) + (shr .u64 (n3 : Int) (8:Int))) = ((n3 + n3 >>> 8 : Nat) : Int) := by
    rw [show shr .u64 (n3 : Int) (8 : Int) = _ from shrN n3 8 (by omega), ← Int.natCast_add, wrN _ (by omega)]
  have bn4 : n3 + n3 >>> 8 < 1048576 := by omega
  rw [h4]
  generalize n3 + n3 >>> 8 = n4 at bn4 ⊢
  have f3 := shr_le n4 16
  have h5 : wr .u64 ((n4 : Int) + (shr .u64 (n4 : Int) (16:Int))) = ((n4 + n4 >>> 16 : Nat) : Int) := by
    rw [show shr .u64 (n4 : Int) (16 : Int) = _ from shrN n4 16 (by omega), ← Int.natCast_add, wrN _ (by omega)]
  have bn5 : n4 + n4 >>> 16 < 2097152 := by omega
  rw [h5]
  generalize n4 + n4 >>> 16 = n5 at bn5 ⊢
  have g3 := shr_le n5 32
  have h6 : wr .u64 ((n5 : Int) + (shr .u64 (n5 : Int) (32:Int))) = ((n5 + n5 >>> 32 : Nat) : Int) := by
    rw [show shr .u64 (n5 : Int) (32 : Int) = _ from shrN n5 32 (by omega), ← Int.natCast_add, wrN _ (by omega)]
  have bn6 : n5 + n5 >>> 32 < 4194304 := by omega
  rw [h6]
  generalize n5 + n5 >>> 32 = n6 at bn6 ⊢
  rw [if_neg (by omega), if_neg (by omega), if_neg (by omega), if_neg (by omega), if_neg (by omega), if_neg (by omega), w64 (by omega) (by omega)]
  have e := and_mask_i64 (n6 : Int) 7 (by omega)
  have e' : Go.bits .and .i64 (n6 : Int) (127:Int) = (n6 : Int) % 128 := by simpa using e
  rw [e']; rfl
end Go.Proofs.Ytnlgciomdghfiaa.Fw
