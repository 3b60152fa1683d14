/- How many bits a number has: plain words, the library's table. -/
import Derived.Test.YthanbjnpfenniaaDoorPBits
import Derived.Lib.Tables
namespace Go.Proofs.YthanbjnpfenniaaDoor.Fw
open Go Go.RowKit
set_option linter.unusedVariables false

/-- How many bits. -/
def nb (n : Nat) : Nat := if n = 0 then 0 else Nat.log2 n + 1
theorem nb_lt (n : Nat) : n < 2 ^ nb n := by
  unfold nb
  by_cases h : n = 0
  · subst h; simp
  · rw [if_neg h]; exact Nat.lt_log2_self
theorem nb_le {n : Nat} (h : n ≠ 0) : 2 ^ (nb n - 1) ≤ n := by
  unfold nb
  rw [if_neg h]; exact Nat.log2_self_le h
theorem nb_pos {n : Nat} (h : n ≠ 0) : 0 < nb n := by unfold nb; rw [if_neg h]; omega
theorem nb_eq {n k : Nat} (h1 : 2 ^ k ≤ n) (h2 : n < 2 ^ (k + 1)) : nb n = k + 1 := by
  have hn : n ≠ 0 := by have : 0 < 2 ^ k := Nat.pow_pos (by omega); omega
  unfold nb
  rw [if_neg hn]
  have a : n.log2 < k + 1 := (Nat.log2_lt hn).2 h2
  have b : k ≤ n.log2 := (Nat.le_log2 hn).2 h1
  omega
theorem nb_half {n : Nat} (h : n ≠ 0) : nb n = nb (n / 2) + 1 := by
  by_cases h1 : n = 1
  · subst h1; decide
  · have h2 : n / 2 ≠ 0 := by omega
    have g1 := nb_le h2
    have g2 := nb_lt (n / 2)
    have e : nb (n / 2) ≠ 0 := by unfold nb; rw [if_neg h2]; omega
    obtain ⟨j, hj⟩ : ∃ j, nb (n / 2) = j + 1 := ⟨nb (n / 2) - 1, by omega⟩
    rw [hj] at g1 g2 ⊢
    rw [Nat.add_sub_cancel] at g1
    refine nb_eq ?_ ?_
    · rw [Nat.pow_succ]; omega
    · rw [Nat.pow_succ]; omega
theorem nb_shift : ∀ (s n : Nat), 2 ^ s ≤ n → nb n = nb (n / 2 ^ s) + s
  | 0, n, _ => by simp
  | s + 1, n, h => by
    have hp : 0 < 2 ^ s := Nat.pow_pos (by omega)
    rw [Nat.pow_succ] at h
    rw [nb_half (by omega), nb_shift s (n / 2) (by omega), Nat.div_div_eq_div_mul, Nat.pow_succ, Nat.mul_comm 2]
    omega
theorem nb_bound {n k : Nat} (h : n < 2 ^ k) : nb n ≤ k := by
  by_cases h0 : n = 0
  · subst h0; exact Nat.zero_le _
  · have := nb_le h0
    by_cases hc : nb n ≤ k
    · exact hc
    · have h2 : 2 ^ k ≤ 2 ^ (nb n - 1) := Nat.pow_le_pow_right (by omega) (by omega)
      omega
theorem tab_all : ∀ i : Fin 256, strAt Go.Lib.len8tab (i.val : Int) = (nb i.val : Int) := by decide +kernel
theorem tab {i : Int} (h0 : 0 ≤ i) (h1 : i < 256) : strAt Go.Lib.len8tab i = (nb i.toNat : Int) := by
  have := tab_all ⟨i.toNat, by omega⟩
  simpa [Int.toNat_of_nonneg h0] using this
theorem tab_size : (Go.Lib.len8tab.size : Int) = 256 := by decide +kernel
theorem wu8 {n : Int} (h1 : 0 ≤ n) (h2 : n < 256) : wr .u8 n = n := by
  rw [wr_eq]
  simp [IntKind.wrap, IntKind.signed, IntKind.bits]
  omega
theorem shru (x : Int) : shr .u64 x 32 = x / 4294967296 ∧ shr .u64 x 16 = x / 65536 ∧ shr .u64 x 8 = x / 256 := by
  unfold shr; exact ⟨rfl, rfl, rfl⟩
end Go.Proofs.YthanbjnpfenniaaDoor.Fw
