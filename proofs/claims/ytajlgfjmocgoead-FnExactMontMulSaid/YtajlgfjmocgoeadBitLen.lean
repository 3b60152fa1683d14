/- How many bits a number has: the reference's halving and the library's table. -/
import Derived.Test.YtajlgfjmocgoeadWord
import Derived.KernelRfl
namespace Go.Proofs.Ytajlgfjmocgoead.Word
open Go.RowKit Go.Proofs.YtajlgfjmocgoeadW.PrintWords Go.Proofs.YtajlgfjmocgoeadW.PrintLast Go.Proofs.YtajlgfjmocgoeadW.PrintMore Go.Proofs.Ytajlgfjmocgoead.Lib Go.Proofs.Ytajlgfjmocgoead.M

/-- How many bits. -/
def nb (n : Nat) : Nat := if n = 0 then 0 else Nat.log2 n + 1

theorem nb_lt (n : Nat) : n < 2 ^ nb n := by
  unfold nb
  by_cases h : n = 0
  · subst h; simp
  · rw [if_neg h]; exact Nat.lt_log2_self
theorem nb_le {n : Nat} (h : n ≠ 0) : 2 ^ (nb n - 1) ≤ n := by
  unfold nb
  rw [if_neg h]; exact Nat.log2_self_le h
theorem nb_eq {n k : Nat} (h1 : 2 ^ k ≤ n) (h2 : n < 2 ^ (k + 1)) : nb n = k + 1 := by
  have hn : n ≠ 0 := by have : 0 < 2 ^ k := Nat.pow_pos (by omega); omega
  unfold nb
  rw [if_neg hn]
  have a : n.log2 < k + 1 := (Nat.log2_lt hn).2 h2
  have b : k ≤ n.log2 := (Nat.le_log2 hn).2 h1
  omega
theorem nb_half {n : Nat} (h : n ≠ 0) : nb n = nb (n / 2) + 1 := by
  by_cases h1 : n = 1
  · subst h1; decide
  · have h2 : n / 2 ≠ 0 := by omega
    have g1 := nb_le h2
    have g2 := nb_lt (n / 2)
    have e : nb (n / 2) ≠ 0 := by unfold nb; rw [if_neg h2]; omega
    obtain ⟨j, hj⟩ : ∃ j, nb (n / 2) = j + 1 := ⟨nb (n / 2) - 1, by omega⟩
    rw [hj] at g1 g2 ⊢
    rw [Nat.add_sub_cancel] at g1
    refine nb_eq ?_ ?_
    · rw [Nat.pow_succ]; omega
    · rw [Nat.pow_succ]; omega
theorem nb_shift : ∀ (s n : Nat), 2 ^ s ≤ n → nb n = nb (n / 2 ^ s) + s
  | 0, n, _ => by simp
  | s + 1, n, h => by
    have hp : 0 < 2 ^ s := Nat.pow_pos (by omega)
    rw [Nat.pow_succ] at h
    rw [nb_half (by omega), nb_shift s (n / 2) (by omega), Nat.div_div_eq_div_mul, Nat.pow_succ, Nat.mul_comm 2]
    omega

theorem l1Bits_from : ∀ (n : Nat) (c : Int), 0 ≤ c → c + nb n ≤ 1000 → ∀ K, nb n < K → spec_l1Bits.l0 K (n : Int) c = some (c + nb n) := by
  intro n
  induction n using Nat.strongRecOn with
  | ind n ih =>
    intro c hc hb K hK
    obtain ⟨K, rfl⟩ : ∃ j, K = j + 1 := ⟨K - 1, by omega⟩
    simp only [spec_l1Bits.l0]
    by_cases h : n = 0
    · subst h
      rw [if_neg (by omega)]
      have : nb 0 = 0 := rfl
      rw [this]; simp
    · have hh := nb_half h
      rw [if_pos (by omega)]
      have e : ((n : Int) / 2) = ((n / 2 : Nat) : Int) := by omega
      rw [e, w64 (n := c + 1) (by omega) (by omega), ih (n / 2) (by omega) (c + 1) (by omega) (by omega) K (by omega), hh]
      congr 1; omega
theorem l1Bits {n : Nat} (h : n < 2 ^ 64) : Ev (fun k => spec_l1Bits.f k (n : Int)) (nb n : Int) := by
  have hb : nb n ≤ 64 := by
    by_cases h0 : n = 0
    · subst h0; decide
    · have := nb_le h0
      by_cases hc : nb n ≤ 64
      · exact hc
      · have h2 : 2 ^ 64 ≤ 2 ^ (nb n - 1) := Nat.pow_le_pow_right (by omega) (by omega)
        omega
  refine ⟨nb n + 1, fun K hK => ?_⟩
  show spec_l1Bits.l0 K (n : Int) 0 = _
  rw [l1Bits_from n 0 (by omega) (by omega) K (by omega)]; simp

def tabB : ByteArray := ⟨#[0, 1, 2, 2, 3, 3, 3, 3, 4, 4, 4, 4, 4, 4, 4, 4, 5, 5, 5, 5, 5, 5, 5, 5, 5, 5, 5, 5, 5, 5, 5, 5, 6, 6, 6, 6, 6, 6, 6, 6, 6, 6, 6, 6, 6, 6, 6, 6, 6, 6, 6, 6, 6, 6, 6, 6, 6, 6, 6, 6, 6, 6, 6, 6, 7, 7, 7, 7, 7, 7, 7, 7, 7, 7, 7, 7, 7, 7, 7, 7, 7, 7, 7, 7, 7, 7, 7, 7, 7, 7, 7, 7, 7, 7, 7, 7, 7, 7, 7, 7, 7, 7, 7, 7, 7, 7, 7, 7, 7, 7, 7, 7, 7, 7, 7, 7, 7, 7, 7, 7, 7, 7, 7, 7, 7, 7, 7, 7, 8, 8, 8, 8, 8, 8, 8, 8, 8, 8, 8, 8, 8, 8, 8, 8, 8, 8, 8, 8, 8, 8, 8, 8, 8, 8, 8, 8, 8, 8, 8, 8, 8, 8, 8, 8, 8, 8, 8, 8, 8, 8, 8, 8, 8, 8, 8, 8, 8, 8, 8, 8, 8, 8, 8, 8, 8, 8, 8, 8, 8, 8, 8, 8, 8, 8, 8, 8, 8, 8, 8, 8, 8, 8, 8, 8, 8, 8, 8, 8, 8, 8, 8, 8, 8, 8, 8, 8, 8, 8, 8, 8, 8, 8, 8, 8, 8, 8, 8, 8, 8, 8, 8, 8, 8, 8, 8, 8, 8, 8, 8, 8, 8, 8, 8, 8, 8, 8, 8, 8, 8, 8, 8, 8, 8, 8, 8, 8]⟩
theorem tab_all : ∀ i : Fin 256, bt tabB (i.val : Int) = (nb i.val : Int) := by decide +kernel
theorem tab {i : Int} (h0 : 0 ≤ i) (h1 : i < 256) : bt tabB i = (nb i.toNat : Int) := by
  have := tab_all ⟨i.toNat, by omega⟩
  simpa [Int.toNat_of_nonneg h0] using this

theorem nb_256 {i : Nat} (h : i < 256) : nb i ≤ 8 := by
  by_cases h0 : i = 0
  · subst h0; decide
  · have := nb_le h0
    by_cases hc : nb i ≤ 8
    · exact hc
    · have h2 : 2 ^ 8 ≤ 2 ^ (nb i - 1) := Nat.pow_le_pow_right (by omega) (by omega)
      omega

theorem len64_open (k : Nat) (x c : Int) : bits_Len64.j0 (k + 1) x c = (if x ≥ 65536 then (if (x / 65536) ≥ 256 then (if 0 ≤ (((x / 65536) / 256) % 256) then (if (((x / 65536) / 256) % 256) < 256 then (some (wrap64 ((wrap64 ((wrap64 (c + 16)) + 8)) + (wrap64 (bt tabB (((x / 65536) / 256) % 256)))))) else (none)) else (none)) else (if 0 ≤ ((x / 65536) % 256) then (if ((x / 65536) % 256) < 256 then (some (wrap64 ((wrap64 (c + 16)) + (wrap64 (bt tabB ((x / 65536) % 256)))))) else (none)) else (none))) else (if x ≥ 256 then (if 0 ≤ ((x / 256) % 256) then (if ((x / 256) % 256) < 256 then (some (wrap64 ((wrap64 (c + 8)) + (wrap64 (bt tabB ((x / 256) % 256)))))) else (none)) else (none)) else (if 0 ≤ ((x) % 256) then (if ((x) % 256) < 256 then (some (wrap64 (c + (wrap64 (bt tabB ((x) % 256)))))) else (none)) else (none)))) := by kernel_rfl
theorem len64_j {x c : Int} (h0 : 0 ≤ x) (h1 : x < 4294967296) (hc : 0 ≤ c) (hc1 : c ≤ 100) (k : Nat) : bits_Len64.j0 (k + 1) x c = some (c + (nb x.toNat : Int)) := by
  rw [len64_open]
  have hs : ∀ s : Nat, 2 ^ s ≤ x.toNat → nb x.toNat = nb (x.toNat / 2 ^ s) + s := fun s h => nb_shift s _ h
  by_cases ha : x ≥ 65536
  · rw [if_pos ha]
    by_cases hb : x / 65536 ≥ 256
    · have e : ((x / 65536) / 256) % 256 = (x / 65536) / 256 := Int.emod_eq_of_lt (by omega) (by omega)
      have hn := hs 24 (by omega)
      have en : x.toNat / 2 ^ 24 = ((x / 65536) / 256).toNat := by omega
      rw [en] at hn
      have hl := nb_256 (i := ((x / 65536) / 256).toNat) (by omega)
      rw [if_pos hb, e, if_pos (by omega), if_pos (by omega), tab (by omega) (by omega), hn]
      congr 1
      rw [w64 (n := c + 16) (by omega) (by omega), w64 (n := c + 16 + 8) (by omega) (by omega), w64 (n := (nb ((x / 65536) / 256).toNat : Int)) (by omega) (by omega), w64 (by omega) (by omega)]
      omega
    · have e : (x / 65536) % 256 = x / 65536 := Int.emod_eq_of_lt (by omega) (by omega)
      have hn := hs 16 (by omega)
      have en : x.toNat / 2 ^ 16 = (x / 65536).toNat := by omega
      rw [en] at hn
      have hl := nb_256 (i := (x / 65536).toNat) (by omega)
      rw [if_neg hb, e, if_pos (by omega), if_pos (by omega), tab (by omega) (by omega), hn]
      congr 1
      rw [w64 (n := c + 16) (by omega) (by omega), w64 (n := (nb (x / 65536).toNat : Int)) (by omega) (by omega), w64 (by omega) (by omega)]
      omega
  · rw [if_neg ha]
    by_cases hb : x ≥ 256
    · have e : (x / 256) % 256 = x / 256 := Int.emod_eq_of_lt (by omega) (by omega)
      have hn := hs 8 (by omega)
      have en : x.toNat / 2 ^ 8 = (x / 256).toNat := by omega
      rw [en] at hn
      have hl := nb_256 (i := (x / 256).toNat) (by omega)
      rw [if_pos hb, e, if_pos (by omega), if_pos (by omega), tab (by omega) (by omega), hn]
      congr 1
      rw [w64 (n := c + 8) (by omega) (by omega), w64 (n := (nb (x / 256).toNat : Int)) (by omega) (by omega), w64 (by omega) (by omega)]
      omega
    · have e : x % 256 = x := Int.emod_eq_of_lt (by omega) (by omega)
      have hl := nb_256 (i := x.toNat) (by omega)
      rw [if_neg hb, e, if_pos (by omega), if_pos (by omega), tab (by omega) (by omega)]
      congr 1
      rw [w64 (n := (nb x.toNat : Int)) (by omega) (by omega), w64 (by omega) (by omega)]

theorem len64 {n : Nat} (h : n < 2 ^ 64) (k : Nat) : bits_Len64.f (k + 1) (n : Int) = some (nb n : Int) := by
  unfold bits_Len64.f
  by_cases h1 : (n : Int) ≥ 4294967296
  · rw [if_pos h1, len64_j (by omega) (by omega) (by omega) (by omega), nb_shift 32 n (by omega)]
    have : ((n : Int) / 4294967296).toNat = n / 2 ^ 32 := by omega
    rw [this]; congr 1; omega
  · rw [if_neg h1, len64_j (by omega) (by omega) (by omega) (by omega)]
    simp
theorem len {n : Nat} (h : n < 2 ^ 64) (k : Nat) : bits_Len.f (k + 1) (n : Int) = some (nb n : Int) := by
  unfold bits_Len.f; rw [len64 h]; rfl

end Go.Proofs.Ytajlgfjmocgoead.Word
