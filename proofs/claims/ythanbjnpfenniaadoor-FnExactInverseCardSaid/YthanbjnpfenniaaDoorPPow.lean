/- What is left, and powers by a modulus: both sides. -/
import Derived.Test.YthanbjnpfenniaaDoorPBasis
import Derived.Test.YthanbjnpfenniaaDoorEqR
namespace Go.Proofs.YthanbjnpfenniaaDoor.Fw
open Go Go.RowKit
set_option linter.unusedVariables false

theorem i64_wf {x : Int} (h : WfD (.int .i64) x) : -9223372036854775808 ≤ x ∧ x ≤ 9223372036854775807 := by
  have : (Lit.int .i64 x).wf = true := h
  simp [Lit.wf, IntKind.min, IntKind.max, IntKind.signed, IntKind.bits] at this
  omega
/-- The remainder from 0 on. -/
theorem mod_val {a m : Int} (hm : 0 < m) (hm' : m ≤ 4611686018427387904) : (if a.tmod m < (0 : Int) then (some (wr .i64 (a.tmod m + m)) : Option Int) else some (a.tmod m)) = some (a % m) := by
  have r0 := Int.emod_nonneg a (show m ≠ 0 by omega)
  have r1 := Int.emod_lt_of_pos a hm
  have e := @Int.tmod_eq_emod a m
  by_cases h : 0 ≤ a ∨ m ∣ a
  · rw [if_pos h] at e
    rw [if_neg (by omega), e]; congr 1; omega
  · rw [if_neg h] at e
    have hz : a % m ≠ 0 := fun h0 => h (.inr (Int.dvd_of_emod_eq_zero h0))
    rw [if_pos (by omega), w64 (by omega) (by omega)]; congr 1; omega
theorem mod_ret {n : Nat} (hn : Big + 1 ≤ n) {a m : Int} (hm : 0 < m) (hm' : m ≤ 4611686018427387904) : c_impl_mod (run tb orc n) a m = some (a % m) := by
  obtain ⟨n, rfl, hq⟩ := up hn
  rw [impl_mod_eq]; unfold impl_mod_f impl_mod_x
  rw [if_neg (by omega)]; exact mod_val hm hm'
theorem l1Mod_ret {n : Nat} (hn : Big + 1 ≤ n) {a m : Int} (hm : 0 < m) (hm' : m ≤ 4611686018427387904) : c_spec_l1Mod (run tb orc n) a m = some (a % m) := by
  obtain ⟨n, rfl, hq⟩ := up hn
  rw [spec_l1Mod_eq]; unfold spec_l1Mod_f spec_l1Mod_x
  rw [if_neg (by omega)]; exact mod_val hm hm'
theorem pow_ret {n : Nat} (hn : Big + 7 ≤ n) {a e p : Int} (he : 0 ≤ e) (he' : e ≤ 9223372036854775807) (hp : 0 < p) (hp' : p ≤ 268435456) : c_impl_pow (run tb orc n) a e p = some (a ^ e.toNat % p) := by
  obtain ⟨n, rfl, hq⟩ := up hn
  have r0 := Int.emod_nonneg a (show p ≠ 0 by omega)
  have r1 := Int.emod_lt_of_pos a hp
  have q0 := Int.emod_nonneg (a ^ e.toNat) (show p ≠ 0 by omega)
  have q1 := Int.emod_lt_of_pos (a ^ e.toNat) hp
  rw [impl_pow_eq]; unfold impl_pow_f impl_pow_x
  rw [mod_ret (by omega) hp (by omega)]
  simp only [Option.bind_some]
  rw [wu64 (n := a % p) (by omega) (by omega), wu64 (n := e) he (by omega), wu64 (n := p) (by omega) (by omega), powMod64_ret hq r0 he (by omega) hp (by omega)]
  simp only [Option.bind_some]
  rw [pow_emod', w64 (by omega) (by omega)]
theorem mul_small {a b : Int} (ha : 0 ≤ a) (ha' : a < 268435456) (hb : 0 ≤ b) (hb' : b < 268435456) : 0 ≤ a * b ∧ a * b ≤ 72057594037927936 := by
  have : a * b ≤ 268435456 * 268435456 := Int.mul_le_mul (by omega) (by omega) hb (by omega)
  exact ⟨Int.mul_nonneg ha hb, by omega⟩
theorem l1Pow_ret {n : Nat} (hn : Big + 2 ≤ n) {a e p : Int} (he : 0 ≤ e) (he' : e ≤ 9223372036854775807) (hp : 0 < p) (hp' : p ≤ 268435456) : c_spec_l1Pow (run tb orc n) a e p = some (a ^ e.toNat % p) := by
  obtain ⟨n, rfl, hq⟩ := up hn
  have hb := big_ge
  have r0 := Int.emod_nonneg a (show p ≠ 0 by omega)
  have r1 := Int.emod_lt_of_pos a hp
  rw [spec_l1Pow_eq]; unfold spec_l1Pow_f spec_l1Pow_x
  rw [if_neg (by omega), l1Mod_ret (by omega) hp (by omega), tmod_nn (by omega)]
  simp only [Option.bind_some]
  have n1 : ¬ ((1 : Int) < 0) := by omega
  have np : ¬ (p = 0) := by omega
  refine (pow_loop (m := p) (lim := 9223372036854775808) hp (fun o => some o) (fun a e o => (a, e, o)) (fun self a e o h1 h2 h3 h4 h5 h6 => ?_) (fun self a o h1 h2 => ?_) n _ _ _ r0 r1 he (by omega) (Int.emod_nonneg _ np) (Int.emod_lt_of_pos _ hp) (by omega)).trans ?_
  · show spec_l1Pow_x1 _ _ _ _ = _
    unfold spec_l1Pow_x1
    dsimp only
    obtain ⟨a1, a2⟩ := mul_small h1 (by omega) h1 (by omega)
    obtain ⟨b1, b2⟩ := mul_small h5 (by omega) h1 (by omega)
    rw [if_pos h3, and_one_i64, shr_i1, w64 (n := a * a) (by omega) (by omega), w64 (n := o * a) (by omega) (by omega), tmod_nn a1, tmod_nn b1]
    simp only [n1, np, if_false]
    by_cases c : e % 2 = 1
    · rw [if_pos c, if_pos c]
    · rw [if_neg c, if_neg c]
  · show spec_l1Pow_x1 _ _ _ _ = _
    unfold spec_l1Pow_x1
    dsimp only
    rw [if_neg (by omega)]
  · rw [emod_mul_pow, Int.one_mul]
/-- A power of two in a range. -/
def powB (n lo hi : Int) : Bool := decide (lo ≤ n ∧ n ≤ hi) && decide (Go.bits .and .i64 n (n - 1) = 0)
theorem isPower_ret {n : Nat} (hn : Big + 2 ≤ n) {x lo hi : Int} (hlo : 0 ≤ lo) (hhi : hi ≤ 9223372036854775807) : c_impl_isPower (run tb orc n) x lo hi = some (powB x lo hi) := by
  obtain ⟨n, rfl, hq⟩ := up hn
  rw [impl_isPower_eq]; unfold impl_isPower_f impl_isPower_x powB
  rw [in_ret (by omega)]
  simp only [Option.bind_some]
  by_cases h : lo ≤ x ∧ x ≤ hi
  · rw [decide_eq_true h, if_pos rfl, w64 (by omega) (by omega)]; simp
  · rw [decide_eq_false h]; simp
theorem l1Power_ret {n : Nat} (hn : Big + 2 ≤ n) {x lo hi : Int} (hlo : 0 ≤ lo) (hhi : hi ≤ 9223372036854775807) : c_spec_l1Power (run tb orc n) x lo hi = some (powB x lo hi) := by
  obtain ⟨n, rfl, hq⟩ := up hn
  rw [spec_l1Power_eq]; unfold spec_l1Power_f spec_l1Power_x powB
  rw [l1In_ret (by omega)]
  simp only [Option.bind_some]
  by_cases h : lo ≤ x ∧ x ≤ hi
  · rw [decide_eq_true h, if_pos rfl, w64 (by omega) (by omega)]; simp
  · rw [decide_eq_false h]; simp
theorem pow_cases : ∀ n : Fin 65, 2 ≤ n.val → (n.val &&& (n.val - 1) = 0) → n.val = 2 ∨ n.val = 4 ∨ n.val = 8 ∨ n.val = 16 ∨ n.val = 32 ∨ n.val = 64 := by decide
theorem powB_64 {x hi : Int} (hh : hi ≤ 64) (h : powB x 2 hi = true) : (x = 2 ∨ x = 4 ∨ x = 8 ∨ x = 16 ∨ x = 32 ∨ x = 64) ∧ x ≤ hi := by
  unfold powB at h
  rw [Bool.and_eq_true, decide_eq_true_eq, decide_eq_true_eq] at h
  obtain ⟨h1, h2⟩ := h
  refine ⟨?_, h1.2⟩
  rw [and_i64] at h2
  have e1 : (x % 18446744073709551616).toNat = x.toNat := by omega
  have e2 : ((x - 1) % 18446744073709551616).toNat = x.toNat - 1 := by omega
  rw [e1, e2] at h2
  have hle : x.toNat &&& (x.toNat - 1) ≤ x.toNat := Nat.and_le_left
  rw [wp64 (by omega) (by omega)] at h2
  have := pow_cases ⟨x.toNat, by omega⟩ (by show 2 ≤ x.toNat; omega) (by show x.toNat &&& (x.toNat - 1) = 0; omega)
  simp only at this
  omega
end Go.Proofs.YthanbjnpfenniaaDoor.Fw
