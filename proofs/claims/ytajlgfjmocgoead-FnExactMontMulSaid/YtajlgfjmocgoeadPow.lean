/- Products and powers by a small modulus: the program's by the library's words of 64 bits, the reference's plainly: both are what they should be. -/
import Derived.Test.YtajlgfjmocgoeadModel4
import Derived.Test.YtajlgfjmocgoeadBitLen
import Derived.Test.YtajlgfjmocgoeadLawKit
namespace Go.Proofs.Ytajlgfjmocgoead.Pow
open Go.RowKit Go.Proofs.YtajlgfjmocgoeadW.PrintWords Go.Proofs.YtajlgfjmocgoeadW.PrintLast Go.Proofs.YtajlgfjmocgoeadW.PrintMore Go.Proofs.Ytajlgfjmocgoead.Lib Go.Proofs.Ytajlgfjmocgoead.M Go.Proofs.Ytajlgfjmocgoead.Word

theorem and_one_u64 {n : Nat} (h : n < 18446744073709551616) : Go.bits .and .u64 (n : Int) 1 = ((n % 2 : Nat) : Int) := by
  rw [and_u64]
  have e1 : ((n : Int) % 18446744073709551616).toNat = n := by omega
  have e2 : ((1 : Int) % 18446744073709551616).toNat = 2 ^ 1 - 1 := by decide
  rw [e1, e2, Nat.and_two_pow_sub_one_eq_mod]
theorem and_low_u64 {n : Nat} (h : n < 18446744073709551616) : Go.bits .and .u64 (n : Int) 4294967295 = ((n % 4294967296 : Nat) : Int) := by
  rw [and_u64]
  have e1 : ((n : Int) % 18446744073709551616).toNat = n := by omega
  have e2 : ((4294967295 : Int) % 18446744073709551616).toNat = 2 ^ 32 - 1 := by decide
  rw [e1, e2, Nat.and_two_pow_sub_one_eq_mod]

/-- The whole product of two words: its high and its low word. -/
theorem mul64 {a b : Nat} (ha : a < 18446744073709551616) (hb : b < 18446744073709551616) :
    bits_Mul64.f (a : Int) (b : Int) = some (((a * b / 18446744073709551616 : Nat) : Int), ((a * b % 18446744073709551616 : Nat) : Int)) := by
  unfold bits_Mul64.f
  rw [and_low_u64 ha, and_low_u64 hb]
  have ea1 : (a : Int) / 4294967296 = ((a / 4294967296 : Nat) : Int) := by omega
  have eb1 : (b : Int) / 4294967296 = ((b / 4294967296 : Nat) : Int) := by omega
  rw [ea1, eb1]
  have hx1 : a / 4294967296 < 4294967296 := by omega
  have hy1 : b / 4294967296 < 4294967296 := by omega
  have hx0 : a % 4294967296 < 4294967296 := by omega
  have hy0 : b % 4294967296 < 4294967296 := by omega
  have hab : a * b = (a / 4294967296) * (b / 4294967296) * 18446744073709551616 + ((a / 4294967296) * (b % 4294967296) + (a % 4294967296) * (b / 4294967296)) * 4294967296 + (a % 4294967296) * (b % 4294967296) := by
    have e1 := Nat.div_add_mod a 4294967296
    have e2 := Nat.div_add_mod b 4294967296
    have : a * b = (4294967296 * (a / 4294967296) + a % 4294967296) * (4294967296 * (b / 4294967296) + b % 4294967296) := by rw [e1, e2]
    rw [this, Nat.add_mul, Nat.mul_add, Nat.mul_add]
    have f1 : 4294967296 * (a / 4294967296) * (4294967296 * (b / 4294967296)) = (a / 4294967296) * (b / 4294967296) * 18446744073709551616 := by
      rw [Nat.mul_mul_mul_comm, Nat.mul_comm (4294967296 * 4294967296)]
    have f2 : 4294967296 * (a / 4294967296) * (b % 4294967296) = (a / 4294967296) * (b % 4294967296) * 4294967296 := by rw [Nat.mul_assoc, Nat.mul_comm]
    have f3 : a % 4294967296 * (4294967296 * (b / 4294967296)) = (a % 4294967296) * (b / 4294967296) * 4294967296 := by rw [Nat.mul_left_comm, Nat.mul_comm]
    rw [f1, f2, f3, Nat.add_mul]
    omega
  have bd : ∀ x y : Nat, x < 4294967296 → y < 4294967296 → x * y ≤ 18446744065119617025 := by
    intro x y h1 h2
    have : x * y ≤ 4294967295 * 4294967295 := Nat.mul_le_mul (by omega) (by omega)
    omega
  have b1 := bd _ _ hx1 hy1
  have b2 := bd _ _ hx1 hy0
  have b3 := bd _ _ hx0 hy1
  have b4 := bd _ _ hx0 hy0
  have c1 : ((a / 4294967296 : Nat) : Int) * ((b / 4294967296 : Nat) : Int) = (((a / 4294967296) * (b / 4294967296) : Nat) : Int) := by simp
  have c2 : ((a / 4294967296 : Nat) : Int) * ((b % 4294967296 : Nat) : Int) = (((a / 4294967296) * (b % 4294967296) : Nat) : Int) := by simp
  have c3 : ((a % 4294967296 : Nat) : Int) * ((b / 4294967296 : Nat) : Int) = (((a % 4294967296) * (b / 4294967296) : Nat) : Int) := by simp
  have c4 : ((a % 4294967296 : Nat) : Int) * ((b % 4294967296 : Nat) : Int) = (((a % 4294967296) * (b % 4294967296) : Nat) : Int) := by simp
  have c5 : (a : Int) * (b : Int) = ((a * b : Nat) : Int) := by simp
  rw [c1, c2, c3, c4, c5]
  generalize (a / 4294967296) * (b / 4294967296) = S at *
  generalize (a / 4294967296) * (b % 4294967296) = Q at *
  generalize (a % 4294967296) * (b / 4294967296) = R at *
  generalize (a % 4294967296) * (b % 4294967296) = T at *
  generalize a * b = AB at *
  clear ha hb hx1 hy1 hx0 hy0 ea1 eb1 c1 c2 c3 c4 c5 bd
  have w : ∀ n : Nat, n < 18446744073709551616 → IntKind.u64.wrap (n : Int) = (n : Int) := fun n h => u64_id (by omega) (by omega)
  rw [w S (by omega), w Q (by omega), w R (by omega), w T (by omega)]
  have e1 : (Q : Int) + (T : Int) / 4294967296 = ((Q + T / 4294967296 : Nat) : Int) := by omega
  rw [e1, w _ (by omega), and_low_u64 (by omega)]
  have e2 : ((((Q + T / 4294967296) % 4294967296 : Nat) : Int) + (R : Int)) = (((Q + T / 4294967296) % 4294967296 + R : Nat) : Int) := by omega
  have e3 : (((Q + T / 4294967296 : Nat) : Int) / 4294967296) = (((Q + T / 4294967296) / 4294967296 : Nat) : Int) := by omega
  rw [e2, w _ (by omega), e3]
  have e4 : (S : Int) + (((Q + T / 4294967296) / 4294967296 : Nat) : Int) = ((S + (Q + T / 4294967296) / 4294967296 : Nat) : Int) := by omega
  rw [e4, w _ (by omega), u64_wrap, u64_wrap]
  congr 2 <;> omega

/-- What is left of a double word whose high word is 0. -/
theorem rem64_low {lo m : Nat} (hm : 0 < m) (k : Nat) : bits_Rem64.f k 0 (lo : Int) (m : Int) = some ((lo % m : Nat) : Int) := by
  unfold bits_Rem64.f bits_Div64.f
  rw [if_neg (by omega), if_neg (by omega)]
  have e : Int.tmod 0 (m : Int) = 0 := by simp
  rw [e, if_neg (by omega), if_pos rfl, bind_some]
  dsimp only
  rw [tmod_nn (by omega)]
  congr 1

theorem mulMod_small {a b m : Nat} (hm : 0 < m) (ha : a < 4294967296) (hb : b < 4294967296) (k : Nat) : impl_mulMod64.f k (a : Int) (b : Int) (m : Int) = some ((a * b % m : Nat) : Int) := by
  have hab : a * b < 18446744073709551616 := by
    have : a * b ≤ 4294967295 * 4294967295 := Nat.mul_le_mul (by omega) (by omega)
    omega
  unfold impl_mulMod64.f
  rw [mul64 (by omega) (by omega), bind_some]
  dsimp only
  rw [Nat.div_eq_of_lt hab, Nat.mod_eq_of_lt hab]
  rw [show ((0 : Nat) : Int) = 0 from rfl, rem64_low hm, bind_some]

theorem pow_step_odd (o a e m : Nat) (h : e % 2 = 1) : (o * a % m) * (a * a % m) ^ (e / 2) % m = o * a ^ e % m := by
  have e1 : a ^ e = a * (a * a) ^ (e / 2) := by
    have : e = 2 * (e / 2) + 1 := by omega
    rw [← Nat.pow_two, ← Nat.pow_mul]
    conv => lhs; rw [this]
    rw [Nat.pow_succ, Nat.mul_comm]
  rw [Nat.mul_mod, Nat.mod_mod, ← Nat.pow_mod, ← Nat.mul_mod, e1, Nat.mul_assoc]
theorem pow_step_even (o a e m : Nat) (h : e % 2 = 0) : o * (a * a % m) ^ (e / 2) % m = o * a ^ e % m := by
  have e1 : a ^ e = (a * a) ^ (e / 2) := by
    have : e = 2 * (e / 2) := by omega
    rw [← Nat.pow_two, ← Nat.pow_mul, ← this]
  rw [Nat.mul_mod, ← Nat.pow_mod, ← Nat.mul_mod, e1]

theorem pow_i_from (m : Nat) (hm : 0 < m) (hm2 : m ≤ 4294967296) : ∀ (e : Nat), e < 18446744073709551616 → ∀ (a o : Nat), a < m → o < m → ∀ K, nb e < K → impl_powMod64.l0 K (a : Int) (e : Int) (m : Int) (o : Int) = some ((o * a ^ e % m : Nat) : Int) := by
  intro e
  induction e using Nat.strongRecOn with
  | ind e ih =>
    intro he a o ha ho K hK
    obtain ⟨K, rfl⟩ : ∃ j, K = j + 1 := ⟨K - 1, by omega⟩
    simp only [impl_powMod64.l0]
    by_cases h0 : e = 0
    · subst h0
      rw [if_neg (by omega), Nat.pow_zero, Nat.mul_one, Nat.mod_eq_of_lt ho]
    · have hh := nb_half h0
      have e2 : (e : Int) / 2 = ((e / 2 : Nat) : Int) := by omega
      rw [if_pos (by omega), and_one_u64 he, e2]
      have haa : a * a % m < m := Nat.mod_lt _ hm
      have hoa : o * a % m < m := Nat.mod_lt _ hm
      by_cases hodd : e % 2 = 1
      · rw [if_pos (by omega), mulMod_small hm (by omega) (by omega), bind_some, mulMod_small hm (by omega) (by omega), bind_some,
          ih (e / 2) (by omega) (by omega) _ _ haa hoa K (by omega), pow_step_odd o a e m hodd]
      · rw [if_neg (by omega), mulMod_small hm (by omega) (by omega), bind_some, ih (e / 2) (by omega) (by omega) _ _ haa ho K (by omega), pow_step_even o a e m (by omega)]

theorem pow_s_from (m : Nat) (hm : 0 < m) (hm2 : m ≤ 2147483648) : ∀ (e : Nat), e < 9223372036854775808 → ∀ (a o : Nat), a < m → o < m → ∀ K, nb e < K → spec_l1Pow.l0 K (a : Int) (e : Int) (m : Int) (o : Int) = some ((o * a ^ e % m : Nat) : Int) := by
  intro e
  induction e using Nat.strongRecOn with
  | ind e ih =>
    intro he a o ha ho K hK
    obtain ⟨K, rfl⟩ : ∃ j, K = j + 1 := ⟨K - 1, by omega⟩
    simp only [spec_l1Pow.l0]
    by_cases h0 : e = 0
    · subst h0
      rw [if_neg (by omega), Nat.pow_zero, Nat.mul_one, Nat.mod_eq_of_lt ho]
    · have hh := nb_half h0
      have e2 : (e : Int) / 2 = ((e / 2 : Nat) : Int) := by omega
      rw [if_pos (by omega), and_one_i64, e2]
      have haa : a * a % m < m := Nat.mod_lt _ hm
      have hoa : o * a % m < m := Nat.mod_lt _ hm
      have p1 : a * a ≤ 2147483647 * 2147483647 := Nat.mul_le_mul (by omega) (by omega)
      have p2 : o * a ≤ 2147483647 * 2147483647 := Nat.mul_le_mul (by omega) (by omega)
      have m1 : Int.tmod (wrap64 ((a : Int) * (a : Int))) (m : Int) = ((a * a % m : Nat) : Int) := by
        have c : (a : Int) * (a : Int) = ((a * a : Nat) : Int) := by simp
        rw [c, w64 (by omega) (by omega), tmod_nn (by omega)]; rfl
      have m2 : Int.tmod (wrap64 ((o : Int) * (a : Int))) (m : Int) = ((o * a % m : Nat) : Int) := by
        have c : (o : Int) * (a : Int) = ((o * a : Nat) : Int) := by simp
        rw [c, w64 (by omega) (by omega), tmod_nn (by omega)]; rfl
      rw [m1, m2]
      by_cases hodd : e % 2 = 1
      · rw [if_pos (by omega), if_neg (by omega), ih (e / 2) (by omega) (by omega) _ _ haa hoa K (by omega), pow_step_odd o a e m hodd]
      · rw [if_neg (by omega), if_neg (by omega), ih (e / 2) (by omega) (by omega) _ _ haa ho K (by omega), pow_step_even o a e m (by omega)]

theorem nb_64 {e : Nat} (h : e < 18446744073709551616) : nb e ≤ 64 := by
  by_cases h0 : e = 0
  · subst h0; decide
  · have := nb_le h0
    by_cases hc : nb e ≤ 64
    · exact hc
    · have h2 : 2 ^ 64 ≤ 2 ^ (nb e - 1) := Nat.pow_le_pow_right (by omega) (by omega)
      omega

/-- The power that both make. -/
def powN (a : Int) (e : Int) (m : Int) : Int := (((a % m).toNat ^ e.toNat % m.toNat : Nat) : Int)

theorem one_mul_pow (m a e : Nat) : 1 % m * a ^ e % m = a ^ e % m := by
  rw [Nat.mul_mod, Nat.mod_mod, ← Nat.mul_mod, Nat.one_mul]

theorem pow_i {a e m : Int} (hm : 0 < m) (hm2 : m ≤ 2147483648) (h0 : 0 ≤ e) (h1 : e ≤ 9223372036854775807) : ∀ K, 65 < K → impl_pow.f K a e m = some (powN a e m) := by
  intro K hK
  have r0 := Int.emod_nonneg a (show m ≠ 0 by omega)
  have r1 := Int.emod_lt_of_pos a hm
  obtain ⟨M, rfl⟩ := Int.eq_ofNat_of_zero_le (show 0 ≤ m by omega)
  obtain ⟨E, rfl⟩ := Int.eq_ofNat_of_zero_le h0
  obtain ⟨A, hA⟩ := Int.eq_ofNat_of_zero_le r0
  have hE := nb_64 (e := E) (by omega)
  unfold impl_pow.f powN
  rw [modf_i hm (by omega), bind_some, hA, u64_id (n := (A : Int)) (by omega) (by omega), u64_id (n := (E : Int)) (by omega) (by omega), u64_id (n := (M : Int)) (by omega) (by omega)]
  unfold impl_powMod64.f
  have e1 : Int.tmod (A : Int) (M : Int) = (A : Int) := by rw [tmod_nn (by omega)]; exact Int.emod_eq_of_lt (by omega) (by omega)
  have e2 : (1 : Int) % (M : Int) = ((1 % M : Nat) : Int) := rfl
  rw [if_neg (by omega), e1, e2, pow_i_from M (by omega) (by omega) E (by omega) A (1 % M) (by omega) (Nat.mod_lt _ (by omega)) K (by omega), bind_some, one_mul_pow M A E]
  have hlt : A ^ E % M < M := Nat.mod_lt _ (by omega)
  rw [w64 (by omega) (by omega)]
  simp
theorem pow_s {a e m : Int} (hm : 0 < m) (hm2 : m ≤ 2147483648) (h0 : 0 ≤ e) (h1 : e ≤ 9223372036854775807) : ∀ K, 65 < K → spec_l1Pow.f K a e m = some (powN a e m) := by
  intro K hK
  have r0 := Int.emod_nonneg a (show m ≠ 0 by omega)
  have r1 := Int.emod_lt_of_pos a hm
  obtain ⟨M, rfl⟩ := Int.eq_ofNat_of_zero_le (show 0 ≤ m by omega)
  obtain ⟨E, rfl⟩ := Int.eq_ofNat_of_zero_le h0
  obtain ⟨A, hA⟩ := Int.eq_ofNat_of_zero_le r0
  have hE := nb_64 (e := E) (by omega)
  unfold spec_l1Pow.f powN
  have e2 : (1 : Int) % (M : Int) = ((1 % M : Nat) : Int) := rfl
  rw [if_neg (by omega), modf_s hm (by omega), bind_some, hA, e2, pow_s_from M (by omega) (by omega) E (by omega) A (1 % M) (by omega) (Nat.mod_lt _ (by omega)) K (by omega), one_mul_pow M A E]
  simp

theorem powMod_both (a e m : Int) (he : e ≤ 9223372036854775807) : ∃ r, ∀ K, 65 < K → impl_PowMod.f K a e m = some r ∧ spec_PowMod.f K a e m = some r := by
  by_cases h : 2 ≤ m ∧ m ≤ 268435456
  · by_cases h2 : e < 0
    · refine ⟨0, fun K hK => ⟨?_, ?_⟩⟩
      · unfold impl_PowMod.f; rw [mod_i, bind_some, decide_eq_true h, if_pos rfl, if_pos h2]
      · unfold spec_PowMod.f; rw [mod_s, bind_some, decide_eq_true h, if_pos rfl, if_pos h2]
    · refine ⟨powN a e m, fun K hK => ⟨?_, ?_⟩⟩
      · unfold impl_PowMod.f; rw [mod_i, bind_some, decide_eq_true h, if_pos rfl, if_neg h2, pow_i (by omega) (by omega) (by omega) he K hK, bind_some]
      · unfold spec_PowMod.f; rw [mod_s, bind_some, decide_eq_true h, if_pos rfl, if_neg h2, pow_s (by omega) (by omega) (by omega) he K hK, bind_some]
  · refine ⟨0, fun K hK => ⟨?_, ?_⟩⟩
    · unfold impl_PowMod.f; rw [mod_i, bind_some, decide_eq_false h, if_neg (by simp)]
    · unfold spec_PowMod.f; rw [mod_s, bind_some, decide_eq_false h, if_neg (by simp)]

theorem powMod : laws_FnExactPowMod.Pure := by
  intro a e m ha he hm
  obtain ⟨r, hr⟩ := powMod_both a e m (wf_bounds he).2
  refine ⟨66, ?_⟩
  unfold laws_FnExactPowMod.f
  rw [(hr 66 (by omega)).2, bind_some, (hr 66 (by omega)).1, bind_some, if_pos rfl]

end Go.Proofs.Ytajlgfjmocgoead.Pow
