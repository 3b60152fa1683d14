/- The plain statements of the least laws: ShoupOf, ShoupMul, BitBack, InvMod. -/
import Derived.Test.YtajlgfjmocgoeabWord
namespace Go.Proofs.Ytajlgfjmocgoeab.LawsA
open Go.RowKit Go.Proofs.YtajlgfjmocgoeabW.PrintWords Go.Proofs.YtajlgfjmocgoeabW.PrintLast Go.Proofs.YtajlgfjmocgoeabW.PrintMore Go.Proofs.Ytajlgfjmocgoeab.Lib Go.Proofs.Ytajlgfjmocgoeab.M Go.Proofs.Ytajlgfjmocgoeab.Word

theorem constants : laws_FnExactConstants.Pure := rfl

theorem shoupOf : laws_FnExactShoupOf.Pure := by
  intro w p hw hp
  have hb := wf_bounds hp
  simp only [laws_FnExactShoupOf.f, spec_ShoupOf.f, impl_ShoupOf.f, mod_i, mod_s, in_i, in_s, bind_some, impl_shoup.f]
  by_cases h1 : 2 ≤ p ∧ p ≤ 268435456
  · have hp0 : p ≠ 0 := by omega
    by_cases h3 : 0 ≤ w ∧ w ≤ wrap64 (p - 1)
    · simp [h1, h3, hp0]
    · simp [h1, h3]
  · simp [h1]

theorem shoupMul : laws_FnExactShoupMul.Pure := by
  intro w pre p x hw hpre hp hx
  have hb := wf_bounds hp
  simp only [laws_FnExactShoupMul.f, spec_ShoupMul.f, impl_ShoupMul.f, spec_ShoupOf.f, mod_i, mod_s, in_i, in_s, bind_some, impl_shoup.f]
  by_cases h1 : 2 ≤ p ∧ p ≤ 268435456
  · have hp0 : p ≠ 0 := by omega
    by_cases h3 : 0 ≤ w ∧ w ≤ wrap64 (p - 1)
    · by_cases h4 : wrap64 (Int.tdiv (wrap64 (w * 4294967296)) p) = pre
      · have h4' := h4.symm
        by_cases h5 : 0 ≤ x ∧ x ≤ 4294967295
        · simp [h1, h3, hp0, h4, h5]
        · simp [h1, h3, hp0, h4, h5]
      · have h4' : ¬ pre = wrap64 (Int.tdiv (wrap64 (w * 4294967296)) p) := fun e => h4 e.symm
        simp [h1, h3, hp0, h4, h4']
    · simp [h1, h3]
  · simp [h1]

theorem back_both : ∀ (d : Nat) (x0 o i n : Int), 0 ≤ x0 → x0 < 4611686018427387904 → 0 ≤ o → o < 2 ^ i.toNat → 0 ≤ i → n ≤ 60 → n - i = d →
    ∃ r, (∀ K, d < K → impl_bitBack.l0 K x0 o n i = some r) ∧ (∀ K, d < K → spec_l3Back.l0 K x0 (n - i) o = some r)
  | 0, x0, o, i, n, _, _, _, _, _, _, hd => by
    refine ⟨o, fun K hK => ?_, fun K hK => ?_⟩
    · obtain ⟨K, rfl⟩ : ∃ j, K = j + 1 := ⟨K - 1, by omega⟩
      simp only [impl_bitBack.l0]; rw [if_neg (by omega)]
    · obtain ⟨K, rfl⟩ : ∃ j, K = j + 1 := ⟨K - 1, by omega⟩
      simp only [spec_l3Back.l0]; rw [if_neg (by omega)]
  | d + 1, x0, o, i, n, hx0, hx1, ho0, ho1, hi, hn, hd => by
    have hpow : (2 : Int) ^ i.toNat ≤ 2 ^ 60 := by
      have : (2 : Nat) ^ i.toNat ≤ 2 ^ 60 := Nat.pow_le_pow_right (by omega) (by omega)
      have := Int.ofNat_le.mpr this
      simpa using this
    have hsucc : (2 : Int) ^ (i + 1).toNat = 2 * 2 ^ i.toNat := by
      rw [show (i + 1).toNat = i.toNat + 1 by omega, Int.pow_succ]; omega
    have hb : 0 ≤ x0 % 2 ∧ x0 % 2 < 2 := ⟨Int.emod_nonneg _ (by omega), Int.emod_lt_of_pos _ (by omega)⟩
    obtain ⟨r, h1, h2⟩ := back_both d (x0 / 2) (o * 2 + x0 % 2) (i + 1) n (by omega) (by omega) (by omega) (by omega) (by omega) hn (by omega)
    refine ⟨r, fun K hK => ?_, fun K hK => ?_⟩
    · obtain ⟨K, rfl⟩ : ∃ j, K = j + 1 := ⟨K - 1, by omega⟩
      simp only [impl_bitBack.l0]; rw [if_pos (by omega)]
      rw [and_one_i64, w64 (n := o * 2) (by omega) (by omega), or_i64_add 1 (by omega) (by omega) (by omega) (by omega) (by omega), w64 (n := i + 1) (by omega) (by omega)]
      exact h1 K (by omega)
    · obtain ⟨K, rfl⟩ : ∃ j, K = j + 1 := ⟨K - 1, by omega⟩
      simp only [spec_l3Back.l0]; rw [if_pos (by omega)]
      rw [tdiv_nn hx0, tmod_nn hx0, w64 (n := x0 / 2) (by omega) (by omega), w64 (n := n - i - 1) (by omega) (by omega), w64 (n := 2 * o) (by omega) (by omega),
        w64 (n := 2 * o + x0 % 2) (by omega) (by omega), show n - i - 1 = n - (i + 1) by omega, show 2 * o + x0 % 2 = o * 2 + x0 % 2 by omega]
      exact h2 K (by omega)

theorem shl_one {n : Int} (h0 : 0 ≤ n) (h1 : n ≤ 62) : shl .i64 1 n = 2 ^ n.toNat := by
  unfold shl
  have hk : IntKind.i64.bits = 64 := rfl
  rw [hk, Nat.min_eq_left (by omega), Int.one_mul, i64_wrap]
  have hpow : (2 : Int) ^ n.toNat ≤ 2 ^ 62 := by
    have : (2 : Nat) ^ n.toNat ≤ 2 ^ 62 := Nat.pow_le_pow_right (by omega) (by omega)
    have := Int.ofNat_le.mpr this
    simpa using this
  have h2 : (0 : Int) < 2 ^ n.toNat := Int.pow_pos (by omega)
  exact w64 (by omega) (by omega)

theorem bitBack : laws_FnExactBitBack.Pure := by
  intro x n hx hn
  by_cases h1 : 0 ≤ n ∧ n ≤ 10
  · have e1 : IntKind.u64.wrap n = n := u64_id (by omega) (by omega)
    have e2 : shl .i64 1 n = 2 ^ n.toNat := shl_one (by omega) (by omega)
    have hpow : (2 : Int) ^ n.toNat ≤ 2 ^ 10 := by
      have : (2 : Nat) ^ n.toNat ≤ 2 ^ 10 := Nat.pow_le_pow_right (by omega) (by omega)
      have := Int.ofNat_le.mpr this
      simpa using this
    have h2 : (0 : Int) < 2 ^ n.toNat := Int.pow_pos (by omega)
    have e3 : wrap64 (2 ^ n.toNat - 1) = 2 ^ n.toNat - 1 := w64 (by omega) (by omega)
    by_cases h3 : 0 ≤ x ∧ x ≤ 2 ^ n.toNat - 1
    · obtain ⟨r, g1, g2⟩ := back_both n.toNat x 0 0 n h3.1 (by omega) (by omega) (by simp) (by omega) (by omega) (by omega)
      refine ⟨n.toNat + 1, ?_⟩
      have g1' := g1 (n.toNat + 1) (by omega)
      have g2' := g2 (n.toNat + 1) (by omega)
      rw [Int.sub_zero] at g2'
      have f1 : impl_bitBack.f (n.toNat + 1) x n = some r := g1'
      have f2 : spec_l3Back.f (n.toNat + 1) x n = some r := g2'
      simp only [laws_FnExactBitBack.f, spec_BitBack.f, impl_BitBack.f, in_i, in_s, bind_some, e1, e2, e3]
      simp [h1, h3, f1, f2]
    · refine ⟨0, ?_⟩
      simp only [laws_FnExactBitBack.f, spec_BitBack.f, impl_BitBack.f, in_i, in_s, bind_some, e1, e2, e3]
      simp [h1, h3]
  · refine ⟨0, ?_⟩
    simp only [laws_FnExactBitBack.f, spec_BitBack.f, impl_BitBack.f, in_i, in_s, bind_some]
    simp [h1]

theorem invMod : laws_FnExactInvMod.Pure := by
  intro a m ha hm
  by_cases h1 : 2 ≤ m ∧ m ≤ 268435456
  · obtain ⟨g, i, hi, ⟨K1, k1⟩, ⟨K2, k2⟩⟩ := inverse_both a m (by omega) (by omega)
    refine ⟨K1 + K2, ?_⟩
    have g1 := k1 (K1 + K2) (by omega)
    have g2 := k2 (K1 + K2) (by omega)
    simp only at g1 g2
    simp only [laws_FnExactInvMod.f, spec_InvMod.f, impl_InvMod.f, mod_i, mod_s, bind_some, g1, g2]
    by_cases hg : g = 1
    · simp [h1, hg]
    · simp [h1, hg]
  · refine ⟨0, ?_⟩
    simp only [laws_FnExactInvMod.f, spec_InvMod.f, impl_InvMod.f, mod_i, mod_s, bind_some]
    simp [h1]

end Go.Proofs.Ytajlgfjmocgoeab.LawsA
