/- The plain statements of BarrettOf and BarrettMul. -/
import Derived.Test.YtajlgfjmocgoeabBitLen
import Derived.Test.YtajlgfjmocgoeabLawsA
namespace Go.Proofs.Ytajlgfjmocgoeab.LawsB
open Go.RowKit Go.Proofs.YtajlgfjmocgoeabW.PrintWords Go.Proofs.YtajlgfjmocgoeabW.PrintLast Go.Proofs.YtajlgfjmocgoeabW.PrintMore Go.Proofs.Ytajlgfjmocgoeab.Lib Go.Proofs.Ytajlgfjmocgoeab.M Go.Proofs.Ytajlgfjmocgoeab.Word

theorem nb_28 {n : Nat} (h : n ≤ 268435456) : nb n ≤ 29 := by
  by_cases h0 : n = 0
  · subst h0; decide
  · have := nb_le h0
    by_cases hc : nb n ≤ 29
    · exact hc
    · have h2 : 2 ^ 29 ≤ 2 ^ (nb n - 1) := Nat.pow_le_pow_right (by omega) (by omega)
      omega

theorem bo_spec_no (p : Int) (h : ¬ (2 ≤ p ∧ p ≤ 268435456)) (k : Nat) : spec_BarrettOf.f k p = some (0, 0, 0, false) := by
  simp only [spec_BarrettOf.f, mod_s, bind_some]
  simp [h]
theorem bo_impl_no (p : Int) (h : ¬ (2 ≤ p ∧ p ≤ 268435456)) (k : Nat) : impl_BarrettOf.f k p = some (0, 0, 0, false) := by
  simp only [impl_BarrettOf.f, mod_i, bind_some]
  simp [h]
theorem bo_spec_yes (n : Nat) (h : (2 ≤ (n : Int) ∧ (n : Int) ≤ 268435456)) (h2 : ¬ Int.tmod n 2 = 0) (hb : nb n ≤ 29) (k : Nat) (hk : spec_l1Bits.f k (n : Int) = some (nb n : Int)) :
    spec_BarrettOf.f k n = some ((n : Int), 2 * (nb n : Int), wrap64 (Int.tdiv (shl .i64 1 (2 * (nb n : Int))) n), true) := by
  have e1 : wrap64 (2 * (nb n : Int)) = 2 * (nb n : Int) := w64 (by omega) (by omega)
  have e2 : IntKind.u64.wrap (2 * (nb n : Int)) = 2 * (nb n : Int) := u64_id (by omega) (by omega)
  have hn : ¬ (n : Int) = 0 := by omega
  have hz : 0 ≤ 2 * (nb n : Int) := by omega
  unfold spec_BarrettOf.f
  rw [mod_s, bind_some, decide_eq_true h, if_pos rfl, if_neg h2, hk, bind_some, e1, e2, if_pos hz, if_neg hn]
theorem bo_impl_yes (n : Nat) (h : (2 ≤ (n : Int) ∧ (n : Int) ≤ 268435456)) (h2 : ¬ Int.tmod n 2 = 0) (hb : nb n ≤ 29) (k : Nat) :
    impl_BarrettOf.f (k + 1) n = some ((n : Int), 2 * (nb n : Int), wrap64 (Int.tdiv (shl .i64 1 (2 * (nb n : Int))) n), true) := by
  have e1 : wrap64 (2 * (nb n : Int)) = 2 * (nb n : Int) := w64 (by omega) (by omega)
  have e3 : IntKind.u64.wrap (n : Int) = n := u64_id (by omega) (by omega)
  have hn : ¬ (n : Int) = 0 := by omega
  have hz : 0 ≤ 2 * (nb n : Int) := by omega
  unfold impl_BarrettOf.f
  rw [mod_i, bind_some, decide_eq_true h, if_pos rfl, if_neg h2, e3, len (by omega), bind_some, e1, if_pos hz, if_neg hn]
/-- Both make the same of a modulus. -/
theorem barrettOf_both (p : Int) : ∃ r, Ev (fun k => impl_BarrettOf.f k p) r ∧ Ev (fun k => spec_BarrettOf.f k p) r ∧ (r.2.2.2 = true → 2 ≤ p ∧ p ≤ 268435456) := by
  by_cases h1 : 2 ≤ p ∧ p ≤ 268435456
  · by_cases h2 : Int.tmod p 2 = 0
    · refine ⟨(0, 0, 0, false), ⟨0, fun k _ => ?_⟩, ⟨0, fun k _ => ?_⟩, fun h => by simp at h⟩
      · show impl_BarrettOf.f k p = _
        unfold impl_BarrettOf.f
        rw [mod_i, bind_some, decide_eq_true h1, if_pos rfl, if_pos h2]
      · show spec_BarrettOf.f k p = _
        unfold spec_BarrettOf.f
        rw [mod_s, bind_some, decide_eq_true h1, if_pos rfl, if_pos h2]
    · obtain ⟨n, rfl⟩ := Int.eq_ofNat_of_zero_le (show 0 ≤ p by omega)
      have hb := nb_28 (n := n) (by omega)
      obtain ⟨K, hK⟩ := l1Bits (n := n) (by omega)
      refine ⟨_, ⟨1, fun k hk => ?_⟩, ⟨K, fun k hk => bo_spec_yes n h1 h2 hb k (hK k hk)⟩, fun _ => h1⟩
      obtain ⟨k, rfl⟩ : ∃ j, k = j + 1 := ⟨k - 1, by omega⟩
      exact bo_impl_yes n h1 h2 hb k
  · exact ⟨(0, 0, 0, false), ⟨0, fun k _ => bo_impl_no p h1 k⟩, ⟨0, fun k _ => bo_spec_no p h1 k⟩, fun h => by simp at h⟩

theorem barrettOf : laws_FnExactBarrettOf.Pure := by
  intro p hp
  obtain ⟨⟨a, b, c, d⟩, ⟨K1, h1⟩, ⟨K2, h2⟩, _⟩ := barrettOf_both p
  refine ⟨K1 + K2, ?_⟩
  have g1 := h1 (K1 + K2) (by omega)
  have g2 := h2 (K1 + K2) (by omega)
  simp only at g1 g2
  simp only [laws_FnExactBarrettOf.f, g1, g2, bind_some, laws_eqBarrett.f]
  simp

theorem barrettMul_both (p s m x y : Int) : ∃ r, Ev (fun k => impl_BarrettMul.f k p s m x y) r ∧ Ev (fun k => spec_BarrettMul.f k p s m x y) r := by
  obtain ⟨⟨a, b, c, d⟩, ⟨K1, h1⟩, ⟨K2, h2⟩, hd⟩ := barrettOf_both p
  have e : ∀ k, K1 + K2 ≤ k → impl_BarrettMul.f k p s m x y = spec_BarrettMul.f k p s m x y := by
    intro k hk
    have g1 := h1 k (by omega)
    have g2 := h2 k (by omega)
    simp only at g1 g2
    simp only [impl_BarrettMul.f, spec_BarrettMul.f, g1, g2, bind_some, in_i, in_s]
  have ex : ∃ r, ∀ k, K1 + K2 ≤ k → impl_BarrettMul.f k p s m x y = some r := by
    have g : ∀ k, K1 + K2 ≤ k → impl_BarrettOf.f k p = some (a, b, c, d) := fun k hk => h1 k (by omega)
    cases d with
    | false =>
      refine ⟨(0, false), fun k hk => ?_⟩
      unfold impl_BarrettMul.f
      rw [g k hk, bind_some, if_neg (by simp)]
    | true =>
      have hp := hd rfl
      have hp0 : ¬ p = 0 := by omega
      by_cases h3 : (!(a == p) || (!(b == s) || (!(c == m)))) = true
      · refine ⟨(0, false), fun k hk => ?_⟩
        unfold impl_BarrettMul.f
        rw [g k hk, bind_some, if_pos rfl, if_pos h3]
      · by_cases h4 : 0 ≤ x ∧ x ≤ wrap64 (p - 1)
        · by_cases h5 : 0 ≤ y ∧ y ≤ wrap64 (p - 1)
          · refine ⟨(Int.tmod (wrap64 (x * y)) p, true), fun k hk => ?_⟩
            unfold impl_BarrettMul.f
            rw [g k hk, bind_some, if_pos rfl, if_neg h3, in_i, bind_some, decide_eq_true h4, if_pos rfl, in_i, bind_some, decide_eq_true h5, if_pos rfl, if_neg hp0]
          · refine ⟨(0, false), fun k hk => ?_⟩
            unfold impl_BarrettMul.f
            rw [g k hk, bind_some, if_pos rfl, if_neg h3, in_i, bind_some, decide_eq_true h4, if_pos rfl, in_i, bind_some, decide_eq_false h5, if_neg (by simp)]
        · refine ⟨(0, false), fun k hk => ?_⟩
          unfold impl_BarrettMul.f
          rw [g k hk, bind_some, if_pos rfl, if_neg h3, in_i, bind_some, decide_eq_false h4, if_neg (by simp)]
  obtain ⟨r, hr⟩ := ex
  exact ⟨r, ⟨K1 + K2, hr⟩, ⟨K1 + K2, fun k hk => (e k hk).symm.trans (hr k hk)⟩⟩

theorem barrettMul (p s m x y : Int) : ∃ k, laws_FnExactBarrettMul.f k p s m x y = some true := by
  obtain ⟨⟨a, b⟩, ⟨K1, h1⟩, ⟨K2, h2⟩⟩ := barrettMul_both p s m x y
  refine ⟨K1 + K2, ?_⟩
  have g1 := h1 (K1 + K2) (by omega)
  have g2 := h2 (K1 + K2) (by omega)
  simp only at g1 g2
  simp only [laws_FnExactBarrettMul.f, laws_toBarrett.f, bind_some, g1, g2]
  simp

theorem barrettMulP : ∀ (a0_0 : Int) (a0_1 : Int) (a0_2 : Int) (a1 : Int) (a2 : Int), (Lit.int .i64 a0_0).wf = true → (Lit.int .i64 a0_1).wf = true → (Lit.int .i64 a0_2).wf = true →
    (Lit.int .i64 a1).wf = true → (Lit.int .i64 a2).wf = true → ∃ k, laws_FnExactBarrettMul.f k a0_0 a0_1 a0_2 a1 a2 = some true := fun p s m x y _ _ _ _ _ => barrettMul p s m x y

end Go.Proofs.Ytajlgfjmocgoeab.LawsB
