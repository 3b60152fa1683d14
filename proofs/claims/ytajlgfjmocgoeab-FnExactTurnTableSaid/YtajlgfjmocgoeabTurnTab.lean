/- The plain statement of TurnTable: sizes and turns are few: each reckoned by the kernel; elsewhere both say no. -/
import Derived.Test.YtajlgfjmocgoeabLawKit
import Derived.Test.YtajlgfjmocgoeabModel3
import Derived.Test.YtajlgfjmocgoeabLawsB
namespace Go.Proofs.Ytajlgfjmocgoeab.TurnTab
open Go.RowKit Go.Proofs.YtajlgfjmocgoeabW.PrintWords Go.Proofs.YtajlgfjmocgoeabW.PrintLast Go.Proofs.YtajlgfjmocgoeabW.PrintMore Go.Proofs.Ytajlgfjmocgoeab.Lib Go.Proofs.Ytajlgfjmocgoeab.M Go.Proofs.Ytajlgfjmocgoeab.Word Go.Proofs.Ytajlgfjmocgoeab.LawKit

def isN (n : Int) : Bool := decide (2 ≤ n ∧ n ≤ 16) && (Go.bits .and .i64 n (wrap64 (n - 1)) == 0)
theorem isN_i (n : Int) : impl_isN.f n = some (isN n) := by
  unfold impl_isN.f impl_isPower.f isN
  rw [in_i, bind_some]
  by_cases h : 2 ≤ n ∧ n ≤ 16
  · rw [decide_eq_true h, if_pos rfl]; rfl
  · rw [decide_eq_false h, if_neg (by simp)]; rfl
theorem isN_s (n : Int) : spec_l3Size.f n = some (isN n) := by
  unfold spec_l3Size.f spec_l1Power.f isN
  rw [in_s, bind_some]
  by_cases h : 2 ≤ n ∧ n ≤ 16
  · rw [decide_eq_true h, if_pos rfl]; rfl
  · rw [decide_eq_false h, if_neg (by simp)]; rfl
def isTurn (n g : Int) : Bool := decide (1 ≤ g ∧ g ≤ wrap64 (wrap64 (2 * n) - 1)) && (Int.tmod g 2 == 1)
theorem isTurn_i (n g : Int) : impl_isTurn.f n g = some (isTurn n g) := by
  unfold impl_isTurn.f isTurn
  rw [in_i, bind_some]
  by_cases h : 1 ≤ g ∧ g ≤ wrap64 (wrap64 (2 * n) - 1)
  · rw [decide_eq_true h, if_pos rfl]; rfl
  · rw [decide_eq_false h, if_neg (by simp)]; rfl
theorem isTurn_s (n g : Int) : spec_l3Odd.f n g = some (isTurn n g) := by
  unfold spec_l3Odd.f isTurn
  rw [in_s, bind_some]
  by_cases h : 1 ≤ g ∧ g ≤ wrap64 (wrap64 (2 * n) - 1)
  · rw [decide_eq_true h, if_pos rfl]; rfl
  · rw [decide_eq_false h, if_neg (by simp)]; rfl

theorem isN_cases {n : Int} (h : isN n = true) : n = 2 ∨ n = 4 ∨ n = 8 ∨ n = 16 := by
  unfold isN at h
  rw [Bool.and_eq_true, decide_eq_true_eq] at h
  obtain ⟨⟨h1, h2⟩, h3⟩ := h
  have key : ∀ k : Fin 17, 2 ≤ k.val → (Go.bits .and .i64 (k.val : Int) (wrap64 ((k.val : Int) - 1)) == 0) = true → k.val = 2 ∨ k.val = 4 ∨ k.val = 8 ∨ k.val = 16 := by decide +kernel
  have := key ⟨n.toNat, by omega⟩ (by simp; omega) (by simpa [Int.toNat_of_nonneg (by omega : 0 ≤ n)] using h3)
  simp at this
  omega

/-- All tables, by the kernel: at each size and each turn. -/
theorem tables_2 : ∀ g : Fin 2, laws_FnExactTurnTable.f 600 2 (2 * (g.val : Int) + 1) = some true := by decide +kernel
theorem tables_4 : ∀ g : Fin 4, laws_FnExactTurnTable.f 600 4 (2 * (g.val : Int) + 1) = some true := by decide +kernel
theorem tables_8 : ∀ g : Fin 8, laws_FnExactTurnTable.f 600 8 (2 * (g.val : Int) + 1) = some true := by decide +kernel
theorem tables_16 : ∀ g : Fin 16, laws_FnExactTurnTable.f 600 16 (2 * (g.val : Int) + 1) = some true := by decide +kernel

theorem turnTable : laws_FnExactTurnTable.Pure := by
  intro n g hn hg
  by_cases h : isN n = true ∧ isTurn n g = true
  · obtain ⟨h1, h2⟩ := h
    have hc := isN_cases h1
    unfold isTurn at h2
    rw [Bool.and_eq_true, decide_eq_true_eq, beq_iff_eq] at h2
    obtain ⟨⟨g1, g2⟩, g3⟩ := h2
    rw [w64 (n := 2 * n) (by omega) (by omega), w64 (by omega) (by omega)] at g2
    rw [tmod_nn (by omega)] at g3
    have e : g = 2 * ((g.toNat / 2 : Nat) : Int) + 1 := by omega
    refine ⟨600, ?_⟩
    rw [e]
    rcases hc with rfl | rfl | rfl | rfl
    · exact tables_2 ⟨g.toNat / 2, by omega⟩
    · exact tables_4 ⟨g.toNat / 2, by omega⟩
    · exact tables_8 ⟨g.toNat / 2, by omega⟩
    · exact tables_16 ⟨g.toNat / 2, by omega⟩
  · have hi : ∀ k, impl_TurnTable.f k n g = some ([], false) := by
      intro k
      unfold impl_TurnTable.f
      rw [isN_i, bind_some]
      cases e1 : isN n with
      | false => rw [if_neg (by simp)]
      | true =>
        rw [if_pos rfl, isTurn_i, bind_some]
        cases e2 : isTurn n g with
        | false => rw [if_neg (by simp)]
        | true => exact absurd ⟨e1, e2⟩ h
    have hs : ∀ k, spec_TurnTable.f (k + 1) n g = some ([], false) := by
      intro k
      unfold spec_TurnTable.f
      rw [isN_s, bind_some]
      cases e1 : isN n with
      | false => rw [if_neg (by simp)]; simp only [spec_TurnTable.j0]; rfl
      | true =>
        rw [if_pos rfl, isTurn_s, bind_some]
        cases e2 : isTurn n g with
        | false => simp only [spec_TurnTable.j0]; rfl
        | true => exact absurd ⟨e1, e2⟩ h
    obtain ⟨K1, k1⟩ := eqIntS_self [] (by simp)
    obtain ⟨K2, k2⟩ := LawKit.mark (l := []) (k0 := 1) (by omega) (by simp)
    obtain ⟨K3, k3⟩ := LawKit.held (n := 0) (k0 := 1) (by omega) (by omega)
    dsimp only at k1 k2 k3
    refine ⟨K1 + K2 + K3 + 5, ?_⟩
    rw [show K1 + K2 + K3 + 5 = (K1 + K2 + K3 + 3) + 1 + 1 from rfl]
    unfold laws_FnExactTurnTable.f
    rw [hs, bind_some, hi, bind_some]
    dsimp only
    rw [k1 _ (by omega), bind_some, if_pos rfl]
    simp only [laws_FnExactTurnTable.j0]
    rw [if_neg (by simp), k2 _ (by omega), bind_some]
    dsimp only [List.length_nil]
    rw [k3 _ (by omega), bind_some, if_neg (by simp), if_pos rfl, hi, bind_some]
    dsimp only
    rw [k1 _ (by omega), bind_some, if_pos rfl]
    simp only [laws_FnExactTurnTable.j1]
    rw [if_neg (by simp), k3 _ (by omega), bind_some, if_neg (by simp), if_pos rfl]

end Go.Proofs.Ytajlgfjmocgoeab.TurnTab
