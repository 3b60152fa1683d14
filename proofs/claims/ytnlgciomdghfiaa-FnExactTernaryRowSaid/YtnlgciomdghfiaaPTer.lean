/- Coins: the law of TernaryFrom. -/
import Derived.Test.YtnlgciomdghfiaaPCoin
namespace Go.Proofs.Ytnlgciomdghfiaa.Fw
open Go Go.RowKit
set_option linter.unusedVariables false

theorem specT_from {C0 C1 C2 C3 : Ca tb} {N0 N1 N2 N3 : Nat} {w : List Int} {x1 : Int} {d1 : Bool} (hl : w.length < 1099511627776) : ∀ (d i : Nat), i + d = w.length → ∀ K, d + 1 < K →
    iterO (spec_TernaryFrom_g1 C0 C1 C2 C3 N0 N1 N2 N3 w x1 d1) K ((i : Int), true) = some (drawW ter (wBound 3) w d i)
  | 0, i, hi, K, hK => by
    obtain ⟨K, rfl⟩ : ∃ j, K = j + 1 := ⟨K - 1, by omega⟩
    rw [iterO_succ]; unfold spec_TernaryFrom_g1 spec_TernaryFrom_x1
    dsimp only
    have hb := wBound_pos (p := 3) (by omega) (by omega)
    unfold wBound at hb
    rw [if_pos rfl, if_pos (by omega), if_neg (by omega), if_pos hb, if_neg (by omega), if_neg (by decide)]
    rfl
  | d + 1, i, hi, K, hK => by
    obtain ⟨K, rfl⟩ : ∃ j, K = j + 1 := ⟨K - 1, by omega⟩
    have ih := specT_from (C0 := C0) (C1 := C1) (C2 := C2) (C3 := C3) (N0 := N0) (N1 := N1) (N2 := N2) (N3 := N3) (x1 := x1) (d1 := d1) hl d (i + 1) (by omega) K (by omega)
    rw [iterO_succ]
    generalize iterO (spec_TernaryFrom_g1 C0 C1 C2 C3 N0 N1 N2 N3 w x1 d1) K = S at ih ⊢
    unfold spec_TernaryFrom_g1 spec_TernaryFrom_x1
    dsimp only
    rw [if_pos rfl, if_neg (by omega), back1 (by omega), if_pos (by omega), if_pos (by omega), if_neg (by omega), nat_i, w64 (n := (i : Int) + 1) (by omega) (by omega), ni1, ih]
    rw [drawW_succ]
    by_cases h : w.getD i 0 < wBound 3
    · rw [if_pos h]
      unfold wBound at h
      rw [if_pos h, if_neg (by omega)]
      unfold ter
      by_cases h2 : (w.getD i 0).tmod 3 = 2
      · rw [if_pos h2, if_neg (by simp), if_pos h2]
      · rw [if_neg h2, if_neg (by simp), if_neg h2]
    · rw [if_neg h]
      unfold wBound at h
      rw [if_neg h]
theorem implT_from {C0 C1 C2 C3 C4 : Ca tb} {N0 N1 N2 N3 N4 : Nat} {w : List Int} {x1 : Int} {x2 d2 : Bool} (hl : w.length < 1099511627776) : ∀ (d i : Nat), i + d = w.length → ∀ K, d + 1 < K →
    iterO (impl_drawn_inta_g1 C0 C1 C2 C3 C4 N0 N1 N2 N3 N4 w x1 x2 d2) K ((i : Int), false) = some (drawW ter (wBound 3) w d i)
  | 0, i, hi, K, hK => by
    obtain ⟨K, rfl⟩ : ∃ j, K = j + 1 := ⟨K - 1, by omega⟩
    rw [iterO_succ]; unfold impl_drawn_inta_g1 impl_drawn_inta_x1
    dsimp only
    have hb := wBound_pos (p := 3) (by omega) (by omega)
    unfold wBound at hb
    rw [if_pos (by simp), if_neg (by simp), if_neg (by simp), if_pos (by omega), if_neg (by omega), if_pos hb, if_neg (by omega), if_neg (by decide)]
    rfl
  | d + 1, i, hi, K, hK => by
    obtain ⟨K, rfl⟩ : ∃ j, K = j + 1 := ⟨K - 1, by omega⟩
    have ih := implT_from (C0 := C0) (C1 := C1) (C2 := C2) (C3 := C3) (C4 := C4) (N0 := N0) (N1 := N1) (N2 := N2) (N3 := N3) (N4 := N4) (x1 := x1) (x2 := x2) (d2 := d2) hl d (i + 1) (by omega) K (by omega)
    rw [iterO_succ]
    generalize iterO (impl_drawn_inta_g1 C0 C1 C2 C3 C4 N0 N1 N2 N3 N4 w x1 x2 d2) K = S at ih ⊢
    unfold impl_drawn_inta_g1 impl_drawn_inta_x1
    dsimp only
    rw [if_pos (by simp), if_neg (by simp), if_neg (by simp), if_neg (by omega), back1 (by omega), if_pos (by omega), if_pos (by omega), if_neg (by omega), nat_i, w64 (n := (i : Int) + 1) (by omega) (by omega), ni1, ih]
    rw [drawW_succ]
    by_cases h : w.getD i 0 < wBound 3
    · rw [if_pos h]
      unfold wBound at h
      rw [if_pos h, if_neg (by omega)]
      unfold ter
      by_cases h2 : (w.getD i 0).tmod 3 = 2
      · rw [if_pos h2, if_neg (by simp), if_pos h2]
      · rw [if_neg h2, if_neg (by simp), if_neg h2]
    · rw [if_neg h]
      unfold wBound at h
      rw [if_neg h]
noncomputable def terB (w : List Int) (a : Int) : Int × Int × Bool := if wordsB w a = true then drawW ter (wBound 3) w (w.length - a.toNat) a.toNat else (0, 0, false)
theorem ternary_s {n : Nat} (hn : Big + 7 ≤ n) {w : List Int} {a : Int} (hl : w.length < 1099511627776) : c_spec_TernaryFrom (run tb orc n) w a = some (terB w a) := by
  obtain ⟨n, rfl, hm⟩ := up2 hn
  obtain ⟨n, rfl, hm'⟩ := up2 hm
  have hbig := big_ge
  rw [spec_TernaryFrom_eq]; unfold spec_TernaryFrom_f spec_TernaryFrom_x terB
  rw [l7Words_ret (by omega) hl]
  simp only [Option.bind_some]
  cases hw : wordsB w a with
  | false => simp
  | true =>
    rw [if_neg (by simp), if_pos rfl]
    unfold wordsB at hw
    simp only [Bool.and_eq_true, decide_eq_true_eq] at hw
    obtain ⟨h1, ⟨h2, h3⟩, h4⟩ := hw
    have e : a = (a.toNat : Int) := by omega
    have := specT_from (C0 := run tb orc (n + 3)) (C1 := run tb orc (n + 2)) (C2 := run tb orc (n + 1)) (C3 := run tb orc n) (N0 := n + 3) (N1 := n + 2) (N2 := n + 1) (N3 := n) (w := w) (x1 := a) (d1 := true) hl (w.length - a.toNat) a.toNat (by omega) (n + 1) (by omega)
    rw [← e] at this
    exact this
theorem ternary_i {n : Nat} (hn : Big + 13 ≤ n) {w : List Int} {a : Int} (hl : w.length < 1099511627776) : c_impl_TernaryFrom (run tb orc n) w a = some (terB w a) := by
  obtain ⟨n, rfl, hm⟩ := up hn
  have hbig := big_ge
  rw [impl_TernaryFrom_eq]; unfold impl_TernaryFrom_f impl_TernaryFrom_x terB
  obtain ⟨n, rfl, hm'⟩ := up2 hm
  obtain ⟨n, rfl, hm''⟩ := up3 hm'
  rw [impl_drawn_inta_eq]; unfold impl_drawn_inta_f impl_drawn_inta_x
  rw [areWords_ret (by omega) hl]
  simp only [Option.bind_some]
  unfold wordsB
  by_cases h1 : (decide (w.length ≤ 4000) && w.all inw) = true
  · rw [if_pos h1, in_ret (by omega)]
    simp only [Bool.and_eq_true, decide_eq_true_eq] at h1
    simp only [Option.bind_some]
    by_cases h2 : 0 ≤ a ∧ a ≤ (w.length : Int)
    · rw [decide_eq_true h2, if_neg (by simp), if_neg (by simp), if_pos (by simp [h1])]
      have e : a = (a.toNat : Int) := by omega
      have := implT_from (C0 := run tb orc (n + 4)) (C1 := run tb orc (n + 3)) (C2 := run tb orc (n + 2)) (C3 := run tb orc (n + 1)) (C4 := run tb orc n) (N0 := n + 4) (N1 := n + 3) (N2 := n + 2) (N3 := n + 1) (N4 := n) (w := w) (x1 := a) (x2 := true) (d2 := true) hl (w.length - a.toNat) a.toNat (by omega) (n + 1) (by omega)
      rw [← e] at this
      rw [this]; rfl
    · rw [decide_eq_false h2, if_pos (by simp), if_neg (by simp)]; rfl
  · rw [if_neg h1]
    simp only [Bool.and_eq_true, decide_eq_true_eq, not_and] at h1
    rw [if_neg (by simp only [Bool.and_eq_true, decide_eq_true_eq]; rintro ⟨h3, _, h4⟩; exact h1 h3 h4)]; rfl
theorem lawT {n : Nat} (hn : Big + 15 ≤ n) (w : List Int) (a : Int) : c_laws_FnExactTernaryFrom (run tb orc n) w a = some true := by
  obtain ⟨n, rfl, hm⟩ := up hn
  rw [laws_FnExactTernaryFrom_eq]; unfold laws_FnExactTernaryFrom_f laws_FnExactTernaryFrom_x
  by_cases h : (w.length : Int) > 1048576
  · rw [if_pos h]
  have hl : w.length < 1099511627776 := by omega
  rw [if_neg h]
  have e1 : c_laws_toIntS (run tb orc n) w = some w := toIntS_ret (by omega) hl
  have e2 : c_spec_TernaryFrom (run tb orc n) w a = some (terB w a) := ternary_s (by omega) hl
  have e3 : c_impl_TernaryFrom (run tb orc n) w a = some (terB w a) := ternary_i (by omega) hl
  have e4 : c_laws_eqIntS (run tb orc n) w w = some true := by rw [eqIntS_ret (by omega) hl]; simp
  generalize terB w a = r at e2 e3
  have ne : ∀ b : Bool, (b != b) = false := fun b => by simp
  simp only [e1, e2, e3, e4, Option.bind_some, ne, Bool.not_true, Bool.false_eq_true, if_false, if_true]
end Go.Proofs.Ytnlgciomdghfiaa.Fw
