/- Whole numbers that are good: the reference's loop and the program's test tell the same. -/
import Derived.Test.YtajlgfjmocgoeacLawKit
import Derived.Test.YtajlgfjmocgoeacLimbs
namespace Go.Proofs.Ytajlgfjmocgoeac.Whole
open Go.RowKit Go.Proofs.YtajlgfjmocgoeacW.PrintWords Go.Proofs.YtajlgfjmocgoeacW.PrintLast Go.Proofs.YtajlgfjmocgoeacW.PrintMore Go.Proofs.Ytajlgfjmocgoeac.Lib Go.Proofs.Ytajlgfjmocgoeac.M Go.Proofs.Ytajlgfjmocgoeac.Word Go.Proofs.Ytajlgfjmocgoeac.LawKit Go.Proofs.Ytajlgfjmocgoeac.Plain

/-- Both tests for a good whole number. -/
def goodB (neg : Bool) (l : List Int) : Bool := decide (l.length ≤ 40) && isWholeB neg l

theorem good_i (neg : Bool) (l : List Int) : impl_GoodWhole.f neg l = some (goodB neg l) := by
  unfold impl_GoodWhole.f impl_isWhole.f goodB
  by_cases h : l.length ≤ 40
  · rw [if_pos (by omega), bind_some, decide_eq_true h]; rfl
  · rw [if_neg (by omega), decide_eq_false h]; rfl

theorem good_from (neg : Bool) (l : List Int) (hl : l.length ≤ 40) (hpos : 0 < l.length) : ∀ (d i : Nat), i + d = l.length →
    ∀ K, d < K → spec_GoodWhole.l0 K l (l.length : Int) (i : Int) neg l = some (!((l.drop i).any badLimb) && (decide (i = l.length) || l.getD (l.length - 1) 0 != 0))
  | 0, i, hi, K, hK => by
    obtain ⟨K, rfl⟩ : ∃ j, K = j + 1 := ⟨K - 1, by omega⟩
    simp only [spec_GoodWhole.l0]
    rw [if_neg (by omega), List.drop_of_length_le (by omega), decide_eq_true (by omega : i = l.length)]; rfl
  | d + 1, i, hi, K, hK => by
    obtain ⟨K, rfl⟩ : ∃ j, K = j + 1 := ⟨K - 1, by omega⟩
    simp only [spec_GoodWhole.l0]
    have h1 : i < l.length := by omega
    rw [if_pos (by omega), if_pos (by omega), if_pos (by omega), rd_getElem h1, in_s, bind_some, w64 (n := (i : Int) + 1) (by omega) (by omega), w64 (n := (l.length : Int) - 1) (by omega) (by omega)]
    have e : ((i : Int) + 1) = ((i + 1 : Nat) : Int) := by omega
    have ih := good_from neg l hl hpos d (i + 1) (by omega) K (by omega)
    rw [e, ih, List.drop_eq_getElem_cons h1, List.any_cons, decide_eq_false (by omega : ¬ i = l.length)]
    by_cases hr : 0 ≤ l[i] ∧ l[i] ≤ 268435455
    · have hb : badLimb l[i] = false := by unfold badLimb; rw [decide_eq_true hr]; rfl
      rw [decide_eq_true hr, if_pos rfl, hb, Bool.false_or, Bool.false_or]
      by_cases hz : l[i] = 0
      · rw [if_pos hz]
        by_cases hlast : i = l.length - 1
        · rw [if_pos (by omega)]
          have : l.getD (l.length - 1) 0 = 0 := by
            rw [← hlast]; simp [h1, hz]
          rw [this]; simp
        · rw [if_neg (by omega), decide_eq_false (by omega : ¬ i + 1 = l.length), Bool.false_or]
      · rw [if_neg hz]
        by_cases hlast : i + 1 = l.length
        · have : l.getD (l.length - 1) 0 ≠ 0 := by
            rw [show l.length - 1 = i by omega]; simpa [h1] using hz
          rw [decide_eq_true hlast]
          have hb2 : (l.getD (l.length - 1) 0 != 0) = true := bne_iff_ne.mpr this
          rw [hb2]; simp
        · rw [decide_eq_false hlast, Bool.false_or]
    · have hb : badLimb l[i] = true := by unfold badLimb; rw [decide_eq_false hr]; rfl
      rw [decide_eq_false hr, if_neg (by simp), hb]; simp

theorem good_s (neg : Bool) (l : List Int) : Ev (fun k => spec_GoodWhole.f k neg l) (goodB neg l) := by
  refine ⟨l.length + 3, fun K hK => ?_⟩
  show spec_GoodWhole.f K neg l = _
  obtain ⟨K, rfl⟩ : ∃ j, K = j + 1 := ⟨K - 1, by omega⟩
  unfold spec_GoodWhole.f goodB
  by_cases h40 : l.length ≤ 40
  · rw [if_neg (by omega), decide_eq_true h40, Bool.true_and]
    by_cases hn : l = []
    · subst hn
      rw [if_pos (by simp)]
      unfold isWholeB
      rw [if_pos rfl]
      simp only [spec_GoodWhole.j0]
      cases neg with
      | true => rw [if_pos rfl]; rfl
      | false =>
        rw [if_neg (by simp)]
        obtain ⟨K, rfl⟩ : ∃ j, K = j + 1 := ⟨K - 1, by omega⟩
        simp only [spec_GoodWhole.l0]
        rw [if_neg (by simp)]; rfl
    · have hpos : 0 < l.length := by cases l with
        | nil => exact absurd rfl hn
        | cons => simp
      rw [if_neg (by omega)]
      simp only [spec_GoodWhole.j0]
      rw [if_neg (by simp)]
      have := good_from neg l h40 hpos l.length 0 (by omega) K (by omega)
      rw [show ((0 : Nat) : Int) = 0 from rfl] at this
      rw [this]
      unfold isWholeB
      rw [if_neg hn, List.drop_zero, decide_eq_false (by omega : ¬ 0 = l.length), Bool.false_or, Bool.and_comm]
  · rw [if_pos (by omega), decide_eq_false h40]
    simp only [spec_GoodWhole.j0]; rfl

theorem goodWhole : ∀ (a0_0 : Bool) (l0_1 : List Int), l0_1.length ≤ 9223372036854775807 → (∀ x ∈ l0_1, (Lit.int .i64 x).wf = true) → ∃ k, laws_FnExactGoodWhole.f k a0_0 l0_1 = some true := by
  intro neg l hl _
  by_cases hsz : (1048576 : Int) - (l.length : Int) < 0
  · refine ⟨0, ?_⟩
    unfold laws_FnExactGoodWhole.f
    rw [szWhole hl (by omega) (by omega), bind_some, if_pos hsz, if_pos (by omega)]
  · obtain ⟨K1, h1⟩ := toWhole (neg := neg) (l := l) (by omega)
    obtain ⟨K2, h2⟩ := good_s neg l
    obtain ⟨K3, h3⟩ := eqWhole_self neg l (by omega)
    dsimp only at h1 h2 h3
    refine ⟨K1 + K2 + K3, ?_⟩
    unfold laws_FnExactGoodWhole.f
    rw [szWhole hl (by omega) (by omega), bind_some, if_neg hsz, if_neg (by omega), h1 _ (by omega), bind_some]
    dsimp only
    rw [h2 _ (by omega), bind_some, bind_some]
    dsimp only
    rw [good_i, bind_some, if_neg (by simp), bind_some]
    dsimp only
    rw [h3 _ (by omega), bind_some, if_pos rfl]

end Go.Proofs.Ytajlgfjmocgoeac.Whole
