/- TurnRing: both sides. -/
import Derived.Test.YtnbaahpbmhhofaaDoorPTurn
import Derived.Test.YtnbaahpbmhhofaaDoorPEachL
import Derived.Test.YtnbaahpbmhhofaaDoorPRing
import Derived.Test.YtnbaahpbmhhofaaDoorEqLTurnRing
namespace Go.Proofs.YtnbaahpbmhhofaaDoor.Fw
open Go Go.RowKit
set_option linter.unusedVariables false

theorem turnRing_both (p m v : Int) (a : List Int) (e : Int) (ha : a.length < 1099511627776) : ∃ r : List Int × Bool, r.1.length ≤ 16 ∧ ∀ n, Big + 12 ≤ n → c_impl_TurnRing (run tb orc n) p m v a e = some r ∧ c_spec_TurnRing (run tb orc n) p m v a e = some r := by
  obtain ⟨t, h1, h2⟩ := isRing_both p m v
  cases t with
  | false =>
    refine ⟨([], false), by simp, fun n hn => ?_⟩
    obtain ⟨n, rfl, hq⟩ := up hn
    obtain ⟨e1, e2⟩ := h2 n (by omega)
    rw [impl_TurnRing_eq, spec_TurnRing_eq]; unfold impl_TurnRing_f impl_TurnRing_x spec_TurnRing_f spec_TurnRing_x
    rw [e1, e2]
    exact ⟨rfl, rfl⟩
  | true =>
    have hR := h1 rfl
    obtain ⟨g1, g2⟩ := hR.rng
    have gm := hR.n
    obtain ⟨k, rfl, g3⟩ := ring_m hR
    refine ⟨if polyB p k a = true then (if oddB k e = true then (turnP p k e.toNat a, true) else ([], false)) else ([], false), ?_, fun n hn => ?_⟩
    · by_cases c : polyB p k a = true
      · rw [if_pos c]
        by_cases d : oddB k e = true
        · rw [if_pos d]
          have := (turnP_poly (p := p) g1 (m := k) (k := e.toNat) (poly_of c)).len
          show (turnP p k e.toNat a).length ≤ 16
          omega
        · rw [if_neg d]; simp
      · rw [if_neg c]; simp
    · obtain ⟨n, rfl, hq⟩ := up hn
      obtain ⟨e1, e2⟩ := h2 n (by omega)
      rw [impl_TurnRing_eq, spec_TurnRing_eq]; unfold impl_TurnRing_f impl_TurnRing_x spec_TurnRing_f spec_TurnRing_x
      rw [e1, e2]
      simp only [Option.bind_some]
      rw [if_neg nt, if_neg nt, isPoly_ret (by omega) (by omega) ha (by omega), l3Poly_ret (by omega) (by omega) ha (by omega)]
      simp only [Option.bind_some]
      by_cases c : polyB p k a = true
      · rw [if_pos c, c, if_neg nt, if_neg nt, isTurn_ret (by omega) (by omega) (by omega), l3Odd_ret (by omega) (by omega) (by omega)]
        simp only [Option.bind_some]
        by_cases d : oddB k e = true
        · have re := odd_rng d
          obtain ⟨f, rfl⟩ : ∃ f : Nat, e = (f : Int) := ⟨e.toNat, by omega⟩
          rw [if_pos d, d, if_neg nt, if_neg nt, nat_i, turned_i (m := k) (by omega) g1 g2 (poly_of c) (by omega) (by omega) (by omega), turn_s (by omega) g1 g2 (poly_of c) (by omega) (by omega) (by omega)]
          exact ⟨rfl, rfl⟩
        · have d' : oddB k e = false := by simpa using d
          rw [if_neg d, d']; exact ⟨rfl, rfl⟩
      · have c' : polyB p k a = false := by simpa using c
        rw [if_neg c, c']; exact ⟨rfl, rfl⟩
end Go.Proofs.YtnbaahpbmhhofaaDoor.Fw
