/- MulRing: both sides. -/
import Derived.Test.YtnbaahpbmhhofaaDoorPEachL
import Derived.Test.YtnbaahpbmhhofaaDoorPRing
import Derived.Test.YtnbaahpbmhhofaaDoorEqLMulRing
namespace Go.Proofs.YtnbaahpbmhhofaaDoor.Fw
open Go Go.RowKit
set_option linter.unusedVariables false

theorem mulRing_both (p m v : Int) (a b : List Int) (ha : a.length < 1099511627776) (hb : b.length < 1099511627776) : ∃ r : List Int × Bool, r.1.length ≤ 16 ∧ ∀ n, Big + 12 ≤ n → c_impl_MulRing (run tb orc n) p m v a b = some r ∧ c_spec_MulRing (run tb orc n) p m v a b = some r := by
  obtain ⟨t, h1, h2⟩ := isRing_both p m v
  cases t with
  | false =>
    refine ⟨([], false), by simp, fun n hn => ?_⟩
    obtain ⟨n, rfl, hq⟩ := up hn
    obtain ⟨e1, e2⟩ := h2 n (by omega)
    rw [impl_MulRing_eq, spec_MulRing_eq]; unfold impl_MulRing_f impl_MulRing_x spec_MulRing_f spec_MulRing_x
    rw [e1, e2]
    exact ⟨rfl, rfl⟩
  | true =>
    have hR := h1 rfl
    obtain ⟨g1, g2⟩ := hR.rng
    obtain ⟨k, rfl, g3⟩ := ring_m hR
    refine ⟨if polyB p k a = true then (if polyB p k b = true then (mulP p k a b, true) else ([], false)) else ([], false), ?_, fun n hn => ?_⟩
    · by_cases c : polyB p k a = true
      · rw [if_pos c]
        by_cases d : polyB p k b = true
        · rw [if_pos d]
          have := (mulP_poly (p := p) g1 (m := k) (a := a) (b := b)).len
          show (mulP p k a b).length ≤ 16
          omega
        · rw [if_neg d]; simp
      · rw [if_neg c]; simp
    · obtain ⟨n, rfl, hq⟩ := up hn
      obtain ⟨e1, e2⟩ := h2 n (by omega)
      rw [impl_MulRing_eq, spec_MulRing_eq]; unfold impl_MulRing_f impl_MulRing_x spec_MulRing_f spec_MulRing_x
      rw [e1, e2]
      simp only [Option.bind_some]
      rw [if_neg nt, if_neg nt, isPoly_ret (by omega) (by omega) ha (by omega), l3Poly_ret (by omega) (by omega) ha (by omega)]
      simp only [Option.bind_some]
      by_cases c : polyB p k a = true
      · rw [if_pos c, c, if_neg nt, if_neg nt, isPoly_ret (by omega) (by omega) hb (by omega), l3Poly_ret (by omega) (by omega) hb (by omega)]
        simp only [Option.bind_some]
        by_cases d : polyB p k b = true
        · rw [if_pos d, d, if_neg nt, if_neg nt, mulPoly_i (by omega) g1 g2 (poly_of c) (poly_of d) g3, l3Mul_s (by omega) g1 g2 (poly_of c) (poly_of d) g3]
          exact ⟨rfl, rfl⟩
        · have d' : polyB p k b = false := by simpa using d
          rw [if_neg d, d']; exact ⟨rfl, rfl⟩
      · have c' : polyB p k a = false := by simpa using c
        rw [if_neg c, c']; exact ⟨rfl, rfl⟩
end Go.Proofs.YtnbaahpbmhhofaaDoor.Fw
