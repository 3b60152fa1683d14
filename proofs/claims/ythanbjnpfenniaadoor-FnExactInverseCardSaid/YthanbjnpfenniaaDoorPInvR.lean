/- Inverse: both sides. -/
import Derived.Test.YthanbjnpfenniaaDoorPIv
import Derived.Test.YthanbjnpfenniaaDoorPRing
import Derived.Test.YthanbjnpfenniaaDoorEqLInverse
namespace Go.Proofs.YthanbjnpfenniaaDoor.Fw
open Go Go.RowKit
set_option linter.unusedVariables false

theorem inverseR_both (p m v : Int) (a : List Int) (ha : a.length < 1099511627776) : ∃ r : List Int × Bool, r.1.length ≤ 1000 ∧ ∀ n, Big + 12 ≤ n → c_impl_Inverse (run tb orc n) p m v a = some r ∧ c_spec_Inverse (run tb orc n) p m v a = some r := by
  obtain ⟨t, h1, h2⟩ := isRing_both p m v
  cases t with
  | false =>
    refine ⟨([], false), by simp, fun n hn => ?_⟩
    obtain ⟨n, rfl, hq⟩ := up hn
    obtain ⟨e1, e2⟩ := h2 n (by omega)
    rw [impl_Inverse_eq, spec_Inverse_eq]; unfold impl_Inverse_f impl_Inverse_x spec_Inverse_f spec_Inverse_x
    rw [e1, e2]
    exact ⟨rfl, rfl⟩
  | true =>
    have hR := h1 rfl
    have hn' := hR.n
    obtain ⟨m, rfl⟩ : ∃ k : Nat, m = (k : Int) := ⟨m.toNat, by omega⟩
    have hF := ring_f hR
    have hr := (primeB_iff.1 hF.pr).1
    by_cases c : polyB p m a = true
    · obtain ⟨r, r1, r2, r3⟩ := inverse_ring hF (poly_of c)
      have rl := r1.len
      refine ⟨(r, true), by show r.length ≤ 1000; omega, fun n hn => ?_⟩
      obtain ⟨n, rfl, hq⟩ := up hn
      obtain ⟨e1, e2⟩ := h2 n (by omega)
      rw [impl_Inverse_eq, spec_Inverse_eq]; unfold impl_Inverse_f impl_Inverse_x spec_Inverse_f spec_Inverse_x
      rw [e1, e2]
      simp only [Option.bind_some]
      rw [if_neg nt, if_neg nt, isPoly_ret (by omega) (by omega) ha (by omega), l3Poly_ret (by omega) (by omega) ha (by omega)]
      simp only [Option.bind_some]
      rw [c, if_neg nt, if_neg nt, places_ret (by omega) hF.n, r3 n (by omega)]
      simp only [Option.bind_some]
      rw [r2 n (by omega)]
      exact ⟨rfl, trivial⟩
    · have c' : polyB p m a = false := by simpa using c
      refine ⟨([], false), by simp, fun n hn => ?_⟩
      obtain ⟨n, rfl, hq⟩ := up hn
      obtain ⟨e1, e2⟩ := h2 n (by omega)
      rw [impl_Inverse_eq, spec_Inverse_eq]; unfold impl_Inverse_f impl_Inverse_x spec_Inverse_f spec_Inverse_x
      rw [e1, e2]
      simp only [Option.bind_some]
      rw [if_neg nt, if_neg nt, isPoly_ret (by omega) (by omega) ha (by omega), l3Poly_ret (by omega) (by omega) ha (by omega)]
      simp only [Option.bind_some]
      rw [c']; exact ⟨rfl, rfl⟩
end Go.Proofs.YthanbjnpfenniaaDoor.Fw
