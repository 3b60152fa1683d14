/- The law of IsPrime over the interpreter. -/
import Derived.Test.YtnbaahpbmhhofaaDoorPPrime
import Derived.Test.YtnbaahpbmhhofaaDoorEqLIsPrime
namespace Go.Proofs.YtnbaahpbmhhofaaDoor.Fw
open Go Go.RowKit
set_option linter.unusedVariables false

theorem u64_wf {x : Int} (h : WfD (.int .u64) x) : 0 ≤ x ∧ x < 18446744073709551616 := by
  have : (Lit.int .u64 x).wf = true := h
  simp [Lit.wf, IntKind.min, IntKind.max, IntKind.signed, IntKind.bits] at this
  omega
theorem plainFnExactIsPrime : ∀ (x0 : Ty.D (.int .u64)), WfD (.int .u64) x0 → ∃ n, c_laws_FnExactIsPrime (run tb orc n) x0 = some (true : Bool) := by
  intro x h
  obtain ⟨h0, h1⟩ := u64_wf h
  refine ⟨Big + 8, ?_⟩
  rw [show Big + 8 = (Big + 7) + 1 from rfl, laws_FnExactIsPrime_eq]; unfold laws_FnExactIsPrime_f laws_FnExactIsPrime_x
  rw [isPrime_s (by omega) h0 h1]
  simp only [Option.bind_some]
  rw [isPrime_i (by omega) h0 h1]
  simp
end Go.Proofs.YtnbaahpbmhhofaaDoor.Fw
