/- The law of RingOf over the interpreter. -/
import Derived.Test.YtnbaahpbmhhofaaDoorPRing
import Derived.Test.YtnbaahpbmhhofaaDoorEqLRingOf
namespace Go.Proofs.YtnbaahpbmhhofaaDoor.Fw
open Go Go.RowKit
set_option linter.unusedVariables false

theorem plainFnExactRingOf : ∀ (x0 : Ty.D (.int .i64)) (x1 : Ty.D (.int .i64)), WfD (.int .i64) x0 → WfD (.int .i64) x1 → ∃ n, c_laws_FnExactRingOf (run tb orc n) x0 x1 = some (true : Bool) := by
  intro p m h1 h2
  obtain ⟨r, _, _, hr⟩ := ringOf_both p m
  obtain ⟨e1, e2⟩ := hr (Big + 9) (Nat.le_refl _)
  refine ⟨Big + 10, ?_⟩
  rw [show Big + 10 = (Big + 9) + 1 from rfl, laws_FnExactRingOf_eq]; unfold laws_FnExactRingOf_f laws_FnExactRingOf_x
  rw [e1, e2]
  simp only [Option.bind_some]
  rw [eqRing_self (by omega)]
  simp
end Go.Proofs.YtnbaahpbmhhofaaDoor.Fw
