/- The law of RootOf over the interpreter. -/
import Derived.Test.YtnbaahpbmhhofaaDoorPRoot
import Derived.Test.YtnbaahpbmhhofaaDoorEqLRootOf
namespace Go.Proofs.YtnbaahpbmhhofaaDoor.Fw
open Go Go.RowKit
set_option linter.unusedVariables false

theorem plainFnExactRootOf : ∀ (x0 : Ty.D (.int .i64)) (x1 : Ty.D (.int .i64)), WfD (.int .i64) x0 → WfD (.int .i64) x1 → ∃ n, c_laws_FnExactRootOf (run tb orc n) x0 x1 = some (true : Bool) := by
  intro p m h1 h2
  obtain ⟨r, hr⟩ := rootOf_both p m (i64_wf h1).1
  obtain ⟨e1, e2⟩ := hr (Big + 9) (Nat.le_refl _)
  refine ⟨Big + 10, ?_⟩
  rw [show Big + 10 = (Big + 9) + 1 from rfl, laws_FnExactRootOf_eq]; unfold laws_FnExactRootOf_f laws_FnExactRootOf_x
  rw [e1, e2]
  simp
end Go.Proofs.YtnbaahpbmhhofaaDoor.Fw
