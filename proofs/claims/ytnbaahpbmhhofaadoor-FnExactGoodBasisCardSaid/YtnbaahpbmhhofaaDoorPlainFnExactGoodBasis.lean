/- The law of GoodBasis over the interpreter. -/
import Derived.Test.YtnbaahpbmhhofaaDoorPLaws
import Derived.Test.YtnbaahpbmhhofaaDoorPBasis
import Derived.Test.YtnbaahpbmhhofaaDoorEqLGoodBasis
namespace Go.Proofs.YtnbaahpbmhhofaaDoor.Fw
open Go Go.RowKit
set_option linter.unusedVariables false

theorem plainFnExactGoodBasis : ∀ (x0 : Ty.D (.sl (.int .i64))), WfD (.sl (.int .i64)) x0 → ∃ n, c_laws_FnExactGoodBasis (run tb orc n) x0 = some (true : Bool) := by
  intro l h
  refine ⟨Big + 10, ?_⟩
  rw [show Big + 10 = (Big + 9) + 1 from rfl, laws_FnExactGoodBasis_eq]; unfold laws_FnExactGoodBasis_f laws_FnExactGoodBasis_x
  change List Int at l
  by_cases hl : (l.length : Int) > 1048576
  · rw [if_pos hl]
  · have ll : l.length < 1099511627776 := by omega
    rw [if_neg hl, toIntS_ret (by omega) ll]
    simp only [Option.bind_some]
    rw [basis_s (by omega) ll, basis_i (by omega) ll]
    simp only [Option.bind_some]
    rw [eqIntS_ret (by omega) ll]
    simp
end Go.Proofs.YtnbaahpbmhhofaaDoor.Fw
