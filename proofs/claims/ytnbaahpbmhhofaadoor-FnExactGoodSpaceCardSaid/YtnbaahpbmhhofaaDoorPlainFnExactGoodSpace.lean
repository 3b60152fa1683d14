/- The law of GoodSpace over the interpreter. -/
import Derived.Test.YtnbaahpbmhhofaaDoorPLawsS
import Derived.Test.YtnbaahpbmhhofaaDoorPSpace
import Derived.Test.YtnbaahpbmhhofaaDoorEqLGoodSpace
namespace Go.Proofs.YtnbaahpbmhhofaaDoor.Fw
open Go Go.RowKit
set_option linter.unusedVariables false

theorem plainFnExactGoodSpace : ∀ (x0 : Ty.D (.pr (.int .i64) (.sl (.int .i64)))), WfD (.pr (.int .i64) (.sl (.int .i64))) x0 → ∃ n, c_laws_FnExactGoodSpace (run tb orc n) x0.1 x0.2 = some (true : Bool) := by
  rintro ⟨m, l⟩ h
  refine ⟨Big + 12, ?_⟩
  have hl0 : l.length ≤ 9223372036854775807 := h.2.1
  dsimp only
  change List Int at l
  rw [show Big + 12 = (Big + 11) + 1 from rfl, laws_FnExactGoodSpace_eq]; unfold laws_FnExactGoodSpace_f laws_FnExactGoodSpace_x
  rw [szSpace_ret (by omega) hl0 (by omega) (by omega)]
  simp only [Option.bind_some]
  by_cases h1 : (1048576 : Int) - (l.length : Int) < 0
  · rw [if_pos h1]; rfl
  · have ll : l.length < 1099511627776 := by omega
    rw [if_neg h1, if_neg h1, toSpace_ret (by omega) ll]
    simp only [Option.bind_some]
    rw [goodSpace_s (by omega) ll, goodSpace_i (by omega) ll]
    simp only [Option.bind_some]
    rw [eqSpace_self (by omega) ll]
    simp
end Go.Proofs.YtnbaahpbmhhofaaDoor.Fw
