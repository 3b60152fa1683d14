/- The law of GoodRows over the interpreter. -/
import Derived.Test.YtnbaahpbmhhofaaDoorPLawsS
import Derived.Test.YtnbaahpbmhhofaaDoorPSpace
import Derived.Test.YtnbaahpbmhhofaaDoorEqLGoodRows
namespace Go.Proofs.YtnbaahpbmhhofaaDoor.Fw
open Go Go.RowKit
set_option linter.unusedVariables false

theorem plainFnExactGoodRows : ∀ (x0 : Ty.D (.pr (.int .i64) (.sl (.int .i64)))) (x1 : Ty.D (.pr (.bool) (.sl (.sl (.int .i64))))), WfD (.pr (.int .i64) (.sl (.int .i64))) x0 → WfD (.pr (.bool) (.sl (.sl (.int .i64)))) x1 → ∃ n, c_laws_FnExactGoodRows (run tb orc n) x0.1 x0.2 x1.1 x1.2 = some (true : Bool) := by
  rintro ⟨m, l⟩ ⟨b, r⟩ h g
  refine ⟨Big + 13, ?_⟩
  have hl0 : l.length ≤ 9223372036854775807 := h.2.1
  have hr0 : r.length ≤ 9223372036854775807 := g.2.1
  have hr1 : ∀ x ∈ r, x.length ≤ 9223372036854775807 := fun x hx => (g.2.2 x hx).1
  dsimp only
  change List Int at l
  change List (List Int) at r
  rw [show Big + 13 = (Big + 12) + 1 from rfl, laws_FnExactGoodRows_eq]; unfold laws_FnExactGoodRows_f laws_FnExactGoodRows_x
  rw [szSpace_ret (by omega) hl0 (by omega) (by omega)]
  simp only [Option.bind_some]
  by_cases h1 : (1048576 : Int) - (l.length : Int) < 0
  · rw [if_pos h1]; rfl
  rw [if_neg h1, if_neg h1, szRows_ret (by omega) hr1 hr0 (by omega) (by omega)]
  simp only [Option.bind_some]
  by_cases h2 : (1048576 : Int) - (l.length : Int) - (totL r : Int) < 0
  · rw [if_pos h2]; rfl
  have ht : totL r ≤ 1048576 := by omega
  have ll : l.length < 1099511627776 := by omega
  have lr : r.length < 1099511627776 := by unfold totL at ht; omega
  have lx : ∀ x ∈ r, x.length < 1099511627776 := fun x hx => by have := sumL_mem hx; unfold totL at ht; omega
  rw [if_neg h2, if_neg h2, toSpace_ret (by omega) ll]
  simp only [Option.bind_some]
  rw [toRows_ret (by omega) lx lr]
  simp only [Option.bind_some]
  rw [goodRows_s (by omega) ll lx, goodRows_i (by omega) ll lx]
  simp only [Option.bind_some]
  rw [eqSpace_self (by omega) ll, eqRows_self (by omega) lx lr]
  simp
end Go.Proofs.YtnbaahpbmhhofaaDoor.Fw
