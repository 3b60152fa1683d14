/- FnExactBitsOf's plain statement over the printed functions: the same functions as those of the text YtajlgfjmocgoeabModel, of which YtajlgfjmocgoeabLawsC tells it. No condition but what every argument of its type meets. -/
import Derived.Test.YtajlgfjmocgoeabPFnExactBitsOfx3
import Derived.Test.YtajlgfjmocgoeabLawsC
import Derived.KernelRfl
namespace Go.Proofs.Ytajlgfjmocgoeab.Pure
open Go.RowKit
theorem FnExactBitsOf_same : Go.Proofs.Ytajlgfjmocgoeab.M.laws_FnExactBitsOf.f = Go.Proofs.Ytajlgfjmocgoeab.PFnExactBitsOf.laws_FnExactBitsOf.f := by kernel_rfl
theorem FnExactBitsOf : ∀ (a0_0 : Bool) (l0_1 : List Int), l0_1.length ≤ 9223372036854775807 → (∀ x ∈ l0_1, (Lit.int .i64 x).wf = true) → ∃ k, Go.Proofs.Ytajlgfjmocgoeab.PFnExactBitsOf.laws_FnExactBitsOf.f k a0_0 l0_1 = some true := FnExactBitsOf_same ▸ Go.Proofs.Ytajlgfjmocgoeab.LawsC.bitsOf
end Go.Proofs.Ytajlgfjmocgoeab.Pure
