/- FnExactCmpWholes's plain statement over the printed functions: the same functions as those of the text YtajlgfjmocgoeacModel, of which YtajlgfjmocgoeacLawsC tells it. No condition but what every argument of its type meets. -/
import Derived.Test.YtajlgfjmocgoeacPFnExactCmpWholesx4
import Derived.Test.YtajlgfjmocgoeacLawsC
import Derived.KernelRfl
namespace Go.Proofs.Ytajlgfjmocgoeac.Pure
open Go.RowKit
theorem FnExactCmpWholes_same : Go.Proofs.Ytajlgfjmocgoeac.M.laws_FnExactCmpWholes.f = Go.Proofs.Ytajlgfjmocgoeac.PFnExactCmpWholes.laws_FnExactCmpWholes.f := by kernel_rfl
theorem FnExactCmpWholes : ∀ (a0_0 : Bool) (l0_1 : List Int) (a1_0 : Bool) (l1_1 : List Int), l0_1.length ≤ 9223372036854775807 → (∀ x ∈ l0_1, (Lit.int .i64 x).wf = true) → l1_1.length ≤ 9223372036854775807 → (∀ x ∈ l1_1, (Lit.int .i64 x).wf = true) → ∃ k, Go.Proofs.Ytajlgfjmocgoeac.PFnExactCmpWholes.laws_FnExactCmpWholes.f k a0_0 l0_1 a1_0 l1_1 = some true := FnExactCmpWholes_same ▸ Go.Proofs.Ytajlgfjmocgoeac.LawsC.cmpWholes
end Go.Proofs.Ytajlgfjmocgoeac.Pure
