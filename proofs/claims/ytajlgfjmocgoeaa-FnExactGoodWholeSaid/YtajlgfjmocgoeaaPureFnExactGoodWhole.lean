/- FnExactGoodWhole's plain statement over the printed functions: the same functions as those of the text YtajlgfjmocgoeaaModel, of which YtajlgfjmocgoeaaWhole tells it. No condition but what every argument of its type meets. -/
import Derived.Test.YtajlgfjmocgoeaaPFnExactGoodWholex2
import Derived.Test.YtajlgfjmocgoeaaWhole
import Derived.KernelRfl
namespace Go.Proofs.Ytajlgfjmocgoeaa.Pure
open Go.RowKit
theorem FnExactGoodWhole_same : Go.Proofs.Ytajlgfjmocgoeaa.M.laws_FnExactGoodWhole.f = Go.Proofs.Ytajlgfjmocgoeaa.PFnExactGoodWhole.laws_FnExactGoodWhole.f := by kernel_rfl
theorem FnExactGoodWhole : ∀ (a0_0 : Bool) (l0_1 : List Int), l0_1.length ≤ 9223372036854775807 → (∀ x ∈ l0_1, (Lit.int .i64 x).wf = true) → ∃ k, Go.Proofs.Ytajlgfjmocgoeaa.PFnExactGoodWhole.laws_FnExactGoodWhole.f k a0_0 l0_1 = some true := FnExactGoodWhole_same ▸ Go.Proofs.Ytajlgfjmocgoeaa.Whole.goodWhole
end Go.Proofs.Ytajlgfjmocgoeaa.Pure
