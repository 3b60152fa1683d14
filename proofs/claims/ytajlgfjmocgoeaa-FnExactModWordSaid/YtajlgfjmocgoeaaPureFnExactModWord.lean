/- FnExactModWord's plain statement over the printed functions: the same functions as those of the text YtajlgfjmocgoeaaModel, of which YtajlgfjmocgoeaaLawsC tells it. No condition but what every argument of its type meets. -/
import Derived.Test.YtajlgfjmocgoeaaPFnExactModWordx3
import Derived.Test.YtajlgfjmocgoeaaLawsC
import Derived.KernelRfl
namespace Go.Proofs.Ytajlgfjmocgoeaa.Pure
open Go.RowKit
theorem FnExactModWord_same : Go.Proofs.Ytajlgfjmocgoeaa.M.laws_FnExactModWord.f = Go.Proofs.Ytajlgfjmocgoeaa.PFnExactModWord.laws_FnExactModWord.f := by kernel_rfl
theorem FnExactModWord : ∀ (a0_0 : Bool) (l0_1 : List Int) (a1 : Int), l0_1.length ≤ 9223372036854775807 → (∀ x ∈ l0_1, (Lit.int .i64 x).wf = true) → (Lit.int .i64 a1).wf = true → ∃ k, Go.Proofs.Ytajlgfjmocgoeaa.PFnExactModWord.laws_FnExactModWord.f k a0_0 l0_1 a1 = some true := FnExactModWord_same ▸ Go.Proofs.Ytajlgfjmocgoeaa.LawsC.modWord
end Go.Proofs.Ytajlgfjmocgoeaa.Pure
