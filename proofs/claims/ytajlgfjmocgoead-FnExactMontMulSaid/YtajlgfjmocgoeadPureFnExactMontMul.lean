/- FnExactMontMul's plain statement over the printed functions: the same functions as those of the text YtajlgfjmocgoeadModel, of which YtajlgfjmocgoeadMont tells it. No condition but what every argument of its type meets. -/
import Derived.Test.YtajlgfjmocgoeadPFnExactMontMulx4
import Derived.Test.YtajlgfjmocgoeadMont
import Derived.KernelRfl
namespace Go.Proofs.Ytajlgfjmocgoead.Pure
open Go.RowKit
theorem FnExactMontMul_same : Go.Proofs.Ytajlgfjmocgoead.M.laws_FnExactMontMul.f = Go.Proofs.Ytajlgfjmocgoead.PFnExactMontMul.laws_FnExactMontMul.f := by kernel_rfl
theorem FnExactMontMul : ∀ (a0_0 : Int) (a0_1 : Int) (a0_2 : Int) (a1 : Int) (a2 : Int), (Lit.int .i64 a0_0).wf = true → (Lit.int .i64 a0_1).wf = true → (Lit.int .i64 a0_2).wf = true → (Lit.int .i64 a1).wf = true → (Lit.int .i64 a2).wf = true → ∃ k, Go.Proofs.Ytajlgfjmocgoead.PFnExactMontMul.laws_FnExactMontMul.f k a0_0 a0_1 a0_2 a1 a2 = some true := FnExactMontMul_same ▸ Go.Proofs.Ytajlgfjmocgoead.Mont.montMul
end Go.Proofs.Ytajlgfjmocgoead.Pure
