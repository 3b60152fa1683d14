/- FnExactBarrettMul's plain statement over the printed functions: the same functions as those of the text YtpekleahjjjddaaModel, of which YtpekleahjjjddaaLawsB tells it. No condition but what every argument of its type meets. -/
import Derived.Test.YtpekleahjjjddaaPFnExactBarrettMulx3
import Derived.Test.YtpekleahjjjddaaLawsB
import Derived.KernelRfl
namespace Go.Proofs.Ytpekleahjjjddaa.Pure
open Go.RowKit
theorem FnExactBarrettMul_same : Go.Proofs.Ytpekleahjjjddaa.M.laws_FnExactBarrettMul.f = Go.Proofs.Ytpekleahjjjddaa.PFnExactBarrettMul.laws_FnExactBarrettMul.f := by kernel_rfl
theorem FnExactBarrettMul : ∀ (a0_0 : Int) (a0_1 : Int) (a0_2 : Int) (a1 : Int) (a2 : Int), (Lit.int .i64 a0_0).wf = true → (Lit.int .i64 a0_1).wf = true → (Lit.int .i64 a0_2).wf = true → (Lit.int .i64 a1).wf = true → (Lit.int .i64 a2).wf = true → ∃ k, Go.Proofs.Ytpekleahjjjddaa.PFnExactBarrettMul.laws_FnExactBarrettMul.f k a0_0 a0_1 a0_2 a1 a2 = some true := FnExactBarrettMul_same ▸ Go.Proofs.Ytpekleahjjjddaa.LawsB.barrettMulP
end Go.Proofs.Ytpekleahjjjddaa.Pure
