/- FnExactShoupMul's plain statement, as the print has it: the same functions as those of the text YtpekleahjjjddaaModel, of which YtpekleahjjjddaaLawsA tells it. No condition. -/
import Derived.Test.YtpekleahjjjddaaPFnExactShoupMulx1
import Derived.Test.YtpekleahjjjddaaLawsA
import Derived.KernelRfl
namespace Go.Proofs.Ytpekleahjjjddaa.Pure
theorem FnExactShoupMul_same : Go.Proofs.Ytpekleahjjjddaa.M.laws_FnExactShoupMul.Pure = Go.Proofs.Ytpekleahjjjddaa.PFnExactShoupMul.laws_FnExactShoupMul.Pure := by kernel_rfl
theorem FnExactShoupMul : Go.Proofs.Ytpekleahjjjddaa.PFnExactShoupMul.laws_FnExactShoupMul.Pure := Eq.mp FnExactShoupMul_same Go.Proofs.Ytpekleahjjjddaa.LawsA.shoupMul
end Go.Proofs.Ytpekleahjjjddaa.Pure
