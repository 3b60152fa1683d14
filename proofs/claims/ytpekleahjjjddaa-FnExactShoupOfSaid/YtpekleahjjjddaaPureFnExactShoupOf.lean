/- FnExactShoupOf's plain statement, as the print has it: the same functions as those of the text YtpekleahjjjddaaModel, of which YtpekleahjjjddaaLawsA tells it. No condition. -/
import Derived.Test.YtpekleahjjjddaaPFnExactShoupOfx1
import Derived.Test.YtpekleahjjjddaaLawsA
import Derived.KernelRfl
namespace Go.Proofs.Ytpekleahjjjddaa.Pure
theorem FnExactShoupOf_same : Go.Proofs.Ytpekleahjjjddaa.M.laws_FnExactShoupOf.Pure = Go.Proofs.Ytpekleahjjjddaa.PFnExactShoupOf.laws_FnExactShoupOf.Pure := by kernel_rfl
theorem FnExactShoupOf : Go.Proofs.Ytpekleahjjjddaa.PFnExactShoupOf.laws_FnExactShoupOf.Pure := Eq.mp FnExactShoupOf_same Go.Proofs.Ytpekleahjjjddaa.LawsA.shoupOf
end Go.Proofs.Ytpekleahjjjddaa.Pure
