/- FnExactBitBack's plain statement, as the print has it: the same functions as those of the text YtpekleahjjjddaaModel, of which YtpekleahjjjddaaLawsA tells it. No condition. -/
import Derived.Test.YtpekleahjjjddaaPFnExactBitBackx1
import Derived.Test.YtpekleahjjjddaaLawsA
import Derived.KernelRfl
namespace Go.Proofs.Ytpekleahjjjddaa.Pure
theorem FnExactBitBack_same : Go.Proofs.Ytpekleahjjjddaa.M.laws_FnExactBitBack.Pure = Go.Proofs.Ytpekleahjjjddaa.PFnExactBitBack.laws_FnExactBitBack.Pure := by kernel_rfl
theorem FnExactBitBack : Go.Proofs.Ytpekleahjjjddaa.PFnExactBitBack.laws_FnExactBitBack.Pure := Eq.mp FnExactBitBack_same Go.Proofs.Ytpekleahjjjddaa.LawsA.bitBack
end Go.Proofs.Ytpekleahjjjddaa.Pure
