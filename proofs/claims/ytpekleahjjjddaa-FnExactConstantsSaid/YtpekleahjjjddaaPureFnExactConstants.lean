/- FnExactConstants's plain statement, as the print has it: the same functions as those of the text YtpekleahjjjddaaModel, of which YtpekleahjjjddaaLawsA tells it. No condition. -/
import Derived.Test.YtpekleahjjjddaaPFnExactConstantsx1
import Derived.Test.YtpekleahjjjddaaLawsA
import Derived.KernelRfl
namespace Go.Proofs.Ytpekleahjjjddaa.Pure
theorem FnExactConstants_same : Go.Proofs.Ytpekleahjjjddaa.M.laws_FnExactConstants.Pure = Go.Proofs.Ytpekleahjjjddaa.PFnExactConstants.laws_FnExactConstants.Pure := by kernel_rfl
theorem FnExactConstants : Go.Proofs.Ytpekleahjjjddaa.PFnExactConstants.laws_FnExactConstants.Pure := Eq.mp FnExactConstants_same Go.Proofs.Ytpekleahjjjddaa.LawsA.constants
end Go.Proofs.Ytpekleahjjjddaa.Pure
