/- FnExactBarrettOf's plain statement, as the print has it: the same functions as those of the text YtpekleahjjjddaaModel, of which YtpekleahjjjddaaLawsB tells it. No condition. -/
import Derived.Test.YtpekleahjjjddaaPFnExactBarrettOfx1
import Derived.Test.YtpekleahjjjddaaLawsB
import Derived.KernelRfl
namespace Go.Proofs.Ytpekleahjjjddaa.Pure
theorem FnExactBarrettOf_same : Go.Proofs.Ytpekleahjjjddaa.M.laws_FnExactBarrettOf.Pure = Go.Proofs.Ytpekleahjjjddaa.PFnExactBarrettOf.laws_FnExactBarrettOf.Pure := by kernel_rfl
theorem FnExactBarrettOf : Go.Proofs.Ytpekleahjjjddaa.PFnExactBarrettOf.laws_FnExactBarrettOf.Pure := Eq.mp FnExactBarrettOf_same Go.Proofs.Ytpekleahjjjddaa.LawsB.barrettOf
end Go.Proofs.Ytpekleahjjjddaa.Pure
