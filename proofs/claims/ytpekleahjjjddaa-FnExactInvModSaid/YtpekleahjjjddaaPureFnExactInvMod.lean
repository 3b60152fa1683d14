/- FnExactInvMod's plain statement, as the print has it: the same functions as those of the text YtpekleahjjjddaaModel, of which YtpekleahjjjddaaLawsA tells it. No condition. -/
import Derived.Test.YtpekleahjjjddaaPFnExactInvModx1
import Derived.Test.YtpekleahjjjddaaLawsA
import Derived.KernelRfl
namespace Go.Proofs.Ytpekleahjjjddaa.Pure
theorem FnExactInvMod_same : Go.Proofs.Ytpekleahjjjddaa.M.laws_FnExactInvMod.Pure = Go.Proofs.Ytpekleahjjjddaa.PFnExactInvMod.laws_FnExactInvMod.Pure := by kernel_rfl
theorem FnExactInvMod : Go.Proofs.Ytpekleahjjjddaa.PFnExactInvMod.laws_FnExactInvMod.Pure := Eq.mp FnExactInvMod_same Go.Proofs.Ytpekleahjjjddaa.LawsA.invMod
end Go.Proofs.Ytpekleahjjjddaa.Pure
