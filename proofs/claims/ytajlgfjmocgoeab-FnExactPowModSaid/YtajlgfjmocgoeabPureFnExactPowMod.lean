/- FnExactPowMod's plain statement, as the print has it: the same functions as those of the text YtajlgfjmocgoeabModel, of which YtajlgfjmocgoeabPow tells it. No condition. -/
import Derived.Test.YtajlgfjmocgoeabPFnExactPowModx3
import Derived.Test.YtajlgfjmocgoeabPow
import Derived.KernelRfl
namespace Go.Proofs.Ytajlgfjmocgoeab.Pure
theorem FnExactPowMod_same : Go.Proofs.Ytajlgfjmocgoeab.M.laws_FnExactPowMod.Pure = Go.Proofs.Ytajlgfjmocgoeab.PFnExactPowMod.laws_FnExactPowMod.Pure := by kernel_rfl
theorem FnExactPowMod : Go.Proofs.Ytajlgfjmocgoeab.PFnExactPowMod.laws_FnExactPowMod.Pure := Eq.mp FnExactPowMod_same Go.Proofs.Ytajlgfjmocgoeab.Pow.powMod
end Go.Proofs.Ytajlgfjmocgoeab.Pure
