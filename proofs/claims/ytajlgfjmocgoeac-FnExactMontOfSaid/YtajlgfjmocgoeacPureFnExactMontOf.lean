/- FnExactMontOf's plain statement, as the print has it: the same functions as those of the text YtajlgfjmocgoeacModel, of which YtajlgfjmocgoeacMont tells it. No condition. -/
import Derived.Test.YtajlgfjmocgoeacPFnExactMontOfx3
import Derived.Test.YtajlgfjmocgoeacMont
import Derived.KernelRfl
namespace Go.Proofs.Ytajlgfjmocgoeac.Pure
theorem FnExactMontOf_same : Go.Proofs.Ytajlgfjmocgoeac.M.laws_FnExactMontOf.Pure = Go.Proofs.Ytajlgfjmocgoeac.PFnExactMontOf.laws_FnExactMontOf.Pure := by kernel_rfl
theorem FnExactMontOf : Go.Proofs.Ytajlgfjmocgoeac.PFnExactMontOf.laws_FnExactMontOf.Pure := Eq.mp FnExactMontOf_same Go.Proofs.Ytajlgfjmocgoeac.Mont.montOf
end Go.Proofs.Ytajlgfjmocgoeac.Pure
