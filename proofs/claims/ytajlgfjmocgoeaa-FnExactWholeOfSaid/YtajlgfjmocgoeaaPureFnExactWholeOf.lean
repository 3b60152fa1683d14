/- FnExactWholeOf's plain statement, as the print has it: the same functions as those of the text YtajlgfjmocgoeaaModel, of which YtajlgfjmocgoeaaWholeOf tells it. No condition. -/
import Derived.Test.YtajlgfjmocgoeaaPFnExactWholeOfx3
import Derived.Test.YtajlgfjmocgoeaaWholeOf
import Derived.KernelRfl
namespace Go.Proofs.Ytajlgfjmocgoeaa.Pure
theorem FnExactWholeOf_same : Go.Proofs.Ytajlgfjmocgoeaa.M.laws_FnExactWholeOf.Pure = Go.Proofs.Ytajlgfjmocgoeaa.PFnExactWholeOf.laws_FnExactWholeOf.Pure := by kernel_rfl
theorem FnExactWholeOf : Go.Proofs.Ytajlgfjmocgoeaa.PFnExactWholeOf.laws_FnExactWholeOf.Pure := Eq.mp FnExactWholeOf_same Go.Proofs.Ytajlgfjmocgoeaa.WholeOf.wholeOf
end Go.Proofs.Ytajlgfjmocgoeaa.Pure
