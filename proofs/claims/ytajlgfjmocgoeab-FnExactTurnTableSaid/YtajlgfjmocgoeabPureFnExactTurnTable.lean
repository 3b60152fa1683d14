/- FnExactTurnTable's plain statement, as the print has it: the same functions as those of the text YtajlgfjmocgoeabModel, of which YtajlgfjmocgoeabTurnTab tells it. No condition. -/
import Derived.Test.YtajlgfjmocgoeabPFnExactTurnTablex3
import Derived.Test.YtajlgfjmocgoeabTurnTab
import Derived.KernelRfl
namespace Go.Proofs.Ytajlgfjmocgoeab.Pure
theorem FnExactTurnTable_same : Go.Proofs.Ytajlgfjmocgoeab.M.laws_FnExactTurnTable.Pure = Go.Proofs.Ytajlgfjmocgoeab.PFnExactTurnTable.laws_FnExactTurnTable.Pure := by kernel_rfl
theorem FnExactTurnTable : Go.Proofs.Ytajlgfjmocgoeab.PFnExactTurnTable.laws_FnExactTurnTable.Pure := Eq.mp FnExactTurnTable_same Go.Proofs.Ytajlgfjmocgoeab.TurnTab.turnTable
end Go.Proofs.Ytajlgfjmocgoeab.Pure
