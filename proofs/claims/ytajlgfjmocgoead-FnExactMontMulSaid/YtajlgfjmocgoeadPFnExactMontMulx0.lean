-- Written by the kit's print.py over a print of the translation that this session's tools had prepared (tables flattened; bodies that the print does not take replaced by equal ones, whose walks are proved by hand).
import Derived.Test.YtajlgfjmocgoeadProg
import Derived.Below
import Derived.Deep.Draws
import Derived.Deep.AppendLies
import Derived.Maps.AppendAt
import Derived.OwnWalk
import Derived.Laws.BytesArg
import Derived.Laws.MakeOwn
import Derived.Laws.OwnMore
import Derived.Deep.OwnRows
import Derived.Tactics
import Derived.Lib.ConvBytes
import Derived.Laws.Slices
import Derived.WalkKit
import Derived.KernelRfl
import Derived.RowKit3
import Derived.Deep.LoopGhost
import Derived.Deep.QuietTactic
import Derived.BigQuiet
import Derived.WideLaws
import Derived.Deep.DeepCutAuto
import Derived.Deep.CutBlock
import Derived.Deep.RegionHeld3
import Derived.Laws.Rows
import Derived.Lib.AppendStr
import Derived.ArgAppend
import Derived.Laws.IdiomCopy
import Derived.OrdersHeld
import Derived.Laws.BitsLemmas
import Derived.RowKit
import Derived.Test.YtajlgfjmocgoeadWWords
import Derived.Test.YtajlgfjmocgoeadWLast
import Derived.Test.YtajlgfjmocgoeadWTab
import Derived.Test.YtajlgfjmocgoeadWFour
import Derived.Test.YtajlgfjmocgoeadWQPut
import Derived.Test.YtajlgfjmocgoeadWApart
import Derived.Test.YtajlgfjmocgoeadWArr
import Derived.Test.YtajlgfjmocgoeadWZeros
import Derived.Test.YtajlgfjmocgoeadWFoot
import Derived.Test.YtajlgfjmocgoeadWKept
import Derived.Test.YtajlgfjmocgoeadWShare
import Derived.Test.YtajlgfjmocgoeadWN
import Derived.Test.YtajlgfjmocgoeadWFootNe
import Derived.Test.YtajlgfjmocgoeadWAt
import Derived.Test.YtajlgfjmocgoeadWEqStruct
import Derived.Test.YtajlgfjmocgoeadWRepsOne
import Derived.Test.YtajlgfjmocgoeadWInv
import Derived.Test.YtajlgfjmocgoeadWInvWords
import Derived.Test.YtajlgfjmocgoeadWGuard
import Derived.Test.YtajlgfjmocgoeadWNEv
import Derived.Test.YtajlgfjmocgoeadWMore
namespace Go.Proofs.Ytajlgfjmocgoead.PFnExactMontMul
open Go.RowKit Go.Proofs.YtajlgfjmocgoeadW.PrintWords Go.Proofs.YtajlgfjmocgoeadW.PrintLast Go.Proofs.YtajlgfjmocgoeadW.PrintMore
attribute [local go_sem] max2_int min2_int max_two min_two max_three min_three max_four min_four   -- for this text's walks alone
set_option linter.unusedVariables false
set_option linter.unusedSimpArgs false



def errW : Option Int → Value
  | none => .nilIface
  | some c => .iface 0 (.int .i64 c)
theorem errW_none : errW none = .nilIface := rfl
theorem errW_some (c : Int) : errW (some c) = .iface 0 (.int .i64 c) := rfl

-- the values' own types

end Go.Proofs.Ytajlgfjmocgoead.PFnExactMontMul
