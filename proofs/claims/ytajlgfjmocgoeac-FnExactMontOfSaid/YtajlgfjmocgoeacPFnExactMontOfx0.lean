-- Written by the kit's print.py over a print of the translation that this session's tools had prepared (tables flattened; bodies that the print does not take replaced by equal ones, whose walks are proved by hand).
import Derived.Test.YtajlgfjmocgoeacProg
import Derived.Below
import Derived.Deep.Draws
import Derived.Deep.AppendLies
import Derived.Maps.AppendAt
import Derived.OwnWalk
import Derived.Laws.BytesArg
import Derived.Laws.MakeOwn
import Derived.Laws.OwnMore
import Derived.Deep.OwnRows
import Derived.Tactics
import Derived.Lib.ConvBytes
import Derived.Laws.Slices
import Derived.WalkKit
import Derived.KernelRfl
import Derived.RowKit3
import Derived.Deep.LoopGhost
import Derived.Deep.QuietTactic
import Derived.BigQuiet
import Derived.WideLaws
import Derived.Deep.DeepCutAuto
import Derived.Deep.CutBlock
import Derived.Deep.RegionHeld3
import Derived.Laws.Rows
import Derived.Lib.AppendStr
import Derived.ArgAppend
import Derived.Laws.IdiomCopy
import Derived.OrdersHeld
import Derived.Laws.BitsLemmas
import Derived.RowKit
import Derived.Test.YtajlgfjmocgoeacWWords
import Derived.Test.YtajlgfjmocgoeacWLast
import Derived.Test.YtajlgfjmocgoeacWTab
import Derived.Test.YtajlgfjmocgoeacWFour
import Derived.Test.YtajlgfjmocgoeacWQPut
import Derived.Test.YtajlgfjmocgoeacWApart
import Derived.Test.YtajlgfjmocgoeacWArr
import Derived.Test.YtajlgfjmocgoeacWZeros
import Derived.Test.YtajlgfjmocgoeacWFoot
import Derived.Test.YtajlgfjmocgoeacWKept
import Derived.Test.YtajlgfjmocgoeacWShare
import Derived.Test.YtajlgfjmocgoeacWN
import Derived.Test.YtajlgfjmocgoeacWFootNe
import Derived.Test.YtajlgfjmocgoeacWAt
import Derived.Test.YtajlgfjmocgoeacWEqStruct
import Derived.Test.YtajlgfjmocgoeacWRepsOne
import Derived.Test.YtajlgfjmocgoeacWInv
import Derived.Test.YtajlgfjmocgoeacWInvWords
import Derived.Test.YtajlgfjmocgoeacWGuard
import Derived.Test.YtajlgfjmocgoeacWNEv
import Derived.Test.YtajlgfjmocgoeacWMore
namespace Go.Proofs.Ytajlgfjmocgoeac.PFnExactMontOf
open Go.RowKit Go.Proofs.YtajlgfjmocgoeacW.PrintWords Go.Proofs.YtajlgfjmocgoeacW.PrintLast Go.Proofs.YtajlgfjmocgoeacW.PrintMore
attribute [local go_sem] max2_int min2_int max_two min_two max_three min_three max_four min_four   -- for this text's walks alone
set_option linter.unusedVariables false
set_option linter.unusedSimpArgs false



def errW : Option Int → Value
  | none => .nilIface
  | some c => .iface 0 (.int .i64 c)
theorem errW_none : errW none = .nilIface := rfl
theorem errW_some (c : Int) : errW (some c) = .iface 0 (.int .i64 c) := rfl

-- the values' own types

end Go.Proofs.Ytajlgfjmocgoeac.PFnExactMontOf
