-- Written by the kit's print.py over a print of the translation that this session's tools had prepared (tables flattened; bodies that the print does not take replaced by equal ones, whose walks are proved by hand).
import Derived.Test.YtpekleahjjjddaaProg
import Derived.Below
import Derived.Deep.Draws
import Derived.Deep.AppendLies
import Derived.Maps.AppendAt
import Derived.OwnWalk
import Derived.Laws.BytesArg
import Derived.Laws.MakeOwn
import Derived.Laws.OwnMore
import Derived.Deep.OwnRows
import Derived.Tactics
import Derived.Lib.ConvBytes
import Derived.Laws.Slices
import Derived.WalkKit
import Derived.KernelRfl
import Derived.RowKit3
import Derived.Deep.LoopGhost
import Derived.Deep.QuietTactic
import Derived.BigQuiet
import Derived.WideLaws
import Derived.Deep.DeepCutAuto
import Derived.Deep.CutBlock
import Derived.Deep.RegionHeld3
import Derived.Laws.Rows
import Derived.Lib.AppendStr
import Derived.ArgAppend
import Derived.Laws.IdiomCopy
import Derived.OrdersHeld
import Derived.Laws.BitsLemmas
import Derived.RowKit
import Derived.Test.YtpekleahjjjddaaWWords
import Derived.Test.YtpekleahjjjddaaWLast
import Derived.Test.YtpekleahjjjddaaWTab
import Derived.Test.YtpekleahjjjddaaWFour
import Derived.Test.YtpekleahjjjddaaWQPut
import Derived.Test.YtpekleahjjjddaaWApart
import Derived.Test.YtpekleahjjjddaaWArr
import Derived.Test.YtpekleahjjjddaaWZeros
import Derived.Test.YtpekleahjjjddaaWFoot
import Derived.Test.YtpekleahjjjddaaWKept
import Derived.Test.YtpekleahjjjddaaWShare
import Derived.Test.YtpekleahjjjddaaWN
import Derived.Test.YtpekleahjjjddaaWFootNe
import Derived.Test.YtpekleahjjjddaaWAt
import Derived.Test.YtpekleahjjjddaaWEqStruct
import Derived.Test.YtpekleahjjjddaaWRepsOne
import Derived.Test.YtpekleahjjjddaaWInv
import Derived.Test.YtpekleahjjjddaaWInvWords
import Derived.Test.YtpekleahjjjddaaWGuard
import Derived.Test.YtpekleahjjjddaaWNEv
import Derived.Test.YtpekleahjjjddaaWMore
namespace Go.Proofs.Ytpekleahjjjddaa.PFnExactBarrettMul
open Go.RowKit Go.Proofs.YtpekleahjjjddaaW.PrintWords Go.Proofs.YtpekleahjjjddaaW.PrintLast Go.Proofs.YtpekleahjjjddaaW.PrintMore
attribute [local go_sem] max2_int min2_int max_two min_two max_three min_three max_four min_four   -- for this text's walks alone
set_option linter.unusedVariables false
set_option linter.unusedSimpArgs false



def errW : Option Int → Value
  | none => .nilIface
  | some c => .iface 0 (.int .i64 c)
theorem errW_none : errW none = .nilIface := rfl
theorem errW_some (c : Int) : errW (some c) = .iface 0 (.int .i64 c) := rfl

-- the values' own types

end Go.Proofs.Ytpekleahjjjddaa.PFnExactBarrettMul
