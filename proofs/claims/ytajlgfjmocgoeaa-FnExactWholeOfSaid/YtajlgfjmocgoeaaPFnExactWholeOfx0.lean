-- Written by the kit's print.py over a print of the translation that this session's tools had prepared (tables flattened; bodies that the print does not take replaced by equal ones, whose walks are proved by hand).
import Derived.Test.YtajlgfjmocgoeaaAppendTwo
import Derived.Test.YtajlgfjmocgoeaaProg
import Derived.Below
import Derived.Deep.Draws
import Derived.Deep.AppendLies
import Derived.Maps.AppendAt
import Derived.OwnWalk
import Derived.Laws.BytesArg
import Derived.Laws.MakeOwn
import Derived.Laws.OwnMore
import Derived.Deep.OwnRows
import Derived.Tactics
import Derived.Lib.ConvBytes
import Derived.Laws.Slices
import Derived.WalkKit
import Derived.KernelRfl
import Derived.RowKit3
import Derived.Deep.LoopGhost
import Derived.Deep.QuietTactic
import Derived.BigQuiet
import Derived.WideLaws
import Derived.Deep.DeepCutAuto
import Derived.Deep.CutBlock
import Derived.Deep.RegionHeld3
import Derived.Laws.Rows
import Derived.Lib.AppendStr
import Derived.ArgAppend
import Derived.Laws.IdiomCopy
import Derived.OrdersHeld
import Derived.Laws.BitsLemmas
import Derived.RowKit
import Derived.Test.YtajlgfjmocgoeaaWWords
import Derived.Test.YtajlgfjmocgoeaaWLast
import Derived.Test.YtajlgfjmocgoeaaWTab
import Derived.Test.YtajlgfjmocgoeaaWFour
import Derived.Test.YtajlgfjmocgoeaaWQPut
import Derived.Test.YtajlgfjmocgoeaaWApart
import Derived.Test.YtajlgfjmocgoeaaWArr
import Derived.Test.YtajlgfjmocgoeaaWZeros
import Derived.Test.YtajlgfjmocgoeaaWFoot
import Derived.Test.YtajlgfjmocgoeaaWKept
import Derived.Test.YtajlgfjmocgoeaaWShare
import Derived.Test.YtajlgfjmocgoeaaWN
import Derived.Test.YtajlgfjmocgoeaaWFootNe
import Derived.Test.YtajlgfjmocgoeaaWAt
import Derived.Test.YtajlgfjmocgoeaaWEqStruct
import Derived.Test.YtajlgfjmocgoeaaWRepsOne
import Derived.Test.YtajlgfjmocgoeaaWInv
import Derived.Test.YtajlgfjmocgoeaaWInvWords
import Derived.Test.YtajlgfjmocgoeaaWGuard
import Derived.Test.YtajlgfjmocgoeaaWNEv
import Derived.Test.YtajlgfjmocgoeaaWMore
namespace Go.Proofs.Ytajlgfjmocgoeaa.PFnExactWholeOf
open Go.RowKit Go.Proofs.YtajlgfjmocgoeaaW.PrintWords Go.Proofs.YtajlgfjmocgoeaaW.PrintLast Go.Proofs.YtajlgfjmocgoeaaW.PrintMore
attribute [local go_sem] max2_int min2_int max_two min_two max_three min_three max_four min_four   -- for this text's walks alone
set_option linter.unusedVariables false
set_option linter.unusedSimpArgs false



def errW : Option Int → Value
  | none => .nilIface
  | some c => .iface 0 (.int .i64 c)
theorem errW_none : errW none = .nilIface := rfl
theorem errW_some (c : Int) : errW (some c) = .iface 0 (.int .i64 c) := rfl

theorem info3 : (Try.prog.info? 3).map (fun i => (i.zero, i.size, i.bytes)) = some (some (.int .i64 0), 1, 8) := by kernel_rfl
-- the values' own types

end Go.Proofs.Ytajlgfjmocgoeaa.PFnExactWholeOf
