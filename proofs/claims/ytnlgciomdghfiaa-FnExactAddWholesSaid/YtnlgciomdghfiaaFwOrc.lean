/- What is known of functions that are not interpreted: nothing. -/
import Derived.Test.YtnlgciomdghfiaaFwZf
import Derived.Test.YtnlgciomdghfiaaFwTok
namespace Go.Proofs.Ytnlgciomdghfiaa.Fw
open Go Go.RowKit
noncomputable def orc : (f : FuncId) → List AV → Option (DL (tb.rs f)) := fun _ _ => none
theorem orc_ok : ∀ f args d, tb.fn f = none → orc f args = some d → PureOk Try.prog tb f args d := fun f args d _ h => by cases h
end Go.Proofs.Ytnlgciomdghfiaa.Fw
