/- What is known of functions that are not interpreted: nothing. One level of calls, alone. -/
import Derived.Test.YthanbjnpfenniaaDoorFwZf
import Derived.Test.YthanbjnpfenniaaDoorFwTok
namespace Go.Proofs.YthanbjnpfenniaaDoor.Fw
open Go Go.RowKit
noncomputable def orc : (f : FuncId) → List AV → Option (DL (tb.rs f)) := fun _ _ => none
theorem orc_ok : ∀ f args d, tb.fn f = none → orc f args = some d → PureOk Tryd.prog tb f args d := fun f args d _ h => by cases h
/-- One level above what is known, with a number of rounds. -/
noncomputable def runV (C : Ca tb) (N : Nat) : Ca tb := ⟨fun f args => match tb.fn f with
      | some fn => match fn.body with
        | some c => exec tb C f 0 N c (st0 fn args []) (finish tb f fn)
        | none => none
      | none => orc f args,
    fun f args H k => if tb.thr f = true then (match tb.fn f with
      | some fn => match fn.body with
        | some c => exec tb C f H.length N c (st0 fn args H) (fun e σ => (finishT tb fn e σ).bind fun x => k x.1 x.2)
        | none => none
      | none => none) else none⟩
theorem runV_0 (n : Nat) : runV (run tb orc n) n = run tb orc (n + 1) := rfl
theorem runV_1 (n : Nat) : runV (run tb orc (n + 1)) (n + 1) = run tb orc (n + 2) := rfl
theorem runV_2 (n : Nat) : runV (run tb orc (n + 2)) (n + 2) = run tb orc (n + 3) := rfl
theorem runV_3 (n : Nat) : runV (run tb orc (n + 3)) (n + 3) = run tb orc (n + 4) := rfl
theorem runV_4 (n : Nat) : runV (run tb orc (n + 4)) (n + 4) = run tb orc (n + 5) := rfl
theorem runV_5 (n : Nat) : runV (run tb orc (n + 5)) (n + 5) = run tb orc (n + 6) := rfl
theorem runV_6 (n : Nat) : runV (run tb orc (n + 6)) (n + 6) = run tb orc (n + 7) := rfl
end Go.Proofs.YthanbjnpfenniaaDoor.Fw
