/- The functions' equations over the interpreter. Printed by fwgen.py. -/
import Derived.Test.YtnbaahpbmhhofaaDoorFwZf
import Derived.Test.YtnbaahpbmhhofaaDoorFwTok
import Derived.Test.YtnbaahpbmhhofaaDoorFwOrc
import Derived.Test.YtnbaahpbmhhofaaDoorEqN
import Derived.KernelRfl
import Derived.Lib.Tables
namespace Go.Proofs.YtnbaahpbmhhofaaDoor.Fw
open Go Go.RowKit
set_option linter.unusedVariables false
set_option maxRecDepth 100000
noncomputable def c_laws_FnExactRingOf (C : Ca tb) (x0 : Int) (x1 : Int) : Option Bool := C.pure 6 [.int .i64 (x0), .int .i64 (x1)]
noncomputable def laws_FnExactRingOf_x (C0 : Ca tb) (x0 : Int) (x1 : Int) : Option Bool :=
  (c_spec_RingOf C0 x0 x1).bind fun (d1 : (Int × Int × Int) × Bool) => (c_impl_RingOf C0 x0 x1).bind fun (d2 : (Int × Int × Int) × Bool) => (c_laws_eqRing C0 d2.1.1 d2.1.2.1 d2.1.2.2 d1.1.1 d1.1.2.1 d1.1.2.2).bind fun (d3 : Bool) => if (!d3) = true then some (false) else if (d2.2 != d1.2) = true then some (false) else some (true)
noncomputable def laws_FnExactRingOf_f (n : Nat) (x0 : Int) (x1 : Int) : Option Bool :=
  laws_FnExactRingOf_x (run tb orc n) x0 x1 
theorem laws_FnExactRingOf_r (n : Nat) (x0 : Int) (x1 : Int) : c_laws_FnExactRingOf (run tb orc (n + 1)) x0 x1 = laws_FnExactRingOf_x (run tb orc n) x0 x1  := by kernel_rfl
/-- loop.example/g00133/laws.FnExactRingOf -/
theorem laws_FnExactRingOf_eq (n : Nat) (x0 : Int) (x1 : Int) : c_laws_FnExactRingOf (run tb orc (n + 1)) x0 x1 = laws_FnExactRingOf_f n x0 x1 := by
  rw [laws_FnExactRingOf_r]
  rfl
end Go.Proofs.YtnbaahpbmhhofaaDoor.Fw
