/- The functions' equations over the interpreter. Printed by fwgen.py. -/
import Derived.Test.YtnbaahpbmhhofaaDoorFwZf
import Derived.Test.YtnbaahpbmhhofaaDoorFwTok
import Derived.Test.YtnbaahpbmhhofaaDoorFwOrc
import Derived.Test.YtnbaahpbmhhofaaDoorEqR
import Derived.KernelRfl
import Derived.Lib.Tables
namespace Go.Proofs.YtnbaahpbmhhofaaDoor.Fw
open Go Go.RowKit
set_option linter.unusedVariables false
set_option maxRecDepth 100000
noncomputable def c_laws_FnExactRootOf (C : Ca tb) (x0 : Int) (x1 : Int) : Option Bool := C.pure 5 [.int .i64 (x0), .int .i64 (x1)]
noncomputable def laws_FnExactRootOf_x (C0 : Ca tb) (x0 : Int) (x1 : Int) : Option Bool :=
  (c_spec_RootOf C0 x0 x1).bind fun (d1 : Int × Bool) => (c_impl_RootOf C0 x0 x1).bind fun (d2 : Int × Bool) => if d2.1 = d1.1 then (if (d2.2 != d1.2) = true then some (false) else some (true)) else some (false)
noncomputable def laws_FnExactRootOf_f (n : Nat) (x0 : Int) (x1 : Int) : Option Bool :=
  laws_FnExactRootOf_x (run tb orc n) x0 x1 
theorem laws_FnExactRootOf_r (n : Nat) (x0 : Int) (x1 : Int) : c_laws_FnExactRootOf (run tb orc (n + 1)) x0 x1 = laws_FnExactRootOf_x (run tb orc n) x0 x1  := by kernel_rfl
/-- loop.example/g00133/laws.FnExactRootOf -/
theorem laws_FnExactRootOf_eq (n : Nat) (x0 : Int) (x1 : Int) : c_laws_FnExactRootOf (run tb orc (n + 1)) x0 x1 = laws_FnExactRootOf_f n x0 x1 := by
  rw [laws_FnExactRootOf_r]
  rfl
end Go.Proofs.YtnbaahpbmhhofaaDoor.Fw
