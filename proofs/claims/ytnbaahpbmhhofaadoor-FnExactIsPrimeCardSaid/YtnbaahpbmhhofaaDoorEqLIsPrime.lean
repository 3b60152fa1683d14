/- The functions' equations over the interpreter. Printed by fwgen.py. -/
import Derived.Test.YtnbaahpbmhhofaaDoorFwZf
import Derived.Test.YtnbaahpbmhhofaaDoorFwTok
import Derived.Test.YtnbaahpbmhhofaaDoorFwOrc
import Derived.Test.YtnbaahpbmhhofaaDoorEqP
import Derived.KernelRfl
import Derived.Lib.Tables
namespace Go.Proofs.YtnbaahpbmhhofaaDoor.Fw
open Go Go.RowKit
set_option linter.unusedVariables false
set_option maxRecDepth 100000
noncomputable def c_laws_FnExactIsPrime (C : Ca tb) (x0 : Int) : Option Bool := C.pure 3 [.int .u64 (x0)]
noncomputable def laws_FnExactIsPrime_x (C0 : Ca tb) (x0 : Int) : Option Bool :=
  (c_spec_IsPrime C0 x0).bind fun (d1 : Bool) => (c_impl_IsPrime C0 x0).bind fun (d2 : Bool) => if (d2 != d1) = true then some (false) else some (true)
noncomputable def laws_FnExactIsPrime_f (n : Nat) (x0 : Int) : Option Bool :=
  laws_FnExactIsPrime_x (run tb orc n) x0 
theorem laws_FnExactIsPrime_r (n : Nat) (x0 : Int) : c_laws_FnExactIsPrime (run tb orc (n + 1)) x0 = laws_FnExactIsPrime_x (run tb orc n) x0  := by kernel_rfl
/-- loop.example/g00133/laws.FnExactIsPrime -/
theorem laws_FnExactIsPrime_eq (n : Nat) (x0 : Int) : c_laws_FnExactIsPrime (run tb orc (n + 1)) x0 = laws_FnExactIsPrime_f n x0 := by
  rw [laws_FnExactIsPrime_r]
  rfl
end Go.Proofs.YtnbaahpbmhhofaaDoor.Fw
