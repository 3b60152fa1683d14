/- The functions' equations over the interpreter. Printed by fwgen.py. -/
import Derived.Test.YtnbaahpbmhhofaaDoorFwZf
import Derived.Test.YtnbaahpbmhhofaaDoorFwTok
import Derived.Test.YtnbaahpbmhhofaaDoorFwOrc
import Derived.Test.YtnbaahpbmhhofaaDoorEqS
import Derived.Test.YtnbaahpbmhhofaaDoorEqAS
import Derived.KernelRfl
import Derived.Lib.Tables
namespace Go.Proofs.YtnbaahpbmhhofaaDoor.Fw
open Go Go.RowKit
set_option linter.unusedVariables false
set_option maxRecDepth 100000
noncomputable def c_laws_FnExactGoodSpace (C : Ca tb) (x0_0 : Int) (x0_1 : List Int) : Option Bool := C.pure 7 [.agg [.int .i64 (x0_0), .sl (.int .i64) (x0_1)]]
noncomputable def laws_FnExactGoodSpace_x (C0 : Ca tb) (x0_0 : Int) (x0_1 : List Int) : Option Bool :=
  (c_laws_szSpace C0 x0_0 x0_1 (1048576:Int)).bind fun (d1 : Int) => if d1 < (0:Int) then some (true) else (c_laws_toSpace C0 x0_0 x0_1).bind fun (d2 : Int × List Int) => (c_spec_GoodSpace C0 d2.1 d2.2).bind fun (d3 : Bool) => (c_laws_toSpace C0 x0_0 x0_1).bind fun (d4 : Int × List Int) => (c_impl_GoodSpace C0 d4.1 d4.2).bind fun (d5 : Bool) => if (d5 != d3) = true then some (false) else (c_laws_toSpace C0 x0_0 x0_1).bind fun (d6 : Int × List Int) => (c_laws_eqSpace C0 d4.1 d4.2 d6.1 d6.2).bind fun (d7 : Bool) => if (!d7) = true then some (false) else some (true)
noncomputable def laws_FnExactGoodSpace_f (n : Nat) (x0_0 : Int) (x0_1 : List Int) : Option Bool :=
  laws_FnExactGoodSpace_x (run tb orc n) x0_0 x0_1 
theorem laws_FnExactGoodSpace_r (n : Nat) (x0_0 : Int) (x0_1 : List Int) : c_laws_FnExactGoodSpace (run tb orc (n + 1)) x0_0 x0_1 = laws_FnExactGoodSpace_x (run tb orc n) x0_0 x0_1  := by kernel_rfl
/-- loop.example/g00133/laws.FnExactGoodSpace -/
theorem laws_FnExactGoodSpace_eq (n : Nat) (x0_0 : Int) (x0_1 : List Int) : c_laws_FnExactGoodSpace (run tb orc (n + 1)) x0_0 x0_1 = laws_FnExactGoodSpace_f n x0_0 x0_1 := by
  rw [laws_FnExactGoodSpace_r]
  rfl
end Go.Proofs.YtnbaahpbmhhofaaDoor.Fw
