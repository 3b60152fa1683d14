/- The functions' equations over the interpreter. Printed by fwgen.py. -/
import Derived.Test.YtnbaahpbmhhofaaDoorFwZf
import Derived.Test.YtnbaahpbmhhofaaDoorFwTok
import Derived.Test.YtnbaahpbmhhofaaDoorFwOrc
import Derived.Test.YtnbaahpbmhhofaaDoorEqA
import Derived.Test.YtnbaahpbmhhofaaDoorEqB
import Derived.KernelRfl
import Derived.Lib.Tables
namespace Go.Proofs.YtnbaahpbmhhofaaDoor.Fw
open Go Go.RowKit
set_option linter.unusedVariables false
set_option maxRecDepth 100000
noncomputable def c_laws_FnExactGoodBasis (C : Ca tb) (x0 : List Int) : Option Bool := C.pure 4 [.sl (.int .i64) (x0)]
noncomputable def laws_FnExactGoodBasis_x (C0 : Ca tb) (x0 : List Int) : Option Bool :=
  if (x0.length : Int) > (1048576:Int) then some (true) else (c_laws_toIntS C0 x0).bind fun (d1 : List Int) => (c_spec_GoodBasis C0 d1).bind fun (d2 : Bool) => (c_laws_toIntS C0 x0).bind fun (d3 : List Int) => (c_impl_GoodBasis C0 d3).bind fun (d4 : Bool) => if (d4 != d2) = true then some (false) else (c_laws_toIntS C0 x0).bind fun (d5 : List Int) => (c_laws_eqIntS C0 d3 d5).bind fun (d6 : Bool) => if (!d6) = true then some (false) else some (true)
noncomputable def laws_FnExactGoodBasis_f (n : Nat) (x0 : List Int) : Option Bool :=
  laws_FnExactGoodBasis_x (run tb orc n) x0 
theorem laws_FnExactGoodBasis_r (n : Nat) (x0 : List Int) : c_laws_FnExactGoodBasis (run tb orc (n + 1)) x0 = laws_FnExactGoodBasis_x (run tb orc n) x0  := by kernel_rfl
/-- loop.example/g00133/laws.FnExactGoodBasis -/
theorem laws_FnExactGoodBasis_eq (n : Nat) (x0 : List Int) : c_laws_FnExactGoodBasis (run tb orc (n + 1)) x0 = laws_FnExactGoodBasis_f n x0 := by
  rw [laws_FnExactGoodBasis_r]
  rfl
end Go.Proofs.YtnbaahpbmhhofaaDoor.Fw
