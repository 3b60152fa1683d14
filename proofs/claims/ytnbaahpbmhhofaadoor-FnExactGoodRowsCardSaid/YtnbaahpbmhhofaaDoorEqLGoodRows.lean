/- The functions' equations over the interpreter. Printed by fwgen.py. -/
import Derived.Test.YtnbaahpbmhhofaaDoorFwZf
import Derived.Test.YtnbaahpbmhhofaaDoorFwTok
import Derived.Test.YtnbaahpbmhhofaaDoorFwOrc
import Derived.Test.YtnbaahpbmhhofaaDoorEqAS
import Derived.Test.YtnbaahpbmhhofaaDoorEqZ
import Derived.KernelRfl
import Derived.Lib.Tables
namespace Go.Proofs.YtnbaahpbmhhofaaDoor.Fw
open Go Go.RowKit
set_option linter.unusedVariables false
set_option maxRecDepth 100000
noncomputable def c_laws_FnExactGoodRows (C : Ca tb) (x0_0 : Int) (x0_1 : List Int) (x1_0 : Bool) (x1_1 : List (List Int)) : Option Bool := C.pure 14 [.agg [.int .i64 (x0_0), .sl (.int .i64) (x0_1)], .agg [.bool (x1_0), .sl (.sl (.int .i64)) (x1_1)]]
noncomputable def laws_FnExactGoodRows_x (C0 : Ca tb) (x0_0 : Int) (x0_1 : List Int) (x1_0 : Bool) (x1_1 : List (List Int)) : Option Bool :=
  (c_laws_szSpace C0 x0_0 x0_1 (1048576:Int)).bind fun (d1 : Int) => if d1 < (0:Int) then some (true) else (c_laws_szRows C0 x1_0 x1_1 d1).bind fun (d2 : Int) => if d2 < (0:Int) then some (true) else (c_laws_toSpace C0 x0_0 x0_1).bind fun (d3 : Int × List Int) => (c_laws_toRows C0 x1_0 x1_1).bind fun (d4 : Bool × List (List Int)) => (c_spec_GoodRows C0 d3.1 d3.2 d4.1 d4.2).bind fun (d5 : Bool) => (c_laws_toSpace C0 x0_0 x0_1).bind fun (d6 : Int × List Int) => (c_laws_toRows C0 x1_0 x1_1).bind fun (d7 : Bool × List (List Int)) => (c_impl_GoodRows C0 d6.1 d6.2 d7.1 d7.2).bind fun (d8 : Bool) => if (d8 != d5) = true then some (false) else (c_laws_toSpace C0 x0_0 x0_1).bind fun (d9 : Int × List Int) => (c_laws_eqSpace C0 d6.1 d6.2 d9.1 d9.2).bind fun (d10 : Bool) => if (!d10) = true then some (false) else (c_laws_toRows C0 x1_0 x1_1).bind fun (d11 : Bool × List (List Int)) => (c_laws_eqRows C0 d7.1 d7.2 d11.1 d11.2).bind fun (d12 : Bool) => if (!d12) = true then some (false) else some (true)
noncomputable def laws_FnExactGoodRows_f (n : Nat) (x0_0 : Int) (x0_1 : List Int) (x1_0 : Bool) (x1_1 : List (List Int)) : Option Bool :=
  laws_FnExactGoodRows_x (run tb orc n) x0_0 x0_1 x1_0 x1_1 
theorem laws_FnExactGoodRows_r (n : Nat) (x0_0 : Int) (x0_1 : List Int) (x1_0 : Bool) (x1_1 : List (List Int)) : c_laws_FnExactGoodRows (run tb orc (n + 1)) x0_0 x0_1 x1_0 x1_1 = laws_FnExactGoodRows_x (run tb orc n) x0_0 x0_1 x1_0 x1_1  := by kernel_rfl
/-- loop.example/g00133/laws.FnExactGoodRows -/
theorem laws_FnExactGoodRows_eq (n : Nat) (x0_0 : Int) (x0_1 : List Int) (x1_0 : Bool) (x1_1 : List (List Int)) : c_laws_FnExactGoodRows (run tb orc (n + 1)) x0_0 x0_1 x1_0 x1_1 = laws_FnExactGoodRows_f n x0_0 x0_1 x1_0 x1_1 := by
  rw [laws_FnExactGoodRows_r]
  rfl
end Go.Proofs.YtnbaahpbmhhofaaDoor.Fw
