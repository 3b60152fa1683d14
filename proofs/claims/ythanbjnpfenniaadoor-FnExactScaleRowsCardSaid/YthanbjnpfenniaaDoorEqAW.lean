/- The functions' equations over the interpreter. Printed by fwgen.py. -/
import Derived.Test.YthanbjnpfenniaaDoorFwZf
import Derived.Test.YthanbjnpfenniaaDoorFwTok
import Derived.Test.YthanbjnpfenniaaDoorFwOrc
import Derived.Test.YthanbjnpfenniaaDoorEqA
import Derived.KernelRfl
import Derived.Lib.Tables
namespace Go.Proofs.YthanbjnpfenniaaDoor.Fw
open Go Go.RowKit
set_option linter.unusedVariables false
set_option maxRecDepth 100000
noncomputable def c_laws_eqWhole (C : Ca tb) (x0_0 : Bool) (x0_1 : List Int) (x1_0 : Bool) (x1_1 : List Int) : Option Bool := C.pure 56 [.agg [.bool (x0_0), .sl (.int .i64) (x0_1)], .agg [.bool (x1_0), .sl (.int .i64) (x1_1)]]
noncomputable def c_laws_toWhole (C : Ca tb) (x0_0 : Bool) (x0_1 : List Int) : Option (Bool × List Int) := C.pure 54 [.agg [.bool (x0_0), .sl (.int .i64) (x0_1)]]
noncomputable def c_laws_szWhole (C : Ca tb) (x0_0 : Bool) (x0_1 : List Int) (x1 : Int) : Option Int := C.pure 52 [.agg [.bool (x0_0), .sl (.int .i64) (x0_1)], .int .i64 (x1)]
noncomputable def laws_eqWhole_x (C0 : Ca tb) (x0_0 : Bool) (x0_1 : List Int) (x1_0 : Bool) (x1_1 : List Int) : Option Bool :=
  if (x0_0 != x1_0) = true then some (false) else (c_laws_eqIntS C0 x0_1 x1_1).bind fun (d1 : Bool) => if (!d1) = true then some (false) else some (true)
noncomputable def laws_eqWhole_f (n : Nat) (x0_0 : Bool) (x0_1 : List Int) (x1_0 : Bool) (x1_1 : List Int) : Option Bool :=
  laws_eqWhole_x (run tb orc n) x0_0 x0_1 x1_0 x1_1 
theorem laws_eqWhole_r (n : Nat) (x0_0 : Bool) (x0_1 : List Int) (x1_0 : Bool) (x1_1 : List Int) : c_laws_eqWhole (run tb orc (n + 1)) x0_0 x0_1 x1_0 x1_1 = laws_eqWhole_x (run tb orc n) x0_0 x0_1 x1_0 x1_1  := by kernel_rfl
/-- loop.example/g00133/laws.eqWhole -/
theorem laws_eqWhole_eq (n : Nat) (x0_0 : Bool) (x0_1 : List Int) (x1_0 : Bool) (x1_1 : List Int) : c_laws_eqWhole (run tb orc (n + 1)) x0_0 x0_1 x1_0 x1_1 = laws_eqWhole_f n x0_0 x0_1 x1_0 x1_1 := by
  rw [laws_eqWhole_r]
  rfl
noncomputable def laws_toWhole_x (C0 : Ca tb) (x0_0 : Bool) (x0_1 : List Int) : Option (Bool × List Int) :=
  (c_laws_toIntS C0 x0_1).bind fun (d1 : List Int) => some ((x0_0, d1))
noncomputable def laws_toWhole_f (n : Nat) (x0_0 : Bool) (x0_1 : List Int) : Option (Bool × List Int) :=
  laws_toWhole_x (run tb orc n) x0_0 x0_1 
theorem laws_toWhole_r (n : Nat) (x0_0 : Bool) (x0_1 : List Int) : c_laws_toWhole (run tb orc (n + 1)) x0_0 x0_1 = laws_toWhole_x (run tb orc n) x0_0 x0_1  := by kernel_rfl
/-- loop.example/g00133/laws.toWhole -/
theorem laws_toWhole_eq (n : Nat) (x0_0 : Bool) (x0_1 : List Int) : c_laws_toWhole (run tb orc (n + 1)) x0_0 x0_1 = laws_toWhole_f n x0_0 x0_1 := by
  rw [laws_toWhole_r]
  rfl
noncomputable def laws_szWhole_x (C0 : Ca tb) (x0_0 : Bool) (x0_1 : List Int) (x1 : Int) : Option Int :=
  (c_laws_szIntS C0 x0_1 x1).bind fun (d1 : Int) => if d1 < (0:Int) then some ((-1:Int)) else some (d1)
noncomputable def laws_szWhole_f (n : Nat) (x0_0 : Bool) (x0_1 : List Int) (x1 : Int) : Option Int :=
  laws_szWhole_x (run tb orc n) x0_0 x0_1 x1 
theorem laws_szWhole_r (n : Nat) (x0_0 : Bool) (x0_1 : List Int) (x1 : Int) : c_laws_szWhole (run tb orc (n + 1)) x0_0 x0_1 x1 = laws_szWhole_x (run tb orc n) x0_0 x0_1 x1  := by kernel_rfl
/-- loop.example/g00133/laws.szWhole -/
theorem laws_szWhole_eq (n : Nat) (x0_0 : Bool) (x0_1 : List Int) (x1 : Int) : c_laws_szWhole (run tb orc (n + 1)) x0_0 x0_1 x1 = laws_szWhole_f n x0_0 x0_1 x1 := by
  rw [laws_szWhole_r]
  rfl
end Go.Proofs.YthanbjnpfenniaaDoor.Fw
