/- The functions' equations over the interpreter. Printed by fwgen.py. -/
import Derived.Test.YthanbjnpfenniaaDoorFwZf
import Derived.Test.YthanbjnpfenniaaDoorFwTok
import Derived.Test.YthanbjnpfenniaaDoorFwOrc
import Derived.Test.YthanbjnpfenniaaDoorEqW
import Derived.Test.YthanbjnpfenniaaDoorEqAd
import Derived.Test.YthanbjnpfenniaaDoorEqCs
import Derived.KernelRfl
import Derived.Lib.Tables
namespace Go.Proofs.YthanbjnpfenniaaDoor.Fw
open Go Go.RowKit
set_option linter.unusedVariables false
set_option maxRecDepth 100000
noncomputable def c_spec_l2Int (C : Ca tb) (x0 : Int) : Option (Bool × List Int) := C.pure 129 [.int .i64 (x0)]
noncomputable def c_spec_l2Times (C : Ca tb) (x0_0 : Bool) (x0_1 : List Int) (x1_0 : Bool) (x1_1 : List Int) : Option (Bool × List Int) := C.pure 128 [.agg [.bool (x0_0), .sl (.int .i64) (x0_1)], .agg [.bool (x1_0), .sl (.int .i64) (x1_1)]]
noncomputable def c_spec_l2Plus (C : Ca tb) (x0_0 : Bool) (x0_1 : List Int) (x1_0 : Bool) (x1_1 : List Int) : Option (Bool × List Int) := C.pure 127 [.agg [.bool (x0_0), .sl (.int .i64) (x0_1)], .agg [.bool (x1_0), .sl (.int .i64) (x1_1)]]
noncomputable def spec_l2Int_x (C0 : Ca tb) (x0 : Int) : Option (Bool × List Int) :=
  if x0 ≥ (0:Int) then (c_spec_l2Of C0 x0).bind fun (d1 : List Int) => some ((false, d1)) else (c_spec_l2Of C0 (wr .i64 (0 - (wr .i64 (x0 + (1:Int)))))).bind fun (d2 : List Int) => (c_spec_l2Add C0 d2 ([(1:Int)])).bind fun (d3 : List Int) => some ((true, d3))
noncomputable def spec_l2Int_f (n : Nat) (x0 : Int) : Option (Bool × List Int) :=
  spec_l2Int_x (run tb orc n) x0 
theorem spec_l2Int_r (n : Nat) (x0 : Int) : c_spec_l2Int (run tb orc (n + 1)) x0 = spec_l2Int_x (run tb orc n) x0  := by kernel_rfl
/-- loop.example/g00133/spec.l2Int -/
theorem spec_l2Int_eq (n : Nat) (x0 : Int) : c_spec_l2Int (run tb orc (n + 1)) x0 = spec_l2Int_f n x0 := by
  rw [spec_l2Int_r]
  rfl
noncomputable def spec_l2Times_x (C0 : Ca tb) (x0_0 : Bool) (x0_1 : List Int) (x1_0 : Bool) (x1_1 : List Int) : Option (Bool × List Int) :=
  (c_spec_l2Mul C0 x0_1 x1_1).bind fun (d1 : List Int) => if (d1.length : Int) > (0:Int) then some ((x0_0 != x1_0, d1)) else some ((false, d1))
noncomputable def spec_l2Times_f (n : Nat) (x0_0 : Bool) (x0_1 : List Int) (x1_0 : Bool) (x1_1 : List Int) : Option (Bool × List Int) :=
  spec_l2Times_x (run tb orc n) x0_0 x0_1 x1_0 x1_1 
theorem spec_l2Times_r (n : Nat) (x0_0 : Bool) (x0_1 : List Int) (x1_0 : Bool) (x1_1 : List Int) : c_spec_l2Times (run tb orc (n + 1)) x0_0 x0_1 x1_0 x1_1 = spec_l2Times_x (run tb orc n) x0_0 x0_1 x1_0 x1_1  := by kernel_rfl
/-- loop.example/g00133/spec.l2Times -/
theorem spec_l2Times_eq (n : Nat) (x0_0 : Bool) (x0_1 : List Int) (x1_0 : Bool) (x1_1 : List Int) : c_spec_l2Times (run tb orc (n + 1)) x0_0 x0_1 x1_0 x1_1 = spec_l2Times_f n x0_0 x0_1 x1_0 x1_1 := by
  rw [spec_l2Times_r]
  rfl
noncomputable def spec_l2Plus_x (C0 : Ca tb) (x0_0 : Bool) (x0_1 : List Int) (x1_0 : Bool) (x1_1 : List Int) : Option (Bool × List Int) :=
  if (x0_0 == x1_0) = true then (c_spec_l2Add C0 x0_1 x1_1).bind fun (d1 : List Int) => some ((x0_0, d1)) else (c_spec_l2Cmp C0 x0_1 x1_1).bind fun (d2 : Int) => if d2 = (0:Int) then some ((false, [])) else if d2 = (1:Int) then (c_spec_l2Sub C0 x0_1 x1_1).bind fun (d3 : List Int) => some ((x0_0, d3)) else (c_spec_l2Sub C0 x1_1 x0_1).bind fun (d4 : List Int) => some ((x1_0, d4))
noncomputable def spec_l2Plus_f (n : Nat) (x0_0 : Bool) (x0_1 : List Int) (x1_0 : Bool) (x1_1 : List Int) : Option (Bool × List Int) :=
  spec_l2Plus_x (run tb orc n) x0_0 x0_1 x1_0 x1_1 
theorem spec_l2Plus_r (n : Nat) (x0_0 : Bool) (x0_1 : List Int) (x1_0 : Bool) (x1_1 : List Int) : c_spec_l2Plus (run tb orc (n + 1)) x0_0 x0_1 x1_0 x1_1 = spec_l2Plus_x (run tb orc n) x0_0 x0_1 x1_0 x1_1  := by kernel_rfl
/-- loop.example/g00133/spec.l2Plus -/
theorem spec_l2Plus_eq (n : Nat) (x0_0 : Bool) (x0_1 : List Int) (x1_0 : Bool) (x1_1 : List Int) : c_spec_l2Plus (run tb orc (n + 1)) x0_0 x0_1 x1_0 x1_1 = spec_l2Plus_f n x0_0 x0_1 x1_0 x1_1 := by
  rw [spec_l2Plus_r]
  rfl
end Go.Proofs.YthanbjnpfenniaaDoor.Fw
