/- The functions' equations over the interpreter. Printed by fwgen.py. -/
import Derived.Test.YthanbjnpfenniaaDoorFwZf
import Derived.Test.YthanbjnpfenniaaDoorFwTok
import Derived.Test.YthanbjnpfenniaaDoorFwOrc
import Derived.Test.YthanbjnpfenniaaDoorEqP
import Derived.Test.YthanbjnpfenniaaDoorEqB
import Derived.Test.YthanbjnpfenniaaDoorEqR
import Derived.KernelRfl
import Derived.Lib.Tables
namespace Go.Proofs.YthanbjnpfenniaaDoor.Fw
open Go Go.RowKit
set_option linter.unusedVariables false
set_option maxRecDepth 100000
noncomputable def c_laws_toRing (C : Ca tb) (x0_0 : Int) (x0_1 : Int) (x0_2 : Int) : Option (Int × Int × Int) := C.pure 24 [.agg [.int .i64 (x0_0), .int .i64 (x0_1), .int .i64 (x0_2)]]
noncomputable def c_spec_l3Size (C : Ca tb) (x0 : Int) : Option Bool := C.pure 161 [.int .i64 (x0)]
noncomputable def c_impl_isN (C : Ca tb) (x0 : Int) : Option Bool := C.pure 162 [.int .i64 (x0)]
noncomputable def c_impl_isRing (C : Ca tb) (x0_0 : Int) (x0_1 : Int) (x0_2 : Int) : Option Bool := C.pure 70 [.agg [.int .i64 (x0_0), .int .i64 (x0_1), .int .i64 (x0_2)]]
noncomputable def c_impl_RingOf (C : Ca tb) (x0 : Int) (x1 : Int) : Option ((Int × Int × Int) × Bool) := C.pure 150 [.int .i64 (x0), .int .i64 (x1)]
noncomputable def c_spec_l3Ring (C : Ca tb) (x0_0 : Int) (x0_1 : Int) (x0_2 : Int) : Option Bool := C.pure 67 [.agg [.int .i64 (x0_0), .int .i64 (x0_1), .int .i64 (x0_2)]]
noncomputable def c_spec_RingOf (C : Ca tb) (x0 : Int) (x1 : Int) : Option ((Int × Int × Int) × Bool) := C.pure 147 [.int .i64 (x0), .int .i64 (x1)]
noncomputable def laws_toRing_x (C0 : Ca tb) (x0_0 : Int) (x0_1 : Int) (x0_2 : Int) : Option (Int × Int × Int) :=
  some ((x0_0, (x0_1, x0_2)))
noncomputable def laws_toRing_f (n : Nat) (x0_0 : Int) (x0_1 : Int) (x0_2 : Int) : Option (Int × Int × Int) :=
  laws_toRing_x (run tb orc n) x0_0 x0_1 x0_2 
theorem laws_toRing_r (n : Nat) (x0_0 : Int) (x0_1 : Int) (x0_2 : Int) : c_laws_toRing (run tb orc (n + 1)) x0_0 x0_1 x0_2 = laws_toRing_x (run tb orc n) x0_0 x0_1 x0_2  := by kernel_rfl
/-- loop.example/g00133/laws.toRing -/
theorem laws_toRing_eq (n : Nat) (x0_0 : Int) (x0_1 : Int) (x0_2 : Int) : c_laws_toRing (run tb orc (n + 1)) x0_0 x0_1 x0_2 = laws_toRing_f n x0_0 x0_1 x0_2 := by
  rw [laws_toRing_r]
  rfl
noncomputable def spec_l3Size_x (C0 : Ca tb) (x0 : Int) : Option Bool :=
  (c_spec_l1Power C0 x0 (2:Int) (16:Int)).bind fun (d1 : Bool) => some (d1)
noncomputable def spec_l3Size_f (n : Nat) (x0 : Int) : Option Bool :=
  spec_l3Size_x (run tb orc n) x0 
theorem spec_l3Size_r (n : Nat) (x0 : Int) : c_spec_l3Size (run tb orc (n + 1)) x0 = spec_l3Size_x (run tb orc n) x0  := by kernel_rfl
/-- loop.example/g00133/spec.l3Size -/
theorem spec_l3Size_eq (n : Nat) (x0 : Int) : c_spec_l3Size (run tb orc (n + 1)) x0 = spec_l3Size_f n x0 := by
  rw [spec_l3Size_r]
  rfl
noncomputable def impl_isN_x (C0 : Ca tb) (x0 : Int) : Option Bool :=
  (c_impl_isPower C0 x0 (2:Int) (16:Int)).bind fun (d1 : Bool) => some (d1)
noncomputable def impl_isN_f (n : Nat) (x0 : Int) : Option Bool :=
  impl_isN_x (run tb orc n) x0 
theorem impl_isN_r (n : Nat) (x0 : Int) : c_impl_isN (run tb orc (n + 1)) x0 = impl_isN_x (run tb orc n) x0  := by kernel_rfl
/-- loop.example/g00133/impl.isN -/
theorem impl_isN_eq (n : Nat) (x0 : Int) : c_impl_isN (run tb orc (n + 1)) x0 = impl_isN_f n x0 := by
  rw [impl_isN_r]
  rfl
noncomputable def impl_RingOf_x (C0 : Ca tb) (x0 : Int) (x1 : Int) : Option ((Int × Int × Int) × Bool) :=
  (c_impl_isPrimeModulus C0 x0).bind fun (d1 : Bool) => if (!d1) = true then some (((0:Int), ((0:Int), (0:Int))), false) else (c_impl_isN C0 x1).bind fun (d2 : Bool) => if (!d2) = true then some (((0:Int), ((0:Int), (0:Int))), false) else if wr .i64 ((2:Int) * x1) = 0 then none else if (wr .i64 (x0 - (1:Int))).tmod (wr .i64 ((2:Int) * x1)) = (0:Int) then (c_impl_root C0 x0 (wr .i64 ((2:Int) * x1))).bind fun (d3 : Int) => some ((x0, (x1, d3)), true) else some (((0:Int), ((0:Int), (0:Int))), false)
noncomputable def impl_RingOf_f (n : Nat) (x0 : Int) (x1 : Int) : Option ((Int × Int × Int) × Bool) :=
  impl_RingOf_x (run tb orc n) x0 x1 
theorem impl_RingOf_r (n : Nat) (x0 : Int) (x1 : Int) : c_impl_RingOf (run tb orc (n + 1)) x0 x1 = impl_RingOf_x (run tb orc n) x0 x1  := by kernel_rfl
/-- loop.example/g00133/impl.RingOf -/
theorem impl_RingOf_eq (n : Nat) (x0 : Int) (x1 : Int) : c_impl_RingOf (run tb orc (n + 1)) x0 x1 = impl_RingOf_f n x0 x1 := by
  rw [impl_RingOf_r]
  rfl
noncomputable def impl_isRing_x (C0 : Ca tb) (x0_0 : Int) (x0_1 : Int) (x0_2 : Int) : Option Bool :=
  (c_impl_RingOf C0 x0_0 x0_1).bind fun (d1 : (Int × Int × Int) × Bool) => if (d1.2) = true then some ((d1.1.1 == x0_0) && ((d1.1.2.1 == x0_1) && ((d1.1.2.2 == x0_2) && (true)))) else some (false)
noncomputable def impl_isRing_f (n : Nat) (x0_0 : Int) (x0_1 : Int) (x0_2 : Int) : Option Bool :=
  impl_isRing_x (run tb orc n) x0_0 x0_1 x0_2 
theorem impl_isRing_r (n : Nat) (x0_0 : Int) (x0_1 : Int) (x0_2 : Int) : c_impl_isRing (run tb orc (n + 1)) x0_0 x0_1 x0_2 = impl_isRing_x (run tb orc n) x0_0 x0_1 x0_2  := by kernel_rfl
/-- loop.example/g00133/impl.isRing -/
theorem impl_isRing_eq (n : Nat) (x0_0 : Int) (x0_1 : Int) (x0_2 : Int) : c_impl_isRing (run tb orc (n + 1)) x0_0 x0_1 x0_2 = impl_isRing_f n x0_0 x0_1 x0_2 := by
  rw [impl_isRing_r]
  rfl
noncomputable def spec_RingOf_x (C0 : Ca tb) (x0 : Int) (x1 : Int) : Option ((Int × Int × Int) × Bool) :=
  (c_spec_l1Modulus C0 x0).bind fun (d1 : Bool) => if (!d1) = true then some (((0:Int), ((0:Int), (0:Int))), false) else (c_spec_l3Size C0 x1).bind fun (d2 : Bool) => if (!d2) = true then some (((0:Int), ((0:Int), (0:Int))), false) else (c_spec_IsPrime C0 (wr .u64 (x0))).bind fun (d3 : Bool) => if (!d3) = true then some (((0:Int), ((0:Int), (0:Int))), false) else if wr .i64 ((2:Int) * x1) = 0 then none else if (wr .i64 (x0 - (1:Int))).tmod (wr .i64 ((2:Int) * x1)) = (0:Int) then (c_spec_l1LeastRoot C0 x0 (wr .i64 ((2:Int) * x1))).bind fun (d4 : Int) => some ((x0, (x1, d4)), true) else some (((0:Int), ((0:Int), (0:Int))), false)
noncomputable def spec_RingOf_f (n : Nat) (x0 : Int) (x1 : Int) : Option ((Int × Int × Int) × Bool) :=
  spec_RingOf_x (run tb orc n) x0 x1 
theorem spec_RingOf_r (n : Nat) (x0 : Int) (x1 : Int) : c_spec_RingOf (run tb orc (n + 1)) x0 x1 = spec_RingOf_x (run tb orc n) x0 x1  := by kernel_rfl
/-- loop.example/g00133/spec.RingOf -/
theorem spec_RingOf_eq (n : Nat) (x0 : Int) (x1 : Int) : c_spec_RingOf (run tb orc (n + 1)) x0 x1 = spec_RingOf_f n x0 x1 := by
  rw [spec_RingOf_r]
  rfl
noncomputable def spec_l3Ring_x (C0 : Ca tb) (x0_0 : Int) (x0_1 : Int) (x0_2 : Int) : Option Bool :=
  (c_spec_RingOf C0 x0_0 x0_1).bind fun (d1 : (Int × Int × Int) × Bool) => if (d1.2) = true then some ((d1.1.1 == x0_0) && ((d1.1.2.1 == x0_1) && ((d1.1.2.2 == x0_2) && (true)))) else some (false)
noncomputable def spec_l3Ring_f (n : Nat) (x0_0 : Int) (x0_1 : Int) (x0_2 : Int) : Option Bool :=
  spec_l3Ring_x (run tb orc n) x0_0 x0_1 x0_2 
theorem spec_l3Ring_r (n : Nat) (x0_0 : Int) (x0_1 : Int) (x0_2 : Int) : c_spec_l3Ring (run tb orc (n + 1)) x0_0 x0_1 x0_2 = spec_l3Ring_x (run tb orc n) x0_0 x0_1 x0_2  := by kernel_rfl
/-- loop.example/g00133/spec.l3Ring -/
theorem spec_l3Ring_eq (n : Nat) (x0_0 : Int) (x0_1 : Int) (x0_2 : Int) : c_spec_l3Ring (run tb orc (n + 1)) x0_0 x0_1 x0_2 = spec_l3Ring_f n x0_0 x0_1 x0_2 := by
  rw [spec_l3Ring_r]
  rfl
end Go.Proofs.YthanbjnpfenniaaDoor.Fw
