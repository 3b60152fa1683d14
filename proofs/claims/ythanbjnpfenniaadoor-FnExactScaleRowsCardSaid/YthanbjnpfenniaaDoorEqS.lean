/- The functions' equations over the interpreter. Printed by fwgen.py. -/
import Derived.Test.YthanbjnpfenniaaDoorFwZf
import Derived.Test.YthanbjnpfenniaaDoorFwTok
import Derived.Test.YthanbjnpfenniaaDoorFwOrc
import Derived.Test.YthanbjnpfenniaaDoorEqB
import Derived.Test.YthanbjnpfenniaaDoorEqN
import Derived.KernelRfl
import Derived.Lib.Tables
namespace Go.Proofs.YthanbjnpfenniaaDoor.Fw
open Go Go.RowKit
set_option linter.unusedVariables false
set_option maxRecDepth 100000
noncomputable def c_impl_GoodSpace (C : Ca tb) (x0_0 : Int) (x0_1 : List Int) : Option Bool := C.pure 100 [.agg [.int .i64 (x0_0), .sl (.int .i64) (x0_1)]]
noncomputable def c_slices_ContainsFunc_int_int_impl_GoodSpace_1 (C : Ca tb) (x0 : List Int) (x1_0_0 : Int) (x1_0_1 : List Int) : Option Bool := C.pure 116 [.sl (.int .i64) (x0), .fn 163 [.ref [.int .i64 (x1_0_0), .sl (.int .i64) (x1_0_1)]]]
noncomputable def c_slices_IndexFunc_int_int_impl_GoodSpace_1 (C : Ca tb) (x0 : List Int) (x1_0_0 : Int) (x1_0_1 : List Int) : Option Int := C.pure 169 [.sl (.int .i64) (x0), .fn 163 [.ref [.int .i64 (x1_0_0), .sl (.int .i64) (x1_0_1)]]]
noncomputable def c_impl_GoodSpace_1 (C : Ca tb) (x0 : Int) (x1_0 : Int) (x1_1 : List Int) : Option Bool := C.pure 163 [.int .i64 (x0), .ref [.int .i64 (x1_0), .sl (.int .i64) (x1_1)]]
noncomputable def c_spec_GoodSpace (C : Ca tb) (x0_0 : Int) (x0_1 : List Int) : Option Bool := C.pure 96 [.agg [.int .i64 (x0_0), .sl (.int .i64) (x0_1)]]
noncomputable def impl_GoodSpace_1_x (C0 : Ca tb) (x0 : Int) (x1_0 : Int) (x1_1 : List Int) : Option Bool :=
  if wr .i64 ((2:Int) * x1_0) = 0 then none else some (!decide ((wr .i64 (x0 - (1:Int))).tmod (wr .i64 ((2:Int) * x1_0)) = (0:Int)))
noncomputable def impl_GoodSpace_1_f (n : Nat) (x0 : Int) (x1_0 : Int) (x1_1 : List Int) : Option Bool :=
  impl_GoodSpace_1_x (run tb orc n) x0 x1_0 x1_1 
theorem impl_GoodSpace_1_r (n : Nat) (x0 : Int) (x1_0 : Int) (x1_1 : List Int) : c_impl_GoodSpace_1 (run tb orc (n + 1)) x0 x1_0 x1_1 = impl_GoodSpace_1_x (run tb orc n) x0 x1_0 x1_1  := by kernel_rfl
/-- loop.example/g00133/impl.GoodSpace$1 -/
theorem impl_GoodSpace_1_eq (n : Nat) (x0 : Int) (x1_0 : Int) (x1_1 : List Int) : c_impl_GoodSpace_1 (run tb orc (n + 1)) x0 x1_0 x1_1 = impl_GoodSpace_1_f n x0 x1_0 x1_1 := by
  rw [impl_GoodSpace_1_r]
  rfl
noncomputable def slices_IndexFunc_int_int_impl_GoodSpace_1_x1 (C0 : Ca tb) (self1 : (Int) → Option Int) (x0 : List Int) (x1_0_0 : Int) (x1_0_1 : List Int) (v1 : Int) : Option Int :=
  if v1 < (x0.length : Int) then (if 0 ≤ v1 then (if v1 < (x0.length : Int) then (c_impl_GoodSpace_1 C0 (x0.getD v1.toNat (0:Int)) x1_0_0 x1_0_1).bind fun (d1 : Bool) => if (d1) = true then some (v1) else self1 (wr .i64 (v1 + (1:Int))) else none) else none) else some ((-1:Int))
noncomputable def slices_IndexFunc_int_int_impl_GoodSpace_1_l1 (C0 : Ca tb) (N0 : Nat) (x0 : List Int) (x1_0_0 : Int) (x1_0_1 : List Int) (m : Nat) (v1 : Int) : Option Int :=
  loopIt (exec tb C0 169 0 N0 (codeAt [1, 0, 1, 0, 0] (bodyOf Tryd.f169))) (trim 0 [0, 1, 7, 8] 0) (contAt tb C0 169 0 N0 [1, 0, 1, 0] [] (bodyOf Tryd.f169) (finish tb 169 Tryd.f169)) m ⟨[.sl (.int .i64) (x0), .fn 163 [.ref [.int .i64 (x1_0_0), .sl (.int .i64) (x1_0_1)]], .top, .top, .top, .top, .top, .int .i64 ((x0.length : Int)), .int .i64 (v1), .top, .top, .top, .top, .top, .top, .top, .top, .top, .top], []⟩
noncomputable def slices_IndexFunc_int_int_impl_GoodSpace_1_g1 (C0 : Ca tb) (N0 : Nat) (x0 : List Int) (x1_0_0 : Int) (x1_0_1 : List Int) (self1 : (Int) → Option Int) (v1 : Int) : Option Int :=
  slices_IndexFunc_int_int_impl_GoodSpace_1_x1 C0 self1 x0 x1_0_0 x1_0_1 v1
theorem slices_IndexFunc_int_int_impl_GoodSpace_1_s1 (n : Nat) (x0 : List Int) (x1_0_0 : Int) (x1_0_1 : List Int) (m : Nat) (v1 : Int) : (slices_IndexFunc_int_int_impl_GoodSpace_1_l1 (run tb orc n) n x0 x1_0_0 x1_0_1 (m + 1)) v1 = slices_IndexFunc_int_int_impl_GoodSpace_1_x1 (run tb orc n) (slices_IndexFunc_int_int_impl_GoodSpace_1_l1 (run tb orc n) n x0 x1_0_0 x1_0_1 m) x0 x1_0_0 x1_0_1 v1 := by kernel_rfl
theorem slices_IndexFunc_int_int_impl_GoodSpace_1_e1 (n : Nat) (x0 : List Int) (x1_0_0 : Int) (x1_0_1 : List Int) : ∀ (m : Nat) (v : Int), (slices_IndexFunc_int_int_impl_GoodSpace_1_l1 (run tb orc n) n x0 x1_0_0 x1_0_1 m) v = iterO (slices_IndexFunc_int_int_impl_GoodSpace_1_g1 (run tb orc n) n x0 x1_0_0 x1_0_1 ) m v := by
  refine iterO_eq (fun _ => rfl) fun m v => ?_
  rw [slices_IndexFunc_int_int_impl_GoodSpace_1_s1]
  rfl
noncomputable def slices_IndexFunc_int_int_impl_GoodSpace_1_x (C0 : Ca tb) (inn1 : (List Int) → (Int) → (List Int) → (Int) → Option Int) (x0 : List Int) (x1_0_0 : Int) (x1_0_1 : List Int) : Option Int :=
  inn1 x0 x1_0_0 x1_0_1 ((0:Int))
noncomputable def slices_IndexFunc_int_int_impl_GoodSpace_1_f (n : Nat) (x0 : List Int) (x1_0_0 : Int) (x1_0_1 : List Int) : Option Int :=
  slices_IndexFunc_int_int_impl_GoodSpace_1_x (run tb orc n) (fun x0 x1_0_0 x1_0_1 v => iterO (slices_IndexFunc_int_int_impl_GoodSpace_1_g1 (run tb orc n) n x0 x1_0_0 x1_0_1 ) n v) x0 x1_0_0 x1_0_1 
theorem slices_IndexFunc_int_int_impl_GoodSpace_1_r (n : Nat) (x0 : List Int) (x1_0_0 : Int) (x1_0_1 : List Int) : c_slices_IndexFunc_int_int_impl_GoodSpace_1 (run tb orc (n + 1)) x0 x1_0_0 x1_0_1 = slices_IndexFunc_int_int_impl_GoodSpace_1_x (run tb orc n) (fun x0 x1_0_0 x1_0_1 v => (slices_IndexFunc_int_int_impl_GoodSpace_1_l1 (run tb orc n) n x0 x1_0_0 x1_0_1 n) v) x0 x1_0_0 x1_0_1  := by kernel_rfl
/-- slices.IndexFunc[[]int,int] -/
theorem slices_IndexFunc_int_int_impl_GoodSpace_1_eq (n : Nat) (x0 : List Int) (x1_0_0 : Int) (x1_0_1 : List Int) : c_slices_IndexFunc_int_int_impl_GoodSpace_1 (run tb orc (n + 1)) x0 x1_0_0 x1_0_1 = slices_IndexFunc_int_int_impl_GoodSpace_1_f n x0 x1_0_0 x1_0_1 := by
  rw [slices_IndexFunc_int_int_impl_GoodSpace_1_r]
  rw [show (fun x0 x1_0_0 x1_0_1 v => (slices_IndexFunc_int_int_impl_GoodSpace_1_l1 (run tb orc n) n x0 x1_0_0 x1_0_1 n) v) = (fun x0 x1_0_0 x1_0_1 v => iterO (slices_IndexFunc_int_int_impl_GoodSpace_1_g1 (run tb orc n) n x0 x1_0_0 x1_0_1 ) n v) from by funext x0 x1_0_0 x1_0_1 v; exact slices_IndexFunc_int_int_impl_GoodSpace_1_e1 n x0 x1_0_0 x1_0_1 _ v]
  rfl
noncomputable def slices_ContainsFunc_int_int_impl_GoodSpace_1_x (C0 : Ca tb) (x0 : List Int) (x1_0_0 : Int) (x1_0_1 : List Int) : Option Bool :=
  (c_slices_IndexFunc_int_int_impl_GoodSpace_1 C0 x0 x1_0_0 x1_0_1).bind fun (d1 : Int) => some (decide (d1 ≥ (0:Int)))
noncomputable def slices_ContainsFunc_int_int_impl_GoodSpace_1_f (n : Nat) (x0 : List Int) (x1_0_0 : Int) (x1_0_1 : List Int) : Option Bool :=
  slices_ContainsFunc_int_int_impl_GoodSpace_1_x (run tb orc n) x0 x1_0_0 x1_0_1 
theorem slices_ContainsFunc_int_int_impl_GoodSpace_1_r (n : Nat) (x0 : List Int) (x1_0_0 : Int) (x1_0_1 : List Int) : c_slices_ContainsFunc_int_int_impl_GoodSpace_1 (run tb orc (n + 1)) x0 x1_0_0 x1_0_1 = slices_ContainsFunc_int_int_impl_GoodSpace_1_x (run tb orc n) x0 x1_0_0 x1_0_1  := by kernel_rfl
/-- slices.ContainsFunc[[]int,int] -/
theorem slices_ContainsFunc_int_int_impl_GoodSpace_1_eq (n : Nat) (x0 : List Int) (x1_0_0 : Int) (x1_0_1 : List Int) : c_slices_ContainsFunc_int_int_impl_GoodSpace_1 (run tb orc (n + 1)) x0 x1_0_0 x1_0_1 = slices_ContainsFunc_int_int_impl_GoodSpace_1_f n x0 x1_0_0 x1_0_1 := by
  rw [slices_ContainsFunc_int_int_impl_GoodSpace_1_r]
  rfl
noncomputable def impl_GoodSpace_x (C0 : Ca tb) (x0_0 : Int) (x0_1 : List Int) : Option Bool :=
  (c_impl_isN C0 x0_0).bind fun (d1 : Bool) => if (d1) = true then (c_impl_GoodBasis C0 x0_1).bind fun (d2 : Bool) => if (d2) = true then (c_slices_ContainsFunc_int_int_impl_GoodSpace_1 C0 x0_1 x0_0 x0_1).bind fun (d3 : Bool) => some (!d3) else some (false) else some (false)
noncomputable def impl_GoodSpace_f (n : Nat) (x0_0 : Int) (x0_1 : List Int) : Option Bool :=
  impl_GoodSpace_x (run tb orc n) x0_0 x0_1 
theorem impl_GoodSpace_r (n : Nat) (x0_0 : Int) (x0_1 : List Int) : c_impl_GoodSpace (run tb orc (n + 1)) x0_0 x0_1 = impl_GoodSpace_x (run tb orc n) x0_0 x0_1  := by kernel_rfl
/-- loop.example/g00133/impl.GoodSpace -/
theorem impl_GoodSpace_eq (n : Nat) (x0_0 : Int) (x0_1 : List Int) : c_impl_GoodSpace (run tb orc (n + 1)) x0_0 x0_1 = impl_GoodSpace_f n x0_0 x0_1 := by
  rw [impl_GoodSpace_r]
  rfl
noncomputable def spec_GoodSpace_x1 (C0 : Ca tb) (self1 : (Int) → Option Bool) (x0_0 : Int) (x0_1 : List Int) (v1 : Int) : Option Bool :=
  if v1 < (x0_1.length : Int) then (if 0 ≤ v1 then (if v1 < (x0_1.length : Int) then (if wr .i64 ((2:Int) * x0_0) = 0 then none else if (wr .i64 ((x0_1.getD v1.toNat (0:Int)) - (1:Int))).tmod (wr .i64 ((2:Int) * x0_0)) = (0:Int) then self1 (wr .i64 (v1 + (1:Int))) else some (false)) else none) else none) else some (true)
noncomputable def spec_GoodSpace_l1 (C0 : Ca tb) (N0 : Nat) (x0_0 : Int) (x0_1 : List Int) (m : Nat) (v1 : Int) : Option Bool :=
  loopIt (exec tb C0 96 0 N0 (codeAt [1, 1, 0, 1, 0, 0] (bodyOf Tryd.f96))) (trim 0 [1, 16, 17, 18] 1) (contAt tb C0 96 0 N0 [1, 1, 0, 1, 0] [] (bodyOf Tryd.f96) (finish tb 96 Tryd.f96)) m ⟨[.top, .bptr 0 0, .top, .top, .top, .top, .top, .top, .top, .top, .top, .top, .top, .top, .top, .top, .sl (.int .i64) (x0_1), .int .i64 ((x0_1.length : Int)), .int .i64 (v1), .top, .top, .top, .top, .top, .top, .top, .top, .top, .top, .top], [.box [.int .i64 (x0_0), .sl (.int .i64) (x0_1)]]⟩
noncomputable def spec_GoodSpace_g1 (C0 : Ca tb) (N0 : Nat) (x0_0 : Int) (x0_1 : List Int) (self1 : (Int) → Option Bool) (v1 : Int) : Option Bool :=
  spec_GoodSpace_x1 C0 self1 x0_0 x0_1 v1
theorem spec_GoodSpace_s1 (n : Nat) (x0_0 : Int) (x0_1 : List Int) (m : Nat) (v1 : Int) : (spec_GoodSpace_l1 (run tb orc n) n x0_0 x0_1 (m + 1)) v1 = spec_GoodSpace_x1 (run tb orc n) (spec_GoodSpace_l1 (run tb orc n) n x0_0 x0_1 m) x0_0 x0_1 v1 := by kernel_rfl
theorem spec_GoodSpace_e1 (n : Nat) (x0_0 : Int) (x0_1 : List Int) : ∀ (m : Nat) (v : Int), (spec_GoodSpace_l1 (run tb orc n) n x0_0 x0_1 m) v = iterO (spec_GoodSpace_g1 (run tb orc n) n x0_0 x0_1 ) m v := by
  refine iterO_eq (fun _ => rfl) fun m v => ?_
  rw [spec_GoodSpace_s1]
  rfl
noncomputable def spec_GoodSpace_x (C0 : Ca tb) (inn1 : (Int) → (List Int) → (Int) → Option Bool) (x0_0 : Int) (x0_1 : List Int) : Option Bool :=
  (c_spec_l3Size C0 x0_0).bind fun (d1 : Bool) => if (!d1) = true then some (false) else (c_spec_GoodBasis C0 x0_1).bind fun (d2 : Bool) => if (!d2) = true then some (false) else inn1 x0_0 x0_1 ((0:Int))
noncomputable def spec_GoodSpace_f (n : Nat) (x0_0 : Int) (x0_1 : List Int) : Option Bool :=
  spec_GoodSpace_x (run tb orc n) (fun x0_0 x0_1 v => iterO (spec_GoodSpace_g1 (run tb orc n) n x0_0 x0_1 ) n v) x0_0 x0_1 
theorem spec_GoodSpace_r (n : Nat) (x0_0 : Int) (x0_1 : List Int) : c_spec_GoodSpace (run tb orc (n + 1)) x0_0 x0_1 = spec_GoodSpace_x (run tb orc n) (fun x0_0 x0_1 v => (spec_GoodSpace_l1 (run tb orc n) n x0_0 x0_1 n) v) x0_0 x0_1  := by kernel_rfl
/-- loop.example/g00133/spec.GoodSpace -/
theorem spec_GoodSpace_eq (n : Nat) (x0_0 : Int) (x0_1 : List Int) : c_spec_GoodSpace (run tb orc (n + 1)) x0_0 x0_1 = spec_GoodSpace_f n x0_0 x0_1 := by
  rw [spec_GoodSpace_r]
  rw [show (fun x0_0 x0_1 v => (spec_GoodSpace_l1 (run tb orc n) n x0_0 x0_1 n) v) = (fun x0_0 x0_1 v => iterO (spec_GoodSpace_g1 (run tb orc n) n x0_0 x0_1 ) n v) from by funext x0_0 x0_1 v; exact spec_GoodSpace_e1 n x0_0 x0_1 _ v]
  rfl
end Go.Proofs.YthanbjnpfenniaaDoor.Fw
