/- The functions' equations over the interpreter. Printed by fwgen.py. -/
import Derived.Test.YthanbjnpfenniaaDoorFwZf
import Derived.Test.YthanbjnpfenniaaDoorFwTok
import Derived.Test.YthanbjnpfenniaaDoorFwOrc
import Derived.Test.YthanbjnpfenniaaDoorEqB
import Derived.KernelRfl
import Derived.Lib.Tables
namespace Go.Proofs.YthanbjnpfenniaaDoor.Fw
open Go Go.RowKit
set_option linter.unusedVariables false
set_option maxRecDepth 100000
noncomputable def c_impl_isPoly (C : Ca tb) (x0_0 : Int) (x0_1 : Int) (x0_2 : Int) (x1 : List Int) : Option Bool := C.pure 71 [.agg [.int .i64 (x0_0), .int .i64 (x0_1), .int .i64 (x0_2)], .sl (.int .i64) (x1)]
noncomputable def c_slices_ContainsFunc_int_int_impl_isPoly_1 (C : Ca tb) (x0 : List Int) (x1_0_0 : Int) (x1_0_1 : Int) (x1_0_2 : Int) : Option Bool := C.pure 116 [.sl (.int .i64) (x0), .fn 151 [.ref [.int .i64 (x1_0_0), .int .i64 (x1_0_1), .int .i64 (x1_0_2)]]]
noncomputable def c_slices_IndexFunc_int_int_impl_isPoly_1 (C : Ca tb) (x0 : List Int) (x1_0_0 : Int) (x1_0_1 : Int) (x1_0_2 : Int) : Option Int := C.pure 169 [.sl (.int .i64) (x0), .fn 151 [.ref [.int .i64 (x1_0_0), .int .i64 (x1_0_1), .int .i64 (x1_0_2)]]]
noncomputable def c_impl_isPoly_1 (C : Ca tb) (x0 : Int) (x1_0 : Int) (x1_1 : Int) (x1_2 : Int) : Option Bool := C.pure 151 [.int .i64 (x0), .ref [.int .i64 (x1_0), .int .i64 (x1_1), .int .i64 (x1_2)]]
noncomputable def c_spec_l3Poly (C : Ca tb) (x0_0 : Int) (x0_1 : Int) (x0_2 : Int) (x1 : List Int) : Option Bool := C.pure 68 [.agg [.int .i64 (x0_0), .int .i64 (x0_1), .int .i64 (x0_2)], .sl (.int .i64) (x1)]
noncomputable def impl_isPoly_1_x (C0 : Ca tb) (x0 : Int) (x1_0 : Int) (x1_1 : Int) (x1_2 : Int) : Option Bool :=
  (c_impl_in C0 x0 (0:Int) (wr .i64 (x1_0 - (1:Int)))).bind fun (d1 : Bool) => some (!d1)
noncomputable def impl_isPoly_1_f (n : Nat) (x0 : Int) (x1_0 : Int) (x1_1 : Int) (x1_2 : Int) : Option Bool :=
  impl_isPoly_1_x (run tb orc n) x0 x1_0 x1_1 x1_2 
theorem impl_isPoly_1_r (n : Nat) (x0 : Int) (x1_0 : Int) (x1_1 : Int) (x1_2 : Int) : c_impl_isPoly_1 (run tb orc (n + 1)) x0 x1_0 x1_1 x1_2 = impl_isPoly_1_x (run tb orc n) x0 x1_0 x1_1 x1_2  := by kernel_rfl
/-- loop.example/g00133/impl.isPoly$1 -/
theorem impl_isPoly_1_eq (n : Nat) (x0 : Int) (x1_0 : Int) (x1_1 : Int) (x1_2 : Int) : c_impl_isPoly_1 (run tb orc (n + 1)) x0 x1_0 x1_1 x1_2 = impl_isPoly_1_f n x0 x1_0 x1_1 x1_2 := by
  rw [impl_isPoly_1_r]
  rfl
noncomputable def slices_IndexFunc_int_int_impl_isPoly_1_x1 (C0 : Ca tb) (self1 : (Int) → Option Int) (x0 : List Int) (x1_0_0 : Int) (x1_0_1 : Int) (x1_0_2 : Int) (v1 : Int) : Option Int :=
  if v1 < (x0.length : Int) then (if 0 ≤ v1 then (if v1 < (x0.length : Int) then (c_impl_isPoly_1 C0 (x0.getD v1.toNat (0:Int)) x1_0_0 x1_0_1 x1_0_2).bind fun (d1 : Bool) => if (d1) = true then some (v1) else self1 (wr .i64 (v1 + (1:Int))) else none) else none) else some ((-1:Int))
noncomputable def slices_IndexFunc_int_int_impl_isPoly_1_l1 (C0 : Ca tb) (N0 : Nat) (x0 : List Int) (x1_0_0 : Int) (x1_0_1 : Int) (x1_0_2 : Int) (m : Nat) (v1 : Int) : Option Int :=
  loopIt (exec tb C0 169 0 N0 (codeAt [1, 0, 1, 0, 0] (bodyOf Tryd.f169))) (trim 0 [0, 1, 7, 8] 0) (contAt tb C0 169 0 N0 [1, 0, 1, 0] [] (bodyOf Tryd.f169) (finish tb 169 Tryd.f169)) m ⟨[.sl (.int .i64) (x0), .fn 151 [.ref [.int .i64 (x1_0_0), .int .i64 (x1_0_1), .int .i64 (x1_0_2)]], .top, .top, .top, .top, .top, .int .i64 ((x0.length : Int)), .int .i64 (v1), .top, .top, .top, .top, .top, .top, .top, .top, .top, .top], []⟩
noncomputable def slices_IndexFunc_int_int_impl_isPoly_1_g1 (C0 : Ca tb) (N0 : Nat) (x0 : List Int) (x1_0_0 : Int) (x1_0_1 : Int) (x1_0_2 : Int) (self1 : (Int) → Option Int) (v1 : Int) : Option Int :=
  slices_IndexFunc_int_int_impl_isPoly_1_x1 C0 self1 x0 x1_0_0 x1_0_1 x1_0_2 v1
theorem slices_IndexFunc_int_int_impl_isPoly_1_s1 (n : Nat) (x0 : List Int) (x1_0_0 : Int) (x1_0_1 : Int) (x1_0_2 : Int) (m : Nat) (v1 : Int) : (slices_IndexFunc_int_int_impl_isPoly_1_l1 (run tb orc n) n x0 x1_0_0 x1_0_1 x1_0_2 (m + 1)) v1 = slices_IndexFunc_int_int_impl_isPoly_1_x1 (run tb orc n) (slices_IndexFunc_int_int_impl_isPoly_1_l1 (run tb orc n) n x0 x1_0_0 x1_0_1 x1_0_2 m) x0 x1_0_0 x1_0_1 x1_0_2 v1 := by kernel_rfl
theorem slices_IndexFunc_int_int_impl_isPoly_1_e1 (n : Nat) (x0 : List Int) (x1_0_0 : Int) (x1_0_1 : Int) (x1_0_2 : Int) : ∀ (m : Nat) (v : Int), (slices_IndexFunc_int_int_impl_isPoly_1_l1 (run tb orc n) n x0 x1_0_0 x1_0_1 x1_0_2 m) v = iterO (slices_IndexFunc_int_int_impl_isPoly_1_g1 (run tb orc n) n x0 x1_0_0 x1_0_1 x1_0_2 ) m v := by
  refine iterO_eq (fun _ => rfl) fun m v => ?_
  rw [slices_IndexFunc_int_int_impl_isPoly_1_s1]
  rfl
noncomputable def slices_IndexFunc_int_int_impl_isPoly_1_x (C0 : Ca tb) (inn1 : (List Int) → (Int) → (Int) → (Int) → (Int) → Option Int) (x0 : List Int) (x1_0_0 : Int) (x1_0_1 : Int) (x1_0_2 : Int) : Option Int :=
  inn1 x0 x1_0_0 x1_0_1 x1_0_2 ((0:Int))
noncomputable def slices_IndexFunc_int_int_impl_isPoly_1_f (n : Nat) (x0 : List Int) (x1_0_0 : Int) (x1_0_1 : Int) (x1_0_2 : Int) : Option Int :=
  slices_IndexFunc_int_int_impl_isPoly_1_x (run tb orc n) (fun x0 x1_0_0 x1_0_1 x1_0_2 v => iterO (slices_IndexFunc_int_int_impl_isPoly_1_g1 (run tb orc n) n x0 x1_0_0 x1_0_1 x1_0_2 ) n v) x0 x1_0_0 x1_0_1 x1_0_2 
theorem slices_IndexFunc_int_int_impl_isPoly_1_r (n : Nat) (x0 : List Int) (x1_0_0 : Int) (x1_0_1 : Int) (x1_0_2 : Int) : c_slices_IndexFunc_int_int_impl_isPoly_1 (run tb orc (n + 1)) x0 x1_0_0 x1_0_1 x1_0_2 = slices_IndexFunc_int_int_impl_isPoly_1_x (run tb orc n) (fun x0 x1_0_0 x1_0_1 x1_0_2 v => (slices_IndexFunc_int_int_impl_isPoly_1_l1 (run tb orc n) n x0 x1_0_0 x1_0_1 x1_0_2 n) v) x0 x1_0_0 x1_0_1 x1_0_2  := by kernel_rfl
/-- slices.IndexFunc[[]int,int] -/
theorem slices_IndexFunc_int_int_impl_isPoly_1_eq (n : Nat) (x0 : List Int) (x1_0_0 : Int) (x1_0_1 : Int) (x1_0_2 : Int) : c_slices_IndexFunc_int_int_impl_isPoly_1 (run tb orc (n + 1)) x0 x1_0_0 x1_0_1 x1_0_2 = slices_IndexFunc_int_int_impl_isPoly_1_f n x0 x1_0_0 x1_0_1 x1_0_2 := by
  rw [slices_IndexFunc_int_int_impl_isPoly_1_r]
  rw [show (fun x0 x1_0_0 x1_0_1 x1_0_2 v => (slices_IndexFunc_int_int_impl_isPoly_1_l1 (run tb orc n) n x0 x1_0_0 x1_0_1 x1_0_2 n) v) = (fun x0 x1_0_0 x1_0_1 x1_0_2 v => iterO (slices_IndexFunc_int_int_impl_isPoly_1_g1 (run tb orc n) n x0 x1_0_0 x1_0_1 x1_0_2 ) n v) from by funext x0 x1_0_0 x1_0_1 x1_0_2 v; exact slices_IndexFunc_int_int_impl_isPoly_1_e1 n x0 x1_0_0 x1_0_1 x1_0_2 _ v]
  rfl
noncomputable def slices_ContainsFunc_int_int_impl_isPoly_1_x (C0 : Ca tb) (x0 : List Int) (x1_0_0 : Int) (x1_0_1 : Int) (x1_0_2 : Int) : Option Bool :=
  (c_slices_IndexFunc_int_int_impl_isPoly_1 C0 x0 x1_0_0 x1_0_1 x1_0_2).bind fun (d1 : Int) => some (decide (d1 ≥ (0:Int)))
noncomputable def slices_ContainsFunc_int_int_impl_isPoly_1_f (n : Nat) (x0 : List Int) (x1_0_0 : Int) (x1_0_1 : Int) (x1_0_2 : Int) : Option Bool :=
  slices_ContainsFunc_int_int_impl_isPoly_1_x (run tb orc n) x0 x1_0_0 x1_0_1 x1_0_2 
theorem slices_ContainsFunc_int_int_impl_isPoly_1_r (n : Nat) (x0 : List Int) (x1_0_0 : Int) (x1_0_1 : Int) (x1_0_2 : Int) : c_slices_ContainsFunc_int_int_impl_isPoly_1 (run tb orc (n + 1)) x0 x1_0_0 x1_0_1 x1_0_2 = slices_ContainsFunc_int_int_impl_isPoly_1_x (run tb orc n) x0 x1_0_0 x1_0_1 x1_0_2  := by kernel_rfl
/-- slices.ContainsFunc[[]int,int] -/
theorem slices_ContainsFunc_int_int_impl_isPoly_1_eq (n : Nat) (x0 : List Int) (x1_0_0 : Int) (x1_0_1 : Int) (x1_0_2 : Int) : c_slices_ContainsFunc_int_int_impl_isPoly_1 (run tb orc (n + 1)) x0 x1_0_0 x1_0_1 x1_0_2 = slices_ContainsFunc_int_int_impl_isPoly_1_f n x0 x1_0_0 x1_0_1 x1_0_2 := by
  rw [slices_ContainsFunc_int_int_impl_isPoly_1_r]
  rfl
noncomputable def impl_isPoly_x (C0 : Ca tb) (x0_0 : Int) (x0_1 : Int) (x0_2 : Int) (x1 : List Int) : Option Bool :=
  if (x1.length : Int) = x0_1 then (c_slices_ContainsFunc_int_int_impl_isPoly_1 C0 x1 x0_0 x0_1 x0_2).bind fun (d1 : Bool) => some (!d1) else some (false)
noncomputable def impl_isPoly_f (n : Nat) (x0_0 : Int) (x0_1 : Int) (x0_2 : Int) (x1 : List Int) : Option Bool :=
  impl_isPoly_x (run tb orc n) x0_0 x0_1 x0_2 x1 
theorem impl_isPoly_r (n : Nat) (x0_0 : Int) (x0_1 : Int) (x0_2 : Int) (x1 : List Int) : c_impl_isPoly (run tb orc (n + 1)) x0_0 x0_1 x0_2 x1 = impl_isPoly_x (run tb orc n) x0_0 x0_1 x0_2 x1  := by kernel_rfl
/-- loop.example/g00133/impl.isPoly -/
theorem impl_isPoly_eq (n : Nat) (x0_0 : Int) (x0_1 : Int) (x0_2 : Int) (x1 : List Int) : c_impl_isPoly (run tb orc (n + 1)) x0_0 x0_1 x0_2 x1 = impl_isPoly_f n x0_0 x0_1 x0_2 x1 := by
  rw [impl_isPoly_r]
  rfl
noncomputable def spec_l3Poly_x1 (C0 : Ca tb) (self1 : (Int) → Option Bool) (x0_0 : Int) (x0_1 : Int) (x0_2 : Int) (x1 : List Int) (v1 : Int) : Option Bool :=
  if v1 < (x1.length : Int) then (if 0 ≤ v1 then (if v1 < (x1.length : Int) then (c_spec_l1In C0 (x1.getD v1.toNat (0:Int)) (0:Int) (wr .i64 (x0_0 - (1:Int)))).bind fun (d1 : Bool) => if (!d1) = true then some (false) else self1 (wr .i64 (v1 + (1:Int))) else none) else none) else some (true)
noncomputable def spec_l3Poly_l1 (C0 : Ca tb) (N0 : Nat) (x0_0 : Int) (x0_1 : Int) (x0_2 : Int) (x1 : List Int) (m : Nat) (v1 : Int) : Option Bool :=
  loopIt (exec tb C0 68 0 N0 (codeAt [1, 1, 0, 1, 0, 0] (bodyOf Tryd.f68))) (trim 0 [2, 12, 13, 14] 1) (contAt tb C0 68 0 N0 [1, 1, 0, 1, 0] [] (bodyOf Tryd.f68) (finish tb 68 Tryd.f68)) m ⟨[.top, .top, .bptr 0 0, .top, .top, .top, .top, .top, .top, .top, .top, .top, .sl (.int .i64) (x1), .int .i64 ((x1.length : Int)), .int .i64 (v1), .top, .top, .top, .top, .top, .top, .top, .top, .top, .top], [.box [.int .i64 (x0_0), .int .i64 (x0_1), .int .i64 (x0_2)]]⟩
noncomputable def spec_l3Poly_g1 (C0 : Ca tb) (N0 : Nat) (x0_0 : Int) (x0_1 : Int) (x0_2 : Int) (x1 : List Int) (self1 : (Int) → Option Bool) (v1 : Int) : Option Bool :=
  spec_l3Poly_x1 C0 self1 x0_0 x0_1 x0_2 x1 v1
theorem spec_l3Poly_s1 (n : Nat) (x0_0 : Int) (x0_1 : Int) (x0_2 : Int) (x1 : List Int) (m : Nat) (v1 : Int) : (spec_l3Poly_l1 (run tb orc n) n x0_0 x0_1 x0_2 x1 (m + 1)) v1 = spec_l3Poly_x1 (run tb orc n) (spec_l3Poly_l1 (run tb orc n) n x0_0 x0_1 x0_2 x1 m) x0_0 x0_1 x0_2 x1 v1 := by kernel_rfl
theorem spec_l3Poly_e1 (n : Nat) (x0_0 : Int) (x0_1 : Int) (x0_2 : Int) (x1 : List Int) : ∀ (m : Nat) (v : Int), (spec_l3Poly_l1 (run tb orc n) n x0_0 x0_1 x0_2 x1 m) v = iterO (spec_l3Poly_g1 (run tb orc n) n x0_0 x0_1 x0_2 x1 ) m v := by
  refine iterO_eq (fun _ => rfl) fun m v => ?_
  rw [spec_l3Poly_s1]
  rfl
noncomputable def spec_l3Poly_x (C0 : Ca tb) (inn1 : (Int) → (Int) → (Int) → (List Int) → (Int) → Option Bool) (x0_0 : Int) (x0_1 : Int) (x0_2 : Int) (x1 : List Int) : Option Bool :=
  if (x1.length : Int) = x0_1 then inn1 x0_0 x0_1 x0_2 x1 ((0:Int)) else some (false)
noncomputable def spec_l3Poly_f (n : Nat) (x0_0 : Int) (x0_1 : Int) (x0_2 : Int) (x1 : List Int) : Option Bool :=
  spec_l3Poly_x (run tb orc n) (fun x0_0 x0_1 x0_2 x1 v => iterO (spec_l3Poly_g1 (run tb orc n) n x0_0 x0_1 x0_2 x1 ) n v) x0_0 x0_1 x0_2 x1 
theorem spec_l3Poly_r (n : Nat) (x0_0 : Int) (x0_1 : Int) (x0_2 : Int) (x1 : List Int) : c_spec_l3Poly (run tb orc (n + 1)) x0_0 x0_1 x0_2 x1 = spec_l3Poly_x (run tb orc n) (fun x0_0 x0_1 x0_2 x1 v => (spec_l3Poly_l1 (run tb orc n) n x0_0 x0_1 x0_2 x1 n) v) x0_0 x0_1 x0_2 x1  := by kernel_rfl
/-- loop.example/g00133/spec.l3Poly -/
theorem spec_l3Poly_eq (n : Nat) (x0_0 : Int) (x0_1 : Int) (x0_2 : Int) (x1 : List Int) : c_spec_l3Poly (run tb orc (n + 1)) x0_0 x0_1 x0_2 x1 = spec_l3Poly_f n x0_0 x0_1 x0_2 x1 := by
  rw [spec_l3Poly_r]
  rw [show (fun x0_0 x0_1 x0_2 x1 v => (spec_l3Poly_l1 (run tb orc n) n x0_0 x0_1 x0_2 x1 n) v) = (fun x0_0 x0_1 x0_2 x1 v => iterO (spec_l3Poly_g1 (run tb orc n) n x0_0 x0_1 x0_2 x1 ) n v) from by funext x0_0 x0_1 x0_2 x1 v; exact spec_l3Poly_e1 n x0_0 x0_1 x0_2 x1 _ v]
  rfl
end Go.Proofs.YthanbjnpfenniaaDoor.Fw
