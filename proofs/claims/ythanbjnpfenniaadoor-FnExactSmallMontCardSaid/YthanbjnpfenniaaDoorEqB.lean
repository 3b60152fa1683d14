/- The functions' equations over the interpreter. Printed by fwgen.py. -/
import Derived.Test.YthanbjnpfenniaaDoorFwZf
import Derived.Test.YthanbjnpfenniaaDoorFwTok
import Derived.Test.YthanbjnpfenniaaDoorFwOrc
import Derived.Test.YthanbjnpfenniaaDoorEqP
import Derived.KernelRfl
import Derived.Lib.Tables
namespace Go.Proofs.YthanbjnpfenniaaDoor.Fw
open Go Go.RowKit
set_option linter.unusedVariables false
set_option maxRecDepth 100000
noncomputable def c_impl_GoodBasis (C : Ca tb) (x0 : List Int) : Option Bool := C.pure 65 [.sl (.int .i64) (x0)]
noncomputable def c_slices_Contains_int_int (C : Ca tb) (x0 : List Int) (x1 : Int) : Option Bool := C.pure 118 [.sl (.int .i64) (x0), .int .i64 (x1)]
noncomputable def c_slices_Index_int_int (C : Ca tb) (x0 : List Int) (x1 : Int) : Option Int := C.pure 170 [.sl (.int .i64) (x0), .int .i64 (x1)]
noncomputable def c_impl_isPrimeModulus (C : Ca tb) (x0 : Int) : Option Bool := C.pure 144 [.int .i64 (x0)]
noncomputable def c_impl_isModulus (C : Ca tb) (x0 : Int) : Option Bool := C.pure 182 [.int .i64 (x0)]
noncomputable def c_impl_in (C : Ca tb) (x0 : Int) (x1 : Int) (x2 : Int) : Option Bool := C.pure 132 [.int .i64 (x0), .int .i64 (x1), .int .i64 (x2)]
noncomputable def c_spec_GoodBasis (C : Ca tb) (x0 : List Int) : Option Bool := C.pure 62 [.sl (.int .i64) (x0)]
noncomputable def c_spec_l1Modulus (C : Ca tb) (x0 : Int) : Option Bool := C.pure 140 [.int .i64 (x0)]
noncomputable def c_spec_l1In (C : Ca tb) (x0 : Int) (x1 : Int) (x2 : Int) : Option Bool := C.pure 126 [.int .i64 (x0), .int .i64 (x1), .int .i64 (x2)]
noncomputable def slices_Index_int_int_x1 (C0 : Ca tb) (self1 : (Int) → Option Int) (x0 : List Int) (x1 : Int) (v1 : Int) : Option Int :=
  if v1 < (x0.length : Int) then (if 0 ≤ v1 then (if v1 < (x0.length : Int) then (if x1 = x0.getD v1.toNat (0:Int) then some (v1) else self1 (wr .i64 (v1 + (1:Int)))) else none) else none) else some ((-1:Int))
noncomputable def slices_Index_int_int_l1 (C0 : Ca tb) (N0 : Nat) (x0 : List Int) (x1 : Int) (m : Nat) (v1 : Int) : Option Int :=
  loopIt (exec tb C0 170 0 N0 (codeAt [1, 0, 1, 0, 0] (bodyOf Tryd.f170))) (trim 0 [0, 1, 7, 8] 0) (contAt tb C0 170 0 N0 [1, 0, 1, 0] [] (bodyOf Tryd.f170) (finish tb 170 Tryd.f170)) m ⟨[.sl (.int .i64) (x0), .int .i64 (x1), .top, .top, .top, .top, .top, .int .i64 ((x0.length : Int)), .int .i64 (v1), .top, .top, .top, .top, .top, .top, .top, .top, .top, .top], []⟩
noncomputable def slices_Index_int_int_g1 (C0 : Ca tb) (N0 : Nat) (x0 : List Int) (x1 : Int) (self1 : (Int) → Option Int) (v1 : Int) : Option Int :=
  slices_Index_int_int_x1 C0 self1 x0 x1 v1
theorem slices_Index_int_int_s1 (n : Nat) (x0 : List Int) (x1 : Int) (m : Nat) (v1 : Int) : (slices_Index_int_int_l1 (run tb orc n) n x0 x1 (m + 1)) v1 = slices_Index_int_int_x1 (run tb orc n) (slices_Index_int_int_l1 (run tb orc n) n x0 x1 m) x0 x1 v1 := by kernel_rfl
theorem slices_Index_int_int_e1 (n : Nat) (x0 : List Int) (x1 : Int) : ∀ (m : Nat) (v : Int), (slices_Index_int_int_l1 (run tb orc n) n x0 x1 m) v = iterO (slices_Index_int_int_g1 (run tb orc n) n x0 x1 ) m v := by
  refine iterO_eq (fun _ => rfl) fun m v => ?_
  rw [slices_Index_int_int_s1]
  rfl
noncomputable def slices_Index_int_int_x (C0 : Ca tb) (inn1 : (List Int) → (Int) → (Int) → Option Int) (x0 : List Int) (x1 : Int) : Option Int :=
  inn1 x0 x1 ((0:Int))
noncomputable def slices_Index_int_int_f (n : Nat) (x0 : List Int) (x1 : Int) : Option Int :=
  slices_Index_int_int_x (run tb orc n) (fun x0 x1 v => iterO (slices_Index_int_int_g1 (run tb orc n) n x0 x1 ) n v) x0 x1 
theorem slices_Index_int_int_r (n : Nat) (x0 : List Int) (x1 : Int) : c_slices_Index_int_int (run tb orc (n + 1)) x0 x1 = slices_Index_int_int_x (run tb orc n) (fun x0 x1 v => (slices_Index_int_int_l1 (run tb orc n) n x0 x1 n) v) x0 x1  := by kernel_rfl
/-- slices.Index[[]int,int] -/
theorem slices_Index_int_int_eq (n : Nat) (x0 : List Int) (x1 : Int) : c_slices_Index_int_int (run tb orc (n + 1)) x0 x1 = slices_Index_int_int_f n x0 x1 := by
  rw [slices_Index_int_int_r]
  rw [show (fun x0 x1 v => (slices_Index_int_int_l1 (run tb orc n) n x0 x1 n) v) = (fun x0 x1 v => iterO (slices_Index_int_int_g1 (run tb orc n) n x0 x1 ) n v) from by funext x0 x1 v; exact slices_Index_int_int_e1 n x0 x1 _ v]
  rfl
noncomputable def slices_Contains_int_int_x (C0 : Ca tb) (x0 : List Int) (x1 : Int) : Option Bool :=
  (c_slices_Index_int_int C0 x0 x1).bind fun (d1 : Int) => some (decide (d1 ≥ (0:Int)))
noncomputable def slices_Contains_int_int_f (n : Nat) (x0 : List Int) (x1 : Int) : Option Bool :=
  slices_Contains_int_int_x (run tb orc n) x0 x1 
theorem slices_Contains_int_int_r (n : Nat) (x0 : List Int) (x1 : Int) : c_slices_Contains_int_int (run tb orc (n + 1)) x0 x1 = slices_Contains_int_int_x (run tb orc n) x0 x1  := by kernel_rfl
/-- slices.Contains[[]int,int] -/
theorem slices_Contains_int_int_eq (n : Nat) (x0 : List Int) (x1 : Int) : c_slices_Contains_int_int (run tb orc (n + 1)) x0 x1 = slices_Contains_int_int_f n x0 x1 := by
  rw [slices_Contains_int_int_r]
  rfl
noncomputable def impl_in_x (C0 : Ca tb) (x0 : Int) (x1 : Int) (x2 : Int) : Option Bool :=
  if x1 ≤ x0 then some (decide (x0 ≤ x2)) else some (false)
noncomputable def impl_in_f (n : Nat) (x0 : Int) (x1 : Int) (x2 : Int) : Option Bool :=
  impl_in_x (run tb orc n) x0 x1 x2 
theorem impl_in_r (n : Nat) (x0 : Int) (x1 : Int) (x2 : Int) : c_impl_in (run tb orc (n + 1)) x0 x1 x2 = impl_in_x (run tb orc n) x0 x1 x2  := by kernel_rfl
/-- loop.example/g00133/impl.in -/
theorem impl_in_eq (n : Nat) (x0 : Int) (x1 : Int) (x2 : Int) : c_impl_in (run tb orc (n + 1)) x0 x1 x2 = impl_in_f n x0 x1 x2 := by
  rw [impl_in_r]
  rfl
noncomputable def impl_isModulus_x (C0 : Ca tb) (x0 : Int) : Option Bool :=
  (c_impl_in C0 x0 (2:Int) (268435456:Int)).bind fun (d1 : Bool) => some (d1)
noncomputable def impl_isModulus_f (n : Nat) (x0 : Int) : Option Bool :=
  impl_isModulus_x (run tb orc n) x0 
theorem impl_isModulus_r (n : Nat) (x0 : Int) : c_impl_isModulus (run tb orc (n + 1)) x0 = impl_isModulus_x (run tb orc n) x0  := by kernel_rfl
/-- loop.example/g00133/impl.isModulus -/
theorem impl_isModulus_eq (n : Nat) (x0 : Int) : c_impl_isModulus (run tb orc (n + 1)) x0 = impl_isModulus_f n x0 := by
  rw [impl_isModulus_r]
  rfl
noncomputable def impl_isPrimeModulus_x (C0 : Ca tb) (x0 : Int) : Option Bool :=
  (c_impl_isModulus C0 x0).bind fun (d1 : Bool) => if (d1) = true then (c_impl_IsPrime C0 (wr .u64 (x0))).bind fun (d2 : Bool) => some (d2) else some (false)
noncomputable def impl_isPrimeModulus_f (n : Nat) (x0 : Int) : Option Bool :=
  impl_isPrimeModulus_x (run tb orc n) x0 
theorem impl_isPrimeModulus_r (n : Nat) (x0 : Int) : c_impl_isPrimeModulus (run tb orc (n + 1)) x0 = impl_isPrimeModulus_x (run tb orc n) x0  := by kernel_rfl
/-- loop.example/g00133/impl.isPrimeModulus -/
theorem impl_isPrimeModulus_eq (n : Nat) (x0 : Int) : c_impl_isPrimeModulus (run tb orc (n + 1)) x0 = impl_isPrimeModulus_f n x0 := by
  rw [impl_isPrimeModulus_r]
  rfl
noncomputable def impl_GoodBasis_x1 (C0 : Ca tb) (self1 : (Int) → Option Bool) (x0 : List Int) (v1 : Int) : Option Bool :=
  if v1 < (x0.length : Int) then (if 0 ≤ v1 then (if v1 < (x0.length : Int) then (if v1 ≥ (6:Int) then some (false) else (c_impl_isPrimeModulus C0 (x0.getD v1.toNat (0:Int))).bind fun (d1 : Bool) => if (!d1) = true then some (false) else if 0 ≤ (0:Int) then (if (0:Int) ≤ v1 then (if v1 ≤ (x0.length : Int) then (if (x0.length : Int) ≤ (x0.length : Int) then ((c_slices_Contains_int_int C0 ((x0.take v1.toNat).drop (0:Int).toNat) (x0.getD v1.toNat (0:Int))).bind fun (d2 : Bool) => if (d2) = true then some (false) else self1 (wr .i64 (v1 + (1:Int)))) else none) else none) else none) else none) else none) else none) else some (decide ((x0.length : Int) > (0:Int)))
noncomputable def impl_GoodBasis_l1 (C0 : Ca tb) (N0 : Nat) (x0 : List Int) (m : Nat) (v1 : Int) : Option Bool :=
  loopIt (exec tb C0 65 0 N0 (codeAt [1, 0, 1, 0, 0] (bodyOf Tryd.f65))) (trim 0 [0, 5, 6, 7] 0) (contAt tb C0 65 0 N0 [1, 0, 1, 0] [] (bodyOf Tryd.f65) (finish tb 65 Tryd.f65)) m ⟨[.sl (.int .i64) (x0), .top, .top, .top, .top, .sl (.int .i64) (x0), .int .i64 ((x0.length : Int)), .int .i64 (v1), .top, .top, .top, .top, .top, .top, .top, .top, .top, .top, .top, .top, .top, .top, .top, .top, .top, .top, .top, .top, .top, .top], []⟩
noncomputable def impl_GoodBasis_g1 (C0 : Ca tb) (N0 : Nat) (x0 : List Int) (self1 : (Int) → Option Bool) (v1 : Int) : Option Bool :=
  impl_GoodBasis_x1 C0 self1 x0 v1
theorem impl_GoodBasis_s1 (n : Nat) (x0 : List Int) (m : Nat) (v1 : Int) : (impl_GoodBasis_l1 (run tb orc n) n x0 (m + 1)) v1 = impl_GoodBasis_x1 (run tb orc n) (impl_GoodBasis_l1 (run tb orc n) n x0 m) x0 v1 := by kernel_rfl
theorem impl_GoodBasis_e1 (n : Nat) (x0 : List Int) : ∀ (m : Nat) (v : Int), (impl_GoodBasis_l1 (run tb orc n) n x0 m) v = iterO (impl_GoodBasis_g1 (run tb orc n) n x0 ) m v := by
  refine iterO_eq (fun _ => rfl) fun m v => ?_
  rw [impl_GoodBasis_s1]
  rfl
noncomputable def impl_GoodBasis_x (C0 : Ca tb) (inn1 : (List Int) → (Int) → Option Bool) (x0 : List Int) : Option Bool :=
  inn1 x0 ((0:Int))
noncomputable def impl_GoodBasis_f (n : Nat) (x0 : List Int) : Option Bool :=
  impl_GoodBasis_x (run tb orc n) (fun x0 v => iterO (impl_GoodBasis_g1 (run tb orc n) n x0 ) n v) x0 
theorem impl_GoodBasis_r (n : Nat) (x0 : List Int) : c_impl_GoodBasis (run tb orc (n + 1)) x0 = impl_GoodBasis_x (run tb orc n) (fun x0 v => (impl_GoodBasis_l1 (run tb orc n) n x0 n) v) x0  := by kernel_rfl
/-- loop.example/g00133/impl.GoodBasis -/
theorem impl_GoodBasis_eq (n : Nat) (x0 : List Int) : c_impl_GoodBasis (run tb orc (n + 1)) x0 = impl_GoodBasis_f n x0 := by
  rw [impl_GoodBasis_r]
  rw [show (fun x0 v => (impl_GoodBasis_l1 (run tb orc n) n x0 n) v) = (fun x0 v => iterO (impl_GoodBasis_g1 (run tb orc n) n x0 ) n v) from by funext x0 v; exact impl_GoodBasis_e1 n x0 _ v]
  rfl
noncomputable def spec_l1In_x (C0 : Ca tb) (x0 : Int) (x1 : Int) (x2 : Int) : Option Bool :=
  if x0 ≥ x1 then some (decide (x0 ≤ x2)) else some (false)
noncomputable def spec_l1In_f (n : Nat) (x0 : Int) (x1 : Int) (x2 : Int) : Option Bool :=
  spec_l1In_x (run tb orc n) x0 x1 x2 
theorem spec_l1In_r (n : Nat) (x0 : Int) (x1 : Int) (x2 : Int) : c_spec_l1In (run tb orc (n + 1)) x0 x1 x2 = spec_l1In_x (run tb orc n) x0 x1 x2  := by kernel_rfl
/-- loop.example/g00133/spec.l1In -/
theorem spec_l1In_eq (n : Nat) (x0 : Int) (x1 : Int) (x2 : Int) : c_spec_l1In (run tb orc (n + 1)) x0 x1 x2 = spec_l1In_f n x0 x1 x2 := by
  rw [spec_l1In_r]
  rfl
noncomputable def spec_l1Modulus_x (C0 : Ca tb) (x0 : Int) : Option Bool :=
  (c_spec_l1In C0 x0 (2:Int) (268435456:Int)).bind fun (d1 : Bool) => some (d1)
noncomputable def spec_l1Modulus_f (n : Nat) (x0 : Int) : Option Bool :=
  spec_l1Modulus_x (run tb orc n) x0 
theorem spec_l1Modulus_r (n : Nat) (x0 : Int) : c_spec_l1Modulus (run tb orc (n + 1)) x0 = spec_l1Modulus_x (run tb orc n) x0  := by kernel_rfl
/-- loop.example/g00133/spec.l1Modulus -/
theorem spec_l1Modulus_eq (n : Nat) (x0 : Int) : c_spec_l1Modulus (run tb orc (n + 1)) x0 = spec_l1Modulus_f n x0 := by
  rw [spec_l1Modulus_r]
  rfl
noncomputable def spec_GoodBasis_x2 (C0 : Ca tb) (self1 : (Int) → Option Bool) (self2 : (Int) → Option Bool) (x0 : List Int) (v1 : Int) (v2 : Int) : Option Bool :=
  if v2 < (((x0.take v1.toNat).drop (0:Int).toNat).length : Int) then (if 0 ≤ v2 then (if v2 < (((x0.take v1.toNat).drop (0:Int).toNat).length : Int) then (if x0.getD v1.toNat (0:Int) = ((x0.take v1.toNat).drop (0:Int).toNat).getD v2.toNat (0:Int) then some (false) else self2 (wr .i64 (v2 + (1:Int)))) else none) else none) else self1 (wr .i64 (v1 + (1:Int)))
noncomputable def spec_GoodBasis_l2 (C0 : Ca tb) (N0 : Nat) (m1 : Nat) (x0 : List Int) (v1 : Int) (m : Nat) (v2 : Int) : Option Bool :=
  loopIt (exec tb C0 62 0 N0 (codeAt [1, 1, 0, 1, 0, 0, 1, 1, 0, 0, 1, 1, 1, 0, 0] (bodyOf Tryd.f62))) (trim 0 [0, 4, 11, 12, 13, 29, 30, 31] 0) (contAt tb C0 62 0 N0 [1, 1, 0, 1, 0, 0, 1, 1, 0, 0, 1, 1, 1, 0] [(m1, trim 0 [0, 11, 12, 13] 0)] (bodyOf Tryd.f62) (finish tb 62 Tryd.f62)) m ⟨[.sl (.int .i64) (x0), .top, .top, .top, .int .i64 (x0.getD v1.toNat (0:Int)), .top, .top, .top, .top, .top, .top, .sl (.int .i64) (x0), .int .i64 ((x0.length : Int)), .int .i64 (v1), .top, .top, .top, .top, .top, .top, .top, .top, .top, .top, .top, .top, .top, .top, .top, .sl (.int .i64) ((x0.take v1.toNat).drop (0:Int).toNat), .int .i64 ((((x0.take v1.toNat).drop (0:Int).toNat).length : Int)), .int .i64 (v2), .top, .top, .top, .top, .top, .top, .top, .top], []⟩
noncomputable def spec_GoodBasis_x1 (C0 : Ca tb) (self1 : (Int) → Option Bool) (inn2 : (List Int) → (Int) → (Int) → Option Bool) (x0 : List Int) (v1 : Int) : Option Bool :=
  if v1 < (x0.length : Int) then (if 0 ≤ v1 then (if v1 < (x0.length : Int) then (c_spec_l1Modulus C0 (x0.getD v1.toNat (0:Int))).bind fun (d2 : Bool) => if (!d2) = true then some (false) else (c_spec_IsPrime C0 (wr .u64 (x0.getD v1.toNat (0:Int)))).bind fun (d3 : Bool) => if (!d3) = true then some (false) else if 0 ≤ (0:Int) then (if (0:Int) ≤ v1 then (if v1 ≤ (x0.length : Int) then (if (x0.length : Int) ≤ (x0.length : Int) then (inn2 x0 v1 ((0:Int))) else none) else none) else none) else none else none) else none) else some (true)
noncomputable def spec_GoodBasis_l1 (C0 : Ca tb) (N0 : Nat) (x0 : List Int) (m : Nat) (v1 : Int) : Option Bool :=
  loopIt (exec tb C0 62 0 N0 (codeAt [1, 1, 0, 1, 0, 0] (bodyOf Tryd.f62))) (trim 0 [0, 11, 12, 13] 0) (contAt tb C0 62 0 N0 [1, 1, 0, 1, 0] [] (bodyOf Tryd.f62) (finish tb 62 Tryd.f62)) m ⟨[.sl (.int .i64) (x0), .top, .top, .top, .top, .top, .top, .top, .top, .top, .top, .sl (.int .i64) (x0), .int .i64 ((x0.length : Int)), .int .i64 (v1), .top, .top, .top, .top, .top, .top, .top, .top, .top, .top, .top, .top, .top, .top, .top, .top, .top, .top, .top, .top, .top, .top, .top, .top, .top, .top], []⟩
noncomputable def spec_GoodBasis_g2 (C0 : Ca tb) (N0 : Nat) (self1 : (Int) → Option Bool) (x0 : List Int) (v1 : Int) (self2 : (Int) → Option Bool) (v2 : Int) : Option Bool :=
  spec_GoodBasis_x2 C0 self1 self2 x0 v1 v2
noncomputable def spec_GoodBasis_g1 (C0 : Ca tb) (N0 : Nat) (x0 : List Int) (self1 : (Int) → Option Bool) (v1 : Int) : Option Bool :=
  spec_GoodBasis_x1 C0 self1 (fun x0 v1 v => iterO (spec_GoodBasis_g2 C0 N0 self1 x0 v1 ) N0 v) x0 v1
theorem spec_GoodBasis_s2 (n : Nat) (m1 : Nat) (x0 : List Int) (v1 : Int) (m : Nat) (v2 : Int) : (spec_GoodBasis_l2 (run tb orc n) n m1 x0 v1 (m + 1)) v2 = spec_GoodBasis_x2 (run tb orc n) (spec_GoodBasis_l1 (run tb orc n) n x0 m1) (spec_GoodBasis_l2 (run tb orc n) n m1 x0 v1 m) x0 v1 v2 := by kernel_rfl
theorem spec_GoodBasis_e2 (n : Nat) (m1 : Nat) (x0 : List Int) (v1 : Int) : ∀ (m : Nat) (v : Int), (spec_GoodBasis_l2 (run tb orc n) n m1 x0 v1 m) v = iterO (spec_GoodBasis_g2 (run tb orc n) n (spec_GoodBasis_l1 (run tb orc n) n x0 m1) x0 v1 ) m v := by
  refine iterO_eq (fun _ => rfl) fun m v => ?_
  rw [spec_GoodBasis_s2]
  rfl
theorem spec_GoodBasis_s1 (n : Nat) (x0 : List Int) (m : Nat) (v1 : Int) : (spec_GoodBasis_l1 (run tb orc n) n x0 (m + 1)) v1 = spec_GoodBasis_x1 (run tb orc n) (spec_GoodBasis_l1 (run tb orc n) n x0 m) (fun x0 v1 v => (spec_GoodBasis_l2 (run tb orc n) n m x0 v1 n) v) x0 v1 := by kernel_rfl
theorem spec_GoodBasis_e1 (n : Nat) (x0 : List Int) : ∀ (m : Nat) (v : Int), (spec_GoodBasis_l1 (run tb orc n) n x0 m) v = iterO (spec_GoodBasis_g1 (run tb orc n) n x0 ) m v := by
  refine iterO_eq (fun _ => rfl) fun m v => ?_
  rw [spec_GoodBasis_s1]
  rw [show (fun x0 v1 v => (spec_GoodBasis_l2 (run tb orc n) n m x0 v1 n) v) = (fun x0 v1 v => iterO (spec_GoodBasis_g2 (run tb orc n) n (spec_GoodBasis_l1 (run tb orc n) n x0 m) x0 v1 ) n v) from by funext x0 v1 v; exact spec_GoodBasis_e2 n m x0 v1 _ v]
  unfold spec_GoodBasis_g1 spec_GoodBasis_x1
  rfl
noncomputable def spec_GoodBasis_x (C0 : Ca tb) (inn1 : (List Int) → (Int) → Option Bool) (x0 : List Int) : Option Bool :=
  (c_spec_l1In C0 (x0.length : Int) (1:Int) (6:Int)).bind fun (d1 : Bool) => if (!d1) = true then some (false) else inn1 x0 ((0:Int))
noncomputable def spec_GoodBasis_f (n : Nat) (x0 : List Int) : Option Bool :=
  spec_GoodBasis_x (run tb orc n) (fun x0 v => iterO (spec_GoodBasis_g1 (run tb orc n) n x0 ) n v) x0 
theorem spec_GoodBasis_r (n : Nat) (x0 : List Int) : c_spec_GoodBasis (run tb orc (n + 1)) x0 = spec_GoodBasis_x (run tb orc n) (fun x0 v => (spec_GoodBasis_l1 (run tb orc n) n x0 n) v) x0  := by kernel_rfl
/-- loop.example/g00133/spec.GoodBasis -/
theorem spec_GoodBasis_eq (n : Nat) (x0 : List Int) : c_spec_GoodBasis (run tb orc (n + 1)) x0 = spec_GoodBasis_f n x0 := by
  rw [spec_GoodBasis_r]
  rw [show (fun x0 v => (spec_GoodBasis_l1 (run tb orc n) n x0 n) v) = (fun x0 v => iterO (spec_GoodBasis_g1 (run tb orc n) n x0 ) n v) from by funext x0 v; exact spec_GoodBasis_e1 n x0 _ v]
  rfl
end Go.Proofs.YthanbjnpfenniaaDoor.Fw
