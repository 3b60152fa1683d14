/- The functions' equations over the interpreter. Printed by fwgen.py. -/
import Derived.Test.YthanbjnpfenniaaDoorFwZf
import Derived.Test.YthanbjnpfenniaaDoorFwTok
import Derived.Test.YthanbjnpfenniaaDoorFwOrc
import Derived.Test.YthanbjnpfenniaaDoorEqM
import Derived.Test.YthanbjnpfenniaaDoorEqV
import Derived.Test.YthanbjnpfenniaaDoorEqW
import Derived.Test.YthanbjnpfenniaaDoorEqInv
import Derived.Test.YthanbjnpfenniaaDoorEqAd
import Derived.KernelRfl
import Derived.Lib.Tables
namespace Go.Proofs.YthanbjnpfenniaaDoor.Fw
open Go Go.RowKit
set_option linter.unusedVariables false
set_option maxRecDepth 100000
noncomputable def c_impl_inverseOf (C : Ca tb) (x0_0 : Bool) (x0_1 : List Int) (x1 : Int) : Option Int := C.pure 120 [.agg [.bool (x0_0), .sl (.int .i64) (x0_1)], .int .i64 (x1)]
noncomputable def c_impl_fast (C : Ca tb) (x0 : List Int) (x1 : List Int) (x2 : Int) : Option Int := C.pure 95 [.sl (.int .i64) (x0), .sl (.int .i64) (x1), .int .i64 (x2)]
noncomputable def c_impl_tops (C : Ca tb) (x0 : List Int) (x1 : List Int) : Option (List Int) := C.pure 92 [.sl (.int .i64) (x0), .sl (.int .i64) (x1)]
noncomputable def c_spec_l6Sum (C : Ca tb) (x0 : List Int) (x1 : List Int) : Option (List Int) := C.pure 90 [.sl (.int .i64) (x0), .sl (.int .i64) (x1)]
noncomputable def c_spec_l4Punctured (C : Ca tb) (x0 : List Int) (x1 : Int) : Option (List Int) := C.pure 64 [.sl (.int .i64) (x0), .int .i64 (x1)]
noncomputable def c_spec_l4Product (C : Ca tb) (x0 : List Int) : Option (List Int) := C.pure 111 [.sl (.int .i64) (x0)]
noncomputable def impl_inverseOf_x (C0 : Ca tb) (x0_0 : Bool) (x0_1 : List Int) (x1 : Int) : Option Int :=
  (c_impl_modW C0 x0_0 x0_1 x1).bind fun (d1 : Int) => (c_impl_inverse C0 d1 x1).bind fun (d2 : Int × Bool) => some (d2.1)
noncomputable def impl_inverseOf_f (n : Nat) (x0_0 : Bool) (x0_1 : List Int) (x1 : Int) : Option Int :=
  impl_inverseOf_x (run tb orc n) x0_0 x0_1 x1 
theorem impl_inverseOf_r (n : Nat) (x0_0 : Bool) (x0_1 : List Int) (x1 : Int) : c_impl_inverseOf (run tb orc (n + 1)) x0_0 x0_1 x1 = impl_inverseOf_x (run tb orc n) x0_0 x0_1 x1  := by kernel_rfl
/-- loop.example/g00133/impl.inverseOf -/
theorem impl_inverseOf_eq (n : Nat) (x0_0 : Bool) (x0_1 : List Int) (x1 : Int) : c_impl_inverseOf (run tb orc (n + 1)) x0_0 x0_1 x1 = impl_inverseOf_f n x0_0 x0_1 x1 := by
  rw [impl_inverseOf_r]
  rfl
noncomputable def impl_fast_x1 (C0 : Ca tb) (self1 : (Int × Int) → Option Int) (x0 : List Int) (x1 : List Int) (x2 : Int) (v1 : Int × Int) : Option Int :=
  if v1.2 < (x0.length : Int) then (if 0 ≤ v1.2 then (if v1.2 < (x0.length : Int) then (if x2 = 0 then none else (c_impl_product C0 x1 v1.2).bind fun (d1 : Bool × List Int) => (c_impl_modW C0 d1.1 d1.2 x2).bind fun (d2 : Int) => if x2 = 0 then none else self1 ((wr .i64 (v1.1 + (wr .i64 (((x0.getD v1.2.toNat (0:Int)).tmod x2) * d2)))).tmod x2, wr .i64 (v1.2 + (1:Int)))) else none) else none) else some (v1.1)
noncomputable def impl_fast_l1 (C0 : Ca tb) (N0 : Nat) (x0 : List Int) (x1 : List Int) (x2 : Int) (m : Nat) (v1 : Int × Int) : Option Int :=
  loopIt (exec tb C0 95 0 N0 (codeAt [1, 1, 0, 1, 0, 0] (bodyOf Tryd.f95))) (trim 0 [1, 2, 7, 10, 11, 12] 0) (contAt tb C0 95 0 N0 [1, 1, 0, 1, 0] [] (bodyOf Tryd.f95) (finish tb 95 Tryd.f95)) m ⟨[.top, .sl (.int .i64) (x1), .int .i64 (x2), .top, .top, .top, .top, .int .i64 (v1.1), .top, .top, .sl (.int .i64) (x0), .int .i64 ((x0.length : Int)), .int .i64 (v1.2), .top, .top, .top, .top, .top, .top, .top, .top, .top, .top, .top, .top, .top, .top, .top, .top, .top, .top, .top], []⟩
noncomputable def impl_fast_g1 (C0 : Ca tb) (N0 : Nat) (x0 : List Int) (x1 : List Int) (x2 : Int) (self1 : (Int × Int) → Option Int) (v1 : Int × Int) : Option Int :=
  impl_fast_x1 C0 self1 x0 x1 x2 v1
theorem impl_fast_s1 (n : Nat) (x0 : List Int) (x1 : List Int) (x2 : Int) (m : Nat) (v1 : Int × Int) : (impl_fast_l1 (run tb orc n) n x0 x1 x2 (m + 1)) v1 = impl_fast_x1 (run tb orc n) (impl_fast_l1 (run tb orc n) n x0 x1 x2 m) x0 x1 x2 v1 := by kernel_rfl
theorem impl_fast_e1 (n : Nat) (x0 : List Int) (x1 : List Int) (x2 : Int) : ∀ (m : Nat) (v : Int × Int), (impl_fast_l1 (run tb orc n) n x0 x1 x2 m) v = iterO (impl_fast_g1 (run tb orc n) n x0 x1 x2 ) m v := by
  refine iterO_eq (fun _ => rfl) fun m v => ?_
  rw [impl_fast_s1]
  rfl
noncomputable def impl_fast_x (C0 : Ca tb) (inn1 : (List Int) → (List Int) → (Int) → (Int × Int) → Option Int) (x0 : List Int) (x1 : List Int) (x2 : Int) : Option Int :=
  inn1 x0 x1 x2 ((0:Int), (0:Int))
noncomputable def impl_fast_f (n : Nat) (x0 : List Int) (x1 : List Int) (x2 : Int) : Option Int :=
  impl_fast_x (run tb orc n) (fun x0 x1 x2 v => iterO (impl_fast_g1 (run tb orc n) n x0 x1 x2 ) n v) x0 x1 x2 
theorem impl_fast_r (n : Nat) (x0 : List Int) (x1 : List Int) (x2 : Int) : c_impl_fast (run tb orc (n + 1)) x0 x1 x2 = impl_fast_x (run tb orc n) (fun x0 x1 x2 v => (impl_fast_l1 (run tb orc n) n x0 x1 x2 n) v) x0 x1 x2  := by kernel_rfl
/-- loop.example/g00133/impl.fast -/
theorem impl_fast_eq (n : Nat) (x0 : List Int) (x1 : List Int) (x2 : Int) : c_impl_fast (run tb orc (n + 1)) x0 x1 x2 = impl_fast_f n x0 x1 x2 := by
  rw [impl_fast_r]
  rw [show (fun x0 x1 x2 v => (impl_fast_l1 (run tb orc n) n x0 x1 x2 n) v) = (fun x0 x1 x2 v => iterO (impl_fast_g1 (run tb orc n) n x0 x1 x2 ) n v) from by funext x0 x1 x2 v; exact impl_fast_e1 n x0 x1 x2 _ v]
  rfl
noncomputable def impl_tops_x1 (C0 : Ca tb) (self1 : (Int × List Int) → Option (List Int)) (x0 : List Int) (x1 : List Int) (d1 : List Int) (v1 : Int × List Int) : Option (List Int) :=
  if v1.1 < (x0.length : Int) then (if 0 ≤ v1.1 then (if v1.1 < (x0.length : Int) then (if 0 ≤ v1.1 then (if v1.1 < (d1.length : Int) then (if 0 ≤ v1.1 then (if v1.1 < (x1.length : Int) then (if x1.getD v1.1.toNat (0:Int) = 0 then none else if v1.2.length + ([(wr .i64 ((x0.getD v1.1.toNat (0:Int)) * (d1.getD v1.1.toNat (0:Int)))).tmod (x1.getD v1.1.toNat (0:Int))]).length < lim then (self1 (wr .i64 (v1.1 + (1:Int)), v1.2 ++ ([(wr .i64 ((x0.getD v1.1.toNat (0:Int)) * (d1.getD v1.1.toNat (0:Int)))).tmod (x1.getD v1.1.toNat (0:Int))]))) else none) else none) else none) else none) else none) else none) else none) else some (v1.2)
noncomputable def impl_tops_l1 (C0 : Ca tb) (N0 : Nat) (x0 : List Int) (x1 : List Int) (d1 : List Int) (m : Nat) (v1 : Int × List Int) : Option (List Int) :=
  loopIt (exec tb C0 92 0 N0 (codeAt [1, 1, 0, 1, 0, 0] (bodyOf Tryd.f92))) (trim 0 [1, 5, 6, 12, 13, 14] 1) (contAt tb C0 92 0 N0 [1, 1, 0, 1, 0] [] (bodyOf Tryd.f92) (finish tb 92 Tryd.f92)) m ⟨[.top, .sl (.int .i64) (x1), .top, .top, .top, .osl 0 0, .sl (.int .i64) (d1), .top, .top, .top, .top, .top, .sl (.int .i64) (x0), .int .i64 ((x0.length : Int)), .int .i64 (v1.1), .top, .top, .top, .top, .top, .top, .top, .top, .top, .top, .top, .top, .top, .top, .top, .top, .top, .top, .top, .top], [.arr (.int .i64) (v1.2) 0 true]⟩
noncomputable def impl_tops_g1 (C0 : Ca tb) (N0 : Nat) (x0 : List Int) (x1 : List Int) (d1 : List Int) (self1 : (Int × List Int) → Option (List Int)) (v1 : Int × List Int) : Option (List Int) :=
  impl_tops_x1 C0 self1 x0 x1 d1 v1
theorem impl_tops_s1 (n : Nat) (x0 : List Int) (x1 : List Int) (d1 : List Int) (m : Nat) (v1 : Int × List Int) : (impl_tops_l1 (run tb orc n) n x0 x1 d1 (m + 1)) v1 = impl_tops_x1 (run tb orc n) (impl_tops_l1 (run tb orc n) n x0 x1 d1 m) x0 x1 d1 v1 := by kernel_rfl
theorem impl_tops_e1 (n : Nat) (x0 : List Int) (x1 : List Int) (d1 : List Int) : ∀ (m : Nat) (v : Int × List Int), (impl_tops_l1 (run tb orc n) n x0 x1 d1 m) v = iterO (impl_tops_g1 (run tb orc n) n x0 x1 d1 ) m v := by
  refine iterO_eq (fun _ => rfl) fun m v => ?_
  rw [impl_tops_s1]
  rfl
noncomputable def impl_tops_x (C0 : Ca tb) (inn1 : (List Int) → (List Int) → (List Int) → (Int × List Int) → Option (List Int)) (x0 : List Int) (x1 : List Int) : Option (List Int) :=
  (c_impl_inverses C0 x1).bind fun (d1 : List Int) => inn1 x0 x1 d1 ((0:Int), [])
noncomputable def impl_tops_f (n : Nat) (x0 : List Int) (x1 : List Int) : Option (List Int) :=
  impl_tops_x (run tb orc n) (fun x0 x1 d1 v => iterO (impl_tops_g1 (run tb orc n) n x0 x1 d1 ) n v) x0 x1 
theorem impl_tops_r (n : Nat) (x0 : List Int) (x1 : List Int) : c_impl_tops (run tb orc (n + 1)) x0 x1 = impl_tops_x (run tb orc n) (fun x0 x1 d1 v => (impl_tops_l1 (run tb orc n) n x0 x1 d1 n) v) x0 x1  := by kernel_rfl
/-- loop.example/g00133/impl.tops -/
theorem impl_tops_eq (n : Nat) (x0 : List Int) (x1 : List Int) : c_impl_tops (run tb orc (n + 1)) x0 x1 = impl_tops_f n x0 x1 := by
  rw [impl_tops_r]
  rw [show (fun x0 x1 d1 v => (impl_tops_l1 (run tb orc n) n x0 x1 d1 n) v) = (fun x0 x1 d1 v => iterO (impl_tops_g1 (run tb orc n) n x0 x1 d1 ) n v) from by funext x0 x1 d1 v; exact impl_tops_e1 n x0 x1 d1 _ v]
  rfl
noncomputable def spec_l4Punctured_x1 (C0 : Ca tb) (self1 : (List Int × Int) → Option (List Int)) (x0 : List Int) (x1 : Int) (v1 : List Int × Int) : Option (List Int) :=
  if v1.2 < (x0.length : Int) then (if 0 ≤ v1.2 then (if v1.2 < (x0.length : Int) then (if v1.2 = x1 then self1 (v1.1, wr .i64 (v1.2 + (1:Int))) else (c_spec_l2Of C0 (x0.getD v1.2.toNat (0:Int))).bind fun (d1 : List Int) => (c_spec_l2Mul C0 v1.1 d1).bind fun (d2 : List Int) => self1 (d2, wr .i64 (v1.2 + (1:Int)))) else none) else none) else some (v1.1)
noncomputable def spec_l4Punctured_l1 (C0 : Ca tb) (N0 : Nat) (x0 : List Int) (x1 : Int) (m : Nat) (v1 : List Int × Int) : Option (List Int) :=
  loopIt (exec tb C0 64 0 N0 (codeAt [1, 1, 0, 1, 0, 0] (bodyOf Tryd.f64))) (trim 0 [1, 5, 9, 10, 11] 1) (contAt tb C0 64 0 N0 [1, 1, 0, 1, 0] [] (bodyOf Tryd.f64) (finish tb 64 Tryd.f64)) m ⟨[.top, .int .i64 (x1), .top, .top, .top, .sl (.int .i64) (v1.1), .top, .top, .top, .sl (.int .i64) (x0), .int .i64 ((x0.length : Int)), .int .i64 (v1.2), .top, .top, .top, .top, .top, .top, .top, .top, .top, .top, .top, .top, .top], [.dead]⟩
noncomputable def spec_l4Punctured_g1 (C0 : Ca tb) (N0 : Nat) (x0 : List Int) (x1 : Int) (self1 : (List Int × Int) → Option (List Int)) (v1 : List Int × Int) : Option (List Int) :=
  spec_l4Punctured_x1 C0 self1 x0 x1 v1
theorem spec_l4Punctured_s1 (n : Nat) (x0 : List Int) (x1 : Int) (m : Nat) (v1 : List Int × Int) : (spec_l4Punctured_l1 (run tb orc n) n x0 x1 (m + 1)) v1 = spec_l4Punctured_x1 (run tb orc n) (spec_l4Punctured_l1 (run tb orc n) n x0 x1 m) x0 x1 v1 := by kernel_rfl
theorem spec_l4Punctured_e1 (n : Nat) (x0 : List Int) (x1 : Int) : ∀ (m : Nat) (v : List Int × Int), (spec_l4Punctured_l1 (run tb orc n) n x0 x1 m) v = iterO (spec_l4Punctured_g1 (run tb orc n) n x0 x1 ) m v := by
  refine iterO_eq (fun _ => rfl) fun m v => ?_
  rw [spec_l4Punctured_s1]
  rfl
noncomputable def spec_l4Punctured_x (C0 : Ca tb) (inn1 : (List Int) → (Int) → (List Int × Int) → Option (List Int)) (x0 : List Int) (x1 : Int) : Option (List Int) :=
  inn1 x0 x1 ([(1:Int)], (0:Int))
noncomputable def spec_l4Punctured_f (n : Nat) (x0 : List Int) (x1 : Int) : Option (List Int) :=
  spec_l4Punctured_x (run tb orc n) (fun x0 x1 v => iterO (spec_l4Punctured_g1 (run tb orc n) n x0 x1 ) n v) x0 x1 
theorem spec_l4Punctured_r (n : Nat) (x0 : List Int) (x1 : Int) : c_spec_l4Punctured (run tb orc (n + 1)) x0 x1 = spec_l4Punctured_x (run tb orc n) (fun x0 x1 v => (spec_l4Punctured_l1 (run tb orc n) n x0 x1 n) v) x0 x1  := by kernel_rfl
/-- loop.example/g00133/spec.l4Punctured -/
theorem spec_l4Punctured_eq (n : Nat) (x0 : List Int) (x1 : Int) : c_spec_l4Punctured (run tb orc (n + 1)) x0 x1 = spec_l4Punctured_f n x0 x1 := by
  rw [spec_l4Punctured_r]
  rw [show (fun x0 x1 v => (spec_l4Punctured_l1 (run tb orc n) n x0 x1 n) v) = (fun x0 x1 v => iterO (spec_l4Punctured_g1 (run tb orc n) n x0 x1 ) n v) from by funext x0 x1 v; exact spec_l4Punctured_e1 n x0 x1 _ v]
  rfl
noncomputable def spec_l6Sum_x1 (C0 : Ca tb) (self1 : (List Int × Int) → Option (List Int)) (x0 : List Int) (x1 : List Int) (v1 : List Int × Int) : Option (List Int) :=
  if v1.2 < (x1.length : Int) then (if 0 ≤ v1.2 then (if v1.2 < (x1.length : Int) then (c_spec_l4Punctured C0 x1 v1.2).bind fun (d1 : List Int) => if 0 ≤ v1.2 then (if v1.2 < (x0.length : Int) then (c_spec_l4Inverse C0 x1 v1.2).bind fun (d2 : Int) => if x1.getD v1.2.toNat (0:Int) = 0 then none else (c_spec_l2Of C0 ((wr .i64 ((x0.getD v1.2.toNat (0:Int)) * d2)).tmod (x1.getD v1.2.toNat (0:Int)))).bind fun (d3 : List Int) => (c_spec_l2Mul C0 d1 d3).bind fun (d4 : List Int) => (c_spec_l2Add C0 v1.1 d4).bind fun (d5 : List Int) => self1 (d5, wr .i64 (v1.2 + (1:Int))) else none) else none else none) else none) else some (v1.1)
noncomputable def spec_l6Sum_l1 (C0 : Ca tb) (N0 : Nat) (x0 : List Int) (x1 : List Int) (m : Nat) (v1 : List Int × Int) : Option (List Int) :=
  loopIt (exec tb C0 90 0 N0 (codeAt [1, 1, 0, 1, 0, 0] (bodyOf Tryd.f90))) (trim 0 [0, 1, 5, 8, 9, 10] 0) (contAt tb C0 90 0 N0 [1, 1, 0, 1, 0] [] (bodyOf Tryd.f90) (finish tb 90 Tryd.f90)) m ⟨[.sl (.int .i64) (x0), .sl (.int .i64) (x1), .top, .top, .top, .sl (.int .i64) (v1.1), .top, .top, .sl (.int .i64) (x1), .int .i64 ((x1.length : Int)), .int .i64 (v1.2), .top, .top, .top, .top, .top, .top, .top, .top, .top, .top, .top, .top, .top, .top, .top, .top, .top, .top, .top, .top, .top, .top, .top], []⟩
noncomputable def spec_l6Sum_g1 (C0 : Ca tb) (N0 : Nat) (x0 : List Int) (x1 : List Int) (self1 : (List Int × Int) → Option (List Int)) (v1 : List Int × Int) : Option (List Int) :=
  spec_l6Sum_x1 C0 self1 x0 x1 v1
theorem spec_l6Sum_s1 (n : Nat) (x0 : List Int) (x1 : List Int) (m : Nat) (v1 : List Int × Int) : (spec_l6Sum_l1 (run tb orc n) n x0 x1 (m + 1)) v1 = spec_l6Sum_x1 (run tb orc n) (spec_l6Sum_l1 (run tb orc n) n x0 x1 m) x0 x1 v1 := by kernel_rfl
theorem spec_l6Sum_e1 (n : Nat) (x0 : List Int) (x1 : List Int) : ∀ (m : Nat) (v : List Int × Int), (spec_l6Sum_l1 (run tb orc n) n x0 x1 m) v = iterO (spec_l6Sum_g1 (run tb orc n) n x0 x1 ) m v := by
  refine iterO_eq (fun _ => rfl) fun m v => ?_
  rw [spec_l6Sum_s1]
  rfl
noncomputable def spec_l6Sum_x (C0 : Ca tb) (inn1 : (List Int) → (List Int) → (List Int × Int) → Option (List Int)) (x0 : List Int) (x1 : List Int) : Option (List Int) :=
  inn1 x0 x1 ([], (0:Int))
noncomputable def spec_l6Sum_f (n : Nat) (x0 : List Int) (x1 : List Int) : Option (List Int) :=
  spec_l6Sum_x (run tb orc n) (fun x0 x1 v => iterO (spec_l6Sum_g1 (run tb orc n) n x0 x1 ) n v) x0 x1 
theorem spec_l6Sum_r (n : Nat) (x0 : List Int) (x1 : List Int) : c_spec_l6Sum (run tb orc (n + 1)) x0 x1 = spec_l6Sum_x (run tb orc n) (fun x0 x1 v => (spec_l6Sum_l1 (run tb orc n) n x0 x1 n) v) x0 x1  := by kernel_rfl
/-- loop.example/g00133/spec.l6Sum -/
theorem spec_l6Sum_eq (n : Nat) (x0 : List Int) (x1 : List Int) : c_spec_l6Sum (run tb orc (n + 1)) x0 x1 = spec_l6Sum_f n x0 x1 := by
  rw [spec_l6Sum_r]
  rw [show (fun x0 x1 v => (spec_l6Sum_l1 (run tb orc n) n x0 x1 n) v) = (fun x0 x1 v => iterO (spec_l6Sum_g1 (run tb orc n) n x0 x1 ) n v) from by funext x0 x1 v; exact spec_l6Sum_e1 n x0 x1 _ v]
  rfl
noncomputable def spec_l4Product_x1 (C0 : Ca tb) (self1 : (List Int × Int) → Option (List Int)) (x0 : List Int) (v1 : List Int × Int) : Option (List Int) :=
  if v1.2 < (x0.length : Int) then (if 0 ≤ v1.2 then (if v1.2 < (x0.length : Int) then (c_spec_l2Of C0 (x0.getD v1.2.toNat (0:Int))).bind fun (d1 : List Int) => (c_spec_l2Mul C0 v1.1 d1).bind fun (d2 : List Int) => self1 (d2, wr .i64 (v1.2 + (1:Int))) else none) else none) else some (v1.1)
noncomputable def spec_l4Product_l1 (C0 : Ca tb) (N0 : Nat) (x0 : List Int) (m : Nat) (v1 : List Int × Int) : Option (List Int) :=
  loopIt (exec tb C0 111 0 N0 (codeAt [1, 1, 0, 1, 0, 0] (bodyOf Tryd.f111))) (trim 0 [3, 7, 8, 9] 1) (contAt tb C0 111 0 N0 [1, 1, 0, 1, 0] [] (bodyOf Tryd.f111) (finish tb 111 Tryd.f111)) m ⟨[.top, .top, .top, .sl (.int .i64) (v1.1), .top, .top, .top, .sl (.int .i64) (x0), .int .i64 ((x0.length : Int)), .int .i64 (v1.2), .top, .top, .top, .top, .top, .top, .top, .top, .top], [.dead]⟩
noncomputable def spec_l4Product_g1 (C0 : Ca tb) (N0 : Nat) (x0 : List Int) (self1 : (List Int × Int) → Option (List Int)) (v1 : List Int × Int) : Option (List Int) :=
  spec_l4Product_x1 C0 self1 x0 v1
theorem spec_l4Product_s1 (n : Nat) (x0 : List Int) (m : Nat) (v1 : List Int × Int) : (spec_l4Product_l1 (run tb orc n) n x0 (m + 1)) v1 = spec_l4Product_x1 (run tb orc n) (spec_l4Product_l1 (run tb orc n) n x0 m) x0 v1 := by kernel_rfl
theorem spec_l4Product_e1 (n : Nat) (x0 : List Int) : ∀ (m : Nat) (v : List Int × Int), (spec_l4Product_l1 (run tb orc n) n x0 m) v = iterO (spec_l4Product_g1 (run tb orc n) n x0 ) m v := by
  refine iterO_eq (fun _ => rfl) fun m v => ?_
  rw [spec_l4Product_s1]
  rfl
noncomputable def spec_l4Product_x (C0 : Ca tb) (inn1 : (List Int) → (List Int × Int) → Option (List Int)) (x0 : List Int) : Option (List Int) :=
  inn1 x0 ([(1:Int)], (0:Int))
noncomputable def spec_l4Product_f (n : Nat) (x0 : List Int) : Option (List Int) :=
  spec_l4Product_x (run tb orc n) (fun x0 v => iterO (spec_l4Product_g1 (run tb orc n) n x0 ) n v) x0 
theorem spec_l4Product_r (n : Nat) (x0 : List Int) : c_spec_l4Product (run tb orc (n + 1)) x0 = spec_l4Product_x (run tb orc n) (fun x0 v => (spec_l4Product_l1 (run tb orc n) n x0 n) v) x0  := by kernel_rfl
/-- loop.example/g00133/spec.l4Product -/
theorem spec_l4Product_eq (n : Nat) (x0 : List Int) : c_spec_l4Product (run tb orc (n + 1)) x0 = spec_l4Product_f n x0 := by
  rw [spec_l4Product_r]
  rw [show (fun x0 v => (spec_l4Product_l1 (run tb orc n) n x0 n) v) = (fun x0 v => iterO (spec_l4Product_g1 (run tb orc n) n x0 ) n v) from by funext x0 v; exact spec_l4Product_e1 n x0 _ v]
  rfl
end Go.Proofs.YthanbjnpfenniaaDoor.Fw
