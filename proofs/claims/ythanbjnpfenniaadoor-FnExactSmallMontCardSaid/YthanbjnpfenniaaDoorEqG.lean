/- The functions' equations over the interpreter. Printed by fwgen.py. -/
import Derived.Test.YthanbjnpfenniaaDoorFwZf
import Derived.Test.YthanbjnpfenniaaDoorFwTok
import Derived.Test.YthanbjnpfenniaaDoorFwOrc
import Derived.Test.YthanbjnpfenniaaDoorEqB
import Derived.KernelRfl
import Derived.Lib.Tables
namespace Go.Proofs.YthanbjnpfenniaaDoor.Fw
open Go Go.RowKit
set_option linter.unusedVariables false
set_option maxRecDepth 100000
noncomputable def c_impl_GoodWhole (C : Ca tb) (x0_0 : Bool) (x0_1 : List Int) : Option Bool := C.pure 103 [.agg [.bool (x0_0), .sl (.int .i64) (x0_1)]]
noncomputable def c_impl_isWhole (C : Ca tb) (x0_0 : Bool) (x0_1 : List Int) : Option Bool := C.pure 165 [.agg [.bool (x0_0), .sl (.int .i64) (x0_1)]]
noncomputable def c_slices_ContainsFunc_int_int_impl_isWhole_1 (C : Ca tb) (x0 : List Int) : Option Bool := C.pure 116 [.sl (.int .i64) (x0), .fn 192 []]
noncomputable def c_slices_IndexFunc_int_int_impl_isWhole_1 (C : Ca tb) (x0 : List Int) : Option Int := C.pure 169 [.sl (.int .i64) (x0), .fn 192 []]
noncomputable def c_impl_isWhole_1 (C : Ca tb) (x0 : Int) : Option Bool := C.pure 192 [.int .i64 (x0)]
noncomputable def c_spec_GoodWhole (C : Ca tb) (x0_0 : Bool) (x0_1 : List Int) : Option Bool := C.pure 97 [.agg [.bool (x0_0), .sl (.int .i64) (x0_1)]]
noncomputable def impl_isWhole_1_x (C0 : Ca tb) (x0 : Int) : Option Bool :=
  (c_impl_in C0 x0 (0:Int) (268435455:Int)).bind fun (d1 : Bool) => some (!d1)
noncomputable def impl_isWhole_1_f (n : Nat) (x0 : Int) : Option Bool :=
  impl_isWhole_1_x (run tb orc n) x0 
theorem impl_isWhole_1_r (n : Nat) (x0 : Int) : c_impl_isWhole_1 (run tb orc (n + 1)) x0 = impl_isWhole_1_x (run tb orc n) x0  := by kernel_rfl
/-- loop.example/g00133/impl.isWhole$1 -/
theorem impl_isWhole_1_eq (n : Nat) (x0 : Int) : c_impl_isWhole_1 (run tb orc (n + 1)) x0 = impl_isWhole_1_f n x0 := by
  rw [impl_isWhole_1_r]
  rfl
noncomputable def slices_IndexFunc_int_int_impl_isWhole_1_x1 (C0 : Ca tb) (self1 : (Int) → Option Int) (x0 : List Int) (v1 : Int) : Option Int :=
  if v1 < (x0.length : Int) then (if 0 ≤ v1 then (if v1 < (x0.length : Int) then (c_impl_isWhole_1 C0 (x0.getD v1.toNat (0:Int))).bind fun (d1 : Bool) => if (d1) = true then some (v1) else self1 (wr .i64 (v1 + (1:Int))) else none) else none) else some ((-1:Int))
noncomputable def slices_IndexFunc_int_int_impl_isWhole_1_l1 (C0 : Ca tb) (N0 : Nat) (x0 : List Int) (m : Nat) (v1 : Int) : Option Int :=
  loopIt (exec tb C0 169 0 N0 (codeAt [1, 0, 1, 0, 0] (bodyOf Tryd.f169))) (trim 0 [0, 1, 7, 8] 0) (contAt tb C0 169 0 N0 [1, 0, 1, 0] [] (bodyOf Tryd.f169) (finish tb 169 Tryd.f169)) m ⟨[.sl (.int .i64) (x0), .fn 192 [], .top, .top, .top, .top, .top, .int .i64 ((x0.length : Int)), .int .i64 (v1), .top, .top, .top, .top, .top, .top, .top, .top, .top, .top], []⟩
noncomputable def slices_IndexFunc_int_int_impl_isWhole_1_g1 (C0 : Ca tb) (N0 : Nat) (x0 : List Int) (self1 : (Int) → Option Int) (v1 : Int) : Option Int :=
  slices_IndexFunc_int_int_impl_isWhole_1_x1 C0 self1 x0 v1
theorem slices_IndexFunc_int_int_impl_isWhole_1_s1 (n : Nat) (x0 : List Int) (m : Nat) (v1 : Int) : (slices_IndexFunc_int_int_impl_isWhole_1_l1 (run tb orc n) n x0 (m + 1)) v1 = slices_IndexFunc_int_int_impl_isWhole_1_x1 (run tb orc n) (slices_IndexFunc_int_int_impl_isWhole_1_l1 (run tb orc n) n x0 m) x0 v1 := by kernel_rfl
theorem slices_IndexFunc_int_int_impl_isWhole_1_e1 (n : Nat) (x0 : List Int) : ∀ (m : Nat) (v : Int), (slices_IndexFunc_int_int_impl_isWhole_1_l1 (run tb orc n) n x0 m) v = iterO (slices_IndexFunc_int_int_impl_isWhole_1_g1 (run tb orc n) n x0 ) m v := by
  refine iterO_eq (fun _ => rfl) fun m v => ?_
  rw [slices_IndexFunc_int_int_impl_isWhole_1_s1]
  rfl
noncomputable def slices_IndexFunc_int_int_impl_isWhole_1_x (C0 : Ca tb) (inn1 : (List Int) → (Int) → Option Int) (x0 : List Int) : Option Int :=
  inn1 x0 ((0:Int))
noncomputable def slices_IndexFunc_int_int_impl_isWhole_1_f (n : Nat) (x0 : List Int) : Option Int :=
  slices_IndexFunc_int_int_impl_isWhole_1_x (run tb orc n) (fun x0 v => iterO (slices_IndexFunc_int_int_impl_isWhole_1_g1 (run tb orc n) n x0 ) n v) x0 
theorem slices_IndexFunc_int_int_impl_isWhole_1_r (n : Nat) (x0 : List Int) : c_slices_IndexFunc_int_int_impl_isWhole_1 (run tb orc (n + 1)) x0 = slices_IndexFunc_int_int_impl_isWhole_1_x (run tb orc n) (fun x0 v => (slices_IndexFunc_int_int_impl_isWhole_1_l1 (run tb orc n) n x0 n) v) x0  := by kernel_rfl
/-- slices.IndexFunc[[]int,int] -/
theorem slices_IndexFunc_int_int_impl_isWhole_1_eq (n : Nat) (x0 : List Int) : c_slices_IndexFunc_int_int_impl_isWhole_1 (run tb orc (n + 1)) x0 = slices_IndexFunc_int_int_impl_isWhole_1_f n x0 := by
  rw [slices_IndexFunc_int_int_impl_isWhole_1_r]
  rw [show (fun x0 v => (slices_IndexFunc_int_int_impl_isWhole_1_l1 (run tb orc n) n x0 n) v) = (fun x0 v => iterO (slices_IndexFunc_int_int_impl_isWhole_1_g1 (run tb orc n) n x0 ) n v) from by funext x0 v; exact slices_IndexFunc_int_int_impl_isWhole_1_e1 n x0 _ v]
  rfl
noncomputable def slices_ContainsFunc_int_int_impl_isWhole_1_x (C0 : Ca tb) (x0 : List Int) : Option Bool :=
  (c_slices_IndexFunc_int_int_impl_isWhole_1 C0 x0).bind fun (d1 : Int) => some (decide (d1 ≥ (0:Int)))
noncomputable def slices_ContainsFunc_int_int_impl_isWhole_1_f (n : Nat) (x0 : List Int) : Option Bool :=
  slices_ContainsFunc_int_int_impl_isWhole_1_x (run tb orc n) x0 
theorem slices_ContainsFunc_int_int_impl_isWhole_1_r (n : Nat) (x0 : List Int) : c_slices_ContainsFunc_int_int_impl_isWhole_1 (run tb orc (n + 1)) x0 = slices_ContainsFunc_int_int_impl_isWhole_1_x (run tb orc n) x0  := by kernel_rfl
/-- slices.ContainsFunc[[]int,int] -/
theorem slices_ContainsFunc_int_int_impl_isWhole_1_eq (n : Nat) (x0 : List Int) : c_slices_ContainsFunc_int_int_impl_isWhole_1 (run tb orc (n + 1)) x0 = slices_ContainsFunc_int_int_impl_isWhole_1_f n x0 := by
  rw [slices_ContainsFunc_int_int_impl_isWhole_1_r]
  rfl
noncomputable def impl_isWhole_x (C0 : Ca tb) (x0_0 : Bool) (x0_1 : List Int) : Option Bool :=
  if (x0_1.length : Int) = (0:Int) then some (!x0_0) else if 0 ≤ wr .i64 ((x0_1.length : Int) - (1:Int)) then (if wr .i64 ((x0_1.length : Int) - (1:Int)) < (x0_1.length : Int) then (if x0_1.getD (wr .i64 ((x0_1.length : Int) - (1:Int))).toNat (0:Int) = (0:Int) then some (false) else (c_slices_ContainsFunc_int_int_impl_isWhole_1 C0 x0_1).bind fun (d1 : Bool) => some (!d1)) else none) else none
noncomputable def impl_isWhole_f (n : Nat) (x0_0 : Bool) (x0_1 : List Int) : Option Bool :=
  impl_isWhole_x (run tb orc n) x0_0 x0_1 
theorem impl_isWhole_r (n : Nat) (x0_0 : Bool) (x0_1 : List Int) : c_impl_isWhole (run tb orc (n + 1)) x0_0 x0_1 = impl_isWhole_x (run tb orc n) x0_0 x0_1  := by kernel_rfl
/-- loop.example/g00133/impl.isWhole -/
theorem impl_isWhole_eq (n : Nat) (x0_0 : Bool) (x0_1 : List Int) : c_impl_isWhole (run tb orc (n + 1)) x0_0 x0_1 = impl_isWhole_f n x0_0 x0_1 := by
  rw [impl_isWhole_r]
  rfl
noncomputable def impl_GoodWhole_x (C0 : Ca tb) (x0_0 : Bool) (x0_1 : List Int) : Option Bool :=
  if (x0_1.length : Int) ≤ (40:Int) then (c_impl_isWhole C0 x0_0 x0_1).bind fun (d1 : Bool) => some (d1) else some (false)
noncomputable def impl_GoodWhole_f (n : Nat) (x0_0 : Bool) (x0_1 : List Int) : Option Bool :=
  impl_GoodWhole_x (run tb orc n) x0_0 x0_1 
theorem impl_GoodWhole_r (n : Nat) (x0_0 : Bool) (x0_1 : List Int) : c_impl_GoodWhole (run tb orc (n + 1)) x0_0 x0_1 = impl_GoodWhole_x (run tb orc n) x0_0 x0_1  := by kernel_rfl
/-- loop.example/g00133/impl.GoodWhole -/
theorem impl_GoodWhole_eq (n : Nat) (x0_0 : Bool) (x0_1 : List Int) : c_impl_GoodWhole (run tb orc (n + 1)) x0_0 x0_1 = impl_GoodWhole_f n x0_0 x0_1 := by
  rw [impl_GoodWhole_r]
  rfl
noncomputable def spec_GoodWhole_x1 (C0 : Ca tb) (self1 : (Int) → Option Bool) (x0_0 : Bool) (x0_1 : List Int) (v1 : Int) : Option Bool :=
  if v1 < (x0_1.length : Int) then (if 0 ≤ v1 then (if v1 < (x0_1.length : Int) then (c_spec_l1In C0 (x0_1.getD v1.toNat (0:Int)) (0:Int) (268435455:Int)).bind fun (d1 : Bool) => if (!d1) = true then some (false) else if x0_1.getD v1.toNat (0:Int) = (0:Int) then (if v1 = wr .i64 ((x0_1.length : Int) - (1:Int)) then some (false) else self1 (wr .i64 (v1 + (1:Int)))) else self1 (wr .i64 (v1 + (1:Int))) else none) else none) else some (true)
noncomputable def spec_GoodWhole_l1 (C0 : Ca tb) (N0 : Nat) (x0_0 : Bool) (x0_1 : List Int) (m : Nat) (v1 : Int) : Option Bool :=
  loopIt (exec tb C0 97 0 N0 (codeAt [1, 1, 0, 1, 0, 0] (bodyOf Tryd.f97))) (trim 0 [1, 20, 21, 22] 1) (contAt tb C0 97 0 N0 [1, 1, 0, 1, 0] [] (bodyOf Tryd.f97) (finish tb 97 Tryd.f97)) m ⟨[.top, .bptr 0 0, .top, .top, .top, .top, .top, .top, .top, .top, .top, .top, .top, .top, .top, .top, .top, .top, .top, .top, .sl (.int .i64) (x0_1), .int .i64 ((x0_1.length : Int)), .int .i64 (v1), .top, .top, .top, .top, .top, .top, .top, .top, .top, .top, .top, .top, .top, .top, .top, .top, .top, .top, .top, .top], [.box [.bool (x0_0), .sl (.int .i64) (x0_1)]]⟩
noncomputable def spec_GoodWhole_x2 (C0 : Ca tb) (self2 : (Int) → Option Bool) (x0_0 : Bool) (x0_1 : List Int) (v2 : Int) : Option Bool :=
  if v2 < (x0_1.length : Int) then (if 0 ≤ v2 then (if v2 < (x0_1.length : Int) then (c_spec_l1In C0 (x0_1.getD v2.toNat (0:Int)) (0:Int) (268435455:Int)).bind fun (d2 : Bool) => if (!d2) = true then some (false) else if x0_1.getD v2.toNat (0:Int) = (0:Int) then (if v2 = wr .i64 ((x0_1.length : Int) - (1:Int)) then some (false) else self2 (wr .i64 (v2 + (1:Int)))) else self2 (wr .i64 (v2 + (1:Int))) else none) else none) else some (true)
noncomputable def spec_GoodWhole_l2 (C0 : Ca tb) (N0 : Nat) (x0_0 : Bool) (x0_1 : List Int) (m : Nat) (v2 : Int) : Option Bool :=
  loopIt (exec tb C0 97 0 N0 (codeAt [1, 1, 0, 1, 0, 0] (bodyOf Tryd.f97))) (trim 0 [1, 20, 21, 22] 1) (contAt tb C0 97 0 N0 [1, 1, 0, 1, 0] [] (bodyOf Tryd.f97) (finish tb 97 Tryd.f97)) m ⟨[.top, .bptr 0 0, .top, .top, .top, .top, .top, .top, .top, .top, .top, .top, .top, .top, .top, .top, .top, .top, .top, .top, .sl (.int .i64) (x0_1), .int .i64 ((x0_1.length : Int)), .int .i64 (v2), .top, .top, .top, .top, .top, .top, .top, .top, .top, .top, .top, .top, .top, .top, .top, .top, .top, .top, .top, .top], [.box [.bool (x0_0), .sl (.int .i64) (x0_1)]]⟩
noncomputable def spec_GoodWhole_g1 (C0 : Ca tb) (N0 : Nat) (x0_0 : Bool) (x0_1 : List Int) (self1 : (Int) → Option Bool) (v1 : Int) : Option Bool :=
  spec_GoodWhole_x1 C0 self1 x0_0 x0_1 v1
noncomputable def spec_GoodWhole_g2 (C0 : Ca tb) (N0 : Nat) (x0_0 : Bool) (x0_1 : List Int) (self2 : (Int) → Option Bool) (v2 : Int) : Option Bool :=
  spec_GoodWhole_x2 C0 self2 x0_0 x0_1 v2
theorem spec_GoodWhole_s1 (n : Nat) (x0_0 : Bool) (x0_1 : List Int) (m : Nat) (v1 : Int) : (spec_GoodWhole_l1 (run tb orc n) n x0_0 x0_1 (m + 1)) v1 = spec_GoodWhole_x1 (run tb orc n) (spec_GoodWhole_l1 (run tb orc n) n x0_0 x0_1 m) x0_0 x0_1 v1 := by kernel_rfl
theorem spec_GoodWhole_e1 (n : Nat) (x0_0 : Bool) (x0_1 : List Int) : ∀ (m : Nat) (v : Int), (spec_GoodWhole_l1 (run tb orc n) n x0_0 x0_1 m) v = iterO (spec_GoodWhole_g1 (run tb orc n) n x0_0 x0_1 ) m v := by
  refine iterO_eq (fun _ => rfl) fun m v => ?_
  rw [spec_GoodWhole_s1]
  rfl
theorem spec_GoodWhole_s2 (n : Nat) (x0_0 : Bool) (x0_1 : List Int) (m : Nat) (v2 : Int) : (spec_GoodWhole_l2 (run tb orc n) n x0_0 x0_1 (m + 1)) v2 = spec_GoodWhole_x2 (run tb orc n) (spec_GoodWhole_l2 (run tb orc n) n x0_0 x0_1 m) x0_0 x0_1 v2 := by kernel_rfl
theorem spec_GoodWhole_e2 (n : Nat) (x0_0 : Bool) (x0_1 : List Int) : ∀ (m : Nat) (v : Int), (spec_GoodWhole_l2 (run tb orc n) n x0_0 x0_1 m) v = iterO (spec_GoodWhole_g2 (run tb orc n) n x0_0 x0_1 ) m v := by
  refine iterO_eq (fun _ => rfl) fun m v => ?_
  rw [spec_GoodWhole_s2]
  rfl
noncomputable def spec_GoodWhole_x (C0 : Ca tb) (inn1 : (Bool) → (List Int) → (Int) → Option Bool) (inn2 : (Bool) → (List Int) → (Int) → Option Bool) (x0_0 : Bool) (x0_1 : List Int) : Option Bool :=
  if (x0_1.length : Int) > (40:Int) then some (false) else if (x0_1.length : Int) = (0:Int) then (if (x0_0) = true then some (false) else inn1 x0_0 x0_1 ((0:Int))) else inn2 x0_0 x0_1 ((0:Int))
noncomputable def spec_GoodWhole_f (n : Nat) (x0_0 : Bool) (x0_1 : List Int) : Option Bool :=
  spec_GoodWhole_x (run tb orc n) (fun x0_0 x0_1 v => iterO (spec_GoodWhole_g1 (run tb orc n) n x0_0 x0_1 ) n v) (fun x0_0 x0_1 v => iterO (spec_GoodWhole_g2 (run tb orc n) n x0_0 x0_1 ) n v) x0_0 x0_1 
theorem spec_GoodWhole_r (n : Nat) (x0_0 : Bool) (x0_1 : List Int) : c_spec_GoodWhole (run tb orc (n + 1)) x0_0 x0_1 = spec_GoodWhole_x (run tb orc n) (fun x0_0 x0_1 v => (spec_GoodWhole_l1 (run tb orc n) n x0_0 x0_1 n) v) (fun x0_0 x0_1 v => (spec_GoodWhole_l2 (run tb orc n) n x0_0 x0_1 n) v) x0_0 x0_1  := by kernel_rfl
/-- loop.example/g00133/spec.GoodWhole -/
theorem spec_GoodWhole_eq (n : Nat) (x0_0 : Bool) (x0_1 : List Int) : c_spec_GoodWhole (run tb orc (n + 1)) x0_0 x0_1 = spec_GoodWhole_f n x0_0 x0_1 := by
  rw [spec_GoodWhole_r]
  rw [show (fun x0_0 x0_1 v => (spec_GoodWhole_l1 (run tb orc n) n x0_0 x0_1 n) v) = (fun x0_0 x0_1 v => iterO (spec_GoodWhole_g1 (run tb orc n) n x0_0 x0_1 ) n v) from by funext x0_0 x0_1 v; exact spec_GoodWhole_e1 n x0_0 x0_1 _ v]
  rw [show (fun x0_0 x0_1 v => (spec_GoodWhole_l2 (run tb orc n) n x0_0 x0_1 n) v) = (fun x0_0 x0_1 v => iterO (spec_GoodWhole_g2 (run tb orc n) n x0_0 x0_1 ) n v) from by funext x0_0 x0_1 v; exact spec_GoodWhole_e2 n x0_0 x0_1 _ v]
  rfl
end Go.Proofs.YthanbjnpfenniaaDoor.Fw
