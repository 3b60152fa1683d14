/- The functions' equations over the interpreter. Printed by fwgen.py. -/
import Derived.Test.YthanbjnpfenniaaDoorFwZf
import Derived.Test.YthanbjnpfenniaaDoorFwTok
import Derived.Test.YthanbjnpfenniaaDoorFwOrc
import Derived.Test.YthanbjnpfenniaaDoorEqY
import Derived.Test.YthanbjnpfenniaaDoorEqS
import Derived.KernelRfl
import Derived.Lib.Tables
namespace Go.Proofs.YthanbjnpfenniaaDoor.Fw
open Go Go.RowKit
set_option linter.unusedVariables false
set_option maxRecDepth 100000
noncomputable def c_impl_areRows (C : Ca tb) (x0_0 : Int) (x0_1 : List Int) (x1 : List (List Int)) : Option Bool := C.pure 171 [.agg [.int .i64 (x0_0), .sl (.int .i64) (x0_1)], .sl (.sl (.int .i64)) (x1)]
noncomputable def c_spec_l5Rows (C : Ca tb) (x0_0 : Int) (x0_1 : List Int) (x1 : List (List Int)) : Option Bool := C.pure 155 [.agg [.int .i64 (x0_0), .sl (.int .i64) (x0_1)], .sl (.sl (.int .i64)) (x1)]
noncomputable def c_impl_GoodRows (C : Ca tb) (x0_0 : Int) (x0_1 : List Int) (x1_0 : Bool) (x1_1 : List (List Int)) : Option Bool := C.pure 123 [.agg [.int .i64 (x0_0), .sl (.int .i64) (x0_1)], .agg [.bool (x1_0), .sl (.sl (.int .i64)) (x1_1)]]
noncomputable def c_spec_GoodRows (C : Ca tb) (x0_0 : Int) (x0_1 : List Int) (x1_0 : Bool) (x1_1 : List (List Int)) : Option Bool := C.pure 121 [.agg [.int .i64 (x0_0), .sl (.int .i64) (x0_1)], .agg [.bool (x1_0), .sl (.sl (.int .i64)) (x1_1)]]
noncomputable def impl_areRows_x1 (C0 : Ca tb) (self1 : (Int) → Option Bool) (x0_0 : Int) (x0_1 : List Int) (x1 : List (List Int)) (v1 : Int) : Option Bool :=
  if v1 < (x1.length : Int) then (if 0 ≤ v1 then (if v1 < (x1.length : Int) then (if 0 ≤ v1 then (if v1 < (x0_1.length : Int) then (c_impl_isPoly C0 (x0_1.getD v1.toNat (0:Int)) x0_0 (0:Int) (x1.getD v1.toNat [])).bind fun (d1 : Bool) => if (!d1) = true then some (false) else self1 (wr .i64 (v1 + (1:Int))) else none) else none) else none) else none) else some (true)
noncomputable def impl_areRows_l1 (C0 : Ca tb) (N0 : Nat) (x0_0 : Int) (x0_1 : List Int) (x1 : List (List Int)) (m : Nat) (v1 : Int) : Option Bool :=
  loopIt (exec tb C0 171 0 N0 (codeAt [1, 1, 0, 1, 0, 0] (bodyOf Tryd.f171))) (trim 0 [2, 13, 14, 15] 1) (contAt tb C0 171 0 N0 [1, 1, 0, 1, 0] [] (bodyOf Tryd.f171) (finish tb 171 Tryd.f171)) m ⟨[.top, .top, .bptr 0 0, .top, .top, .top, .top, .top, .top, .top, .top, .top, .top, .sl (.sl (.int .i64)) (x1), .int .i64 ((x1.length : Int)), .int .i64 (v1), .top, .top, .top, .top, .top, .top, .top, .top, .top, .top, .top, .top, .top, .top, .top, .top], [.box [.int .i64 (x0_0), .sl (.int .i64) (x0_1)]]⟩
noncomputable def impl_areRows_g1 (C0 : Ca tb) (N0 : Nat) (x0_0 : Int) (x0_1 : List Int) (x1 : List (List Int)) (self1 : (Int) → Option Bool) (v1 : Int) : Option Bool :=
  impl_areRows_x1 C0 self1 x0_0 x0_1 x1 v1
theorem impl_areRows_s1 (n : Nat) (x0_0 : Int) (x0_1 : List Int) (x1 : List (List Int)) (m : Nat) (v1 : Int) : (impl_areRows_l1 (run tb orc n) n x0_0 x0_1 x1 (m + 1)) v1 = impl_areRows_x1 (run tb orc n) (impl_areRows_l1 (run tb orc n) n x0_0 x0_1 x1 m) x0_0 x0_1 x1 v1 := by kernel_rfl
theorem impl_areRows_e1 (n : Nat) (x0_0 : Int) (x0_1 : List Int) (x1 : List (List Int)) : ∀ (m : Nat) (v : Int), (impl_areRows_l1 (run tb orc n) n x0_0 x0_1 x1 m) v = iterO (impl_areRows_g1 (run tb orc n) n x0_0 x0_1 x1 ) m v := by
  refine iterO_eq (fun _ => rfl) fun m v => ?_
  rw [impl_areRows_s1]
  rfl
noncomputable def impl_areRows_x (C0 : Ca tb) (inn1 : (Int) → (List Int) → (List (List Int)) → (Int) → Option Bool) (x0_0 : Int) (x0_1 : List Int) (x1 : List (List Int)) : Option Bool :=
  if (x1.length : Int) = (x0_1.length : Int) then inn1 x0_0 x0_1 x1 ((0:Int)) else some (false)
noncomputable def impl_areRows_f (n : Nat) (x0_0 : Int) (x0_1 : List Int) (x1 : List (List Int)) : Option Bool :=
  impl_areRows_x (run tb orc n) (fun x0_0 x0_1 x1 v => iterO (impl_areRows_g1 (run tb orc n) n x0_0 x0_1 x1 ) n v) x0_0 x0_1 x1 
theorem impl_areRows_r (n : Nat) (x0_0 : Int) (x0_1 : List Int) (x1 : List (List Int)) : c_impl_areRows (run tb orc (n + 1)) x0_0 x0_1 x1 = impl_areRows_x (run tb orc n) (fun x0_0 x0_1 x1 v => (impl_areRows_l1 (run tb orc n) n x0_0 x0_1 x1 n) v) x0_0 x0_1 x1  := by kernel_rfl
/-- loop.example/g00133/impl.areRows -/
theorem impl_areRows_eq (n : Nat) (x0_0 : Int) (x0_1 : List Int) (x1 : List (List Int)) : c_impl_areRows (run tb orc (n + 1)) x0_0 x0_1 x1 = impl_areRows_f n x0_0 x0_1 x1 := by
  rw [impl_areRows_r]
  rw [show (fun x0_0 x0_1 x1 v => (impl_areRows_l1 (run tb orc n) n x0_0 x0_1 x1 n) v) = (fun x0_0 x0_1 x1 v => iterO (impl_areRows_g1 (run tb orc n) n x0_0 x0_1 x1 ) n v) from by funext x0_0 x0_1 x1 v; exact impl_areRows_e1 n x0_0 x0_1 x1 _ v]
  rfl
noncomputable def spec_l5Rows_x1 (C0 : Ca tb) (self1 : (Int) → Option Bool) (x0_0 : Int) (x0_1 : List Int) (x1 : List (List Int)) (v1 : Int) : Option Bool :=
  if v1 < (x0_1.length : Int) then (if 0 ≤ v1 then (if v1 < (x0_1.length : Int) then (if 0 ≤ v1 then (if v1 < (x1.length : Int) then (c_spec_l3Poly C0 (x0_1.getD v1.toNat (0:Int)) x0_0 (0:Int) (x1.getD v1.toNat [])).bind fun (d1 : Bool) => if (!d1) = true then some (false) else self1 (wr .i64 (v1 + (1:Int))) else none) else none) else none) else none) else some (true)
noncomputable def spec_l5Rows_l1 (C0 : Ca tb) (N0 : Nat) (x0_0 : Int) (x0_1 : List Int) (x1 : List (List Int)) (m : Nat) (v1 : Int) : Option Bool :=
  loopIt (exec tb C0 155 0 N0 (codeAt [1, 1, 0, 1, 0, 0] (bodyOf Tryd.f155))) (trim 0 [1, 2, 14, 15, 16] 1) (contAt tb C0 155 0 N0 [1, 1, 0, 1, 0] [] (bodyOf Tryd.f155) (finish tb 155 Tryd.f155)) m ⟨[.top, .sl (.sl (.int .i64)) (x1), .bptr 0 0, .top, .top, .top, .top, .top, .top, .top, .top, .top, .top, .top, .sl (.int .i64) (x0_1), .int .i64 ((x0_1.length : Int)), .int .i64 (v1), .top, .top, .top, .top, .top, .top, .top, .top, .top, .top, .top, .top, .top, .top, .top], [.box [.int .i64 (x0_0), .sl (.int .i64) (x0_1)]]⟩
noncomputable def spec_l5Rows_g1 (C0 : Ca tb) (N0 : Nat) (x0_0 : Int) (x0_1 : List Int) (x1 : List (List Int)) (self1 : (Int) → Option Bool) (v1 : Int) : Option Bool :=
  spec_l5Rows_x1 C0 self1 x0_0 x0_1 x1 v1
theorem spec_l5Rows_s1 (n : Nat) (x0_0 : Int) (x0_1 : List Int) (x1 : List (List Int)) (m : Nat) (v1 : Int) : (spec_l5Rows_l1 (run tb orc n) n x0_0 x0_1 x1 (m + 1)) v1 = spec_l5Rows_x1 (run tb orc n) (spec_l5Rows_l1 (run tb orc n) n x0_0 x0_1 x1 m) x0_0 x0_1 x1 v1 := by kernel_rfl
theorem spec_l5Rows_e1 (n : Nat) (x0_0 : Int) (x0_1 : List Int) (x1 : List (List Int)) : ∀ (m : Nat) (v : Int), (spec_l5Rows_l1 (run tb orc n) n x0_0 x0_1 x1 m) v = iterO (spec_l5Rows_g1 (run tb orc n) n x0_0 x0_1 x1 ) m v := by
  refine iterO_eq (fun _ => rfl) fun m v => ?_
  rw [spec_l5Rows_s1]
  rfl
noncomputable def spec_l5Rows_x (C0 : Ca tb) (inn1 : (Int) → (List Int) → (List (List Int)) → (Int) → Option Bool) (x0_0 : Int) (x0_1 : List Int) (x1 : List (List Int)) : Option Bool :=
  if (x1.length : Int) = (x0_1.length : Int) then inn1 x0_0 x0_1 x1 ((0:Int)) else some (false)
noncomputable def spec_l5Rows_f (n : Nat) (x0_0 : Int) (x0_1 : List Int) (x1 : List (List Int)) : Option Bool :=
  spec_l5Rows_x (run tb orc n) (fun x0_0 x0_1 x1 v => iterO (spec_l5Rows_g1 (run tb orc n) n x0_0 x0_1 x1 ) n v) x0_0 x0_1 x1 
theorem spec_l5Rows_r (n : Nat) (x0_0 : Int) (x0_1 : List Int) (x1 : List (List Int)) : c_spec_l5Rows (run tb orc (n + 1)) x0_0 x0_1 x1 = spec_l5Rows_x (run tb orc n) (fun x0_0 x0_1 x1 v => (spec_l5Rows_l1 (run tb orc n) n x0_0 x0_1 x1 n) v) x0_0 x0_1 x1  := by kernel_rfl
/-- loop.example/g00133/spec.l5Rows -/
theorem spec_l5Rows_eq (n : Nat) (x0_0 : Int) (x0_1 : List Int) (x1 : List (List Int)) : c_spec_l5Rows (run tb orc (n + 1)) x0_0 x0_1 x1 = spec_l5Rows_f n x0_0 x0_1 x1 := by
  rw [spec_l5Rows_r]
  rw [show (fun x0_0 x0_1 x1 v => (spec_l5Rows_l1 (run tb orc n) n x0_0 x0_1 x1 n) v) = (fun x0_0 x0_1 x1 v => iterO (spec_l5Rows_g1 (run tb orc n) n x0_0 x0_1 x1 ) n v) from by funext x0_0 x0_1 x1 v; exact spec_l5Rows_e1 n x0_0 x0_1 x1 _ v]
  rfl
noncomputable def impl_GoodRows_x (C0 : Ca tb) (x0_0 : Int) (x0_1 : List Int) (x1_0 : Bool) (x1_1 : List (List Int)) : Option Bool :=
  (c_impl_GoodSpace C0 x0_0 x0_1).bind fun (d1 : Bool) => if (d1) = true then (c_impl_areRows C0 x0_0 x0_1 x1_1).bind fun (d2 : Bool) => some (d2) else some (false)
noncomputable def impl_GoodRows_f (n : Nat) (x0_0 : Int) (x0_1 : List Int) (x1_0 : Bool) (x1_1 : List (List Int)) : Option Bool :=
  impl_GoodRows_x (run tb orc n) x0_0 x0_1 x1_0 x1_1 
theorem impl_GoodRows_r (n : Nat) (x0_0 : Int) (x0_1 : List Int) (x1_0 : Bool) (x1_1 : List (List Int)) : c_impl_GoodRows (run tb orc (n + 1)) x0_0 x0_1 x1_0 x1_1 = impl_GoodRows_x (run tb orc n) x0_0 x0_1 x1_0 x1_1  := by kernel_rfl
/-- loop.example/g00133/impl.GoodRows -/
theorem impl_GoodRows_eq (n : Nat) (x0_0 : Int) (x0_1 : List Int) (x1_0 : Bool) (x1_1 : List (List Int)) : c_impl_GoodRows (run tb orc (n + 1)) x0_0 x0_1 x1_0 x1_1 = impl_GoodRows_f n x0_0 x0_1 x1_0 x1_1 := by
  rw [impl_GoodRows_r]
  rfl
noncomputable def spec_GoodRows_x (C0 : Ca tb) (x0_0 : Int) (x0_1 : List Int) (x1_0 : Bool) (x1_1 : List (List Int)) : Option Bool :=
  (c_spec_GoodSpace C0 x0_0 x0_1).bind fun (d1 : Bool) => if (d1) = true then (c_spec_l5Rows C0 x0_0 x0_1 x1_1).bind fun (d2 : Bool) => some (d2) else some (false)
noncomputable def spec_GoodRows_f (n : Nat) (x0_0 : Int) (x0_1 : List Int) (x1_0 : Bool) (x1_1 : List (List Int)) : Option Bool :=
  spec_GoodRows_x (run tb orc n) x0_0 x0_1 x1_0 x1_1 
theorem spec_GoodRows_r (n : Nat) (x0_0 : Int) (x0_1 : List Int) (x1_0 : Bool) (x1_1 : List (List Int)) : c_spec_GoodRows (run tb orc (n + 1)) x0_0 x0_1 x1_0 x1_1 = spec_GoodRows_x (run tb orc n) x0_0 x0_1 x1_0 x1_1  := by kernel_rfl
/-- loop.example/g00133/spec.GoodRows -/
theorem spec_GoodRows_eq (n : Nat) (x0_0 : Int) (x0_1 : List Int) (x1_0 : Bool) (x1_1 : List (List Int)) : c_spec_GoodRows (run tb orc (n + 1)) x0_0 x0_1 x1_0 x1_1 = spec_GoodRows_f n x0_0 x0_1 x1_0 x1_1 := by
  rw [spec_GoodRows_r]
  rfl
end Go.Proofs.YthanbjnpfenniaaDoor.Fw
