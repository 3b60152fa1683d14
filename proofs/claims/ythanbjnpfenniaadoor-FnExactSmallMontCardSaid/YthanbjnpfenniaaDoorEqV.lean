/- The functions' equations over the interpreter. Printed by fwgen.py. -/
import Derived.Test.YthanbjnpfenniaaDoorFwZf
import Derived.Test.YthanbjnpfenniaaDoorFwTok
import Derived.Test.YthanbjnpfenniaaDoorFwOrc
import Derived.Test.YthanbjnpfenniaaDoorEqR
import Derived.KernelRfl
import Derived.Lib.Tables
namespace Go.Proofs.YthanbjnpfenniaaDoor.Fw
open Go Go.RowKit
set_option linter.unusedVariables false
set_option maxRecDepth 100000
noncomputable def c_impl_inverse (C : Ca tb) (x0 : Int) (x1 : Int) : Option (Int × Bool) := C.pure 135 [.int .i64 (x0), .int .i64 (x1)]
noncomputable def c_spec_l1Inv (C : Ca tb) (x0 : Int) (x1 : Int) : Option Int := C.pure 114 [.int .i64 (x0), .int .i64 (x1)]
noncomputable def impl_inverse_x1 (C0 : Ca tb) (self1 : (Int × Int × Int × Int) → Option (Int × Bool)) (x1 : Int) (v1 : Int × Int × Int × Int) : Option (Int × Bool) :=
  if v1.2.1 = (0:Int) then (c_impl_mod C0 v1.2.2.1 x1).bind fun (d2 : Int) => some (d2, decide (v1.1 = (1:Int))) else if v1.2.1 = 0 then none else self1 (v1.2.1, wr .i64 (v1.1 - (wr .i64 ((wr .i64 (v1.1.tdiv v1.2.1)) * v1.2.1))), v1.2.2.2, wr .i64 (v1.2.2.1 - (wr .i64 ((wr .i64 (v1.1.tdiv v1.2.1)) * v1.2.2.2))))
noncomputable def impl_inverse_l1 (C0 : Ca tb) (N0 : Nat) (x1 : Int) (m : Nat) (v1 : Int × Int × Int × Int) : Option (Int × Bool) :=
  loopIt (exec tb C0 135 0 N0 (codeAt [1, 1, 1, 0, 0, 0] (bodyOf Tryd.f135))) (trim 0 [1, 6, 7, 8, 9] 0) (contAt tb C0 135 0 N0 [1, 1, 1, 0, 0] [] (bodyOf Tryd.f135) (finish tb 135 Tryd.f135)) m ⟨[.top, .int .i64 (x1), .top, .top, .top, .top, .int .i64 (v1.1), .int .i64 (v1.2.1), .int .i64 (v1.2.2.1), .int .i64 (v1.2.2.2), .top, .top, .top, .top, .top, .top, .top, .top, .top, .top, .top, .top, .top, .top, .top, .top, .top, .top, .top, .top, .top, .top, .top, .top, .top, .top, .top, .top], []⟩
noncomputable def impl_inverse_g1 (C0 : Ca tb) (N0 : Nat) (x1 : Int) (self1 : (Int × Int × Int × Int) → Option (Int × Bool)) (v1 : Int × Int × Int × Int) : Option (Int × Bool) :=
  impl_inverse_x1 C0 self1 x1 v1
theorem impl_inverse_s1 (n : Nat) (x1 : Int) (m : Nat) (v1 : Int × Int × Int × Int) : (impl_inverse_l1 (run tb orc n) n x1 (m + 1)) v1 = impl_inverse_x1 (run tb orc n) (impl_inverse_l1 (run tb orc n) n x1 m) x1 v1 := by kernel_rfl
theorem impl_inverse_e1 (n : Nat) (x1 : Int) : ∀ (m : Nat) (v : Int × Int × Int × Int), (impl_inverse_l1 (run tb orc n) n x1 m) v = iterO (impl_inverse_g1 (run tb orc n) n x1 ) m v := by
  refine iterO_eq (fun _ => rfl) fun m v => ?_
  rw [impl_inverse_s1]
  rfl
noncomputable def impl_inverse_x (C0 : Ca tb) (inn1 : (Int) → (Int × Int × Int × Int) → Option (Int × Bool)) (x0 : Int) (x1 : Int) : Option (Int × Bool) :=
  (c_impl_mod C0 x0 x1).bind fun (d1 : Int) => inn1 x1 (d1, x1, (1:Int), (0:Int))
noncomputable def impl_inverse_f (n : Nat) (x0 : Int) (x1 : Int) : Option (Int × Bool) :=
  impl_inverse_x (run tb orc n) (fun x1 v => iterO (impl_inverse_g1 (run tb orc n) n x1 ) n v) x0 x1 
theorem impl_inverse_r (n : Nat) (x0 : Int) (x1 : Int) : c_impl_inverse (run tb orc (n + 1)) x0 x1 = impl_inverse_x (run tb orc n) (fun x1 v => (impl_inverse_l1 (run tb orc n) n x1 n) v) x0 x1  := by kernel_rfl
/-- loop.example/g00133/impl.inverse -/
theorem impl_inverse_eq (n : Nat) (x0 : Int) (x1 : Int) : c_impl_inverse (run tb orc (n + 1)) x0 x1 = impl_inverse_f n x0 x1 := by
  rw [impl_inverse_r]
  rw [show (fun x1 v => (impl_inverse_l1 (run tb orc n) n x1 n) v) = (fun x1 v => iterO (impl_inverse_g1 (run tb orc n) n x1 ) n v) from by funext x1 v; exact impl_inverse_e1 n x1 _ v]
  rfl
noncomputable def spec_l1Inv_x1 (C0 : Ca tb) (self1 : (Int × Int × Int × Int) → Option Int) (x1 : Int) (v1 : Int × Int × Int × Int) : Option Int :=
  if v1.1 = (0:Int) then (if v1.2.1 = (1:Int) then (c_spec_l1Mod C0 v1.2.2.2 x1).bind fun (d2 : Int) => some (d2) else some ((0:Int))) else if v1.1 = 0 then none else self1 (wr .i64 (v1.2.1 - (wr .i64 ((wr .i64 (v1.2.1.tdiv v1.1)) * v1.1))), v1.1, wr .i64 (v1.2.2.2 - (wr .i64 ((wr .i64 (v1.2.1.tdiv v1.1)) * v1.2.2.1))), v1.2.2.1)
noncomputable def spec_l1Inv_l1 (C0 : Ca tb) (N0 : Nat) (x1 : Int) (m : Nat) (v1 : Int × Int × Int × Int) : Option Int :=
  loopIt (exec tb C0 114 0 N0 (codeAt [1, 1, 1, 1, 1, 0, 0, 0] (bodyOf Tryd.f114))) (trim 0 [1, 5, 6, 7, 8] 0) (contAt tb C0 114 0 N0 [1, 1, 1, 1, 1, 0, 0] [] (bodyOf Tryd.f114) (finish tb 114 Tryd.f114)) m ⟨[.top, .int .i64 (x1), .top, .top, .top, .int .i64 (v1.1), .int .i64 (v1.2.1), .int .i64 (v1.2.2.1), .int .i64 (v1.2.2.2), .top, .top, .top, .top, .top, .top, .top, .top, .top, .top, .top, .top, .top, .top, .top, .top, .top, .top, .top, .top, .top, .top, .top, .top, .top, .top, .top, .top, .top, .top, .top], []⟩
noncomputable def spec_l1Inv_g1 (C0 : Ca tb) (N0 : Nat) (x1 : Int) (self1 : (Int × Int × Int × Int) → Option Int) (v1 : Int × Int × Int × Int) : Option Int :=
  spec_l1Inv_x1 C0 self1 x1 v1
theorem spec_l1Inv_s1 (n : Nat) (x1 : Int) (m : Nat) (v1 : Int × Int × Int × Int) : (spec_l1Inv_l1 (run tb orc n) n x1 (m + 1)) v1 = spec_l1Inv_x1 (run tb orc n) (spec_l1Inv_l1 (run tb orc n) n x1 m) x1 v1 := by kernel_rfl
theorem spec_l1Inv_e1 (n : Nat) (x1 : Int) : ∀ (m : Nat) (v : Int × Int × Int × Int), (spec_l1Inv_l1 (run tb orc n) n x1 m) v = iterO (spec_l1Inv_g1 (run tb orc n) n x1 ) m v := by
  refine iterO_eq (fun _ => rfl) fun m v => ?_
  rw [spec_l1Inv_s1]
  rfl
noncomputable def spec_l1Inv_x (C0 : Ca tb) (inn1 : (Int) → (Int × Int × Int × Int) → Option Int) (x0 : Int) (x1 : Int) : Option Int :=
  (c_spec_l1Mod C0 x0 x1).bind fun (d1 : Int) => inn1 x1 (d1, x1, (1:Int), (0:Int))
noncomputable def spec_l1Inv_f (n : Nat) (x0 : Int) (x1 : Int) : Option Int :=
  spec_l1Inv_x (run tb orc n) (fun x1 v => iterO (spec_l1Inv_g1 (run tb orc n) n x1 ) n v) x0 x1 
theorem spec_l1Inv_r (n : Nat) (x0 : Int) (x1 : Int) : c_spec_l1Inv (run tb orc (n + 1)) x0 x1 = spec_l1Inv_x (run tb orc n) (fun x1 v => (spec_l1Inv_l1 (run tb orc n) n x1 n) v) x0 x1  := by kernel_rfl
/-- loop.example/g00133/spec.l1Inv -/
theorem spec_l1Inv_eq (n : Nat) (x0 : Int) (x1 : Int) : c_spec_l1Inv (run tb orc (n + 1)) x0 x1 = spec_l1Inv_f n x0 x1 := by
  rw [spec_l1Inv_r]
  rw [show (fun x1 v => (spec_l1Inv_l1 (run tb orc n) n x1 n) v) = (fun x1 v => iterO (spec_l1Inv_g1 (run tb orc n) n x1 ) n v) from by funext x1 v; exact spec_l1Inv_e1 n x1 _ v]
  rfl
end Go.Proofs.YthanbjnpfenniaaDoor.Fw
