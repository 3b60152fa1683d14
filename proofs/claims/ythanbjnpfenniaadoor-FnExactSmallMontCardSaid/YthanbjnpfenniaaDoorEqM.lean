/- The functions' equations over the interpreter. Printed by fwgen.py. -/
import Derived.Test.YthanbjnpfenniaaDoorFwZf
import Derived.Test.YthanbjnpfenniaaDoorFwTok
import Derived.Test.YthanbjnpfenniaaDoorFwOrc
import Derived.Test.YthanbjnpfenniaaDoorEqR
import Derived.KernelRfl
import Derived.Lib.Tables
namespace Go.Proofs.YthanbjnpfenniaaDoor.Fw
open Go Go.RowKit
set_option linter.unusedVariables false
set_option maxRecDepth 100000
noncomputable def c_spec_l2Word (C : Ca tb) (x0 : List Int) (x1 : Int) : Option Int := C.pure 113 [.sl (.int .i64) (x0), .int .i64 (x1)]
noncomputable def c_spec_l2In (C : Ca tb) (x0_0 : Bool) (x0_1 : List Int) : Option (Bool × List Int) := C.pure 98 [.agg [.bool (x0_0), .sl (.int .i64) (x0_1)]]
noncomputable def c_impl_modW (C : Ca tb) (x0_0 : Bool) (x0_1 : List Int) (x1 : Int) : Option Int := C.pure 136 [.agg [.bool (x0_0), .sl (.int .i64) (x0_1)], .int .i64 (x1)]
noncomputable def c_spec_l2Modulo (C : Ca tb) (x0_0 : Bool) (x0_1 : List Int) (x1 : Int) : Option Int := C.pure 130 [.agg [.bool (x0_0), .sl (.int .i64) (x0_1)], .int .i64 (x1)]
noncomputable def spec_l2Word_x1 (C0 : Ca tb) (self1 : (Int × Int) → Option Int) (x0 : List Int) (x1 : Int) (v1 : Int × Int) : Option Int :=
  if v1.2 ≥ (0:Int) then (if 0 ≤ v1.2 then (if v1.2 < (x0.length : Int) then (if x1 = 0 then none else self1 ((wr .i64 ((wr .i64 (v1.1 * (268435456:Int))) + (x0.getD v1.2.toNat (0:Int)))).tmod x1, wr .i64 (v1.2 - (1:Int)))) else none) else none) else some (v1.1)
noncomputable def spec_l2Word_l1 (C0 : Ca tb) (N0 : Nat) (x0 : List Int) (x1 : Int) (m : Nat) (v1 : Int × Int) : Option Int :=
  loopIt (exec tb C0 113 0 N0 (codeAt [1, 1, 0, 1, 0, 0] (bodyOf Tryd.f113))) (trim 0 [0, 1, 5, 6] 0) (contAt tb C0 113 0 N0 [1, 1, 0, 1, 0] [] (bodyOf Tryd.f113) (finish tb 113 Tryd.f113)) m ⟨[.sl (.int .i64) (x0), .int .i64 (x1), .top, .top, .top, .int .i64 (v1.1), .int .i64 (v1.2), .top, .top, .top, .top, .top, .top, .top, .top, .top, .top, .top, .top, .top, .top, .top, .top, .top], []⟩
noncomputable def spec_l2Word_g1 (C0 : Ca tb) (N0 : Nat) (x0 : List Int) (x1 : Int) (self1 : (Int × Int) → Option Int) (v1 : Int × Int) : Option Int :=
  spec_l2Word_x1 C0 self1 x0 x1 v1
theorem spec_l2Word_s1 (n : Nat) (x0 : List Int) (x1 : Int) (m : Nat) (v1 : Int × Int) : (spec_l2Word_l1 (run tb orc n) n x0 x1 (m + 1)) v1 = spec_l2Word_x1 (run tb orc n) (spec_l2Word_l1 (run tb orc n) n x0 x1 m) x0 x1 v1 := by kernel_rfl
theorem spec_l2Word_e1 (n : Nat) (x0 : List Int) (x1 : Int) : ∀ (m : Nat) (v : Int × Int), (spec_l2Word_l1 (run tb orc n) n x0 x1 m) v = iterO (spec_l2Word_g1 (run tb orc n) n x0 x1 ) m v := by
  refine iterO_eq (fun _ => rfl) fun m v => ?_
  rw [spec_l2Word_s1]
  rfl
noncomputable def spec_l2Word_x (C0 : Ca tb) (inn1 : (List Int) → (Int) → (Int × Int) → Option Int) (x0 : List Int) (x1 : Int) : Option Int :=
  inn1 x0 x1 ((0:Int), wr .i64 ((x0.length : Int) - (1:Int)))
noncomputable def spec_l2Word_f (n : Nat) (x0 : List Int) (x1 : Int) : Option Int :=
  spec_l2Word_x (run tb orc n) (fun x0 x1 v => iterO (spec_l2Word_g1 (run tb orc n) n x0 x1 ) n v) x0 x1 
theorem spec_l2Word_r (n : Nat) (x0 : List Int) (x1 : Int) : c_spec_l2Word (run tb orc (n + 1)) x0 x1 = spec_l2Word_x (run tb orc n) (fun x0 x1 v => (spec_l2Word_l1 (run tb orc n) n x0 x1 n) v) x0 x1  := by kernel_rfl
/-- loop.example/g00133/spec.l2Word -/
theorem spec_l2Word_eq (n : Nat) (x0 : List Int) (x1 : Int) : c_spec_l2Word (run tb orc (n + 1)) x0 x1 = spec_l2Word_f n x0 x1 := by
  rw [spec_l2Word_r]
  rw [show (fun x0 x1 v => (spec_l2Word_l1 (run tb orc n) n x0 x1 n) v) = (fun x0 x1 v => iterO (spec_l2Word_g1 (run tb orc n) n x0 x1 ) n v) from by funext x0 x1 v; exact spec_l2Word_e1 n x0 x1 _ v]
  rfl
noncomputable def spec_l2In_x (C0 : Ca tb) (x0_0 : Bool) (x0_1 : List Int) : Option (Bool × List Int) :=
  some ((x0_0, x0_1))
noncomputable def spec_l2In_f (n : Nat) (x0_0 : Bool) (x0_1 : List Int) : Option (Bool × List Int) :=
  spec_l2In_x (run tb orc n) x0_0 x0_1 
theorem spec_l2In_r (n : Nat) (x0_0 : Bool) (x0_1 : List Int) : c_spec_l2In (run tb orc (n + 1)) x0_0 x0_1 = spec_l2In_x (run tb orc n) x0_0 x0_1  := by kernel_rfl
/-- loop.example/g00133/spec.l2In -/
theorem spec_l2In_eq (n : Nat) (x0_0 : Bool) (x0_1 : List Int) : c_spec_l2In (run tb orc (n + 1)) x0_0 x0_1 = spec_l2In_f n x0_0 x0_1 := by
  rw [spec_l2In_r]
  rfl
noncomputable def impl_modW_x1 (C0 : Ca tb) (self1 : (Int × Int) → Option Int) (x0_0 : Bool) (x0_1 : List Int) (x1 : Int) (v1 : Int × Int) : Option Int :=
  if v1.2 ≥ (0:Int) then (if (28:Int) < 0 then none else if 0 ≤ v1.2 then (if v1.2 < (x0_1.length : Int) then (if x1 = 0 then none else self1 ((Go.bits .or .i64 (shl .i64 v1.1 (28:Int)) (x0_1.getD v1.2.toNat (0:Int))).tmod x1, wr .i64 (v1.2 - (1:Int)))) else none) else none) else if (x0_0) = true then (c_impl_mod C0 (wr .i64 (0 - v1.1)) x1).bind fun (d1 : Int) => some (d1) else some (v1.1)
noncomputable def impl_modW_l1 (C0 : Ca tb) (N0 : Nat) (x0_0 : Bool) (x0_1 : List Int) (x1 : Int) (m : Nat) (v1 : Int × Int) : Option Int :=
  loopIt (exec tb C0 136 0 N0 (codeAt [1, 1, 0, 1, 0, 0] (bodyOf Tryd.f136))) (trim 0 [1, 2, 5, 6] 1) (contAt tb C0 136 0 N0 [1, 1, 0, 1, 0] [] (bodyOf Tryd.f136) (finish tb 136 Tryd.f136)) m ⟨[.top, .int .i64 (x1), .bptr 0 0, .top, .top, .int .i64 (v1.1), .int .i64 (v1.2), .top, .top, .top, .top, .top, .top, .top, .top, .top, .top, .top, .top, .top, .top, .top, .top, .top, .top, .top, .top, .top, .top, .top, .top, .top], [.box [.bool (x0_0), .sl (.int .i64) (x0_1)]]⟩
noncomputable def impl_modW_g1 (C0 : Ca tb) (N0 : Nat) (x0_0 : Bool) (x0_1 : List Int) (x1 : Int) (self1 : (Int × Int) → Option Int) (v1 : Int × Int) : Option Int :=
  impl_modW_x1 C0 self1 x0_0 x0_1 x1 v1
theorem impl_modW_s1 (n : Nat) (x0_0 : Bool) (x0_1 : List Int) (x1 : Int) (m : Nat) (v1 : Int × Int) : (impl_modW_l1 (run tb orc n) n x0_0 x0_1 x1 (m + 1)) v1 = impl_modW_x1 (run tb orc n) (impl_modW_l1 (run tb orc n) n x0_0 x0_1 x1 m) x0_0 x0_1 x1 v1 := by kernel_rfl
theorem impl_modW_e1 (n : Nat) (x0_0 : Bool) (x0_1 : List Int) (x1 : Int) : ∀ (m : Nat) (v : Int × Int), (impl_modW_l1 (run tb orc n) n x0_0 x0_1 x1 m) v = iterO (impl_modW_g1 (run tb orc n) n x0_0 x0_1 x1 ) m v := by
  refine iterO_eq (fun _ => rfl) fun m v => ?_
  rw [impl_modW_s1]
  rfl
noncomputable def impl_modW_x (C0 : Ca tb) (inn1 : (Bool) → (List Int) → (Int) → (Int × Int) → Option Int) (x0_0 : Bool) (x0_1 : List Int) (x1 : Int) : Option Int :=
  inn1 x0_0 x0_1 x1 ((0:Int), wr .i64 ((x0_1.length : Int) - (1:Int)))
noncomputable def impl_modW_f (n : Nat) (x0_0 : Bool) (x0_1 : List Int) (x1 : Int) : Option Int :=
  impl_modW_x (run tb orc n) (fun x0_0 x0_1 x1 v => iterO (impl_modW_g1 (run tb orc n) n x0_0 x0_1 x1 ) n v) x0_0 x0_1 x1 
theorem impl_modW_r (n : Nat) (x0_0 : Bool) (x0_1 : List Int) (x1 : Int) : c_impl_modW (run tb orc (n + 1)) x0_0 x0_1 x1 = impl_modW_x (run tb orc n) (fun x0_0 x0_1 x1 v => (impl_modW_l1 (run tb orc n) n x0_0 x0_1 x1 n) v) x0_0 x0_1 x1  := by kernel_rfl
/-- loop.example/g00133/impl.modW -/
theorem impl_modW_eq (n : Nat) (x0_0 : Bool) (x0_1 : List Int) (x1 : Int) : c_impl_modW (run tb orc (n + 1)) x0_0 x0_1 x1 = impl_modW_f n x0_0 x0_1 x1 := by
  rw [impl_modW_r]
  rw [show (fun x0_0 x0_1 x1 v => (impl_modW_l1 (run tb orc n) n x0_0 x0_1 x1 n) v) = (fun x0_0 x0_1 x1 v => iterO (impl_modW_g1 (run tb orc n) n x0_0 x0_1 x1 ) n v) from by funext x0_0 x0_1 x1 v; exact impl_modW_e1 n x0_0 x0_1 x1 _ v]
  rfl
noncomputable def spec_l2Modulo_x (C0 : Ca tb) (x0_0 : Bool) (x0_1 : List Int) (x1 : Int) : Option Int :=
  (c_spec_l2Word C0 x0_1 x1).bind fun (d1 : Int) => if (x0_0) = true then (if d1 > (0:Int) then some (wr .i64 (x1 - d1)) else some (d1)) else some (d1)
noncomputable def spec_l2Modulo_f (n : Nat) (x0_0 : Bool) (x0_1 : List Int) (x1 : Int) : Option Int :=
  spec_l2Modulo_x (run tb orc n) x0_0 x0_1 x1 
theorem spec_l2Modulo_r (n : Nat) (x0_0 : Bool) (x0_1 : List Int) (x1 : Int) : c_spec_l2Modulo (run tb orc (n + 1)) x0_0 x0_1 x1 = spec_l2Modulo_x (run tb orc n) x0_0 x0_1 x1  := by kernel_rfl
/-- loop.example/g00133/spec.l2Modulo -/
theorem spec_l2Modulo_eq (n : Nat) (x0_0 : Bool) (x0_1 : List Int) (x1 : Int) : c_spec_l2Modulo (run tb orc (n + 1)) x0_0 x0_1 x1 = spec_l2Modulo_f n x0_0 x0_1 x1 := by
  rw [spec_l2Modulo_r]
  rfl
end Go.Proofs.YthanbjnpfenniaaDoor.Fw
