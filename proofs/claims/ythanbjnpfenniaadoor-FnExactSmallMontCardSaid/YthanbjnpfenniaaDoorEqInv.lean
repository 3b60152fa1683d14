/- The functions' equations over the interpreter. Printed by fwgen.py. -/
import Derived.Test.YthanbjnpfenniaaDoorFwZf
import Derived.Test.YthanbjnpfenniaaDoorFwTok
import Derived.Test.YthanbjnpfenniaaDoorFwOrc
import Derived.Test.YthanbjnpfenniaaDoorEqM
import Derived.Test.YthanbjnpfenniaaDoorEqV
import Derived.Test.YthanbjnpfenniaaDoorEqW
import Derived.KernelRfl
import Derived.Lib.Tables
namespace Go.Proofs.YthanbjnpfenniaaDoor.Fw
open Go Go.RowKit
set_option linter.unusedVariables false
set_option maxRecDepth 100000
noncomputable def c_impl_product (C : Ca tb) (x0 : List Int) (x1 : Int) : Option (Bool × List Int) := C.pure 66 [.sl (.int .i64) (x0), .int .i64 (x1)]
noncomputable def c_impl_inverses (C : Ca tb) (x0 : List Int) : Option (List Int) := C.pure 160 [.sl (.int .i64) (x0)]
noncomputable def c_spec_l4Inverse (C : Ca tb) (x0 : List Int) (x1 : Int) : Option Int := C.pure 159 [.sl (.int .i64) (x0), .int .i64 (x1)]
noncomputable def impl_product_x1 (C0 : Ca tb) (self1 : (Int × Bool × List Int) → Option (Bool × List Int)) (x0 : List Int) (x1 : Int) (v1 : Int × Bool × List Int) : Option (Bool × List Int) :=
  if v1.1 < (x0.length : Int) then (if 0 ≤ v1.1 then (if v1.1 < (x0.length : Int) then (if v1.1 = x1 then self1 (wr .i64 (v1.1 + (1:Int)), v1.2.1, v1.2.2) else (c_impl_timesW C0 v1.2.1 v1.2.2 (x0.getD v1.1.toNat (0:Int))).bind fun (d2 : Bool × List Int) => self1 (wr .i64 (v1.1 + (1:Int)), d2.1, d2.2)) else none) else none) else some ((v1.2.1, v1.2.2))
noncomputable def impl_product_l1 (C0 : Ca tb) (N0 : Nat) (x0 : List Int) (x1 : Int) (m : Nat) (v1 : Int × Bool × List Int) : Option (Bool × List Int) :=
  loopIt (exec tb C0 66 0 N0 (codeAt [1, 1, 0, 1, 0, 0] (bodyOf Tryd.f66))) (trim 0 [1, 4, 5, 9, 10, 11] 2) (contAt tb C0 66 0 N0 [1, 1, 0, 1, 0] [] (bodyOf Tryd.f66) (finish tb 66 Tryd.f66)) m ⟨[.top, .int .i64 (x1), .top, .top, .bptr 0 0, .bptr 1 0, .top, .top, .top, .sl (.int .i64) (x0), .int .i64 ((x0.length : Int)), .int .i64 (v1.1), .top, .top, .top, .top, .top, .top, .top, .top, .top, .top, .top, .top], [.box [.bool (false), .zsl], .box [.bool (v1.2.1), .sl (.int .i64) (v1.2.2)]]⟩
noncomputable def impl_product_g1 (C0 : Ca tb) (N0 : Nat) (x0 : List Int) (x1 : Int) (self1 : (Int × Bool × List Int) → Option (Bool × List Int)) (v1 : Int × Bool × List Int) : Option (Bool × List Int) :=
  impl_product_x1 C0 self1 x0 x1 v1
theorem impl_product_s1 (n : Nat) (x0 : List Int) (x1 : Int) (m : Nat) (v1 : Int × Bool × List Int) : (impl_product_l1 (run tb orc n) n x0 x1 (m + 1)) v1 = impl_product_x1 (run tb orc n) (impl_product_l1 (run tb orc n) n x0 x1 m) x0 x1 v1 := by kernel_rfl
theorem impl_product_e1 (n : Nat) (x0 : List Int) (x1 : Int) : ∀ (m : Nat) (v : Int × Bool × List Int), (impl_product_l1 (run tb orc n) n x0 x1 m) v = iterO (impl_product_g1 (run tb orc n) n x0 x1 ) m v := by
  refine iterO_eq (fun _ => rfl) fun m v => ?_
  rw [impl_product_s1]
  rfl
noncomputable def impl_product_x (C0 : Ca tb) (inn1 : (List Int) → (Int) → (Int × Bool × List Int) → Option (Bool × List Int)) (x0 : List Int) (x1 : Int) : Option (Bool × List Int) :=
  (c_impl_wholeOf C0 (1:Int)).bind fun (d1 : Bool × List Int) => inn1 x0 x1 ((0:Int), d1.1, d1.2)
noncomputable def impl_product_f (n : Nat) (x0 : List Int) (x1 : Int) : Option (Bool × List Int) :=
  impl_product_x (run tb orc n) (fun x0 x1 v => iterO (impl_product_g1 (run tb orc n) n x0 x1 ) n v) x0 x1 
theorem impl_product_r (n : Nat) (x0 : List Int) (x1 : Int) : c_impl_product (run tb orc (n + 1)) x0 x1 = impl_product_x (run tb orc n) (fun x0 x1 v => (impl_product_l1 (run tb orc n) n x0 x1 n) v) x0 x1  := by kernel_rfl
/-- loop.example/g00133/impl.product -/
theorem impl_product_eq (n : Nat) (x0 : List Int) (x1 : Int) : c_impl_product (run tb orc (n + 1)) x0 x1 = impl_product_f n x0 x1 := by
  rw [impl_product_r]
  rw [show (fun x0 x1 v => (impl_product_l1 (run tb orc n) n x0 x1 n) v) = (fun x0 x1 v => iterO (impl_product_g1 (run tb orc n) n x0 x1 ) n v) from by funext x0 x1 v; exact impl_product_e1 n x0 x1 _ v]
  rfl
noncomputable def impl_inverses_x1 (C0 : Ca tb) (self1 : (Int × List Int) → Option (List Int)) (x0 : List Int) (v1 : Int × List Int) : Option (List Int) :=
  if v1.1 < (x0.length : Int) then (if 0 ≤ v1.1 then (if v1.1 < (x0.length : Int) then (c_impl_product C0 x0 v1.1).bind fun (d1 : Bool × List Int) => (c_impl_modW C0 d1.1 d1.2 (x0.getD v1.1.toNat (0:Int))).bind fun (d2 : Int) => (c_impl_inverse C0 d2 (x0.getD v1.1.toNat (0:Int))).bind fun (d3 : Int × Bool) => if v1.2.length + ([d3.1]).length < lim then (self1 (wr .i64 (v1.1 + (1:Int)), v1.2 ++ ([d3.1]))) else none else none) else none) else some (v1.2)
noncomputable def impl_inverses_l1 (C0 : Ca tb) (N0 : Nat) (x0 : List Int) (m : Nat) (v1 : Int × List Int) : Option (List Int) :=
  loopIt (exec tb C0 160 0 N0 (codeAt [1, 1, 0, 1, 0, 0] (bodyOf Tryd.f160))) (trim 0 [0, 3, 9, 10, 11] 1) (contAt tb C0 160 0 N0 [1, 1, 0, 1, 0] [] (bodyOf Tryd.f160) (finish tb 160 Tryd.f160)) m ⟨[.sl (.int .i64) (x0), .top, .top, .osl 0 0, .top, .top, .top, .top, .top, .sl (.int .i64) (x0), .int .i64 ((x0.length : Int)), .int .i64 (v1.1), .top, .top, .top, .top, .top, .top, .top, .top, .top, .top, .top, .top, .top, .top, .top, .top, .top, .top, .top, .top], [.arr (.int .i64) (v1.2) 0 true]⟩
noncomputable def impl_inverses_g1 (C0 : Ca tb) (N0 : Nat) (x0 : List Int) (self1 : (Int × List Int) → Option (List Int)) (v1 : Int × List Int) : Option (List Int) :=
  impl_inverses_x1 C0 self1 x0 v1
theorem impl_inverses_s1 (n : Nat) (x0 : List Int) (m : Nat) (v1 : Int × List Int) : (impl_inverses_l1 (run tb orc n) n x0 (m + 1)) v1 = impl_inverses_x1 (run tb orc n) (impl_inverses_l1 (run tb orc n) n x0 m) x0 v1 := by kernel_rfl
theorem impl_inverses_e1 (n : Nat) (x0 : List Int) : ∀ (m : Nat) (v : Int × List Int), (impl_inverses_l1 (run tb orc n) n x0 m) v = iterO (impl_inverses_g1 (run tb orc n) n x0 ) m v := by
  refine iterO_eq (fun _ => rfl) fun m v => ?_
  rw [impl_inverses_s1]
  rfl
noncomputable def impl_inverses_x (C0 : Ca tb) (inn1 : (List Int) → (Int × List Int) → Option (List Int)) (x0 : List Int) : Option (List Int) :=
  inn1 x0 ((0:Int), [])
noncomputable def impl_inverses_f (n : Nat) (x0 : List Int) : Option (List Int) :=
  impl_inverses_x (run tb orc n) (fun x0 v => iterO (impl_inverses_g1 (run tb orc n) n x0 ) n v) x0 
theorem impl_inverses_r (n : Nat) (x0 : List Int) : c_impl_inverses (run tb orc (n + 1)) x0 = impl_inverses_x (run tb orc n) (fun x0 v => (impl_inverses_l1 (run tb orc n) n x0 n) v) x0  := by kernel_rfl
/-- loop.example/g00133/impl.inverses -/
theorem impl_inverses_eq (n : Nat) (x0 : List Int) : c_impl_inverses (run tb orc (n + 1)) x0 = impl_inverses_f n x0 := by
  rw [impl_inverses_r]
  rw [show (fun x0 v => (impl_inverses_l1 (run tb orc n) n x0 n) v) = (fun x0 v => iterO (impl_inverses_g1 (run tb orc n) n x0 ) n v) from by funext x0 v; exact impl_inverses_e1 n x0 _ v]
  rfl
noncomputable def spec_l4Inverse_x1 (C0 : Ca tb) (self1 : (Int × Int) → Option Int) (x0 : List Int) (x1 : Int) (v1 : Int × Int) : Option Int :=
  if v1.2 < (x0.length : Int) then (if 0 ≤ v1.2 then (if v1.2 < (x0.length : Int) then (if v1.2 = x1 then self1 (v1.1, wr .i64 (v1.2 + (1:Int))) else if 0 ≤ x1 then (if x1 < (x0.length : Int) then (if x0.getD x1.toNat (0:Int) = 0 then none else if 0 ≤ x1 then (if x1 < (x0.length : Int) then (if x0.getD x1.toNat (0:Int) = 0 then none else self1 ((wr .i64 (v1.1 * ((x0.getD v1.2.toNat (0:Int)).tmod (x0.getD x1.toNat (0:Int))))).tmod (x0.getD x1.toNat (0:Int)), wr .i64 (v1.2 + (1:Int)))) else none) else none) else none) else none) else none) else none) else if 0 ≤ x1 then (if x1 < (x0.length : Int) then (c_spec_l1Inv C0 v1.1 (x0.getD x1.toNat (0:Int))).bind fun (d1 : Int) => some (d1) else none) else none
noncomputable def spec_l4Inverse_l1 (C0 : Ca tb) (N0 : Nat) (x0 : List Int) (x1 : Int) (m : Nat) (v1 : Int × Int) : Option Int :=
  loopIt (exec tb C0 159 0 N0 (codeAt [1, 1, 0, 1, 0, 0] (bodyOf Tryd.f159))) (trim 0 [0, 1, 5, 13, 14, 15] 0) (contAt tb C0 159 0 N0 [1, 1, 0, 1, 0] [] (bodyOf Tryd.f159) (finish tb 159 Tryd.f159)) m ⟨[.sl (.int .i64) (x0), .int .i64 (x1), .top, .top, .top, .int .i64 (v1.1), .top, .top, .top, .top, .top, .top, .top, .sl (.int .i64) (x0), .int .i64 ((x0.length : Int)), .int .i64 (v1.2), .top, .top, .top, .top, .top, .top, .top, .top, .top, .top, .top, .top, .top, .top, .top, .top, .top, .top, .top, .top, .top, .top, .top, .top, .top, .top, .top], []⟩
noncomputable def spec_l4Inverse_g1 (C0 : Ca tb) (N0 : Nat) (x0 : List Int) (x1 : Int) (self1 : (Int × Int) → Option Int) (v1 : Int × Int) : Option Int :=
  spec_l4Inverse_x1 C0 self1 x0 x1 v1
theorem spec_l4Inverse_s1 (n : Nat) (x0 : List Int) (x1 : Int) (m : Nat) (v1 : Int × Int) : (spec_l4Inverse_l1 (run tb orc n) n x0 x1 (m + 1)) v1 = spec_l4Inverse_x1 (run tb orc n) (spec_l4Inverse_l1 (run tb orc n) n x0 x1 m) x0 x1 v1 := by kernel_rfl
theorem spec_l4Inverse_e1 (n : Nat) (x0 : List Int) (x1 : Int) : ∀ (m : Nat) (v : Int × Int), (spec_l4Inverse_l1 (run tb orc n) n x0 x1 m) v = iterO (spec_l4Inverse_g1 (run tb orc n) n x0 x1 ) m v := by
  refine iterO_eq (fun _ => rfl) fun m v => ?_
  rw [spec_l4Inverse_s1]
  rfl
noncomputable def spec_l4Inverse_x (C0 : Ca tb) (inn1 : (List Int) → (Int) → (Int × Int) → Option Int) (x0 : List Int) (x1 : Int) : Option Int :=
  if 0 ≤ x1 then (if x1 < (x0.length : Int) then (if x0.getD x1.toNat (0:Int) = 0 then none else inn1 x0 x1 ((1:Int).tmod (x0.getD x1.toNat (0:Int)), (0:Int))) else none) else none
noncomputable def spec_l4Inverse_f (n : Nat) (x0 : List Int) (x1 : Int) : Option Int :=
  spec_l4Inverse_x (run tb orc n) (fun x0 x1 v => iterO (spec_l4Inverse_g1 (run tb orc n) n x0 x1 ) n v) x0 x1 
theorem spec_l4Inverse_r (n : Nat) (x0 : List Int) (x1 : Int) : c_spec_l4Inverse (run tb orc (n + 1)) x0 x1 = spec_l4Inverse_x (run tb orc n) (fun x0 x1 v => (spec_l4Inverse_l1 (run tb orc n) n x0 x1 n) v) x0 x1  := by kernel_rfl
/-- loop.example/g00133/spec.l4Inverse -/
theorem spec_l4Inverse_eq (n : Nat) (x0 : List Int) (x1 : Int) : c_spec_l4Inverse (run tb orc (n + 1)) x0 x1 = spec_l4Inverse_f n x0 x1 := by
  rw [spec_l4Inverse_r]
  rw [show (fun x0 x1 v => (spec_l4Inverse_l1 (run tb orc n) n x0 x1 n) v) = (fun x0 x1 v => iterO (spec_l4Inverse_g1 (run tb orc n) n x0 x1 ) n v) from by funext x0 x1 v; exact spec_l4Inverse_e1 n x0 x1 _ v]
  rfl
end Go.Proofs.YthanbjnpfenniaaDoor.Fw
