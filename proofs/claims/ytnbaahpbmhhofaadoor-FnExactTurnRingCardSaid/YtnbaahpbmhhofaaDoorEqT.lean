/- The functions' equations over the interpreter. Printed by fwgen.py. -/
import Derived.Test.YtnbaahpbmhhofaaDoorFwZf
import Derived.Test.YtnbaahpbmhhofaaDoorFwTok
import Derived.Test.YtnbaahpbmhhofaaDoorFwOrc
import Derived.Test.YtnbaahpbmhhofaaDoorEqB
import Derived.Test.YtnbaahpbmhhofaaDoorEqR
import Derived.KernelRfl
import Derived.Lib.Tables
namespace Go.Proofs.YtnbaahpbmhhofaaDoor.Fw
open Go Go.RowKit
set_option linter.unusedVariables false
set_option maxRecDepth 100000
noncomputable def c_impl_isTurn (C : Ca tb) (x0 : Int) (x1 : Int) : Option Bool := C.pure 91 [.int .i64 (x0), .int .i64 (x1)]
noncomputable def c_spec_l3Odd (C : Ca tb) (x0 : Int) (x1 : Int) : Option Bool := C.pure 89 [.int .i64 (x0), .int .i64 (x1)]
noncomputable def c_impl_turnPoly (C : Ca tb) (x0 : List Int) (x1 : Int) (x2 : Int) : Option (List Int) := C.pure 92 [.sl (.int .i64) (x0), .int .i64 (x1), .int .i64 (x2)]
noncomputable def c_impl_turned_int_impl_turnPoly_1 (C : Ca tb) (x0 : List Int) (x1 : Int) (x2_0_0 : Int) : Option (List Int) := C.pure 118 [.sl (.int .i64) (x0), .int .i64 (x1), .fn 119 [.ref [.int .i64 (x2_0_0)]]]
noncomputable def c_impl_turnPoly_1 (C : Ca tb) (x0 : Int) (x1_0 : Int) : Option Int := C.pure 119 [.int .i64 (x0), .ref [.int .i64 (x1_0)]]
noncomputable def c_spec_l3Turn (C : Ca tb) (x0 : Int) (x1 : Int) (x2 : List Int) (x3 : Int) : Option (List Int) := C.pure 90 [.int .i64 (x0), .int .i64 (x1), .sl (.int .i64) (x2), .int .i64 (x3)]
noncomputable def impl_isTurn_x (C0 : Ca tb) (x0 : Int) (x1 : Int) : Option Bool :=
  (c_impl_in C0 x1 (1:Int) (wr .i64 ((wr .i64 ((2:Int) * x0)) - (1:Int)))).bind fun (d1 : Bool) => if (d1) = true then (if (2:Int) = 0 then none else some (decide (x1.tmod (2:Int) = (1:Int)))) else some (false)
noncomputable def impl_isTurn_f (n : Nat) (x0 : Int) (x1 : Int) : Option Bool :=
  impl_isTurn_x (run tb orc n) x0 x1 
theorem impl_isTurn_r (n : Nat) (x0 : Int) (x1 : Int) : c_impl_isTurn (run tb orc (n + 1)) x0 x1 = impl_isTurn_x (run tb orc n) x0 x1  := by kernel_rfl
/-- loop.example/g00133/impl.isTurn -/
theorem impl_isTurn_eq (n : Nat) (x0 : Int) (x1 : Int) : c_impl_isTurn (run tb orc (n + 1)) x0 x1 = impl_isTurn_f n x0 x1 := by
  rw [impl_isTurn_r]
  rfl
noncomputable def spec_l3Odd_x (C0 : Ca tb) (x0 : Int) (x1 : Int) : Option Bool :=
  (c_spec_l1In C0 x1 (1:Int) (wr .i64 ((wr .i64 ((2:Int) * x0)) - (1:Int)))).bind fun (d1 : Bool) => if (d1) = true then (if (2:Int) = 0 then none else some (decide (x1.tmod (2:Int) = (1:Int)))) else some (false)
noncomputable def spec_l3Odd_f (n : Nat) (x0 : Int) (x1 : Int) : Option Bool :=
  spec_l3Odd_x (run tb orc n) x0 x1 
theorem spec_l3Odd_r (n : Nat) (x0 : Int) (x1 : Int) : c_spec_l3Odd (run tb orc (n + 1)) x0 x1 = spec_l3Odd_x (run tb orc n) x0 x1  := by kernel_rfl
/-- loop.example/g00133/spec.l3Odd -/
theorem spec_l3Odd_eq (n : Nat) (x0 : Int) (x1 : Int) : c_spec_l3Odd (run tb orc (n + 1)) x0 x1 = spec_l3Odd_f n x0 x1 := by
  rw [spec_l3Odd_r]
  rfl
noncomputable def impl_turnPoly_1_x (C0 : Ca tb) (x0 : Int) (x1_0 : Int) : Option Int :=
  (c_impl_mod C0 (wr .i64 (0 - x0)) x1_0).bind fun (d1 : Int) => some (d1)
noncomputable def impl_turnPoly_1_f (n : Nat) (x0 : Int) (x1_0 : Int) : Option Int :=
  impl_turnPoly_1_x (run tb orc n) x0 x1_0 
theorem impl_turnPoly_1_r (n : Nat) (x0 : Int) (x1_0 : Int) : c_impl_turnPoly_1 (run tb orc (n + 1)) x0 x1_0 = impl_turnPoly_1_x (run tb orc n) x0 x1_0  := by kernel_rfl
/-- loop.example/g00133/impl.turnPoly$1 -/
theorem impl_turnPoly_1_eq (n : Nat) (x0 : Int) (x1_0 : Int) : c_impl_turnPoly_1 (run tb orc (n + 1)) x0 x1_0 = impl_turnPoly_1_f n x0 x1_0 := by
  rw [impl_turnPoly_1_r]
  rfl
noncomputable def impl_turned_int_impl_turnPoly_1_x1 (C0 : Ca tb) (self1 : (Int × List Int) → Option (List Int)) (x0 : List Int) (x1 : Int) (x2_0_0 : Int) (v1 : Int × List Int) : Option (List Int) :=
  if v1.1 < (x0.length : Int) then (if 0 ≤ v1.1 then (if v1.1 < (x0.length : Int) then (if wr .i64 ((2:Int) * (x0.length : Int)) = 0 then none else if (wr .i64 (v1.1 * x1)).tmod (wr .i64 ((2:Int) * (x0.length : Int))) < (x0.length : Int) then (if 0 ≤ (wr .i64 (v1.1 * x1)).tmod (wr .i64 ((2:Int) * (x0.length : Int))) then (if (wr .i64 (v1.1 * x1)).tmod (wr .i64 ((2:Int) * (x0.length : Int))) < (v1.2.length : Int) then self1 (wr .i64 (v1.1 + (1:Int)), v1.2.set (((wr .i64 (v1.1 * x1)).tmod (wr .i64 ((2:Int) * (x0.length : Int)))).toNat) (x0.getD v1.1.toNat (0:Int))) else none) else none) else (c_impl_turnPoly_1 C0 (x0.getD v1.1.toNat (0:Int)) x2_0_0).bind fun (d1 : Int) => if 0 ≤ wr .i64 (((wr .i64 (v1.1 * x1)).tmod (wr .i64 ((2:Int) * (x0.length : Int)))) - (x0.length : Int)) then (if wr .i64 (((wr .i64 (v1.1 * x1)).tmod (wr .i64 ((2:Int) * (x0.length : Int)))) - (x0.length : Int)) < (v1.2.length : Int) then self1 (wr .i64 (v1.1 + (1:Int)), v1.2.set ((wr .i64 (((wr .i64 (v1.1 * x1)).tmod (wr .i64 ((2:Int) * (x0.length : Int)))) - (x0.length : Int))).toNat) d1) else none) else none) else none) else none) else some (v1.2)
noncomputable def impl_turned_int_impl_turnPoly_1_l1 (C0 : Ca tb) (N0 : Nat) (x0 : List Int) (x1 : Int) (x2_0_0 : Int) (m : Nat) (v1 : Int × List Int) : Option (List Int) :=
  loopIt (exec tb C0 118 0 N0 (codeAt [1, 1, 1, 0, 1, 0, 0] (bodyOf Tryd.f118))) (trim 0 [1, 2, 7, 8, 16, 17, 18] 1) (contAt tb C0 118 0 N0 [1, 1, 1, 0, 1, 0] [] (bodyOf Tryd.f118) (finish tb 118 Tryd.f118)) m ⟨[.top, .int .i64 (x1), .fn 119 [.ref [.int .i64 (x2_0_0)]], .top, .top, .top, .top, .int .i64 ((x0.length : Int)), .osl 0 0, .top, .top, .top, .top, .top, .top, .top, .sl (.int .i64) (x0), .int .i64 ((x0.length : Int)), .int .i64 (v1.1), .top, .top, .top, .top, .top, .top, .top, .top, .top, .top, .top, .top, .top, .top, .top, .top, .top, .top, .top, .top, .top, .top, .top, .top, .top, .top, .top], [.arr (.int .i64) (v1.2) 0 true]⟩
noncomputable def impl_turned_int_impl_turnPoly_1_g1 (C0 : Ca tb) (N0 : Nat) (x0 : List Int) (x1 : Int) (x2_0_0 : Int) (self1 : (Int × List Int) → Option (List Int)) (v1 : Int × List Int) : Option (List Int) :=
  impl_turned_int_impl_turnPoly_1_x1 C0 self1 x0 x1 x2_0_0 v1
theorem impl_turned_int_impl_turnPoly_1_s1 (n : Nat) (x0 : List Int) (x1 : Int) (x2_0_0 : Int) (m : Nat) (v1 : Int × List Int) : (impl_turned_int_impl_turnPoly_1_l1 (run tb orc n) n x0 x1 x2_0_0 (m + 1)) v1 = impl_turned_int_impl_turnPoly_1_x1 (run tb orc n) (impl_turned_int_impl_turnPoly_1_l1 (run tb orc n) n x0 x1 x2_0_0 m) x0 x1 x2_0_0 v1 := by kernel_rfl
theorem impl_turned_int_impl_turnPoly_1_e1 (n : Nat) (x0 : List Int) (x1 : Int) (x2_0_0 : Int) : ∀ (m : Nat) (v : Int × List Int), (impl_turned_int_impl_turnPoly_1_l1 (run tb orc n) n x0 x1 x2_0_0 m) v = iterO (impl_turned_int_impl_turnPoly_1_g1 (run tb orc n) n x0 x1 x2_0_0 ) m v := by
  refine iterO_eq (fun _ => rfl) fun m v => ?_
  rw [impl_turned_int_impl_turnPoly_1_s1]
  rfl
noncomputable def impl_turned_int_impl_turnPoly_1_x (C0 : Ca tb) (inn1 : (List Int) → (Int) → (Int) → (Int × List Int) → Option (List Int)) (x0 : List Int) (x1 : Int) (x2_0_0 : Int) : Option (List Int) :=
  if 0 ≤ (x0.length : Int) then (if limB (x0.length : Int).toNat = true then (inn1 x0 x1 x2_0_0 ((0:Int), List.replicate (x0.length : Int).toNat (0:Int))) else none) else none
noncomputable def impl_turned_int_impl_turnPoly_1_f (n : Nat) (x0 : List Int) (x1 : Int) (x2_0_0 : Int) : Option (List Int) :=
  impl_turned_int_impl_turnPoly_1_x (run tb orc n) (fun x0 x1 x2_0_0 v => iterO (impl_turned_int_impl_turnPoly_1_g1 (run tb orc n) n x0 x1 x2_0_0 ) n v) x0 x1 x2_0_0 
theorem impl_turned_int_impl_turnPoly_1_r (n : Nat) (x0 : List Int) (x1 : Int) (x2_0_0 : Int) : c_impl_turned_int_impl_turnPoly_1 (run tb orc (n + 1)) x0 x1 x2_0_0 = impl_turned_int_impl_turnPoly_1_x (run tb orc n) (fun x0 x1 x2_0_0 v => (impl_turned_int_impl_turnPoly_1_l1 (run tb orc n) n x0 x1 x2_0_0 n) v) x0 x1 x2_0_0  := by kernel_rfl
/-- loop.example/g00133/impl.turned[int] -/
theorem impl_turned_int_impl_turnPoly_1_eq (n : Nat) (x0 : List Int) (x1 : Int) (x2_0_0 : Int) : c_impl_turned_int_impl_turnPoly_1 (run tb orc (n + 1)) x0 x1 x2_0_0 = impl_turned_int_impl_turnPoly_1_f n x0 x1 x2_0_0 := by
  rw [impl_turned_int_impl_turnPoly_1_r]
  rw [show (fun x0 x1 x2_0_0 v => (impl_turned_int_impl_turnPoly_1_l1 (run tb orc n) n x0 x1 x2_0_0 n) v) = (fun x0 x1 x2_0_0 v => iterO (impl_turned_int_impl_turnPoly_1_g1 (run tb orc n) n x0 x1 x2_0_0 ) n v) from by funext x0 x1 x2_0_0 v; exact impl_turned_int_impl_turnPoly_1_e1 n x0 x1 x2_0_0 _ v]
  rfl
noncomputable def impl_turnPoly_x (C0 : Ca tb) (x0 : List Int) (x1 : Int) (x2 : Int) : Option (List Int) :=
  (c_impl_turned_int_impl_turnPoly_1 C0 x0 x1 x2).bind fun (d1 : List Int) => some (d1)
noncomputable def impl_turnPoly_f (n : Nat) (x0 : List Int) (x1 : Int) (x2 : Int) : Option (List Int) :=
  impl_turnPoly_x (run tb orc n) x0 x1 x2 
theorem impl_turnPoly_r (n : Nat) (x0 : List Int) (x1 : Int) (x2 : Int) : c_impl_turnPoly (run tb orc (n + 1)) x0 x1 x2 = impl_turnPoly_x (run tb orc n) x0 x1 x2  := by kernel_rfl
/-- loop.example/g00133/impl.turnPoly -/
theorem impl_turnPoly_eq (n : Nat) (x0 : List Int) (x1 : Int) (x2 : Int) : c_impl_turnPoly (run tb orc (n + 1)) x0 x1 x2 = impl_turnPoly_f n x0 x1 x2 := by
  rw [impl_turnPoly_r]
  rfl
noncomputable def spec_l3Turn_x1 (C0 : Ca tb) (self1 : (Int × List Int) → Option (List Int)) (x0 : Int) (x1 : Int) (x2 : List Int) (x3 : Int) (v1 : Int × List Int) : Option (List Int) :=
  if v1.1 < (x2.length : Int) then (if 0 ≤ v1.1 then (if v1.1 < (x2.length : Int) then (if wr .i64 ((2:Int) * x1) = 0 then none else if (wr .i64 (v1.1 * x3)).tmod (wr .i64 ((2:Int) * x1)) < x1 then (if 0 ≤ (wr .i64 (v1.1 * x3)).tmod (wr .i64 ((2:Int) * x1)) then (if (wr .i64 (v1.1 * x3)).tmod (wr .i64 ((2:Int) * x1)) < (v1.2.length : Int) then self1 (wr .i64 (v1.1 + (1:Int)), v1.2.set (((wr .i64 (v1.1 * x3)).tmod (wr .i64 ((2:Int) * x1))).toNat) (x2.getD v1.1.toNat (0:Int))) else none) else none) else (c_spec_l1Mod C0 (wr .i64 (0 - (x2.getD v1.1.toNat (0:Int)))) x0).bind fun (d1 : Int) => if 0 ≤ wr .i64 (((wr .i64 (v1.1 * x3)).tmod (wr .i64 ((2:Int) * x1))) - x1) then (if wr .i64 (((wr .i64 (v1.1 * x3)).tmod (wr .i64 ((2:Int) * x1))) - x1) < (v1.2.length : Int) then self1 (wr .i64 (v1.1 + (1:Int)), v1.2.set ((wr .i64 (((wr .i64 (v1.1 * x3)).tmod (wr .i64 ((2:Int) * x1))) - x1)).toNat) d1) else none) else none) else none) else none) else some (v1.2)
noncomputable def spec_l3Turn_l1 (C0 : Ca tb) (N0 : Nat) (x0 : Int) (x1 : Int) (x2 : List Int) (x3 : Int) (m : Nat) (v1 : Int × List Int) : Option (List Int) :=
  loopIt (exec tb C0 90 0 N0 (codeAt [1, 1, 0, 1, 0, 0] (bodyOf Tryd.f90))) (trim 0 [0, 1, 3, 9, 15, 16, 17] 1) (contAt tb C0 90 0 N0 [1, 1, 0, 1, 0] [] (bodyOf Tryd.f90) (finish tb 90 Tryd.f90)) m ⟨[.int .i64 (x0), .int .i64 (x1), .top, .int .i64 (x3), .top, .top, .top, .top, .top, .osl 0 0, .top, .top, .top, .top, .top, .sl (.int .i64) (x2), .int .i64 ((x2.length : Int)), .int .i64 (v1.1), .top, .top, .top, .top, .top, .top, .top, .top, .top, .top, .top, .top, .top, .top, .top, .top, .top, .top, .top, .top, .top, .top, .top, .top, .top, .top, .top, .top], [.arr (.int .i64) (v1.2) 0 true]⟩
noncomputable def spec_l3Turn_g1 (C0 : Ca tb) (N0 : Nat) (x0 : Int) (x1 : Int) (x2 : List Int) (x3 : Int) (self1 : (Int × List Int) → Option (List Int)) (v1 : Int × List Int) : Option (List Int) :=
  spec_l3Turn_x1 C0 self1 x0 x1 x2 x3 v1
theorem spec_l3Turn_s1 (n : Nat) (x0 : Int) (x1 : Int) (x2 : List Int) (x3 : Int) (m : Nat) (v1 : Int × List Int) : (spec_l3Turn_l1 (run tb orc n) n x0 x1 x2 x3 (m + 1)) v1 = spec_l3Turn_x1 (run tb orc n) (spec_l3Turn_l1 (run tb orc n) n x0 x1 x2 x3 m) x0 x1 x2 x3 v1 := by kernel_rfl
theorem spec_l3Turn_e1 (n : Nat) (x0 : Int) (x1 : Int) (x2 : List Int) (x3 : Int) : ∀ (m : Nat) (v : Int × List Int), (spec_l3Turn_l1 (run tb orc n) n x0 x1 x2 x3 m) v = iterO (spec_l3Turn_g1 (run tb orc n) n x0 x1 x2 x3 ) m v := by
  refine iterO_eq (fun _ => rfl) fun m v => ?_
  rw [spec_l3Turn_s1]
  rfl
noncomputable def spec_l3Turn_x (C0 : Ca tb) (inn1 : (Int) → (Int) → (List Int) → (Int) → (Int × List Int) → Option (List Int)) (x0 : Int) (x1 : Int) (x2 : List Int) (x3 : Int) : Option (List Int) :=
  if 0 ≤ x1 then (if limB x1.toNat = true then (inn1 x0 x1 x2 x3 ((0:Int), List.replicate x1.toNat (0:Int))) else none) else none
noncomputable def spec_l3Turn_f (n : Nat) (x0 : Int) (x1 : Int) (x2 : List Int) (x3 : Int) : Option (List Int) :=
  spec_l3Turn_x (run tb orc n) (fun x0 x1 x2 x3 v => iterO (spec_l3Turn_g1 (run tb orc n) n x0 x1 x2 x3 ) n v) x0 x1 x2 x3 
theorem spec_l3Turn_r (n : Nat) (x0 : Int) (x1 : Int) (x2 : List Int) (x3 : Int) : c_spec_l3Turn (run tb orc (n + 1)) x0 x1 x2 x3 = spec_l3Turn_x (run tb orc n) (fun x0 x1 x2 x3 v => (spec_l3Turn_l1 (run tb orc n) n x0 x1 x2 x3 n) v) x0 x1 x2 x3  := by kernel_rfl
/-- loop.example/g00133/spec.l3Turn -/
theorem spec_l3Turn_eq (n : Nat) (x0 : Int) (x1 : Int) (x2 : List Int) (x3 : Int) : c_spec_l3Turn (run tb orc (n + 1)) x0 x1 x2 x3 = spec_l3Turn_f n x0 x1 x2 x3 := by
  rw [spec_l3Turn_r]
  rw [show (fun x0 x1 x2 x3 v => (spec_l3Turn_l1 (run tb orc n) n x0 x1 x2 x3 n) v) = (fun x0 x1 x2 x3 v => iterO (spec_l3Turn_g1 (run tb orc n) n x0 x1 x2 x3 ) n v) from by funext x0 x1 x2 x3 v; exact spec_l3Turn_e1 n x0 x1 x2 x3 _ v]
  rfl
end Go.Proofs.YtnbaahpbmhhofaaDoor.Fw
