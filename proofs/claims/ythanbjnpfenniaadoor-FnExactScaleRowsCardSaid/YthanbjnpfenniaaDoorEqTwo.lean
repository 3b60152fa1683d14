/- The functions' equations over the interpreter. Printed by fwgen.py. -/
import Derived.Test.YthanbjnpfenniaaDoorFwZf
import Derived.Test.YthanbjnpfenniaaDoorFwTok
import Derived.Test.YthanbjnpfenniaaDoorFwOrc
import Derived.Test.YthanbjnpfenniaaDoorEqZ
import Derived.KernelRfl
import Derived.Lib.Tables
namespace Go.Proofs.YthanbjnpfenniaaDoor.Fw
open Go Go.RowKit
set_option linter.unusedVariables false
set_option maxRecDepth 100000
noncomputable def c_spec_l5Add (C : Ca tb) (x0_0 : Int) (x0_1 : List Int) (x1 : List (List Int)) (x2 : List (List Int)) : Option (List (List Int)) := C.pure 79 [.agg [.int .i64 (x0_0), .sl (.int .i64) (x0_1)], .sl (.sl (.int .i64)) (x1), .sl (.sl (.int .i64)) (x2)]
noncomputable def c_impl_areAlike (C : Ca tb) (x0_0 : Int) (x0_1 : List Int) (x1_0 : Bool) (x1_1 : List (List Int)) (x2_0 : Bool) (x2_1 : List (List Int)) : Option Bool := C.pure 81 [.agg [.int .i64 (x0_0), .sl (.int .i64) (x0_1)], .agg [.bool (x1_0), .sl (.sl (.int .i64)) (x1_1)], .agg [.bool (x2_0), .sl (.sl (.int .i64)) (x2_1)]]
noncomputable def c_spec_l5Two (C : Ca tb) (x0_0 : Int) (x0_1 : List Int) (x1_0 : Bool) (x1_1 : List (List Int)) (x2_0 : Bool) (x2_1 : List (List Int)) : Option Bool := C.pure 78 [.agg [.int .i64 (x0_0), .sl (.int .i64) (x0_1)], .agg [.bool (x1_0), .sl (.sl (.int .i64)) (x1_1)], .agg [.bool (x2_0), .sl (.sl (.int .i64)) (x2_1)]]
noncomputable def spec_l5Add_x2 (C0 : Ca tb) (self1 : (Int × List (List Int)) → Option (List (List Int))) (self2 : (Int × List Int) → Option (List (List Int))) (x0_0 : Int) (x0_1 : List Int) (x1 : List (List Int)) (x2 : List (List Int)) (v1 : Int × List (List Int)) (v2 : Int × List Int) : Option (List (List Int)) :=
  if v2.1 < ((x1.getD v1.1.toNat []).length : Int) then (if 0 ≤ v1.1 then (if v1.1 < (x1.length : Int) then (if 0 ≤ v2.1 then (if v2.1 < ((x1.getD v1.1.toNat []).length : Int) then (if 0 ≤ v1.1 then (if v1.1 < (x2.length : Int) then (if 0 ≤ v2.1 then (if v2.1 < ((x2.getD v1.1.toNat []).length : Int) then (if x0_1.getD v1.1.toNat (0:Int) = 0 then none else if v2.2.length + ([(wr .i64 (((x1.getD v1.1.toNat []).getD v2.1.toNat (0:Int)) + ((x2.getD v1.1.toNat []).getD v2.1.toNat (0:Int)))).tmod (x0_1.getD v1.1.toNat (0:Int))]).length < lim then (self2 (wr .i64 (v2.1 + (1:Int)), v2.2 ++ ([(wr .i64 (((x1.getD v1.1.toNat []).getD v2.1.toNat (0:Int)) + ((x2.getD v1.1.toNat []).getD v2.1.toNat (0:Int)))).tmod (x0_1.getD v1.1.toNat (0:Int))]))) else none) else none) else none) else none) else none) else none) else none) else none) else none) else if v1.2.length + ([v2.2]).length < lim then (self1 (wr .i64 (v1.1 + (1:Int)), v1.2 ++ ([v2.2]))) else none
noncomputable def spec_l5Add_l2 (C0 : Ca tb) (N0 : Nat) (m1 : Nat) (x0_0 : Int) (x0_1 : List Int) (x1 : List (List Int)) (x2 : List (List Int)) (v1 : Int × List (List Int)) (m : Nat) (v2 : Int × List Int) : Option (List (List Int)) :=
  loopIt (exec tb C0 79 0 N0 (codeAt [1, 1, 0, 1, 0, 0, 1, 1, 0, 0, 1, 1, 0, 1, 0, 0] (bodyOf Tryd.f79))) (trim 0 [1, 2, 7, 8, 9, 10, 13, 14, 15, 24, 25] 3) (contAt tb C0 79 0 N0 [1, 1, 0, 1, 0, 0, 1, 1, 0, 0, 1, 1, 0, 1, 0] [(m1, trim 0 [1, 2, 7, 13, 14, 15] 2)] (bodyOf Tryd.f79) (finish tb 79 Tryd.f79)) m ⟨[.top, .sl (.sl (.int .i64)) (x1), .sl (.sl (.int .i64)) (x2), .top, .top, .top, .top, .osl 1 0, .int .i64 (v1.1), .int .i64 (x0_1.getD v1.1.toNat (0:Int)), .osl 2 0, .top, .top, .sl (.int .i64) (x0_1), .int .i64 ((x0_1.length : Int)), .int .i64 (v1.1), .top, .top, .top, .top, .top, .top, .top, .top, .int .i64 (((x1.getD v1.1.toNat []).length : Int)), .int .i64 (v2.1), .top, .top, .top, .top, .top, .top, .top, .top, .top, .top, .top, .top, .top, .top, .top, .top, .top, .top, .top, .top, .top, .top, .top, .top, .top, .top, .top, .top, .top], [.box [.int .i64 (x0_0), .sl (.int .i64) (x0_1)], .arr (.sl (.int .i64)) (v1.2) 0 true, .arr (.int .i64) (v2.2) 0 true]⟩
noncomputable def spec_l5Add_x1 (C0 : Ca tb) (self1 : (Int × List (List Int)) → Option (List (List Int))) (inn2 : (Int) → (List Int) → (List (List Int)) → (List (List Int)) → (Int × List (List Int)) → (Int × List Int) → Option (List (List Int))) (x0_0 : Int) (x0_1 : List Int) (x1 : List (List Int)) (x2 : List (List Int)) (v1 : Int × List (List Int)) : Option (List (List Int)) :=
  if v1.1 < (x0_1.length : Int) then (if 0 ≤ v1.1 then (if v1.1 < (x0_1.length : Int) then (if 0 ≤ v1.1 then (if v1.1 < (x1.length : Int) then inn2 x0_0 x0_1 x1 x2 v1 ((0:Int), []) else none) else none) else none) else none) else some (v1.2)
noncomputable def spec_l5Add_l1 (C0 : Ca tb) (N0 : Nat) (x0_0 : Int) (x0_1 : List Int) (x1 : List (List Int)) (x2 : List (List Int)) (m : Nat) (v1 : Int × List (List Int)) : Option (List (List Int)) :=
  loopIt (exec tb C0 79 0 N0 (codeAt [1, 1, 0, 1, 0, 0] (bodyOf Tryd.f79))) (trim 0 [1, 2, 7, 13, 14, 15] 2) (contAt tb C0 79 0 N0 [1, 1, 0, 1, 0] [] (bodyOf Tryd.f79) (finish tb 79 Tryd.f79)) m ⟨[.top, .sl (.sl (.int .i64)) (x1), .sl (.sl (.int .i64)) (x2), .top, .top, .top, .top, .osl 1 0, .top, .top, .top, .top, .top, .sl (.int .i64) (x0_1), .int .i64 ((x0_1.length : Int)), .int .i64 (v1.1), .top, .top, .top, .top, .top, .top, .top, .top, .top, .top, .top, .top, .top, .top, .top, .top, .top, .top, .top, .top, .top, .top, .top, .top, .top, .top, .top, .top, .top, .top, .top, .top, .top, .top, .top, .top, .top, .top, .top], [.box [.int .i64 (x0_0), .sl (.int .i64) (x0_1)], .arr (.sl (.int .i64)) (v1.2) 0 true]⟩
noncomputable def spec_l5Add_g2 (C0 : Ca tb) (N0 : Nat) (self1 : (Int × List (List Int)) → Option (List (List Int))) (x0_0 : Int) (x0_1 : List Int) (x1 : List (List Int)) (x2 : List (List Int)) (v1 : Int × List (List Int)) (self2 : (Int × List Int) → Option (List (List Int))) (v2 : Int × List Int) : Option (List (List Int)) :=
  spec_l5Add_x2 C0 self1 self2 x0_0 x0_1 x1 x2 v1 v2
noncomputable def spec_l5Add_g1 (C0 : Ca tb) (N0 : Nat) (x0_0 : Int) (x0_1 : List Int) (x1 : List (List Int)) (x2 : List (List Int)) (self1 : (Int × List (List Int)) → Option (List (List Int))) (v1 : Int × List (List Int)) : Option (List (List Int)) :=
  spec_l5Add_x1 C0 self1 (fun x0_0 x0_1 x1 x2 v1 v => iterO (spec_l5Add_g2 C0 N0 self1 x0_0 x0_1 x1 x2 v1 ) N0 v) x0_0 x0_1 x1 x2 v1
theorem spec_l5Add_s2 (n : Nat) (m1 : Nat) (x0_0 : Int) (x0_1 : List Int) (x1 : List (List Int)) (x2 : List (List Int)) (v1 : Int × List (List Int)) (m : Nat) (v2 : Int × List Int) : (spec_l5Add_l2 (run tb orc n) n m1 x0_0 x0_1 x1 x2 v1 (m + 1)) v2 = spec_l5Add_x2 (run tb orc n) (spec_l5Add_l1 (run tb orc n) n x0_0 x0_1 x1 x2 m1) (spec_l5Add_l2 (run tb orc n) n m1 x0_0 x0_1 x1 x2 v1 m) x0_0 x0_1 x1 x2 v1 v2 := by kernel_rfl
theorem spec_l5Add_e2 (n : Nat) (m1 : Nat) (x0_0 : Int) (x0_1 : List Int) (x1 : List (List Int)) (x2 : List (List Int)) (v1 : Int × List (List Int)) : ∀ (m : Nat) (v : Int × List Int), (spec_l5Add_l2 (run tb orc n) n m1 x0_0 x0_1 x1 x2 v1 m) v = iterO (spec_l5Add_g2 (run tb orc n) n (spec_l5Add_l1 (run tb orc n) n x0_0 x0_1 x1 x2 m1) x0_0 x0_1 x1 x2 v1 ) m v := by
  refine iterO_eq (fun _ => rfl) fun m v => ?_
  rw [spec_l5Add_s2]
  rfl
theorem spec_l5Add_s1 (n : Nat) (x0_0 : Int) (x0_1 : List Int) (x1 : List (List Int)) (x2 : List (List Int)) (m : Nat) (v1 : Int × List (List Int)) : (spec_l5Add_l1 (run tb orc n) n x0_0 x0_1 x1 x2 (m + 1)) v1 = spec_l5Add_x1 (run tb orc n) (spec_l5Add_l1 (run tb orc n) n x0_0 x0_1 x1 x2 m) (fun x0_0 x0_1 x1 x2 v1 v => (spec_l5Add_l2 (run tb orc n) n m x0_0 x0_1 x1 x2 v1 n) v) x0_0 x0_1 x1 x2 v1 := by kernel_rfl
theorem spec_l5Add_e1 (n : Nat) (x0_0 : Int) (x0_1 : List Int) (x1 : List (List Int)) (x2 : List (List Int)) : ∀ (m : Nat) (v : Int × List (List Int)), (spec_l5Add_l1 (run tb orc n) n x0_0 x0_1 x1 x2 m) v = iterO (spec_l5Add_g1 (run tb orc n) n x0_0 x0_1 x1 x2 ) m v := by
  refine iterO_eq (fun _ => rfl) fun m v => ?_
  rw [spec_l5Add_s1]
  rw [show (fun x0_0 x0_1 x1 x2 v1 v => (spec_l5Add_l2 (run tb orc n) n m x0_0 x0_1 x1 x2 v1 n) v) = (fun x0_0 x0_1 x1 x2 v1 v => iterO (spec_l5Add_g2 (run tb orc n) n (spec_l5Add_l1 (run tb orc n) n x0_0 x0_1 x1 x2 m) x0_0 x0_1 x1 x2 v1 ) n v) from by funext x0_0 x0_1 x1 x2 v1 v; exact spec_l5Add_e2 n m x0_0 x0_1 x1 x2 v1 _ v]
  unfold spec_l5Add_g1 spec_l5Add_x1
  rfl
noncomputable def spec_l5Add_x (C0 : Ca tb) (inn1 : (Int) → (List Int) → (List (List Int)) → (List (List Int)) → (Int × List (List Int)) → Option (List (List Int))) (x0_0 : Int) (x0_1 : List Int) (x1 : List (List Int)) (x2 : List (List Int)) : Option (List (List Int)) :=
  inn1 x0_0 x0_1 x1 x2 ((0:Int), [])
noncomputable def spec_l5Add_f (n : Nat) (x0_0 : Int) (x0_1 : List Int) (x1 : List (List Int)) (x2 : List (List Int)) : Option (List (List Int)) :=
  spec_l5Add_x (run tb orc n) (fun x0_0 x0_1 x1 x2 v => iterO (spec_l5Add_g1 (run tb orc n) n x0_0 x0_1 x1 x2 ) n v) x0_0 x0_1 x1 x2 
theorem spec_l5Add_r (n : Nat) (x0_0 : Int) (x0_1 : List Int) (x1 : List (List Int)) (x2 : List (List Int)) : c_spec_l5Add (run tb orc (n + 1)) x0_0 x0_1 x1 x2 = spec_l5Add_x (run tb orc n) (fun x0_0 x0_1 x1 x2 v => (spec_l5Add_l1 (run tb orc n) n x0_0 x0_1 x1 x2 n) v) x0_0 x0_1 x1 x2  := by kernel_rfl
/-- loop.example/g00133/spec.l5Add -/
theorem spec_l5Add_eq (n : Nat) (x0_0 : Int) (x0_1 : List Int) (x1 : List (List Int)) (x2 : List (List Int)) : c_spec_l5Add (run tb orc (n + 1)) x0_0 x0_1 x1 x2 = spec_l5Add_f n x0_0 x0_1 x1 x2 := by
  rw [spec_l5Add_r]
  rw [show (fun x0_0 x0_1 x1 x2 v => (spec_l5Add_l1 (run tb orc n) n x0_0 x0_1 x1 x2 n) v) = (fun x0_0 x0_1 x1 x2 v => iterO (spec_l5Add_g1 (run tb orc n) n x0_0 x0_1 x1 x2 ) n v) from by funext x0_0 x0_1 x1 x2 v; exact spec_l5Add_e1 n x0_0 x0_1 x1 x2 _ v]
  rfl
noncomputable def impl_areAlike_x (C0 : Ca tb) (x0_0 : Int) (x0_1 : List Int) (x1_0 : Bool) (x1_1 : List (List Int)) (x2_0 : Bool) (x2_1 : List (List Int)) : Option Bool :=
  (c_impl_GoodRows C0 x0_0 x0_1 x1_0 x1_1).bind fun (d1 : Bool) => if (d1) = true then (c_impl_GoodRows C0 x0_0 x0_1 x2_0 x2_1).bind fun (d2 : Bool) => if (d2) = true then some (x1_0 == x2_0) else some (false) else some (false)
noncomputable def impl_areAlike_f (n : Nat) (x0_0 : Int) (x0_1 : List Int) (x1_0 : Bool) (x1_1 : List (List Int)) (x2_0 : Bool) (x2_1 : List (List Int)) : Option Bool :=
  impl_areAlike_x (run tb orc n) x0_0 x0_1 x1_0 x1_1 x2_0 x2_1 
theorem impl_areAlike_r (n : Nat) (x0_0 : Int) (x0_1 : List Int) (x1_0 : Bool) (x1_1 : List (List Int)) (x2_0 : Bool) (x2_1 : List (List Int)) : c_impl_areAlike (run tb orc (n + 1)) x0_0 x0_1 x1_0 x1_1 x2_0 x2_1 = impl_areAlike_x (run tb orc n) x0_0 x0_1 x1_0 x1_1 x2_0 x2_1  := by kernel_rfl
/-- loop.example/g00133/impl.areAlike -/
theorem impl_areAlike_eq (n : Nat) (x0_0 : Int) (x0_1 : List Int) (x1_0 : Bool) (x1_1 : List (List Int)) (x2_0 : Bool) (x2_1 : List (List Int)) : c_impl_areAlike (run tb orc (n + 1)) x0_0 x0_1 x1_0 x1_1 x2_0 x2_1 = impl_areAlike_f n x0_0 x0_1 x1_0 x1_1 x2_0 x2_1 := by
  rw [impl_areAlike_r]
  rfl
noncomputable def spec_l5Two_x (C0 : Ca tb) (x0_0 : Int) (x0_1 : List Int) (x1_0 : Bool) (x1_1 : List (List Int)) (x2_0 : Bool) (x2_1 : List (List Int)) : Option Bool :=
  (c_spec_GoodRows C0 x0_0 x0_1 x1_0 x1_1).bind fun (d1 : Bool) => if (d1) = true then (c_spec_l5Rows C0 x0_0 x0_1 x2_1).bind fun (d2 : Bool) => if (d2) = true then some (x1_0 == x2_0) else some (false) else some (false)
noncomputable def spec_l5Two_f (n : Nat) (x0_0 : Int) (x0_1 : List Int) (x1_0 : Bool) (x1_1 : List (List Int)) (x2_0 : Bool) (x2_1 : List (List Int)) : Option Bool :=
  spec_l5Two_x (run tb orc n) x0_0 x0_1 x1_0 x1_1 x2_0 x2_1 
theorem spec_l5Two_r (n : Nat) (x0_0 : Int) (x0_1 : List Int) (x1_0 : Bool) (x1_1 : List (List Int)) (x2_0 : Bool) (x2_1 : List (List Int)) : c_spec_l5Two (run tb orc (n + 1)) x0_0 x0_1 x1_0 x1_1 x2_0 x2_1 = spec_l5Two_x (run tb orc n) x0_0 x0_1 x1_0 x1_1 x2_0 x2_1  := by kernel_rfl
/-- loop.example/g00133/spec.l5Two -/
theorem spec_l5Two_eq (n : Nat) (x0_0 : Int) (x0_1 : List Int) (x1_0 : Bool) (x1_1 : List (List Int)) (x2_0 : Bool) (x2_1 : List (List Int)) : c_spec_l5Two (run tb orc (n + 1)) x0_0 x0_1 x1_0 x1_1 x2_0 x2_1 = spec_l5Two_f n x0_0 x0_1 x1_0 x1_1 x2_0 x2_1 := by
  rw [spec_l5Two_r]
  rfl
end Go.Proofs.YthanbjnpfenniaaDoor.Fw
