/- The functions' equations over the interpreter. Printed by fwgen.py. -/
import Derived.Test.YthanbjnpfenniaaDoorFwZf
import Derived.Test.YthanbjnpfenniaaDoorFwTok
import Derived.Test.YthanbjnpfenniaaDoorFwOrc
import Derived.Test.YthanbjnpfenniaaDoorEqB
import Derived.KernelRfl
import Derived.Lib.Tables
namespace Go.Proofs.YthanbjnpfenniaaDoor.Fw
open Go Go.RowKit
set_option linter.unusedVariables false
set_option maxRecDepth 100000
noncomputable def c_spec_l6Has (C : Ca tb) (x0 : List Int) (x1 : Int) : Option Bool := C.pure 110 [.sl (.int .i64) (x0), .int .i64 (x1)]
noncomputable def c_impl_areBases (C : Ca tb) (x0 : List Int) (x1 : List Int) (x2 : List Int) : Option Bool := C.pure 91 [.sl (.int .i64) (x0), .sl (.int .i64) (x1), .sl (.int .i64) (x2)]
noncomputable def c_impl_areResidues (C : Ca tb) (x0 : List Int) (x1 : List Int) : Option Bool := C.pure 115 [.sl (.int .i64) (x0), .sl (.int .i64) (x1)]
noncomputable def c_spec_l4Good (C : Ca tb) (x0 : List Int) (x1 : List Int) : Option Bool := C.pure 88 [.sl (.int .i64) (x0), .sl (.int .i64) (x1)]
noncomputable def spec_l6Has_x1 (C0 : Ca tb) (self1 : (Int) → Option Bool) (x0 : List Int) (x1 : Int) (v1 : Int) : Option Bool :=
  if v1 < (x0.length : Int) then (if 0 ≤ v1 then (if v1 < (x0.length : Int) then (if x0.getD v1.toNat (0:Int) = x1 then some (true) else self1 (wr .i64 (v1 + (1:Int)))) else none) else none) else some (false)
noncomputable def spec_l6Has_l1 (C0 : Ca tb) (N0 : Nat) (x0 : List Int) (x1 : Int) (m : Nat) (v1 : Int) : Option Bool :=
  loopIt (exec tb C0 110 0 N0 (codeAt [1, 0, 1, 0, 0] (bodyOf Tryd.f110))) (trim 0 [1, 7, 8, 9] 0) (contAt tb C0 110 0 N0 [1, 0, 1, 0] [] (bodyOf Tryd.f110) (finish tb 110 Tryd.f110)) m ⟨[.top, .int .i64 (x1), .top, .top, .top, .top, .top, .sl (.int .i64) (x0), .int .i64 ((x0.length : Int)), .int .i64 (v1), .top, .top, .top, .top, .top, .top, .top], []⟩
noncomputable def spec_l6Has_g1 (C0 : Ca tb) (N0 : Nat) (x0 : List Int) (x1 : Int) (self1 : (Int) → Option Bool) (v1 : Int) : Option Bool :=
  spec_l6Has_x1 C0 self1 x0 x1 v1
theorem spec_l6Has_s1 (n : Nat) (x0 : List Int) (x1 : Int) (m : Nat) (v1 : Int) : (spec_l6Has_l1 (run tb orc n) n x0 x1 (m + 1)) v1 = spec_l6Has_x1 (run tb orc n) (spec_l6Has_l1 (run tb orc n) n x0 x1 m) x0 x1 v1 := by kernel_rfl
theorem spec_l6Has_e1 (n : Nat) (x0 : List Int) (x1 : Int) : ∀ (m : Nat) (v : Int), (spec_l6Has_l1 (run tb orc n) n x0 x1 m) v = iterO (spec_l6Has_g1 (run tb orc n) n x0 x1 ) m v := by
  refine iterO_eq (fun _ => rfl) fun m v => ?_
  rw [spec_l6Has_s1]
  rfl
noncomputable def spec_l6Has_x (C0 : Ca tb) (inn1 : (List Int) → (Int) → (Int) → Option Bool) (x0 : List Int) (x1 : Int) : Option Bool :=
  inn1 x0 x1 ((0:Int))
noncomputable def spec_l6Has_f (n : Nat) (x0 : List Int) (x1 : Int) : Option Bool :=
  spec_l6Has_x (run tb orc n) (fun x0 x1 v => iterO (spec_l6Has_g1 (run tb orc n) n x0 x1 ) n v) x0 x1 
theorem spec_l6Has_r (n : Nat) (x0 : List Int) (x1 : Int) : c_spec_l6Has (run tb orc (n + 1)) x0 x1 = spec_l6Has_x (run tb orc n) (fun x0 x1 v => (spec_l6Has_l1 (run tb orc n) n x0 x1 n) v) x0 x1  := by kernel_rfl
/-- loop.example/g00133/spec.l6Has -/
theorem spec_l6Has_eq (n : Nat) (x0 : List Int) (x1 : Int) : c_spec_l6Has (run tb orc (n + 1)) x0 x1 = spec_l6Has_f n x0 x1 := by
  rw [spec_l6Has_r]
  rw [show (fun x0 x1 v => (spec_l6Has_l1 (run tb orc n) n x0 x1 n) v) = (fun x0 x1 v => iterO (spec_l6Has_g1 (run tb orc n) n x0 x1 ) n v) from by funext x0 x1 v; exact spec_l6Has_e1 n x0 x1 _ v]
  rfl
noncomputable def impl_areResidues_x1 (C0 : Ca tb) (self1 : (Int) → Option Bool) (x0 : List Int) (x1 : List Int) (v1 : Int) : Option Bool :=
  if v1 < (x0.length : Int) then (if 0 ≤ v1 then (if v1 < (x0.length : Int) then (if 0 ≤ v1 then (if v1 < (x1.length : Int) then (c_impl_in C0 (x0.getD v1.toNat (0:Int)) (0:Int) (wr .i64 ((x1.getD v1.toNat (0:Int)) - (1:Int)))).bind fun (d2 : Bool) => if (!d2) = true then some (false) else self1 (wr .i64 (v1 + (1:Int))) else none) else none) else none) else none) else some (true)
noncomputable def impl_areResidues_l1 (C0 : Ca tb) (N0 : Nat) (x0 : List Int) (x1 : List Int) (m : Nat) (v1 : Int) : Option Bool :=
  loopIt (exec tb C0 115 0 N0 (codeAt [1, 1, 0, 1, 0, 0] (bodyOf Tryd.f115))) (trim 0 [1, 17, 18, 19] 0) (contAt tb C0 115 0 N0 [1, 1, 0, 1, 0] [] (bodyOf Tryd.f115) (finish tb 115 Tryd.f115)) m ⟨[.top, .sl (.int .i64) (x1), .top, .top, .top, .top, .top, .top, .top, .top, .top, .top, .top, .top, .top, .top, .top, .sl (.int .i64) (x0), .int .i64 ((x0.length : Int)), .int .i64 (v1), .top, .top, .top, .top, .top, .top, .top, .top, .top, .top, .top, .top, .top], []⟩
noncomputable def impl_areResidues_g1 (C0 : Ca tb) (N0 : Nat) (x0 : List Int) (x1 : List Int) (self1 : (Int) → Option Bool) (v1 : Int) : Option Bool :=
  impl_areResidues_x1 C0 self1 x0 x1 v1
theorem impl_areResidues_s1 (n : Nat) (x0 : List Int) (x1 : List Int) (m : Nat) (v1 : Int) : (impl_areResidues_l1 (run tb orc n) n x0 x1 (m + 1)) v1 = impl_areResidues_x1 (run tb orc n) (impl_areResidues_l1 (run tb orc n) n x0 x1 m) x0 x1 v1 := by kernel_rfl
theorem impl_areResidues_e1 (n : Nat) (x0 : List Int) (x1 : List Int) : ∀ (m : Nat) (v : Int), (impl_areResidues_l1 (run tb orc n) n x0 x1 m) v = iterO (impl_areResidues_g1 (run tb orc n) n x0 x1 ) m v := by
  refine iterO_eq (fun _ => rfl) fun m v => ?_
  rw [impl_areResidues_s1]
  rfl
noncomputable def impl_areResidues_x (C0 : Ca tb) (inn1 : (List Int) → (List Int) → (Int) → Option Bool) (x0 : List Int) (x1 : List Int) : Option Bool :=
  (c_impl_GoodBasis C0 x1).bind fun (d1 : Bool) => if (!d1) = true then some (false) else if (x0.length : Int) = (x1.length : Int) then inn1 x0 x1 ((0:Int)) else some (false)
noncomputable def impl_areResidues_f (n : Nat) (x0 : List Int) (x1 : List Int) : Option Bool :=
  impl_areResidues_x (run tb orc n) (fun x0 x1 v => iterO (impl_areResidues_g1 (run tb orc n) n x0 x1 ) n v) x0 x1 
theorem impl_areResidues_r (n : Nat) (x0 : List Int) (x1 : List Int) : c_impl_areResidues (run tb orc (n + 1)) x0 x1 = impl_areResidues_x (run tb orc n) (fun x0 x1 v => (impl_areResidues_l1 (run tb orc n) n x0 x1 n) v) x0 x1  := by kernel_rfl
/-- loop.example/g00133/impl.areResidues -/
theorem impl_areResidues_eq (n : Nat) (x0 : List Int) (x1 : List Int) : c_impl_areResidues (run tb orc (n + 1)) x0 x1 = impl_areResidues_f n x0 x1 := by
  rw [impl_areResidues_r]
  rw [show (fun x0 x1 v => (impl_areResidues_l1 (run tb orc n) n x0 x1 n) v) = (fun x0 x1 v => iterO (impl_areResidues_g1 (run tb orc n) n x0 x1 ) n v) from by funext x0 x1 v; exact impl_areResidues_e1 n x0 x1 _ v]
  rfl
noncomputable def impl_areBases_x (C0 : Ca tb) (x0 : List Int) (x1 : List Int) (x2 : List Int) : Option Bool :=
  (c_impl_areResidues C0 x0 x1).bind fun (d1 : Bool) => if (d1) = true then (c_impl_GoodBasis C0 x2).bind fun (d2 : Bool) => some (d2) else some (false)
noncomputable def impl_areBases_f (n : Nat) (x0 : List Int) (x1 : List Int) (x2 : List Int) : Option Bool :=
  impl_areBases_x (run tb orc n) x0 x1 x2 
theorem impl_areBases_r (n : Nat) (x0 : List Int) (x1 : List Int) (x2 : List Int) : c_impl_areBases (run tb orc (n + 1)) x0 x1 x2 = impl_areBases_x (run tb orc n) x0 x1 x2  := by kernel_rfl
/-- loop.example/g00133/impl.areBases -/
theorem impl_areBases_eq (n : Nat) (x0 : List Int) (x1 : List Int) (x2 : List Int) : c_impl_areBases (run tb orc (n + 1)) x0 x1 x2 = impl_areBases_f n x0 x1 x2 := by
  rw [impl_areBases_r]
  rfl
noncomputable def spec_l4Good_x1 (C0 : Ca tb) (self1 : (Int) → Option Bool) (x0 : List Int) (x1 : List Int) (v1 : Int) : Option Bool :=
  if v1 < (x1.length : Int) then (if 0 ≤ v1 then (if v1 < (x1.length : Int) then (if 0 ≤ v1 then (if v1 < (x0.length : Int) then (c_spec_l1In C0 (x0.getD v1.toNat (0:Int)) (0:Int) (wr .i64 ((x1.getD v1.toNat (0:Int)) - (1:Int)))).bind fun (d2 : Bool) => if (!d2) = true then some (false) else self1 (wr .i64 (v1 + (1:Int))) else none) else none) else none) else none) else some (true)
noncomputable def spec_l4Good_l1 (C0 : Ca tb) (N0 : Nat) (x0 : List Int) (x1 : List Int) (m : Nat) (v1 : Int) : Option Bool :=
  loopIt (exec tb C0 88 0 N0 (codeAt [1, 1, 0, 1, 0, 0] (bodyOf Tryd.f88))) (trim 0 [0, 17, 18, 19] 0) (contAt tb C0 88 0 N0 [1, 1, 0, 1, 0] [] (bodyOf Tryd.f88) (finish tb 88 Tryd.f88)) m ⟨[.sl (.int .i64) (x0), .top, .top, .top, .top, .top, .top, .top, .top, .top, .top, .top, .top, .top, .top, .top, .top, .sl (.int .i64) (x1), .int .i64 ((x1.length : Int)), .int .i64 (v1), .top, .top, .top, .top, .top, .top, .top, .top, .top, .top, .top, .top, .top], []⟩
noncomputable def spec_l4Good_g1 (C0 : Ca tb) (N0 : Nat) (x0 : List Int) (x1 : List Int) (self1 : (Int) → Option Bool) (v1 : Int) : Option Bool :=
  spec_l4Good_x1 C0 self1 x0 x1 v1
theorem spec_l4Good_s1 (n : Nat) (x0 : List Int) (x1 : List Int) (m : Nat) (v1 : Int) : (spec_l4Good_l1 (run tb orc n) n x0 x1 (m + 1)) v1 = spec_l4Good_x1 (run tb orc n) (spec_l4Good_l1 (run tb orc n) n x0 x1 m) x0 x1 v1 := by kernel_rfl
theorem spec_l4Good_e1 (n : Nat) (x0 : List Int) (x1 : List Int) : ∀ (m : Nat) (v : Int), (spec_l4Good_l1 (run tb orc n) n x0 x1 m) v = iterO (spec_l4Good_g1 (run tb orc n) n x0 x1 ) m v := by
  refine iterO_eq (fun _ => rfl) fun m v => ?_
  rw [spec_l4Good_s1]
  rfl
noncomputable def spec_l4Good_x (C0 : Ca tb) (inn1 : (List Int) → (List Int) → (Int) → Option Bool) (x0 : List Int) (x1 : List Int) : Option Bool :=
  (c_spec_GoodBasis C0 x1).bind fun (d1 : Bool) => if (!d1) = true then some (false) else if (x0.length : Int) = (x1.length : Int) then inn1 x0 x1 ((0:Int)) else some (false)
noncomputable def spec_l4Good_f (n : Nat) (x0 : List Int) (x1 : List Int) : Option Bool :=
  spec_l4Good_x (run tb orc n) (fun x0 x1 v => iterO (spec_l4Good_g1 (run tb orc n) n x0 x1 ) n v) x0 x1 
theorem spec_l4Good_r (n : Nat) (x0 : List Int) (x1 : List Int) : c_spec_l4Good (run tb orc (n + 1)) x0 x1 = spec_l4Good_x (run tb orc n) (fun x0 x1 v => (spec_l4Good_l1 (run tb orc n) n x0 x1 n) v) x0 x1  := by kernel_rfl
/-- loop.example/g00133/spec.l4Good -/
theorem spec_l4Good_eq (n : Nat) (x0 : List Int) (x1 : List Int) : c_spec_l4Good (run tb orc (n + 1)) x0 x1 = spec_l4Good_f n x0 x1 := by
  rw [spec_l4Good_r]
  rw [show (fun x0 x1 v => (spec_l4Good_l1 (run tb orc n) n x0 x1 n) v) = (fun x0 x1 v => iterO (spec_l4Good_g1 (run tb orc n) n x0 x1 ) n v) from by funext x0 x1 v; exact spec_l4Good_e1 n x0 x1 _ v]
  rfl
end Go.Proofs.YthanbjnpfenniaaDoor.Fw
