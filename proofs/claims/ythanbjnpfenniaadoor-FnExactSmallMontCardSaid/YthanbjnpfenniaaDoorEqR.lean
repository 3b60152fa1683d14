/- The functions' equations over the interpreter. Printed by fwgen.py. -/
import Derived.Test.YthanbjnpfenniaaDoorFwZf
import Derived.Test.YthanbjnpfenniaaDoorFwTok
import Derived.Test.YthanbjnpfenniaaDoorFwOrc
import Derived.Test.YthanbjnpfenniaaDoorEqP
import Derived.Test.YthanbjnpfenniaaDoorEqB
import Derived.KernelRfl
import Derived.Lib.Tables
namespace Go.Proofs.YthanbjnpfenniaaDoor.Fw
open Go Go.RowKit
set_option linter.unusedVariables false
set_option maxRecDepth 100000
noncomputable def c_spec_l1LeastRoot (C : Ca tb) (x0 : Int) (x1 : Int) : Option Int := C.pure 185 [.int .i64 (x0), .int .i64 (x1)]
noncomputable def c_spec_l1Pow (C : Ca tb) (x0 : Int) (x1 : Int) (x2 : Int) : Option Int := C.pure 149 [.int .i64 (x0), .int .i64 (x1), .int .i64 (x2)]
noncomputable def c_spec_l1Mod (C : Ca tb) (x0 : Int) (x1 : Int) : Option Int := C.pure 112 [.int .i64 (x0), .int .i64 (x1)]
noncomputable def c_impl_root (C : Ca tb) (x0 : Int) (x1 : Int) : Option Int := C.pure 178 [.int .i64 (x0), .int .i64 (x1)]
noncomputable def c_impl_pow (C : Ca tb) (x0 : Int) (x1 : Int) (x2 : Int) : Option Int := C.pure 153 [.int .i64 (x0), .int .i64 (x1), .int .i64 (x2)]
noncomputable def c_impl_mod (C : Ca tb) (x0 : Int) (x1 : Int) : Option Int := C.pure 133 [.int .i64 (x0), .int .i64 (x1)]
noncomputable def c_spec_l1Power (C : Ca tb) (x0 : Int) (x1 : Int) (x2 : Int) : Option Bool := C.pure 125 [.int .i64 (x0), .int .i64 (x1), .int .i64 (x2)]
noncomputable def c_impl_isPower (C : Ca tb) (x0 : Int) (x1 : Int) (x2 : Int) : Option Bool := C.pure 131 [.int .i64 (x0), .int .i64 (x1), .int .i64 (x2)]
noncomputable def spec_l1Mod_x (C0 : Ca tb) (x0 : Int) (x1 : Int) : Option Int :=
  if x1 = 0 then none else if x0.tmod x1 < (0:Int) then some (wr .i64 ((x0.tmod x1) + x1)) else some (x0.tmod x1)
noncomputable def spec_l1Mod_f (n : Nat) (x0 : Int) (x1 : Int) : Option Int :=
  spec_l1Mod_x (run tb orc n) x0 x1 
theorem spec_l1Mod_r (n : Nat) (x0 : Int) (x1 : Int) : c_spec_l1Mod (run tb orc (n + 1)) x0 x1 = spec_l1Mod_x (run tb orc n) x0 x1  := by kernel_rfl
/-- loop.example/g00133/spec.l1Mod -/
theorem spec_l1Mod_eq (n : Nat) (x0 : Int) (x1 : Int) : c_spec_l1Mod (run tb orc (n + 1)) x0 x1 = spec_l1Mod_f n x0 x1 := by
  rw [spec_l1Mod_r]
  rfl
noncomputable def spec_l1Pow_x1 (C0 : Ca tb) (self1 : (Int × Int × Int) → Option Int) (x2 : Int) (v1 : Int × Int × Int) : Option Int :=
  if v1.2.1 > (0:Int) then (if Go.bits .and .i64 v1.2.1 (1:Int) = (1:Int) then (if x2 = 0 then none else if x2 = 0 then none else if (1:Int) < 0 then none else self1 ((wr .i64 (v1.1 * v1.1)).tmod x2, shr .i64 v1.2.1 (1:Int), (wr .i64 (v1.2.2 * v1.1)).tmod x2)) else if x2 = 0 then none else if (1:Int) < 0 then none else self1 ((wr .i64 (v1.1 * v1.1)).tmod x2, shr .i64 v1.2.1 (1:Int), v1.2.2)) else some (v1.2.2)
noncomputable def spec_l1Pow_l1 (C0 : Ca tb) (N0 : Nat) (x2 : Int) (m : Nat) (v1 : Int × Int × Int) : Option Int :=
  loopIt (exec tb C0 149 0 N0 (codeAt [1, 1, 1, 0, 0, 0] (bodyOf Tryd.f149))) (trim 0 [0, 1, 2, 7] 0) (contAt tb C0 149 0 N0 [1, 1, 1, 0, 0] [] (bodyOf Tryd.f149) (finish tb 149 Tryd.f149)) m ⟨[.int .i64 (v1.1), .int .i64 (v1.2.1), .int .i64 (x2), .top, .top, .top, .top, .int .i64 (v1.2.2), .top, .top, .top, .top, .top, .top, .top, .top, .top, .top, .top, .top, .top, .top, .top, .top, .top, .top, .top, .top, .top, .top, .top], []⟩
noncomputable def spec_l1Pow_g1 (C0 : Ca tb) (N0 : Nat) (x2 : Int) (self1 : (Int × Int × Int) → Option Int) (v1 : Int × Int × Int) : Option Int :=
  spec_l1Pow_x1 C0 self1 x2 v1
theorem spec_l1Pow_s1 (n : Nat) (x2 : Int) (m : Nat) (v1 : Int × Int × Int) : (spec_l1Pow_l1 (run tb orc n) n x2 (m + 1)) v1 = spec_l1Pow_x1 (run tb orc n) (spec_l1Pow_l1 (run tb orc n) n x2 m) x2 v1 := by kernel_rfl
theorem spec_l1Pow_e1 (n : Nat) (x2 : Int) : ∀ (m : Nat) (v : Int × Int × Int), (spec_l1Pow_l1 (run tb orc n) n x2 m) v = iterO (spec_l1Pow_g1 (run tb orc n) n x2 ) m v := by
  refine iterO_eq (fun _ => rfl) fun m v => ?_
  rw [spec_l1Pow_s1]
  rfl
noncomputable def spec_l1Pow_x (C0 : Ca tb) (inn1 : (Int) → (Int × Int × Int) → Option Int) (x0 : Int) (x1 : Int) (x2 : Int) : Option Int :=
  if x2 = 0 then none else (c_spec_l1Mod C0 x0 x2).bind fun (d1 : Int) => inn1 x2 (d1, x1, (1:Int).tmod x2)
noncomputable def spec_l1Pow_f (n : Nat) (x0 : Int) (x1 : Int) (x2 : Int) : Option Int :=
  spec_l1Pow_x (run tb orc n) (fun x2 v => iterO (spec_l1Pow_g1 (run tb orc n) n x2 ) n v) x0 x1 x2 
theorem spec_l1Pow_r (n : Nat) (x0 : Int) (x1 : Int) (x2 : Int) : c_spec_l1Pow (run tb orc (n + 1)) x0 x1 x2 = spec_l1Pow_x (run tb orc n) (fun x2 v => (spec_l1Pow_l1 (run tb orc n) n x2 n) v) x0 x1 x2  := by kernel_rfl
/-- loop.example/g00133/spec.l1Pow -/
theorem spec_l1Pow_eq (n : Nat) (x0 : Int) (x1 : Int) (x2 : Int) : c_spec_l1Pow (run tb orc (n + 1)) x0 x1 x2 = spec_l1Pow_f n x0 x1 x2 := by
  rw [spec_l1Pow_r]
  rw [show (fun x2 v => (spec_l1Pow_l1 (run tb orc n) n x2 n) v) = (fun x2 v => iterO (spec_l1Pow_g1 (run tb orc n) n x2 ) n v) from by funext x2 v; exact spec_l1Pow_e1 n x2 _ v]
  rfl
noncomputable def spec_l1LeastRoot_x2 (C0 : Ca tb) (self2 : (Int × Int × Int) → Option Int) (x0 : Int) (x1 : Int) (v1 : Int × Int) (v2 : Int × Int × Int) : Option Int :=
  if v2.2.2 < x1 then (if v2.2.1 < v2.1 then (if x0 = 0 then none else if x0 = 0 then none else self2 (v2.2.1, (wr .i64 (((wr .i64 (v2.2.1 * v1.1)).tmod x0) * v1.1)).tmod x0, wr .i64 (v2.2.2 + (2:Int)))) else if x0 = 0 then none else if x0 = 0 then none else self2 (v2.1, (wr .i64 (((wr .i64 (v2.2.1 * v1.1)).tmod x0) * v1.1)).tmod x0, wr .i64 (v2.2.2 + (2:Int)))) else some (v2.1)
noncomputable def spec_l1LeastRoot_l2 (C0 : Ca tb) (N0 : Nat) (x0 : Int) (x1 : Int) (v1 : Int × Int) (m : Nat) (v2 : Int × Int × Int) : Option Int :=
  loopIt (exec tb C0 185 0 N0 (codeAt [1, 1, 1, 1, 1, 0, 1, 0, 0] (bodyOf Tryd.f185))) (trim 0 [0, 1, 5, 8, 9, 10] 0) (contAt tb C0 185 0 N0 [1, 1, 1, 1, 1, 0, 1, 0] [] (bodyOf Tryd.f185) (finish tb 185 Tryd.f185)) m ⟨[.int .i64 (x0), .int .i64 (x1), .top, .top, .top, .int .i64 (v1.1), .top, .top, .int .i64 (v2.1), .int .i64 (v2.2.1), .int .i64 (v2.2.2), .top, .top, .top, .top, .top, .top, .top, .top, .top, .top, .top, .top, .top, .top, .top, .top, .top, .top, .top, .top, .top, .top, .top, .top, .top, .top, .top, .top, .top, .top, .top, .top, .top, .top, .top, .top, .top, .top, .top, .top, .top, .top, .top, .top], []⟩
noncomputable def spec_l1LeastRoot_x3 (C0 : Ca tb) (self3 : (Int × Int × Int) → Option Int) (x0 : Int) (x1 : Int) (v1 : Int × Int) (v3 : Int × Int × Int) : Option Int :=
  if v3.2.2 < x1 then (if v3.2.1 < v3.1 then (if x0 = 0 then none else if x0 = 0 then none else self3 (v3.2.1, (wr .i64 (((wr .i64 (v3.2.1 * v1.1)).tmod x0) * v1.1)).tmod x0, wr .i64 (v3.2.2 + (2:Int)))) else if x0 = 0 then none else if x0 = 0 then none else self3 (v3.1, (wr .i64 (((wr .i64 (v3.2.1 * v1.1)).tmod x0) * v1.1)).tmod x0, wr .i64 (v3.2.2 + (2:Int)))) else some (v3.1)
noncomputable def spec_l1LeastRoot_l3 (C0 : Ca tb) (N0 : Nat) (x0 : Int) (x1 : Int) (v1 : Int × Int) (m : Nat) (v3 : Int × Int × Int) : Option Int :=
  loopIt (exec tb C0 185 0 N0 (codeAt [1, 1, 1, 1, 1, 0, 1, 0, 0] (bodyOf Tryd.f185))) (trim 0 [0, 1, 5, 8, 9, 10] 0) (contAt tb C0 185 0 N0 [1, 1, 1, 1, 1, 0, 1, 0] [] (bodyOf Tryd.f185) (finish tb 185 Tryd.f185)) m ⟨[.int .i64 (x0), .int .i64 (x1), .top, .top, .top, .int .i64 (v1.1), .top, .top, .int .i64 (v3.1), .int .i64 (v3.2.1), .int .i64 (v3.2.2), .top, .top, .top, .top, .top, .top, .top, .top, .top, .top, .top, .top, .top, .top, .top, .top, .top, .top, .top, .top, .top, .top, .top, .top, .top, .top, .top, .top, .top, .top, .top, .top, .top, .top, .top, .top, .top, .top, .top, .top, .top, .top, .top, .top], []⟩
noncomputable def spec_l1LeastRoot_x1 (C0 : Ca tb) (self1 : (Int × Int) → Option Int) (inn2 : (Int) → (Int) → (Int × Int) → (Int × Int × Int) → Option Int) (inn3 : (Int) → (Int) → (Int × Int) → (Int × Int × Int) → Option Int) (x0 : Int) (x1 : Int) (v1 : Int × Int) : Option Int :=
  if v1.2 ≤ x0 then (if v1.1 = (0:Int) then (if x1 = 0 then none else (c_spec_l1Pow C0 v1.2 (wr .i64 ((wr .i64 (x0 - (1:Int))).tdiv x1)) x0).bind fun (d1 : Int) => if (2:Int) = 0 then none else (c_spec_l1Pow C0 d1 (wr .i64 (x1.tdiv (2:Int))) x0).bind fun (d2 : Int) => if d2 = (1:Int) then self1 (v1.1, wr .i64 (v1.2 + (1:Int))) else self1 (d1, wr .i64 (v1.2 + (1:Int)))) else inn2 x0 x1 v1 (v1.1, v1.1, (1:Int))) else inn3 x0 x1 v1 (v1.1, v1.1, (1:Int))
noncomputable def spec_l1LeastRoot_l1 (C0 : Ca tb) (N0 : Nat) (x0 : Int) (x1 : Int) (m : Nat) (v1 : Int × Int) : Option Int :=
  loopIt (exec tb C0 185 0 N0 (codeAt [1, 1, 0, 1, 0, 0] (bodyOf Tryd.f185))) (trim 0 [0, 1, 5, 6] 0) (contAt tb C0 185 0 N0 [1, 1, 0, 1, 0] [] (bodyOf Tryd.f185) (finish tb 185 Tryd.f185)) m ⟨[.int .i64 (x0), .int .i64 (x1), .top, .top, .top, .int .i64 (v1.1), .int .i64 (v1.2), .top, .top, .top, .top, .top, .top, .top, .top, .top, .top, .top, .top, .top, .top, .top, .top, .top, .top, .top, .top, .top, .top, .top, .top, .top, .top, .top, .top, .top, .top, .top, .top, .top, .top, .top, .top, .top, .top, .top, .top, .top, .top, .top, .top, .top, .top, .top, .top], []⟩
noncomputable def spec_l1LeastRoot_g2 (C0 : Ca tb) (N0 : Nat) (x0 : Int) (x1 : Int) (v1 : Int × Int) (self2 : (Int × Int × Int) → Option Int) (v2 : Int × Int × Int) : Option Int :=
  spec_l1LeastRoot_x2 C0 self2 x0 x1 v1 v2
noncomputable def spec_l1LeastRoot_g3 (C0 : Ca tb) (N0 : Nat) (x0 : Int) (x1 : Int) (v1 : Int × Int) (self3 : (Int × Int × Int) → Option Int) (v3 : Int × Int × Int) : Option Int :=
  spec_l1LeastRoot_x3 C0 self3 x0 x1 v1 v3
noncomputable def spec_l1LeastRoot_g1 (C0 : Ca tb) (N0 : Nat) (x0 : Int) (x1 : Int) (self1 : (Int × Int) → Option Int) (v1 : Int × Int) : Option Int :=
  spec_l1LeastRoot_x1 C0 self1 (fun x0 x1 v1 v => iterO (spec_l1LeastRoot_g2 C0 N0 x0 x1 v1 ) N0 v) (fun x0 x1 v1 v => iterO (spec_l1LeastRoot_g3 C0 N0 x0 x1 v1 ) N0 v) x0 x1 v1
theorem spec_l1LeastRoot_s2 (n : Nat) (x0 : Int) (x1 : Int) (v1 : Int × Int) (m : Nat) (v2 : Int × Int × Int) : (spec_l1LeastRoot_l2 (run tb orc n) n x0 x1 v1 (m + 1)) v2 = spec_l1LeastRoot_x2 (run tb orc n) (spec_l1LeastRoot_l2 (run tb orc n) n x0 x1 v1 m) x0 x1 v1 v2 := by kernel_rfl
theorem spec_l1LeastRoot_e2 (n : Nat) (x0 : Int) (x1 : Int) (v1 : Int × Int) : ∀ (m : Nat) (v : Int × Int × Int), (spec_l1LeastRoot_l2 (run tb orc n) n x0 x1 v1 m) v = iterO (spec_l1LeastRoot_g2 (run tb orc n) n x0 x1 v1 ) m v := by
  refine iterO_eq (fun _ => rfl) fun m v => ?_
  rw [spec_l1LeastRoot_s2]
  rfl
theorem spec_l1LeastRoot_s3 (n : Nat) (x0 : Int) (x1 : Int) (v1 : Int × Int) (m : Nat) (v3 : Int × Int × Int) : (spec_l1LeastRoot_l3 (run tb orc n) n x0 x1 v1 (m + 1)) v3 = spec_l1LeastRoot_x3 (run tb orc n) (spec_l1LeastRoot_l3 (run tb orc n) n x0 x1 v1 m) x0 x1 v1 v3 := by kernel_rfl
theorem spec_l1LeastRoot_e3 (n : Nat) (x0 : Int) (x1 : Int) (v1 : Int × Int) : ∀ (m : Nat) (v : Int × Int × Int), (spec_l1LeastRoot_l3 (run tb orc n) n x0 x1 v1 m) v = iterO (spec_l1LeastRoot_g3 (run tb orc n) n x0 x1 v1 ) m v := by
  refine iterO_eq (fun _ => rfl) fun m v => ?_
  rw [spec_l1LeastRoot_s3]
  rfl
theorem spec_l1LeastRoot_s1 (n : Nat) (x0 : Int) (x1 : Int) (m : Nat) (v1 : Int × Int) : (spec_l1LeastRoot_l1 (run tb orc n) n x0 x1 (m + 1)) v1 = spec_l1LeastRoot_x1 (run tb orc n) (spec_l1LeastRoot_l1 (run tb orc n) n x0 x1 m) (fun x0 x1 v1 v => (spec_l1LeastRoot_l2 (run tb orc n) n x0 x1 v1 n) v) (fun x0 x1 v1 v => (spec_l1LeastRoot_l3 (run tb orc n) n x0 x1 v1 n) v) x0 x1 v1 := by kernel_rfl
theorem spec_l1LeastRoot_e1 (n : Nat) (x0 : Int) (x1 : Int) : ∀ (m : Nat) (v : Int × Int), (spec_l1LeastRoot_l1 (run tb orc n) n x0 x1 m) v = iterO (spec_l1LeastRoot_g1 (run tb orc n) n x0 x1 ) m v := by
  refine iterO_eq (fun _ => rfl) fun m v => ?_
  rw [spec_l1LeastRoot_s1]
  rw [show (fun x0 x1 v1 v => (spec_l1LeastRoot_l2 (run tb orc n) n x0 x1 v1 n) v) = (fun x0 x1 v1 v => iterO (spec_l1LeastRoot_g2 (run tb orc n) n x0 x1 v1 ) n v) from by funext x0 x1 v1 v; exact spec_l1LeastRoot_e2 n x0 x1 v1 _ v]
  rw [show (fun x0 x1 v1 v => (spec_l1LeastRoot_l3 (run tb orc n) n x0 x1 v1 n) v) = (fun x0 x1 v1 v => iterO (spec_l1LeastRoot_g3 (run tb orc n) n x0 x1 v1 ) n v) from by funext x0 x1 v1 v; exact spec_l1LeastRoot_e3 n x0 x1 v1 _ v]
  unfold spec_l1LeastRoot_g1 spec_l1LeastRoot_x1
  rfl
noncomputable def spec_l1LeastRoot_x (C0 : Ca tb) (inn1 : (Int) → (Int) → (Int × Int) → Option Int) (x0 : Int) (x1 : Int) : Option Int :=
  inn1 x0 x1 ((0:Int), (2:Int))
noncomputable def spec_l1LeastRoot_f (n : Nat) (x0 : Int) (x1 : Int) : Option Int :=
  spec_l1LeastRoot_x (run tb orc n) (fun x0 x1 v => iterO (spec_l1LeastRoot_g1 (run tb orc n) n x0 x1 ) n v) x0 x1 
theorem spec_l1LeastRoot_r (n : Nat) (x0 : Int) (x1 : Int) : c_spec_l1LeastRoot (run tb orc (n + 1)) x0 x1 = spec_l1LeastRoot_x (run tb orc n) (fun x0 x1 v => (spec_l1LeastRoot_l1 (run tb orc n) n x0 x1 n) v) x0 x1  := by kernel_rfl
/-- loop.example/g00133/spec.l1LeastRoot -/
theorem spec_l1LeastRoot_eq (n : Nat) (x0 : Int) (x1 : Int) : c_spec_l1LeastRoot (run tb orc (n + 1)) x0 x1 = spec_l1LeastRoot_f n x0 x1 := by
  rw [spec_l1LeastRoot_r]
  rw [show (fun x0 x1 v => (spec_l1LeastRoot_l1 (run tb orc n) n x0 x1 n) v) = (fun x0 x1 v => iterO (spec_l1LeastRoot_g1 (run tb orc n) n x0 x1 ) n v) from by funext x0 x1 v; exact spec_l1LeastRoot_e1 n x0 x1 _ v]
  rfl
noncomputable def impl_mod_x (C0 : Ca tb) (x0 : Int) (x1 : Int) : Option Int :=
  if x1 = 0 then none else if x0.tmod x1 < (0:Int) then some (wr .i64 ((x0.tmod x1) + x1)) else some (x0.tmod x1)
noncomputable def impl_mod_f (n : Nat) (x0 : Int) (x1 : Int) : Option Int :=
  impl_mod_x (run tb orc n) x0 x1 
theorem impl_mod_r (n : Nat) (x0 : Int) (x1 : Int) : c_impl_mod (run tb orc (n + 1)) x0 x1 = impl_mod_x (run tb orc n) x0 x1  := by kernel_rfl
/-- loop.example/g00133/impl.mod -/
theorem impl_mod_eq (n : Nat) (x0 : Int) (x1 : Int) : c_impl_mod (run tb orc (n + 1)) x0 x1 = impl_mod_f n x0 x1 := by
  rw [impl_mod_r]
  rfl
noncomputable def impl_pow_x (C0 : Ca tb) (x0 : Int) (x1 : Int) (x2 : Int) : Option Int :=
  (c_impl_mod C0 x0 x2).bind fun (d1 : Int) => (c_impl_powMod64 C0 (wr .u64 (d1)) (wr .u64 (x1)) (wr .u64 (x2))).bind fun (d2 : Int) => some (wr .i64 (d2))
noncomputable def impl_pow_f (n : Nat) (x0 : Int) (x1 : Int) (x2 : Int) : Option Int :=
  impl_pow_x (run tb orc n) x0 x1 x2 
theorem impl_pow_r (n : Nat) (x0 : Int) (x1 : Int) (x2 : Int) : c_impl_pow (run tb orc (n + 1)) x0 x1 x2 = impl_pow_x (run tb orc n) x0 x1 x2  := by kernel_rfl
/-- loop.example/g00133/impl.pow -/
theorem impl_pow_eq (n : Nat) (x0 : Int) (x1 : Int) (x2 : Int) : c_impl_pow (run tb orc (n + 1)) x0 x1 x2 = impl_pow_f n x0 x1 x2 := by
  rw [impl_pow_r]
  rfl
noncomputable def impl_root_x2 (C0 : Ca tb) (self2 : (Int × Int × Int) → Option Int) (x0 : Int) (x1 : Int) (v1 : Int × Int) (v2 : Int × Int × Int) : Option Int :=
  if v2.2.2 < wr .i64 (x1.tdiv (2:Int)) then (if x0 = 0 then none else if x0 = 0 then none else self2 (mn v2.1 v2.2.1, (wr .i64 (((wr .i64 (v2.2.1 * v1.1)).tmod x0) * v1.1)).tmod x0, wr .i64 (v2.2.2 + (1:Int)))) else some (v2.1)
noncomputable def impl_root_l2 (C0 : Ca tb) (N0 : Nat) (x0 : Int) (x1 : Int) (v1 : Int × Int) (m : Nat) (v2 : Int × Int × Int) : Option Int :=
  loopIt (exec tb C0 178 0 N0 (codeAt [1, 1, 1, 1, 0, 1, 0, 0] (bodyOf Tryd.f178))) (trim 0 [0, 5, 8, 9, 33, 34] 0) (contAt tb C0 178 0 N0 [1, 1, 1, 1, 0, 1, 0] [] (bodyOf Tryd.f178) (finish tb 178 Tryd.f178)) m ⟨[.int .i64 (x0), .top, .top, .top, .top, .int .i64 (v1.1), .top, .top, .int .i64 (v2.1), .int .i64 (v2.2.1), .top, .top, .top, .top, .top, .top, .top, .top, .top, .top, .top, .top, .top, .top, .top, .top, .top, .top, .top, .top, .top, .top, .top, .int .i64 (wr .i64 (x1.tdiv (2:Int))), .int .i64 (v2.2.2), .top, .top, .top, .top, .top, .top, .top, .top, .top, .top, .top, .top, .top, .top, .top], []⟩
noncomputable def impl_root_x1 (C0 : Ca tb) (self1 : (Int × Int) → Option Int) (inn2 : (Int) → (Int) → (Int × Int) → (Int × Int × Int) → Option Int) (x0 : Int) (x1 : Int) (v1 : Int × Int) : Option Int :=
  if v1.1 = (0:Int) then (if x1 = 0 then none else (c_impl_pow C0 v1.2 (wr .i64 ((wr .i64 (x0 - (1:Int))).tdiv x1)) x0).bind fun (d1 : Int) => if (2:Int) = 0 then none else (c_impl_pow C0 d1 (wr .i64 (x1.tdiv (2:Int))) x0).bind fun (d2 : Int) => if x0 = 0 then none else if d2 = (1:Int).tmod x0 then self1 (v1.1, wr .i64 (v1.2 + (1:Int))) else self1 (d1, wr .i64 (v1.2 + (1:Int)))) else if (2:Int) = 0 then none else inn2 x0 x1 v1 (v1.1, v1.1, (0:Int))
noncomputable def impl_root_l1 (C0 : Ca tb) (N0 : Nat) (x0 : Int) (x1 : Int) (m : Nat) (v1 : Int × Int) : Option Int :=
  loopIt (exec tb C0 178 0 N0 (codeAt [1, 1, 0, 1, 0, 0] (bodyOf Tryd.f178))) (trim 0 [0, 1, 5, 6] 0) (contAt tb C0 178 0 N0 [1, 1, 0, 1, 0] [] (bodyOf Tryd.f178) (finish tb 178 Tryd.f178)) m ⟨[.int .i64 (x0), .int .i64 (x1), .top, .top, .top, .int .i64 (v1.1), .int .i64 (v1.2), .top, .top, .top, .top, .top, .top, .top, .top, .top, .top, .top, .top, .top, .top, .top, .top, .top, .top, .top, .top, .top, .top, .top, .top, .top, .top, .top, .top, .top, .top, .top, .top, .top, .top, .top, .top, .top, .top, .top, .top, .top, .top, .top], []⟩
noncomputable def impl_root_g2 (C0 : Ca tb) (N0 : Nat) (x0 : Int) (x1 : Int) (v1 : Int × Int) (self2 : (Int × Int × Int) → Option Int) (v2 : Int × Int × Int) : Option Int :=
  impl_root_x2 C0 self2 x0 x1 v1 v2
noncomputable def impl_root_g1 (C0 : Ca tb) (N0 : Nat) (x0 : Int) (x1 : Int) (self1 : (Int × Int) → Option Int) (v1 : Int × Int) : Option Int :=
  impl_root_x1 C0 self1 (fun x0 x1 v1 v => iterO (impl_root_g2 C0 N0 x0 x1 v1 ) N0 v) x0 x1 v1
theorem impl_root_s2 (n : Nat) (x0 : Int) (x1 : Int) (v1 : Int × Int) (m : Nat) (v2 : Int × Int × Int) : (impl_root_l2 (run tb orc n) n x0 x1 v1 (m + 1)) v2 = impl_root_x2 (run tb orc n) (impl_root_l2 (run tb orc n) n x0 x1 v1 m) x0 x1 v1 v2 := by kernel_rfl
theorem impl_root_e2 (n : Nat) (x0 : Int) (x1 : Int) (v1 : Int × Int) : ∀ (m : Nat) (v : Int × Int × Int), (impl_root_l2 (run tb orc n) n x0 x1 v1 m) v = iterO (impl_root_g2 (run tb orc n) n x0 x1 v1 ) m v := by
  refine iterO_eq (fun _ => rfl) fun m v => ?_
  rw [impl_root_s2]
  rfl
theorem impl_root_s1 (n : Nat) (x0 : Int) (x1 : Int) (m : Nat) (v1 : Int × Int) : (impl_root_l1 (run tb orc n) n x0 x1 (m + 1)) v1 = impl_root_x1 (run tb orc n) (impl_root_l1 (run tb orc n) n x0 x1 m) (fun x0 x1 v1 v => (impl_root_l2 (run tb orc n) n x0 x1 v1 n) v) x0 x1 v1 := by kernel_rfl
theorem impl_root_e1 (n : Nat) (x0 : Int) (x1 : Int) : ∀ (m : Nat) (v : Int × Int), (impl_root_l1 (run tb orc n) n x0 x1 m) v = iterO (impl_root_g1 (run tb orc n) n x0 x1 ) m v := by
  refine iterO_eq (fun _ => rfl) fun m v => ?_
  rw [impl_root_s1]
  rw [show (fun x0 x1 v1 v => (impl_root_l2 (run tb orc n) n x0 x1 v1 n) v) = (fun x0 x1 v1 v => iterO (impl_root_g2 (run tb orc n) n x0 x1 v1 ) n v) from by funext x0 x1 v1 v; exact impl_root_e2 n x0 x1 v1 _ v]
  unfold impl_root_g1 impl_root_x1
  rfl
noncomputable def impl_root_x (C0 : Ca tb) (inn1 : (Int) → (Int) → (Int × Int) → Option Int) (x0 : Int) (x1 : Int) : Option Int :=
  inn1 x0 x1 ((0:Int), (2:Int))
noncomputable def impl_root_f (n : Nat) (x0 : Int) (x1 : Int) : Option Int :=
  impl_root_x (run tb orc n) (fun x0 x1 v => iterO (impl_root_g1 (run tb orc n) n x0 x1 ) n v) x0 x1 
theorem impl_root_r (n : Nat) (x0 : Int) (x1 : Int) : c_impl_root (run tb orc (n + 1)) x0 x1 = impl_root_x (run tb orc n) (fun x0 x1 v => (impl_root_l1 (run tb orc n) n x0 x1 n) v) x0 x1  := by kernel_rfl
/-- loop.example/g00133/impl.root -/
theorem impl_root_eq (n : Nat) (x0 : Int) (x1 : Int) : c_impl_root (run tb orc (n + 1)) x0 x1 = impl_root_f n x0 x1 := by
  rw [impl_root_r]
  rw [show (fun x0 x1 v => (impl_root_l1 (run tb orc n) n x0 x1 n) v) = (fun x0 x1 v => iterO (impl_root_g1 (run tb orc n) n x0 x1 ) n v) from by funext x0 x1 v; exact impl_root_e1 n x0 x1 _ v]
  rfl
noncomputable def spec_l1Power_x (C0 : Ca tb) (x0 : Int) (x1 : Int) (x2 : Int) : Option Bool :=
  (c_spec_l1In C0 x0 x1 x2).bind fun (d1 : Bool) => if (d1) = true then some (decide (Go.bits .and .i64 x0 (wr .i64 (x0 - (1:Int))) = (0:Int))) else some (false)
noncomputable def spec_l1Power_f (n : Nat) (x0 : Int) (x1 : Int) (x2 : Int) : Option Bool :=
  spec_l1Power_x (run tb orc n) x0 x1 x2 
theorem spec_l1Power_r (n : Nat) (x0 : Int) (x1 : Int) (x2 : Int) : c_spec_l1Power (run tb orc (n + 1)) x0 x1 x2 = spec_l1Power_x (run tb orc n) x0 x1 x2  := by kernel_rfl
/-- loop.example/g00133/spec.l1Power -/
theorem spec_l1Power_eq (n : Nat) (x0 : Int) (x1 : Int) (x2 : Int) : c_spec_l1Power (run tb orc (n + 1)) x0 x1 x2 = spec_l1Power_f n x0 x1 x2 := by
  rw [spec_l1Power_r]
  rfl
noncomputable def impl_isPower_x (C0 : Ca tb) (x0 : Int) (x1 : Int) (x2 : Int) : Option Bool :=
  (c_impl_in C0 x0 x1 x2).bind fun (d1 : Bool) => if (d1) = true then some (decide (Go.bits .and .i64 x0 (wr .i64 (x0 - (1:Int))) = (0:Int))) else some (false)
noncomputable def impl_isPower_f (n : Nat) (x0 : Int) (x1 : Int) (x2 : Int) : Option Bool :=
  impl_isPower_x (run tb orc n) x0 x1 x2 
theorem impl_isPower_r (n : Nat) (x0 : Int) (x1 : Int) (x2 : Int) : c_impl_isPower (run tb orc (n + 1)) x0 x1 x2 = impl_isPower_x (run tb orc n) x0 x1 x2  := by kernel_rfl
/-- loop.example/g00133/impl.isPower -/
theorem impl_isPower_eq (n : Nat) (x0 : Int) (x1 : Int) (x2 : Int) : c_impl_isPower (run tb orc (n + 1)) x0 x1 x2 = impl_isPower_f n x0 x1 x2 := by
  rw [impl_isPower_r]
  rfl
end Go.Proofs.YthanbjnpfenniaaDoor.Fw
