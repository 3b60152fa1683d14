/- The functions' equations over the interpreter. Printed by fwgen.py. -/
import Derived.Test.YthanbjnpfenniaaDoorFwZf
import Derived.Test.YthanbjnpfenniaaDoorFwTok
import Derived.Test.YthanbjnpfenniaaDoorFwOrc
import Derived.KernelRfl
import Derived.Lib.Tables
namespace Go.Proofs.YthanbjnpfenniaaDoor.Fw
open Go Go.RowKit
set_option linter.unusedVariables false
set_option maxRecDepth 100000
noncomputable def c_impl_mulEach (C : Ca tb) (x0 : List Int) (x1 : List Int) (x2 : Int) : Option (List Int) := C.pure 108 [.sl (.int .i64) (x0), .sl (.int .i64) (x1), .int .i64 (x2)]
noncomputable def impl_mulEach_x1 (C0 : Ca tb) (self1 : (Int × List Int) → Option (List Int)) (x0 : List Int) (x1 : List Int) (x2 : Int) (v1 : Int × List Int) : Option (List Int) :=
  if v1.1 < (x0.length : Int) then (if 0 ≤ v1.1 then (if v1.1 < (x0.length : Int) then (if 0 ≤ v1.1 then (if v1.1 < (x1.length : Int) then (if x2 = 0 then none else if v1.2.length + ([(wr .i64 ((x0.getD v1.1.toNat (0:Int)) * (x1.getD v1.1.toNat (0:Int)))).tmod x2]).length < lim then (self1 (wr .i64 (v1.1 + (1:Int)), v1.2 ++ ([(wr .i64 ((x0.getD v1.1.toNat (0:Int)) * (x1.getD v1.1.toNat (0:Int)))).tmod x2]))) else none) else none) else none) else none) else none) else some (v1.2)
noncomputable def impl_mulEach_l1 (C0 : Ca tb) (N0 : Nat) (x0 : List Int) (x1 : List Int) (x2 : Int) (m : Nat) (v1 : Int × List Int) : Option (List Int) :=
  loopIt (exec tb C0 108 0 N0 (codeAt [1, 1, 0, 1, 0, 0] (bodyOf Tryd.f108))) (trim 0 [1, 2, 7, 11, 12, 13] 1) (contAt tb C0 108 0 N0 [1, 1, 0, 1, 0] [] (bodyOf Tryd.f108) (finish tb 108 Tryd.f108)) m ⟨[.top, .sl (.int .i64) (x1), .int .i64 (x2), .top, .top, .top, .top, .osl 0 0, .top, .top, .top, .sl (.int .i64) (x0), .int .i64 ((x0.length : Int)), .int .i64 (v1.1), .top, .top, .top, .top, .top, .top, .top, .top, .top, .top, .top, .top, .top, .top, .top, .top, .top], [.arr (.int .i64) (v1.2) 0 true]⟩
noncomputable def impl_mulEach_g1 (C0 : Ca tb) (N0 : Nat) (x0 : List Int) (x1 : List Int) (x2 : Int) (self1 : (Int × List Int) → Option (List Int)) (v1 : Int × List Int) : Option (List Int) :=
  impl_mulEach_x1 C0 self1 x0 x1 x2 v1
theorem impl_mulEach_s1 (n : Nat) (x0 : List Int) (x1 : List Int) (x2 : Int) (m : Nat) (v1 : Int × List Int) : (impl_mulEach_l1 (run tb orc n) n x0 x1 x2 (m + 1)) v1 = impl_mulEach_x1 (run tb orc n) (impl_mulEach_l1 (run tb orc n) n x0 x1 x2 m) x0 x1 x2 v1 := by kernel_rfl
theorem impl_mulEach_e1 (n : Nat) (x0 : List Int) (x1 : List Int) (x2 : Int) : ∀ (m : Nat) (v : Int × List Int), (impl_mulEach_l1 (run tb orc n) n x0 x1 x2 m) v = iterO (impl_mulEach_g1 (run tb orc n) n x0 x1 x2 ) m v := by
  refine iterO_eq (fun _ => rfl) fun m v => ?_
  rw [impl_mulEach_s1]
  rfl
noncomputable def impl_mulEach_x (C0 : Ca tb) (inn1 : (List Int) → (List Int) → (Int) → (Int × List Int) → Option (List Int)) (x0 : List Int) (x1 : List Int) (x2 : Int) : Option (List Int) :=
  inn1 x0 x1 x2 ((0:Int), [])
noncomputable def impl_mulEach_f (n : Nat) (x0 : List Int) (x1 : List Int) (x2 : Int) : Option (List Int) :=
  impl_mulEach_x (run tb orc n) (fun x0 x1 x2 v => iterO (impl_mulEach_g1 (run tb orc n) n x0 x1 x2 ) n v) x0 x1 x2 
theorem impl_mulEach_r (n : Nat) (x0 : List Int) (x1 : List Int) (x2 : Int) : c_impl_mulEach (run tb orc (n + 1)) x0 x1 x2 = impl_mulEach_x (run tb orc n) (fun x0 x1 x2 v => (impl_mulEach_l1 (run tb orc n) n x0 x1 x2 n) v) x0 x1 x2  := by kernel_rfl
/-- loop.example/g00133/impl.mulEach -/
theorem impl_mulEach_eq (n : Nat) (x0 : List Int) (x1 : List Int) (x2 : Int) : c_impl_mulEach (run tb orc (n + 1)) x0 x1 x2 = impl_mulEach_f n x0 x1 x2 := by
  rw [impl_mulEach_r]
  rw [show (fun x0 x1 x2 v => (impl_mulEach_l1 (run tb orc n) n x0 x1 x2 n) v) = (fun x0 x1 x2 v => iterO (impl_mulEach_g1 (run tb orc n) n x0 x1 x2 ) n v) from by funext x0 x1 x2 v; exact impl_mulEach_e1 n x0 x1 x2 _ v]
  rfl
end Go.Proofs.YthanbjnpfenniaaDoor.Fw
