/- The functions' equations over the interpreter. Printed by fwgen.py. -/
import Derived.Test.YthanbjnpfenniaaDoorFwZf
import Derived.Test.YthanbjnpfenniaaDoorFwTok
import Derived.Test.YthanbjnpfenniaaDoorFwOrc
import Derived.Test.YthanbjnpfenniaaDoorEqW
import Derived.KernelRfl
import Derived.Lib.Tables
namespace Go.Proofs.YthanbjnpfenniaaDoor.Fw
open Go Go.RowKit
set_option linter.unusedVariables false
set_option maxRecDepth 100000
noncomputable def c_spec_l2Sub (C : Ca tb) (x0 : List Int) (x1 : List Int) : Option (List Int) := C.pure 174 [.sl (.int .i64) (x0), .sl (.int .i64) (x1)]
noncomputable def c_spec_l2Cmp (C : Ca tb) (x0 : List Int) (x1 : List Int) : Option Int := C.pure 173 [.sl (.int .i64) (x0), .sl (.int .i64) (x1)]
noncomputable def spec_l2Sub_x1 (C0 : Ca tb) (self1 : (Int × Int × List Int) → Option (List Int)) (x0 : List Int) (x1 : List Int) (v1 : Int × Int × List Int) : Option (List Int) :=
  if v1.2.1 < (x0.length : Int) then (if 0 ≤ v1.2.1 then (if v1.2.1 < (x0.length : Int) then (if v1.2.1 < (x1.length : Int) then (if 0 ≤ v1.2.1 then (if v1.2.1 < (x1.length : Int) then (if wr .i64 ((wr .i64 ((x0.getD v1.2.1.toNat (0:Int)) - v1.1)) - (x1.getD v1.2.1.toNat (0:Int))) < (0:Int) then (if v1.2.2.length + ([wr .i64 ((wr .i64 ((wr .i64 ((x0.getD v1.2.1.toNat (0:Int)) - v1.1)) - (x1.getD v1.2.1.toNat (0:Int)))) + (268435456:Int))]).length < lim then (self1 ((1:Int), wr .i64 (v1.2.1 + (1:Int)), v1.2.2 ++ ([wr .i64 ((wr .i64 ((wr .i64 ((x0.getD v1.2.1.toNat (0:Int)) - v1.1)) - (x1.getD v1.2.1.toNat (0:Int)))) + (268435456:Int))]))) else none) else if v1.2.2.length + ([wr .i64 ((wr .i64 ((x0.getD v1.2.1.toNat (0:Int)) - v1.1)) - (x1.getD v1.2.1.toNat (0:Int)))]).length < lim then (self1 ((0:Int), wr .i64 (v1.2.1 + (1:Int)), v1.2.2 ++ ([wr .i64 ((wr .i64 ((x0.getD v1.2.1.toNat (0:Int)) - v1.1)) - (x1.getD v1.2.1.toNat (0:Int)))]))) else none) else none) else none) else if wr .i64 ((x0.getD v1.2.1.toNat (0:Int)) - v1.1) < (0:Int) then (if v1.2.2.length + ([wr .i64 ((wr .i64 ((x0.getD v1.2.1.toNat (0:Int)) - v1.1)) + (268435456:Int))]).length < lim then (self1 ((1:Int), wr .i64 (v1.2.1 + (1:Int)), v1.2.2 ++ ([wr .i64 ((wr .i64 ((x0.getD v1.2.1.toNat (0:Int)) - v1.1)) + (268435456:Int))]))) else none) else if v1.2.2.length + ([wr .i64 ((x0.getD v1.2.1.toNat (0:Int)) - v1.1)]).length < lim then (self1 ((0:Int), wr .i64 (v1.2.1 + (1:Int)), v1.2.2 ++ ([wr .i64 ((x0.getD v1.2.1.toNat (0:Int)) - v1.1)]))) else none) else none) else none) else (c_spec_l2Trim C0 v1.2.2).bind fun (d1 : List Int) => some (d1)
noncomputable def spec_l2Sub_l1 (C0 : Ca tb) (N0 : Nat) (x0 : List Int) (x1 : List Int) (m : Nat) (v1 : Int × Int × List Int) : Option (List Int) :=
  loopIt (exec tb C0 174 0 N0 (codeAt [1, 1, 1, 0, 1, 0, 0] (bodyOf Tryd.f174))) (trim 0 [0, 1, 5, 6, 10, 11] 1) (contAt tb C0 174 0 N0 [1, 1, 1, 0, 1, 0] [] (bodyOf Tryd.f174) (finish tb 174 Tryd.f174)) m ⟨[.sl (.int .i64) (x0), .sl (.int .i64) (x1), .top, .top, .top, .osl 0 0, .int .i64 (v1.1), .top, .top, .top, .int .i64 ((x0.length : Int)), .int .i64 (v1.2.1), .top, .top, .top, .top, .top, .top, .top, .top, .top, .top, .top, .top, .top, .top, .top, .top, .top, .top, .top, .top, .top, .top, .top, .top, .top, .top, .top, .top, .top], [.arr (.int .i64) (v1.2.2) 0 true]⟩
noncomputable def spec_l2Sub_g1 (C0 : Ca tb) (N0 : Nat) (x0 : List Int) (x1 : List Int) (self1 : (Int × Int × List Int) → Option (List Int)) (v1 : Int × Int × List Int) : Option (List Int) :=
  spec_l2Sub_x1 C0 self1 x0 x1 v1
theorem spec_l2Sub_s1 (n : Nat) (x0 : List Int) (x1 : List Int) (m : Nat) (v1 : Int × Int × List Int) : (spec_l2Sub_l1 (run tb orc n) n x0 x1 (m + 1)) v1 = spec_l2Sub_x1 (run tb orc n) (spec_l2Sub_l1 (run tb orc n) n x0 x1 m) x0 x1 v1 := by kernel_rfl
theorem spec_l2Sub_e1 (n : Nat) (x0 : List Int) (x1 : List Int) : ∀ (m : Nat) (v : Int × Int × List Int), (spec_l2Sub_l1 (run tb orc n) n x0 x1 m) v = iterO (spec_l2Sub_g1 (run tb orc n) n x0 x1 ) m v := by
  refine iterO_eq (fun _ => rfl) fun m v => ?_
  rw [spec_l2Sub_s1]
  rfl
noncomputable def spec_l2Sub_x (C0 : Ca tb) (inn1 : (List Int) → (List Int) → (Int × Int × List Int) → Option (List Int)) (x0 : List Int) (x1 : List Int) : Option (List Int) :=
  inn1 x0 x1 ((0:Int), (0:Int), [])
noncomputable def spec_l2Sub_f (n : Nat) (x0 : List Int) (x1 : List Int) : Option (List Int) :=
  spec_l2Sub_x (run tb orc n) (fun x0 x1 v => iterO (spec_l2Sub_g1 (run tb orc n) n x0 x1 ) n v) x0 x1 
theorem spec_l2Sub_r (n : Nat) (x0 : List Int) (x1 : List Int) : c_spec_l2Sub (run tb orc (n + 1)) x0 x1 = spec_l2Sub_x (run tb orc n) (fun x0 x1 v => (spec_l2Sub_l1 (run tb orc n) n x0 x1 n) v) x0 x1  := by kernel_rfl
/-- loop.example/g00133/spec.l2Sub -/
theorem spec_l2Sub_eq (n : Nat) (x0 : List Int) (x1 : List Int) : c_spec_l2Sub (run tb orc (n + 1)) x0 x1 = spec_l2Sub_f n x0 x1 := by
  rw [spec_l2Sub_r]
  rw [show (fun x0 x1 v => (spec_l2Sub_l1 (run tb orc n) n x0 x1 n) v) = (fun x0 x1 v => iterO (spec_l2Sub_g1 (run tb orc n) n x0 x1 ) n v) from by funext x0 x1 v; exact spec_l2Sub_e1 n x0 x1 _ v]
  rfl
noncomputable def spec_l2Cmp_x1 (C0 : Ca tb) (self1 : (Int) → Option Int) (x0 : List Int) (x1 : List Int) (v1 : Int) : Option Int :=
  if v1 ≥ (0:Int) then (if 0 ≤ v1 then (if v1 < (x0.length : Int) then (if 0 ≤ v1 then (if v1 < (x1.length : Int) then (if x0.getD v1.toNat (0:Int) < x1.getD v1.toNat (0:Int) then some ((-1:Int)) else if 0 ≤ v1 then (if v1 < (x0.length : Int) then (if 0 ≤ v1 then (if v1 < (x1.length : Int) then (if x0.getD v1.toNat (0:Int) > x1.getD v1.toNat (0:Int) then some ((1:Int)) else self1 (wr .i64 (v1 - (1:Int)))) else none) else none) else none) else none) else none) else none) else none) else none) else some ((0:Int))
noncomputable def spec_l2Cmp_l1 (C0 : Ca tb) (N0 : Nat) (x0 : List Int) (x1 : List Int) (m : Nat) (v1 : Int) : Option Int :=
  loopIt (exec tb C0 173 0 N0 (codeAt [1, 1, 0, 1, 0, 0] (bodyOf Tryd.f173))) (trim 0 [0, 1, 5] 0) (contAt tb C0 173 0 N0 [1, 1, 0, 1, 0] [] (bodyOf Tryd.f173) (finish tb 173 Tryd.f173)) m ⟨[.sl (.int .i64) (x0), .sl (.int .i64) (x1), .top, .top, .top, .int .i64 (v1), .top, .top, .top, .top, .top, .top, .top, .top, .top, .top, .top, .top, .top, .top, .top, .top, .top, .top, .top, .top, .top, .top, .top, .top, .top, .top, .top, .top, .top, .top, .top, .top, .top, .top, .top], []⟩
noncomputable def spec_l2Cmp_g1 (C0 : Ca tb) (N0 : Nat) (x0 : List Int) (x1 : List Int) (self1 : (Int) → Option Int) (v1 : Int) : Option Int :=
  spec_l2Cmp_x1 C0 self1 x0 x1 v1
theorem spec_l2Cmp_s1 (n : Nat) (x0 : List Int) (x1 : List Int) (m : Nat) (v1 : Int) : (spec_l2Cmp_l1 (run tb orc n) n x0 x1 (m + 1)) v1 = spec_l2Cmp_x1 (run tb orc n) (spec_l2Cmp_l1 (run tb orc n) n x0 x1 m) x0 x1 v1 := by kernel_rfl
theorem spec_l2Cmp_e1 (n : Nat) (x0 : List Int) (x1 : List Int) : ∀ (m : Nat) (v : Int), (spec_l2Cmp_l1 (run tb orc n) n x0 x1 m) v = iterO (spec_l2Cmp_g1 (run tb orc n) n x0 x1 ) m v := by
  refine iterO_eq (fun _ => rfl) fun m v => ?_
  rw [spec_l2Cmp_s1]
  rfl
noncomputable def spec_l2Cmp_x (C0 : Ca tb) (inn1 : (List Int) → (List Int) → (Int) → Option Int) (x0 : List Int) (x1 : List Int) : Option Int :=
  if (x0.length : Int) = (x1.length : Int) then inn1 x0 x1 (wr .i64 ((x0.length : Int) - (1:Int))) else if (x0.length : Int) < (x1.length : Int) then some ((-1:Int)) else some ((1:Int))
noncomputable def spec_l2Cmp_f (n : Nat) (x0 : List Int) (x1 : List Int) : Option Int :=
  spec_l2Cmp_x (run tb orc n) (fun x0 x1 v => iterO (spec_l2Cmp_g1 (run tb orc n) n x0 x1 ) n v) x0 x1 
theorem spec_l2Cmp_r (n : Nat) (x0 : List Int) (x1 : List Int) : c_spec_l2Cmp (run tb orc (n + 1)) x0 x1 = spec_l2Cmp_x (run tb orc n) (fun x0 x1 v => (spec_l2Cmp_l1 (run tb orc n) n x0 x1 n) v) x0 x1  := by kernel_rfl
/-- loop.example/g00133/spec.l2Cmp -/
theorem spec_l2Cmp_eq (n : Nat) (x0 : List Int) (x1 : List Int) : c_spec_l2Cmp (run tb orc (n + 1)) x0 x1 = spec_l2Cmp_f n x0 x1 := by
  rw [spec_l2Cmp_r]
  rw [show (fun x0 x1 v => (spec_l2Cmp_l1 (run tb orc n) n x0 x1 n) v) = (fun x0 x1 v => iterO (spec_l2Cmp_g1 (run tb orc n) n x0 x1 ) n v) from by funext x0 x1 v; exact spec_l2Cmp_e1 n x0 x1 _ v]
  rfl
end Go.Proofs.YthanbjnpfenniaaDoor.Fw
