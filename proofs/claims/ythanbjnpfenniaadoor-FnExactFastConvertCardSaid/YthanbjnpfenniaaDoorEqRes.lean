/- The functions' equations over the interpreter. Printed by fwgen.py. -/
import Derived.Test.YthanbjnpfenniaaDoorFwZf
import Derived.Test.YthanbjnpfenniaaDoorFwTok
import Derived.Test.YthanbjnpfenniaaDoorFwOrc
import Derived.Test.YthanbjnpfenniaaDoorEqM
import Derived.KernelRfl
import Derived.Lib.Tables
namespace Go.Proofs.YthanbjnpfenniaaDoor.Fw
open Go Go.RowKit
set_option linter.unusedVariables false
set_option maxRecDepth 100000
noncomputable def c_spec_l4Residues (C : Ca tb) (x0_0 : Bool) (x0_1 : List Int) (x1 : List Int) : Option (List Int) := C.pure 89 [.agg [.bool (x0_0), .sl (.int .i64) (x0_1)], .sl (.int .i64) (x1)]
noncomputable def spec_l4Residues_x1 (C0 : Ca tb) (self1 : (Int × List Int) → Option (List Int)) (x0_0 : Bool) (x0_1 : List Int) (x1 : List Int) (v1 : Int × List Int) : Option (List Int) :=
  if v1.1 < (x1.length : Int) then (if 0 ≤ v1.1 then (if v1.1 < (x1.length : Int) then (c_spec_l2Modulo C0 x0_0 x0_1 (x1.getD v1.1.toNat (0:Int))).bind fun (d1 : Int) => if v1.2.length + ([d1]).length < lim then (self1 (wr .i64 (v1.1 + (1:Int)), v1.2 ++ ([d1]))) else none else none) else none) else some (v1.2)
noncomputable def spec_l4Residues_l1 (C0 : Ca tb) (N0 : Nat) (x0_0 : Bool) (x0_1 : List Int) (x1 : List Int) (m : Nat) (v1 : Int × List Int) : Option (List Int) :=
  loopIt (exec tb C0 89 0 N0 (codeAt [1, 1, 0, 1, 0, 0] (bodyOf Tryd.f89))) (trim 0 [2, 5, 8, 9, 10] 2) (contAt tb C0 89 0 N0 [1, 1, 0, 1, 0] [] (bodyOf Tryd.f89) (finish tb 89 Tryd.f89)) m ⟨[.top, .top, .bptr 0 0, .top, .top, .osl 1 0, .top, .top, .sl (.int .i64) (x1), .int .i64 ((x1.length : Int)), .int .i64 (v1.1), .top, .top, .top, .top, .top, .top, .top, .top, .top, .top, .top], [.box [.bool (x0_0), .sl (.int .i64) (x0_1)], .arr (.int .i64) (v1.2) 0 true]⟩
noncomputable def spec_l4Residues_g1 (C0 : Ca tb) (N0 : Nat) (x0_0 : Bool) (x0_1 : List Int) (x1 : List Int) (self1 : (Int × List Int) → Option (List Int)) (v1 : Int × List Int) : Option (List Int) :=
  spec_l4Residues_x1 C0 self1 x0_0 x0_1 x1 v1
theorem spec_l4Residues_s1 (n : Nat) (x0_0 : Bool) (x0_1 : List Int) (x1 : List Int) (m : Nat) (v1 : Int × List Int) : (spec_l4Residues_l1 (run tb orc n) n x0_0 x0_1 x1 (m + 1)) v1 = spec_l4Residues_x1 (run tb orc n) (spec_l4Residues_l1 (run tb orc n) n x0_0 x0_1 x1 m) x0_0 x0_1 x1 v1 := by kernel_rfl
theorem spec_l4Residues_e1 (n : Nat) (x0_0 : Bool) (x0_1 : List Int) (x1 : List Int) : ∀ (m : Nat) (v : Int × List Int), (spec_l4Residues_l1 (run tb orc n) n x0_0 x0_1 x1 m) v = iterO (spec_l4Residues_g1 (run tb orc n) n x0_0 x0_1 x1 ) m v := by
  refine iterO_eq (fun _ => rfl) fun m v => ?_
  rw [spec_l4Residues_s1]
  rfl
noncomputable def spec_l4Residues_x (C0 : Ca tb) (inn1 : (Bool) → (List Int) → (List Int) → (Int × List Int) → Option (List Int)) (x0_0 : Bool) (x0_1 : List Int) (x1 : List Int) : Option (List Int) :=
  inn1 x0_0 x0_1 x1 ((0:Int), [])
noncomputable def spec_l4Residues_f (n : Nat) (x0_0 : Bool) (x0_1 : List Int) (x1 : List Int) : Option (List Int) :=
  spec_l4Residues_x (run tb orc n) (fun x0_0 x0_1 x1 v => iterO (spec_l4Residues_g1 (run tb orc n) n x0_0 x0_1 x1 ) n v) x0_0 x0_1 x1 
theorem spec_l4Residues_r (n : Nat) (x0_0 : Bool) (x0_1 : List Int) (x1 : List Int) : c_spec_l4Residues (run tb orc (n + 1)) x0_0 x0_1 x1 = spec_l4Residues_x (run tb orc n) (fun x0_0 x0_1 x1 v => (spec_l4Residues_l1 (run tb orc n) n x0_0 x0_1 x1 n) v) x0_0 x0_1 x1  := by kernel_rfl
/-- loop.example/g00133/spec.l4Residues -/
theorem spec_l4Residues_eq (n : Nat) (x0_0 : Bool) (x0_1 : List Int) (x1 : List Int) : c_spec_l4Residues (run tb orc (n + 1)) x0_0 x0_1 x1 = spec_l4Residues_f n x0_0 x0_1 x1 := by
  rw [spec_l4Residues_r]
  rw [show (fun x0_0 x0_1 x1 v => (spec_l4Residues_l1 (run tb orc n) n x0_0 x0_1 x1 n) v) = (fun x0_0 x0_1 x1 v => iterO (spec_l4Residues_g1 (run tb orc n) n x0_0 x0_1 x1 ) n v) from by funext x0_0 x0_1 x1 v; exact spec_l4Residues_e1 n x0_0 x0_1 x1 _ v]
  rfl
end Go.Proofs.YthanbjnpfenniaaDoor.Fw
