/- The functions' equations over the interpreter. Printed by fwgen.py. -/
import Derived.Test.YthanbjnpfenniaaDoorFwZf
import Derived.Test.YthanbjnpfenniaaDoorFwTok
import Derived.Test.YthanbjnpfenniaaDoorFwOrc
import Derived.KernelRfl
import Derived.Lib.Tables
namespace Go.Proofs.YthanbjnpfenniaaDoor.Fw
open Go Go.RowKit
set_option linter.unusedVariables false
set_option maxRecDepth 100000
noncomputable def c_laws_szIntS (C : Ca tb) (x0 : List Int) (x1 : Int) : Option Int := C.pure 76 [.sl (.int .i64) (x0), .int .i64 (x1)]
noncomputable def c_laws_heldIntS (C : Ca tb) (x0 : List Int) (x1 : Int) : Option Int := C.pure 26 [.sl (.int .i64) (x0), .int .i64 (x1)]
noncomputable def c_laws_eqIntS (C : Ca tb) (x0 : List Int) (x1 : List Int) : Option Bool := C.pure 19 [.sl (.int .i64) (x0), .sl (.int .i64) (x1)]
noncomputable def c_laws_toIntS (C : Ca tb) (x0 : List Int) : Option (List Int) := C.pure 16 [.sl (.int .i64) (x0)]
noncomputable def laws_szIntS_x (C0 : Ca tb) (x0 : List Int) (x1 : Int) : Option Int :=
  if wr .i64 (x1 - (x0.length : Int)) < (0:Int) then some ((-1:Int)) else some (wr .i64 (x1 - (x0.length : Int)))
noncomputable def laws_szIntS_f (n : Nat) (x0 : List Int) (x1 : Int) : Option Int :=
  laws_szIntS_x (run tb orc n) x0 x1 
theorem laws_szIntS_r (n : Nat) (x0 : List Int) (x1 : Int) : c_laws_szIntS (run tb orc (n + 1)) x0 x1 = laws_szIntS_x (run tb orc n) x0 x1  := by kernel_rfl
/-- loop.example/g00133/laws.szIntS -/
theorem laws_szIntS_eq (n : Nat) (x0 : List Int) (x1 : Int) : c_laws_szIntS (run tb orc (n + 1)) x0 x1 = laws_szIntS_f n x0 x1 := by
  rw [laws_szIntS_r]
  rfl
noncomputable def laws_heldIntS_x1 (C0 : Ca tb) (self1 : (Int × Int) → Option Int) (x0 : List Int) (v1 : Int × Int) : Option Int :=
  if v1.2 < (x0.length : Int) then (if 0 ≤ v1.2 then (if v1.2 < (x0.length : Int) then (if x0.getD v1.2.toNat (0:Int) = v1.1 then self1 (wr .i64 (v1.1 + (1:Int)), wr .i64 (v1.2 + (1:Int))) else some ((-1:Int))) else none) else none) else some (v1.1)
noncomputable def laws_heldIntS_l1 (C0 : Ca tb) (N0 : Nat) (x0 : List Int) (m : Nat) (v1 : Int × Int) : Option Int :=
  loopIt (exec tb C0 26 0 N0 (codeAt [1, 0, 1, 0, 0] (bodyOf Tryd.f26))) (trim 0 [0, 1, 5] 0) (contAt tb C0 26 0 N0 [1, 0, 1, 0] [] (bodyOf Tryd.f26) (finish tb 26 Tryd.f26)) m ⟨[.sl (.int .i64) (x0), .int .i64 (v1.1), .top, .top, .top, .int .i64 (v1.2), .top, .top, .top, .top, .top, .top, .top, .top, .top, .top, .top, .top, .top, .top, .top], []⟩
noncomputable def laws_heldIntS_g1 (C0 : Ca tb) (N0 : Nat) (x0 : List Int) (self1 : (Int × Int) → Option Int) (v1 : Int × Int) : Option Int :=
  laws_heldIntS_x1 C0 self1 x0 v1
theorem laws_heldIntS_s1 (n : Nat) (x0 : List Int) (m : Nat) (v1 : Int × Int) : (laws_heldIntS_l1 (run tb orc n) n x0 (m + 1)) v1 = laws_heldIntS_x1 (run tb orc n) (laws_heldIntS_l1 (run tb orc n) n x0 m) x0 v1 := by kernel_rfl
theorem laws_heldIntS_e1 (n : Nat) (x0 : List Int) : ∀ (m : Nat) (v : Int × Int), (laws_heldIntS_l1 (run tb orc n) n x0 m) v = iterO (laws_heldIntS_g1 (run tb orc n) n x0 ) m v := by
  refine iterO_eq (fun _ => rfl) fun m v => ?_
  rw [laws_heldIntS_s1]
  rfl
noncomputable def laws_heldIntS_x (C0 : Ca tb) (inn1 : (List Int) → (Int × Int) → Option Int) (x0 : List Int) (x1 : Int) : Option Int :=
  inn1 x0 (x1, (0:Int))
noncomputable def laws_heldIntS_f (n : Nat) (x0 : List Int) (x1 : Int) : Option Int :=
  laws_heldIntS_x (run tb orc n) (fun x0 v => iterO (laws_heldIntS_g1 (run tb orc n) n x0 ) n v) x0 x1 
theorem laws_heldIntS_r (n : Nat) (x0 : List Int) (x1 : Int) : c_laws_heldIntS (run tb orc (n + 1)) x0 x1 = laws_heldIntS_x (run tb orc n) (fun x0 v => (laws_heldIntS_l1 (run tb orc n) n x0 n) v) x0 x1  := by kernel_rfl
/-- loop.example/g00133/laws.heldIntS -/
theorem laws_heldIntS_eq (n : Nat) (x0 : List Int) (x1 : Int) : c_laws_heldIntS (run tb orc (n + 1)) x0 x1 = laws_heldIntS_f n x0 x1 := by
  rw [laws_heldIntS_r]
  rw [show (fun x0 v => (laws_heldIntS_l1 (run tb orc n) n x0 n) v) = (fun x0 v => iterO (laws_heldIntS_g1 (run tb orc n) n x0 ) n v) from by funext x0 v; exact laws_heldIntS_e1 n x0 _ v]
  rfl
noncomputable def laws_eqIntS_x1 (C0 : Ca tb) (self1 : (Int) → Option Bool) (x0 : List Int) (x1 : List Int) (v1 : Int) : Option Bool :=
  if v1 < (x0.length : Int) then (if 0 ≤ v1 then (if v1 < (x0.length : Int) then (if 0 ≤ v1 then (if v1 < (x1.length : Int) then (if x0.getD v1.toNat (0:Int) = x1.getD v1.toNat (0:Int) then self1 (wr .i64 (v1 + (1:Int))) else some (false)) else none) else none) else none) else none) else some (true)
noncomputable def laws_eqIntS_l1 (C0 : Ca tb) (N0 : Nat) (x0 : List Int) (x1 : List Int) (m : Nat) (v1 : Int) : Option Bool :=
  loopIt (exec tb C0 19 0 N0 (codeAt [1, 1, 0, 1, 0, 0] (bodyOf Tryd.f19))) (trim 0 [0, 1, 5] 0) (contAt tb C0 19 0 N0 [1, 1, 0, 1, 0] [] (bodyOf Tryd.f19) (finish tb 19 Tryd.f19)) m ⟨[.sl (.int .i64) (x0), .sl (.int .i64) (x1), .top, .top, .top, .int .i64 (v1), .top, .top, .top, .top, .top, .top, .top, .top, .top, .top, .top, .top, .top, .top, .top, .top, .top, .top, .top, .top], []⟩
noncomputable def laws_eqIntS_g1 (C0 : Ca tb) (N0 : Nat) (x0 : List Int) (x1 : List Int) (self1 : (Int) → Option Bool) (v1 : Int) : Option Bool :=
  laws_eqIntS_x1 C0 self1 x0 x1 v1
theorem laws_eqIntS_s1 (n : Nat) (x0 : List Int) (x1 : List Int) (m : Nat) (v1 : Int) : (laws_eqIntS_l1 (run tb orc n) n x0 x1 (m + 1)) v1 = laws_eqIntS_x1 (run tb orc n) (laws_eqIntS_l1 (run tb orc n) n x0 x1 m) x0 x1 v1 := by kernel_rfl
theorem laws_eqIntS_e1 (n : Nat) (x0 : List Int) (x1 : List Int) : ∀ (m : Nat) (v : Int), (laws_eqIntS_l1 (run tb orc n) n x0 x1 m) v = iterO (laws_eqIntS_g1 (run tb orc n) n x0 x1 ) m v := by
  refine iterO_eq (fun _ => rfl) fun m v => ?_
  rw [laws_eqIntS_s1]
  rfl
noncomputable def laws_eqIntS_x (C0 : Ca tb) (inn1 : (List Int) → (List Int) → (Int) → Option Bool) (x0 : List Int) (x1 : List Int) : Option Bool :=
  if (x0.length : Int) = (x1.length : Int) then inn1 x0 x1 ((0:Int)) else some (false)
noncomputable def laws_eqIntS_f (n : Nat) (x0 : List Int) (x1 : List Int) : Option Bool :=
  laws_eqIntS_x (run tb orc n) (fun x0 x1 v => iterO (laws_eqIntS_g1 (run tb orc n) n x0 x1 ) n v) x0 x1 
theorem laws_eqIntS_r (n : Nat) (x0 : List Int) (x1 : List Int) : c_laws_eqIntS (run tb orc (n + 1)) x0 x1 = laws_eqIntS_x (run tb orc n) (fun x0 x1 v => (laws_eqIntS_l1 (run tb orc n) n x0 x1 n) v) x0 x1  := by kernel_rfl
/-- loop.example/g00133/laws.eqIntS -/
theorem laws_eqIntS_eq (n : Nat) (x0 : List Int) (x1 : List Int) : c_laws_eqIntS (run tb orc (n + 1)) x0 x1 = laws_eqIntS_f n x0 x1 := by
  rw [laws_eqIntS_r]
  rw [show (fun x0 x1 v => (laws_eqIntS_l1 (run tb orc n) n x0 x1 n) v) = (fun x0 x1 v => iterO (laws_eqIntS_g1 (run tb orc n) n x0 x1 ) n v) from by funext x0 x1 v; exact laws_eqIntS_e1 n x0 x1 _ v]
  rfl
noncomputable def laws_toIntS_x1 (C0 : Ca tb) (self1 : (Int × List Int) → Option (List Int)) (x0 : List Int) (v1 : Int × List Int) : Option (List Int) :=
  if v1.1 < (x0.length : Int) then (if 0 ≤ v1.1 then (if v1.1 < (x0.length : Int) then (if 0 ≤ v1.1 then (if v1.1 < (v1.2.length : Int) then self1 (wr .i64 (v1.1 + (1:Int)), v1.2.set v1.1.toNat (x0.getD v1.1.toNat (0:Int))) else none) else none) else none) else none) else some (v1.2)
noncomputable def laws_toIntS_l1 (C0 : Ca tb) (N0 : Nat) (x0 : List Int) (m : Nat) (v1 : Int × List Int) : Option (List Int) :=
  loopIt (exec tb C0 16 0 N0 (codeAt [1, 1, 0, 1, 0, 0] (bodyOf Tryd.f16))) (trim 0 [0, 3, 4] 1) (contAt tb C0 16 0 N0 [1, 1, 0, 1, 0] [] (bodyOf Tryd.f16) (finish tb 16 Tryd.f16)) m ⟨[.sl (.int .i64) (x0), .top, .top, .osl 0 0, .int .i64 (v1.1), .top, .top, .top, .top, .top, .top, .top, .top, .top, .top, .top, .top, .top, .top, .top, .top, .top], [.arr (.int .i64) (v1.2) 0 true]⟩
noncomputable def laws_toIntS_g1 (C0 : Ca tb) (N0 : Nat) (x0 : List Int) (self1 : (Int × List Int) → Option (List Int)) (v1 : Int × List Int) : Option (List Int) :=
  laws_toIntS_x1 C0 self1 x0 v1
theorem laws_toIntS_s1 (n : Nat) (x0 : List Int) (m : Nat) (v1 : Int × List Int) : (laws_toIntS_l1 (run tb orc n) n x0 (m + 1)) v1 = laws_toIntS_x1 (run tb orc n) (laws_toIntS_l1 (run tb orc n) n x0 m) x0 v1 := by kernel_rfl
theorem laws_toIntS_e1 (n : Nat) (x0 : List Int) : ∀ (m : Nat) (v : Int × List Int), (laws_toIntS_l1 (run tb orc n) n x0 m) v = iterO (laws_toIntS_g1 (run tb orc n) n x0 ) m v := by
  refine iterO_eq (fun _ => rfl) fun m v => ?_
  rw [laws_toIntS_s1]
  rfl
noncomputable def laws_toIntS_x (C0 : Ca tb) (inn1 : (List Int) → (Int × List Int) → Option (List Int)) (x0 : List Int) : Option (List Int) :=
  if 0 ≤ (x0.length : Int) then (if limB (x0.length : Int).toNat = true then (inn1 x0 ((0:Int), List.replicate (x0.length : Int).toNat (0:Int))) else none) else none
noncomputable def laws_toIntS_f (n : Nat) (x0 : List Int) : Option (List Int) :=
  laws_toIntS_x (run tb orc n) (fun x0 v => iterO (laws_toIntS_g1 (run tb orc n) n x0 ) n v) x0 
theorem laws_toIntS_r (n : Nat) (x0 : List Int) : c_laws_toIntS (run tb orc (n + 1)) x0 = laws_toIntS_x (run tb orc n) (fun x0 v => (laws_toIntS_l1 (run tb orc n) n x0 n) v) x0  := by kernel_rfl
/-- loop.example/g00133/laws.toIntS -/
theorem laws_toIntS_eq (n : Nat) (x0 : List Int) : c_laws_toIntS (run tb orc (n + 1)) x0 = laws_toIntS_f n x0 := by
  rw [laws_toIntS_r]
  rw [show (fun x0 v => (laws_toIntS_l1 (run tb orc n) n x0 n) v) = (fun x0 v => iterO (laws_toIntS_g1 (run tb orc n) n x0 ) n v) from by funext x0 v; exact laws_toIntS_e1 n x0 _ v]
  rfl
end Go.Proofs.YthanbjnpfenniaaDoor.Fw
