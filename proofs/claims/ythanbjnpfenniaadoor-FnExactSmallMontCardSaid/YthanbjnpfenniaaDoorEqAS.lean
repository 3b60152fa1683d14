/- The functions' equations over the interpreter. Printed by fwgen.py. -/
import Derived.Test.YthanbjnpfenniaaDoorFwZf
import Derived.Test.YthanbjnpfenniaaDoorFwTok
import Derived.Test.YthanbjnpfenniaaDoorFwOrc
import Derived.Test.YthanbjnpfenniaaDoorEqA
import Derived.KernelRfl
import Derived.Lib.Tables
namespace Go.Proofs.YthanbjnpfenniaaDoor.Fw
open Go Go.RowKit
set_option linter.unusedVariables false
set_option maxRecDepth 100000
noncomputable def c_laws_heldRows (C : Ca tb) (x0_0 : Bool) (x0_1 : List (List Int)) (x1 : Int) : Option Int := C.pure 39 [.agg [.bool (x0_0), .sl (.sl (.int .i64)) (x0_1)], .int .i64 (x1)]
noncomputable def c_laws_heldIntSS (C : Ca tb) (x0 : List (List Int)) (x1 : Int) : Option Int := C.pure 85 [.sl (.sl (.int .i64)) (x0), .int .i64 (x1)]
noncomputable def c_laws_eqRows (C : Ca tb) (x0_0 : Bool) (x0_1 : List (List Int)) (x1_0 : Bool) (x1_1 : List (List Int)) : Option Bool := C.pure 35 [.agg [.bool (x0_0), .sl (.sl (.int .i64)) (x0_1)], .agg [.bool (x1_0), .sl (.sl (.int .i64)) (x1_1)]]
noncomputable def c_laws_eqIntSS (C : Ca tb) (x0 : List (List Int)) (x1 : List (List Int)) : Option Bool := C.pure 83 [.sl (.sl (.int .i64)) (x0), .sl (.sl (.int .i64)) (x1)]
noncomputable def c_laws_toRows (C : Ca tb) (x0_0 : Bool) (x0_1 : List (List Int)) : Option (Bool × List (List Int)) := C.pure 33 [.agg [.bool (x0_0), .sl (.sl (.int .i64)) (x0_1)]]
noncomputable def c_laws_toIntSS (C : Ca tb) (x0 : List (List Int)) : Option (List (List Int)) := C.pure 80 [.sl (.sl (.int .i64)) (x0)]
noncomputable def c_laws_szRows (C : Ca tb) (x0_0 : Bool) (x0_1 : List (List Int)) (x1 : Int) : Option Int := C.pure 30 [.agg [.bool (x0_0), .sl (.sl (.int .i64)) (x0_1)], .int .i64 (x1)]
noncomputable def c_laws_szIntSS (C : Ca tb) (x0 : List (List Int)) (x1 : Int) : Option Int := C.pure 77 [.sl (.sl (.int .i64)) (x0), .int .i64 (x1)]
noncomputable def c_laws_eqSpace (C : Ca tb) (x0_0 : Int) (x0_1 : List Int) (x1_0 : Int) (x1_1 : List Int) : Option Bool := C.pure 36 [.agg [.int .i64 (x0_0), .sl (.int .i64) (x0_1)], .agg [.int .i64 (x1_0), .sl (.int .i64) (x1_1)]]
noncomputable def c_laws_toSpace (C : Ca tb) (x0_0 : Int) (x0_1 : List Int) : Option (Int × List Int) := C.pure 32 [.agg [.int .i64 (x0_0), .sl (.int .i64) (x0_1)]]
noncomputable def c_laws_szSpace (C : Ca tb) (x0_0 : Int) (x0_1 : List Int) (x1 : Int) : Option Int := C.pure 29 [.agg [.int .i64 (x0_0), .sl (.int .i64) (x0_1)], .int .i64 (x1)]
noncomputable def laws_heldIntSS_x1 (C0 : Ca tb) (self1 : (Int × Int) → Option Int) (x0 : List (List Int)) (v1 : Int × Int) : Option Int :=
  if v1.2 < (x0.length : Int) then (if 0 ≤ v1.2 then (if v1.2 < (x0.length : Int) then (c_laws_heldIntS C0 (x0.getD v1.2.toNat []) v1.1).bind fun (d1 : Int) => if d1 < (0:Int) then some ((-1:Int)) else self1 (d1, wr .i64 (v1.2 + (1:Int))) else none) else none) else some (v1.1)
noncomputable def laws_heldIntSS_l1 (C0 : Ca tb) (N0 : Nat) (x0 : List (List Int)) (m : Nat) (v1 : Int × Int) : Option Int :=
  loopIt (exec tb C0 85 0 N0 (codeAt [1, 0, 1, 0, 0] (bodyOf Tryd.f85))) (trim 0 [0, 1, 5] 0) (contAt tb C0 85 0 N0 [1, 0, 1, 0] [] (bodyOf Tryd.f85) (finish tb 85 Tryd.f85)) m ⟨[.sl (.sl (.int .i64)) (x0), .int .i64 (v1.1), .top, .top, .top, .int .i64 (v1.2), .top, .top, .top, .top, .top, .top, .top, .top, .top, .top, .top, .top, .top, .top, .top], []⟩
noncomputable def laws_heldIntSS_g1 (C0 : Ca tb) (N0 : Nat) (x0 : List (List Int)) (self1 : (Int × Int) → Option Int) (v1 : Int × Int) : Option Int :=
  laws_heldIntSS_x1 C0 self1 x0 v1
theorem laws_heldIntSS_s1 (n : Nat) (x0 : List (List Int)) (m : Nat) (v1 : Int × Int) : (laws_heldIntSS_l1 (run tb orc n) n x0 (m + 1)) v1 = laws_heldIntSS_x1 (run tb orc n) (laws_heldIntSS_l1 (run tb orc n) n x0 m) x0 v1 := by kernel_rfl
theorem laws_heldIntSS_e1 (n : Nat) (x0 : List (List Int)) : ∀ (m : Nat) (v : Int × Int), (laws_heldIntSS_l1 (run tb orc n) n x0 m) v = iterO (laws_heldIntSS_g1 (run tb orc n) n x0 ) m v := by
  refine iterO_eq (fun _ => rfl) fun m v => ?_
  rw [laws_heldIntSS_s1]
  rfl
noncomputable def laws_heldIntSS_x (C0 : Ca tb) (inn1 : (List (List Int)) → (Int × Int) → Option Int) (x0 : List (List Int)) (x1 : Int) : Option Int :=
  inn1 x0 (x1, (0:Int))
noncomputable def laws_heldIntSS_f (n : Nat) (x0 : List (List Int)) (x1 : Int) : Option Int :=
  laws_heldIntSS_x (run tb orc n) (fun x0 v => iterO (laws_heldIntSS_g1 (run tb orc n) n x0 ) n v) x0 x1 
theorem laws_heldIntSS_r (n : Nat) (x0 : List (List Int)) (x1 : Int) : c_laws_heldIntSS (run tb orc (n + 1)) x0 x1 = laws_heldIntSS_x (run tb orc n) (fun x0 v => (laws_heldIntSS_l1 (run tb orc n) n x0 n) v) x0 x1  := by kernel_rfl
/-- loop.example/g00133/laws.heldIntSS -/
theorem laws_heldIntSS_eq (n : Nat) (x0 : List (List Int)) (x1 : Int) : c_laws_heldIntSS (run tb orc (n + 1)) x0 x1 = laws_heldIntSS_f n x0 x1 := by
  rw [laws_heldIntSS_r]
  rw [show (fun x0 v => (laws_heldIntSS_l1 (run tb orc n) n x0 n) v) = (fun x0 v => iterO (laws_heldIntSS_g1 (run tb orc n) n x0 ) n v) from by funext x0 v; exact laws_heldIntSS_e1 n x0 _ v]
  rfl
noncomputable def laws_heldRows_x (C0 : Ca tb) (x0_0 : Bool) (x0_1 : List (List Int)) (x1 : Int) : Option Int :=
  (c_laws_heldIntSS C0 x0_1 x1).bind fun (d1 : Int) => if d1 < (0:Int) then some ((-1:Int)) else some (d1)
noncomputable def laws_heldRows_f (n : Nat) (x0_0 : Bool) (x0_1 : List (List Int)) (x1 : Int) : Option Int :=
  laws_heldRows_x (run tb orc n) x0_0 x0_1 x1 
theorem laws_heldRows_r (n : Nat) (x0_0 : Bool) (x0_1 : List (List Int)) (x1 : Int) : c_laws_heldRows (run tb orc (n + 1)) x0_0 x0_1 x1 = laws_heldRows_x (run tb orc n) x0_0 x0_1 x1  := by kernel_rfl
/-- loop.example/g00133/laws.heldRows -/
theorem laws_heldRows_eq (n : Nat) (x0_0 : Bool) (x0_1 : List (List Int)) (x1 : Int) : c_laws_heldRows (run tb orc (n + 1)) x0_0 x0_1 x1 = laws_heldRows_f n x0_0 x0_1 x1 := by
  rw [laws_heldRows_r]
  rfl
noncomputable def laws_eqIntSS_x1 (C0 : Ca tb) (self1 : (Int) → Option Bool) (x0 : List (List Int)) (x1 : List (List Int)) (v1 : Int) : Option Bool :=
  if v1 < (x0.length : Int) then (if 0 ≤ v1 then (if v1 < (x0.length : Int) then (if 0 ≤ v1 then (if v1 < (x1.length : Int) then (c_laws_eqIntS C0 (x0.getD v1.toNat []) (x1.getD v1.toNat [])).bind fun (d1 : Bool) => if (!d1) = true then some (false) else self1 (wr .i64 (v1 + (1:Int))) else none) else none) else none) else none) else some (true)
noncomputable def laws_eqIntSS_l1 (C0 : Ca tb) (N0 : Nat) (x0 : List (List Int)) (x1 : List (List Int)) (m : Nat) (v1 : Int) : Option Bool :=
  loopIt (exec tb C0 83 0 N0 (codeAt [1, 1, 0, 1, 0, 0] (bodyOf Tryd.f83))) (trim 0 [0, 1, 5] 0) (contAt tb C0 83 0 N0 [1, 1, 0, 1, 0] [] (bodyOf Tryd.f83) (finish tb 83 Tryd.f83)) m ⟨[.sl (.sl (.int .i64)) (x0), .sl (.sl (.int .i64)) (x1), .top, .top, .top, .int .i64 (v1), .top, .top, .top, .top, .top, .top, .top, .top, .top, .top, .top, .top, .top, .top, .top, .top, .top, .top, .top, .top, .top], []⟩
noncomputable def laws_eqIntSS_g1 (C0 : Ca tb) (N0 : Nat) (x0 : List (List Int)) (x1 : List (List Int)) (self1 : (Int) → Option Bool) (v1 : Int) : Option Bool :=
  laws_eqIntSS_x1 C0 self1 x0 x1 v1
theorem laws_eqIntSS_s1 (n : Nat) (x0 : List (List Int)) (x1 : List (List Int)) (m : Nat) (v1 : Int) : (laws_eqIntSS_l1 (run tb orc n) n x0 x1 (m + 1)) v1 = laws_eqIntSS_x1 (run tb orc n) (laws_eqIntSS_l1 (run tb orc n) n x0 x1 m) x0 x1 v1 := by kernel_rfl
theorem laws_eqIntSS_e1 (n : Nat) (x0 : List (List Int)) (x1 : List (List Int)) : ∀ (m : Nat) (v : Int), (laws_eqIntSS_l1 (run tb orc n) n x0 x1 m) v = iterO (laws_eqIntSS_g1 (run tb orc n) n x0 x1 ) m v := by
  refine iterO_eq (fun _ => rfl) fun m v => ?_
  rw [laws_eqIntSS_s1]
  rfl
noncomputable def laws_eqIntSS_x (C0 : Ca tb) (inn1 : (List (List Int)) → (List (List Int)) → (Int) → Option Bool) (x0 : List (List Int)) (x1 : List (List Int)) : Option Bool :=
  if (x0.length : Int) = (x1.length : Int) then inn1 x0 x1 ((0:Int)) else some (false)
noncomputable def laws_eqIntSS_f (n : Nat) (x0 : List (List Int)) (x1 : List (List Int)) : Option Bool :=
  laws_eqIntSS_x (run tb orc n) (fun x0 x1 v => iterO (laws_eqIntSS_g1 (run tb orc n) n x0 x1 ) n v) x0 x1 
theorem laws_eqIntSS_r (n : Nat) (x0 : List (List Int)) (x1 : List (List Int)) : c_laws_eqIntSS (run tb orc (n + 1)) x0 x1 = laws_eqIntSS_x (run tb orc n) (fun x0 x1 v => (laws_eqIntSS_l1 (run tb orc n) n x0 x1 n) v) x0 x1  := by kernel_rfl
/-- loop.example/g00133/laws.eqIntSS -/
theorem laws_eqIntSS_eq (n : Nat) (x0 : List (List Int)) (x1 : List (List Int)) : c_laws_eqIntSS (run tb orc (n + 1)) x0 x1 = laws_eqIntSS_f n x0 x1 := by
  rw [laws_eqIntSS_r]
  rw [show (fun x0 x1 v => (laws_eqIntSS_l1 (run tb orc n) n x0 x1 n) v) = (fun x0 x1 v => iterO (laws_eqIntSS_g1 (run tb orc n) n x0 x1 ) n v) from by funext x0 x1 v; exact laws_eqIntSS_e1 n x0 x1 _ v]
  rfl
noncomputable def laws_eqRows_x (C0 : Ca tb) (x0_0 : Bool) (x0_1 : List (List Int)) (x1_0 : Bool) (x1_1 : List (List Int)) : Option Bool :=
  if (x0_0 != x1_0) = true then some (false) else (c_laws_eqIntSS C0 x0_1 x1_1).bind fun (d1 : Bool) => if (!d1) = true then some (false) else some (true)
noncomputable def laws_eqRows_f (n : Nat) (x0_0 : Bool) (x0_1 : List (List Int)) (x1_0 : Bool) (x1_1 : List (List Int)) : Option Bool :=
  laws_eqRows_x (run tb orc n) x0_0 x0_1 x1_0 x1_1 
theorem laws_eqRows_r (n : Nat) (x0_0 : Bool) (x0_1 : List (List Int)) (x1_0 : Bool) (x1_1 : List (List Int)) : c_laws_eqRows (run tb orc (n + 1)) x0_0 x0_1 x1_0 x1_1 = laws_eqRows_x (run tb orc n) x0_0 x0_1 x1_0 x1_1  := by kernel_rfl
/-- loop.example/g00133/laws.eqRows -/
theorem laws_eqRows_eq (n : Nat) (x0_0 : Bool) (x0_1 : List (List Int)) (x1_0 : Bool) (x1_1 : List (List Int)) : c_laws_eqRows (run tb orc (n + 1)) x0_0 x0_1 x1_0 x1_1 = laws_eqRows_f n x0_0 x0_1 x1_0 x1_1 := by
  rw [laws_eqRows_r]
  rfl
noncomputable def laws_toIntSS_x1 (C0 : Ca tb) (self1 : (Int × List (List Int)) → Option (List (List Int))) (x0 : List (List Int)) (v1 : Int × List (List Int)) : Option (List (List Int)) :=
  if v1.1 < (x0.length : Int) then (if 0 ≤ v1.1 then (if v1.1 < (x0.length : Int) then (c_laws_toIntS C0 (x0.getD v1.1.toNat [])).bind fun (d1 : List Int) => if 0 ≤ v1.1 then (if v1.1 < (v1.2.length : Int) then self1 (wr .i64 (v1.1 + (1:Int)), v1.2.set v1.1.toNat d1) else none) else none else none) else none) else some (v1.2)
noncomputable def laws_toIntSS_l1 (C0 : Ca tb) (N0 : Nat) (x0 : List (List Int)) (m : Nat) (v1 : Int × List (List Int)) : Option (List (List Int)) :=
  loopIt (exec tb C0 80 0 N0 (codeAt [1, 1, 0, 1, 0, 0] (bodyOf Tryd.f80))) (trim 0 [0, 3, 4] 1) (contAt tb C0 80 0 N0 [1, 1, 0, 1, 0] [] (bodyOf Tryd.f80) (finish tb 80 Tryd.f80)) m ⟨[.sl (.sl (.int .i64)) (x0), .top, .top, .osl 0 0, .int .i64 (v1.1), .top, .top, .top, .top, .top, .top, .top, .top, .top, .top, .top, .top, .top, .top, .top, .top, .top, .top], [.arr (.sl (.int .i64)) (v1.2) 0 true]⟩
noncomputable def laws_toIntSS_g1 (C0 : Ca tb) (N0 : Nat) (x0 : List (List Int)) (self1 : (Int × List (List Int)) → Option (List (List Int))) (v1 : Int × List (List Int)) : Option (List (List Int)) :=
  laws_toIntSS_x1 C0 self1 x0 v1
theorem laws_toIntSS_s1 (n : Nat) (x0 : List (List Int)) (m : Nat) (v1 : Int × List (List Int)) : (laws_toIntSS_l1 (run tb orc n) n x0 (m + 1)) v1 = laws_toIntSS_x1 (run tb orc n) (laws_toIntSS_l1 (run tb orc n) n x0 m) x0 v1 := by kernel_rfl
theorem laws_toIntSS_e1 (n : Nat) (x0 : List (List Int)) : ∀ (m : Nat) (v : Int × List (List Int)), (laws_toIntSS_l1 (run tb orc n) n x0 m) v = iterO (laws_toIntSS_g1 (run tb orc n) n x0 ) m v := by
  refine iterO_eq (fun _ => rfl) fun m v => ?_
  rw [laws_toIntSS_s1]
  rfl
noncomputable def laws_toIntSS_x (C0 : Ca tb) (inn1 : (List (List Int)) → (Int × List (List Int)) → Option (List (List Int))) (x0 : List (List Int)) : Option (List (List Int)) :=
  if 0 ≤ (x0.length : Int) then (if limB (x0.length : Int).toNat = true then (inn1 x0 ((0:Int), List.replicate (x0.length : Int).toNat [])) else none) else none
noncomputable def laws_toIntSS_f (n : Nat) (x0 : List (List Int)) : Option (List (List Int)) :=
  laws_toIntSS_x (run tb orc n) (fun x0 v => iterO (laws_toIntSS_g1 (run tb orc n) n x0 ) n v) x0 
theorem laws_toIntSS_r (n : Nat) (x0 : List (List Int)) : c_laws_toIntSS (run tb orc (n + 1)) x0 = laws_toIntSS_x (run tb orc n) (fun x0 v => (laws_toIntSS_l1 (run tb orc n) n x0 n) v) x0  := by kernel_rfl
/-- loop.example/g00133/laws.toIntSS -/
theorem laws_toIntSS_eq (n : Nat) (x0 : List (List Int)) : c_laws_toIntSS (run tb orc (n + 1)) x0 = laws_toIntSS_f n x0 := by
  rw [laws_toIntSS_r]
  rw [show (fun x0 v => (laws_toIntSS_l1 (run tb orc n) n x0 n) v) = (fun x0 v => iterO (laws_toIntSS_g1 (run tb orc n) n x0 ) n v) from by funext x0 v; exact laws_toIntSS_e1 n x0 _ v]
  rfl
noncomputable def laws_toRows_x (C0 : Ca tb) (x0_0 : Bool) (x0_1 : List (List Int)) : Option (Bool × List (List Int)) :=
  (c_laws_toIntSS C0 x0_1).bind fun (d1 : List (List Int)) => some ((x0_0, d1))
noncomputable def laws_toRows_f (n : Nat) (x0_0 : Bool) (x0_1 : List (List Int)) : Option (Bool × List (List Int)) :=
  laws_toRows_x (run tb orc n) x0_0 x0_1 
theorem laws_toRows_r (n : Nat) (x0_0 : Bool) (x0_1 : List (List Int)) : c_laws_toRows (run tb orc (n + 1)) x0_0 x0_1 = laws_toRows_x (run tb orc n) x0_0 x0_1  := by kernel_rfl
/-- loop.example/g00133/laws.toRows -/
theorem laws_toRows_eq (n : Nat) (x0_0 : Bool) (x0_1 : List (List Int)) : c_laws_toRows (run tb orc (n + 1)) x0_0 x0_1 = laws_toRows_f n x0_0 x0_1 := by
  rw [laws_toRows_r]
  rfl
noncomputable def laws_szIntSS_x1 (C0 : Ca tb) (self1 : (Int × Int) → Option Int) (x0 : List (List Int)) (v1 : Int × Int) : Option Int :=
  if v1.2 < (x0.length : Int) then (if 0 ≤ v1.2 then (if v1.2 < (x0.length : Int) then (c_laws_szIntS C0 (x0.getD v1.2.toNat []) v1.1).bind fun (d1 : Int) => if d1 < (0:Int) then some ((-1:Int)) else self1 (d1, wr .i64 (v1.2 + (1:Int))) else none) else none) else some (v1.1)
noncomputable def laws_szIntSS_l1 (C0 : Ca tb) (N0 : Nat) (x0 : List (List Int)) (m : Nat) (v1 : Int × Int) : Option Int :=
  loopIt (exec tb C0 77 0 N0 (codeAt [1, 1, 1, 0, 1, 0, 0] (bodyOf Tryd.f77))) (trim 0 [0, 1, 5] 0) (contAt tb C0 77 0 N0 [1, 1, 1, 0, 1, 0] [] (bodyOf Tryd.f77) (finish tb 77 Tryd.f77)) m ⟨[.sl (.sl (.int .i64)) (x0), .int .i64 (v1.1), .top, .top, .top, .int .i64 (v1.2), .top, .top, .top, .top, .top, .top, .top, .top, .top, .top, .top, .top, .top, .top, .top, .top, .top, .top, .top, .top, .top], []⟩
noncomputable def laws_szIntSS_g1 (C0 : Ca tb) (N0 : Nat) (x0 : List (List Int)) (self1 : (Int × Int) → Option Int) (v1 : Int × Int) : Option Int :=
  laws_szIntSS_x1 C0 self1 x0 v1
theorem laws_szIntSS_s1 (n : Nat) (x0 : List (List Int)) (m : Nat) (v1 : Int × Int) : (laws_szIntSS_l1 (run tb orc n) n x0 (m + 1)) v1 = laws_szIntSS_x1 (run tb orc n) (laws_szIntSS_l1 (run tb orc n) n x0 m) x0 v1 := by kernel_rfl
theorem laws_szIntSS_e1 (n : Nat) (x0 : List (List Int)) : ∀ (m : Nat) (v : Int × Int), (laws_szIntSS_l1 (run tb orc n) n x0 m) v = iterO (laws_szIntSS_g1 (run tb orc n) n x0 ) m v := by
  refine iterO_eq (fun _ => rfl) fun m v => ?_
  rw [laws_szIntSS_s1]
  rfl
noncomputable def laws_szIntSS_x (C0 : Ca tb) (inn1 : (List (List Int)) → (Int × Int) → Option Int) (x0 : List (List Int)) (x1 : Int) : Option Int :=
  if wr .i64 (x1 - (x0.length : Int)) < (0:Int) then some ((-1:Int)) else inn1 x0 (wr .i64 (x1 - (x0.length : Int)), (0:Int))
noncomputable def laws_szIntSS_f (n : Nat) (x0 : List (List Int)) (x1 : Int) : Option Int :=
  laws_szIntSS_x (run tb orc n) (fun x0 v => iterO (laws_szIntSS_g1 (run tb orc n) n x0 ) n v) x0 x1 
theorem laws_szIntSS_r (n : Nat) (x0 : List (List Int)) (x1 : Int) : c_laws_szIntSS (run tb orc (n + 1)) x0 x1 = laws_szIntSS_x (run tb orc n) (fun x0 v => (laws_szIntSS_l1 (run tb orc n) n x0 n) v) x0 x1  := by kernel_rfl
/-- loop.example/g00133/laws.szIntSS -/
theorem laws_szIntSS_eq (n : Nat) (x0 : List (List Int)) (x1 : Int) : c_laws_szIntSS (run tb orc (n + 1)) x0 x1 = laws_szIntSS_f n x0 x1 := by
  rw [laws_szIntSS_r]
  rw [show (fun x0 v => (laws_szIntSS_l1 (run tb orc n) n x0 n) v) = (fun x0 v => iterO (laws_szIntSS_g1 (run tb orc n) n x0 ) n v) from by funext x0 v; exact laws_szIntSS_e1 n x0 _ v]
  rfl
noncomputable def laws_szRows_x (C0 : Ca tb) (x0_0 : Bool) (x0_1 : List (List Int)) (x1 : Int) : Option Int :=
  (c_laws_szIntSS C0 x0_1 x1).bind fun (d1 : Int) => if d1 < (0:Int) then some ((-1:Int)) else some (d1)
noncomputable def laws_szRows_f (n : Nat) (x0_0 : Bool) (x0_1 : List (List Int)) (x1 : Int) : Option Int :=
  laws_szRows_x (run tb orc n) x0_0 x0_1 x1 
theorem laws_szRows_r (n : Nat) (x0_0 : Bool) (x0_1 : List (List Int)) (x1 : Int) : c_laws_szRows (run tb orc (n + 1)) x0_0 x0_1 x1 = laws_szRows_x (run tb orc n) x0_0 x0_1 x1  := by kernel_rfl
/-- loop.example/g00133/laws.szRows -/
theorem laws_szRows_eq (n : Nat) (x0_0 : Bool) (x0_1 : List (List Int)) (x1 : Int) : c_laws_szRows (run tb orc (n + 1)) x0_0 x0_1 x1 = laws_szRows_f n x0_0 x0_1 x1 := by
  rw [laws_szRows_r]
  rfl
noncomputable def laws_eqSpace_x (C0 : Ca tb) (x0_0 : Int) (x0_1 : List Int) (x1_0 : Int) (x1_1 : List Int) : Option Bool :=
  if x0_0 = x1_0 then (c_laws_eqIntS C0 x0_1 x1_1).bind fun (d1 : Bool) => if (!d1) = true then some (false) else some (true) else some (false)
noncomputable def laws_eqSpace_f (n : Nat) (x0_0 : Int) (x0_1 : List Int) (x1_0 : Int) (x1_1 : List Int) : Option Bool :=
  laws_eqSpace_x (run tb orc n) x0_0 x0_1 x1_0 x1_1 
theorem laws_eqSpace_r (n : Nat) (x0_0 : Int) (x0_1 : List Int) (x1_0 : Int) (x1_1 : List Int) : c_laws_eqSpace (run tb orc (n + 1)) x0_0 x0_1 x1_0 x1_1 = laws_eqSpace_x (run tb orc n) x0_0 x0_1 x1_0 x1_1  := by kernel_rfl
/-- loop.example/g00133/laws.eqSpace -/
theorem laws_eqSpace_eq (n : Nat) (x0_0 : Int) (x0_1 : List Int) (x1_0 : Int) (x1_1 : List Int) : c_laws_eqSpace (run tb orc (n + 1)) x0_0 x0_1 x1_0 x1_1 = laws_eqSpace_f n x0_0 x0_1 x1_0 x1_1 := by
  rw [laws_eqSpace_r]
  rfl
noncomputable def laws_toSpace_x (C0 : Ca tb) (x0_0 : Int) (x0_1 : List Int) : Option (Int × List Int) :=
  (c_laws_toIntS C0 x0_1).bind fun (d1 : List Int) => some ((x0_0, d1))
noncomputable def laws_toSpace_f (n : Nat) (x0_0 : Int) (x0_1 : List Int) : Option (Int × List Int) :=
  laws_toSpace_x (run tb orc n) x0_0 x0_1 
theorem laws_toSpace_r (n : Nat) (x0_0 : Int) (x0_1 : List Int) : c_laws_toSpace (run tb orc (n + 1)) x0_0 x0_1 = laws_toSpace_x (run tb orc n) x0_0 x0_1  := by kernel_rfl
/-- loop.example/g00133/laws.toSpace -/
theorem laws_toSpace_eq (n : Nat) (x0_0 : Int) (x0_1 : List Int) : c_laws_toSpace (run tb orc (n + 1)) x0_0 x0_1 = laws_toSpace_f n x0_0 x0_1 := by
  rw [laws_toSpace_r]
  rfl
noncomputable def laws_szSpace_x (C0 : Ca tb) (x0_0 : Int) (x0_1 : List Int) (x1 : Int) : Option Int :=
  (c_laws_szIntS C0 x0_1 x1).bind fun (d1 : Int) => if d1 < (0:Int) then some ((-1:Int)) else some (d1)
noncomputable def laws_szSpace_f (n : Nat) (x0_0 : Int) (x0_1 : List Int) (x1 : Int) : Option Int :=
  laws_szSpace_x (run tb orc n) x0_0 x0_1 x1 
theorem laws_szSpace_r (n : Nat) (x0_0 : Int) (x0_1 : List Int) (x1 : Int) : c_laws_szSpace (run tb orc (n + 1)) x0_0 x0_1 x1 = laws_szSpace_x (run tb orc n) x0_0 x0_1 x1  := by kernel_rfl
/-- loop.example/g00133/laws.szSpace -/
theorem laws_szSpace_eq (n : Nat) (x0_0 : Int) (x0_1 : List Int) (x1 : Int) : c_laws_szSpace (run tb orc (n + 1)) x0_0 x0_1 x1 = laws_szSpace_f n x0_0 x0_1 x1 := by
  rw [laws_szSpace_r]
  rfl
end Go.Proofs.YthanbjnpfenniaaDoor.Fw
