/- The functions' equations over the interpreter. Printed by fwgen.py. -/
import Derived.Test.YthanbjnpfenniaaDoorFwZf
import Derived.Test.YthanbjnpfenniaaDoorFwTok
import Derived.Test.YthanbjnpfenniaaDoorFwOrc
import Derived.KernelRfl
import Derived.Lib.Tables
namespace Go.Proofs.YthanbjnpfenniaaDoor.Fw
open Go Go.RowKit
set_option linter.unusedVariables false
set_option maxRecDepth 100000
noncomputable def c_impl_timesW (C : Ca tb) (x0_0 : Bool) (x0_1 : List Int) (x1 : Int) : Option (Bool × List Int) := C.pure 146 [.agg [.bool (x0_0), .sl (.int .i64) (x0_1)], .int .i64 (x1)]
noncomputable def c_impl_mulW (C : Ca tb) (x0_0 : Bool) (x0_1 : List Int) (x1_0 : Bool) (x1_1 : List Int) : Option (Bool × List Int) := C.pure 184 [.agg [.bool (x0_0), .sl (.int .i64) (x0_1)], .agg [.bool (x1_0), .sl (.int .i64) (x1_1)]]
noncomputable def c_impl_trimmed (C : Ca tb) (x0 : Bool) (x1 : List Int) : Option (Bool × List Int) := C.pure 195 [.bool (x0), .sl (.int .i64) (x1)]
noncomputable def c_impl_wholeOf (C : Ca tb) (x0 : Int) : Option (Bool × List Int) := C.pure 145 [.int .i64 (x0)]
noncomputable def c_spec_l2Of (C : Ca tb) (x0 : Int) : Option (List Int) := C.pure 143 [.int .i64 (x0)]
noncomputable def c_spec_l2Mul (C : Ca tb) (x0 : List Int) (x1 : List Int) : Option (List Int) := C.pure 142 [.sl (.int .i64) (x0), .sl (.int .i64) (x1)]
noncomputable def c_spec_l2Trim (C : Ca tb) (x0 : List Int) : Option (List Int) := C.pure 181 [.sl (.int .i64) (x0)]
noncomputable def impl_wholeOf_x1 (C0 : Ca tb) (self1 : (Int × List Int) → Option (Bool × List Int)) (x0 : Int) (v1 : Int × List Int) : Option (Bool × List Int) :=
  if v1.1 > (0:Int) then (if v1.2.length + ([wr .i64 (Go.bits .and .u64 v1.1 (268435455:Int))]).length < lim then (if (28:Int) < 0 then none else self1 (shr .u64 v1.1 (28:Int), v1.2 ++ ([wr .i64 (Go.bits .and .u64 v1.1 (268435455:Int))]))) else none) else some ((decide (x0 < (0:Int)), v1.2))
noncomputable def impl_wholeOf_l1 (C0 : Ca tb) (N0 : Nat) (x0 : Int) (m : Nat) (v1 : Int × List Int) : Option (Bool × List Int) :=
  loopIt (exec tb C0 145 0 N0 (codeAt [1, 1, 1, 0, 0, 0] (bodyOf Tryd.f145))) (trim 0 [0, 2, 3, 4] 2) (contAt tb C0 145 0 N0 [1, 1, 1, 0, 0] [] (bodyOf Tryd.f145) (finish tb 145 Tryd.f145)) m ⟨[.int .i64 (x0), .top, .bptr 0 0, .osl 1 0, .int .u64 (v1.1), .top, .top, .top, .top, .top, .top, .top, .top, .top, .top, .top, .top, .top, .top, .top, .top, .top, .top, .top, .top, .top], [.box [.bool (false), .zsl], .arr (.int .i64) (v1.2) 0 true]⟩
noncomputable def impl_wholeOf_x2 (C0 : Ca tb) (self2 : (Int × List Int) → Option (Bool × List Int)) (x0 : Int) (v2 : Int × List Int) : Option (Bool × List Int) :=
  if v2.1 > (0:Int) then (if v2.2.length + ([wr .i64 (Go.bits .and .u64 v2.1 (268435455:Int))]).length < lim then (if (28:Int) < 0 then none else self2 (shr .u64 v2.1 (28:Int), v2.2 ++ ([wr .i64 (Go.bits .and .u64 v2.1 (268435455:Int))]))) else none) else some ((decide (x0 < (0:Int)), v2.2))
noncomputable def impl_wholeOf_l2 (C0 : Ca tb) (N0 : Nat) (x0 : Int) (m : Nat) (v2 : Int × List Int) : Option (Bool × List Int) :=
  loopIt (exec tb C0 145 0 N0 (codeAt [1, 1, 1, 0, 0, 0] (bodyOf Tryd.f145))) (trim 0 [0, 2, 3, 4] 2) (contAt tb C0 145 0 N0 [1, 1, 1, 0, 0] [] (bodyOf Tryd.f145) (finish tb 145 Tryd.f145)) m ⟨[.int .i64 (x0), .top, .bptr 0 0, .osl 1 0, .int .u64 (v2.1), .top, .top, .top, .top, .top, .top, .top, .top, .top, .top, .top, .top, .top, .top, .top, .top, .top, .top, .top, .top, .top], [.box [.bool (false), .zsl], .arr (.int .i64) (v2.2) 0 true]⟩
noncomputable def impl_wholeOf_g1 (C0 : Ca tb) (N0 : Nat) (x0 : Int) (self1 : (Int × List Int) → Option (Bool × List Int)) (v1 : Int × List Int) : Option (Bool × List Int) :=
  impl_wholeOf_x1 C0 self1 x0 v1
noncomputable def impl_wholeOf_g2 (C0 : Ca tb) (N0 : Nat) (x0 : Int) (self2 : (Int × List Int) → Option (Bool × List Int)) (v2 : Int × List Int) : Option (Bool × List Int) :=
  impl_wholeOf_x2 C0 self2 x0 v2
theorem impl_wholeOf_s1 (n : Nat) (x0 : Int) (m : Nat) (v1 : Int × List Int) : (impl_wholeOf_l1 (run tb orc n) n x0 (m + 1)) v1 = impl_wholeOf_x1 (run tb orc n) (impl_wholeOf_l1 (run tb orc n) n x0 m) x0 v1 := by kernel_rfl
theorem impl_wholeOf_e1 (n : Nat) (x0 : Int) : ∀ (m : Nat) (v : Int × List Int), (impl_wholeOf_l1 (run tb orc n) n x0 m) v = iterO (impl_wholeOf_g1 (run tb orc n) n x0 ) m v := by
  refine iterO_eq (fun _ => rfl) fun m v => ?_
  rw [impl_wholeOf_s1]
  rfl
theorem impl_wholeOf_s2 (n : Nat) (x0 : Int) (m : Nat) (v2 : Int × List Int) : (impl_wholeOf_l2 (run tb orc n) n x0 (m + 1)) v2 = impl_wholeOf_x2 (run tb orc n) (impl_wholeOf_l2 (run tb orc n) n x0 m) x0 v2 := by kernel_rfl
theorem impl_wholeOf_e2 (n : Nat) (x0 : Int) : ∀ (m : Nat) (v : Int × List Int), (impl_wholeOf_l2 (run tb orc n) n x0 m) v = iterO (impl_wholeOf_g2 (run tb orc n) n x0 ) m v := by
  refine iterO_eq (fun _ => rfl) fun m v => ?_
  rw [impl_wholeOf_s2]
  rfl
noncomputable def impl_wholeOf_x (C0 : Ca tb) (inn1 : (Int) → (Int × List Int) → Option (Bool × List Int)) (inn2 : (Int) → (Int × List Int) → Option (Bool × List Int)) (x0 : Int) : Option (Bool × List Int) :=
  if x0 < (0:Int) then inn1 x0 (wr .u64 (0 - (wr .u64 (x0))), []) else inn2 x0 (wr .u64 (x0), [])
noncomputable def impl_wholeOf_f (n : Nat) (x0 : Int) : Option (Bool × List Int) :=
  impl_wholeOf_x (run tb orc n) (fun x0 v => iterO (impl_wholeOf_g1 (run tb orc n) n x0 ) n v) (fun x0 v => iterO (impl_wholeOf_g2 (run tb orc n) n x0 ) n v) x0 
theorem impl_wholeOf_r (n : Nat) (x0 : Int) : c_impl_wholeOf (run tb orc (n + 1)) x0 = impl_wholeOf_x (run tb orc n) (fun x0 v => (impl_wholeOf_l1 (run tb orc n) n x0 n) v) (fun x0 v => (impl_wholeOf_l2 (run tb orc n) n x0 n) v) x0  := by kernel_rfl
/-- loop.example/g00133/impl.wholeOf -/
theorem impl_wholeOf_eq (n : Nat) (x0 : Int) : c_impl_wholeOf (run tb orc (n + 1)) x0 = impl_wholeOf_f n x0 := by
  rw [impl_wholeOf_r]
  rw [show (fun x0 v => (impl_wholeOf_l1 (run tb orc n) n x0 n) v) = (fun x0 v => iterO (impl_wholeOf_g1 (run tb orc n) n x0 ) n v) from by funext x0 v; exact impl_wholeOf_e1 n x0 _ v]
  rw [show (fun x0 v => (impl_wholeOf_l2 (run tb orc n) n x0 n) v) = (fun x0 v => iterO (impl_wholeOf_g2 (run tb orc n) n x0 ) n v) from by funext x0 v; exact impl_wholeOf_e2 n x0 _ v]
  rfl
noncomputable def impl_trimmed_x1 (C0 : Ca tb) (self1 : (Int) → Option (Bool × List Int)) (x0 : Bool) (x1 : List Int) (v1 : Int) : Option (Bool × List Int) :=
  if v1 > (0:Int) then (if 0 ≤ wr .i64 (v1 - (1:Int)) then (if wr .i64 (v1 - (1:Int)) < (x1.length : Int) then (if x1.getD (wr .i64 (v1 - (1:Int))).toNat (0:Int) = (0:Int) then self1 (wr .i64 (v1 - (1:Int))) else if (x0) = true then (if 0 ≤ (0:Int) then (if (0:Int) ≤ v1 then (if v1 ≤ v1 then (if v1 ≤ (x1.length : Int) then (some ((decide (v1 > (0:Int)), (x1.take v1.toNat).drop (0:Int).toNat))) else none) else none) else none) else none) else if 0 ≤ (0:Int) then (if (0:Int) ≤ v1 then (if v1 ≤ v1 then (if v1 ≤ (x1.length : Int) then (some ((false, (x1.take v1.toNat).drop (0:Int).toNat))) else none) else none) else none) else none) else none) else none) else if (x0) = true then (if 0 ≤ (0:Int) then (if (0:Int) ≤ v1 then (if v1 ≤ v1 then (if v1 ≤ (x1.length : Int) then (some ((decide (v1 > (0:Int)), (x1.take v1.toNat).drop (0:Int).toNat))) else none) else none) else none) else none) else if 0 ≤ (0:Int) then (if (0:Int) ≤ v1 then (if v1 ≤ v1 then (if v1 ≤ (x1.length : Int) then (some ((false, (x1.take v1.toNat).drop (0:Int).toNat))) else none) else none) else none) else none
noncomputable def impl_trimmed_l1 (C0 : Ca tb) (N0 : Nat) (x0 : Bool) (x1 : List Int) (m : Nat) (v1 : Int) : Option (Bool × List Int) :=
  loopIt (exec tb C0 195 0 N0 (codeAt [1, 1, 0, 0, 0] (bodyOf Tryd.f195))) (trim 0 [0, 1, 4, 5] 1) (contAt tb C0 195 0 N0 [1, 1, 0, 0] [] (bodyOf Tryd.f195) (finish tb 195 Tryd.f195)) m ⟨[.bool (x0), .sl (.int .i64) (x1), .top, .top, .bptr 0 0, .int .i64 (v1), .top, .top, .top, .top, .top, .top, .top, .top, .top, .top, .top, .top, .top, .top, .top, .top, .top, .top, .top, .top, .top, .top, .top, .top], [.box [.bool (false), .zsl]]⟩
noncomputable def impl_trimmed_g1 (C0 : Ca tb) (N0 : Nat) (x0 : Bool) (x1 : List Int) (self1 : (Int) → Option (Bool × List Int)) (v1 : Int) : Option (Bool × List Int) :=
  impl_trimmed_x1 C0 self1 x0 x1 v1
theorem impl_trimmed_s1 (n : Nat) (x0 : Bool) (x1 : List Int) (m : Nat) (v1 : Int) : (impl_trimmed_l1 (run tb orc n) n x0 x1 (m + 1)) v1 = impl_trimmed_x1 (run tb orc n) (impl_trimmed_l1 (run tb orc n) n x0 x1 m) x0 x1 v1 := by kernel_rfl
theorem impl_trimmed_e1 (n : Nat) (x0 : Bool) (x1 : List Int) : ∀ (m : Nat) (v : Int), (impl_trimmed_l1 (run tb orc n) n x0 x1 m) v = iterO (impl_trimmed_g1 (run tb orc n) n x0 x1 ) m v := by
  refine iterO_eq (fun _ => rfl) fun m v => ?_
  rw [impl_trimmed_s1]
  rfl
noncomputable def impl_trimmed_x (C0 : Ca tb) (inn1 : (Bool) → (List Int) → (Int) → Option (Bool × List Int)) (x0 : Bool) (x1 : List Int) : Option (Bool × List Int) :=
  inn1 x0 x1 ((x1.length : Int))
noncomputable def impl_trimmed_f (n : Nat) (x0 : Bool) (x1 : List Int) : Option (Bool × List Int) :=
  impl_trimmed_x (run tb orc n) (fun x0 x1 v => iterO (impl_trimmed_g1 (run tb orc n) n x0 x1 ) n v) x0 x1 
theorem impl_trimmed_r (n : Nat) (x0 : Bool) (x1 : List Int) : c_impl_trimmed (run tb orc (n + 1)) x0 x1 = impl_trimmed_x (run tb orc n) (fun x0 x1 v => (impl_trimmed_l1 (run tb orc n) n x0 x1 n) v) x0 x1  := by kernel_rfl
/-- loop.example/g00133/impl.trimmed -/
theorem impl_trimmed_eq (n : Nat) (x0 : Bool) (x1 : List Int) : c_impl_trimmed (run tb orc (n + 1)) x0 x1 = impl_trimmed_f n x0 x1 := by
  rw [impl_trimmed_r]
  rw [show (fun x0 x1 v => (impl_trimmed_l1 (run tb orc n) n x0 x1 n) v) = (fun x0 x1 v => iterO (impl_trimmed_g1 (run tb orc n) n x0 x1 ) n v) from by funext x0 x1 v; exact impl_trimmed_e1 n x0 x1 _ v]
  rfl
noncomputable def impl_mulW_x2 (C0 : Ca tb) (self1 : (Int × List Int) → Option (Bool × List Int)) (self2 : (Int × Int × List Int) → Option (Bool × List Int)) (x0_0 : Bool) (x0_1 : List Int) (x1_0 : Bool) (x1_1 : List Int) (v1 : Int × List Int) (v2 : Int × Int × List Int) : Option (Bool × List Int) :=
  if v2.2.1 < (x1_1.length : Int) then (if 0 ≤ v2.2.1 then (if v2.2.1 < (x1_1.length : Int) then (if 0 ≤ wr .i64 (v1.1 + v2.2.1) then (if wr .i64 (v1.1 + v2.2.1) < (v2.2.2.length : Int) then (if 0 ≤ wr .i64 (v1.1 + v2.2.1) then (if wr .i64 (v1.1 + v2.2.1) < (v2.2.2.length : Int) then (if (28:Int) < 0 then none else self2 (shr .i64 (wr .i64 (v2.1 + (wr .i64 ((v2.2.2.getD ((wr .i64 (v1.1 + v2.2.1)).toNat) (0:Int)) + (wr .i64 ((x0_1.getD v1.1.toNat (0:Int)) * (x1_1.getD v2.2.1.toNat (0:Int)))))))) (28:Int), wr .i64 (v2.2.1 + (1:Int)), v2.2.2.set ((wr .i64 (v1.1 + v2.2.1)).toNat) (Go.bits .and .i64 (wr .i64 (v2.1 + (wr .i64 ((v2.2.2.getD ((wr .i64 (v1.1 + v2.2.1)).toNat) (0:Int)) + (wr .i64 ((x0_1.getD v1.1.toNat (0:Int)) * (x1_1.getD v2.2.1.toNat (0:Int)))))))) (268435455:Int)))) else none) else none) else none) else none) else none) else none) else if 0 ≤ wr .i64 (v1.1 + (x1_1.length : Int)) then (if wr .i64 (v1.1 + (x1_1.length : Int)) < (v2.2.2.length : Int) then self1 (wr .i64 (v1.1 + (1:Int)), v2.2.2.set ((wr .i64 (v1.1 + (x1_1.length : Int))).toNat) v2.1) else none) else none
noncomputable def impl_mulW_l2 (C0 : Ca tb) (N0 : Nat) (m1 : Nat) (x0_0 : Bool) (x0_1 : List Int) (x1_0 : Bool) (x1_1 : List Int) (v1 : Int × List Int) (m : Nat) (v2 : Int × Int × List Int) : Option (Bool × List Int) :=
  loopIt (exec tb C0 184 0 N0 (codeAt [1, 1, 0, 1, 0, 0, 1, 1, 0, 0, 1, 1, 0, 1, 0, 0] (bodyOf Tryd.f184))) (trim 0 [2, 3, 4, 5, 6, 7, 8, 20, 21, 22, 28, 29, 30] 4) (contAt tb C0 184 0 N0 [1, 1, 0, 1, 0, 0, 1, 1, 0, 0, 1, 1, 0, 1, 0] [(m1, trim 0 [2, 3, 4, 5, 20, 21, 22] 4)] (bodyOf Tryd.f184) (finish tb 184 Tryd.f184)) m ⟨[.top, .top, .bptr 0 0, .bptr 1 0, .bptr 2 0, .osl 3 0, .int .i64 (v1.1), .int .i64 (x0_1.getD v1.1.toNat (0:Int)), .int .i64 (v2.1), .top, .top, .top, .top, .top, .top, .top, .top, .top, .top, .top, .sl (.int .i64) (x0_1), .int .i64 ((x0_1.length : Int)), .int .i64 (v1.1), .top, .top, .top, .top, .top, .sl (.int .i64) (x1_1), .int .i64 ((x1_1.length : Int)), .int .i64 (v2.2.1), .top, .top, .top, .top, .top, .top, .top, .top, .top, .top, .top, .top, .top, .top, .top, .top, .top, .top, .top, .top, .top, .top, .top, .top, .top, .top, .top, .top, .top, .top, .top, .top, .top, .top, .top, .top, .top, .top, .top, .top, .top, .top], [.box [.bool (x0_0), .sl (.int .i64) (x0_1)], .box [.bool (x1_0), .sl (.int .i64) (x1_1)], .box [.bool (false), .zsl], .arr (.int .i64) (v2.2.2) 0 true]⟩
noncomputable def impl_mulW_x1 (C0 : Ca tb) (self1 : (Int × List Int) → Option (Bool × List Int)) (inn2 : (Bool) → (List Int) → (Bool) → (List Int) → (Int × List Int) → (Int × Int × List Int) → Option (Bool × List Int)) (x0_0 : Bool) (x0_1 : List Int) (x1_0 : Bool) (x1_1 : List Int) (v1 : Int × List Int) : Option (Bool × List Int) :=
  if v1.1 < (x0_1.length : Int) then (if 0 ≤ v1.1 then (if v1.1 < (x0_1.length : Int) then inn2 x0_0 x0_1 x1_0 x1_1 v1 ((0:Int), (0:Int), v1.2) else none) else none) else (c_impl_trimmed C0 (x0_0 != x1_0) v1.2).bind fun (d1 : Bool × List Int) => some ((d1.1, d1.2))
noncomputable def impl_mulW_l1 (C0 : Ca tb) (N0 : Nat) (x0_0 : Bool) (x0_1 : List Int) (x1_0 : Bool) (x1_1 : List Int) (m : Nat) (v1 : Int × List Int) : Option (Bool × List Int) :=
  loopIt (exec tb C0 184 0 N0 (codeAt [1, 1, 0, 1, 0, 0] (bodyOf Tryd.f184))) (trim 0 [2, 3, 4, 5, 20, 21, 22] 4) (contAt tb C0 184 0 N0 [1, 1, 0, 1, 0] [] (bodyOf Tryd.f184) (finish tb 184 Tryd.f184)) m ⟨[.top, .top, .bptr 0 0, .bptr 1 0, .bptr 2 0, .osl 3 0, .top, .top, .top, .top, .top, .top, .top, .top, .top, .top, .top, .top, .top, .top, .sl (.int .i64) (x0_1), .int .i64 ((x0_1.length : Int)), .int .i64 (v1.1), .top, .top, .top, .top, .top, .top, .top, .top, .top, .top, .top, .top, .top, .top, .top, .top, .top, .top, .top, .top, .top, .top, .top, .top, .top, .top, .top, .top, .top, .top, .top, .top, .top, .top, .top, .top, .top, .top, .top, .top, .top, .top, .top, .top, .top, .top, .top, .top, .top, .top], [.box [.bool (x0_0), .sl (.int .i64) (x0_1)], .box [.bool (x1_0), .sl (.int .i64) (x1_1)], .box [.bool (false), .zsl], .arr (.int .i64) (v1.2) 0 true]⟩
noncomputable def impl_mulW_g2 (C0 : Ca tb) (N0 : Nat) (self1 : (Int × List Int) → Option (Bool × List Int)) (x0_0 : Bool) (x0_1 : List Int) (x1_0 : Bool) (x1_1 : List Int) (v1 : Int × List Int) (self2 : (Int × Int × List Int) → Option (Bool × List Int)) (v2 : Int × Int × List Int) : Option (Bool × List Int) :=
  impl_mulW_x2 C0 self1 self2 x0_0 x0_1 x1_0 x1_1 v1 v2
noncomputable def impl_mulW_g1 (C0 : Ca tb) (N0 : Nat) (x0_0 : Bool) (x0_1 : List Int) (x1_0 : Bool) (x1_1 : List Int) (self1 : (Int × List Int) → Option (Bool × List Int)) (v1 : Int × List Int) : Option (Bool × List Int) :=
  impl_mulW_x1 C0 self1 (fun x0_0 x0_1 x1_0 x1_1 v1 v => iterO (impl_mulW_g2 C0 N0 self1 x0_0 x0_1 x1_0 x1_1 v1 ) N0 v) x0_0 x0_1 x1_0 x1_1 v1
theorem impl_mulW_s2 (n : Nat) (m1 : Nat) (x0_0 : Bool) (x0_1 : List Int) (x1_0 : Bool) (x1_1 : List Int) (v1 : Int × List Int) (m : Nat) (v2 : Int × Int × List Int) : (impl_mulW_l2 (run tb orc n) n m1 x0_0 x0_1 x1_0 x1_1 v1 (m + 1)) v2 = impl_mulW_x2 (run tb orc n) (impl_mulW_l1 (run tb orc n) n x0_0 x0_1 x1_0 x1_1 m1) (impl_mulW_l2 (run tb orc n) n m1 x0_0 x0_1 x1_0 x1_1 v1 m) x0_0 x0_1 x1_0 x1_1 v1 v2 := by kernel_rfl
theorem impl_mulW_e2 (n : Nat) (m1 : Nat) (x0_0 : Bool) (x0_1 : List Int) (x1_0 : Bool) (x1_1 : List Int) (v1 : Int × List Int) : ∀ (m : Nat) (v : Int × Int × List Int), (impl_mulW_l2 (run tb orc n) n m1 x0_0 x0_1 x1_0 x1_1 v1 m) v = iterO (impl_mulW_g2 (run tb orc n) n (impl_mulW_l1 (run tb orc n) n x0_0 x0_1 x1_0 x1_1 m1) x0_0 x0_1 x1_0 x1_1 v1 ) m v := by
  refine iterO_eq (fun _ => rfl) fun m v => ?_
  rw [impl_mulW_s2]
  rfl
theorem impl_mulW_s1 (n : Nat) (x0_0 : Bool) (x0_1 : List Int) (x1_0 : Bool) (x1_1 : List Int) (m : Nat) (v1 : Int × List Int) : (impl_mulW_l1 (run tb orc n) n x0_0 x0_1 x1_0 x1_1 (m + 1)) v1 = impl_mulW_x1 (run tb orc n) (impl_mulW_l1 (run tb orc n) n x0_0 x0_1 x1_0 x1_1 m) (fun x0_0 x0_1 x1_0 x1_1 v1 v => (impl_mulW_l2 (run tb orc n) n m x0_0 x0_1 x1_0 x1_1 v1 n) v) x0_0 x0_1 x1_0 x1_1 v1 := by kernel_rfl
theorem impl_mulW_e1 (n : Nat) (x0_0 : Bool) (x0_1 : List Int) (x1_0 : Bool) (x1_1 : List Int) : ∀ (m : Nat) (v : Int × List Int), (impl_mulW_l1 (run tb orc n) n x0_0 x0_1 x1_0 x1_1 m) v = iterO (impl_mulW_g1 (run tb orc n) n x0_0 x0_1 x1_0 x1_1 ) m v := by
  refine iterO_eq (fun _ => rfl) fun m v => ?_
  rw [impl_mulW_s1]
  rw [show (fun x0_0 x0_1 x1_0 x1_1 v1 v => (impl_mulW_l2 (run tb orc n) n m x0_0 x0_1 x1_0 x1_1 v1 n) v) = (fun x0_0 x0_1 x1_0 x1_1 v1 v => iterO (impl_mulW_g2 (run tb orc n) n (impl_mulW_l1 (run tb orc n) n x0_0 x0_1 x1_0 x1_1 m) x0_0 x0_1 x1_0 x1_1 v1 ) n v) from by funext x0_0 x0_1 x1_0 x1_1 v1 v; exact impl_mulW_e2 n m x0_0 x0_1 x1_0 x1_1 v1 _ v]
  unfold impl_mulW_g1 impl_mulW_x1
  rfl
noncomputable def impl_mulW_x (C0 : Ca tb) (inn1 : (Bool) → (List Int) → (Bool) → (List Int) → (Int × List Int) → Option (Bool × List Int)) (x0_0 : Bool) (x0_1 : List Int) (x1_0 : Bool) (x1_1 : List Int) : Option (Bool × List Int) :=
  if 0 ≤ wr .i64 ((x0_1.length : Int) + (x1_1.length : Int)) then (if limB (wr .i64 ((x0_1.length : Int) + (x1_1.length : Int))).toNat = true then (inn1 x0_0 x0_1 x1_0 x1_1 ((0:Int), List.replicate (wr .i64 ((x0_1.length : Int) + (x1_1.length : Int))).toNat (0:Int))) else none) else none
noncomputable def impl_mulW_f (n : Nat) (x0_0 : Bool) (x0_1 : List Int) (x1_0 : Bool) (x1_1 : List Int) : Option (Bool × List Int) :=
  impl_mulW_x (run tb orc n) (fun x0_0 x0_1 x1_0 x1_1 v => iterO (impl_mulW_g1 (run tb orc n) n x0_0 x0_1 x1_0 x1_1 ) n v) x0_0 x0_1 x1_0 x1_1 
theorem impl_mulW_r (n : Nat) (x0_0 : Bool) (x0_1 : List Int) (x1_0 : Bool) (x1_1 : List Int) : c_impl_mulW (run tb orc (n + 1)) x0_0 x0_1 x1_0 x1_1 = impl_mulW_x (run tb orc n) (fun x0_0 x0_1 x1_0 x1_1 v => (impl_mulW_l1 (run tb orc n) n x0_0 x0_1 x1_0 x1_1 n) v) x0_0 x0_1 x1_0 x1_1  := by kernel_rfl
/-- loop.example/g00133/impl.mulW -/
theorem impl_mulW_eq (n : Nat) (x0_0 : Bool) (x0_1 : List Int) (x1_0 : Bool) (x1_1 : List Int) : c_impl_mulW (run tb orc (n + 1)) x0_0 x0_1 x1_0 x1_1 = impl_mulW_f n x0_0 x0_1 x1_0 x1_1 := by
  rw [impl_mulW_r]
  rw [show (fun x0_0 x0_1 x1_0 x1_1 v => (impl_mulW_l1 (run tb orc n) n x0_0 x0_1 x1_0 x1_1 n) v) = (fun x0_0 x0_1 x1_0 x1_1 v => iterO (impl_mulW_g1 (run tb orc n) n x0_0 x0_1 x1_0 x1_1 ) n v) from by funext x0_0 x0_1 x1_0 x1_1 v; exact impl_mulW_e1 n x0_0 x0_1 x1_0 x1_1 _ v]
  rfl
noncomputable def impl_timesW_x (C0 : Ca tb) (x0_0 : Bool) (x0_1 : List Int) (x1 : Int) : Option (Bool × List Int) :=
  (c_impl_wholeOf C0 x1).bind fun (d1 : Bool × List Int) => (c_impl_mulW C0 x0_0 x0_1 d1.1 d1.2).bind fun (d2 : Bool × List Int) => some ((d2.1, d2.2))
noncomputable def impl_timesW_f (n : Nat) (x0_0 : Bool) (x0_1 : List Int) (x1 : Int) : Option (Bool × List Int) :=
  impl_timesW_x (run tb orc n) x0_0 x0_1 x1 
theorem impl_timesW_r (n : Nat) (x0_0 : Bool) (x0_1 : List Int) (x1 : Int) : c_impl_timesW (run tb orc (n + 1)) x0_0 x0_1 x1 = impl_timesW_x (run tb orc n) x0_0 x0_1 x1  := by kernel_rfl
/-- loop.example/g00133/impl.timesW -/
theorem impl_timesW_eq (n : Nat) (x0_0 : Bool) (x0_1 : List Int) (x1 : Int) : c_impl_timesW (run tb orc (n + 1)) x0_0 x0_1 x1 = impl_timesW_f n x0_0 x0_1 x1 := by
  rw [impl_timesW_r]
  rfl
noncomputable def spec_l2Of_x1 (C0 : Ca tb) (self1 : (Int × List Int) → Option (List Int)) (v1 : Int × List Int) : Option (List Int) :=
  if v1.1 > (0:Int) then (if (268435456:Int) = 0 then none else if v1.2.length + ([v1.1.tmod (268435456:Int)]).length < lim then (if (268435456:Int) = 0 then none else self1 (wr .i64 (v1.1.tdiv (268435456:Int)), v1.2 ++ ([v1.1.tmod (268435456:Int)]))) else none) else some (v1.2)
noncomputable def spec_l2Of_l1 (C0 : Ca tb) (N0 : Nat) (m : Nat) (v1 : Int × List Int) : Option (List Int) :=
  loopIt (exec tb C0 143 0 N0 (codeAt [1, 1, 0, 0, 0] (bodyOf Tryd.f143))) (trim 0 [0, 3] 1) (contAt tb C0 143 0 N0 [1, 1, 0, 0] [] (bodyOf Tryd.f143) (finish tb 143 Tryd.f143)) m ⟨[.int .i64 (v1.1), .top, .top, .osl 0 0, .top, .top, .top, .top, .top, .top, .top, .top, .top, .top], [.arr (.int .i64) (v1.2) 0 true]⟩
noncomputable def spec_l2Of_g1 (C0 : Ca tb) (N0 : Nat) (self1 : (Int × List Int) → Option (List Int)) (v1 : Int × List Int) : Option (List Int) :=
  spec_l2Of_x1 C0 self1 v1
theorem spec_l2Of_s1 (n : Nat) (m : Nat) (v1 : Int × List Int) : (spec_l2Of_l1 (run tb orc n) n (m + 1)) v1 = spec_l2Of_x1 (run tb orc n) (spec_l2Of_l1 (run tb orc n) n m) v1 := by kernel_rfl
theorem spec_l2Of_e1 (n : Nat) : ∀ (m : Nat) (v : Int × List Int), (spec_l2Of_l1 (run tb orc n) n m) v = iterO (spec_l2Of_g1 (run tb orc n) n ) m v := by
  refine iterO_eq (fun _ => rfl) fun m v => ?_
  rw [spec_l2Of_s1]
  rfl
noncomputable def spec_l2Of_x (C0 : Ca tb) (inn1 : (Int × List Int) → Option (List Int)) (x0 : Int) : Option (List Int) :=
  inn1 (x0, [])
noncomputable def spec_l2Of_f (n : Nat) (x0 : Int) : Option (List Int) :=
  spec_l2Of_x (run tb orc n) (fun v => iterO (spec_l2Of_g1 (run tb orc n) n ) n v) x0 
theorem spec_l2Of_r (n : Nat) (x0 : Int) : c_spec_l2Of (run tb orc (n + 1)) x0 = spec_l2Of_x (run tb orc n) (fun v => (spec_l2Of_l1 (run tb orc n) n n) v) x0  := by kernel_rfl
/-- loop.example/g00133/spec.l2Of -/
theorem spec_l2Of_eq (n : Nat) (x0 : Int) : c_spec_l2Of (run tb orc (n + 1)) x0 = spec_l2Of_f n x0 := by
  rw [spec_l2Of_r]
  rw [show (fun v => (spec_l2Of_l1 (run tb orc n) n n) v) = (fun v => iterO (spec_l2Of_g1 (run tb orc n) n ) n v) from by funext v; exact spec_l2Of_e1 n _ v]
  rfl
noncomputable def spec_l2Trim_x1 (C0 : Ca tb) (self1 : (List Int) → Option (List Int)) (v1 : List Int) : Option (List Int) :=
  if (v1.length : Int) > (0:Int) then (if 0 ≤ wr .i64 ((v1.length : Int) - (1:Int)) then (if wr .i64 ((v1.length : Int) - (1:Int)) < (v1.length : Int) then (if v1.getD (wr .i64 ((v1.length : Int) - (1:Int))).toNat (0:Int) = (0:Int) then (if 0 ≤ (0:Int) then (if (0:Int) ≤ wr .i64 ((v1.length : Int) - (1:Int)) then (if wr .i64 ((v1.length : Int) - (1:Int)) ≤ (v1.length : Int) then (if (v1.length : Int) ≤ (v1.length : Int) then (self1 ((v1.take (wr .i64 ((v1.length : Int) - (1:Int))).toNat).drop (0:Int).toNat)) else none) else none) else none) else none) else some (v1)) else none) else none) else some (v1)
noncomputable def spec_l2Trim_l1 (C0 : Ca tb) (N0 : Nat) (m : Nat) (v1 : List Int) : Option (List Int) :=
  loopIt (exec tb C0 181 0 N0 (codeAt [1, 0, 0, 0] (bodyOf Tryd.f181))) (trim 0 [0] 0) (contAt tb C0 181 0 N0 [1, 0, 0] [] (bodyOf Tryd.f181) (finish tb 181 Tryd.f181)) m ⟨[.sl (.int .i64) (v1), .top, .top, .top, .top, .top, .top, .top, .top, .top, .top, .top, .top, .top, .top, .top, .top, .top, .top, .top, .top], []⟩
noncomputable def spec_l2Trim_g1 (C0 : Ca tb) (N0 : Nat) (self1 : (List Int) → Option (List Int)) (v1 : List Int) : Option (List Int) :=
  spec_l2Trim_x1 C0 self1 v1
theorem spec_l2Trim_s1 (n : Nat) (m : Nat) (v1 : List Int) : (spec_l2Trim_l1 (run tb orc n) n (m + 1)) v1 = spec_l2Trim_x1 (run tb orc n) (spec_l2Trim_l1 (run tb orc n) n m) v1 := by kernel_rfl
theorem spec_l2Trim_e1 (n : Nat) : ∀ (m : Nat) (v : List Int), (spec_l2Trim_l1 (run tb orc n) n m) v = iterO (spec_l2Trim_g1 (run tb orc n) n ) m v := by
  refine iterO_eq (fun _ => rfl) fun m v => ?_
  rw [spec_l2Trim_s1]
  rfl
noncomputable def spec_l2Trim_x (C0 : Ca tb) (inn1 : (List Int) → Option (List Int)) (x0 : List Int) : Option (List Int) :=
  inn1 (x0)
noncomputable def spec_l2Trim_f (n : Nat) (x0 : List Int) : Option (List Int) :=
  spec_l2Trim_x (run tb orc n) (fun v => iterO (spec_l2Trim_g1 (run tb orc n) n ) n v) x0 
theorem spec_l2Trim_r (n : Nat) (x0 : List Int) : c_spec_l2Trim (run tb orc (n + 1)) x0 = spec_l2Trim_x (run tb orc n) (fun v => (spec_l2Trim_l1 (run tb orc n) n n) v) x0  := by kernel_rfl
/-- loop.example/g00133/spec.l2Trim -/
theorem spec_l2Trim_eq (n : Nat) (x0 : List Int) : c_spec_l2Trim (run tb orc (n + 1)) x0 = spec_l2Trim_f n x0 := by
  rw [spec_l2Trim_r]
  rw [show (fun v => (spec_l2Trim_l1 (run tb orc n) n n) v) = (fun v => iterO (spec_l2Trim_g1 (run tb orc n) n ) n v) from by funext v; exact spec_l2Trim_e1 n _ v]
  rfl
noncomputable def spec_l2Mul_x3 (C0 : Ca tb) (self1 : (Int × List Int) → Option (List Int)) (self3 : (Int × Int × List Int) → Option (List Int)) (x0 : List Int) (x1 : List Int) (v1 : Int × List Int) (v3 : Int × Int × List Int) : Option (List Int) :=
  if v3.1 > (0:Int) then (if 0 ≤ v3.2.1 then (if v3.2.1 < (v3.2.2.length : Int) then (if (268435456:Int) = 0 then none else if 0 ≤ v3.2.1 then (if v3.2.1 < (v3.2.2.length : Int) then (if (268435456:Int) = 0 then none else self3 (wr .i64 ((wr .i64 (v3.1 + (v3.2.2.getD v3.2.1.toNat (0:Int)))).tdiv (268435456:Int)), wr .i64 (v3.2.1 + (1:Int)), v3.2.2.set v3.2.1.toNat ((wr .i64 (v3.1 + (v3.2.2.getD v3.2.1.toNat (0:Int)))).tmod (268435456:Int)))) else none) else none) else none) else none) else self1 (wr .i64 (v1.1 + (1:Int)), v3.2.2)
noncomputable def spec_l2Mul_l3 (C0 : Ca tb) (N0 : Nat) (m1 : Nat) (x0 : List Int) (x1 : List Int) (v1 : Int × List Int) (m : Nat) (v3 : Int × Int × List Int) : Option (List Int) :=
  loopIt (exec tb C0 142 0 N0 (codeAt [1, 1, 0, 1, 0, 0, 1, 1, 0, 0, 1, 1, 1, 1, 0, 0] (bodyOf Tryd.f142))) (trim 0 [1, 5, 8, 11, 18, 19, 20] 1) (contAt tb C0 142 0 N0 [1, 1, 0, 1, 0, 0, 1, 1, 0, 0, 1, 1, 1, 1, 0] [(m1, trim 0 [1, 5, 18, 19, 20] 1)] (bodyOf Tryd.f142) (finish tb 142 Tryd.f142)) m ⟨[.top, .sl (.int .i64) (x1), .top, .top, .top, .osl 0 0, .top, .top, .int .i64 (v3.1), .top, .top, .int .i64 (v3.2.1), .top, .top, .top, .top, .top, .top, .sl (.int .i64) (x0), .int .i64 ((x0.length : Int)), .int .i64 (v1.1), .top, .top, .top, .top, .top, .top, .top, .top, .top, .top, .top, .top, .top, .top, .top, .top, .top, .top, .top, .top, .top, .top, .top, .top, .top, .top, .top, .top, .top, .top, .top, .top, .top, .top, .top, .top, .top, .top, .top, .top, .top, .top, .top, .top, .top, .top, .top, .top, .top, .top, .top, .top, .top, .top, .top, .top, .top], [.arr (.int .i64) (v3.2.2) 0 true]⟩
noncomputable def spec_l2Mul_x2 (C0 : Ca tb) (self1 : (Int × List Int) → Option (List Int)) (self2 : (Int × Int × List Int) → Option (List Int)) (inn3 : (List Int) → (List Int) → (Int × List Int) → (Int × Int × List Int) → Option (List Int)) (x0 : List Int) (x1 : List Int) (v1 : Int × List Int) (v2 : Int × Int × List Int) : Option (List Int) :=
  if v2.2.1 < (x1.length : Int) then (if 0 ≤ v2.2.1 then (if v2.2.1 < (x1.length : Int) then (if 0 ≤ wr .i64 (v1.1 + v2.2.1) then (if wr .i64 (v1.1 + v2.2.1) < (v2.2.2.length : Int) then (if (268435456:Int) = 0 then none else if 0 ≤ wr .i64 (v1.1 + v2.2.1) then (if wr .i64 (v1.1 + v2.2.1) < (v2.2.2.length : Int) then (if (268435456:Int) = 0 then none else self2 (wr .i64 ((wr .i64 (v2.1 + (wr .i64 ((v2.2.2.getD ((wr .i64 (v1.1 + v2.2.1)).toNat) (0:Int)) + (wr .i64 ((x0.getD v1.1.toNat (0:Int)) * (x1.getD v2.2.1.toNat (0:Int)))))))).tdiv (268435456:Int)), wr .i64 (v2.2.1 + (1:Int)), v2.2.2.set ((wr .i64 (v1.1 + v2.2.1)).toNat) ((wr .i64 (v2.1 + (wr .i64 ((v2.2.2.getD ((wr .i64 (v1.1 + v2.2.1)).toNat) (0:Int)) + (wr .i64 ((x0.getD v1.1.toNat (0:Int)) * (x1.getD v2.2.1.toNat (0:Int)))))))).tmod (268435456:Int)))) else none) else none) else none) else none) else none) else none) else inn3 x0 x1 v1 (v2.1, wr .i64 (v1.1 + (x1.length : Int)), v2.2.2)
noncomputable def spec_l2Mul_l2 (C0 : Ca tb) (N0 : Nat) (m1 : Nat) (x0 : List Int) (x1 : List Int) (v1 : Int × List Int) (m : Nat) (v2 : Int × Int × List Int) : Option (List Int) :=
  loopIt (exec tb C0 142 0 N0 (codeAt [1, 1, 0, 1, 0, 0, 1, 1, 0, 0, 1, 1, 0, 1, 0, 0] (bodyOf Tryd.f142))) (trim 0 [1, 5, 6, 7, 8, 18, 19, 20, 25, 26, 27] 1) (contAt tb C0 142 0 N0 [1, 1, 0, 1, 0, 0, 1, 1, 0, 0, 1, 1, 0, 1, 0] [(m1, trim 0 [1, 5, 18, 19, 20] 1)] (bodyOf Tryd.f142) (finish tb 142 Tryd.f142)) m ⟨[.top, .sl (.int .i64) (x1), .top, .top, .top, .osl 0 0, .int .i64 (v1.1), .int .i64 (x0.getD v1.1.toNat (0:Int)), .int .i64 (v2.1), .top, .top, .top, .top, .top, .top, .top, .top, .top, .sl (.int .i64) (x0), .int .i64 ((x0.length : Int)), .int .i64 (v1.1), .top, .top, .top, .top, .sl (.int .i64) (x1), .int .i64 ((x1.length : Int)), .int .i64 (v2.2.1), .top, .top, .top, .top, .top, .top, .top, .top, .top, .top, .top, .top, .top, .top, .top, .top, .top, .top, .top, .top, .top, .top, .top, .top, .top, .top, .top, .top, .top, .top, .top, .top, .top, .top, .top, .top, .top, .top, .top, .top, .top, .top, .top, .top, .top, .top, .top, .top, .top, .top], [.arr (.int .i64) (v2.2.2) 0 true]⟩
noncomputable def spec_l2Mul_x1 (C0 : Ca tb) (self1 : (Int × List Int) → Option (List Int)) (inn2 : (List Int) → (List Int) → (Int × List Int) → (Int × Int × List Int) → Option (List Int)) (x0 : List Int) (x1 : List Int) (v1 : Int × List Int) : Option (List Int) :=
  if v1.1 < (x0.length : Int) then (if 0 ≤ v1.1 then (if v1.1 < (x0.length : Int) then inn2 x0 x1 v1 ((0:Int), (0:Int), v1.2) else none) else none) else (c_spec_l2Trim C0 v1.2).bind fun (d1 : List Int) => some (d1)
noncomputable def spec_l2Mul_l1 (C0 : Ca tb) (N0 : Nat) (x0 : List Int) (x1 : List Int) (m : Nat) (v1 : Int × List Int) : Option (List Int) :=
  loopIt (exec tb C0 142 0 N0 (codeAt [1, 1, 0, 1, 0, 0] (bodyOf Tryd.f142))) (trim 0 [1, 5, 18, 19, 20] 1) (contAt tb C0 142 0 N0 [1, 1, 0, 1, 0] [] (bodyOf Tryd.f142) (finish tb 142 Tryd.f142)) m ⟨[.top, .sl (.int .i64) (x1), .top, .top, .top, .osl 0 0, .top, .top, .top, .top, .top, .top, .top, .top, .top, .top, .top, .top, .sl (.int .i64) (x0), .int .i64 ((x0.length : Int)), .int .i64 (v1.1), .top, .top, .top, .top, .top, .top, .top, .top, .top, .top, .top, .top, .top, .top, .top, .top, .top, .top, .top, .top, .top, .top, .top, .top, .top, .top, .top, .top, .top, .top, .top, .top, .top, .top, .top, .top, .top, .top, .top, .top, .top, .top, .top, .top, .top, .top, .top, .top, .top, .top, .top, .top, .top, .top, .top, .top, .top], [.arr (.int .i64) (v1.2) 0 true]⟩
noncomputable def spec_l2Mul_g3 (C0 : Ca tb) (N0 : Nat) (self1 : (Int × List Int) → Option (List Int)) (x0 : List Int) (x1 : List Int) (v1 : Int × List Int) (self3 : (Int × Int × List Int) → Option (List Int)) (v3 : Int × Int × List Int) : Option (List Int) :=
  spec_l2Mul_x3 C0 self1 self3 x0 x1 v1 v3
noncomputable def spec_l2Mul_g2 (C0 : Ca tb) (N0 : Nat) (self1 : (Int × List Int) → Option (List Int)) (x0 : List Int) (x1 : List Int) (v1 : Int × List Int) (self2 : (Int × Int × List Int) → Option (List Int)) (v2 : Int × Int × List Int) : Option (List Int) :=
  spec_l2Mul_x2 C0 self1 self2 (fun x0 x1 v1 v => iterO (spec_l2Mul_g3 C0 N0 self1 x0 x1 v1 ) N0 v) x0 x1 v1 v2
noncomputable def spec_l2Mul_g1 (C0 : Ca tb) (N0 : Nat) (x0 : List Int) (x1 : List Int) (self1 : (Int × List Int) → Option (List Int)) (v1 : Int × List Int) : Option (List Int) :=
  spec_l2Mul_x1 C0 self1 (fun x0 x1 v1 v => iterO (spec_l2Mul_g2 C0 N0 self1 x0 x1 v1 ) N0 v) x0 x1 v1
theorem spec_l2Mul_s3 (n : Nat) (m1 : Nat) (x0 : List Int) (x1 : List Int) (v1 : Int × List Int) (m : Nat) (v3 : Int × Int × List Int) : (spec_l2Mul_l3 (run tb orc n) n m1 x0 x1 v1 (m + 1)) v3 = spec_l2Mul_x3 (run tb orc n) (spec_l2Mul_l1 (run tb orc n) n x0 x1 m1) (spec_l2Mul_l3 (run tb orc n) n m1 x0 x1 v1 m) x0 x1 v1 v3 := by kernel_rfl
theorem spec_l2Mul_e3 (n : Nat) (m1 : Nat) (x0 : List Int) (x1 : List Int) (v1 : Int × List Int) : ∀ (m : Nat) (v : Int × Int × List Int), (spec_l2Mul_l3 (run tb orc n) n m1 x0 x1 v1 m) v = iterO (spec_l2Mul_g3 (run tb orc n) n (spec_l2Mul_l1 (run tb orc n) n x0 x1 m1) x0 x1 v1 ) m v := by
  refine iterO_eq (fun _ => rfl) fun m v => ?_
  rw [spec_l2Mul_s3]
  rfl
theorem spec_l2Mul_s2 (n : Nat) (m1 : Nat) (x0 : List Int) (x1 : List Int) (v1 : Int × List Int) (m : Nat) (v2 : Int × Int × List Int) : (spec_l2Mul_l2 (run tb orc n) n m1 x0 x1 v1 (m + 1)) v2 = spec_l2Mul_x2 (run tb orc n) (spec_l2Mul_l1 (run tb orc n) n x0 x1 m1) (spec_l2Mul_l2 (run tb orc n) n m1 x0 x1 v1 m) (fun x0 x1 v1 v => (spec_l2Mul_l3 (run tb orc n) n m1 x0 x1 v1 n) v) x0 x1 v1 v2 := by kernel_rfl
theorem spec_l2Mul_e2 (n : Nat) (m1 : Nat) (x0 : List Int) (x1 : List Int) (v1 : Int × List Int) : ∀ (m : Nat) (v : Int × Int × List Int), (spec_l2Mul_l2 (run tb orc n) n m1 x0 x1 v1 m) v = iterO (spec_l2Mul_g2 (run tb orc n) n (spec_l2Mul_l1 (run tb orc n) n x0 x1 m1) x0 x1 v1 ) m v := by
  refine iterO_eq (fun _ => rfl) fun m v => ?_
  rw [spec_l2Mul_s2]
  rw [show (fun x0 x1 v1 v => (spec_l2Mul_l3 (run tb orc n) n m1 x0 x1 v1 n) v) = (fun x0 x1 v1 v => iterO (spec_l2Mul_g3 (run tb orc n) n (spec_l2Mul_l1 (run tb orc n) n x0 x1 m1) x0 x1 v1 ) n v) from by funext x0 x1 v1 v; exact spec_l2Mul_e3 n m1 x0 x1 v1 _ v]
  unfold spec_l2Mul_g2 spec_l2Mul_x2
  rfl
theorem spec_l2Mul_s1 (n : Nat) (x0 : List Int) (x1 : List Int) (m : Nat) (v1 : Int × List Int) : (spec_l2Mul_l1 (run tb orc n) n x0 x1 (m + 1)) v1 = spec_l2Mul_x1 (run tb orc n) (spec_l2Mul_l1 (run tb orc n) n x0 x1 m) (fun x0 x1 v1 v => (spec_l2Mul_l2 (run tb orc n) n m x0 x1 v1 n) v) x0 x1 v1 := by kernel_rfl
theorem spec_l2Mul_e1 (n : Nat) (x0 : List Int) (x1 : List Int) : ∀ (m : Nat) (v : Int × List Int), (spec_l2Mul_l1 (run tb orc n) n x0 x1 m) v = iterO (spec_l2Mul_g1 (run tb orc n) n x0 x1 ) m v := by
  refine iterO_eq (fun _ => rfl) fun m v => ?_
  rw [spec_l2Mul_s1]
  rw [show (fun x0 x1 v1 v => (spec_l2Mul_l2 (run tb orc n) n m x0 x1 v1 n) v) = (fun x0 x1 v1 v => iterO (spec_l2Mul_g2 (run tb orc n) n (spec_l2Mul_l1 (run tb orc n) n x0 x1 m) x0 x1 v1 ) n v) from by funext x0 x1 v1 v; exact spec_l2Mul_e2 n m x0 x1 v1 _ v]
  unfold spec_l2Mul_g1 spec_l2Mul_x1
  rfl
noncomputable def spec_l2Mul_x (C0 : Ca tb) (inn1 : (List Int) → (List Int) → (Int × List Int) → Option (List Int)) (x0 : List Int) (x1 : List Int) : Option (List Int) :=
  if 0 ≤ wr .i64 ((x0.length : Int) + (x1.length : Int)) then (if limB (wr .i64 ((x0.length : Int) + (x1.length : Int))).toNat = true then (inn1 x0 x1 ((0:Int), List.replicate (wr .i64 ((x0.length : Int) + (x1.length : Int))).toNat (0:Int))) else none) else none
noncomputable def spec_l2Mul_f (n : Nat) (x0 : List Int) (x1 : List Int) : Option (List Int) :=
  spec_l2Mul_x (run tb orc n) (fun x0 x1 v => iterO (spec_l2Mul_g1 (run tb orc n) n x0 x1 ) n v) x0 x1 
theorem spec_l2Mul_r (n : Nat) (x0 : List Int) (x1 : List Int) : c_spec_l2Mul (run tb orc (n + 1)) x0 x1 = spec_l2Mul_x (run tb orc n) (fun x0 x1 v => (spec_l2Mul_l1 (run tb orc n) n x0 x1 n) v) x0 x1  := by kernel_rfl
/-- loop.example/g00133/spec.l2Mul -/
theorem spec_l2Mul_eq (n : Nat) (x0 : List Int) (x1 : List Int) : c_spec_l2Mul (run tb orc (n + 1)) x0 x1 = spec_l2Mul_f n x0 x1 := by
  rw [spec_l2Mul_r]
  rw [show (fun x0 x1 v => (spec_l2Mul_l1 (run tb orc n) n x0 x1 n) v) = (fun x0 x1 v => iterO (spec_l2Mul_g1 (run tb orc n) n x0 x1 ) n v) from by funext x0 x1 v; exact spec_l2Mul_e1 n x0 x1 _ v]
  rfl
end Go.Proofs.YthanbjnpfenniaaDoor.Fw
