/- The functions' equations over the interpreter. Printed by fwgen.py. -/
import Derived.Test.YtnlgciomdghfiaaFwZf
import Derived.Test.YtnlgciomdghfiaaFwTok
import Derived.Test.YtnlgciomdghfiaaFwOrc
import Derived.Test.YtnlgciomdghfiaaEqA
import Derived.KernelRfl
import Derived.Lib.Tables
namespace Go.Proofs.Ytnlgciomdghfiaa.Fw
open Go Go.RowKit
set_option linter.unusedVariables false
set_option maxRecDepth 100000
noncomputable def c_impl_MulWholes (C : Ca tb) (x0_0 : Bool) (x0_1 : List Int) (x1_0 : Bool) (x1_1 : List Int) : Option ((Bool × List Int) × Bool) := C.pure 34 [.agg [.bool (x0_0), .sl (.int .i64) (x0_1)], .agg [.bool (x1_0), .sl (.int .i64) (x1_1)]]
noncomputable def c_impl_kept (C : Ca tb) (x0_0 : Bool) (x0_1 : List Int) : Option ((Bool × List Int) × Bool) := C.pure 90 [.agg [.bool (x0_0), .sl (.int .i64) (x0_1)]]
noncomputable def c_impl_copiedW (C : Ca tb) (x0_0 : Bool) (x0_1 : List Int) : Option (Bool × List Int) := C.pure 111 [.agg [.bool (x0_0), .sl (.int .i64) (x0_1)]]
noncomputable def c_slices_Clone_int_int (C : Ca tb) (x0 : List Int) : Option (List Int) := C.pure 146 [.sl (.int .i64) (x0)]
noncomputable def c_impl_mulW (C : Ca tb) (x0_0 : Bool) (x0_1 : List Int) (x1_0 : Bool) (x1_1 : List Int) : Option (Bool × List Int) := C.pure 91 [.agg [.bool (x0_0), .sl (.int .i64) (x0_1)], .agg [.bool (x1_0), .sl (.int .i64) (x1_1)]]
noncomputable def c_impl_trimmed (C : Ca tb) (x0 : Bool) (x1 : List Int) : Option (Bool × List Int) := C.pure 124 [.bool (x0), .sl (.int .i64) (x1)]
noncomputable def c_impl_GoodWhole (C : Ca tb) (x0_0 : Bool) (x0_1 : List Int) : Option Bool := C.pure 89 [.agg [.bool (x0_0), .sl (.int .i64) (x0_1)]]
noncomputable def c_impl_isWhole (C : Ca tb) (x0_0 : Bool) (x0_1 : List Int) : Option Bool := C.pure 123 [.agg [.bool (x0_0), .sl (.int .i64) (x0_1)]]
noncomputable def c_slices_ContainsFunc_int_int (C : Ca tb) (x0 : List Int) : Option Bool := C.pure 152 [.sl (.int .i64) (x0), .fn 153 []]
noncomputable def c_slices_IndexFunc_int_int (C : Ca tb) (x0 : List Int) : Option Int := C.pure 163 [.sl (.int .i64) (x0), .fn 153 []]
noncomputable def c_impl_isWhole_1 (C : Ca tb) (x0 : Int) : Option Bool := C.pure 153 [.int .i64 (x0)]
noncomputable def c_impl_in (C : Ca tb) (x0 : Int) (x1 : Int) (x2 : Int) : Option Bool := C.pure 75 [.int .i64 (x0), .int .i64 (x1), .int .i64 (x2)]
noncomputable def c_spec_MulWholes (C : Ca tb) (x0_0 : Bool) (x0_1 : List Int) (x1_0 : Bool) (x1_1 : List Int) : Option ((Bool × List Int) × Bool) := C.pure 32 [.agg [.bool (x0_0), .sl (.int .i64) (x0_1)], .agg [.bool (x1_0), .sl (.int .i64) (x1_1)]]
noncomputable def c_spec_l2Out (C : Ca tb) (x0_0 : Bool) (x0_1 : List Int) : Option ((Bool × List Int) × Bool) := C.pure 86 [.agg [.bool (x0_0), .sl (.int .i64) (x0_1)]]
noncomputable def c_spec_l2Times (C : Ca tb) (x0_0 : Bool) (x0_1 : List Int) (x1_0 : Bool) (x1_1 : List Int) : Option (Bool × List Int) := C.pure 87 [.agg [.bool (x0_0), .sl (.int .i64) (x0_1)], .agg [.bool (x1_0), .sl (.int .i64) (x1_1)]]
noncomputable def c_spec_l2Mul (C : Ca tb) (x0 : List Int) (x1 : List Int) : Option (List Int) := C.pure 122 [.sl (.int .i64) (x0), .sl (.int .i64) (x1)]
noncomputable def c_spec_l2Trim (C : Ca tb) (x0 : List Int) : Option (List Int) := C.pure 151 [.sl (.int .i64) (x0)]
noncomputable def c_spec_l2In (C : Ca tb) (x0_0 : Bool) (x0_1 : List Int) : Option (Bool × List Int) := C.pure 88 [.agg [.bool (x0_0), .sl (.int .i64) (x0_1)]]
noncomputable def c_spec_GoodWhole (C : Ca tb) (x0_0 : Bool) (x0_1 : List Int) : Option Bool := C.pure 85 [.agg [.bool (x0_0), .sl (.int .i64) (x0_1)]]
noncomputable def c_spec_l1In (C : Ca tb) (x0 : Int) (x1 : Int) (x2 : Int) : Option Bool := C.pure 66 [.int .i64 (x0), .int .i64 (x1), .int .i64 (x2)]
noncomputable def impl_in_x (C0 : Ca tb) (x0 : Int) (x1 : Int) (x2 : Int) : Option Bool :=
  if x1 ≤ x0 then some (decide (x0 ≤ x2)) else some (false)
noncomputable def impl_in_f (n : Nat) (x0 : Int) (x1 : Int) (x2 : Int) : Option Bool :=
  impl_in_x (run tb orc n) x0 x1 x2 
theorem impl_in_r (n : Nat) (x0 : Int) (x1 : Int) (x2 : Int) : c_impl_in (run tb orc (n + 1)) x0 x1 x2 = impl_in_x (run tb orc n) x0 x1 x2  := by kernel_rfl
/-- loop.example/g00133/impl.in -/
theorem impl_in_eq (n : Nat) (x0 : Int) (x1 : Int) (x2 : Int) : c_impl_in (run tb orc (n + 1)) x0 x1 x2 = impl_in_f n x0 x1 x2 := by
  rw [impl_in_r]
  rfl
noncomputable def impl_isWhole_1_x (C0 : Ca tb) (x0 : Int) : Option Bool :=
  (c_impl_in C0 x0 (0:Int) (268435455:Int)).bind fun (d1 : Bool) => some (!d1)
noncomputable def impl_isWhole_1_f (n : Nat) (x0 : Int) : Option Bool :=
  impl_isWhole_1_x (run tb orc n) x0 
theorem impl_isWhole_1_r (n : Nat) (x0 : Int) : c_impl_isWhole_1 (run tb orc (n + 1)) x0 = impl_isWhole_1_x (run tb orc n) x0  := by kernel_rfl
/-- loop.example/g00133/impl.isWhole$1 -/
theorem impl_isWhole_1_eq (n : Nat) (x0 : Int) : c_impl_isWhole_1 (run tb orc (n + 1)) x0 = impl_isWhole_1_f n x0 := by
  rw [impl_isWhole_1_r]
  rfl
noncomputable def slices_IndexFunc_int_int_x1 (C0 : Ca tb) (self1 : (Int) → Option Int) (x0 : List Int) (v1 : Int) : Option Int :=
  if v1 < (x0.length : Int) then (if 0 ≤ v1 then (if v1 < (x0.length : Int) then (c_impl_isWhole_1 C0 (x0.getD v1.toNat (0:Int))).bind fun (d1 : Bool) => if (d1) = true then some (v1) else self1 (wr .i64 (v1 + (1:Int))) else none) else none) else some ((-1:Int))
noncomputable def slices_IndexFunc_int_int_l1 (C0 : Ca tb) (N0 : Nat) (x0 : List Int) (m : Nat) (v1 : Int) : Option Int :=
  loopIt (exec tb C0 163 0 N0 (codeAt [1, 0, 1, 0, 0] (bodyOf Try.f163))) (trim 0 [0, 1, 7, 8] 0) (contAt tb C0 163 0 N0 [1, 0, 1, 0] [] (bodyOf Try.f163) (finish tb 163 Try.f163)) m ⟨[.sl (.int .i64) (x0), .fn 153 [], .top, .top, .top, .top, .top, .int .i64 ((x0.length : Int)), .int .i64 (v1), .top, .top, .top, .top, .top, .top, .top, .top, .top, .top], []⟩
noncomputable def slices_IndexFunc_int_int_g1 (C0 : Ca tb) (N0 : Nat) (x0 : List Int) (self1 : (Int) → Option Int) (v1 : Int) : Option Int :=
  slices_IndexFunc_int_int_x1 C0 self1 x0 v1
theorem slices_IndexFunc_int_int_s1 (n : Nat) (x0 : List Int) (m : Nat) (v1 : Int) : (slices_IndexFunc_int_int_l1 (run tb orc n) n x0 (m + 1)) v1 = slices_IndexFunc_int_int_x1 (run tb orc n) (slices_IndexFunc_int_int_l1 (run tb orc n) n x0 m) x0 v1 := by kernel_rfl
theorem slices_IndexFunc_int_int_e1 (n : Nat) (x0 : List Int) : ∀ (m : Nat) (v : Int), (slices_IndexFunc_int_int_l1 (run tb orc n) n x0 m) v = iterO (slices_IndexFunc_int_int_g1 (run tb orc n) n x0 ) m v := by
  refine iterO_eq (fun _ => rfl) fun m v => ?_
  rw [slices_IndexFunc_int_int_s1]
  rfl
noncomputable def slices_IndexFunc_int_int_x (C0 : Ca tb) (inn1 : (List Int) → (Int) → Option Int) (x0 : List Int) : Option Int :=
  inn1 x0 ((0:Int))
noncomputable def slices_IndexFunc_int_int_f (n : Nat) (x0 : List Int) : Option Int :=
  slices_IndexFunc_int_int_x (run tb orc n) (fun x0 v => iterO (slices_IndexFunc_int_int_g1 (run tb orc n) n x0 ) n v) x0 
theorem slices_IndexFunc_int_int_r (n : Nat) (x0 : List Int) : c_slices_IndexFunc_int_int (run tb orc (n + 1)) x0 = slices_IndexFunc_int_int_x (run tb orc n) (fun x0 v => (slices_IndexFunc_int_int_l1 (run tb orc n) n x0 n) v) x0  := by kernel_rfl
/-- slices.IndexFunc[[]int,int] -/
theorem slices_IndexFunc_int_int_eq (n : Nat) (x0 : List Int) : c_slices_IndexFunc_int_int (run tb orc (n + 1)) x0 = slices_IndexFunc_int_int_f n x0 := by
  rw [slices_IndexFunc_int_int_r]
  rw [show (fun x0 v => (slices_IndexFunc_int_int_l1 (run tb orc n) n x0 n) v) = (fun x0 v => iterO (slices_IndexFunc_int_int_g1 (run tb orc n) n x0 ) n v) from by funext x0 v; exact slices_IndexFunc_int_int_e1 n x0 _ v]
  rfl
noncomputable def slices_ContainsFunc_int_int_x (C0 : Ca tb) (x0 : List Int) : Option Bool :=
  (c_slices_IndexFunc_int_int C0 x0).bind fun (d1 : Int) => some (decide (d1 ≥ (0:Int)))
noncomputable def slices_ContainsFunc_int_int_f (n : Nat) (x0 : List Int) : Option Bool :=
  slices_ContainsFunc_int_int_x (run tb orc n) x0 
theorem slices_ContainsFunc_int_int_r (n : Nat) (x0 : List Int) : c_slices_ContainsFunc_int_int (run tb orc (n + 1)) x0 = slices_ContainsFunc_int_int_x (run tb orc n) x0  := by kernel_rfl
/-- slices.ContainsFunc[[]int,int] -/
theorem slices_ContainsFunc_int_int_eq (n : Nat) (x0 : List Int) : c_slices_ContainsFunc_int_int (run tb orc (n + 1)) x0 = slices_ContainsFunc_int_int_f n x0 := by
  rw [slices_ContainsFunc_int_int_r]
  rfl
noncomputable def impl_isWhole_x (C0 : Ca tb) (x0_0 : Bool) (x0_1 : List Int) : Option Bool :=
  if (x0_1.length : Int) = (0:Int) then some (!x0_0) else if 0 ≤ wr .i64 ((x0_1.length : Int) - (1:Int)) then (if wr .i64 ((x0_1.length : Int) - (1:Int)) < (x0_1.length : Int) then (if x0_1.getD (wr .i64 ((x0_1.length : Int) - (1:Int))).toNat (0:Int) = (0:Int) then some (false) else (c_slices_ContainsFunc_int_int C0 x0_1).bind fun (d1 : Bool) => some (!d1)) else none) else none
noncomputable def impl_isWhole_f (n : Nat) (x0_0 : Bool) (x0_1 : List Int) : Option Bool :=
  impl_isWhole_x (run tb orc n) x0_0 x0_1 
theorem impl_isWhole_r (n : Nat) (x0_0 : Bool) (x0_1 : List Int) : c_impl_isWhole (run tb orc (n + 1)) x0_0 x0_1 = impl_isWhole_x (run tb orc n) x0_0 x0_1  := by kernel_rfl
/-- loop.example/g00133/impl.isWhole -/
theorem impl_isWhole_eq (n : Nat) (x0_0 : Bool) (x0_1 : List Int) : c_impl_isWhole (run tb orc (n + 1)) x0_0 x0_1 = impl_isWhole_f n x0_0 x0_1 := by
  rw [impl_isWhole_r]
  rfl
noncomputable def impl_GoodWhole_x (C0 : Ca tb) (x0_0 : Bool) (x0_1 : List Int) : Option Bool :=
  if (x0_1.length : Int) ≤ (40:Int) then (c_impl_isWhole C0 x0_0 x0_1).bind fun (d1 : Bool) => some (d1) else some (false)
noncomputable def impl_GoodWhole_f (n : Nat) (x0_0 : Bool) (x0_1 : List Int) : Option Bool :=
  impl_GoodWhole_x (run tb orc n) x0_0 x0_1 
theorem impl_GoodWhole_r (n : Nat) (x0_0 : Bool) (x0_1 : List Int) : c_impl_GoodWhole (run tb orc (n + 1)) x0_0 x0_1 = impl_GoodWhole_x (run tb orc n) x0_0 x0_1  := by kernel_rfl
/-- loop.example/g00133/impl.GoodWhole -/
theorem impl_GoodWhole_eq (n : Nat) (x0_0 : Bool) (x0_1 : List Int) : c_impl_GoodWhole (run tb orc (n + 1)) x0_0 x0_1 = impl_GoodWhole_f n x0_0 x0_1 := by
  rw [impl_GoodWhole_r]
  rfl
noncomputable def slices_Clone_int_int_x (C0 : Ca tb) (x0 : List Int) : Option (List Int) :=
  if x0.isEmpty = true then both (some ([])) (if x0.length < lim then (some (x0)) else none) else if x0.length < lim then (some (x0)) else none
noncomputable def slices_Clone_int_int_f (n : Nat) (x0 : List Int) : Option (List Int) :=
  slices_Clone_int_int_x (run tb orc n) x0 
theorem slices_Clone_int_int_r (n : Nat) (x0 : List Int) : c_slices_Clone_int_int (run tb orc (n + 1)) x0 = slices_Clone_int_int_x (run tb orc n) x0  := by kernel_rfl
/-- slices.Clone[[]int,int] -/
theorem slices_Clone_int_int_eq (n : Nat) (x0 : List Int) : c_slices_Clone_int_int (run tb orc (n + 1)) x0 = slices_Clone_int_int_f n x0 := by
  rw [slices_Clone_int_int_r]
  rfl
noncomputable def impl_copiedW_x (C0 : Ca tb) (x0_0 : Bool) (x0_1 : List Int) : Option (Bool × List Int) :=
  (c_slices_Clone_int_int C0 x0_1).bind fun (d1 : List Int) => some ((x0_0, d1))
noncomputable def impl_copiedW_f (n : Nat) (x0_0 : Bool) (x0_1 : List Int) : Option (Bool × List Int) :=
  impl_copiedW_x (run tb orc n) x0_0 x0_1 
theorem impl_copiedW_r (n : Nat) (x0_0 : Bool) (x0_1 : List Int) : c_impl_copiedW (run tb orc (n + 1)) x0_0 x0_1 = impl_copiedW_x (run tb orc n) x0_0 x0_1  := by kernel_rfl
/-- loop.example/g00133/impl.copiedW -/
theorem impl_copiedW_eq (n : Nat) (x0_0 : Bool) (x0_1 : List Int) : c_impl_copiedW (run tb orc (n + 1)) x0_0 x0_1 = impl_copiedW_f n x0_0 x0_1 := by
  rw [impl_copiedW_r]
  rfl
noncomputable def impl_kept_x (C0 : Ca tb) (x0_0 : Bool) (x0_1 : List Int) : Option ((Bool × List Int) × Bool) :=
  if (x0_1.length : Int) > (40:Int) then some ((false, []), false) else (c_impl_copiedW C0 x0_0 x0_1).bind fun (d1 : Bool × List Int) => some ((d1.1, d1.2), true)
noncomputable def impl_kept_f (n : Nat) (x0_0 : Bool) (x0_1 : List Int) : Option ((Bool × List Int) × Bool) :=
  impl_kept_x (run tb orc n) x0_0 x0_1 
theorem impl_kept_r (n : Nat) (x0_0 : Bool) (x0_1 : List Int) : c_impl_kept (run tb orc (n + 1)) x0_0 x0_1 = impl_kept_x (run tb orc n) x0_0 x0_1  := by kernel_rfl
/-- loop.example/g00133/impl.kept -/
theorem impl_kept_eq (n : Nat) (x0_0 : Bool) (x0_1 : List Int) : c_impl_kept (run tb orc (n + 1)) x0_0 x0_1 = impl_kept_f n x0_0 x0_1 := by
  rw [impl_kept_r]
  rfl
noncomputable def impl_trimmed_x1 (C0 : Ca tb) (self1 : (Int) → Option (Bool × List Int)) (x0 : Bool) (x1 : List Int) (v1 : Int) : Option (Bool × List Int) :=
  if v1 > (0:Int) then (if 0 ≤ wr .i64 (v1 - (1:Int)) then (if wr .i64 (v1 - (1:Int)) < (x1.length : Int) then (if x1.getD (wr .i64 (v1 - (1:Int))).toNat (0:Int) = (0:Int) then self1 (wr .i64 (v1 - (1:Int))) else if (x0) = true then (if 0 ≤ (0:Int) then (if (0:Int) ≤ v1 then (if v1 ≤ v1 then (if v1 ≤ (x1.length : Int) then (some ((decide (v1 > (0:Int)), (x1.take v1.toNat).drop (0:Int).toNat))) else none) else none) else none) else none) else if 0 ≤ (0:Int) then (if (0:Int) ≤ v1 then (if v1 ≤ v1 then (if v1 ≤ (x1.length : Int) then (some ((false, (x1.take v1.toNat).drop (0:Int).toNat))) else none) else none) else none) else none) else none) else none) else if (x0) = true then (if 0 ≤ (0:Int) then (if (0:Int) ≤ v1 then (if v1 ≤ v1 then (if v1 ≤ (x1.length : Int) then (some ((decide (v1 > (0:Int)), (x1.take v1.toNat).drop (0:Int).toNat))) else none) else none) else none) else none) else if 0 ≤ (0:Int) then (if (0:Int) ≤ v1 then (if v1 ≤ v1 then (if v1 ≤ (x1.length : Int) then (some ((false, (x1.take v1.toNat).drop (0:Int).toNat))) else none) else none) else none) else none
noncomputable def impl_trimmed_l1 (C0 : Ca tb) (N0 : Nat) (x0 : Bool) (x1 : List Int) (m : Nat) (v1 : Int) : Option (Bool × List Int) :=
  loopIt (exec tb C0 124 0 N0 (codeAt [1, 1, 0, 0, 0] (bodyOf Try.f124))) (trim 0 [0, 1, 4, 5] 1) (contAt tb C0 124 0 N0 [1, 1, 0, 0] [] (bodyOf Try.f124) (finish tb 124 Try.f124)) m ⟨[.bool (x0), .sl (.int .i64) (x1), .top, .top, .bptr 0 0, .int .i64 (v1), .top, .top, .top, .top, .top, .top, .top, .top, .top, .top, .top, .top, .top, .top, .top, .top, .top, .top, .top, .top, .top, .top, .top, .top], [.box [.bool (false), .zsl]]⟩
noncomputable def impl_trimmed_g1 (C0 : Ca tb) (N0 : Nat) (x0 : Bool) (x1 : List Int) (self1 : (Int) → Option (Bool × List Int)) (v1 : Int) : Option (Bool × List Int) :=
  impl_trimmed_x1 C0 self1 x0 x1 v1
theorem impl_trimmed_s1 (n : Nat) (x0 : Bool) (x1 : List Int) (m : Nat) (v1 : Int) : (impl_trimmed_l1 (run tb orc n) n x0 x1 (m + 1)) v1 = impl_trimmed_x1 (run tb orc n) (impl_trimmed_l1 (run tb orc n) n x0 x1 m) x0 x1 v1 := by kernel_rfl
theorem impl_trimmed_e1 (n : Nat) (x0 : Bool) (x1 : List Int) : ∀ (m : Nat) (v : Int), (impl_trimmed_l1 (run tb orc n) n x0 x1 m) v = iterO (impl_trimmed_g1 (run tb orc n) n x0 x1 ) m v := by
  refine iterO_eq (fun _ => rfl) fun m v => ?_
  rw [impl_trimmed_s1]
  rfl
noncomputable def impl_trimmed_x (C0 : Ca tb) (inn1 : (Bool) → (List Int) → (Int) → Option (Bool × List Int)) (x0 : Bool) (x1 : List Int) : Option (Bool × List Int) :=
  inn1 x0 x1 ((x1.length : Int))
noncomputable def impl_trimmed_f (n : Nat) (x0 : Bool) (x1 : List Int) : Option (Bool × List Int) :=
  impl_trimmed_x (run tb orc n) (fun x0 x1 v => iterO (impl_trimmed_g1 (run tb orc n) n x0 x1 ) n v) x0 x1 
theorem impl_trimmed_r (n : Nat) (x0 : Bool) (x1 : List Int) : c_impl_trimmed (run tb orc (n + 1)) x0 x1 = impl_trimmed_x (run tb orc n) (fun x0 x1 v => (impl_trimmed_l1 (run tb orc n) n x0 x1 n) v) x0 x1  := by kernel_rfl
/-- loop.example/g00133/impl.trimmed -/
theorem impl_trimmed_eq (n : Nat) (x0 : Bool) (x1 : List Int) : c_impl_trimmed (run tb orc (n + 1)) x0 x1 = impl_trimmed_f n x0 x1 := by
  rw [impl_trimmed_r]
  rw [show (fun x0 x1 v => (impl_trimmed_l1 (run tb orc n) n x0 x1 n) v) = (fun x0 x1 v => iterO (impl_trimmed_g1 (run tb orc n) n x0 x1 ) n v) from by funext x0 x1 v; exact impl_trimmed_e1 n x0 x1 _ v]
  rfl
noncomputable def impl_mulW_x2 (C0 : Ca tb) (self1 : (Int × List Int) → Option (Bool × List Int)) (self2 : (Int × Int × List Int) → Option (Bool × List Int)) (x0_0 : Bool) (x0_1 : List Int) (x1_0 : Bool) (x1_1 : List Int) (v1 : Int × List Int) (v2 : Int × Int × List Int) : Option (Bool × List Int) :=
  if v2.2.1 < (x1_1.length : Int) then (if 0 ≤ v2.2.1 then (if v2.2.1 < (x1_1.length : Int) then (if 0 ≤ wr .i64 (v1.1 + v2.2.1) then (if wr .i64 (v1.1 + v2.2.1) < (v2.2.2.length : Int) then (if 0 ≤ wr .i64 (v1.1 + v2.2.1) then (if wr .i64 (v1.1 + v2.2.1) < (v2.2.2.length : Int) then (if (28:Int) < 0 then none else self2 (shr .i64 (wr .i64 (v2.1 + (wr .i64 ((v2.2.2.getD ((wr .i64 (v1.1 + v2.2.1)).toNat) (0:Int)) + (wr .i64 ((x0_1.getD v1.1.toNat (0:Int)) * (x1_1.getD v2.2.1.toNat (0:Int)))))))) (28:Int), wr .i64 (v2.2.1 + (1:Int)), v2.2.2.set ((wr .i64 (v1.1 + v2.2.1)).toNat) (Go.bits .and .i64 (wr .i64 (v2.1 + (wr .i64 ((v2.2.2.getD ((wr .i64 (v1.1 + v2.2.1)).toNat) (0:Int)) + (wr .i64 ((x0_1.getD v1.1.toNat (0:Int)) * (x1_1.getD v2.2.1.toNat (0:Int)))))))) (268435455:Int)))) else none) else none) else none) else none) else none) else none) else if 0 ≤ wr .i64 (v1.1 + (x1_1.length : Int)) then (if wr .i64 (v1.1 + (x1_1.length : Int)) < (v2.2.2.length : Int) then self1 (wr .i64 (v1.1 + (1:Int)), v2.2.2.set ((wr .i64 (v1.1 + (x1_1.length : Int))).toNat) v2.1) else none) else none
noncomputable def impl_mulW_l2 (C0 : Ca tb) (N0 : Nat) (m1 : Nat) (x0_0 : Bool) (x0_1 : List Int) (x1_0 : Bool) (x1_1 : List Int) (v1 : Int × List Int) (m : Nat) (v2 : Int × Int × List Int) : Option (Bool × List Int) :=
  loopIt (exec tb C0 91 0 N0 (codeAt [1, 1, 0, 1, 0, 0, 1, 1, 0, 0, 1, 1, 0, 1, 0, 0] (bodyOf Try.f91))) (trim 0 [2, 3, 4, 5, 6, 7, 8, 20, 21, 22, 28, 29, 30] 4) (contAt tb C0 91 0 N0 [1, 1, 0, 1, 0, 0, 1, 1, 0, 0, 1, 1, 0, 1, 0] [(m1, trim 0 [2, 3, 4, 5, 20, 21, 22] 4)] (bodyOf Try.f91) (finish tb 91 Try.f91)) m ⟨[.top, .top, .bptr 0 0, .bptr 1 0, .bptr 2 0, .osl 3 0, .int .i64 (v1.1), .int .i64 (x0_1.getD v1.1.toNat (0:Int)), .int .i64 (v2.1), .top, .top, .top, .top, .top, .top, .top, .top, .top, .top, .top, .sl (.int .i64) (x0_1), .int .i64 ((x0_1.length : Int)), .int .i64 (v1.1), .top, .top, .top, .top, .top, .sl (.int .i64) (x1_1), .int .i64 ((x1_1.length : Int)), .int .i64 (v2.2.1), .top, .top, .top, .top, .top, .top, .top, .top, .top, .top, .top, .top, .top, .top, .top, .top, .top, .top, .top, .top, .top, .top, .top, .top, .top, .top, .top, .top, .top, .top, .top, .top, .top, .top, .top, .top, .top, .top, .top, .top, .top, .top], [.box [.bool (x0_0), .sl (.int .i64) (x0_1)], .box [.bool (x1_0), .sl (.int .i64) (x1_1)], .box [.bool (false), .zsl], .arr (.int .i64) (v2.2.2) 0 true]⟩
noncomputable def impl_mulW_x1 (C0 : Ca tb) (self1 : (Int × List Int) → Option (Bool × List Int)) (inn2 : (Bool) → (List Int) → (Bool) → (List Int) → (Int × List Int) → (Int × Int × List Int) → Option (Bool × List Int)) (x0_0 : Bool) (x0_1 : List Int) (x1_0 : Bool) (x1_1 : List Int) (v1 : Int × List Int) : Option (Bool × List Int) :=
  if v1.1 < (x0_1.length : Int) then (if 0 ≤ v1.1 then (if v1.1 < (x0_1.length : Int) then inn2 x0_0 x0_1 x1_0 x1_1 v1 ((0:Int), (0:Int), v1.2) else none) else none) else (c_impl_trimmed C0 (x0_0 != x1_0) v1.2).bind fun (d1 : Bool × List Int) => some ((d1.1, d1.2))
noncomputable def impl_mulW_l1 (C0 : Ca tb) (N0 : Nat) (x0_0 : Bool) (x0_1 : List Int) (x1_0 : Bool) (x1_1 : List Int) (m : Nat) (v1 : Int × List Int) : Option (Bool × List Int) :=
  loopIt (exec tb C0 91 0 N0 (codeAt [1, 1, 0, 1, 0, 0] (bodyOf Try.f91))) (trim 0 [2, 3, 4, 5, 20, 21, 22] 4) (contAt tb C0 91 0 N0 [1, 1, 0, 1, 0] [] (bodyOf Try.f91) (finish tb 91 Try.f91)) m ⟨[.top, .top, .bptr 0 0, .bptr 1 0, .bptr 2 0, .osl 3 0, .top, .top, .top, .top, .top, .top, .top, .top, .top, .top, .top, .top, .top, .top, .sl (.int .i64) (x0_1), .int .i64 ((x0_1.length : Int)), .int .i64 (v1.1), .top, .top, .top, .top, .top, .top, .top, .top, .top, .top, .top, .top, .top, .top, .top, .top, .top, .top, .top, .top, .top, .top, .top, .top, .top, .top, .top, .top, .top, .top, .top, .top, .top, .top, .top, .top, .top, .top, .top, .top, .top, .top, .top, .top, .top, .top, .top, .top, .top, .top], [.box [.bool (x0_0), .sl (.int .i64) (x0_1)], .box [.bool (x1_0), .sl (.int .i64) (x1_1)], .box [.bool (false), .zsl], .arr (.int .i64) (v1.2) 0 true]⟩
noncomputable def impl_mulW_g2 (C0 : Ca tb) (N0 : Nat) (self1 : (Int × List Int) → Option (Bool × List Int)) (x0_0 : Bool) (x0_1 : List Int) (x1_0 : Bool) (x1_1 : List Int) (v1 : Int × List Int) (self2 : (Int × Int × List Int) → Option (Bool × List Int)) (v2 : Int × Int × List Int) : Option (Bool × List Int) :=
  impl_mulW_x2 C0 self1 self2 x0_0 x0_1 x1_0 x1_1 v1 v2
noncomputable def impl_mulW_g1 (C0 : Ca tb) (N0 : Nat) (x0_0 : Bool) (x0_1 : List Int) (x1_0 : Bool) (x1_1 : List Int) (self1 : (Int × List Int) → Option (Bool × List Int)) (v1 : Int × List Int) : Option (Bool × List Int) :=
  impl_mulW_x1 C0 self1 (fun x0_0 x0_1 x1_0 x1_1 v1 v => iterO (impl_mulW_g2 C0 N0 self1 x0_0 x0_1 x1_0 x1_1 v1 ) N0 v) x0_0 x0_1 x1_0 x1_1 v1
theorem impl_mulW_s2 (n : Nat) (m1 : Nat) (x0_0 : Bool) (x0_1 : List Int) (x1_0 : Bool) (x1_1 : List Int) (v1 : Int × List Int) (m : Nat) (v2 : Int × Int × List Int) : (impl_mulW_l2 (run tb orc n) n m1 x0_0 x0_1 x1_0 x1_1 v1 (m + 1)) v2 = impl_mulW_x2 (run tb orc n) (impl_mulW_l1 (run tb orc n) n x0_0 x0_1 x1_0 x1_1 m1) (impl_mulW_l2 (run tb orc n) n m1 x0_0 x0_1 x1_0 x1_1 v1 m) x0_0 x0_1 x1_0 x1_1 v1 v2 := by kernel_rfl
theorem impl_mulW_e2 (n : Nat) (m1 : Nat) (x0_0 : Bool) (x0_1 : List Int) (x1_0 : Bool) (x1_1 : List Int) (v1 : Int × List Int) : ∀ (m : Nat) (v : Int × Int × List Int), (impl_mulW_l2 (run tb orc n) n m1 x0_0 x0_1 x1_0 x1_1 v1 m) v = iterO (impl_mulW_g2 (run tb orc n) n (impl_mulW_l1 (run tb orc n) n x0_0 x0_1 x1_0 x1_1 m1) x0_0 x0_1 x1_0 x1_1 v1 ) m v := by
  refine iterO_eq (fun _ => rfl) fun m v => ?_
  rw [impl_mulW_s2]
  rfl
theorem impl_mulW_s1 (n : Nat) (x0_0 : Bool) (x0_1 : List Int) (x1_0 : Bool) (x1_1 : List Int) (m : Nat) (v1 : Int × List Int) : (impl_mulW_l1 (run tb orc n) n x0_0 x0_1 x1_0 x1_1 (m + 1)) v1 = impl_mulW_x1 (run tb orc n) (impl_mulW_l1 (run tb orc n) n x0_0 x0_1 x1_0 x1_1 m) (fun x0_0 x0_1 x1_0 x1_1 v1 v => (impl_mulW_l2 (run tb orc n) n m x0_0 x0_1 x1_0 x1_1 v1 n) v) x0_0 x0_1 x1_0 x1_1 v1 := by kernel_rfl
theorem impl_mulW_e1 (n : Nat) (x0_0 : Bool) (x0_1 : List Int) (x1_0 : Bool) (x1_1 : List Int) : ∀ (m : Nat) (v : Int × List Int), (impl_mulW_l1 (run tb orc n) n x0_0 x0_1 x1_0 x1_1 m) v = iterO (impl_mulW_g1 (run tb orc n) n x0_0 x0_1 x1_0 x1_1 ) m v := by
  refine iterO_eq (fun _ => rfl) fun m v => ?_
  rw [impl_mulW_s1]
  rw [show (fun x0_0 x0_1 x1_0 x1_1 v1 v => (impl_mulW_l2 (run tb orc n) n m x0_0 x0_1 x1_0 x1_1 v1 n) v) = (fun x0_0 x0_1 x1_0 x1_1 v1 v => iterO (impl_mulW_g2 (run tb orc n) n (impl_mulW_l1 (run tb orc n) n x0_0 x0_1 x1_0 x1_1 m) x0_0 x0_1 x1_0 x1_1 v1 ) n v) from by funext x0_0 x0_1 x1_0 x1_1 v1 v; exact impl_mulW_e2 n m x0_0 x0_1 x1_0 x1_1 v1 _ v]
  unfold impl_mulW_g1 impl_mulW_x1
  rfl
noncomputable def impl_mulW_x (C0 : Ca tb) (inn1 : (Bool) → (List Int) → (Bool) → (List Int) → (Int × List Int) → Option (Bool × List Int)) (x0_0 : Bool) (x0_1 : List Int) (x1_0 : Bool) (x1_1 : List Int) : Option (Bool × List Int) :=
  if 0 ≤ wr .i64 ((x0_1.length : Int) + (x1_1.length : Int)) then (if limB (wr .i64 ((x0_1.length : Int) + (x1_1.length : Int))).toNat = true then (inn1 x0_0 x0_1 x1_0 x1_1 ((0:Int), List.replicate (wr .i64 ((x0_1.length : Int) + (x1_1.length : Int))).toNat (0:Int))) else none) else none
noncomputable def impl_mulW_f (n : Nat) (x0_0 : Bool) (x0_1 : List Int) (x1_0 : Bool) (x1_1 : List Int) : Option (Bool × List Int) :=
  impl_mulW_x (run tb orc n) (fun x0_0 x0_1 x1_0 x1_1 v => iterO (impl_mulW_g1 (run tb orc n) n x0_0 x0_1 x1_0 x1_1 ) n v) x0_0 x0_1 x1_0 x1_1 
theorem impl_mulW_r (n : Nat) (x0_0 : Bool) (x0_1 : List Int) (x1_0 : Bool) (x1_1 : List Int) : c_impl_mulW (run tb orc (n + 1)) x0_0 x0_1 x1_0 x1_1 = impl_mulW_x (run tb orc n) (fun x0_0 x0_1 x1_0 x1_1 v => (impl_mulW_l1 (run tb orc n) n x0_0 x0_1 x1_0 x1_1 n) v) x0_0 x0_1 x1_0 x1_1  := by kernel_rfl
/-- loop.example/g00133/impl.mulW -/
theorem impl_mulW_eq (n : Nat) (x0_0 : Bool) (x0_1 : List Int) (x1_0 : Bool) (x1_1 : List Int) : c_impl_mulW (run tb orc (n + 1)) x0_0 x0_1 x1_0 x1_1 = impl_mulW_f n x0_0 x0_1 x1_0 x1_1 := by
  rw [impl_mulW_r]
  rw [show (fun x0_0 x0_1 x1_0 x1_1 v => (impl_mulW_l1 (run tb orc n) n x0_0 x0_1 x1_0 x1_1 n) v) = (fun x0_0 x0_1 x1_0 x1_1 v => iterO (impl_mulW_g1 (run tb orc n) n x0_0 x0_1 x1_0 x1_1 ) n v) from by funext x0_0 x0_1 x1_0 x1_1 v; exact impl_mulW_e1 n x0_0 x0_1 x1_0 x1_1 _ v]
  rfl
noncomputable def impl_MulWholes_x (C0 : Ca tb) (x0_0 : Bool) (x0_1 : List Int) (x1_0 : Bool) (x1_1 : List Int) : Option ((Bool × List Int) × Bool) :=
  (c_impl_GoodWhole C0 x0_0 x0_1).bind fun (d1 : Bool) => if (!d1) = true then some ((false, []), false) else (c_impl_GoodWhole C0 x1_0 x1_1).bind fun (d2 : Bool) => if (!d2) = true then some ((false, []), false) else (c_impl_mulW C0 x0_0 x0_1 x1_0 x1_1).bind fun (d3 : Bool × List Int) => (c_impl_kept C0 d3.1 d3.2).bind fun (d4 : (Bool × List Int) × Bool) => some ((d4.1.1, d4.1.2), d4.2)
noncomputable def impl_MulWholes_f (n : Nat) (x0_0 : Bool) (x0_1 : List Int) (x1_0 : Bool) (x1_1 : List Int) : Option ((Bool × List Int) × Bool) :=
  impl_MulWholes_x (run tb orc n) x0_0 x0_1 x1_0 x1_1 
theorem impl_MulWholes_r (n : Nat) (x0_0 : Bool) (x0_1 : List Int) (x1_0 : Bool) (x1_1 : List Int) : c_impl_MulWholes (run tb orc (n + 1)) x0_0 x0_1 x1_0 x1_1 = impl_MulWholes_x (run tb orc n) x0_0 x0_1 x1_0 x1_1  := by kernel_rfl
/-- loop.example/g00133/impl.MulWholes -/
theorem impl_MulWholes_eq (n : Nat) (x0_0 : Bool) (x0_1 : List Int) (x1_0 : Bool) (x1_1 : List Int) : c_impl_MulWholes (run tb orc (n + 1)) x0_0 x0_1 x1_0 x1_1 = impl_MulWholes_f n x0_0 x0_1 x1_0 x1_1 := by
  rw [impl_MulWholes_r]
  rfl
noncomputable def spec_l1In_x (C0 : Ca tb) (x0 : Int) (x1 : Int) (x2 : Int) : Option Bool :=
  if x0 ≥ x1 then some (decide (x0 ≤ x2)) else some (false)
noncomputable def spec_l1In_f (n : Nat) (x0 : Int) (x1 : Int) (x2 : Int) : Option Bool :=
  spec_l1In_x (run tb orc n) x0 x1 x2 
theorem spec_l1In_r (n : Nat) (x0 : Int) (x1 : Int) (x2 : Int) : c_spec_l1In (run tb orc (n + 1)) x0 x1 x2 = spec_l1In_x (run tb orc n) x0 x1 x2  := by kernel_rfl
/-- loop.example/g00133/spec.l1In -/
theorem spec_l1In_eq (n : Nat) (x0 : Int) (x1 : Int) (x2 : Int) : c_spec_l1In (run tb orc (n + 1)) x0 x1 x2 = spec_l1In_f n x0 x1 x2 := by
  rw [spec_l1In_r]
  rfl
noncomputable def spec_GoodWhole_x1 (C0 : Ca tb) (self1 : (Int) → Option Bool) (x0_0 : Bool) (x0_1 : List Int) (v1 : Int) : Option Bool :=
  if v1 < (x0_1.length : Int) then (if 0 ≤ v1 then (if v1 < (x0_1.length : Int) then (c_spec_l1In C0 (x0_1.getD v1.toNat (0:Int)) (0:Int) (268435455:Int)).bind fun (d1 : Bool) => if (!d1) = true then some (false) else if x0_1.getD v1.toNat (0:Int) = (0:Int) then (if v1 = wr .i64 ((x0_1.length : Int) - (1:Int)) then some (false) else self1 (wr .i64 (v1 + (1:Int)))) else self1 (wr .i64 (v1 + (1:Int))) else none) else none) else some (true)
noncomputable def spec_GoodWhole_l1 (C0 : Ca tb) (N0 : Nat) (x0_0 : Bool) (x0_1 : List Int) (m : Nat) (v1 : Int) : Option Bool :=
  loopIt (exec tb C0 85 0 N0 (codeAt [1, 1, 0, 1, 0, 0] (bodyOf Try.f85))) (trim 0 [1, 20, 21, 22] 1) (contAt tb C0 85 0 N0 [1, 1, 0, 1, 0] [] (bodyOf Try.f85) (finish tb 85 Try.f85)) m ⟨[.top, .bptr 0 0, .top, .top, .top, .top, .top, .top, .top, .top, .top, .top, .top, .top, .top, .top, .top, .top, .top, .top, .sl (.int .i64) (x0_1), .int .i64 ((x0_1.length : Int)), .int .i64 (v1), .top, .top, .top, .top, .top, .top, .top, .top, .top, .top, .top, .top, .top, .top, .top, .top, .top, .top, .top, .top], [.box [.bool (x0_0), .sl (.int .i64) (x0_1)]]⟩
noncomputable def spec_GoodWhole_x2 (C0 : Ca tb) (self2 : (Int) → Option Bool) (x0_0 : Bool) (x0_1 : List Int) (v2 : Int) : Option Bool :=
  if v2 < (x0_1.length : Int) then (if 0 ≤ v2 then (if v2 < (x0_1.length : Int) then (c_spec_l1In C0 (x0_1.getD v2.toNat (0:Int)) (0:Int) (268435455:Int)).bind fun (d2 : Bool) => if (!d2) = true then some (false) else if x0_1.getD v2.toNat (0:Int) = (0:Int) then (if v2 = wr .i64 ((x0_1.length : Int) - (1:Int)) then some (false) else self2 (wr .i64 (v2 + (1:Int)))) else self2 (wr .i64 (v2 + (1:Int))) else none) else none) else some (true)
noncomputable def spec_GoodWhole_l2 (C0 : Ca tb) (N0 : Nat) (x0_0 : Bool) (x0_1 : List Int) (m : Nat) (v2 : Int) : Option Bool :=
  loopIt (exec tb C0 85 0 N0 (codeAt [1, 1, 0, 1, 0, 0] (bodyOf Try.f85))) (trim 0 [1, 20, 21, 22] 1) (contAt tb C0 85 0 N0 [1, 1, 0, 1, 0] [] (bodyOf Try.f85) (finish tb 85 Try.f85)) m ⟨[.top, .bptr 0 0, .top, .top, .top, .top, .top, .top, .top, .top, .top, .top, .top, .top, .top, .top, .top, .top, .top, .top, .sl (.int .i64) (x0_1), .int .i64 ((x0_1.length : Int)), .int .i64 (v2), .top, .top, .top, .top, .top, .top, .top, .top, .top, .top, .top, .top, .top, .top, .top, .top, .top, .top, .top, .top], [.box [.bool (x0_0), .sl (.int .i64) (x0_1)]]⟩
noncomputable def spec_GoodWhole_g1 (C0 : Ca tb) (N0 : Nat) (x0_0 : Bool) (x0_1 : List Int) (self1 : (Int) → Option Bool) (v1 : Int) : Option Bool :=
  spec_GoodWhole_x1 C0 self1 x0_0 x0_1 v1
noncomputable def spec_GoodWhole_g2 (C0 : Ca tb) (N0 : Nat) (x0_0 : Bool) (x0_1 : List Int) (self2 : (Int) → Option Bool) (v2 : Int) : Option Bool :=
  spec_GoodWhole_x2 C0 self2 x0_0 x0_1 v2
theorem spec_GoodWhole_s1 (n : Nat) (x0_0 : Bool) (x0_1 : List Int) (m : Nat) (v1 : Int) : (spec_GoodWhole_l1 (run tb orc n) n x0_0 x0_1 (m + 1)) v1 = spec_GoodWhole_x1 (run tb orc n) (spec_GoodWhole_l1 (run tb orc n) n x0_0 x0_1 m) x0_0 x0_1 v1 := by kernel_rfl
theorem spec_GoodWhole_e1 (n : Nat) (x0_0 : Bool) (x0_1 : List Int) : ∀ (m : Nat) (v : Int), (spec_GoodWhole_l1 (run tb orc n) n x0_0 x0_1 m) v = iterO (spec_GoodWhole_g1 (run tb orc n) n x0_0 x0_1 ) m v := by
  refine iterO_eq (fun _ => rfl) fun m v => ?_
  rw [spec_GoodWhole_s1]
  rfl
theorem spec_GoodWhole_s2 (n : Nat) (x0_0 : Bool) (x0_1 : List Int) (m : Nat) (v2 : Int) : (spec_GoodWhole_l2 (run tb orc n) n x0_0 x0_1 (m + 1)) v2 = spec_GoodWhole_x2 (run tb orc n) (spec_GoodWhole_l2 (run tb orc n) n x0_0 x0_1 m) x0_0 x0_1 v2 := by kernel_rfl
theorem spec_GoodWhole_e2 (n : Nat) (x0_0 : Bool) (x0_1 : List Int) : ∀ (m : Nat) (v : Int), (spec_GoodWhole_l2 (run tb orc n) n x0_0 x0_1 m) v = iterO (spec_GoodWhole_g2 (run tb orc n) n x0_0 x0_1 ) m v := by
  refine iterO_eq (fun _ => rfl) fun m v => ?_
  rw [spec_GoodWhole_s2]
  rfl
noncomputable def spec_GoodWhole_x (C0 : Ca tb) (inn1 : (Bool) → (List Int) → (Int) → Option Bool) (inn2 : (Bool) → (List Int) → (Int) → Option Bool) (x0_0 : Bool) (x0_1 : List Int) : Option Bool :=
  if (x0_1.length : Int) > (40:Int) then some (false) else if (x0_1.length : Int) = (0:Int) then (if (x0_0) = true then some (false) else inn1 x0_0 x0_1 ((0:Int))) else inn2 x0_0 x0_1 ((0:Int))
noncomputable def spec_GoodWhole_f (n : Nat) (x0_0 : Bool) (x0_1 : List Int) : Option Bool :=
  spec_GoodWhole_x (run tb orc n) (fun x0_0 x0_1 v => iterO (spec_GoodWhole_g1 (run tb orc n) n x0_0 x0_1 ) n v) (fun x0_0 x0_1 v => iterO (spec_GoodWhole_g2 (run tb orc n) n x0_0 x0_1 ) n v) x0_0 x0_1 
theorem spec_GoodWhole_r (n : Nat) (x0_0 : Bool) (x0_1 : List Int) : c_spec_GoodWhole (run tb orc (n + 1)) x0_0 x0_1 = spec_GoodWhole_x (run tb orc n) (fun x0_0 x0_1 v => (spec_GoodWhole_l1 (run tb orc n) n x0_0 x0_1 n) v) (fun x0_0 x0_1 v => (spec_GoodWhole_l2 (run tb orc n) n x0_0 x0_1 n) v) x0_0 x0_1  := by kernel_rfl
/-- loop.example/g00133/spec.GoodWhole -/
theorem spec_GoodWhole_eq (n : Nat) (x0_0 : Bool) (x0_1 : List Int) : c_spec_GoodWhole (run tb orc (n + 1)) x0_0 x0_1 = spec_GoodWhole_f n x0_0 x0_1 := by
  rw [spec_GoodWhole_r]
  rw [show (fun x0_0 x0_1 v => (spec_GoodWhole_l1 (run tb orc n) n x0_0 x0_1 n) v) = (fun x0_0 x0_1 v => iterO (spec_GoodWhole_g1 (run tb orc n) n x0_0 x0_1 ) n v) from by funext x0_0 x0_1 v; exact spec_GoodWhole_e1 n x0_0 x0_1 _ v]
  rw [show (fun x0_0 x0_1 v => (spec_GoodWhole_l2 (run tb orc n) n x0_0 x0_1 n) v) = (fun x0_0 x0_1 v => iterO (spec_GoodWhole_g2 (run tb orc n) n x0_0 x0_1 ) n v) from by funext x0_0 x0_1 v; exact spec_GoodWhole_e2 n x0_0 x0_1 _ v]
  rfl
noncomputable def spec_l2Out_x (C0 : Ca tb) (x0_0 : Bool) (x0_1 : List Int) : Option ((Bool × List Int) × Bool) :=
  if (x0_1.length : Int) > (40:Int) then some ((false, []), false) else if x0_1.length < lim then (some ((x0_0, x0_1), true)) else none
noncomputable def spec_l2Out_f (n : Nat) (x0_0 : Bool) (x0_1 : List Int) : Option ((Bool × List Int) × Bool) :=
  spec_l2Out_x (run tb orc n) x0_0 x0_1 
theorem spec_l2Out_r (n : Nat) (x0_0 : Bool) (x0_1 : List Int) : c_spec_l2Out (run tb orc (n + 1)) x0_0 x0_1 = spec_l2Out_x (run tb orc n) x0_0 x0_1  := by kernel_rfl
/-- loop.example/g00133/spec.l2Out -/
theorem spec_l2Out_eq (n : Nat) (x0_0 : Bool) (x0_1 : List Int) : c_spec_l2Out (run tb orc (n + 1)) x0_0 x0_1 = spec_l2Out_f n x0_0 x0_1 := by
  rw [spec_l2Out_r]
  rfl
noncomputable def spec_l2Trim_x1 (C0 : Ca tb) (self1 : (List Int) → Option (List Int)) (v1 : List Int) : Option (List Int) :=
  if (v1.length : Int) > (0:Int) then (if 0 ≤ wr .i64 ((v1.length : Int) - (1:Int)) then (if wr .i64 ((v1.length : Int) - (1:Int)) < (v1.length : Int) then (if v1.getD (wr .i64 ((v1.length : Int) - (1:Int))).toNat (0:Int) = (0:Int) then (if 0 ≤ (0:Int) then (if (0:Int) ≤ wr .i64 ((v1.length : Int) - (1:Int)) then (if wr .i64 ((v1.length : Int) - (1:Int)) ≤ (v1.length : Int) then (if (v1.length : Int) ≤ (v1.length : Int) then (self1 ((v1.take (wr .i64 ((v1.length : Int) - (1:Int))).toNat).drop (0:Int).toNat)) else none) else none) else none) else none) else some (v1)) else none) else none) else some (v1)
noncomputable def spec_l2Trim_l1 (C0 : Ca tb) (N0 : Nat) (m : Nat) (v1 : List Int) : Option (List Int) :=
  loopIt (exec tb C0 151 0 N0 (codeAt [1, 0, 0, 0] (bodyOf Try.f151))) (trim 0 [0] 0) (contAt tb C0 151 0 N0 [1, 0, 0] [] (bodyOf Try.f151) (finish tb 151 Try.f151)) m ⟨[.sl (.int .i64) (v1), .top, .top, .top, .top, .top, .top, .top, .top, .top, .top, .top, .top, .top, .top, .top, .top, .top, .top, .top, .top], []⟩
noncomputable def spec_l2Trim_g1 (C0 : Ca tb) (N0 : Nat) (self1 : (List Int) → Option (List Int)) (v1 : List Int) : Option (List Int) :=
  spec_l2Trim_x1 C0 self1 v1
theorem spec_l2Trim_s1 (n : Nat) (m : Nat) (v1 : List Int) : (spec_l2Trim_l1 (run tb orc n) n (m + 1)) v1 = spec_l2Trim_x1 (run tb orc n) (spec_l2Trim_l1 (run tb orc n) n m) v1 := by kernel_rfl
theorem spec_l2Trim_e1 (n : Nat) : ∀ (m : Nat) (v : List Int), (spec_l2Trim_l1 (run tb orc n) n m) v = iterO (spec_l2Trim_g1 (run tb orc n) n ) m v := by
  refine iterO_eq (fun _ => rfl) fun m v => ?_
  rw [spec_l2Trim_s1]
  rfl
noncomputable def spec_l2Trim_x (C0 : Ca tb) (inn1 : (List Int) → Option (List Int)) (x0 : List Int) : Option (List Int) :=
  inn1 (x0)
noncomputable def spec_l2Trim_f (n : Nat) (x0 : List Int) : Option (List Int) :=
  spec_l2Trim_x (run tb orc n) (fun v => iterO (spec_l2Trim_g1 (run tb orc n) n ) n v) x0 
theorem spec_l2Trim_r (n : Nat) (x0 : List Int) : c_spec_l2Trim (run tb orc (n + 1)) x0 = spec_l2Trim_x (run tb orc n) (fun v => (spec_l2Trim_l1 (run tb orc n) n n) v) x0  := by kernel_rfl
/-- loop.example/g00133/spec.l2Trim -/
theorem spec_l2Trim_eq (n : Nat) (x0 : List Int) : c_spec_l2Trim (run tb orc (n + 1)) x0 = spec_l2Trim_f n x0 := by
  rw [spec_l2Trim_r]
  rw [show (fun v => (spec_l2Trim_l1 (run tb orc n) n n) v) = (fun v => iterO (spec_l2Trim_g1 (run tb orc n) n ) n v) from by funext v; exact spec_l2Trim_e1 n _ v]
  rfl
noncomputable def spec_l2Mul_x3 (C0 : Ca tb) (self1 : (Int × List Int) → Option (List Int)) (self3 : (Int × Int × List Int) → Option (List Int)) (x0 : List Int) (x1 : List Int) (v1 : Int × List Int) (v3 : Int × Int × List Int) : Option (List Int) :=
  if v3.1 > (0:Int) then (if 0 ≤ v3.2.1 then (if v3.2.1 < (v3.2.2.length : Int) then (if (268435456:Int) = 0 then none else if 0 ≤ v3.2.1 then (if v3.2.1 < (v3.2.2.length : Int) then (if (268435456:Int) = 0 then none else self3 (wr .i64 ((wr .i64 (v3.1 + (v3.2.2.getD v3.2.1.toNat (0:Int)))).tdiv (268435456:Int)), wr .i64 (v3.2.1 + (1:Int)), v3.2.2.set v3.2.1.toNat ((wr .i64 (v3.1 + (v3.2.2.getD v3.2.1.toNat (0:Int)))).tmod (268435456:Int)))) else none) else none) else none) else none) else self1 (wr .i64 (v1.1 + (1:Int)), v3.2.2)
noncomputable def spec_l2Mul_l3 (C0 : Ca tb) (N0 : Nat) (m1 : Nat) (x0 : List Int) (x1 : List Int) (v1 : Int × List Int) (m : Nat) (v3 : Int × Int × List Int) : Option (List Int) :=
  loopIt (exec tb C0 122 0 N0 (codeAt [1, 1, 0, 1, 0, 0, 1, 1, 0, 0, 1, 1, 1, 1, 0, 0] (bodyOf Try.f122))) (trim 0 [1, 5, 8, 11, 18, 19, 20] 1) (contAt tb C0 122 0 N0 [1, 1, 0, 1, 0, 0, 1, 1, 0, 0, 1, 1, 1, 1, 0] [(m1, trim 0 [1, 5, 18, 19, 20] 1)] (bodyOf Try.f122) (finish tb 122 Try.f122)) m ⟨[.top, .sl (.int .i64) (x1), .top, .top, .top, .osl 0 0, .top, .top, .int .i64 (v3.1), .top, .top, .int .i64 (v3.2.1), .top, .top, .top, .top, .top, .top, .sl (.int .i64) (x0), .int .i64 ((x0.length : Int)), .int .i64 (v1.1), .top, .top, .top, .top, .top, .top, .top, .top, .top, .top, .top, .top, .top, .top, .top, .top, .top, .top, .top, .top, .top, .top, .top, .top, .top, .top, .top, .top, .top, .top, .top, .top, .top, .top, .top, .top, .top, .top, .top, .top, .top, .top, .top, .top, .top, .top, .top, .top, .top, .top, .top, .top, .top, .top, .top, .top, .top], [.arr (.int .i64) (v3.2.2) 0 true]⟩
noncomputable def spec_l2Mul_x2 (C0 : Ca tb) (self1 : (Int × List Int) → Option (List Int)) (self2 : (Int × Int × List Int) → Option (List Int)) (inn3 : (List Int) → (List Int) → (Int × List Int) → (Int × Int × List Int) → Option (List Int)) (x0 : List Int) (x1 : List Int) (v1 : Int × List Int) (v2 : Int × Int × List Int) : Option (List Int) :=
  if v2.2.1 < (x1.length : Int) then (if 0 ≤ v2.2.1 then (if v2.2.1 < (x1.length : Int) then (if 0 ≤ wr .i64 (v1.1 + v2.2.1) then (if wr .i64 (v1.1 + v2.2.1) < (v2.2.2.length : Int) then (if (268435456:Int) = 0 then none else if 0 ≤ wr .i64 (v1.1 + v2.2.1) then (if wr .i64 (v1.1 + v2.2.1) < (v2.2.2.length : Int) then (if (268435456:Int) = 0 then none else self2 (wr .i64 ((wr .i64 (v2.1 + (wr .i64 ((v2.2.2.getD ((wr .i64 (v1.1 + v2.2.1)).toNat) (0:Int)) + (wr .i64 ((x0.getD v1.1.toNat (0:Int)) * (x1.getD v2.2.1.toNat (0:Int)))))))).tdiv (268435456:Int)), wr .i64 (v2.2.1 + (1:Int)), v2.2.2.set ((wr .i64 (v1.1 + v2.2.1)).toNat) ((wr .i64 (v2.1 + (wr .i64 ((v2.2.2.getD ((wr .i64 (v1.1 + v2.2.1)).toNat) (0:Int)) + (wr .i64 ((x0.getD v1.1.toNat (0:Int)) * (x1.getD v2.2.1.toNat (0:Int)))))))).tmod (268435456:Int)))) else none) else none) else none) else none) else none) else none) else inn3 x0 x1 v1 (v2.1, wr .i64 (v1.1 + (x1.length : Int)), v2.2.2)
noncomputable def spec_l2Mul_l2 (C0 : Ca tb) (N0 : Nat) (m1 : Nat) (x0 : List Int) (x1 : List Int) (v1 : Int × List Int) (m : Nat) (v2 : Int × Int × List Int) : Option (List Int) :=
  loopIt (exec tb C0 122 0 N0 (codeAt [1, 1, 0, 1, 0, 0, 1, 1, 0, 0, 1, 1, 0, 1, 0, 0] (bodyOf Try.f122))) (trim 0 [1, 5, 6, 7, 8, 18, 19, 20, 25, 26, 27] 1) (contAt tb C0 122 0 N0 [1, 1, 0, 1, 0, 0, 1, 1, 0, 0, 1, 1, 0, 1, 0] [(m1, trim 0 [1, 5, 18, 19, 20] 1)] (bodyOf Try.f122) (finish tb 122 Try.f122)) m ⟨[.top, .sl (.int .i64) (x1), .top, .top, .top, .osl 0 0, .int .i64 (v1.1), .int .i64 (x0.getD v1.1.toNat (0:Int)), .int .i64 (v2.1), .top, .top, .top, .top, .top, .top, .top, .top, .top, .sl (.int .i64) (x0), .int .i64 ((x0.length : Int)), .int .i64 (v1.1), .top, .top, .top, .top, .sl (.int .i64) (x1), .int .i64 ((x1.length : Int)), .int .i64 (v2.2.1), .top, .top, .top, .top, .top, .top, .top, .top, .top, .top, .top, .top, .top, .top, .top, .top, .top, .top, .top, .top, .top, .top, .top, .top, .top, .top, .top, .top, .top, .top, .top, .top, .top, .top, .top, .top, .top, .top, .top, .top, .top, .top, .top, .top, .top, .top, .top, .top, .top, .top], [.arr (.int .i64) (v2.2.2) 0 true]⟩
noncomputable def spec_l2Mul_x1 (C0 : Ca tb) (self1 : (Int × List Int) → Option (List Int)) (inn2 : (List Int) → (List Int) → (Int × List Int) → (Int × Int × List Int) → Option (List Int)) (x0 : List Int) (x1 : List Int) (v1 : Int × List Int) : Option (List Int) :=
  if v1.1 < (x0.length : Int) then (if 0 ≤ v1.1 then (if v1.1 < (x0.length : Int) then inn2 x0 x1 v1 ((0:Int), (0:Int), v1.2) else none) else none) else (c_spec_l2Trim C0 v1.2).bind fun (d1 : List Int) => some (d1)
noncomputable def spec_l2Mul_l1 (C0 : Ca tb) (N0 : Nat) (x0 : List Int) (x1 : List Int) (m : Nat) (v1 : Int × List Int) : Option (List Int) :=
  loopIt (exec tb C0 122 0 N0 (codeAt [1, 1, 0, 1, 0, 0] (bodyOf Try.f122))) (trim 0 [1, 5, 18, 19, 20] 1) (contAt tb C0 122 0 N0 [1, 1, 0, 1, 0] [] (bodyOf Try.f122) (finish tb 122 Try.f122)) m ⟨[.top, .sl (.int .i64) (x1), .top, .top, .top, .osl 0 0, .top, .top, .top, .top, .top, .top, .top, .top, .top, .top, .top, .top, .sl (.int .i64) (x0), .int .i64 ((x0.length : Int)), .int .i64 (v1.1), .top, .top, .top, .top, .top, .top, .top, .top, .top, .top, .top, .top, .top, .top, .top, .top, .top, .top, .top, .top, .top, .top, .top, .top, .top, .top, .top, .top, .top, .top, .top, .top, .top, .top, .top, .top, .top, .top, .top, .top, .top, .top, .top, .top, .top, .top, .top, .top, .top, .top, .top, .top, .top, .top, .top, .top, .top], [.arr (.int .i64) (v1.2) 0 true]⟩
noncomputable def spec_l2Mul_g3 (C0 : Ca tb) (N0 : Nat) (self1 : (Int × List Int) → Option (List Int)) (x0 : List Int) (x1 : List Int) (v1 : Int × List Int) (self3 : (Int × Int × List Int) → Option (List Int)) (v3 : Int × Int × List Int) : Option (List Int) :=
  spec_l2Mul_x3 C0 self1 self3 x0 x1 v1 v3
noncomputable def spec_l2Mul_g2 (C0 : Ca tb) (N0 : Nat) (self1 : (Int × List Int) → Option (List Int)) (x0 : List Int) (x1 : List Int) (v1 : Int × List Int) (self2 : (Int × Int × List Int) → Option (List Int)) (v2 : Int × Int × List Int) : Option (List Int) :=
  spec_l2Mul_x2 C0 self1 self2 (fun x0 x1 v1 v => iterO (spec_l2Mul_g3 C0 N0 self1 x0 x1 v1 ) N0 v) x0 x1 v1 v2
noncomputable def spec_l2Mul_g1 (C0 : Ca tb) (N0 : Nat) (x0 : List Int) (x1 : List Int) (self1 : (Int × List Int) → Option (List Int)) (v1 : Int × List Int) : Option (List Int) :=
  spec_l2Mul_x1 C0 self1 (fun x0 x1 v1 v => iterO (spec_l2Mul_g2 C0 N0 self1 x0 x1 v1 ) N0 v) x0 x1 v1
theorem spec_l2Mul_s3 (n : Nat) (m1 : Nat) (x0 : List Int) (x1 : List Int) (v1 : Int × List Int) (m : Nat) (v3 : Int × Int × List Int) : (spec_l2Mul_l3 (run tb orc n) n m1 x0 x1 v1 (m + 1)) v3 = spec_l2Mul_x3 (run tb orc n) (spec_l2Mul_l1 (run tb orc n) n x0 x1 m1) (spec_l2Mul_l3 (run tb orc n) n m1 x0 x1 v1 m) x0 x1 v1 v3 := by kernel_rfl
theorem spec_l2Mul_e3 (n : Nat) (m1 : Nat) (x0 : List Int) (x1 : List Int) (v1 : Int × List Int) : ∀ (m : Nat) (v : Int × Int × List Int), (spec_l2Mul_l3 (run tb orc n) n m1 x0 x1 v1 m) v = iterO (spec_l2Mul_g3 (run tb orc n) n (spec_l2Mul_l1 (run tb orc n) n x0 x1 m1) x0 x1 v1 ) m v := by
  refine iterO_eq (fun _ => rfl) fun m v => ?_
  rw [spec_l2Mul_s3]
  rfl
theorem spec_l2Mul_s2 (n : Nat) (m1 : Nat) (x0 : List Int) (x1 : List Int) (v1 : Int × List Int) (m : Nat) (v2 : Int × Int × List Int) : (spec_l2Mul_l2 (run tb orc n) n m1 x0 x1 v1 (m + 1)) v2 = spec_l2Mul_x2 (run tb orc n) (spec_l2Mul_l1 (run tb orc n) n x0 x1 m1) (spec_l2Mul_l2 (run tb orc n) n m1 x0 x1 v1 m) (fun x0 x1 v1 v => (spec_l2Mul_l3 (run tb orc n) n m1 x0 x1 v1 n) v) x0 x1 v1 v2 := by kernel_rfl
theorem spec_l2Mul_e2 (n : Nat) (m1 : Nat) (x0 : List Int) (x1 : List Int) (v1 : Int × List Int) : ∀ (m : Nat) (v : Int × Int × List Int), (spec_l2Mul_l2 (run tb orc n) n m1 x0 x1 v1 m) v = iterO (spec_l2Mul_g2 (run tb orc n) n (spec_l2Mul_l1 (run tb orc n) n x0 x1 m1) x0 x1 v1 ) m v := by
  refine iterO_eq (fun _ => rfl) fun m v => ?_
  rw [spec_l2Mul_s2]
  rw [show (fun x0 x1 v1 v => (spec_l2Mul_l3 (run tb orc n) n m1 x0 x1 v1 n) v) = (fun x0 x1 v1 v => iterO (spec_l2Mul_g3 (run tb orc n) n (spec_l2Mul_l1 (run tb orc n) n x0 x1 m1) x0 x1 v1 ) n v) from by funext x0 x1 v1 v; exact spec_l2Mul_e3 n m1 x0 x1 v1 _ v]
  unfold spec_l2Mul_g2 spec_l2Mul_x2
  rfl
theorem spec_l2Mul_s1 (n : Nat) (x0 : List Int) (x1 : List Int) (m : Nat) (v1 : Int × List Int) : (spec_l2Mul_l1 (run tb orc n) n x0 x1 (m + 1)) v1 = spec_l2Mul_x1 (run tb orc n) (spec_l2Mul_l1 (run tb orc n) n x0 x1 m) (fun x0 x1 v1 v => (spec_l2Mul_l2 (run tb orc n) n m x0 x1 v1 n) v) x0 x1 v1 := by kernel_rfl
theorem spec_l2Mul_e1 (n : Nat) (x0 : List Int) (x1 : List Int) : ∀ (m : Nat) (v : Int × List Int), (spec_l2Mul_l1 (run tb orc n) n x0 x1 m) v = iterO (spec_l2Mul_g1 (run tb orc n) n x0 x1 ) m v := by
  refine iterO_eq (fun _ => rfl) fun m v => ?_
  rw [spec_l2Mul_s1]
  rw [show (fun x0 x1 v1 v => (spec_l2Mul_l2 (run tb orc n) n m x0 x1 v1 n) v) = (fun x0 x1 v1 v => iterO (spec_l2Mul_g2 (run tb orc n) n (spec_l2Mul_l1 (run tb orc n) n x0 x1 m) x0 x1 v1 ) n v) from by funext x0 x1 v1 v; exact spec_l2Mul_e2 n m x0 x1 v1 _ v]
  unfold spec_l2Mul_g1 spec_l2Mul_x1
  rfl
noncomputable def spec_l2Mul_x (C0 : Ca tb) (inn1 : (List Int) → (List Int) → (Int × List Int) → Option (List Int)) (x0 : List Int) (x1 : List Int) : Option (List Int) :=
  if 0 ≤ wr .i64 ((x0.length : Int) + (x1.length : Int)) then (if limB (wr .i64 ((x0.length : Int) + (x1.length : Int))).toNat = true then (inn1 x0 x1 ((0:Int), List.replicate (wr .i64 ((x0.length : Int) + (x1.length : Int))).toNat (0:Int))) else none) else none
noncomputable def spec_l2Mul_f (n : Nat) (x0 : List Int) (x1 : List Int) : Option (List Int) :=
  spec_l2Mul_x (run tb orc n) (fun x0 x1 v => iterO (spec_l2Mul_g1 (run tb orc n) n x0 x1 ) n v) x0 x1 
theorem spec_l2Mul_r (n : Nat) (x0 : List Int) (x1 : List Int) : c_spec_l2Mul (run tb orc (n + 1)) x0 x1 = spec_l2Mul_x (run tb orc n) (fun x0 x1 v => (spec_l2Mul_l1 (run tb orc n) n x0 x1 n) v) x0 x1  := by kernel_rfl
/-- loop.example/g00133/spec.l2Mul -/
theorem spec_l2Mul_eq (n : Nat) (x0 : List Int) (x1 : List Int) : c_spec_l2Mul (run tb orc (n + 1)) x0 x1 = spec_l2Mul_f n x0 x1 := by
  rw [spec_l2Mul_r]
  rw [show (fun x0 x1 v => (spec_l2Mul_l1 (run tb orc n) n x0 x1 n) v) = (fun x0 x1 v => iterO (spec_l2Mul_g1 (run tb orc n) n x0 x1 ) n v) from by funext x0 x1 v; exact spec_l2Mul_e1 n x0 x1 _ v]
  rfl
noncomputable def spec_l2Times_x (C0 : Ca tb) (x0_0 : Bool) (x0_1 : List Int) (x1_0 : Bool) (x1_1 : List Int) : Option (Bool × List Int) :=
  (c_spec_l2Mul C0 x0_1 x1_1).bind fun (d1 : List Int) => if (d1.length : Int) > (0:Int) then some ((x0_0 != x1_0, d1)) else some ((false, d1))
noncomputable def spec_l2Times_f (n : Nat) (x0_0 : Bool) (x0_1 : List Int) (x1_0 : Bool) (x1_1 : List Int) : Option (Bool × List Int) :=
  spec_l2Times_x (run tb orc n) x0_0 x0_1 x1_0 x1_1 
theorem spec_l2Times_r (n : Nat) (x0_0 : Bool) (x0_1 : List Int) (x1_0 : Bool) (x1_1 : List Int) : c_spec_l2Times (run tb orc (n + 1)) x0_0 x0_1 x1_0 x1_1 = spec_l2Times_x (run tb orc n) x0_0 x0_1 x1_0 x1_1  := by kernel_rfl
/-- loop.example/g00133/spec.l2Times -/
theorem spec_l2Times_eq (n : Nat) (x0_0 : Bool) (x0_1 : List Int) (x1_0 : Bool) (x1_1 : List Int) : c_spec_l2Times (run tb orc (n + 1)) x0_0 x0_1 x1_0 x1_1 = spec_l2Times_f n x0_0 x0_1 x1_0 x1_1 := by
  rw [spec_l2Times_r]
  rfl
noncomputable def spec_l2In_x (C0 : Ca tb) (x0_0 : Bool) (x0_1 : List Int) : Option (Bool × List Int) :=
  some ((x0_0, x0_1))
noncomputable def spec_l2In_f (n : Nat) (x0_0 : Bool) (x0_1 : List Int) : Option (Bool × List Int) :=
  spec_l2In_x (run tb orc n) x0_0 x0_1 
theorem spec_l2In_r (n : Nat) (x0_0 : Bool) (x0_1 : List Int) : c_spec_l2In (run tb orc (n + 1)) x0_0 x0_1 = spec_l2In_x (run tb orc n) x0_0 x0_1  := by kernel_rfl
/-- loop.example/g00133/spec.l2In -/
theorem spec_l2In_eq (n : Nat) (x0_0 : Bool) (x0_1 : List Int) : c_spec_l2In (run tb orc (n + 1)) x0_0 x0_1 = spec_l2In_f n x0_0 x0_1 := by
  rw [spec_l2In_r]
  rfl
noncomputable def spec_MulWholes_x (C0 : Ca tb) (x0_0 : Bool) (x0_1 : List Int) (x1_0 : Bool) (x1_1 : List Int) : Option ((Bool × List Int) × Bool) :=
  (c_spec_GoodWhole C0 x0_0 x0_1).bind fun (d1 : Bool) => if (!d1) = true then some ((false, []), false) else (c_spec_GoodWhole C0 x1_0 x1_1).bind fun (d2 : Bool) => if (!d2) = true then some ((false, []), false) else (c_spec_l2In C0 x0_0 x0_1).bind fun (d3 : Bool × List Int) => (c_spec_l2In C0 x1_0 x1_1).bind fun (d4 : Bool × List Int) => (c_spec_l2Times C0 d3.1 d3.2 d4.1 d4.2).bind fun (d5 : Bool × List Int) => (c_spec_l2Out C0 d5.1 d5.2).bind fun (d6 : (Bool × List Int) × Bool) => some ((d6.1.1, d6.1.2), d6.2)
noncomputable def spec_MulWholes_f (n : Nat) (x0_0 : Bool) (x0_1 : List Int) (x1_0 : Bool) (x1_1 : List Int) : Option ((Bool × List Int) × Bool) :=
  spec_MulWholes_x (run tb orc n) x0_0 x0_1 x1_0 x1_1 
theorem spec_MulWholes_r (n : Nat) (x0_0 : Bool) (x0_1 : List Int) (x1_0 : Bool) (x1_1 : List Int) : c_spec_MulWholes (run tb orc (n + 1)) x0_0 x0_1 x1_0 x1_1 = spec_MulWholes_x (run tb orc n) x0_0 x0_1 x1_0 x1_1  := by kernel_rfl
/-- loop.example/g00133/spec.MulWholes -/
theorem spec_MulWholes_eq (n : Nat) (x0_0 : Bool) (x0_1 : List Int) (x1_0 : Bool) (x1_1 : List Int) : c_spec_MulWholes (run tb orc (n + 1)) x0_0 x0_1 x1_0 x1_1 = spec_MulWholes_f n x0_0 x0_1 x1_0 x1_1 := by
  rw [spec_MulWholes_r]
  rfl
end Go.Proofs.Ytnlgciomdghfiaa.Fw
