/- The functions' equations over the interpreter. Printed by fwgen.py. -/
import Derived.Test.YtnlgciomdghfiaaFwZf
import Derived.Test.YtnlgciomdghfiaaFwTok
import Derived.Test.YtnlgciomdghfiaaFwOrc
import Derived.Test.YtnlgciomdghfiaaEqA
import Derived.Test.YtnlgciomdghfiaaEqW
import Derived.KernelRfl
import Derived.Lib.Tables
namespace Go.Proofs.Ytnlgciomdghfiaa.Fw
open Go Go.RowKit
set_option linter.unusedVariables false
set_option maxRecDepth 100000
noncomputable def c_impl_AddWholes (C : Ca tb) (x0_0 : Bool) (x0_1 : List Int) (x1_0 : Bool) (x1_1 : List Int) : Option ((Bool × List Int) × Bool) := C.pure 40 [.agg [.bool (x0_0), .sl (.int .i64) (x0_1)], .agg [.bool (x1_0), .sl (.int .i64) (x1_1)]]
noncomputable def c_impl_addW (C : Ca tb) (x0_0 : Bool) (x0_1 : List Int) (x1_0 : Bool) (x1_1 : List Int) : Option (Bool × List Int) := C.pure 96 [.agg [.bool (x0_0), .sl (.int .i64) (x0_1)], .agg [.bool (x1_0), .sl (.int .i64) (x1_1)]]
noncomputable def c_impl_combined (C : Ca tb) (x0 : List Int) (x1 : List Int) (x2 : Int) : Option (List Int) := C.pure 131 [.sl (.int .i64) (x0), .sl (.int .i64) (x1), .int .i64 (x2)]
noncomputable def c_impl_sizeCmp (C : Ca tb) (x0 : List Int) (x1 : List Int) : Option Int := C.pure 132 [.sl (.int .i64) (x0), .sl (.int .i64) (x1)]
noncomputable def c_cmp_Compare_int (C : Ca tb) (x0 : Int) (x1 : Int) : Option Int := C.pure 155 [.int .i64 (x0), .int .i64 (x1)]
noncomputable def c_cmp_isNaN_int (C : Ca tb) (x0 : Int) : Option Bool := C.pure 164 [.int .i64 (x0)]
noncomputable def c_spec_AddWholes (C : Ca tb) (x0_0 : Bool) (x0_1 : List Int) (x1_0 : Bool) (x1_1 : List Int) : Option ((Bool × List Int) × Bool) := C.pure 39 [.agg [.bool (x0_0), .sl (.int .i64) (x0_1)], .agg [.bool (x1_0), .sl (.int .i64) (x1_1)]]
noncomputable def c_spec_l2Plus (C : Ca tb) (x0_0 : Bool) (x0_1 : List Int) (x1_0 : Bool) (x1_1 : List Int) : Option (Bool × List Int) := C.pure 95 [.agg [.bool (x0_0), .sl (.int .i64) (x0_1)], .agg [.bool (x1_0), .sl (.int .i64) (x1_1)]]
noncomputable def c_spec_l2Sub (C : Ca tb) (x0 : List Int) (x1 : List Int) : Option (List Int) := C.pure 130 [.sl (.int .i64) (x0), .sl (.int .i64) (x1)]
noncomputable def c_spec_l2Cmp (C : Ca tb) (x0 : List Int) (x1 : List Int) : Option Int := C.pure 129 [.sl (.int .i64) (x0), .sl (.int .i64) (x1)]
noncomputable def c_spec_l2Add (C : Ca tb) (x0 : List Int) (x1 : List Int) : Option (List Int) := C.pure 128 [.sl (.int .i64) (x0), .sl (.int .i64) (x1)]
noncomputable def impl_combined_x1 (C0 : Ca tb) (self1 : (Int × Int × List Int) → Option (List Int)) (x0 : List Int) (x1 : List Int) (x2 : Int) (v1 : Int × Int × List Int) : Option (List Int) :=
  if v1.2.1 < mx (x0.length : Int) (x1.length : Int) then (if v1.2.1 < (x0.length : Int) then (if 0 ≤ v1.2.1 then (if v1.2.1 < (x0.length : Int) then (if v1.2.1 < (x1.length : Int) then (if 0 ≤ v1.2.1 then (if v1.2.1 < (x1.length : Int) then (if v1.2.2.length + ([Go.bits .and .i64 (wr .i64 ((wr .i64 (v1.1 + (x0.getD v1.2.1.toNat (0:Int)))) + (wr .i64 (x2 * (x1.getD v1.2.1.toNat (0:Int)))))) (268435455:Int)]).length < lim then (if (28:Int) < 0 then none else self1 (shr .i64 (wr .i64 ((wr .i64 (v1.1 + (x0.getD v1.2.1.toNat (0:Int)))) + (wr .i64 (x2 * (x1.getD v1.2.1.toNat (0:Int)))))) (28:Int), wr .i64 (v1.2.1 + (1:Int)), v1.2.2 ++ ([Go.bits .and .i64 (wr .i64 ((wr .i64 (v1.1 + (x0.getD v1.2.1.toNat (0:Int)))) + (wr .i64 (x2 * (x1.getD v1.2.1.toNat (0:Int)))))) (268435455:Int)]))) else none) else none) else none) else if v1.2.2.length + ([Go.bits .and .i64 (wr .i64 (v1.1 + (x0.getD v1.2.1.toNat (0:Int)))) (268435455:Int)]).length < lim then (if (28:Int) < 0 then none else self1 (shr .i64 (wr .i64 (v1.1 + (x0.getD v1.2.1.toNat (0:Int)))) (28:Int), wr .i64 (v1.2.1 + (1:Int)), v1.2.2 ++ ([Go.bits .and .i64 (wr .i64 (v1.1 + (x0.getD v1.2.1.toNat (0:Int)))) (268435455:Int)]))) else none) else none) else none) else if v1.2.1 < (x1.length : Int) then (if 0 ≤ v1.2.1 then (if v1.2.1 < (x1.length : Int) then (if v1.2.2.length + ([Go.bits .and .i64 (wr .i64 (v1.1 + (wr .i64 (x2 * (x1.getD v1.2.1.toNat (0:Int)))))) (268435455:Int)]).length < lim then (if (28:Int) < 0 then none else self1 (shr .i64 (wr .i64 (v1.1 + (wr .i64 (x2 * (x1.getD v1.2.1.toNat (0:Int)))))) (28:Int), wr .i64 (v1.2.1 + (1:Int)), v1.2.2 ++ ([Go.bits .and .i64 (wr .i64 (v1.1 + (wr .i64 (x2 * (x1.getD v1.2.1.toNat (0:Int)))))) (268435455:Int)]))) else none) else none) else none) else if v1.2.2.length + ([Go.bits .and .i64 v1.1 (268435455:Int)]).length < lim then (if (28:Int) < 0 then none else self1 (shr .i64 v1.1 (28:Int), wr .i64 (v1.2.1 + (1:Int)), v1.2.2 ++ ([Go.bits .and .i64 v1.1 (268435455:Int)]))) else none) else if v1.2.2.length + ([v1.1]).length < lim then (some (v1.2.2 ++ ([v1.1]))) else none
noncomputable def impl_combined_l1 (C0 : Ca tb) (N0 : Nat) (x0 : List Int) (x1 : List Int) (x2 : Int) (m : Nat) (v1 : Int × Int × List Int) : Option (List Int) :=
  loopIt (exec tb C0 131 0 N0 (codeAt [1, 1, 0, 1, 0, 0] (bodyOf Try.f131))) (trim 0 [0, 1, 2, 7, 8, 15, 16] 1) (contAt tb C0 131 0 N0 [1, 1, 0, 1, 0] [] (bodyOf Try.f131) (finish tb 131 Try.f131)) m ⟨[.sl (.int .i64) (x0), .sl (.int .i64) (x1), .int .i64 (x2), .top, .top, .top, .top, .osl 0 0, .int .i64 (v1.1), .top, .top, .top, .top, .top, .top, .int .i64 (mx (x0.length : Int) (x1.length : Int)), .int .i64 (v1.2.1), .top, .top, .top, .top, .top, .top, .top, .top, .top, .top, .top, .top, .top, .top, .top, .top, .top, .top, .top, .top, .top, .top, .top, .top, .top, .top, .top, .top, .top, .top, .top, .top, .top, .top, .top, .top], [.arr (.int .i64) (v1.2.2) 0 true]⟩
noncomputable def impl_combined_g1 (C0 : Ca tb) (N0 : Nat) (x0 : List Int) (x1 : List Int) (x2 : Int) (self1 : (Int × Int × List Int) → Option (List Int)) (v1 : Int × Int × List Int) : Option (List Int) :=
  impl_combined_x1 C0 self1 x0 x1 x2 v1
theorem impl_combined_s1 (n : Nat) (x0 : List Int) (x1 : List Int) (x2 : Int) (m : Nat) (v1 : Int × Int × List Int) : (impl_combined_l1 (run tb orc n) n x0 x1 x2 (m + 1)) v1 = impl_combined_x1 (run tb orc n) (impl_combined_l1 (run tb orc n) n x0 x1 x2 m) x0 x1 x2 v1 := by kernel_rfl
theorem impl_combined_e1 (n : Nat) (x0 : List Int) (x1 : List Int) (x2 : Int) : ∀ (m : Nat) (v : Int × Int × List Int), (impl_combined_l1 (run tb orc n) n x0 x1 x2 m) v = iterO (impl_combined_g1 (run tb orc n) n x0 x1 x2 ) m v := by
  refine iterO_eq (fun _ => rfl) fun m v => ?_
  rw [impl_combined_s1]
  rfl
noncomputable def impl_combined_x (C0 : Ca tb) (inn1 : (List Int) → (List Int) → (Int) → (Int × Int × List Int) → Option (List Int)) (x0 : List Int) (x1 : List Int) (x2 : Int) : Option (List Int) :=
  inn1 x0 x1 x2 ((0:Int), (0:Int), [])
noncomputable def impl_combined_f (n : Nat) (x0 : List Int) (x1 : List Int) (x2 : Int) : Option (List Int) :=
  impl_combined_x (run tb orc n) (fun x0 x1 x2 v => iterO (impl_combined_g1 (run tb orc n) n x0 x1 x2 ) n v) x0 x1 x2 
theorem impl_combined_r (n : Nat) (x0 : List Int) (x1 : List Int) (x2 : Int) : c_impl_combined (run tb orc (n + 1)) x0 x1 x2 = impl_combined_x (run tb orc n) (fun x0 x1 x2 v => (impl_combined_l1 (run tb orc n) n x0 x1 x2 n) v) x0 x1 x2  := by kernel_rfl
/-- loop.example/g00133/impl.combined -/
theorem impl_combined_eq (n : Nat) (x0 : List Int) (x1 : List Int) (x2 : Int) : c_impl_combined (run tb orc (n + 1)) x0 x1 x2 = impl_combined_f n x0 x1 x2 := by
  rw [impl_combined_r]
  rw [show (fun x0 x1 x2 v => (impl_combined_l1 (run tb orc n) n x0 x1 x2 n) v) = (fun x0 x1 x2 v => iterO (impl_combined_g1 (run tb orc n) n x0 x1 x2 ) n v) from by funext x0 x1 x2 v; exact impl_combined_e1 n x0 x1 x2 _ v]
  rfl
noncomputable def cmp_isNaN_int_x (C0 : Ca tb) (x0 : Int) : Option Bool :=
  some (!decide (x0 = x0))
noncomputable def cmp_isNaN_int_f (n : Nat) (x0 : Int) : Option Bool :=
  cmp_isNaN_int_x (run tb orc n) x0 
theorem cmp_isNaN_int_r (n : Nat) (x0 : Int) : c_cmp_isNaN_int (run tb orc (n + 1)) x0 = cmp_isNaN_int_x (run tb orc n) x0  := by kernel_rfl
/-- cmp.isNaN[int] -/
theorem cmp_isNaN_int_eq (n : Nat) (x0 : Int) : c_cmp_isNaN_int (run tb orc (n + 1)) x0 = cmp_isNaN_int_f n x0 := by
  rw [cmp_isNaN_int_r]
  rfl
noncomputable def cmp_Compare_int_x (C0 : Ca tb) (x0 : Int) (x1 : Int) : Option Int :=
  (c_cmp_isNaN_int C0 x0).bind fun (d1 : Bool) => (c_cmp_isNaN_int C0 x1).bind fun (d2 : Bool) => if (d1) = true then (if (d2) = true then some ((0:Int)) else some ((-1:Int))) else if (d2) = true then some ((1:Int)) else if x0 < x1 then some ((-1:Int)) else if x0 > x1 then some ((1:Int)) else some ((0:Int))
noncomputable def cmp_Compare_int_f (n : Nat) (x0 : Int) (x1 : Int) : Option Int :=
  cmp_Compare_int_x (run tb orc n) x0 x1 
theorem cmp_Compare_int_r (n : Nat) (x0 : Int) (x1 : Int) : c_cmp_Compare_int (run tb orc (n + 1)) x0 x1 = cmp_Compare_int_x (run tb orc n) x0 x1  := by kernel_rfl
/-- cmp.Compare[int] -/
theorem cmp_Compare_int_eq (n : Nat) (x0 : Int) (x1 : Int) : c_cmp_Compare_int (run tb orc (n + 1)) x0 x1 = cmp_Compare_int_f n x0 x1 := by
  rw [cmp_Compare_int_r]
  rfl
noncomputable def impl_sizeCmp_x1 (C0 : Ca tb) (self1 : (Int) → Option Int) (x0 : List Int) (x1 : List Int) (v1 : Int) : Option Int :=
  if v1 ≥ (0:Int) then (if 0 ≤ v1 then (if v1 < (x0.length : Int) then (if 0 ≤ v1 then (if v1 < (x1.length : Int) then (if x0.getD v1.toNat (0:Int) = x1.getD v1.toNat (0:Int) then self1 (wr .i64 (v1 - (1:Int))) else if 0 ≤ v1 then (if v1 < (x0.length : Int) then (if 0 ≤ v1 then (if v1 < (x1.length : Int) then (c_cmp_Compare_int C0 (x0.getD v1.toNat (0:Int)) (x1.getD v1.toNat (0:Int))).bind fun (d1 : Int) => some (d1) else none) else none) else none) else none) else none) else none) else none) else none) else some ((0:Int))
noncomputable def impl_sizeCmp_l1 (C0 : Ca tb) (N0 : Nat) (x0 : List Int) (x1 : List Int) (m : Nat) (v1 : Int) : Option Int :=
  loopIt (exec tb C0 132 0 N0 (codeAt [1, 1, 0, 1, 0, 0] (bodyOf Try.f132))) (trim 0 [0, 1, 5] 0) (contAt tb C0 132 0 N0 [1, 1, 0, 1, 0] [] (bodyOf Try.f132) (finish tb 132 Try.f132)) m ⟨[.sl (.int .i64) (x0), .sl (.int .i64) (x1), .top, .top, .top, .int .i64 (v1), .top, .top, .top, .top, .top, .top, .top, .top, .top, .top, .top, .top, .top, .top, .top, .top, .top, .top, .top, .top, .top, .top, .top, .top, .top, .top, .top, .top, .top, .top, .top, .top, .top, .top, .top], []⟩
noncomputable def impl_sizeCmp_g1 (C0 : Ca tb) (N0 : Nat) (x0 : List Int) (x1 : List Int) (self1 : (Int) → Option Int) (v1 : Int) : Option Int :=
  impl_sizeCmp_x1 C0 self1 x0 x1 v1
theorem impl_sizeCmp_s1 (n : Nat) (x0 : List Int) (x1 : List Int) (m : Nat) (v1 : Int) : (impl_sizeCmp_l1 (run tb orc n) n x0 x1 (m + 1)) v1 = impl_sizeCmp_x1 (run tb orc n) (impl_sizeCmp_l1 (run tb orc n) n x0 x1 m) x0 x1 v1 := by kernel_rfl
theorem impl_sizeCmp_e1 (n : Nat) (x0 : List Int) (x1 : List Int) : ∀ (m : Nat) (v : Int), (impl_sizeCmp_l1 (run tb orc n) n x0 x1 m) v = iterO (impl_sizeCmp_g1 (run tb orc n) n x0 x1 ) m v := by
  refine iterO_eq (fun _ => rfl) fun m v => ?_
  rw [impl_sizeCmp_s1]
  rfl
noncomputable def impl_sizeCmp_x (C0 : Ca tb) (inn1 : (List Int) → (List Int) → (Int) → Option Int) (x0 : List Int) (x1 : List Int) : Option Int :=
  if (x0.length : Int) = (x1.length : Int) then inn1 x0 x1 (wr .i64 ((x0.length : Int) - (1:Int))) else (c_cmp_Compare_int C0 (x0.length : Int) (x1.length : Int)).bind fun (d2 : Int) => some (d2)
noncomputable def impl_sizeCmp_f (n : Nat) (x0 : List Int) (x1 : List Int) : Option Int :=
  impl_sizeCmp_x (run tb orc n) (fun x0 x1 v => iterO (impl_sizeCmp_g1 (run tb orc n) n x0 x1 ) n v) x0 x1 
theorem impl_sizeCmp_r (n : Nat) (x0 : List Int) (x1 : List Int) : c_impl_sizeCmp (run tb orc (n + 1)) x0 x1 = impl_sizeCmp_x (run tb orc n) (fun x0 x1 v => (impl_sizeCmp_l1 (run tb orc n) n x0 x1 n) v) x0 x1  := by kernel_rfl
/-- loop.example/g00133/impl.sizeCmp -/
theorem impl_sizeCmp_eq (n : Nat) (x0 : List Int) (x1 : List Int) : c_impl_sizeCmp (run tb orc (n + 1)) x0 x1 = impl_sizeCmp_f n x0 x1 := by
  rw [impl_sizeCmp_r]
  rw [show (fun x0 x1 v => (impl_sizeCmp_l1 (run tb orc n) n x0 x1 n) v) = (fun x0 x1 v => iterO (impl_sizeCmp_g1 (run tb orc n) n x0 x1 ) n v) from by funext x0 x1 v; exact impl_sizeCmp_e1 n x0 x1 _ v]
  rfl
noncomputable def impl_addW_x (C0 : Ca tb) (x0_0 : Bool) (x0_1 : List Int) (x1_0 : Bool) (x1_1 : List Int) : Option (Bool × List Int) :=
  if (x0_0 == x1_0) = true then (c_impl_combined C0 x0_1 x1_1 (1:Int)).bind fun (d1 : List Int) => (c_impl_trimmed C0 x0_0 d1).bind fun (d2 : Bool × List Int) => some ((d2.1, d2.2)) else (c_impl_sizeCmp C0 x0_1 x1_1).bind fun (d3 : Int) => if d3 ≥ (0:Int) then (c_impl_combined C0 x0_1 x1_1 (-1:Int)).bind fun (d4 : List Int) => (c_impl_trimmed C0 x0_0 d4).bind fun (d5 : Bool × List Int) => some ((d5.1, d5.2)) else (c_impl_combined C0 x1_1 x0_1 (-1:Int)).bind fun (d6 : List Int) => (c_impl_trimmed C0 x1_0 d6).bind fun (d7 : Bool × List Int) => some ((d7.1, d7.2))
noncomputable def impl_addW_f (n : Nat) (x0_0 : Bool) (x0_1 : List Int) (x1_0 : Bool) (x1_1 : List Int) : Option (Bool × List Int) :=
  impl_addW_x (run tb orc n) x0_0 x0_1 x1_0 x1_1 
theorem impl_addW_r (n : Nat) (x0_0 : Bool) (x0_1 : List Int) (x1_0 : Bool) (x1_1 : List Int) : c_impl_addW (run tb orc (n + 1)) x0_0 x0_1 x1_0 x1_1 = impl_addW_x (run tb orc n) x0_0 x0_1 x1_0 x1_1  := by kernel_rfl
/-- loop.example/g00133/impl.addW -/
theorem impl_addW_eq (n : Nat) (x0_0 : Bool) (x0_1 : List Int) (x1_0 : Bool) (x1_1 : List Int) : c_impl_addW (run tb orc (n + 1)) x0_0 x0_1 x1_0 x1_1 = impl_addW_f n x0_0 x0_1 x1_0 x1_1 := by
  rw [impl_addW_r]
  rfl
noncomputable def impl_AddWholes_x (C0 : Ca tb) (x0_0 : Bool) (x0_1 : List Int) (x1_0 : Bool) (x1_1 : List Int) : Option ((Bool × List Int) × Bool) :=
  (c_impl_GoodWhole C0 x0_0 x0_1).bind fun (d1 : Bool) => if (!d1) = true then some ((false, []), false) else (c_impl_GoodWhole C0 x1_0 x1_1).bind fun (d2 : Bool) => if (!d2) = true then some ((false, []), false) else (c_impl_addW C0 x0_0 x0_1 x1_0 x1_1).bind fun (d3 : Bool × List Int) => (c_impl_kept C0 d3.1 d3.2).bind fun (d4 : (Bool × List Int) × Bool) => some ((d4.1.1, d4.1.2), d4.2)
noncomputable def impl_AddWholes_f (n : Nat) (x0_0 : Bool) (x0_1 : List Int) (x1_0 : Bool) (x1_1 : List Int) : Option ((Bool × List Int) × Bool) :=
  impl_AddWholes_x (run tb orc n) x0_0 x0_1 x1_0 x1_1 
theorem impl_AddWholes_r (n : Nat) (x0_0 : Bool) (x0_1 : List Int) (x1_0 : Bool) (x1_1 : List Int) : c_impl_AddWholes (run tb orc (n + 1)) x0_0 x0_1 x1_0 x1_1 = impl_AddWholes_x (run tb orc n) x0_0 x0_1 x1_0 x1_1  := by kernel_rfl
/-- loop.example/g00133/impl.AddWholes -/
theorem impl_AddWholes_eq (n : Nat) (x0_0 : Bool) (x0_1 : List Int) (x1_0 : Bool) (x1_1 : List Int) : c_impl_AddWholes (run tb orc (n + 1)) x0_0 x0_1 x1_0 x1_1 = impl_AddWholes_f n x0_0 x0_1 x1_0 x1_1 := by
  rw [impl_AddWholes_r]
  rfl
noncomputable def spec_l2Add_x1 (C0 : Ca tb) (self1 : (Int × Int × List Int) → Option (List Int)) (x0 : List Int) (x1 : List Int) (v1 : Int × Int × List Int) : Option (List Int) :=
  if v1.2.1 < (x0.length : Int) then (if v1.2.1 < (x0.length : Int) then (if 0 ≤ v1.2.1 then (if v1.2.1 < (x0.length : Int) then (if v1.2.1 < (x1.length : Int) then (if 0 ≤ v1.2.1 then (if v1.2.1 < (x1.length : Int) then (if (268435456:Int) = 0 then none else if v1.2.2.length + ([(wr .i64 ((wr .i64 (v1.1 + (x0.getD v1.2.1.toNat (0:Int)))) + (x1.getD v1.2.1.toNat (0:Int)))).tmod (268435456:Int)]).length < lim then (if (268435456:Int) = 0 then none else self1 (wr .i64 ((wr .i64 ((wr .i64 (v1.1 + (x0.getD v1.2.1.toNat (0:Int)))) + (x1.getD v1.2.1.toNat (0:Int)))).tdiv (268435456:Int)), wr .i64 (v1.2.1 + (1:Int)), v1.2.2 ++ ([(wr .i64 ((wr .i64 (v1.1 + (x0.getD v1.2.1.toNat (0:Int)))) + (x1.getD v1.2.1.toNat (0:Int)))).tmod (268435456:Int)]))) else none) else none) else none) else if (268435456:Int) = 0 then none else if v1.2.2.length + ([(wr .i64 (v1.1 + (x0.getD v1.2.1.toNat (0:Int)))).tmod (268435456:Int)]).length < lim then (if (268435456:Int) = 0 then none else self1 (wr .i64 ((wr .i64 (v1.1 + (x0.getD v1.2.1.toNat (0:Int)))).tdiv (268435456:Int)), wr .i64 (v1.2.1 + (1:Int)), v1.2.2 ++ ([(wr .i64 (v1.1 + (x0.getD v1.2.1.toNat (0:Int)))).tmod (268435456:Int)]))) else none) else none) else none) else if v1.2.1 < (x1.length : Int) then (if 0 ≤ v1.2.1 then (if v1.2.1 < (x1.length : Int) then (if (268435456:Int) = 0 then none else if v1.2.2.length + ([(wr .i64 (v1.1 + (x1.getD v1.2.1.toNat (0:Int)))).tmod (268435456:Int)]).length < lim then (if (268435456:Int) = 0 then none else self1 (wr .i64 ((wr .i64 (v1.1 + (x1.getD v1.2.1.toNat (0:Int)))).tdiv (268435456:Int)), wr .i64 (v1.2.1 + (1:Int)), v1.2.2 ++ ([(wr .i64 (v1.1 + (x1.getD v1.2.1.toNat (0:Int)))).tmod (268435456:Int)]))) else none) else none) else none) else if (268435456:Int) = 0 then none else if v1.2.2.length + ([v1.1.tmod (268435456:Int)]).length < lim then (if (268435456:Int) = 0 then none else self1 (wr .i64 (v1.1.tdiv (268435456:Int)), wr .i64 (v1.2.1 + (1:Int)), v1.2.2 ++ ([v1.1.tmod (268435456:Int)]))) else none) else if v1.2.1 < (x1.length : Int) then (if v1.2.1 < (x0.length : Int) then (if 0 ≤ v1.2.1 then (if v1.2.1 < (x0.length : Int) then (if v1.2.1 < (x1.length : Int) then (if 0 ≤ v1.2.1 then (if v1.2.1 < (x1.length : Int) then (if (268435456:Int) = 0 then none else if v1.2.2.length + ([(wr .i64 ((wr .i64 (v1.1 + (x0.getD v1.2.1.toNat (0:Int)))) + (x1.getD v1.2.1.toNat (0:Int)))).tmod (268435456:Int)]).length < lim then (if (268435456:Int) = 0 then none else self1 (wr .i64 ((wr .i64 ((wr .i64 (v1.1 + (x0.getD v1.2.1.toNat (0:Int)))) + (x1.getD v1.2.1.toNat (0:Int)))).tdiv (268435456:Int)), wr .i64 (v1.2.1 + (1:Int)), v1.2.2 ++ ([(wr .i64 ((wr .i64 (v1.1 + (x0.getD v1.2.1.toNat (0:Int)))) + (x1.getD v1.2.1.toNat (0:Int)))).tmod (268435456:Int)]))) else none) else none) else none) else if (268435456:Int) = 0 then none else if v1.2.2.length + ([(wr .i64 (v1.1 + (x0.getD v1.2.1.toNat (0:Int)))).tmod (268435456:Int)]).length < lim then (if (268435456:Int) = 0 then none else self1 (wr .i64 ((wr .i64 (v1.1 + (x0.getD v1.2.1.toNat (0:Int)))).tdiv (268435456:Int)), wr .i64 (v1.2.1 + (1:Int)), v1.2.2 ++ ([(wr .i64 (v1.1 + (x0.getD v1.2.1.toNat (0:Int)))).tmod (268435456:Int)]))) else none) else none) else none) else if v1.2.1 < (x1.length : Int) then (if 0 ≤ v1.2.1 then (if v1.2.1 < (x1.length : Int) then (if (268435456:Int) = 0 then none else if v1.2.2.length + ([(wr .i64 (v1.1 + (x1.getD v1.2.1.toNat (0:Int)))).tmod (268435456:Int)]).length < lim then (if (268435456:Int) = 0 then none else self1 (wr .i64 ((wr .i64 (v1.1 + (x1.getD v1.2.1.toNat (0:Int)))).tdiv (268435456:Int)), wr .i64 (v1.2.1 + (1:Int)), v1.2.2 ++ ([(wr .i64 (v1.1 + (x1.getD v1.2.1.toNat (0:Int)))).tmod (268435456:Int)]))) else none) else none) else none) else if (268435456:Int) = 0 then none else if v1.2.2.length + ([v1.1.tmod (268435456:Int)]).length < lim then (if (268435456:Int) = 0 then none else self1 (wr .i64 (v1.1.tdiv (268435456:Int)), wr .i64 (v1.2.1 + (1:Int)), v1.2.2 ++ ([v1.1.tmod (268435456:Int)]))) else none) else if v1.1 > (0:Int) then (if v1.2.1 < (x0.length : Int) then (if 0 ≤ v1.2.1 then (if v1.2.1 < (x0.length : Int) then (if v1.2.1 < (x1.length : Int) then (if 0 ≤ v1.2.1 then (if v1.2.1 < (x1.length : Int) then (if (268435456:Int) = 0 then none else if v1.2.2.length + ([(wr .i64 ((wr .i64 (v1.1 + (x0.getD v1.2.1.toNat (0:Int)))) + (x1.getD v1.2.1.toNat (0:Int)))).tmod (268435456:Int)]).length < lim then (if (268435456:Int) = 0 then none else self1 (wr .i64 ((wr .i64 ((wr .i64 (v1.1 + (x0.getD v1.2.1.toNat (0:Int)))) + (x1.getD v1.2.1.toNat (0:Int)))).tdiv (268435456:Int)), wr .i64 (v1.2.1 + (1:Int)), v1.2.2 ++ ([(wr .i64 ((wr .i64 (v1.1 + (x0.getD v1.2.1.toNat (0:Int)))) + (x1.getD v1.2.1.toNat (0:Int)))).tmod (268435456:Int)]))) else none) else none) else none) else if (268435456:Int) = 0 then none else if v1.2.2.length + ([(wr .i64 (v1.1 + (x0.getD v1.2.1.toNat (0:Int)))).tmod (268435456:Int)]).length < lim then (if (268435456:Int) = 0 then none else self1 (wr .i64 ((wr .i64 (v1.1 + (x0.getD v1.2.1.toNat (0:Int)))).tdiv (268435456:Int)), wr .i64 (v1.2.1 + (1:Int)), v1.2.2 ++ ([(wr .i64 (v1.1 + (x0.getD v1.2.1.toNat (0:Int)))).tmod (268435456:Int)]))) else none) else none) else none) else if v1.2.1 < (x1.length : Int) then (if 0 ≤ v1.2.1 then (if v1.2.1 < (x1.length : Int) then (if (268435456:Int) = 0 then none else if v1.2.2.length + ([(wr .i64 (v1.1 + (x1.getD v1.2.1.toNat (0:Int)))).tmod (268435456:Int)]).length < lim then (if (268435456:Int) = 0 then none else self1 (wr .i64 ((wr .i64 (v1.1 + (x1.getD v1.2.1.toNat (0:Int)))).tdiv (268435456:Int)), wr .i64 (v1.2.1 + (1:Int)), v1.2.2 ++ ([(wr .i64 (v1.1 + (x1.getD v1.2.1.toNat (0:Int)))).tmod (268435456:Int)]))) else none) else none) else none) else if (268435456:Int) = 0 then none else if v1.2.2.length + ([v1.1.tmod (268435456:Int)]).length < lim then (if (268435456:Int) = 0 then none else self1 (wr .i64 (v1.1.tdiv (268435456:Int)), wr .i64 (v1.2.1 + (1:Int)), v1.2.2 ++ ([v1.1.tmod (268435456:Int)]))) else none) else (c_spec_l2Trim C0 v1.2.2).bind fun (d1 : List Int) => some (d1)
noncomputable def spec_l2Add_l1 (C0 : Ca tb) (N0 : Nat) (x0 : List Int) (x1 : List Int) (m : Nat) (v1 : Int × Int × List Int) : Option (List Int) :=
  loopIt (exec tb C0 128 0 N0 (codeAt [1, 1, 1, 0, 1, 0, 0] (bodyOf Try.f128))) (trim 0 [0, 1, 5, 6, 7] 1) (contAt tb C0 128 0 N0 [1, 1, 1, 0, 1, 0] [] (bodyOf Try.f128) (finish tb 128 Try.f128)) m ⟨[.sl (.int .i64) (x0), .sl (.int .i64) (x1), .top, .top, .top, .osl 0 0, .int .i64 (v1.1), .int .i64 (v1.2.1), .top, .top, .top, .top, .top, .top, .top, .top, .top, .top, .top, .top, .top, .top, .top, .top, .top, .top, .top, .top, .top, .top, .top, .top, .top, .top, .top, .top, .top, .top, .top, .top, .top, .top, .top, .top, .top, .top, .top, .top, .top, .top, .top, .top, .top], [.arr (.int .i64) (v1.2.2) 0 true]⟩
noncomputable def spec_l2Add_g1 (C0 : Ca tb) (N0 : Nat) (x0 : List Int) (x1 : List Int) (self1 : (Int × Int × List Int) → Option (List Int)) (v1 : Int × Int × List Int) : Option (List Int) :=
  spec_l2Add_x1 C0 self1 x0 x1 v1
theorem spec_l2Add_s1 (n : Nat) (x0 : List Int) (x1 : List Int) (m : Nat) (v1 : Int × Int × List Int) : (spec_l2Add_l1 (run tb orc n) n x0 x1 (m + 1)) v1 = spec_l2Add_x1 (run tb orc n) (spec_l2Add_l1 (run tb orc n) n x0 x1 m) x0 x1 v1 := by kernel_rfl
theorem spec_l2Add_e1 (n : Nat) (x0 : List Int) (x1 : List Int) : ∀ (m : Nat) (v : Int × Int × List Int), (spec_l2Add_l1 (run tb orc n) n x0 x1 m) v = iterO (spec_l2Add_g1 (run tb orc n) n x0 x1 ) m v := by
  refine iterO_eq (fun _ => rfl) fun m v => ?_
  rw [spec_l2Add_s1]
  rfl
noncomputable def spec_l2Add_x (C0 : Ca tb) (inn1 : (List Int) → (List Int) → (Int × Int × List Int) → Option (List Int)) (x0 : List Int) (x1 : List Int) : Option (List Int) :=
  inn1 x0 x1 ((0:Int), (0:Int), [])
noncomputable def spec_l2Add_f (n : Nat) (x0 : List Int) (x1 : List Int) : Option (List Int) :=
  spec_l2Add_x (run tb orc n) (fun x0 x1 v => iterO (spec_l2Add_g1 (run tb orc n) n x0 x1 ) n v) x0 x1 
theorem spec_l2Add_r (n : Nat) (x0 : List Int) (x1 : List Int) : c_spec_l2Add (run tb orc (n + 1)) x0 x1 = spec_l2Add_x (run tb orc n) (fun x0 x1 v => (spec_l2Add_l1 (run tb orc n) n x0 x1 n) v) x0 x1  := by kernel_rfl
/-- loop.example/g00133/spec.l2Add -/
theorem spec_l2Add_eq (n : Nat) (x0 : List Int) (x1 : List Int) : c_spec_l2Add (run tb orc (n + 1)) x0 x1 = spec_l2Add_f n x0 x1 := by
  rw [spec_l2Add_r]
  rw [show (fun x0 x1 v => (spec_l2Add_l1 (run tb orc n) n x0 x1 n) v) = (fun x0 x1 v => iterO (spec_l2Add_g1 (run tb orc n) n x0 x1 ) n v) from by funext x0 x1 v; exact spec_l2Add_e1 n x0 x1 _ v]
  rfl
noncomputable def spec_l2Cmp_x1 (C0 : Ca tb) (self1 : (Int) → Option Int) (x0 : List Int) (x1 : List Int) (v1 : Int) : Option Int :=
  if v1 ≥ (0:Int) then (if 0 ≤ v1 then (if v1 < (x0.length : Int) then (if 0 ≤ v1 then (if v1 < (x1.length : Int) then (if x0.getD v1.toNat (0:Int) < x1.getD v1.toNat (0:Int) then some ((-1:Int)) else if 0 ≤ v1 then (if v1 < (x0.length : Int) then (if 0 ≤ v1 then (if v1 < (x1.length : Int) then (if x0.getD v1.toNat (0:Int) > x1.getD v1.toNat (0:Int) then some ((1:Int)) else self1 (wr .i64 (v1 - (1:Int)))) else none) else none) else none) else none) else none) else none) else none) else none) else some ((0:Int))
noncomputable def spec_l2Cmp_l1 (C0 : Ca tb) (N0 : Nat) (x0 : List Int) (x1 : List Int) (m : Nat) (v1 : Int) : Option Int :=
  loopIt (exec tb C0 129 0 N0 (codeAt [1, 1, 0, 1, 0, 0] (bodyOf Try.f129))) (trim 0 [0, 1, 5] 0) (contAt tb C0 129 0 N0 [1, 1, 0, 1, 0] [] (bodyOf Try.f129) (finish tb 129 Try.f129)) m ⟨[.sl (.int .i64) (x0), .sl (.int .i64) (x1), .top, .top, .top, .int .i64 (v1), .top, .top, .top, .top, .top, .top, .top, .top, .top, .top, .top, .top, .top, .top, .top, .top, .top, .top, .top, .top, .top, .top, .top, .top, .top, .top, .top, .top, .top, .top, .top, .top, .top, .top, .top], []⟩
noncomputable def spec_l2Cmp_g1 (C0 : Ca tb) (N0 : Nat) (x0 : List Int) (x1 : List Int) (self1 : (Int) → Option Int) (v1 : Int) : Option Int :=
  spec_l2Cmp_x1 C0 self1 x0 x1 v1
theorem spec_l2Cmp_s1 (n : Nat) (x0 : List Int) (x1 : List Int) (m : Nat) (v1 : Int) : (spec_l2Cmp_l1 (run tb orc n) n x0 x1 (m + 1)) v1 = spec_l2Cmp_x1 (run tb orc n) (spec_l2Cmp_l1 (run tb orc n) n x0 x1 m) x0 x1 v1 := by kernel_rfl
theorem spec_l2Cmp_e1 (n : Nat) (x0 : List Int) (x1 : List Int) : ∀ (m : Nat) (v : Int), (spec_l2Cmp_l1 (run tb orc n) n x0 x1 m) v = iterO (spec_l2Cmp_g1 (run tb orc n) n x0 x1 ) m v := by
  refine iterO_eq (fun _ => rfl) fun m v => ?_
  rw [spec_l2Cmp_s1]
  rfl
noncomputable def spec_l2Cmp_x (C0 : Ca tb) (inn1 : (List Int) → (List Int) → (Int) → Option Int) (x0 : List Int) (x1 : List Int) : Option Int :=
  if (x0.length : Int) = (x1.length : Int) then inn1 x0 x1 (wr .i64 ((x0.length : Int) - (1:Int))) else if (x0.length : Int) < (x1.length : Int) then some ((-1:Int)) else some ((1:Int))
noncomputable def spec_l2Cmp_f (n : Nat) (x0 : List Int) (x1 : List Int) : Option Int :=
  spec_l2Cmp_x (run tb orc n) (fun x0 x1 v => iterO (spec_l2Cmp_g1 (run tb orc n) n x0 x1 ) n v) x0 x1 
theorem spec_l2Cmp_r (n : Nat) (x0 : List Int) (x1 : List Int) : c_spec_l2Cmp (run tb orc (n + 1)) x0 x1 = spec_l2Cmp_x (run tb orc n) (fun x0 x1 v => (spec_l2Cmp_l1 (run tb orc n) n x0 x1 n) v) x0 x1  := by kernel_rfl
/-- loop.example/g00133/spec.l2Cmp -/
theorem spec_l2Cmp_eq (n : Nat) (x0 : List Int) (x1 : List Int) : c_spec_l2Cmp (run tb orc (n + 1)) x0 x1 = spec_l2Cmp_f n x0 x1 := by
  rw [spec_l2Cmp_r]
  rw [show (fun x0 x1 v => (spec_l2Cmp_l1 (run tb orc n) n x0 x1 n) v) = (fun x0 x1 v => iterO (spec_l2Cmp_g1 (run tb orc n) n x0 x1 ) n v) from by funext x0 x1 v; exact spec_l2Cmp_e1 n x0 x1 _ v]
  rfl
noncomputable def spec_l2Sub_x1 (C0 : Ca tb) (self1 : (Int × Int × List Int) → Option (List Int)) (x0 : List Int) (x1 : List Int) (v1 : Int × Int × List Int) : Option (List Int) :=
  if v1.2.1 < (x0.length : Int) then (if 0 ≤ v1.2.1 then (if v1.2.1 < (x0.length : Int) then (if v1.2.1 < (x1.length : Int) then (if 0 ≤ v1.2.1 then (if v1.2.1 < (x1.length : Int) then (if wr .i64 ((wr .i64 ((x0.getD v1.2.1.toNat (0:Int)) - v1.1)) - (x1.getD v1.2.1.toNat (0:Int))) < (0:Int) then (if v1.2.2.length + ([wr .i64 ((wr .i64 ((wr .i64 ((x0.getD v1.2.1.toNat (0:Int)) - v1.1)) - (x1.getD v1.2.1.toNat (0:Int)))) + (268435456:Int))]).length < lim then (self1 ((1:Int), wr .i64 (v1.2.1 + (1:Int)), v1.2.2 ++ ([wr .i64 ((wr .i64 ((wr .i64 ((x0.getD v1.2.1.toNat (0:Int)) - v1.1)) - (x1.getD v1.2.1.toNat (0:Int)))) + (268435456:Int))]))) else none) else if v1.2.2.length + ([wr .i64 ((wr .i64 ((x0.getD v1.2.1.toNat (0:Int)) - v1.1)) - (x1.getD v1.2.1.toNat (0:Int)))]).length < lim then (self1 ((0:Int), wr .i64 (v1.2.1 + (1:Int)), v1.2.2 ++ ([wr .i64 ((wr .i64 ((x0.getD v1.2.1.toNat (0:Int)) - v1.1)) - (x1.getD v1.2.1.toNat (0:Int)))]))) else none) else none) else none) else if wr .i64 ((x0.getD v1.2.1.toNat (0:Int)) - v1.1) < (0:Int) then (if v1.2.2.length + ([wr .i64 ((wr .i64 ((x0.getD v1.2.1.toNat (0:Int)) - v1.1)) + (268435456:Int))]).length < lim then (self1 ((1:Int), wr .i64 (v1.2.1 + (1:Int)), v1.2.2 ++ ([wr .i64 ((wr .i64 ((x0.getD v1.2.1.toNat (0:Int)) - v1.1)) + (268435456:Int))]))) else none) else if v1.2.2.length + ([wr .i64 ((x0.getD v1.2.1.toNat (0:Int)) - v1.1)]).length < lim then (self1 ((0:Int), wr .i64 (v1.2.1 + (1:Int)), v1.2.2 ++ ([wr .i64 ((x0.getD v1.2.1.toNat (0:Int)) - v1.1)]))) else none) else none) else none) else (c_spec_l2Trim C0 v1.2.2).bind fun (d1 : List Int) => some (d1)
noncomputable def spec_l2Sub_l1 (C0 : Ca tb) (N0 : Nat) (x0 : List Int) (x1 : List Int) (m : Nat) (v1 : Int × Int × List Int) : Option (List Int) :=
  loopIt (exec tb C0 130 0 N0 (codeAt [1, 1, 1, 0, 1, 0, 0] (bodyOf Try.f130))) (trim 0 [0, 1, 5, 6, 10, 11] 1) (contAt tb C0 130 0 N0 [1, 1, 1, 0, 1, 0] [] (bodyOf Try.f130) (finish tb 130 Try.f130)) m ⟨[.sl (.int .i64) (x0), .sl (.int .i64) (x1), .top, .top, .top, .osl 0 0, .int .i64 (v1.1), .top, .top, .top, .int .i64 ((x0.length : Int)), .int .i64 (v1.2.1), .top, .top, .top, .top, .top, .top, .top, .top, .top, .top, .top, .top, .top, .top, .top, .top, .top, .top, .top, .top, .top, .top, .top, .top, .top, .top, .top, .top, .top], [.arr (.int .i64) (v1.2.2) 0 true]⟩
noncomputable def spec_l2Sub_g1 (C0 : Ca tb) (N0 : Nat) (x0 : List Int) (x1 : List Int) (self1 : (Int × Int × List Int) → Option (List Int)) (v1 : Int × Int × List Int) : Option (List Int) :=
  spec_l2Sub_x1 C0 self1 x0 x1 v1
theorem spec_l2Sub_s1 (n : Nat) (x0 : List Int) (x1 : List Int) (m : Nat) (v1 : Int × Int × List Int) : (spec_l2Sub_l1 (run tb orc n) n x0 x1 (m + 1)) v1 = spec_l2Sub_x1 (run tb orc n) (spec_l2Sub_l1 (run tb orc n) n x0 x1 m) x0 x1 v1 := by kernel_rfl
theorem spec_l2Sub_e1 (n : Nat) (x0 : List Int) (x1 : List Int) : ∀ (m : Nat) (v : Int × Int × List Int), (spec_l2Sub_l1 (run tb orc n) n x0 x1 m) v = iterO (spec_l2Sub_g1 (run tb orc n) n x0 x1 ) m v := by
  refine iterO_eq (fun _ => rfl) fun m v => ?_
  rw [spec_l2Sub_s1]
  rfl
noncomputable def spec_l2Sub_x (C0 : Ca tb) (inn1 : (List Int) → (List Int) → (Int × Int × List Int) → Option (List Int)) (x0 : List Int) (x1 : List Int) : Option (List Int) :=
  inn1 x0 x1 ((0:Int), (0:Int), [])
noncomputable def spec_l2Sub_f (n : Nat) (x0 : List Int) (x1 : List Int) : Option (List Int) :=
  spec_l2Sub_x (run tb orc n) (fun x0 x1 v => iterO (spec_l2Sub_g1 (run tb orc n) n x0 x1 ) n v) x0 x1 
theorem spec_l2Sub_r (n : Nat) (x0 : List Int) (x1 : List Int) : c_spec_l2Sub (run tb orc (n + 1)) x0 x1 = spec_l2Sub_x (run tb orc n) (fun x0 x1 v => (spec_l2Sub_l1 (run tb orc n) n x0 x1 n) v) x0 x1  := by kernel_rfl
/-- loop.example/g00133/spec.l2Sub -/
theorem spec_l2Sub_eq (n : Nat) (x0 : List Int) (x1 : List Int) : c_spec_l2Sub (run tb orc (n + 1)) x0 x1 = spec_l2Sub_f n x0 x1 := by
  rw [spec_l2Sub_r]
  rw [show (fun x0 x1 v => (spec_l2Sub_l1 (run tb orc n) n x0 x1 n) v) = (fun x0 x1 v => iterO (spec_l2Sub_g1 (run tb orc n) n x0 x1 ) n v) from by funext x0 x1 v; exact spec_l2Sub_e1 n x0 x1 _ v]
  rfl
noncomputable def spec_l2Plus_x (C0 : Ca tb) (x0_0 : Bool) (x0_1 : List Int) (x1_0 : Bool) (x1_1 : List Int) : Option (Bool × List Int) :=
  if (x0_0 == x1_0) = true then (c_spec_l2Add C0 x0_1 x1_1).bind fun (d1 : List Int) => some ((x0_0, d1)) else (c_spec_l2Cmp C0 x0_1 x1_1).bind fun (d2 : Int) => if d2 = (0:Int) then some ((false, [])) else if d2 = (1:Int) then (c_spec_l2Sub C0 x0_1 x1_1).bind fun (d3 : List Int) => some ((x0_0, d3)) else (c_spec_l2Sub C0 x1_1 x0_1).bind fun (d4 : List Int) => some ((x1_0, d4))
noncomputable def spec_l2Plus_f (n : Nat) (x0_0 : Bool) (x0_1 : List Int) (x1_0 : Bool) (x1_1 : List Int) : Option (Bool × List Int) :=
  spec_l2Plus_x (run tb orc n) x0_0 x0_1 x1_0 x1_1 
theorem spec_l2Plus_r (n : Nat) (x0_0 : Bool) (x0_1 : List Int) (x1_0 : Bool) (x1_1 : List Int) : c_spec_l2Plus (run tb orc (n + 1)) x0_0 x0_1 x1_0 x1_1 = spec_l2Plus_x (run tb orc n) x0_0 x0_1 x1_0 x1_1  := by kernel_rfl
/-- loop.example/g00133/spec.l2Plus -/
theorem spec_l2Plus_eq (n : Nat) (x0_0 : Bool) (x0_1 : List Int) (x1_0 : Bool) (x1_1 : List Int) : c_spec_l2Plus (run tb orc (n + 1)) x0_0 x0_1 x1_0 x1_1 = spec_l2Plus_f n x0_0 x0_1 x1_0 x1_1 := by
  rw [spec_l2Plus_r]
  rfl
noncomputable def spec_AddWholes_x (C0 : Ca tb) (x0_0 : Bool) (x0_1 : List Int) (x1_0 : Bool) (x1_1 : List Int) : Option ((Bool × List Int) × Bool) :=
  (c_spec_GoodWhole C0 x0_0 x0_1).bind fun (d1 : Bool) => if (!d1) = true then some ((false, []), false) else (c_spec_GoodWhole C0 x1_0 x1_1).bind fun (d2 : Bool) => if (!d2) = true then some ((false, []), false) else (c_spec_l2In C0 x0_0 x0_1).bind fun (d3 : Bool × List Int) => (c_spec_l2In C0 x1_0 x1_1).bind fun (d4 : Bool × List Int) => (c_spec_l2Plus C0 d3.1 d3.2 d4.1 d4.2).bind fun (d5 : Bool × List Int) => (c_spec_l2Out C0 d5.1 d5.2).bind fun (d6 : (Bool × List Int) × Bool) => some ((d6.1.1, d6.1.2), d6.2)
noncomputable def spec_AddWholes_f (n : Nat) (x0_0 : Bool) (x0_1 : List Int) (x1_0 : Bool) (x1_1 : List Int) : Option ((Bool × List Int) × Bool) :=
  spec_AddWholes_x (run tb orc n) x0_0 x0_1 x1_0 x1_1 
theorem spec_AddWholes_r (n : Nat) (x0_0 : Bool) (x0_1 : List Int) (x1_0 : Bool) (x1_1 : List Int) : c_spec_AddWholes (run tb orc (n + 1)) x0_0 x0_1 x1_0 x1_1 = spec_AddWholes_x (run tb orc n) x0_0 x0_1 x1_0 x1_1  := by kernel_rfl
/-- loop.example/g00133/spec.AddWholes -/
theorem spec_AddWholes_eq (n : Nat) (x0_0 : Bool) (x0_1 : List Int) (x1_0 : Bool) (x1_1 : List Int) : c_spec_AddWholes (run tb orc (n + 1)) x0_0 x0_1 x1_0 x1_1 = spec_AddWholes_f n x0_0 x0_1 x1_0 x1_1 := by
  rw [spec_AddWholes_r]
  rfl
end Go.Proofs.Ytnlgciomdghfiaa.Fw
