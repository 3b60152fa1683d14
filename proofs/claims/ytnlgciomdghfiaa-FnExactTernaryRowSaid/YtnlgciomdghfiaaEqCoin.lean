/- The functions' equations over the interpreter. Printed by fwgen.py. -/
import Derived.Test.YtnlgciomdghfiaaFwZf
import Derived.Test.YtnlgciomdghfiaaFwTok
import Derived.Test.YtnlgciomdghfiaaFwOrc
import Derived.Test.YtnlgciomdghfiaaEqA
import Derived.KernelRfl
import Derived.Lib.Tables
namespace Go.Proofs.Ytnlgciomdghfiaa.Fw
open Go Go.RowKit
set_option linter.unusedVariables false
set_option maxRecDepth 100000
noncomputable def c_laws_FnExactNoiseFrom (C : Ca tb) (x0 : List Int) (x1 : Int) (x2 : Int) : Option Bool := C.pure 6 [.sl (.int .i64) (x0), .int .i64 (x1), .int .i64 (x2)]
noncomputable def c_impl_NoiseFrom (C : Ca tb) (x0 : List Int) (x1 : Int) (x2 : Int) : Option (Int × Int × Bool) := C.pure 26 [.sl (.int .i64) (x0), .int .i64 (x1), .int .i64 (x2)]
noncomputable def c_impl_drawn_int (C : Ca tb) (x0 : List Int) (x1 : Int) (x2 : Bool) (x3_0_0 : Int) : Option (Int × Int × Bool) := C.pure 59 [.sl (.int .i64) (x0), .int .i64 (x1), .bool (x2), .fn 76 [.ref [.int .i64 (x3_0_0)]]]
noncomputable def c_impl_coins_noise_1 (C : Ca tb) (x0 : Int) (x1_0 : Int) : Option Int := C.pure 119 [.int .i64 (x0), .ref [.int .i64 (x1_0)]]
noncomputable def c_bits_OnesCount (C : Ca tb) (x0 : Int) : Option Int := C.pure 120 [.int .u64 (x0)]
noncomputable def c_bits_OnesCount64 (C : Ca tb) (x0 : Int) : Option Int := C.pure 150 [.int .u64 (x0)]
noncomputable def c_impl_in (C : Ca tb) (x0 : Int) (x1 : Int) (x2 : Int) : Option Bool := C.pure 75 [.int .i64 (x0), .int .i64 (x1), .int .i64 (x2)]
noncomputable def c_impl_areWords (C : Ca tb) (x0 : List Int) : Option Bool := C.pure 148 [.sl (.int .i64) (x0)]
noncomputable def c_slices_ContainsFunc_int_int (C : Ca tb) (x0 : List Int) : Option Bool := C.pure 152 [.sl (.int .i64) (x0), .fn 162 []]
noncomputable def c_slices_IndexFunc_int_int (C : Ca tb) (x0 : List Int) : Option Int := C.pure 163 [.sl (.int .i64) (x0), .fn 162 []]
noncomputable def c_impl_areWords_1 (C : Ca tb) (x0 : Int) : Option Bool := C.pure 162 [.int .i64 (x0)]
noncomputable def c_spec_NoiseFrom (C : Ca tb) (x0 : List Int) (x1 : Int) (x2 : Int) : Option (Int × Int × Bool) := C.pure 25 [.sl (.int .i64) (x0), .int .i64 (x1), .int .i64 (x2)]
noncomputable def c_spec_l7Noise (C : Ca tb) (x0 : Int) : Option Bool := C.pure 73 [.int .i64 (x0)]
noncomputable def c_spec_l1In (C : Ca tb) (x0 : Int) (x1 : Int) (x2 : Int) : Option Bool := C.pure 66 [.int .i64 (x0), .int .i64 (x1), .int .i64 (x2)]
noncomputable def c_spec_l7Words (C : Ca tb) (x0 : List Int) (x1 : Int) : Option Bool := C.pure 55 [.sl (.int .i64) (x0), .int .i64 (x1)]
noncomputable def c_laws_FnExactTernaryFrom (C : Ca tb) (x0 : List Int) (x1 : Int) : Option Bool := C.pure 4 [.sl (.int .i64) (x0), .int .i64 (x1)]
noncomputable def c_impl_TernaryFrom (C : Ca tb) (x0 : List Int) (x1 : Int) : Option (Int × Int × Bool) := C.pure 20 [.sl (.int .i64) (x0), .int .i64 (x1)]
noncomputable def c_impl_drawn_inta (C : Ca tb) (x0 : List Int) (x1 : Int) (x2 : Bool) : Option (Int × Int × Bool) := C.pure 59 [.sl (.int .i64) (x0), .int .i64 (x1), .bool (x2), .fn 64 []]
noncomputable def c_spec_TernaryFrom (C : Ca tb) (x0 : List Int) (x1 : Int) : Option (Int × Int × Bool) := C.pure 19 [.sl (.int .i64) (x0), .int .i64 (x1)]
noncomputable def c_laws_FnExactUniformFrom (C : Ca tb) (x0 : List Int) (x1 : Int) (x2 : Int) : Option Bool := C.pure 3 [.sl (.int .i64) (x0), .int .i64 (x1), .int .i64 (x2)]
noncomputable def c_impl_UniformFrom (C : Ca tb) (x0 : List Int) (x1 : Int) (x2 : Int) : Option (Int × Int × Bool) := C.pure 17 [.sl (.int .i64) (x0), .int .i64 (x1), .int .i64 (x2)]
noncomputable def c_impl_drawn_intb (C : Ca tb) (x0 : List Int) (x1 : Int) (x2 : Bool) (x3_0_0 : Int) : Option (Int × Int × Bool) := C.pure 59 [.sl (.int .i64) (x0), .int .i64 (x1), .bool (x2), .fn 61 [.ref [.int .i64 (x3_0_0)]]]
noncomputable def c_impl_isModulus (C : Ca tb) (x0 : Int) : Option Bool := C.pure 60 [.int .i64 (x0)]
noncomputable def c_spec_UniformFrom (C : Ca tb) (x0 : List Int) (x1 : Int) (x2 : Int) : Option (Int × Int × Bool) := C.pure 15 [.sl (.int .i64) (x0), .int .i64 (x1), .int .i64 (x2)]
noncomputable def c_spec_l1Modulus (C : Ca tb) (x0 : Int) : Option Bool := C.pure 56 [.int .i64 (x0)]
noncomputable def spec_l1In_x (C0 : Ca tb) (x0 : Int) (x1 : Int) (x2 : Int) : Option Bool :=
  if x0 ≥ x1 then some (decide (x0 ≤ x2)) else some (false)
noncomputable def spec_l1In_f (n : Nat) (x0 : Int) (x1 : Int) (x2 : Int) : Option Bool :=
  spec_l1In_x (run tb orc n) x0 x1 x2 
theorem spec_l1In_r (n : Nat) (x0 : Int) (x1 : Int) (x2 : Int) : c_spec_l1In (run tb orc (n + 1)) x0 x1 x2 = spec_l1In_x (run tb orc n) x0 x1 x2  := by kernel_rfl
/-- loop.example/g00133/spec.l1In -/
theorem spec_l1In_eq (n : Nat) (x0 : Int) (x1 : Int) (x2 : Int) : c_spec_l1In (run tb orc (n + 1)) x0 x1 x2 = spec_l1In_f n x0 x1 x2 := by
  rw [spec_l1In_r]
  rfl
noncomputable def spec_l7Words_x1 (C0 : Ca tb) (self1 : (Int) → Option Bool) (x0 : List Int) (v1 : Int) : Option Bool :=
  if v1 < (x0.length : Int) then (if 0 ≤ v1 then (if v1 < (x0.length : Int) then (c_spec_l1In C0 (x0.getD v1.toNat (0:Int)) (0:Int) (4294967295:Int)).bind fun (d2 : Bool) => if (!d2) = true then some (false) else self1 (wr .i64 (v1 + (1:Int))) else none) else none) else some (true)
noncomputable def spec_l7Words_l1 (C0 : Ca tb) (N0 : Nat) (x0 : List Int) (m : Nat) (v1 : Int) : Option Bool :=
  loopIt (exec tb C0 55 0 N0 (codeAt [1, 1, 0, 1, 0, 0] (bodyOf Try.f55))) (trim 0 [17, 18, 19] 0) (contAt tb C0 55 0 N0 [1, 1, 0, 1, 0] [] (bodyOf Try.f55) (finish tb 55 Try.f55)) m ⟨[.top, .top, .top, .top, .top, .top, .top, .top, .top, .top, .top, .top, .top, .top, .top, .top, .top, .sl (.int .i64) (x0), .int .i64 ((x0.length : Int)), .int .i64 (v1), .top, .top, .top, .top, .top, .top, .top], []⟩
noncomputable def spec_l7Words_g1 (C0 : Ca tb) (N0 : Nat) (x0 : List Int) (self1 : (Int) → Option Bool) (v1 : Int) : Option Bool :=
  spec_l7Words_x1 C0 self1 x0 v1
theorem spec_l7Words_s1 (n : Nat) (x0 : List Int) (m : Nat) (v1 : Int) : (spec_l7Words_l1 (run tb orc n) n x0 (m + 1)) v1 = spec_l7Words_x1 (run tb orc n) (spec_l7Words_l1 (run tb orc n) n x0 m) x0 v1 := by kernel_rfl
theorem spec_l7Words_e1 (n : Nat) (x0 : List Int) : ∀ (m : Nat) (v : Int), (spec_l7Words_l1 (run tb orc n) n x0 m) v = iterO (spec_l7Words_g1 (run tb orc n) n x0 ) m v := by
  refine iterO_eq (fun _ => rfl) fun m v => ?_
  rw [spec_l7Words_s1]
  rfl
noncomputable def spec_l7Words_x (C0 : Ca tb) (inn1 : (List Int) → (Int) → Option Bool) (x0 : List Int) (x1 : Int) : Option Bool :=
  if (x0.length : Int) > (4000:Int) then some (false) else (c_spec_l1In C0 x1 (0:Int) (x0.length : Int)).bind fun (d1 : Bool) => if (!d1) = true then some (false) else inn1 x0 ((0:Int))
noncomputable def spec_l7Words_f (n : Nat) (x0 : List Int) (x1 : Int) : Option Bool :=
  spec_l7Words_x (run tb orc n) (fun x0 v => iterO (spec_l7Words_g1 (run tb orc n) n x0 ) n v) x0 x1 
theorem spec_l7Words_r (n : Nat) (x0 : List Int) (x1 : Int) : c_spec_l7Words (run tb orc (n + 1)) x0 x1 = spec_l7Words_x (run tb orc n) (fun x0 v => (spec_l7Words_l1 (run tb orc n) n x0 n) v) x0 x1  := by kernel_rfl
/-- loop.example/g00133/spec.l7Words -/
theorem spec_l7Words_eq (n : Nat) (x0 : List Int) (x1 : Int) : c_spec_l7Words (run tb orc (n + 1)) x0 x1 = spec_l7Words_f n x0 x1 := by
  rw [spec_l7Words_r]
  rw [show (fun x0 v => (spec_l7Words_l1 (run tb orc n) n x0 n) v) = (fun x0 v => iterO (spec_l7Words_g1 (run tb orc n) n x0 ) n v) from by funext x0 v; exact spec_l7Words_e1 n x0 _ v]
  rfl
noncomputable def spec_l7Noise_x (C0 : Ca tb) (x0 : Int) : Option Bool :=
  (c_spec_l1In C0 x0 (1:Int) (16:Int)).bind fun (d1 : Bool) => some (d1)
noncomputable def spec_l7Noise_f (n : Nat) (x0 : Int) : Option Bool :=
  spec_l7Noise_x (run tb orc n) x0 
theorem spec_l7Noise_r (n : Nat) (x0 : Int) : c_spec_l7Noise (run tb orc (n + 1)) x0 = spec_l7Noise_x (run tb orc n) x0  := by kernel_rfl
/-- loop.example/g00133/spec.l7Noise -/
theorem spec_l7Noise_eq (n : Nat) (x0 : Int) : c_spec_l7Noise (run tb orc (n + 1)) x0 = spec_l7Noise_f n x0 := by
  rw [spec_l7Noise_r]
  rfl
noncomputable def spec_NoiseFrom_x1 (C0 C1 C2 : Ca tb) (self1 : (Int × Int) → Option (Int × Int × Bool)) (x0 : List Int) (x1 : Int) (x2 : Int) (d1 : Bool) (d2 : Bool) (v1 : Int × Int) : Option (Int × Int × Bool) :=
  if v1.2 < x2 then (if wr .u64 (v1.2) < 0 then none else if wr .u64 (wr .i64 (x2 + v1.2)) < 0 then none else self1 (wr .i64 (v1.1 + (wr .i64 ((Go.bits .and .i64 (shr .i64 (0:Int) (wr .u64 (v1.2))) (1:Int)) - (Go.bits .and .i64 (shr .i64 (0:Int) (wr .u64 (wr .i64 (x2 + v1.2)))) (1:Int))))), wr .i64 (v1.2 + (1:Int)))) else some ((0:Int), (0:Int), false)
noncomputable def spec_NoiseFrom_l1 (C0 C1 C2 : Ca tb) (N0 N1 N2 : Nat) (x0 : List Int) (x1 : Int) (x2 : Int) (d1 : Bool) (d2 : Bool) (m : Nat) (v1 : Int × Int) : Option (Int × Int × Bool) :=
  loopIt (exec tb C1 74 1 N1 (codeAt [1, 1, 1, 0, 1, 0, 0] (bodyOf Try.f74))) (trim 1 [1, 5, 6, 7] 1) (contAt tb C1 74 1 N1 [1, 1, 1, 0, 1, 0] [] (bodyOf Try.f74) (fun e σ => (finishT tb Try.f74 e σ).bind fun x => (fun v H' => execOps tb C0 25 (opsAt [1, 1, 1, 0] (bodyOf Try.f25)) ((opsAt [1, 1, 1, 0] (bodyOf Try.f25)).drop 4) ⟨putT [.sl (.int .i64) (x0), .int .i64 (x1), .int .i64 (x2), .top, .top, .top, .int .i64 ((0:Int)), .int .i64 ((0:Int)), .bool (false), .bptr 0 0, .sl (.int .i64) (x0), .int .i64 (x1), .bool (d1), .bool (!d1), .bool (false), .int .i64 (x2), .bool (d2), .bool (!d2), .bool (!d2), .sl (.int .i64) (x0), .int .i64 (x1), .agg [.sl (.int .i64) (x0), .int .i64 (x1), .bool (true)], .bptr 0 0, .bptr 0 0, .bptr 0 0, .int .i64 (x2), .top, .top, .top, .top, .top] (some 26) v, H'⟩ (fun ρ => (contAt tb C0 25 0 N0 [1, 1, 1, 0] [] (bodyOf Try.f25) (finish tb 25 Try.f25)) .normal ρ)) x.1 x.2)) m ⟨[.top, .int .i64 (x2), .top, .top, .top, .int .i64 ((0:Int)), .int .i64 (v1.1), .int .i64 (v1.2), .top, .top, .top, .top, .top, .top, .top, .top, .top, .top, .top, .top, .top, .top, .top, .top, .top, .top, .top, .top, .top, .top, .top], [.box [.sl (.int .i64) (x0), .int .i64 (x1), .bool (false)]]⟩
noncomputable def spec_NoiseFrom_x2 (C0 C1 C2 : Ca tb) (self2 : (Int × Int) → Option (Int × Int × Bool)) (x0 : List Int) (x1 : Int) (x2 : Int) (d1 : Bool) (d2 : Bool) (v2 : Int × Int) : Option (Int × Int × Bool) :=
  if v2.2 < x2 then (if wr .u64 (v2.2) < 0 then none else if wr .u64 (wr .i64 (x2 + v2.2)) < 0 then none else self2 (wr .i64 (v2.1 + (wr .i64 ((Go.bits .and .i64 (shr .i64 (x0.getD (wr .i64 ((wr .i64 (x1 + (1:Int))) - (1:Int))).toNat (0:Int)) (wr .u64 (v2.2))) (1:Int)) - (Go.bits .and .i64 (shr .i64 (x0.getD (wr .i64 ((wr .i64 (x1 + (1:Int))) - (1:Int))).toNat (0:Int)) (wr .u64 (wr .i64 (x2 + v2.2)))) (1:Int))))), wr .i64 (v2.2 + (1:Int)))) else some (v2.1, wr .i64 (x1 + (1:Int)), true)
noncomputable def spec_NoiseFrom_l2 (C0 C1 C2 : Ca tb) (N0 N1 N2 : Nat) (x0 : List Int) (x1 : Int) (x2 : Int) (d1 : Bool) (d2 : Bool) (m : Nat) (v2 : Int × Int) : Option (Int × Int × Bool) :=
  loopIt (exec tb C1 74 1 N1 (codeAt [1, 1, 1, 0, 1, 0, 0] (bodyOf Try.f74))) (trim 1 [1, 5, 6, 7] 1) (contAt tb C1 74 1 N1 [1, 1, 1, 0, 1, 0] [] (bodyOf Try.f74) (fun e σ => (finishT tb Try.f74 e σ).bind fun x => (fun v H' => execOps tb C0 25 (opsAt [1, 1, 1, 0] (bodyOf Try.f25)) ((opsAt [1, 1, 1, 0] (bodyOf Try.f25)).drop 4) ⟨putT [.sl (.int .i64) (x0), .int .i64 (x1), .int .i64 (x2), .top, .top, .top, .int .i64 ((0:Int)), .int .i64 ((0:Int)), .bool (false), .bptr 0 0, .sl (.int .i64) (x0), .int .i64 (x1), .bool (d1), .bool (!d1), .bool (false), .int .i64 (x2), .bool (d2), .bool (!d2), .bool (!d2), .sl (.int .i64) (x0), .int .i64 (x1), .agg [.sl (.int .i64) (x0), .int .i64 (x1), .bool (true)], .bptr 0 0, .bptr 0 0, .bptr 0 0, .int .i64 (x2), .top, .top, .top, .top, .top] (some 26) v, H'⟩ (fun ρ => (contAt tb C0 25 0 N0 [1, 1, 1, 0] [] (bodyOf Try.f25) (finish tb 25 Try.f25)) .normal ρ)) x.1 x.2)) m ⟨[.top, .int .i64 (x2), .top, .top, .top, .int .i64 (x0.getD (wr .i64 ((wr .i64 (x1 + (1:Int))) - (1:Int))).toNat (0:Int)), .int .i64 (v2.1), .int .i64 (v2.2), .top, .top, .top, .top, .top, .top, .top, .top, .top, .top, .top, .top, .top, .top, .top, .top, .top, .top, .top, .top, .top, .top, .top], [.box [.sl (.int .i64) (x0), .int .i64 (wr .i64 (x1 + (1:Int))), .bool (true)]]⟩
noncomputable def spec_NoiseFrom_g1 (C0 C1 C2 : Ca tb) (N0 N1 N2 : Nat) (x0 : List Int) (x1 : Int) (x2 : Int) (d1 : Bool) (d2 : Bool) (self1 : (Int × Int) → Option (Int × Int × Bool)) (v1 : Int × Int) : Option (Int × Int × Bool) :=
  spec_NoiseFrom_x1 C0 C1 C2 self1 x0 x1 x2 d1 d2 v1
noncomputable def spec_NoiseFrom_g2 (C0 C1 C2 : Ca tb) (N0 N1 N2 : Nat) (x0 : List Int) (x1 : Int) (x2 : Int) (d1 : Bool) (d2 : Bool) (self2 : (Int × Int) → Option (Int × Int × Bool)) (v2 : Int × Int) : Option (Int × Int × Bool) :=
  spec_NoiseFrom_x2 C0 C1 C2 self2 x0 x1 x2 d1 d2 v2
theorem spec_NoiseFrom_s1 (C : Ca tb) (N0 N1 N2 : Nat) (x0 : List Int) (x1 : Int) (x2 : Int) (d1 : Bool) (d2 : Bool) (m : Nat) (v1 : Int × Int) : (spec_NoiseFrom_l1 (runV (runV C N2) N1) (runV C N2) C N0 N1 N2 x0 x1 x2 d1 d2 (m + 1)) v1 = spec_NoiseFrom_x1 (runV (runV C N2) N1) (runV C N2) C (spec_NoiseFrom_l1 (runV (runV C N2) N1) (runV C N2) C N0 N1 N2 x0 x1 x2 d1 d2 m) x0 x1 x2 d1 d2 v1 := by kernel_rfl
theorem spec_NoiseFrom_e1 (C : Ca tb) (N0 N1 N2 : Nat) (x0 : List Int) (x1 : Int) (x2 : Int) (d1 : Bool) (d2 : Bool) : ∀ (m : Nat) (v : Int × Int), (spec_NoiseFrom_l1 (runV (runV C N2) N1) (runV C N2) C N0 N1 N2 x0 x1 x2 d1 d2 m) v = iterO (spec_NoiseFrom_g1 (runV (runV C N2) N1) (runV C N2) C N0 N1 N2 x0 x1 x2 d1 d2 ) m v := by
  refine iterO_eq (fun _ => rfl) fun m v => ?_
  rw [spec_NoiseFrom_s1]
  rfl
theorem spec_NoiseFrom_s2 (C : Ca tb) (N0 N1 N2 : Nat) (x0 : List Int) (x1 : Int) (x2 : Int) (d1 : Bool) (d2 : Bool) (m : Nat) (v2 : Int × Int) : (spec_NoiseFrom_l2 (runV (runV C N2) N1) (runV C N2) C N0 N1 N2 x0 x1 x2 d1 d2 (m + 1)) v2 = spec_NoiseFrom_x2 (runV (runV C N2) N1) (runV C N2) C (spec_NoiseFrom_l2 (runV (runV C N2) N1) (runV C N2) C N0 N1 N2 x0 x1 x2 d1 d2 m) x0 x1 x2 d1 d2 v2 := by kernel_rfl
theorem spec_NoiseFrom_e2 (C : Ca tb) (N0 N1 N2 : Nat) (x0 : List Int) (x1 : Int) (x2 : Int) (d1 : Bool) (d2 : Bool) : ∀ (m : Nat) (v : Int × Int), (spec_NoiseFrom_l2 (runV (runV C N2) N1) (runV C N2) C N0 N1 N2 x0 x1 x2 d1 d2 m) v = iterO (spec_NoiseFrom_g2 (runV (runV C N2) N1) (runV C N2) C N0 N1 N2 x0 x1 x2 d1 d2 ) m v := by
  refine iterO_eq (fun _ => rfl) fun m v => ?_
  rw [spec_NoiseFrom_s2]
  rfl
noncomputable def spec_NoiseFrom_x (C0 C1 C2 : Ca tb) (inn1 : (List Int) → (Int) → (Int) → (Bool) → (Bool) → (Int × Int) → Option (Int × Int × Bool)) (inn2 : (List Int) → (Int) → (Int) → (Bool) → (Bool) → (Int × Int) → Option (Int × Int × Bool)) (x0 : List Int) (x1 : Int) (x2 : Int) : Option (Int × Int × Bool) :=
  (c_spec_l7Words C0 x0 x1).bind fun (d1 : Bool) => if (!d1) = true then some ((0:Int), (0:Int), false) else (c_spec_l7Noise C0 x2).bind fun (d2 : Bool) => if (!d2) = true then some ((0:Int), (0:Int), false) else if x1 ≥ (x0.length : Int) then inn1 x0 x1 x2 d1 d2 ((0:Int), (0:Int)) else if 0 ≤ wr .i64 ((wr .i64 (x1 + (1:Int))) - (1:Int)) then (if wr .i64 ((wr .i64 (x1 + (1:Int))) - (1:Int)) < (x0.length : Int) then inn2 x0 x1 x2 d1 d2 ((0:Int), (0:Int)) else none) else none
noncomputable def spec_NoiseFrom_f (n : Nat) (x0 : List Int) (x1 : Int) (x2 : Int) : Option (Int × Int × Bool) :=
  spec_NoiseFrom_x (run tb orc (n + 2)) (run tb orc (n + 1)) (run tb orc n) (fun x0 x1 x2 d1 d2 v => iterO (spec_NoiseFrom_g1 (run tb orc (n + 2)) (run tb orc (n + 1)) (run tb orc n) (n + 2) (n + 1) n x0 x1 x2 d1 d2 ) (n + 1) v) (fun x0 x1 x2 d1 d2 v => iterO (spec_NoiseFrom_g2 (run tb orc (n + 2)) (run tb orc (n + 1)) (run tb orc n) (n + 2) (n + 1) n x0 x1 x2 d1 d2 ) (n + 1) v) x0 x1 x2 
theorem spec_NoiseFrom_r (C : Ca tb) (N0 N1 N2 : Nat) (x0 : List Int) (x1 : Int) (x2 : Int) : c_spec_NoiseFrom (runV (runV (runV C N2) N1) N0) x0 x1 x2 = spec_NoiseFrom_x (runV (runV C N2) N1) (runV C N2) C (fun x0 x1 x2 d1 d2 v => (spec_NoiseFrom_l1 (runV (runV C N2) N1) (runV C N2) C N0 N1 N2 x0 x1 x2 d1 d2 N1) v) (fun x0 x1 x2 d1 d2 v => (spec_NoiseFrom_l2 (runV (runV C N2) N1) (runV C N2) C N0 N1 N2 x0 x1 x2 d1 d2 N1) v) x0 x1 x2  := by kernel_rfl
/-- loop.example/g00133/spec.NoiseFrom -/
theorem spec_NoiseFrom_q (C : Ca tb) (N0 N1 N2 : Nat) (x0 : List Int) (x1 : Int) (x2 : Int) : c_spec_NoiseFrom (runV (runV (runV C N2) N1) N0) x0 x1 x2 = spec_NoiseFrom_x (runV (runV C N2) N1) (runV C N2) C (fun x0 x1 x2 d1 d2 v => iterO (spec_NoiseFrom_g1 (runV (runV C N2) N1) (runV C N2) C N0 N1 N2 x0 x1 x2 d1 d2 ) N1 v) (fun x0 x1 x2 d1 d2 v => iterO (spec_NoiseFrom_g2 (runV (runV C N2) N1) (runV C N2) C N0 N1 N2 x0 x1 x2 d1 d2 ) N1 v) x0 x1 x2 := by
  rw [spec_NoiseFrom_r]
  rw [show (fun x0 x1 x2 d1 d2 v => (spec_NoiseFrom_l1 (runV (runV C N2) N1) (runV C N2) C N0 N1 N2 x0 x1 x2 d1 d2 N1) v) = (fun x0 x1 x2 d1 d2 v => iterO (spec_NoiseFrom_g1 (runV (runV C N2) N1) (runV C N2) C N0 N1 N2 x0 x1 x2 d1 d2 ) N1 v) from by funext x0 x1 x2 d1 d2 v; exact spec_NoiseFrom_e1 C N0 N1 N2 x0 x1 x2 d1 d2 _ v]
  rw [show (fun x0 x1 x2 d1 d2 v => (spec_NoiseFrom_l2 (runV (runV C N2) N1) (runV C N2) C N0 N1 N2 x0 x1 x2 d1 d2 N1) v) = (fun x0 x1 x2 d1 d2 v => iterO (spec_NoiseFrom_g2 (runV (runV C N2) N1) (runV C N2) C N0 N1 N2 x0 x1 x2 d1 d2 ) N1 v) from by funext x0 x1 x2 d1 d2 v; exact spec_NoiseFrom_e2 C N0 N1 N2 x0 x1 x2 d1 d2 _ v]
theorem spec_NoiseFrom_eq (n : Nat) (x0 : List Int) (x1 : Int) (x2 : Int) : c_spec_NoiseFrom (run tb orc (n + 3)) x0 x1 x2 = spec_NoiseFrom_f n x0 x1 x2 := by
  have h := spec_NoiseFrom_q (run tb orc n) (n + 2) (n + 1) n x0 x1 x2
  rw [runV_0 n] at h
  rw [runV_1 n] at h
  rw [runV_2 n] at h
  exact h
noncomputable def impl_in_x (C0 : Ca tb) (x0 : Int) (x1 : Int) (x2 : Int) : Option Bool :=
  if x1 ≤ x0 then some (decide (x0 ≤ x2)) else some (false)
noncomputable def impl_in_f (n : Nat) (x0 : Int) (x1 : Int) (x2 : Int) : Option Bool :=
  impl_in_x (run tb orc n) x0 x1 x2 
theorem impl_in_r (n : Nat) (x0 : Int) (x1 : Int) (x2 : Int) : c_impl_in (run tb orc (n + 1)) x0 x1 x2 = impl_in_x (run tb orc n) x0 x1 x2  := by kernel_rfl
/-- loop.example/g00133/impl.in -/
theorem impl_in_eq (n : Nat) (x0 : Int) (x1 : Int) (x2 : Int) : c_impl_in (run tb orc (n + 1)) x0 x1 x2 = impl_in_f n x0 x1 x2 := by
  rw [impl_in_r]
  rfl
noncomputable def bits_OnesCount64_x (C0 : Ca tb) (x0 : Int) : Option Int :=
  if (1:Int) < 0 then none else if (2:Int) < 0 then none else if (4:Int) < 0 then none else if (8:Int) < 0 then none else if (16:Int) < 0 then none else if (32:Int) < 0 then none else some (Go.bits .and .i64 (wr .i64 (wr .u64 ((wr .u64 ((wr .u64 ((Go.bits .and .u64 (wr .u64 ((shr .u64 (wr .u64 ((Go.bits .and .u64 (shr .u64 (wr .u64 ((Go.bits .and .u64 (shr .u64 x0 (1:Int)) (6148914691236517205:Int)) + (Go.bits .and .u64 x0 (6148914691236517205:Int)))) (2:Int)) (3689348814741910323:Int)) + (Go.bits .and .u64 (wr .u64 ((Go.bits .and .u64 (shr .u64 x0 (1:Int)) (6148914691236517205:Int)) + (Go.bits .and .u64 x0 (6148914691236517205:Int)))) (3689348814741910323:Int)))) (4:Int)) + (wr .u64 ((Go.bits .and .u64 (shr .u64 (wr .u64 ((Go.bits .and .u64 (shr .u64 x0 (1:Int)) (6148914691236517205:Int)) + (Go.bits .and .u64 x0 (6148914691236517205:Int)))) (2:Int)) (3689348814741910323:Int)) + (Go.bits .and .u64 (wr .u64 ((Go.bits .and .u64 (shr .u64 x0 (1:Int)) (6148914691236517205:Int)) + (Go.bits .and .u64 x0 (6148914691236517205:Int)))) (3689348814741910323:Int)))))) (1085102592571150095:Int)) + (shr .u64 (Go.bits .and .u64 (wr .u64 ((shr .u64 (wr .u64 ((Go.bits .and .u64 (shr .u64 (wr .u64 ((Go.bits .and .u64 (shr .u64 x0 (1:Int)) (6148914691236517205:Int)) + (Go.bits .and .u64 x0 (6148914691236517205:Int)))) (2:Int)) (3689348814741910323:Int)) + (Go.bits .and .u64 (wr .u64 ((Go.bits .and .u64 (shr .u64 x0 (1:Int)) (6148914691236517205:Int)) + (Go.bits .and .u64 x0 (6148914691236517205:Int)))) (3689348814741910323:Int)))) (4:Int)) + (wr .u64 ((Go.bits .and .u64 (shr .u64 (wr .u64 ((Go.bits .and .u64 (shr .u64 x0 (1:Int)) (6148914691236517205:Int)) + (Go.bits .and .u64 x0 (6148914691236517205:Int)))) (2:Int)) (3689348814741910323:Int)) + (Go.bits .and .u64 (wr .u64 ((Go.bits .and .u64 (shr .u64 x0 (1:Int)) (6148914691236517205:Int)) + (Go.bits .and .u64 x0 (6148914691236517205:Int)))) (3689348814741910323:Int)))))) (1085102592571150095:Int)) (8:Int)))) + (shr .u64 (wr .u64 ((Go.bits .and .u64 (wr .u64 ((shr .u64 (wr .u64 ((Go.bits .and .u64 (shr .u64 (wr .u64 ((Go.bits .and .u64 (shr .u64 x0 (1:Int)) (6148914691236517205:Int)) + (Go.bits .and .u64 x0 (6148914691236517205:Int)))) (2:Int)) (3689348814741910323:Int)) + (Go.bits .and .u64 (wr .u64 ((Go.bits .and .u64 (shr .u64 x0 (1:Int)) (6148914691236517205:Int)) + (Go.bits .and .u64 x0 (6148914691236517205:Int)))) (3689348814741910323:Int)))) (4:Int)) + (wr .u64 ((Go.bits .and .u64 (shr .u64 (wr .u64 ((Go.bits .and .u64 (shr .u64 x0 (1:Int)) (6148914691236517205:Int)) + (Go.bits .and .u64 x0 (6148914691236517205:Int)))) (2:Int)) (3689348814741910323:Int)) + (Go.bits .and .u64 (wr .u64 ((Go.bits .and .u64 (shr .u64 x0 (1:Int)) (6148914691236517205:Int)) + (Go.bits .and .u64 x0 (6148914691236517205:Int)))) (3689348814741910323:Int)))))) (1085102592571150095:Int)) + (shr .u64 (Go.bits .and .u64 (wr .u64 ((shr .u64 (wr .u64 ((Go.bits .and .u64 (shr .u64 (wr .u64 ((Go.bits .and .u64 (shr .u64 x0 (1:Int)) (6148914691236517205:Int)) + (Go.bits .and .u64 x0 (6148914691236517205:Int)))) (2:Int)) (3689348814741910323:Int)) + (Go.bits .and .u64 (wr .u64 ((Go.bits .and .u64 (shr .u64 x0 (1:Int)) (6148914691236517205:Int)) + (Go.bits .and .u64 x0 (6148914691236517205:Int)))) (3689348814741910323:Int)))) (4:Int)) + (wr .u64 ((Go.bits .and .u64 (shr .u64 (wr .u64 ((Go.bits .and .u64 (shr .u64 x0 (1:Int)) (6148914691236517205:Int)) + (Go.bits .and .u64 x0 (6148914691236517205:Int)))) (2:Int)) (3689348814741910323:Int)) + (Go.bits .and .u64 (wr .u64 ((Go.bits .and .u64 (shr .u64 x0 (1:Int)) (6148914691236517205:Int)) + (Go.bits .and .u64 x0 (6148914691236517205:Int)))) (3689348814741910323:Int)))))) (1085102592571150095:Int)) (8:Int)))) (16:Int)))) + (shr .u64 (wr .u64 ((wr .u64 ((Go.bits .and .u64 (wr .u64 ((shr .u64 (wr .u64 ((Go.bits .and .u64 (shr .u64 (wr .u64 ((Go.bits .and .u64 (shr .u64 x0 (1:Int)) (6148914691236517205:Int)) + (Go.bits .and .u64 x0 (6148914691236517205:Int)))) (2:Int)) (3689348814741910323:Int)) + (Go.bits .and .u64 (wr .u64 ((Go.bits .and .u64 (shr .u64 x0 (1:Int)) (6148914691236517205:Int)) + (Go.bits .and .u64 x0 (6148914691236517205:Int)))) (3689348814741910323:Int)))) (4:Int)) + (wr .u64 ((Go.bits .and .u64 (shr .u64 (wr .u64 ((Go.bits .and .u64 (shr .u64 x0 (1:Int)) (6148914691236517205:Int)) + (Go.bits .and .u64 x0 (6148914691236517205:Int)))) (2:Int)) (3689348814741910323:Int)) + (Go.bits .and .u64 (wr .u64 ((Go.bits .and .u64 (shr .u64 x0 (1:Int)) (6148914691236517205:Int)) + (Go.bits .and .u64 x0 (6148914691236517205:Int)))) (3689348814741910323:Int)))))) (1085102592571150095:Int)) + (shr .u64 (Go.bits .and .u64 (wr .u64 ((shr .u64 (wr .u64 ((Go.bits .and .u64 (shr .u64 (wr .u64 ((Go.bits .and .u64 (shr .u64 x0 (1:Int)) (6148914691236517205:Int)) + (Go.bits .and .u64 x0 (6148914691236517205:Int)))) (2:Int)) (3689348814741910323:Int)) + (Go.bits .and .u64 (wr .u64 ((Go.bits .and .u64 (shr .u64 x0 (1:Int)) (6148914691236517205:Int)) + (Go.bits .and .u64 x0 (6148914691236517205:Int)))) (3689348814741910323:Int)))) (4:Int)) + (wr .u64 ((Go.bits .and .u64 (shr .u64 (wr .u64 ((Go.bits .and .u64 (shr .u64 x0 (1:Int)) (6148914691236517205:Int)) + (Go.bits .and .u64 x0 (6148914691236517205:Int)))) (2:Int)) (3689348814741910323:Int)) + (Go.bits .and .u64 (wr .u64 ((Go.bits .and .u64 (shr .u64 x0 (1:Int)) (6148914691236517205:Int)) + (Go.bits .and .u64 x0 (6148914691236517205:Int)))) (3689348814741910323:Int)))))) (1085102592571150095:Int)) (8:Int)))) + (shr .u64 (wr .u64 ((Go.bits .and .u64 (wr .u64 ((shr .u64 (wr .u64 ((Go.bits .and .u64 (shr .u64 (wr .u64 ((Go.bits .and .u64 (shr .u64 x0 (1:Int)) (6148914691236517205:Int)) + (Go.bits .and .u64 x0 (6148914691236517205:Int)))) (2:Int)) (3689348814741910323:Int)) + (Go.bits .and .u64 (wr .u64 ((Go.bits .and .u64 (shr .u64 x0 (1:Int)) (6148914691236517205:Int)) + (Go.bits .and .u64 x0 (6148914691236517205:Int)))) (3689348814741910323:Int)))) (4:Int)) + (wr .u64 ((Go.bits .and .u64 (shr .u64 (wr .u64 ((Go.bits .and .u64 (shr .u64 x0 (1:Int)) (6148914691236517205:Int)) + (Go.bits .and .u64 x0 (6148914691236517205:Int)))) (2:Int)) (3689348814741910323:Int)) + (Go.bits .and .u64 (wr .u64 ((Go.bits .and .u64 (shr .u64 x0 (1:Int)) (6148914691236517205:Int)) + (Go.bits .and .u64 x0 (6148914691236517205:Int)))) (3689348814741910323:Int)))))) (1085102592571150095:Int)) + (shr .u64 (Go.bits .and .u64 (wr .u64 ((shr .u64 (wr .u64 ((Go.bits .and .u64 (shr .u64 (wr .u64 ((Go.bits .and .u64 (shr .u64 x0 (1:Int)) (6148914691236517205:Int)) + (Go.bits .and .u64 x0 (6148914691236517205:Int)))) (2:Int)) (3689348814741910323:Int)) + (Go.bits .and .u64 (wr .u64 ((Go.bits .and .u64 (shr .u64 x0 (1:Int)) (6148914691236517205:Int)) + (Go.bits .and .u64 x0 (6148914691236517205:Int)))) (3689348814741910323:Int)))) (4:Int)) + (wr .u64 ((Go.bits .and .u64 (shr .u64 (wr .u64 ((Go.bits .and .u64 (shr .u64 x0 (1:Int)) (6148914691236517205:Int)) + (Go.bits .and .u64 x0 (6148914691236517205:Int)))) (2:Int)) (3689348814741910323:Int)) + (Go.bits .and .u64 (wr .u64 ((Go.bits .and .u64 (shr .u64 x0 (1:Int)) (6148914691236517205:Int)) + (Go.bits .and .u64 x0 (6148914691236517205:Int)))) (3689348814741910323:Int)))))) (1085102592571150095:Int)) (8:Int)))) (16:Int)))) (32:Int))))) (127:Int))
noncomputable def bits_OnesCount64_f (n : Nat) (x0 : Int) : Option Int :=
  bits_OnesCount64_x (run tb orc n) x0 
theorem bits_OnesCount64_r (n : Nat) (x0 : Int) : c_bits_OnesCount64 (run tb orc (n + 1)) x0 = bits_OnesCount64_x (run tb orc n) x0  := by kernel_rfl
/-- math/bits.OnesCount64 -/
theorem bits_OnesCount64_eq (n : Nat) (x0 : Int) : c_bits_OnesCount64 (run tb orc (n + 1)) x0 = bits_OnesCount64_f n x0 := by
  rw [bits_OnesCount64_r]
  rfl
noncomputable def bits_OnesCount_x (C0 : Ca tb) (x0 : Int) : Option Int :=
  (c_bits_OnesCount64 C0 x0).bind fun (d1 : Int) => some (d1)
noncomputable def bits_OnesCount_f (n : Nat) (x0 : Int) : Option Int :=
  bits_OnesCount_x (run tb orc n) x0 
theorem bits_OnesCount_r (n : Nat) (x0 : Int) : c_bits_OnesCount (run tb orc (n + 1)) x0 = bits_OnesCount_x (run tb orc n) x0  := by kernel_rfl
/-- math/bits.OnesCount -/
theorem bits_OnesCount_eq (n : Nat) (x0 : Int) : c_bits_OnesCount (run tb orc (n + 1)) x0 = bits_OnesCount_f n x0 := by
  rw [bits_OnesCount_r]
  rfl
noncomputable def impl_coins_noise_1_x (C0 : Ca tb) (x0 : Int) (x1_0 : Int) : Option Int :=
  if x1_0 < 0 then none else (c_bits_OnesCount C0 (wr .u64 (Go.bits .and .i64 x0 (wr .i64 ((shl .i64 (1:Int) x1_0) - (1:Int)))))).bind fun (d1 : Int) => some (d1)
noncomputable def impl_coins_noise_1_f (n : Nat) (x0 : Int) (x1_0 : Int) : Option Int :=
  impl_coins_noise_1_x (run tb orc n) x0 x1_0 
theorem impl_coins_noise_1_r (n : Nat) (x0 : Int) (x1_0 : Int) : c_impl_coins_noise_1 (run tb orc (n + 1)) x0 x1_0 = impl_coins_noise_1_x (run tb orc n) x0 x1_0  := by kernel_rfl
/-- (*loop.example/g00133/impl.coins).noise$1 -/
theorem impl_coins_noise_1_eq (n : Nat) (x0 : Int) (x1_0 : Int) : c_impl_coins_noise_1 (run tb orc (n + 1)) x0 x1_0 = impl_coins_noise_1_f n x0 x1_0 := by
  rw [impl_coins_noise_1_r]
  rfl
noncomputable def impl_areWords_1_x (C0 : Ca tb) (x0 : Int) : Option Bool :=
  (c_impl_in C0 x0 (0:Int) (4294967295:Int)).bind fun (d1 : Bool) => some (!d1)
noncomputable def impl_areWords_1_f (n : Nat) (x0 : Int) : Option Bool :=
  impl_areWords_1_x (run tb orc n) x0 
theorem impl_areWords_1_r (n : Nat) (x0 : Int) : c_impl_areWords_1 (run tb orc (n + 1)) x0 = impl_areWords_1_x (run tb orc n) x0  := by kernel_rfl
/-- loop.example/g00133/impl.areWords$1 -/
theorem impl_areWords_1_eq (n : Nat) (x0 : Int) : c_impl_areWords_1 (run tb orc (n + 1)) x0 = impl_areWords_1_f n x0 := by
  rw [impl_areWords_1_r]
  rfl
noncomputable def slices_IndexFunc_int_int_x1 (C0 : Ca tb) (self1 : (Int) → Option Int) (x0 : List Int) (v1 : Int) : Option Int :=
  if v1 < (x0.length : Int) then (if 0 ≤ v1 then (if v1 < (x0.length : Int) then (c_impl_areWords_1 C0 (x0.getD v1.toNat (0:Int))).bind fun (d1 : Bool) => if (d1) = true then some (v1) else self1 (wr .i64 (v1 + (1:Int))) else none) else none) else some ((-1:Int))
noncomputable def slices_IndexFunc_int_int_l1 (C0 : Ca tb) (N0 : Nat) (x0 : List Int) (m : Nat) (v1 : Int) : Option Int :=
  loopIt (exec tb C0 163 0 N0 (codeAt [1, 0, 1, 0, 0] (bodyOf Try.f163))) (trim 0 [0, 1, 7, 8] 0) (contAt tb C0 163 0 N0 [1, 0, 1, 0] [] (bodyOf Try.f163) (finish tb 163 Try.f163)) m ⟨[.sl (.int .i64) (x0), .fn 162 [], .top, .top, .top, .top, .top, .int .i64 ((x0.length : Int)), .int .i64 (v1), .top, .top, .top, .top, .top, .top, .top, .top, .top, .top], []⟩
noncomputable def slices_IndexFunc_int_int_g1 (C0 : Ca tb) (N0 : Nat) (x0 : List Int) (self1 : (Int) → Option Int) (v1 : Int) : Option Int :=
  slices_IndexFunc_int_int_x1 C0 self1 x0 v1
theorem slices_IndexFunc_int_int_s1 (n : Nat) (x0 : List Int) (m : Nat) (v1 : Int) : (slices_IndexFunc_int_int_l1 (run tb orc n) n x0 (m + 1)) v1 = slices_IndexFunc_int_int_x1 (run tb orc n) (slices_IndexFunc_int_int_l1 (run tb orc n) n x0 m) x0 v1 := by kernel_rfl
theorem slices_IndexFunc_int_int_e1 (n : Nat) (x0 : List Int) : ∀ (m : Nat) (v : Int), (slices_IndexFunc_int_int_l1 (run tb orc n) n x0 m) v = iterO (slices_IndexFunc_int_int_g1 (run tb orc n) n x0 ) m v := by
  refine iterO_eq (fun _ => rfl) fun m v => ?_
  rw [slices_IndexFunc_int_int_s1]
  rfl
noncomputable def slices_IndexFunc_int_int_x (C0 : Ca tb) (inn1 : (List Int) → (Int) → Option Int) (x0 : List Int) : Option Int :=
  inn1 x0 ((0:Int))
noncomputable def slices_IndexFunc_int_int_f (n : Nat) (x0 : List Int) : Option Int :=
  slices_IndexFunc_int_int_x (run tb orc n) (fun x0 v => iterO (slices_IndexFunc_int_int_g1 (run tb orc n) n x0 ) n v) x0 
theorem slices_IndexFunc_int_int_r (n : Nat) (x0 : List Int) : c_slices_IndexFunc_int_int (run tb orc (n + 1)) x0 = slices_IndexFunc_int_int_x (run tb orc n) (fun x0 v => (slices_IndexFunc_int_int_l1 (run tb orc n) n x0 n) v) x0  := by kernel_rfl
/-- slices.IndexFunc[[]int,int] -/
theorem slices_IndexFunc_int_int_eq (n : Nat) (x0 : List Int) : c_slices_IndexFunc_int_int (run tb orc (n + 1)) x0 = slices_IndexFunc_int_int_f n x0 := by
  rw [slices_IndexFunc_int_int_r]
  rw [show (fun x0 v => (slices_IndexFunc_int_int_l1 (run tb orc n) n x0 n) v) = (fun x0 v => iterO (slices_IndexFunc_int_int_g1 (run tb orc n) n x0 ) n v) from by funext x0 v; exact slices_IndexFunc_int_int_e1 n x0 _ v]
  rfl
noncomputable def slices_ContainsFunc_int_int_x (C0 : Ca tb) (x0 : List Int) : Option Bool :=
  (c_slices_IndexFunc_int_int C0 x0).bind fun (d1 : Int) => some (decide (d1 ≥ (0:Int)))
noncomputable def slices_ContainsFunc_int_int_f (n : Nat) (x0 : List Int) : Option Bool :=
  slices_ContainsFunc_int_int_x (run tb orc n) x0 
theorem slices_ContainsFunc_int_int_r (n : Nat) (x0 : List Int) : c_slices_ContainsFunc_int_int (run tb orc (n + 1)) x0 = slices_ContainsFunc_int_int_x (run tb orc n) x0  := by kernel_rfl
/-- slices.ContainsFunc[[]int,int] -/
theorem slices_ContainsFunc_int_int_eq (n : Nat) (x0 : List Int) : c_slices_ContainsFunc_int_int (run tb orc (n + 1)) x0 = slices_ContainsFunc_int_int_f n x0 := by
  rw [slices_ContainsFunc_int_int_r]
  rfl
noncomputable def impl_areWords_x (C0 : Ca tb) (x0 : List Int) : Option Bool :=
  if (x0.length : Int) ≤ (4000:Int) then (c_slices_ContainsFunc_int_int C0 x0).bind fun (d1 : Bool) => some (!d1) else some (false)
noncomputable def impl_areWords_f (n : Nat) (x0 : List Int) : Option Bool :=
  impl_areWords_x (run tb orc n) x0 
theorem impl_areWords_r (n : Nat) (x0 : List Int) : c_impl_areWords (run tb orc (n + 1)) x0 = impl_areWords_x (run tb orc n) x0  := by kernel_rfl
/-- loop.example/g00133/impl.areWords -/
theorem impl_areWords_eq (n : Nat) (x0 : List Int) : c_impl_areWords (run tb orc (n + 1)) x0 = impl_areWords_f n x0 := by
  rw [impl_areWords_r]
  rfl
noncomputable def impl_drawn_int_x (C0 C1 C2 C3 : Ca tb) (x0 : List Int) (x1 : Int) (x2 : Bool) (x3_0_0 : Int) : Option (Int × Int × Bool) :=
  (c_impl_areWords C1 x0).bind fun (d1 : Bool) => if (d1) = true then (c_impl_in C1 x1 (0:Int) (x0.length : Int)).bind fun (d2 : Bool) => if (!d2) = true then some ((0:Int), (0:Int), false) else if (!x2) = true then some ((0:Int), (0:Int), false) else if x1 = (x0.length : Int) then (c_impl_coins_noise_1 C2 (0:Int) x3_0_0).bind fun (d3 : Int) => if x3_0_0 < 0 then none else (c_impl_coins_noise_1 C2 (shr .i64 (0:Int) x3_0_0) x3_0_0).bind fun (d4 : Int) => some ((0:Int), (0:Int), false) else if 0 ≤ wr .i64 ((wr .i64 (x1 + (1:Int))) - (1:Int)) then (if wr .i64 ((wr .i64 (x1 + (1:Int))) - (1:Int)) < (x0.length : Int) then (c_impl_coins_noise_1 C2 (x0.getD (wr .i64 ((wr .i64 (x1 + (1:Int))) - (1:Int))).toNat (0:Int)) x3_0_0).bind fun (d5 : Int) => if x3_0_0 < 0 then none else (c_impl_coins_noise_1 C2 (shr .i64 (x0.getD (wr .i64 ((wr .i64 (x1 + (1:Int))) - (1:Int))).toNat (0:Int)) x3_0_0) x3_0_0).bind fun (d6 : Int) => some (wr .i64 (d5 - d6), wr .i64 (x1 + (1:Int)), true) else none) else none else some ((0:Int), (0:Int), false)
noncomputable def impl_drawn_int_f (n : Nat) (x0 : List Int) (x1 : Int) (x2 : Bool) (x3_0_0 : Int) : Option (Int × Int × Bool) :=
  impl_drawn_int_x (run tb orc (n + 3)) (run tb orc (n + 2)) (run tb orc (n + 1)) (run tb orc n) x0 x1 x2 x3_0_0 
theorem impl_drawn_int_r (C : Ca tb) (N0 N1 N2 N3 : Nat) (x0 : List Int) (x1 : Int) (x2 : Bool) (x3_0_0 : Int) : c_impl_drawn_int (runV (runV (runV (runV C N3) N2) N1) N0) x0 x1 x2 x3_0_0 = impl_drawn_int_x (runV (runV (runV C N3) N2) N1) (runV (runV C N3) N2) (runV C N3) C x0 x1 x2 x3_0_0  := by kernel_rfl
/-- loop.example/g00133/impl.drawn[int] -/
theorem impl_drawn_int_q (C : Ca tb) (N0 N1 N2 N3 : Nat) (x0 : List Int) (x1 : Int) (x2 : Bool) (x3_0_0 : Int) : c_impl_drawn_int (runV (runV (runV (runV C N3) N2) N1) N0) x0 x1 x2 x3_0_0 = impl_drawn_int_x (runV (runV (runV C N3) N2) N1) (runV (runV C N3) N2) (runV C N3) C x0 x1 x2 x3_0_0 := impl_drawn_int_r C N0 N1 N2 N3 x0 x1 x2 x3_0_0
theorem impl_drawn_int_eq (n : Nat) (x0 : List Int) (x1 : Int) (x2 : Bool) (x3_0_0 : Int) : c_impl_drawn_int (run tb orc (n + 4)) x0 x1 x2 x3_0_0 = impl_drawn_int_f n x0 x1 x2 x3_0_0 := by
  have h := impl_drawn_int_q (run tb orc n) (n + 3) (n + 2) (n + 1) n x0 x1 x2 x3_0_0
  rw [runV_0 n] at h
  rw [runV_1 n] at h
  rw [runV_2 n] at h
  rw [runV_3 n] at h
  exact h
noncomputable def impl_NoiseFrom_x (C0 : Ca tb) (x0 : List Int) (x1 : Int) (x2 : Int) : Option (Int × Int × Bool) :=
  (c_impl_in C0 x2 (1:Int) (16:Int)).bind fun (d1 : Bool) => (c_impl_drawn_int C0 x0 x1 d1 x2).bind fun (d2 : Int × Int × Bool) => some (d2.1, d2.2.1, d2.2.2)
noncomputable def impl_NoiseFrom_f (n : Nat) (x0 : List Int) (x1 : Int) (x2 : Int) : Option (Int × Int × Bool) :=
  impl_NoiseFrom_x (run tb orc n) x0 x1 x2 
theorem impl_NoiseFrom_r (n : Nat) (x0 : List Int) (x1 : Int) (x2 : Int) : c_impl_NoiseFrom (run tb orc (n + 1)) x0 x1 x2 = impl_NoiseFrom_x (run tb orc n) x0 x1 x2  := by kernel_rfl
/-- loop.example/g00133/impl.NoiseFrom -/
theorem impl_NoiseFrom_eq (n : Nat) (x0 : List Int) (x1 : Int) (x2 : Int) : c_impl_NoiseFrom (run tb orc (n + 1)) x0 x1 x2 = impl_NoiseFrom_f n x0 x1 x2 := by
  rw [impl_NoiseFrom_r]
  rfl
noncomputable def laws_FnExactNoiseFrom_x (C0 : Ca tb) (x0 : List Int) (x1 : Int) (x2 : Int) : Option Bool :=
  if (x0.length : Int) > (1048576:Int) then some (true) else (c_laws_toIntS C0 x0).bind fun (d1 : List Int) => (c_spec_NoiseFrom C0 d1 x1 x2).bind fun (d2 : Int × Int × Bool) => (c_laws_toIntS C0 x0).bind fun (d3 : List Int) => (c_impl_NoiseFrom C0 d3 x1 x2).bind fun (d4 : Int × Int × Bool) => if d4.1 = d2.1 then (if d4.2.1 = d2.2.1 then (if (d4.2.2 != d2.2.2) = true then some (false) else (c_laws_toIntS C0 x0).bind fun (d5 : List Int) => (c_laws_eqIntS C0 d3 d5).bind fun (d6 : Bool) => if (!d6) = true then some (false) else some (true)) else some (false)) else some (false)
noncomputable def laws_FnExactNoiseFrom_f (n : Nat) (x0 : List Int) (x1 : Int) (x2 : Int) : Option Bool :=
  laws_FnExactNoiseFrom_x (run tb orc n) x0 x1 x2 
theorem laws_FnExactNoiseFrom_r (n : Nat) (x0 : List Int) (x1 : Int) (x2 : Int) : c_laws_FnExactNoiseFrom (run tb orc (n + 1)) x0 x1 x2 = laws_FnExactNoiseFrom_x (run tb orc n) x0 x1 x2  := by kernel_rfl
/-- loop.example/g00133/laws.FnExactNoiseFrom -/
theorem laws_FnExactNoiseFrom_eq (n : Nat) (x0 : List Int) (x1 : Int) (x2 : Int) : c_laws_FnExactNoiseFrom (run tb orc (n + 1)) x0 x1 x2 = laws_FnExactNoiseFrom_f n x0 x1 x2 := by
  rw [laws_FnExactNoiseFrom_r]
  rfl
noncomputable def spec_TernaryFrom_x1 (C0 C1 C2 C3 : Ca tb) (self1 : (Int × Bool) → Option (Int × Int × Bool)) (x0 : List Int) (x1 : Int) (d1 : Bool) (v1 : Int × Bool) : Option (Int × Int × Bool) :=
  if (v1.2) = true then (if v1.1 ≥ (x0.length : Int) then (if (3:Int) = 0 then none else if (0:Int) < wr .i64 ((wr .i64 ((4294967296:Int).tdiv (3:Int))) * (3:Int)) then (if (3:Int) = 0 then none else if (0:Int).tmod (3:Int) = (2:Int) then some ((0:Int), (0:Int), false) else some ((0:Int), (0:Int), false)) else self1 (v1.1, false)) else if 0 ≤ wr .i64 ((wr .i64 (v1.1 + (1:Int))) - (1:Int)) then (if wr .i64 ((wr .i64 (v1.1 + (1:Int))) - (1:Int)) < (x0.length : Int) then (if (3:Int) = 0 then none else if x0.getD (wr .i64 ((wr .i64 (v1.1 + (1:Int))) - (1:Int))).toNat (0:Int) < wr .i64 ((wr .i64 ((4294967296:Int).tdiv (3:Int))) * (3:Int)) then (if (3:Int) = 0 then none else if (x0.getD (wr .i64 ((wr .i64 (v1.1 + (1:Int))) - (1:Int))).toNat (0:Int)).tmod (3:Int) = (2:Int) then (if (!v1.2) = true then some ((0:Int), (0:Int), false) else some ((-1:Int), wr .i64 (v1.1 + (1:Int)), true)) else if (!v1.2) = true then some ((0:Int), (0:Int), false) else some ((x0.getD (wr .i64 ((wr .i64 (v1.1 + (1:Int))) - (1:Int))).toNat (0:Int)).tmod (3:Int), wr .i64 (v1.1 + (1:Int)), true)) else self1 (wr .i64 (v1.1 + (1:Int)), v1.2)) else none) else none) else if (0:Int) = (2:Int) then (if (!v1.2) = true then some ((0:Int), (0:Int), false) else some ((-1:Int), v1.1, true)) else if (!v1.2) = true then some ((0:Int), (0:Int), false) else some ((0:Int), v1.1, true)
noncomputable def spec_TernaryFrom_l1 (C0 C1 C2 C3 : Ca tb) (N0 N1 N2 N3 : Nat) (x0 : List Int) (x1 : Int) (d1 : Bool) (m : Nat) (v1 : Int × Bool) : Option (Int × Int × Bool) :=
  loopIt (exec tb C2 58 1 N2 (codeAt [1, 0, 0, 0] (bodyOf Try.f58))) (trim 1 [0, 1] 1) (contAt tb C2 58 1 N2 [1, 0, 0] [] (bodyOf Try.f58) (fun e σ => (finishT tb Try.f58 e σ).bind fun x => (fun v H' => execOps tb C1 63 (opsAt [1, 0] (bodyOf Try.f63)) ((opsAt [1, 0] (bodyOf Try.f63)).drop 2) ⟨putT [.bptr 0 0, .top, .int .i64 ((0:Int)), .top, .bptr 0 0, .top, .top, .top, .top] (some 5) v, H'⟩ (fun ρ => (contAt tb C1 63 1 N1 [1, 0] [] (bodyOf Try.f63) (fun e σ => (finishT tb Try.f63 e σ).bind fun x => (fun v H' => execOps tb C0 19 (opsAt [1, 1, 1, 0] (bodyOf Try.f19)) ((opsAt [1, 1, 1, 0] (bodyOf Try.f19)).drop 3) ⟨putT [.sl (.int .i64) (x0), .int .i64 (x1), .top, .top, .int .i64 ((0:Int)), .int .i64 ((0:Int)), .bool (false), .bptr 0 0, .sl (.int .i64) (x0), .int .i64 (x1), .bool (d1), .bool (!d1), .sl (.int .i64) (x0), .int .i64 (x1), .agg [.sl (.int .i64) (x0), .int .i64 (x1), .bool (true)], .bptr 0 0, .bptr 0 0, .bptr 0 0, .top, .top, .top, .top, .top] (some 18) v, H'⟩ (fun ρ => (contAt tb C0 19 0 N0 [1, 1, 1, 0] [] (bodyOf Try.f19) (finish tb 19 Try.f19)) .normal ρ)) x.1 x.2)) .normal ρ)) x.1 x.2)) m ⟨[.bptr 0 0, .int .i64 ((3:Int)), .top, .top, .top, .top, .top, .top, .top, .top, .top, .top, .top, .top, .top, .top, .top, .top, .top, .top, .top], [.box [.sl (.int .i64) (x0), .int .i64 (v1.1), .bool (v1.2)]]⟩
noncomputable def spec_TernaryFrom_g1 (C0 C1 C2 C3 : Ca tb) (N0 N1 N2 N3 : Nat) (x0 : List Int) (x1 : Int) (d1 : Bool) (self1 : (Int × Bool) → Option (Int × Int × Bool)) (v1 : Int × Bool) : Option (Int × Int × Bool) :=
  spec_TernaryFrom_x1 C0 C1 C2 C3 self1 x0 x1 d1 v1
theorem spec_TernaryFrom_s1 (C : Ca tb) (N0 N1 N2 N3 : Nat) (x0 : List Int) (x1 : Int) (d1 : Bool) (m : Nat) (v1 : Int × Bool) : (spec_TernaryFrom_l1 (runV (runV (runV C N3) N2) N1) (runV (runV C N3) N2) (runV C N3) C N0 N1 N2 N3 x0 x1 d1 (m + 1)) v1 = spec_TernaryFrom_x1 (runV (runV (runV C N3) N2) N1) (runV (runV C N3) N2) (runV C N3) C (spec_TernaryFrom_l1 (runV (runV (runV C N3) N2) N1) (runV (runV C N3) N2) (runV C N3) C N0 N1 N2 N3 x0 x1 d1 m) x0 x1 d1 v1 := by kernel_rfl
theorem spec_TernaryFrom_e1 (C : Ca tb) (N0 N1 N2 N3 : Nat) (x0 : List Int) (x1 : Int) (d1 : Bool) : ∀ (m : Nat) (v : Int × Bool), (spec_TernaryFrom_l1 (runV (runV (runV C N3) N2) N1) (runV (runV C N3) N2) (runV C N3) C N0 N1 N2 N3 x0 x1 d1 m) v = iterO (spec_TernaryFrom_g1 (runV (runV (runV C N3) N2) N1) (runV (runV C N3) N2) (runV C N3) C N0 N1 N2 N3 x0 x1 d1 ) m v := by
  refine iterO_eq (fun _ => rfl) fun m v => ?_
  rw [spec_TernaryFrom_s1]
  rfl
noncomputable def spec_TernaryFrom_x (C0 C1 C2 C3 : Ca tb) (inn1 : (List Int) → (Int) → (Bool) → (Int × Bool) → Option (Int × Int × Bool)) (x0 : List Int) (x1 : Int) : Option (Int × Int × Bool) :=
  (c_spec_l7Words C0 x0 x1).bind fun (d1 : Bool) => if (!d1) = true then some ((0:Int), (0:Int), false) else inn1 x0 x1 d1 (x1, true)
noncomputable def spec_TernaryFrom_f (n : Nat) (x0 : List Int) (x1 : Int) : Option (Int × Int × Bool) :=
  spec_TernaryFrom_x (run tb orc (n + 3)) (run tb orc (n + 2)) (run tb orc (n + 1)) (run tb orc n) (fun x0 x1 d1 v => iterO (spec_TernaryFrom_g1 (run tb orc (n + 3)) (run tb orc (n + 2)) (run tb orc (n + 1)) (run tb orc n) (n + 3) (n + 2) (n + 1) n x0 x1 d1 ) (n + 1) v) x0 x1 
theorem spec_TernaryFrom_r (C : Ca tb) (N0 N1 N2 N3 : Nat) (x0 : List Int) (x1 : Int) : c_spec_TernaryFrom (runV (runV (runV (runV C N3) N2) N1) N0) x0 x1 = spec_TernaryFrom_x (runV (runV (runV C N3) N2) N1) (runV (runV C N3) N2) (runV C N3) C (fun x0 x1 d1 v => (spec_TernaryFrom_l1 (runV (runV (runV C N3) N2) N1) (runV (runV C N3) N2) (runV C N3) C N0 N1 N2 N3 x0 x1 d1 N2) v) x0 x1  := by kernel_rfl
/-- loop.example/g00133/spec.TernaryFrom -/
theorem spec_TernaryFrom_q (C : Ca tb) (N0 N1 N2 N3 : Nat) (x0 : List Int) (x1 : Int) : c_spec_TernaryFrom (runV (runV (runV (runV C N3) N2) N1) N0) x0 x1 = spec_TernaryFrom_x (runV (runV (runV C N3) N2) N1) (runV (runV C N3) N2) (runV C N3) C (fun x0 x1 d1 v => iterO (spec_TernaryFrom_g1 (runV (runV (runV C N3) N2) N1) (runV (runV C N3) N2) (runV C N3) C N0 N1 N2 N3 x0 x1 d1 ) N2 v) x0 x1 := by
  rw [spec_TernaryFrom_r]
  rw [show (fun x0 x1 d1 v => (spec_TernaryFrom_l1 (runV (runV (runV C N3) N2) N1) (runV (runV C N3) N2) (runV C N3) C N0 N1 N2 N3 x0 x1 d1 N2) v) = (fun x0 x1 d1 v => iterO (spec_TernaryFrom_g1 (runV (runV (runV C N3) N2) N1) (runV (runV C N3) N2) (runV C N3) C N0 N1 N2 N3 x0 x1 d1 ) N2 v) from by funext x0 x1 d1 v; exact spec_TernaryFrom_e1 C N0 N1 N2 N3 x0 x1 d1 _ v]
theorem spec_TernaryFrom_eq (n : Nat) (x0 : List Int) (x1 : Int) : c_spec_TernaryFrom (run tb orc (n + 4)) x0 x1 = spec_TernaryFrom_f n x0 x1 := by
  have h := spec_TernaryFrom_q (run tb orc n) (n + 3) (n + 2) (n + 1) n x0 x1
  rw [runV_0 n] at h
  rw [runV_1 n] at h
  rw [runV_2 n] at h
  rw [runV_3 n] at h
  exact h
noncomputable def impl_drawn_inta_x1 (C0 C1 C2 C3 C4 : Ca tb) (self1 : (Int × Bool) → Option (Int × Int × Bool)) (x0 : List Int) (x1 : Int) (x2 : Bool) (d2 : Bool) (v1 : Int × Bool) : Option (Int × Int × Bool) :=
  if (!v1.2) = true then (if (v1.2) = true then (if (v1.2) = true then (if (3:Int) = 0 then none else if (0:Int) < wr .i64 ((wr .i64 ((4294967296:Int).tdiv (3:Int))) * (3:Int)) then (if (3:Int) = 0 then none else if (0:Int).tmod (3:Int) = (2:Int) then some ((0:Int), (0:Int), false) else some ((0:Int), (0:Int), false)) else self1 (v1.1, true)) else none) else if (v1.2) = true then (if (3:Int) = 0 then none else if (0:Int) < wr .i64 ((wr .i64 ((4294967296:Int).tdiv (3:Int))) * (3:Int)) then (if (3:Int) = 0 then none else if (0:Int).tmod (3:Int) = (2:Int) then some ((0:Int), (0:Int), false) else some ((0:Int), (0:Int), false)) else self1 (v1.1, true)) else if v1.1 = (x0.length : Int) then (if (3:Int) = 0 then none else if (0:Int) < wr .i64 ((wr .i64 ((4294967296:Int).tdiv (3:Int))) * (3:Int)) then (if (3:Int) = 0 then none else if (0:Int).tmod (3:Int) = (2:Int) then some ((0:Int), (0:Int), false) else some ((0:Int), (0:Int), false)) else self1 (v1.1, true)) else if 0 ≤ wr .i64 ((wr .i64 (v1.1 + (1:Int))) - (1:Int)) then (if wr .i64 ((wr .i64 (v1.1 + (1:Int))) - (1:Int)) < (x0.length : Int) then (if (3:Int) = 0 then none else if x0.getD (wr .i64 ((wr .i64 (v1.1 + (1:Int))) - (1:Int))).toNat (0:Int) < wr .i64 ((wr .i64 ((4294967296:Int).tdiv (3:Int))) * (3:Int)) then (if (3:Int) = 0 then none else if (x0.getD (wr .i64 ((wr .i64 (v1.1 + (1:Int))) - (1:Int))).toNat (0:Int)).tmod (3:Int) = (2:Int) then (if (v1.2) = true then some ((0:Int), (0:Int), false) else some ((-1:Int), wr .i64 (v1.1 + (1:Int)), true)) else if (v1.2) = true then some ((0:Int), (0:Int), false) else some ((x0.getD (wr .i64 ((wr .i64 (v1.1 + (1:Int))) - (1:Int))).toNat (0:Int)).tmod (3:Int), wr .i64 (v1.1 + (1:Int)), true)) else self1 (wr .i64 (v1.1 + (1:Int)), v1.2)) else none) else none) else if (0:Int) = (2:Int) then (if (v1.2) = true then some ((0:Int), (0:Int), false) else some ((-1:Int), v1.1, true)) else if (v1.2) = true then some ((0:Int), (0:Int), false) else some ((0:Int), v1.1, true)
noncomputable def impl_drawn_inta_l1 (C0 C1 C2 C3 C4 : Ca tb) (N0 N1 N2 N3 N4 : Nat) (x0 : List Int) (x1 : Int) (x2 : Bool) (d2 : Bool) (m : Nat) (v1 : Int × Bool) : Option (Int × Int × Bool) :=
  loopIt (exec tb C3 62 1 N3 (codeAt [1, 0, 0, 0] (bodyOf Try.f62))) (trim 1 [0, 1] 1) (contAt tb C3 62 1 N3 [1, 0, 0] [] (bodyOf Try.f62) (fun e σ => (finishT tb Try.f62 e σ).bind fun x => (fun v H' => execOps tb C2 65 (opsAt [1, 0] (bodyOf Try.f65)) ((opsAt [1, 0] (bodyOf Try.f65)).drop 2) ⟨putT [.bptr 0 0, .top, .int .i64 ((0:Int)), .top, .bptr 0 0, .top, .top, .top, .top] (some 5) v, H'⟩ (fun ρ => (contAt tb C2 65 1 N2 [1, 0] [] (bodyOf Try.f65) (fun e σ => (finishT tb Try.f65 e σ).bind fun x => (fun v H' => execOps tb C1 64 (opsAt [1, 0] (bodyOf Try.f64)) ((opsAt [1, 0] (bodyOf Try.f64)).drop 2) ⟨putT [.bptr 0 0, .top, .int .i64 ((0:Int)), .bptr 0 0, .top] (some 4) v, H'⟩ (fun ρ => (contAt tb C1 64 1 N1 [1, 0] [] (bodyOf Try.f64) (fun e σ => (finishT tb Try.f64 e σ).bind fun x => (fun v H' => execOps tb C0 59 (opsAt [1, 1, 1, 1, 0] (bodyOf Try.f59)) ((opsAt [1, 1, 1, 1, 0] (bodyOf Try.f59)).drop 3) ⟨putT [.sl (.int .i64) (x0), .int .i64 (x1), .bool (x2), .fn 64 [], .top, .top, .top, .top, .int .i64 ((0:Int)), .int .i64 ((0:Int)), .bool (false), .int .i64 ((0:Int)), .bptr 0 0, .bool (d2), .top, .tup [.bptr 0 0, .bool (d2)], .sl (.int .i64) (x0), .int .i64 (x1), .tup [.bptr 0 0, .bool (d2)], .bptr 0 0, .bool (d2), .bool (d2), .bool (!d2), .bool (false), .bool (x2), .bool (!x2), .bool (!x2), .top, .fn 64 [], .bptr 0 0, .top, .top, .top, .top, .top, .top, .top, .top, .top, .top, .top] (some 30) v, H'⟩ (fun ρ => (contAt tb C0 59 0 N0 [1, 1, 1, 1, 0] [] (bodyOf Try.f59) (finish tb 59 Try.f59)) .normal ρ)) x.1 x.2)) .normal ρ)) x.1 x.2)) .normal ρ)) x.1 x.2)) m ⟨[.bptr 0 0, .int .i64 ((3:Int)), .top, .top, .top, .top, .top, .top, .top, .top, .top, .top, .top, .top, .top, .top, .top, .top, .top, .top, .top, .top], [.box [.sl (.int .i64) (x0), .int .i64 (v1.1), .bool (v1.2)]]⟩
noncomputable def impl_drawn_inta_g1 (C0 C1 C2 C3 C4 : Ca tb) (N0 N1 N2 N3 N4 : Nat) (x0 : List Int) (x1 : Int) (x2 : Bool) (d2 : Bool) (self1 : (Int × Bool) → Option (Int × Int × Bool)) (v1 : Int × Bool) : Option (Int × Int × Bool) :=
  impl_drawn_inta_x1 C0 C1 C2 C3 C4 self1 x0 x1 x2 d2 v1
theorem impl_drawn_inta_s1 (C : Ca tb) (N0 N1 N2 N3 N4 : Nat) (x0 : List Int) (x1 : Int) (x2 : Bool) (d2 : Bool) (m : Nat) (v1 : Int × Bool) : (impl_drawn_inta_l1 (runV (runV (runV (runV C N4) N3) N2) N1) (runV (runV (runV C N4) N3) N2) (runV (runV C N4) N3) (runV C N4) C N0 N1 N2 N3 N4 x0 x1 x2 d2 (m + 1)) v1 = impl_drawn_inta_x1 (runV (runV (runV (runV C N4) N3) N2) N1) (runV (runV (runV C N4) N3) N2) (runV (runV C N4) N3) (runV C N4) C (impl_drawn_inta_l1 (runV (runV (runV (runV C N4) N3) N2) N1) (runV (runV (runV C N4) N3) N2) (runV (runV C N4) N3) (runV C N4) C N0 N1 N2 N3 N4 x0 x1 x2 d2 m) x0 x1 x2 d2 v1 := by kernel_rfl
theorem impl_drawn_inta_e1 (C : Ca tb) (N0 N1 N2 N3 N4 : Nat) (x0 : List Int) (x1 : Int) (x2 : Bool) (d2 : Bool) : ∀ (m : Nat) (v : Int × Bool), (impl_drawn_inta_l1 (runV (runV (runV (runV C N4) N3) N2) N1) (runV (runV (runV C N4) N3) N2) (runV (runV C N4) N3) (runV C N4) C N0 N1 N2 N3 N4 x0 x1 x2 d2 m) v = iterO (impl_drawn_inta_g1 (runV (runV (runV (runV C N4) N3) N2) N1) (runV (runV (runV C N4) N3) N2) (runV (runV C N4) N3) (runV C N4) C N0 N1 N2 N3 N4 x0 x1 x2 d2 ) m v := by
  refine iterO_eq (fun _ => rfl) fun m v => ?_
  rw [impl_drawn_inta_s1]
  rfl
noncomputable def impl_drawn_inta_x (C0 C1 C2 C3 C4 : Ca tb) (inn1 : (List Int) → (Int) → (Bool) → (Bool) → (Int × Bool) → Option (Int × Int × Bool)) (x0 : List Int) (x1 : Int) (x2 : Bool) : Option (Int × Int × Bool) :=
  (c_impl_areWords C1 x0).bind fun (d1 : Bool) => if (d1) = true then (c_impl_in C1 x1 (0:Int) (x0.length : Int)).bind fun (d2 : Bool) => if (!d2) = true then some ((0:Int), (0:Int), false) else if (!x2) = true then some ((0:Int), (0:Int), false) else inn1 x0 x1 x2 d2 (x1, false) else some ((0:Int), (0:Int), false)
noncomputable def impl_drawn_inta_f (n : Nat) (x0 : List Int) (x1 : Int) (x2 : Bool) : Option (Int × Int × Bool) :=
  impl_drawn_inta_x (run tb orc (n + 4)) (run tb orc (n + 3)) (run tb orc (n + 2)) (run tb orc (n + 1)) (run tb orc n) (fun x0 x1 x2 d2 v => iterO (impl_drawn_inta_g1 (run tb orc (n + 4)) (run tb orc (n + 3)) (run tb orc (n + 2)) (run tb orc (n + 1)) (run tb orc n) (n + 4) (n + 3) (n + 2) (n + 1) n x0 x1 x2 d2 ) (n + 1) v) x0 x1 x2 
theorem impl_drawn_inta_r (C : Ca tb) (N0 N1 N2 N3 N4 : Nat) (x0 : List Int) (x1 : Int) (x2 : Bool) : c_impl_drawn_inta (runV (runV (runV (runV (runV C N4) N3) N2) N1) N0) x0 x1 x2 = impl_drawn_inta_x (runV (runV (runV (runV C N4) N3) N2) N1) (runV (runV (runV C N4) N3) N2) (runV (runV C N4) N3) (runV C N4) C (fun x0 x1 x2 d2 v => (impl_drawn_inta_l1 (runV (runV (runV (runV C N4) N3) N2) N1) (runV (runV (runV C N4) N3) N2) (runV (runV C N4) N3) (runV C N4) C N0 N1 N2 N3 N4 x0 x1 x2 d2 N3) v) x0 x1 x2  := by kernel_rfl
/-- loop.example/g00133/impl.drawn[int] -/
theorem impl_drawn_inta_q (C : Ca tb) (N0 N1 N2 N3 N4 : Nat) (x0 : List Int) (x1 : Int) (x2 : Bool) : c_impl_drawn_inta (runV (runV (runV (runV (runV C N4) N3) N2) N1) N0) x0 x1 x2 = impl_drawn_inta_x (runV (runV (runV (runV C N4) N3) N2) N1) (runV (runV (runV C N4) N3) N2) (runV (runV C N4) N3) (runV C N4) C (fun x0 x1 x2 d2 v => iterO (impl_drawn_inta_g1 (runV (runV (runV (runV C N4) N3) N2) N1) (runV (runV (runV C N4) N3) N2) (runV (runV C N4) N3) (runV C N4) C N0 N1 N2 N3 N4 x0 x1 x2 d2 ) N3 v) x0 x1 x2 := by
  rw [impl_drawn_inta_r]
  rw [show (fun x0 x1 x2 d2 v => (impl_drawn_inta_l1 (runV (runV (runV (runV C N4) N3) N2) N1) (runV (runV (runV C N4) N3) N2) (runV (runV C N4) N3) (runV C N4) C N0 N1 N2 N3 N4 x0 x1 x2 d2 N3) v) = (fun x0 x1 x2 d2 v => iterO (impl_drawn_inta_g1 (runV (runV (runV (runV C N4) N3) N2) N1) (runV (runV (runV C N4) N3) N2) (runV (runV C N4) N3) (runV C N4) C N0 N1 N2 N3 N4 x0 x1 x2 d2 ) N3 v) from by funext x0 x1 x2 d2 v; exact impl_drawn_inta_e1 C N0 N1 N2 N3 N4 x0 x1 x2 d2 _ v]
theorem impl_drawn_inta_eq (n : Nat) (x0 : List Int) (x1 : Int) (x2 : Bool) : c_impl_drawn_inta (run tb orc (n + 5)) x0 x1 x2 = impl_drawn_inta_f n x0 x1 x2 := by
  have h := impl_drawn_inta_q (run tb orc n) (n + 4) (n + 3) (n + 2) (n + 1) n x0 x1 x2
  rw [runV_0 n] at h
  rw [runV_1 n] at h
  rw [runV_2 n] at h
  rw [runV_3 n] at h
  rw [runV_4 n] at h
  exact h
noncomputable def impl_TernaryFrom_x (C0 : Ca tb) (x0 : List Int) (x1 : Int) : Option (Int × Int × Bool) :=
  (c_impl_drawn_inta C0 x0 x1 true).bind fun (d1 : Int × Int × Bool) => some (d1.1, d1.2.1, d1.2.2)
noncomputable def impl_TernaryFrom_f (n : Nat) (x0 : List Int) (x1 : Int) : Option (Int × Int × Bool) :=
  impl_TernaryFrom_x (run tb orc n) x0 x1 
theorem impl_TernaryFrom_r (n : Nat) (x0 : List Int) (x1 : Int) : c_impl_TernaryFrom (run tb orc (n + 1)) x0 x1 = impl_TernaryFrom_x (run tb orc n) x0 x1  := by kernel_rfl
/-- loop.example/g00133/impl.TernaryFrom -/
theorem impl_TernaryFrom_eq (n : Nat) (x0 : List Int) (x1 : Int) : c_impl_TernaryFrom (run tb orc (n + 1)) x0 x1 = impl_TernaryFrom_f n x0 x1 := by
  rw [impl_TernaryFrom_r]
  rfl
noncomputable def laws_FnExactTernaryFrom_x (C0 : Ca tb) (x0 : List Int) (x1 : Int) : Option Bool :=
  if (x0.length : Int) > (1048576:Int) then some (true) else (c_laws_toIntS C0 x0).bind fun (d1 : List Int) => (c_spec_TernaryFrom C0 d1 x1).bind fun (d2 : Int × Int × Bool) => (c_laws_toIntS C0 x0).bind fun (d3 : List Int) => (c_impl_TernaryFrom C0 d3 x1).bind fun (d4 : Int × Int × Bool) => if d4.1 = d2.1 then (if d4.2.1 = d2.2.1 then (if (d4.2.2 != d2.2.2) = true then some (false) else (c_laws_toIntS C0 x0).bind fun (d5 : List Int) => (c_laws_eqIntS C0 d3 d5).bind fun (d6 : Bool) => if (!d6) = true then some (false) else some (true)) else some (false)) else some (false)
noncomputable def laws_FnExactTernaryFrom_f (n : Nat) (x0 : List Int) (x1 : Int) : Option Bool :=
  laws_FnExactTernaryFrom_x (run tb orc n) x0 x1 
theorem laws_FnExactTernaryFrom_r (n : Nat) (x0 : List Int) (x1 : Int) : c_laws_FnExactTernaryFrom (run tb orc (n + 1)) x0 x1 = laws_FnExactTernaryFrom_x (run tb orc n) x0 x1  := by kernel_rfl
/-- loop.example/g00133/laws.FnExactTernaryFrom -/
theorem laws_FnExactTernaryFrom_eq (n : Nat) (x0 : List Int) (x1 : Int) : c_laws_FnExactTernaryFrom (run tb orc (n + 1)) x0 x1 = laws_FnExactTernaryFrom_f n x0 x1 := by
  rw [laws_FnExactTernaryFrom_r]
  rfl
noncomputable def spec_l1Modulus_x (C0 : Ca tb) (x0 : Int) : Option Bool :=
  (c_spec_l1In C0 x0 (2:Int) (268435456:Int)).bind fun (d1 : Bool) => some (d1)
noncomputable def spec_l1Modulus_f (n : Nat) (x0 : Int) : Option Bool :=
  spec_l1Modulus_x (run tb orc n) x0 
theorem spec_l1Modulus_r (n : Nat) (x0 : Int) : c_spec_l1Modulus (run tb orc (n + 1)) x0 = spec_l1Modulus_x (run tb orc n) x0  := by kernel_rfl
/-- loop.example/g00133/spec.l1Modulus -/
theorem spec_l1Modulus_eq (n : Nat) (x0 : Int) : c_spec_l1Modulus (run tb orc (n + 1)) x0 = spec_l1Modulus_f n x0 := by
  rw [spec_l1Modulus_r]
  rfl
noncomputable def spec_UniformFrom_x1 (C0 C1 C2 : Ca tb) (self1 : (Int × Bool) → Option (Int × Int × Bool)) (x0 : List Int) (x1 : Int) (x2 : Int) (d1 : Bool) (d2 : Bool) (v1 : Int × Bool) : Option (Int × Int × Bool) :=
  if (v1.2) = true then (if v1.1 ≥ (x0.length : Int) then (if x2 = 0 then none else if (0:Int) < wr .i64 ((wr .i64 ((4294967296:Int).tdiv x2)) * x2) then (if x2 = 0 then none else some ((0:Int), (0:Int), false)) else self1 (v1.1, false)) else if 0 ≤ wr .i64 ((wr .i64 (v1.1 + (1:Int))) - (1:Int)) then (if wr .i64 ((wr .i64 (v1.1 + (1:Int))) - (1:Int)) < (x0.length : Int) then (if x2 = 0 then none else if x0.getD (wr .i64 ((wr .i64 (v1.1 + (1:Int))) - (1:Int))).toNat (0:Int) < wr .i64 ((wr .i64 ((4294967296:Int).tdiv x2)) * x2) then (if x2 = 0 then none else if (!v1.2) = true then some ((0:Int), (0:Int), false) else some ((x0.getD (wr .i64 ((wr .i64 (v1.1 + (1:Int))) - (1:Int))).toNat (0:Int)).tmod x2, wr .i64 (v1.1 + (1:Int)), true)) else self1 (wr .i64 (v1.1 + (1:Int)), v1.2)) else none) else none) else if (!v1.2) = true then some ((0:Int), (0:Int), false) else some ((0:Int), v1.1, true)
noncomputable def spec_UniformFrom_l1 (C0 C1 C2 : Ca tb) (N0 N1 N2 : Nat) (x0 : List Int) (x1 : Int) (x2 : Int) (d1 : Bool) (d2 : Bool) (m : Nat) (v1 : Int × Bool) : Option (Int × Int × Bool) :=
  loopIt (exec tb C1 58 1 N1 (codeAt [1, 0, 0, 0] (bodyOf Try.f58))) (trim 1 [0, 1] 1) (contAt tb C1 58 1 N1 [1, 0, 0] [] (bodyOf Try.f58) (fun e σ => (finishT tb Try.f58 e σ).bind fun x => (fun v H' => execOps tb C0 15 (opsAt [1, 1, 1, 0] (bodyOf Try.f15)) ((opsAt [1, 1, 1, 0] (bodyOf Try.f15)).drop 4) ⟨putT [.sl (.int .i64) (x0), .int .i64 (x1), .int .i64 (x2), .top, .top, .top, .int .i64 ((0:Int)), .int .i64 ((0:Int)), .bool (false), .bptr 0 0, .sl (.int .i64) (x0), .int .i64 (x1), .bool (d1), .bool (!d1), .bool (false), .int .i64 (x2), .bool (d2), .bool (!d2), .bool (!d2), .sl (.int .i64) (x0), .int .i64 (x1), .agg [.sl (.int .i64) (x0), .int .i64 (x1), .bool (true)], .bptr 0 0, .bptr 0 0, .bptr 0 0, .int .i64 (x2), .top, .top, .top, .top, .top] (some 26) v, H'⟩ (fun ρ => (contAt tb C0 15 0 N0 [1, 1, 1, 0] [] (bodyOf Try.f15) (finish tb 15 Try.f15)) .normal ρ)) x.1 x.2)) m ⟨[.bptr 0 0, .int .i64 (x2), .top, .top, .top, .top, .top, .top, .top, .top, .top, .top, .top, .top, .top, .top, .top, .top, .top, .top, .top], [.box [.sl (.int .i64) (x0), .int .i64 (v1.1), .bool (v1.2)]]⟩
noncomputable def spec_UniformFrom_g1 (C0 C1 C2 : Ca tb) (N0 N1 N2 : Nat) (x0 : List Int) (x1 : Int) (x2 : Int) (d1 : Bool) (d2 : Bool) (self1 : (Int × Bool) → Option (Int × Int × Bool)) (v1 : Int × Bool) : Option (Int × Int × Bool) :=
  spec_UniformFrom_x1 C0 C1 C2 self1 x0 x1 x2 d1 d2 v1
theorem spec_UniformFrom_s1 (C : Ca tb) (N0 N1 N2 : Nat) (x0 : List Int) (x1 : Int) (x2 : Int) (d1 : Bool) (d2 : Bool) (m : Nat) (v1 : Int × Bool) : (spec_UniformFrom_l1 (runV (runV C N2) N1) (runV C N2) C N0 N1 N2 x0 x1 x2 d1 d2 (m + 1)) v1 = spec_UniformFrom_x1 (runV (runV C N2) N1) (runV C N2) C (spec_UniformFrom_l1 (runV (runV C N2) N1) (runV C N2) C N0 N1 N2 x0 x1 x2 d1 d2 m) x0 x1 x2 d1 d2 v1 := by kernel_rfl
theorem spec_UniformFrom_e1 (C : Ca tb) (N0 N1 N2 : Nat) (x0 : List Int) (x1 : Int) (x2 : Int) (d1 : Bool) (d2 : Bool) : ∀ (m : Nat) (v : Int × Bool), (spec_UniformFrom_l1 (runV (runV C N2) N1) (runV C N2) C N0 N1 N2 x0 x1 x2 d1 d2 m) v = iterO (spec_UniformFrom_g1 (runV (runV C N2) N1) (runV C N2) C N0 N1 N2 x0 x1 x2 d1 d2 ) m v := by
  refine iterO_eq (fun _ => rfl) fun m v => ?_
  rw [spec_UniformFrom_s1]
  rfl
noncomputable def spec_UniformFrom_x (C0 C1 C2 : Ca tb) (inn1 : (List Int) → (Int) → (Int) → (Bool) → (Bool) → (Int × Bool) → Option (Int × Int × Bool)) (x0 : List Int) (x1 : Int) (x2 : Int) : Option (Int × Int × Bool) :=
  (c_spec_l7Words C0 x0 x1).bind fun (d1 : Bool) => if (!d1) = true then some ((0:Int), (0:Int), false) else (c_spec_l1Modulus C0 x2).bind fun (d2 : Bool) => if (!d2) = true then some ((0:Int), (0:Int), false) else inn1 x0 x1 x2 d1 d2 (x1, true)
noncomputable def spec_UniformFrom_f (n : Nat) (x0 : List Int) (x1 : Int) (x2 : Int) : Option (Int × Int × Bool) :=
  spec_UniformFrom_x (run tb orc (n + 2)) (run tb orc (n + 1)) (run tb orc n) (fun x0 x1 x2 d1 d2 v => iterO (spec_UniformFrom_g1 (run tb orc (n + 2)) (run tb orc (n + 1)) (run tb orc n) (n + 2) (n + 1) n x0 x1 x2 d1 d2 ) (n + 1) v) x0 x1 x2 
theorem spec_UniformFrom_r (C : Ca tb) (N0 N1 N2 : Nat) (x0 : List Int) (x1 : Int) (x2 : Int) : c_spec_UniformFrom (runV (runV (runV C N2) N1) N0) x0 x1 x2 = spec_UniformFrom_x (runV (runV C N2) N1) (runV C N2) C (fun x0 x1 x2 d1 d2 v => (spec_UniformFrom_l1 (runV (runV C N2) N1) (runV C N2) C N0 N1 N2 x0 x1 x2 d1 d2 N1) v) x0 x1 x2  := by kernel_rfl
/-- loop.example/g00133/spec.UniformFrom -/
theorem spec_UniformFrom_q (C : Ca tb) (N0 N1 N2 : Nat) (x0 : List Int) (x1 : Int) (x2 : Int) : c_spec_UniformFrom (runV (runV (runV C N2) N1) N0) x0 x1 x2 = spec_UniformFrom_x (runV (runV C N2) N1) (runV C N2) C (fun x0 x1 x2 d1 d2 v => iterO (spec_UniformFrom_g1 (runV (runV C N2) N1) (runV C N2) C N0 N1 N2 x0 x1 x2 d1 d2 ) N1 v) x0 x1 x2 := by
  rw [spec_UniformFrom_r]
  rw [show (fun x0 x1 x2 d1 d2 v => (spec_UniformFrom_l1 (runV (runV C N2) N1) (runV C N2) C N0 N1 N2 x0 x1 x2 d1 d2 N1) v) = (fun x0 x1 x2 d1 d2 v => iterO (spec_UniformFrom_g1 (runV (runV C N2) N1) (runV C N2) C N0 N1 N2 x0 x1 x2 d1 d2 ) N1 v) from by funext x0 x1 x2 d1 d2 v; exact spec_UniformFrom_e1 C N0 N1 N2 x0 x1 x2 d1 d2 _ v]
theorem spec_UniformFrom_eq (n : Nat) (x0 : List Int) (x1 : Int) (x2 : Int) : c_spec_UniformFrom (run tb orc (n + 3)) x0 x1 x2 = spec_UniformFrom_f n x0 x1 x2 := by
  have h := spec_UniformFrom_q (run tb orc n) (n + 2) (n + 1) n x0 x1 x2
  rw [runV_0 n] at h
  rw [runV_1 n] at h
  rw [runV_2 n] at h
  exact h
noncomputable def impl_drawn_intb_x1 (C0 C1 C2 C3 : Ca tb) (self1 : (Int × Bool) → Option (Int × Int × Bool)) (x0 : List Int) (x1 : Int) (x2 : Bool) (x3_0_0 : Int) (d2 : Bool) (v1 : Int × Bool) : Option (Int × Int × Bool) :=
  if (!v1.2) = true then (if (v1.2) = true then (if (v1.2) = true then (if x3_0_0 = 0 then none else if (0:Int) < wr .i64 ((wr .i64 ((4294967296:Int).tdiv x3_0_0)) * x3_0_0) then (if x3_0_0 = 0 then none else some ((0:Int), (0:Int), false)) else self1 (v1.1, true)) else none) else if (v1.2) = true then (if x3_0_0 = 0 then none else if (0:Int) < wr .i64 ((wr .i64 ((4294967296:Int).tdiv x3_0_0)) * x3_0_0) then (if x3_0_0 = 0 then none else some ((0:Int), (0:Int), false)) else self1 (v1.1, true)) else if v1.1 = (x0.length : Int) then (if x3_0_0 = 0 then none else if (0:Int) < wr .i64 ((wr .i64 ((4294967296:Int).tdiv x3_0_0)) * x3_0_0) then (if x3_0_0 = 0 then none else some ((0:Int), (0:Int), false)) else self1 (v1.1, true)) else if 0 ≤ wr .i64 ((wr .i64 (v1.1 + (1:Int))) - (1:Int)) then (if wr .i64 ((wr .i64 (v1.1 + (1:Int))) - (1:Int)) < (x0.length : Int) then (if x3_0_0 = 0 then none else if x0.getD (wr .i64 ((wr .i64 (v1.1 + (1:Int))) - (1:Int))).toNat (0:Int) < wr .i64 ((wr .i64 ((4294967296:Int).tdiv x3_0_0)) * x3_0_0) then (if x3_0_0 = 0 then none else if (v1.2) = true then some ((0:Int), (0:Int), false) else some ((x0.getD (wr .i64 ((wr .i64 (v1.1 + (1:Int))) - (1:Int))).toNat (0:Int)).tmod x3_0_0, wr .i64 (v1.1 + (1:Int)), true)) else self1 (wr .i64 (v1.1 + (1:Int)), v1.2)) else none) else none) else if (v1.2) = true then some ((0:Int), (0:Int), false) else some ((0:Int), v1.1, true)
noncomputable def impl_drawn_intb_l1 (C0 C1 C2 C3 : Ca tb) (N0 N1 N2 N3 : Nat) (x0 : List Int) (x1 : Int) (x2 : Bool) (x3_0_0 : Int) (d2 : Bool) (m : Nat) (v1 : Int × Bool) : Option (Int × Int × Bool) :=
  loopIt (exec tb C2 62 1 N2 (codeAt [1, 0, 0, 0] (bodyOf Try.f62))) (trim 1 [0, 1] 1) (contAt tb C2 62 1 N2 [1, 0, 0] [] (bodyOf Try.f62) (fun e σ => (finishT tb Try.f62 e σ).bind fun x => (fun v H' => execOps tb C1 61 (opsAt [1, 0] (bodyOf Try.f61)) ((opsAt [1, 0] (bodyOf Try.f61)).drop 3) ⟨putT [.bptr 0 0, .ref [.int .i64 (x3_0_0)], .top, .int .i64 ((0:Int)), .bptr 0 0, .int .i64 (x3_0_0), .top] (some 6) v, H'⟩ (fun ρ => (contAt tb C1 61 1 N1 [1, 0] [] (bodyOf Try.f61) (fun e σ => (finishT tb Try.f61 e σ).bind fun x => (fun v H' => execOps tb C0 59 (opsAt [1, 1, 1, 1, 0] (bodyOf Try.f59)) ((opsAt [1, 1, 1, 1, 0] (bodyOf Try.f59)).drop 3) ⟨putT [.sl (.int .i64) (x0), .int .i64 (x1), .bool (x2), .fn 61 [.ref [.int .i64 (x3_0_0)]], .top, .top, .top, .top, .int .i64 ((0:Int)), .int .i64 ((0:Int)), .bool (false), .int .i64 ((0:Int)), .bptr 0 0, .bool (d2), .top, .tup [.bptr 0 0, .bool (d2)], .sl (.int .i64) (x0), .int .i64 (x1), .tup [.bptr 0 0, .bool (d2)], .bptr 0 0, .bool (d2), .bool (d2), .bool (!d2), .bool (false), .bool (x2), .bool (!x2), .bool (!x2), .top, .fn 61 [.ref [.int .i64 (x3_0_0)]], .bptr 0 0, .top, .top, .top, .top, .top, .top, .top, .top, .top, .top, .top] (some 30) v, H'⟩ (fun ρ => (contAt tb C0 59 0 N0 [1, 1, 1, 1, 0] [] (bodyOf Try.f59) (finish tb 59 Try.f59)) .normal ρ)) x.1 x.2)) .normal ρ)) x.1 x.2)) m ⟨[.bptr 0 0, .int .i64 (x3_0_0), .top, .top, .top, .top, .top, .top, .top, .top, .top, .top, .top, .top, .top, .top, .top, .top, .top, .top, .top, .top], [.box [.sl (.int .i64) (x0), .int .i64 (v1.1), .bool (v1.2)]]⟩
noncomputable def impl_drawn_intb_g1 (C0 C1 C2 C3 : Ca tb) (N0 N1 N2 N3 : Nat) (x0 : List Int) (x1 : Int) (x2 : Bool) (x3_0_0 : Int) (d2 : Bool) (self1 : (Int × Bool) → Option (Int × Int × Bool)) (v1 : Int × Bool) : Option (Int × Int × Bool) :=
  impl_drawn_intb_x1 C0 C1 C2 C3 self1 x0 x1 x2 x3_0_0 d2 v1
theorem impl_drawn_intb_s1 (C : Ca tb) (N0 N1 N2 N3 : Nat) (x0 : List Int) (x1 : Int) (x2 : Bool) (x3_0_0 : Int) (d2 : Bool) (m : Nat) (v1 : Int × Bool) : (impl_drawn_intb_l1 (runV (runV (runV C N3) N2) N1) (runV (runV C N3) N2) (runV C N3) C N0 N1 N2 N3 x0 x1 x2 x3_0_0 d2 (m + 1)) v1 = impl_drawn_intb_x1 (runV (runV (runV C N3) N2) N1) (runV (runV C N3) N2) (runV C N3) C (impl_drawn_intb_l1 (runV (runV (runV C N3) N2) N1) (runV (runV C N3) N2) (runV C N3) C N0 N1 N2 N3 x0 x1 x2 x3_0_0 d2 m) x0 x1 x2 x3_0_0 d2 v1 := by kernel_rfl
theorem impl_drawn_intb_e1 (C : Ca tb) (N0 N1 N2 N3 : Nat) (x0 : List Int) (x1 : Int) (x2 : Bool) (x3_0_0 : Int) (d2 : Bool) : ∀ (m : Nat) (v : Int × Bool), (impl_drawn_intb_l1 (runV (runV (runV C N3) N2) N1) (runV (runV C N3) N2) (runV C N3) C N0 N1 N2 N3 x0 x1 x2 x3_0_0 d2 m) v = iterO (impl_drawn_intb_g1 (runV (runV (runV C N3) N2) N1) (runV (runV C N3) N2) (runV C N3) C N0 N1 N2 N3 x0 x1 x2 x3_0_0 d2 ) m v := by
  refine iterO_eq (fun _ => rfl) fun m v => ?_
  rw [impl_drawn_intb_s1]
  rfl
noncomputable def impl_drawn_intb_x (C0 C1 C2 C3 : Ca tb) (inn1 : (List Int) → (Int) → (Bool) → (Int) → (Bool) → (Int × Bool) → Option (Int × Int × Bool)) (x0 : List Int) (x1 : Int) (x2 : Bool) (x3_0_0 : Int) : Option (Int × Int × Bool) :=
  (c_impl_areWords C1 x0).bind fun (d1 : Bool) => if (d1) = true then (c_impl_in C1 x1 (0:Int) (x0.length : Int)).bind fun (d2 : Bool) => if (!d2) = true then some ((0:Int), (0:Int), false) else if (!x2) = true then some ((0:Int), (0:Int), false) else inn1 x0 x1 x2 x3_0_0 d2 (x1, false) else some ((0:Int), (0:Int), false)
noncomputable def impl_drawn_intb_f (n : Nat) (x0 : List Int) (x1 : Int) (x2 : Bool) (x3_0_0 : Int) : Option (Int × Int × Bool) :=
  impl_drawn_intb_x (run tb orc (n + 3)) (run tb orc (n + 2)) (run tb orc (n + 1)) (run tb orc n) (fun x0 x1 x2 x3_0_0 d2 v => iterO (impl_drawn_intb_g1 (run tb orc (n + 3)) (run tb orc (n + 2)) (run tb orc (n + 1)) (run tb orc n) (n + 3) (n + 2) (n + 1) n x0 x1 x2 x3_0_0 d2 ) (n + 1) v) x0 x1 x2 x3_0_0 
theorem impl_drawn_intb_r (C : Ca tb) (N0 N1 N2 N3 : Nat) (x0 : List Int) (x1 : Int) (x2 : Bool) (x3_0_0 : Int) : c_impl_drawn_intb (runV (runV (runV (runV C N3) N2) N1) N0) x0 x1 x2 x3_0_0 = impl_drawn_intb_x (runV (runV (runV C N3) N2) N1) (runV (runV C N3) N2) (runV C N3) C (fun x0 x1 x2 x3_0_0 d2 v => (impl_drawn_intb_l1 (runV (runV (runV C N3) N2) N1) (runV (runV C N3) N2) (runV C N3) C N0 N1 N2 N3 x0 x1 x2 x3_0_0 d2 N2) v) x0 x1 x2 x3_0_0  := by kernel_rfl
/-- loop.example/g00133/impl.drawn[int] -/
theorem impl_drawn_intb_q (C : Ca tb) (N0 N1 N2 N3 : Nat) (x0 : List Int) (x1 : Int) (x2 : Bool) (x3_0_0 : Int) : c_impl_drawn_intb (runV (runV (runV (runV C N3) N2) N1) N0) x0 x1 x2 x3_0_0 = impl_drawn_intb_x (runV (runV (runV C N3) N2) N1) (runV (runV C N3) N2) (runV C N3) C (fun x0 x1 x2 x3_0_0 d2 v => iterO (impl_drawn_intb_g1 (runV (runV (runV C N3) N2) N1) (runV (runV C N3) N2) (runV C N3) C N0 N1 N2 N3 x0 x1 x2 x3_0_0 d2 ) N2 v) x0 x1 x2 x3_0_0 := by
  rw [impl_drawn_intb_r]
  rw [show (fun x0 x1 x2 x3_0_0 d2 v => (impl_drawn_intb_l1 (runV (runV (runV C N3) N2) N1) (runV (runV C N3) N2) (runV C N3) C N0 N1 N2 N3 x0 x1 x2 x3_0_0 d2 N2) v) = (fun x0 x1 x2 x3_0_0 d2 v => iterO (impl_drawn_intb_g1 (runV (runV (runV C N3) N2) N1) (runV (runV C N3) N2) (runV C N3) C N0 N1 N2 N3 x0 x1 x2 x3_0_0 d2 ) N2 v) from by funext x0 x1 x2 x3_0_0 d2 v; exact impl_drawn_intb_e1 C N0 N1 N2 N3 x0 x1 x2 x3_0_0 d2 _ v]
theorem impl_drawn_intb_eq (n : Nat) (x0 : List Int) (x1 : Int) (x2 : Bool) (x3_0_0 : Int) : c_impl_drawn_intb (run tb orc (n + 4)) x0 x1 x2 x3_0_0 = impl_drawn_intb_f n x0 x1 x2 x3_0_0 := by
  have h := impl_drawn_intb_q (run tb orc n) (n + 3) (n + 2) (n + 1) n x0 x1 x2 x3_0_0
  rw [runV_0 n] at h
  rw [runV_1 n] at h
  rw [runV_2 n] at h
  rw [runV_3 n] at h
  exact h
noncomputable def impl_isModulus_x (C0 : Ca tb) (x0 : Int) : Option Bool :=
  (c_impl_in C0 x0 (2:Int) (268435456:Int)).bind fun (d1 : Bool) => some (d1)
noncomputable def impl_isModulus_f (n : Nat) (x0 : Int) : Option Bool :=
  impl_isModulus_x (run tb orc n) x0 
theorem impl_isModulus_r (n : Nat) (x0 : Int) : c_impl_isModulus (run tb orc (n + 1)) x0 = impl_isModulus_x (run tb orc n) x0  := by kernel_rfl
/-- loop.example/g00133/impl.isModulus -/
theorem impl_isModulus_eq (n : Nat) (x0 : Int) : c_impl_isModulus (run tb orc (n + 1)) x0 = impl_isModulus_f n x0 := by
  rw [impl_isModulus_r]
  rfl
noncomputable def impl_UniformFrom_x (C0 : Ca tb) (x0 : List Int) (x1 : Int) (x2 : Int) : Option (Int × Int × Bool) :=
  (c_impl_isModulus C0 x2).bind fun (d1 : Bool) => (c_impl_drawn_intb C0 x0 x1 d1 x2).bind fun (d2 : Int × Int × Bool) => some (d2.1, d2.2.1, d2.2.2)
noncomputable def impl_UniformFrom_f (n : Nat) (x0 : List Int) (x1 : Int) (x2 : Int) : Option (Int × Int × Bool) :=
  impl_UniformFrom_x (run tb orc n) x0 x1 x2 
theorem impl_UniformFrom_r (n : Nat) (x0 : List Int) (x1 : Int) (x2 : Int) : c_impl_UniformFrom (run tb orc (n + 1)) x0 x1 x2 = impl_UniformFrom_x (run tb orc n) x0 x1 x2  := by kernel_rfl
/-- loop.example/g00133/impl.UniformFrom -/
theorem impl_UniformFrom_eq (n : Nat) (x0 : List Int) (x1 : Int) (x2 : Int) : c_impl_UniformFrom (run tb orc (n + 1)) x0 x1 x2 = impl_UniformFrom_f n x0 x1 x2 := by
  rw [impl_UniformFrom_r]
  rfl
noncomputable def laws_FnExactUniformFrom_x (C0 : Ca tb) (x0 : List Int) (x1 : Int) (x2 : Int) : Option Bool :=
  if (x0.length : Int) > (1048576:Int) then some (true) else (c_laws_toIntS C0 x0).bind fun (d1 : List Int) => (c_spec_UniformFrom C0 d1 x1 x2).bind fun (d2 : Int × Int × Bool) => (c_laws_toIntS C0 x0).bind fun (d3 : List Int) => (c_impl_UniformFrom C0 d3 x1 x2).bind fun (d4 : Int × Int × Bool) => if d4.1 = d2.1 then (if d4.2.1 = d2.2.1 then (if (d4.2.2 != d2.2.2) = true then some (false) else (c_laws_toIntS C0 x0).bind fun (d5 : List Int) => (c_laws_eqIntS C0 d3 d5).bind fun (d6 : Bool) => if (!d6) = true then some (false) else some (true)) else some (false)) else some (false)
noncomputable def laws_FnExactUniformFrom_f (n : Nat) (x0 : List Int) (x1 : Int) (x2 : Int) : Option Bool :=
  laws_FnExactUniformFrom_x (run tb orc n) x0 x1 x2 
theorem laws_FnExactUniformFrom_r (n : Nat) (x0 : List Int) (x1 : Int) (x2 : Int) : c_laws_FnExactUniformFrom (run tb orc (n + 1)) x0 x1 x2 = laws_FnExactUniformFrom_x (run tb orc n) x0 x1 x2  := by kernel_rfl
/-- loop.example/g00133/laws.FnExactUniformFrom -/
theorem laws_FnExactUniformFrom_eq (n : Nat) (x0 : List Int) (x1 : Int) (x2 : Int) : c_laws_FnExactUniformFrom (run tb orc (n + 1)) x0 x1 x2 = laws_FnExactUniformFrom_f n x0 x1 x2 := by
  rw [laws_FnExactUniformFrom_r]
  rfl
end Go.Proofs.Ytnlgciomdghfiaa.Fw
