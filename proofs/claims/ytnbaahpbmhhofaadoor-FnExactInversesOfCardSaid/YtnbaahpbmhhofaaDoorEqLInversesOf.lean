/- The functions' equations over the interpreter. Printed by fwgen.py. -/
import Derived.Test.YtnbaahpbmhhofaaDoorFwZf
import Derived.Test.YtnbaahpbmhhofaaDoorFwTok
import Derived.Test.YtnbaahpbmhhofaaDoorFwOrc
import Derived.Test.YtnbaahpbmhhofaaDoorEqA
import Derived.Test.YtnbaahpbmhhofaaDoorEqB
import Derived.Test.YtnbaahpbmhhofaaDoorEqInv
import Derived.KernelRfl
import Derived.Lib.Tables
namespace Go.Proofs.YtnbaahpbmhhofaaDoor.Fw
open Go Go.RowKit
set_option linter.unusedVariables false
set_option maxRecDepth 100000
noncomputable def c_laws_FnExactInversesOf (C : Ca tb) (x0 : List Int) : Option Bool := C.pure 13 [.sl (.int .i64) (x0)]
noncomputable def c_impl_InversesOf (C : Ca tb) (x0 : List Int) : Option (List Int × Bool) := C.pure 50 [.sl (.int .i64) (x0)]
noncomputable def c_spec_InversesOf (C : Ca tb) (x0 : List Int) : Option (List Int × Bool) := C.pure 49 [.sl (.int .i64) (x0)]
noncomputable def spec_InversesOf_x1 (C0 : Ca tb) (self1 : (Int × List Int) → Option (List Int × Bool)) (x0 : List Int) (v1 : Int × List Int) : Option (List Int × Bool) :=
  if v1.1 < (x0.length : Int) then (c_spec_l4Inverse C0 x0 v1.1).bind fun (d2 : Int) => if v1.2.length + ([d2]).length < lim then (self1 (wr .i64 (v1.1 + (1:Int)), v1.2 ++ ([d2]))) else none else some (v1.2, true)
noncomputable def spec_InversesOf_l1 (C0 : Ca tb) (N0 : Nat) (x0 : List Int) (m : Nat) (v1 : Int × List Int) : Option (List Int × Bool) :=
  loopIt (exec tb C0 49 0 N0 (codeAt [1, 1, 1, 0, 1, 0, 0] (bodyOf Tryd.f49))) (trim 0 [0, 4, 10, 11] 1) (contAt tb C0 49 0 N0 [1, 1, 1, 0, 1, 0] [] (bodyOf Tryd.f49) (finish tb 49 Tryd.f49)) m ⟨[.sl (.int .i64) (x0), .top, .top, .top, .osl 0 0, .top, .top, .top, .top, .top, .int .i64 ((x0.length : Int)), .int .i64 (v1.1), .top, .top, .top, .top, .top, .top, .top, .top, .top, .top], [.arr (.int .i64) (v1.2) 0 true]⟩
noncomputable def spec_InversesOf_g1 (C0 : Ca tb) (N0 : Nat) (x0 : List Int) (self1 : (Int × List Int) → Option (List Int × Bool)) (v1 : Int × List Int) : Option (List Int × Bool) :=
  spec_InversesOf_x1 C0 self1 x0 v1
theorem spec_InversesOf_s1 (n : Nat) (x0 : List Int) (m : Nat) (v1 : Int × List Int) : (spec_InversesOf_l1 (run tb orc n) n x0 (m + 1)) v1 = spec_InversesOf_x1 (run tb orc n) (spec_InversesOf_l1 (run tb orc n) n x0 m) x0 v1 := by kernel_rfl
theorem spec_InversesOf_e1 (n : Nat) (x0 : List Int) : ∀ (m : Nat) (v : Int × List Int), (spec_InversesOf_l1 (run tb orc n) n x0 m) v = iterO (spec_InversesOf_g1 (run tb orc n) n x0 ) m v := by
  refine iterO_eq (fun _ => rfl) fun m v => ?_
  rw [spec_InversesOf_s1]
  rfl
noncomputable def spec_InversesOf_x (C0 : Ca tb) (inn1 : (List Int) → (Int × List Int) → Option (List Int × Bool)) (x0 : List Int) : Option (List Int × Bool) :=
  (c_spec_GoodBasis C0 x0).bind fun (d1 : Bool) => if (!d1) = true then some ([], false) else inn1 x0 ((0:Int), [])
noncomputable def spec_InversesOf_f (n : Nat) (x0 : List Int) : Option (List Int × Bool) :=
  spec_InversesOf_x (run tb orc n) (fun x0 v => iterO (spec_InversesOf_g1 (run tb orc n) n x0 ) n v) x0 
theorem spec_InversesOf_r (n : Nat) (x0 : List Int) : c_spec_InversesOf (run tb orc (n + 1)) x0 = spec_InversesOf_x (run tb orc n) (fun x0 v => (spec_InversesOf_l1 (run tb orc n) n x0 n) v) x0  := by kernel_rfl
/-- loop.example/g00133/spec.InversesOf -/
theorem spec_InversesOf_eq (n : Nat) (x0 : List Int) : c_spec_InversesOf (run tb orc (n + 1)) x0 = spec_InversesOf_f n x0 := by
  rw [spec_InversesOf_r]
  rw [show (fun x0 v => (spec_InversesOf_l1 (run tb orc n) n x0 n) v) = (fun x0 v => iterO (spec_InversesOf_g1 (run tb orc n) n x0 ) n v) from by funext x0 v; exact spec_InversesOf_e1 n x0 _ v]
  rfl
noncomputable def impl_InversesOf_x (C0 : Ca tb) (x0 : List Int) : Option (List Int × Bool) :=
  (c_impl_GoodBasis C0 x0).bind fun (d1 : Bool) => if (!d1) = true then some ([], false) else (c_impl_inverses C0 x0).bind fun (d2 : List Int) => some (d2, true)
noncomputable def impl_InversesOf_f (n : Nat) (x0 : List Int) : Option (List Int × Bool) :=
  impl_InversesOf_x (run tb orc n) x0 
theorem impl_InversesOf_r (n : Nat) (x0 : List Int) : c_impl_InversesOf (run tb orc (n + 1)) x0 = impl_InversesOf_x (run tb orc n) x0  := by kernel_rfl
/-- loop.example/g00133/impl.InversesOf -/
theorem impl_InversesOf_eq (n : Nat) (x0 : List Int) : c_impl_InversesOf (run tb orc (n + 1)) x0 = impl_InversesOf_f n x0 := by
  rw [impl_InversesOf_r]
  rfl
noncomputable def laws_FnExactInversesOf_x2 (C0 C1 : Ca tb) (self2 : (Int × Int × List Int) → Option Bool) (x0 : List Int) (d1 : List Int) (d2 : List Int × Bool) (d4 : List Int × Bool) (d5 : Bool) (d6 : List Int) (d7 : Bool) (v1 : Int × Int × List Int) (d8 : Bool) (v2 : Int × Int × List Int) : Option Bool :=
  if v2.2.1 < (v2.2.2.length : Int) then (if 0 ≤ v2.2.1 then (if v2.2.1 < (v2.2.2.length : Int) then self2 (wr .i64 (v2.1 + (1:Int)), wr .i64 (v2.2.1 + (1:Int)), v2.2.2.set v2.2.1.toNat v2.1) else none) else none) else (c_laws_heldIntS C0 v2.2.2 (1:Int)).bind fun (d9 : Int) => if d9 < (0:Int) then some (false) else if d9 = v2.1 then (c_laws_toIntS C0 x0).bind fun (d10 : List Int) => (c_impl_InversesOf C0 d10).bind fun (d11 : List Int × Bool) => (c_laws_eqIntS C0 d11.1 d2.1).bind fun (d12 : Bool) => if (!d12) = true then some (false) else if (d11.2 != d2.2) = true then some (false) else (c_laws_heldIntS C0 v2.2.2 (1:Int)).bind fun (d13 : Int) => if d13 < (0:Int) then some (false) else if d13 = v2.1 then some (true) else some (false) else some (false)
noncomputable def laws_FnExactInversesOf_l2 (C0 C1 : Ca tb) (N0 N1 : Nat) (x0 : List Int) (d1 : List Int) (d2 : List Int × Bool) (d4 : List Int × Bool) (d5 : Bool) (d6 : List Int) (d7 : Bool) (v1 : Int × Int × List Int) (d8 : Bool) (m : Nat) (v2 : Int × Int × List Int) : Option Bool :=
  loopIt (exec tb C1 34 4 N1 (codeAt [1, 0, 1, 0, 0] (bodyOf Tryd.f34))) (trim 4 [0, 1, 5] 4) (contAt tb C1 34 4 N1 [1, 0, 1, 0] [] (bodyOf Tryd.f34) (fun e σ => (finishT tb Tryd.f34 e σ).bind fun x => (fun v H' => execOps tb C0 13 (opsAt [1, 1, 1, 1, 1, 1, 1, 1, 1, 1, 1, 0] (bodyOf Tryd.f13)) ((opsAt [1, 1, 1, 1, 1, 1, 1, 1, 1, 1, 1, 0] (bodyOf Tryd.f13)).drop 3) ⟨putT [.sl (.int .i64) (x0), .top, .bool (false), .sl (.int .i64) (d2.1), .bool (d2.2), .osl 1 0, .osl 2 0, .bool (d4.2), .int .i64 (v1.1), .int .i64 ((1:Int)), .top, .top, .top, .sl (.int .i64) (x0), .int .i64 ((x0.length : Int)), .dec ((x0.length : Int) > (1048576:Int)) inferInstance, .tup [.sl (.int .i64) (d2.1), .bool (d2.2)], .sl (.int .i64) (x0), .sl (.int .i64) (d1), .tup [.sl (.int .i64) (d2.1), .bool (d2.2)], .sl (.int .i64) (d2.1), .bool (d2.2), .sl (.int .i64) (x0), .osl 1 0, .tup [.osl 2 0, .bool (d4.2)], .osl 1 0, .tup [.osl 2 0, .bool (d4.2)], .osl 2 0, .bool (d4.2), .osl 2 0, .sl (.int .i64) (d2.1), .bool (d5), .bool (!d5), .bool (false), .bool (d4.2), .bool (d2.2), .bool (d4.2 != d2.2), .bool (d4.2 != d2.2), .osl 1 0, .sl (.int .i64) (x0), .osl 3 0, .bool (d7), .bool (!d7), .osl 1 0, .int .i64 ((1:Int)), .int .i64 (v1.1), .int .i64 (v1.1), .dec (v1.1 < (0:Int)) inferInstance, .bool (false), .osl 2 0, .sl (.int .i64) (d2.1), .bool (d8), .bool (!d8), .bool (!d8), .bool (false), .bool (d4.2), .bool (d2.2), .bool (d4.2 != d2.2), .bool (d4.2 != d2.2), .osl 2 0, .int .i64 ((1:Int)), .top, .top, .top, .top, .top, .top, .top, .top, .top, .top, .top, .top, .top, .top, .top, .top, .top, .top, .top, .top, .top, .top, .top, .top, .top, .top, .top, .top, .top, .top, .top, .top] (some 61) v, H'⟩ (fun ρ => (contAt tb C0 13 0 N0 [1, 1, 1, 1, 1, 1, 1, 1, 1, 1, 1, 0] [] (bodyOf Tryd.f13) (finish tb 13 Tryd.f13)) .normal ρ)) x.1 x.2)) m ⟨[.osl 2 0, .int .i64 (v2.1), .top, .top, .top, .int .i64 (v2.2.1), .top, .top, .top, .top, .top, .top, .top, .top, .top, .top, .top, .top, .top], [.dead, .arr (.int .i64) (v1.2.2) 0 true, .arr (.int .i64) (v2.2.2) 0 true, .arr (.int .i64) (d6) 0 true]⟩
noncomputable def laws_FnExactInversesOf_x1 (C0 C1 : Ca tb) (self1 : (Int × Int × List Int) → Option Bool) (inn2 : (List Int) → (List Int) → (List Int × Bool) → (List Int × Bool) → (Bool) → (List Int) → (Bool) → (Int × Int × List Int) → (Bool) → (Int × Int × List Int) → Option Bool) (x0 : List Int) (d1 : List Int) (d2 : List Int × Bool) (d4 : List Int × Bool) (d5 : Bool) (d6 : List Int) (d7 : Bool) (v1 : Int × Int × List Int) : Option Bool :=
  if v1.2.1 < (v1.2.2.length : Int) then (if 0 ≤ v1.2.1 then (if v1.2.1 < (v1.2.2.length : Int) then self1 (wr .i64 (v1.1 + (1:Int)), wr .i64 (v1.2.1 + (1:Int)), v1.2.2.set v1.2.1.toNat v1.1) else none) else none) else if v1.1 < (0:Int) then some (false) else (c_laws_eqIntS C0 d4.1 d2.1).bind fun (d8 : Bool) => if (!d8) = true then some (false) else if (d4.2 != d2.2) = true then some (false) else inn2 x0 d1 d2 d4 d5 d6 d7 v1 d8 ((1:Int), (0:Int), d4.1)
noncomputable def laws_FnExactInversesOf_l1 (C0 C1 : Ca tb) (N0 N1 : Nat) (x0 : List Int) (d1 : List Int) (d2 : List Int × Bool) (d4 : List Int × Bool) (d5 : Bool) (d6 : List Int) (d7 : Bool) (m : Nat) (v1 : Int × Int × List Int) : Option Bool :=
  loopIt (exec tb C1 34 4 N1 (codeAt [1, 0, 1, 0, 0] (bodyOf Tryd.f34))) (trim 4 [0, 1, 5] 4) (contAt tb C1 34 4 N1 [1, 0, 1, 0] [] (bodyOf Tryd.f34) (fun e σ => (finishT tb Tryd.f34 e σ).bind fun x => (fun v H' => execOps tb C0 13 (opsAt [1, 1, 1, 1, 1, 1, 1, 1, 0] (bodyOf Tryd.f13)) ((opsAt [1, 1, 1, 1, 1, 1, 1, 1, 0] (bodyOf Tryd.f13)).drop 3) ⟨putT [.sl (.int .i64) (x0), .top, .bool (false), .sl (.int .i64) (d2.1), .bool (d2.2), .osl 1 0, .osl 2 0, .bool (d4.2), .int .i64 ((1:Int)), .top, .top, .top, .top, .sl (.int .i64) (x0), .int .i64 ((x0.length : Int)), .dec ((x0.length : Int) > (1048576:Int)) inferInstance, .tup [.sl (.int .i64) (d2.1), .bool (d2.2)], .sl (.int .i64) (x0), .sl (.int .i64) (d1), .tup [.sl (.int .i64) (d2.1), .bool (d2.2)], .sl (.int .i64) (d2.1), .bool (d2.2), .sl (.int .i64) (x0), .osl 1 0, .tup [.osl 2 0, .bool (d4.2)], .osl 1 0, .tup [.osl 2 0, .bool (d4.2)], .osl 2 0, .bool (d4.2), .osl 2 0, .sl (.int .i64) (d2.1), .bool (d5), .bool (!d5), .bool (false), .bool (d4.2), .bool (d2.2), .bool (d4.2 != d2.2), .bool (d4.2 != d2.2), .osl 1 0, .sl (.int .i64) (x0), .osl 3 0, .bool (d7), .bool (!d7), .osl 1 0, .int .i64 ((1:Int)), .top, .top, .top, .top, .top, .top, .top, .top, .top, .top, .top, .top, .top, .top, .top, .top, .top, .top, .top, .top, .top, .top, .top, .top, .top, .top, .top, .top, .top, .top, .top, .top, .top, .top, .top, .top, .top, .top, .top, .top, .top, .top, .top, .top, .top, .top, .top, .top] (some 45) v, H'⟩ (fun ρ => (contAt tb C0 13 0 N0 [1, 1, 1, 1, 1, 1, 1, 1, 0] [] (bodyOf Tryd.f13) (finish tb 13 Tryd.f13)) .normal ρ)) x.1 x.2)) m ⟨[.osl 1 0, .int .i64 (v1.1), .top, .top, .top, .int .i64 (v1.2.1), .top, .top, .top, .top, .top, .top, .top, .top, .top, .top, .top, .top, .top], [.dead, .arr (.int .i64) (v1.2.2) 0 true, .arr (.int .i64) (d4.1) 0 true, .arr (.int .i64) (d6) 0 true]⟩
noncomputable def laws_FnExactInversesOf_g2 (C0 C1 : Ca tb) (N0 N1 : Nat) (x0 : List Int) (d1 : List Int) (d2 : List Int × Bool) (d4 : List Int × Bool) (d5 : Bool) (d6 : List Int) (d7 : Bool) (v1 : Int × Int × List Int) (d8 : Bool) (self2 : (Int × Int × List Int) → Option Bool) (v2 : Int × Int × List Int) : Option Bool :=
  laws_FnExactInversesOf_x2 C0 C1 self2 x0 d1 d2 d4 d5 d6 d7 v1 d8 v2
noncomputable def laws_FnExactInversesOf_g1 (C0 C1 : Ca tb) (N0 N1 : Nat) (x0 : List Int) (d1 : List Int) (d2 : List Int × Bool) (d4 : List Int × Bool) (d5 : Bool) (d6 : List Int) (d7 : Bool) (self1 : (Int × Int × List Int) → Option Bool) (v1 : Int × Int × List Int) : Option Bool :=
  laws_FnExactInversesOf_x1 C0 C1 self1 (fun x0 d1 d2 d4 d5 d6 d7 v1 d8 v => iterO (laws_FnExactInversesOf_g2 C0 C1 N0 N1 x0 d1 d2 d4 d5 d6 d7 v1 d8 ) N1 v) x0 d1 d2 d4 d5 d6 d7 v1
theorem laws_FnExactInversesOf_s2 (C : Ca tb) (N0 N1 : Nat) (x0 : List Int) (d1 : List Int) (d2 : List Int × Bool) (d4 : List Int × Bool) (d5 : Bool) (d6 : List Int) (d7 : Bool) (v1 : Int × Int × List Int) (d8 : Bool) (m : Nat) (v2 : Int × Int × List Int) : (laws_FnExactInversesOf_l2 (runV C N1) C N0 N1 x0 d1 d2 d4 d5 d6 d7 v1 d8 (m + 1)) v2 = laws_FnExactInversesOf_x2 (runV C N1) C (laws_FnExactInversesOf_l2 (runV C N1) C N0 N1 x0 d1 d2 d4 d5 d6 d7 v1 d8 m) x0 d1 d2 d4 d5 d6 d7 v1 d8 v2 := by kernel_rfl
theorem laws_FnExactInversesOf_e2 (C : Ca tb) (N0 N1 : Nat) (x0 : List Int) (d1 : List Int) (d2 : List Int × Bool) (d4 : List Int × Bool) (d5 : Bool) (d6 : List Int) (d7 : Bool) (v1 : Int × Int × List Int) (d8 : Bool) : ∀ (m : Nat) (v : Int × Int × List Int), (laws_FnExactInversesOf_l2 (runV C N1) C N0 N1 x0 d1 d2 d4 d5 d6 d7 v1 d8 m) v = iterO (laws_FnExactInversesOf_g2 (runV C N1) C N0 N1 x0 d1 d2 d4 d5 d6 d7 v1 d8 ) m v := by
  refine iterO_eq (fun _ => rfl) fun m v => ?_
  rw [laws_FnExactInversesOf_s2]
  rfl
theorem laws_FnExactInversesOf_s1 (C : Ca tb) (N0 N1 : Nat) (x0 : List Int) (d1 : List Int) (d2 : List Int × Bool) (d4 : List Int × Bool) (d5 : Bool) (d6 : List Int) (d7 : Bool) (m : Nat) (v1 : Int × Int × List Int) : (laws_FnExactInversesOf_l1 (runV C N1) C N0 N1 x0 d1 d2 d4 d5 d6 d7 (m + 1)) v1 = laws_FnExactInversesOf_x1 (runV C N1) C (laws_FnExactInversesOf_l1 (runV C N1) C N0 N1 x0 d1 d2 d4 d5 d6 d7 m) (fun x0 d1 d2 d4 d5 d6 d7 v1 d8 v => (laws_FnExactInversesOf_l2 (runV C N1) C N0 N1 x0 d1 d2 d4 d5 d6 d7 v1 d8 N1) v) x0 d1 d2 d4 d5 d6 d7 v1 := by kernel_rfl
theorem laws_FnExactInversesOf_e1 (C : Ca tb) (N0 N1 : Nat) (x0 : List Int) (d1 : List Int) (d2 : List Int × Bool) (d4 : List Int × Bool) (d5 : Bool) (d6 : List Int) (d7 : Bool) : ∀ (m : Nat) (v : Int × Int × List Int), (laws_FnExactInversesOf_l1 (runV C N1) C N0 N1 x0 d1 d2 d4 d5 d6 d7 m) v = iterO (laws_FnExactInversesOf_g1 (runV C N1) C N0 N1 x0 d1 d2 d4 d5 d6 d7 ) m v := by
  refine iterO_eq (fun _ => rfl) fun m v => ?_
  rw [laws_FnExactInversesOf_s1]
  rw [show (fun x0 d1 d2 d4 d5 d6 d7 v1 d8 v => (laws_FnExactInversesOf_l2 (runV C N1) C N0 N1 x0 d1 d2 d4 d5 d6 d7 v1 d8 N1) v) = (fun x0 d1 d2 d4 d5 d6 d7 v1 d8 v => iterO (laws_FnExactInversesOf_g2 (runV C N1) C N0 N1 x0 d1 d2 d4 d5 d6 d7 v1 d8 ) N1 v) from by funext x0 d1 d2 d4 d5 d6 d7 v1 d8 v; exact laws_FnExactInversesOf_e2 C N0 N1 x0 d1 d2 d4 d5 d6 d7 v1 d8 _ v]
  unfold laws_FnExactInversesOf_g1 laws_FnExactInversesOf_x1
  rfl
noncomputable def laws_FnExactInversesOf_x (C0 C1 : Ca tb) (inn1 : (List Int) → (List Int) → (List Int × Bool) → (List Int × Bool) → (Bool) → (List Int) → (Bool) → (Int × Int × List Int) → Option Bool) (x0 : List Int) : Option Bool :=
  if (x0.length : Int) > (1048576:Int) then some (true) else (c_laws_toIntS C0 x0).bind fun (d1 : List Int) => (c_spec_InversesOf C0 d1).bind fun (d2 : List Int × Bool) => (c_laws_toIntS C0 x0).bind fun (d3 : List Int) => (c_impl_InversesOf C0 d3).bind fun (d4 : List Int × Bool) => (c_laws_eqIntS C0 d4.1 d2.1).bind fun (d5 : Bool) => if (!d5) = true then some (false) else if (d4.2 != d2.2) = true then some (false) else (c_laws_toIntS C0 x0).bind fun (d6 : List Int) => (c_laws_eqIntS C0 d3 d6).bind fun (d7 : Bool) => if (!d7) = true then some (false) else inn1 x0 d1 d2 d4 d5 d6 d7 ((1:Int), (0:Int), d3)
noncomputable def laws_FnExactInversesOf_f (n : Nat) (x0 : List Int) : Option Bool :=
  laws_FnExactInversesOf_x (run tb orc (n + 1)) (run tb orc n) (fun x0 d1 d2 d4 d5 d6 d7 v => iterO (laws_FnExactInversesOf_g1 (run tb orc (n + 1)) (run tb orc n) (n + 1) n x0 d1 d2 d4 d5 d6 d7 ) n v) x0 
theorem laws_FnExactInversesOf_r (C : Ca tb) (N0 N1 : Nat) (x0 : List Int) : c_laws_FnExactInversesOf (runV (runV C N1) N0) x0 = laws_FnExactInversesOf_x (runV C N1) C (fun x0 d1 d2 d4 d5 d6 d7 v => (laws_FnExactInversesOf_l1 (runV C N1) C N0 N1 x0 d1 d2 d4 d5 d6 d7 N1) v) x0  := by kernel_rfl
/-- loop.example/g00133/laws.FnExactInversesOf -/
theorem laws_FnExactInversesOf_q (C : Ca tb) (N0 N1 : Nat) (x0 : List Int) : c_laws_FnExactInversesOf (runV (runV C N1) N0) x0 = laws_FnExactInversesOf_x (runV C N1) C (fun x0 d1 d2 d4 d5 d6 d7 v => iterO (laws_FnExactInversesOf_g1 (runV C N1) C N0 N1 x0 d1 d2 d4 d5 d6 d7 ) N1 v) x0 := by
  rw [laws_FnExactInversesOf_r]
  rw [show (fun x0 d1 d2 d4 d5 d6 d7 v => (laws_FnExactInversesOf_l1 (runV C N1) C N0 N1 x0 d1 d2 d4 d5 d6 d7 N1) v) = (fun x0 d1 d2 d4 d5 d6 d7 v => iterO (laws_FnExactInversesOf_g1 (runV C N1) C N0 N1 x0 d1 d2 d4 d5 d6 d7 ) N1 v) from by funext x0 d1 d2 d4 d5 d6 d7 v; exact laws_FnExactInversesOf_e1 C N0 N1 x0 d1 d2 d4 d5 d6 d7 _ v]
theorem laws_FnExactInversesOf_eq (n : Nat) (x0 : List Int) : c_laws_FnExactInversesOf (run tb orc (n + 2)) x0 = laws_FnExactInversesOf_f n x0 := by
  have h := laws_FnExactInversesOf_q (run tb orc n) (n + 1) n x0
  rw [runV_0 n] at h
  rw [runV_1 n] at h
  exact h
end Go.Proofs.YtnbaahpbmhhofaaDoor.Fw
