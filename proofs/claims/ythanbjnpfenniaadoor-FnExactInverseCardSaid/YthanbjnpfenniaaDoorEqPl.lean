/- The functions' equations over the interpreter. Printed by fwgen.py. -/
import Derived.Test.YthanbjnpfenniaaDoorFwZf
import Derived.Test.YthanbjnpfenniaaDoorFwTok
import Derived.Test.YthanbjnpfenniaaDoorFwOrc
import Derived.Test.YthanbjnpfenniaaDoorEqP
import Derived.KernelRfl
import Derived.Lib.Tables
namespace Go.Proofs.YthanbjnpfenniaaDoor.Fw
open Go Go.RowKit
set_option linter.unusedVariables false
set_option maxRecDepth 100000
noncomputable def c_impl_places (C : Ca tb) (x0 : Int) : Option (List Int) := C.pure 73 [.int .i64 (x0)]
noncomputable def c_impl_oddOf (C : Ca tb) (x0 : Int) (x1 : Int) : Option Int := C.pure 154 [.int .i64 (x0), .int .i64 (x1)]
noncomputable def c_impl_bitBack (C : Ca tb) (x0 : Int) (x1 : Int) : Option Int := C.pure 190 [.int .i64 (x0), .int .i64 (x1)]
noncomputable def c_bits_Len (C : Ca tb) (x0 : Int) : Option Int := C.pure 191 [.int .u64 (x0)]
noncomputable def c_spec_l3Points (C : Ca tb) (x0 : Int) : Option (List Int) := C.pure 148 [.int .i64 (x0)]
noncomputable def c_spec_l3Back (C : Ca tb) (x0 : Int) (x1 : Int) : Option Int := C.pure 187 [.int .i64 (x0), .int .i64 (x1)]
noncomputable def c_spec_l1Bits (C : Ca tb) (x0 : Int) : Option Int := C.pure 186 [.int .i64 (x0)]
noncomputable def impl_bitBack_x1 (C0 : Ca tb) (self1 : (Int × Int × Int) → Option Int) (x1 : Int) (v1 : Int × Int × Int) : Option Int :=
  if v1.2.2 < x1 then (if (1:Int) < 0 then none else if (1:Int) < 0 then none else self1 (shr .i64 v1.1 (1:Int), Go.bits .or .i64 (shl .i64 v1.2.1 (1:Int)) (Go.bits .and .i64 v1.1 (1:Int)), wr .i64 (v1.2.2 + (1:Int)))) else some (v1.2.1)
noncomputable def impl_bitBack_l1 (C0 : Ca tb) (N0 : Nat) (x1 : Int) (m : Nat) (v1 : Int × Int × Int) : Option Int :=
  loopIt (exec tb C0 190 0 N0 (codeAt [1, 1, 0, 1, 0, 0] (bodyOf Tryd.f190))) (trim 0 [0, 5, 6, 7] 0) (contAt tb C0 190 0 N0 [1, 1, 0, 1, 0] [] (bodyOf Tryd.f190) (finish tb 190 Tryd.f190)) m ⟨[.int .i64 (v1.1), .top, .top, .top, .top, .int .i64 (v1.2.1), .int .i64 (x1), .int .i64 (v1.2.2), .top, .top, .top, .top, .top, .top, .top, .top, .top, .top], []⟩
noncomputable def impl_bitBack_g1 (C0 : Ca tb) (N0 : Nat) (x1 : Int) (self1 : (Int × Int × Int) → Option Int) (v1 : Int × Int × Int) : Option Int :=
  impl_bitBack_x1 C0 self1 x1 v1
theorem impl_bitBack_s1 (n : Nat) (x1 : Int) (m : Nat) (v1 : Int × Int × Int) : (impl_bitBack_l1 (run tb orc n) n x1 (m + 1)) v1 = impl_bitBack_x1 (run tb orc n) (impl_bitBack_l1 (run tb orc n) n x1 m) x1 v1 := by kernel_rfl
theorem impl_bitBack_e1 (n : Nat) (x1 : Int) : ∀ (m : Nat) (v : Int × Int × Int), (impl_bitBack_l1 (run tb orc n) n x1 m) v = iterO (impl_bitBack_g1 (run tb orc n) n x1 ) m v := by
  refine iterO_eq (fun _ => rfl) fun m v => ?_
  rw [impl_bitBack_s1]
  rfl
noncomputable def impl_bitBack_x (C0 : Ca tb) (inn1 : (Int) → (Int × Int × Int) → Option Int) (x0 : Int) (x1 : Int) : Option Int :=
  inn1 x1 (x0, (0:Int), (0:Int))
noncomputable def impl_bitBack_f (n : Nat) (x0 : Int) (x1 : Int) : Option Int :=
  impl_bitBack_x (run tb orc n) (fun x1 v => iterO (impl_bitBack_g1 (run tb orc n) n x1 ) n v) x0 x1 
theorem impl_bitBack_r (n : Nat) (x0 : Int) (x1 : Int) : c_impl_bitBack (run tb orc (n + 1)) x0 x1 = impl_bitBack_x (run tb orc n) (fun x1 v => (impl_bitBack_l1 (run tb orc n) n x1 n) v) x0 x1  := by kernel_rfl
/-- loop.example/g00133/impl.bitBack -/
theorem impl_bitBack_eq (n : Nat) (x0 : Int) (x1 : Int) : c_impl_bitBack (run tb orc (n + 1)) x0 x1 = impl_bitBack_f n x0 x1 := by
  rw [impl_bitBack_r]
  rw [show (fun x1 v => (impl_bitBack_l1 (run tb orc n) n x1 n) v) = (fun x1 v => iterO (impl_bitBack_g1 (run tb orc n) n x1 ) n v) from by funext x1 v; exact impl_bitBack_e1 n x1 _ v]
  rfl
noncomputable def bits_Len_x (C0 : Ca tb) (x0 : Int) : Option Int :=
  (c_bits_Len64 C0 x0).bind fun (d1 : Int) => some (d1)
noncomputable def bits_Len_f (n : Nat) (x0 : Int) : Option Int :=
  bits_Len_x (run tb orc n) x0 
theorem bits_Len_r (n : Nat) (x0 : Int) : c_bits_Len (run tb orc (n + 1)) x0 = bits_Len_x (run tb orc n) x0  := by kernel_rfl
/-- math/bits.Len -/
theorem bits_Len_eq (n : Nat) (x0 : Int) : c_bits_Len (run tb orc (n + 1)) x0 = bits_Len_f n x0 := by
  rw [bits_Len_r]
  rfl
noncomputable def impl_oddOf_x (C0 : Ca tb) (x0 : Int) (x1 : Int) : Option Int :=
  (c_bits_Len C0 (wr .u64 (x0))).bind fun (d1 : Int) => (c_impl_bitBack C0 x1 (wr .i64 (d1 - (1:Int)))).bind fun (d2 : Int) => some (wr .i64 ((wr .i64 ((2:Int) * d2)) + (1:Int)))
noncomputable def impl_oddOf_f (n : Nat) (x0 : Int) (x1 : Int) : Option Int :=
  impl_oddOf_x (run tb orc n) x0 x1 
theorem impl_oddOf_r (n : Nat) (x0 : Int) (x1 : Int) : c_impl_oddOf (run tb orc (n + 1)) x0 x1 = impl_oddOf_x (run tb orc n) x0 x1  := by kernel_rfl
/-- loop.example/g00133/impl.oddOf -/
theorem impl_oddOf_eq (n : Nat) (x0 : Int) (x1 : Int) : c_impl_oddOf (run tb orc (n + 1)) x0 x1 = impl_oddOf_f n x0 x1 := by
  rw [impl_oddOf_r]
  rfl
noncomputable def impl_places_x1 (C0 : Ca tb) (self1 : (Int × List Int) → Option (List Int)) (x0 : Int) (v1 : Int × List Int) : Option (List Int) :=
  if v1.1 < x0 then (c_impl_oddOf C0 x0 v1.1).bind fun (d1 : Int) => if v1.2.length + ([d1]).length < lim then (self1 (wr .i64 (v1.1 + (1:Int)), v1.2 ++ ([d1]))) else none else some (v1.2)
noncomputable def impl_places_l1 (C0 : Ca tb) (N0 : Nat) (x0 : Int) (m : Nat) (v1 : Int × List Int) : Option (List Int) :=
  loopIt (exec tb C0 73 0 N0 (codeAt [1, 1, 0, 1, 0, 0] (bodyOf Tryd.f73))) (trim 0 [0, 3, 6, 7] 1) (contAt tb C0 73 0 N0 [1, 1, 0, 1, 0] [] (bodyOf Tryd.f73) (finish tb 73 Tryd.f73)) m ⟨[.int .i64 (x0), .top, .top, .osl 0 0, .top, .top, .int .i64 (x0), .int .i64 (v1.1), .top, .top, .top, .top, .top, .top, .top, .top, .top, .top], [.arr (.int .i64) (v1.2) 0 true]⟩
noncomputable def impl_places_g1 (C0 : Ca tb) (N0 : Nat) (x0 : Int) (self1 : (Int × List Int) → Option (List Int)) (v1 : Int × List Int) : Option (List Int) :=
  impl_places_x1 C0 self1 x0 v1
theorem impl_places_s1 (n : Nat) (x0 : Int) (m : Nat) (v1 : Int × List Int) : (impl_places_l1 (run tb orc n) n x0 (m + 1)) v1 = impl_places_x1 (run tb orc n) (impl_places_l1 (run tb orc n) n x0 m) x0 v1 := by kernel_rfl
theorem impl_places_e1 (n : Nat) (x0 : Int) : ∀ (m : Nat) (v : Int × List Int), (impl_places_l1 (run tb orc n) n x0 m) v = iterO (impl_places_g1 (run tb orc n) n x0 ) m v := by
  refine iterO_eq (fun _ => rfl) fun m v => ?_
  rw [impl_places_s1]
  rfl
noncomputable def impl_places_x (C0 : Ca tb) (inn1 : (Int) → (Int × List Int) → Option (List Int)) (x0 : Int) : Option (List Int) :=
  inn1 x0 ((0:Int), [])
noncomputable def impl_places_f (n : Nat) (x0 : Int) : Option (List Int) :=
  impl_places_x (run tb orc n) (fun x0 v => iterO (impl_places_g1 (run tb orc n) n x0 ) n v) x0 
theorem impl_places_r (n : Nat) (x0 : Int) : c_impl_places (run tb orc (n + 1)) x0 = impl_places_x (run tb orc n) (fun x0 v => (impl_places_l1 (run tb orc n) n x0 n) v) x0  := by kernel_rfl
/-- loop.example/g00133/impl.places -/
theorem impl_places_eq (n : Nat) (x0 : Int) : c_impl_places (run tb orc (n + 1)) x0 = impl_places_f n x0 := by
  rw [impl_places_r]
  rw [show (fun x0 v => (impl_places_l1 (run tb orc n) n x0 n) v) = (fun x0 v => iterO (impl_places_g1 (run tb orc n) n x0 ) n v) from by funext x0 v; exact impl_places_e1 n x0 _ v]
  rfl
noncomputable def spec_l1Bits_x1 (C0 : Ca tb) (self1 : (Int × Int) → Option Int) (v1 : Int × Int) : Option Int :=
  if v1.1 > (0:Int) then (if (1:Int) < 0 then none else self1 (shr .i64 v1.1 (1:Int), wr .i64 (v1.2 + (1:Int)))) else some (v1.2)
noncomputable def spec_l1Bits_l1 (C0 : Ca tb) (N0 : Nat) (m : Nat) (v1 : Int × Int) : Option Int :=
  loopIt (exec tb C0 186 0 N0 (codeAt [1, 1, 0, 0, 0] (bodyOf Tryd.f186))) (trim 0 [0, 3] 0) (contAt tb C0 186 0 N0 [1, 1, 0, 0] [] (bodyOf Tryd.f186) (finish tb 186 Tryd.f186)) m ⟨[.int .i64 (v1.1), .top, .top, .int .i64 (v1.2), .top, .top, .top, .top, .top, .top, .top], []⟩
noncomputable def spec_l1Bits_g1 (C0 : Ca tb) (N0 : Nat) (self1 : (Int × Int) → Option Int) (v1 : Int × Int) : Option Int :=
  spec_l1Bits_x1 C0 self1 v1
theorem spec_l1Bits_s1 (n : Nat) (m : Nat) (v1 : Int × Int) : (spec_l1Bits_l1 (run tb orc n) n (m + 1)) v1 = spec_l1Bits_x1 (run tb orc n) (spec_l1Bits_l1 (run tb orc n) n m) v1 := by kernel_rfl
theorem spec_l1Bits_e1 (n : Nat) : ∀ (m : Nat) (v : Int × Int), (spec_l1Bits_l1 (run tb orc n) n m) v = iterO (spec_l1Bits_g1 (run tb orc n) n ) m v := by
  refine iterO_eq (fun _ => rfl) fun m v => ?_
  rw [spec_l1Bits_s1]
  rfl
noncomputable def spec_l1Bits_x (C0 : Ca tb) (inn1 : (Int × Int) → Option Int) (x0 : Int) : Option Int :=
  inn1 (x0, (0:Int))
noncomputable def spec_l1Bits_f (n : Nat) (x0 : Int) : Option Int :=
  spec_l1Bits_x (run tb orc n) (fun v => iterO (spec_l1Bits_g1 (run tb orc n) n ) n v) x0 
theorem spec_l1Bits_r (n : Nat) (x0 : Int) : c_spec_l1Bits (run tb orc (n + 1)) x0 = spec_l1Bits_x (run tb orc n) (fun v => (spec_l1Bits_l1 (run tb orc n) n n) v) x0  := by kernel_rfl
/-- loop.example/g00133/spec.l1Bits -/
theorem spec_l1Bits_eq (n : Nat) (x0 : Int) : c_spec_l1Bits (run tb orc (n + 1)) x0 = spec_l1Bits_f n x0 := by
  rw [spec_l1Bits_r]
  rw [show (fun v => (spec_l1Bits_l1 (run tb orc n) n n) v) = (fun v => iterO (spec_l1Bits_g1 (run tb orc n) n ) n v) from by funext v; exact spec_l1Bits_e1 n _ v]
  rfl
noncomputable def spec_l3Back_x1 (C0 : Ca tb) (self1 : (Int × Int × Int) → Option Int) (v1 : Int × Int × Int) : Option Int :=
  if v1.2.1 > (0:Int) then (if (2:Int) = 0 then none else if (2:Int) = 0 then none else self1 (wr .i64 (v1.1.tdiv (2:Int)), wr .i64 (v1.2.1 - (1:Int)), wr .i64 ((wr .i64 ((2:Int) * v1.2.2)) + (v1.1.tmod (2:Int))))) else some (v1.2.2)
noncomputable def spec_l3Back_l1 (C0 : Ca tb) (N0 : Nat) (m : Nat) (v1 : Int × Int × Int) : Option Int :=
  loopIt (exec tb C0 187 0 N0 (codeAt [1, 1, 0, 0, 0] (bodyOf Tryd.f187))) (trim 0 [0, 1, 5] 0) (contAt tb C0 187 0 N0 [1, 1, 0, 0] [] (bodyOf Tryd.f187) (finish tb 187 Tryd.f187)) m ⟨[.int .i64 (v1.1), .int .i64 (v1.2.1), .top, .top, .top, .int .i64 (v1.2.2), .top, .top, .top, .top, .top, .top, .top, .top, .top, .top, .top, .top], []⟩
noncomputable def spec_l3Back_g1 (C0 : Ca tb) (N0 : Nat) (self1 : (Int × Int × Int) → Option Int) (v1 : Int × Int × Int) : Option Int :=
  spec_l3Back_x1 C0 self1 v1
theorem spec_l3Back_s1 (n : Nat) (m : Nat) (v1 : Int × Int × Int) : (spec_l3Back_l1 (run tb orc n) n (m + 1)) v1 = spec_l3Back_x1 (run tb orc n) (spec_l3Back_l1 (run tb orc n) n m) v1 := by kernel_rfl
theorem spec_l3Back_e1 (n : Nat) : ∀ (m : Nat) (v : Int × Int × Int), (spec_l3Back_l1 (run tb orc n) n m) v = iterO (spec_l3Back_g1 (run tb orc n) n ) m v := by
  refine iterO_eq (fun _ => rfl) fun m v => ?_
  rw [spec_l3Back_s1]
  rfl
noncomputable def spec_l3Back_x (C0 : Ca tb) (inn1 : (Int × Int × Int) → Option Int) (x0 : Int) (x1 : Int) : Option Int :=
  inn1 (x0, x1, (0:Int))
noncomputable def spec_l3Back_f (n : Nat) (x0 : Int) (x1 : Int) : Option Int :=
  spec_l3Back_x (run tb orc n) (fun v => iterO (spec_l3Back_g1 (run tb orc n) n ) n v) x0 x1 
theorem spec_l3Back_r (n : Nat) (x0 : Int) (x1 : Int) : c_spec_l3Back (run tb orc (n + 1)) x0 x1 = spec_l3Back_x (run tb orc n) (fun v => (spec_l3Back_l1 (run tb orc n) n n) v) x0 x1  := by kernel_rfl
/-- loop.example/g00133/spec.l3Back -/
theorem spec_l3Back_eq (n : Nat) (x0 : Int) (x1 : Int) : c_spec_l3Back (run tb orc (n + 1)) x0 x1 = spec_l3Back_f n x0 x1 := by
  rw [spec_l3Back_r]
  rw [show (fun v => (spec_l3Back_l1 (run tb orc n) n n) v) = (fun v => iterO (spec_l3Back_g1 (run tb orc n) n ) n v) from by funext v; exact spec_l3Back_e1 n _ v]
  rfl
noncomputable def spec_l3Points_x1 (C0 : Ca tb) (self1 : (Int × List Int) → Option (List Int)) (x0 : Int) (d1 : Int) (v1 : Int × List Int) : Option (List Int) :=
  if v1.1 < x0 then (c_spec_l3Back C0 v1.1 (wr .i64 (d1 - (1:Int)))).bind fun (d2 : Int) => if v1.2.length + ([wr .i64 ((wr .i64 ((2:Int) * d2)) + (1:Int))]).length < lim then (self1 (wr .i64 (v1.1 + (1:Int)), v1.2 ++ ([wr .i64 ((wr .i64 ((2:Int) * d2)) + (1:Int))]))) else none else some (v1.2)
noncomputable def spec_l3Points_l1 (C0 : Ca tb) (N0 : Nat) (x0 : Int) (d1 : Int) (m : Nat) (v1 : Int × List Int) : Option (List Int) :=
  loopIt (exec tb C0 148 0 N0 (codeAt [1, 1, 1, 0, 1, 0, 0] (bodyOf Tryd.f148))) (trim 0 [0, 3, 4, 5] 1) (contAt tb C0 148 0 N0 [1, 1, 1, 0, 1, 0] [] (bodyOf Tryd.f148) (finish tb 148 Tryd.f148)) m ⟨[.int .i64 (x0), .top, .top, .osl 0 0, .int .i64 (wr .i64 (d1 - (1:Int))), .int .i64 (v1.1), .top, .top, .top, .top, .top, .top, .top, .top, .top, .top, .top, .top, .top, .top, .top, .top, .top], [.arr (.int .i64) (v1.2) 0 true]⟩
noncomputable def spec_l3Points_g1 (C0 : Ca tb) (N0 : Nat) (x0 : Int) (d1 : Int) (self1 : (Int × List Int) → Option (List Int)) (v1 : Int × List Int) : Option (List Int) :=
  spec_l3Points_x1 C0 self1 x0 d1 v1
theorem spec_l3Points_s1 (n : Nat) (x0 : Int) (d1 : Int) (m : Nat) (v1 : Int × List Int) : (spec_l3Points_l1 (run tb orc n) n x0 d1 (m + 1)) v1 = spec_l3Points_x1 (run tb orc n) (spec_l3Points_l1 (run tb orc n) n x0 d1 m) x0 d1 v1 := by kernel_rfl
theorem spec_l3Points_e1 (n : Nat) (x0 : Int) (d1 : Int) : ∀ (m : Nat) (v : Int × List Int), (spec_l3Points_l1 (run tb orc n) n x0 d1 m) v = iterO (spec_l3Points_g1 (run tb orc n) n x0 d1 ) m v := by
  refine iterO_eq (fun _ => rfl) fun m v => ?_
  rw [spec_l3Points_s1]
  rfl
noncomputable def spec_l3Points_x (C0 : Ca tb) (inn1 : (Int) → (Int) → (Int × List Int) → Option (List Int)) (x0 : Int) : Option (List Int) :=
  (c_spec_l1Bits C0 x0).bind fun (d1 : Int) => inn1 x0 d1 ((0:Int), [])
noncomputable def spec_l3Points_f (n : Nat) (x0 : Int) : Option (List Int) :=
  spec_l3Points_x (run tb orc n) (fun x0 d1 v => iterO (spec_l3Points_g1 (run tb orc n) n x0 d1 ) n v) x0 
theorem spec_l3Points_r (n : Nat) (x0 : Int) : c_spec_l3Points (run tb orc (n + 1)) x0 = spec_l3Points_x (run tb orc n) (fun x0 d1 v => (spec_l3Points_l1 (run tb orc n) n x0 d1 n) v) x0  := by kernel_rfl
/-- loop.example/g00133/spec.l3Points -/
theorem spec_l3Points_eq (n : Nat) (x0 : Int) : c_spec_l3Points (run tb orc (n + 1)) x0 = spec_l3Points_f n x0 := by
  rw [spec_l3Points_r]
  rw [show (fun x0 d1 v => (spec_l3Points_l1 (run tb orc n) n x0 d1 n) v) = (fun x0 d1 v => iterO (spec_l3Points_g1 (run tb orc n) n x0 d1 ) n v) from by funext x0 d1 v; exact spec_l3Points_e1 n x0 d1 _ v]
  rfl
end Go.Proofs.YthanbjnpfenniaaDoor.Fw
