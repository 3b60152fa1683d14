/- Rings: both sides. -/
import Derived.Test.YthanbjnpfenniaaDoorPRoot
import Derived.Test.YthanbjnpfenniaaDoorEqN
namespace Go.Proofs.YthanbjnpfenniaaDoor.Fw
open Go Go.RowKit
set_option linter.unusedVariables false

theorem isN_ret {n : Nat} (hn : Big + 3 ≤ n) {x : Int} : c_impl_isN (run tb orc n) x = some (powB x 2 16) := by
  obtain ⟨n, rfl, hq⟩ := up hn
  rw [impl_isN_eq]; unfold impl_isN_f impl_isN_x
  rw [isPower_ret (by omega) (by omega) (by omega)]; rfl
theorem l3Size_ret {n : Nat} (hn : Big + 3 ≤ n) {x : Int} : c_spec_l3Size (run tb orc n) x = some (powB x 2 16) := by
  obtain ⟨n, rfl, hq⟩ := up hn
  rw [spec_l3Size_eq]; unfold spec_l3Size_f spec_l3Size_x
  rw [l1Power_ret (by omega) (by omega) (by omega)]; rfl
/-- What a ring has. -/
structure RingB (p m v : Int) : Prop where
  pr : primeB p = true
  n : m = 2 ∨ m = 4 ∨ m = 8 ∨ m = 16
  pw : powB m 2 16 = true
  dv : (p - 1) % (2 * m) = 0
  rt : RootOK p (2 * m) v
theorem powB_16 {m : Int} (h : powB m 2 16 = true) : m = 2 ∨ m = 4 ∨ m = 8 ∨ m = 16 := by
  obtain ⟨h1, h2⟩ := powB_64 (by omega) h
  omega
end Go.Proofs.YthanbjnpfenniaaDoor.Fw
