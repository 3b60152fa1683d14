/- Rings are copied. -/
import Derived.Test.YthanbjnpfenniaaDoorPRing0
namespace Go.Proofs.YthanbjnpfenniaaDoor.Fw
open Go Go.RowKit
set_option linter.unusedVariables false

theorem toRing_ret {n : Nat} (hn : Big + 1 ≤ n) {a b c : Int} : c_laws_toRing (run tb orc n) a b c = some (a, b, c) := by
  obtain ⟨n, rfl, hq⟩ := up hn
  rw [laws_toRing_eq]; unfold laws_toRing_f laws_toRing_x; rfl
end Go.Proofs.YthanbjnpfenniaaDoor.Fw
