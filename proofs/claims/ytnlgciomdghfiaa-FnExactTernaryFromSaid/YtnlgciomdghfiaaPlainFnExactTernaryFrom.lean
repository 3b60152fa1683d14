/- The law of TernaryFrom over the interpreter. -/
import Derived.Test.YtnlgciomdghfiaaPTer
namespace Go.Proofs.Ytnlgciomdghfiaa.Fw
open Go Go.RowKit
theorem plainFnExactTernaryFrom : ∀ (x0 : Ty.D (.sl (.int .i64))) (x1 : Ty.D (.int .i64)), WfD (.sl (.int .i64)) x0 → WfD (.int .i64) x1 → ∃ n, (run tb orc n).pure 4 [enc (.sl (.int .i64)) x0, enc (.int .i64) x1] = some (true : Bool) :=
  fun x0 x1 _ _ => ⟨Big + 15, lawT (Nat.le_refl _) x0 x1⟩
end Go.Proofs.Ytnlgciomdghfiaa.Fw
