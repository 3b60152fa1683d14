/- The law of TernaryRow over the interpreter. -/
import Derived.Test.YtnlgciomdghfiaaPRowT
namespace Go.Proofs.Ytnlgciomdghfiaa.Fw
open Go Go.RowKit
theorem plainFnExactTernaryRow : ∀ (x0 : Ty.D (.sl (.int .i64))) (x1 : Ty.D (.int .i64)) (x2 : Ty.D (.int .i64)), WfD (.sl (.int .i64)) x0 → WfD (.int .i64) x1 → WfD (.int .i64) x2 → ∃ n, (run tb orc n).pure 7 [enc (.sl (.int .i64)) x0, enc (.int .i64) x1, enc (.int .i64) x2] = some (true : Bool) :=
  fun x0 x1 x2 _ _ _ => ⟨Big + 18, lawTR (Nat.le_refl _) x0 x1 x2⟩
end Go.Proofs.Ytnlgciomdghfiaa.Fw
