/- The law of NoiseRow over the interpreter. -/
import Derived.Test.YtnlgciomdghfiaaPRowN
namespace Go.Proofs.Ytnlgciomdghfiaa.Fw
open Go Go.RowKit
theorem plainFnExactNoiseRow : ∀ (x0 : Ty.D (.sl (.int .i64))) (x1 : Ty.D (.int .i64)) (x2 : Ty.D (.int .i64)) (x3 : Ty.D (.int .i64)), WfD (.sl (.int .i64)) x0 → WfD (.int .i64) x1 → WfD (.int .i64) x2 → WfD (.int .i64) x3 → ∃ n, (run tb orc n).pure 8 [enc (.sl (.int .i64)) x0, enc (.int .i64) x1, enc (.int .i64) x2, enc (.int .i64) x3] = some (true : Bool) :=
  fun x0 x1 x2 x3 _ _ _ _ => ⟨Big + 18, lawNR (Nat.le_refl _) x0 x1 x2 x3⟩
end Go.Proofs.Ytnlgciomdghfiaa.Fw
