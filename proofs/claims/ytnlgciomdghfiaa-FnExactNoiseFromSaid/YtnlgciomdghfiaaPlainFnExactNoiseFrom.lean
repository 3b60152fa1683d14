/- The law of NoiseFrom over the interpreter. -/
import Derived.Test.YtnlgciomdghfiaaPNoise
namespace Go.Proofs.Ytnlgciomdghfiaa.Fw
open Go Go.RowKit
theorem plainFnExactNoiseFrom : ∀ (x0 : Ty.D (.sl (.int .i64))) (x1 : Ty.D (.int .i64)) (x2 : Ty.D (.int .i64)), WfD (.sl (.int .i64)) x0 → WfD (.int .i64) x1 → WfD (.int .i64) x2 → ∃ n, (run tb orc n).pure 6 [enc (.sl (.int .i64)) x0, enc (.int .i64) x1, enc (.int .i64) x2] = some (true : Bool) :=
  fun x0 x1 x2 _ _ _ => ⟨Big + 16, lawN (Nat.le_refl _) x0 x1 x2⟩
end Go.Proofs.Ytnlgciomdghfiaa.Fw
