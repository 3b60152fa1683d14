/- The plain functions that stand for those functions of the program whose walks are proved by hand. -/
import Derived.RowKit
namespace Go.Proofs.Ytajlgfjmocgoead.Plain
open Go.RowKit

/-- A limb that is none. -/
def badLimb (x : Int) : Bool := !(decide (0 ≤ x ∧ x ≤ 268435455))
/-- impl.isWhole. -/
def isWholeB (neg : Bool) (l : List Int) : Bool := if l = [] then !neg else (l.getD (l.length - 1) 0 != 0 && !(l.any badLimb))
end Go.Proofs.Ytajlgfjmocgoead.Plain
