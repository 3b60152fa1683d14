/-
  NARROWER THAN 'FOR EVERY INPUT', by the rows' own cells (each row's printed sentence says how): FnExactIsPrime: laid · FnExactGoodBasis: laid · FnExactRootOf: laid · FnExactRingOf: laid · FnExactGoodSpace: laid · FnExactMulEach: laid · FnExactProductOf: laid · FnExactMulRing: laid · FnExactResiduesOf: laid · FnExactTurnRing: laid · FnExactInversesOf: laid · FnExactGoodRows: laid.
  DERIVED. THE GIVEN ROWS OF THIS SEAT. 12 by the template 'for every input the law returns true; each argument reads behind the call as it read before'; 0 by the template 'total and deterministic' (their statements: YtnbaahpbmhhofaaDoorTotals.lean).
  GIVEN WITH THE SEED: the statements are not yours to turn. If you find one false, say at which input.
  Laid BY PROGRAM, IN A SANDBOX (cutbox-rows.mjs): the forced cells as the released guide's own fill.sh prints them over the translation 8dec9da0d4418dd2… (all of the seat's roots in one cut). By AI agents, Wed Nov 11 2026. No macro, syntax, notation, axiom, sorry.
-/
import Derived.Test.YtnbaahpbmhhofaaDoorChecked
import GoSem.Claim
import GoSem.ClaimJoined
import GoSem.ClaimMapViews
import Derived.JoinedTies
import Derived.KernelRfl
namespace Go.Proofs.YtnbaahpbmhhofaaDoor
/- THE CELL 'sum', in the pinned program and in every row, IS THE sha256 OF THE DUMP (.gsa) THAT YtnbaahpbmhhofaaDoorProg.lean LOADS. Nothing in Lean hashes anything: it is a label: what it is worth is what the hold of that sum in a sandbox is worth. -/
noncomputable def Tryd.pinned : Pinned := { name := "ytnbaahpbmhhofaadoor", sum := "8dec9da0d4418dd2980a07a1d527d177233d3889a6fdc1cf34fe82f9fb629e0e", checked := Tryd.checked }
namespace Rows
def none {H : Type} : Left H := { results := [], args := [] }

/- WHAT THE LISTED PACKAGE-LEVEL VARIABLES READ AS WHEN THE CALL BEGINS. Each datum BY PROGRAM (the guide's laid-datum.mjs) off the statement by which the dump's own 'gosem.cut.vars' lays the variable. In a bare row this is a premise. The card (YtnbaahpbmhhofaaDoorCards.lean) ties it to the program's text. -/
def laid_math_bits_deBruijn64tab {H : Type} : DataW H := .agg [.lit (.int .u8 0), .lit (.int .u8 1), .lit (.int .u8 56), .lit (.int .u8 2), .lit (.int .u8 57), .lit (.int .u8 49), .lit (.int .u8 28), .lit (.int .u8 3), .lit (.int .u8 61), .lit (.int .u8 58), .lit (.int .u8 42), .lit (.int .u8 50), .lit (.int .u8 38), .lit (.int .u8 29), .lit (.int .u8 17), .lit (.int .u8 4), .lit (.int .u8 62), .lit (.int .u8 47), .lit (.int .u8 59), .lit (.int .u8 36), .lit (.int .u8 45), .lit (.int .u8 43), .lit (.int .u8 51), .lit (.int .u8 22), .lit (.int .u8 53), .lit (.int .u8 39), .lit (.int .u8 33), .lit (.int .u8 30), .lit (.int .u8 24), .lit (.int .u8 18), .lit (.int .u8 12), .lit (.int .u8 5), .lit (.int .u8 63), .lit (.int .u8 55), .lit (.int .u8 48), .lit (.int .u8 27), .lit (.int .u8 60), .lit (.int .u8 41), .lit (.int .u8 37), .lit (.int .u8 16), .lit (.int .u8 46), .lit (.int .u8 35), .lit (.int .u8 44), .lit (.int .u8 21), .lit (.int .u8 52), .lit (.int .u8 32), .lit (.int .u8 23), .lit (.int .u8 11), .lit (.int .u8 54), .lit (.int .u8 26), .lit (.int .u8 40), .lit (.int .u8 15), .lit (.int .u8 34), .lit (.int .u8 20), .lit (.int .u8 31), .lit (.int .u8 10), .lit (.int .u8 25), .lit (.int .u8 14), .lit (.int .u8 19), .lit (.int .u8 9), .lit (.int .u8 13), .lit (.int .u8 8), .lit (.int .u8 7), .lit (.int .u8 6)]

/-- 'laws.FnExactIsPrime': WHATEVER THE INPUT: true; the input reads as it did. -/
def fnExactIsPrimeSpec : ChangeSpec := { name := "fnExactIsPrime", fn := fun _ => fun
  | [d] => { results := [.lit (.bool true)], args := [d] }
  | _ => none }
def fnExactIsPrimeRow : OpenClaim := { program := "ytnbaahpbmhhofaadoor", sum := "8dec9da0d4418dd2980a07a1d527d177233d3889a6fdc1cf34fe82f9fb629e0e", func := "loop.example/g00133/laws.FnExactIsPrime", spec := "fnExactIsPrime", named := ["math/bits.deBruijn64tab", "math/bits.divideError", "math/bits.overflowError"], apart := false, laid := [("math/bits.deBruijn64tab", laid_math_bits_deBruijn64tab)] }
def FnExactIsPrimeSaid : Prop := fnExactIsPrimeRow.holds Tryd.pinned (OpenSpec.ofChange fnExactIsPrimeSpec)

/-- ITS FALSE NEIGHBOUR: 'it returns false'. Refute it at one input. -/
def fnExactIsPrimeWrong : ChangeSpec := { name := "fnExactIsPrime", fn := fun _ => fun
  | [d] => { results := [.lit (.bool false)], args := [d] }
  | _ => none }
def FnExactIsPrimeWrongFalsely : Prop := fnExactIsPrimeRow.holds Tryd.pinned (OpenSpec.ofChange fnExactIsPrimeWrong)

/-- 'laws.FnExactGoodBasis': WHATEVER THE INPUT: true; the input reads as it did. -/
def fnExactGoodBasisSpec : ChangeSpec := { name := "fnExactGoodBasis", fn := fun _ => fun
  | [d] => { results := [.lit (.bool true)], args := [d] }
  | _ => none }
def fnExactGoodBasisRow : OpenClaim := { program := "ytnbaahpbmhhofaadoor", sum := "8dec9da0d4418dd2980a07a1d527d177233d3889a6fdc1cf34fe82f9fb629e0e", func := "loop.example/g00133/laws.FnExactGoodBasis", spec := "fnExactGoodBasis", named := ["math/bits.deBruijn64tab", "math/bits.divideError", "math/bits.overflowError"], apart := false, laid := [("math/bits.deBruijn64tab", laid_math_bits_deBruijn64tab)] }
def FnExactGoodBasisSaid : Prop := fnExactGoodBasisRow.holds Tryd.pinned (OpenSpec.ofChange fnExactGoodBasisSpec)

/-- ITS FALSE NEIGHBOUR: 'it returns false'. Refute it at one input. -/
def fnExactGoodBasisWrong : ChangeSpec := { name := "fnExactGoodBasis", fn := fun _ => fun
  | [d] => { results := [.lit (.bool false)], args := [d] }
  | _ => none }
def FnExactGoodBasisWrongFalsely : Prop := fnExactGoodBasisRow.holds Tryd.pinned (OpenSpec.ofChange fnExactGoodBasisWrong)

/-- 'laws.FnExactRootOf': WHATEVER THE INPUT: true; the input reads as it did. -/
def fnExactRootOfSpec : ChangeSpec := { name := "fnExactRootOf", fn := fun _ => fun
  | [d1, d2] => { results := [.lit (.bool true)], args := [d1, d2] }
  | _ => none }
def fnExactRootOfRow : OpenClaim := { program := "ytnbaahpbmhhofaadoor", sum := "8dec9da0d4418dd2980a07a1d527d177233d3889a6fdc1cf34fe82f9fb629e0e", func := "loop.example/g00133/laws.FnExactRootOf", spec := "fnExactRootOf", named := ["math/bits.deBruijn64tab", "math/bits.divideError", "math/bits.overflowError"], apart := false, laid := [("math/bits.deBruijn64tab", laid_math_bits_deBruijn64tab)] }
def FnExactRootOfSaid : Prop := fnExactRootOfRow.holds Tryd.pinned (OpenSpec.ofChange fnExactRootOfSpec)

/-- ITS FALSE NEIGHBOUR: 'it returns false'. Refute it at one input. -/
def fnExactRootOfWrong : ChangeSpec := { name := "fnExactRootOf", fn := fun _ => fun
  | [d1, d2] => { results := [.lit (.bool false)], args := [d1, d2] }
  | _ => none }
def FnExactRootOfWrongFalsely : Prop := fnExactRootOfRow.holds Tryd.pinned (OpenSpec.ofChange fnExactRootOfWrong)

/-- 'laws.FnExactRingOf': WHATEVER THE INPUT: true; the input reads as it did. -/
def fnExactRingOfSpec : ChangeSpec := { name := "fnExactRingOf", fn := fun _ => fun
  | [d1, d2] => { results := [.lit (.bool true)], args := [d1, d2] }
  | _ => none }
def fnExactRingOfRow : OpenClaim := { program := "ytnbaahpbmhhofaadoor", sum := "8dec9da0d4418dd2980a07a1d527d177233d3889a6fdc1cf34fe82f9fb629e0e", func := "loop.example/g00133/laws.FnExactRingOf", spec := "fnExactRingOf", named := ["math/bits.deBruijn64tab", "math/bits.divideError", "math/bits.overflowError"], apart := false, laid := [("math/bits.deBruijn64tab", laid_math_bits_deBruijn64tab)] }
def FnExactRingOfSaid : Prop := fnExactRingOfRow.holds Tryd.pinned (OpenSpec.ofChange fnExactRingOfSpec)

/-- ITS FALSE NEIGHBOUR: 'it returns false'. Refute it at one input. -/
def fnExactRingOfWrong : ChangeSpec := { name := "fnExactRingOf", fn := fun _ => fun
  | [d1, d2] => { results := [.lit (.bool false)], args := [d1, d2] }
  | _ => none }
def FnExactRingOfWrongFalsely : Prop := fnExactRingOfRow.holds Tryd.pinned (OpenSpec.ofChange fnExactRingOfWrong)

/-- 'laws.FnExactGoodSpace': WHATEVER THE INPUT: true; the input reads as it did. -/
def fnExactGoodSpaceSpec : ChangeSpec := { name := "fnExactGoodSpace", fn := fun _ => fun
  | [d] => { results := [.lit (.bool true)], args := [d] }
  | _ => none }
def fnExactGoodSpaceRow : OpenClaim := { program := "ytnbaahpbmhhofaadoor", sum := "8dec9da0d4418dd2980a07a1d527d177233d3889a6fdc1cf34fe82f9fb629e0e", func := "loop.example/g00133/laws.FnExactGoodSpace", spec := "fnExactGoodSpace", unfollowed := true, recurses := true, named := ["math/bits.deBruijn64tab", "math/bits.divideError", "math/bits.overflowError"], apart := false, laid := [("math/bits.deBruijn64tab", laid_math_bits_deBruijn64tab)] }
def FnExactGoodSpaceSaid : Prop := fnExactGoodSpaceRow.holds Tryd.pinned (OpenSpec.ofChange fnExactGoodSpaceSpec)

/-- ITS FALSE NEIGHBOUR: 'it returns false'. Refute it at one input. -/
def fnExactGoodSpaceWrong : ChangeSpec := { name := "fnExactGoodSpace", fn := fun _ => fun
  | [d] => { results := [.lit (.bool false)], args := [d] }
  | _ => none }
def FnExactGoodSpaceWrongFalsely : Prop := fnExactGoodSpaceRow.holds Tryd.pinned (OpenSpec.ofChange fnExactGoodSpaceWrong)

/-- 'laws.FnExactMulEach': WHATEVER THE INPUT: true; the input reads as it did. -/
def fnExactMulEachSpec : ChangeSpec := { name := "fnExactMulEach", fn := fun _ => fun
  | [d1, d2, d3] => { results := [.lit (.bool true)], args := [d1, d2, d3] }
  | _ => none }
def fnExactMulEachRow : OpenClaim := { program := "ytnbaahpbmhhofaadoor", sum := "8dec9da0d4418dd2980a07a1d527d177233d3889a6fdc1cf34fe82f9fb629e0e", func := "loop.example/g00133/laws.FnExactMulEach", spec := "fnExactMulEach", unfollowed := true, recurses := true, named := ["math/bits.deBruijn64tab", "math/bits.divideError", "math/bits.overflowError"], apart := false, laid := [("math/bits.deBruijn64tab", laid_math_bits_deBruijn64tab)] }
def FnExactMulEachSaid : Prop := fnExactMulEachRow.holds Tryd.pinned (OpenSpec.ofChange fnExactMulEachSpec)

/-- ITS FALSE NEIGHBOUR: 'it returns false'. Refute it at one input. -/
def fnExactMulEachWrong : ChangeSpec := { name := "fnExactMulEach", fn := fun _ => fun
  | [d1, d2, d3] => { results := [.lit (.bool false)], args := [d1, d2, d3] }
  | _ => none }
def FnExactMulEachWrongFalsely : Prop := fnExactMulEachRow.holds Tryd.pinned (OpenSpec.ofChange fnExactMulEachWrong)

/-- 'laws.FnExactProductOf': WHATEVER THE INPUT: true; the input reads as it did. -/
def fnExactProductOfSpec : ChangeSpec := { name := "fnExactProductOf", fn := fun _ => fun
  | [d] => { results := [.lit (.bool true)], args := [d] }
  | _ => none }
def fnExactProductOfRow : OpenClaim := { program := "ytnbaahpbmhhofaadoor", sum := "8dec9da0d4418dd2980a07a1d527d177233d3889a6fdc1cf34fe82f9fb629e0e", func := "loop.example/g00133/laws.FnExactProductOf", spec := "fnExactProductOf", named := ["math/bits.deBruijn64tab", "math/bits.divideError", "math/bits.overflowError"], apart := false, laid := [("math/bits.deBruijn64tab", laid_math_bits_deBruijn64tab)] }
def FnExactProductOfSaid : Prop := fnExactProductOfRow.holds Tryd.pinned (OpenSpec.ofChange fnExactProductOfSpec)

/-- ITS FALSE NEIGHBOUR: 'it returns false'. Refute it at one input. -/
def fnExactProductOfWrong : ChangeSpec := { name := "fnExactProductOf", fn := fun _ => fun
  | [d] => { results := [.lit (.bool false)], args := [d] }
  | _ => none }
def FnExactProductOfWrongFalsely : Prop := fnExactProductOfRow.holds Tryd.pinned (OpenSpec.ofChange fnExactProductOfWrong)

/-- 'laws.FnExactMulRing': WHATEVER THE INPUT: true; the input reads as it did. -/
def fnExactMulRingSpec : ChangeSpec := { name := "fnExactMulRing", fn := fun _ => fun
  | [d1, d2, d3] => { results := [.lit (.bool true)], args := [d1, d2, d3] }
  | _ => none }
def fnExactMulRingRow : OpenClaim := { program := "ytnbaahpbmhhofaadoor", sum := "8dec9da0d4418dd2980a07a1d527d177233d3889a6fdc1cf34fe82f9fb629e0e", func := "loop.example/g00133/laws.FnExactMulRing", spec := "fnExactMulRing", unfollowed := true, recurses := true, named := ["math/bits.deBruijn64tab", "math/bits.divideError", "math/bits.overflowError"], apart := false, laid := [("math/bits.deBruijn64tab", laid_math_bits_deBruijn64tab)] }
def FnExactMulRingSaid : Prop := fnExactMulRingRow.holds Tryd.pinned (OpenSpec.ofChange fnExactMulRingSpec)

/-- ITS FALSE NEIGHBOUR: 'it returns false'. Refute it at one input. -/
def fnExactMulRingWrong : ChangeSpec := { name := "fnExactMulRing", fn := fun _ => fun
  | [d1, d2, d3] => { results := [.lit (.bool false)], args := [d1, d2, d3] }
  | _ => none }
def FnExactMulRingWrongFalsely : Prop := fnExactMulRingRow.holds Tryd.pinned (OpenSpec.ofChange fnExactMulRingWrong)

/-- 'laws.FnExactResiduesOf': WHATEVER THE INPUT: true; the input reads as it did. -/
def fnExactResiduesOfSpec : ChangeSpec := { name := "fnExactResiduesOf", fn := fun _ => fun
  | [d1, d2] => { results := [.lit (.bool true)], args := [d1, d2] }
  | _ => none }
def fnExactResiduesOfRow : OpenClaim := { program := "ytnbaahpbmhhofaadoor", sum := "8dec9da0d4418dd2980a07a1d527d177233d3889a6fdc1cf34fe82f9fb629e0e", func := "loop.example/g00133/laws.FnExactResiduesOf", spec := "fnExactResiduesOf", unfollowed := true, recurses := true, named := ["math/bits.deBruijn64tab", "math/bits.divideError", "math/bits.overflowError"], apart := false, laid := [("math/bits.deBruijn64tab", laid_math_bits_deBruijn64tab)] }
def FnExactResiduesOfSaid : Prop := fnExactResiduesOfRow.holds Tryd.pinned (OpenSpec.ofChange fnExactResiduesOfSpec)

/-- ITS FALSE NEIGHBOUR: 'it returns false'. Refute it at one input. -/
def fnExactResiduesOfWrong : ChangeSpec := { name := "fnExactResiduesOf", fn := fun _ => fun
  | [d1, d2] => { results := [.lit (.bool false)], args := [d1, d2] }
  | _ => none }
def FnExactResiduesOfWrongFalsely : Prop := fnExactResiduesOfRow.holds Tryd.pinned (OpenSpec.ofChange fnExactResiduesOfWrong)

/-- 'laws.FnExactTurnRing': WHATEVER THE INPUT: true; the input reads as it did. -/
def fnExactTurnRingSpec : ChangeSpec := { name := "fnExactTurnRing", fn := fun _ => fun
  | [d1, d2, d3] => { results := [.lit (.bool true)], args := [d1, d2, d3] }
  | _ => none }
def fnExactTurnRingRow : OpenClaim := { program := "ytnbaahpbmhhofaadoor", sum := "8dec9da0d4418dd2980a07a1d527d177233d3889a6fdc1cf34fe82f9fb629e0e", func := "loop.example/g00133/laws.FnExactTurnRing", spec := "fnExactTurnRing", unfollowed := true, recurses := true, named := ["math/bits.deBruijn64tab", "math/bits.divideError", "math/bits.overflowError"], apart := false, laid := [("math/bits.deBruijn64tab", laid_math_bits_deBruijn64tab)] }
def FnExactTurnRingSaid : Prop := fnExactTurnRingRow.holds Tryd.pinned (OpenSpec.ofChange fnExactTurnRingSpec)

/-- ITS FALSE NEIGHBOUR: 'it returns false'. Refute it at one input. -/
def fnExactTurnRingWrong : ChangeSpec := { name := "fnExactTurnRing", fn := fun _ => fun
  | [d1, d2, d3] => { results := [.lit (.bool false)], args := [d1, d2, d3] }
  | _ => none }
def FnExactTurnRingWrongFalsely : Prop := fnExactTurnRingRow.holds Tryd.pinned (OpenSpec.ofChange fnExactTurnRingWrong)

/-- 'laws.FnExactInversesOf': WHATEVER THE INPUT: true; the input reads as it did. -/
def fnExactInversesOfSpec : ChangeSpec := { name := "fnExactInversesOf", fn := fun _ => fun
  | [d] => { results := [.lit (.bool true)], args := [d] }
  | _ => none }
def fnExactInversesOfRow : OpenClaim := { program := "ytnbaahpbmhhofaadoor", sum := "8dec9da0d4418dd2980a07a1d527d177233d3889a6fdc1cf34fe82f9fb629e0e", func := "loop.example/g00133/laws.FnExactInversesOf", spec := "fnExactInversesOf", named := ["math/bits.deBruijn64tab", "math/bits.divideError", "math/bits.overflowError"], apart := false, laid := [("math/bits.deBruijn64tab", laid_math_bits_deBruijn64tab)] }
def FnExactInversesOfSaid : Prop := fnExactInversesOfRow.holds Tryd.pinned (OpenSpec.ofChange fnExactInversesOfSpec)

/-- ITS FALSE NEIGHBOUR: 'it returns false'. Refute it at one input. -/
def fnExactInversesOfWrong : ChangeSpec := { name := "fnExactInversesOf", fn := fun _ => fun
  | [d] => { results := [.lit (.bool false)], args := [d] }
  | _ => none }
def FnExactInversesOfWrongFalsely : Prop := fnExactInversesOfRow.holds Tryd.pinned (OpenSpec.ofChange fnExactInversesOfWrong)

/-- 'laws.FnExactGoodRows': WHATEVER THE INPUT: true; the input reads as it did. -/
def fnExactGoodRowsSpec : ChangeSpec := { name := "fnExactGoodRows", fn := fun _ => fun
  | [d1, d2] => { results := [.lit (.bool true)], args := [d1, d2] }
  | _ => none }
def fnExactGoodRowsRow : OpenClaim := { program := "ytnbaahpbmhhofaadoor", sum := "8dec9da0d4418dd2980a07a1d527d177233d3889a6fdc1cf34fe82f9fb629e0e", func := "loop.example/g00133/laws.FnExactGoodRows", spec := "fnExactGoodRows", unfollowed := true, recurses := true, named := ["math/bits.deBruijn64tab", "math/bits.divideError", "math/bits.overflowError"], apart := false, laid := [("math/bits.deBruijn64tab", laid_math_bits_deBruijn64tab)] }
def FnExactGoodRowsSaid : Prop := fnExactGoodRowsRow.holds Tryd.pinned (OpenSpec.ofChange fnExactGoodRowsSpec)

/-- ITS FALSE NEIGHBOUR: 'it returns false'. Refute it at one input. -/
def fnExactGoodRowsWrong : ChangeSpec := { name := "fnExactGoodRows", fn := fun _ => fun
  | [d1, d2] => { results := [.lit (.bool false)], args := [d1, d2] }
  | _ => none }
def FnExactGoodRowsWrongFalsely : Prop := fnExactGoodRowsRow.holds Tryd.pinned (OpenSpec.ofChange fnExactGoodRowsWrong)

/- THE SECOND FORM. 'bulk': how many values and letters a reading holds, each counted each time it is reached (what is shared counts as often as it is met; a slice's spare places count too). A statement '..UptoSaid' is the law's where the arguments, and the package variables that the reading takes, are together of bulk at most 1048576: NARROWER than '..Said'. Prove '..Said' where nothing that the law and all that it calls make is longer than what came in: it says more and counts as full. Else prove '..UptoSaid'. A law counts once. -/
mutual
def uptoBulk {H : Type} : DataW H → Nat
  | .lit (.string bytes) => bytes.length + 1
  | .lit _ => 1
  | .nil => 1
  | .ptr d => uptoBulk d + 1
  | .slice elems spare => uptoBulkAll elems + uptoBulkAll spare + 1
  | .agg parts => uptoBulkAll parts + 1
  | .iface _ d => uptoBulk d + 1
  | .map entries => uptoBulkEntries entries + 1
  | .held _ => 1
def uptoBulkAll {H : Type} : List (DataW H) → Nat
  | [] => 0
  | d :: r => uptoBulk d + uptoBulkAll r
def uptoBulkEntries {H : Type} : List (Lit × DataW H) → Nat
  | [] => 0
  | x :: r => uptoBulkEntry x + uptoBulkEntries r
def uptoBulkEntry {H : Type} : Lit × DataW H → Nat
  | (.string bytes, d) => bytes.length + uptoBulk d + 1
  | (_, d) => uptoBulk d + 1
 end
def uptoSmall : (H : Type) → List (DataW H) → Bool := fun _ ds => decide (uptoBulkAll ds ≤ 1048576)
def OpenSpec.upto (s : _root_.Go.ChangeSpec) : _root_.Go.OpenSpec := { _root_.Go.OpenSpec.ofChange s with cond := some uptoSmall }

/-- 'laws.FnExactIsPrime', WHERE WHAT IT READS IS OF BULK AT MOST 1048576: true; the input reads as it did. -/
def fnExactIsPrimeUptoRow : OpenClaim := { program := "ytnbaahpbmhhofaadoor", sum := "8dec9da0d4418dd2980a07a1d527d177233d3889a6fdc1cf34fe82f9fb629e0e", func := "loop.example/g00133/laws.FnExactIsPrime", spec := "fnExactIsPrime", named := ["math/bits.deBruijn64tab", "math/bits.divideError", "math/bits.overflowError"], apart := false, laid := [("math/bits.deBruijn64tab", laid_math_bits_deBruijn64tab)], narrowed := true }
def FnExactIsPrimeUptoSaid : Prop := fnExactIsPrimeUptoRow.holds Tryd.pinned (OpenSpec.upto fnExactIsPrimeSpec)

/-- 'laws.FnExactGoodBasis', WHERE WHAT IT READS IS OF BULK AT MOST 1048576: true; the input reads as it did. -/
def fnExactGoodBasisUptoRow : OpenClaim := { program := "ytnbaahpbmhhofaadoor", sum := "8dec9da0d4418dd2980a07a1d527d177233d3889a6fdc1cf34fe82f9fb629e0e", func := "loop.example/g00133/laws.FnExactGoodBasis", spec := "fnExactGoodBasis", named := ["math/bits.deBruijn64tab", "math/bits.divideError", "math/bits.overflowError"], apart := false, laid := [("math/bits.deBruijn64tab", laid_math_bits_deBruijn64tab)], narrowed := true }
def FnExactGoodBasisUptoSaid : Prop := fnExactGoodBasisUptoRow.holds Tryd.pinned (OpenSpec.upto fnExactGoodBasisSpec)

/-- 'laws.FnExactRootOf', WHERE WHAT IT READS IS OF BULK AT MOST 1048576: true; the input reads as it did. -/
def fnExactRootOfUptoRow : OpenClaim := { program := "ytnbaahpbmhhofaadoor", sum := "8dec9da0d4418dd2980a07a1d527d177233d3889a6fdc1cf34fe82f9fb629e0e", func := "loop.example/g00133/laws.FnExactRootOf", spec := "fnExactRootOf", named := ["math/bits.deBruijn64tab", "math/bits.divideError", "math/bits.overflowError"], apart := false, laid := [("math/bits.deBruijn64tab", laid_math_bits_deBruijn64tab)], narrowed := true }
def FnExactRootOfUptoSaid : Prop := fnExactRootOfUptoRow.holds Tryd.pinned (OpenSpec.upto fnExactRootOfSpec)

/-- 'laws.FnExactRingOf', WHERE WHAT IT READS IS OF BULK AT MOST 1048576: true; the input reads as it did. -/
def fnExactRingOfUptoRow : OpenClaim := { program := "ytnbaahpbmhhofaadoor", sum := "8dec9da0d4418dd2980a07a1d527d177233d3889a6fdc1cf34fe82f9fb629e0e", func := "loop.example/g00133/laws.FnExactRingOf", spec := "fnExactRingOf", named := ["math/bits.deBruijn64tab", "math/bits.divideError", "math/bits.overflowError"], apart := false, laid := [("math/bits.deBruijn64tab", laid_math_bits_deBruijn64tab)], narrowed := true }
def FnExactRingOfUptoSaid : Prop := fnExactRingOfUptoRow.holds Tryd.pinned (OpenSpec.upto fnExactRingOfSpec)

/-- 'laws.FnExactGoodSpace', WHERE WHAT IT READS IS OF BULK AT MOST 1048576: true; the input reads as it did. -/
def fnExactGoodSpaceUptoRow : OpenClaim := { program := "ytnbaahpbmhhofaadoor", sum := "8dec9da0d4418dd2980a07a1d527d177233d3889a6fdc1cf34fe82f9fb629e0e", func := "loop.example/g00133/laws.FnExactGoodSpace", spec := "fnExactGoodSpace", unfollowed := true, recurses := true, named := ["math/bits.deBruijn64tab", "math/bits.divideError", "math/bits.overflowError"], apart := false, laid := [("math/bits.deBruijn64tab", laid_math_bits_deBruijn64tab)], narrowed := true }
def FnExactGoodSpaceUptoSaid : Prop := fnExactGoodSpaceUptoRow.holds Tryd.pinned (OpenSpec.upto fnExactGoodSpaceSpec)

/-- 'laws.FnExactMulEach', WHERE WHAT IT READS IS OF BULK AT MOST 1048576: true; the input reads as it did. -/
def fnExactMulEachUptoRow : OpenClaim := { program := "ytnbaahpbmhhofaadoor", sum := "8dec9da0d4418dd2980a07a1d527d177233d3889a6fdc1cf34fe82f9fb629e0e", func := "loop.example/g00133/laws.FnExactMulEach", spec := "fnExactMulEach", unfollowed := true, recurses := true, named := ["math/bits.deBruijn64tab", "math/bits.divideError", "math/bits.overflowError"], apart := false, laid := [("math/bits.deBruijn64tab", laid_math_bits_deBruijn64tab)], narrowed := true }
def FnExactMulEachUptoSaid : Prop := fnExactMulEachUptoRow.holds Tryd.pinned (OpenSpec.upto fnExactMulEachSpec)

/-- 'laws.FnExactProductOf', WHERE WHAT IT READS IS OF BULK AT MOST 1048576: true; the input reads as it did. -/
def fnExactProductOfUptoRow : OpenClaim := { program := "ytnbaahpbmhhofaadoor", sum := "8dec9da0d4418dd2980a07a1d527d177233d3889a6fdc1cf34fe82f9fb629e0e", func := "loop.example/g00133/laws.FnExactProductOf", spec := "fnExactProductOf", named := ["math/bits.deBruijn64tab", "math/bits.divideError", "math/bits.overflowError"], apart := false, laid := [("math/bits.deBruijn64tab", laid_math_bits_deBruijn64tab)], narrowed := true }
def FnExactProductOfUptoSaid : Prop := fnExactProductOfUptoRow.holds Tryd.pinned (OpenSpec.upto fnExactProductOfSpec)

/-- 'laws.FnExactMulRing', WHERE WHAT IT READS IS OF BULK AT MOST 1048576: true; the input reads as it did. -/
def fnExactMulRingUptoRow : OpenClaim := { program := "ytnbaahpbmhhofaadoor", sum := "8dec9da0d4418dd2980a07a1d527d177233d3889a6fdc1cf34fe82f9fb629e0e", func := "loop.example/g00133/laws.FnExactMulRing", spec := "fnExactMulRing", unfollowed := true, recurses := true, named := ["math/bits.deBruijn64tab", "math/bits.divideError", "math/bits.overflowError"], apart := false, laid := [("math/bits.deBruijn64tab", laid_math_bits_deBruijn64tab)], narrowed := true }
def FnExactMulRingUptoSaid : Prop := fnExactMulRingUptoRow.holds Tryd.pinned (OpenSpec.upto fnExactMulRingSpec)

/-- 'laws.FnExactResiduesOf', WHERE WHAT IT READS IS OF BULK AT MOST 1048576: true; the input reads as it did. -/
def fnExactResiduesOfUptoRow : OpenClaim := { program := "ytnbaahpbmhhofaadoor", sum := "8dec9da0d4418dd2980a07a1d527d177233d3889a6fdc1cf34fe82f9fb629e0e", func := "loop.example/g00133/laws.FnExactResiduesOf", spec := "fnExactResiduesOf", unfollowed := true, recurses := true, named := ["math/bits.deBruijn64tab", "math/bits.divideError", "math/bits.overflowError"], apart := false, laid := [("math/bits.deBruijn64tab", laid_math_bits_deBruijn64tab)], narrowed := true }
def FnExactResiduesOfUptoSaid : Prop := fnExactResiduesOfUptoRow.holds Tryd.pinned (OpenSpec.upto fnExactResiduesOfSpec)

/-- 'laws.FnExactTurnRing', WHERE WHAT IT READS IS OF BULK AT MOST 1048576: true; the input reads as it did. -/
def fnExactTurnRingUptoRow : OpenClaim := { program := "ytnbaahpbmhhofaadoor", sum := "8dec9da0d4418dd2980a07a1d527d177233d3889a6fdc1cf34fe82f9fb629e0e", func := "loop.example/g00133/laws.FnExactTurnRing", spec := "fnExactTurnRing", unfollowed := true, recurses := true, named := ["math/bits.deBruijn64tab", "math/bits.divideError", "math/bits.overflowError"], apart := false, laid := [("math/bits.deBruijn64tab", laid_math_bits_deBruijn64tab)], narrowed := true }
def FnExactTurnRingUptoSaid : Prop := fnExactTurnRingUptoRow.holds Tryd.pinned (OpenSpec.upto fnExactTurnRingSpec)

/-- 'laws.FnExactInversesOf', WHERE WHAT IT READS IS OF BULK AT MOST 1048576: true; the input reads as it did. -/
def fnExactInversesOfUptoRow : OpenClaim := { program := "ytnbaahpbmhhofaadoor", sum := "8dec9da0d4418dd2980a07a1d527d177233d3889a6fdc1cf34fe82f9fb629e0e", func := "loop.example/g00133/laws.FnExactInversesOf", spec := "fnExactInversesOf", named := ["math/bits.deBruijn64tab", "math/bits.divideError", "math/bits.overflowError"], apart := false, laid := [("math/bits.deBruijn64tab", laid_math_bits_deBruijn64tab)], narrowed := true }
def FnExactInversesOfUptoSaid : Prop := fnExactInversesOfUptoRow.holds Tryd.pinned (OpenSpec.upto fnExactInversesOfSpec)

/-- 'laws.FnExactGoodRows', WHERE WHAT IT READS IS OF BULK AT MOST 1048576: true; the input reads as it did. -/
def fnExactGoodRowsUptoRow : OpenClaim := { program := "ytnbaahpbmhhofaadoor", sum := "8dec9da0d4418dd2980a07a1d527d177233d3889a6fdc1cf34fe82f9fb629e0e", func := "loop.example/g00133/laws.FnExactGoodRows", spec := "fnExactGoodRows", unfollowed := true, recurses := true, named := ["math/bits.deBruijn64tab", "math/bits.divideError", "math/bits.overflowError"], apart := false, laid := [("math/bits.deBruijn64tab", laid_math_bits_deBruijn64tab)], narrowed := true }
def FnExactGoodRowsUptoSaid : Prop := fnExactGoodRowsUptoRow.holds Tryd.pinned (OpenSpec.upto fnExactGoodRowsSpec)

end Rows
end Go.Proofs.YtnbaahpbmhhofaaDoor
