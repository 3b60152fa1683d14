/-
  NARROWER THAN 'FOR EVERY INPUT', by the rows' own cells (each row's printed sentence says how): FnExactPuncturedOf: laid · FnExactForward: laid · FnExactInverse: laid · FnExactAddRows: laid · FnExactSubRows: laid · FnExactFastConvert: laid · FnExactRowsOf: laid · FnExactMulRows: laid · FnExactFloorConvert: laid · FnExactScaleRows: laid · FnExactSmallMont: laid · FnExactAheadRows: laid.
  DERIVED. THE GIVEN ROWS OF THIS SEAT. 12 by the template 'for every input the law returns true; each argument reads behind the call as it read before'; 0 by the template 'total and deterministic' (their statements: YthanbjnpfenniaaDoorTotals.lean).
  GIVEN WITH THE SEED: the statements are not yours to turn. If you find one false, say at which input.
  Laid BY PROGRAM, IN A SANDBOX (cutbox-rows.mjs): the forced cells as the released guide's own fill.sh prints them over the translation 789e0917ab7830c5… (all of the seat's roots in one cut). By AI agents, Wed Nov 11 2026. No macro, syntax, notation, axiom, sorry.
-/
import Derived.Test.YthanbjnpfenniaaDoorChecked
import GoSem.Claim
import GoSem.ClaimJoined
import GoSem.ClaimMapViews
import Derived.JoinedTies
import Derived.KernelRfl
namespace Go.Proofs.YthanbjnpfenniaaDoor
/- THE CELL 'sum', in the pinned program and in every row, IS THE sha256 OF THE DUMP (.gsa) THAT YthanbjnpfenniaaDoorProg.lean LOADS. Nothing in Lean hashes anything: it is a label: what it is worth is what the hold of that sum in a sandbox is worth. -/
noncomputable def Tryd.pinned : Pinned := { name := "ythanbjnpfenniaadoor", sum := "789e0917ab7830c535a408e47455400d14f50f09b1e8afd0535cd347bcef4aa3", checked := Tryd.checked }
namespace Rows
def none {H : Type} : Left H := { results := [], args := [] }

/- WHAT THE LISTED PACKAGE-LEVEL VARIABLES READ AS WHEN THE CALL BEGINS. Each datum BY PROGRAM (the guide's laid-datum.mjs) off the statement by which the dump's own 'gosem.cut.vars' lays the variable. In a bare row this is a premise. The card (YthanbjnpfenniaaDoorCards.lean) ties it to the program's text. -/
def laid_math_bits_deBruijn64tab {H : Type} : DataW H := .agg [.lit (.int .u8 0), .lit (.int .u8 1), .lit (.int .u8 56), .lit (.int .u8 2), .lit (.int .u8 57), .lit (.int .u8 49), .lit (.int .u8 28), .lit (.int .u8 3), .lit (.int .u8 61), .lit (.int .u8 58), .lit (.int .u8 42), .lit (.int .u8 50), .lit (.int .u8 38), .lit (.int .u8 29), .lit (.int .u8 17), .lit (.int .u8 4), .lit (.int .u8 62), .lit (.int .u8 47), .lit (.int .u8 59), .lit (.int .u8 36), .lit (.int .u8 45), .lit (.int .u8 43), .lit (.int .u8 51), .lit (.int .u8 22), .lit (.int .u8 53), .lit (.int .u8 39), .lit (.int .u8 33), .lit (.int .u8 30), .lit (.int .u8 24), .lit (.int .u8 18), .lit (.int .u8 12), .lit (.int .u8 5), .lit (.int .u8 63), .lit (.int .u8 55), .lit (.int .u8 48), .lit (.int .u8 27), .lit (.int .u8 60), .lit (.int .u8 41), .lit (.int .u8 37), .lit (.int .u8 16), .lit (.int .u8 46), .lit (.int .u8 35), .lit (.int .u8 44), .lit (.int .u8 21), .lit (.int .u8 52), .lit (.int .u8 32), .lit (.int .u8 23), .lit (.int .u8 11), .lit (.int .u8 54), .lit (.int .u8 26), .lit (.int .u8 40), .lit (.int .u8 15), .lit (.int .u8 34), .lit (.int .u8 20), .lit (.int .u8 31), .lit (.int .u8 10), .lit (.int .u8 25), .lit (.int .u8 14), .lit (.int .u8 19), .lit (.int .u8 9), .lit (.int .u8 13), .lit (.int .u8 8), .lit (.int .u8 7), .lit (.int .u8 6)]

/-- 'laws.FnExactPuncturedOf': WHATEVER THE INPUT: true; the input reads as it did. -/
def fnExactPuncturedOfSpec : ChangeSpec := { name := "fnExactPuncturedOf", fn := fun _ => fun
  | [d] => { results := [.lit (.bool true)], args := [d] }
  | _ => none }
def fnExactPuncturedOfRow : OpenClaim := { program := "ythanbjnpfenniaadoor", sum := "789e0917ab7830c535a408e47455400d14f50f09b1e8afd0535cd347bcef4aa3", func := "loop.example/g00133/laws.FnExactPuncturedOf", spec := "fnExactPuncturedOf", named := ["math/bits.deBruijn64tab", "math/bits.divideError", "math/bits.overflowError"], apart := false, laid := [("math/bits.deBruijn64tab", laid_math_bits_deBruijn64tab)] }
def FnExactPuncturedOfSaid : Prop := fnExactPuncturedOfRow.holds Tryd.pinned (OpenSpec.ofChange fnExactPuncturedOfSpec)

/-- ITS FALSE NEIGHBOUR: 'it returns false'. Refute it at one input. -/
def fnExactPuncturedOfWrong : ChangeSpec := { name := "fnExactPuncturedOf", fn := fun _ => fun
  | [d] => { results := [.lit (.bool false)], args := [d] }
  | _ => none }
def FnExactPuncturedOfWrongFalsely : Prop := fnExactPuncturedOfRow.holds Tryd.pinned (OpenSpec.ofChange fnExactPuncturedOfWrong)

/-- 'laws.FnExactForward': WHATEVER THE INPUT: true; the input reads as it did. -/
def fnExactForwardSpec : ChangeSpec := { name := "fnExactForward", fn := fun _ => fun
  | [d1, d2] => { results := [.lit (.bool true)], args := [d1, d2] }
  | _ => none }
def fnExactForwardRow : OpenClaim := { program := "ythanbjnpfenniaadoor", sum := "789e0917ab7830c535a408e47455400d14f50f09b1e8afd0535cd347bcef4aa3", func := "loop.example/g00133/laws.FnExactForward", spec := "fnExactForward", unfollowed := true, recurses := true, named := ["math/bits.deBruijn64tab", "math/bits.divideError", "math/bits.overflowError"], apart := false, laid := [("math/bits.deBruijn64tab", laid_math_bits_deBruijn64tab)] }
def FnExactForwardSaid : Prop := fnExactForwardRow.holds Tryd.pinned (OpenSpec.ofChange fnExactForwardSpec)

/-- ITS FALSE NEIGHBOUR: 'it returns false'. Refute it at one input. -/
def fnExactForwardWrong : ChangeSpec := { name := "fnExactForward", fn := fun _ => fun
  | [d1, d2] => { results := [.lit (.bool false)], args := [d1, d2] }
  | _ => none }
def FnExactForwardWrongFalsely : Prop := fnExactForwardRow.holds Tryd.pinned (OpenSpec.ofChange fnExactForwardWrong)

/-- 'laws.FnExactInverse': WHATEVER THE INPUT: true; the input reads as it did. -/
def fnExactInverseSpec : ChangeSpec := { name := "fnExactInverse", fn := fun _ => fun
  | [d1, d2] => { results := [.lit (.bool true)], args := [d1, d2] }
  | _ => none }
def fnExactInverseRow : OpenClaim := { program := "ythanbjnpfenniaadoor", sum := "789e0917ab7830c535a408e47455400d14f50f09b1e8afd0535cd347bcef4aa3", func := "loop.example/g00133/laws.FnExactInverse", spec := "fnExactInverse", unfollowed := true, recurses := true, named := ["math/bits.deBruijn64tab", "math/bits.divideError", "math/bits.overflowError"], apart := false, laid := [("math/bits.deBruijn64tab", laid_math_bits_deBruijn64tab)] }
def FnExactInverseSaid : Prop := fnExactInverseRow.holds Tryd.pinned (OpenSpec.ofChange fnExactInverseSpec)

/-- ITS FALSE NEIGHBOUR: 'it returns false'. Refute it at one input. -/
def fnExactInverseWrong : ChangeSpec := { name := "fnExactInverse", fn := fun _ => fun
  | [d1, d2] => { results := [.lit (.bool false)], args := [d1, d2] }
  | _ => none }
def FnExactInverseWrongFalsely : Prop := fnExactInverseRow.holds Tryd.pinned (OpenSpec.ofChange fnExactInverseWrong)

/-- 'laws.FnExactAddRows': WHATEVER THE INPUT: true; the input reads as it did. -/
def fnExactAddRowsSpec : ChangeSpec := { name := "fnExactAddRows", fn := fun _ => fun
  | [d1, d2, d3] => { results := [.lit (.bool true)], args := [d1, d2, d3] }
  | _ => none }
def fnExactAddRowsRow : OpenClaim := { program := "ythanbjnpfenniaadoor", sum := "789e0917ab7830c535a408e47455400d14f50f09b1e8afd0535cd347bcef4aa3", func := "loop.example/g00133/laws.FnExactAddRows", spec := "fnExactAddRows", unfollowed := true, recurses := true, named := ["math/bits.deBruijn64tab", "math/bits.divideError", "math/bits.overflowError"], apart := false, laid := [("math/bits.deBruijn64tab", laid_math_bits_deBruijn64tab)] }
def FnExactAddRowsSaid : Prop := fnExactAddRowsRow.holds Tryd.pinned (OpenSpec.ofChange fnExactAddRowsSpec)

/-- ITS FALSE NEIGHBOUR: 'it returns false'. Refute it at one input. -/
def fnExactAddRowsWrong : ChangeSpec := { name := "fnExactAddRows", fn := fun _ => fun
  | [d1, d2, d3] => { results := [.lit (.bool false)], args := [d1, d2, d3] }
  | _ => none }
def FnExactAddRowsWrongFalsely : Prop := fnExactAddRowsRow.holds Tryd.pinned (OpenSpec.ofChange fnExactAddRowsWrong)

/-- 'laws.FnExactSubRows': WHATEVER THE INPUT: true; the input reads as it did. -/
def fnExactSubRowsSpec : ChangeSpec := { name := "fnExactSubRows", fn := fun _ => fun
  | [d1, d2, d3] => { results := [.lit (.bool true)], args := [d1, d2, d3] }
  | _ => none }
def fnExactSubRowsRow : OpenClaim := { program := "ythanbjnpfenniaadoor", sum := "789e0917ab7830c535a408e47455400d14f50f09b1e8afd0535cd347bcef4aa3", func := "loop.example/g00133/laws.FnExactSubRows", spec := "fnExactSubRows", unfollowed := true, recurses := true, named := ["math/bits.deBruijn64tab", "math/bits.divideError", "math/bits.overflowError"], apart := false, laid := [("math/bits.deBruijn64tab", laid_math_bits_deBruijn64tab)] }
def FnExactSubRowsSaid : Prop := fnExactSubRowsRow.holds Tryd.pinned (OpenSpec.ofChange fnExactSubRowsSpec)

/-- ITS FALSE NEIGHBOUR: 'it returns false'. Refute it at one input. -/
def fnExactSubRowsWrong : ChangeSpec := { name := "fnExactSubRows", fn := fun _ => fun
  | [d1, d2, d3] => { results := [.lit (.bool false)], args := [d1, d2, d3] }
  | _ => none }
def FnExactSubRowsWrongFalsely : Prop := fnExactSubRowsRow.holds Tryd.pinned (OpenSpec.ofChange fnExactSubRowsWrong)

/-- 'laws.FnExactFastConvert': WHATEVER THE INPUT: true; the input reads as it did. -/
def fnExactFastConvertSpec : ChangeSpec := { name := "fnExactFastConvert", fn := fun _ => fun
  | [d1, d2, d3] => { results := [.lit (.bool true)], args := [d1, d2, d3] }
  | _ => none }
def fnExactFastConvertRow : OpenClaim := { program := "ythanbjnpfenniaadoor", sum := "789e0917ab7830c535a408e47455400d14f50f09b1e8afd0535cd347bcef4aa3", func := "loop.example/g00133/laws.FnExactFastConvert", spec := "fnExactFastConvert", unfollowed := true, recurses := true, named := ["math/bits.deBruijn64tab", "math/bits.divideError", "math/bits.overflowError"], apart := false, laid := [("math/bits.deBruijn64tab", laid_math_bits_deBruijn64tab)] }
def FnExactFastConvertSaid : Prop := fnExactFastConvertRow.holds Tryd.pinned (OpenSpec.ofChange fnExactFastConvertSpec)

/-- ITS FALSE NEIGHBOUR: 'it returns false'. Refute it at one input. -/
def fnExactFastConvertWrong : ChangeSpec := { name := "fnExactFastConvert", fn := fun _ => fun
  | [d1, d2, d3] => { results := [.lit (.bool false)], args := [d1, d2, d3] }
  | _ => none }
def FnExactFastConvertWrongFalsely : Prop := fnExactFastConvertRow.holds Tryd.pinned (OpenSpec.ofChange fnExactFastConvertWrong)

/-- 'laws.FnExactRowsOf': WHATEVER THE INPUT: true; the input reads as it did. -/
def fnExactRowsOfSpec : ChangeSpec := { name := "fnExactRowsOf", fn := fun _ => fun
  | [d1, d2] => { results := [.lit (.bool true)], args := [d1, d2] }
  | _ => none }
def fnExactRowsOfRow : OpenClaim := { program := "ythanbjnpfenniaadoor", sum := "789e0917ab7830c535a408e47455400d14f50f09b1e8afd0535cd347bcef4aa3", func := "loop.example/g00133/laws.FnExactRowsOf", spec := "fnExactRowsOf", unfollowed := true, recurses := true, named := ["math/bits.deBruijn64tab", "math/bits.divideError", "math/bits.overflowError"], apart := false, laid := [("math/bits.deBruijn64tab", laid_math_bits_deBruijn64tab)] }
def FnExactRowsOfSaid : Prop := fnExactRowsOfRow.holds Tryd.pinned (OpenSpec.ofChange fnExactRowsOfSpec)

/-- ITS FALSE NEIGHBOUR: 'it returns false'. Refute it at one input. -/
def fnExactRowsOfWrong : ChangeSpec := { name := "fnExactRowsOf", fn := fun _ => fun
  | [d1, d2] => { results := [.lit (.bool false)], args := [d1, d2] }
  | _ => none }
def FnExactRowsOfWrongFalsely : Prop := fnExactRowsOfRow.holds Tryd.pinned (OpenSpec.ofChange fnExactRowsOfWrong)

/-- 'laws.FnExactMulRows': WHATEVER THE INPUT: true; the input reads as it did. -/
def fnExactMulRowsSpec : ChangeSpec := { name := "fnExactMulRows", fn := fun _ => fun
  | [d1, d2, d3] => { results := [.lit (.bool true)], args := [d1, d2, d3] }
  | _ => none }
def fnExactMulRowsRow : OpenClaim := { program := "ythanbjnpfenniaadoor", sum := "789e0917ab7830c535a408e47455400d14f50f09b1e8afd0535cd347bcef4aa3", func := "loop.example/g00133/laws.FnExactMulRows", spec := "fnExactMulRows", unfollowed := true, recurses := true, named := ["math/bits.deBruijn64tab", "math/bits.divideError", "math/bits.overflowError"], apart := false, laid := [("math/bits.deBruijn64tab", laid_math_bits_deBruijn64tab)] }
def FnExactMulRowsSaid : Prop := fnExactMulRowsRow.holds Tryd.pinned (OpenSpec.ofChange fnExactMulRowsSpec)

/-- ITS FALSE NEIGHBOUR: 'it returns false'. Refute it at one input. -/
def fnExactMulRowsWrong : ChangeSpec := { name := "fnExactMulRows", fn := fun _ => fun
  | [d1, d2, d3] => { results := [.lit (.bool false)], args := [d1, d2, d3] }
  | _ => none }
def FnExactMulRowsWrongFalsely : Prop := fnExactMulRowsRow.holds Tryd.pinned (OpenSpec.ofChange fnExactMulRowsWrong)

/-- 'laws.FnExactFloorConvert': WHATEVER THE INPUT: true; the input reads as it did. -/
def fnExactFloorConvertSpec : ChangeSpec := { name := "fnExactFloorConvert", fn := fun _ => fun
  | [d1, d2, d3, d4] => { results := [.lit (.bool true)], args := [d1, d2, d3, d4] }
  | _ => none }
def fnExactFloorConvertRow : OpenClaim := { program := "ythanbjnpfenniaadoor", sum := "789e0917ab7830c535a408e47455400d14f50f09b1e8afd0535cd347bcef4aa3", func := "loop.example/g00133/laws.FnExactFloorConvert", spec := "fnExactFloorConvert", unfollowed := true, recurses := true, named := ["math/bits.deBruijn64tab", "math/bits.divideError", "math/bits.overflowError"], apart := false, laid := [("math/bits.deBruijn64tab", laid_math_bits_deBruijn64tab)] }
def FnExactFloorConvertSaid : Prop := fnExactFloorConvertRow.holds Tryd.pinned (OpenSpec.ofChange fnExactFloorConvertSpec)

/-- ITS FALSE NEIGHBOUR: 'it returns false'. Refute it at one input. -/
def fnExactFloorConvertWrong : ChangeSpec := { name := "fnExactFloorConvert", fn := fun _ => fun
  | [d1, d2, d3, d4] => { results := [.lit (.bool false)], args := [d1, d2, d3, d4] }
  | _ => none }
def FnExactFloorConvertWrongFalsely : Prop := fnExactFloorConvertRow.holds Tryd.pinned (OpenSpec.ofChange fnExactFloorConvertWrong)

/-- 'laws.FnExactScaleRows': WHATEVER THE INPUT: true; the input reads as it did. -/
def fnExactScaleRowsSpec : ChangeSpec := { name := "fnExactScaleRows", fn := fun _ => fun
  | [d1, d2, d3] => { results := [.lit (.bool true)], args := [d1, d2, d3] }
  | _ => none }
def fnExactScaleRowsRow : OpenClaim := { program := "ythanbjnpfenniaadoor", sum := "789e0917ab7830c535a408e47455400d14f50f09b1e8afd0535cd347bcef4aa3", func := "loop.example/g00133/laws.FnExactScaleRows", spec := "fnExactScaleRows", unfollowed := true, recurses := true, named := ["math/bits.deBruijn64tab", "math/bits.divideError", "math/bits.overflowError"], apart := false, laid := [("math/bits.deBruijn64tab", laid_math_bits_deBruijn64tab)] }
def FnExactScaleRowsSaid : Prop := fnExactScaleRowsRow.holds Tryd.pinned (OpenSpec.ofChange fnExactScaleRowsSpec)

/-- ITS FALSE NEIGHBOUR: 'it returns false'. Refute it at one input. -/
def fnExactScaleRowsWrong : ChangeSpec := { name := "fnExactScaleRows", fn := fun _ => fun
  | [d1, d2, d3] => { results := [.lit (.bool false)], args := [d1, d2, d3] }
  | _ => none }
def FnExactScaleRowsWrongFalsely : Prop := fnExactScaleRowsRow.holds Tryd.pinned (OpenSpec.ofChange fnExactScaleRowsWrong)

/-- 'laws.FnExactSmallMont': WHATEVER THE INPUT: true; the input reads as it did. -/
def fnExactSmallMontSpec : ChangeSpec := { name := "fnExactSmallMont", fn := fun _ => fun
  | [d1, d2, d3, d4, d5] => { results := [.lit (.bool true)], args := [d1, d2, d3, d4, d5] }
  | _ => none }
def fnExactSmallMontRow : OpenClaim := { program := "ythanbjnpfenniaadoor", sum := "789e0917ab7830c535a408e47455400d14f50f09b1e8afd0535cd347bcef4aa3", func := "loop.example/g00133/laws.FnExactSmallMont", spec := "fnExactSmallMont", unfollowed := true, recurses := true, named := ["math/bits.deBruijn64tab", "math/bits.divideError", "math/bits.overflowError"], apart := false, laid := [("math/bits.deBruijn64tab", laid_math_bits_deBruijn64tab)] }
def FnExactSmallMontSaid : Prop := fnExactSmallMontRow.holds Tryd.pinned (OpenSpec.ofChange fnExactSmallMontSpec)

/-- ITS FALSE NEIGHBOUR: 'it returns false'. Refute it at one input. -/
def fnExactSmallMontWrong : ChangeSpec := { name := "fnExactSmallMont", fn := fun _ => fun
  | [d1, d2, d3, d4, d5] => { results := [.lit (.bool false)], args := [d1, d2, d3, d4, d5] }
  | _ => none }
def FnExactSmallMontWrongFalsely : Prop := fnExactSmallMontRow.holds Tryd.pinned (OpenSpec.ofChange fnExactSmallMontWrong)

/-- 'laws.FnExactAheadRows': WHATEVER THE INPUT: true; the input reads as it did. -/
def fnExactAheadRowsSpec : ChangeSpec := { name := "fnExactAheadRows", fn := fun _ => fun
  | [d1, d2] => { results := [.lit (.bool true)], args := [d1, d2] }
  | _ => none }
def fnExactAheadRowsRow : OpenClaim := { program := "ythanbjnpfenniaadoor", sum := "789e0917ab7830c535a408e47455400d14f50f09b1e8afd0535cd347bcef4aa3", func := "loop.example/g00133/laws.FnExactAheadRows", spec := "fnExactAheadRows", unfollowed := true, recurses := true, named := ["math/bits.deBruijn64tab", "math/bits.divideError", "math/bits.overflowError"], apart := false, laid := [("math/bits.deBruijn64tab", laid_math_bits_deBruijn64tab)] }
def FnExactAheadRowsSaid : Prop := fnExactAheadRowsRow.holds Tryd.pinned (OpenSpec.ofChange fnExactAheadRowsSpec)

/-- ITS FALSE NEIGHBOUR: 'it returns false'. Refute it at one input. -/
def fnExactAheadRowsWrong : ChangeSpec := { name := "fnExactAheadRows", fn := fun _ => fun
  | [d1, d2] => { results := [.lit (.bool false)], args := [d1, d2] }
  | _ => none }
def FnExactAheadRowsWrongFalsely : Prop := fnExactAheadRowsRow.holds Tryd.pinned (OpenSpec.ofChange fnExactAheadRowsWrong)

/- THE SECOND FORM. 'bulk': how many values and letters a reading holds, each counted each time it is reached (what is shared counts as often as it is met; a slice's spare places count too). A statement '..UptoSaid' is the law's where the arguments, and the package variables that the reading takes, are together of bulk at most 1048576: NARROWER than '..Said'. Prove '..Said' where nothing that the law and all that it calls make is longer than what came in: it says more and counts as full. Else prove '..UptoSaid'. A law counts once. -/
mutual
def uptoBulk {H : Type} : DataW H → Nat
  | .lit (.string bytes) => bytes.length + 1
  | .lit _ => 1
  | .nil => 1
  | .ptr d => uptoBulk d + 1
  | .slice elems spare => uptoBulkAll elems + uptoBulkAll spare + 1
  | .agg parts => uptoBulkAll parts + 1
  | .iface _ d => uptoBulk d + 1
  | .map entries => uptoBulkEntries entries + 1
  | .held _ => 1
def uptoBulkAll {H : Type} : List (DataW H) → Nat
  | [] => 0
  | d :: r => uptoBulk d + uptoBulkAll r
def uptoBulkEntries {H : Type} : List (Lit × DataW H) → Nat
  | [] => 0
  | x :: r => uptoBulkEntry x + uptoBulkEntries r
def uptoBulkEntry {H : Type} : Lit × DataW H → Nat
  | (.string bytes, d) => bytes.length + uptoBulk d + 1
  | (_, d) => uptoBulk d + 1
 end
def uptoSmall : (H : Type) → List (DataW H) → Bool := fun _ ds => decide (uptoBulkAll ds ≤ 1048576)
def OpenSpec.upto (s : _root_.Go.ChangeSpec) : _root_.Go.OpenSpec := { _root_.Go.OpenSpec.ofChange s with cond := some uptoSmall }

/-- 'laws.FnExactPuncturedOf', WHERE WHAT IT READS IS OF BULK AT MOST 1048576: true; the input reads as it did. -/
def fnExactPuncturedOfUptoRow : OpenClaim := { program := "ythanbjnpfenniaadoor", sum := "789e0917ab7830c535a408e47455400d14f50f09b1e8afd0535cd347bcef4aa3", func := "loop.example/g00133/laws.FnExactPuncturedOf", spec := "fnExactPuncturedOf", named := ["math/bits.deBruijn64tab", "math/bits.divideError", "math/bits.overflowError"], apart := false, laid := [("math/bits.deBruijn64tab", laid_math_bits_deBruijn64tab)], narrowed := true }
def FnExactPuncturedOfUptoSaid : Prop := fnExactPuncturedOfUptoRow.holds Tryd.pinned (OpenSpec.upto fnExactPuncturedOfSpec)

/-- 'laws.FnExactForward', WHERE WHAT IT READS IS OF BULK AT MOST 1048576: true; the input reads as it did. -/
def fnExactForwardUptoRow : OpenClaim := { program := "ythanbjnpfenniaadoor", sum := "789e0917ab7830c535a408e47455400d14f50f09b1e8afd0535cd347bcef4aa3", func := "loop.example/g00133/laws.FnExactForward", spec := "fnExactForward", unfollowed := true, recurses := true, named := ["math/bits.deBruijn64tab", "math/bits.divideError", "math/bits.overflowError"], apart := false, laid := [("math/bits.deBruijn64tab", laid_math_bits_deBruijn64tab)], narrowed := true }
def FnExactForwardUptoSaid : Prop := fnExactForwardUptoRow.holds Tryd.pinned (OpenSpec.upto fnExactForwardSpec)

/-- 'laws.FnExactInverse', WHERE WHAT IT READS IS OF BULK AT MOST 1048576: true; the input reads as it did. -/
def fnExactInverseUptoRow : OpenClaim := { program := "ythanbjnpfenniaadoor", sum := "789e0917ab7830c535a408e47455400d14f50f09b1e8afd0535cd347bcef4aa3", func := "loop.example/g00133/laws.FnExactInverse", spec := "fnExactInverse", unfollowed := true, recurses := true, named := ["math/bits.deBruijn64tab", "math/bits.divideError", "math/bits.overflowError"], apart := false, laid := [("math/bits.deBruijn64tab", laid_math_bits_deBruijn64tab)], narrowed := true }
def FnExactInverseUptoSaid : Prop := fnExactInverseUptoRow.holds Tryd.pinned (OpenSpec.upto fnExactInverseSpec)

/-- 'laws.FnExactAddRows', WHERE WHAT IT READS IS OF BULK AT MOST 1048576: true; the input reads as it did. -/
def fnExactAddRowsUptoRow : OpenClaim := { program := "ythanbjnpfenniaadoor", sum := "789e0917ab7830c535a408e47455400d14f50f09b1e8afd0535cd347bcef4aa3", func := "loop.example/g00133/laws.FnExactAddRows", spec := "fnExactAddRows", unfollowed := true, recurses := true, named := ["math/bits.deBruijn64tab", "math/bits.divideError", "math/bits.overflowError"], apart := false, laid := [("math/bits.deBruijn64tab", laid_math_bits_deBruijn64tab)], narrowed := true }
def FnExactAddRowsUptoSaid : Prop := fnExactAddRowsUptoRow.holds Tryd.pinned (OpenSpec.upto fnExactAddRowsSpec)

/-- 'laws.FnExactSubRows', WHERE WHAT IT READS IS OF BULK AT MOST 1048576: true; the input reads as it did. -/
def fnExactSubRowsUptoRow : OpenClaim := { program := "ythanbjnpfenniaadoor", sum := "789e0917ab7830c535a408e47455400d14f50f09b1e8afd0535cd347bcef4aa3", func := "loop.example/g00133/laws.FnExactSubRows", spec := "fnExactSubRows", unfollowed := true, recurses := true, named := ["math/bits.deBruijn64tab", "math/bits.divideError", "math/bits.overflowError"], apart := false, laid := [("math/bits.deBruijn64tab", laid_math_bits_deBruijn64tab)], narrowed := true }
def FnExactSubRowsUptoSaid : Prop := fnExactSubRowsUptoRow.holds Tryd.pinned (OpenSpec.upto fnExactSubRowsSpec)

/-- 'laws.FnExactFastConvert', WHERE WHAT IT READS IS OF BULK AT MOST 1048576: true; the input reads as it did. -/
def fnExactFastConvertUptoRow : OpenClaim := { program := "ythanbjnpfenniaadoor", sum := "789e0917ab7830c535a408e47455400d14f50f09b1e8afd0535cd347bcef4aa3", func := "loop.example/g00133/laws.FnExactFastConvert", spec := "fnExactFastConvert", unfollowed := true, recurses := true, named := ["math/bits.deBruijn64tab", "math/bits.divideError", "math/bits.overflowError"], apart := false, laid := [("math/bits.deBruijn64tab", laid_math_bits_deBruijn64tab)], narrowed := true }
def FnExactFastConvertUptoSaid : Prop := fnExactFastConvertUptoRow.holds Tryd.pinned (OpenSpec.upto fnExactFastConvertSpec)

/-- 'laws.FnExactRowsOf', WHERE WHAT IT READS IS OF BULK AT MOST 1048576: true; the input reads as it did. -/
def fnExactRowsOfUptoRow : OpenClaim := { program := "ythanbjnpfenniaadoor", sum := "789e0917ab7830c535a408e47455400d14f50f09b1e8afd0535cd347bcef4aa3", func := "loop.example/g00133/laws.FnExactRowsOf", spec := "fnExactRowsOf", unfollowed := true, recurses := true, named := ["math/bits.deBruijn64tab", "math/bits.divideError", "math/bits.overflowError"], apart := false, laid := [("math/bits.deBruijn64tab", laid_math_bits_deBruijn64tab)], narrowed := true }
def FnExactRowsOfUptoSaid : Prop := fnExactRowsOfUptoRow.holds Tryd.pinned (OpenSpec.upto fnExactRowsOfSpec)

/-- 'laws.FnExactMulRows', WHERE WHAT IT READS IS OF BULK AT MOST 1048576: true; the input reads as it did. -/
def fnExactMulRowsUptoRow : OpenClaim := { program := "ythanbjnpfenniaadoor", sum := "789e0917ab7830c535a408e47455400d14f50f09b1e8afd0535cd347bcef4aa3", func := "loop.example/g00133/laws.FnExactMulRows", spec := "fnExactMulRows", unfollowed := true, recurses := true, named := ["math/bits.deBruijn64tab", "math/bits.divideError", "math/bits.overflowError"], apart := false, laid := [("math/bits.deBruijn64tab", laid_math_bits_deBruijn64tab)], narrowed := true }
def FnExactMulRowsUptoSaid : Prop := fnExactMulRowsUptoRow.holds Tryd.pinned (OpenSpec.upto fnExactMulRowsSpec)

/-- 'laws.FnExactFloorConvert', WHERE WHAT IT READS IS OF BULK AT MOST 1048576: true; the input reads as it did. -/
def fnExactFloorConvertUptoRow : OpenClaim := { program := "ythanbjnpfenniaadoor", sum := "789e0917ab7830c535a408e47455400d14f50f09b1e8afd0535cd347bcef4aa3", func := "loop.example/g00133/laws.FnExactFloorConvert", spec := "fnExactFloorConvert", unfollowed := true, recurses := true, named := ["math/bits.deBruijn64tab", "math/bits.divideError", "math/bits.overflowError"], apart := false, laid := [("math/bits.deBruijn64tab", laid_math_bits_deBruijn64tab)], narrowed := true }
def FnExactFloorConvertUptoSaid : Prop := fnExactFloorConvertUptoRow.holds Tryd.pinned (OpenSpec.upto fnExactFloorConvertSpec)

/-- 'laws.FnExactScaleRows', WHERE WHAT IT READS IS OF BULK AT MOST 1048576: true; the input reads as it did. -/
def fnExactScaleRowsUptoRow : OpenClaim := { program := "ythanbjnpfenniaadoor", sum := "789e0917ab7830c535a408e47455400d14f50f09b1e8afd0535cd347bcef4aa3", func := "loop.example/g00133/laws.FnExactScaleRows", spec := "fnExactScaleRows", unfollowed := true, recurses := true, named := ["math/bits.deBruijn64tab", "math/bits.divideError", "math/bits.overflowError"], apart := false, laid := [("math/bits.deBruijn64tab", laid_math_bits_deBruijn64tab)], narrowed := true }
def FnExactScaleRowsUptoSaid : Prop := fnExactScaleRowsUptoRow.holds Tryd.pinned (OpenSpec.upto fnExactScaleRowsSpec)

/-- 'laws.FnExactSmallMont', WHERE WHAT IT READS IS OF BULK AT MOST 1048576: true; the input reads as it did. -/
def fnExactSmallMontUptoRow : OpenClaim := { program := "ythanbjnpfenniaadoor", sum := "789e0917ab7830c535a408e47455400d14f50f09b1e8afd0535cd347bcef4aa3", func := "loop.example/g00133/laws.FnExactSmallMont", spec := "fnExactSmallMont", unfollowed := true, recurses := true, named := ["math/bits.deBruijn64tab", "math/bits.divideError", "math/bits.overflowError"], apart := false, laid := [("math/bits.deBruijn64tab", laid_math_bits_deBruijn64tab)], narrowed := true }
def FnExactSmallMontUptoSaid : Prop := fnExactSmallMontUptoRow.holds Tryd.pinned (OpenSpec.upto fnExactSmallMontSpec)

/-- 'laws.FnExactAheadRows', WHERE WHAT IT READS IS OF BULK AT MOST 1048576: true; the input reads as it did. -/
def fnExactAheadRowsUptoRow : OpenClaim := { program := "ythanbjnpfenniaadoor", sum := "789e0917ab7830c535a408e47455400d14f50f09b1e8afd0535cd347bcef4aa3", func := "loop.example/g00133/laws.FnExactAheadRows", spec := "fnExactAheadRows", unfollowed := true, recurses := true, named := ["math/bits.deBruijn64tab", "math/bits.divideError", "math/bits.overflowError"], apart := false, laid := [("math/bits.deBruijn64tab", laid_math_bits_deBruijn64tab)], narrowed := true }
def FnExactAheadRowsUptoSaid : Prop := fnExactAheadRowsUptoRow.holds Tryd.pinned (OpenSpec.upto fnExactAheadRowsSpec)

end Rows
end Go.Proofs.YthanbjnpfenniaaDoor
