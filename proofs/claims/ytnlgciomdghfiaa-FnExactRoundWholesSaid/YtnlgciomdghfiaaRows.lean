/-
  No cell of these rows narrows 'for every input' (looked for: loops, veiled, ifaces, maps, wideKeys, modest, calm, conditions, laid).
  DERIVED. THE GIVEN ROWS OF THIS SEAT. 12 by the template 'for every input the law returns true; each argument reads behind the call as it read before'; 0 by the template 'total and deterministic' (their statements: YtnlgciomdghfiaaTotals.lean).
  GIVEN WITH THE SEED: the statements are not yours to turn. If you find one false, say at which input.
  Laid BY PROGRAM, IN A SANDBOX (cutbox-rows.mjs): the forced cells as the released guide's own fill.sh prints them over the translation 5062f250f330caf1… (all of the seat's roots in one cut). By AI agents, Wed Nov 11 2026. No macro, syntax, notation, axiom, sorry.
-/
import Derived.Test.YtnlgciomdghfiaaChecked
import GoSem.Claim
import GoSem.ClaimJoined
import GoSem.ClaimMapViews
import Derived.JoinedTies
import Derived.KernelRfl
namespace Go.Proofs.Ytnlgciomdghfiaa
/- THE CELL 'sum', in the pinned program and in every row, IS THE sha256 OF THE DUMP (.gsa) THAT YtnlgciomdghfiaaProg.lean LOADS. Nothing in Lean hashes anything: it is a label: what it is worth is what the hold of that sum in a sandbox is worth. -/
noncomputable def Try.pinned : Pinned := { name := "ytnlgciomdghfiaa", sum := "5062f250f330caf129812de11b62af16e8ea73eb6690645b0de6a1780dcbbfb5", checked := Try.checked }
namespace Rows
def none {H : Type} : Left H := { results := [], args := [] }

/-- 'laws.FnExactUniformFrom': WHATEVER THE INPUT: true; the input reads as it did. -/
def fnExactUniformFromSpec : ChangeSpec := { name := "fnExactUniformFrom", fn := fun _ => fun
  | [d1, d2, d3] => { results := [.lit (.bool true)], args := [d1, d2, d3] }
  | _ => none }
def fnExactUniformFromRow : OpenClaim := { program := "ytnlgciomdghfiaa", sum := "5062f250f330caf129812de11b62af16e8ea73eb6690645b0de6a1780dcbbfb5", func := "loop.example/g00133/laws.FnExactUniformFrom", spec := "fnExactUniformFrom", unfollowed := true, recurses := true, apart := false }
def FnExactUniformFromSaid : Prop := fnExactUniformFromRow.holds Try.pinned (OpenSpec.ofChange fnExactUniformFromSpec)

/-- ITS FALSE NEIGHBOUR: 'it returns false'. Refute it at one input. -/
def fnExactUniformFromWrong : ChangeSpec := { name := "fnExactUniformFrom", fn := fun _ => fun
  | [d1, d2, d3] => { results := [.lit (.bool false)], args := [d1, d2, d3] }
  | _ => none }
def FnExactUniformFromWrongFalsely : Prop := fnExactUniformFromRow.holds Try.pinned (OpenSpec.ofChange fnExactUniformFromWrong)

/-- 'laws.FnExactTernaryFrom': WHATEVER THE INPUT: true; the input reads as it did. -/
def fnExactTernaryFromSpec : ChangeSpec := { name := "fnExactTernaryFrom", fn := fun _ => fun
  | [d1, d2] => { results := [.lit (.bool true)], args := [d1, d2] }
  | _ => none }
def fnExactTernaryFromRow : OpenClaim := { program := "ytnlgciomdghfiaa", sum := "5062f250f330caf129812de11b62af16e8ea73eb6690645b0de6a1780dcbbfb5", func := "loop.example/g00133/laws.FnExactTernaryFrom", spec := "fnExactTernaryFrom", unfollowed := true, recurses := true, apart := false }
def FnExactTernaryFromSaid : Prop := fnExactTernaryFromRow.holds Try.pinned (OpenSpec.ofChange fnExactTernaryFromSpec)

/-- ITS FALSE NEIGHBOUR: 'it returns false'. Refute it at one input. -/
def fnExactTernaryFromWrong : ChangeSpec := { name := "fnExactTernaryFrom", fn := fun _ => fun
  | [d1, d2] => { results := [.lit (.bool false)], args := [d1, d2] }
  | _ => none }
def FnExactTernaryFromWrongFalsely : Prop := fnExactTernaryFromRow.holds Try.pinned (OpenSpec.ofChange fnExactTernaryFromWrong)

/-- 'laws.FnExactUniformRow': WHATEVER THE INPUT: true; the input reads as it did. -/
def fnExactUniformRowSpec : ChangeSpec := { name := "fnExactUniformRow", fn := fun _ => fun
  | [d1, d2, d3, d4] => { results := [.lit (.bool true)], args := [d1, d2, d3, d4] }
  | _ => none }
def fnExactUniformRowRow : OpenClaim := { program := "ytnlgciomdghfiaa", sum := "5062f250f330caf129812de11b62af16e8ea73eb6690645b0de6a1780dcbbfb5", func := "loop.example/g00133/laws.FnExactUniformRow", spec := "fnExactUniformRow", unfollowed := true, recurses := true, apart := false }
def FnExactUniformRowSaid : Prop := fnExactUniformRowRow.holds Try.pinned (OpenSpec.ofChange fnExactUniformRowSpec)

/-- ITS FALSE NEIGHBOUR: 'it returns false'. Refute it at one input. -/
def fnExactUniformRowWrong : ChangeSpec := { name := "fnExactUniformRow", fn := fun _ => fun
  | [d1, d2, d3, d4] => { results := [.lit (.bool false)], args := [d1, d2, d3, d4] }
  | _ => none }
def FnExactUniformRowWrongFalsely : Prop := fnExactUniformRowRow.holds Try.pinned (OpenSpec.ofChange fnExactUniformRowWrong)

/-- 'laws.FnExactNoiseFrom': WHATEVER THE INPUT: true; the input reads as it did. -/
def fnExactNoiseFromSpec : ChangeSpec := { name := "fnExactNoiseFrom", fn := fun _ => fun
  | [d1, d2, d3] => { results := [.lit (.bool true)], args := [d1, d2, d3] }
  | _ => none }
def fnExactNoiseFromRow : OpenClaim := { program := "ytnlgciomdghfiaa", sum := "5062f250f330caf129812de11b62af16e8ea73eb6690645b0de6a1780dcbbfb5", func := "loop.example/g00133/laws.FnExactNoiseFrom", spec := "fnExactNoiseFrom", unfollowed := true, recurses := true, apart := false }
def FnExactNoiseFromSaid : Prop := fnExactNoiseFromRow.holds Try.pinned (OpenSpec.ofChange fnExactNoiseFromSpec)

/-- ITS FALSE NEIGHBOUR: 'it returns false'. Refute it at one input. -/
def fnExactNoiseFromWrong : ChangeSpec := { name := "fnExactNoiseFrom", fn := fun _ => fun
  | [d1, d2, d3] => { results := [.lit (.bool false)], args := [d1, d2, d3] }
  | _ => none }
def FnExactNoiseFromWrongFalsely : Prop := fnExactNoiseFromRow.holds Try.pinned (OpenSpec.ofChange fnExactNoiseFromWrong)

/-- 'laws.FnExactTernaryRow': WHATEVER THE INPUT: true; the input reads as it did. -/
def fnExactTernaryRowSpec : ChangeSpec := { name := "fnExactTernaryRow", fn := fun _ => fun
  | [d1, d2, d3] => { results := [.lit (.bool true)], args := [d1, d2, d3] }
  | _ => none }
def fnExactTernaryRowRow : OpenClaim := { program := "ytnlgciomdghfiaa", sum := "5062f250f330caf129812de11b62af16e8ea73eb6690645b0de6a1780dcbbfb5", func := "loop.example/g00133/laws.FnExactTernaryRow", spec := "fnExactTernaryRow", unfollowed := true, recurses := true, apart := false }
def FnExactTernaryRowSaid : Prop := fnExactTernaryRowRow.holds Try.pinned (OpenSpec.ofChange fnExactTernaryRowSpec)

/-- ITS FALSE NEIGHBOUR: 'it returns false'. Refute it at one input. -/
def fnExactTernaryRowWrong : ChangeSpec := { name := "fnExactTernaryRow", fn := fun _ => fun
  | [d1, d2, d3] => { results := [.lit (.bool false)], args := [d1, d2, d3] }
  | _ => none }
def FnExactTernaryRowWrongFalsely : Prop := fnExactTernaryRowRow.holds Try.pinned (OpenSpec.ofChange fnExactTernaryRowWrong)

/-- 'laws.FnExactNoiseRow': WHATEVER THE INPUT: true; the input reads as it did. -/
def fnExactNoiseRowSpec : ChangeSpec := { name := "fnExactNoiseRow", fn := fun _ => fun
  | [d1, d2, d3, d4] => { results := [.lit (.bool true)], args := [d1, d2, d3, d4] }
  | _ => none }
def fnExactNoiseRowRow : OpenClaim := { program := "ytnlgciomdghfiaa", sum := "5062f250f330caf129812de11b62af16e8ea73eb6690645b0de6a1780dcbbfb5", func := "loop.example/g00133/laws.FnExactNoiseRow", spec := "fnExactNoiseRow", unfollowed := true, recurses := true, apart := false }
def FnExactNoiseRowSaid : Prop := fnExactNoiseRowRow.holds Try.pinned (OpenSpec.ofChange fnExactNoiseRowSpec)

/-- ITS FALSE NEIGHBOUR: 'it returns false'. Refute it at one input. -/
def fnExactNoiseRowWrong : ChangeSpec := { name := "fnExactNoiseRow", fn := fun _ => fun
  | [d1, d2, d3, d4] => { results := [.lit (.bool false)], args := [d1, d2, d3, d4] }
  | _ => none }
def FnExactNoiseRowWrongFalsely : Prop := fnExactNoiseRowRow.holds Try.pinned (OpenSpec.ofChange fnExactNoiseRowWrong)

/-- 'laws.FnExactMulWholes': WHATEVER THE INPUT: true; the input reads as it did. -/
def fnExactMulWholesSpec : ChangeSpec := { name := "fnExactMulWholes", fn := fun _ => fun
  | [d1, d2] => { results := [.lit (.bool true)], args := [d1, d2] }
  | _ => none }
def fnExactMulWholesRow : OpenClaim := { program := "ytnlgciomdghfiaa", sum := "5062f250f330caf129812de11b62af16e8ea73eb6690645b0de6a1780dcbbfb5", func := "loop.example/g00133/laws.FnExactMulWholes", spec := "fnExactMulWholes", unfollowed := true, recurses := true, apart := false }
def FnExactMulWholesSaid : Prop := fnExactMulWholesRow.holds Try.pinned (OpenSpec.ofChange fnExactMulWholesSpec)

/-- ITS FALSE NEIGHBOUR: 'it returns false'. Refute it at one input. -/
def fnExactMulWholesWrong : ChangeSpec := { name := "fnExactMulWholes", fn := fun _ => fun
  | [d1, d2] => { results := [.lit (.bool false)], args := [d1, d2] }
  | _ => none }
def FnExactMulWholesWrongFalsely : Prop := fnExactMulWholesRow.holds Try.pinned (OpenSpec.ofChange fnExactMulWholesWrong)

/-- 'laws.FnDrawn': WHATEVER THE INPUT: true; the input reads as it did. -/
def fnDrawnSpec : ChangeSpec := { name := "fnDrawn", fn := fun _ => fun
  | [d] => { results := [.lit (.bool true)], args := [d] }
  | _ => none }
def fnDrawnRow : OpenClaim := { program := "ytnlgciomdghfiaa", sum := "5062f250f330caf129812de11b62af16e8ea73eb6690645b0de6a1780dcbbfb5", func := "loop.example/g00133/laws.FnDrawn", spec := "fnDrawn", unfollowed := true, recurses := true, apart := false }
def FnDrawnSaid : Prop := fnDrawnRow.holds Try.pinned (OpenSpec.ofChange fnDrawnSpec)

/-- ITS FALSE NEIGHBOUR: 'it returns false'. Refute it at one input. -/
def fnDrawnWrong : ChangeSpec := { name := "fnDrawn", fn := fun _ => fun
  | [d] => { results := [.lit (.bool false)], args := [d] }
  | _ => none }
def FnDrawnWrongFalsely : Prop := fnDrawnRow.holds Try.pinned (OpenSpec.ofChange fnDrawnWrong)

/-- 'laws.FnExactAddWholes': WHATEVER THE INPUT: true; the input reads as it did. -/
def fnExactAddWholesSpec : ChangeSpec := { name := "fnExactAddWholes", fn := fun _ => fun
  | [d1, d2] => { results := [.lit (.bool true)], args := [d1, d2] }
  | _ => none }
def fnExactAddWholesRow : OpenClaim := { program := "ytnlgciomdghfiaa", sum := "5062f250f330caf129812de11b62af16e8ea73eb6690645b0de6a1780dcbbfb5", func := "loop.example/g00133/laws.FnExactAddWholes", spec := "fnExactAddWholes", unfollowed := true, recurses := true, apart := false }
def FnExactAddWholesSaid : Prop := fnExactAddWholesRow.holds Try.pinned (OpenSpec.ofChange fnExactAddWholesSpec)

/-- ITS FALSE NEIGHBOUR: 'it returns false'. Refute it at one input. -/
def fnExactAddWholesWrong : ChangeSpec := { name := "fnExactAddWholes", fn := fun _ => fun
  | [d1, d2] => { results := [.lit (.bool false)], args := [d1, d2] }
  | _ => none }
def FnExactAddWholesWrongFalsely : Prop := fnExactAddWholesRow.holds Try.pinned (OpenSpec.ofChange fnExactAddWholesWrong)

/-- 'laws.FnWords': WHATEVER THE INPUT: true; the input reads as it did. -/
def fnWordsSpec : ChangeSpec := { name := "fnWords", fn := fun _ => fun
  | [d1, d2] => { results := [.lit (.bool true)], args := [d1, d2] }
  | _ => none }
def fnWordsRow : OpenClaim := { program := "ytnlgciomdghfiaa", sum := "5062f250f330caf129812de11b62af16e8ea73eb6690645b0de6a1780dcbbfb5", func := "loop.example/g00133/laws.FnWords", spec := "fnWords", named := ["math/bits.divideError", "math/bits.overflowError"], apart := false }
def FnWordsSaid : Prop := fnWordsRow.holds Try.pinned (OpenSpec.ofChange fnWordsSpec)

/-- ITS FALSE NEIGHBOUR: 'it returns false'. Refute it at one input. -/
def fnWordsWrong : ChangeSpec := { name := "fnWords", fn := fun _ => fun
  | [d1, d2] => { results := [.lit (.bool false)], args := [d1, d2] }
  | _ => none }
def FnWordsWrongFalsely : Prop := fnWordsRow.holds Try.pinned (OpenSpec.ofChange fnWordsWrong)

/-- 'laws.FnExactDivWholes': WHATEVER THE INPUT: true; the input reads as it did. -/
def fnExactDivWholesSpec : ChangeSpec := { name := "fnExactDivWholes", fn := fun _ => fun
  | [d1, d2] => { results := [.lit (.bool true)], args := [d1, d2] }
  | _ => none }
def fnExactDivWholesRow : OpenClaim := { program := "ytnlgciomdghfiaa", sum := "5062f250f330caf129812de11b62af16e8ea73eb6690645b0de6a1780dcbbfb5", func := "loop.example/g00133/laws.FnExactDivWholes", spec := "fnExactDivWholes", unfollowed := true, recurses := true, apart := false }
def FnExactDivWholesSaid : Prop := fnExactDivWholesRow.holds Try.pinned (OpenSpec.ofChange fnExactDivWholesSpec)

/-- ITS FALSE NEIGHBOUR: 'it returns false'. Refute it at one input. -/
def fnExactDivWholesWrong : ChangeSpec := { name := "fnExactDivWholes", fn := fun _ => fun
  | [d1, d2] => { results := [.lit (.bool false)], args := [d1, d2] }
  | _ => none }
def FnExactDivWholesWrongFalsely : Prop := fnExactDivWholesRow.holds Try.pinned (OpenSpec.ofChange fnExactDivWholesWrong)

/-- 'laws.FnExactRoundWholes': WHATEVER THE INPUT: true; the input reads as it did. -/
def fnExactRoundWholesSpec : ChangeSpec := { name := "fnExactRoundWholes", fn := fun _ => fun
  | [d1, d2] => { results := [.lit (.bool true)], args := [d1, d2] }
  | _ => none }
def fnExactRoundWholesRow : OpenClaim := { program := "ytnlgciomdghfiaa", sum := "5062f250f330caf129812de11b62af16e8ea73eb6690645b0de6a1780dcbbfb5", func := "loop.example/g00133/laws.FnExactRoundWholes", spec := "fnExactRoundWholes", unfollowed := true, recurses := true, apart := false }
def FnExactRoundWholesSaid : Prop := fnExactRoundWholesRow.holds Try.pinned (OpenSpec.ofChange fnExactRoundWholesSpec)

/-- ITS FALSE NEIGHBOUR: 'it returns false'. Refute it at one input. -/
def fnExactRoundWholesWrong : ChangeSpec := { name := "fnExactRoundWholes", fn := fun _ => fun
  | [d1, d2] => { results := [.lit (.bool false)], args := [d1, d2] }
  | _ => none }
def FnExactRoundWholesWrongFalsely : Prop := fnExactRoundWholesRow.holds Try.pinned (OpenSpec.ofChange fnExactRoundWholesWrong)

/- THE SECOND FORM. 'bulk': how many values and letters a reading holds, each counted each time it is reached (what is shared counts as often as it is met; a slice's spare places count too). A statement '..UptoSaid' is the law's where the arguments, and the package variables that the reading takes, are together of bulk at most 1048576: NARROWER than '..Said'. Prove '..Said' where nothing that the law and all that it calls make is longer than what came in: it says more and counts as full. Else prove '..UptoSaid'. A law counts once. -/
mutual
def uptoBulk {H : Type} : DataW H → Nat
  | .lit (.string bytes) => bytes.length + 1
  | .lit _ => 1
  | .nil => 1
  | .ptr d => uptoBulk d + 1
  | .slice elems spare => uptoBulkAll elems + uptoBulkAll spare + 1
  | .agg parts => uptoBulkAll parts + 1
  | .iface _ d => uptoBulk d + 1
  | .map entries => uptoBulkEntries entries + 1
  | .held _ => 1
def uptoBulkAll {H : Type} : List (DataW H) → Nat
  | [] => 0
  | d :: r => uptoBulk d + uptoBulkAll r
def uptoBulkEntries {H : Type} : List (Lit × DataW H) → Nat
  | [] => 0
  | x :: r => uptoBulkEntry x + uptoBulkEntries r
def uptoBulkEntry {H : Type} : Lit × DataW H → Nat
  | (.string bytes, d) => bytes.length + uptoBulk d + 1
  | (_, d) => uptoBulk d + 1
 end
def uptoSmall : (H : Type) → List (DataW H) → Bool := fun _ ds => decide (uptoBulkAll ds ≤ 1048576)
def OpenSpec.upto (s : _root_.Go.ChangeSpec) : _root_.Go.OpenSpec := { _root_.Go.OpenSpec.ofChange s with cond := some uptoSmall }

/-- 'laws.FnExactUniformFrom', WHERE WHAT IT READS IS OF BULK AT MOST 1048576: true; the input reads as it did. -/
def fnExactUniformFromUptoRow : OpenClaim := { program := "ytnlgciomdghfiaa", sum := "5062f250f330caf129812de11b62af16e8ea73eb6690645b0de6a1780dcbbfb5", func := "loop.example/g00133/laws.FnExactUniformFrom", spec := "fnExactUniformFrom", unfollowed := true, recurses := true, apart := false, narrowed := true }
def FnExactUniformFromUptoSaid : Prop := fnExactUniformFromUptoRow.holds Try.pinned (OpenSpec.upto fnExactUniformFromSpec)

/-- 'laws.FnExactTernaryFrom', WHERE WHAT IT READS IS OF BULK AT MOST 1048576: true; the input reads as it did. -/
def fnExactTernaryFromUptoRow : OpenClaim := { program := "ytnlgciomdghfiaa", sum := "5062f250f330caf129812de11b62af16e8ea73eb6690645b0de6a1780dcbbfb5", func := "loop.example/g00133/laws.FnExactTernaryFrom", spec := "fnExactTernaryFrom", unfollowed := true, recurses := true, apart := false, narrowed := true }
def FnExactTernaryFromUptoSaid : Prop := fnExactTernaryFromUptoRow.holds Try.pinned (OpenSpec.upto fnExactTernaryFromSpec)

/-- 'laws.FnExactUniformRow', WHERE WHAT IT READS IS OF BULK AT MOST 1048576: true; the input reads as it did. -/
def fnExactUniformRowUptoRow : OpenClaim := { program := "ytnlgciomdghfiaa", sum := "5062f250f330caf129812de11b62af16e8ea73eb6690645b0de6a1780dcbbfb5", func := "loop.example/g00133/laws.FnExactUniformRow", spec := "fnExactUniformRow", unfollowed := true, recurses := true, apart := false, narrowed := true }
def FnExactUniformRowUptoSaid : Prop := fnExactUniformRowUptoRow.holds Try.pinned (OpenSpec.upto fnExactUniformRowSpec)

/-- 'laws.FnExactNoiseFrom', WHERE WHAT IT READS IS OF BULK AT MOST 1048576: true; the input reads as it did. -/
def fnExactNoiseFromUptoRow : OpenClaim := { program := "ytnlgciomdghfiaa", sum := "5062f250f330caf129812de11b62af16e8ea73eb6690645b0de6a1780dcbbfb5", func := "loop.example/g00133/laws.FnExactNoiseFrom", spec := "fnExactNoiseFrom", unfollowed := true, recurses := true, apart := false, narrowed := true }
def FnExactNoiseFromUptoSaid : Prop := fnExactNoiseFromUptoRow.holds Try.pinned (OpenSpec.upto fnExactNoiseFromSpec)

/-- 'laws.FnExactTernaryRow', WHERE WHAT IT READS IS OF BULK AT MOST 1048576: true; the input reads as it did. -/
def fnExactTernaryRowUptoRow : OpenClaim := { program := "ytnlgciomdghfiaa", sum := "5062f250f330caf129812de11b62af16e8ea73eb6690645b0de6a1780dcbbfb5", func := "loop.example/g00133/laws.FnExactTernaryRow", spec := "fnExactTernaryRow", unfollowed := true, recurses := true, apart := false, narrowed := true }
def FnExactTernaryRowUptoSaid : Prop := fnExactTernaryRowUptoRow.holds Try.pinned (OpenSpec.upto fnExactTernaryRowSpec)

/-- 'laws.FnExactNoiseRow', WHERE WHAT IT READS IS OF BULK AT MOST 1048576: true; the input reads as it did. -/
def fnExactNoiseRowUptoRow : OpenClaim := { program := "ytnlgciomdghfiaa", sum := "5062f250f330caf129812de11b62af16e8ea73eb6690645b0de6a1780dcbbfb5", func := "loop.example/g00133/laws.FnExactNoiseRow", spec := "fnExactNoiseRow", unfollowed := true, recurses := true, apart := false, narrowed := true }
def FnExactNoiseRowUptoSaid : Prop := fnExactNoiseRowUptoRow.holds Try.pinned (OpenSpec.upto fnExactNoiseRowSpec)

/-- 'laws.FnExactMulWholes', WHERE WHAT IT READS IS OF BULK AT MOST 1048576: true; the input reads as it did. -/
def fnExactMulWholesUptoRow : OpenClaim := { program := "ytnlgciomdghfiaa", sum := "5062f250f330caf129812de11b62af16e8ea73eb6690645b0de6a1780dcbbfb5", func := "loop.example/g00133/laws.FnExactMulWholes", spec := "fnExactMulWholes", unfollowed := true, recurses := true, apart := false, narrowed := true }
def FnExactMulWholesUptoSaid : Prop := fnExactMulWholesUptoRow.holds Try.pinned (OpenSpec.upto fnExactMulWholesSpec)

/-- 'laws.FnDrawn', WHERE WHAT IT READS IS OF BULK AT MOST 1048576: true; the input reads as it did. -/
def fnDrawnUptoRow : OpenClaim := { program := "ytnlgciomdghfiaa", sum := "5062f250f330caf129812de11b62af16e8ea73eb6690645b0de6a1780dcbbfb5", func := "loop.example/g00133/laws.FnDrawn", spec := "fnDrawn", unfollowed := true, recurses := true, apart := false, narrowed := true }
def FnDrawnUptoSaid : Prop := fnDrawnUptoRow.holds Try.pinned (OpenSpec.upto fnDrawnSpec)

/-- 'laws.FnExactAddWholes', WHERE WHAT IT READS IS OF BULK AT MOST 1048576: true; the input reads as it did. -/
def fnExactAddWholesUptoRow : OpenClaim := { program := "ytnlgciomdghfiaa", sum := "5062f250f330caf129812de11b62af16e8ea73eb6690645b0de6a1780dcbbfb5", func := "loop.example/g00133/laws.FnExactAddWholes", spec := "fnExactAddWholes", unfollowed := true, recurses := true, apart := false, narrowed := true }
def FnExactAddWholesUptoSaid : Prop := fnExactAddWholesUptoRow.holds Try.pinned (OpenSpec.upto fnExactAddWholesSpec)

/-- 'laws.FnWords', WHERE WHAT IT READS IS OF BULK AT MOST 1048576: true; the input reads as it did. -/
def fnWordsUptoRow : OpenClaim := { program := "ytnlgciomdghfiaa", sum := "5062f250f330caf129812de11b62af16e8ea73eb6690645b0de6a1780dcbbfb5", func := "loop.example/g00133/laws.FnWords", spec := "fnWords", named := ["math/bits.divideError", "math/bits.overflowError"], apart := false, narrowed := true }
def FnWordsUptoSaid : Prop := fnWordsUptoRow.holds Try.pinned (OpenSpec.upto fnWordsSpec)

/-- 'laws.FnExactDivWholes', WHERE WHAT IT READS IS OF BULK AT MOST 1048576: true; the input reads as it did. -/
def fnExactDivWholesUptoRow : OpenClaim := { program := "ytnlgciomdghfiaa", sum := "5062f250f330caf129812de11b62af16e8ea73eb6690645b0de6a1780dcbbfb5", func := "loop.example/g00133/laws.FnExactDivWholes", spec := "fnExactDivWholes", unfollowed := true, recurses := true, apart := false, narrowed := true }
def FnExactDivWholesUptoSaid : Prop := fnExactDivWholesUptoRow.holds Try.pinned (OpenSpec.upto fnExactDivWholesSpec)

/-- 'laws.FnExactRoundWholes', WHERE WHAT IT READS IS OF BULK AT MOST 1048576: true; the input reads as it did. -/
def fnExactRoundWholesUptoRow : OpenClaim := { program := "ytnlgciomdghfiaa", sum := "5062f250f330caf129812de11b62af16e8ea73eb6690645b0de6a1780dcbbfb5", func := "loop.example/g00133/laws.FnExactRoundWholes", spec := "fnExactRoundWholes", unfollowed := true, recurses := true, apart := false, narrowed := true }
def FnExactRoundWholesUptoSaid : Prop := fnExactRoundWholesUptoRow.holds Try.pinned (OpenSpec.upto fnExactRoundWholesSpec)

end Rows
end Go.Proofs.Ytnlgciomdghfiaa
