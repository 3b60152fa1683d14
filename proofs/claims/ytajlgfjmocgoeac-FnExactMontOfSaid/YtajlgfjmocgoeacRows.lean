/-
  No cell of these rows narrows 'for every input' (looked for: loops, veiled, ifaces, maps, wideKeys, modest, calm, conditions, laid).
  DERIVED. THE GIVEN ROWS OF THIS SEAT. 5 by the template 'for every input the law returns true; each argument reads behind the call as it read before'; 0 by the template 'total and deterministic' (their statements: YtajlgfjmocgoeacTotals.lean).
  GIVEN WITH THE SEED: the statements are not yours to turn. If you find one false, say at which input.
  Laid BY PROGRAM, IN A SANDBOX (cutbox-rows.mjs): the forced cells as the released guide's own fill.sh prints them over the translation 0a359a69429d8588… (all of the seat's roots in one cut). By AI agents, Wed Nov 11 2026. No macro, syntax, notation, axiom, sorry.
-/
import Derived.Test.YtajlgfjmocgoeacChecked
import GoSem.Claim
import GoSem.ClaimJoined
import GoSem.ClaimMapViews
import Derived.JoinedTies
import Derived.KernelRfl
namespace Go.Proofs.Ytajlgfjmocgoeac
/- THE CELL 'sum', in the pinned program and in every row, IS THE sha256 OF THE DUMP (.gsa) THAT YtajlgfjmocgoeacProg.lean LOADS. Nothing in Lean hashes anything: it is a label: what it is worth is what the hold of that sum in a sandbox is worth. -/
noncomputable def Try.pinned : Pinned := { name := "ytajlgfjmocgoeac", sum := "0a359a69429d858884e448f4d4c6a267e11338d20c97046d570ce468468d5f80", checked := Try.checked }
namespace Rows
def none {H : Type} : Left H := { results := [], args := [] }

/-- 'laws.FnExactTernaryRow': WHATEVER THE INPUT: true; the input reads as it did. -/
def fnExactTernaryRowSpec : ChangeSpec := { name := "fnExactTernaryRow", fn := fun _ => fun
  | [d1, d2, d3] => { results := [.lit (.bool true)], args := [d1, d2, d3] }
  | _ => none }
def fnExactTernaryRowRow : OpenClaim := { program := "ytajlgfjmocgoeac", sum := "0a359a69429d858884e448f4d4c6a267e11338d20c97046d570ce468468d5f80", func := "loop.example/g00133/laws.FnExactTernaryRow", spec := "fnExactTernaryRow", unfollowed := true, recurses := true, apart := false }
def FnExactTernaryRowSaid : Prop := fnExactTernaryRowRow.holds Try.pinned (OpenSpec.ofChange fnExactTernaryRowSpec)

/-- ITS FALSE NEIGHBOUR: 'it returns false'. Refute it at one input. -/
def fnExactTernaryRowWrong : ChangeSpec := { name := "fnExactTernaryRow", fn := fun _ => fun
  | [d1, d2, d3] => { results := [.lit (.bool false)], args := [d1, d2, d3] }
  | _ => none }
def FnExactTernaryRowWrongFalsely : Prop := fnExactTernaryRowRow.holds Try.pinned (OpenSpec.ofChange fnExactTernaryRowWrong)

/-- 'laws.FnExactCmpWholes': WHATEVER THE INPUT: true; the input reads as it did. -/
def fnExactCmpWholesSpec : ChangeSpec := { name := "fnExactCmpWholes", fn := fun _ => fun
  | [d1, d2] => { results := [.lit (.bool true)], args := [d1, d2] }
  | _ => none }
def fnExactCmpWholesRow : OpenClaim := { program := "ytajlgfjmocgoeac", sum := "0a359a69429d858884e448f4d4c6a267e11338d20c97046d570ce468468d5f80", func := "loop.example/g00133/laws.FnExactCmpWholes", spec := "fnExactCmpWholes", unfollowed := true, recurses := true, apart := false }
def FnExactCmpWholesSaid : Prop := fnExactCmpWholesRow.holds Try.pinned (OpenSpec.ofChange fnExactCmpWholesSpec)

/-- ITS FALSE NEIGHBOUR: 'it returns false'. Refute it at one input. -/
def fnExactCmpWholesWrong : ChangeSpec := { name := "fnExactCmpWholes", fn := fun _ => fun
  | [d1, d2] => { results := [.lit (.bool false)], args := [d1, d2] }
  | _ => none }
def FnExactCmpWholesWrongFalsely : Prop := fnExactCmpWholesRow.holds Try.pinned (OpenSpec.ofChange fnExactCmpWholesWrong)

/-- 'laws.FnExactMontOf': WHATEVER THE INPUT: true; the input reads as it did. -/
def fnExactMontOfSpec : ChangeSpec := { name := "fnExactMontOf", fn := fun _ => fun
  | [d] => { results := [.lit (.bool true)], args := [d] }
  | _ => none }
def fnExactMontOfRow : OpenClaim := { program := "ytajlgfjmocgoeac", sum := "0a359a69429d858884e448f4d4c6a267e11338d20c97046d570ce468468d5f80", func := "loop.example/g00133/laws.FnExactMontOf", spec := "fnExactMontOf", named := ["math/bits.divideError", "math/bits.overflowError"], apart := false }
def FnExactMontOfSaid : Prop := fnExactMontOfRow.holds Try.pinned (OpenSpec.ofChange fnExactMontOfSpec)

/-- ITS FALSE NEIGHBOUR: 'it returns false'. Refute it at one input. -/
def fnExactMontOfWrong : ChangeSpec := { name := "fnExactMontOf", fn := fun _ => fun
  | [d] => { results := [.lit (.bool false)], args := [d] }
  | _ => none }
def FnExactMontOfWrongFalsely : Prop := fnExactMontOfRow.holds Try.pinned (OpenSpec.ofChange fnExactMontOfWrong)

/-- 'laws.FnExactNoiseRow': WHATEVER THE INPUT: true; the input reads as it did. -/
def fnExactNoiseRowSpec : ChangeSpec := { name := "fnExactNoiseRow", fn := fun _ => fun
  | [d1, d2, d3, d4] => { results := [.lit (.bool true)], args := [d1, d2, d3, d4] }
  | _ => none }
def fnExactNoiseRowRow : OpenClaim := { program := "ytajlgfjmocgoeac", sum := "0a359a69429d858884e448f4d4c6a267e11338d20c97046d570ce468468d5f80", func := "loop.example/g00133/laws.FnExactNoiseRow", spec := "fnExactNoiseRow", unfollowed := true, recurses := true, apart := false }
def FnExactNoiseRowSaid : Prop := fnExactNoiseRowRow.holds Try.pinned (OpenSpec.ofChange fnExactNoiseRowSpec)

/-- ITS FALSE NEIGHBOUR: 'it returns false'. Refute it at one input. -/
def fnExactNoiseRowWrong : ChangeSpec := { name := "fnExactNoiseRow", fn := fun _ => fun
  | [d1, d2, d3, d4] => { results := [.lit (.bool false)], args := [d1, d2, d3, d4] }
  | _ => none }
def FnExactNoiseRowWrongFalsely : Prop := fnExactNoiseRowRow.holds Try.pinned (OpenSpec.ofChange fnExactNoiseRowWrong)

/-- 'laws.FnExactMulWholes': WHATEVER THE INPUT: true; the input reads as it did. -/
def fnExactMulWholesSpec : ChangeSpec := { name := "fnExactMulWholes", fn := fun _ => fun
  | [d1, d2] => { results := [.lit (.bool true)], args := [d1, d2] }
  | _ => none }
def fnExactMulWholesRow : OpenClaim := { program := "ytajlgfjmocgoeac", sum := "0a359a69429d858884e448f4d4c6a267e11338d20c97046d570ce468468d5f80", func := "loop.example/g00133/laws.FnExactMulWholes", spec := "fnExactMulWholes", unfollowed := true, recurses := true, apart := false }
def FnExactMulWholesSaid : Prop := fnExactMulWholesRow.holds Try.pinned (OpenSpec.ofChange fnExactMulWholesSpec)

/-- ITS FALSE NEIGHBOUR: 'it returns false'. Refute it at one input. -/
def fnExactMulWholesWrong : ChangeSpec := { name := "fnExactMulWholes", fn := fun _ => fun
  | [d1, d2] => { results := [.lit (.bool false)], args := [d1, d2] }
  | _ => none }
def FnExactMulWholesWrongFalsely : Prop := fnExactMulWholesRow.holds Try.pinned (OpenSpec.ofChange fnExactMulWholesWrong)

/- THE SECOND FORM. 'bulk': how many values and letters a reading holds, each counted each time it is reached (what is shared counts as often as it is met; a slice's spare places count too). A statement '..UptoSaid' is the law's where the arguments, and the package variables that the reading takes, are together of bulk at most 1048576: NARROWER than '..Said'. Prove '..Said' where nothing that the law and all that it calls make is longer than what came in: it says more and counts as full. Else prove '..UptoSaid'. A law counts once. -/
mutual
def uptoBulk {H : Type} : DataW H → Nat
  | .lit (.string bytes) => bytes.length + 1
  | .lit _ => 1
  | .nil => 1
  | .ptr d => uptoBulk d + 1
  | .slice elems spare => uptoBulkAll elems + uptoBulkAll spare + 1
  | .agg parts => uptoBulkAll parts + 1
  | .iface _ d => uptoBulk d + 1
  | .map entries => uptoBulkEntries entries + 1
  | .held _ => 1
def uptoBulkAll {H : Type} : List (DataW H) → Nat
  | [] => 0
  | d :: r => uptoBulk d + uptoBulkAll r
def uptoBulkEntries {H : Type} : List (Lit × DataW H) → Nat
  | [] => 0
  | x :: r => uptoBulkEntry x + uptoBulkEntries r
def uptoBulkEntry {H : Type} : Lit × DataW H → Nat
  | (.string bytes, d) => bytes.length + uptoBulk d + 1
  | (_, d) => uptoBulk d + 1
 end
def uptoSmall : (H : Type) → List (DataW H) → Bool := fun _ ds => decide (uptoBulkAll ds ≤ 1048576)
def OpenSpec.upto (s : _root_.Go.ChangeSpec) : _root_.Go.OpenSpec := { _root_.Go.OpenSpec.ofChange s with cond := some uptoSmall }

/-- 'laws.FnExactTernaryRow', WHERE WHAT IT READS IS OF BULK AT MOST 1048576: true; the input reads as it did. -/
def fnExactTernaryRowUptoRow : OpenClaim := { program := "ytajlgfjmocgoeac", sum := "0a359a69429d858884e448f4d4c6a267e11338d20c97046d570ce468468d5f80", func := "loop.example/g00133/laws.FnExactTernaryRow", spec := "fnExactTernaryRow", unfollowed := true, recurses := true, apart := false, narrowed := true }
def FnExactTernaryRowUptoSaid : Prop := fnExactTernaryRowUptoRow.holds Try.pinned (OpenSpec.upto fnExactTernaryRowSpec)

/-- 'laws.FnExactCmpWholes', WHERE WHAT IT READS IS OF BULK AT MOST 1048576: true; the input reads as it did. -/
def fnExactCmpWholesUptoRow : OpenClaim := { program := "ytajlgfjmocgoeac", sum := "0a359a69429d858884e448f4d4c6a267e11338d20c97046d570ce468468d5f80", func := "loop.example/g00133/laws.FnExactCmpWholes", spec := "fnExactCmpWholes", unfollowed := true, recurses := true, apart := false, narrowed := true }
def FnExactCmpWholesUptoSaid : Prop := fnExactCmpWholesUptoRow.holds Try.pinned (OpenSpec.upto fnExactCmpWholesSpec)

/-- 'laws.FnExactMontOf', WHERE WHAT IT READS IS OF BULK AT MOST 1048576: true; the input reads as it did. -/
def fnExactMontOfUptoRow : OpenClaim := { program := "ytajlgfjmocgoeac", sum := "0a359a69429d858884e448f4d4c6a267e11338d20c97046d570ce468468d5f80", func := "loop.example/g00133/laws.FnExactMontOf", spec := "fnExactMontOf", named := ["math/bits.divideError", "math/bits.overflowError"], apart := false, narrowed := true }
def FnExactMontOfUptoSaid : Prop := fnExactMontOfUptoRow.holds Try.pinned (OpenSpec.upto fnExactMontOfSpec)

/-- 'laws.FnExactNoiseRow', WHERE WHAT IT READS IS OF BULK AT MOST 1048576: true; the input reads as it did. -/
def fnExactNoiseRowUptoRow : OpenClaim := { program := "ytajlgfjmocgoeac", sum := "0a359a69429d858884e448f4d4c6a267e11338d20c97046d570ce468468d5f80", func := "loop.example/g00133/laws.FnExactNoiseRow", spec := "fnExactNoiseRow", unfollowed := true, recurses := true, apart := false, narrowed := true }
def FnExactNoiseRowUptoSaid : Prop := fnExactNoiseRowUptoRow.holds Try.pinned (OpenSpec.upto fnExactNoiseRowSpec)

/-- 'laws.FnExactMulWholes', WHERE WHAT IT READS IS OF BULK AT MOST 1048576: true; the input reads as it did. -/
def fnExactMulWholesUptoRow : OpenClaim := { program := "ytajlgfjmocgoeac", sum := "0a359a69429d858884e448f4d4c6a267e11338d20c97046d570ce468468d5f80", func := "loop.example/g00133/laws.FnExactMulWholes", spec := "fnExactMulWholes", unfollowed := true, recurses := true, apart := false, narrowed := true }
def FnExactMulWholesUptoSaid : Prop := fnExactMulWholesUptoRow.holds Try.pinned (OpenSpec.upto fnExactMulWholesSpec)

end Rows
end Go.Proofs.Ytajlgfjmocgoeac
