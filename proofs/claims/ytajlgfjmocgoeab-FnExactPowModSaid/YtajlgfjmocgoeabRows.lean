/-
  No cell of these rows narrows 'for every input' (looked for: loops, veiled, ifaces, maps, wideKeys, modest, calm, conditions, laid).
  DERIVED. THE GIVEN ROWS OF THIS SEAT. 5 by the template 'for every input the law returns true; each argument reads behind the call as it read before'; 0 by the template 'total and deterministic' (their statements: YtajlgfjmocgoeabTotals.lean).
  GIVEN WITH THE SEED: the statements are not yours to turn. If you find one false, say at which input.
  Laid BY PROGRAM, IN A SANDBOX (cutbox-rows.mjs): the forced cells as the released guide's own fill.sh prints them over the translation edd8266785090f57… (all of the seat's roots in one cut). By AI agents, Wed Nov 11 2026. No macro, syntax, notation, axiom, sorry.
-/
import Derived.Test.YtajlgfjmocgoeabChecked
import GoSem.Claim
import GoSem.ClaimJoined
import GoSem.ClaimMapViews
import Derived.JoinedTies
import Derived.KernelRfl
namespace Go.Proofs.Ytajlgfjmocgoeab
/- THE CELL 'sum', in the pinned program and in every row, IS THE sha256 OF THE DUMP (.gsa) THAT YtajlgfjmocgoeabProg.lean LOADS. Nothing in Lean hashes anything: it is a label: what it is worth is what the hold of that sum in a sandbox is worth. -/
noncomputable def Try.pinned : Pinned := { name := "ytajlgfjmocgoeab", sum := "edd8266785090f57836f2898823bfd83c5a9414835dbfec3e7f2f2900a639eb8", checked := Try.checked }
namespace Rows
def none {H : Type} : Left H := { results := [], args := [] }

/-- 'laws.FnExactTurnTable': WHATEVER THE INPUT: true; the input reads as it did. -/
def fnExactTurnTableSpec : ChangeSpec := { name := "fnExactTurnTable", fn := fun _ => fun
  | [d1, d2] => { results := [.lit (.bool true)], args := [d1, d2] }
  | _ => none }
def fnExactTurnTableRow : OpenClaim := { program := "ytajlgfjmocgoeab", sum := "edd8266785090f57836f2898823bfd83c5a9414835dbfec3e7f2f2900a639eb8", func := "loop.example/g00133/laws.FnExactTurnTable", spec := "fnExactTurnTable", apart := false }
def FnExactTurnTableSaid : Prop := fnExactTurnTableRow.holds Try.pinned (OpenSpec.ofChange fnExactTurnTableSpec)

/-- ITS FALSE NEIGHBOUR: 'it returns false'. Refute it at one input. -/
def fnExactTurnTableWrong : ChangeSpec := { name := "fnExactTurnTable", fn := fun _ => fun
  | [d1, d2] => { results := [.lit (.bool false)], args := [d1, d2] }
  | _ => none }
def FnExactTurnTableWrongFalsely : Prop := fnExactTurnTableRow.holds Try.pinned (OpenSpec.ofChange fnExactTurnTableWrong)

/-- 'laws.FnExactUniformRow': WHATEVER THE INPUT: true; the input reads as it did. -/
def fnExactUniformRowSpec : ChangeSpec := { name := "fnExactUniformRow", fn := fun _ => fun
  | [d1, d2, d3, d4] => { results := [.lit (.bool true)], args := [d1, d2, d3, d4] }
  | _ => none }
def fnExactUniformRowRow : OpenClaim := { program := "ytajlgfjmocgoeab", sum := "edd8266785090f57836f2898823bfd83c5a9414835dbfec3e7f2f2900a639eb8", func := "loop.example/g00133/laws.FnExactUniformRow", spec := "fnExactUniformRow", unfollowed := true, recurses := true, apart := false }
def FnExactUniformRowSaid : Prop := fnExactUniformRowRow.holds Try.pinned (OpenSpec.ofChange fnExactUniformRowSpec)

/-- ITS FALSE NEIGHBOUR: 'it returns false'. Refute it at one input. -/
def fnExactUniformRowWrong : ChangeSpec := { name := "fnExactUniformRow", fn := fun _ => fun
  | [d1, d2, d3, d4] => { results := [.lit (.bool false)], args := [d1, d2, d3, d4] }
  | _ => none }
def FnExactUniformRowWrongFalsely : Prop := fnExactUniformRowRow.holds Try.pinned (OpenSpec.ofChange fnExactUniformRowWrong)

/-- 'laws.FnExactBitsOf': WHATEVER THE INPUT: true; the input reads as it did. -/
def fnExactBitsOfSpec : ChangeSpec := { name := "fnExactBitsOf", fn := fun _ => fun
  | [d] => { results := [.lit (.bool true)], args := [d] }
  | _ => none }
def fnExactBitsOfRow : OpenClaim := { program := "ytajlgfjmocgoeab", sum := "edd8266785090f57836f2898823bfd83c5a9414835dbfec3e7f2f2900a639eb8", func := "loop.example/g00133/laws.FnExactBitsOf", spec := "fnExactBitsOf", unfollowed := true, recurses := true, apart := false }
def FnExactBitsOfSaid : Prop := fnExactBitsOfRow.holds Try.pinned (OpenSpec.ofChange fnExactBitsOfSpec)

/-- ITS FALSE NEIGHBOUR: 'it returns false'. Refute it at one input. -/
def fnExactBitsOfWrong : ChangeSpec := { name := "fnExactBitsOf", fn := fun _ => fun
  | [d] => { results := [.lit (.bool false)], args := [d] }
  | _ => none }
def FnExactBitsOfWrongFalsely : Prop := fnExactBitsOfRow.holds Try.pinned (OpenSpec.ofChange fnExactBitsOfWrong)

/-- 'laws.FnExactNoiseFrom': WHATEVER THE INPUT: true; the input reads as it did. -/
def fnExactNoiseFromSpec : ChangeSpec := { name := "fnExactNoiseFrom", fn := fun _ => fun
  | [d1, d2, d3] => { results := [.lit (.bool true)], args := [d1, d2, d3] }
  | _ => none }
def fnExactNoiseFromRow : OpenClaim := { program := "ytajlgfjmocgoeab", sum := "edd8266785090f57836f2898823bfd83c5a9414835dbfec3e7f2f2900a639eb8", func := "loop.example/g00133/laws.FnExactNoiseFrom", spec := "fnExactNoiseFrom", unfollowed := true, recurses := true, apart := false }
def FnExactNoiseFromSaid : Prop := fnExactNoiseFromRow.holds Try.pinned (OpenSpec.ofChange fnExactNoiseFromSpec)

/-- ITS FALSE NEIGHBOUR: 'it returns false'. Refute it at one input. -/
def fnExactNoiseFromWrong : ChangeSpec := { name := "fnExactNoiseFrom", fn := fun _ => fun
  | [d1, d2, d3] => { results := [.lit (.bool false)], args := [d1, d2, d3] }
  | _ => none }
def FnExactNoiseFromWrongFalsely : Prop := fnExactNoiseFromRow.holds Try.pinned (OpenSpec.ofChange fnExactNoiseFromWrong)

/-- 'laws.FnExactPowMod': WHATEVER THE INPUT: true; the input reads as it did. -/
def fnExactPowModSpec : ChangeSpec := { name := "fnExactPowMod", fn := fun _ => fun
  | [d1, d2, d3] => { results := [.lit (.bool true)], args := [d1, d2, d3] }
  | _ => none }
def fnExactPowModRow : OpenClaim := { program := "ytajlgfjmocgoeab", sum := "edd8266785090f57836f2898823bfd83c5a9414835dbfec3e7f2f2900a639eb8", func := "loop.example/g00133/laws.FnExactPowMod", spec := "fnExactPowMod", named := ["math/bits.divideError", "math/bits.overflowError"], apart := false }
def FnExactPowModSaid : Prop := fnExactPowModRow.holds Try.pinned (OpenSpec.ofChange fnExactPowModSpec)

/-- ITS FALSE NEIGHBOUR: 'it returns false'. Refute it at one input. -/
def fnExactPowModWrong : ChangeSpec := { name := "fnExactPowMod", fn := fun _ => fun
  | [d1, d2, d3] => { results := [.lit (.bool false)], args := [d1, d2, d3] }
  | _ => none }
def FnExactPowModWrongFalsely : Prop := fnExactPowModRow.holds Try.pinned (OpenSpec.ofChange fnExactPowModWrong)

/- THE SECOND FORM. 'bulk': how many values and letters a reading holds, each counted each time it is reached (what is shared counts as often as it is met; a slice's spare places count too). A statement '..UptoSaid' is the law's where the arguments, and the package variables that the reading takes, are together of bulk at most 1048576: NARROWER than '..Said'. Prove '..Said' where nothing that the law and all that it calls make is longer than what came in: it says more and counts as full. Else prove '..UptoSaid'. A law counts once. -/
mutual
def uptoBulk {H : Type} : DataW H → Nat
  | .lit (.string bytes) => bytes.length + 1
  | .lit _ => 1
  | .nil => 1
  | .ptr d => uptoBulk d + 1
  | .slice elems spare => uptoBulkAll elems + uptoBulkAll spare + 1
  | .agg parts => uptoBulkAll parts + 1
  | .iface _ d => uptoBulk d + 1
  | .map entries => uptoBulkEntries entries + 1
  | .held _ => 1
def uptoBulkAll {H : Type} : List (DataW H) → Nat
  | [] => 0
  | d :: r => uptoBulk d + uptoBulkAll r
def uptoBulkEntries {H : Type} : List (Lit × DataW H) → Nat
  | [] => 0
  | x :: r => uptoBulkEntry x + uptoBulkEntries r
def uptoBulkEntry {H : Type} : Lit × DataW H → Nat
  | (.string bytes, d) => bytes.length + uptoBulk d + 1
  | (_, d) => uptoBulk d + 1
 end
def uptoSmall : (H : Type) → List (DataW H) → Bool := fun _ ds => decide (uptoBulkAll ds ≤ 1048576)
def OpenSpec.upto (s : _root_.Go.ChangeSpec) : _root_.Go.OpenSpec := { _root_.Go.OpenSpec.ofChange s with cond := some uptoSmall }

/-- 'laws.FnExactTurnTable', WHERE WHAT IT READS IS OF BULK AT MOST 1048576: true; the input reads as it did. -/
def fnExactTurnTableUptoRow : OpenClaim := { program := "ytajlgfjmocgoeab", sum := "edd8266785090f57836f2898823bfd83c5a9414835dbfec3e7f2f2900a639eb8", func := "loop.example/g00133/laws.FnExactTurnTable", spec := "fnExactTurnTable", apart := false, narrowed := true }
def FnExactTurnTableUptoSaid : Prop := fnExactTurnTableUptoRow.holds Try.pinned (OpenSpec.upto fnExactTurnTableSpec)

/-- 'laws.FnExactUniformRow', WHERE WHAT IT READS IS OF BULK AT MOST 1048576: true; the input reads as it did. -/
def fnExactUniformRowUptoRow : OpenClaim := { program := "ytajlgfjmocgoeab", sum := "edd8266785090f57836f2898823bfd83c5a9414835dbfec3e7f2f2900a639eb8", func := "loop.example/g00133/laws.FnExactUniformRow", spec := "fnExactUniformRow", unfollowed := true, recurses := true, apart := false, narrowed := true }
def FnExactUniformRowUptoSaid : Prop := fnExactUniformRowUptoRow.holds Try.pinned (OpenSpec.upto fnExactUniformRowSpec)

/-- 'laws.FnExactBitsOf', WHERE WHAT IT READS IS OF BULK AT MOST 1048576: true; the input reads as it did. -/
def fnExactBitsOfUptoRow : OpenClaim := { program := "ytajlgfjmocgoeab", sum := "edd8266785090f57836f2898823bfd83c5a9414835dbfec3e7f2f2900a639eb8", func := "loop.example/g00133/laws.FnExactBitsOf", spec := "fnExactBitsOf", unfollowed := true, recurses := true, apart := false, narrowed := true }
def FnExactBitsOfUptoSaid : Prop := fnExactBitsOfUptoRow.holds Try.pinned (OpenSpec.upto fnExactBitsOfSpec)

/-- 'laws.FnExactNoiseFrom', WHERE WHAT IT READS IS OF BULK AT MOST 1048576: true; the input reads as it did. -/
def fnExactNoiseFromUptoRow : OpenClaim := { program := "ytajlgfjmocgoeab", sum := "edd8266785090f57836f2898823bfd83c5a9414835dbfec3e7f2f2900a639eb8", func := "loop.example/g00133/laws.FnExactNoiseFrom", spec := "fnExactNoiseFrom", unfollowed := true, recurses := true, apart := false, narrowed := true }
def FnExactNoiseFromUptoSaid : Prop := fnExactNoiseFromUptoRow.holds Try.pinned (OpenSpec.upto fnExactNoiseFromSpec)

/-- 'laws.FnExactPowMod', WHERE WHAT IT READS IS OF BULK AT MOST 1048576: true; the input reads as it did. -/
def fnExactPowModUptoRow : OpenClaim := { program := "ytajlgfjmocgoeab", sum := "edd8266785090f57836f2898823bfd83c5a9414835dbfec3e7f2f2900a639eb8", func := "loop.example/g00133/laws.FnExactPowMod", spec := "fnExactPowMod", named := ["math/bits.divideError", "math/bits.overflowError"], apart := false, narrowed := true }
def FnExactPowModUptoSaid : Prop := fnExactPowModUptoRow.holds Try.pinned (OpenSpec.upto fnExactPowModSpec)

end Rows
end Go.Proofs.Ytajlgfjmocgoeab
