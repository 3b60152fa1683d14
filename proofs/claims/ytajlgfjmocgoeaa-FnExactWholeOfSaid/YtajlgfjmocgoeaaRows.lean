/-
  No cell of these rows narrows 'for every input' (looked for: loops, veiled, ifaces, maps, wideKeys, modest, calm, conditions, laid).
  DERIVED. THE GIVEN ROWS OF THIS SEAT. 5 by the template 'for every input the law returns true; each argument reads behind the call as it read before'; 0 by the template 'total and deterministic' (their statements: YtajlgfjmocgoeaaTotals.lean).
  GIVEN WITH THE SEED: the statements are not yours to turn. If you find one false, say at which input.
  Laid BY PROGRAM, IN A SANDBOX (cutbox-rows.mjs): the forced cells as the released guide's own fill.sh prints them over the translation 9fb9b67c49cb9231… (all of the seat's roots in one cut). By AI agents, Wed Nov 11 2026. No macro, syntax, notation, axiom, sorry.
-/
import Derived.Test.YtajlgfjmocgoeaaChecked
import GoSem.Claim
import GoSem.ClaimJoined
import GoSem.ClaimMapViews
import Derived.JoinedTies
import Derived.KernelRfl
namespace Go.Proofs.Ytajlgfjmocgoeaa
/- THE CELL 'sum', in the pinned program and in every row, IS THE sha256 OF THE DUMP (.gsa) THAT YtajlgfjmocgoeaaProg.lean LOADS. Nothing in Lean hashes anything: it is a label: what it is worth is what the hold of that sum in a sandbox is worth. -/
noncomputable def Try.pinned : Pinned := { name := "ytajlgfjmocgoeaa", sum := "9fb9b67c49cb9231882b5265e377d9647760eb86274c39b69af9bd03573f0e06", checked := Try.checked }
namespace Rows
def none {H : Type} : Left H := { results := [], args := [] }

/-- 'laws.FnExactGoodWhole': WHATEVER THE INPUT: true; the input reads as it did. -/
def fnExactGoodWholeSpec : ChangeSpec := { name := "fnExactGoodWhole", fn := fun _ => fun
  | [d] => { results := [.lit (.bool true)], args := [d] }
  | _ => none }
def fnExactGoodWholeRow : OpenClaim := { program := "ytajlgfjmocgoeaa", sum := "9fb9b67c49cb9231882b5265e377d9647760eb86274c39b69af9bd03573f0e06", func := "loop.example/g00133/laws.FnExactGoodWhole", spec := "fnExactGoodWhole", unfollowed := true, recurses := true, apart := false }
def FnExactGoodWholeSaid : Prop := fnExactGoodWholeRow.holds Try.pinned (OpenSpec.ofChange fnExactGoodWholeSpec)

/-- ITS FALSE NEIGHBOUR: 'it returns false'. Refute it at one input. -/
def fnExactGoodWholeWrong : ChangeSpec := { name := "fnExactGoodWhole", fn := fun _ => fun
  | [d] => { results := [.lit (.bool false)], args := [d] }
  | _ => none }
def FnExactGoodWholeWrongFalsely : Prop := fnExactGoodWholeRow.holds Try.pinned (OpenSpec.ofChange fnExactGoodWholeWrong)

/-- 'laws.FnExactWholeOf': WHATEVER THE INPUT: true; the input reads as it did. -/
def fnExactWholeOfSpec : ChangeSpec := { name := "fnExactWholeOf", fn := fun _ => fun
  | [d] => { results := [.lit (.bool true)], args := [d] }
  | _ => none }
def fnExactWholeOfRow : OpenClaim := { program := "ytajlgfjmocgoeaa", sum := "9fb9b67c49cb9231882b5265e377d9647760eb86274c39b69af9bd03573f0e06", func := "loop.example/g00133/laws.FnExactWholeOf", spec := "fnExactWholeOf", apart := false }
def FnExactWholeOfSaid : Prop := fnExactWholeOfRow.holds Try.pinned (OpenSpec.ofChange fnExactWholeOfSpec)

/-- ITS FALSE NEIGHBOUR: 'it returns false'. Refute it at one input. -/
def fnExactWholeOfWrong : ChangeSpec := { name := "fnExactWholeOf", fn := fun _ => fun
  | [d] => { results := [.lit (.bool false)], args := [d] }
  | _ => none }
def FnExactWholeOfWrongFalsely : Prop := fnExactWholeOfRow.holds Try.pinned (OpenSpec.ofChange fnExactWholeOfWrong)

/-- 'laws.FnExactUniformFrom': WHATEVER THE INPUT: true; the input reads as it did. -/
def fnExactUniformFromSpec : ChangeSpec := { name := "fnExactUniformFrom", fn := fun _ => fun
  | [d1, d2, d3] => { results := [.lit (.bool true)], args := [d1, d2, d3] }
  | _ => none }
def fnExactUniformFromRow : OpenClaim := { program := "ytajlgfjmocgoeaa", sum := "9fb9b67c49cb9231882b5265e377d9647760eb86274c39b69af9bd03573f0e06", func := "loop.example/g00133/laws.FnExactUniformFrom", spec := "fnExactUniformFrom", unfollowed := true, recurses := true, apart := false }
def FnExactUniformFromSaid : Prop := fnExactUniformFromRow.holds Try.pinned (OpenSpec.ofChange fnExactUniformFromSpec)

/-- ITS FALSE NEIGHBOUR: 'it returns false'. Refute it at one input. -/
def fnExactUniformFromWrong : ChangeSpec := { name := "fnExactUniformFrom", fn := fun _ => fun
  | [d1, d2, d3] => { results := [.lit (.bool false)], args := [d1, d2, d3] }
  | _ => none }
def FnExactUniformFromWrongFalsely : Prop := fnExactUniformFromRow.holds Try.pinned (OpenSpec.ofChange fnExactUniformFromWrong)

/-- 'laws.FnExactTernaryFrom': WHATEVER THE INPUT: true; the input reads as it did. -/
def fnExactTernaryFromSpec : ChangeSpec := { name := "fnExactTernaryFrom", fn := fun _ => fun
  | [d1, d2] => { results := [.lit (.bool true)], args := [d1, d2] }
  | _ => none }
def fnExactTernaryFromRow : OpenClaim := { program := "ytajlgfjmocgoeaa", sum := "9fb9b67c49cb9231882b5265e377d9647760eb86274c39b69af9bd03573f0e06", func := "loop.example/g00133/laws.FnExactTernaryFrom", spec := "fnExactTernaryFrom", unfollowed := true, recurses := true, apart := false }
def FnExactTernaryFromSaid : Prop := fnExactTernaryFromRow.holds Try.pinned (OpenSpec.ofChange fnExactTernaryFromSpec)

/-- ITS FALSE NEIGHBOUR: 'it returns false'. Refute it at one input. -/
def fnExactTernaryFromWrong : ChangeSpec := { name := "fnExactTernaryFrom", fn := fun _ => fun
  | [d1, d2] => { results := [.lit (.bool false)], args := [d1, d2] }
  | _ => none }
def FnExactTernaryFromWrongFalsely : Prop := fnExactTernaryFromRow.holds Try.pinned (OpenSpec.ofChange fnExactTernaryFromWrong)

/-- 'laws.FnExactModWord': WHATEVER THE INPUT: true; the input reads as it did. -/
def fnExactModWordSpec : ChangeSpec := { name := "fnExactModWord", fn := fun _ => fun
  | [d1, d2] => { results := [.lit (.bool true)], args := [d1, d2] }
  | _ => none }
def fnExactModWordRow : OpenClaim := { program := "ytajlgfjmocgoeaa", sum := "9fb9b67c49cb9231882b5265e377d9647760eb86274c39b69af9bd03573f0e06", func := "loop.example/g00133/laws.FnExactModWord", spec := "fnExactModWord", unfollowed := true, recurses := true, apart := false }
def FnExactModWordSaid : Prop := fnExactModWordRow.holds Try.pinned (OpenSpec.ofChange fnExactModWordSpec)

/-- ITS FALSE NEIGHBOUR: 'it returns false'. Refute it at one input. -/
def fnExactModWordWrong : ChangeSpec := { name := "fnExactModWord", fn := fun _ => fun
  | [d1, d2] => { results := [.lit (.bool false)], args := [d1, d2] }
  | _ => none }
def FnExactModWordWrongFalsely : Prop := fnExactModWordRow.holds Try.pinned (OpenSpec.ofChange fnExactModWordWrong)

/- THE SECOND FORM. 'bulk': how many values and letters a reading holds, each counted each time it is reached (what is shared counts as often as it is met; a slice's spare places count too). A statement '..UptoSaid' is the law's where the arguments, and the package variables that the reading takes, are together of bulk at most 1048576: NARROWER than '..Said'. Prove '..Said' where nothing that the law and all that it calls make is longer than what came in: it says more and counts as full. Else prove '..UptoSaid'. A law counts once. -/
mutual
def uptoBulk {H : Type} : DataW H → Nat
  | .lit (.string bytes) => bytes.length + 1
  | .lit _ => 1
  | .nil => 1
  | .ptr d => uptoBulk d + 1
  | .slice elems spare => uptoBulkAll elems + uptoBulkAll spare + 1
  | .agg parts => uptoBulkAll parts + 1
  | .iface _ d => uptoBulk d + 1
  | .map entries => uptoBulkEntries entries + 1
  | .held _ => 1
def uptoBulkAll {H : Type} : List (DataW H) → Nat
  | [] => 0
  | d :: r => uptoBulk d + uptoBulkAll r
def uptoBulkEntries {H : Type} : List (Lit × DataW H) → Nat
  | [] => 0
  | x :: r => uptoBulkEntry x + uptoBulkEntries r
def uptoBulkEntry {H : Type} : Lit × DataW H → Nat
  | (.string bytes, d) => bytes.length + uptoBulk d + 1
  | (_, d) => uptoBulk d + 1
 end
def uptoSmall : (H : Type) → List (DataW H) → Bool := fun _ ds => decide (uptoBulkAll ds ≤ 1048576)
def OpenSpec.upto (s : _root_.Go.ChangeSpec) : _root_.Go.OpenSpec := { _root_.Go.OpenSpec.ofChange s with cond := some uptoSmall }

/-- 'laws.FnExactGoodWhole', WHERE WHAT IT READS IS OF BULK AT MOST 1048576: true; the input reads as it did. -/
def fnExactGoodWholeUptoRow : OpenClaim := { program := "ytajlgfjmocgoeaa", sum := "9fb9b67c49cb9231882b5265e377d9647760eb86274c39b69af9bd03573f0e06", func := "loop.example/g00133/laws.FnExactGoodWhole", spec := "fnExactGoodWhole", unfollowed := true, recurses := true, apart := false, narrowed := true }
def FnExactGoodWholeUptoSaid : Prop := fnExactGoodWholeUptoRow.holds Try.pinned (OpenSpec.upto fnExactGoodWholeSpec)

/-- 'laws.FnExactWholeOf', WHERE WHAT IT READS IS OF BULK AT MOST 1048576: true; the input reads as it did. -/
def fnExactWholeOfUptoRow : OpenClaim := { program := "ytajlgfjmocgoeaa", sum := "9fb9b67c49cb9231882b5265e377d9647760eb86274c39b69af9bd03573f0e06", func := "loop.example/g00133/laws.FnExactWholeOf", spec := "fnExactWholeOf", apart := false, narrowed := true }
def FnExactWholeOfUptoSaid : Prop := fnExactWholeOfUptoRow.holds Try.pinned (OpenSpec.upto fnExactWholeOfSpec)

/-- 'laws.FnExactUniformFrom', WHERE WHAT IT READS IS OF BULK AT MOST 1048576: true; the input reads as it did. -/
def fnExactUniformFromUptoRow : OpenClaim := { program := "ytajlgfjmocgoeaa", sum := "9fb9b67c49cb9231882b5265e377d9647760eb86274c39b69af9bd03573f0e06", func := "loop.example/g00133/laws.FnExactUniformFrom", spec := "fnExactUniformFrom", unfollowed := true, recurses := true, apart := false, narrowed := true }
def FnExactUniformFromUptoSaid : Prop := fnExactUniformFromUptoRow.holds Try.pinned (OpenSpec.upto fnExactUniformFromSpec)

/-- 'laws.FnExactTernaryFrom', WHERE WHAT IT READS IS OF BULK AT MOST 1048576: true; the input reads as it did. -/
def fnExactTernaryFromUptoRow : OpenClaim := { program := "ytajlgfjmocgoeaa", sum := "9fb9b67c49cb9231882b5265e377d9647760eb86274c39b69af9bd03573f0e06", func := "loop.example/g00133/laws.FnExactTernaryFrom", spec := "fnExactTernaryFrom", unfollowed := true, recurses := true, apart := false, narrowed := true }
def FnExactTernaryFromUptoSaid : Prop := fnExactTernaryFromUptoRow.holds Try.pinned (OpenSpec.upto fnExactTernaryFromSpec)

/-- 'laws.FnExactModWord', WHERE WHAT IT READS IS OF BULK AT MOST 1048576: true; the input reads as it did. -/
def fnExactModWordUptoRow : OpenClaim := { program := "ytajlgfjmocgoeaa", sum := "9fb9b67c49cb9231882b5265e377d9647760eb86274c39b69af9bd03573f0e06", func := "loop.example/g00133/laws.FnExactModWord", spec := "fnExactModWord", unfollowed := true, recurses := true, apart := false, narrowed := true }
def FnExactModWordUptoSaid : Prop := fnExactModWordUptoRow.holds Try.pinned (OpenSpec.upto fnExactModWordSpec)

end Rows
end Go.Proofs.Ytajlgfjmocgoeaa
