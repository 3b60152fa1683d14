/-
  No cell of these rows narrows 'for every input' (looked for: loops, veiled, ifaces, maps, wideKeys, modest, calm, conditions, laid).
  DERIVED. THE GIVEN ROWS OF THIS SEAT. 7 by the template 'for every input the law returns true; each argument reads behind the call as it read before'; 0 by the template 'total and deterministic' (their statements: YtpekleahjjjddaaTotals.lean).
  GIVEN WITH THE SEED: the statements are not yours to turn. If you find one false, say at which input.
  Laid BY PROGRAM, IN A SANDBOX (cutbox-rows.mjs): the forced cells as the released guide's own fill.sh prints them over the translation a5bbd91adf52f8e7… (all of the seat's roots in one cut). By AI agents, Wed Nov 11 2026. No macro, syntax, notation, axiom, sorry.
-/
import Derived.Test.YtpekleahjjjddaaChecked
import GoSem.Claim
import GoSem.ClaimJoined
import GoSem.ClaimMapViews
import Derived.JoinedTies
import Derived.KernelRfl
namespace Go.Proofs.Ytpekleahjjjddaa
/- THE CELL 'sum', in the pinned program and in every row, IS THE sha256 OF THE DUMP (.gsa) THAT YtpekleahjjjddaaProg.lean LOADS. Nothing in Lean hashes anything: it is a label: what it is worth is what the hold of that sum in a sandbox is worth. -/
noncomputable def Try.pinned : Pinned := { name := "ytpekleahjjjddaa", sum := "a5bbd91adf52f8e7fe060c8442680f73753318cf82e95ed68053d0904e690ef4", checked := Try.checked }
namespace Rows
def none {H : Type} : Left H := { results := [], args := [] }

/-- 'laws.FnExactConstants': WHATEVER THE INPUT: true; the input reads as it did. -/
def fnExactConstantsSpec : ChangeSpec := { name := "fnExactConstants", fn := fun _ => fun
  | [] => { results := [.lit (.bool true)], args := [] }
  | _ => none }
def fnExactConstantsRow : OpenClaim := { program := "ytpekleahjjjddaa", sum := "a5bbd91adf52f8e7fe060c8442680f73753318cf82e95ed68053d0904e690ef4", func := "loop.example/g00133/laws.FnExactConstants", spec := "fnExactConstants", apart := false }
def FnExactConstantsSaid : Prop := fnExactConstantsRow.holds Try.pinned (OpenSpec.ofChange fnExactConstantsSpec)

/-- ITS FALSE NEIGHBOUR: 'it returns false'. Refute it at one input. -/
def fnExactConstantsWrong : ChangeSpec := { name := "fnExactConstants", fn := fun _ => fun
  | [] => { results := [.lit (.bool false)], args := [] }
  | _ => none }
def FnExactConstantsWrongFalsely : Prop := fnExactConstantsRow.holds Try.pinned (OpenSpec.ofChange fnExactConstantsWrong)

/-- 'laws.FnExactShoupOf': WHATEVER THE INPUT: true; the input reads as it did. -/
def fnExactShoupOfSpec : ChangeSpec := { name := "fnExactShoupOf", fn := fun _ => fun
  | [d1, d2] => { results := [.lit (.bool true)], args := [d1, d2] }
  | _ => none }
def fnExactShoupOfRow : OpenClaim := { program := "ytpekleahjjjddaa", sum := "a5bbd91adf52f8e7fe060c8442680f73753318cf82e95ed68053d0904e690ef4", func := "loop.example/g00133/laws.FnExactShoupOf", spec := "fnExactShoupOf", apart := false }
def FnExactShoupOfSaid : Prop := fnExactShoupOfRow.holds Try.pinned (OpenSpec.ofChange fnExactShoupOfSpec)

/-- ITS FALSE NEIGHBOUR: 'it returns false'. Refute it at one input. -/
def fnExactShoupOfWrong : ChangeSpec := { name := "fnExactShoupOf", fn := fun _ => fun
  | [d1, d2] => { results := [.lit (.bool false)], args := [d1, d2] }
  | _ => none }
def FnExactShoupOfWrongFalsely : Prop := fnExactShoupOfRow.holds Try.pinned (OpenSpec.ofChange fnExactShoupOfWrong)

/-- 'laws.FnExactShoupMul': WHATEVER THE INPUT: true; the input reads as it did. -/
def fnExactShoupMulSpec : ChangeSpec := { name := "fnExactShoupMul", fn := fun _ => fun
  | [d1, d2, d3, d4] => { results := [.lit (.bool true)], args := [d1, d2, d3, d4] }
  | _ => none }
def fnExactShoupMulRow : OpenClaim := { program := "ytpekleahjjjddaa", sum := "a5bbd91adf52f8e7fe060c8442680f73753318cf82e95ed68053d0904e690ef4", func := "loop.example/g00133/laws.FnExactShoupMul", spec := "fnExactShoupMul", apart := false }
def FnExactShoupMulSaid : Prop := fnExactShoupMulRow.holds Try.pinned (OpenSpec.ofChange fnExactShoupMulSpec)

/-- ITS FALSE NEIGHBOUR: 'it returns false'. Refute it at one input. -/
def fnExactShoupMulWrong : ChangeSpec := { name := "fnExactShoupMul", fn := fun _ => fun
  | [d1, d2, d3, d4] => { results := [.lit (.bool false)], args := [d1, d2, d3, d4] }
  | _ => none }
def FnExactShoupMulWrongFalsely : Prop := fnExactShoupMulRow.holds Try.pinned (OpenSpec.ofChange fnExactShoupMulWrong)

/-- 'laws.FnExactBitBack': WHATEVER THE INPUT: true; the input reads as it did. -/
def fnExactBitBackSpec : ChangeSpec := { name := "fnExactBitBack", fn := fun _ => fun
  | [d1, d2] => { results := [.lit (.bool true)], args := [d1, d2] }
  | _ => none }
def fnExactBitBackRow : OpenClaim := { program := "ytpekleahjjjddaa", sum := "a5bbd91adf52f8e7fe060c8442680f73753318cf82e95ed68053d0904e690ef4", func := "loop.example/g00133/laws.FnExactBitBack", spec := "fnExactBitBack", apart := false }
def FnExactBitBackSaid : Prop := fnExactBitBackRow.holds Try.pinned (OpenSpec.ofChange fnExactBitBackSpec)

/-- ITS FALSE NEIGHBOUR: 'it returns false'. Refute it at one input. -/
def fnExactBitBackWrong : ChangeSpec := { name := "fnExactBitBack", fn := fun _ => fun
  | [d1, d2] => { results := [.lit (.bool false)], args := [d1, d2] }
  | _ => none }
def FnExactBitBackWrongFalsely : Prop := fnExactBitBackRow.holds Try.pinned (OpenSpec.ofChange fnExactBitBackWrong)

/-- 'laws.FnExactInvMod': WHATEVER THE INPUT: true; the input reads as it did. -/
def fnExactInvModSpec : ChangeSpec := { name := "fnExactInvMod", fn := fun _ => fun
  | [d1, d2] => { results := [.lit (.bool true)], args := [d1, d2] }
  | _ => none }
def fnExactInvModRow : OpenClaim := { program := "ytpekleahjjjddaa", sum := "a5bbd91adf52f8e7fe060c8442680f73753318cf82e95ed68053d0904e690ef4", func := "loop.example/g00133/laws.FnExactInvMod", spec := "fnExactInvMod", apart := false }
def FnExactInvModSaid : Prop := fnExactInvModRow.holds Try.pinned (OpenSpec.ofChange fnExactInvModSpec)

/-- ITS FALSE NEIGHBOUR: 'it returns false'. Refute it at one input. -/
def fnExactInvModWrong : ChangeSpec := { name := "fnExactInvMod", fn := fun _ => fun
  | [d1, d2] => { results := [.lit (.bool false)], args := [d1, d2] }
  | _ => none }
def FnExactInvModWrongFalsely : Prop := fnExactInvModRow.holds Try.pinned (OpenSpec.ofChange fnExactInvModWrong)

/-- 'laws.FnExactBarrettOf': WHATEVER THE INPUT: true; the input reads as it did. -/
def fnExactBarrettOfSpec : ChangeSpec := { name := "fnExactBarrettOf", fn := fun _ => fun
  | [d] => { results := [.lit (.bool true)], args := [d] }
  | _ => none }
def fnExactBarrettOfRow : OpenClaim := { program := "ytpekleahjjjddaa", sum := "a5bbd91adf52f8e7fe060c8442680f73753318cf82e95ed68053d0904e690ef4", func := "loop.example/g00133/laws.FnExactBarrettOf", spec := "fnExactBarrettOf", apart := false }
def FnExactBarrettOfSaid : Prop := fnExactBarrettOfRow.holds Try.pinned (OpenSpec.ofChange fnExactBarrettOfSpec)

/-- ITS FALSE NEIGHBOUR: 'it returns false'. Refute it at one input. -/
def fnExactBarrettOfWrong : ChangeSpec := { name := "fnExactBarrettOf", fn := fun _ => fun
  | [d] => { results := [.lit (.bool false)], args := [d] }
  | _ => none }
def FnExactBarrettOfWrongFalsely : Prop := fnExactBarrettOfRow.holds Try.pinned (OpenSpec.ofChange fnExactBarrettOfWrong)

/-- 'laws.FnExactBarrettMul': WHATEVER THE INPUT: true; the input reads as it did. -/
def fnExactBarrettMulSpec : ChangeSpec := { name := "fnExactBarrettMul", fn := fun _ => fun
  | [d1, d2, d3] => { results := [.lit (.bool true)], args := [d1, d2, d3] }
  | _ => none }
def fnExactBarrettMulRow : OpenClaim := { program := "ytpekleahjjjddaa", sum := "a5bbd91adf52f8e7fe060c8442680f73753318cf82e95ed68053d0904e690ef4", func := "loop.example/g00133/laws.FnExactBarrettMul", spec := "fnExactBarrettMul", apart := false }
def FnExactBarrettMulSaid : Prop := fnExactBarrettMulRow.holds Try.pinned (OpenSpec.ofChange fnExactBarrettMulSpec)

/-- ITS FALSE NEIGHBOUR: 'it returns false'. Refute it at one input. -/
def fnExactBarrettMulWrong : ChangeSpec := { name := "fnExactBarrettMul", fn := fun _ => fun
  | [d1, d2, d3] => { results := [.lit (.bool false)], args := [d1, d2, d3] }
  | _ => none }
def FnExactBarrettMulWrongFalsely : Prop := fnExactBarrettMulRow.holds Try.pinned (OpenSpec.ofChange fnExactBarrettMulWrong)

/- THE SECOND FORM. 'bulk': how many values and letters a reading holds, each counted each time it is reached (what is shared counts as often as it is met; a slice's spare places count too). A statement '..UptoSaid' is the law's where the arguments, and the package variables that the reading takes, are together of bulk at most 1048576: NARROWER than '..Said'. Prove '..Said' where nothing that the law and all that it calls make is longer than what came in: it says more and counts as full. Else prove '..UptoSaid'. A law counts once. -/
mutual
def uptoBulk {H : Type} : DataW H → Nat
  | .lit (.string bytes) => bytes.length + 1
  | .lit _ => 1
  | .nil => 1
  | .ptr d => uptoBulk d + 1
  | .slice elems spare => uptoBulkAll elems + uptoBulkAll spare + 1
  | .agg parts => uptoBulkAll parts + 1
  | .iface _ d => uptoBulk d + 1
  | .map entries => uptoBulkEntries entries + 1
  | .held _ => 1
def uptoBulkAll {H : Type} : List (DataW H) → Nat
  | [] => 0
  | d :: r => uptoBulk d + uptoBulkAll r
def uptoBulkEntries {H : Type} : List (Lit × DataW H) → Nat
  | [] => 0
  | x :: r => uptoBulkEntry x + uptoBulkEntries r
def uptoBulkEntry {H : Type} : Lit × DataW H → Nat
  | (.string bytes, d) => bytes.length + uptoBulk d + 1
  | (_, d) => uptoBulk d + 1
 end
def uptoSmall : (H : Type) → List (DataW H) → Bool := fun _ ds => decide (uptoBulkAll ds ≤ 1048576)
def OpenSpec.upto (s : _root_.Go.ChangeSpec) : _root_.Go.OpenSpec := { _root_.Go.OpenSpec.ofChange s with cond := some uptoSmall }

/-- 'laws.FnExactConstants', WHERE WHAT IT READS IS OF BULK AT MOST 1048576: true; the input reads as it did. -/
def fnExactConstantsUptoRow : OpenClaim := { program := "ytpekleahjjjddaa", sum := "a5bbd91adf52f8e7fe060c8442680f73753318cf82e95ed68053d0904e690ef4", func := "loop.example/g00133/laws.FnExactConstants", spec := "fnExactConstants", apart := false, narrowed := true }
def FnExactConstantsUptoSaid : Prop := fnExactConstantsUptoRow.holds Try.pinned (OpenSpec.upto fnExactConstantsSpec)

/-- 'laws.FnExactShoupOf', WHERE WHAT IT READS IS OF BULK AT MOST 1048576: true; the input reads as it did. -/
def fnExactShoupOfUptoRow : OpenClaim := { program := "ytpekleahjjjddaa", sum := "a5bbd91adf52f8e7fe060c8442680f73753318cf82e95ed68053d0904e690ef4", func := "loop.example/g00133/laws.FnExactShoupOf", spec := "fnExactShoupOf", apart := false, narrowed := true }
def FnExactShoupOfUptoSaid : Prop := fnExactShoupOfUptoRow.holds Try.pinned (OpenSpec.upto fnExactShoupOfSpec)

/-- 'laws.FnExactShoupMul', WHERE WHAT IT READS IS OF BULK AT MOST 1048576: true; the input reads as it did. -/
def fnExactShoupMulUptoRow : OpenClaim := { program := "ytpekleahjjjddaa", sum := "a5bbd91adf52f8e7fe060c8442680f73753318cf82e95ed68053d0904e690ef4", func := "loop.example/g00133/laws.FnExactShoupMul", spec := "fnExactShoupMul", apart := false, narrowed := true }
def FnExactShoupMulUptoSaid : Prop := fnExactShoupMulUptoRow.holds Try.pinned (OpenSpec.upto fnExactShoupMulSpec)

/-- 'laws.FnExactBitBack', WHERE WHAT IT READS IS OF BULK AT MOST 1048576: true; the input reads as it did. -/
def fnExactBitBackUptoRow : OpenClaim := { program := "ytpekleahjjjddaa", sum := "a5bbd91adf52f8e7fe060c8442680f73753318cf82e95ed68053d0904e690ef4", func := "loop.example/g00133/laws.FnExactBitBack", spec := "fnExactBitBack", apart := false, narrowed := true }
def FnExactBitBackUptoSaid : Prop := fnExactBitBackUptoRow.holds Try.pinned (OpenSpec.upto fnExactBitBackSpec)

/-- 'laws.FnExactInvMod', WHERE WHAT IT READS IS OF BULK AT MOST 1048576: true; the input reads as it did. -/
def fnExactInvModUptoRow : OpenClaim := { program := "ytpekleahjjjddaa", sum := "a5bbd91adf52f8e7fe060c8442680f73753318cf82e95ed68053d0904e690ef4", func := "loop.example/g00133/laws.FnExactInvMod", spec := "fnExactInvMod", apart := false, narrowed := true }
def FnExactInvModUptoSaid : Prop := fnExactInvModUptoRow.holds Try.pinned (OpenSpec.upto fnExactInvModSpec)

/-- 'laws.FnExactBarrettOf', WHERE WHAT IT READS IS OF BULK AT MOST 1048576: true; the input reads as it did. -/
def fnExactBarrettOfUptoRow : OpenClaim := { program := "ytpekleahjjjddaa", sum := "a5bbd91adf52f8e7fe060c8442680f73753318cf82e95ed68053d0904e690ef4", func := "loop.example/g00133/laws.FnExactBarrettOf", spec := "fnExactBarrettOf", apart := false, narrowed := true }
def FnExactBarrettOfUptoSaid : Prop := fnExactBarrettOfUptoRow.holds Try.pinned (OpenSpec.upto fnExactBarrettOfSpec)

/-- 'laws.FnExactBarrettMul', WHERE WHAT IT READS IS OF BULK AT MOST 1048576: true; the input reads as it did. -/
def fnExactBarrettMulUptoRow : OpenClaim := { program := "ytpekleahjjjddaa", sum := "a5bbd91adf52f8e7fe060c8442680f73753318cf82e95ed68053d0904e690ef4", func := "loop.example/g00133/laws.FnExactBarrettMul", spec := "fnExactBarrettMul", apart := false, narrowed := true }
def FnExactBarrettMulUptoSaid : Prop := fnExactBarrettMulUptoRow.holds Try.pinned (OpenSpec.upto fnExactBarrettMulSpec)

end Rows
end Go.Proofs.Ytpekleahjjjddaa
