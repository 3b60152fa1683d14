/-
  DERIVED. GIVEN WITH THE SEED: THE CARDS: each row of YthanbjnpfenniaaDoorRows.lean that lists a variable, with what it lists TIED to the program's text (the seventh form; the later family's looks); each row that meets fmt, with fmt's text TOLD by the authors' own Lean function (tested against real Go, not proved from fmt's source: count such statements apart). THE CARD IS WHAT COUNTS. Prove the row's statement (the work); the ties are given (YthanbjnpfenniaaDoorTie.lean); close each card by the builder's one call (the guide's Derived/Test/ToyasCard.lean, 'card_holds'). Laid BY PROGRAM, IN A SANDBOX (cutbox-door.mjs). By AI agents, Wed Nov 11 2026. No macro, syntax, notation, axiom, sorry.
-/
import Derived.Test.YthanbjnpfenniaaDoorRows
import GoSem.ClaimSeven
namespace Go.Proofs.YthanbjnpfenniaaDoor
namespace Rows

/-- THE TIED CARD OF 'laws.FnExactPuncturedOf'. -/
def fnExactPuncturedOfCard : Claim7 := { stood := { row := fnExactPuncturedOfRow, standIns := [], harness := (true, "8ce96eb27c04730d84a2103c5288ef2ee66f6238355b2c9069712aca6fda4bc4"), looks := false }, kinds := [], alts := [], laidByText := true, laidKinds := [.data], laidTests := true, laidLooks := .later }
def FnExactPuncturedOfCardSaid : Prop := Claim7.holds Tryd.pinned (.plain (OpenSpec.ofChange fnExactPuncturedOfSpec)) fnExactPuncturedOfCard

/-- THE TIED CARD OF 'laws.FnExactForward'. -/
def fnExactForwardCard : Claim7 := { stood := { row := fnExactForwardRow, standIns := [], harness := (true, "8ce96eb27c04730d84a2103c5288ef2ee66f6238355b2c9069712aca6fda4bc4"), looks := false }, kinds := [], alts := [], laidByText := true, laidKinds := [.data], laidTests := true, laidLooks := .later }
def FnExactForwardCardSaid : Prop := Claim7.holds Tryd.pinned (.plain (OpenSpec.ofChange fnExactForwardSpec)) fnExactForwardCard

/-- THE TIED CARD OF 'laws.FnExactInverse'. -/
def fnExactInverseCard : Claim7 := { stood := { row := fnExactInverseRow, standIns := [], harness := (true, "8ce96eb27c04730d84a2103c5288ef2ee66f6238355b2c9069712aca6fda4bc4"), looks := false }, kinds := [], alts := [], laidByText := true, laidKinds := [.data], laidTests := true, laidLooks := .later }
def FnExactInverseCardSaid : Prop := Claim7.holds Tryd.pinned (.plain (OpenSpec.ofChange fnExactInverseSpec)) fnExactInverseCard

/-- THE TIED CARD OF 'laws.FnExactAddRows'. -/
def fnExactAddRowsCard : Claim7 := { stood := { row := fnExactAddRowsRow, standIns := [], harness := (true, "8ce96eb27c04730d84a2103c5288ef2ee66f6238355b2c9069712aca6fda4bc4"), looks := false }, kinds := [], alts := [], laidByText := true, laidKinds := [.data], laidTests := true, laidLooks := .later }
def FnExactAddRowsCardSaid : Prop := Claim7.holds Tryd.pinned (.plain (OpenSpec.ofChange fnExactAddRowsSpec)) fnExactAddRowsCard

/-- THE TIED CARD OF 'laws.FnExactSubRows'. -/
def fnExactSubRowsCard : Claim7 := { stood := { row := fnExactSubRowsRow, standIns := [], harness := (true, "8ce96eb27c04730d84a2103c5288ef2ee66f6238355b2c9069712aca6fda4bc4"), looks := false }, kinds := [], alts := [], laidByText := true, laidKinds := [.data], laidTests := true, laidLooks := .later }
def FnExactSubRowsCardSaid : Prop := Claim7.holds Tryd.pinned (.plain (OpenSpec.ofChange fnExactSubRowsSpec)) fnExactSubRowsCard

/-- THE TIED CARD OF 'laws.FnExactFastConvert'. -/
def fnExactFastConvertCard : Claim7 := { stood := { row := fnExactFastConvertRow, standIns := [], harness := (true, "8ce96eb27c04730d84a2103c5288ef2ee66f6238355b2c9069712aca6fda4bc4"), looks := false }, kinds := [], alts := [], laidByText := true, laidKinds := [.data], laidTests := true, laidLooks := .later }
def FnExactFastConvertCardSaid : Prop := Claim7.holds Tryd.pinned (.plain (OpenSpec.ofChange fnExactFastConvertSpec)) fnExactFastConvertCard

/-- THE TIED CARD OF 'laws.FnExactRowsOf'. -/
def fnExactRowsOfCard : Claim7 := { stood := { row := fnExactRowsOfRow, standIns := [], harness := (true, "8ce96eb27c04730d84a2103c5288ef2ee66f6238355b2c9069712aca6fda4bc4"), looks := false }, kinds := [], alts := [], laidByText := true, laidKinds := [.data], laidTests := true, laidLooks := .later }
def FnExactRowsOfCardSaid : Prop := Claim7.holds Tryd.pinned (.plain (OpenSpec.ofChange fnExactRowsOfSpec)) fnExactRowsOfCard

/-- THE TIED CARD OF 'laws.FnExactMulRows'. -/
def fnExactMulRowsCard : Claim7 := { stood := { row := fnExactMulRowsRow, standIns := [], harness := (true, "8ce96eb27c04730d84a2103c5288ef2ee66f6238355b2c9069712aca6fda4bc4"), looks := false }, kinds := [], alts := [], laidByText := true, laidKinds := [.data], laidTests := true, laidLooks := .later }
def FnExactMulRowsCardSaid : Prop := Claim7.holds Tryd.pinned (.plain (OpenSpec.ofChange fnExactMulRowsSpec)) fnExactMulRowsCard

/-- THE TIED CARD OF 'laws.FnExactFloorConvert'. -/
def fnExactFloorConvertCard : Claim7 := { stood := { row := fnExactFloorConvertRow, standIns := [], harness := (true, "8ce96eb27c04730d84a2103c5288ef2ee66f6238355b2c9069712aca6fda4bc4"), looks := false }, kinds := [], alts := [], laidByText := true, laidKinds := [.data], laidTests := true, laidLooks := .later }
def FnExactFloorConvertCardSaid : Prop := Claim7.holds Tryd.pinned (.plain (OpenSpec.ofChange fnExactFloorConvertSpec)) fnExactFloorConvertCard

/-- THE TIED CARD OF 'laws.FnExactScaleRows'. -/
def fnExactScaleRowsCard : Claim7 := { stood := { row := fnExactScaleRowsRow, standIns := [], harness := (true, "8ce96eb27c04730d84a2103c5288ef2ee66f6238355b2c9069712aca6fda4bc4"), looks := false }, kinds := [], alts := [], laidByText := true, laidKinds := [.data], laidTests := true, laidLooks := .later }
def FnExactScaleRowsCardSaid : Prop := Claim7.holds Tryd.pinned (.plain (OpenSpec.ofChange fnExactScaleRowsSpec)) fnExactScaleRowsCard

/-- THE TIED CARD OF 'laws.FnExactSmallMont'. -/
def fnExactSmallMontCard : Claim7 := { stood := { row := fnExactSmallMontRow, standIns := [], harness := (true, "8ce96eb27c04730d84a2103c5288ef2ee66f6238355b2c9069712aca6fda4bc4"), looks := false }, kinds := [], alts := [], laidByText := true, laidKinds := [.data], laidTests := true, laidLooks := .later }
def FnExactSmallMontCardSaid : Prop := Claim7.holds Tryd.pinned (.plain (OpenSpec.ofChange fnExactSmallMontSpec)) fnExactSmallMontCard

/-- THE TIED CARD OF 'laws.FnExactAheadRows'. -/
def fnExactAheadRowsCard : Claim7 := { stood := { row := fnExactAheadRowsRow, standIns := [], harness := (true, "8ce96eb27c04730d84a2103c5288ef2ee66f6238355b2c9069712aca6fda4bc4"), looks := false }, kinds := [], alts := [], laidByText := true, laidKinds := [.data], laidTests := true, laidLooks := .later }
def FnExactAheadRowsCardSaid : Prop := Claim7.holds Tryd.pinned (.plain (OpenSpec.ofChange fnExactAheadRowsSpec)) fnExactAheadRowsCard

/-- THE SECOND FORM's CARD OF 'laws.FnExactPuncturedOf'. -/
def fnExactPuncturedOfUptoCard : Claim7 := { stood := { row := fnExactPuncturedOfUptoRow, standIns := [], harness := (true, "8ce96eb27c04730d84a2103c5288ef2ee66f6238355b2c9069712aca6fda4bc4"), looks := false }, kinds := [], alts := [], laidByText := true, laidKinds := [.data], laidTests := true, laidLooks := .later }
def FnExactPuncturedOfUptoCardSaid : Prop := Claim7.holds Tryd.pinned (.plain (OpenSpec.upto fnExactPuncturedOfSpec)) fnExactPuncturedOfUptoCard

/-- THE SECOND FORM's CARD OF 'laws.FnExactForward'. -/
def fnExactForwardUptoCard : Claim7 := { stood := { row := fnExactForwardUptoRow, standIns := [], harness := (true, "8ce96eb27c04730d84a2103c5288ef2ee66f6238355b2c9069712aca6fda4bc4"), looks := false }, kinds := [], alts := [], laidByText := true, laidKinds := [.data], laidTests := true, laidLooks := .later }
def FnExactForwardUptoCardSaid : Prop := Claim7.holds Tryd.pinned (.plain (OpenSpec.upto fnExactForwardSpec)) fnExactForwardUptoCard

/-- THE SECOND FORM's CARD OF 'laws.FnExactInverse'. -/
def fnExactInverseUptoCard : Claim7 := { stood := { row := fnExactInverseUptoRow, standIns := [], harness := (true, "8ce96eb27c04730d84a2103c5288ef2ee66f6238355b2c9069712aca6fda4bc4"), looks := false }, kinds := [], alts := [], laidByText := true, laidKinds := [.data], laidTests := true, laidLooks := .later }
def FnExactInverseUptoCardSaid : Prop := Claim7.holds Tryd.pinned (.plain (OpenSpec.upto fnExactInverseSpec)) fnExactInverseUptoCard

/-- THE SECOND FORM's CARD OF 'laws.FnExactAddRows'. -/
def fnExactAddRowsUptoCard : Claim7 := { stood := { row := fnExactAddRowsUptoRow, standIns := [], harness := (true, "8ce96eb27c04730d84a2103c5288ef2ee66f6238355b2c9069712aca6fda4bc4"), looks := false }, kinds := [], alts := [], laidByText := true, laidKinds := [.data], laidTests := true, laidLooks := .later }
def FnExactAddRowsUptoCardSaid : Prop := Claim7.holds Tryd.pinned (.plain (OpenSpec.upto fnExactAddRowsSpec)) fnExactAddRowsUptoCard

/-- THE SECOND FORM's CARD OF 'laws.FnExactSubRows'. -/
def fnExactSubRowsUptoCard : Claim7 := { stood := { row := fnExactSubRowsUptoRow, standIns := [], harness := (true, "8ce96eb27c04730d84a2103c5288ef2ee66f6238355b2c9069712aca6fda4bc4"), looks := false }, kinds := [], alts := [], laidByText := true, laidKinds := [.data], laidTests := true, laidLooks := .later }
def FnExactSubRowsUptoCardSaid : Prop := Claim7.holds Tryd.pinned (.plain (OpenSpec.upto fnExactSubRowsSpec)) fnExactSubRowsUptoCard

/-- THE SECOND FORM's CARD OF 'laws.FnExactFastConvert'. -/
def fnExactFastConvertUptoCard : Claim7 := { stood := { row := fnExactFastConvertUptoRow, standIns := [], harness := (true, "8ce96eb27c04730d84a2103c5288ef2ee66f6238355b2c9069712aca6fda4bc4"), looks := false }, kinds := [], alts := [], laidByText := true, laidKinds := [.data], laidTests := true, laidLooks := .later }
def FnExactFastConvertUptoCardSaid : Prop := Claim7.holds Tryd.pinned (.plain (OpenSpec.upto fnExactFastConvertSpec)) fnExactFastConvertUptoCard

/-- THE SECOND FORM's CARD OF 'laws.FnExactRowsOf'. -/
def fnExactRowsOfUptoCard : Claim7 := { stood := { row := fnExactRowsOfUptoRow, standIns := [], harness := (true, "8ce96eb27c04730d84a2103c5288ef2ee66f6238355b2c9069712aca6fda4bc4"), looks := false }, kinds := [], alts := [], laidByText := true, laidKinds := [.data], laidTests := true, laidLooks := .later }
def FnExactRowsOfUptoCardSaid : Prop := Claim7.holds Tryd.pinned (.plain (OpenSpec.upto fnExactRowsOfSpec)) fnExactRowsOfUptoCard

/-- THE SECOND FORM's CARD OF 'laws.FnExactMulRows'. -/
def fnExactMulRowsUptoCard : Claim7 := { stood := { row := fnExactMulRowsUptoRow, standIns := [], harness := (true, "8ce96eb27c04730d84a2103c5288ef2ee66f6238355b2c9069712aca6fda4bc4"), looks := false }, kinds := [], alts := [], laidByText := true, laidKinds := [.data], laidTests := true, laidLooks := .later }
def FnExactMulRowsUptoCardSaid : Prop := Claim7.holds Tryd.pinned (.plain (OpenSpec.upto fnExactMulRowsSpec)) fnExactMulRowsUptoCard

/-- THE SECOND FORM's CARD OF 'laws.FnExactFloorConvert'. -/
def fnExactFloorConvertUptoCard : Claim7 := { stood := { row := fnExactFloorConvertUptoRow, standIns := [], harness := (true, "8ce96eb27c04730d84a2103c5288ef2ee66f6238355b2c9069712aca6fda4bc4"), looks := false }, kinds := [], alts := [], laidByText := true, laidKinds := [.data], laidTests := true, laidLooks := .later }
def FnExactFloorConvertUptoCardSaid : Prop := Claim7.holds Tryd.pinned (.plain (OpenSpec.upto fnExactFloorConvertSpec)) fnExactFloorConvertUptoCard

/-- THE SECOND FORM's CARD OF 'laws.FnExactScaleRows'. -/
def fnExactScaleRowsUptoCard : Claim7 := { stood := { row := fnExactScaleRowsUptoRow, standIns := [], harness := (true, "8ce96eb27c04730d84a2103c5288ef2ee66f6238355b2c9069712aca6fda4bc4"), looks := false }, kinds := [], alts := [], laidByText := true, laidKinds := [.data], laidTests := true, laidLooks := .later }
def FnExactScaleRowsUptoCardSaid : Prop := Claim7.holds Tryd.pinned (.plain (OpenSpec.upto fnExactScaleRowsSpec)) fnExactScaleRowsUptoCard

/-- THE SECOND FORM's CARD OF 'laws.FnExactSmallMont'. -/
def fnExactSmallMontUptoCard : Claim7 := { stood := { row := fnExactSmallMontUptoRow, standIns := [], harness := (true, "8ce96eb27c04730d84a2103c5288ef2ee66f6238355b2c9069712aca6fda4bc4"), looks := false }, kinds := [], alts := [], laidByText := true, laidKinds := [.data], laidTests := true, laidLooks := .later }
def FnExactSmallMontUptoCardSaid : Prop := Claim7.holds Tryd.pinned (.plain (OpenSpec.upto fnExactSmallMontSpec)) fnExactSmallMontUptoCard

/-- THE SECOND FORM's CARD OF 'laws.FnExactAheadRows'. -/
def fnExactAheadRowsUptoCard : Claim7 := { stood := { row := fnExactAheadRowsUptoRow, standIns := [], harness := (true, "8ce96eb27c04730d84a2103c5288ef2ee66f6238355b2c9069712aca6fda4bc4"), looks := false }, kinds := [], alts := [], laidByText := true, laidKinds := [.data], laidTests := true, laidLooks := .later }
def FnExactAheadRowsUptoCardSaid : Prop := Claim7.holds Tryd.pinned (.plain (OpenSpec.upto fnExactAheadRowsSpec)) fnExactAheadRowsUptoCard
end Rows
end Go.Proofs.YthanbjnpfenniaaDoor
