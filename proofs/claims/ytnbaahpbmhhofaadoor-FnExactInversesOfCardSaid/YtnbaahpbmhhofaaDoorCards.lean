/-
  DERIVED. GIVEN WITH THE SEED: THE CARDS: each row of YtnbaahpbmhhofaaDoorRows.lean that lists a variable, with what it lists TIED to the program's text (the seventh form; the later family's looks); each row that meets fmt, with fmt's text TOLD by the authors' own Lean function (tested against real Go, not proved from fmt's source: count such statements apart). THE CARD IS WHAT COUNTS. Prove the row's statement (the work); the ties are given (YtnbaahpbmhhofaaDoorTie.lean); close each card by the builder's one call (the guide's Derived/Test/ToyasCard.lean, 'card_holds'). Laid BY PROGRAM, IN A SANDBOX (cutbox-door.mjs). By AI agents, Wed Nov 11 2026. No macro, syntax, notation, axiom, sorry.
-/
import Derived.Test.YtnbaahpbmhhofaaDoorRows
import GoSem.ClaimSeven
namespace Go.Proofs.YtnbaahpbmhhofaaDoor
namespace Rows

/-- THE TIED CARD OF 'laws.FnExactIsPrime'. -/
def fnExactIsPrimeCard : Claim7 := { stood := { row := fnExactIsPrimeRow, standIns := [], harness := (true, "f158a7c272baf629c1f6eaccfb89bf594bdab72d65f12f3472377ac0fb73fa16"), looks := false }, kinds := [], alts := [], laidByText := true, laidKinds := [.data], laidTests := true, laidLooks := .later }
def FnExactIsPrimeCardSaid : Prop := Claim7.holds Tryd.pinned (.plain (OpenSpec.ofChange fnExactIsPrimeSpec)) fnExactIsPrimeCard

/-- THE TIED CARD OF 'laws.FnExactGoodBasis'. -/
def fnExactGoodBasisCard : Claim7 := { stood := { row := fnExactGoodBasisRow, standIns := [], harness := (true, "f158a7c272baf629c1f6eaccfb89bf594bdab72d65f12f3472377ac0fb73fa16"), looks := false }, kinds := [], alts := [], laidByText := true, laidKinds := [.data], laidTests := true, laidLooks := .later }
def FnExactGoodBasisCardSaid : Prop := Claim7.holds Tryd.pinned (.plain (OpenSpec.ofChange fnExactGoodBasisSpec)) fnExactGoodBasisCard

/-- THE TIED CARD OF 'laws.FnExactRootOf'. -/
def fnExactRootOfCard : Claim7 := { stood := { row := fnExactRootOfRow, standIns := [], harness := (true, "f158a7c272baf629c1f6eaccfb89bf594bdab72d65f12f3472377ac0fb73fa16"), looks := false }, kinds := [], alts := [], laidByText := true, laidKinds := [.data], laidTests := true, laidLooks := .later }
def FnExactRootOfCardSaid : Prop := Claim7.holds Tryd.pinned (.plain (OpenSpec.ofChange fnExactRootOfSpec)) fnExactRootOfCard

/-- THE TIED CARD OF 'laws.FnExactRingOf'. -/
def fnExactRingOfCard : Claim7 := { stood := { row := fnExactRingOfRow, standIns := [], harness := (true, "f158a7c272baf629c1f6eaccfb89bf594bdab72d65f12f3472377ac0fb73fa16"), looks := false }, kinds := [], alts := [], laidByText := true, laidKinds := [.data], laidTests := true, laidLooks := .later }
def FnExactRingOfCardSaid : Prop := Claim7.holds Tryd.pinned (.plain (OpenSpec.ofChange fnExactRingOfSpec)) fnExactRingOfCard

/-- THE TIED CARD OF 'laws.FnExactGoodSpace'. -/
def fnExactGoodSpaceCard : Claim7 := { stood := { row := fnExactGoodSpaceRow, standIns := [], harness := (true, "f158a7c272baf629c1f6eaccfb89bf594bdab72d65f12f3472377ac0fb73fa16"), looks := false }, kinds := [], alts := [], laidByText := true, laidKinds := [.data], laidTests := true, laidLooks := .later }
def FnExactGoodSpaceCardSaid : Prop := Claim7.holds Tryd.pinned (.plain (OpenSpec.ofChange fnExactGoodSpaceSpec)) fnExactGoodSpaceCard

/-- THE TIED CARD OF 'laws.FnExactMulEach'. -/
def fnExactMulEachCard : Claim7 := { stood := { row := fnExactMulEachRow, standIns := [], harness := (true, "f158a7c272baf629c1f6eaccfb89bf594bdab72d65f12f3472377ac0fb73fa16"), looks := false }, kinds := [], alts := [], laidByText := true, laidKinds := [.data], laidTests := true, laidLooks := .later }
def FnExactMulEachCardSaid : Prop := Claim7.holds Tryd.pinned (.plain (OpenSpec.ofChange fnExactMulEachSpec)) fnExactMulEachCard

/-- THE TIED CARD OF 'laws.FnExactProductOf'. -/
def fnExactProductOfCard : Claim7 := { stood := { row := fnExactProductOfRow, standIns := [], harness := (true, "f158a7c272baf629c1f6eaccfb89bf594bdab72d65f12f3472377ac0fb73fa16"), looks := false }, kinds := [], alts := [], laidByText := true, laidKinds := [.data], laidTests := true, laidLooks := .later }
def FnExactProductOfCardSaid : Prop := Claim7.holds Tryd.pinned (.plain (OpenSpec.ofChange fnExactProductOfSpec)) fnExactProductOfCard

/-- THE TIED CARD OF 'laws.FnExactMulRing'. -/
def fnExactMulRingCard : Claim7 := { stood := { row := fnExactMulRingRow, standIns := [], harness := (true, "f158a7c272baf629c1f6eaccfb89bf594bdab72d65f12f3472377ac0fb73fa16"), looks := false }, kinds := [], alts := [], laidByText := true, laidKinds := [.data], laidTests := true, laidLooks := .later }
def FnExactMulRingCardSaid : Prop := Claim7.holds Tryd.pinned (.plain (OpenSpec.ofChange fnExactMulRingSpec)) fnExactMulRingCard

/-- THE TIED CARD OF 'laws.FnExactResiduesOf'. -/
def fnExactResiduesOfCard : Claim7 := { stood := { row := fnExactResiduesOfRow, standIns := [], harness := (true, "f158a7c272baf629c1f6eaccfb89bf594bdab72d65f12f3472377ac0fb73fa16"), looks := false }, kinds := [], alts := [], laidByText := true, laidKinds := [.data], laidTests := true, laidLooks := .later }
def FnExactResiduesOfCardSaid : Prop := Claim7.holds Tryd.pinned (.plain (OpenSpec.ofChange fnExactResiduesOfSpec)) fnExactResiduesOfCard

/-- THE TIED CARD OF 'laws.FnExactTurnRing'. -/
def fnExactTurnRingCard : Claim7 := { stood := { row := fnExactTurnRingRow, standIns := [], harness := (true, "f158a7c272baf629c1f6eaccfb89bf594bdab72d65f12f3472377ac0fb73fa16"), looks := false }, kinds := [], alts := [], laidByText := true, laidKinds := [.data], laidTests := true, laidLooks := .later }
def FnExactTurnRingCardSaid : Prop := Claim7.holds Tryd.pinned (.plain (OpenSpec.ofChange fnExactTurnRingSpec)) fnExactTurnRingCard

/-- THE TIED CARD OF 'laws.FnExactInversesOf'. -/
def fnExactInversesOfCard : Claim7 := { stood := { row := fnExactInversesOfRow, standIns := [], harness := (true, "f158a7c272baf629c1f6eaccfb89bf594bdab72d65f12f3472377ac0fb73fa16"), looks := false }, kinds := [], alts := [], laidByText := true, laidKinds := [.data], laidTests := true, laidLooks := .later }
def FnExactInversesOfCardSaid : Prop := Claim7.holds Tryd.pinned (.plain (OpenSpec.ofChange fnExactInversesOfSpec)) fnExactInversesOfCard

/-- THE TIED CARD OF 'laws.FnExactGoodRows'. -/
def fnExactGoodRowsCard : Claim7 := { stood := { row := fnExactGoodRowsRow, standIns := [], harness := (true, "f158a7c272baf629c1f6eaccfb89bf594bdab72d65f12f3472377ac0fb73fa16"), looks := false }, kinds := [], alts := [], laidByText := true, laidKinds := [.data], laidTests := true, laidLooks := .later }
def FnExactGoodRowsCardSaid : Prop := Claim7.holds Tryd.pinned (.plain (OpenSpec.ofChange fnExactGoodRowsSpec)) fnExactGoodRowsCard

/-- THE SECOND FORM's CARD OF 'laws.FnExactIsPrime'. -/
def fnExactIsPrimeUptoCard : Claim7 := { stood := { row := fnExactIsPrimeUptoRow, standIns := [], harness := (true, "f158a7c272baf629c1f6eaccfb89bf594bdab72d65f12f3472377ac0fb73fa16"), looks := false }, kinds := [], alts := [], laidByText := true, laidKinds := [.data], laidTests := true, laidLooks := .later }
def FnExactIsPrimeUptoCardSaid : Prop := Claim7.holds Tryd.pinned (.plain (OpenSpec.upto fnExactIsPrimeSpec)) fnExactIsPrimeUptoCard

/-- THE SECOND FORM's CARD OF 'laws.FnExactGoodBasis'. -/
def fnExactGoodBasisUptoCard : Claim7 := { stood := { row := fnExactGoodBasisUptoRow, standIns := [], harness := (true, "f158a7c272baf629c1f6eaccfb89bf594bdab72d65f12f3472377ac0fb73fa16"), looks := false }, kinds := [], alts := [], laidByText := true, laidKinds := [.data], laidTests := true, laidLooks := .later }
def FnExactGoodBasisUptoCardSaid : Prop := Claim7.holds Tryd.pinned (.plain (OpenSpec.upto fnExactGoodBasisSpec)) fnExactGoodBasisUptoCard

/-- THE SECOND FORM's CARD OF 'laws.FnExactRootOf'. -/
def fnExactRootOfUptoCard : Claim7 := { stood := { row := fnExactRootOfUptoRow, standIns := [], harness := (true, "f158a7c272baf629c1f6eaccfb89bf594bdab72d65f12f3472377ac0fb73fa16"), looks := false }, kinds := [], alts := [], laidByText := true, laidKinds := [.data], laidTests := true, laidLooks := .later }
def FnExactRootOfUptoCardSaid : Prop := Claim7.holds Tryd.pinned (.plain (OpenSpec.upto fnExactRootOfSpec)) fnExactRootOfUptoCard

/-- THE SECOND FORM's CARD OF 'laws.FnExactRingOf'. -/
def fnExactRingOfUptoCard : Claim7 := { stood := { row := fnExactRingOfUptoRow, standIns := [], harness := (true, "f158a7c272baf629c1f6eaccfb89bf594bdab72d65f12f3472377ac0fb73fa16"), looks := false }, kinds := [], alts := [], laidByText := true, laidKinds := [.data], laidTests := true, laidLooks := .later }
def FnExactRingOfUptoCardSaid : Prop := Claim7.holds Tryd.pinned (.plain (OpenSpec.upto fnExactRingOfSpec)) fnExactRingOfUptoCard

/-- THE SECOND FORM's CARD OF 'laws.FnExactGoodSpace'. -/
def fnExactGoodSpaceUptoCard : Claim7 := { stood := { row := fnExactGoodSpaceUptoRow, standIns := [], harness := (true, "f158a7c272baf629c1f6eaccfb89bf594bdab72d65f12f3472377ac0fb73fa16"), looks := false }, kinds := [], alts := [], laidByText := true, laidKinds := [.data], laidTests := true, laidLooks := .later }
def FnExactGoodSpaceUptoCardSaid : Prop := Claim7.holds Tryd.pinned (.plain (OpenSpec.upto fnExactGoodSpaceSpec)) fnExactGoodSpaceUptoCard

/-- THE SECOND FORM's CARD OF 'laws.FnExactMulEach'. -/
def fnExactMulEachUptoCard : Claim7 := { stood := { row := fnExactMulEachUptoRow, standIns := [], harness := (true, "f158a7c272baf629c1f6eaccfb89bf594bdab72d65f12f3472377ac0fb73fa16"), looks := false }, kinds := [], alts := [], laidByText := true, laidKinds := [.data], laidTests := true, laidLooks := .later }
def FnExactMulEachUptoCardSaid : Prop := Claim7.holds Tryd.pinned (.plain (OpenSpec.upto fnExactMulEachSpec)) fnExactMulEachUptoCard

/-- THE SECOND FORM's CARD OF 'laws.FnExactProductOf'. -/
def fnExactProductOfUptoCard : Claim7 := { stood := { row := fnExactProductOfUptoRow, standIns := [], harness := (true, "f158a7c272baf629c1f6eaccfb89bf594bdab72d65f12f3472377ac0fb73fa16"), looks := false }, kinds := [], alts := [], laidByText := true, laidKinds := [.data], laidTests := true, laidLooks := .later }
def FnExactProductOfUptoCardSaid : Prop := Claim7.holds Tryd.pinned (.plain (OpenSpec.upto fnExactProductOfSpec)) fnExactProductOfUptoCard

/-- THE SECOND FORM's CARD OF 'laws.FnExactMulRing'. -/
def fnExactMulRingUptoCard : Claim7 := { stood := { row := fnExactMulRingUptoRow, standIns := [], harness := (true, "f158a7c272baf629c1f6eaccfb89bf594bdab72d65f12f3472377ac0fb73fa16"), looks := false }, kinds := [], alts := [], laidByText := true, laidKinds := [.data], laidTests := true, laidLooks := .later }
def FnExactMulRingUptoCardSaid : Prop := Claim7.holds Tryd.pinned (.plain (OpenSpec.upto fnExactMulRingSpec)) fnExactMulRingUptoCard

/-- THE SECOND FORM's CARD OF 'laws.FnExactResiduesOf'. -/
def fnExactResiduesOfUptoCard : Claim7 := { stood := { row := fnExactResiduesOfUptoRow, standIns := [], harness := (true, "f158a7c272baf629c1f6eaccfb89bf594bdab72d65f12f3472377ac0fb73fa16"), looks := false }, kinds := [], alts := [], laidByText := true, laidKinds := [.data], laidTests := true, laidLooks := .later }
def FnExactResiduesOfUptoCardSaid : Prop := Claim7.holds Tryd.pinned (.plain (OpenSpec.upto fnExactResiduesOfSpec)) fnExactResiduesOfUptoCard

/-- THE SECOND FORM's CARD OF 'laws.FnExactTurnRing'. -/
def fnExactTurnRingUptoCard : Claim7 := { stood := { row := fnExactTurnRingUptoRow, standIns := [], harness := (true, "f158a7c272baf629c1f6eaccfb89bf594bdab72d65f12f3472377ac0fb73fa16"), looks := false }, kinds := [], alts := [], laidByText := true, laidKinds := [.data], laidTests := true, laidLooks := .later }
def FnExactTurnRingUptoCardSaid : Prop := Claim7.holds Tryd.pinned (.plain (OpenSpec.upto fnExactTurnRingSpec)) fnExactTurnRingUptoCard

/-- THE SECOND FORM's CARD OF 'laws.FnExactInversesOf'. -/
def fnExactInversesOfUptoCard : Claim7 := { stood := { row := fnExactInversesOfUptoRow, standIns := [], harness := (true, "f158a7c272baf629c1f6eaccfb89bf594bdab72d65f12f3472377ac0fb73fa16"), looks := false }, kinds := [], alts := [], laidByText := true, laidKinds := [.data], laidTests := true, laidLooks := .later }
def FnExactInversesOfUptoCardSaid : Prop := Claim7.holds Tryd.pinned (.plain (OpenSpec.upto fnExactInversesOfSpec)) fnExactInversesOfUptoCard

/-- THE SECOND FORM's CARD OF 'laws.FnExactGoodRows'. -/
def fnExactGoodRowsUptoCard : Claim7 := { stood := { row := fnExactGoodRowsUptoRow, standIns := [], harness := (true, "f158a7c272baf629c1f6eaccfb89bf594bdab72d65f12f3472377ac0fb73fa16"), looks := false }, kinds := [], alts := [], laidByText := true, laidKinds := [.data], laidTests := true, laidLooks := .later }
def FnExactGoodRowsUptoCardSaid : Prop := Claim7.holds Tryd.pinned (.plain (OpenSpec.upto fnExactGoodRowsSpec)) fnExactGoodRowsUptoCard
end Rows
end Go.Proofs.YtnbaahpbmhhofaaDoor
