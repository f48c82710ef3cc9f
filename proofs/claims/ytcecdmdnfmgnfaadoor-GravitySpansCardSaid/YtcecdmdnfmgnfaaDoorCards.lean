/-
  DERIVED. GIVEN WITH THE SEED: THE CARDS: each row of YtcecdmdnfmgnfaaDoorRows.lean that lists a variable, with what it lists TIED to the program's text (the seventh form; the later family's looks); each row that meets fmt, with fmt's text TOLD by the authors' own Lean function (tested against real Go, not proved from fmt's source: count such statements apart). THE CARD IS WHAT COUNTS. Prove the row's statement (the work); the ties are given (YtcecdmdnfmgnfaaDoorTie.lean); close each card by the builder's one call (the guide's Derived/Test/ToyasCard.lean, 'card_holds'). Laid BY PROGRAM, IN A SANDBOX (cutbox-door.mjs). By AI agents, Wed Nov 11 2026. No macro, syntax, notation, axiom, sorry.
-/
import Derived.Test.YtcecdmdnfmgnfaaDoorRows
import GoSem.ClaimSeven
namespace Go.Proofs.YtcecdmdnfmgnfaaDoor
namespace Rows

/-- THE TIED CARD OF 'cloverleaflaw05.GravityComposes'. -/
def gravityComposesCard : Claim7 := { stood := { row := gravityComposesRow, standIns := [], harness := (true, "7beca0c3d51d5b13018226e0a3ec850405335d46189a4e3e5247aa211c8b033a"), looks := false }, kinds := [], alts := [], laidByText := true, laidKinds := [.widerDeep], laidTests := true, laidLooks := .later }
def GravityComposesCardSaid : Prop := Claim7.holds Tryd.pinned (.plain (OpenSpec.ofChange gravityComposesSpec)) gravityComposesCard

/-- THE TIED CARD OF 'cloverleaflaw05.GravityHeights'. -/
def gravityHeightsCard : Claim7 := { stood := { row := gravityHeightsRow, standIns := [], harness := (true, "7beca0c3d51d5b13018226e0a3ec850405335d46189a4e3e5247aa211c8b033a"), looks := false }, kinds := [], alts := [], laidByText := true, laidKinds := [.widerDeep], laidTests := true, laidLooks := .later }
def GravityHeightsCardSaid : Prop := Claim7.holds Tryd.pinned (.plain (OpenSpec.ofChange gravityHeightsSpec)) gravityHeightsCard

/-- THE TIED CARD OF 'cloverleaflaw05.GravityClosures'. -/
def gravityClosuresCard : Claim7 := { stood := { row := gravityClosuresRow, standIns := [], harness := (true, "7beca0c3d51d5b13018226e0a3ec850405335d46189a4e3e5247aa211c8b033a"), looks := false }, kinds := [], alts := [], laidByText := true, laidKinds := [.widerDeep], laidTests := true, laidLooks := .later }
def GravityClosuresCardSaid : Prop := Claim7.holds Tryd.pinned (.plain (OpenSpec.ofChange gravityClosuresSpec)) gravityClosuresCard

/-- THE TIED CARD OF 'cloverleaflaw05.GravityNets'. -/
def gravityNetsCard : Claim7 := { stood := { row := gravityNetsRow, standIns := [], harness := (true, "7beca0c3d51d5b13018226e0a3ec850405335d46189a4e3e5247aa211c8b033a"), looks := false }, kinds := [], alts := [], laidByText := true, laidKinds := [.widerDeep], laidTests := true, laidLooks := .later }
def GravityNetsCardSaid : Prop := Claim7.holds Tryd.pinned (.plain (OpenSpec.ofChange gravityNetsSpec)) gravityNetsCard

/-- THE TIED CARD OF 'cloverleaflaw05.GravityRates'. -/
def gravityRatesCard : Claim7 := { stood := { row := gravityRatesRow, standIns := [], harness := (true, "7beca0c3d51d5b13018226e0a3ec850405335d46189a4e3e5247aa211c8b033a"), looks := false }, kinds := [], alts := [], laidByText := true, laidKinds := [.widerDeep], laidTests := true, laidLooks := .later }
def GravityRatesCardSaid : Prop := Claim7.holds Tryd.pinned (.plain (OpenSpec.ofChange gravityRatesSpec)) gravityRatesCard

/-- THE TIED CARD OF 'cloverleaflaw05.GravityPossible'. -/
def gravityPossibleCard : Claim7 := { stood := { row := gravityPossibleRow, standIns := [], harness := (true, "7beca0c3d51d5b13018226e0a3ec850405335d46189a4e3e5247aa211c8b033a"), looks := false }, kinds := [], alts := [], laidByText := true, laidKinds := [.widerDeep], laidTests := true, laidLooks := .later }
def GravityPossibleCardSaid : Prop := Claim7.holds Tryd.pinned (.plain (OpenSpec.ofChange gravityPossibleSpec)) gravityPossibleCard

/-- THE TIED CARD OF 'cloverleaflaw05.GravityWithin'. -/
def gravityWithinCard : Claim7 := { stood := { row := gravityWithinRow, standIns := [], harness := (true, "7beca0c3d51d5b13018226e0a3ec850405335d46189a4e3e5247aa211c8b033a"), looks := false }, kinds := [], alts := [], laidByText := true, laidKinds := [.widerDeep], laidTests := true, laidLooks := .later }
def GravityWithinCardSaid : Prop := Claim7.holds Tryd.pinned (.plain (OpenSpec.ofChange gravityWithinSpec)) gravityWithinCard

/-- THE TIED CARD OF 'cloverleaflaw05.GravityCalm'. -/
def gravityCalmCard : Claim7 := { stood := { row := gravityCalmRow, standIns := [], harness := (true, "7beca0c3d51d5b13018226e0a3ec850405335d46189a4e3e5247aa211c8b033a"), looks := false }, kinds := [], alts := [], laidByText := true, laidKinds := [.widerDeep], laidTests := true, laidLooks := .later }
def GravityCalmCardSaid : Prop := Claim7.holds Tryd.pinned (.plain (OpenSpec.ofChange gravityCalmSpec)) gravityCalmCard

/-- THE TIED CARD OF 'cloverleaflaw05.GravityFilters'. -/
def gravityFiltersCard : Claim7 := { stood := { row := gravityFiltersRow, standIns := [], harness := (true, "7beca0c3d51d5b13018226e0a3ec850405335d46189a4e3e5247aa211c8b033a"), looks := false }, kinds := [], alts := [], laidByText := true, laidKinds := [.widerDeep, .data], laidTests := true, laidLooks := .later }
def GravityFiltersCardSaid : Prop := Claim7.holds Tryd.pinned (.plain (OpenSpec.ofChange gravityFiltersSpec)) gravityFiltersCard

/-- THE TIED CARD OF 'cloverleaflaw05.GravityGains'. -/
def gravityGainsCard : Claim7 := { stood := { row := gravityGainsRow, standIns := [], harness := (true, "7beca0c3d51d5b13018226e0a3ec850405335d46189a4e3e5247aa211c8b033a"), looks := false }, kinds := [], alts := [], laidByText := true, laidKinds := [.widerDeep, .data], laidTests := true, laidLooks := .later }
def GravityGainsCardSaid : Prop := Claim7.holds Tryd.pinned (.plain (OpenSpec.ofChange gravityGainsSpec)) gravityGainsCard

/-- THE TIED CARD OF 'cloverleaflaw05.GravitySpans'. -/
def gravitySpansCard : Claim7 := { stood := { row := gravitySpansRow, standIns := [], harness := (true, "7beca0c3d51d5b13018226e0a3ec850405335d46189a4e3e5247aa211c8b033a"), looks := false }, kinds := [], alts := [], laidByText := true, laidKinds := [.widerDeep], laidTests := true, laidLooks := .later }
def GravitySpansCardSaid : Prop := Claim7.holds Tryd.pinned (.plain (OpenSpec.ofChange gravitySpansSpec)) gravitySpansCard

/-- THE TIED CARD OF 'cloverleaflaw05.GravityTied'. -/
def gravityTiedCard : Claim7 := { stood := { row := gravityTiedRow, standIns := [], harness := (true, "7beca0c3d51d5b13018226e0a3ec850405335d46189a4e3e5247aa211c8b033a"), looks := false }, kinds := [], alts := [], laidByText := true, laidKinds := [.widerDeep], laidTests := true, laidLooks := .later }
def GravityTiedCardSaid : Prop := Claim7.holds Tryd.pinned (.plain (OpenSpec.ofChange gravityTiedSpec)) gravityTiedCard

/-- THE SECOND FORM's CARD OF 'cloverleaflaw05.GravityComposes'. -/
def gravityComposesUptoCard : Claim7 := { stood := { row := gravityComposesUptoRow, standIns := [], harness := (true, "7beca0c3d51d5b13018226e0a3ec850405335d46189a4e3e5247aa211c8b033a"), looks := false }, kinds := [], alts := [], laidByText := true, laidKinds := [.widerDeep], laidTests := true, laidLooks := .later }
def GravityComposesUptoCardSaid : Prop := Claim7.holds Tryd.pinned (.plain (OpenSpec.upto gravityComposesSpec)) gravityComposesUptoCard

/-- THE SECOND FORM's CARD OF 'cloverleaflaw05.GravityHeights'. -/
def gravityHeightsUptoCard : Claim7 := { stood := { row := gravityHeightsUptoRow, standIns := [], harness := (true, "7beca0c3d51d5b13018226e0a3ec850405335d46189a4e3e5247aa211c8b033a"), looks := false }, kinds := [], alts := [], laidByText := true, laidKinds := [.widerDeep], laidTests := true, laidLooks := .later }
def GravityHeightsUptoCardSaid : Prop := Claim7.holds Tryd.pinned (.plain (OpenSpec.upto gravityHeightsSpec)) gravityHeightsUptoCard

/-- THE SECOND FORM's CARD OF 'cloverleaflaw05.GravityClosures'. -/
def gravityClosuresUptoCard : Claim7 := { stood := { row := gravityClosuresUptoRow, standIns := [], harness := (true, "7beca0c3d51d5b13018226e0a3ec850405335d46189a4e3e5247aa211c8b033a"), looks := false }, kinds := [], alts := [], laidByText := true, laidKinds := [.widerDeep], laidTests := true, laidLooks := .later }
def GravityClosuresUptoCardSaid : Prop := Claim7.holds Tryd.pinned (.plain (OpenSpec.upto gravityClosuresSpec)) gravityClosuresUptoCard

/-- THE SECOND FORM's CARD OF 'cloverleaflaw05.GravityNets'. -/
def gravityNetsUptoCard : Claim7 := { stood := { row := gravityNetsUptoRow, standIns := [], harness := (true, "7beca0c3d51d5b13018226e0a3ec850405335d46189a4e3e5247aa211c8b033a"), looks := false }, kinds := [], alts := [], laidByText := true, laidKinds := [.widerDeep], laidTests := true, laidLooks := .later }
def GravityNetsUptoCardSaid : Prop := Claim7.holds Tryd.pinned (.plain (OpenSpec.upto gravityNetsSpec)) gravityNetsUptoCard

/-- THE SECOND FORM's CARD OF 'cloverleaflaw05.GravityRates'. -/
def gravityRatesUptoCard : Claim7 := { stood := { row := gravityRatesUptoRow, standIns := [], harness := (true, "7beca0c3d51d5b13018226e0a3ec850405335d46189a4e3e5247aa211c8b033a"), looks := false }, kinds := [], alts := [], laidByText := true, laidKinds := [.widerDeep], laidTests := true, laidLooks := .later }
def GravityRatesUptoCardSaid : Prop := Claim7.holds Tryd.pinned (.plain (OpenSpec.upto gravityRatesSpec)) gravityRatesUptoCard

/-- THE SECOND FORM's CARD OF 'cloverleaflaw05.GravityPossible'. -/
def gravityPossibleUptoCard : Claim7 := { stood := { row := gravityPossibleUptoRow, standIns := [], harness := (true, "7beca0c3d51d5b13018226e0a3ec850405335d46189a4e3e5247aa211c8b033a"), looks := false }, kinds := [], alts := [], laidByText := true, laidKinds := [.widerDeep], laidTests := true, laidLooks := .later }
def GravityPossibleUptoCardSaid : Prop := Claim7.holds Tryd.pinned (.plain (OpenSpec.upto gravityPossibleSpec)) gravityPossibleUptoCard

/-- THE SECOND FORM's CARD OF 'cloverleaflaw05.GravityWithin'. -/
def gravityWithinUptoCard : Claim7 := { stood := { row := gravityWithinUptoRow, standIns := [], harness := (true, "7beca0c3d51d5b13018226e0a3ec850405335d46189a4e3e5247aa211c8b033a"), looks := false }, kinds := [], alts := [], laidByText := true, laidKinds := [.widerDeep], laidTests := true, laidLooks := .later }
def GravityWithinUptoCardSaid : Prop := Claim7.holds Tryd.pinned (.plain (OpenSpec.upto gravityWithinSpec)) gravityWithinUptoCard

/-- THE SECOND FORM's CARD OF 'cloverleaflaw05.GravityCalm'. -/
def gravityCalmUptoCard : Claim7 := { stood := { row := gravityCalmUptoRow, standIns := [], harness := (true, "7beca0c3d51d5b13018226e0a3ec850405335d46189a4e3e5247aa211c8b033a"), looks := false }, kinds := [], alts := [], laidByText := true, laidKinds := [.widerDeep], laidTests := true, laidLooks := .later }
def GravityCalmUptoCardSaid : Prop := Claim7.holds Tryd.pinned (.plain (OpenSpec.upto gravityCalmSpec)) gravityCalmUptoCard

/-- THE SECOND FORM's CARD OF 'cloverleaflaw05.GravityFilters'. -/
def gravityFiltersUptoCard : Claim7 := { stood := { row := gravityFiltersUptoRow, standIns := [], harness := (true, "7beca0c3d51d5b13018226e0a3ec850405335d46189a4e3e5247aa211c8b033a"), looks := false }, kinds := [], alts := [], laidByText := true, laidKinds := [.widerDeep, .data], laidTests := true, laidLooks := .later }
def GravityFiltersUptoCardSaid : Prop := Claim7.holds Tryd.pinned (.plain (OpenSpec.upto gravityFiltersSpec)) gravityFiltersUptoCard

/-- THE SECOND FORM's CARD OF 'cloverleaflaw05.GravityGains'. -/
def gravityGainsUptoCard : Claim7 := { stood := { row := gravityGainsUptoRow, standIns := [], harness := (true, "7beca0c3d51d5b13018226e0a3ec850405335d46189a4e3e5247aa211c8b033a"), looks := false }, kinds := [], alts := [], laidByText := true, laidKinds := [.widerDeep, .data], laidTests := true, laidLooks := .later }
def GravityGainsUptoCardSaid : Prop := Claim7.holds Tryd.pinned (.plain (OpenSpec.upto gravityGainsSpec)) gravityGainsUptoCard

/-- THE SECOND FORM's CARD OF 'cloverleaflaw05.GravitySpans'. -/
def gravitySpansUptoCard : Claim7 := { stood := { row := gravitySpansUptoRow, standIns := [], harness := (true, "7beca0c3d51d5b13018226e0a3ec850405335d46189a4e3e5247aa211c8b033a"), looks := false }, kinds := [], alts := [], laidByText := true, laidKinds := [.widerDeep], laidTests := true, laidLooks := .later }
def GravitySpansUptoCardSaid : Prop := Claim7.holds Tryd.pinned (.plain (OpenSpec.upto gravitySpansSpec)) gravitySpansUptoCard

/-- THE SECOND FORM's CARD OF 'cloverleaflaw05.GravityTied'. -/
def gravityTiedUptoCard : Claim7 := { stood := { row := gravityTiedUptoRow, standIns := [], harness := (true, "7beca0c3d51d5b13018226e0a3ec850405335d46189a4e3e5247aa211c8b033a"), looks := false }, kinds := [], alts := [], laidByText := true, laidKinds := [.widerDeep], laidTests := true, laidLooks := .later }
def GravityTiedUptoCardSaid : Prop := Claim7.holds Tryd.pinned (.plain (OpenSpec.upto gravityTiedSpec)) gravityTiedUptoCard
end Rows
end Go.Proofs.YtcecdmdnfmgnfaaDoor
