/-
  DERIVED. GIVEN WITH THE SEED: THE CARDS: each row of YtepdfhjmngbhhaaGreatDoorRows.lean that lists a variable, with what it lists TIED to the program's text (the seventh form; the later family's looks); each row that meets fmt, with fmt's text TOLD by the authors' own Lean function (tested against real Go, not proved from fmt's source: count such statements apart). THE CARD IS WHAT COUNTS. Prove the row's statement (the work); the ties are given (YtepdfhjmngbhhaaGreatDoorTie.lean); close each card by the builder's one call (the guide's Derived/Test/ToyasCard.lean, 'card_holds'). Laid BY PROGRAM, IN A SANDBOX (cutbox-door.mjs). By AI agents, Wed Nov 11 2026. No macro, syntax, notation, axiom, sorry.
-/
import Derived.Test.YtepdfhjmngbhhaaGreatDoorRows
import GoSem.ClaimSeven
namespace Go.Proofs.YtepdfhjmngbhhaaGreatDoor
namespace Rows

/-- THE TIED CARD OF 'cloverleaftop.TopGravityTied'. -/
def topGravityTiedCard : Claim7 := { stood := { row := topGravityTiedRow, standIns := [], harness := (true, "c5ecd20dd795f11de65871ff9b567c1d3094557c7ee3f0a20aed00f7b83d932c"), looks := true }, kinds := [], alts := [], laidByText := true, laidKinds := [.data, .data, .data, .data, .sentinel, .sentinel, .widerDeep, .pinned], laidTests := true, laidLooks := .later }
def TopGravityTiedCardSaid : Prop := Claim7.holds Tryz.pinned (.plain (OpenSpec.ofChange topGravityTiedSpec)) topGravityTiedCard

/-- THE TIED CARD OF 'cloverleaflaw04.GroundStrings'. -/
def groundStringsCard : Claim7 := { stood := { row := groundStringsRow, standIns := [], harness := (true, "c5ecd20dd795f11de65871ff9b567c1d3094557c7ee3f0a20aed00f7b83d932c"), looks := true }, kinds := [], alts := [], laidByText := true, laidKinds := [.data, .data, .data, .data, .sentinel, .sentinel, .pinned], laidTests := true, laidLooks := .later }
def GroundStringsCardSaid : Prop := Claim7.holds Tryz.pinned (.plain (OpenSpec.ofChange groundStringsSpec)) groundStringsCard

/-- THE TIED CARD OF 'cloverleaflaw05.GravityStrings'. -/
def gravityStringsCard : Claim7 := { stood := { row := gravityStringsRow, standIns := [], harness := (true, "c5ecd20dd795f11de65871ff9b567c1d3094557c7ee3f0a20aed00f7b83d932c"), looks := true }, kinds := [], alts := [], laidByText := true, laidKinds := [.data, .data, .data, .data, .sentinel, .sentinel, .widerDeep, .pinned], laidTests := true, laidLooks := .later }
def GravityStringsCardSaid : Prop := Claim7.holds Tryz.pinned (.plain (OpenSpec.ofChange gravityStringsSpec)) gravityStringsCard

/-- THE TIED CARD OF 'cloverleaftop.TopGroundContained'. -/
def topGroundContainedCard : Claim7 := { stood := { row := topGroundContainedRow, standIns := [], harness := (true, "c5ecd20dd795f11de65871ff9b567c1d3094557c7ee3f0a20aed00f7b83d932c"), looks := true }, kinds := [], alts := [], laidByText := true, laidKinds := [.data, .data, .data, .data, .sentinel, .sentinel, .pinned], laidTests := true, laidLooks := .later }
def TopGroundContainedCardSaid : Prop := Claim7.holds Tryz.pinned (.plain (OpenSpec.ofChange topGroundContainedSpec)) topGroundContainedCard

/-- THE SECOND FORM's CARD OF 'cloverleaftop.TopGravityTied'. -/
def topGravityTiedUptoCard : Claim7 := { stood := { row := topGravityTiedUptoRow, standIns := [], harness := (true, "c5ecd20dd795f11de65871ff9b567c1d3094557c7ee3f0a20aed00f7b83d932c"), looks := true }, kinds := [], alts := [], laidByText := true, laidKinds := [.data, .data, .data, .data, .sentinel, .sentinel, .widerDeep, .pinned], laidTests := true, laidLooks := .later }
def TopGravityTiedUptoCardSaid : Prop := Claim7.holds Tryz.pinned (.plain (OpenSpec.upto topGravityTiedSpec)) topGravityTiedUptoCard

/-- THE SECOND FORM's CARD OF 'cloverleaflaw04.GroundStrings'. -/
def groundStringsUptoCard : Claim7 := { stood := { row := groundStringsUptoRow, standIns := [], harness := (true, "c5ecd20dd795f11de65871ff9b567c1d3094557c7ee3f0a20aed00f7b83d932c"), looks := true }, kinds := [], alts := [], laidByText := true, laidKinds := [.data, .data, .data, .data, .sentinel, .sentinel, .pinned], laidTests := true, laidLooks := .later }
def GroundStringsUptoCardSaid : Prop := Claim7.holds Tryz.pinned (.plain (OpenSpec.upto groundStringsSpec)) groundStringsUptoCard

/-- THE SECOND FORM's CARD OF 'cloverleaflaw05.GravityStrings'. -/
def gravityStringsUptoCard : Claim7 := { stood := { row := gravityStringsUptoRow, standIns := [], harness := (true, "c5ecd20dd795f11de65871ff9b567c1d3094557c7ee3f0a20aed00f7b83d932c"), looks := true }, kinds := [], alts := [], laidByText := true, laidKinds := [.data, .data, .data, .data, .sentinel, .sentinel, .widerDeep, .pinned], laidTests := true, laidLooks := .later }
def GravityStringsUptoCardSaid : Prop := Claim7.holds Tryz.pinned (.plain (OpenSpec.upto gravityStringsSpec)) gravityStringsUptoCard

/-- THE SECOND FORM's CARD OF 'cloverleaftop.TopGroundContained'. -/
def topGroundContainedUptoCard : Claim7 := { stood := { row := topGroundContainedUptoRow, standIns := [], harness := (true, "c5ecd20dd795f11de65871ff9b567c1d3094557c7ee3f0a20aed00f7b83d932c"), looks := true }, kinds := [], alts := [], laidByText := true, laidKinds := [.data, .data, .data, .data, .sentinel, .sentinel, .pinned], laidTests := true, laidLooks := .later }
def TopGroundContainedUptoCardSaid : Prop := Claim7.holds Tryz.pinned (.plain (OpenSpec.upto topGroundContainedSpec)) topGroundContainedUptoCard
end Rows
end Go.Proofs.YtepdfhjmngbhhaaGreatDoor
