/-
  DERIVED. GIVEN WITH THE SEED: THE CARDS: each row of YtfapfcjioianbaaDoorRows.lean that lists a variable, with what it lists TIED to the program's text (the seventh form; the later family's looks); each row that meets fmt, with fmt's text TOLD by the authors' own Lean function (tested against real Go, not proved from fmt's source: count such statements apart). THE CARD IS WHAT COUNTS. Prove the row's statement (the work); the ties are given (YtfapfcjioianbaaDoorTie.lean); close each card by the builder's one call (the guide's Derived/Test/ToyasCard.lean, 'card_holds'). Laid BY PROGRAM, IN A SANDBOX (cutbox-door.mjs). By AI agents, Wed Nov 11 2026. No macro, syntax, notation, axiom, sorry.
-/
import Derived.Test.YtfapfcjioianbaaDoorRows
import GoSem.ClaimSeven
namespace Go.Proofs.YtfapfcjioianbaaDoor
namespace Rows

/-- THE TIED CARD OF 'cloverleaftop.TopGravityTruth'. -/
def topGravityTruthCard : Claim7 := { stood := { row := topGravityTruthRow, standIns := [], harness := (true, "7ccf3f3760c9964838b68f759d3d3794a9a86fc3cf8e7e55709905eac66918cb"), looks := false }, kinds := [], alts := [], laidByText := true, laidKinds := [.widerDeep], laidTests := true, laidLooks := .later }
def TopGravityTruthCardSaid : Prop := Claim7.holds Tryd.pinned (.plain (OpenSpec.ofChange topGravityTruthSpec)) topGravityTruthCard

/-- THE SECOND FORM's CARD OF 'cloverleaftop.TopGravityTruth'. -/
def topGravityTruthUptoCard : Claim7 := { stood := { row := topGravityTruthUptoRow, standIns := [], harness := (true, "7ccf3f3760c9964838b68f759d3d3794a9a86fc3cf8e7e55709905eac66918cb"), looks := false }, kinds := [], alts := [], laidByText := true, laidKinds := [.widerDeep], laidTests := true, laidLooks := .later }
def TopGravityTruthUptoCardSaid : Prop := Claim7.holds Tryd.pinned (.plain (OpenSpec.upto topGravityTruthSpec)) topGravityTruthUptoCard
end Rows
end Go.Proofs.YtfapfcjioianbaaDoor
