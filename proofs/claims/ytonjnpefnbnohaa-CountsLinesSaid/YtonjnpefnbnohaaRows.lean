/-
  No cell of these rows narrows 'for every input' (looked for: loops, veiled, ifaces, maps, wideKeys, modest, calm, conditions, laid).
  DERIVED. THE GIVEN ROWS OF THIS SEAT. 11 by the template 'for every input the law returns true; each argument reads behind the call as it read before'; 0 by the template 'total and deterministic' (their statements: YtonjnpefnbnohaaTotals.lean).
  GIVEN WITH THE SEED: the statements are not yours to turn. If you find one false, say at which input.
  Laid BY PROGRAM, IN A SANDBOX (cutbox-rows.mjs): the forced cells as the released guide's own fill.sh prints them over the translation 82ed7847882199a3… (all of the seat's roots in one cut). By AI agents, Wed Nov 11 2026. No macro, syntax, notation, axiom, sorry.
-/
import Derived.Test.YtonjnpefnbnohaaChecked
import GoSem.Claim
import GoSem.ClaimJoined
import GoSem.ClaimMapViews
import Derived.JoinedTies
import Derived.KernelRfl
namespace Go.Proofs.Ytonjnpefnbnohaa
/- THE CELL 'sum', in the pinned program and in every row, IS THE sha256 OF THE DUMP (.gsa) THAT YtonjnpefnbnohaaProg.lean LOADS. Nothing in Lean hashes anything: it is a label: what it is worth is what the hold of that sum in a sandbox is worth. -/
noncomputable def Try.pinned : Pinned := { name := "ytonjnpefnbnohaa", sum := "82ed7847882199a3cefc01cd3b5f5f469c3766db4d8da59cce10065bde132425", checked := Try.checked }
namespace Rows
def none {H : Type} : Left H := { results := [], args := [] }

/-- 'cloverleaflaw06.CountsRuled': WHATEVER THE INPUT: true; the input reads as it did. -/
def countsRuledSpec : ChangeSpec := { name := "countsRuled", fn := fun _ => fun
  | [d1, d2] => { results := [.lit (.bool true)], args := [d1, d2] }
  | _ => none }
def countsRuledRow : OpenClaim := { program := "ytonjnpefnbnohaa", sum := "82ed7847882199a3cefc01cd3b5f5f469c3766db4d8da59cce10065bde132425", func := "cloverleaf/cloverleaflaw06.CountsRuled", spec := "countsRuled", unfollowed := true, recurses := true, apart := false }
def CountsRuledSaid : Prop := countsRuledRow.holds Try.pinned (OpenSpec.ofChange countsRuledSpec)

/-- ITS FALSE NEIGHBOUR: 'it returns false'. Refute it at one input. -/
def countsRuledWrong : ChangeSpec := { name := "countsRuled", fn := fun _ => fun
  | [d1, d2] => { results := [.lit (.bool false)], args := [d1, d2] }
  | _ => none }
def CountsRuledWrongFalsely : Prop := countsRuledRow.holds Try.pinned (OpenSpec.ofChange countsRuledWrong)

/-- 'cloverleaflaw06.CountsBands': WHATEVER THE INPUT: true; the input reads as it did. -/
def countsBandsSpec : ChangeSpec := { name := "countsBands", fn := fun _ => fun
  | [d1, d2, d3] => { results := [.lit (.bool true)], args := [d1, d2, d3] }
  | _ => none }
def countsBandsRow : OpenClaim := { program := "ytonjnpefnbnohaa", sum := "82ed7847882199a3cefc01cd3b5f5f469c3766db4d8da59cce10065bde132425", func := "cloverleaf/cloverleaflaw06.CountsBands", spec := "countsBands", unfollowed := true, recurses := true, apart := false }
def CountsBandsSaid : Prop := countsBandsRow.holds Try.pinned (OpenSpec.ofChange countsBandsSpec)

/-- ITS FALSE NEIGHBOUR: 'it returns false'. Refute it at one input. -/
def countsBandsWrong : ChangeSpec := { name := "countsBands", fn := fun _ => fun
  | [d1, d2, d3] => { results := [.lit (.bool false)], args := [d1, d2, d3] }
  | _ => none }
def CountsBandsWrongFalsely : Prop := countsBandsRow.holds Try.pinned (OpenSpec.ofChange countsBandsWrong)

/-- 'cloverleaflaw06.CountsLines': WHATEVER THE INPUT: true; the input reads as it did. -/
def countsLinesSpec : ChangeSpec := { name := "countsLines", fn := fun _ => fun
  | [d1, d2] => { results := [.lit (.bool true)], args := [d1, d2] }
  | _ => none }
def countsLinesRow : OpenClaim := { program := "ytonjnpefnbnohaa", sum := "82ed7847882199a3cefc01cd3b5f5f469c3766db4d8da59cce10065bde132425", func := "cloverleaf/cloverleaflaw06.CountsLines", spec := "countsLines", unfollowed := true, recurses := true, apart := false }
def CountsLinesSaid : Prop := countsLinesRow.holds Try.pinned (OpenSpec.ofChange countsLinesSpec)

/-- ITS FALSE NEIGHBOUR: 'it returns false'. Refute it at one input. -/
def countsLinesWrong : ChangeSpec := { name := "countsLines", fn := fun _ => fun
  | [d1, d2] => { results := [.lit (.bool false)], args := [d1, d2] }
  | _ => none }
def CountsLinesWrongFalsely : Prop := countsLinesRow.holds Try.pinned (OpenSpec.ofChange countsLinesWrong)

/-- 'cloverleaflaw06.CountsNet': WHATEVER THE INPUT: true; the input reads as it did. -/
def countsNetSpec : ChangeSpec := { name := "countsNet", fn := fun _ => fun
  | [d1, d2] => { results := [.lit (.bool true)], args := [d1, d2] }
  | _ => none }
def countsNetRow : OpenClaim := { program := "ytonjnpefnbnohaa", sum := "82ed7847882199a3cefc01cd3b5f5f469c3766db4d8da59cce10065bde132425", func := "cloverleaf/cloverleaflaw06.CountsNet", spec := "countsNet", unfollowed := true, recurses := true, apart := false }
def CountsNetSaid : Prop := countsNetRow.holds Try.pinned (OpenSpec.ofChange countsNetSpec)

/-- ITS FALSE NEIGHBOUR: 'it returns false'. Refute it at one input. -/
def countsNetWrong : ChangeSpec := { name := "countsNet", fn := fun _ => fun
  | [d1, d2] => { results := [.lit (.bool false)], args := [d1, d2] }
  | _ => none }
def CountsNetWrongFalsely : Prop := countsNetRow.holds Try.pinned (OpenSpec.ofChange countsNetWrong)

/-- 'cloverleaflaw06.CountsMore': WHATEVER THE INPUT: true; the input reads as it did. -/
def countsMoreSpec : ChangeSpec := { name := "countsMore", fn := fun _ => fun
  | [d1, d2, d3] => { results := [.lit (.bool true)], args := [d1, d2, d3] }
  | _ => none }
def countsMoreRow : OpenClaim := { program := "ytonjnpefnbnohaa", sum := "82ed7847882199a3cefc01cd3b5f5f469c3766db4d8da59cce10065bde132425", func := "cloverleaf/cloverleaflaw06.CountsMore", spec := "countsMore", unfollowed := true, recurses := true, apart := false }
def CountsMoreSaid : Prop := countsMoreRow.holds Try.pinned (OpenSpec.ofChange countsMoreSpec)

/-- ITS FALSE NEIGHBOUR: 'it returns false'. Refute it at one input. -/
def countsMoreWrong : ChangeSpec := { name := "countsMore", fn := fun _ => fun
  | [d1, d2, d3] => { results := [.lit (.bool false)], args := [d1, d2, d3] }
  | _ => none }
def CountsMoreWrongFalsely : Prop := countsMoreRow.holds Try.pinned (OpenSpec.ofChange countsMoreWrong)

/-- 'cloverleaflaw06.CountsKept': WHATEVER THE INPUT: true; the input reads as it did. -/
def countsKeptSpec : ChangeSpec := { name := "countsKept", fn := fun _ => fun
  | [d1, d2] => { results := [.lit (.bool true)], args := [d1, d2] }
  | _ => none }
def countsKeptRow : OpenClaim := { program := "ytonjnpefnbnohaa", sum := "82ed7847882199a3cefc01cd3b5f5f469c3766db4d8da59cce10065bde132425", func := "cloverleaf/cloverleaflaw06.CountsKept", spec := "countsKept", unfollowed := true, recurses := true, apart := false }
def CountsKeptSaid : Prop := countsKeptRow.holds Try.pinned (OpenSpec.ofChange countsKeptSpec)

/-- ITS FALSE NEIGHBOUR: 'it returns false'. Refute it at one input. -/
def countsKeptWrong : ChangeSpec := { name := "countsKept", fn := fun _ => fun
  | [d1, d2] => { results := [.lit (.bool false)], args := [d1, d2] }
  | _ => none }
def CountsKeptWrongFalsely : Prop := countsKeptRow.holds Try.pinned (OpenSpec.ofChange countsKeptWrong)

/-- 'cloverleaflaw06.CountsReduced': WHATEVER THE INPUT: true; the input reads as it did. -/
def countsReducedSpec : ChangeSpec := { name := "countsReduced", fn := fun _ => fun
  | [d1, d2] => { results := [.lit (.bool true)], args := [d1, d2] }
  | _ => none }
def countsReducedRow : OpenClaim := { program := "ytonjnpefnbnohaa", sum := "82ed7847882199a3cefc01cd3b5f5f469c3766db4d8da59cce10065bde132425", func := "cloverleaf/cloverleaflaw06.CountsReduced", spec := "countsReduced", unfollowed := true, recurses := true, apart := false }
def CountsReducedSaid : Prop := countsReducedRow.holds Try.pinned (OpenSpec.ofChange countsReducedSpec)

/-- ITS FALSE NEIGHBOUR: 'it returns false'. Refute it at one input. -/
def countsReducedWrong : ChangeSpec := { name := "countsReduced", fn := fun _ => fun
  | [d1, d2] => { results := [.lit (.bool false)], args := [d1, d2] }
  | _ => none }
def CountsReducedWrongFalsely : Prop := countsReducedRow.holds Try.pinned (OpenSpec.ofChange countsReducedWrong)

/-- 'cloverleaflaw06.CountsOnce': WHATEVER THE INPUT: true; the input reads as it did. -/
def countsOnceSpec : ChangeSpec := { name := "countsOnce", fn := fun _ => fun
  | [d1, d2, d3] => { results := [.lit (.bool true)], args := [d1, d2, d3] }
  | _ => none }
def countsOnceRow : OpenClaim := { program := "ytonjnpefnbnohaa", sum := "82ed7847882199a3cefc01cd3b5f5f469c3766db4d8da59cce10065bde132425", func := "cloverleaf/cloverleaflaw06.CountsOnce", spec := "countsOnce", unfollowed := true, recurses := true, apart := false }
def CountsOnceSaid : Prop := countsOnceRow.holds Try.pinned (OpenSpec.ofChange countsOnceSpec)

/-- ITS FALSE NEIGHBOUR: 'it returns false'. Refute it at one input. -/
def countsOnceWrong : ChangeSpec := { name := "countsOnce", fn := fun _ => fun
  | [d1, d2, d3] => { results := [.lit (.bool false)], args := [d1, d2, d3] }
  | _ => none }
def CountsOnceWrongFalsely : Prop := countsOnceRow.holds Try.pinned (OpenSpec.ofChange countsOnceWrong)

/-- 'cloverleaflaw06.CountsSpectra': WHATEVER THE INPUT: true; the input reads as it did. -/
def countsSpectraSpec : ChangeSpec := { name := "countsSpectra", fn := fun _ => fun
  | [d1, d2, d3] => { results := [.lit (.bool true)], args := [d1, d2, d3] }
  | _ => none }
def countsSpectraRow : OpenClaim := { program := "ytonjnpefnbnohaa", sum := "82ed7847882199a3cefc01cd3b5f5f469c3766db4d8da59cce10065bde132425", func := "cloverleaf/cloverleaflaw06.CountsSpectra", spec := "countsSpectra", unfollowed := true, recurses := true, apart := false }
def CountsSpectraSaid : Prop := countsSpectraRow.holds Try.pinned (OpenSpec.ofChange countsSpectraSpec)

/-- ITS FALSE NEIGHBOUR: 'it returns false'. Refute it at one input. -/
def countsSpectraWrong : ChangeSpec := { name := "countsSpectra", fn := fun _ => fun
  | [d1, d2, d3] => { results := [.lit (.bool false)], args := [d1, d2, d3] }
  | _ => none }
def CountsSpectraWrongFalsely : Prop := countsSpectraRow.holds Try.pinned (OpenSpec.ofChange countsSpectraWrong)

/-- 'cloverleaflaw06.CountsUndone': WHATEVER THE INPUT: true; the input reads as it did. -/
def countsUndoneSpec : ChangeSpec := { name := "countsUndone", fn := fun _ => fun
  | [d1, d2, d3] => { results := [.lit (.bool true)], args := [d1, d2, d3] }
  | _ => none }
def countsUndoneRow : OpenClaim := { program := "ytonjnpefnbnohaa", sum := "82ed7847882199a3cefc01cd3b5f5f469c3766db4d8da59cce10065bde132425", func := "cloverleaf/cloverleaflaw06.CountsUndone", spec := "countsUndone", unfollowed := true, recurses := true, apart := false }
def CountsUndoneSaid : Prop := countsUndoneRow.holds Try.pinned (OpenSpec.ofChange countsUndoneSpec)

/-- ITS FALSE NEIGHBOUR: 'it returns false'. Refute it at one input. -/
def countsUndoneWrong : ChangeSpec := { name := "countsUndone", fn := fun _ => fun
  | [d1, d2, d3] => { results := [.lit (.bool false)], args := [d1, d2, d3] }
  | _ => none }
def CountsUndoneWrongFalsely : Prop := countsUndoneRow.holds Try.pinned (OpenSpec.ofChange countsUndoneWrong)

/-- 'cloverleaflaw06.CountsStripped': WHATEVER THE INPUT: true; the input reads as it did. -/
def countsStrippedSpec : ChangeSpec := { name := "countsStripped", fn := fun _ => fun
  | [d1, d2, d3] => { results := [.lit (.bool true)], args := [d1, d2, d3] }
  | _ => none }
def countsStrippedRow : OpenClaim := { program := "ytonjnpefnbnohaa", sum := "82ed7847882199a3cefc01cd3b5f5f469c3766db4d8da59cce10065bde132425", func := "cloverleaf/cloverleaflaw06.CountsStripped", spec := "countsStripped", unfollowed := true, recurses := true, apart := false }
def CountsStrippedSaid : Prop := countsStrippedRow.holds Try.pinned (OpenSpec.ofChange countsStrippedSpec)

/-- ITS FALSE NEIGHBOUR: 'it returns false'. Refute it at one input. -/
def countsStrippedWrong : ChangeSpec := { name := "countsStripped", fn := fun _ => fun
  | [d1, d2, d3] => { results := [.lit (.bool false)], args := [d1, d2, d3] }
  | _ => none }
def CountsStrippedWrongFalsely : Prop := countsStrippedRow.holds Try.pinned (OpenSpec.ofChange countsStrippedWrong)

/- THE SECOND FORM. 'bulk': how many values and letters a reading holds, each counted each time it is reached (what is shared counts as often as it is met; a slice's spare places count too). A statement '..UptoSaid' is the law's where the arguments, and the package variables that the reading takes, are together of bulk at most 1048576: NARROWER than '..Said'. Prove '..Said' where nothing that the law and all that it calls make is longer than what came in: it says more and counts as full. Else prove '..UptoSaid'. A law counts once. -/
mutual
def uptoBulk {H : Type} : DataW H → Nat
  | .lit (.string bytes) => bytes.length + 1
  | .lit _ => 1
  | .nil => 1
  | .ptr d => uptoBulk d + 1
  | .slice elems spare => uptoBulkAll elems + uptoBulkAll spare + 1
  | .agg parts => uptoBulkAll parts + 1
  | .iface _ d => uptoBulk d + 1
  | .map entries => uptoBulkEntries entries + 1
  | .held _ => 1
def uptoBulkAll {H : Type} : List (DataW H) → Nat
  | [] => 0
  | d :: r => uptoBulk d + uptoBulkAll r
def uptoBulkEntries {H : Type} : List (Lit × DataW H) → Nat
  | [] => 0
  | x :: r => uptoBulkEntry x + uptoBulkEntries r
def uptoBulkEntry {H : Type} : Lit × DataW H → Nat
  | (.string bytes, d) => bytes.length + uptoBulk d + 1
  | (_, d) => uptoBulk d + 1
 end
def uptoSmall : (H : Type) → List (DataW H) → Bool := fun _ ds => decide (uptoBulkAll ds ≤ 1048576)
def OpenSpec.upto (s : _root_.Go.ChangeSpec) : _root_.Go.OpenSpec := { _root_.Go.OpenSpec.ofChange s with cond := some uptoSmall }

/-- 'cloverleaflaw06.CountsRuled', WHERE WHAT IT READS IS OF BULK AT MOST 1048576: true; the input reads as it did. -/
def countsRuledUptoRow : OpenClaim := { program := "ytonjnpefnbnohaa", sum := "82ed7847882199a3cefc01cd3b5f5f469c3766db4d8da59cce10065bde132425", func := "cloverleaf/cloverleaflaw06.CountsRuled", spec := "countsRuled", unfollowed := true, recurses := true, apart := false, narrowed := true }
def CountsRuledUptoSaid : Prop := countsRuledUptoRow.holds Try.pinned (OpenSpec.upto countsRuledSpec)

/-- 'cloverleaflaw06.CountsBands', WHERE WHAT IT READS IS OF BULK AT MOST 1048576: true; the input reads as it did. -/
def countsBandsUptoRow : OpenClaim := { program := "ytonjnpefnbnohaa", sum := "82ed7847882199a3cefc01cd3b5f5f469c3766db4d8da59cce10065bde132425", func := "cloverleaf/cloverleaflaw06.CountsBands", spec := "countsBands", unfollowed := true, recurses := true, apart := false, narrowed := true }
def CountsBandsUptoSaid : Prop := countsBandsUptoRow.holds Try.pinned (OpenSpec.upto countsBandsSpec)

/-- 'cloverleaflaw06.CountsLines', WHERE WHAT IT READS IS OF BULK AT MOST 1048576: true; the input reads as it did. -/
def countsLinesUptoRow : OpenClaim := { program := "ytonjnpefnbnohaa", sum := "82ed7847882199a3cefc01cd3b5f5f469c3766db4d8da59cce10065bde132425", func := "cloverleaf/cloverleaflaw06.CountsLines", spec := "countsLines", unfollowed := true, recurses := true, apart := false, narrowed := true }
def CountsLinesUptoSaid : Prop := countsLinesUptoRow.holds Try.pinned (OpenSpec.upto countsLinesSpec)

/-- 'cloverleaflaw06.CountsNet', WHERE WHAT IT READS IS OF BULK AT MOST 1048576: true; the input reads as it did. -/
def countsNetUptoRow : OpenClaim := { program := "ytonjnpefnbnohaa", sum := "82ed7847882199a3cefc01cd3b5f5f469c3766db4d8da59cce10065bde132425", func := "cloverleaf/cloverleaflaw06.CountsNet", spec := "countsNet", unfollowed := true, recurses := true, apart := false, narrowed := true }
def CountsNetUptoSaid : Prop := countsNetUptoRow.holds Try.pinned (OpenSpec.upto countsNetSpec)

/-- 'cloverleaflaw06.CountsMore', WHERE WHAT IT READS IS OF BULK AT MOST 1048576: true; the input reads as it did. -/
def countsMoreUptoRow : OpenClaim := { program := "ytonjnpefnbnohaa", sum := "82ed7847882199a3cefc01cd3b5f5f469c3766db4d8da59cce10065bde132425", func := "cloverleaf/cloverleaflaw06.CountsMore", spec := "countsMore", unfollowed := true, recurses := true, apart := false, narrowed := true }
def CountsMoreUptoSaid : Prop := countsMoreUptoRow.holds Try.pinned (OpenSpec.upto countsMoreSpec)

/-- 'cloverleaflaw06.CountsKept', WHERE WHAT IT READS IS OF BULK AT MOST 1048576: true; the input reads as it did. -/
def countsKeptUptoRow : OpenClaim := { program := "ytonjnpefnbnohaa", sum := "82ed7847882199a3cefc01cd3b5f5f469c3766db4d8da59cce10065bde132425", func := "cloverleaf/cloverleaflaw06.CountsKept", spec := "countsKept", unfollowed := true, recurses := true, apart := false, narrowed := true }
def CountsKeptUptoSaid : Prop := countsKeptUptoRow.holds Try.pinned (OpenSpec.upto countsKeptSpec)

/-- 'cloverleaflaw06.CountsReduced', WHERE WHAT IT READS IS OF BULK AT MOST 1048576: true; the input reads as it did. -/
def countsReducedUptoRow : OpenClaim := { program := "ytonjnpefnbnohaa", sum := "82ed7847882199a3cefc01cd3b5f5f469c3766db4d8da59cce10065bde132425", func := "cloverleaf/cloverleaflaw06.CountsReduced", spec := "countsReduced", unfollowed := true, recurses := true, apart := false, narrowed := true }
def CountsReducedUptoSaid : Prop := countsReducedUptoRow.holds Try.pinned (OpenSpec.upto countsReducedSpec)

/-- 'cloverleaflaw06.CountsOnce', WHERE WHAT IT READS IS OF BULK AT MOST 1048576: true; the input reads as it did. -/
def countsOnceUptoRow : OpenClaim := { program := "ytonjnpefnbnohaa", sum := "82ed7847882199a3cefc01cd3b5f5f469c3766db4d8da59cce10065bde132425", func := "cloverleaf/cloverleaflaw06.CountsOnce", spec := "countsOnce", unfollowed := true, recurses := true, apart := false, narrowed := true }
def CountsOnceUptoSaid : Prop := countsOnceUptoRow.holds Try.pinned (OpenSpec.upto countsOnceSpec)

/-- 'cloverleaflaw06.CountsSpectra', WHERE WHAT IT READS IS OF BULK AT MOST 1048576: true; the input reads as it did. -/
def countsSpectraUptoRow : OpenClaim := { program := "ytonjnpefnbnohaa", sum := "82ed7847882199a3cefc01cd3b5f5f469c3766db4d8da59cce10065bde132425", func := "cloverleaf/cloverleaflaw06.CountsSpectra", spec := "countsSpectra", unfollowed := true, recurses := true, apart := false, narrowed := true }
def CountsSpectraUptoSaid : Prop := countsSpectraUptoRow.holds Try.pinned (OpenSpec.upto countsSpectraSpec)

/-- 'cloverleaflaw06.CountsUndone', WHERE WHAT IT READS IS OF BULK AT MOST 1048576: true; the input reads as it did. -/
def countsUndoneUptoRow : OpenClaim := { program := "ytonjnpefnbnohaa", sum := "82ed7847882199a3cefc01cd3b5f5f469c3766db4d8da59cce10065bde132425", func := "cloverleaf/cloverleaflaw06.CountsUndone", spec := "countsUndone", unfollowed := true, recurses := true, apart := false, narrowed := true }
def CountsUndoneUptoSaid : Prop := countsUndoneUptoRow.holds Try.pinned (OpenSpec.upto countsUndoneSpec)

/-- 'cloverleaflaw06.CountsStripped', WHERE WHAT IT READS IS OF BULK AT MOST 1048576: true; the input reads as it did. -/
def countsStrippedUptoRow : OpenClaim := { program := "ytonjnpefnbnohaa", sum := "82ed7847882199a3cefc01cd3b5f5f469c3766db4d8da59cce10065bde132425", func := "cloverleaf/cloverleaflaw06.CountsStripped", spec := "countsStripped", unfollowed := true, recurses := true, apart := false, narrowed := true }
def CountsStrippedUptoSaid : Prop := countsStrippedUptoRow.holds Try.pinned (OpenSpec.upto countsStrippedSpec)

end Rows
end Go.Proofs.Ytonjnpefnbnohaa
