/-
  No cell of these rows narrows 'for every input' (looked for: loops, veiled, ifaces, maps, wideKeys, modest, calm, conditions, laid).
  DERIVED. THE GIVEN ROWS OF THIS SEAT. 3 by the template 'for every input the law returns true; each argument reads behind the call as it read before'; 0 by the template 'total and deterministic' (their statements: YtehblgccaiiikaaGreatTotals.lean).
  GIVEN WITH THE SEED: the statements are not yours to turn. If you find one false, say at which input.
  Laid BY PROGRAM, IN A SANDBOX (cutbox-rows.mjs): the forced cells as the released guide's own fill.sh prints them over the translation 17fe856053688299… (all of the seat's roots in one cut). By AI agents, Wed Nov 11 2026. No macro, syntax, notation, axiom, sorry.
-/
import Derived.Test.YtehblgccaiiikaaGreatChecked
import GoSem.Claim
import GoSem.ClaimJoined
import GoSem.ClaimMapViews
import Derived.JoinedTies
import Derived.KernelRfl
namespace Go.Proofs.YtehblgccaiiikaaGreat
/- THE CELL 'sum', in the pinned program and in every row, IS THE sha256 OF THE DUMP (.gsa) THAT YtehblgccaiiikaaGreatProg.lean LOADS. Nothing in Lean hashes anything: it is a label: what it is worth is what the hold of that sum in a sandbox is worth. -/
noncomputable def Tryz.pinned : Pinned := { name := "ytehblgccaiiikaagreat", sum := "17fe856053688299e3e25f41197c359d7b1bb82d30a6c3dda42eef5a7a770ef2", checked := Tryz.checked }
namespace Rows
def none {H : Type} : Left H := { results := [], args := [] }

/-- 'cloverleaflaw04.GroundExplained': WHATEVER THE INPUT: true; the input reads as it did. -/
def groundExplainedSpec : ChangeSpec := { name := "groundExplained", fn := fun _ => fun
  | [d1, d2, d3] => { results := [.lit (.bool true)], args := [d1, d2, d3] }
  | _ => none }
def groundExplainedRow : OpenClaim := { program := "ytehblgccaiiikaagreat", sum := "17fe856053688299e3e25f41197c359d7b1bb82d30a6c3dda42eef5a7a770ef2", func := "cloverleaf/cloverleaflaw04.GroundExplained", spec := "groundExplained", unfollowed := true, recurses := true, apart := false }
def GroundExplainedSaid : Prop := groundExplainedRow.holds Tryz.pinned (OpenSpec.ofChange groundExplainedSpec)

/-- ITS FALSE NEIGHBOUR: 'it returns false'. Refute it at one input. -/
def groundExplainedWrong : ChangeSpec := { name := "groundExplained", fn := fun _ => fun
  | [d1, d2, d3] => { results := [.lit (.bool false)], args := [d1, d2, d3] }
  | _ => none }
def GroundExplainedWrongFalsely : Prop := groundExplainedRow.holds Tryz.pinned (OpenSpec.ofChange groundExplainedWrong)

/-- 'cloverleaflaw04.GroundFewest': WHATEVER THE INPUT: true; the input reads as it did. -/
def groundFewestSpec : ChangeSpec := { name := "groundFewest", fn := fun _ => fun
  | [d1, d2] => { results := [.lit (.bool true)], args := [d1, d2] }
  | _ => none }
def groundFewestRow : OpenClaim := { program := "ytehblgccaiiikaagreat", sum := "17fe856053688299e3e25f41197c359d7b1bb82d30a6c3dda42eef5a7a770ef2", func := "cloverleaf/cloverleaflaw04.GroundFewest", spec := "groundFewest", unfollowed := true, recurses := true, apart := false }
def GroundFewestSaid : Prop := groundFewestRow.holds Tryz.pinned (OpenSpec.ofChange groundFewestSpec)

/-- ITS FALSE NEIGHBOUR: 'it returns false'. Refute it at one input. -/
def groundFewestWrong : ChangeSpec := { name := "groundFewest", fn := fun _ => fun
  | [d1, d2] => { results := [.lit (.bool false)], args := [d1, d2] }
  | _ => none }
def GroundFewestWrongFalsely : Prop := groundFewestRow.holds Tryz.pinned (OpenSpec.ofChange groundFewestWrong)

/-- 'cloverleaflaw04.GroundLines': WHATEVER THE INPUT: true; the input reads as it did. -/
def groundLinesSpec : ChangeSpec := { name := "groundLines", fn := fun _ => fun
  | [d1, d2, d3] => { results := [.lit (.bool true)], args := [d1, d2, d3] }
  | _ => none }
def groundLinesRow : OpenClaim := { program := "ytehblgccaiiikaagreat", sum := "17fe856053688299e3e25f41197c359d7b1bb82d30a6c3dda42eef5a7a770ef2", func := "cloverleaf/cloverleaflaw04.GroundLines", spec := "groundLines", unfollowed := true, recurses := true, apart := false }
def GroundLinesSaid : Prop := groundLinesRow.holds Tryz.pinned (OpenSpec.ofChange groundLinesSpec)

/-- ITS FALSE NEIGHBOUR: 'it returns false'. Refute it at one input. -/
def groundLinesWrong : ChangeSpec := { name := "groundLines", fn := fun _ => fun
  | [d1, d2, d3] => { results := [.lit (.bool false)], args := [d1, d2, d3] }
  | _ => none }
def GroundLinesWrongFalsely : Prop := groundLinesRow.holds Tryz.pinned (OpenSpec.ofChange groundLinesWrong)

/- THE SECOND FORM. 'bulk': how many values and letters a reading holds, each counted each time it is reached (what is shared counts as often as it is met; a slice's spare places count too). A statement '..UptoSaid' is the law's where the arguments, and the package variables that the reading takes, are together of bulk at most 1048576: NARROWER than '..Said'. Prove '..Said' where nothing that the law and all that it calls make is longer than what came in: it says more and counts as full. Else prove '..UptoSaid'. A law counts once. -/
mutual
def uptoBulk {H : Type} : DataW H → Nat
  | .lit (.string bytes) => bytes.length + 1
  | .lit _ => 1
  | .nil => 1
  | .ptr d => uptoBulk d + 1
  | .slice elems spare => uptoBulkAll elems + uptoBulkAll spare + 1
  | .agg parts => uptoBulkAll parts + 1
  | .iface _ d => uptoBulk d + 1
  | .map entries => uptoBulkEntries entries + 1
  | .held _ => 1
def uptoBulkAll {H : Type} : List (DataW H) → Nat
  | [] => 0
  | d :: r => uptoBulk d + uptoBulkAll r
def uptoBulkEntries {H : Type} : List (Lit × DataW H) → Nat
  | [] => 0
  | x :: r => uptoBulkEntry x + uptoBulkEntries r
def uptoBulkEntry {H : Type} : Lit × DataW H → Nat
  | (.string bytes, d) => bytes.length + uptoBulk d + 1
  | (_, d) => uptoBulk d + 1
 end
def uptoSmall : (H : Type) → List (DataW H) → Bool := fun _ ds => decide (uptoBulkAll ds ≤ 1048576)
def OpenSpec.upto (s : _root_.Go.ChangeSpec) : _root_.Go.OpenSpec := { _root_.Go.OpenSpec.ofChange s with cond := some uptoSmall }

/-- 'cloverleaflaw04.GroundExplained', WHERE WHAT IT READS IS OF BULK AT MOST 1048576: true; the input reads as it did. -/
def groundExplainedUptoRow : OpenClaim := { program := "ytehblgccaiiikaagreat", sum := "17fe856053688299e3e25f41197c359d7b1bb82d30a6c3dda42eef5a7a770ef2", func := "cloverleaf/cloverleaflaw04.GroundExplained", spec := "groundExplained", unfollowed := true, recurses := true, apart := false, narrowed := true }
def GroundExplainedUptoSaid : Prop := groundExplainedUptoRow.holds Tryz.pinned (OpenSpec.upto groundExplainedSpec)

/-- 'cloverleaflaw04.GroundFewest', WHERE WHAT IT READS IS OF BULK AT MOST 1048576: true; the input reads as it did. -/
def groundFewestUptoRow : OpenClaim := { program := "ytehblgccaiiikaagreat", sum := "17fe856053688299e3e25f41197c359d7b1bb82d30a6c3dda42eef5a7a770ef2", func := "cloverleaf/cloverleaflaw04.GroundFewest", spec := "groundFewest", unfollowed := true, recurses := true, apart := false, narrowed := true }
def GroundFewestUptoSaid : Prop := groundFewestUptoRow.holds Tryz.pinned (OpenSpec.upto groundFewestSpec)

/-- 'cloverleaflaw04.GroundLines', WHERE WHAT IT READS IS OF BULK AT MOST 1048576: true; the input reads as it did. -/
def groundLinesUptoRow : OpenClaim := { program := "ytehblgccaiiikaagreat", sum := "17fe856053688299e3e25f41197c359d7b1bb82d30a6c3dda42eef5a7a770ef2", func := "cloverleaf/cloverleaflaw04.GroundLines", spec := "groundLines", unfollowed := true, recurses := true, apart := false, narrowed := true }
def GroundLinesUptoSaid : Prop := groundLinesUptoRow.holds Tryz.pinned (OpenSpec.upto groundLinesSpec)

end Rows
end Go.Proofs.YtehblgccaiiikaaGreat
