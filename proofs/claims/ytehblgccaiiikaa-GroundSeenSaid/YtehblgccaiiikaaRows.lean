/-
  No cell of these rows narrows 'for every input' (looked for: loops, veiled, ifaces, maps, wideKeys, modest, calm, conditions, laid).
  DERIVED. THE GIVEN ROWS OF THIS SEAT. 9 by the template 'for every input the law returns true; each argument reads behind the call as it read before'; 0 by the template 'total and deterministic' (their statements: YtehblgccaiiikaaTotals.lean).
  GIVEN WITH THE SEED: the statements are not yours to turn. If you find one false, say at which input.
  Laid BY PROGRAM, IN A SANDBOX (cutbox-rows.mjs): the forced cells as the released guide's own fill.sh prints them over the translation 89b8dec2b07ffff8… (all of the seat's roots in one cut). By AI agents, Wed Nov 11 2026. No macro, syntax, notation, axiom, sorry.
-/
import Derived.Test.YtehblgccaiiikaaChecked
import GoSem.Claim
import GoSem.ClaimJoined
import GoSem.ClaimMapViews
import Derived.JoinedTies
import Derived.KernelRfl
namespace Go.Proofs.Ytehblgccaiiikaa
/- THE CELL 'sum', in the pinned program and in every row, IS THE sha256 OF THE DUMP (.gsa) THAT YtehblgccaiiikaaProg.lean LOADS. Nothing in Lean hashes anything: it is a label: what it is worth is what the hold of that sum in a sandbox is worth. -/
noncomputable def Try.pinned : Pinned := { name := "ytehblgccaiiikaa", sum := "89b8dec2b07ffff8b1c880b8b6be4509cf00c1a52a1af055f777948bce1771a7", checked := Try.checked }
namespace Rows
def none {H : Type} : Left H := { results := [], args := [] }

/-- 'cloverleaflaw04.GroundModels': WHATEVER THE INPUT: true; the input reads as it did. -/
def groundModelsSpec : ChangeSpec := { name := "groundModels", fn := fun _ => fun
  | [d1, d2] => { results := [.lit (.bool true)], args := [d1, d2] }
  | _ => none }
def groundModelsRow : OpenClaim := { program := "ytehblgccaiiikaa", sum := "89b8dec2b07ffff8b1c880b8b6be4509cf00c1a52a1af055f777948bce1771a7", func := "cloverleaf/cloverleaflaw04.GroundModels", spec := "groundModels", unfollowed := true, recurses := true, apart := false }
def GroundModelsSaid : Prop := groundModelsRow.holds Try.pinned (OpenSpec.ofChange groundModelsSpec)

/-- ITS FALSE NEIGHBOUR: 'it returns false'. Refute it at one input. -/
def groundModelsWrong : ChangeSpec := { name := "groundModels", fn := fun _ => fun
  | [d1, d2] => { results := [.lit (.bool false)], args := [d1, d2] }
  | _ => none }
def GroundModelsWrongFalsely : Prop := groundModelsRow.holds Try.pinned (OpenSpec.ofChange groundModelsWrong)

/-- 'cloverleaflaw04.GroundMonotone': WHATEVER THE INPUT: true; the input reads as it did. -/
def groundMonotoneSpec : ChangeSpec := { name := "groundMonotone", fn := fun _ => fun
  | [d1, d2, d3] => { results := [.lit (.bool true)], args := [d1, d2, d3] }
  | _ => none }
def groundMonotoneRow : OpenClaim := { program := "ytehblgccaiiikaa", sum := "89b8dec2b07ffff8b1c880b8b6be4509cf00c1a52a1af055f777948bce1771a7", func := "cloverleaf/cloverleaflaw04.GroundMonotone", spec := "groundMonotone", unfollowed := true, recurses := true, apart := false }
def GroundMonotoneSaid : Prop := groundMonotoneRow.holds Try.pinned (OpenSpec.ofChange groundMonotoneSpec)

/-- ITS FALSE NEIGHBOUR: 'it returns false'. Refute it at one input. -/
def groundMonotoneWrong : ChangeSpec := { name := "groundMonotone", fn := fun _ => fun
  | [d1, d2, d3] => { results := [.lit (.bool false)], args := [d1, d2, d3] }
  | _ => none }
def GroundMonotoneWrongFalsely : Prop := groundMonotoneRow.holds Try.pinned (OpenSpec.ofChange groundMonotoneWrong)

/-- 'cloverleaflaw04.GroundClasses': WHATEVER THE INPUT: true; the input reads as it did. -/
def groundClassesSpec : ChangeSpec := { name := "groundClasses", fn := fun _ => fun
  | [d1, d2, d3] => { results := [.lit (.bool true)], args := [d1, d2, d3] }
  | _ => none }
def groundClassesRow : OpenClaim := { program := "ytehblgccaiiikaa", sum := "89b8dec2b07ffff8b1c880b8b6be4509cf00c1a52a1af055f777948bce1771a7", func := "cloverleaf/cloverleaflaw04.GroundClasses", spec := "groundClasses", unfollowed := true, recurses := true, apart := false }
def GroundClassesSaid : Prop := groundClassesRow.holds Try.pinned (OpenSpec.ofChange groundClassesSpec)

/-- ITS FALSE NEIGHBOUR: 'it returns false'. Refute it at one input. -/
def groundClassesWrong : ChangeSpec := { name := "groundClasses", fn := fun _ => fun
  | [d1, d2, d3] => { results := [.lit (.bool false)], args := [d1, d2, d3] }
  | _ => none }
def GroundClassesWrongFalsely : Prop := groundClassesRow.holds Try.pinned (OpenSpec.ofChange groundClassesWrong)

/-- 'cloverleaflaw04.GroundEnclosures': WHATEVER THE INPUT: true; the input reads as it did. -/
def groundEnclosuresSpec : ChangeSpec := { name := "groundEnclosures", fn := fun _ => fun
  | [d1, d2, d3] => { results := [.lit (.bool true)], args := [d1, d2, d3] }
  | _ => none }
def groundEnclosuresRow : OpenClaim := { program := "ytehblgccaiiikaa", sum := "89b8dec2b07ffff8b1c880b8b6be4509cf00c1a52a1af055f777948bce1771a7", func := "cloverleaf/cloverleaflaw04.GroundEnclosures", spec := "groundEnclosures", unfollowed := true, recurses := true, apart := false }
def GroundEnclosuresSaid : Prop := groundEnclosuresRow.holds Try.pinned (OpenSpec.ofChange groundEnclosuresSpec)

/-- ITS FALSE NEIGHBOUR: 'it returns false'. Refute it at one input. -/
def groundEnclosuresWrong : ChangeSpec := { name := "groundEnclosures", fn := fun _ => fun
  | [d1, d2, d3] => { results := [.lit (.bool false)], args := [d1, d2, d3] }
  | _ => none }
def GroundEnclosuresWrongFalsely : Prop := groundEnclosuresRow.holds Try.pinned (OpenSpec.ofChange groundEnclosuresWrong)

/-- 'cloverleaflaw04.GroundBetween': WHATEVER THE INPUT: true; the input reads as it did. -/
def groundBetweenSpec : ChangeSpec := { name := "groundBetween", fn := fun _ => fun
  | [d1, d2, d3] => { results := [.lit (.bool true)], args := [d1, d2, d3] }
  | _ => none }
def groundBetweenRow : OpenClaim := { program := "ytehblgccaiiikaa", sum := "89b8dec2b07ffff8b1c880b8b6be4509cf00c1a52a1af055f777948bce1771a7", func := "cloverleaf/cloverleaflaw04.GroundBetween", spec := "groundBetween", unfollowed := true, recurses := true, apart := false }
def GroundBetweenSaid : Prop := groundBetweenRow.holds Try.pinned (OpenSpec.ofChange groundBetweenSpec)

/-- ITS FALSE NEIGHBOUR: 'it returns false'. Refute it at one input. -/
def groundBetweenWrong : ChangeSpec := { name := "groundBetween", fn := fun _ => fun
  | [d1, d2, d3] => { results := [.lit (.bool false)], args := [d1, d2, d3] }
  | _ => none }
def GroundBetweenWrongFalsely : Prop := groundBetweenRow.holds Try.pinned (OpenSpec.ofChange groundBetweenWrong)

/-- 'cloverleaflaw04.GroundContained': WHATEVER THE INPUT: true; the input reads as it did. -/
def groundContainedSpec : ChangeSpec := { name := "groundContained", fn := fun _ => fun
  | [d1, d2, d3] => { results := [.lit (.bool true)], args := [d1, d2, d3] }
  | _ => none }
def groundContainedRow : OpenClaim := { program := "ytehblgccaiiikaa", sum := "89b8dec2b07ffff8b1c880b8b6be4509cf00c1a52a1af055f777948bce1771a7", func := "cloverleaf/cloverleaflaw04.GroundContained", spec := "groundContained", unfollowed := true, recurses := true, apart := false }
def GroundContainedSaid : Prop := groundContainedRow.holds Try.pinned (OpenSpec.ofChange groundContainedSpec)

/-- ITS FALSE NEIGHBOUR: 'it returns false'. Refute it at one input. -/
def groundContainedWrong : ChangeSpec := { name := "groundContained", fn := fun _ => fun
  | [d1, d2, d3] => { results := [.lit (.bool false)], args := [d1, d2, d3] }
  | _ => none }
def GroundContainedWrongFalsely : Prop := groundContainedRow.holds Try.pinned (OpenSpec.ofChange groundContainedWrong)

/-- 'cloverleaflaw04.GroundData': WHATEVER THE INPUT: true; the input reads as it did. -/
def groundDataSpec : ChangeSpec := { name := "groundData", fn := fun _ => fun
  | [d1, d2] => { results := [.lit (.bool true)], args := [d1, d2] }
  | _ => none }
def groundDataRow : OpenClaim := { program := "ytehblgccaiiikaa", sum := "89b8dec2b07ffff8b1c880b8b6be4509cf00c1a52a1af055f777948bce1771a7", func := "cloverleaf/cloverleaflaw04.GroundData", spec := "groundData", unfollowed := true, recurses := true, apart := false }
def GroundDataSaid : Prop := groundDataRow.holds Try.pinned (OpenSpec.ofChange groundDataSpec)

/-- ITS FALSE NEIGHBOUR: 'it returns false'. Refute it at one input. -/
def groundDataWrong : ChangeSpec := { name := "groundData", fn := fun _ => fun
  | [d1, d2] => { results := [.lit (.bool false)], args := [d1, d2] }
  | _ => none }
def GroundDataWrongFalsely : Prop := groundDataRow.holds Try.pinned (OpenSpec.ofChange groundDataWrong)

/-- 'cloverleaflaw04.GroundSeen': WHATEVER THE INPUT: true; the input reads as it did. -/
def groundSeenSpec : ChangeSpec := { name := "groundSeen", fn := fun _ => fun
  | [d1, d2, d3] => { results := [.lit (.bool true)], args := [d1, d2, d3] }
  | _ => none }
def groundSeenRow : OpenClaim := { program := "ytehblgccaiiikaa", sum := "89b8dec2b07ffff8b1c880b8b6be4509cf00c1a52a1af055f777948bce1771a7", func := "cloverleaf/cloverleaflaw04.GroundSeen", spec := "groundSeen", unfollowed := true, recurses := true, apart := false }
def GroundSeenSaid : Prop := groundSeenRow.holds Try.pinned (OpenSpec.ofChange groundSeenSpec)

/-- ITS FALSE NEIGHBOUR: 'it returns false'. Refute it at one input. -/
def groundSeenWrong : ChangeSpec := { name := "groundSeen", fn := fun _ => fun
  | [d1, d2, d3] => { results := [.lit (.bool false)], args := [d1, d2, d3] }
  | _ => none }
def GroundSeenWrongFalsely : Prop := groundSeenRow.holds Try.pinned (OpenSpec.ofChange groundSeenWrong)

/-- 'cloverleaflaw04.GroundBreaks': WHATEVER THE INPUT: true; the input reads as it did. -/
def groundBreaksSpec : ChangeSpec := { name := "groundBreaks", fn := fun _ => fun
  | [d1, d2, d3] => { results := [.lit (.bool true)], args := [d1, d2, d3] }
  | _ => none }
def groundBreaksRow : OpenClaim := { program := "ytehblgccaiiikaa", sum := "89b8dec2b07ffff8b1c880b8b6be4509cf00c1a52a1af055f777948bce1771a7", func := "cloverleaf/cloverleaflaw04.GroundBreaks", spec := "groundBreaks", unfollowed := true, recurses := true, apart := false }
def GroundBreaksSaid : Prop := groundBreaksRow.holds Try.pinned (OpenSpec.ofChange groundBreaksSpec)

/-- ITS FALSE NEIGHBOUR: 'it returns false'. Refute it at one input. -/
def groundBreaksWrong : ChangeSpec := { name := "groundBreaks", fn := fun _ => fun
  | [d1, d2, d3] => { results := [.lit (.bool false)], args := [d1, d2, d3] }
  | _ => none }
def GroundBreaksWrongFalsely : Prop := groundBreaksRow.holds Try.pinned (OpenSpec.ofChange groundBreaksWrong)

/- THE SECOND FORM. 'bulk': how many values and letters a reading holds, each counted each time it is reached (what is shared counts as often as it is met; a slice's spare places count too). A statement '..UptoSaid' is the law's where the arguments, and the package variables that the reading takes, are together of bulk at most 1048576: NARROWER than '..Said'. Prove '..Said' where nothing that the law and all that it calls make is longer than what came in: it says more and counts as full. Else prove '..UptoSaid'. A law counts once. -/
mutual
def uptoBulk {H : Type} : DataW H → Nat
  | .lit (.string bytes) => bytes.length + 1
  | .lit _ => 1
  | .nil => 1
  | .ptr d => uptoBulk d + 1
  | .slice elems spare => uptoBulkAll elems + uptoBulkAll spare + 1
  | .agg parts => uptoBulkAll parts + 1
  | .iface _ d => uptoBulk d + 1
  | .map entries => uptoBulkEntries entries + 1
  | .held _ => 1
def uptoBulkAll {H : Type} : List (DataW H) → Nat
  | [] => 0
  | d :: r => uptoBulk d + uptoBulkAll r
def uptoBulkEntries {H : Type} : List (Lit × DataW H) → Nat
  | [] => 0
  | x :: r => uptoBulkEntry x + uptoBulkEntries r
def uptoBulkEntry {H : Type} : Lit × DataW H → Nat
  | (.string bytes, d) => bytes.length + uptoBulk d + 1
  | (_, d) => uptoBulk d + 1
 end
def uptoSmall : (H : Type) → List (DataW H) → Bool := fun _ ds => decide (uptoBulkAll ds ≤ 1048576)
def OpenSpec.upto (s : _root_.Go.ChangeSpec) : _root_.Go.OpenSpec := { _root_.Go.OpenSpec.ofChange s with cond := some uptoSmall }

/-- 'cloverleaflaw04.GroundModels', WHERE WHAT IT READS IS OF BULK AT MOST 1048576: true; the input reads as it did. -/
def groundModelsUptoRow : OpenClaim := { program := "ytehblgccaiiikaa", sum := "89b8dec2b07ffff8b1c880b8b6be4509cf00c1a52a1af055f777948bce1771a7", func := "cloverleaf/cloverleaflaw04.GroundModels", spec := "groundModels", unfollowed := true, recurses := true, apart := false, narrowed := true }
def GroundModelsUptoSaid : Prop := groundModelsUptoRow.holds Try.pinned (OpenSpec.upto groundModelsSpec)

/-- 'cloverleaflaw04.GroundMonotone', WHERE WHAT IT READS IS OF BULK AT MOST 1048576: true; the input reads as it did. -/
def groundMonotoneUptoRow : OpenClaim := { program := "ytehblgccaiiikaa", sum := "89b8dec2b07ffff8b1c880b8b6be4509cf00c1a52a1af055f777948bce1771a7", func := "cloverleaf/cloverleaflaw04.GroundMonotone", spec := "groundMonotone", unfollowed := true, recurses := true, apart := false, narrowed := true }
def GroundMonotoneUptoSaid : Prop := groundMonotoneUptoRow.holds Try.pinned (OpenSpec.upto groundMonotoneSpec)

/-- 'cloverleaflaw04.GroundClasses', WHERE WHAT IT READS IS OF BULK AT MOST 1048576: true; the input reads as it did. -/
def groundClassesUptoRow : OpenClaim := { program := "ytehblgccaiiikaa", sum := "89b8dec2b07ffff8b1c880b8b6be4509cf00c1a52a1af055f777948bce1771a7", func := "cloverleaf/cloverleaflaw04.GroundClasses", spec := "groundClasses", unfollowed := true, recurses := true, apart := false, narrowed := true }
def GroundClassesUptoSaid : Prop := groundClassesUptoRow.holds Try.pinned (OpenSpec.upto groundClassesSpec)

/-- 'cloverleaflaw04.GroundEnclosures', WHERE WHAT IT READS IS OF BULK AT MOST 1048576: true; the input reads as it did. -/
def groundEnclosuresUptoRow : OpenClaim := { program := "ytehblgccaiiikaa", sum := "89b8dec2b07ffff8b1c880b8b6be4509cf00c1a52a1af055f777948bce1771a7", func := "cloverleaf/cloverleaflaw04.GroundEnclosures", spec := "groundEnclosures", unfollowed := true, recurses := true, apart := false, narrowed := true }
def GroundEnclosuresUptoSaid : Prop := groundEnclosuresUptoRow.holds Try.pinned (OpenSpec.upto groundEnclosuresSpec)

/-- 'cloverleaflaw04.GroundBetween', WHERE WHAT IT READS IS OF BULK AT MOST 1048576: true; the input reads as it did. -/
def groundBetweenUptoRow : OpenClaim := { program := "ytehblgccaiiikaa", sum := "89b8dec2b07ffff8b1c880b8b6be4509cf00c1a52a1af055f777948bce1771a7", func := "cloverleaf/cloverleaflaw04.GroundBetween", spec := "groundBetween", unfollowed := true, recurses := true, apart := false, narrowed := true }
def GroundBetweenUptoSaid : Prop := groundBetweenUptoRow.holds Try.pinned (OpenSpec.upto groundBetweenSpec)

/-- 'cloverleaflaw04.GroundContained', WHERE WHAT IT READS IS OF BULK AT MOST 1048576: true; the input reads as it did. -/
def groundContainedUptoRow : OpenClaim := { program := "ytehblgccaiiikaa", sum := "89b8dec2b07ffff8b1c880b8b6be4509cf00c1a52a1af055f777948bce1771a7", func := "cloverleaf/cloverleaflaw04.GroundContained", spec := "groundContained", unfollowed := true, recurses := true, apart := false, narrowed := true }
def GroundContainedUptoSaid : Prop := groundContainedUptoRow.holds Try.pinned (OpenSpec.upto groundContainedSpec)

/-- 'cloverleaflaw04.GroundData', WHERE WHAT IT READS IS OF BULK AT MOST 1048576: true; the input reads as it did. -/
def groundDataUptoRow : OpenClaim := { program := "ytehblgccaiiikaa", sum := "89b8dec2b07ffff8b1c880b8b6be4509cf00c1a52a1af055f777948bce1771a7", func := "cloverleaf/cloverleaflaw04.GroundData", spec := "groundData", unfollowed := true, recurses := true, apart := false, narrowed := true }
def GroundDataUptoSaid : Prop := groundDataUptoRow.holds Try.pinned (OpenSpec.upto groundDataSpec)

/-- 'cloverleaflaw04.GroundSeen', WHERE WHAT IT READS IS OF BULK AT MOST 1048576: true; the input reads as it did. -/
def groundSeenUptoRow : OpenClaim := { program := "ytehblgccaiiikaa", sum := "89b8dec2b07ffff8b1c880b8b6be4509cf00c1a52a1af055f777948bce1771a7", func := "cloverleaf/cloverleaflaw04.GroundSeen", spec := "groundSeen", unfollowed := true, recurses := true, apart := false, narrowed := true }
def GroundSeenUptoSaid : Prop := groundSeenUptoRow.holds Try.pinned (OpenSpec.upto groundSeenSpec)

/-- 'cloverleaflaw04.GroundBreaks', WHERE WHAT IT READS IS OF BULK AT MOST 1048576: true; the input reads as it did. -/
def groundBreaksUptoRow : OpenClaim := { program := "ytehblgccaiiikaa", sum := "89b8dec2b07ffff8b1c880b8b6be4509cf00c1a52a1af055f777948bce1771a7", func := "cloverleaf/cloverleaflaw04.GroundBreaks", spec := "groundBreaks", unfollowed := true, recurses := true, apart := false, narrowed := true }
def GroundBreaksUptoSaid : Prop := groundBreaksUptoRow.holds Try.pinned (OpenSpec.upto groundBreaksSpec)

end Rows
end Go.Proofs.Ytehblgccaiiikaa
