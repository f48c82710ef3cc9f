/-
  NARROWER THAN 'FOR EVERY INPUT', by the rows' own cells (each row's printed sentence says how): GravityComposes: laid · GravityHeights: laid · GravityClosures: laid · GravityNets: laid · GravityRates: laid · GravityPossible: laid · GravityWithin: laid · GravityCalm: laid · GravityFilters: laid · GravityGains: laid · GravitySpans: laid · GravityTied: laid.
  DERIVED. THE GIVEN ROWS OF THIS SEAT. 12 by the template 'for every input the law returns true; each argument reads behind the call as it read before'; 0 by the template 'total and deterministic' (their statements: YtcecdmdnfmgnfaaDoorTotals.lean).
  GIVEN WITH THE SEED: the statements are not yours to turn. If you find one false, say at which input.
  Laid BY PROGRAM, IN A SANDBOX (cutbox-rows.mjs): the forced cells as the released guide's own fill.sh prints them over the translation 774523be3f494021… (all of the seat's roots in one cut). By AI agents, Wed Nov 11 2026. No macro, syntax, notation, axiom, sorry.
-/
import Derived.Test.YtcecdmdnfmgnfaaDoorChecked
import GoSem.Claim
import GoSem.ClaimJoined
import GoSem.ClaimMapViews
import Derived.JoinedTies
import Derived.KernelRfl
namespace Go.Proofs.YtcecdmdnfmgnfaaDoor
/- THE CELL 'sum', in the pinned program and in every row, IS THE sha256 OF THE DUMP (.gsa) THAT YtcecdmdnfmgnfaaDoorProg.lean LOADS. Nothing in Lean hashes anything: it is a label: what it is worth is what the hold of that sum in a sandbox is worth. -/
noncomputable def Tryd.pinned : Pinned := { name := "ytcecdmdnfmgnfaadoor", sum := "774523be3f4940210da211587a845f5a9e180212e07b57ec918a8004b52f6a1d", checked := Tryd.checked }
namespace Rows
def none {H : Type} : Left H := { results := [], args := [] }

/- WHAT THE LISTED PACKAGE-LEVEL VARIABLES READ AS WHEN THE CALL BEGINS. Each datum BY PROGRAM (the guide's laid-datum.mjs) off the statement by which the dump's own 'gosem.cut.vars' lays the variable. In a bare row this is a premise. The card (YtcecdmdnfmgnfaaDoorCards.lean) ties it to the program's text. -/
def laid_cloverleaf_gravity_second {H : Type} : DataW H := .agg [.lit (.int .i64 1), .lit (.int .i64 (-2)), .lit (.int .i64 1)]
def laid_cloverleaf_gravity_cosines {H : Type} : DataW H := .agg [.lit (.int .i64 1), .lit (.int .i64 0), .lit (.int .i64 (-1)), .lit (.int .i64 0)]

/-- 'cloverleaflaw05.GravityComposes': WHATEVER THE INPUT: true; the input reads as it did. -/
def gravityComposesSpec : ChangeSpec := { name := "gravityComposes", fn := fun _ => fun
  | [d1, d2, d3] => { results := [.lit (.bool true)], args := [d1, d2, d3] }
  | _ => none }
def gravityComposesRow : OpenClaim := { program := "ytcecdmdnfmgnfaadoor", sum := "774523be3f4940210da211587a845f5a9e180212e07b57ec918a8004b52f6a1d", func := "cloverleaf/cloverleaflaw05.GravityComposes", spec := "gravityComposes", unfollowed := true, recurses := true, named := ["cloverleaf/gravity.second"], apart := false, laid := [("cloverleaf/gravity.second", laid_cloverleaf_gravity_second)] }
def GravityComposesSaid : Prop := gravityComposesRow.holds Tryd.pinned (OpenSpec.ofChange gravityComposesSpec)

/-- ITS FALSE NEIGHBOUR: 'it returns false'. Refute it at one input. -/
def gravityComposesWrong : ChangeSpec := { name := "gravityComposes", fn := fun _ => fun
  | [d1, d2, d3] => { results := [.lit (.bool false)], args := [d1, d2, d3] }
  | _ => none }
def GravityComposesWrongFalsely : Prop := gravityComposesRow.holds Tryd.pinned (OpenSpec.ofChange gravityComposesWrong)

/-- 'cloverleaflaw05.GravityHeights': WHATEVER THE INPUT: true; the input reads as it did. -/
def gravityHeightsSpec : ChangeSpec := { name := "gravityHeights", fn := fun _ => fun
  | [d1, d2, d3] => { results := [.lit (.bool true)], args := [d1, d2, d3] }
  | _ => none }
def gravityHeightsRow : OpenClaim := { program := "ytcecdmdnfmgnfaadoor", sum := "774523be3f4940210da211587a845f5a9e180212e07b57ec918a8004b52f6a1d", func := "cloverleaf/cloverleaflaw05.GravityHeights", spec := "gravityHeights", unfollowed := true, recurses := true, named := ["cloverleaf/gravity.second"], apart := false, laid := [("cloverleaf/gravity.second", laid_cloverleaf_gravity_second)] }
def GravityHeightsSaid : Prop := gravityHeightsRow.holds Tryd.pinned (OpenSpec.ofChange gravityHeightsSpec)

/-- ITS FALSE NEIGHBOUR: 'it returns false'. Refute it at one input. -/
def gravityHeightsWrong : ChangeSpec := { name := "gravityHeights", fn := fun _ => fun
  | [d1, d2, d3] => { results := [.lit (.bool false)], args := [d1, d2, d3] }
  | _ => none }
def GravityHeightsWrongFalsely : Prop := gravityHeightsRow.holds Tryd.pinned (OpenSpec.ofChange gravityHeightsWrong)

/-- 'cloverleaflaw05.GravityClosures': WHATEVER THE INPUT: true; the input reads as it did. -/
def gravityClosuresSpec : ChangeSpec := { name := "gravityClosures", fn := fun _ => fun
  | [d] => { results := [.lit (.bool true)], args := [d] }
  | _ => none }
def gravityClosuresRow : OpenClaim := { program := "ytcecdmdnfmgnfaadoor", sum := "774523be3f4940210da211587a845f5a9e180212e07b57ec918a8004b52f6a1d", func := "cloverleaf/cloverleaflaw05.GravityClosures", spec := "gravityClosures", unfollowed := true, recurses := true, named := ["cloverleaf/gravity.second"], apart := false, laid := [("cloverleaf/gravity.second", laid_cloverleaf_gravity_second)] }
def GravityClosuresSaid : Prop := gravityClosuresRow.holds Tryd.pinned (OpenSpec.ofChange gravityClosuresSpec)

/-- ITS FALSE NEIGHBOUR: 'it returns false'. Refute it at one input. -/
def gravityClosuresWrong : ChangeSpec := { name := "gravityClosures", fn := fun _ => fun
  | [d] => { results := [.lit (.bool false)], args := [d] }
  | _ => none }
def GravityClosuresWrongFalsely : Prop := gravityClosuresRow.holds Tryd.pinned (OpenSpec.ofChange gravityClosuresWrong)

/-- 'cloverleaflaw05.GravityNets': WHATEVER THE INPUT: true; the input reads as it did. -/
def gravityNetsSpec : ChangeSpec := { name := "gravityNets", fn := fun _ => fun
  | [d1, d2] => { results := [.lit (.bool true)], args := [d1, d2] }
  | _ => none }
def gravityNetsRow : OpenClaim := { program := "ytcecdmdnfmgnfaadoor", sum := "774523be3f4940210da211587a845f5a9e180212e07b57ec918a8004b52f6a1d", func := "cloverleaf/cloverleaflaw05.GravityNets", spec := "gravityNets", unfollowed := true, recurses := true, named := ["cloverleaf/gravity.second"], apart := false, laid := [("cloverleaf/gravity.second", laid_cloverleaf_gravity_second)] }
def GravityNetsSaid : Prop := gravityNetsRow.holds Tryd.pinned (OpenSpec.ofChange gravityNetsSpec)

/-- ITS FALSE NEIGHBOUR: 'it returns false'. Refute it at one input. -/
def gravityNetsWrong : ChangeSpec := { name := "gravityNets", fn := fun _ => fun
  | [d1, d2] => { results := [.lit (.bool false)], args := [d1, d2] }
  | _ => none }
def GravityNetsWrongFalsely : Prop := gravityNetsRow.holds Tryd.pinned (OpenSpec.ofChange gravityNetsWrong)

/-- 'cloverleaflaw05.GravityRates': WHATEVER THE INPUT: true; the input reads as it did. -/
def gravityRatesSpec : ChangeSpec := { name := "gravityRates", fn := fun _ => fun
  | [d1, d2] => { results := [.lit (.bool true)], args := [d1, d2] }
  | _ => none }
def gravityRatesRow : OpenClaim := { program := "ytcecdmdnfmgnfaadoor", sum := "774523be3f4940210da211587a845f5a9e180212e07b57ec918a8004b52f6a1d", func := "cloverleaf/cloverleaflaw05.GravityRates", spec := "gravityRates", unfollowed := true, recurses := true, named := ["cloverleaf/gravity.second"], apart := false, laid := [("cloverleaf/gravity.second", laid_cloverleaf_gravity_second)] }
def GravityRatesSaid : Prop := gravityRatesRow.holds Tryd.pinned (OpenSpec.ofChange gravityRatesSpec)

/-- ITS FALSE NEIGHBOUR: 'it returns false'. Refute it at one input. -/
def gravityRatesWrong : ChangeSpec := { name := "gravityRates", fn := fun _ => fun
  | [d1, d2] => { results := [.lit (.bool false)], args := [d1, d2] }
  | _ => none }
def GravityRatesWrongFalsely : Prop := gravityRatesRow.holds Tryd.pinned (OpenSpec.ofChange gravityRatesWrong)

/-- 'cloverleaflaw05.GravityPossible': WHATEVER THE INPUT: true; the input reads as it did. -/
def gravityPossibleSpec : ChangeSpec := { name := "gravityPossible", fn := fun _ => fun
  | [d1, d2, d3] => { results := [.lit (.bool true)], args := [d1, d2, d3] }
  | _ => none }
def gravityPossibleRow : OpenClaim := { program := "ytcecdmdnfmgnfaadoor", sum := "774523be3f4940210da211587a845f5a9e180212e07b57ec918a8004b52f6a1d", func := "cloverleaf/cloverleaflaw05.GravityPossible", spec := "gravityPossible", unfollowed := true, recurses := true, named := ["cloverleaf/gravity.second"], apart := false, laid := [("cloverleaf/gravity.second", laid_cloverleaf_gravity_second)] }
def GravityPossibleSaid : Prop := gravityPossibleRow.holds Tryd.pinned (OpenSpec.ofChange gravityPossibleSpec)

/-- ITS FALSE NEIGHBOUR: 'it returns false'. Refute it at one input. -/
def gravityPossibleWrong : ChangeSpec := { name := "gravityPossible", fn := fun _ => fun
  | [d1, d2, d3] => { results := [.lit (.bool false)], args := [d1, d2, d3] }
  | _ => none }
def GravityPossibleWrongFalsely : Prop := gravityPossibleRow.holds Tryd.pinned (OpenSpec.ofChange gravityPossibleWrong)

/-- 'cloverleaflaw05.GravityWithin': WHATEVER THE INPUT: true; the input reads as it did. -/
def gravityWithinSpec : ChangeSpec := { name := "gravityWithin", fn := fun _ => fun
  | [d1, d2, d3] => { results := [.lit (.bool true)], args := [d1, d2, d3] }
  | _ => none }
def gravityWithinRow : OpenClaim := { program := "ytcecdmdnfmgnfaadoor", sum := "774523be3f4940210da211587a845f5a9e180212e07b57ec918a8004b52f6a1d", func := "cloverleaf/cloverleaflaw05.GravityWithin", spec := "gravityWithin", unfollowed := true, recurses := true, named := ["cloverleaf/gravity.second"], apart := false, laid := [("cloverleaf/gravity.second", laid_cloverleaf_gravity_second)] }
def GravityWithinSaid : Prop := gravityWithinRow.holds Tryd.pinned (OpenSpec.ofChange gravityWithinSpec)

/-- ITS FALSE NEIGHBOUR: 'it returns false'. Refute it at one input. -/
def gravityWithinWrong : ChangeSpec := { name := "gravityWithin", fn := fun _ => fun
  | [d1, d2, d3] => { results := [.lit (.bool false)], args := [d1, d2, d3] }
  | _ => none }
def GravityWithinWrongFalsely : Prop := gravityWithinRow.holds Tryd.pinned (OpenSpec.ofChange gravityWithinWrong)

/-- 'cloverleaflaw05.GravityCalm': WHATEVER THE INPUT: true; the input reads as it did. -/
def gravityCalmSpec : ChangeSpec := { name := "gravityCalm", fn := fun _ => fun
  | [d1, d2] => { results := [.lit (.bool true)], args := [d1, d2] }
  | _ => none }
def gravityCalmRow : OpenClaim := { program := "ytcecdmdnfmgnfaadoor", sum := "774523be3f4940210da211587a845f5a9e180212e07b57ec918a8004b52f6a1d", func := "cloverleaf/cloverleaflaw05.GravityCalm", spec := "gravityCalm", unfollowed := true, recurses := true, named := ["cloverleaf/gravity.second"], apart := false, laid := [("cloverleaf/gravity.second", laid_cloverleaf_gravity_second)] }
def GravityCalmSaid : Prop := gravityCalmRow.holds Tryd.pinned (OpenSpec.ofChange gravityCalmSpec)

/-- ITS FALSE NEIGHBOUR: 'it returns false'. Refute it at one input. -/
def gravityCalmWrong : ChangeSpec := { name := "gravityCalm", fn := fun _ => fun
  | [d1, d2] => { results := [.lit (.bool false)], args := [d1, d2] }
  | _ => none }
def GravityCalmWrongFalsely : Prop := gravityCalmRow.holds Tryd.pinned (OpenSpec.ofChange gravityCalmWrong)

/-- 'cloverleaflaw05.GravityFilters': WHATEVER THE INPUT: true; the input reads as it did. -/
def gravityFiltersSpec : ChangeSpec := { name := "gravityFilters", fn := fun _ => fun
  | [d1, d2, d3] => { results := [.lit (.bool true)], args := [d1, d2, d3] }
  | _ => none }
def gravityFiltersRow : OpenClaim := { program := "ytcecdmdnfmgnfaadoor", sum := "774523be3f4940210da211587a845f5a9e180212e07b57ec918a8004b52f6a1d", func := "cloverleaf/cloverleaflaw05.GravityFilters", spec := "gravityFilters", unfollowed := true, recurses := true, named := ["cloverleaf/gravity.second", "cloverleaf/gravity.cosines"], apart := false, laid := [("cloverleaf/gravity.second", laid_cloverleaf_gravity_second), ("cloverleaf/gravity.cosines", laid_cloverleaf_gravity_cosines)] }
def GravityFiltersSaid : Prop := gravityFiltersRow.holds Tryd.pinned (OpenSpec.ofChange gravityFiltersSpec)

/-- ITS FALSE NEIGHBOUR: 'it returns false'. Refute it at one input. -/
def gravityFiltersWrong : ChangeSpec := { name := "gravityFilters", fn := fun _ => fun
  | [d1, d2, d3] => { results := [.lit (.bool false)], args := [d1, d2, d3] }
  | _ => none }
def GravityFiltersWrongFalsely : Prop := gravityFiltersRow.holds Tryd.pinned (OpenSpec.ofChange gravityFiltersWrong)

/-- 'cloverleaflaw05.GravityGains': WHATEVER THE INPUT: true; the input reads as it did. -/
def gravityGainsSpec : ChangeSpec := { name := "gravityGains", fn := fun _ => fun
  | [d1, d2, d3] => { results := [.lit (.bool true)], args := [d1, d2, d3] }
  | _ => none }
def gravityGainsRow : OpenClaim := { program := "ytcecdmdnfmgnfaadoor", sum := "774523be3f4940210da211587a845f5a9e180212e07b57ec918a8004b52f6a1d", func := "cloverleaf/cloverleaflaw05.GravityGains", spec := "gravityGains", unfollowed := true, recurses := true, named := ["cloverleaf/gravity.second", "cloverleaf/gravity.cosines"], apart := false, laid := [("cloverleaf/gravity.second", laid_cloverleaf_gravity_second), ("cloverleaf/gravity.cosines", laid_cloverleaf_gravity_cosines)] }
def GravityGainsSaid : Prop := gravityGainsRow.holds Tryd.pinned (OpenSpec.ofChange gravityGainsSpec)

/-- ITS FALSE NEIGHBOUR: 'it returns false'. Refute it at one input. -/
def gravityGainsWrong : ChangeSpec := { name := "gravityGains", fn := fun _ => fun
  | [d1, d2, d3] => { results := [.lit (.bool false)], args := [d1, d2, d3] }
  | _ => none }
def GravityGainsWrongFalsely : Prop := gravityGainsRow.holds Tryd.pinned (OpenSpec.ofChange gravityGainsWrong)

/-- 'cloverleaflaw05.GravitySpans': WHATEVER THE INPUT: true; the input reads as it did. -/
def gravitySpansSpec : ChangeSpec := { name := "gravitySpans", fn := fun _ => fun
  | [d1, d2, d3] => { results := [.lit (.bool true)], args := [d1, d2, d3] }
  | _ => none }
def gravitySpansRow : OpenClaim := { program := "ytcecdmdnfmgnfaadoor", sum := "774523be3f4940210da211587a845f5a9e180212e07b57ec918a8004b52f6a1d", func := "cloverleaf/cloverleaflaw05.GravitySpans", spec := "gravitySpans", unfollowed := true, recurses := true, named := ["cloverleaf/gravity.second"], apart := false, laid := [("cloverleaf/gravity.second", laid_cloverleaf_gravity_second)] }
def GravitySpansSaid : Prop := gravitySpansRow.holds Tryd.pinned (OpenSpec.ofChange gravitySpansSpec)

/-- ITS FALSE NEIGHBOUR: 'it returns false'. Refute it at one input. -/
def gravitySpansWrong : ChangeSpec := { name := "gravitySpans", fn := fun _ => fun
  | [d1, d2, d3] => { results := [.lit (.bool false)], args := [d1, d2, d3] }
  | _ => none }
def GravitySpansWrongFalsely : Prop := gravitySpansRow.holds Tryd.pinned (OpenSpec.ofChange gravitySpansWrong)

/-- 'cloverleaflaw05.GravityTied': WHATEVER THE INPUT: true; the input reads as it did. -/
def gravityTiedSpec : ChangeSpec := { name := "gravityTied", fn := fun _ => fun
  | [d1, d2] => { results := [.lit (.bool true)], args := [d1, d2] }
  | _ => none }
def gravityTiedRow : OpenClaim := { program := "ytcecdmdnfmgnfaadoor", sum := "774523be3f4940210da211587a845f5a9e180212e07b57ec918a8004b52f6a1d", func := "cloverleaf/cloverleaflaw05.GravityTied", spec := "gravityTied", unfollowed := true, recurses := true, named := ["cloverleaf/gravity.second"], apart := false, laid := [("cloverleaf/gravity.second", laid_cloverleaf_gravity_second)] }
def GravityTiedSaid : Prop := gravityTiedRow.holds Tryd.pinned (OpenSpec.ofChange gravityTiedSpec)

/-- ITS FALSE NEIGHBOUR: 'it returns false'. Refute it at one input. -/
def gravityTiedWrong : ChangeSpec := { name := "gravityTied", fn := fun _ => fun
  | [d1, d2] => { results := [.lit (.bool false)], args := [d1, d2] }
  | _ => none }
def GravityTiedWrongFalsely : Prop := gravityTiedRow.holds Tryd.pinned (OpenSpec.ofChange gravityTiedWrong)

/- THE SECOND FORM. 'bulk': how many values and letters a reading holds, each counted each time it is reached (what is shared counts as often as it is met; a slice's spare places count too). A statement '..UptoSaid' is the law's where the arguments, and the package variables that the reading takes, are together of bulk at most 1048576: NARROWER than '..Said'. Prove '..Said' where nothing that the law and all that it calls make is longer than what came in: it says more and counts as full. Else prove '..UptoSaid'. A law counts once. -/
mutual
def uptoBulk {H : Type} : DataW H → Nat
  | .lit (.string bytes) => bytes.length + 1
  | .lit _ => 1
  | .nil => 1
  | .ptr d => uptoBulk d + 1
  | .slice elems spare => uptoBulkAll elems + uptoBulkAll spare + 1
  | .agg parts => uptoBulkAll parts + 1
  | .iface _ d => uptoBulk d + 1
  | .map entries => uptoBulkEntries entries + 1
  | .held _ => 1
def uptoBulkAll {H : Type} : List (DataW H) → Nat
  | [] => 0
  | d :: r => uptoBulk d + uptoBulkAll r
def uptoBulkEntries {H : Type} : List (Lit × DataW H) → Nat
  | [] => 0
  | x :: r => uptoBulkEntry x + uptoBulkEntries r
def uptoBulkEntry {H : Type} : Lit × DataW H → Nat
  | (.string bytes, d) => bytes.length + uptoBulk d + 1
  | (_, d) => uptoBulk d + 1
 end
def uptoSmall : (H : Type) → List (DataW H) → Bool := fun _ ds => decide (uptoBulkAll ds ≤ 1048576)
def OpenSpec.upto (s : _root_.Go.ChangeSpec) : _root_.Go.OpenSpec := { _root_.Go.OpenSpec.ofChange s with cond := some uptoSmall }

/-- 'cloverleaflaw05.GravityComposes', WHERE WHAT IT READS IS OF BULK AT MOST 1048576: true; the input reads as it did. -/
def gravityComposesUptoRow : OpenClaim := { program := "ytcecdmdnfmgnfaadoor", sum := "774523be3f4940210da211587a845f5a9e180212e07b57ec918a8004b52f6a1d", func := "cloverleaf/cloverleaflaw05.GravityComposes", spec := "gravityComposes", unfollowed := true, recurses := true, named := ["cloverleaf/gravity.second"], apart := false, laid := [("cloverleaf/gravity.second", laid_cloverleaf_gravity_second)], narrowed := true }
def GravityComposesUptoSaid : Prop := gravityComposesUptoRow.holds Tryd.pinned (OpenSpec.upto gravityComposesSpec)

/-- 'cloverleaflaw05.GravityHeights', WHERE WHAT IT READS IS OF BULK AT MOST 1048576: true; the input reads as it did. -/
def gravityHeightsUptoRow : OpenClaim := { program := "ytcecdmdnfmgnfaadoor", sum := "774523be3f4940210da211587a845f5a9e180212e07b57ec918a8004b52f6a1d", func := "cloverleaf/cloverleaflaw05.GravityHeights", spec := "gravityHeights", unfollowed := true, recurses := true, named := ["cloverleaf/gravity.second"], apart := false, laid := [("cloverleaf/gravity.second", laid_cloverleaf_gravity_second)], narrowed := true }
def GravityHeightsUptoSaid : Prop := gravityHeightsUptoRow.holds Tryd.pinned (OpenSpec.upto gravityHeightsSpec)

/-- 'cloverleaflaw05.GravityClosures', WHERE WHAT IT READS IS OF BULK AT MOST 1048576: true; the input reads as it did. -/
def gravityClosuresUptoRow : OpenClaim := { program := "ytcecdmdnfmgnfaadoor", sum := "774523be3f4940210da211587a845f5a9e180212e07b57ec918a8004b52f6a1d", func := "cloverleaf/cloverleaflaw05.GravityClosures", spec := "gravityClosures", unfollowed := true, recurses := true, named := ["cloverleaf/gravity.second"], apart := false, laid := [("cloverleaf/gravity.second", laid_cloverleaf_gravity_second)], narrowed := true }
def GravityClosuresUptoSaid : Prop := gravityClosuresUptoRow.holds Tryd.pinned (OpenSpec.upto gravityClosuresSpec)

/-- 'cloverleaflaw05.GravityNets', WHERE WHAT IT READS IS OF BULK AT MOST 1048576: true; the input reads as it did. -/
def gravityNetsUptoRow : OpenClaim := { program := "ytcecdmdnfmgnfaadoor", sum := "774523be3f4940210da211587a845f5a9e180212e07b57ec918a8004b52f6a1d", func := "cloverleaf/cloverleaflaw05.GravityNets", spec := "gravityNets", unfollowed := true, recurses := true, named := ["cloverleaf/gravity.second"], apart := false, laid := [("cloverleaf/gravity.second", laid_cloverleaf_gravity_second)], narrowed := true }
def GravityNetsUptoSaid : Prop := gravityNetsUptoRow.holds Tryd.pinned (OpenSpec.upto gravityNetsSpec)

/-- 'cloverleaflaw05.GravityRates', WHERE WHAT IT READS IS OF BULK AT MOST 1048576: true; the input reads as it did. -/
def gravityRatesUptoRow : OpenClaim := { program := "ytcecdmdnfmgnfaadoor", sum := "774523be3f4940210da211587a845f5a9e180212e07b57ec918a8004b52f6a1d", func := "cloverleaf/cloverleaflaw05.GravityRates", spec := "gravityRates", unfollowed := true, recurses := true, named := ["cloverleaf/gravity.second"], apart := false, laid := [("cloverleaf/gravity.second", laid_cloverleaf_gravity_second)], narrowed := true }
def GravityRatesUptoSaid : Prop := gravityRatesUptoRow.holds Tryd.pinned (OpenSpec.upto gravityRatesSpec)

/-- 'cloverleaflaw05.GravityPossible', WHERE WHAT IT READS IS OF BULK AT MOST 1048576: true; the input reads as it did. -/
def gravityPossibleUptoRow : OpenClaim := { program := "ytcecdmdnfmgnfaadoor", sum := "774523be3f4940210da211587a845f5a9e180212e07b57ec918a8004b52f6a1d", func := "cloverleaf/cloverleaflaw05.GravityPossible", spec := "gravityPossible", unfollowed := true, recurses := true, named := ["cloverleaf/gravity.second"], apart := false, laid := [("cloverleaf/gravity.second", laid_cloverleaf_gravity_second)], narrowed := true }
def GravityPossibleUptoSaid : Prop := gravityPossibleUptoRow.holds Tryd.pinned (OpenSpec.upto gravityPossibleSpec)

/-- 'cloverleaflaw05.GravityWithin', WHERE WHAT IT READS IS OF BULK AT MOST 1048576: true; the input reads as it did. -/
def gravityWithinUptoRow : OpenClaim := { program := "ytcecdmdnfmgnfaadoor", sum := "774523be3f4940210da211587a845f5a9e180212e07b57ec918a8004b52f6a1d", func := "cloverleaf/cloverleaflaw05.GravityWithin", spec := "gravityWithin", unfollowed := true, recurses := true, named := ["cloverleaf/gravity.second"], apart := false, laid := [("cloverleaf/gravity.second", laid_cloverleaf_gravity_second)], narrowed := true }
def GravityWithinUptoSaid : Prop := gravityWithinUptoRow.holds Tryd.pinned (OpenSpec.upto gravityWithinSpec)

/-- 'cloverleaflaw05.GravityCalm', WHERE WHAT IT READS IS OF BULK AT MOST 1048576: true; the input reads as it did. -/
def gravityCalmUptoRow : OpenClaim := { program := "ytcecdmdnfmgnfaadoor", sum := "774523be3f4940210da211587a845f5a9e180212e07b57ec918a8004b52f6a1d", func := "cloverleaf/cloverleaflaw05.GravityCalm", spec := "gravityCalm", unfollowed := true, recurses := true, named := ["cloverleaf/gravity.second"], apart := false, laid := [("cloverleaf/gravity.second", laid_cloverleaf_gravity_second)], narrowed := true }
def GravityCalmUptoSaid : Prop := gravityCalmUptoRow.holds Tryd.pinned (OpenSpec.upto gravityCalmSpec)

/-- 'cloverleaflaw05.GravityFilters', WHERE WHAT IT READS IS OF BULK AT MOST 1048576: true; the input reads as it did. -/
def gravityFiltersUptoRow : OpenClaim := { program := "ytcecdmdnfmgnfaadoor", sum := "774523be3f4940210da211587a845f5a9e180212e07b57ec918a8004b52f6a1d", func := "cloverleaf/cloverleaflaw05.GravityFilters", spec := "gravityFilters", unfollowed := true, recurses := true, named := ["cloverleaf/gravity.second", "cloverleaf/gravity.cosines"], apart := false, laid := [("cloverleaf/gravity.second", laid_cloverleaf_gravity_second), ("cloverleaf/gravity.cosines", laid_cloverleaf_gravity_cosines)], narrowed := true }
def GravityFiltersUptoSaid : Prop := gravityFiltersUptoRow.holds Tryd.pinned (OpenSpec.upto gravityFiltersSpec)

/-- 'cloverleaflaw05.GravityGains', WHERE WHAT IT READS IS OF BULK AT MOST 1048576: true; the input reads as it did. -/
def gravityGainsUptoRow : OpenClaim := { program := "ytcecdmdnfmgnfaadoor", sum := "774523be3f4940210da211587a845f5a9e180212e07b57ec918a8004b52f6a1d", func := "cloverleaf/cloverleaflaw05.GravityGains", spec := "gravityGains", unfollowed := true, recurses := true, named := ["cloverleaf/gravity.second", "cloverleaf/gravity.cosines"], apart := false, laid := [("cloverleaf/gravity.second", laid_cloverleaf_gravity_second), ("cloverleaf/gravity.cosines", laid_cloverleaf_gravity_cosines)], narrowed := true }
def GravityGainsUptoSaid : Prop := gravityGainsUptoRow.holds Tryd.pinned (OpenSpec.upto gravityGainsSpec)

/-- 'cloverleaflaw05.GravitySpans', WHERE WHAT IT READS IS OF BULK AT MOST 1048576: true; the input reads as it did. -/
def gravitySpansUptoRow : OpenClaim := { program := "ytcecdmdnfmgnfaadoor", sum := "774523be3f4940210da211587a845f5a9e180212e07b57ec918a8004b52f6a1d", func := "cloverleaf/cloverleaflaw05.GravitySpans", spec := "gravitySpans", unfollowed := true, recurses := true, named := ["cloverleaf/gravity.second"], apart := false, laid := [("cloverleaf/gravity.second", laid_cloverleaf_gravity_second)], narrowed := true }
def GravitySpansUptoSaid : Prop := gravitySpansUptoRow.holds Tryd.pinned (OpenSpec.upto gravitySpansSpec)

/-- 'cloverleaflaw05.GravityTied', WHERE WHAT IT READS IS OF BULK AT MOST 1048576: true; the input reads as it did. -/
def gravityTiedUptoRow : OpenClaim := { program := "ytcecdmdnfmgnfaadoor", sum := "774523be3f4940210da211587a845f5a9e180212e07b57ec918a8004b52f6a1d", func := "cloverleaf/cloverleaflaw05.GravityTied", spec := "gravityTied", unfollowed := true, recurses := true, named := ["cloverleaf/gravity.second"], apart := false, laid := [("cloverleaf/gravity.second", laid_cloverleaf_gravity_second)], narrowed := true }
def GravityTiedUptoSaid : Prop := gravityTiedUptoRow.holds Tryd.pinned (OpenSpec.upto gravityTiedSpec)

end Rows
end Go.Proofs.YtcecdmdnfmgnfaaDoor
