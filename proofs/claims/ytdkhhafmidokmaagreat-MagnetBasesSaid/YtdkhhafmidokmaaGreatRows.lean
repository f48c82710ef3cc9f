/-
  No cell of these rows narrows 'for every input' (looked for: loops, veiled, ifaces, maps, wideKeys, modest, calm, conditions, laid).
  DERIVED. THE GIVEN ROWS OF THIS SEAT. 2 by the template 'for every input the law returns true; each argument reads behind the call as it read before'; 0 by the template 'total and deterministic' (their statements: YtdkhhafmidokmaaGreatTotals.lean).
  GIVEN WITH THE SEED: the statements are not yours to turn. If you find one false, say at which input.
  Laid BY PROGRAM, IN A SANDBOX (cutbox-rows.mjs): the forced cells as the released guide's own fill.sh prints them over the translation 082063b111335b6d… (all of the seat's roots in one cut). By AI agents, Wed Nov 11 2026. No macro, syntax, notation, axiom, sorry.
-/
import Derived.Test.YtdkhhafmidokmaaGreatChecked
import GoSem.Claim
import GoSem.ClaimJoined
import GoSem.ClaimMapViews
import Derived.JoinedTies
import Derived.KernelRfl
namespace Go.Proofs.YtdkhhafmidokmaaGreat
/- THE CELL 'sum', in the pinned program and in every row, IS THE sha256 OF THE DUMP (.gsa) THAT YtdkhhafmidokmaaGreatProg.lean LOADS. Nothing in Lean hashes anything: it is a label: what it is worth is what the hold of that sum in a sandbox is worth. -/
noncomputable def Tryz.pinned : Pinned := { name := "ytdkhhafmidokmaagreat", sum := "082063b111335b6d4063808ba3e0ece4d9c7442c2e05bb3690aecf0117a25c70", checked := Tryz.checked }
namespace Rows
def none {H : Type} : Left H := { results := [], args := [] }

/-- 'cloverleaflaw02.MagnetBases': WHATEVER THE INPUT: true; the input reads as it did. -/
def magnetBasesSpec : ChangeSpec := { name := "magnetBases", fn := fun _ => fun
  | [d1, d2, d3] => { results := [.lit (.bool true)], args := [d1, d2, d3] }
  | _ => none }
def magnetBasesRow : OpenClaim := { program := "ytdkhhafmidokmaagreat", sum := "082063b111335b6d4063808ba3e0ece4d9c7442c2e05bb3690aecf0117a25c70", func := "cloverleaf/cloverleaflaw02.MagnetBases", spec := "magnetBases", inPlace := ["math/bits.Add64"], unfollowed := true, recurses := true, named := ["math/bits.divideError", "math/bits.overflowError"], apart := false }
def MagnetBasesSaid : Prop := magnetBasesRow.holds Tryz.pinned (OpenSpec.ofChange magnetBasesSpec)

/-- ITS FALSE NEIGHBOUR: 'it returns false'. Refute it at one input. -/
def magnetBasesWrong : ChangeSpec := { name := "magnetBases", fn := fun _ => fun
  | [d1, d2, d3] => { results := [.lit (.bool false)], args := [d1, d2, d3] }
  | _ => none }
def MagnetBasesWrongFalsely : Prop := magnetBasesRow.holds Tryz.pinned (OpenSpec.ofChange magnetBasesWrong)

/-- 'cloverleaflaw02.MagnetFits': WHATEVER THE INPUT: true; the input reads as it did. -/
def magnetFitsSpec : ChangeSpec := { name := "magnetFits", fn := fun _ => fun
  | [d1, d2, d3] => { results := [.lit (.bool true)], args := [d1, d2, d3] }
  | _ => none }
def magnetFitsRow : OpenClaim := { program := "ytdkhhafmidokmaagreat", sum := "082063b111335b6d4063808ba3e0ece4d9c7442c2e05bb3690aecf0117a25c70", func := "cloverleaf/cloverleaflaw02.MagnetFits", spec := "magnetFits", inPlace := ["math/bits.Add64"], unfollowed := true, recurses := true, named := ["math/bits.divideError", "math/bits.overflowError"], apart := false }
def MagnetFitsSaid : Prop := magnetFitsRow.holds Tryz.pinned (OpenSpec.ofChange magnetFitsSpec)

/-- ITS FALSE NEIGHBOUR: 'it returns false'. Refute it at one input. -/
def magnetFitsWrong : ChangeSpec := { name := "magnetFits", fn := fun _ => fun
  | [d1, d2, d3] => { results := [.lit (.bool false)], args := [d1, d2, d3] }
  | _ => none }
def MagnetFitsWrongFalsely : Prop := magnetFitsRow.holds Tryz.pinned (OpenSpec.ofChange magnetFitsWrong)

/- THE SECOND FORM. 'bulk': how many values and letters a reading holds, each counted each time it is reached (what is shared counts as often as it is met; a slice's spare places count too). A statement '..UptoSaid' is the law's where the arguments, and the package variables that the reading takes, are together of bulk at most 1048576: NARROWER than '..Said'. Prove '..Said' where nothing that the law and all that it calls make is longer than what came in: it says more and counts as full. Else prove '..UptoSaid'. A law counts once. -/
mutual
def uptoBulk {H : Type} : DataW H → Nat
  | .lit (.string bytes) => bytes.length + 1
  | .lit _ => 1
  | .nil => 1
  | .ptr d => uptoBulk d + 1
  | .slice elems spare => uptoBulkAll elems + uptoBulkAll spare + 1
  | .agg parts => uptoBulkAll parts + 1
  | .iface _ d => uptoBulk d + 1
  | .map entries => uptoBulkEntries entries + 1
  | .held _ => 1
def uptoBulkAll {H : Type} : List (DataW H) → Nat
  | [] => 0
  | d :: r => uptoBulk d + uptoBulkAll r
def uptoBulkEntries {H : Type} : List (Lit × DataW H) → Nat
  | [] => 0
  | x :: r => uptoBulkEntry x + uptoBulkEntries r
def uptoBulkEntry {H : Type} : Lit × DataW H → Nat
  | (.string bytes, d) => bytes.length + uptoBulk d + 1
  | (_, d) => uptoBulk d + 1
 end
def uptoSmall : (H : Type) → List (DataW H) → Bool := fun _ ds => decide (uptoBulkAll ds ≤ 1048576)
def OpenSpec.upto (s : _root_.Go.ChangeSpec) : _root_.Go.OpenSpec := { _root_.Go.OpenSpec.ofChange s with cond := some uptoSmall }

/-- 'cloverleaflaw02.MagnetBases', WHERE WHAT IT READS IS OF BULK AT MOST 1048576: true; the input reads as it did. -/
def magnetBasesUptoRow : OpenClaim := { program := "ytdkhhafmidokmaagreat", sum := "082063b111335b6d4063808ba3e0ece4d9c7442c2e05bb3690aecf0117a25c70", func := "cloverleaf/cloverleaflaw02.MagnetBases", spec := "magnetBases", inPlace := ["math/bits.Add64"], unfollowed := true, recurses := true, named := ["math/bits.divideError", "math/bits.overflowError"], apart := false, narrowed := true }
def MagnetBasesUptoSaid : Prop := magnetBasesUptoRow.holds Tryz.pinned (OpenSpec.upto magnetBasesSpec)

/-- 'cloverleaflaw02.MagnetFits', WHERE WHAT IT READS IS OF BULK AT MOST 1048576: true; the input reads as it did. -/
def magnetFitsUptoRow : OpenClaim := { program := "ytdkhhafmidokmaagreat", sum := "082063b111335b6d4063808ba3e0ece4d9c7442c2e05bb3690aecf0117a25c70", func := "cloverleaf/cloverleaflaw02.MagnetFits", spec := "magnetFits", inPlace := ["math/bits.Add64"], unfollowed := true, recurses := true, named := ["math/bits.divideError", "math/bits.overflowError"], apart := false, narrowed := true }
def MagnetFitsUptoSaid : Prop := magnetFitsUptoRow.holds Tryz.pinned (OpenSpec.upto magnetFitsSpec)

end Rows
end Go.Proofs.YtdkhhafmidokmaaGreat
