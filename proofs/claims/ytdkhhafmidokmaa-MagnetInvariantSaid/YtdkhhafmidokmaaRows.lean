/-
  No cell of these rows narrows 'for every input' (looked for: loops, veiled, ifaces, maps, wideKeys, modest, calm, conditions, laid).
  DERIVED. THE GIVEN ROWS OF THIS SEAT. 10 by the template 'for every input the law returns true; each argument reads behind the call as it read before'; 0 by the template 'total and deterministic' (their statements: YtdkhhafmidokmaaTotals.lean).
  GIVEN WITH THE SEED: the statements are not yours to turn. If you find one false, say at which input.
  Laid BY PROGRAM, IN A SANDBOX (cutbox-rows.mjs): the forced cells as the released guide's own fill.sh prints them over the translation 7b2ac0425d4af102… (all of the seat's roots in one cut). By AI agents, Wed Nov 11 2026. No macro, syntax, notation, axiom, sorry.
-/
import Derived.Test.YtdkhhafmidokmaaChecked
import GoSem.Claim
import GoSem.ClaimJoined
import GoSem.ClaimMapViews
import Derived.JoinedTies
import Derived.KernelRfl
namespace Go.Proofs.Ytdkhhafmidokmaa
/- THE CELL 'sum', in the pinned program and in every row, IS THE sha256 OF THE DUMP (.gsa) THAT YtdkhhafmidokmaaProg.lean LOADS. Nothing in Lean hashes anything: it is a label: what it is worth is what the hold of that sum in a sandbox is worth. -/
noncomputable def Try.pinned : Pinned := { name := "ytdkhhafmidokmaa", sum := "7b2ac0425d4af102a10962fb400bf2d0beb99cbbd67290d79912a76fe77e4051", checked := Try.checked }
namespace Rows
def none {H : Type} : Left H := { results := [], args := [] }

/-- 'cloverleaflaw02.MagnetDaily': WHATEVER THE INPUT: true; the input reads as it did. -/
def magnetDailySpec : ChangeSpec := { name := "magnetDaily", fn := fun _ => fun
  | [d1, d2, d3] => { results := [.lit (.bool true)], args := [d1, d2, d3] }
  | _ => none }
def magnetDailyRow : OpenClaim := { program := "ytdkhhafmidokmaa", sum := "7b2ac0425d4af102a10962fb400bf2d0beb99cbbd67290d79912a76fe77e4051", func := "cloverleaf/cloverleaflaw02.MagnetDaily", spec := "magnetDaily", inPlace := ["math/bits.Add64"], unfollowed := true, recurses := true, named := ["math/bits.divideError", "math/bits.overflowError"], apart := false }
def MagnetDailySaid : Prop := magnetDailyRow.holds Try.pinned (OpenSpec.ofChange magnetDailySpec)

/-- ITS FALSE NEIGHBOUR: 'it returns false'. Refute it at one input. -/
def magnetDailyWrong : ChangeSpec := { name := "magnetDaily", fn := fun _ => fun
  | [d1, d2, d3] => { results := [.lit (.bool false)], args := [d1, d2, d3] }
  | _ => none }
def MagnetDailyWrongFalsely : Prop := magnetDailyRow.holds Try.pinned (OpenSpec.ofChange magnetDailyWrong)

/-- 'cloverleaflaw02.MagnetInvariant': WHATEVER THE INPUT: true; the input reads as it did. -/
def magnetInvariantSpec : ChangeSpec := { name := "magnetInvariant", fn := fun _ => fun
  | [d1, d2, d3] => { results := [.lit (.bool true)], args := [d1, d2, d3] }
  | _ => none }
def magnetInvariantRow : OpenClaim := { program := "ytdkhhafmidokmaa", sum := "7b2ac0425d4af102a10962fb400bf2d0beb99cbbd67290d79912a76fe77e4051", func := "cloverleaf/cloverleaflaw02.MagnetInvariant", spec := "magnetInvariant", inPlace := ["math/bits.Add64"], unfollowed := true, recurses := true, named := ["math/bits.divideError", "math/bits.overflowError"], apart := false }
def MagnetInvariantSaid : Prop := magnetInvariantRow.holds Try.pinned (OpenSpec.ofChange magnetInvariantSpec)

/-- ITS FALSE NEIGHBOUR: 'it returns false'. Refute it at one input. -/
def magnetInvariantWrong : ChangeSpec := { name := "magnetInvariant", fn := fun _ => fun
  | [d1, d2, d3] => { results := [.lit (.bool false)], args := [d1, d2, d3] }
  | _ => none }
def MagnetInvariantWrongFalsely : Prop := magnetInvariantRow.holds Try.pinned (OpenSpec.ofChange magnetInvariantWrong)

/-- 'cloverleaflaw02.MagnetSamples': WHATEVER THE INPUT: true; the input reads as it did. -/
def magnetSamplesSpec : ChangeSpec := { name := "magnetSamples", fn := fun _ => fun
  | [d1, d2] => { results := [.lit (.bool true)], args := [d1, d2] }
  | _ => none }
def magnetSamplesRow : OpenClaim := { program := "ytdkhhafmidokmaa", sum := "7b2ac0425d4af102a10962fb400bf2d0beb99cbbd67290d79912a76fe77e4051", func := "cloverleaf/cloverleaflaw02.MagnetSamples", spec := "magnetSamples", inPlace := ["math/bits.Add64"], unfollowed := true, recurses := true, named := ["math/bits.divideError", "math/bits.overflowError"], apart := false }
def MagnetSamplesSaid : Prop := magnetSamplesRow.holds Try.pinned (OpenSpec.ofChange magnetSamplesSpec)

/-- ITS FALSE NEIGHBOUR: 'it returns false'. Refute it at one input. -/
def magnetSamplesWrong : ChangeSpec := { name := "magnetSamples", fn := fun _ => fun
  | [d1, d2] => { results := [.lit (.bool false)], args := [d1, d2] }
  | _ => none }
def MagnetSamplesWrongFalsely : Prop := magnetSamplesRow.holds Try.pinned (OpenSpec.ofChange magnetSamplesWrong)

/-- 'cloverleaflaw02.MagnetStorms': WHATEVER THE INPUT: true; the input reads as it did. -/
def magnetStormsSpec : ChangeSpec := { name := "magnetStorms", fn := fun _ => fun
  | [d1, d2, d3] => { results := [.lit (.bool true)], args := [d1, d2, d3] }
  | _ => none }
def magnetStormsRow : OpenClaim := { program := "ytdkhhafmidokmaa", sum := "7b2ac0425d4af102a10962fb400bf2d0beb99cbbd67290d79912a76fe77e4051", func := "cloverleaf/cloverleaflaw02.MagnetStorms", spec := "magnetStorms", inPlace := ["math/bits.Add64"], unfollowed := true, recurses := true, named := ["math/bits.divideError", "math/bits.overflowError"], apart := false }
def MagnetStormsSaid : Prop := magnetStormsRow.holds Try.pinned (OpenSpec.ofChange magnetStormsSpec)

/-- ITS FALSE NEIGHBOUR: 'it returns false'. Refute it at one input. -/
def magnetStormsWrong : ChangeSpec := { name := "magnetStorms", fn := fun _ => fun
  | [d1, d2, d3] => { results := [.lit (.bool false)], args := [d1, d2, d3] }
  | _ => none }
def MagnetStormsWrongFalsely : Prop := magnetStormsRow.holds Try.pinned (OpenSpec.ofChange magnetStormsWrong)

/-- 'cloverleaflaw02.MagnetInside': WHATEVER THE INPUT: true; the input reads as it did. -/
def magnetInsideSpec : ChangeSpec := { name := "magnetInside", fn := fun _ => fun
  | [d1, d2, d3] => { results := [.lit (.bool true)], args := [d1, d2, d3] }
  | _ => none }
def magnetInsideRow : OpenClaim := { program := "ytdkhhafmidokmaa", sum := "7b2ac0425d4af102a10962fb400bf2d0beb99cbbd67290d79912a76fe77e4051", func := "cloverleaf/cloverleaflaw02.MagnetInside", spec := "magnetInside", inPlace := ["math/bits.Add64"], unfollowed := true, recurses := true, named := ["math/bits.divideError", "math/bits.overflowError"], apart := false }
def MagnetInsideSaid : Prop := magnetInsideRow.holds Try.pinned (OpenSpec.ofChange magnetInsideSpec)

/-- ITS FALSE NEIGHBOUR: 'it returns false'. Refute it at one input. -/
def magnetInsideWrong : ChangeSpec := { name := "magnetInside", fn := fun _ => fun
  | [d1, d2, d3] => { results := [.lit (.bool false)], args := [d1, d2, d3] }
  | _ => none }
def MagnetInsideWrongFalsely : Prop := magnetInsideRow.holds Try.pinned (OpenSpec.ofChange magnetInsideWrong)

/-- 'cloverleaflaw02.MagnetStrengths': WHATEVER THE INPUT: true; the input reads as it did. -/
def magnetStrengthsSpec : ChangeSpec := { name := "magnetStrengths", fn := fun _ => fun
  | [d1, d2] => { results := [.lit (.bool true)], args := [d1, d2] }
  | _ => none }
def magnetStrengthsRow : OpenClaim := { program := "ytdkhhafmidokmaa", sum := "7b2ac0425d4af102a10962fb400bf2d0beb99cbbd67290d79912a76fe77e4051", func := "cloverleaf/cloverleaflaw02.MagnetStrengths", spec := "magnetStrengths", inPlace := ["math/bits.Add64"], unfollowed := true, recurses := true, named := ["math/bits.divideError", "math/bits.overflowError"], apart := false }
def MagnetStrengthsSaid : Prop := magnetStrengthsRow.holds Try.pinned (OpenSpec.ofChange magnetStrengthsSpec)

/-- ITS FALSE NEIGHBOUR: 'it returns false'. Refute it at one input. -/
def magnetStrengthsWrong : ChangeSpec := { name := "magnetStrengths", fn := fun _ => fun
  | [d1, d2] => { results := [.lit (.bool false)], args := [d1, d2] }
  | _ => none }
def MagnetStrengthsWrongFalsely : Prop := magnetStrengthsRow.holds Try.pinned (OpenSpec.ofChange magnetStrengthsWrong)

/-- 'cloverleaflaw02.MagnetLags': WHATEVER THE INPUT: true; the input reads as it did. -/
def magnetLagsSpec : ChangeSpec := { name := "magnetLags", fn := fun _ => fun
  | [d1, d2, d3] => { results := [.lit (.bool true)], args := [d1, d2, d3] }
  | _ => none }
def magnetLagsRow : OpenClaim := { program := "ytdkhhafmidokmaa", sum := "7b2ac0425d4af102a10962fb400bf2d0beb99cbbd67290d79912a76fe77e4051", func := "cloverleaf/cloverleaflaw02.MagnetLags", spec := "magnetLags", inPlace := ["math/bits.Add64"], unfollowed := true, recurses := true, named := ["math/bits.divideError", "math/bits.overflowError"], apart := false }
def MagnetLagsSaid : Prop := magnetLagsRow.holds Try.pinned (OpenSpec.ofChange magnetLagsSpec)

/-- ITS FALSE NEIGHBOUR: 'it returns false'. Refute it at one input. -/
def magnetLagsWrong : ChangeSpec := { name := "magnetLags", fn := fun _ => fun
  | [d1, d2, d3] => { results := [.lit (.bool false)], args := [d1, d2, d3] }
  | _ => none }
def MagnetLagsWrongFalsely : Prop := magnetLagsRow.holds Try.pinned (OpenSpec.ofChange magnetLagsWrong)

/-- 'cloverleaflaw02.MagnetThereAndBack': WHATEVER THE INPUT: true; the input reads as it did. -/
def magnetThereAndBackSpec : ChangeSpec := { name := "magnetThereAndBack", fn := fun _ => fun
  | [d1, d2] => { results := [.lit (.bool true)], args := [d1, d2] }
  | _ => none }
def magnetThereAndBackRow : OpenClaim := { program := "ytdkhhafmidokmaa", sum := "7b2ac0425d4af102a10962fb400bf2d0beb99cbbd67290d79912a76fe77e4051", func := "cloverleaf/cloverleaflaw02.MagnetThereAndBack", spec := "magnetThereAndBack", inPlace := ["math/bits.Add64"], unfollowed := true, recurses := true, named := ["math/bits.divideError", "math/bits.overflowError"], apart := false }
def MagnetThereAndBackSaid : Prop := magnetThereAndBackRow.holds Try.pinned (OpenSpec.ofChange magnetThereAndBackSpec)

/-- ITS FALSE NEIGHBOUR: 'it returns false'. Refute it at one input. -/
def magnetThereAndBackWrong : ChangeSpec := { name := "magnetThereAndBack", fn := fun _ => fun
  | [d1, d2] => { results := [.lit (.bool false)], args := [d1, d2] }
  | _ => none }
def MagnetThereAndBackWrongFalsely : Prop := magnetThereAndBackRow.holds Try.pinned (OpenSpec.ofChange magnetThereAndBackWrong)

/-- 'cloverleaflaw02.MagnetSpikes': WHATEVER THE INPUT: true; the input reads as it did. -/
def magnetSpikesSpec : ChangeSpec := { name := "magnetSpikes", fn := fun _ => fun
  | [d1, d2] => { results := [.lit (.bool true)], args := [d1, d2] }
  | _ => none }
def magnetSpikesRow : OpenClaim := { program := "ytdkhhafmidokmaa", sum := "7b2ac0425d4af102a10962fb400bf2d0beb99cbbd67290d79912a76fe77e4051", func := "cloverleaf/cloverleaflaw02.MagnetSpikes", spec := "magnetSpikes", inPlace := ["math/bits.Add64"], unfollowed := true, recurses := true, named := ["math/bits.divideError", "math/bits.overflowError"], apart := false }
def MagnetSpikesSaid : Prop := magnetSpikesRow.holds Try.pinned (OpenSpec.ofChange magnetSpikesSpec)

/-- ITS FALSE NEIGHBOUR: 'it returns false'. Refute it at one input. -/
def magnetSpikesWrong : ChangeSpec := { name := "magnetSpikes", fn := fun _ => fun
  | [d1, d2] => { results := [.lit (.bool false)], args := [d1, d2] }
  | _ => none }
def MagnetSpikesWrongFalsely : Prop := magnetSpikesRow.holds Try.pinned (OpenSpec.ofChange magnetSpikesWrong)

/-- 'cloverleaflaw02.MagnetCompensated': WHATEVER THE INPUT: true; the input reads as it did. -/
def magnetCompensatedSpec : ChangeSpec := { name := "magnetCompensated", fn := fun _ => fun
  | [d1, d2, d3] => { results := [.lit (.bool true)], args := [d1, d2, d3] }
  | _ => none }
def magnetCompensatedRow : OpenClaim := { program := "ytdkhhafmidokmaa", sum := "7b2ac0425d4af102a10962fb400bf2d0beb99cbbd67290d79912a76fe77e4051", func := "cloverleaf/cloverleaflaw02.MagnetCompensated", spec := "magnetCompensated", inPlace := ["math/bits.Add64"], unfollowed := true, recurses := true, named := ["math/bits.divideError", "math/bits.overflowError"], apart := false }
def MagnetCompensatedSaid : Prop := magnetCompensatedRow.holds Try.pinned (OpenSpec.ofChange magnetCompensatedSpec)

/-- ITS FALSE NEIGHBOUR: 'it returns false'. Refute it at one input. -/
def magnetCompensatedWrong : ChangeSpec := { name := "magnetCompensated", fn := fun _ => fun
  | [d1, d2, d3] => { results := [.lit (.bool false)], args := [d1, d2, d3] }
  | _ => none }
def MagnetCompensatedWrongFalsely : Prop := magnetCompensatedRow.holds Try.pinned (OpenSpec.ofChange magnetCompensatedWrong)

/- THE SECOND FORM. 'bulk': how many values and letters a reading holds, each counted each time it is reached (what is shared counts as often as it is met; a slice's spare places count too). A statement '..UptoSaid' is the law's where the arguments, and the package variables that the reading takes, are together of bulk at most 1048576: NARROWER than '..Said'. Prove '..Said' where nothing that the law and all that it calls make is longer than what came in: it says more and counts as full. Else prove '..UptoSaid'. A law counts once. -/
mutual
def uptoBulk {H : Type} : DataW H → Nat
  | .lit (.string bytes) => bytes.length + 1
  | .lit _ => 1
  | .nil => 1
  | .ptr d => uptoBulk d + 1
  | .slice elems spare => uptoBulkAll elems + uptoBulkAll spare + 1
  | .agg parts => uptoBulkAll parts + 1
  | .iface _ d => uptoBulk d + 1
  | .map entries => uptoBulkEntries entries + 1
  | .held _ => 1
def uptoBulkAll {H : Type} : List (DataW H) → Nat
  | [] => 0
  | d :: r => uptoBulk d + uptoBulkAll r
def uptoBulkEntries {H : Type} : List (Lit × DataW H) → Nat
  | [] => 0
  | x :: r => uptoBulkEntry x + uptoBulkEntries r
def uptoBulkEntry {H : Type} : Lit × DataW H → Nat
  | (.string bytes, d) => bytes.length + uptoBulk d + 1
  | (_, d) => uptoBulk d + 1
 end
def uptoSmall : (H : Type) → List (DataW H) → Bool := fun _ ds => decide (uptoBulkAll ds ≤ 1048576)
def OpenSpec.upto (s : _root_.Go.ChangeSpec) : _root_.Go.OpenSpec := { _root_.Go.OpenSpec.ofChange s with cond := some uptoSmall }

/-- 'cloverleaflaw02.MagnetDaily', WHERE WHAT IT READS IS OF BULK AT MOST 1048576: true; the input reads as it did. -/
def magnetDailyUptoRow : OpenClaim := { program := "ytdkhhafmidokmaa", sum := "7b2ac0425d4af102a10962fb400bf2d0beb99cbbd67290d79912a76fe77e4051", func := "cloverleaf/cloverleaflaw02.MagnetDaily", spec := "magnetDaily", inPlace := ["math/bits.Add64"], unfollowed := true, recurses := true, named := ["math/bits.divideError", "math/bits.overflowError"], apart := false, narrowed := true }
def MagnetDailyUptoSaid : Prop := magnetDailyUptoRow.holds Try.pinned (OpenSpec.upto magnetDailySpec)

/-- 'cloverleaflaw02.MagnetInvariant', WHERE WHAT IT READS IS OF BULK AT MOST 1048576: true; the input reads as it did. -/
def magnetInvariantUptoRow : OpenClaim := { program := "ytdkhhafmidokmaa", sum := "7b2ac0425d4af102a10962fb400bf2d0beb99cbbd67290d79912a76fe77e4051", func := "cloverleaf/cloverleaflaw02.MagnetInvariant", spec := "magnetInvariant", inPlace := ["math/bits.Add64"], unfollowed := true, recurses := true, named := ["math/bits.divideError", "math/bits.overflowError"], apart := false, narrowed := true }
def MagnetInvariantUptoSaid : Prop := magnetInvariantUptoRow.holds Try.pinned (OpenSpec.upto magnetInvariantSpec)

/-- 'cloverleaflaw02.MagnetSamples', WHERE WHAT IT READS IS OF BULK AT MOST 1048576: true; the input reads as it did. -/
def magnetSamplesUptoRow : OpenClaim := { program := "ytdkhhafmidokmaa", sum := "7b2ac0425d4af102a10962fb400bf2d0beb99cbbd67290d79912a76fe77e4051", func := "cloverleaf/cloverleaflaw02.MagnetSamples", spec := "magnetSamples", inPlace := ["math/bits.Add64"], unfollowed := true, recurses := true, named := ["math/bits.divideError", "math/bits.overflowError"], apart := false, narrowed := true }
def MagnetSamplesUptoSaid : Prop := magnetSamplesUptoRow.holds Try.pinned (OpenSpec.upto magnetSamplesSpec)

/-- 'cloverleaflaw02.MagnetStorms', WHERE WHAT IT READS IS OF BULK AT MOST 1048576: true; the input reads as it did. -/
def magnetStormsUptoRow : OpenClaim := { program := "ytdkhhafmidokmaa", sum := "7b2ac0425d4af102a10962fb400bf2d0beb99cbbd67290d79912a76fe77e4051", func := "cloverleaf/cloverleaflaw02.MagnetStorms", spec := "magnetStorms", inPlace := ["math/bits.Add64"], unfollowed := true, recurses := true, named := ["math/bits.divideError", "math/bits.overflowError"], apart := false, narrowed := true }
def MagnetStormsUptoSaid : Prop := magnetStormsUptoRow.holds Try.pinned (OpenSpec.upto magnetStormsSpec)

/-- 'cloverleaflaw02.MagnetInside', WHERE WHAT IT READS IS OF BULK AT MOST 1048576: true; the input reads as it did. -/
def magnetInsideUptoRow : OpenClaim := { program := "ytdkhhafmidokmaa", sum := "7b2ac0425d4af102a10962fb400bf2d0beb99cbbd67290d79912a76fe77e4051", func := "cloverleaf/cloverleaflaw02.MagnetInside", spec := "magnetInside", inPlace := ["math/bits.Add64"], unfollowed := true, recurses := true, named := ["math/bits.divideError", "math/bits.overflowError"], apart := false, narrowed := true }
def MagnetInsideUptoSaid : Prop := magnetInsideUptoRow.holds Try.pinned (OpenSpec.upto magnetInsideSpec)

/-- 'cloverleaflaw02.MagnetStrengths', WHERE WHAT IT READS IS OF BULK AT MOST 1048576: true; the input reads as it did. -/
def magnetStrengthsUptoRow : OpenClaim := { program := "ytdkhhafmidokmaa", sum := "7b2ac0425d4af102a10962fb400bf2d0beb99cbbd67290d79912a76fe77e4051", func := "cloverleaf/cloverleaflaw02.MagnetStrengths", spec := "magnetStrengths", inPlace := ["math/bits.Add64"], unfollowed := true, recurses := true, named := ["math/bits.divideError", "math/bits.overflowError"], apart := false, narrowed := true }
def MagnetStrengthsUptoSaid : Prop := magnetStrengthsUptoRow.holds Try.pinned (OpenSpec.upto magnetStrengthsSpec)

/-- 'cloverleaflaw02.MagnetLags', WHERE WHAT IT READS IS OF BULK AT MOST 1048576: true; the input reads as it did. -/
def magnetLagsUptoRow : OpenClaim := { program := "ytdkhhafmidokmaa", sum := "7b2ac0425d4af102a10962fb400bf2d0beb99cbbd67290d79912a76fe77e4051", func := "cloverleaf/cloverleaflaw02.MagnetLags", spec := "magnetLags", inPlace := ["math/bits.Add64"], unfollowed := true, recurses := true, named := ["math/bits.divideError", "math/bits.overflowError"], apart := false, narrowed := true }
def MagnetLagsUptoSaid : Prop := magnetLagsUptoRow.holds Try.pinned (OpenSpec.upto magnetLagsSpec)

/-- 'cloverleaflaw02.MagnetThereAndBack', WHERE WHAT IT READS IS OF BULK AT MOST 1048576: true; the input reads as it did. -/
def magnetThereAndBackUptoRow : OpenClaim := { program := "ytdkhhafmidokmaa", sum := "7b2ac0425d4af102a10962fb400bf2d0beb99cbbd67290d79912a76fe77e4051", func := "cloverleaf/cloverleaflaw02.MagnetThereAndBack", spec := "magnetThereAndBack", inPlace := ["math/bits.Add64"], unfollowed := true, recurses := true, named := ["math/bits.divideError", "math/bits.overflowError"], apart := false, narrowed := true }
def MagnetThereAndBackUptoSaid : Prop := magnetThereAndBackUptoRow.holds Try.pinned (OpenSpec.upto magnetThereAndBackSpec)

/-- 'cloverleaflaw02.MagnetSpikes', WHERE WHAT IT READS IS OF BULK AT MOST 1048576: true; the input reads as it did. -/
def magnetSpikesUptoRow : OpenClaim := { program := "ytdkhhafmidokmaa", sum := "7b2ac0425d4af102a10962fb400bf2d0beb99cbbd67290d79912a76fe77e4051", func := "cloverleaf/cloverleaflaw02.MagnetSpikes", spec := "magnetSpikes", inPlace := ["math/bits.Add64"], unfollowed := true, recurses := true, named := ["math/bits.divideError", "math/bits.overflowError"], apart := false, narrowed := true }
def MagnetSpikesUptoSaid : Prop := magnetSpikesUptoRow.holds Try.pinned (OpenSpec.upto magnetSpikesSpec)

/-- 'cloverleaflaw02.MagnetCompensated', WHERE WHAT IT READS IS OF BULK AT MOST 1048576: true; the input reads as it did. -/
def magnetCompensatedUptoRow : OpenClaim := { program := "ytdkhhafmidokmaa", sum := "7b2ac0425d4af102a10962fb400bf2d0beb99cbbd67290d79912a76fe77e4051", func := "cloverleaf/cloverleaflaw02.MagnetCompensated", spec := "magnetCompensated", inPlace := ["math/bits.Add64"], unfollowed := true, recurses := true, named := ["math/bits.divideError", "math/bits.overflowError"], apart := false, narrowed := true }
def MagnetCompensatedUptoSaid : Prop := magnetCompensatedUptoRow.holds Try.pinned (OpenSpec.upto magnetCompensatedSpec)

end Rows
end Go.Proofs.Ytdkhhafmidokmaa
