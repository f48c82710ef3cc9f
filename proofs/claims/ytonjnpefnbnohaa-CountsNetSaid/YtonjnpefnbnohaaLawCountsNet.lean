/- CountsNet: the given statement is proved: at every input the law returns true, and the input reads as it did. No condition. -/
import Derived.Test.YtonjnpefnbnohaaWalkCountsNet
import Derived.Test.YtonjnpefnbnohaaTxQ
import Derived.Test.YtonjnpefnbnohaaRows
import Derived.ProofKit
namespace Go.Proofs.Ytonjnpefnbnohaa
open Go Go.Mx
set_option maxRecDepth 100000
theorem few_of {p0 : CR} (h : (!(s_law06_fewKnots p0)) = false) : p0.hs.length ≤ 10 := by
  have h' : decide ((p0.hs.length : Int) ≤ 10) = true := by simpa [s_law06_fewKnots] using h
  have := of_decide_eq_true h'
  omega
/-- The plain law. -/
theorem plain_law06_CountsNet (p0 : CR) (p1 : CS) (_ : okPs P_law06_CountsNet (p0, p1)) : (∀ p ∈ pre_law06_CountsNet p0 p1, p) ∧ s_law06_CountsNet p0 p1 = true := by
  constructor
  · intro p hp
    simp only [pre_law06_CountsNet, List.mem_cons, List.not_mem_nil, or_false] at hp
    rcases hp with rfl | rfl | rfl | rfl
    · exact few_of
    all_goals
      intro _ h _
      exact tx_vok h
  · unfold s_law06_CountsNet
    rcases hb : (v_both p0 p1 != 0) with _ | _ <;> simp [s_counts_LiveOf, s_counts_BackgroundOf, s_counts_RadonOf, s_counts_NetOf, hb]

theorem own : ownKnob Try.prog.godebug = none := by kernel_rfl
theorem laidOut : laidOutB Try.prog = true := by kernel_rfl
theorem hfn6 : Try.prog.funcs[6]? = some (fnOf Try.prog 6) := by kernel_rfl
theorem hps6 : (fnOf Try.prog 6).params.size = 2 := by kernel_rfl
theorem lifted_CountsNet (os : Os) (started : os.Started) (H : Type) (enc : TypeId × Value → H) :
    ReturnsInHanded {} Try.checked os 6 .any (Rows.countsNetSpec.pre6 enc Try.prog (fnOf Try.prog 6) [] false) (Rows.countsNetSpec.post enc Try.prog (fnOf Try.prog 6) false true false false) :=
  said_of (C := Try.checked) (ss := P_law06_CountsNet.map shP) own started (by kernel_rfl) hfn6
    (ChangeSpec.witness6 (enc := enc) (C := Try.checked) false ⟨#[], zeroArgs P_law06_CountsNet, []⟩ 8 (by kernel_rfl) (by kernel_rfl) (by kernel_rfl) (by kernel_rfl)) rfl
    (fun ds h => by
      rw [hps6] at h
      match ds, h with
      | [_, _], _ => rfl)
    laidOut (by kernel_rfl) (rt := (fnOf Try.prog 6).resultTypes.getD 0 0) (by kernel_rfl) (by kernel_rfl) (by kernel_rfl)
    (law_of ok_law06_CountsNet fun x hx => ⟨(plain_law06_CountsNet x.1 x.2 hx).1, congrArg (fun b => V.p (.bool b)) (plain_law06_CountsNet x.1 x.2 hx).2⟩)
theorem CountsNet_holds : Rows.CountsNetSaid :=
  OpenClaim.holds_of_wide 6 (fnOf Try.prog 6) rfl rfl rfl rfl rfl rfl rfl ⟨rfl, rfl, rfl, rfl, rfl⟩ rfl rfl rfl rfl rfl (by kernel_rfl) hfn6 (by kernel_rfl)
    (of_decide_eq_true (by kernel_rfl)) (by unfold Func.isWrapper; first | (rw [if_pos (by decide +kernel)]; kernel_rfl) | (rw [if_neg (by decide +kernel)]; exact ⟨rfl, rfl⟩))
    (fun os started H enc _ => lifted_CountsNet os started H enc)
end Go.Proofs.Ytonjnpefnbnohaa
