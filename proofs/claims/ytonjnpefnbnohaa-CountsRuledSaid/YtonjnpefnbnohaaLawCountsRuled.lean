/- CountsRuled: the given statement is proved: at every input the law returns true, and the input reads as it did. No condition. -/
import Derived.Test.YtonjnpefnbnohaaWalkCountsRuled
import Derived.Test.YtonjnpefnbnohaaTxP
import Derived.Test.YtonjnpefnbnohaaRows
import Derived.ProofKit
namespace Go.Proofs.Ytonjnpefnbnohaa
open Go Go.Mx
set_option maxRecDepth 100000
/-- The plain law. -/
theorem plain_law06_CountsRuled (p0 : CR) (p1 : CS) : (∀ p ∈ pre_law06_CountsRuled p0 p1, p) ∧ s_law06_CountsRuled p0 p1 = true := by
  constructor
  · intro p hp
    simp only [pre_law06_CountsRuled, List.mem_cons, List.not_mem_nil, or_false] at hp
    subst hp
    intro h
    have h' : decide ((p0.hs.length : Int) ≤ 10) = true := by simpa [s_law06_fewKnots] using h
    have := of_decide_eq_true h'
    show p0.hs.length ≤ 10
    omega
  · unfold s_law06_CountsRuled
    rw [beq_self_eq_true, beq_self_eq_true, beq_self_eq_true]
    cases s_law06_fewKnots p0 <;> rfl
theorem own : ownKnob Try.prog.godebug = none := by kernel_rfl
theorem laidOut : laidOutB Try.prog = true := by kernel_rfl
theorem hfn3 : Try.prog.funcs[3]? = some (fnOf Try.prog 3) := by kernel_rfl
theorem hps3 : (fnOf Try.prog 3).params.size = 2 := by kernel_rfl
theorem lifted_CountsRuled (os : Os) (started : os.Started) (H : Type) (enc : TypeId × Value → H) :
    ReturnsInHanded {} Try.checked os 3 .any (Rows.countsRuledSpec.pre6 enc Try.prog (fnOf Try.prog 3) [] false) (Rows.countsRuledSpec.post enc Try.prog (fnOf Try.prog 3) false true false false) :=
  said_of (C := Try.checked) (ss := P_law06_CountsRuled.map shP) own started (by kernel_rfl) hfn3
    (ChangeSpec.witness6 (enc := enc) (C := Try.checked) false ⟨#[], zeroArgs P_law06_CountsRuled, []⟩ 8 (by kernel_rfl) (by kernel_rfl) (by kernel_rfl) (by kernel_rfl)) rfl
    (fun ds h => by
      rw [hps3] at h
      match ds, h with
      | [_, _], _ => rfl)
    laidOut (by kernel_rfl) (rt := (fnOf Try.prog 3).resultTypes.getD 0 0) (by kernel_rfl) (by kernel_rfl) (by kernel_rfl)
    (law_of ok_law06_CountsRuled fun x _ => ⟨(plain_law06_CountsRuled x.1 x.2).1, congrArg (fun b => V.p (.bool b)) (plain_law06_CountsRuled x.1 x.2).2⟩)
theorem CountsRuled_holds : Rows.CountsRuledSaid :=
  OpenClaim.holds_of_wide 3 (fnOf Try.prog 3) rfl rfl rfl rfl rfl rfl rfl ⟨rfl, rfl, rfl, rfl, rfl⟩ rfl rfl rfl rfl rfl (by kernel_rfl) hfn3 (by kernel_rfl)
    (of_decide_eq_true (by kernel_rfl)) (by unfold Func.isWrapper; first | (rw [if_pos (by decide +kernel)]; kernel_rfl) | (rw [if_neg (by decide +kernel)]; exact ⟨rfl, rfl⟩))
    (fun os started H enc _ => lifted_CountsRuled os started H enc)
end Go.Proofs.Ytonjnpefnbnohaa
