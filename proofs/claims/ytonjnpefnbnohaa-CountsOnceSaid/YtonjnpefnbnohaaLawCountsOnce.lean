/- CountsOnce: the given statement is proved: at every input the law returns true, and the input reads as it did. No condition. -/
import Derived.Test.YtonjnpefnbnohaaWalkCountsOnce
import Derived.Test.YtonjnpefnbnohaaTxV
import Derived.Test.YtonjnpefnbnohaaRows
import Derived.ProofKit
namespace Go.Proofs.Ytonjnpefnbnohaa
open Go Go.Mx
set_option maxRecDepth 100000
/-- The plain law. -/
theorem plain_law06_CountsOnce (p0 : List Int) (p1 : (Int × Int) × (Int × Int) × Int × Int) (p2 : Int) (_ : okPs P_law06_CountsOnce (p0, p1, p2)) : (∀ p ∈ pre_law06_CountsOnce p0 p1 p2, p) ∧ s_law06_CountsOnce p0 p1 p2 = true := by
  constructor
  · intro p hp
    simp only [pre_law06_CountsOnce, List.mem_cons, List.not_mem_nil, or_false] at hp
    subst hp
    intro h
    obtain ⟨h, h3⟩ := tx_or h
    obtain ⟨_, h2⟩ := tx_or h
    exact ⟨tx_spectrum (bne0 h2), tx_nwithin.1 h3, rfl⟩
  · unfold s_law06_CountsOnce
    cases (cond (cond (!(s_law06_few p0)) true ((v_spec p0).2 != 0)) true (!(s_base_Within p2 (-64) 64))) <;> rfl

theorem own : ownKnob Try.prog.godebug = none := by kernel_rfl
theorem laidOut : laidOutB Try.prog = true := by kernel_rfl
theorem hfn10 : Try.prog.funcs[10]? = some (fnOf Try.prog 10) := by kernel_rfl
theorem hps10 : (fnOf Try.prog 10).params.size = 3 := by kernel_rfl
theorem lifted_CountsOnce (os : Os) (started : os.Started) (H : Type) (enc : TypeId × Value → H) :
    ReturnsInHanded {} Try.checked os 10 .any (Rows.countsOnceSpec.pre6 enc Try.prog (fnOf Try.prog 10) [] false) (Rows.countsOnceSpec.post enc Try.prog (fnOf Try.prog 10) false true false false) :=
  said_of (C := Try.checked) (ss := P_law06_CountsOnce.map shP) own started (by kernel_rfl) hfn10
    (ChangeSpec.witness6 (enc := enc) (C := Try.checked) false ⟨#[], zeroArgs P_law06_CountsOnce, []⟩ 8 (by kernel_rfl) (by kernel_rfl) (by kernel_rfl) (by kernel_rfl)) rfl
    (fun ds h => by
      rw [hps10] at h
      match ds, h with
      | [_, _, _], _ => rfl)
    laidOut (by kernel_rfl) (rt := (fnOf Try.prog 10).resultTypes.getD 0 0) (by kernel_rfl) (by kernel_rfl) (by kernel_rfl)
    (law_of ok_law06_CountsOnce fun x hx => ⟨(plain_law06_CountsOnce x.1 x.2.1 x.2.2 hx).1, congrArg (fun b => V.p (.bool b)) (plain_law06_CountsOnce x.1 x.2.1 x.2.2 hx).2⟩)
theorem CountsOnce_holds : Rows.CountsOnceSaid :=
  OpenClaim.holds_of_wide 10 (fnOf Try.prog 10) rfl rfl rfl rfl rfl rfl rfl ⟨rfl, rfl, rfl, rfl, rfl⟩ rfl rfl rfl rfl rfl (by kernel_rfl) hfn10 (by kernel_rfl)
    (of_decide_eq_true (by kernel_rfl)) (by unfold Func.isWrapper; first | (rw [if_pos (by decide +kernel)]; kernel_rfl) | (rw [if_neg (by decide +kernel)]; exact ⟨rfl, rfl⟩))
    (fun os started H enc _ => lifted_CountsOnce os started H enc)
end Go.Proofs.Ytonjnpefnbnohaa
