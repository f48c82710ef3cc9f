/- CountsStripped: the given statement is proved: at every input the law returns true, and the input reads as it did. No condition. -/
import Derived.Test.YtonjnpefnbnohaaWalkCountsStripped
import Derived.Test.YtonjnpefnbnohaaTxV
import Derived.Test.YtonjnpefnbnohaaRows
import Derived.ProofKit
namespace Go.Proofs.Ytonjnpefnbnohaa
open Go Go.Mx
set_option maxRecDepth 100000
theorem few_of {p0 : CR} (h : (!(s_law06_fewKnots p0)) = false) : p0.hs.length ≤ 10 := by
  have h' : decide ((p0.hs.length : Int) ≤ 10) = true := by simpa [s_law06_fewKnots] using h
  have := of_decide_eq_true h'
  omega
theorem hz (x : Int) : (x == 0) = !(x != 0) := by simp [bne]
/-- The plain law. -/
theorem plain_law06_CountsStripped (p0 : CR) (p1 : CI) (p2 : R3 × Int × Int × Int) (_ : okPs P_law06_CountsStripped (p0, p1, p2)) : (∀ p ∈ pre_law06_CountsStripped p0 p1 p2, p) ∧ s_law06_CountsStripped p0 p1 p2 = true := by
  have F1 : ((s_counts_CheckRules p0).2 != 0) = false → v_rules p0 := fun h => tx_valid (bne0 h)
  have F2 : ((s_counts_CheckRules p0).2 != 0) = false → (v_inv p0).2 ≠ 0 := fun h => by have := tx_invden (F1 h); omega
  constructor
  · intro p hp
    simp only [pre_law06_CountsStripped, List.mem_cons, List.not_mem_nil, or_false] at hp
    rcases hp with rfl | rfl | rfl | rfl | rfl | rfl | rfl | rfl | rfl | rfl
    · exact few_of
    · exact fun _ h => F1 h
    · intro _ h
      rcases hE : ((s_counts_CheckRules p0).2 != 0) with _ | _
      · exact F1 hE
      · rw [hE] at h; simp only [cond_true] at h; rw [hE] at h; cases h
    · exact fun _ h _ => F1 h
    · intro _ hE
      rcases hV : (v_vals p2.1 != 0) with _ | _ <;> rcases hR : (v_rawErr p2.2 != 0) with _ | _ <;> simp [s_counts_InverseOf, s_counts_Mixed, s_counts_StrippedOf, hz, hE, hV, hR]
    · exact fun _ h _ _ => F1 h
    · intro _ hE
      rcases hV : (v_vals p2.1 != 0) with _ | _ <;> rcases hR : (v_rawErr p2.2 != 0) with _ | _ <;> simp [s_counts_InverseOf, s_counts_Mixed, s_counts_StrippedOf, hz, hE, hV, hR]
    · intro _ hE
      rcases hV : (v_vals p2.1 != 0) with _ | _ <;> rcases hR : (v_rawErr p2.2 != 0) with _ | _ <;> simp [s_counts_InverseOf, s_counts_Mixed, s_counts_StrippedOf, hz, hE, hV, hR]
    · intro _ h
      intros
      exact F1 h
    · intro _ h
      intros
      exact F2 h
  · unfold s_law06_CountsStripped
    rcases hE : ((s_counts_CheckRules p0).2 != 0) with _ | _ <;> rcases hV : (v_vals p2.1 != 0) with _ | _ <;> rcases hR : (v_rawErr p2.2 != 0) with _ | _ <;> simp [s_counts_InverseOf, s_counts_Mixed, s_counts_StrippedOf, s_counts_rules_stripped, s_ref06_Mixed, s_ref06_Stripped, hz, hE, hV, hR]

theorem own : ownKnob Try.prog.godebug = none := by kernel_rfl
theorem laidOut : laidOutB Try.prog = true := by kernel_rfl
theorem hfn13 : Try.prog.funcs[13]? = some (fnOf Try.prog 13) := by kernel_rfl
theorem hps13 : (fnOf Try.prog 13).params.size = 3 := by kernel_rfl
theorem lifted_CountsStripped (os : Os) (started : os.Started) (H : Type) (enc : TypeId × Value → H) :
    ReturnsInHanded {} Try.checked os 13 .any (Rows.countsStrippedSpec.pre6 enc Try.prog (fnOf Try.prog 13) [] false) (Rows.countsStrippedSpec.post enc Try.prog (fnOf Try.prog 13) false true false false) :=
  said_of (C := Try.checked) (ss := P_law06_CountsStripped.map shP) own started (by kernel_rfl) hfn13
    (ChangeSpec.witness6 (enc := enc) (C := Try.checked) false ⟨#[], zeroArgs P_law06_CountsStripped, []⟩ 8 (by kernel_rfl) (by kernel_rfl) (by kernel_rfl) (by kernel_rfl)) rfl
    (fun ds h => by
      rw [hps13] at h
      match ds, h with
      | [_, _, _], _ => rfl)
    laidOut (by kernel_rfl) (rt := (fnOf Try.prog 13).resultTypes.getD 0 0) (by kernel_rfl) (by kernel_rfl) (by kernel_rfl)
    (law_of ok_law06_CountsStripped fun x hx => ⟨(plain_law06_CountsStripped x.1 x.2.1 x.2.2 hx).1, congrArg (fun b => V.p (.bool b)) (plain_law06_CountsStripped x.1 x.2.1 x.2.2 hx).2⟩)
theorem CountsStripped_holds : Rows.CountsStrippedSaid :=
  OpenClaim.holds_of_wide 13 (fnOf Try.prog 13) rfl rfl rfl rfl rfl rfl rfl ⟨rfl, rfl, rfl, rfl, rfl⟩ rfl rfl rfl rfl rfl (by kernel_rfl) hfn13 (by kernel_rfl)
    (of_decide_eq_true (by kernel_rfl)) (by unfold Func.isWrapper; first | (rw [if_pos (by decide +kernel)]; kernel_rfl) | (rw [if_neg (by decide +kernel)]; exact ⟨rfl, rfl⟩))
    (fun os started H enc _ => lifted_CountsStripped os started H enc)
end Go.Proofs.Ytonjnpefnbnohaa
