/- CountsSpectra: the given statement is proved: at every input the law returns true, and the input reads as it did. No condition. -/
import Derived.Test.YtonjnpefnbnohaaWalkCountsSpectra
import Derived.Test.YtonjnpefnbnohaaTxV
import Derived.Test.YtonjnpefnbnohaaRows
import Derived.ProofKit
namespace Go.Proofs.Ytonjnpefnbnohaa
open Go Go.Mx
set_option maxRecDepth 100000
theorem hz (x : Int) : (x == 0) = !(x != 0) := by simp [bne]
/-- The plain law. -/
theorem plain_law06_CountsSpectra (p0 : List Int) (p1 : (Int × Int) × (Int × Int) × Int × Int) (p2 : Int) (_ : okPs P_law06_CountsSpectra (p0, p1, p2)) : (∀ p ∈ pre_law06_CountsSpectra p0 p1 p2, p) ∧ s_law06_CountsSpectra p0 p1 p2 = true := by
  have F1 : ((s_counts_CheckWindows p0 p1).2 != 0) = false → v_windows p0 p1 := fun h => tx_windows (bne0 h)
  have F2 : ((v_spec p0).2 != 0) = false → v_spectrum p0 := fun h => tx_spectrum (bne0 h)
  have F3 : ((v_spec p0).2 != 0) = false → (s_counts_windowErr p1.1 p0.length (-1) != 0) = false → 0 ≤ p1.1.1 ∧ p1.1.1 ≤ p1.1.2 ∧ p1.1.2 < p0.length := by
    intro h1 h2
    have hl := (F2 h1).len
    have := tx_window (by omega) (bne0 h2)
    omega
  have F4 : s_base_Within p2 (-64) 64 = true → -64 ≤ p2 ∧ p2 ≤ 64 := fun h => tx_within.1 h
  have F5 : ((v_spec p0).2 != 0) = false → ((v_shifted p0 p2).length : Int) ≤ 9223372036854775806 := by
    intro h
    have := (shifted_facts p2 (F2 h)).1
    have hl := (F2 h).len
    omega
  have hS : s_counts_within p2 (-64) 64 = s_base_Within p2 (-64) 64 := rfl
  constructor
  · intro p hp
    simp only [pre_law06_CountsSpectra, List.mem_cons, List.not_mem_nil, or_false] at hp
    rcases hp with rfl | hp
    · intro h
      have h' : decide ((p0.length : Int) ≤ 66) = true := by simpa [s_law06_few] using h
      have := of_decide_eq_true h'
      omega
    · rcases hp with rfl | rfl | rfl | rfl | rfl | rfl | rfl | rfl | rfl | rfl | rfl | rfl | rfl | rfl | rfl | rfl | rfl | rfl | rfl | rfl
      all_goals
        intro _
        try simp only [hz, hS]
        generalize hP1 : v_spectrum p0 = P1 at *
        generalize hP2 : v_windows p0 p1 = P2 at *
        generalize hP3 : (0 ≤ p1.1.1 ∧ p1.1.1 ≤ p1.1.2 ∧ p1.1.2 < (p0.length : Int)) = P3 at *
        generalize hP4 : (-64 ≤ p2 ∧ p2 ≤ 64) = P4 at *
        clear hP1 hP2 hP3 hP4
        rcases hE : ((v_spec p0).2 != 0) with _ | _ <;> rcases hC : ((s_counts_CheckWindows p0 p1).2 != 0) with _ | _ <;> rcases hW : (s_counts_windowErr p1.1 p0.length (-1) != 0) with _ | _ <;> rcases hB : s_base_Within p2 (-64) 64 with _ | _ <;> simp [hE, hC, hW, hB, F1, F2, F3, F4, F5]
  · unfold s_law06_CountsSpectra
    simp only [hz, hS]
    rcases hE : ((v_spec p0).2 != 0) with _ | _ <;> rcases hC : ((s_counts_CheckWindows p0 p1).2 != 0) with _ | _ <;> rcases hW : (s_counts_windowErr p1.1 p0.length (-1) != 0) with _ | _ <;> rcases hB : s_base_Within p2 (-64) 64 with _ | _ <;> simp [hE, hC, hW, hB]

theorem own : ownKnob Try.prog.godebug = none := by kernel_rfl
theorem laidOut : laidOutB Try.prog = true := by kernel_rfl
theorem hfn11 : Try.prog.funcs[11]? = some (fnOf Try.prog 11) := by kernel_rfl
theorem hps11 : (fnOf Try.prog 11).params.size = 3 := by kernel_rfl
theorem lifted_CountsSpectra (os : Os) (started : os.Started) (H : Type) (enc : TypeId × Value → H) :
    ReturnsInHanded {} Try.checked os 11 .any (Rows.countsSpectraSpec.pre6 enc Try.prog (fnOf Try.prog 11) [] false) (Rows.countsSpectraSpec.post enc Try.prog (fnOf Try.prog 11) false true false false) :=
  said_of (C := Try.checked) (ss := P_law06_CountsSpectra.map shP) own started (by kernel_rfl) hfn11
    (ChangeSpec.witness6 (enc := enc) (C := Try.checked) false ⟨#[], zeroArgs P_law06_CountsSpectra, []⟩ 8 (by kernel_rfl) (by kernel_rfl) (by kernel_rfl) (by kernel_rfl)) rfl
    (fun ds h => by
      rw [hps11] at h
      match ds, h with
      | [_, _, _], _ => rfl)
    laidOut (by kernel_rfl) (rt := (fnOf Try.prog 11).resultTypes.getD 0 0) (by kernel_rfl) (by kernel_rfl) (by kernel_rfl)
    (law_of ok_law06_CountsSpectra fun x hx => ⟨(plain_law06_CountsSpectra x.1 x.2.1 x.2.2 hx).1, congrArg (fun b => V.p (.bool b)) (plain_law06_CountsSpectra x.1 x.2.1 x.2.2 hx).2⟩)
theorem CountsSpectra_holds : Rows.CountsSpectraSaid :=
  OpenClaim.holds_of_wide 11 (fnOf Try.prog 11) rfl rfl rfl rfl rfl rfl rfl ⟨rfl, rfl, rfl, rfl, rfl⟩ rfl rfl rfl rfl rfl (by kernel_rfl) hfn11 (by kernel_rfl)
    (of_decide_eq_true (by kernel_rfl)) (by unfold Func.isWrapper; first | (rw [if_pos (by decide +kernel)]; kernel_rfl) | (rw [if_neg (by decide +kernel)]; exact ⟨rfl, rfl⟩))
    (fun os started H enc _ => lifted_CountsSpectra os started H enc)
end Go.Proofs.Ytonjnpefnbnohaa
