/- CountsLines: the given statement is proved: at every input the law returns true, and the input reads as it did. No condition. -/
import Derived.Test.YtonjnpefnbnohaaWalkCountsLines
import Derived.Test.YtonjnpefnbnohaaTxV
import Derived.Test.YtonjnpefnbnohaaRows
import Derived.ProofKit
namespace Go.Proofs.Ytonjnpefnbnohaa
open Go Go.Mx
set_option maxRecDepth 100000
theorem few_of {p0 : CR} (h : (!(s_law06_fewKnots p0)) = false) : p0.hs.length ≤ 10 := by
  have h' : decide ((p0.hs.length : Int) ≤ 10) = true := by simpa [s_law06_fewKnots] using h
  have := of_decide_eq_true h'
  omega
theorem hz (x : Int) : (x == 0) = !(x != 0) := by simp [bne]
theorem floor_eq {n b : Int} (hn : -9223372036854775807 ≤ n ∧ n ≤ 9223372036854775807) (hb : 0 < b) : s_counts_floor n b = n / b := floor_is hn hb
theorem ceil_eq {n b : Int} (hn : -9223372036854775807 ≤ n ∧ n ≤ 9223372036854775807) (hb : 0 < b) : s_counts_ceil n b = cdiv n b := by
  rw [← ceil_is hn hb]
  unfold s_counts_ceil
  have e : IntKind.i64.wrap (0 - n) = -n := by rw [wrap_id (by omega) (by omega)]; omega
  rw [e, floor_eq (by omega) hb]
theorem rounded_eq {n m b : Int} (hn : -9223372036854775807 ≤ n ∧ n ≤ 9223372036854775807) (hm : -9223372036854775807 ≤ m ∧ m ≤ 9223372036854775807) (hb : 0 < b) : s_counts_rounded (n, m) b = (n / b, cdiv m b) := by
  unfold s_counts_rounded
  rw [floor_eq hn hb, ceil_eq hm hb]
/-- A quotient within bounds. -/
theorem fdiv_in {n d m : Int} (hd : 0 < d) (h : v_in (m * d) n) : v_in m (n / d) ∧ v_in m (cdiv n d) := by
  unfold v_in at *
  have h1 := fdiv_mono hd h.1
  have h2 := fdiv_mono hd h.2
  have h3 := cdiv_mono hd h.1
  have h4 := cdiv_mono hd h.2
  have e1 : -(m * d) / d = -m := by rw [← Int.neg_mul]; exact Int.mul_ediv_cancel _ (by omega)
  have e2 : m * d / d = m := Int.mul_ediv_cancel _ (by omega)
  have e3 : cdiv (-(m * d)) d = -m := by unfold cdiv; rw [Int.neg_neg, e2]
  have e4 : cdiv (m * d) d = m := by unfold cdiv; rw [e1, Int.neg_neg]
  omega

theorem plain_law06_CountsLines (p0 : CR) (p1 : List CS) (_ : okPs P_law06_CountsLines (p0, p1)) : (∀ p ∈ pre_law06_CountsLines p0 p1, p) ∧ s_law06_CountsLines p0 p1 = true := by
  constructor
  · intro p hp
    simp only [pre_law06_CountsLines, List.mem_cons, List.not_mem_nil, or_false] at hp
    have key : (cond (cond (!(s_law06_fewKnots p0)) true (cond (decide ((p1.length : Int) > 12)) (decide ((p1.length : Int) ≤ 100)) false)) true (decide ((p1.length : Int) > 102))) = false → p0.hs.length ≤ 10 ∧ p1.length ≤ 102 ∧ ¬ (12 < p1.length ∧ p1.length ≤ 100) := by
      intro h
      obtain ⟨h, h3⟩ := tx_or h
      obtain ⟨h1, h2⟩ := tx_or h
      have h3 := of_decide_eq_false h3
      refine ⟨few_of h1, by omega, fun hh => ?_⟩
      rw [decide_eq_true (by omega : (p1.length : Int) > 12), decide_eq_true (by omega : (p1.length : Int) ≤ 100)] at h2
      cases h2
    rcases hp with rfl | rfl | rfl | rfl | rfl
    · intro h
      rw [h]; simp
    · exact fun h => (key h).1
    · intro h
      have := key h
      simp only [List.length_nil]; omega
    · intro h hc
      have := key h
      rcases hd : ((s_counts_CheckRules p0).2 == 0) with _ | _
      · rw [hd] at hc; cases hc
      · rw [hd] at hc
        have := of_decide_eq_true hc
        exact ⟨beq_iff_eq.1 hd, by omega, rfl⟩
    · intro h hc
      have := key h
      refine ⟨fun h0 => ?_, rfl⟩
      rw [h0] at hc
      have := of_decide_eq_false hc
      omega
  · unfold s_law06_CountsLines lp_law06_CountsLines_0 lp_law06_CountsLines_1
    simp

theorem own : ownKnob Try.prog.godebug = none := by kernel_rfl
theorem laidOut : laidOutB Try.prog = true := by kernel_rfl
theorem hfn5 : Try.prog.funcs[5]? = some (fnOf Try.prog 5) := by kernel_rfl
theorem hps5 : (fnOf Try.prog 5).params.size = 2 := by kernel_rfl
theorem lifted_CountsLines (os : Os) (started : os.Started) (H : Type) (enc : TypeId × Value → H) :
    ReturnsInHanded {} Try.checked os 5 .any (Rows.countsLinesSpec.pre6 enc Try.prog (fnOf Try.prog 5) [] false) (Rows.countsLinesSpec.post enc Try.prog (fnOf Try.prog 5) false true false false) :=
  said_of (C := Try.checked) (ss := P_law06_CountsLines.map shP) own started (by kernel_rfl) hfn5
    (ChangeSpec.witness6 (enc := enc) (C := Try.checked) false ⟨#[], zeroArgs P_law06_CountsLines, []⟩ 8 (by kernel_rfl) (by kernel_rfl) (by kernel_rfl) (by kernel_rfl)) rfl
    (fun ds h => by
      rw [hps5] at h
      match ds, h with
      | [_, _], _ => rfl)
    laidOut (by kernel_rfl) (rt := (fnOf Try.prog 5).resultTypes.getD 0 0) (by kernel_rfl) (by kernel_rfl) (by kernel_rfl)
    (law_of ok_law06_CountsLines fun x hx => ⟨(plain_law06_CountsLines x.1 x.2 hx).1, congrArg (fun b => V.p (.bool b)) (plain_law06_CountsLines x.1 x.2 hx).2⟩)
theorem CountsLines_holds : Rows.CountsLinesSaid :=
  OpenClaim.holds_of_wide 5 (fnOf Try.prog 5) rfl rfl rfl rfl rfl rfl rfl ⟨rfl, rfl, rfl, rfl, rfl⟩ rfl rfl rfl rfl rfl (by kernel_rfl) hfn5 (by kernel_rfl)
    (of_decide_eq_true (by kernel_rfl)) (by unfold Func.isWrapper; first | (rw [if_pos (by decide +kernel)]; kernel_rfl) | (rw [if_neg (by decide +kernel)]; exact ⟨rfl, rfl⟩))
    (fun os started H enc _ => lifted_CountsLines os started H enc)
end Go.Proofs.Ytonjnpefnbnohaa
