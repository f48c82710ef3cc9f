/- CountsBands: the given statement is proved: at every input the law returns true, and the input reads as it did. No condition. -/
import Derived.Test.YtonjnpefnbnohaaWalkCountsBands
import Derived.Test.YtonjnpefnbnohaaTxR
import Derived.Test.YtonjnpefnbnohaaRows
import Derived.ProofKit
namespace Go.Proofs.Ytonjnpefnbnohaa
open Go Go.Mx
set_option maxRecDepth 100000
theorem few_of {p0 : CR} (h : (!(s_law06_fewKnots p0)) = false) : p0.hs.length ≤ 10 := by
  have h' : decide ((p0.hs.length : Int) ≤ 10) = true := by simpa [s_law06_fewKnots] using h
  have := of_decide_eq_true h'
  omega
theorem band_ok {x : Int × Int} {q t : Int} (h : v_bandok x q t) : v_bandErr x q t = 0 := by
  have h1 : s_counts_within x.1 (-1000000000) 1000000000 = true := tx_within.2 h.val.lo
  have h2 : s_counts_within x.2 (-1000000000) 1000000000 = true := tx_within.2 h.val.hi
  have h3 : decide (x.1 ≤ x.2) = true := decide_eq_true h.val.le
  have h4 : s_counts_within q 0 1000000000000 = true := tx_within.2 h.sq
  have h5 : s_counts_within t 0 5 = true := tx_within.2 h.ti
  have e : s_counts_valueErr x = s_counts_first (s_counts_unless (cond (s_counts_within x.1 (-1000000000) 1000000000) (s_counts_within x.2 (-1000000000) 1000000000) false) 2 :: s_counts_unless (decide (x.1 ≤ x.2)) 9 :: []) := rfl
  unfold v_bandErr
  rw [e, h1, h2, h3, h4, h5]
  rfl
theorem rootUp_mono {a b : Int} (h0 : 0 ≤ a) (h : a ≤ b) : v_rootUp a ≤ v_rootUp b := by
  obtain ⟨a1, a2, a3⟩ := v_rootUp_spec h0
  obtain ⟨b1, b2, b3⟩ := v_rootUp_spec (show 0 ≤ b by omega)
  rcases Int.lt_or_le (v_rootUp b) (v_rootUp a) with hl | hl
  · have := sq_le b1 (show v_rootUp b ≤ v_rootUp a - 1 by omega)
    omega
  · exact hl
theorem more_ok {x : Int × Int} {q t : Int} (h : v_bandok x q t) : v_bandErr x (min 1000000000000 (IntKind.i64.wrap (q + 1))) (min 5 (IntKind.i64.wrap (t + 1))) = 0 ∧ (v_band x (min 1000000000000 (IntKind.i64.wrap (q + 1))) (min 5 (IntKind.i64.wrap (t + 1)))).1 ≤ (v_band x q t).1 ∧ (v_band x q t).1 ≤ x.1 ∧ x.2 ≤ (v_band x q t).2 ∧ (v_band x q t).2 ≤ (v_band x (min 1000000000000 (IntKind.i64.wrap (q + 1))) (min 5 (IntKind.i64.wrap (t + 1)))).2 := by
  have h1 := h.sq
  have h2 := h.ti
  rw [wrap_id (n := q + 1) (by omega) (by omega), wrap_id (n := t + 1) (by omega) (by omega)]
  have hm : v_bandok x (min 1000000000000 (q + 1)) (min 5 (t + 1)) := ⟨h.val, by omega, by omega⟩
  refine ⟨band_ok hm, ?_⟩
  have g1 := tx_rootUp h.sq
  have g2 := tx_rootUp hm.sq
  have g3 := rootUp_mono h1.1 (show q ≤ min 1000000000000 (q + 1) by omega)
  have g4 := Int.mul_nonneg h2.1 g1.1
  have g5 := Int.mul_le_mul (show t ≤ min 5 (t + 1) by omega) g3 g1.1 (by omega)
  unfold v_band
  simp only
  omega
/-- The plain law. -/
theorem plain_law06_CountsBands (p0 : CR) (p1 : (Int × Int) × Int × Int) (p2 : Int) (_ : okPs P_law06_CountsBands (p0, p1, p2)) : (∀ p ∈ pre_law06_CountsBands p0 p1 p2, p) ∧ s_law06_CountsBands p0 p1 p2 = true := by
  constructor
  · intro p hp
    simp only [pre_law06_CountsBands, List.mem_cons, List.not_mem_nil, or_false] at hp
    rcases hp with rfl | rfl | rfl | rfl | rfl | rfl | rfl | rfl | rfl | rfl | rfl | rfl | rfl | rfl
    · exact few_of
    · exact fun _ h => tx_valid (beq0 h)
    all_goals first
      | (intro _ _ _ h _; exact tx_band (bne0 h))
      | (by_cases hE : (s_counts_CheckRules p0).2 = 0
         · have hv := tx_valid hE
           rcases hH : s_counts_rules_has p0 p2 with _ | _ <;> simp [hE, hv]
         · rcases hH : s_counts_rules_has p0 p2 with _ | _ <;> simp [hE])
  · unfold s_law06_CountsBands
    by_cases hB : v_bandErr p1.1 p1.2.1 p1.2.2 = 0
    · obtain ⟨m1, m2, m3, m4, m5⟩ := more_ok (tx_band hB)
      by_cases hE : (s_counts_CheckRules p0).2 = 0
      · rcases hH : s_counts_rules_has p0 p2 with _ | _ <;> simp [hE, hB, m1, m2, m3, m4, m5]
      · have hE' : ((s_counts_CheckRules p0).2 != 0) = true := by simpa using hE
        simp [hE, hE', hB, m1, m2, m3, m4, m5]
    · have hB' : (v_bandErr p1.1 p1.2.1 p1.2.2 != 0) = true := by simpa using hB
      by_cases hE : (s_counts_CheckRules p0).2 = 0
      · rcases hH : s_counts_rules_has p0 p2 with _ | _ <;> simp [hE, hB']
      · have hE' : ((s_counts_CheckRules p0).2 != 0) = true := by simpa using hE
        simp [hE, hE', hB']

theorem own : ownKnob Try.prog.godebug = none := by kernel_rfl
theorem laidOut : laidOutB Try.prog = true := by kernel_rfl
theorem hfn4 : Try.prog.funcs[4]? = some (fnOf Try.prog 4) := by kernel_rfl
theorem hps4 : (fnOf Try.prog 4).params.size = 3 := by kernel_rfl
theorem lifted_CountsBands (os : Os) (started : os.Started) (H : Type) (enc : TypeId × Value → H) :
    ReturnsInHanded {} Try.checked os 4 .any (Rows.countsBandsSpec.pre6 enc Try.prog (fnOf Try.prog 4) [] false) (Rows.countsBandsSpec.post enc Try.prog (fnOf Try.prog 4) false true false false) :=
  said_of (C := Try.checked) (ss := P_law06_CountsBands.map shP) own started (by kernel_rfl) hfn4
    (ChangeSpec.witness6 (enc := enc) (C := Try.checked) false ⟨#[], zeroArgs P_law06_CountsBands, []⟩ 8 (by kernel_rfl) (by kernel_rfl) (by kernel_rfl) (by kernel_rfl)) rfl
    (fun ds h => by
      rw [hps4] at h
      match ds, h with
      | [_, _, _], _ => rfl)
    laidOut (by kernel_rfl) (rt := (fnOf Try.prog 4).resultTypes.getD 0 0) (by kernel_rfl) (by kernel_rfl) (by kernel_rfl)
    (law_of ok_law06_CountsBands fun x hx => ⟨(plain_law06_CountsBands x.1 x.2.1 x.2.2 hx).1, congrArg (fun b => V.p (.bool b)) (plain_law06_CountsBands x.1 x.2.1 x.2.2 hx).2⟩)
theorem CountsBands_holds : Rows.CountsBandsSaid :=
  OpenClaim.holds_of_wide 4 (fnOf Try.prog 4) rfl rfl rfl rfl rfl rfl rfl ⟨rfl, rfl, rfl, rfl, rfl⟩ rfl rfl rfl rfl rfl (by kernel_rfl) hfn4 (by kernel_rfl)
    (of_decide_eq_true (by kernel_rfl)) (by unfold Func.isWrapper; first | (rw [if_pos (by decide +kernel)]; kernel_rfl) | (rw [if_neg (by decide +kernel)]; exact ⟨rfl, rfl⟩))
    (fun os started H enc _ => lifted_CountsBands os started H enc)
end Go.Proofs.Ytonjnpefnbnohaa
