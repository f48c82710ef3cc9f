/- What the functions that CountsLines reaches compute: contracts, each function once. No condition. -/
import Derived.Test.YtonjnpefnbnohaaWalkCountsLinesB
import Derived.KernelRfl
namespace Go.Proofs.Ytonjnpefnbnohaa
open Go Go.Mx
set_option maxRecDepth 100000
/- law06_CountsLines -/
def C_law06_CountsLines : Cons := [(14, [], con_law06_awake), (15, [], con_law06_fewKnots), (17, [], con_ref06_CopyRules), (29, [], con_ref06_CopySamples), (28, [], con_counts_LineOf), (23, [], con_ref06_RulesErr), (30, [], con_ref06_SampleErr), (31, [], con_ref06_Reduced)]
theorem hC_law06_CountsLines : ConsOk Try.prog C_law06_CountsLines := ConsOk.cons ok_law06_awake <| ConsOk.cons ok_law06_fewKnots <| ConsOk.cons ok_ref06_CopyRules <| ConsOk.cons ok_ref06_CopySamples <| ConsOk.cons ok_counts_LineOf <| ConsOk.cons ok_ref06_RulesErr <| ConsOk.cons ok_ref06_SampleErr <| ConsOk.cons ok_ref06_Reduced <| ConsOk.nil
abbrev q0_law06_CountsLines (p0 : CR) (p1 : (List CS)) := (cond ((s_counts_LineOf p0 (s_ref06_CopySamples p1)).2.2 != zz0) true ((s_counts_LineOf p0 (s_ref06_CopySamples p1)).2.1 != zz0))
abbrev q6_law06_CountsLines := ((zz0, (zz0, zz0)), (zz0, (zz0, (zz0, zz0))))
abbrev q1_law06_CountsLines (p0 : CR) (p1 : (List CS)) (y10 : Int) := (!(((List.getD (s_counts_LineOf p0 (s_ref06_CopySamples p1)).1 (Int.toNat y10) ((zz0, zz0), ((zz0, zz0), (zz0, zz0)))).1.1 == (s_counts_rules_reducedCounts p0 (List.getD p1 (Int.toNat y10) (q6_law06_CountsLines))).1.1) && (((List.getD (s_counts_LineOf p0 (s_ref06_CopySamples p1)).1 (Int.toNat y10) ((zz0, zz0), ((zz0, zz0), (zz0, zz0)))).1.2 == (s_counts_rules_reducedCounts p0 (List.getD p1 (Int.toNat y10) (q6_law06_CountsLines))).1.2) && (((List.getD (s_counts_LineOf p0 (s_ref06_CopySamples p1)).1 (Int.toNat y10) ((zz0, zz0), ((zz0, zz0), (zz0, zz0)))).2.1.1 == (s_counts_rules_reducedCounts p0 (List.getD p1 (Int.toNat y10) (q6_law06_CountsLines))).2.1.1) && (((List.getD (s_counts_LineOf p0 (s_ref06_CopySamples p1)).1 (Int.toNat y10) ((zz0, zz0), ((zz0, zz0), (zz0, zz0)))).2.1.2 == (s_counts_rules_reducedCounts p0 (List.getD p1 (Int.toNat y10) (q6_law06_CountsLines))).2.1.2) && (((List.getD (s_counts_LineOf p0 (s_ref06_CopySamples p1)).1 (Int.toNat y10) ((zz0, zz0), ((zz0, zz0), (zz0, zz0)))).2.2.1 == (s_counts_rules_reducedCounts p0 (List.getD p1 (Int.toNat y10) (q6_law06_CountsLines))).2.2.1) && (((List.getD (s_counts_LineOf p0 (s_ref06_CopySamples p1)).1 (Int.toNat y10) ((zz0, zz0), ((zz0, zz0), (zz0, zz0)))).2.2.2 == (s_counts_rules_reducedCounts p0 (List.getD p1 (Int.toNat y10) (q6_law06_CountsLines))).2.2.2) && true)))))))
abbrev q2_law06_CountsLines (p0 : CR) (p1 : (List CS)) (y4 : Int) := (!(((List.getD (s_counts_LineOf p0 (s_ref06_CopySamples p1)).1 (Int.toNat y4) ((zz0, zz0), ((zz0, zz0), (zz0, zz0)))).1.1 == (s_counts_rules_reducedCounts p0 (List.getD p1 (Int.toNat y4) (q6_law06_CountsLines))).1.1) && (((List.getD (s_counts_LineOf p0 (s_ref06_CopySamples p1)).1 (Int.toNat y4) ((zz0, zz0), ((zz0, zz0), (zz0, zz0)))).1.2 == (s_counts_rules_reducedCounts p0 (List.getD p1 (Int.toNat y4) (q6_law06_CountsLines))).1.2) && (((List.getD (s_counts_LineOf p0 (s_ref06_CopySamples p1)).1 (Int.toNat y4) ((zz0, zz0), ((zz0, zz0), (zz0, zz0)))).2.1.1 == (s_counts_rules_reducedCounts p0 (List.getD p1 (Int.toNat y4) (q6_law06_CountsLines))).2.1.1) && (((List.getD (s_counts_LineOf p0 (s_ref06_CopySamples p1)).1 (Int.toNat y4) ((zz0, zz0), ((zz0, zz0), (zz0, zz0)))).2.1.2 == (s_counts_rules_reducedCounts p0 (List.getD p1 (Int.toNat y4) (q6_law06_CountsLines))).2.1.2) && (((List.getD (s_counts_LineOf p0 (s_ref06_CopySamples p1)).1 (Int.toNat y4) ((zz0, zz0), ((zz0, zz0), (zz0, zz0)))).2.2.1 == (s_counts_rules_reducedCounts p0 (List.getD p1 (Int.toNat y4) (q6_law06_CountsLines))).2.2.1) && (((List.getD (s_counts_LineOf p0 (s_ref06_CopySamples p1)).1 (Int.toNat y4) ((zz0, zz0), ((zz0, zz0), (zz0, zz0)))).2.2.2 == (s_counts_rules_reducedCounts p0 (List.getD p1 (Int.toNat y4) (q6_law06_CountsLines))).2.2.2) && true)))))))
abbrev q3_law06_CountsLines (p0 : CR) (p1 : (List CS)) := (cond (!(s_law06_fewKnots p0)) true (cond (decide ((((List.length p1) : Nat) : Int) > (12 : Int))) (decide ((((List.length p1) : Nat) : Int) ≤ (100 : Int))) false))
abbrev q4_law06_CountsLines (p0 : CR) (p1 : (List CS)) (y1 : (Int × (Int × Int))) := (cond ((s_counts_LineOf p0 (s_ref06_CopySamples p1)).2.2 == y1.2.2) ((s_counts_LineOf p0 (s_ref06_CopySamples p1)).2.1 == y1.2.1) false)
abbrev q5_law06_CountsLines (p0 : CR) (p1 : (List CS)) (y7 : (Int × (Int × Int))) := (cond ((s_counts_LineOf p0 (s_ref06_CopySamples p1)).2.2 == y7.2.2) ((s_counts_LineOf p0 (s_ref06_CopySamples p1)).2.1 == y7.2.1) false)
abbrev q7_law06_CountsLines (p0 : CR) (p1 : (List CS)) := (cond (q0_law06_CountsLines p0 p1) true ((((List.length (s_counts_LineOf p0 (s_ref06_CopySamples p1)).1) : Nat) : Int) != (((List.length p1) : Nat) : Int)))
abbrev q8_law06_CountsLines (p0 : CR) (p1 : (List CS)) := ((!(!(s_law06_fewKnots p0))) && (decide ((((List.length p1) : Nat) : Int) > (12 : Int))))
abbrev q9_law06_CountsLines (p0 : CR) (p1 : (List CS)) := (((s_counts_LineOf p0 (s_ref06_CopySamples p1)).2.2 != zz0) = ((s_counts_LineOf p0 (s_ref06_CopySamples p1)).2.2 != zz0))
def w_law06_CountsLines (p0 : CR) (p1 : (List CS)) (K : Bool → Prop) : Prop :=
 ((((!(s_law06_awake)) = true) →
  (K false)) ∧
  (((!(s_law06_awake)) = false) →
  ((((!(s_law06_fewKnots p0)) = false) →
    ((!(s_law06_fewKnots p0)) = (!(s_law06_fewKnots p0)))) ∧
    ((((!(s_law06_fewKnots p0)) = false) →
    ((!(s_law06_fewKnots p0)) = (!(s_law06_fewKnots p0)))) ∧
    ((((!(s_law06_fewKnots p0)) = false) →
    ((!(s_law06_fewKnots p0)) = (!(s_law06_fewKnots p0)))) ∧
    ((((q8_law06_CountsLines p0 p1) = true) →
    ((q8_law06_CountsLines p0 p1) = (q8_law06_CountsLines p0 p1))) ∧
    ((((q8_law06_CountsLines p0 p1) = true) →
    ((q8_law06_CountsLines p0 p1) = (q8_law06_CountsLines p0 p1))) ∧
    ((((!(s_law06_fewKnots p0)) = false) →
    ((!(s_law06_fewKnots p0)) = (!(s_law06_fewKnots p0)))) ∧
    ((((!(s_law06_fewKnots p0)) = false) →
    ((q8_law06_CountsLines p0 p1) = (decide ((((List.length p1) : Nat) : Int) > (12 : Int))))) ∧
    (((!(s_law06_fewKnots p0)) = (!(s_law06_fewKnots p0))) ∧
    ((((q3_law06_CountsLines p0 p1) = false) →
    ((q3_law06_CountsLines p0 p1) = (q3_law06_CountsLines p0 p1))) ∧
    ((((q3_law06_CountsLines p0 p1) = false) →
    ((q3_law06_CountsLines p0 p1) = (q3_law06_CountsLines p0 p1))) ∧
    (((q3_law06_CountsLines p0 p1) = (q3_law06_CountsLines p0 p1)) ∧
    ((((cond (q3_law06_CountsLines p0 p1) true (decide ((((List.length p1) : Nat) : Int) > (102 : Int)))) = true) →
    (K true)) ∧
    (((cond (q3_law06_CountsLines p0 p1) true (decide ((((List.length p1) : Nat) : Int) > (102 : Int)))) = false) →
    (((List.length p0.2.2.2.2.2.2.2.2) ≤ 10) ∧
      (((((List.length ([] : List CS)) + (List.length p1)) * 56) ≤ 140737488355328) ∧
      (((((s_counts_CheckRules p0).2 == zz0) = true) →
      (((s_counts_CheckRules p0).2 == zz0) = ((s_counts_CheckRules p0).2 == zz0))) ∧
      (((((s_counts_CheckRules p0).2 == zz0) = true) →
      (((s_counts_CheckRules p0).2 == zz0) = ((s_counts_CheckRules p0).2 == zz0))) ∧
      ((((s_counts_CheckRules p0).2 == zz0) = ((s_counts_CheckRules p0).2 == zz0)) ∧
      ((((cond ((s_counts_CheckRules p0).2 == zz0) (decide ((((List.length p1) : Nat) : Int) > (100 : Int))) false) = true) →
      (∃ n0, (loopP (fun (y1 : (Int × (Int × Int))) k2 =>
          ((((decide (y1.1 < (((List.length p1) : Nat) : Int))) = true) →
          ((decide (y1.1 < (((List.length p1) : Nat) : Int))) = (decide (y1.1 < (((List.length p1) : Nat) : Int))))) ∧
          (((decide (y1.1 < (((List.length p1) : Nat) : Int))) = (decide (y1.1 < (((List.length p1) : Nat) : Int)))) ∧
          ((((cond (decide (y1.1 < (((List.length p1) : Nat) : Int))) (y1.2.2 == zz0) false) = true) →
          ((zz0 ≤ y1.1) ∧
            ((y1.1 < (((List.length p1) : Nat) : Int)) ∧
            ((v_rules p0) ∧
            (((((s_counts_rules_sampleErr p0 (List.getD p1 (Int.toNat y1.1) (q6_law06_CountsLines))) != zz0) = true) →
            (k2 ((wi (y1.1 + zz1)), (y1.1, (s_counts_rules_sampleErr p0 (List.getD p1 (Int.toNat y1.1) (q6_law06_CountsLines))))))) ∧
            ((((s_counts_rules_sampleErr p0 (List.getD p1 (Int.toNat y1.1) (q6_law06_CountsLines))) != zz0) = false) →
            (k2 ((wi (y1.1 + zz1)), (y1.2.1, (s_counts_rules_sampleErr p0 (List.getD p1 (Int.toNat y1.1) (q6_law06_CountsLines)))))))))))) ∧
          (((cond (decide (y1.1 < (((List.length p1) : Nat) : Int))) (y1.2.2 == zz0) false) = false) →
          ((((y1.2.2 != zz0) = true) →
            (((((s_counts_LineOf p0 (s_ref06_CopySamples p1)).2.2 == y1.2.2) = true) →
              (((s_counts_LineOf p0 (s_ref06_CopySamples p1)).2.2 == y1.2.2) = ((s_counts_LineOf p0 (s_ref06_CopySamples p1)).2.2 == y1.2.2))) ∧
              (((((s_counts_LineOf p0 (s_ref06_CopySamples p1)).2.2 == y1.2.2) = true) →
              (((s_counts_LineOf p0 (s_ref06_CopySamples p1)).2.2 == y1.2.2) = ((s_counts_LineOf p0 (s_ref06_CopySamples p1)).2.2 == y1.2.2))) ∧
              ((((s_counts_LineOf p0 (s_ref06_CopySamples p1)).2.2 == y1.2.2) = ((s_counts_LineOf p0 (s_ref06_CopySamples p1)).2.2 == y1.2.2)) ∧
              ((((q4_law06_CountsLines p0 p1 y1) = true) →
              ((q4_law06_CountsLines p0 p1 y1) = (q4_law06_CountsLines p0 p1 y1))) ∧
              ((((q4_law06_CountsLines p0 p1 y1) = true) →
              ((q4_law06_CountsLines p0 p1 y1) = (q4_law06_CountsLines p0 p1 y1))) ∧
              (((q4_law06_CountsLines p0 p1 y1) = (q4_law06_CountsLines p0 p1 y1)) ∧
              (K (cond (q4_law06_CountsLines p0 p1 y1) ((((List.length (s_counts_LineOf p0 (s_ref06_CopySamples p1)).1) : Nat) : Int) == zz0) false))))))))) ∧
            (((y1.2.2 != zz0) = false) →
            (((((s_counts_LineOf p0 (s_ref06_CopySamples p1)).2.2 != zz0) = false) →
              (q9_law06_CountsLines p0 p1)) ∧
              ((q9_law06_CountsLines p0 p1) ∧
              ((((q0_law06_CountsLines p0 p1) = false) →
              ((q0_law06_CountsLines p0 p1) = (q0_law06_CountsLines p0 p1))) ∧
              ((((q0_law06_CountsLines p0 p1) = false) →
              ((q0_law06_CountsLines p0 p1) = (q0_law06_CountsLines p0 p1))) ∧
              ((((q0_law06_CountsLines p0 p1) = false) →
              ((q0_law06_CountsLines p0 p1) = (q0_law06_CountsLines p0 p1))) ∧
              ((((q0_law06_CountsLines p0 p1) = false) →
              ((q0_law06_CountsLines p0 p1) = (q0_law06_CountsLines p0 p1))) ∧
              (((q0_law06_CountsLines p0 p1) = (q0_law06_CountsLines p0 p1)) ∧
              ((((q7_law06_CountsLines p0 p1) = true) →
              (K false)) ∧
              (((q7_law06_CountsLines p0 p1) = false) →
              (∃ n3, (loopP (fun (y4 : Int) k5 =>
                  ((((decide (y4 < (((List.length p1) : Nat) : Int))) = true) →
                  ((zz0 ≤ y4) ∧
                    ((y4 < (((List.length (s_counts_LineOf p0 (s_ref06_CopySamples p1)).1) : Nat) : Int)) ∧
                    ((zz0 ≤ y4) ∧
                    ((y4 < (((List.length p1) : Nat) : Int)) ∧
                    ((v_samp p0 (List.getD p1 (Int.toNat y4) (q6_law06_CountsLines))) ∧
                    ((((q2_law06_CountsLines p0 p1 y4) = true) →
                    (K false)) ∧
                    (((q2_law06_CountsLines p0 p1 y4) = false) →
                    (k5 (wi (y4 + zz1))))))))))) ∧
                  (((decide (y4 < (((List.length p1) : Nat) : Int))) = false) →
                  (K true)))) n3 zz0)))))))))))))))))) n0 (zz0, (zz0, (8 : Int)))))) ∧
      (((cond ((s_counts_CheckRules p0).2 == zz0) (decide ((((List.length p1) : Nat) : Int) > (100 : Int))) false) = false) →
      (∃ n6, (loopP (fun (y7 : (Int × (Int × Int))) k8 =>
          ((((decide (y7.1 < (((List.length p1) : Nat) : Int))) = true) →
          ((decide (y7.1 < (((List.length p1) : Nat) : Int))) = (decide (y7.1 < (((List.length p1) : Nat) : Int))))) ∧
          (((decide (y7.1 < (((List.length p1) : Nat) : Int))) = (decide (y7.1 < (((List.length p1) : Nat) : Int)))) ∧
          ((((cond (decide (y7.1 < (((List.length p1) : Nat) : Int))) (y7.2.2 == zz0) false) = true) →
          ((zz0 ≤ y7.1) ∧
            ((y7.1 < (((List.length p1) : Nat) : Int)) ∧
            ((v_rules p0) ∧
            (((((s_counts_rules_sampleErr p0 (List.getD p1 (Int.toNat y7.1) (q6_law06_CountsLines))) != zz0) = true) →
            (k8 ((wi (y7.1 + zz1)), (y7.1, (s_counts_rules_sampleErr p0 (List.getD p1 (Int.toNat y7.1) (q6_law06_CountsLines))))))) ∧
            ((((s_counts_rules_sampleErr p0 (List.getD p1 (Int.toNat y7.1) (q6_law06_CountsLines))) != zz0) = false) →
            (k8 ((wi (y7.1 + zz1)), (y7.2.1, (s_counts_rules_sampleErr p0 (List.getD p1 (Int.toNat y7.1) (q6_law06_CountsLines)))))))))))) ∧
          (((cond (decide (y7.1 < (((List.length p1) : Nat) : Int))) (y7.2.2 == zz0) false) = false) →
          ((((y7.2.2 != zz0) = true) →
            (((((s_counts_LineOf p0 (s_ref06_CopySamples p1)).2.2 == y7.2.2) = true) →
              (((s_counts_LineOf p0 (s_ref06_CopySamples p1)).2.2 == y7.2.2) = ((s_counts_LineOf p0 (s_ref06_CopySamples p1)).2.2 == y7.2.2))) ∧
              (((((s_counts_LineOf p0 (s_ref06_CopySamples p1)).2.2 == y7.2.2) = true) →
              (((s_counts_LineOf p0 (s_ref06_CopySamples p1)).2.2 == y7.2.2) = ((s_counts_LineOf p0 (s_ref06_CopySamples p1)).2.2 == y7.2.2))) ∧
              ((((s_counts_LineOf p0 (s_ref06_CopySamples p1)).2.2 == y7.2.2) = ((s_counts_LineOf p0 (s_ref06_CopySamples p1)).2.2 == y7.2.2)) ∧
              ((((q5_law06_CountsLines p0 p1 y7) = true) →
              ((q5_law06_CountsLines p0 p1 y7) = (q5_law06_CountsLines p0 p1 y7))) ∧
              ((((q5_law06_CountsLines p0 p1 y7) = true) →
              ((q5_law06_CountsLines p0 p1 y7) = (q5_law06_CountsLines p0 p1 y7))) ∧
              (((q5_law06_CountsLines p0 p1 y7) = (q5_law06_CountsLines p0 p1 y7)) ∧
              (K (cond (q5_law06_CountsLines p0 p1 y7) ((((List.length (s_counts_LineOf p0 (s_ref06_CopySamples p1)).1) : Nat) : Int) == zz0) false))))))))) ∧
            (((y7.2.2 != zz0) = false) →
            (((((s_counts_LineOf p0 (s_ref06_CopySamples p1)).2.2 != zz0) = false) →
              (q9_law06_CountsLines p0 p1)) ∧
              ((q9_law06_CountsLines p0 p1) ∧
              ((((q0_law06_CountsLines p0 p1) = false) →
              ((q0_law06_CountsLines p0 p1) = (q0_law06_CountsLines p0 p1))) ∧
              ((((q0_law06_CountsLines p0 p1) = false) →
              ((q0_law06_CountsLines p0 p1) = (q0_law06_CountsLines p0 p1))) ∧
              ((((q0_law06_CountsLines p0 p1) = false) →
              ((q0_law06_CountsLines p0 p1) = (q0_law06_CountsLines p0 p1))) ∧
              ((((q0_law06_CountsLines p0 p1) = false) →
              ((q0_law06_CountsLines p0 p1) = (q0_law06_CountsLines p0 p1))) ∧
              (((q0_law06_CountsLines p0 p1) = (q0_law06_CountsLines p0 p1)) ∧
              ((((q7_law06_CountsLines p0 p1) = true) →
              (K false)) ∧
              (((q7_law06_CountsLines p0 p1) = false) →
              (∃ n9, (loopP (fun (y10 : Int) k11 =>
                  ((((decide (y10 < (((List.length p1) : Nat) : Int))) = true) →
                  ((zz0 ≤ y10) ∧
                    ((y10 < (((List.length (s_counts_LineOf p0 (s_ref06_CopySamples p1)).1) : Nat) : Int)) ∧
                    ((zz0 ≤ y10) ∧
                    ((y10 < (((List.length p1) : Nat) : Int)) ∧
                    ((v_samp p0 (List.getD p1 (Int.toNat y10) (q6_law06_CountsLines))) ∧
                    ((((q1_law06_CountsLines p0 p1 y10) = true) →
                    (K false)) ∧
                    (((q1_law06_CountsLines p0 p1 y10) = false) →
                    (k11 (wi (y10 + zz1))))))))))) ∧
                  (((decide (y10 < (((List.length p1) : Nat) : Int))) = false) →
                  (K true)))) n9 zz0)))))))))))))))))) n6 (zz0, (zz0, (s_counts_CheckRules p0).2))))))))))))))))))))))))))
set_option maxHeartbeats 4000000 in
theorem w_law06_CountsLines_eq (p0 : CR) (p1 : (List CS)) (K : Bool → Prop) : tfn F_law06_CountsLines A_law06_CountsLines C_law06_CountsLines P_law06_CountsLines R_law06_CountsLines (p0, p1) K = w_law06_CountsLines p0 p1 K := by kernel_rfl
def b_law06_CountsLines_0 (p0 : CR) (p1 : (List CS)) (K : Bool → Prop) (y : (Int × (Int × Int))) (k : (Int × (Int × Int)) → Prop) : Prop :=
 (((cond (decide (y.1 < (((List.length p1) : Nat) : Int))) (y.2.2 == (0 : Int)) false) = true →
    (((0 : Int) ≤ y.1) ∧
    ((y.1 < (((List.length p1) : Nat) : Int)) ∧
    ((v_rules p0) ∧
    ((((s_counts_rules_sampleErr p0 (List.getD p1 (Int.toNat y.1) (((0 : Int), ((0 : Int), (0 : Int))), ((0 : Int), ((0 : Int), ((0 : Int), (0 : Int))))))) != (0 : Int)) = true →
      (k ((IntKind.i64.wrap (y.1 + (1 : Int))), (y.1, (s_counts_rules_sampleErr p0 (List.getD p1 (Int.toNat y.1) (((0 : Int), ((0 : Int), (0 : Int))), ((0 : Int), ((0 : Int), ((0 : Int), (0 : Int))))))))))) ∧
    (((s_counts_rules_sampleErr p0 (List.getD p1 (Int.toNat y.1) (((0 : Int), ((0 : Int), (0 : Int))), ((0 : Int), ((0 : Int), ((0 : Int), (0 : Int))))))) != (0 : Int)) = false →
      (k ((IntKind.i64.wrap (y.1 + (1 : Int))), (y.2.1, (s_counts_rules_sampleErr p0 (List.getD p1 (Int.toNat y.1) (((0 : Int), ((0 : Int), (0 : Int))), ((0 : Int), ((0 : Int), ((0 : Int), (0 : Int)))))))))))))))) ∧
  ((cond (decide (y.1 < (((List.length p1) : Nat) : Int))) (y.2.2 == (0 : Int)) false) = false →
    (((y.2.2 != (0 : Int)) = true →
      (K (cond (cond ((s_counts_LineOf p0 (s_ref06_CopySamples p1)).2.2 == y.2.2) ((s_counts_LineOf p0 (s_ref06_CopySamples p1)).2.1 == y.2.1) false) ((((List.length (s_counts_LineOf p0 (s_ref06_CopySamples p1)).1) : Nat) : Int) == (0 : Int)) false))) ∧
    ((y.2.2 != (0 : Int)) = false →
      (((cond (cond ((s_counts_LineOf p0 (s_ref06_CopySamples p1)).2.2 != (0 : Int)) true ((s_counts_LineOf p0 (s_ref06_CopySamples p1)).2.1 != (0 : Int))) true ((((List.length (s_counts_LineOf p0 (s_ref06_CopySamples p1)).1) : Nat) : Int) != (((List.length p1) : Nat) : Int))) = true →
        (K false)) ∧
      ((cond (cond ((s_counts_LineOf p0 (s_ref06_CopySamples p1)).2.2 != (0 : Int)) true ((s_counts_LineOf p0 (s_ref06_CopySamples p1)).2.1 != (0 : Int))) true ((((List.length (s_counts_LineOf p0 (s_ref06_CopySamples p1)).1) : Nat) : Int) != (((List.length p1) : Nat) : Int))) = false →
        (∃ n, loopP (fun (y6 : Int) k6 =>
          (((decide (y6 < (((List.length p1) : Nat) : Int))) = true →
            (((0 : Int) ≤ y6) ∧
            ((y6 < (((List.length (s_counts_LineOf p0 (s_ref06_CopySamples p1)).1) : Nat) : Int)) ∧
            (((0 : Int) ≤ y6) ∧
            ((y6 < (((List.length p1) : Nat) : Int)) ∧
            ((v_samp p0 (List.getD p1 (Int.toNat y6) (((0 : Int), ((0 : Int), (0 : Int))), ((0 : Int), ((0 : Int), ((0 : Int), (0 : Int))))))) ∧
            (((!(((List.getD (s_counts_LineOf p0 (s_ref06_CopySamples p1)).1 (Int.toNat y6) (((0 : Int), (0 : Int)), (((0 : Int), (0 : Int)), ((0 : Int), (0 : Int))))).1.1 == (s_counts_rules_reducedCounts p0 (List.getD p1 (Int.toNat y6) (((0 : Int), ((0 : Int), (0 : Int))), ((0 : Int), ((0 : Int), ((0 : Int), (0 : Int))))))).1.1) && (((List.getD (s_counts_LineOf p0 (s_ref06_CopySamples p1)).1 (Int.toNat y6) (((0 : Int), (0 : Int)), (((0 : Int), (0 : Int)), ((0 : Int), (0 : Int))))).1.2 == (s_counts_rules_reducedCounts p0 (List.getD p1 (Int.toNat y6) (((0 : Int), ((0 : Int), (0 : Int))), ((0 : Int), ((0 : Int), ((0 : Int), (0 : Int))))))).1.2) && (((List.getD (s_counts_LineOf p0 (s_ref06_CopySamples p1)).1 (Int.toNat y6) (((0 : Int), (0 : Int)), (((0 : Int), (0 : Int)), ((0 : Int), (0 : Int))))).2.1.1 == (s_counts_rules_reducedCounts p0 (List.getD p1 (Int.toNat y6) (((0 : Int), ((0 : Int), (0 : Int))), ((0 : Int), ((0 : Int), ((0 : Int), (0 : Int))))))).2.1.1) && (((List.getD (s_counts_LineOf p0 (s_ref06_CopySamples p1)).1 (Int.toNat y6) (((0 : Int), (0 : Int)), (((0 : Int), (0 : Int)), ((0 : Int), (0 : Int))))).2.1.2 == (s_counts_rules_reducedCounts p0 (List.getD p1 (Int.toNat y6) (((0 : Int), ((0 : Int), (0 : Int))), ((0 : Int), ((0 : Int), ((0 : Int), (0 : Int))))))).2.1.2) && (((List.getD (s_counts_LineOf p0 (s_ref06_CopySamples p1)).1 (Int.toNat y6) (((0 : Int), (0 : Int)), (((0 : Int), (0 : Int)), ((0 : Int), (0 : Int))))).2.2.1 == (s_counts_rules_reducedCounts p0 (List.getD p1 (Int.toNat y6) (((0 : Int), ((0 : Int), (0 : Int))), ((0 : Int), ((0 : Int), ((0 : Int), (0 : Int))))))).2.2.1) && (((List.getD (s_counts_LineOf p0 (s_ref06_CopySamples p1)).1 (Int.toNat y6) (((0 : Int), (0 : Int)), (((0 : Int), (0 : Int)), ((0 : Int), (0 : Int))))).2.2.2 == (s_counts_rules_reducedCounts p0 (List.getD p1 (Int.toNat y6) (((0 : Int), ((0 : Int), (0 : Int))), ((0 : Int), ((0 : Int), ((0 : Int), (0 : Int))))))).2.2.2) && true))))))) = true →
              (K false)) ∧
            ((!(((List.getD (s_counts_LineOf p0 (s_ref06_CopySamples p1)).1 (Int.toNat y6) (((0 : Int), (0 : Int)), (((0 : Int), (0 : Int)), ((0 : Int), (0 : Int))))).1.1 == (s_counts_rules_reducedCounts p0 (List.getD p1 (Int.toNat y6) (((0 : Int), ((0 : Int), (0 : Int))), ((0 : Int), ((0 : Int), ((0 : Int), (0 : Int))))))).1.1) && (((List.getD (s_counts_LineOf p0 (s_ref06_CopySamples p1)).1 (Int.toNat y6) (((0 : Int), (0 : Int)), (((0 : Int), (0 : Int)), ((0 : Int), (0 : Int))))).1.2 == (s_counts_rules_reducedCounts p0 (List.getD p1 (Int.toNat y6) (((0 : Int), ((0 : Int), (0 : Int))), ((0 : Int), ((0 : Int), ((0 : Int), (0 : Int))))))).1.2) && (((List.getD (s_counts_LineOf p0 (s_ref06_CopySamples p1)).1 (Int.toNat y6) (((0 : Int), (0 : Int)), (((0 : Int), (0 : Int)), ((0 : Int), (0 : Int))))).2.1.1 == (s_counts_rules_reducedCounts p0 (List.getD p1 (Int.toNat y6) (((0 : Int), ((0 : Int), (0 : Int))), ((0 : Int), ((0 : Int), ((0 : Int), (0 : Int))))))).2.1.1) && (((List.getD (s_counts_LineOf p0 (s_ref06_CopySamples p1)).1 (Int.toNat y6) (((0 : Int), (0 : Int)), (((0 : Int), (0 : Int)), ((0 : Int), (0 : Int))))).2.1.2 == (s_counts_rules_reducedCounts p0 (List.getD p1 (Int.toNat y6) (((0 : Int), ((0 : Int), (0 : Int))), ((0 : Int), ((0 : Int), ((0 : Int), (0 : Int))))))).2.1.2) && (((List.getD (s_counts_LineOf p0 (s_ref06_CopySamples p1)).1 (Int.toNat y6) (((0 : Int), (0 : Int)), (((0 : Int), (0 : Int)), ((0 : Int), (0 : Int))))).2.2.1 == (s_counts_rules_reducedCounts p0 (List.getD p1 (Int.toNat y6) (((0 : Int), ((0 : Int), (0 : Int))), ((0 : Int), ((0 : Int), ((0 : Int), (0 : Int))))))).2.2.1) && (((List.getD (s_counts_LineOf p0 (s_ref06_CopySamples p1)).1 (Int.toNat y6) (((0 : Int), (0 : Int)), (((0 : Int), (0 : Int)), ((0 : Int), (0 : Int))))).2.2.2 == (s_counts_rules_reducedCounts p0 (List.getD p1 (Int.toNat y6) (((0 : Int), ((0 : Int), (0 : Int))), ((0 : Int), ((0 : Int), ((0 : Int), (0 : Int))))))).2.2.2) && true))))))) = false →
              (k6 (IntKind.i64.wrap (y6 + (1 : Int)))))))))))) ∧
          ((decide (y6 < (((List.length p1) : Nat) : Int))) = false →
            (K true)))) n (0 : Int))))))))
def b_law06_CountsLines_1 (p0 : CR) (p1 : (List CS)) (K : Bool → Prop) (y : (Int × (Int × Int))) (k : (Int × (Int × Int)) → Prop) : Prop :=
 (((cond (decide (y.1 < (((List.length p1) : Nat) : Int))) (y.2.2 == (0 : Int)) false) = true →
    (((0 : Int) ≤ y.1) ∧
    ((y.1 < (((List.length p1) : Nat) : Int)) ∧
    ((v_rules p0) ∧
    ((((s_counts_rules_sampleErr p0 (List.getD p1 (Int.toNat y.1) (((0 : Int), ((0 : Int), (0 : Int))), ((0 : Int), ((0 : Int), ((0 : Int), (0 : Int))))))) != (0 : Int)) = true →
      (k ((IntKind.i64.wrap (y.1 + (1 : Int))), (y.1, (s_counts_rules_sampleErr p0 (List.getD p1 (Int.toNat y.1) (((0 : Int), ((0 : Int), (0 : Int))), ((0 : Int), ((0 : Int), ((0 : Int), (0 : Int))))))))))) ∧
    (((s_counts_rules_sampleErr p0 (List.getD p1 (Int.toNat y.1) (((0 : Int), ((0 : Int), (0 : Int))), ((0 : Int), ((0 : Int), ((0 : Int), (0 : Int))))))) != (0 : Int)) = false →
      (k ((IntKind.i64.wrap (y.1 + (1 : Int))), (y.2.1, (s_counts_rules_sampleErr p0 (List.getD p1 (Int.toNat y.1) (((0 : Int), ((0 : Int), (0 : Int))), ((0 : Int), ((0 : Int), ((0 : Int), (0 : Int)))))))))))))))) ∧
  ((cond (decide (y.1 < (((List.length p1) : Nat) : Int))) (y.2.2 == (0 : Int)) false) = false →
    (((y.2.2 != (0 : Int)) = true →
      (K (cond (cond ((s_counts_LineOf p0 (s_ref06_CopySamples p1)).2.2 == y.2.2) ((s_counts_LineOf p0 (s_ref06_CopySamples p1)).2.1 == y.2.1) false) ((((List.length (s_counts_LineOf p0 (s_ref06_CopySamples p1)).1) : Nat) : Int) == (0 : Int)) false))) ∧
    ((y.2.2 != (0 : Int)) = false →
      (((cond (cond ((s_counts_LineOf p0 (s_ref06_CopySamples p1)).2.2 != (0 : Int)) true ((s_counts_LineOf p0 (s_ref06_CopySamples p1)).2.1 != (0 : Int))) true ((((List.length (s_counts_LineOf p0 (s_ref06_CopySamples p1)).1) : Nat) : Int) != (((List.length p1) : Nat) : Int))) = true →
        (K false)) ∧
      ((cond (cond ((s_counts_LineOf p0 (s_ref06_CopySamples p1)).2.2 != (0 : Int)) true ((s_counts_LineOf p0 (s_ref06_CopySamples p1)).2.1 != (0 : Int))) true ((((List.length (s_counts_LineOf p0 (s_ref06_CopySamples p1)).1) : Nat) : Int) != (((List.length p1) : Nat) : Int))) = false →
        (∃ n, loopP (fun (y13 : Int) k13 =>
          (((decide (y13 < (((List.length p1) : Nat) : Int))) = true →
            (((0 : Int) ≤ y13) ∧
            ((y13 < (((List.length (s_counts_LineOf p0 (s_ref06_CopySamples p1)).1) : Nat) : Int)) ∧
            (((0 : Int) ≤ y13) ∧
            ((y13 < (((List.length p1) : Nat) : Int)) ∧
            ((v_samp p0 (List.getD p1 (Int.toNat y13) (((0 : Int), ((0 : Int), (0 : Int))), ((0 : Int), ((0 : Int), ((0 : Int), (0 : Int))))))) ∧
            (((!(((List.getD (s_counts_LineOf p0 (s_ref06_CopySamples p1)).1 (Int.toNat y13) (((0 : Int), (0 : Int)), (((0 : Int), (0 : Int)), ((0 : Int), (0 : Int))))).1.1 == (s_counts_rules_reducedCounts p0 (List.getD p1 (Int.toNat y13) (((0 : Int), ((0 : Int), (0 : Int))), ((0 : Int), ((0 : Int), ((0 : Int), (0 : Int))))))).1.1) && (((List.getD (s_counts_LineOf p0 (s_ref06_CopySamples p1)).1 (Int.toNat y13) (((0 : Int), (0 : Int)), (((0 : Int), (0 : Int)), ((0 : Int), (0 : Int))))).1.2 == (s_counts_rules_reducedCounts p0 (List.getD p1 (Int.toNat y13) (((0 : Int), ((0 : Int), (0 : Int))), ((0 : Int), ((0 : Int), ((0 : Int), (0 : Int))))))).1.2) && (((List.getD (s_counts_LineOf p0 (s_ref06_CopySamples p1)).1 (Int.toNat y13) (((0 : Int), (0 : Int)), (((0 : Int), (0 : Int)), ((0 : Int), (0 : Int))))).2.1.1 == (s_counts_rules_reducedCounts p0 (List.getD p1 (Int.toNat y13) (((0 : Int), ((0 : Int), (0 : Int))), ((0 : Int), ((0 : Int), ((0 : Int), (0 : Int))))))).2.1.1) && (((List.getD (s_counts_LineOf p0 (s_ref06_CopySamples p1)).1 (Int.toNat y13) (((0 : Int), (0 : Int)), (((0 : Int), (0 : Int)), ((0 : Int), (0 : Int))))).2.1.2 == (s_counts_rules_reducedCounts p0 (List.getD p1 (Int.toNat y13) (((0 : Int), ((0 : Int), (0 : Int))), ((0 : Int), ((0 : Int), ((0 : Int), (0 : Int))))))).2.1.2) && (((List.getD (s_counts_LineOf p0 (s_ref06_CopySamples p1)).1 (Int.toNat y13) (((0 : Int), (0 : Int)), (((0 : Int), (0 : Int)), ((0 : Int), (0 : Int))))).2.2.1 == (s_counts_rules_reducedCounts p0 (List.getD p1 (Int.toNat y13) (((0 : Int), ((0 : Int), (0 : Int))), ((0 : Int), ((0 : Int), ((0 : Int), (0 : Int))))))).2.2.1) && (((List.getD (s_counts_LineOf p0 (s_ref06_CopySamples p1)).1 (Int.toNat y13) (((0 : Int), (0 : Int)), (((0 : Int), (0 : Int)), ((0 : Int), (0 : Int))))).2.2.2 == (s_counts_rules_reducedCounts p0 (List.getD p1 (Int.toNat y13) (((0 : Int), ((0 : Int), (0 : Int))), ((0 : Int), ((0 : Int), ((0 : Int), (0 : Int))))))).2.2.2) && true))))))) = true →
              (K false)) ∧
            ((!(((List.getD (s_counts_LineOf p0 (s_ref06_CopySamples p1)).1 (Int.toNat y13) (((0 : Int), (0 : Int)), (((0 : Int), (0 : Int)), ((0 : Int), (0 : Int))))).1.1 == (s_counts_rules_reducedCounts p0 (List.getD p1 (Int.toNat y13) (((0 : Int), ((0 : Int), (0 : Int))), ((0 : Int), ((0 : Int), ((0 : Int), (0 : Int))))))).1.1) && (((List.getD (s_counts_LineOf p0 (s_ref06_CopySamples p1)).1 (Int.toNat y13) (((0 : Int), (0 : Int)), (((0 : Int), (0 : Int)), ((0 : Int), (0 : Int))))).1.2 == (s_counts_rules_reducedCounts p0 (List.getD p1 (Int.toNat y13) (((0 : Int), ((0 : Int), (0 : Int))), ((0 : Int), ((0 : Int), ((0 : Int), (0 : Int))))))).1.2) && (((List.getD (s_counts_LineOf p0 (s_ref06_CopySamples p1)).1 (Int.toNat y13) (((0 : Int), (0 : Int)), (((0 : Int), (0 : Int)), ((0 : Int), (0 : Int))))).2.1.1 == (s_counts_rules_reducedCounts p0 (List.getD p1 (Int.toNat y13) (((0 : Int), ((0 : Int), (0 : Int))), ((0 : Int), ((0 : Int), ((0 : Int), (0 : Int))))))).2.1.1) && (((List.getD (s_counts_LineOf p0 (s_ref06_CopySamples p1)).1 (Int.toNat y13) (((0 : Int), (0 : Int)), (((0 : Int), (0 : Int)), ((0 : Int), (0 : Int))))).2.1.2 == (s_counts_rules_reducedCounts p0 (List.getD p1 (Int.toNat y13) (((0 : Int), ((0 : Int), (0 : Int))), ((0 : Int), ((0 : Int), ((0 : Int), (0 : Int))))))).2.1.2) && (((List.getD (s_counts_LineOf p0 (s_ref06_CopySamples p1)).1 (Int.toNat y13) (((0 : Int), (0 : Int)), (((0 : Int), (0 : Int)), ((0 : Int), (0 : Int))))).2.2.1 == (s_counts_rules_reducedCounts p0 (List.getD p1 (Int.toNat y13) (((0 : Int), ((0 : Int), (0 : Int))), ((0 : Int), ((0 : Int), ((0 : Int), (0 : Int))))))).2.2.1) && (((List.getD (s_counts_LineOf p0 (s_ref06_CopySamples p1)).1 (Int.toNat y13) (((0 : Int), (0 : Int)), (((0 : Int), (0 : Int)), ((0 : Int), (0 : Int))))).2.2.2 == (s_counts_rules_reducedCounts p0 (List.getD p1 (Int.toNat y13) (((0 : Int), ((0 : Int), (0 : Int))), ((0 : Int), ((0 : Int), ((0 : Int), (0 : Int))))))).2.2.2) && true))))))) = false →
              (k13 (IntKind.i64.wrap (y13 + (1 : Int)))))))))))) ∧
          ((decide (y13 < (((List.length p1) : Nat) : Int))) = false →
            (K true)))) n (0 : Int))))))))
theorem copySamples (p1 : List CS) : s_ref06_CopySamples p1 = p1 := rfl
theorem LineOf_bad {p0 : CR} {p1 : List CS} (h : (s_counts_CheckRules p0).2 ≠ 0) : s_counts_LineOf p0 p1 = ([], 0, (s_counts_CheckRules p0).2) := by
  have e : ∀ l, s_counts_first ((s_counts_CheckRules p0).2 :: l) = (s_counts_CheckRules p0).2 := fun l => by
    show (if (s_counts_CheckRules p0).2 = 0 then s_counts_first l else (s_counts_CheckRules p0).2) = _
    exact if_neg h
  unfold s_counts_LineOf
  rw [e, bne_iff_ne.2 h]; rfl
theorem LineOf_large {p0 : CR} {p1 : List CS} (h : (s_counts_CheckRules p0).2 = 0) (hl : 100 < p1.length) : s_counts_LineOf p0 p1 = ([], 0, 8) := by
  unfold s_counts_LineOf
  rw [h, decide_eq_false (by omega : ¬ ((p1.length : Int) ≤ 100))]; rfl
theorem LineOf_ok {p0 : CR} {p1 : List CS} (h : (s_counts_CheckRules p0).2 = 0) (hl : p1.length ≤ 100) : s_counts_LineOf p0 p1 = sp_line p0 0 p1 [] := by
  unfold s_counts_LineOf
  rw [h, decide_eq_true (by omega : ((p1.length : Int) ≤ 100))]; rfl
def lp_law06_CountsLines_0 (_ : CR) (_ : List CS) (_ : Int × Int × Int) : Bool := true
abbrev lpre_law06_CountsLines_0 (p0 : CR) (p1 : List CS) (x : Int × Int × Int) : Prop := (s_counts_CheckRules p0).2 = 0 ∧ 100 < p1.length ∧ x = (0, 0, 8)
theorem lk_law06_CountsLines_0 (p0 : CR) (p1 : List CS) (x : Int × Int × Int) (K : Bool → Prop) (hp : lpre_law06_CountsLines_0 p0 p1 x) (h : K (lp_law06_CountsLines_0 p0 p1 x)) : ∃ n, loopP (b_law06_CountsLines_0 p0 p1 K) n x := by
  obtain ⟨h0, hl, rfl⟩ := hp
  refine ⟨1, ?_⟩
  show b_law06_CountsLines_0 p0 p1 K (0, 0, 8) _
  unfold b_law06_CountsLines_0
  have e : (cond (decide ((0 : Int) < (p1.length : Int))) ((8 : Int) == 0) false) = false := by cases decide ((0 : Int) < (p1.length : Int)) <;> rfl
  simp only [copySamples, LineOf_large h0 hl]
  refine ⟨fun hc => ?_, fun _ => ⟨fun _ => h, fun hc => nomatch hc⟩⟩
  rw [e] at hc; cases hc
def lp_law06_CountsLines_1 (_ : CR) (_ : List CS) (_ : Int × Int × Int) : Bool := true
abbrev lpre_law06_CountsLines_1 (p0 : CR) (p1 : List CS) (x : Int × Int × Int) : Prop := ((s_counts_CheckRules p0).2 = 0 → p1.length ≤ 100) ∧ x = (0, 0, (s_counts_CheckRules p0).2)
theorem lk_law06_CountsLines_1 (p0 : CR) (p1 : List CS) (x : Int × Int × Int) (K : Bool → Prop) (hp : lpre_law06_CountsLines_1 p0 p1 x) (h : K (lp_law06_CountsLines_1 p0 p1 x)) : ∃ n, loopP (b_law06_CountsLines_1 p0 p1 K) n x := by
  obtain ⟨hl, rfl⟩ := hp
  replace h : K true := h
  by_cases h0 : (s_counts_CheckRules p0).2 = 0
  · have hl := hl h0
    have hv := tx_valid h0
    have hL := LineOf_ok (p1 := p1) h0 hl
    rw [h0]
    refine loop_list (fun i (t : Int × Int) => (i, t)) p1 cs0 (fun (t : Int × Int) r => (t = (0, 0) ∧ sp_line p0 0 p1 [] = sp_line p0 ((p1.length : Int) - r.length) r ((p1.take (p1.length - r.length)).map (s_counts_rules_reducedCounts p0)) ∧ ∀ i : Nat, i + r.length < p1.length → s_counts_rules_sampleErr p0 (p1.getD i cs0) = 0) ∨ (t.2 ≠ 0 ∧ sp_line p0 0 p1 [] = ([], t.1, t.2))) ?_ ?_ (0, 0) (.inl ⟨rfl, by simp, fun i hi => by omega⟩)
    · rintro ⟨a, c⟩ k hI
      unfold b_law06_CountsLines_1
      simp only [copySamples, hL]
      refine ⟨fun hc => ?_, fun _ => ?_⟩
      · rw [decide_eq_false (by omega : ¬ ((p1.length : Int) < (p1.length : Int)))] at hc; cases hc
      · rcases hI with ⟨ht, he, hs⟩ | ⟨ht, he⟩
        · cases ht
          simp only [sp_line, List.length_nil, Nat.sub_zero, List.take_length] at he
          simp only [List.length_nil, Nat.add_zero] at hs
          rw [he]
          refine ⟨(fun hc => nomatch hc), fun _ => ⟨fun hc => ?_, fun _ => ?_⟩⟩
          · simp at hc
          · refine loop_list0 p1 cs0 (fun _ => True) ?_ ?_ trivial
            · intro k _
              refine ⟨fun hc => ?_, fun _ => h⟩
              have := of_decide_eq_true hc; omega
            · intro j k hj _ hk
              have e : (p1.map (s_counts_rules_reducedCounts p0)).getD j ((0, 0), (0, 0), (0, 0)) = s_counts_rules_reducedCounts p0 (p1.getD j cs0) := by
                simp [List.getD, hj]
              have hsj := hs j hj
              have hsamp : v_samp p0 (p1.getD j cs0) := tx_samp (by unfold v_both; rw [h0]; exact hsj)
              simp only [Int.toNat_natCast, e, wrap_nat (show (j : Int) ≤ 9223372036854775806 by omega), List.length_map]
              refine ⟨fun _ => ⟨by omega, by omega, by omega, by omega, hsamp, fun hc => ?_, fun _ => hk trivial⟩, fun hc => ?_⟩
              · simp at hc
              · have := of_decide_eq_false hc; omega
        · rw [he]
          simp only at ht
          refine ⟨fun _ => ?_, fun hc => absurd (bne0 hc) ht⟩
          simpa using h
    · rintro j ⟨a, c⟩ k hj hI hk
      have e1 : (p1.length : Int) - ((p1.getD j cs0 :: p1.drop (j + 1)).length : Int) = j := by simp; omega
      have e2 : (p1.length : Int) - ((p1.drop (j + 1)).length : Int) = (j : Int) + 1 := by simp; omega
      have e3 : p1.length - (p1.getD j cs0 :: p1.drop (j + 1)).length = j := by simp; omega
      have e4 : p1.length - (p1.drop (j + 1)).length = j + 1 := by simp; omega
      have hj' : decide ((j : Int) < (p1.length : Int)) = true := decide_eq_true (by omega)
      rw [e1, e3] at hI
      rw [e2, e4] at hk
      unfold b_law06_CountsLines_1
      simp only [copySamples, hL, wrap_nat (show (j : Int) ≤ 9223372036854775806 by omega), hj', cond_true, Int.toNat_natCast]
      rcases hI with ⟨ht, he, hs⟩ | ⟨ht, he⟩
      · cases ht
        have et : (p1.take (j + 1)).map (s_counts_rules_reducedCounts p0) = (p1.take j).map (s_counts_rules_reducedCounts p0) ++ [s_counts_rules_reducedCounts p0 (p1.getD j cs0)] := by
          have : p1.take (j + 1) = p1.take j ++ [p1.getD j cs0] := by
            rw [List.take_add_one]; simp [List.getD, hj]
          rw [this]; simp
        refine ⟨fun _ => ⟨by omega, by omega, hv, fun hx => hk _ (.inr ⟨?_, ?_⟩), fun hx => hk _ (.inl ⟨?_, ?_, ?_⟩)⟩, fun hc => nomatch hc⟩
        · exact bne_iff_ne.1 hx
        · have hx' : (s_counts_rules_sampleErr p0 (p1.getD j cs0) != 0) = true := hx
          rw [he]
          simp only [sp_line, hx', cond_true]
        · have hx' : s_counts_rules_sampleErr p0 (p1.getD j cs0) = 0 := bne0 hx
          exact congrArg (fun z => ((0 : Int), z)) hx'
        · have hx' : (s_counts_rules_sampleErr p0 (p1.getD j cs0) != 0) = false := hx
          rw [he, et]
          simp only [sp_line, hx', cond_false]
        · intro i hi
          simp only [List.length_drop] at hi
          by_cases hij : i = j
          · subst hij; exact bne0 hx
          · exact hs i (by simp only [List.length_cons, List.length_drop]; omega)
      · rw [he]
        simp only at ht
        have hb : (c == 0) = false := beq_eq_false_iff_ne.2 ht
        refine ⟨fun hc => ?_, fun _ => ⟨fun _ => ?_, fun hc => absurd (bne0 hc) ht⟩⟩
        · rw [hb] at hc; cases hc
        · simpa using h
  · refine ⟨1, ?_⟩
    show b_law06_CountsLines_1 p0 p1 K (0, 0, (s_counts_CheckRules p0).2) _
    unfold b_law06_CountsLines_1
    have hb : ((s_counts_CheckRules p0).2 == 0) = false := beq_eq_false_iff_ne.2 h0
    simp only [copySamples, LineOf_bad h0, hb]
    refine ⟨fun hc => ?_, fun _ => ⟨fun _ => ?_, fun hc => absurd (bne0 hc) h0⟩⟩
    · cases hd : decide ((0 : Int) < (p1.length : Int)) <;> rw [hd] at hc <;> cases hc
    · simpa using h

def s_law06_CountsLines (p0 : CR) (p1 : (List CS)) : Bool :=
  (cond (cond (cond (!(s_law06_fewKnots p0)) true (cond (decide ((((List.length p1) : Nat) : Int) > (12 : Int))) (decide ((((List.length p1) : Nat) : Int) ≤ (100 : Int))) false)) true (decide ((((List.length p1) : Nat) : Int) > (102 : Int)))) true
    (cond (cond ((s_counts_CheckRules p0).2 == (0 : Int)) (decide ((((List.length p1) : Nat) : Int) > (100 : Int))) false) (lp_law06_CountsLines_0 p0 p1 ((0 : Int), ((0 : Int), (8 : Int))))
    (lp_law06_CountsLines_1 p0 p1 ((0 : Int), ((0 : Int), (s_counts_CheckRules p0).2)))))
abbrev pre_law06_CountsLines (p0 : CR) (p1 : (List CS)) : List Prop := [(((!(s_law06_fewKnots p0)) = false) → (((!(!(s_law06_fewKnots p0))) && (decide ((((List.length p1) : Nat) : Int) > (12 : Int)))) = (decide ((((List.length p1) : Nat) : Int) > (12 : Int))))),
    (((cond (cond (!(s_law06_fewKnots p0)) true (cond (decide ((((List.length p1) : Nat) : Int) > (12 : Int))) (decide ((((List.length p1) : Nat) : Int) ≤ (100 : Int))) false)) true (decide ((((List.length p1) : Nat) : Int) > (102 : Int)))) = false) → ((List.length p0.2.2.2.2.2.2.2.2) ≤ 10)),
    (((cond (cond (!(s_law06_fewKnots p0)) true (cond (decide ((((List.length p1) : Nat) : Int) > (12 : Int))) (decide ((((List.length p1) : Nat) : Int) ≤ (100 : Int))) false)) true (decide ((((List.length p1) : Nat) : Int) > (102 : Int)))) = false) → ((((List.length ([] : List CS)) + (List.length p1)) * 56) ≤ 140737488355328)),
    (((cond (cond (!(s_law06_fewKnots p0)) true (cond (decide ((((List.length p1) : Nat) : Int) > (12 : Int))) (decide ((((List.length p1) : Nat) : Int) ≤ (100 : Int))) false)) true (decide ((((List.length p1) : Nat) : Int) > (102 : Int)))) = false) → (((cond ((s_counts_CheckRules p0).2 == (0 : Int)) (decide ((((List.length p1) : Nat) : Int) > (100 : Int))) false) = true) → (lpre_law06_CountsLines_0 p0 p1 ((0 : Int), ((0 : Int), (8 : Int)))))),
    (((cond (cond (!(s_law06_fewKnots p0)) true (cond (decide ((((List.length p1) : Nat) : Int) > (12 : Int))) (decide ((((List.length p1) : Nat) : Int) ≤ (100 : Int))) false)) true (decide ((((List.length p1) : Nat) : Int) > (102 : Int)))) = false) → (((cond ((s_counts_CheckRules p0).2 == (0 : Int)) (decide ((((List.length p1) : Nat) : Int) > (100 : Int))) false) = false) → (lpre_law06_CountsLines_1 p0 p1 ((0 : Int), ((0 : Int), (s_counts_CheckRules p0).2)))))]
set_option maxHeartbeats 4000000 in
theorem d_law06_CountsLines (p0 : CR) (p1 : (List CS)) (K : Bool → Prop) (hp : ∀ p ∈ pre_law06_CountsLines p0 p1, p) (h : K (s_law06_CountsLines p0 p1)) : w_law06_CountsLines p0 p1 K := by
  unfold w_law06_CountsLines
  unfold s_law06_CountsLines at h
  obtain ⟨hp0, hp1, hp2, hp3, hp4, _⟩ := conj_of hp
  exact ⟨nof, fun _ => ⟨rf, rf, rf, rf, rf, rf, (hp0), rfl, rf, rf, rfl, (br' h (fun e0 h => h)
    (fun e0 h => ⟨(hp1 e0), (hp2 e0), rf, rf, rfl, (br' h (fun e1 h => (Exists.imp (fun n hn => loop_mono (fun y k k' hk hy => ⟨rf, rfl, fun e2 => ⟨(hy.1 e2).1, (hy.1 e2).2.1, (hy.1 e2).2.2.1, fun e3 => (hk _ ((hy.1 e2).2.2.2.1 e3)), fun e3 => (hk _ ((hy.1 e2).2.2.2.2 e3))⟩, fun e2 => ⟨fun e4 => ⟨rf, rf, rfl, rf, rf, rfl, ((hy.2 e2).1 e4)⟩, fun e4 => ⟨rf, rfl, rf, rf, rf, rf, rfl, fun e5 => (((hy.2 e2).2 e4).1 e5), fun e5 => (Exists.imp (fun n hn => loop_mono (fun y6 k6 k6' hk6 h6 => ⟨fun e7 => ⟨(h6.1 e7).1, (h6.1 e7).2.1, (h6.1 e7).2.2.1, (h6.1 e7).2.2.2.1, (h6.1 e7).2.2.2.2.1, fun e8 => ((h6.1 e7).2.2.2.2.2.1 e8), fun e8 => (hk6 _ ((h6.1 e7).2.2.2.2.2.2 e8))⟩, fun e7 => (h6.2 e7)⟩) n _ hn) (((hy.2 e2).2 e4).2 e5))⟩⟩⟩) n _ hn) (lk_law06_CountsLines_0 p0 p1 ((0 : Int), ((0 : Int), (8 : Int))) K (hp3 e0 e1) h)))
    (fun e1 h => (Exists.imp (fun n hn => loop_mono (fun y k k' hk hy => ⟨rf, rfl, fun e9 => ⟨(hy.1 e9).1, (hy.1 e9).2.1, (hy.1 e9).2.2.1, fun e10 => (hk _ ((hy.1 e9).2.2.2.1 e10)), fun e10 => (hk _ ((hy.1 e9).2.2.2.2 e10))⟩, fun e9 => ⟨fun e11 => ⟨rf, rf, rfl, rf, rf, rfl, ((hy.2 e9).1 e11)⟩, fun e11 => ⟨rf, rfl, rf, rf, rf, rf, rfl, fun e12 => (((hy.2 e9).2 e11).1 e12), fun e12 => (Exists.imp (fun n hn => loop_mono (fun y13 k13 k13' hk13 h13 => ⟨fun e14 => ⟨(h13.1 e14).1, (h13.1 e14).2.1, (h13.1 e14).2.2.1, (h13.1 e14).2.2.2.1, (h13.1 e14).2.2.2.2.1, fun e15 => ((h13.1 e14).2.2.2.2.2.1 e15), fun e15 => (hk13 _ ((h13.1 e14).2.2.2.2.2.2 e15))⟩, fun e14 => (h13.2 e14)⟩) n _ hn) (((hy.2 e9).2 e11).2 e12))⟩⟩⟩) n _ hn) (lk_law06_CountsLines_1 p0 p1 ((0 : Int), ((0 : Int), (s_counts_CheckRules p0).2)) K (hp4 e0 e1) h))))⟩))⟩⟩
abbrev con_law06_CountsLines : Con := ⟨P_law06_CountsLines, R_law06_CountsLines, fun x => pre_law06_CountsLines x.1 x.2, fun x => s_law06_CountsLines x.1 x.2⟩
theorem ok_law06_CountsLines : ConOk Try.prog 5 con_law06_CountsLines := ⟨k_law06_CountsLines, fun x hx => ret_tf (ps := P_law06_CountsLines) (rs := R_law06_CountsLines) (x := x) (y := s_law06_CountsLines x.1 x.2) e_law06_CountsLines hC_law06_CountsLines (tf_of (w_law06_CountsLines_eq x.1 x.2 (fun z => z = s_law06_CountsLines x.1 x.2)) (d_law06_CountsLines x.1 x.2 (fun z => z = s_law06_CountsLines x.1 x.2) hx rfl))⟩
end Go.Proofs.Ytonjnpefnbnohaa
