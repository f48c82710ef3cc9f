/- What the functions that CountsUndone reaches compute: contracts, each function once. No condition. -/
import Derived.Test.YtonjnpefnbnohaaWalkCountsUndoneA
import Derived.KernelRfl
namespace Go.Proofs.Ytonjnpefnbnohaa
open Go Go.Mx
set_option maxRecDepth 100000
/- slices_ContainsFuncint_int__counts_CheckInverse_1 -/
def C_slices_ContainsFuncint_int__counts_CheckInverse_1 : Cons := [(102, [109], con_slices_IndexFuncint_int__counts_CheckInverse_1)]
theorem hC_slices_ContainsFuncint_int__counts_CheckInverse_1 : ConsOk Try.prog C_slices_ContainsFuncint_int__counts_CheckInverse_1 := ConsOk.cons ok_slices_IndexFuncint_int__counts_CheckInverse_1 <| ConsOk.nil
def w_slices_ContainsFuncint_int__counts_CheckInverse_1 (p0 : (List Int)) (p1 : PUnit) (K : Bool → Prop) : Prop :=
  ((lenOk p0) ∧
  (K (decide ((s_slices_IndexFuncint_int__counts_CheckInverse_1 p0 ()) ≥ (0 : Int)))))
set_option maxHeartbeats 4000000 in
theorem w_slices_ContainsFuncint_int__counts_CheckInverse_1_eq (p0 : (List Int)) (p1 : PUnit) (K : Bool → Prop) : tfn F_slices_ContainsFuncint_int__counts_CheckInverse_1 A_slices_ContainsFuncint_int__counts_CheckInverse_1 C_slices_ContainsFuncint_int__counts_CheckInverse_1 P_slices_ContainsFuncint_int__counts_CheckInverse_1 R_slices_ContainsFuncint_int__counts_CheckInverse_1 (p0, p1) K = w_slices_ContainsFuncint_int__counts_CheckInverse_1 p0 p1 K := by kernel_rfl
def s_slices_ContainsFuncint_int__counts_CheckInverse_1 (p0 : (List Int)) (p1 : PUnit) : Bool :=
  (decide ((s_slices_IndexFuncint_int__counts_CheckInverse_1 p0 ()) ≥ (0 : Int)))
abbrev pre_slices_ContainsFuncint_int__counts_CheckInverse_1 (p0 : (List Int)) (p1 : PUnit) : List Prop := [(lenOk p0)]
set_option maxHeartbeats 4000000 in
theorem d_slices_ContainsFuncint_int__counts_CheckInverse_1 (p0 : (List Int)) (p1 : PUnit) (K : Bool → Prop) (hp : ∀ p ∈ pre_slices_ContainsFuncint_int__counts_CheckInverse_1 p0 p1, p) (h : K (s_slices_ContainsFuncint_int__counts_CheckInverse_1 p0 p1)) : w_slices_ContainsFuncint_int__counts_CheckInverse_1 p0 p1 K := by
  unfold w_slices_ContainsFuncint_int__counts_CheckInverse_1
  unfold s_slices_ContainsFuncint_int__counts_CheckInverse_1 at h
  obtain ⟨hp0, _⟩ := conj_of hp
  exact ⟨(hp0), h⟩
abbrev con_slices_ContainsFuncint_int__counts_CheckInverse_1 : Con := ⟨P_slices_ContainsFuncint_int__counts_CheckInverse_1, R_slices_ContainsFuncint_int__counts_CheckInverse_1, fun x => pre_slices_ContainsFuncint_int__counts_CheckInverse_1 x.1 x.2, fun x => s_slices_ContainsFuncint_int__counts_CheckInverse_1 x.1 x.2⟩
theorem ok_slices_ContainsFuncint_int__counts_CheckInverse_1 : ConOk Try.prog 108 con_slices_ContainsFuncint_int__counts_CheckInverse_1 := ⟨k_slices_ContainsFuncint_int__counts_CheckInverse_1, fun x hx => ret_tf (ps := P_slices_ContainsFuncint_int__counts_CheckInverse_1) (rs := R_slices_ContainsFuncint_int__counts_CheckInverse_1) (x := x) (y := s_slices_ContainsFuncint_int__counts_CheckInverse_1 x.1 x.2) e_slices_ContainsFuncint_int__counts_CheckInverse_1 hC_slices_ContainsFuncint_int__counts_CheckInverse_1 (tf_of (w_slices_ContainsFuncint_int__counts_CheckInverse_1_eq x.1 x.2 (fun z => z = s_slices_ContainsFuncint_int__counts_CheckInverse_1 x.1 x.2)) (d_slices_ContainsFuncint_int__counts_CheckInverse_1 x.1 x.2 (fun z => z = s_slices_ContainsFuncint_int__counts_CheckInverse_1 x.1 x.2) hx rfl))⟩
/- counts_CheckInverse -/
def C_counts_CheckInverse : Cons := [(82, [], con_counts_open), (74, [], con_counts_within), (108, [109], con_slices_ContainsFuncint_int__counts_CheckInverse_1), (78, [], con_counts_unless), (77, [], con_counts_first), (111, ioMark, con_counts_reduced)]
theorem hC_counts_CheckInverse : ConsOk Try.prog C_counts_CheckInverse := ConsOk.cons ok_counts_open <| ConsOk.cons ok_counts_within <| ConsOk.cons ok_slices_ContainsFuncint_int__counts_CheckInverse_1 <| ConsOk.cons ok_counts_unless <| ConsOk.cons ok_counts_first <| ConsOk.consM ok_counts_reduced <| ConsOk.nil
def w_counts_CheckInverse (p0 : CR) (p1 : CI) (K : (Int × Int) → Prop) : Prop :=
  (∃ n0, (loopP (fun (y1 : (Int × Bool)) k2 =>
    ((((decide (y1.1 < (3 : Int))) = true) →
    (((0 : Int) ≤ y1.1) ∧
      ((y1.1 < (3 : Int)) ∧
      (((y1.2 = true) →
      ((y1.2 = y1.2) ∧
        ((lenOk ((List.getD (p1.1.1.1 :: (p1.1.2.1.1 :: (p1.1.2.2.1 :: ([] : List Int)))) (Int.toNat y1.1) (0 : Int)) :: ((List.getD (p1.1.1.2.1 :: (p1.1.2.1.2.1 :: (p1.1.2.2.2.1 :: ([] : List Int)))) (Int.toNat y1.1) (0 : Int)) :: ((List.getD (p1.1.1.2.2 :: (p1.1.2.1.2.2 :: (p1.1.2.2.2.2 :: ([] : List Int)))) (Int.toNat y1.1) (0 : Int)) :: ([] : List Int))))) ∧
        ((y1.2 = y1.2) ∧
        (k2 ((Go.IntKind.wrap .i64 (y1.1 + (1 : Int))), (cond y1.2 (!(s_slices_ContainsFuncint_int__counts_CheckInverse_1 ((List.getD (p1.1.1.1 :: (p1.1.2.1.1 :: (p1.1.2.2.1 :: ([] : List Int)))) (Int.toNat y1.1) (0 : Int)) :: ((List.getD (p1.1.1.2.1 :: (p1.1.2.1.2.1 :: (p1.1.2.2.2.1 :: ([] : List Int)))) (Int.toNat y1.1) (0 : Int)) :: ((List.getD (p1.1.1.2.2 :: (p1.1.2.1.2.2 :: (p1.1.2.2.2.2 :: ([] : List Int)))) (Int.toNat y1.1) (0 : Int)) :: ([] : List Int)))) ())) false))))))) ∧
      ((y1.2 = (!true)) →
      (((y1.2 = true) →
        False) ∧
        ((y1.2 = (!true)) →
        ((y1.2 = false) ∧
          (k2 ((Go.IntKind.wrap .i64 (y1.1 + (1 : Int))), false)))))))))) ∧
    (((decide (y1.1 < (3 : Int))) = false) →
    ((lenOk ((s_counts_CheckRules p0).2 :: ((s_counts_unless y1.2 (2 : Int)) :: ([] : List Int)))) ∧
      (((((s_counts_first ((s_counts_CheckRules p0).2 :: ((s_counts_unless y1.2 (2 : Int)) :: ([] : List Int)))) != (0 : Int)) = true) →
      (K ((0 : Int), (s_counts_first ((s_counts_CheckRules p0).2 :: ((s_counts_unless y1.2 (2 : Int)) :: ([] : List Int))))))) ∧
      ((((s_counts_first ((s_counts_CheckRules p0).2 :: ((s_counts_unless y1.2 (2 : Int)) :: ([] : List Int)))) != (0 : Int)) = false) →
      ((v_ci p1) ∧
        (((((v_div p1) != (1 : Int)) = true) →
        (K ((0 : Int), (3 : Int)))) ∧
        ((((v_div p1) != (1 : Int)) = false) →
        (∃ n3, (loopP (fun (y4 : Int) k5 =>
            ((((decide (y4 < (3 : Int))) = true) →
            (((0 : Int) ≤ y4) ∧
              ((y4 < (3 : Int)) ∧
              (∃ n6, (loopP (fun (y7 : Int) k8 =>
                ((((decide (y7 < (3 : Int))) = true) →
                (∃ n9, (loopP (fun (y10 : (Int × Int)) k11 =>
                    ((((decide (y10.1 < (3 : Int))) = true) →
                    (((0 : Int) ≤ y10.1) ∧
                      ((y10.1 < (3 : Int)) ∧
                      (((0 : Int) ≤ y10.1) ∧
                      ((y10.1 < (3 : Int)) ∧
                      (((0 : Int) ≤ y7) ∧
                      ((y7 < (3 : Int)) ∧
                      (k11 ((Go.IntKind.wrap .i64 (y10.1 + (1 : Int))), (Go.IntKind.wrap .i64 (y10.2 + (Go.IntKind.wrap .i64 ((List.getD ((List.getD (p1.1.1.1 :: (p1.1.2.1.1 :: (p1.1.2.2.1 :: ([] : List Int)))) (Int.toNat y4) (0 : Int)) :: ((List.getD (p1.1.1.2.1 :: (p1.1.2.1.2.1 :: (p1.1.2.2.2.1 :: ([] : List Int)))) (Int.toNat y4) (0 : Int)) :: ((List.getD (p1.1.1.2.2 :: (p1.1.2.1.2.2 :: (p1.1.2.2.2.2 :: ([] : List Int)))) (Int.toNat y4) (0 : Int)) :: ([] : List Int)))) (Int.toNat y10.1) (0 : Int)) * (List.getD ((List.getD (p0.2.2.2.2.2.2.2.1.1.1 :: (p0.2.2.2.2.2.2.2.1.2.1.1 :: (p0.2.2.2.2.2.2.2.1.2.2.1 :: ([] : List Int)))) (Int.toNat y10.1) (0 : Int)) :: ((List.getD (p0.2.2.2.2.2.2.2.1.1.2.1 :: (p0.2.2.2.2.2.2.2.1.2.1.2.1 :: (p0.2.2.2.2.2.2.2.1.2.2.2.1 :: ([] : List Int)))) (Int.toNat y10.1) (0 : Int)) :: ((List.getD (p0.2.2.2.2.2.2.2.1.1.2.2 :: (p0.2.2.2.2.2.2.2.1.2.1.2.2 :: (p0.2.2.2.2.2.2.2.1.2.2.2.2 :: ([] : List Int)))) (Int.toNat y10.1) (0 : Int)) :: ([] : List Int)))) (Int.toNat y7) (0 : Int))))))))))))))) ∧
                    (((decide (y10.1 < (3 : Int))) = false) →
                    ((((y4 == y7) = true) →
                      (((((Go.IntKind.wrap .i64 (y10.2 - (Go.IntKind.wrap .i64 ((1000 : Int) * p1.2)))) != (0 : Int)) = true) →
                        (K (y4, (19 : Int)))) ∧
                        ((((Go.IntKind.wrap .i64 (y10.2 - (Go.IntKind.wrap .i64 ((1000 : Int) * p1.2)))) != (0 : Int)) = false) →
                        (k8 (Go.IntKind.wrap .i64 (y7 + (1 : Int))))))) ∧
                      (((y4 == y7) = false) →
                      ((((y10.2 != (0 : Int)) = true) →
                        (K (y4, (19 : Int)))) ∧
                        (((y10.2 != (0 : Int)) = false) →
                        (k8 (Go.IntKind.wrap .i64 (y7 + (1 : Int))))))))))) n9 ((0 : Int), (0 : Int))))) ∧
                (((decide (y7 < (3 : Int))) = false) →
                (k5 (Go.IntKind.wrap .i64 (y4 + (1 : Int))))))) n6 (0 : Int)))))) ∧
            (((decide (y4 < (3 : Int))) = false) →
            (K ((0 : Int), (0 : Int)))))) n3 (0 : Int)))))))))))) n0 ((0 : Int), (s_counts_within p1.2 (1 : Int) (1000000000 : Int)))))
set_option maxHeartbeats 4000000 in
theorem w_counts_CheckInverse_eq (p0 : CR) (p1 : CI) (K : (Int × Int) → Prop) : tfn F_counts_CheckInverse A_counts_CheckInverse C_counts_CheckInverse P_counts_CheckInverse R_counts_CheckInverse (p0, p1) K = w_counts_CheckInverse p0 p1 K := by kernel_rfl
def s_counts_CheckInverse (p0 : CR) (p1 : CI) : (Int × Int) :=
  (cond (s_counts_within p1.2 (1 : Int) (1000000000 : Int)) (cond (cond (s_counts_within p1.2 (1 : Int) (1000000000 : Int)) (!(s_slices_ContainsFuncint_int__counts_CheckInverse_1 (p1.1.1.1 :: (p1.1.1.2.1 :: (p1.1.1.2.2 :: ([] : List Int)))) ())) false) (cond (cond (cond (s_counts_within p1.2 (1 : Int) (1000000000 : Int)) (!(s_slices_ContainsFuncint_int__counts_CheckInverse_1 (p1.1.1.1 :: (p1.1.1.2.1 :: (p1.1.1.2.2 :: ([] : List Int)))) ())) false) (!(s_slices_ContainsFuncint_int__counts_CheckInverse_1 (p1.1.2.1.1 :: (p1.1.2.1.2.1 :: (p1.1.2.1.2.2 :: ([] : List Int)))) ())) false) (cond ((s_counts_first ((s_counts_CheckRules p0).2 :: ((s_counts_unless (cond (cond (cond (s_counts_within p1.2 (1 : Int) (1000000000 : Int)) (!(s_slices_ContainsFuncint_int__counts_CheckInverse_1 (p1.1.1.1 :: (p1.1.1.2.1 :: (p1.1.1.2.2 :: ([] : List Int)))) ())) false) (!(s_slices_ContainsFuncint_int__counts_CheckInverse_1 (p1.1.2.1.1 :: (p1.1.2.1.2.1 :: (p1.1.2.1.2.2 :: ([] : List Int)))) ())) false) (!(s_slices_ContainsFuncint_int__counts_CheckInverse_1 (p1.1.2.2.1 :: (p1.1.2.2.2.1 :: (p1.1.2.2.2.2 :: ([] : List Int)))) ())) false) (2 : Int)) :: ([] : List Int)))) != (0 : Int)) ((0 : Int), (s_counts_first ((s_counts_CheckRules p0).2 :: ((s_counts_unless (cond (cond (cond (s_counts_within p1.2 (1 : Int) (1000000000 : Int)) (!(s_slices_ContainsFuncint_int__counts_CheckInverse_1 (p1.1.1.1 :: (p1.1.1.2.1 :: (p1.1.1.2.2 :: ([] : List Int)))) ())) false) (!(s_slices_ContainsFuncint_int__counts_CheckInverse_1 (p1.1.2.1.1 :: (p1.1.2.1.2.1 :: (p1.1.2.1.2.2 :: ([] : List Int)))) ())) false) (!(s_slices_ContainsFuncint_int__counts_CheckInverse_1 (p1.1.2.2.1 :: (p1.1.2.2.2.1 :: (p1.1.2.2.2.2 :: ([] : List Int)))) ())) false) (2 : Int)) :: ([] : List Int)))))
    (cond ((v_div p1) != (1 : Int)) ((0 : Int), (3 : Int))
    (cond ((Go.IntKind.wrap .i64 ((Go.IntKind.wrap .i64 ((Go.IntKind.wrap .i64 ((Go.IntKind.wrap .i64 ((0 : Int) + (Go.IntKind.wrap .i64 (p1.1.1.1 * p0.2.2.2.2.2.2.2.1.1.1)))) + (Go.IntKind.wrap .i64 (p1.1.1.2.1 * p0.2.2.2.2.2.2.2.1.2.1.1)))) + (Go.IntKind.wrap .i64 (p1.1.1.2.2 * p0.2.2.2.2.2.2.2.1.2.2.1)))) - (Go.IntKind.wrap .i64 ((1000 : Int) * p1.2)))) != (0 : Int)) ((0 : Int), (19 : Int))
    (cond ((Go.IntKind.wrap .i64 ((Go.IntKind.wrap .i64 ((Go.IntKind.wrap .i64 ((0 : Int) + (Go.IntKind.wrap .i64 (p1.1.1.1 * p0.2.2.2.2.2.2.2.1.1.2.1)))) + (Go.IntKind.wrap .i64 (p1.1.1.2.1 * p0.2.2.2.2.2.2.2.1.2.1.2.1)))) + (Go.IntKind.wrap .i64 (p1.1.1.2.2 * p0.2.2.2.2.2.2.2.1.2.2.2.1)))) != (0 : Int)) ((0 : Int), (19 : Int))
    (cond ((Go.IntKind.wrap .i64 ((Go.IntKind.wrap .i64 ((Go.IntKind.wrap .i64 ((0 : Int) + (Go.IntKind.wrap .i64 (p1.1.1.1 * p0.2.2.2.2.2.2.2.1.1.2.2)))) + (Go.IntKind.wrap .i64 (p1.1.1.2.1 * p0.2.2.2.2.2.2.2.1.2.1.2.2)))) + (Go.IntKind.wrap .i64 (p1.1.1.2.2 * p0.2.2.2.2.2.2.2.1.2.2.2.2)))) != (0 : Int)) ((0 : Int), (19 : Int))
    (cond ((Go.IntKind.wrap .i64 ((Go.IntKind.wrap .i64 ((Go.IntKind.wrap .i64 ((0 : Int) + (Go.IntKind.wrap .i64 (p1.1.2.1.1 * p0.2.2.2.2.2.2.2.1.1.1)))) + (Go.IntKind.wrap .i64 (p1.1.2.1.2.1 * p0.2.2.2.2.2.2.2.1.2.1.1)))) + (Go.IntKind.wrap .i64 (p1.1.2.1.2.2 * p0.2.2.2.2.2.2.2.1.2.2.1)))) != (0 : Int)) ((1 : Int), (19 : Int))
    (cond ((Go.IntKind.wrap .i64 ((Go.IntKind.wrap .i64 ((Go.IntKind.wrap .i64 ((Go.IntKind.wrap .i64 ((0 : Int) + (Go.IntKind.wrap .i64 (p1.1.2.1.1 * p0.2.2.2.2.2.2.2.1.1.2.1)))) + (Go.IntKind.wrap .i64 (p1.1.2.1.2.1 * p0.2.2.2.2.2.2.2.1.2.1.2.1)))) + (Go.IntKind.wrap .i64 (p1.1.2.1.2.2 * p0.2.2.2.2.2.2.2.1.2.2.2.1)))) - (Go.IntKind.wrap .i64 ((1000 : Int) * p1.2)))) != (0 : Int)) ((1 : Int), (19 : Int))
    (cond ((Go.IntKind.wrap .i64 ((Go.IntKind.wrap .i64 ((Go.IntKind.wrap .i64 ((0 : Int) + (Go.IntKind.wrap .i64 (p1.1.2.1.1 * p0.2.2.2.2.2.2.2.1.1.2.2)))) + (Go.IntKind.wrap .i64 (p1.1.2.1.2.1 * p0.2.2.2.2.2.2.2.1.2.1.2.2)))) + (Go.IntKind.wrap .i64 (p1.1.2.1.2.2 * p0.2.2.2.2.2.2.2.1.2.2.2.2)))) != (0 : Int)) ((1 : Int), (19 : Int))
    (cond ((Go.IntKind.wrap .i64 ((Go.IntKind.wrap .i64 ((Go.IntKind.wrap .i64 ((0 : Int) + (Go.IntKind.wrap .i64 (p1.1.2.2.1 * p0.2.2.2.2.2.2.2.1.1.1)))) + (Go.IntKind.wrap .i64 (p1.1.2.2.2.1 * p0.2.2.2.2.2.2.2.1.2.1.1)))) + (Go.IntKind.wrap .i64 (p1.1.2.2.2.2 * p0.2.2.2.2.2.2.2.1.2.2.1)))) != (0 : Int)) ((2 : Int), (19 : Int))
    (cond ((Go.IntKind.wrap .i64 ((Go.IntKind.wrap .i64 ((Go.IntKind.wrap .i64 ((0 : Int) + (Go.IntKind.wrap .i64 (p1.1.2.2.1 * p0.2.2.2.2.2.2.2.1.1.2.1)))) + (Go.IntKind.wrap .i64 (p1.1.2.2.2.1 * p0.2.2.2.2.2.2.2.1.2.1.2.1)))) + (Go.IntKind.wrap .i64 (p1.1.2.2.2.2 * p0.2.2.2.2.2.2.2.1.2.2.2.1)))) != (0 : Int)) ((2 : Int), (19 : Int))
    (cond ((Go.IntKind.wrap .i64 ((Go.IntKind.wrap .i64 ((Go.IntKind.wrap .i64 ((Go.IntKind.wrap .i64 ((0 : Int) + (Go.IntKind.wrap .i64 (p1.1.2.2.1 * p0.2.2.2.2.2.2.2.1.1.2.2)))) + (Go.IntKind.wrap .i64 (p1.1.2.2.2.1 * p0.2.2.2.2.2.2.2.1.2.1.2.2)))) + (Go.IntKind.wrap .i64 (p1.1.2.2.2.2 * p0.2.2.2.2.2.2.2.1.2.2.2.2)))) - (Go.IntKind.wrap .i64 ((1000 : Int) * p1.2)))) != (0 : Int)) ((2 : Int), (19 : Int))
    ((0 : Int), (0 : Int)))))))))))))
    (cond ((s_counts_first ((s_counts_CheckRules p0).2 :: ((s_counts_unless false (2 : Int)) :: ([] : List Int)))) != (0 : Int)) ((0 : Int), (s_counts_first ((s_counts_CheckRules p0).2 :: ((s_counts_unless false (2 : Int)) :: ([] : List Int)))))
    (cond ((v_div p1) != (1 : Int)) ((0 : Int), (3 : Int))
    (cond ((Go.IntKind.wrap .i64 ((Go.IntKind.wrap .i64 ((Go.IntKind.wrap .i64 ((Go.IntKind.wrap .i64 ((0 : Int) + (Go.IntKind.wrap .i64 (p1.1.1.1 * p0.2.2.2.2.2.2.2.1.1.1)))) + (Go.IntKind.wrap .i64 (p1.1.1.2.1 * p0.2.2.2.2.2.2.2.1.2.1.1)))) + (Go.IntKind.wrap .i64 (p1.1.1.2.2 * p0.2.2.2.2.2.2.2.1.2.2.1)))) - (Go.IntKind.wrap .i64 ((1000 : Int) * p1.2)))) != (0 : Int)) ((0 : Int), (19 : Int))
    (cond ((Go.IntKind.wrap .i64 ((Go.IntKind.wrap .i64 ((Go.IntKind.wrap .i64 ((0 : Int) + (Go.IntKind.wrap .i64 (p1.1.1.1 * p0.2.2.2.2.2.2.2.1.1.2.1)))) + (Go.IntKind.wrap .i64 (p1.1.1.2.1 * p0.2.2.2.2.2.2.2.1.2.1.2.1)))) + (Go.IntKind.wrap .i64 (p1.1.1.2.2 * p0.2.2.2.2.2.2.2.1.2.2.2.1)))) != (0 : Int)) ((0 : Int), (19 : Int))
    (cond ((Go.IntKind.wrap .i64 ((Go.IntKind.wrap .i64 ((Go.IntKind.wrap .i64 ((0 : Int) + (Go.IntKind.wrap .i64 (p1.1.1.1 * p0.2.2.2.2.2.2.2.1.1.2.2)))) + (Go.IntKind.wrap .i64 (p1.1.1.2.1 * p0.2.2.2.2.2.2.2.1.2.1.2.2)))) + (Go.IntKind.wrap .i64 (p1.1.1.2.2 * p0.2.2.2.2.2.2.2.1.2.2.2.2)))) != (0 : Int)) ((0 : Int), (19 : Int))
    (cond ((Go.IntKind.wrap .i64 ((Go.IntKind.wrap .i64 ((Go.IntKind.wrap .i64 ((0 : Int) + (Go.IntKind.wrap .i64 (p1.1.2.1.1 * p0.2.2.2.2.2.2.2.1.1.1)))) + (Go.IntKind.wrap .i64 (p1.1.2.1.2.1 * p0.2.2.2.2.2.2.2.1.2.1.1)))) + (Go.IntKind.wrap .i64 (p1.1.2.1.2.2 * p0.2.2.2.2.2.2.2.1.2.2.1)))) != (0 : Int)) ((1 : Int), (19 : Int))
    (cond ((Go.IntKind.wrap .i64 ((Go.IntKind.wrap .i64 ((Go.IntKind.wrap .i64 ((Go.IntKind.wrap .i64 ((0 : Int) + (Go.IntKind.wrap .i64 (p1.1.2.1.1 * p0.2.2.2.2.2.2.2.1.1.2.1)))) + (Go.IntKind.wrap .i64 (p1.1.2.1.2.1 * p0.2.2.2.2.2.2.2.1.2.1.2.1)))) + (Go.IntKind.wrap .i64 (p1.1.2.1.2.2 * p0.2.2.2.2.2.2.2.1.2.2.2.1)))) - (Go.IntKind.wrap .i64 ((1000 : Int) * p1.2)))) != (0 : Int)) ((1 : Int), (19 : Int))
    (cond ((Go.IntKind.wrap .i64 ((Go.IntKind.wrap .i64 ((Go.IntKind.wrap .i64 ((0 : Int) + (Go.IntKind.wrap .i64 (p1.1.2.1.1 * p0.2.2.2.2.2.2.2.1.1.2.2)))) + (Go.IntKind.wrap .i64 (p1.1.2.1.2.1 * p0.2.2.2.2.2.2.2.1.2.1.2.2)))) + (Go.IntKind.wrap .i64 (p1.1.2.1.2.2 * p0.2.2.2.2.2.2.2.1.2.2.2.2)))) != (0 : Int)) ((1 : Int), (19 : Int))
    (cond ((Go.IntKind.wrap .i64 ((Go.IntKind.wrap .i64 ((Go.IntKind.wrap .i64 ((0 : Int) + (Go.IntKind.wrap .i64 (p1.1.2.2.1 * p0.2.2.2.2.2.2.2.1.1.1)))) + (Go.IntKind.wrap .i64 (p1.1.2.2.2.1 * p0.2.2.2.2.2.2.2.1.2.1.1)))) + (Go.IntKind.wrap .i64 (p1.1.2.2.2.2 * p0.2.2.2.2.2.2.2.1.2.2.1)))) != (0 : Int)) ((2 : Int), (19 : Int))
    (cond ((Go.IntKind.wrap .i64 ((Go.IntKind.wrap .i64 ((Go.IntKind.wrap .i64 ((0 : Int) + (Go.IntKind.wrap .i64 (p1.1.2.2.1 * p0.2.2.2.2.2.2.2.1.1.2.1)))) + (Go.IntKind.wrap .i64 (p1.1.2.2.2.1 * p0.2.2.2.2.2.2.2.1.2.1.2.1)))) + (Go.IntKind.wrap .i64 (p1.1.2.2.2.2 * p0.2.2.2.2.2.2.2.1.2.2.2.1)))) != (0 : Int)) ((2 : Int), (19 : Int))
    (cond ((Go.IntKind.wrap .i64 ((Go.IntKind.wrap .i64 ((Go.IntKind.wrap .i64 ((Go.IntKind.wrap .i64 ((0 : Int) + (Go.IntKind.wrap .i64 (p1.1.2.2.1 * p0.2.2.2.2.2.2.2.1.1.2.2)))) + (Go.IntKind.wrap .i64 (p1.1.2.2.2.1 * p0.2.2.2.2.2.2.2.1.2.1.2.2)))) + (Go.IntKind.wrap .i64 (p1.1.2.2.2.2 * p0.2.2.2.2.2.2.2.1.2.2.2.2)))) - (Go.IntKind.wrap .i64 ((1000 : Int) * p1.2)))) != (0 : Int)) ((2 : Int), (19 : Int))
    ((0 : Int), (0 : Int))))))))))))))
    (cond ((s_counts_first ((s_counts_CheckRules p0).2 :: ((s_counts_unless false (2 : Int)) :: ([] : List Int)))) != (0 : Int)) ((0 : Int), (s_counts_first ((s_counts_CheckRules p0).2 :: ((s_counts_unless false (2 : Int)) :: ([] : List Int)))))
    (cond ((v_div p1) != (1 : Int)) ((0 : Int), (3 : Int))
    (cond ((Go.IntKind.wrap .i64 ((Go.IntKind.wrap .i64 ((Go.IntKind.wrap .i64 ((Go.IntKind.wrap .i64 ((0 : Int) + (Go.IntKind.wrap .i64 (p1.1.1.1 * p0.2.2.2.2.2.2.2.1.1.1)))) + (Go.IntKind.wrap .i64 (p1.1.1.2.1 * p0.2.2.2.2.2.2.2.1.2.1.1)))) + (Go.IntKind.wrap .i64 (p1.1.1.2.2 * p0.2.2.2.2.2.2.2.1.2.2.1)))) - (Go.IntKind.wrap .i64 ((1000 : Int) * p1.2)))) != (0 : Int)) ((0 : Int), (19 : Int))
    (cond ((Go.IntKind.wrap .i64 ((Go.IntKind.wrap .i64 ((Go.IntKind.wrap .i64 ((0 : Int) + (Go.IntKind.wrap .i64 (p1.1.1.1 * p0.2.2.2.2.2.2.2.1.1.2.1)))) + (Go.IntKind.wrap .i64 (p1.1.1.2.1 * p0.2.2.2.2.2.2.2.1.2.1.2.1)))) + (Go.IntKind.wrap .i64 (p1.1.1.2.2 * p0.2.2.2.2.2.2.2.1.2.2.2.1)))) != (0 : Int)) ((0 : Int), (19 : Int))
    (cond ((Go.IntKind.wrap .i64 ((Go.IntKind.wrap .i64 ((Go.IntKind.wrap .i64 ((0 : Int) + (Go.IntKind.wrap .i64 (p1.1.1.1 * p0.2.2.2.2.2.2.2.1.1.2.2)))) + (Go.IntKind.wrap .i64 (p1.1.1.2.1 * p0.2.2.2.2.2.2.2.1.2.1.2.2)))) + (Go.IntKind.wrap .i64 (p1.1.1.2.2 * p0.2.2.2.2.2.2.2.1.2.2.2.2)))) != (0 : Int)) ((0 : Int), (19 : Int))
    (cond ((Go.IntKind.wrap .i64 ((Go.IntKind.wrap .i64 ((Go.IntKind.wrap .i64 ((0 : Int) + (Go.IntKind.wrap .i64 (p1.1.2.1.1 * p0.2.2.2.2.2.2.2.1.1.1)))) + (Go.IntKind.wrap .i64 (p1.1.2.1.2.1 * p0.2.2.2.2.2.2.2.1.2.1.1)))) + (Go.IntKind.wrap .i64 (p1.1.2.1.2.2 * p0.2.2.2.2.2.2.2.1.2.2.1)))) != (0 : Int)) ((1 : Int), (19 : Int))
    (cond ((Go.IntKind.wrap .i64 ((Go.IntKind.wrap .i64 ((Go.IntKind.wrap .i64 ((Go.IntKind.wrap .i64 ((0 : Int) + (Go.IntKind.wrap .i64 (p1.1.2.1.1 * p0.2.2.2.2.2.2.2.1.1.2.1)))) + (Go.IntKind.wrap .i64 (p1.1.2.1.2.1 * p0.2.2.2.2.2.2.2.1.2.1.2.1)))) + (Go.IntKind.wrap .i64 (p1.1.2.1.2.2 * p0.2.2.2.2.2.2.2.1.2.2.2.1)))) - (Go.IntKind.wrap .i64 ((1000 : Int) * p1.2)))) != (0 : Int)) ((1 : Int), (19 : Int))
    (cond ((Go.IntKind.wrap .i64 ((Go.IntKind.wrap .i64 ((Go.IntKind.wrap .i64 ((0 : Int) + (Go.IntKind.wrap .i64 (p1.1.2.1.1 * p0.2.2.2.2.2.2.2.1.1.2.2)))) + (Go.IntKind.wrap .i64 (p1.1.2.1.2.1 * p0.2.2.2.2.2.2.2.1.2.1.2.2)))) + (Go.IntKind.wrap .i64 (p1.1.2.1.2.2 * p0.2.2.2.2.2.2.2.1.2.2.2.2)))) != (0 : Int)) ((1 : Int), (19 : Int))
    (cond ((Go.IntKind.wrap .i64 ((Go.IntKind.wrap .i64 ((Go.IntKind.wrap .i64 ((0 : Int) + (Go.IntKind.wrap .i64 (p1.1.2.2.1 * p0.2.2.2.2.2.2.2.1.1.1)))) + (Go.IntKind.wrap .i64 (p1.1.2.2.2.1 * p0.2.2.2.2.2.2.2.1.2.1.1)))) + (Go.IntKind.wrap .i64 (p1.1.2.2.2.2 * p0.2.2.2.2.2.2.2.1.2.2.1)))) != (0 : Int)) ((2 : Int), (19 : Int))
    (cond ((Go.IntKind.wrap .i64 ((Go.IntKind.wrap .i64 ((Go.IntKind.wrap .i64 ((0 : Int) + (Go.IntKind.wrap .i64 (p1.1.2.2.1 * p0.2.2.2.2.2.2.2.1.1.2.1)))) + (Go.IntKind.wrap .i64 (p1.1.2.2.2.1 * p0.2.2.2.2.2.2.2.1.2.1.2.1)))) + (Go.IntKind.wrap .i64 (p1.1.2.2.2.2 * p0.2.2.2.2.2.2.2.1.2.2.2.1)))) != (0 : Int)) ((2 : Int), (19 : Int))
    (cond ((Go.IntKind.wrap .i64 ((Go.IntKind.wrap .i64 ((Go.IntKind.wrap .i64 ((Go.IntKind.wrap .i64 ((0 : Int) + (Go.IntKind.wrap .i64 (p1.1.2.2.1 * p0.2.2.2.2.2.2.2.1.1.2.2)))) + (Go.IntKind.wrap .i64 (p1.1.2.2.2.1 * p0.2.2.2.2.2.2.2.1.2.1.2.2)))) + (Go.IntKind.wrap .i64 (p1.1.2.2.2.2 * p0.2.2.2.2.2.2.2.1.2.2.2.2)))) - (Go.IntKind.wrap .i64 ((1000 : Int) * p1.2)))) != (0 : Int)) ((2 : Int), (19 : Int))
    ((0 : Int), (0 : Int))))))))))))))
    (cond ((s_counts_first ((s_counts_CheckRules p0).2 :: ((s_counts_unless false (2 : Int)) :: ([] : List Int)))) != (0 : Int)) ((0 : Int), (s_counts_first ((s_counts_CheckRules p0).2 :: ((s_counts_unless false (2 : Int)) :: ([] : List Int)))))
    (cond ((v_div p1) != (1 : Int)) ((0 : Int), (3 : Int))
    (cond ((Go.IntKind.wrap .i64 ((Go.IntKind.wrap .i64 ((Go.IntKind.wrap .i64 ((Go.IntKind.wrap .i64 ((0 : Int) + (Go.IntKind.wrap .i64 (p1.1.1.1 * p0.2.2.2.2.2.2.2.1.1.1)))) + (Go.IntKind.wrap .i64 (p1.1.1.2.1 * p0.2.2.2.2.2.2.2.1.2.1.1)))) + (Go.IntKind.wrap .i64 (p1.1.1.2.2 * p0.2.2.2.2.2.2.2.1.2.2.1)))) - (Go.IntKind.wrap .i64 ((1000 : Int) * p1.2)))) != (0 : Int)) ((0 : Int), (19 : Int))
    (cond ((Go.IntKind.wrap .i64 ((Go.IntKind.wrap .i64 ((Go.IntKind.wrap .i64 ((0 : Int) + (Go.IntKind.wrap .i64 (p1.1.1.1 * p0.2.2.2.2.2.2.2.1.1.2.1)))) + (Go.IntKind.wrap .i64 (p1.1.1.2.1 * p0.2.2.2.2.2.2.2.1.2.1.2.1)))) + (Go.IntKind.wrap .i64 (p1.1.1.2.2 * p0.2.2.2.2.2.2.2.1.2.2.2.1)))) != (0 : Int)) ((0 : Int), (19 : Int))
    (cond ((Go.IntKind.wrap .i64 ((Go.IntKind.wrap .i64 ((Go.IntKind.wrap .i64 ((0 : Int) + (Go.IntKind.wrap .i64 (p1.1.1.1 * p0.2.2.2.2.2.2.2.1.1.2.2)))) + (Go.IntKind.wrap .i64 (p1.1.1.2.1 * p0.2.2.2.2.2.2.2.1.2.1.2.2)))) + (Go.IntKind.wrap .i64 (p1.1.1.2.2 * p0.2.2.2.2.2.2.2.1.2.2.2.2)))) != (0 : Int)) ((0 : Int), (19 : Int))
    (cond ((Go.IntKind.wrap .i64 ((Go.IntKind.wrap .i64 ((Go.IntKind.wrap .i64 ((0 : Int) + (Go.IntKind.wrap .i64 (p1.1.2.1.1 * p0.2.2.2.2.2.2.2.1.1.1)))) + (Go.IntKind.wrap .i64 (p1.1.2.1.2.1 * p0.2.2.2.2.2.2.2.1.2.1.1)))) + (Go.IntKind.wrap .i64 (p1.1.2.1.2.2 * p0.2.2.2.2.2.2.2.1.2.2.1)))) != (0 : Int)) ((1 : Int), (19 : Int))
    (cond ((Go.IntKind.wrap .i64 ((Go.IntKind.wrap .i64 ((Go.IntKind.wrap .i64 ((Go.IntKind.wrap .i64 ((0 : Int) + (Go.IntKind.wrap .i64 (p1.1.2.1.1 * p0.2.2.2.2.2.2.2.1.1.2.1)))) + (Go.IntKind.wrap .i64 (p1.1.2.1.2.1 * p0.2.2.2.2.2.2.2.1.2.1.2.1)))) + (Go.IntKind.wrap .i64 (p1.1.2.1.2.2 * p0.2.2.2.2.2.2.2.1.2.2.2.1)))) - (Go.IntKind.wrap .i64 ((1000 : Int) * p1.2)))) != (0 : Int)) ((1 : Int), (19 : Int))
    (cond ((Go.IntKind.wrap .i64 ((Go.IntKind.wrap .i64 ((Go.IntKind.wrap .i64 ((0 : Int) + (Go.IntKind.wrap .i64 (p1.1.2.1.1 * p0.2.2.2.2.2.2.2.1.1.2.2)))) + (Go.IntKind.wrap .i64 (p1.1.2.1.2.1 * p0.2.2.2.2.2.2.2.1.2.1.2.2)))) + (Go.IntKind.wrap .i64 (p1.1.2.1.2.2 * p0.2.2.2.2.2.2.2.1.2.2.2.2)))) != (0 : Int)) ((1 : Int), (19 : Int))
    (cond ((Go.IntKind.wrap .i64 ((Go.IntKind.wrap .i64 ((Go.IntKind.wrap .i64 ((0 : Int) + (Go.IntKind.wrap .i64 (p1.1.2.2.1 * p0.2.2.2.2.2.2.2.1.1.1)))) + (Go.IntKind.wrap .i64 (p1.1.2.2.2.1 * p0.2.2.2.2.2.2.2.1.2.1.1)))) + (Go.IntKind.wrap .i64 (p1.1.2.2.2.2 * p0.2.2.2.2.2.2.2.1.2.2.1)))) != (0 : Int)) ((2 : Int), (19 : Int))
    (cond ((Go.IntKind.wrap .i64 ((Go.IntKind.wrap .i64 ((Go.IntKind.wrap .i64 ((0 : Int) + (Go.IntKind.wrap .i64 (p1.1.2.2.1 * p0.2.2.2.2.2.2.2.1.1.2.1)))) + (Go.IntKind.wrap .i64 (p1.1.2.2.2.1 * p0.2.2.2.2.2.2.2.1.2.1.2.1)))) + (Go.IntKind.wrap .i64 (p1.1.2.2.2.2 * p0.2.2.2.2.2.2.2.1.2.2.2.1)))) != (0 : Int)) ((2 : Int), (19 : Int))
    (cond ((Go.IntKind.wrap .i64 ((Go.IntKind.wrap .i64 ((Go.IntKind.wrap .i64 ((Go.IntKind.wrap .i64 ((0 : Int) + (Go.IntKind.wrap .i64 (p1.1.2.2.1 * p0.2.2.2.2.2.2.2.1.1.2.2)))) + (Go.IntKind.wrap .i64 (p1.1.2.2.2.1 * p0.2.2.2.2.2.2.2.1.2.1.2.2)))) + (Go.IntKind.wrap .i64 (p1.1.2.2.2.2 * p0.2.2.2.2.2.2.2.1.2.2.2.2)))) - (Go.IntKind.wrap .i64 ((1000 : Int) * p1.2)))) != (0 : Int)) ((2 : Int), (19 : Int))
    ((0 : Int), (0 : Int))))))))))))))
abbrev pre_counts_CheckInverse (p0 : CR) (p1 : CI) : List Prop := [(((s_counts_within p1.2 (1 : Int) (1000000000 : Int)) = true) → (((cond (s_counts_within p1.2 (1 : Int) (1000000000 : Int)) (!(s_slices_ContainsFuncint_int__counts_CheckInverse_1 (p1.1.1.1 :: (p1.1.1.2.1 :: (p1.1.1.2.2 :: ([] : List Int)))) ())) false) = true) → (((cond (cond (s_counts_within p1.2 (1 : Int) (1000000000 : Int)) (!(s_slices_ContainsFuncint_int__counts_CheckInverse_1 (p1.1.1.1 :: (p1.1.1.2.1 :: (p1.1.1.2.2 :: ([] : List Int)))) ())) false) (!(s_slices_ContainsFuncint_int__counts_CheckInverse_1 (p1.1.2.1.1 :: (p1.1.2.1.2.1 :: (p1.1.2.1.2.2 :: ([] : List Int)))) ())) false) = true) → ((((s_counts_first ((s_counts_CheckRules p0).2 :: ((s_counts_unless (cond (cond (cond (s_counts_within p1.2 (1 : Int) (1000000000 : Int)) (!(s_slices_ContainsFuncint_int__counts_CheckInverse_1 (p1.1.1.1 :: (p1.1.1.2.1 :: (p1.1.1.2.2 :: ([] : List Int)))) ())) false) (!(s_slices_ContainsFuncint_int__counts_CheckInverse_1 (p1.1.2.1.1 :: (p1.1.2.1.2.1 :: (p1.1.2.1.2.2 :: ([] : List Int)))) ())) false) (!(s_slices_ContainsFuncint_int__counts_CheckInverse_1 (p1.1.2.2.1 :: (p1.1.2.2.2.1 :: (p1.1.2.2.2.2 :: ([] : List Int)))) ())) false) (2 : Int)) :: ([] : List Int)))) != (0 : Int)) = false) → (v_ci p1))))),
    (((s_counts_within p1.2 (1 : Int) (1000000000 : Int)) = true) → (((cond (s_counts_within p1.2 (1 : Int) (1000000000 : Int)) (!(s_slices_ContainsFuncint_int__counts_CheckInverse_1 (p1.1.1.1 :: (p1.1.1.2.1 :: (p1.1.1.2.2 :: ([] : List Int)))) ())) false) = true) → (((cond (cond (s_counts_within p1.2 (1 : Int) (1000000000 : Int)) (!(s_slices_ContainsFuncint_int__counts_CheckInverse_1 (p1.1.1.1 :: (p1.1.1.2.1 :: (p1.1.1.2.2 :: ([] : List Int)))) ())) false) (!(s_slices_ContainsFuncint_int__counts_CheckInverse_1 (p1.1.2.1.1 :: (p1.1.2.1.2.1 :: (p1.1.2.1.2.2 :: ([] : List Int)))) ())) false) = false) → ((((s_counts_first ((s_counts_CheckRules p0).2 :: ((s_counts_unless false (2 : Int)) :: ([] : List Int)))) != (0 : Int)) = false) → (v_ci p1))))),
    (((s_counts_within p1.2 (1 : Int) (1000000000 : Int)) = true) → (((cond (s_counts_within p1.2 (1 : Int) (1000000000 : Int)) (!(s_slices_ContainsFuncint_int__counts_CheckInverse_1 (p1.1.1.1 :: (p1.1.1.2.1 :: (p1.1.1.2.2 :: ([] : List Int)))) ())) false) = false) → ((((s_counts_first ((s_counts_CheckRules p0).2 :: ((s_counts_unless false (2 : Int)) :: ([] : List Int)))) != (0 : Int)) = false) → (v_ci p1)))),
    (((s_counts_within p1.2 (1 : Int) (1000000000 : Int)) = false) → ((((s_counts_first ((s_counts_CheckRules p0).2 :: ((s_counts_unless false (2 : Int)) :: ([] : List Int)))) != (0 : Int)) = false) → (v_ci p1)))]
set_option maxHeartbeats 4000000 in
theorem d_counts_CheckInverse (p0 : CR) (p1 : CI) (K : (Int × Int) → Prop) (hp : ∀ p ∈ pre_counts_CheckInverse p0 p1, p) (h : K (s_counts_CheckInverse p0 p1)) : w_counts_CheckInverse p0 p1 K := by
  unfold w_counts_CheckInverse
  unfold s_counts_CheckInverse at h
  obtain ⟨hp0, hp1, hp2, hp3, _⟩ := conj_of hp
  exact ⟨31, fun _ => ⟨(od rfl), (od rfl), (br' h (fun e0 h => ⟨rfl, (lenOk_of 3 rfl (by decide)), rfl, fun _ => ⟨(od rfl), (od rfl), (br' h (fun e1 h => ⟨rfl, (lenOk_of 3 rfl (by decide)), rfl, fun _ => ⟨(od rfl), (od rfl), (br' h (fun e2 h => ⟨rfl, (lenOk_of 3 rfl (by decide)), rfl, nof, fun _ => ⟨(lenOk_of 2 rfl (by decide)), (br' h (fun e3 h => h)
    (fun e3 h => ⟨(hp0 e0 e1 e2 e3), (br' h (fun e4 h => h)
    (fun e4 h => ⟨31, fun _ => ⟨(od rfl), (od rfl), 31, fun _ => ⟨31, fun _ => ⟨(od rfl), (od rfl), (od rfl), (od rfl), (od rfl), (od rfl), fun _ => ⟨(od rfl), (od rfl), (od rfl), (od rfl), (od rfl), (od rfl), fun _ => ⟨(od rfl), (od rfl), (od rfl), (od rfl), (od rfl), (od rfl), nof, fun _ => ⟨fun _ => (br' h (fun e5 h => h)
    (fun e5 h => ⟨fun _ => ⟨31, fun _ => ⟨(od rfl), (od rfl), (od rfl), (od rfl), (od rfl), (od rfl), fun _ => ⟨(od rfl), (od rfl), (od rfl), (od rfl), (od rfl), (od rfl), fun _ => ⟨(od rfl), (od rfl), (od rfl), (od rfl), (od rfl), (od rfl), nof, fun _ => ⟨nof, fun _ => (br' h (fun e6 h => h)
    (fun e6 h => ⟨fun _ => ⟨31, fun _ => ⟨(od rfl), (od rfl), (od rfl), (od rfl), (od rfl), (od rfl), fun _ => ⟨(od rfl), (od rfl), (od rfl), (od rfl), (od rfl), (od rfl), fun _ => ⟨(od rfl), (od rfl), (od rfl), (od rfl), (od rfl), (od rfl), nof, fun _ => ⟨nof, fun _ => (br' h (fun e7 h => h)
    (fun e7 h => ⟨nof, fun _ => ⟨fun _ => ⟨(od rfl), (od rfl), 31, fun _ => ⟨31, fun _ => ⟨(od rfl), (od rfl), (od rfl), (od rfl), (od rfl), (od rfl), fun _ => ⟨(od rfl), (od rfl), (od rfl), (od rfl), (od rfl), (od rfl), fun _ => ⟨(od rfl), (od rfl), (od rfl), (od rfl), (od rfl), (od rfl), nof, fun _ => ⟨nof, fun _ => (br' h (fun e8 h => h)
    (fun e8 h => ⟨fun _ => ⟨31, fun _ => ⟨(od rfl), (od rfl), (od rfl), (od rfl), (od rfl), (od rfl), fun _ => ⟨(od rfl), (od rfl), (od rfl), (od rfl), (od rfl), (od rfl), fun _ => ⟨(od rfl), (od rfl), (od rfl), (od rfl), (od rfl), (od rfl), nof, fun _ => ⟨fun _ => (br' h (fun e9 h => h)
    (fun e9 h => ⟨fun _ => ⟨31, fun _ => ⟨(od rfl), (od rfl), (od rfl), (od rfl), (od rfl), (od rfl), fun _ => ⟨(od rfl), (od rfl), (od rfl), (od rfl), (od rfl), (od rfl), fun _ => ⟨(od rfl), (od rfl), (od rfl), (od rfl), (od rfl), (od rfl), nof, fun _ => ⟨nof, fun _ => (br' h (fun e10 h => h)
    (fun e10 h => ⟨nof, fun _ => ⟨fun _ => ⟨(od rfl), (od rfl), 31, fun _ => ⟨31, fun _ => ⟨(od rfl), (od rfl), (od rfl), (od rfl), (od rfl), (od rfl), fun _ => ⟨(od rfl), (od rfl), (od rfl), (od rfl), (od rfl), (od rfl), fun _ => ⟨(od rfl), (od rfl), (od rfl), (od rfl), (od rfl), (od rfl), nof, fun _ => ⟨nof, fun _ => (br' h (fun e11 h => h)
    (fun e11 h => ⟨fun _ => ⟨31, fun _ => ⟨(od rfl), (od rfl), (od rfl), (od rfl), (od rfl), (od rfl), fun _ => ⟨(od rfl), (od rfl), (od rfl), (od rfl), (od rfl), (od rfl), fun _ => ⟨(od rfl), (od rfl), (od rfl), (od rfl), (od rfl), (od rfl), nof, fun _ => ⟨nof, fun _ => (br' h (fun e12 h => h)
    (fun e12 h => ⟨fun _ => ⟨31, fun _ => ⟨(od rfl), (od rfl), (od rfl), (od rfl), (od rfl), (od rfl), fun _ => ⟨(od rfl), (od rfl), (od rfl), (od rfl), (od rfl), (od rfl), fun _ => ⟨(od rfl), (od rfl), (od rfl), (od rfl), (od rfl), (od rfl), nof, fun _ => ⟨fun _ => (br' h (fun e13 h => h)
    (fun e13 h => ⟨nof, fun _ => ⟨nof, fun _ => h⟩⟩)), fun e => Bool.noConfusion (show true = false from e)⟩⟩, fun e => Bool.noConfusion (show true = false from e)⟩, fun e => Bool.noConfusion (show true = false from e)⟩, fun e => Bool.noConfusion (show true = false from e)⟩, fun e => Bool.noConfusion (show true = false from e)⟩))⟩⟩, fun e => Bool.noConfusion (show true = false from e)⟩, fun e => Bool.noConfusion (show true = false from e)⟩, fun e => Bool.noConfusion (show true = false from e)⟩, fun e => Bool.noConfusion (show true = false from e)⟩))⟩⟩, fun e => Bool.noConfusion (show true = false from e)⟩, fun e => Bool.noConfusion (show true = false from e)⟩, fun e => Bool.noConfusion (show true = false from e)⟩, fun e => Bool.noConfusion (show true = false from e)⟩, fun e => Bool.noConfusion (show true = false from e)⟩⟩))⟩⟩, fun e => Bool.noConfusion (show true = false from e)⟩, fun e => Bool.noConfusion (show true = false from e)⟩, fun e => Bool.noConfusion (show true = false from e)⟩, fun e => Bool.noConfusion (show true = false from e)⟩)), fun e => Bool.noConfusion (show true = false from e)⟩⟩, fun e => Bool.noConfusion (show true = false from e)⟩, fun e => Bool.noConfusion (show true = false from e)⟩, fun e => Bool.noConfusion (show true = false from e)⟩, fun e => Bool.noConfusion (show true = false from e)⟩))⟩⟩, fun e => Bool.noConfusion (show true = false from e)⟩, fun e => Bool.noConfusion (show true = false from e)⟩, fun e => Bool.noConfusion (show true = false from e)⟩, fun e => Bool.noConfusion (show true = false from e)⟩, fun e => Bool.noConfusion (show true = false from e)⟩⟩))⟩⟩, fun e => Bool.noConfusion (show true = false from e)⟩, fun e => Bool.noConfusion (show true = false from e)⟩, fun e => Bool.noConfusion (show true = false from e)⟩, fun e => Bool.noConfusion (show true = false from e)⟩))⟩⟩, fun e => Bool.noConfusion (show true = false from e)⟩, fun e => Bool.noConfusion (show true = false from e)⟩, fun e => Bool.noConfusion (show true = false from e)⟩, fun e => Bool.noConfusion (show true = false from e)⟩)), fun e => Bool.noConfusion (show true = false from e)⟩⟩, fun e => Bool.noConfusion (show true = false from e)⟩, fun e => Bool.noConfusion (show true = false from e)⟩, fun e => Bool.noConfusion (show true = false from e)⟩, fun e => Bool.noConfusion (show true = false from e)⟩, fun e => Bool.noConfusion (show true = false from e)⟩))⟩))⟩⟩)
    (fun e2 h => (And.intro (fun hc => Bool.noConfusion (hc.symm.trans e2)) (fun _ => ⟨e2, nof, fun _ => ⟨(lenOk_of 2 rfl (by decide)), (br' h (fun e15 h => h)
    (fun e15 h => ⟨(hp1 e0 e1 e2 e15), (br' h (fun e16 h => h)
    (fun e16 h => ⟨31, fun _ => ⟨(od rfl), (od rfl), 31, fun _ => ⟨31, fun _ => ⟨(od rfl), (od rfl), (od rfl), (od rfl), (od rfl), (od rfl), fun _ => ⟨(od rfl), (od rfl), (od rfl), (od rfl), (od rfl), (od rfl), fun _ => ⟨(od rfl), (od rfl), (od rfl), (od rfl), (od rfl), (od rfl), nof, fun _ => ⟨fun _ => (br' h (fun e17 h => h)
    (fun e17 h => ⟨fun _ => ⟨31, fun _ => ⟨(od rfl), (od rfl), (od rfl), (od rfl), (od rfl), (od rfl), fun _ => ⟨(od rfl), (od rfl), (od rfl), (od rfl), (od rfl), (od rfl), fun _ => ⟨(od rfl), (od rfl), (od rfl), (od rfl), (od rfl), (od rfl), nof, fun _ => ⟨nof, fun _ => (br' h (fun e18 h => h)
    (fun e18 h => ⟨fun _ => ⟨31, fun _ => ⟨(od rfl), (od rfl), (od rfl), (od rfl), (od rfl), (od rfl), fun _ => ⟨(od rfl), (od rfl), (od rfl), (od rfl), (od rfl), (od rfl), fun _ => ⟨(od rfl), (od rfl), (od rfl), (od rfl), (od rfl), (od rfl), nof, fun _ => ⟨nof, fun _ => (br' h (fun e19 h => h)
    (fun e19 h => ⟨nof, fun _ => ⟨fun _ => ⟨(od rfl), (od rfl), 31, fun _ => ⟨31, fun _ => ⟨(od rfl), (od rfl), (od rfl), (od rfl), (od rfl), (od rfl), fun _ => ⟨(od rfl), (od rfl), (od rfl), (od rfl), (od rfl), (od rfl), fun _ => ⟨(od rfl), (od rfl), (od rfl), (od rfl), (od rfl), (od rfl), nof, fun _ => ⟨nof, fun _ => (br' h (fun e20 h => h)
    (fun e20 h => ⟨fun _ => ⟨31, fun _ => ⟨(od rfl), (od rfl), (od rfl), (od rfl), (od rfl), (od rfl), fun _ => ⟨(od rfl), (od rfl), (od rfl), (od rfl), (od rfl), (od rfl), fun _ => ⟨(od rfl), (od rfl), (od rfl), (od rfl), (od rfl), (od rfl), nof, fun _ => ⟨fun _ => (br' h (fun e21 h => h)
    (fun e21 h => ⟨fun _ => ⟨31, fun _ => ⟨(od rfl), (od rfl), (od rfl), (od rfl), (od rfl), (od rfl), fun _ => ⟨(od rfl), (od rfl), (od rfl), (od rfl), (od rfl), (od rfl), fun _ => ⟨(od rfl), (od rfl), (od rfl), (od rfl), (od rfl), (od rfl), nof, fun _ => ⟨nof, fun _ => (br' h (fun e22 h => h)
    (fun e22 h => ⟨nof, fun _ => ⟨fun _ => ⟨(od rfl), (od rfl), 31, fun _ => ⟨31, fun _ => ⟨(od rfl), (od rfl), (od rfl), (od rfl), (od rfl), (od rfl), fun _ => ⟨(od rfl), (od rfl), (od rfl), (od rfl), (od rfl), (od rfl), fun _ => ⟨(od rfl), (od rfl), (od rfl), (od rfl), (od rfl), (od rfl), nof, fun _ => ⟨nof, fun _ => (br' h (fun e23 h => h)
    (fun e23 h => ⟨fun _ => ⟨31, fun _ => ⟨(od rfl), (od rfl), (od rfl), (od rfl), (od rfl), (od rfl), fun _ => ⟨(od rfl), (od rfl), (od rfl), (od rfl), (od rfl), (od rfl), fun _ => ⟨(od rfl), (od rfl), (od rfl), (od rfl), (od rfl), (od rfl), nof, fun _ => ⟨nof, fun _ => (br' h (fun e24 h => h)
    (fun e24 h => ⟨fun _ => ⟨31, fun _ => ⟨(od rfl), (od rfl), (od rfl), (od rfl), (od rfl), (od rfl), fun _ => ⟨(od rfl), (od rfl), (od rfl), (od rfl), (od rfl), (od rfl), fun _ => ⟨(od rfl), (od rfl), (od rfl), (od rfl), (od rfl), (od rfl), nof, fun _ => ⟨fun _ => (br' h (fun e25 h => h)
    (fun e25 h => ⟨nof, fun _ => ⟨nof, fun _ => h⟩⟩)), fun e => Bool.noConfusion (show true = false from e)⟩⟩, fun e => Bool.noConfusion (show true = false from e)⟩, fun e => Bool.noConfusion (show true = false from e)⟩, fun e => Bool.noConfusion (show true = false from e)⟩, fun e => Bool.noConfusion (show true = false from e)⟩))⟩⟩, fun e => Bool.noConfusion (show true = false from e)⟩, fun e => Bool.noConfusion (show true = false from e)⟩, fun e => Bool.noConfusion (show true = false from e)⟩, fun e => Bool.noConfusion (show true = false from e)⟩))⟩⟩, fun e => Bool.noConfusion (show true = false from e)⟩, fun e => Bool.noConfusion (show true = false from e)⟩, fun e => Bool.noConfusion (show true = false from e)⟩, fun e => Bool.noConfusion (show true = false from e)⟩, fun e => Bool.noConfusion (show true = false from e)⟩⟩))⟩⟩, fun e => Bool.noConfusion (show true = false from e)⟩, fun e => Bool.noConfusion (show true = false from e)⟩, fun e => Bool.noConfusion (show true = false from e)⟩, fun e => Bool.noConfusion (show true = false from e)⟩)), fun e => Bool.noConfusion (show true = false from e)⟩⟩, fun e => Bool.noConfusion (show true = false from e)⟩, fun e => Bool.noConfusion (show true = false from e)⟩, fun e => Bool.noConfusion (show true = false from e)⟩, fun e => Bool.noConfusion (show true = false from e)⟩))⟩⟩, fun e => Bool.noConfusion (show true = false from e)⟩, fun e => Bool.noConfusion (show true = false from e)⟩, fun e => Bool.noConfusion (show true = false from e)⟩, fun e => Bool.noConfusion (show true = false from e)⟩, fun e => Bool.noConfusion (show true = false from e)⟩⟩))⟩⟩, fun e => Bool.noConfusion (show true = false from e)⟩, fun e => Bool.noConfusion (show true = false from e)⟩, fun e => Bool.noConfusion (show true = false from e)⟩, fun e => Bool.noConfusion (show true = false from e)⟩))⟩⟩, fun e => Bool.noConfusion (show true = false from e)⟩, fun e => Bool.noConfusion (show true = false from e)⟩, fun e => Bool.noConfusion (show true = false from e)⟩, fun e => Bool.noConfusion (show true = false from e)⟩)), fun e => Bool.noConfusion (show true = false from e)⟩⟩, fun e => Bool.noConfusion (show true = false from e)⟩, fun e => Bool.noConfusion (show true = false from e)⟩, fun e => Bool.noConfusion (show true = false from e)⟩, fun e => Bool.noConfusion (show true = false from e)⟩, fun e => Bool.noConfusion (show true = false from e)⟩))⟩))⟩⟩))))⟩, fun e => Bool.noConfusion (show true = false from e)⟩)
    (fun e1 h => (And.intro (fun hc => Bool.noConfusion (hc.symm.trans e1)) (fun _ => ⟨e1, fun _ => ⟨(od rfl), (od rfl), nof, fun _ => ⟨nof, fun _ => ⟨rfl, nof, fun _ => ⟨(lenOk_of 2 rfl (by decide)), (br' h (fun e27 h => h)
    (fun e27 h => ⟨(hp2 e0 e1 e27), (br' h (fun e28 h => h)
    (fun e28 h => ⟨31, fun _ => ⟨(od rfl), (od rfl), 31, fun _ => ⟨31, fun _ => ⟨(od rfl), (od rfl), (od rfl), (od rfl), (od rfl), (od rfl), fun _ => ⟨(od rfl), (od rfl), (od rfl), (od rfl), (od rfl), (od rfl), fun _ => ⟨(od rfl), (od rfl), (od rfl), (od rfl), (od rfl), (od rfl), nof, fun _ => ⟨fun _ => (br' h (fun e29 h => h)
    (fun e29 h => ⟨fun _ => ⟨31, fun _ => ⟨(od rfl), (od rfl), (od rfl), (od rfl), (od rfl), (od rfl), fun _ => ⟨(od rfl), (od rfl), (od rfl), (od rfl), (od rfl), (od rfl), fun _ => ⟨(od rfl), (od rfl), (od rfl), (od rfl), (od rfl), (od rfl), nof, fun _ => ⟨nof, fun _ => (br' h (fun e30 h => h)
    (fun e30 h => ⟨fun _ => ⟨31, fun _ => ⟨(od rfl), (od rfl), (od rfl), (od rfl), (od rfl), (od rfl), fun _ => ⟨(od rfl), (od rfl), (od rfl), (od rfl), (od rfl), (od rfl), fun _ => ⟨(od rfl), (od rfl), (od rfl), (od rfl), (od rfl), (od rfl), nof, fun _ => ⟨nof, fun _ => (br' h (fun e31 h => h)
    (fun e31 h => ⟨nof, fun _ => ⟨fun _ => ⟨(od rfl), (od rfl), 31, fun _ => ⟨31, fun _ => ⟨(od rfl), (od rfl), (od rfl), (od rfl), (od rfl), (od rfl), fun _ => ⟨(od rfl), (od rfl), (od rfl), (od rfl), (od rfl), (od rfl), fun _ => ⟨(od rfl), (od rfl), (od rfl), (od rfl), (od rfl), (od rfl), nof, fun _ => ⟨nof, fun _ => (br' h (fun e32 h => h)
    (fun e32 h => ⟨fun _ => ⟨31, fun _ => ⟨(od rfl), (od rfl), (od rfl), (od rfl), (od rfl), (od rfl), fun _ => ⟨(od rfl), (od rfl), (od rfl), (od rfl), (od rfl), (od rfl), fun _ => ⟨(od rfl), (od rfl), (od rfl), (od rfl), (od rfl), (od rfl), nof, fun _ => ⟨fun _ => (br' h (fun e33 h => h)
    (fun e33 h => ⟨fun _ => ⟨31, fun _ => ⟨(od rfl), (od rfl), (od rfl), (od rfl), (od rfl), (od rfl), fun _ => ⟨(od rfl), (od rfl), (od rfl), (od rfl), (od rfl), (od rfl), fun _ => ⟨(od rfl), (od rfl), (od rfl), (od rfl), (od rfl), (od rfl), nof, fun _ => ⟨nof, fun _ => (br' h (fun e34 h => h)
    (fun e34 h => ⟨nof, fun _ => ⟨fun _ => ⟨(od rfl), (od rfl), 31, fun _ => ⟨31, fun _ => ⟨(od rfl), (od rfl), (od rfl), (od rfl), (od rfl), (od rfl), fun _ => ⟨(od rfl), (od rfl), (od rfl), (od rfl), (od rfl), (od rfl), fun _ => ⟨(od rfl), (od rfl), (od rfl), (od rfl), (od rfl), (od rfl), nof, fun _ => ⟨nof, fun _ => (br' h (fun e35 h => h)
    (fun e35 h => ⟨fun _ => ⟨31, fun _ => ⟨(od rfl), (od rfl), (od rfl), (od rfl), (od rfl), (od rfl), fun _ => ⟨(od rfl), (od rfl), (od rfl), (od rfl), (od rfl), (od rfl), fun _ => ⟨(od rfl), (od rfl), (od rfl), (od rfl), (od rfl), (od rfl), nof, fun _ => ⟨nof, fun _ => (br' h (fun e36 h => h)
    (fun e36 h => ⟨fun _ => ⟨31, fun _ => ⟨(od rfl), (od rfl), (od rfl), (od rfl), (od rfl), (od rfl), fun _ => ⟨(od rfl), (od rfl), (od rfl), (od rfl), (od rfl), (od rfl), fun _ => ⟨(od rfl), (od rfl), (od rfl), (od rfl), (od rfl), (od rfl), nof, fun _ => ⟨fun _ => (br' h (fun e37 h => h)
    (fun e37 h => ⟨nof, fun _ => ⟨nof, fun _ => h⟩⟩)), fun e => Bool.noConfusion (show true = false from e)⟩⟩, fun e => Bool.noConfusion (show true = false from e)⟩, fun e => Bool.noConfusion (show true = false from e)⟩, fun e => Bool.noConfusion (show true = false from e)⟩, fun e => Bool.noConfusion (show true = false from e)⟩))⟩⟩, fun e => Bool.noConfusion (show true = false from e)⟩, fun e => Bool.noConfusion (show true = false from e)⟩, fun e => Bool.noConfusion (show true = false from e)⟩, fun e => Bool.noConfusion (show true = false from e)⟩))⟩⟩, fun e => Bool.noConfusion (show true = false from e)⟩, fun e => Bool.noConfusion (show true = false from e)⟩, fun e => Bool.noConfusion (show true = false from e)⟩, fun e => Bool.noConfusion (show true = false from e)⟩, fun e => Bool.noConfusion (show true = false from e)⟩⟩))⟩⟩, fun e => Bool.noConfusion (show true = false from e)⟩, fun e => Bool.noConfusion (show true = false from e)⟩, fun e => Bool.noConfusion (show true = false from e)⟩, fun e => Bool.noConfusion (show true = false from e)⟩)), fun e => Bool.noConfusion (show true = false from e)⟩⟩, fun e => Bool.noConfusion (show true = false from e)⟩, fun e => Bool.noConfusion (show true = false from e)⟩, fun e => Bool.noConfusion (show true = false from e)⟩, fun e => Bool.noConfusion (show true = false from e)⟩))⟩⟩, fun e => Bool.noConfusion (show true = false from e)⟩, fun e => Bool.noConfusion (show true = false from e)⟩, fun e => Bool.noConfusion (show true = false from e)⟩, fun e => Bool.noConfusion (show true = false from e)⟩, fun e => Bool.noConfusion (show true = false from e)⟩⟩))⟩⟩, fun e => Bool.noConfusion (show true = false from e)⟩, fun e => Bool.noConfusion (show true = false from e)⟩, fun e => Bool.noConfusion (show true = false from e)⟩, fun e => Bool.noConfusion (show true = false from e)⟩))⟩⟩, fun e => Bool.noConfusion (show true = false from e)⟩, fun e => Bool.noConfusion (show true = false from e)⟩, fun e => Bool.noConfusion (show true = false from e)⟩, fun e => Bool.noConfusion (show true = false from e)⟩)), fun e => Bool.noConfusion (show true = false from e)⟩⟩, fun e => Bool.noConfusion (show true = false from e)⟩, fun e => Bool.noConfusion (show true = false from e)⟩, fun e => Bool.noConfusion (show true = false from e)⟩, fun e => Bool.noConfusion (show true = false from e)⟩, fun e => Bool.noConfusion (show true = false from e)⟩))⟩))⟩⟩⟩⟩, fun e => Bool.noConfusion (show true = false from e)⟩))))⟩, fun e => Bool.noConfusion (show true = false from e)⟩)
    (fun e0 h => (And.intro (fun hc => Bool.noConfusion (hc.symm.trans e0)) (fun _ => ⟨e0, fun _ => ⟨(od rfl), (od rfl), nof, fun _ => ⟨nof, fun _ => ⟨rfl, fun _ => ⟨(od rfl), (od rfl), nof, fun _ => ⟨nof, fun _ => ⟨rfl, nof, fun _ => ⟨(lenOk_of 2 rfl (by decide)), (br' h (fun e39 h => h)
    (fun e39 h => ⟨(hp3 e0 e39), (br' h (fun e40 h => h)
    (fun e40 h => ⟨31, fun _ => ⟨(od rfl), (od rfl), 31, fun _ => ⟨31, fun _ => ⟨(od rfl), (od rfl), (od rfl), (od rfl), (od rfl), (od rfl), fun _ => ⟨(od rfl), (od rfl), (od rfl), (od rfl), (od rfl), (od rfl), fun _ => ⟨(od rfl), (od rfl), (od rfl), (od rfl), (od rfl), (od rfl), nof, fun _ => ⟨fun _ => (br' h (fun e41 h => h)
    (fun e41 h => ⟨fun _ => ⟨31, fun _ => ⟨(od rfl), (od rfl), (od rfl), (od rfl), (od rfl), (od rfl), fun _ => ⟨(od rfl), (od rfl), (od rfl), (od rfl), (od rfl), (od rfl), fun _ => ⟨(od rfl), (od rfl), (od rfl), (od rfl), (od rfl), (od rfl), nof, fun _ => ⟨nof, fun _ => (br' h (fun e42 h => h)
    (fun e42 h => ⟨fun _ => ⟨31, fun _ => ⟨(od rfl), (od rfl), (od rfl), (od rfl), (od rfl), (od rfl), fun _ => ⟨(od rfl), (od rfl), (od rfl), (od rfl), (od rfl), (od rfl), fun _ => ⟨(od rfl), (od rfl), (od rfl), (od rfl), (od rfl), (od rfl), nof, fun _ => ⟨nof, fun _ => (br' h (fun e43 h => h)
    (fun e43 h => ⟨nof, fun _ => ⟨fun _ => ⟨(od rfl), (od rfl), 31, fun _ => ⟨31, fun _ => ⟨(od rfl), (od rfl), (od rfl), (od rfl), (od rfl), (od rfl), fun _ => ⟨(od rfl), (od rfl), (od rfl), (od rfl), (od rfl), (od rfl), fun _ => ⟨(od rfl), (od rfl), (od rfl), (od rfl), (od rfl), (od rfl), nof, fun _ => ⟨nof, fun _ => (br' h (fun e44 h => h)
    (fun e44 h => ⟨fun _ => ⟨31, fun _ => ⟨(od rfl), (od rfl), (od rfl), (od rfl), (od rfl), (od rfl), fun _ => ⟨(od rfl), (od rfl), (od rfl), (od rfl), (od rfl), (od rfl), fun _ => ⟨(od rfl), (od rfl), (od rfl), (od rfl), (od rfl), (od rfl), nof, fun _ => ⟨fun _ => (br' h (fun e45 h => h)
    (fun e45 h => ⟨fun _ => ⟨31, fun _ => ⟨(od rfl), (od rfl), (od rfl), (od rfl), (od rfl), (od rfl), fun _ => ⟨(od rfl), (od rfl), (od rfl), (od rfl), (od rfl), (od rfl), fun _ => ⟨(od rfl), (od rfl), (od rfl), (od rfl), (od rfl), (od rfl), nof, fun _ => ⟨nof, fun _ => (br' h (fun e46 h => h)
    (fun e46 h => ⟨nof, fun _ => ⟨fun _ => ⟨(od rfl), (od rfl), 31, fun _ => ⟨31, fun _ => ⟨(od rfl), (od rfl), (od rfl), (od rfl), (od rfl), (od rfl), fun _ => ⟨(od rfl), (od rfl), (od rfl), (od rfl), (od rfl), (od rfl), fun _ => ⟨(od rfl), (od rfl), (od rfl), (od rfl), (od rfl), (od rfl), nof, fun _ => ⟨nof, fun _ => (br' h (fun e47 h => h)
    (fun e47 h => ⟨fun _ => ⟨31, fun _ => ⟨(od rfl), (od rfl), (od rfl), (od rfl), (od rfl), (od rfl), fun _ => ⟨(od rfl), (od rfl), (od rfl), (od rfl), (od rfl), (od rfl), fun _ => ⟨(od rfl), (od rfl), (od rfl), (od rfl), (od rfl), (od rfl), nof, fun _ => ⟨nof, fun _ => (br' h (fun e48 h => h)
    (fun e48 h => ⟨fun _ => ⟨31, fun _ => ⟨(od rfl), (od rfl), (od rfl), (od rfl), (od rfl), (od rfl), fun _ => ⟨(od rfl), (od rfl), (od rfl), (od rfl), (od rfl), (od rfl), fun _ => ⟨(od rfl), (od rfl), (od rfl), (od rfl), (od rfl), (od rfl), nof, fun _ => ⟨fun _ => (br' h (fun e49 h => h)
    (fun e49 h => ⟨nof, fun _ => ⟨nof, fun _ => h⟩⟩)), fun e => Bool.noConfusion (show true = false from e)⟩⟩, fun e => Bool.noConfusion (show true = false from e)⟩, fun e => Bool.noConfusion (show true = false from e)⟩, fun e => Bool.noConfusion (show true = false from e)⟩, fun e => Bool.noConfusion (show true = false from e)⟩))⟩⟩, fun e => Bool.noConfusion (show true = false from e)⟩, fun e => Bool.noConfusion (show true = false from e)⟩, fun e => Bool.noConfusion (show true = false from e)⟩, fun e => Bool.noConfusion (show true = false from e)⟩))⟩⟩, fun e => Bool.noConfusion (show true = false from e)⟩, fun e => Bool.noConfusion (show true = false from e)⟩, fun e => Bool.noConfusion (show true = false from e)⟩, fun e => Bool.noConfusion (show true = false from e)⟩, fun e => Bool.noConfusion (show true = false from e)⟩⟩))⟩⟩, fun e => Bool.noConfusion (show true = false from e)⟩, fun e => Bool.noConfusion (show true = false from e)⟩, fun e => Bool.noConfusion (show true = false from e)⟩, fun e => Bool.noConfusion (show true = false from e)⟩)), fun e => Bool.noConfusion (show true = false from e)⟩⟩, fun e => Bool.noConfusion (show true = false from e)⟩, fun e => Bool.noConfusion (show true = false from e)⟩, fun e => Bool.noConfusion (show true = false from e)⟩, fun e => Bool.noConfusion (show true = false from e)⟩))⟩⟩, fun e => Bool.noConfusion (show true = false from e)⟩, fun e => Bool.noConfusion (show true = false from e)⟩, fun e => Bool.noConfusion (show true = false from e)⟩, fun e => Bool.noConfusion (show true = false from e)⟩, fun e => Bool.noConfusion (show true = false from e)⟩⟩))⟩⟩, fun e => Bool.noConfusion (show true = false from e)⟩, fun e => Bool.noConfusion (show true = false from e)⟩, fun e => Bool.noConfusion (show true = false from e)⟩, fun e => Bool.noConfusion (show true = false from e)⟩))⟩⟩, fun e => Bool.noConfusion (show true = false from e)⟩, fun e => Bool.noConfusion (show true = false from e)⟩, fun e => Bool.noConfusion (show true = false from e)⟩, fun e => Bool.noConfusion (show true = false from e)⟩)), fun e => Bool.noConfusion (show true = false from e)⟩⟩, fun e => Bool.noConfusion (show true = false from e)⟩, fun e => Bool.noConfusion (show true = false from e)⟩, fun e => Bool.noConfusion (show true = false from e)⟩, fun e => Bool.noConfusion (show true = false from e)⟩, fun e => Bool.noConfusion (show true = false from e)⟩))⟩))⟩⟩⟩⟩, fun e => Bool.noConfusion (show true = false from e)⟩⟩⟩, fun e => Bool.noConfusion (show true = false from e)⟩))))⟩, fun e => Bool.noConfusion (show true = false from e)⟩
theorem w_range (a : Int) : -9223372036854775808 ≤ IntKind.i64.wrap a ∧ IntKind.i64.wrap a ≤ 9223372036854775807 := by rw [w_def]; omega
theorem w_sub0 (a b : Int) : (IntKind.i64.wrap (IntKind.i64.wrap a - IntKind.i64.wrap b) != 0) = (IntKind.i64.wrap a != IntKind.i64.wrap b) := by
  have h1 := w_range a
  have h2 := w_range b
  generalize IntKind.i64.wrap a = x at *
  generalize IntKind.i64.wrap b = y at *
  by_cases h : x = y
  · subst h; rw [Int.sub_self]; simp; rfl
  · have : IntKind.i64.wrap (x - y) ≠ 0 := by rw [w_def]; omega
    rw [bne_iff_ne.2 this, bne_iff_ne.2 h]
theorem tx_con3 (a b c : Int) : s_slices_ContainsFuncint_int__counts_CheckInverse_1 (a :: b :: c :: []) () = !(cond (cond (s_counts_within a (-1000000000) 1000000000) (s_counts_within b (-1000000000) 1000000000) false) (s_counts_within c (-1000000000) 1000000000) false) := by
  show decide (sp_big 0 [a, b, c] ≥ 0) = _
  have e : ∀ x, s_counts_CheckInverse_1 x = !s_counts_within x (-1000000000) 1000000000 := fun _ => rfl
  simp only [sp_big, e]
  by_cases ha : s_counts_within a (-1000000000) 1000000000 = true <;> by_cases hb : s_counts_within b (-1000000000) 1000000000 = true <;> by_cases hc : s_counts_within c (-1000000000) 1000000000 = true <;> simp [ha, hb, hc]
/-- The check of an inverse of valid rules. -/
def v_chk (m : M3) (x : CI) : Int × Int :=
  cond (!(s_counts_within x.2 1 1000000000)) (0, 2)
  (cond (s_slices_ContainsFuncint_int__counts_CheckInverse_1 (x.1.1.1 :: x.1.1.2.1 :: x.1.1.2.2 :: []) ()) (0, 2)
  (cond (s_slices_ContainsFuncint_int__counts_CheckInverse_1 (x.1.2.1.1 :: x.1.2.1.2.1 :: x.1.2.1.2.2 :: []) ()) (0, 2)
  (cond (s_slices_ContainsFuncint_int__counts_CheckInverse_1 (x.1.2.2.1 :: x.1.2.2.2.1 :: x.1.2.2.2.2 :: []) ()) (0, 2)
  (cond (v_div x != 1) (0, 3)
  (cond (IntKind.i64.wrap (IntKind.i64.wrap (IntKind.i64.wrap (0 + IntKind.i64.wrap (x.1.1.1 * m.1.1)) + IntKind.i64.wrap (x.1.1.2.1 * m.2.1.1)) + IntKind.i64.wrap (x.1.1.2.2 * m.2.2.1)) != IntKind.i64.wrap (1000 * x.2)) (0, 19)
  (cond (IntKind.i64.wrap (IntKind.i64.wrap (IntKind.i64.wrap (0 + IntKind.i64.wrap (x.1.1.1 * m.1.2.1)) + IntKind.i64.wrap (x.1.1.2.1 * m.2.1.2.1)) + IntKind.i64.wrap (x.1.1.2.2 * m.2.2.2.1)) != 0) (0, 19)
  (cond (IntKind.i64.wrap (IntKind.i64.wrap (IntKind.i64.wrap (0 + IntKind.i64.wrap (x.1.1.1 * m.1.2.2)) + IntKind.i64.wrap (x.1.1.2.1 * m.2.1.2.2)) + IntKind.i64.wrap (x.1.1.2.2 * m.2.2.2.2)) != 0) (0, 19)
  (cond (IntKind.i64.wrap (IntKind.i64.wrap (IntKind.i64.wrap (0 + IntKind.i64.wrap (x.1.2.1.1 * m.1.1)) + IntKind.i64.wrap (x.1.2.1.2.1 * m.2.1.1)) + IntKind.i64.wrap (x.1.2.1.2.2 * m.2.2.1)) != 0) (1, 19)
  (cond (IntKind.i64.wrap (IntKind.i64.wrap (IntKind.i64.wrap (0 + IntKind.i64.wrap (x.1.2.1.1 * m.1.2.1)) + IntKind.i64.wrap (x.1.2.1.2.1 * m.2.1.2.1)) + IntKind.i64.wrap (x.1.2.1.2.2 * m.2.2.2.1)) != IntKind.i64.wrap (1000 * x.2)) (1, 19)
  (cond (IntKind.i64.wrap (IntKind.i64.wrap (IntKind.i64.wrap (0 + IntKind.i64.wrap (x.1.2.1.1 * m.1.2.2)) + IntKind.i64.wrap (x.1.2.1.2.1 * m.2.1.2.2)) + IntKind.i64.wrap (x.1.2.1.2.2 * m.2.2.2.2)) != 0) (1, 19)
  (cond (IntKind.i64.wrap (IntKind.i64.wrap (IntKind.i64.wrap (0 + IntKind.i64.wrap (x.1.2.2.1 * m.1.1)) + IntKind.i64.wrap (x.1.2.2.2.1 * m.2.1.1)) + IntKind.i64.wrap (x.1.2.2.2.2 * m.2.2.1)) != 0) (2, 19)
  (cond (IntKind.i64.wrap (IntKind.i64.wrap (IntKind.i64.wrap (0 + IntKind.i64.wrap (x.1.2.2.1 * m.1.2.1)) + IntKind.i64.wrap (x.1.2.2.2.1 * m.2.1.2.1)) + IntKind.i64.wrap (x.1.2.2.2.2 * m.2.2.2.1)) != 0) (2, 19)
  (cond (IntKind.i64.wrap (IntKind.i64.wrap (IntKind.i64.wrap (0 + IntKind.i64.wrap (x.1.2.2.1 * m.1.2.2)) + IntKind.i64.wrap (x.1.2.2.2.1 * m.2.1.2.2)) + IntKind.i64.wrap (x.1.2.2.2.2 * m.2.2.2.2)) != IntKind.i64.wrap (1000 * x.2)) (2, 19)
  (0, 0))))))))))))))
theorem tx_right {x : CI} (h1 : s_counts_within x.2 1 1000000000 = true) (h2 : s_slices_ContainsFuncint_int__counts_CheckInverse_1 (x.1.1.1 :: x.1.1.2.1 :: x.1.1.2.2 :: []) () = false) (h3 : s_slices_ContainsFuncint_int__counts_CheckInverse_1 (x.1.2.1.1 :: x.1.2.1.2.1 :: x.1.2.1.2.2 :: []) () = false) (h4 : s_slices_ContainsFuncint_int__counts_CheckInverse_1 (x.1.2.2.1 :: x.1.2.2.2.1 :: x.1.2.2.2.2 :: []) () = false) : v_ci x := by
  rw [tx_con3, Bool.not_eq_false'] at h2 h3 h4
  obtain ⟨h2, a2⟩ := tx_and h2
  obtain ⟨a0, a1⟩ := tx_and h2
  obtain ⟨h3, b2⟩ := tx_and h3
  obtain ⟨b0, b1⟩ := tx_and h3
  obtain ⟨h4, c2⟩ := tx_and h4
  obtain ⟨c0, c1⟩ := tx_and h4
  rw [tx_within] at *
  exact ⟨⟨by unfold v_in; omega, by unfold v_in; omega, by unfold v_in; omega⟩, ⟨by unfold v_in; omega, by unfold v_in; omega, by unfold v_in; omega⟩, ⟨by unfold v_in; omega, by unfold v_in; omega, by unfold v_in; omega⟩, by omega⟩
abbrev t_counts_CheckInverse (p0 : CR) (p1 : CI) : Int × Int := cond ((s_counts_CheckRules p0).2 != 0) (0, (s_counts_CheckRules p0).2) (v_chk p0.2.2.2.2.2.2.2.1 p1)
abbrev qre_counts_CheckInverse (_ : CR) (_ : CI) : List Prop := []
theorem pp_counts_CheckInverse (p0 : CR) (p1 : CI) (_ : ∀ p ∈ qre_counts_CheckInverse p0 p1, p) : ∀ p ∈ pre_counts_CheckInverse p0 p1, p := by
  intro p hp
  simp only [pre_counts_CheckInverse, List.mem_cons, List.not_mem_nil, or_false] at hp
  rcases hp with rfl | rfl | rfl | rfl
  · intro _ _ _ h
    obtain ⟨_, h⟩ := tx_first0 (bne0 h)
    obtain ⟨h, _⟩ := tx_first0 h
    obtain ⟨h, h4⟩ := tx_and (tx_unless0 (by decide) h)
    obtain ⟨h, h3⟩ := tx_and h
    obtain ⟨h1, h2⟩ := tx_and h
    exact tx_right h1 (by simpa using h2) (by simpa using h3) (by simpa using h4)
  all_goals
    intros
    rename_i h
    obtain ⟨_, h⟩ := tx_first0 (bne0 h)
    obtain ⟨h, _⟩ := tx_first0 h
    cases h
theorem tt_counts_CheckInverse (p0 : CR) (p1 : CI) (_ : ∀ p ∈ qre_counts_CheckInverse p0 p1, p) : s_counts_CheckInverse p0 p1 = t_counts_CheckInverse p0 p1 := by
  unfold s_counts_CheckInverse t_counts_CheckInverse v_chk
  simp only [w_sub0]
  have e : ∀ b : Bool, s_counts_first ((s_counts_CheckRules p0).2 :: s_counts_unless b 2 :: []) = cond ((s_counts_CheckRules p0).2 != 0) (s_counts_CheckRules p0).2 (cond b 0 2) := by
    intro b
    show (if (s_counts_CheckRules p0).2 = 0 then _ else _) = _
    by_cases h : (s_counts_CheckRules p0).2 = 0
    · rw [if_pos h, h]; cases b <;> rfl
    · rw [if_neg h, show ((s_counts_CheckRules p0).2 != 0) = true from bne_iff_ne.2 h]; rfl
  simp only [e]
  rcases hE : ((s_counts_CheckRules p0).2 != 0) with _ | _ <;> cases s_counts_within p1.2 1 1000000000 <;> cases s_slices_ContainsFuncint_int__counts_CheckInverse_1 (p1.1.1.1 :: p1.1.1.2.1 :: p1.1.1.2.2 :: []) () <;> cases s_slices_ContainsFuncint_int__counts_CheckInverse_1 (p1.1.2.1.1 :: p1.1.2.1.2.1 :: p1.1.2.1.2.2 :: []) () <;> cases s_slices_ContainsFuncint_int__counts_CheckInverse_1 (p1.1.2.2.1 :: p1.1.2.2.2.1 :: p1.1.2.2.2.2 :: []) () <;> simp only [hE, cond_true, cond_false, Bool.not_true, Bool.not_false] <;> first | rfl | (rw [hE]; rfl)

abbrev con_counts_CheckInverse : Con := ⟨P_counts_CheckInverse, R_counts_CheckInverse, fun x => qre_counts_CheckInverse x.1 x.2, fun x => t_counts_CheckInverse x.1 x.2⟩
theorem ok_counts_CheckInverse : ConOk Try.prog 63 con_counts_CheckInverse := ⟨k_counts_CheckInverse, fun x hx => ret_tf (ps := P_counts_CheckInverse) (rs := R_counts_CheckInverse) (x := x) (y := t_counts_CheckInverse x.1 x.2) e_counts_CheckInverse hC_counts_CheckInverse (tf_of (w_counts_CheckInverse_eq x.1 x.2 (fun z => z = t_counts_CheckInverse x.1 x.2)) (d_counts_CheckInverse x.1 x.2 (fun z => z = t_counts_CheckInverse x.1 x.2) (pp_counts_CheckInverse x.1 x.2 hx) (tt_counts_CheckInverse x.1 x.2 hx)))⟩
/- ref06_ValueErr -/
def C_ref06_ValueErr : Cons := [(40, [], con_base_Within)]
theorem hC_ref06_ValueErr : ConsOk Try.prog C_ref06_ValueErr := ConsOk.cons ok_base_Within <| ConsOk.nil
def w_ref06_ValueErr (p0 : (Int × Int)) (K : Int → Prop) : Prop :=
  ((((!(s_base_Within p0.1 (-1000000000 : Int) (1000000000 : Int))) = false) →
  ((!(s_base_Within p0.1 (-1000000000 : Int) (1000000000 : Int))) = (!(s_base_Within p0.1 (-1000000000 : Int) (1000000000 : Int))))) ∧
  ((((!(s_base_Within p0.1 (-1000000000 : Int) (1000000000 : Int))) = false) →
  ((!(s_base_Within p0.1 (-1000000000 : Int) (1000000000 : Int))) = (!(s_base_Within p0.1 (-1000000000 : Int) (1000000000 : Int))))) ∧
  ((((!(s_base_Within p0.1 (-1000000000 : Int) (1000000000 : Int))) = false) →
  ((!(s_base_Within p0.1 (-1000000000 : Int) (1000000000 : Int))) = (!(s_base_Within p0.1 (-1000000000 : Int) (1000000000 : Int))))) ∧
  (((!(s_base_Within p0.1 (-1000000000 : Int) (1000000000 : Int))) = (!(s_base_Within p0.1 (-1000000000 : Int) (1000000000 : Int)))) ∧
  ((((cond (!(s_base_Within p0.1 (-1000000000 : Int) (1000000000 : Int))) true (!(s_base_Within p0.2 (-1000000000 : Int) (1000000000 : Int)))) = true) →
  (K (2 : Int))) ∧
  (((cond (!(s_base_Within p0.1 (-1000000000 : Int) (1000000000 : Int))) true (!(s_base_Within p0.2 (-1000000000 : Int) (1000000000 : Int)))) = false) →
  ((((decide (p0.1 > p0.2)) = true) →
    (K (9 : Int))) ∧
    (((decide (p0.1 > p0.2)) = false) →
    (K (0 : Int))))))))))
set_option maxHeartbeats 4000000 in
theorem w_ref06_ValueErr_eq (p0 : (Int × Int)) (K : Int → Prop) : tfn F_ref06_ValueErr A_ref06_ValueErr C_ref06_ValueErr P_ref06_ValueErr R_ref06_ValueErr p0 K = w_ref06_ValueErr p0 K := by kernel_rfl
def s_ref06_ValueErr (p0 : (Int × Int)) : Int :=
  (cond (cond (!(s_base_Within p0.1 (-1000000000 : Int) (1000000000 : Int))) true (!(s_base_Within p0.2 (-1000000000 : Int) (1000000000 : Int)))) (2 : Int)
    (cond (decide (p0.1 > p0.2)) (9 : Int)
    (0 : Int)))
abbrev pre_ref06_ValueErr (p0 : (Int × Int)) : List Prop := []
set_option maxHeartbeats 4000000 in
theorem d_ref06_ValueErr (p0 : (Int × Int)) (K : Int → Prop) (hp : ∀ p ∈ pre_ref06_ValueErr p0, p) (h : K (s_ref06_ValueErr p0)) : w_ref06_ValueErr p0 K := by
  unfold w_ref06_ValueErr
  unfold s_ref06_ValueErr at h
  exact ⟨rf, rf, rf, rfl, (br' h (fun e0 h => h)
    (fun e0 h => (br' h (fun e1 h => h)
    (fun e1 h => h))))⟩
abbrev t_ref06_ValueErr (p0 : Int × Int) : Int := s_counts_valueErr p0
abbrev qre_ref06_ValueErr (_ : Int × Int) : List Prop := []
theorem pp_ref06_ValueErr (p0 : Int × Int) (_ : ∀ p ∈ qre_ref06_ValueErr p0, p) : ∀ p ∈ pre_ref06_ValueErr p0, p := by
  intro p hp
  simp only [pre_ref06_ValueErr, List.not_mem_nil] at hp
theorem tt_ref06_ValueErr (p0 : Int × Int) (_ : ∀ p ∈ qre_ref06_ValueErr p0, p) : s_ref06_ValueErr p0 = t_ref06_ValueErr p0 := by
  have e : t_ref06_ValueErr p0 = s_counts_first (s_counts_unless (cond (s_counts_within p0.1 (-1000000000) 1000000000) (s_counts_within p0.2 (-1000000000) 1000000000) false) 2 :: s_counts_unless (decide (p0.1 ≤ p0.2)) 9 :: []) := rfl
  rw [e]
  unfold s_ref06_ValueErr
  rw [tx_err _ _ _ (by decide), tx_err _ _ _ (by decide), tx_eqw, tx_eqw]
  have e1 : decide (p0.1 ≤ p0.2) = !decide (p0.1 > p0.2) := by by_cases h : p0.1 > p0.2 <;> simp [h] <;> omega
  rw [e1]
  cases s_counts_within p0.1 (-1000000000) 1000000000 <;> cases s_counts_within p0.2 (-1000000000) 1000000000 <;> cases decide (p0.1 > p0.2) <;> rfl

abbrev con_ref06_ValueErr : Con := ⟨P_ref06_ValueErr, R_ref06_ValueErr, fun x => qre_ref06_ValueErr x, fun x => t_ref06_ValueErr x⟩
theorem ok_ref06_ValueErr : ConOk Try.prog 64 con_ref06_ValueErr := ⟨k_ref06_ValueErr, fun x hx => ret_tf (ps := P_ref06_ValueErr) (rs := R_ref06_ValueErr) (x := x) (y := t_ref06_ValueErr x) e_ref06_ValueErr hC_ref06_ValueErr (tf_of (w_ref06_ValueErr_eq x (fun z => z = t_ref06_ValueErr x)) (d_ref06_ValueErr x (fun z => z = t_ref06_ValueErr x) (pp_ref06_ValueErr x hx) (tt_ref06_ValueErr x hx)))⟩
/- counts_openValues -/
def C_counts_openValues : Cons := [(82, [], con_counts_open), (80, [], con_counts_valueErr), (77, [], con_counts_first)]
theorem hC_counts_openValues : ConsOk Try.prog C_counts_openValues := ConsOk.cons ok_counts_open <| ConsOk.cons ok_counts_valueErr <| ConsOk.cons ok_counts_first <| ConsOk.nil
def w_counts_openValues (p0 : CR) (p1 : R3) (K : (CR × Int) → Prop) : Prop :=
  (∃ n0, (loopP (fun (y1 : (Int × Int)) k2 =>
    ((((decide (y1.1 < (3 : Int))) = true) →
    (((0 : Int) ≤ y1.1) ∧
      ((y1.1 < (3 : Int)) ∧
      ((lenOk (y1.2 :: ((s_counts_valueErr ((List.getD (p1.1.1 :: (p1.2.1.1 :: (p1.2.2.1 :: ([] : List Int)))) (Int.toNat y1.1) (0 : Int)), (List.getD (p1.1.2 :: (p1.2.1.2 :: (p1.2.2.2 :: ([] : List Int)))) (Int.toNat y1.1) (0 : Int)))) :: ([] : List Int)))) ∧
      (k2 ((Go.IntKind.wrap .i64 (y1.1 + (1 : Int))), (s_counts_first (y1.2 :: ((s_counts_valueErr ((List.getD (p1.1.1 :: (p1.2.1.1 :: (p1.2.2.1 :: ([] : List Int)))) (Int.toNat y1.1) (0 : Int)), (List.getD (p1.1.2 :: (p1.2.1.2 :: (p1.2.2.2 :: ([] : List Int)))) (Int.toNat y1.1) (0 : Int)))) :: ([] : List Int)))))))))) ∧
    (((decide (y1.1 < (3 : Int))) = false) →
    (K (p0, y1.2))))) n0 ((0 : Int), (s_counts_CheckRules p0).2)))
set_option maxHeartbeats 4000000 in
theorem w_counts_openValues_eq (p0 : CR) (p1 : R3) (K : (CR × Int) → Prop) : tfn F_counts_openValues A_counts_openValues C_counts_openValues P_counts_openValues R_counts_openValues (p0, p1) K = w_counts_openValues p0 p1 K := by kernel_rfl
def s_counts_openValues (p0 : CR) (p1 : R3) : (CR × Int) :=
  (p0, (s_counts_first ((s_counts_first ((s_counts_first ((s_counts_CheckRules p0).2 :: ((s_counts_valueErr p1.1) :: ([] : List Int)))) :: ((s_counts_valueErr p1.2.1) :: ([] : List Int)))) :: ((s_counts_valueErr p1.2.2) :: ([] : List Int)))))
abbrev pre_counts_openValues (p0 : CR) (p1 : R3) : List Prop := []
set_option maxHeartbeats 4000000 in
theorem d_counts_openValues (p0 : CR) (p1 : R3) (K : (CR × Int) → Prop) (hp : ∀ p ∈ pre_counts_openValues p0 p1, p) (h : K (s_counts_openValues p0 p1)) : w_counts_openValues p0 p1 K := by
  unfold w_counts_openValues
  unfold s_counts_openValues at h
  exact ⟨31, fun _ => ⟨(od rfl), (od rfl), (lenOk_of 2 rfl (by decide)), fun _ => ⟨(od rfl), (od rfl), (lenOk_of 2 rfl (by decide)), fun _ => ⟨(od rfl), (od rfl), (lenOk_of 2 rfl (by decide)), nof, fun _ => h⟩, fun e => Bool.noConfusion (show true = false from e)⟩, fun e => Bool.noConfusion (show true = false from e)⟩, fun e => Bool.noConfusion (show true = false from e)⟩
/-- The error of three values. -/
def v_vals (l : R3) : Int := s_counts_first (s_counts_valueErr l.1 :: s_counts_valueErr l.2.1 :: s_counts_valueErr l.2.2 :: [])
theorem tx_first_cons (x : Int) (l : List Int) : s_counts_first (x :: l) = cond (x != 0) x (s_counts_first l) := by
  show (if x = 0 then s_counts_first l else x) = _
  by_cases h : x = 0
  · subst h; rfl
  · rw [if_neg h, show (x != 0) = true from bne_iff_ne.2 h]; rfl
theorem tx_self (x : Int) : cond (x != 0) x 0 = x := by
  by_cases h : x = 0
  · subst h; rfl
  · rw [bne_iff_ne.2 h]; rfl
theorem tx_assoc (x y z : Int) : cond (cond (x != 0) x y != 0) (cond (x != 0) x y) z = cond (x != 0) x (cond (y != 0) y z) := by
  by_cases h : x = 0
  · subst h; rfl
  · rw [show (x != 0) = true from bne_iff_ne.2 h]
    show cond (x != 0) x z = x
    rw [bne_iff_ne.2 h]; rfl
abbrev t_counts_openValues (p0 : CR) (p1 : R3) : CR × Int := (p0, cond ((s_counts_CheckRules p0).2 != 0) (s_counts_CheckRules p0).2 (v_vals p1))
abbrev qre_counts_openValues (_ : CR) (_ : R3) : List Prop := []
theorem pp_counts_openValues (p0 : CR) (p1 : R3) (_ : ∀ p ∈ qre_counts_openValues p0 p1, p) : ∀ p ∈ pre_counts_openValues p0 p1, p := by
  intro p hp
  simp only [pre_counts_openValues, List.not_mem_nil] at hp
theorem tt_counts_openValues (p0 : CR) (p1 : R3) (_ : ∀ p ∈ qre_counts_openValues p0 p1, p) : s_counts_openValues p0 p1 = t_counts_openValues p0 p1 := by
  unfold s_counts_openValues t_counts_openValues v_vals
  have z : s_counts_first [] = 0 := rfl
  simp only [tx_first_cons, z, tx_self, tx_assoc]

abbrev con_counts_openValues : Con := ⟨P_counts_openValues, R_counts_openValues, fun x => qre_counts_openValues x.1 x.2, fun x => t_counts_openValues x.1 x.2⟩
theorem ok_counts_openValues : ConOk Try.prog 97 con_counts_openValues := ⟨k_counts_openValues, fun x hx => ret_tf (ps := P_counts_openValues) (rs := R_counts_openValues) (x := x) (y := t_counts_openValues x.1 x.2) e_counts_openValues hC_counts_openValues (tf_of (w_counts_openValues_eq x.1 x.2 (fun z => z = t_counts_openValues x.1 x.2)) (d_counts_openValues x.1 x.2 (fun z => z = t_counts_openValues x.1 x.2) (pp_counts_openValues x.1 x.2 hx) (tt_counts_openValues x.1 x.2 hx)))⟩
/- counts_times -/
def C_counts_times : Cons := []
theorem hC_counts_times : ConsOk Try.prog C_counts_times := ConsOk.nil
def w_counts_times (p0 : (Int × Int)) (p1 : Int) (K : (Int × Int) → Prop) : Prop :=
  ((((decide (p1 < (0 : Int))) = true) →
  (K ((Go.IntKind.wrap .i64 (p1 * p0.2)), (Go.IntKind.wrap .i64 (p1 * p0.1))))) ∧
  (((decide (p1 < (0 : Int))) = false) →
  (K ((Go.IntKind.wrap .i64 (p1 * p0.1)), (Go.IntKind.wrap .i64 (p1 * p0.2))))))
set_option maxHeartbeats 4000000 in
theorem w_counts_times_eq (p0 : (Int × Int)) (p1 : Int) (K : (Int × Int) → Prop) : tfn F_counts_times A_counts_times C_counts_times P_counts_times R_counts_times (p0, p1) K = w_counts_times p0 p1 K := by kernel_rfl
def s_counts_times (p0 : (Int × Int)) (p1 : Int) : (Int × Int) :=
  (cond (decide (p1 < (0 : Int))) ((Go.IntKind.wrap .i64 (p1 * p0.2)), (Go.IntKind.wrap .i64 (p1 * p0.1)))
    ((Go.IntKind.wrap .i64 (p1 * p0.1)), (Go.IntKind.wrap .i64 (p1 * p0.2))))
abbrev pre_counts_times (p0 : (Int × Int)) (p1 : Int) : List Prop := []
set_option maxHeartbeats 4000000 in
theorem d_counts_times (p0 : (Int × Int)) (p1 : Int) (K : (Int × Int) → Prop) (hp : ∀ p ∈ pre_counts_times p0 p1, p) (h : K (s_counts_times p0 p1)) : w_counts_times p0 p1 K := by
  unfold w_counts_times
  unfold s_counts_times at h
  exact (br' h (fun e0 h => h)
    (fun e0 h => h))
abbrev con_counts_times : Con := ⟨P_counts_times, R_counts_times, fun x => pre_counts_times x.1 x.2, fun x => s_counts_times x.1 x.2⟩
theorem ok_counts_times : ConOk Try.prog 119 con_counts_times := ⟨k_counts_times, fun x hx => ret_tf (ps := P_counts_times) (rs := R_counts_times) (x := x) (y := s_counts_times x.1 x.2) e_counts_times hC_counts_times (tf_of (w_counts_times_eq x.1 x.2 (fun z => z = s_counts_times x.1 x.2)) (d_counts_times x.1 x.2 (fun z => z = s_counts_times x.1 x.2) hx rfl))⟩
/- counts_sum -/
def C_counts_sum : Cons := []
theorem hC_counts_sum : ConsOk Try.prog C_counts_sum := ConsOk.nil
def w_counts_sum (p0 : (Int × Int)) (p1 : (Int × Int)) (K : (Int × Int) → Prop) : Prop :=
  (K ((Go.IntKind.wrap .i64 (p0.1 + p1.1)), (Go.IntKind.wrap .i64 (p0.2 + p1.2))))
set_option maxHeartbeats 4000000 in
theorem w_counts_sum_eq (p0 : (Int × Int)) (p1 : (Int × Int)) (K : (Int × Int) → Prop) : tfn F_counts_sum A_counts_sum C_counts_sum P_counts_sum R_counts_sum (p0, p1) K = w_counts_sum p0 p1 K := by kernel_rfl
def s_counts_sum (p0 : (Int × Int)) (p1 : (Int × Int)) : (Int × Int) :=
  ((Go.IntKind.wrap .i64 (p0.1 + p1.1)), (Go.IntKind.wrap .i64 (p0.2 + p1.2)))
abbrev pre_counts_sum (p0 : (Int × Int)) (p1 : (Int × Int)) : List Prop := []
set_option maxHeartbeats 4000000 in
theorem d_counts_sum (p0 : (Int × Int)) (p1 : (Int × Int)) (K : (Int × Int) → Prop) (hp : ∀ p ∈ pre_counts_sum p0 p1, p) (h : K (s_counts_sum p0 p1)) : w_counts_sum p0 p1 K := by
  unfold w_counts_sum
  unfold s_counts_sum at h
  exact h
abbrev con_counts_sum : Con := ⟨P_counts_sum, R_counts_sum, fun x => pre_counts_sum x.1 x.2, fun x => s_counts_sum x.1 x.2⟩
theorem ok_counts_sum : ConOk Try.prog 123 con_counts_sum := ⟨k_counts_sum, fun x hx => ret_tf (ps := P_counts_sum) (rs := R_counts_sum) (x := x) (y := s_counts_sum x.1 x.2) e_counts_sum hC_counts_sum (tf_of (w_counts_sum_eq x.1 x.2 (fun z => z = s_counts_sum x.1 x.2)) (d_counts_sum x.1 x.2 (fun z => z = s_counts_sum x.1 x.2) hx rfl))⟩
/- counts_floor -/
def C_counts_floor : Cons := []
theorem hC_counts_floor : ConsOk Try.prog C_counts_floor := ConsOk.nil
def w_counts_floor (p0 : Int) (p1 : Int) (K : Int → Prop) : Prop :=
  ((p1 ≠ (0 : Int)) ∧
  ((p1 ≠ (0 : Int)) ∧
  ((((decide ((Int.tmod p0 p1) < (0 : Int))) = true) →
  (K (Go.IntKind.wrap .i64 ((Go.IntKind.wrap .i64 (Int.tdiv p0 p1)) - (1 : Int))))) ∧
  (((decide ((Int.tmod p0 p1) < (0 : Int))) = false) →
  (K (Go.IntKind.wrap .i64 (Int.tdiv p0 p1)))))))
set_option maxHeartbeats 4000000 in
theorem w_counts_floor_eq (p0 : Int) (p1 : Int) (K : Int → Prop) : tfn F_counts_floor A_counts_floor C_counts_floor P_counts_floor R_counts_floor (p0, p1) K = w_counts_floor p0 p1 K := by kernel_rfl
def s_counts_floor (p0 : Int) (p1 : Int) : Int :=
  (cond (decide ((Int.tmod p0 p1) < (0 : Int))) (Go.IntKind.wrap .i64 ((Go.IntKind.wrap .i64 (Int.tdiv p0 p1)) - (1 : Int)))
    (Go.IntKind.wrap .i64 (Int.tdiv p0 p1)))
abbrev pre_counts_floor (p0 : Int) (p1 : Int) : List Prop := [(p1 ≠ (0 : Int))]
set_option maxHeartbeats 4000000 in
theorem d_counts_floor (p0 : Int) (p1 : Int) (K : Int → Prop) (hp : ∀ p ∈ pre_counts_floor p0 p1, p) (h : K (s_counts_floor p0 p1)) : w_counts_floor p0 p1 K := by
  unfold w_counts_floor
  unfold s_counts_floor at h
  obtain ⟨hp0, _⟩ := conj_of hp
  exact ⟨(hp0), (hp0), (br' h (fun e0 h => h)
    (fun e0 h => h))⟩
abbrev con_counts_floor : Con := ⟨P_counts_floor, R_counts_floor, fun x => pre_counts_floor x.1 x.2, fun x => s_counts_floor x.1 x.2⟩
theorem ok_counts_floor : ConOk Try.prog 125 con_counts_floor := ⟨k_counts_floor, fun x hx => ret_tf (ps := P_counts_floor) (rs := R_counts_floor) (x := x) (y := s_counts_floor x.1 x.2) e_counts_floor hC_counts_floor (tf_of (w_counts_floor_eq x.1 x.2 (fun z => z = s_counts_floor x.1 x.2)) (d_counts_floor x.1 x.2 (fun z => z = s_counts_floor x.1 x.2) hx rfl))⟩
/- counts_ceil -/
def C_counts_ceil : Cons := [(125, [], con_counts_floor)]
theorem hC_counts_ceil : ConsOk Try.prog C_counts_ceil := ConsOk.cons ok_counts_floor <| ConsOk.nil
def w_counts_ceil (p0 : Int) (p1 : Int) (K : Int → Prop) : Prop :=
  ((p1 ≠ (0 : Int)) ∧
  (K (Go.IntKind.wrap .i64 ((0 : Int) - (s_counts_floor (Go.IntKind.wrap .i64 ((0 : Int) - p0)) p1)))))
set_option maxHeartbeats 4000000 in
theorem w_counts_ceil_eq (p0 : Int) (p1 : Int) (K : Int → Prop) : tfn F_counts_ceil A_counts_ceil C_counts_ceil P_counts_ceil R_counts_ceil (p0, p1) K = w_counts_ceil p0 p1 K := by kernel_rfl
def s_counts_ceil (p0 : Int) (p1 : Int) : Int :=
  (Go.IntKind.wrap .i64 ((0 : Int) - (s_counts_floor (Go.IntKind.wrap .i64 ((0 : Int) - p0)) p1)))
abbrev pre_counts_ceil (p0 : Int) (p1 : Int) : List Prop := [(p1 ≠ (0 : Int))]
set_option maxHeartbeats 4000000 in
theorem d_counts_ceil (p0 : Int) (p1 : Int) (K : Int → Prop) (hp : ∀ p ∈ pre_counts_ceil p0 p1, p) (h : K (s_counts_ceil p0 p1)) : w_counts_ceil p0 p1 K := by
  unfold w_counts_ceil
  unfold s_counts_ceil at h
  obtain ⟨hp0, _⟩ := conj_of hp
  exact ⟨(hp0), h⟩
abbrev con_counts_ceil : Con := ⟨P_counts_ceil, R_counts_ceil, fun x => pre_counts_ceil x.1 x.2, fun x => s_counts_ceil x.1 x.2⟩
theorem ok_counts_ceil : ConOk Try.prog 112 con_counts_ceil := ⟨k_counts_ceil, fun x hx => ret_tf (ps := P_counts_ceil) (rs := R_counts_ceil) (x := x) (y := s_counts_ceil x.1 x.2) e_counts_ceil hC_counts_ceil (tf_of (w_counts_ceil_eq x.1 x.2 (fun z => z = s_counts_ceil x.1 x.2)) (d_counts_ceil x.1 x.2 (fun z => z = s_counts_ceil x.1 x.2) hx rfl))⟩
/- counts_rounded -/
def C_counts_rounded : Cons := [(125, [], con_counts_floor), (112, [], con_counts_ceil)]
theorem hC_counts_rounded : ConsOk Try.prog C_counts_rounded := ConsOk.cons ok_counts_floor <| ConsOk.cons ok_counts_ceil <| ConsOk.nil
def w_counts_rounded (p0 : (Int × Int)) (p1 : Int) (K : (Int × Int) → Prop) : Prop :=
  ((p1 ≠ (0 : Int)) ∧
  ((p1 ≠ (0 : Int)) ∧
  (K ((s_counts_floor p0.1 p1), (s_counts_ceil p0.2 p1)))))
set_option maxHeartbeats 4000000 in
theorem w_counts_rounded_eq (p0 : (Int × Int)) (p1 : Int) (K : (Int × Int) → Prop) : tfn F_counts_rounded A_counts_rounded C_counts_rounded P_counts_rounded R_counts_rounded (p0, p1) K = w_counts_rounded p0 p1 K := by kernel_rfl
def s_counts_rounded (p0 : (Int × Int)) (p1 : Int) : (Int × Int) :=
  ((s_counts_floor p0.1 p1), (s_counts_ceil p0.2 p1))
abbrev pre_counts_rounded (p0 : (Int × Int)) (p1 : Int) : List Prop := [(p1 ≠ (0 : Int))]
set_option maxHeartbeats 4000000 in
theorem d_counts_rounded (p0 : (Int × Int)) (p1 : Int) (K : (Int × Int) → Prop) (hp : ∀ p ∈ pre_counts_rounded p0 p1, p) (h : K (s_counts_rounded p0 p1)) : w_counts_rounded p0 p1 K := by
  unfold w_counts_rounded
  unfold s_counts_rounded at h
  obtain ⟨hp0, _⟩ := conj_of hp
  exact ⟨(hp0), (hp0), h⟩
abbrev con_counts_rounded : Con := ⟨P_counts_rounded, R_counts_rounded, fun x => pre_counts_rounded x.1 x.2, fun x => s_counts_rounded x.1 x.2⟩
theorem ok_counts_rounded : ConOk Try.prog 118 con_counts_rounded := ⟨k_counts_rounded, fun x hx => ret_tf (ps := P_counts_rounded) (rs := R_counts_rounded) (x := x) (y := s_counts_rounded x.1 x.2) e_counts_rounded hC_counts_rounded (tf_of (w_counts_rounded_eq x.1 x.2 (fun z => z = s_counts_rounded x.1 x.2)) (d_counts_rounded x.1 x.2 (fun z => z = s_counts_rounded x.1 x.2) hx rfl))⟩
/- counts_product -/
def C_counts_product : Cons := [(119, [], con_counts_times), (123, [], con_counts_sum), (118, [], con_counts_rounded)]
theorem hC_counts_product : ConsOk Try.prog C_counts_product := ConsOk.cons ok_counts_times <| ConsOk.cons ok_counts_sum <| ConsOk.cons ok_counts_rounded <| ConsOk.nil
def w_counts_product (p0 : M3) (p1 : R3) (p2 : Int) (K : R3 → Prop) : Prop :=
  (∃ n0, (loopP (fun (y1 : (Int × (Int × (Int × (Int × (Int × (Int × Int))))))) k2 =>
    ((((decide (y1.1 < (3 : Int))) = true) →
    (((0 : Int) ≤ y1.1) ∧
      ((y1.1 < (3 : Int)) ∧
      (∃ n3, (loopP (fun (y4 : (Int × (Int × (Int × (Int × (Int × (Int × Int))))))) k5 =>
        ((((decide (y4.1 < (3 : Int))) = true) →
        (((0 : Int) ≤ y4.1) ∧
          ((y4.1 < (3 : Int)) ∧
          (((0 : Int) ≤ y1.1) ∧
          ((y1.1 < (3 : Int)) ∧
          (((0 : Int) ≤ y4.1) ∧
          ((y4.1 < (3 : Int)) ∧
          (((0 : Int) ≤ y1.1) ∧
          ((y1.1 < (3 : Int)) ∧
          (k5 ((Go.IntKind.wrap .i64 (y4.1 + (1 : Int))), ((cond (decide (y1.1 = (0 : Int))) (s_counts_sum ((List.getD (y4.2.1 :: (y4.2.2.2.1 :: (y4.2.2.2.2.2.1 :: ([] : List Int)))) (Int.toNat y1.1) (0 : Int)), (List.getD (y4.2.2.1 :: (y4.2.2.2.2.1 :: (y4.2.2.2.2.2.2 :: ([] : List Int)))) (Int.toNat y1.1) (0 : Int))) (s_counts_times ((List.getD (p1.1.1 :: (p1.2.1.1 :: (p1.2.2.1 :: ([] : List Int)))) (Int.toNat y4.1) (0 : Int)), (List.getD (p1.1.2 :: (p1.2.1.2 :: (p1.2.2.2 :: ([] : List Int)))) (Int.toNat y4.1) (0 : Int))) (List.getD ((List.getD (p0.1.1 :: (p0.2.1.1 :: (p0.2.2.1 :: ([] : List Int)))) (Int.toNat y1.1) (0 : Int)) :: ((List.getD (p0.1.2.1 :: (p0.2.1.2.1 :: (p0.2.2.2.1 :: ([] : List Int)))) (Int.toNat y1.1) (0 : Int)) :: ((List.getD (p0.1.2.2 :: (p0.2.1.2.2 :: (p0.2.2.2.2 :: ([] : List Int)))) (Int.toNat y1.1) (0 : Int)) :: ([] : List Int)))) (Int.toNat y4.1) (0 : Int)))).1 y4.2.1), ((cond (decide (y1.1 = (0 : Int))) (s_counts_sum ((List.getD (y4.2.1 :: (y4.2.2.2.1 :: (y4.2.2.2.2.2.1 :: ([] : List Int)))) (Int.toNat y1.1) (0 : Int)), (List.getD (y4.2.2.1 :: (y4.2.2.2.2.1 :: (y4.2.2.2.2.2.2 :: ([] : List Int)))) (Int.toNat y1.1) (0 : Int))) (s_counts_times ((List.getD (p1.1.1 :: (p1.2.1.1 :: (p1.2.2.1 :: ([] : List Int)))) (Int.toNat y4.1) (0 : Int)), (List.getD (p1.1.2 :: (p1.2.1.2 :: (p1.2.2.2 :: ([] : List Int)))) (Int.toNat y4.1) (0 : Int))) (List.getD ((List.getD (p0.1.1 :: (p0.2.1.1 :: (p0.2.2.1 :: ([] : List Int)))) (Int.toNat y1.1) (0 : Int)) :: ((List.getD (p0.1.2.1 :: (p0.2.1.2.1 :: (p0.2.2.2.1 :: ([] : List Int)))) (Int.toNat y1.1) (0 : Int)) :: ((List.getD (p0.1.2.2 :: (p0.2.1.2.2 :: (p0.2.2.2.2 :: ([] : List Int)))) (Int.toNat y1.1) (0 : Int)) :: ([] : List Int)))) (Int.toNat y4.1) (0 : Int)))).2 y4.2.2.1), ((cond (decide (y1.1 = (1 : Int))) (s_counts_sum ((List.getD (y4.2.1 :: (y4.2.2.2.1 :: (y4.2.2.2.2.2.1 :: ([] : List Int)))) (Int.toNat y1.1) (0 : Int)), (List.getD (y4.2.2.1 :: (y4.2.2.2.2.1 :: (y4.2.2.2.2.2.2 :: ([] : List Int)))) (Int.toNat y1.1) (0 : Int))) (s_counts_times ((List.getD (p1.1.1 :: (p1.2.1.1 :: (p1.2.2.1 :: ([] : List Int)))) (Int.toNat y4.1) (0 : Int)), (List.getD (p1.1.2 :: (p1.2.1.2 :: (p1.2.2.2 :: ([] : List Int)))) (Int.toNat y4.1) (0 : Int))) (List.getD ((List.getD (p0.1.1 :: (p0.2.1.1 :: (p0.2.2.1 :: ([] : List Int)))) (Int.toNat y1.1) (0 : Int)) :: ((List.getD (p0.1.2.1 :: (p0.2.1.2.1 :: (p0.2.2.2.1 :: ([] : List Int)))) (Int.toNat y1.1) (0 : Int)) :: ((List.getD (p0.1.2.2 :: (p0.2.1.2.2 :: (p0.2.2.2.2 :: ([] : List Int)))) (Int.toNat y1.1) (0 : Int)) :: ([] : List Int)))) (Int.toNat y4.1) (0 : Int)))).1 y4.2.2.2.1), ((cond (decide (y1.1 = (1 : Int))) (s_counts_sum ((List.getD (y4.2.1 :: (y4.2.2.2.1 :: (y4.2.2.2.2.2.1 :: ([] : List Int)))) (Int.toNat y1.1) (0 : Int)), (List.getD (y4.2.2.1 :: (y4.2.2.2.2.1 :: (y4.2.2.2.2.2.2 :: ([] : List Int)))) (Int.toNat y1.1) (0 : Int))) (s_counts_times ((List.getD (p1.1.1 :: (p1.2.1.1 :: (p1.2.2.1 :: ([] : List Int)))) (Int.toNat y4.1) (0 : Int)), (List.getD (p1.1.2 :: (p1.2.1.2 :: (p1.2.2.2 :: ([] : List Int)))) (Int.toNat y4.1) (0 : Int))) (List.getD ((List.getD (p0.1.1 :: (p0.2.1.1 :: (p0.2.2.1 :: ([] : List Int)))) (Int.toNat y1.1) (0 : Int)) :: ((List.getD (p0.1.2.1 :: (p0.2.1.2.1 :: (p0.2.2.2.1 :: ([] : List Int)))) (Int.toNat y1.1) (0 : Int)) :: ((List.getD (p0.1.2.2 :: (p0.2.1.2.2 :: (p0.2.2.2.2 :: ([] : List Int)))) (Int.toNat y1.1) (0 : Int)) :: ([] : List Int)))) (Int.toNat y4.1) (0 : Int)))).2 y4.2.2.2.2.1), ((cond (decide (y1.1 = (2 : Int))) (s_counts_sum ((List.getD (y4.2.1 :: (y4.2.2.2.1 :: (y4.2.2.2.2.2.1 :: ([] : List Int)))) (Int.toNat y1.1) (0 : Int)), (List.getD (y4.2.2.1 :: (y4.2.2.2.2.1 :: (y4.2.2.2.2.2.2 :: ([] : List Int)))) (Int.toNat y1.1) (0 : Int))) (s_counts_times ((List.getD (p1.1.1 :: (p1.2.1.1 :: (p1.2.2.1 :: ([] : List Int)))) (Int.toNat y4.1) (0 : Int)), (List.getD (p1.1.2 :: (p1.2.1.2 :: (p1.2.2.2 :: ([] : List Int)))) (Int.toNat y4.1) (0 : Int))) (List.getD ((List.getD (p0.1.1 :: (p0.2.1.1 :: (p0.2.2.1 :: ([] : List Int)))) (Int.toNat y1.1) (0 : Int)) :: ((List.getD (p0.1.2.1 :: (p0.2.1.2.1 :: (p0.2.2.2.1 :: ([] : List Int)))) (Int.toNat y1.1) (0 : Int)) :: ((List.getD (p0.1.2.2 :: (p0.2.1.2.2 :: (p0.2.2.2.2 :: ([] : List Int)))) (Int.toNat y1.1) (0 : Int)) :: ([] : List Int)))) (Int.toNat y4.1) (0 : Int)))).1 y4.2.2.2.2.2.1), (cond (decide (y1.1 = (2 : Int))) (s_counts_sum ((List.getD (y4.2.1 :: (y4.2.2.2.1 :: (y4.2.2.2.2.2.1 :: ([] : List Int)))) (Int.toNat y1.1) (0 : Int)), (List.getD (y4.2.2.1 :: (y4.2.2.2.2.1 :: (y4.2.2.2.2.2.2 :: ([] : List Int)))) (Int.toNat y1.1) (0 : Int))) (s_counts_times ((List.getD (p1.1.1 :: (p1.2.1.1 :: (p1.2.2.1 :: ([] : List Int)))) (Int.toNat y4.1) (0 : Int)), (List.getD (p1.1.2 :: (p1.2.1.2 :: (p1.2.2.2 :: ([] : List Int)))) (Int.toNat y4.1) (0 : Int))) (List.getD ((List.getD (p0.1.1 :: (p0.2.1.1 :: (p0.2.2.1 :: ([] : List Int)))) (Int.toNat y1.1) (0 : Int)) :: ((List.getD (p0.1.2.1 :: (p0.2.1.2.1 :: (p0.2.2.2.1 :: ([] : List Int)))) (Int.toNat y1.1) (0 : Int)) :: ((List.getD (p0.1.2.2 :: (p0.2.1.2.2 :: (p0.2.2.2.2 :: ([] : List Int)))) (Int.toNat y1.1) (0 : Int)) :: ([] : List Int)))) (Int.toNat y4.1) (0 : Int)))).2 y4.2.2.2.2.2.2))))))))))))))))) ∧
        (((decide (y4.1 < (3 : Int))) = false) →
        (((0 : Int) ≤ y1.1) ∧
          ((y1.1 < (3 : Int)) ∧
          ((p2 ≠ (0 : Int)) ∧
          (((0 : Int) ≤ y1.1) ∧
          ((y1.1 < (3 : Int)) ∧
          (k2 ((Go.IntKind.wrap .i64 (y1.1 + (1 : Int))), ((cond (decide (y1.1 = (0 : Int))) (s_counts_rounded ((List.getD (y4.2.1 :: (y4.2.2.2.1 :: (y4.2.2.2.2.2.1 :: ([] : List Int)))) (Int.toNat y1.1) (0 : Int)), (List.getD (y4.2.2.1 :: (y4.2.2.2.2.1 :: (y4.2.2.2.2.2.2 :: ([] : List Int)))) (Int.toNat y1.1) (0 : Int))) p2).1 y4.2.1), ((cond (decide (y1.1 = (0 : Int))) (s_counts_rounded ((List.getD (y4.2.1 :: (y4.2.2.2.1 :: (y4.2.2.2.2.2.1 :: ([] : List Int)))) (Int.toNat y1.1) (0 : Int)), (List.getD (y4.2.2.1 :: (y4.2.2.2.2.1 :: (y4.2.2.2.2.2.2 :: ([] : List Int)))) (Int.toNat y1.1) (0 : Int))) p2).2 y4.2.2.1), ((cond (decide (y1.1 = (1 : Int))) (s_counts_rounded ((List.getD (y4.2.1 :: (y4.2.2.2.1 :: (y4.2.2.2.2.2.1 :: ([] : List Int)))) (Int.toNat y1.1) (0 : Int)), (List.getD (y4.2.2.1 :: (y4.2.2.2.2.1 :: (y4.2.2.2.2.2.2 :: ([] : List Int)))) (Int.toNat y1.1) (0 : Int))) p2).1 y4.2.2.2.1), ((cond (decide (y1.1 = (1 : Int))) (s_counts_rounded ((List.getD (y4.2.1 :: (y4.2.2.2.1 :: (y4.2.2.2.2.2.1 :: ([] : List Int)))) (Int.toNat y1.1) (0 : Int)), (List.getD (y4.2.2.1 :: (y4.2.2.2.2.1 :: (y4.2.2.2.2.2.2 :: ([] : List Int)))) (Int.toNat y1.1) (0 : Int))) p2).2 y4.2.2.2.2.1), ((cond (decide (y1.1 = (2 : Int))) (s_counts_rounded ((List.getD (y4.2.1 :: (y4.2.2.2.1 :: (y4.2.2.2.2.2.1 :: ([] : List Int)))) (Int.toNat y1.1) (0 : Int)), (List.getD (y4.2.2.1 :: (y4.2.2.2.2.1 :: (y4.2.2.2.2.2.2 :: ([] : List Int)))) (Int.toNat y1.1) (0 : Int))) p2).1 y4.2.2.2.2.2.1), (cond (decide (y1.1 = (2 : Int))) (s_counts_rounded ((List.getD (y4.2.1 :: (y4.2.2.2.1 :: (y4.2.2.2.2.2.1 :: ([] : List Int)))) (Int.toNat y1.1) (0 : Int)), (List.getD (y4.2.2.1 :: (y4.2.2.2.2.1 :: (y4.2.2.2.2.2.2 :: ([] : List Int)))) (Int.toNat y1.1) (0 : Int))) p2).2 y4.2.2.2.2.2.2)))))))))))))))) n3 ((0 : Int), y1.2)))))) ∧
    (((decide (y1.1 < (3 : Int))) = false) →
    (K ((y1.2.1, y1.2.2.1), ((y1.2.2.2.1, y1.2.2.2.2.1), y1.2.2.2.2.2)))))) n0 ((0 : Int), ((0 : Int), ((0 : Int), ((0 : Int), ((0 : Int), ((0 : Int), (0 : Int)))))))))
set_option maxHeartbeats 4000000 in
theorem w_counts_product_eq (p0 : M3) (p1 : R3) (p2 : Int) (K : R3 → Prop) : tfn F_counts_product A_counts_product C_counts_product P_counts_product R_counts_product (p0, p1, p2) K = w_counts_product p0 p1 p2 K := by kernel_rfl
def s_counts_product (p0 : M3) (p1 : R3) (p2 : Int) : R3 :=
  ((s_counts_rounded (s_counts_sum (s_counts_sum (s_counts_sum ((0 : Int), (0 : Int)) (s_counts_times p1.1 p0.1.1)) (s_counts_times p1.2.1 p0.1.2.1)) (s_counts_times p1.2.2 p0.1.2.2)) p2), ((s_counts_rounded (s_counts_sum (s_counts_sum (s_counts_sum ((0 : Int), (0 : Int)) (s_counts_times p1.1 p0.2.1.1)) (s_counts_times p1.2.1 p0.2.1.2.1)) (s_counts_times p1.2.2 p0.2.1.2.2)) p2), (s_counts_rounded (s_counts_sum (s_counts_sum (s_counts_sum ((0 : Int), (0 : Int)) (s_counts_times p1.1 p0.2.2.1)) (s_counts_times p1.2.1 p0.2.2.2.1)) (s_counts_times p1.2.2 p0.2.2.2.2)) p2)))
abbrev pre_counts_product (p0 : M3) (p1 : R3) (p2 : Int) : List Prop := [(p2 ≠ (0 : Int))]
set_option maxHeartbeats 4000000 in
theorem d_counts_product (p0 : M3) (p1 : R3) (p2 : Int) (K : R3 → Prop) (hp : ∀ p ∈ pre_counts_product p0 p1 p2, p) (h : K (s_counts_product p0 p1 p2)) : w_counts_product p0 p1 p2 K := by
  unfold w_counts_product
  unfold s_counts_product at h
  obtain ⟨hp0, _⟩ := conj_of hp
  exact ⟨31, fun _ => ⟨(od rfl), (od rfl), 31, fun _ => ⟨(od rfl), (od rfl), (od rfl), (od rfl), (od rfl), (od rfl), (od rfl), (od rfl), fun _ => ⟨(od rfl), (od rfl), (od rfl), (od rfl), (od rfl), (od rfl), (od rfl), (od rfl), fun _ => ⟨(od rfl), (od rfl), (od rfl), (od rfl), (od rfl), (od rfl), (od rfl), (od rfl), nof, fun _ => ⟨(od rfl), (od rfl), (hp0), (od rfl), (od rfl), fun _ => ⟨(od rfl), (od rfl), 31, fun _ => ⟨(od rfl), (od rfl), (od rfl), (od rfl), (od rfl), (od rfl), (od rfl), (od rfl), fun _ => ⟨(od rfl), (od rfl), (od rfl), (od rfl), (od rfl), (od rfl), (od rfl), (od rfl), fun _ => ⟨(od rfl), (od rfl), (od rfl), (od rfl), (od rfl), (od rfl), (od rfl), (od rfl), nof, fun _ => ⟨(od rfl), (od rfl), (hp0), (od rfl), (od rfl), fun _ => ⟨(od rfl), (od rfl), 31, fun _ => ⟨(od rfl), (od rfl), (od rfl), (od rfl), (od rfl), (od rfl), (od rfl), (od rfl), fun _ => ⟨(od rfl), (od rfl), (od rfl), (od rfl), (od rfl), (od rfl), (od rfl), (od rfl), fun _ => ⟨(od rfl), (od rfl), (od rfl), (od rfl), (od rfl), (od rfl), (od rfl), (od rfl), nof, fun _ => ⟨(od rfl), (od rfl), (hp0), (od rfl), (od rfl), nof, fun _ => h⟩⟩, fun e => Bool.noConfusion (show true = false from e)⟩, fun e => Bool.noConfusion (show true = false from e)⟩, fun e => Bool.noConfusion (show true = false from e)⟩, fun e => Bool.noConfusion (show true = false from e)⟩⟩, fun e => Bool.noConfusion (show true = false from e)⟩, fun e => Bool.noConfusion (show true = false from e)⟩, fun e => Bool.noConfusion (show true = false from e)⟩, fun e => Bool.noConfusion (show true = false from e)⟩⟩, fun e => Bool.noConfusion (show true = false from e)⟩, fun e => Bool.noConfusion (show true = false from e)⟩, fun e => Bool.noConfusion (show true = false from e)⟩, fun e => Bool.noConfusion (show true = false from e)⟩
abbrev con_counts_product : Con := ⟨P_counts_product, R_counts_product, fun x => pre_counts_product x.1 x.2.1 x.2.2, fun x => s_counts_product x.1 x.2.1 x.2.2⟩
theorem ok_counts_product : ConOk Try.prog 98 con_counts_product := ⟨k_counts_product, fun x hx => ret_tf (ps := P_counts_product) (rs := R_counts_product) (x := x) (y := s_counts_product x.1 x.2.1 x.2.2) e_counts_product hC_counts_product (tf_of (w_counts_product_eq x.1 x.2.1 x.2.2 (fun z => z = s_counts_product x.1 x.2.1 x.2.2)) (d_counts_product x.1 x.2.1 x.2.2 (fun z => z = s_counts_product x.1 x.2.1 x.2.2) hx rfl))⟩
/- counts_rules_stripped -/
def C_counts_rules_stripped : Cons := [(96, [], con_counts_rules_inverse), (98, [], con_counts_product)]
theorem hC_counts_rules_stripped : ConsOk Try.prog C_counts_rules_stripped := ConsOk.cons ok_counts_rules_inverse <| ConsOk.cons ok_counts_product <| ConsOk.nil
def w_counts_rules_stripped (p0 : CR) (p1 : R3) (K : R3 → Prop) : Prop :=
  ((v_rules p0) ∧
  (((v_inv p0).2 ≠ (0 : Int)) ∧
  (K (s_counts_product (v_inv p0).1 p1 (v_inv p0).2))))
set_option maxHeartbeats 4000000 in
theorem w_counts_rules_stripped_eq (p0 : CR) (p1 : R3) (K : R3 → Prop) : tfn F_counts_rules_stripped A_counts_rules_stripped C_counts_rules_stripped P_counts_rules_stripped R_counts_rules_stripped (p0, p1) K = w_counts_rules_stripped p0 p1 K := by kernel_rfl
def s_counts_rules_stripped (p0 : CR) (p1 : R3) : R3 :=
  (s_counts_product (v_inv p0).1 p1 (v_inv p0).2)
abbrev pre_counts_rules_stripped (p0 : CR) (p1 : R3) : List Prop := [(v_rules p0),
    ((v_inv p0).2 ≠ (0 : Int))]
set_option maxHeartbeats 4000000 in
theorem d_counts_rules_stripped (p0 : CR) (p1 : R3) (K : R3 → Prop) (hp : ∀ p ∈ pre_counts_rules_stripped p0 p1, p) (h : K (s_counts_rules_stripped p0 p1)) : w_counts_rules_stripped p0 p1 K := by
  unfold w_counts_rules_stripped
  unfold s_counts_rules_stripped at h
  obtain ⟨hp0, hp1, _⟩ := conj_of hp
  exact ⟨(hp0), (hp1), h⟩
theorem tx_invden {r : CR} (h : v_rules r) : 1 ≤ (v_inv r).2 := by
  have hc := tx_inv0 (tx_mat h)
  have hd := v_div_in hc.den.1
  show 1 ≤ (v_inv0 r.2.2.2.2.2.2.2.1).2.tdiv (v_div (v_inv0 r.2.2.2.2.2.2.2.1))
  rw [Int.tdiv_eq_ediv_of_nonneg (by omega)]
  exact Int.le_ediv_of_mul_le (by omega) (by omega)
abbrev qre_counts_rules_stripped (p0 : CR) (_ : R3) : List Prop := [v_rules p0]
theorem pp_counts_rules_stripped (p0 : CR) (p1 : R3) (hq : ∀ p ∈ qre_counts_rules_stripped p0 p1, p) : ∀ p ∈ pre_counts_rules_stripped p0 p1, p := by
  have hv := (conj_of hq).1
  have := tx_invden hv
  intro p hp
  simp only [pre_counts_rules_stripped, List.mem_cons, List.not_mem_nil, or_false] at hp
  rcases hp with rfl | rfl
  · exact hv
  · omega

abbrev con_counts_rules_stripped : Con := ⟨P_counts_rules_stripped, R_counts_rules_stripped, fun x => qre_counts_rules_stripped x.1 x.2, fun x => s_counts_rules_stripped x.1 x.2⟩
theorem ok_counts_rules_stripped : ConOk Try.prog 99 con_counts_rules_stripped := ⟨k_counts_rules_stripped, fun x hx => ret_tf (ps := P_counts_rules_stripped) (rs := R_counts_rules_stripped) (x := x) (y := s_counts_rules_stripped x.1 x.2) e_counts_rules_stripped hC_counts_rules_stripped (tf_of (w_counts_rules_stripped_eq x.1 x.2 (fun z => z = s_counts_rules_stripped x.1 x.2)) (d_counts_rules_stripped x.1 x.2 (fun z => z = s_counts_rules_stripped x.1 x.2) (pp_counts_rules_stripped x.1 x.2 hx) rfl))⟩
/- counts_StrippedOf -/
def C_counts_StrippedOf : Cons := [(97, [], con_counts_openValues), (99, [], con_counts_rules_stripped)]
theorem hC_counts_StrippedOf : ConsOk Try.prog C_counts_StrippedOf := ConsOk.cons ok_counts_openValues <| ConsOk.cons ok_counts_rules_stripped <| ConsOk.nil
def w_counts_StrippedOf (p0 : CR) (p1 : R3) (K : (R3 × Int) → Prop) : Prop :=
  (((((cond ((s_counts_CheckRules p0).2 != (0 : Int)) (s_counts_CheckRules p0).2 (v_vals p1)) != (0 : Int)) = true) →
  (K ((((0 : Int), (0 : Int)), (((0 : Int), (0 : Int)), ((0 : Int), (0 : Int)))), (cond ((s_counts_CheckRules p0).2 != (0 : Int)) (s_counts_CheckRules p0).2 (v_vals p1))))) ∧
  ((((cond ((s_counts_CheckRules p0).2 != (0 : Int)) (s_counts_CheckRules p0).2 (v_vals p1)) != (0 : Int)) = false) →
  ((v_rules p0) ∧
    (K ((s_counts_rules_stripped p0 p1), (0 : Int))))))
set_option maxHeartbeats 4000000 in
theorem w_counts_StrippedOf_eq (p0 : CR) (p1 : R3) (K : (R3 × Int) → Prop) : tfn F_counts_StrippedOf A_counts_StrippedOf C_counts_StrippedOf P_counts_StrippedOf R_counts_StrippedOf (p0, p1) K = w_counts_StrippedOf p0 p1 K := by kernel_rfl
def s_counts_StrippedOf (p0 : CR) (p1 : R3) : (R3 × Int) :=
  (cond ((cond ((s_counts_CheckRules p0).2 != (0 : Int)) (s_counts_CheckRules p0).2 (v_vals p1)) != (0 : Int)) ((((0 : Int), (0 : Int)), (((0 : Int), (0 : Int)), ((0 : Int), (0 : Int)))), (cond ((s_counts_CheckRules p0).2 != (0 : Int)) (s_counts_CheckRules p0).2 (v_vals p1)))
    ((s_counts_rules_stripped p0 p1), (0 : Int)))
abbrev pre_counts_StrippedOf (p0 : CR) (p1 : R3) : List Prop := [((((cond ((s_counts_CheckRules p0).2 != (0 : Int)) (s_counts_CheckRules p0).2 (v_vals p1)) != (0 : Int)) = false) → (v_rules p0))]
set_option maxHeartbeats 4000000 in
theorem d_counts_StrippedOf (p0 : CR) (p1 : R3) (K : (R3 × Int) → Prop) (hp : ∀ p ∈ pre_counts_StrippedOf p0 p1, p) (h : K (s_counts_StrippedOf p0 p1)) : w_counts_StrippedOf p0 p1 K := by
  unfold w_counts_StrippedOf
  unfold s_counts_StrippedOf at h
  obtain ⟨hp0, _⟩ := conj_of hp
  exact (br' h (fun e0 h => h)
    (fun e0 h => ⟨(hp0 e0), h⟩))
abbrev con_counts_StrippedOf : Con := ⟨P_counts_StrippedOf, R_counts_StrippedOf, fun x => pre_counts_StrippedOf x.1 x.2, fun x => s_counts_StrippedOf x.1 x.2⟩
theorem ok_counts_StrippedOf : ConOk Try.prog 43 con_counts_StrippedOf := ⟨k_counts_StrippedOf, fun x hx => ret_tf (ps := P_counts_StrippedOf) (rs := R_counts_StrippedOf) (x := x) (y := s_counts_StrippedOf x.1 x.2) e_counts_StrippedOf hC_counts_StrippedOf (tf_of (w_counts_StrippedOf_eq x.1 x.2 (fun z => z = s_counts_StrippedOf x.1 x.2)) (d_counts_StrippedOf x.1 x.2 (fun z => z = s_counts_StrippedOf x.1 x.2) hx rfl))⟩
/- counts_Mixed -/
def C_counts_Mixed : Cons := [(97, [], con_counts_openValues), (98, [], con_counts_product)]
theorem hC_counts_Mixed : ConsOk Try.prog C_counts_Mixed := ConsOk.cons ok_counts_openValues <| ConsOk.cons ok_counts_product <| ConsOk.nil
def w_counts_Mixed (p0 : CR) (p1 : R3) (K : (R3 × Int) → Prop) : Prop :=
  (((((cond ((s_counts_CheckRules p0).2 != (0 : Int)) (s_counts_CheckRules p0).2 (v_vals p1)) != (0 : Int)) = true) →
  (K ((((0 : Int), (0 : Int)), (((0 : Int), (0 : Int)), ((0 : Int), (0 : Int)))), (cond ((s_counts_CheckRules p0).2 != (0 : Int)) (s_counts_CheckRules p0).2 (v_vals p1))))) ∧
  ((((cond ((s_counts_CheckRules p0).2 != (0 : Int)) (s_counts_CheckRules p0).2 (v_vals p1)) != (0 : Int)) = false) →
  (((1000 : Int) ≠ (0 : Int)) ∧
    (K ((s_counts_product p0.2.2.2.2.2.2.2.1 p1 (1000 : Int)), (0 : Int))))))
set_option maxHeartbeats 4000000 in
theorem w_counts_Mixed_eq (p0 : CR) (p1 : R3) (K : (R3 × Int) → Prop) : tfn F_counts_Mixed A_counts_Mixed C_counts_Mixed P_counts_Mixed R_counts_Mixed (p0, p1) K = w_counts_Mixed p0 p1 K := by kernel_rfl
def s_counts_Mixed (p0 : CR) (p1 : R3) : (R3 × Int) :=
  (cond ((cond ((s_counts_CheckRules p0).2 != (0 : Int)) (s_counts_CheckRules p0).2 (v_vals p1)) != (0 : Int)) ((((0 : Int), (0 : Int)), (((0 : Int), (0 : Int)), ((0 : Int), (0 : Int)))), (cond ((s_counts_CheckRules p0).2 != (0 : Int)) (s_counts_CheckRules p0).2 (v_vals p1)))
    ((s_counts_product p0.2.2.2.2.2.2.2.1 p1 (1000 : Int)), (0 : Int)))
abbrev pre_counts_Mixed (p0 : CR) (p1 : R3) : List Prop := []
set_option maxHeartbeats 4000000 in
theorem d_counts_Mixed (p0 : CR) (p1 : R3) (K : (R3 × Int) → Prop) (hp : ∀ p ∈ pre_counts_Mixed p0 p1, p) (h : K (s_counts_Mixed p0 p1)) : w_counts_Mixed p0 p1 K := by
  unfold w_counts_Mixed
  unfold s_counts_Mixed at h
  exact (br' h (fun e0 h => h)
    (fun e0 h => ⟨(od rfl), h⟩))
abbrev con_counts_Mixed : Con := ⟨P_counts_Mixed, R_counts_Mixed, fun x => pre_counts_Mixed x.1 x.2, fun x => s_counts_Mixed x.1 x.2⟩
theorem ok_counts_Mixed : ConOk Try.prog 42 con_counts_Mixed := ⟨k_counts_Mixed, fun x hx => ret_tf (ps := P_counts_Mixed) (rs := R_counts_Mixed) (x := x) (y := s_counts_Mixed x.1 x.2) e_counts_Mixed hC_counts_Mixed (tf_of (w_counts_Mixed_eq x.1 x.2 (fun z => z = s_counts_Mixed x.1 x.2)) (d_counts_Mixed x.1 x.2 (fun z => z = s_counts_Mixed x.1 x.2) hx rfl))⟩
end Go.Proofs.Ytonjnpefnbnohaa
