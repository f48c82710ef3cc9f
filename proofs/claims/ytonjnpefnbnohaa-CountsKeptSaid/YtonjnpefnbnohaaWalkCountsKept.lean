/- What the functions that CountsKept reaches compute: contracts, each function once. No condition. -/
import Derived.Test.YtonjnpefnbnohaaWalkCountsKeptA
import Derived.KernelRfl
namespace Go.Proofs.Ytonjnpefnbnohaa
open Go Go.Mx
set_option maxRecDepth 100000
/- counts_floor -/
def C_counts_floor : Cons := []
theorem hC_counts_floor : ConsOk Try.prog C_counts_floor := ConsOk.nil
def w_counts_floor (p0 : Int) (p1 : Int) (K : Int → Prop) : Prop :=
  ((p1 ≠ (0 : Int)) ∧
  ((p1 ≠ (0 : Int)) ∧
  ((((decide ((Int.tmod p0 p1) < (0 : Int))) = true) →
  (K (Go.IntKind.wrap .i64 ((Go.IntKind.wrap .i64 (Int.tdiv p0 p1)) - (1 : Int))))) ∧
  (((decide ((Int.tmod p0 p1) < (0 : Int))) = false) →
  (K (Go.IntKind.wrap .i64 (Int.tdiv p0 p1)))))))
set_option maxHeartbeats 4000000 in
theorem w_counts_floor_eq (p0 : Int) (p1 : Int) (K : Int → Prop) : tfn F_counts_floor A_counts_floor C_counts_floor P_counts_floor R_counts_floor (p0, p1) K = w_counts_floor p0 p1 K := by kernel_rfl
def s_counts_floor (p0 : Int) (p1 : Int) : Int :=
  (cond (decide ((Int.tmod p0 p1) < (0 : Int))) (Go.IntKind.wrap .i64 ((Go.IntKind.wrap .i64 (Int.tdiv p0 p1)) - (1 : Int)))
    (Go.IntKind.wrap .i64 (Int.tdiv p0 p1)))
abbrev pre_counts_floor (p0 : Int) (p1 : Int) : List Prop := [(p1 ≠ (0 : Int))]
set_option maxHeartbeats 4000000 in
theorem d_counts_floor (p0 : Int) (p1 : Int) (K : Int → Prop) (hp : ∀ p ∈ pre_counts_floor p0 p1, p) (h : K (s_counts_floor p0 p1)) : w_counts_floor p0 p1 K := by
  unfold w_counts_floor
  unfold s_counts_floor at h
  obtain ⟨hp0, _⟩ := conj_of hp
  exact ⟨(hp0), (hp0), (br' h (fun e0 h => h)
    (fun e0 h => h))⟩
abbrev con_counts_floor : Con := ⟨P_counts_floor, R_counts_floor, fun x => pre_counts_floor x.1 x.2, fun x => s_counts_floor x.1 x.2⟩
theorem ok_counts_floor : ConOk Try.prog 125 con_counts_floor := ⟨k_counts_floor, fun x hx => ret_tf (ps := P_counts_floor) (rs := R_counts_floor) (x := x) (y := s_counts_floor x.1 x.2) e_counts_floor hC_counts_floor (tf_of (w_counts_floor_eq x.1 x.2 (fun z => z = s_counts_floor x.1 x.2)) (d_counts_floor x.1 x.2 (fun z => z = s_counts_floor x.1 x.2) hx rfl))⟩
/- counts_ceil -/
def C_counts_ceil : Cons := [(125, [], con_counts_floor)]
theorem hC_counts_ceil : ConsOk Try.prog C_counts_ceil := ConsOk.cons ok_counts_floor <| ConsOk.nil
def w_counts_ceil (p0 : Int) (p1 : Int) (K : Int → Prop) : Prop :=
  ((p1 ≠ (0 : Int)) ∧
  (K (Go.IntKind.wrap .i64 ((0 : Int) - (s_counts_floor (Go.IntKind.wrap .i64 ((0 : Int) - p0)) p1)))))
set_option maxHeartbeats 4000000 in
theorem w_counts_ceil_eq (p0 : Int) (p1 : Int) (K : Int → Prop) : tfn F_counts_ceil A_counts_ceil C_counts_ceil P_counts_ceil R_counts_ceil (p0, p1) K = w_counts_ceil p0 p1 K := by kernel_rfl
def s_counts_ceil (p0 : Int) (p1 : Int) : Int :=
  (Go.IntKind.wrap .i64 ((0 : Int) - (s_counts_floor (Go.IntKind.wrap .i64 ((0 : Int) - p0)) p1)))
abbrev pre_counts_ceil (p0 : Int) (p1 : Int) : List Prop := [(p1 ≠ (0 : Int))]
set_option maxHeartbeats 4000000 in
theorem d_counts_ceil (p0 : Int) (p1 : Int) (K : Int → Prop) (hp : ∀ p ∈ pre_counts_ceil p0 p1, p) (h : K (s_counts_ceil p0 p1)) : w_counts_ceil p0 p1 K := by
  unfold w_counts_ceil
  unfold s_counts_ceil at h
  obtain ⟨hp0, _⟩ := conj_of hp
  exact ⟨(hp0), h⟩
abbrev con_counts_ceil : Con := ⟨P_counts_ceil, R_counts_ceil, fun x => pre_counts_ceil x.1 x.2, fun x => s_counts_ceil x.1 x.2⟩
theorem ok_counts_ceil : ConOk Try.prog 112 con_counts_ceil := ⟨k_counts_ceil, fun x hx => ret_tf (ps := P_counts_ceil) (rs := R_counts_ceil) (x := x) (y := s_counts_ceil x.1 x.2) e_counts_ceil hC_counts_ceil (tf_of (w_counts_ceil_eq x.1 x.2 (fun z => z = s_counts_ceil x.1 x.2)) (d_counts_ceil x.1 x.2 (fun z => z = s_counts_ceil x.1 x.2) hx rfl))⟩
/- counts_rounded -/
def C_counts_rounded : Cons := [(125, [], con_counts_floor), (112, [], con_counts_ceil)]
theorem hC_counts_rounded : ConsOk Try.prog C_counts_rounded := ConsOk.cons ok_counts_floor <| ConsOk.cons ok_counts_ceil <| ConsOk.nil
def w_counts_rounded (p0 : (Int × Int)) (p1 : Int) (K : (Int × Int) → Prop) : Prop :=
  ((p1 ≠ (0 : Int)) ∧
  ((p1 ≠ (0 : Int)) ∧
  (K ((s_counts_floor p0.1 p1), (s_counts_ceil p0.2 p1)))))
set_option maxHeartbeats 4000000 in
theorem w_counts_rounded_eq (p0 : (Int × Int)) (p1 : Int) (K : (Int × Int) → Prop) : tfn F_counts_rounded A_counts_rounded C_counts_rounded P_counts_rounded R_counts_rounded (p0, p1) K = w_counts_rounded p0 p1 K := by kernel_rfl
def s_counts_rounded (p0 : (Int × Int)) (p1 : Int) : (Int × Int) :=
  ((s_counts_floor p0.1 p1), (s_counts_ceil p0.2 p1))
abbrev pre_counts_rounded (p0 : (Int × Int)) (p1 : Int) : List Prop := [(p1 ≠ (0 : Int))]
set_option maxHeartbeats 4000000 in
theorem d_counts_rounded (p0 : (Int × Int)) (p1 : Int) (K : (Int × Int) → Prop) (hp : ∀ p ∈ pre_counts_rounded p0 p1, p) (h : K (s_counts_rounded p0 p1)) : w_counts_rounded p0 p1 K := by
  unfold w_counts_rounded
  unfold s_counts_rounded at h
  obtain ⟨hp0, _⟩ := conj_of hp
  exact ⟨(hp0), (hp0), h⟩
abbrev con_counts_rounded : Con := ⟨P_counts_rounded, R_counts_rounded, fun x => pre_counts_rounded x.1 x.2, fun x => s_counts_rounded x.1 x.2⟩
theorem ok_counts_rounded : ConOk Try.prog 118 con_counts_rounded := ⟨k_counts_rounded, fun x hx => ret_tf (ps := P_counts_rounded) (rs := R_counts_rounded) (x := x) (y := s_counts_rounded x.1 x.2) e_counts_rounded hC_counts_rounded (tf_of (w_counts_rounded_eq x.1 x.2 (fun z => z = s_counts_rounded x.1 x.2)) (d_counts_rounded x.1 x.2 (fun z => z = s_counts_rounded x.1 x.2) hx rfl))⟩
/- counts_product -/
def C_counts_product : Cons := [(119, [], con_counts_times), (123, [], con_counts_sum), (118, [], con_counts_rounded)]
theorem hC_counts_product : ConsOk Try.prog C_counts_product := ConsOk.cons ok_counts_times <| ConsOk.cons ok_counts_sum <| ConsOk.cons ok_counts_rounded <| ConsOk.nil
def w_counts_product (p0 : M3) (p1 : R3) (p2 : Int) (K : R3 → Prop) : Prop :=
  (∃ n0, (loopP (fun (y1 : (Int × (Int × (Int × (Int × (Int × (Int × Int))))))) k2 =>
    ((((decide (y1.1 < (3 : Int))) = true) →
    (((0 : Int) ≤ y1.1) ∧
      ((y1.1 < (3 : Int)) ∧
      (∃ n3, (loopP (fun (y4 : (Int × (Int × (Int × (Int × (Int × (Int × Int))))))) k5 =>
        ((((decide (y4.1 < (3 : Int))) = true) →
        (((0 : Int) ≤ y4.1) ∧
          ((y4.1 < (3 : Int)) ∧
          (((0 : Int) ≤ y1.1) ∧
          ((y1.1 < (3 : Int)) ∧
          (((0 : Int) ≤ y4.1) ∧
          ((y4.1 < (3 : Int)) ∧
          (((0 : Int) ≤ y1.1) ∧
          ((y1.1 < (3 : Int)) ∧
          (k5 ((Go.IntKind.wrap .i64 (y4.1 + (1 : Int))), ((cond (decide (y1.1 = (0 : Int))) (s_counts_sum ((List.getD (y4.2.1 :: (y4.2.2.2.1 :: (y4.2.2.2.2.2.1 :: ([] : List Int)))) (Int.toNat y1.1) (0 : Int)), (List.getD (y4.2.2.1 :: (y4.2.2.2.2.1 :: (y4.2.2.2.2.2.2 :: ([] : List Int)))) (Int.toNat y1.1) (0 : Int))) (s_counts_times ((List.getD (p1.1.1 :: (p1.2.1.1 :: (p1.2.2.1 :: ([] : List Int)))) (Int.toNat y4.1) (0 : Int)), (List.getD (p1.1.2 :: (p1.2.1.2 :: (p1.2.2.2 :: ([] : List Int)))) (Int.toNat y4.1) (0 : Int))) (List.getD ((List.getD (p0.1.1 :: (p0.2.1.1 :: (p0.2.2.1 :: ([] : List Int)))) (Int.toNat y1.1) (0 : Int)) :: ((List.getD (p0.1.2.1 :: (p0.2.1.2.1 :: (p0.2.2.2.1 :: ([] : List Int)))) (Int.toNat y1.1) (0 : Int)) :: ((List.getD (p0.1.2.2 :: (p0.2.1.2.2 :: (p0.2.2.2.2 :: ([] : List Int)))) (Int.toNat y1.1) (0 : Int)) :: ([] : List Int)))) (Int.toNat y4.1) (0 : Int)))).1 y4.2.1), ((cond (decide (y1.1 = (0 : Int))) (s_counts_sum ((List.getD (y4.2.1 :: (y4.2.2.2.1 :: (y4.2.2.2.2.2.1 :: ([] : List Int)))) (Int.toNat y1.1) (0 : Int)), (List.getD (y4.2.2.1 :: (y4.2.2.2.2.1 :: (y4.2.2.2.2.2.2 :: ([] : List Int)))) (Int.toNat y1.1) (0 : Int))) (s_counts_times ((List.getD (p1.1.1 :: (p1.2.1.1 :: (p1.2.2.1 :: ([] : List Int)))) (Int.toNat y4.1) (0 : Int)), (List.getD (p1.1.2 :: (p1.2.1.2 :: (p1.2.2.2 :: ([] : List Int)))) (Int.toNat y4.1) (0 : Int))) (List.getD ((List.getD (p0.1.1 :: (p0.2.1.1 :: (p0.2.2.1 :: ([] : List Int)))) (Int.toNat y1.1) (0 : Int)) :: ((List.getD (p0.1.2.1 :: (p0.2.1.2.1 :: (p0.2.2.2.1 :: ([] : List Int)))) (Int.toNat y1.1) (0 : Int)) :: ((List.getD (p0.1.2.2 :: (p0.2.1.2.2 :: (p0.2.2.2.2 :: ([] : List Int)))) (Int.toNat y1.1) (0 : Int)) :: ([] : List Int)))) (Int.toNat y4.1) (0 : Int)))).2 y4.2.2.1), ((cond (decide (y1.1 = (1 : Int))) (s_counts_sum ((List.getD (y4.2.1 :: (y4.2.2.2.1 :: (y4.2.2.2.2.2.1 :: ([] : List Int)))) (Int.toNat y1.1) (0 : Int)), (List.getD (y4.2.2.1 :: (y4.2.2.2.2.1 :: (y4.2.2.2.2.2.2 :: ([] : List Int)))) (Int.toNat y1.1) (0 : Int))) (s_counts_times ((List.getD (p1.1.1 :: (p1.2.1.1 :: (p1.2.2.1 :: ([] : List Int)))) (Int.toNat y4.1) (0 : Int)), (List.getD (p1.1.2 :: (p1.2.1.2 :: (p1.2.2.2 :: ([] : List Int)))) (Int.toNat y4.1) (0 : Int))) (List.getD ((List.getD (p0.1.1 :: (p0.2.1.1 :: (p0.2.2.1 :: ([] : List Int)))) (Int.toNat y1.1) (0 : Int)) :: ((List.getD (p0.1.2.1 :: (p0.2.1.2.1 :: (p0.2.2.2.1 :: ([] : List Int)))) (Int.toNat y1.1) (0 : Int)) :: ((List.getD (p0.1.2.2 :: (p0.2.1.2.2 :: (p0.2.2.2.2 :: ([] : List Int)))) (Int.toNat y1.1) (0 : Int)) :: ([] : List Int)))) (Int.toNat y4.1) (0 : Int)))).1 y4.2.2.2.1), ((cond (decide (y1.1 = (1 : Int))) (s_counts_sum ((List.getD (y4.2.1 :: (y4.2.2.2.1 :: (y4.2.2.2.2.2.1 :: ([] : List Int)))) (Int.toNat y1.1) (0 : Int)), (List.getD (y4.2.2.1 :: (y4.2.2.2.2.1 :: (y4.2.2.2.2.2.2 :: ([] : List Int)))) (Int.toNat y1.1) (0 : Int))) (s_counts_times ((List.getD (p1.1.1 :: (p1.2.1.1 :: (p1.2.2.1 :: ([] : List Int)))) (Int.toNat y4.1) (0 : Int)), (List.getD (p1.1.2 :: (p1.2.1.2 :: (p1.2.2.2 :: ([] : List Int)))) (Int.toNat y4.1) (0 : Int))) (List.getD ((List.getD (p0.1.1 :: (p0.2.1.1 :: (p0.2.2.1 :: ([] : List Int)))) (Int.toNat y1.1) (0 : Int)) :: ((List.getD (p0.1.2.1 :: (p0.2.1.2.1 :: (p0.2.2.2.1 :: ([] : List Int)))) (Int.toNat y1.1) (0 : Int)) :: ((List.getD (p0.1.2.2 :: (p0.2.1.2.2 :: (p0.2.2.2.2 :: ([] : List Int)))) (Int.toNat y1.1) (0 : Int)) :: ([] : List Int)))) (Int.toNat y4.1) (0 : Int)))).2 y4.2.2.2.2.1), ((cond (decide (y1.1 = (2 : Int))) (s_counts_sum ((List.getD (y4.2.1 :: (y4.2.2.2.1 :: (y4.2.2.2.2.2.1 :: ([] : List Int)))) (Int.toNat y1.1) (0 : Int)), (List.getD (y4.2.2.1 :: (y4.2.2.2.2.1 :: (y4.2.2.2.2.2.2 :: ([] : List Int)))) (Int.toNat y1.1) (0 : Int))) (s_counts_times ((List.getD (p1.1.1 :: (p1.2.1.1 :: (p1.2.2.1 :: ([] : List Int)))) (Int.toNat y4.1) (0 : Int)), (List.getD (p1.1.2 :: (p1.2.1.2 :: (p1.2.2.2 :: ([] : List Int)))) (Int.toNat y4.1) (0 : Int))) (List.getD ((List.getD (p0.1.1 :: (p0.2.1.1 :: (p0.2.2.1 :: ([] : List Int)))) (Int.toNat y1.1) (0 : Int)) :: ((List.getD (p0.1.2.1 :: (p0.2.1.2.1 :: (p0.2.2.2.1 :: ([] : List Int)))) (Int.toNat y1.1) (0 : Int)) :: ((List.getD (p0.1.2.2 :: (p0.2.1.2.2 :: (p0.2.2.2.2 :: ([] : List Int)))) (Int.toNat y1.1) (0 : Int)) :: ([] : List Int)))) (Int.toNat y4.1) (0 : Int)))).1 y4.2.2.2.2.2.1), (cond (decide (y1.1 = (2 : Int))) (s_counts_sum ((List.getD (y4.2.1 :: (y4.2.2.2.1 :: (y4.2.2.2.2.2.1 :: ([] : List Int)))) (Int.toNat y1.1) (0 : Int)), (List.getD (y4.2.2.1 :: (y4.2.2.2.2.1 :: (y4.2.2.2.2.2.2 :: ([] : List Int)))) (Int.toNat y1.1) (0 : Int))) (s_counts_times ((List.getD (p1.1.1 :: (p1.2.1.1 :: (p1.2.2.1 :: ([] : List Int)))) (Int.toNat y4.1) (0 : Int)), (List.getD (p1.1.2 :: (p1.2.1.2 :: (p1.2.2.2 :: ([] : List Int)))) (Int.toNat y4.1) (0 : Int))) (List.getD ((List.getD (p0.1.1 :: (p0.2.1.1 :: (p0.2.2.1 :: ([] : List Int)))) (Int.toNat y1.1) (0 : Int)) :: ((List.getD (p0.1.2.1 :: (p0.2.1.2.1 :: (p0.2.2.2.1 :: ([] : List Int)))) (Int.toNat y1.1) (0 : Int)) :: ((List.getD (p0.1.2.2 :: (p0.2.1.2.2 :: (p0.2.2.2.2 :: ([] : List Int)))) (Int.toNat y1.1) (0 : Int)) :: ([] : List Int)))) (Int.toNat y4.1) (0 : Int)))).2 y4.2.2.2.2.2.2))))))))))))))))) ∧
        (((decide (y4.1 < (3 : Int))) = false) →
        (((0 : Int) ≤ y1.1) ∧
          ((y1.1 < (3 : Int)) ∧
          ((p2 ≠ (0 : Int)) ∧
          (((0 : Int) ≤ y1.1) ∧
          ((y1.1 < (3 : Int)) ∧
          (k2 ((Go.IntKind.wrap .i64 (y1.1 + (1 : Int))), ((cond (decide (y1.1 = (0 : Int))) (s_counts_rounded ((List.getD (y4.2.1 :: (y4.2.2.2.1 :: (y4.2.2.2.2.2.1 :: ([] : List Int)))) (Int.toNat y1.1) (0 : Int)), (List.getD (y4.2.2.1 :: (y4.2.2.2.2.1 :: (y4.2.2.2.2.2.2 :: ([] : List Int)))) (Int.toNat y1.1) (0 : Int))) p2).1 y4.2.1), ((cond (decide (y1.1 = (0 : Int))) (s_counts_rounded ((List.getD (y4.2.1 :: (y4.2.2.2.1 :: (y4.2.2.2.2.2.1 :: ([] : List Int)))) (Int.toNat y1.1) (0 : Int)), (List.getD (y4.2.2.1 :: (y4.2.2.2.2.1 :: (y4.2.2.2.2.2.2 :: ([] : List Int)))) (Int.toNat y1.1) (0 : Int))) p2).2 y4.2.2.1), ((cond (decide (y1.1 = (1 : Int))) (s_counts_rounded ((List.getD (y4.2.1 :: (y4.2.2.2.1 :: (y4.2.2.2.2.2.1 :: ([] : List Int)))) (Int.toNat y1.1) (0 : Int)), (List.getD (y4.2.2.1 :: (y4.2.2.2.2.1 :: (y4.2.2.2.2.2.2 :: ([] : List Int)))) (Int.toNat y1.1) (0 : Int))) p2).1 y4.2.2.2.1), ((cond (decide (y1.1 = (1 : Int))) (s_counts_rounded ((List.getD (y4.2.1 :: (y4.2.2.2.1 :: (y4.2.2.2.2.2.1 :: ([] : List Int)))) (Int.toNat y1.1) (0 : Int)), (List.getD (y4.2.2.1 :: (y4.2.2.2.2.1 :: (y4.2.2.2.2.2.2 :: ([] : List Int)))) (Int.toNat y1.1) (0 : Int))) p2).2 y4.2.2.2.2.1), ((cond (decide (y1.1 = (2 : Int))) (s_counts_rounded ((List.getD (y4.2.1 :: (y4.2.2.2.1 :: (y4.2.2.2.2.2.1 :: ([] : List Int)))) (Int.toNat y1.1) (0 : Int)), (List.getD (y4.2.2.1 :: (y4.2.2.2.2.1 :: (y4.2.2.2.2.2.2 :: ([] : List Int)))) (Int.toNat y1.1) (0 : Int))) p2).1 y4.2.2.2.2.2.1), (cond (decide (y1.1 = (2 : Int))) (s_counts_rounded ((List.getD (y4.2.1 :: (y4.2.2.2.1 :: (y4.2.2.2.2.2.1 :: ([] : List Int)))) (Int.toNat y1.1) (0 : Int)), (List.getD (y4.2.2.1 :: (y4.2.2.2.2.1 :: (y4.2.2.2.2.2.2 :: ([] : List Int)))) (Int.toNat y1.1) (0 : Int))) p2).2 y4.2.2.2.2.2.2)))))))))))))))) n3 ((0 : Int), y1.2)))))) ∧
    (((decide (y1.1 < (3 : Int))) = false) →
    (K ((y1.2.1, y1.2.2.1), ((y1.2.2.2.1, y1.2.2.2.2.1), y1.2.2.2.2.2)))))) n0 ((0 : Int), ((0 : Int), ((0 : Int), ((0 : Int), ((0 : Int), ((0 : Int), (0 : Int)))))))))
set_option maxHeartbeats 4000000 in
theorem w_counts_product_eq (p0 : M3) (p1 : R3) (p2 : Int) (K : R3 → Prop) : tfn F_counts_product A_counts_product C_counts_product P_counts_product R_counts_product (p0, p1, p2) K = w_counts_product p0 p1 p2 K := by kernel_rfl
def s_counts_product (p0 : M3) (p1 : R3) (p2 : Int) : R3 :=
  ((s_counts_rounded (s_counts_sum (s_counts_sum (s_counts_sum ((0 : Int), (0 : Int)) (s_counts_times p1.1 p0.1.1)) (s_counts_times p1.2.1 p0.1.2.1)) (s_counts_times p1.2.2 p0.1.2.2)) p2), ((s_counts_rounded (s_counts_sum (s_counts_sum (s_counts_sum ((0 : Int), (0 : Int)) (s_counts_times p1.1 p0.2.1.1)) (s_counts_times p1.2.1 p0.2.1.2.1)) (s_counts_times p1.2.2 p0.2.1.2.2)) p2), (s_counts_rounded (s_counts_sum (s_counts_sum (s_counts_sum ((0 : Int), (0 : Int)) (s_counts_times p1.1 p0.2.2.1)) (s_counts_times p1.2.1 p0.2.2.2.1)) (s_counts_times p1.2.2 p0.2.2.2.2)) p2)))
abbrev pre_counts_product (p0 : M3) (p1 : R3) (p2 : Int) : List Prop := [(p2 ≠ (0 : Int))]
set_option maxHeartbeats 4000000 in
theorem d_counts_product (p0 : M3) (p1 : R3) (p2 : Int) (K : R3 → Prop) (hp : ∀ p ∈ pre_counts_product p0 p1 p2, p) (h : K (s_counts_product p0 p1 p2)) : w_counts_product p0 p1 p2 K := by
  unfold w_counts_product
  unfold s_counts_product at h
  obtain ⟨hp0, _⟩ := conj_of hp
  exact ⟨31, fun _ => ⟨(od rfl), (od rfl), 31, fun _ => ⟨(od rfl), (od rfl), (od rfl), (od rfl), (od rfl), (od rfl), (od rfl), (od rfl), fun _ => ⟨(od rfl), (od rfl), (od rfl), (od rfl), (od rfl), (od rfl), (od rfl), (od rfl), fun _ => ⟨(od rfl), (od rfl), (od rfl), (od rfl), (od rfl), (od rfl), (od rfl), (od rfl), nof, fun _ => ⟨(od rfl), (od rfl), (hp0), (od rfl), (od rfl), fun _ => ⟨(od rfl), (od rfl), 31, fun _ => ⟨(od rfl), (od rfl), (od rfl), (od rfl), (od rfl), (od rfl), (od rfl), (od rfl), fun _ => ⟨(od rfl), (od rfl), (od rfl), (od rfl), (od rfl), (od rfl), (od rfl), (od rfl), fun _ => ⟨(od rfl), (od rfl), (od rfl), (od rfl), (od rfl), (od rfl), (od rfl), (od rfl), nof, fun _ => ⟨(od rfl), (od rfl), (hp0), (od rfl), (od rfl), fun _ => ⟨(od rfl), (od rfl), 31, fun _ => ⟨(od rfl), (od rfl), (od rfl), (od rfl), (od rfl), (od rfl), (od rfl), (od rfl), fun _ => ⟨(od rfl), (od rfl), (od rfl), (od rfl), (od rfl), (od rfl), (od rfl), (od rfl), fun _ => ⟨(od rfl), (od rfl), (od rfl), (od rfl), (od rfl), (od rfl), (od rfl), (od rfl), nof, fun _ => ⟨(od rfl), (od rfl), (hp0), (od rfl), (od rfl), nof, fun _ => h⟩⟩, fun e => Bool.noConfusion (show true = false from e)⟩, fun e => Bool.noConfusion (show true = false from e)⟩, fun e => Bool.noConfusion (show true = false from e)⟩, fun e => Bool.noConfusion (show true = false from e)⟩⟩, fun e => Bool.noConfusion (show true = false from e)⟩, fun e => Bool.noConfusion (show true = false from e)⟩, fun e => Bool.noConfusion (show true = false from e)⟩, fun e => Bool.noConfusion (show true = false from e)⟩⟩, fun e => Bool.noConfusion (show true = false from e)⟩, fun e => Bool.noConfusion (show true = false from e)⟩, fun e => Bool.noConfusion (show true = false from e)⟩, fun e => Bool.noConfusion (show true = false from e)⟩
abbrev con_counts_product : Con := ⟨P_counts_product, R_counts_product, fun x => pre_counts_product x.1 x.2.1 x.2.2, fun x => s_counts_product x.1 x.2.1 x.2.2⟩
theorem ok_counts_product : ConOk Try.prog 98 con_counts_product := ⟨k_counts_product, fun x hx => ret_tf (ps := P_counts_product) (rs := R_counts_product) (x := x) (y := s_counts_product x.1 x.2.1 x.2.2) e_counts_product hC_counts_product (tf_of (w_counts_product_eq x.1 x.2.1 x.2.2 (fun z => z = s_counts_product x.1 x.2.1 x.2.2)) (d_counts_product x.1 x.2.1 x.2.2 (fun z => z = s_counts_product x.1 x.2.1 x.2.2) hx rfl))⟩
/- counts_Mixed -/
def C_counts_Mixed : Cons := [(97, [], con_counts_openValues), (98, [], con_counts_product)]
theorem hC_counts_Mixed : ConsOk Try.prog C_counts_Mixed := ConsOk.cons ok_counts_openValues <| ConsOk.cons ok_counts_product <| ConsOk.nil
def w_counts_Mixed (p0 : CR) (p1 : R3) (K : (R3 × Int) → Prop) : Prop :=
  (((((cond ((s_counts_CheckRules p0).2 != (0 : Int)) (s_counts_CheckRules p0).2 (v_vals p1)) != (0 : Int)) = true) →
  (K ((((0 : Int), (0 : Int)), (((0 : Int), (0 : Int)), ((0 : Int), (0 : Int)))), (cond ((s_counts_CheckRules p0).2 != (0 : Int)) (s_counts_CheckRules p0).2 (v_vals p1))))) ∧
  ((((cond ((s_counts_CheckRules p0).2 != (0 : Int)) (s_counts_CheckRules p0).2 (v_vals p1)) != (0 : Int)) = false) →
  (((1000 : Int) ≠ (0 : Int)) ∧
    (K ((s_counts_product p0.2.2.2.2.2.2.2.1 p1 (1000 : Int)), (0 : Int))))))
set_option maxHeartbeats 4000000 in
theorem w_counts_Mixed_eq (p0 : CR) (p1 : R3) (K : (R3 × Int) → Prop) : tfn F_counts_Mixed A_counts_Mixed C_counts_Mixed P_counts_Mixed R_counts_Mixed (p0, p1) K = w_counts_Mixed p0 p1 K := by kernel_rfl
def s_counts_Mixed (p0 : CR) (p1 : R3) : (R3 × Int) :=
  (cond ((cond ((s_counts_CheckRules p0).2 != (0 : Int)) (s_counts_CheckRules p0).2 (v_vals p1)) != (0 : Int)) ((((0 : Int), (0 : Int)), (((0 : Int), (0 : Int)), ((0 : Int), (0 : Int)))), (cond ((s_counts_CheckRules p0).2 != (0 : Int)) (s_counts_CheckRules p0).2 (v_vals p1)))
    ((s_counts_product p0.2.2.2.2.2.2.2.1 p1 (1000 : Int)), (0 : Int)))
abbrev pre_counts_Mixed (p0 : CR) (p1 : R3) : List Prop := []
set_option maxHeartbeats 4000000 in
theorem d_counts_Mixed (p0 : CR) (p1 : R3) (K : (R3 × Int) → Prop) (hp : ∀ p ∈ pre_counts_Mixed p0 p1, p) (h : K (s_counts_Mixed p0 p1)) : w_counts_Mixed p0 p1 K := by
  unfold w_counts_Mixed
  unfold s_counts_Mixed at h
  exact (br' h (fun e0 h => h)
    (fun e0 h => ⟨(od rfl), h⟩))
abbrev con_counts_Mixed : Con := ⟨P_counts_Mixed, R_counts_Mixed, fun x => pre_counts_Mixed x.1 x.2, fun x => s_counts_Mixed x.1 x.2⟩
theorem ok_counts_Mixed : ConOk Try.prog 42 con_counts_Mixed := ⟨k_counts_Mixed, fun x hx => ret_tf (ps := P_counts_Mixed) (rs := R_counts_Mixed) (x := x) (y := s_counts_Mixed x.1 x.2) e_counts_Mixed hC_counts_Mixed (tf_of (w_counts_Mixed_eq x.1 x.2 (fun z => z = s_counts_Mixed x.1 x.2)) (d_counts_Mixed x.1 x.2 (fun z => z = s_counts_Mixed x.1 x.2) hx rfl))⟩
/- counts_rules_stripped -/
def C_counts_rules_stripped : Cons := [(96, [], con_counts_rules_inverse), (98, [], con_counts_product)]
theorem hC_counts_rules_stripped : ConsOk Try.prog C_counts_rules_stripped := ConsOk.cons ok_counts_rules_inverse <| ConsOk.cons ok_counts_product <| ConsOk.nil
def w_counts_rules_stripped (p0 : CR) (p1 : R3) (K : R3 → Prop) : Prop :=
  ((v_rules p0) ∧
  (((v_inv p0).2 ≠ (0 : Int)) ∧
  (K (s_counts_product (v_inv p0).1 p1 (v_inv p0).2))))
set_option maxHeartbeats 4000000 in
theorem w_counts_rules_stripped_eq (p0 : CR) (p1 : R3) (K : R3 → Prop) : tfn F_counts_rules_stripped A_counts_rules_stripped C_counts_rules_stripped P_counts_rules_stripped R_counts_rules_stripped (p0, p1) K = w_counts_rules_stripped p0 p1 K := by kernel_rfl
def s_counts_rules_stripped (p0 : CR) (p1 : R3) : R3 :=
  (s_counts_product (v_inv p0).1 p1 (v_inv p0).2)
abbrev pre_counts_rules_stripped (p0 : CR) (p1 : R3) : List Prop := [(v_rules p0),
    ((v_inv p0).2 ≠ (0 : Int))]
set_option maxHeartbeats 4000000 in
theorem d_counts_rules_stripped (p0 : CR) (p1 : R3) (K : R3 → Prop) (hp : ∀ p ∈ pre_counts_rules_stripped p0 p1, p) (h : K (s_counts_rules_stripped p0 p1)) : w_counts_rules_stripped p0 p1 K := by
  unfold w_counts_rules_stripped
  unfold s_counts_rules_stripped at h
  obtain ⟨hp0, hp1, _⟩ := conj_of hp
  exact ⟨(hp0), (hp1), h⟩
theorem tx_invden {r : CR} (h : v_rules r) : 1 ≤ (v_inv r).2 := by
  have hc := tx_inv0 (tx_mat h)
  have hd := v_div_in hc.den.1
  show 1 ≤ (v_inv0 r.2.2.2.2.2.2.2.1).2.tdiv (v_div (v_inv0 r.2.2.2.2.2.2.2.1))
  rw [Int.tdiv_eq_ediv_of_nonneg (by omega)]
  exact Int.le_ediv_of_mul_le (by omega) (by omega)
abbrev qre_counts_rules_stripped (p0 : CR) (_ : R3) : List Prop := [v_rules p0]
theorem pp_counts_rules_stripped (p0 : CR) (p1 : R3) (hq : ∀ p ∈ qre_counts_rules_stripped p0 p1, p) : ∀ p ∈ pre_counts_rules_stripped p0 p1, p := by
  have hv := (conj_of hq).1
  have := tx_invden hv
  intro p hp
  simp only [pre_counts_rules_stripped, List.mem_cons, List.not_mem_nil, or_false] at hp
  rcases hp with rfl | rfl
  · exact hv
  · omega

abbrev con_counts_rules_stripped : Con := ⟨P_counts_rules_stripped, R_counts_rules_stripped, fun x => qre_counts_rules_stripped x.1 x.2, fun x => s_counts_rules_stripped x.1 x.2⟩
theorem ok_counts_rules_stripped : ConOk Try.prog 99 con_counts_rules_stripped := ⟨k_counts_rules_stripped, fun x hx => ret_tf (ps := P_counts_rules_stripped) (rs := R_counts_rules_stripped) (x := x) (y := s_counts_rules_stripped x.1 x.2) e_counts_rules_stripped hC_counts_rules_stripped (tf_of (w_counts_rules_stripped_eq x.1 x.2 (fun z => z = s_counts_rules_stripped x.1 x.2)) (d_counts_rules_stripped x.1 x.2 (fun z => z = s_counts_rules_stripped x.1 x.2) (pp_counts_rules_stripped x.1 x.2 hx) rfl))⟩
/- counts_StrippedOf -/
def C_counts_StrippedOf : Cons := [(97, [], con_counts_openValues), (99, [], con_counts_rules_stripped)]
theorem hC_counts_StrippedOf : ConsOk Try.prog C_counts_StrippedOf := ConsOk.cons ok_counts_openValues <| ConsOk.cons ok_counts_rules_stripped <| ConsOk.nil
def w_counts_StrippedOf (p0 : CR) (p1 : R3) (K : (R3 × Int) → Prop) : Prop :=
  (((((cond ((s_counts_CheckRules p0).2 != (0 : Int)) (s_counts_CheckRules p0).2 (v_vals p1)) != (0 : Int)) = true) →
  (K ((((0 : Int), (0 : Int)), (((0 : Int), (0 : Int)), ((0 : Int), (0 : Int)))), (cond ((s_counts_CheckRules p0).2 != (0 : Int)) (s_counts_CheckRules p0).2 (v_vals p1))))) ∧
  ((((cond ((s_counts_CheckRules p0).2 != (0 : Int)) (s_counts_CheckRules p0).2 (v_vals p1)) != (0 : Int)) = false) →
  ((v_rules p0) ∧
    (K ((s_counts_rules_stripped p0 p1), (0 : Int))))))
set_option maxHeartbeats 4000000 in
theorem w_counts_StrippedOf_eq (p0 : CR) (p1 : R3) (K : (R3 × Int) → Prop) : tfn F_counts_StrippedOf A_counts_StrippedOf C_counts_StrippedOf P_counts_StrippedOf R_counts_StrippedOf (p0, p1) K = w_counts_StrippedOf p0 p1 K := by kernel_rfl
def s_counts_StrippedOf (p0 : CR) (p1 : R3) : (R3 × Int) :=
  (cond ((cond ((s_counts_CheckRules p0).2 != (0 : Int)) (s_counts_CheckRules p0).2 (v_vals p1)) != (0 : Int)) ((((0 : Int), (0 : Int)), (((0 : Int), (0 : Int)), ((0 : Int), (0 : Int)))), (cond ((s_counts_CheckRules p0).2 != (0 : Int)) (s_counts_CheckRules p0).2 (v_vals p1)))
    ((s_counts_rules_stripped p0 p1), (0 : Int)))
abbrev pre_counts_StrippedOf (p0 : CR) (p1 : R3) : List Prop := [((((cond ((s_counts_CheckRules p0).2 != (0 : Int)) (s_counts_CheckRules p0).2 (v_vals p1)) != (0 : Int)) = false) → (v_rules p0))]
set_option maxHeartbeats 4000000 in
theorem d_counts_StrippedOf (p0 : CR) (p1 : R3) (K : (R3 × Int) → Prop) (hp : ∀ p ∈ pre_counts_StrippedOf p0 p1, p) (h : K (s_counts_StrippedOf p0 p1)) : w_counts_StrippedOf p0 p1 K := by
  unfold w_counts_StrippedOf
  unfold s_counts_StrippedOf at h
  obtain ⟨hp0, _⟩ := conj_of hp
  exact (br' h (fun e0 h => h)
    (fun e0 h => ⟨(hp0 e0), h⟩))
abbrev con_counts_StrippedOf : Con := ⟨P_counts_StrippedOf, R_counts_StrippedOf, fun x => pre_counts_StrippedOf x.1 x.2, fun x => s_counts_StrippedOf x.1 x.2⟩
theorem ok_counts_StrippedOf : ConOk Try.prog 43 con_counts_StrippedOf := ⟨k_counts_StrippedOf, fun x hx => ret_tf (ps := P_counts_StrippedOf) (rs := R_counts_StrippedOf) (x := x) (y := s_counts_StrippedOf x.1 x.2) e_counts_StrippedOf hC_counts_StrippedOf (tf_of (w_counts_StrippedOf_eq x.1 x.2 (fun z => z = s_counts_StrippedOf x.1 x.2)) (d_counts_StrippedOf x.1 x.2 (fun z => z = s_counts_StrippedOf x.1 x.2) hx rfl))⟩
/- ref06_ValueErr -/
def C_ref06_ValueErr : Cons := [(40, [], con_base_Within)]
theorem hC_ref06_ValueErr : ConsOk Try.prog C_ref06_ValueErr := ConsOk.cons ok_base_Within <| ConsOk.nil
def w_ref06_ValueErr (p0 : (Int × Int)) (K : Int → Prop) : Prop :=
  ((((!(s_base_Within p0.1 (-1000000000 : Int) (1000000000 : Int))) = false) →
  ((!(s_base_Within p0.1 (-1000000000 : Int) (1000000000 : Int))) = (!(s_base_Within p0.1 (-1000000000 : Int) (1000000000 : Int))))) ∧
  ((((!(s_base_Within p0.1 (-1000000000 : Int) (1000000000 : Int))) = false) →
  ((!(s_base_Within p0.1 (-1000000000 : Int) (1000000000 : Int))) = (!(s_base_Within p0.1 (-1000000000 : Int) (1000000000 : Int))))) ∧
  ((((!(s_base_Within p0.1 (-1000000000 : Int) (1000000000 : Int))) = false) →
  ((!(s_base_Within p0.1 (-1000000000 : Int) (1000000000 : Int))) = (!(s_base_Within p0.1 (-1000000000 : Int) (1000000000 : Int))))) ∧
  (((!(s_base_Within p0.1 (-1000000000 : Int) (1000000000 : Int))) = (!(s_base_Within p0.1 (-1000000000 : Int) (1000000000 : Int)))) ∧
  ((((cond (!(s_base_Within p0.1 (-1000000000 : Int) (1000000000 : Int))) true (!(s_base_Within p0.2 (-1000000000 : Int) (1000000000 : Int)))) = true) →
  (K (2 : Int))) ∧
  (((cond (!(s_base_Within p0.1 (-1000000000 : Int) (1000000000 : Int))) true (!(s_base_Within p0.2 (-1000000000 : Int) (1000000000 : Int)))) = false) →
  ((((decide (p0.1 > p0.2)) = true) →
    (K (9 : Int))) ∧
    (((decide (p0.1 > p0.2)) = false) →
    (K (0 : Int))))))))))
set_option maxHeartbeats 4000000 in
theorem w_ref06_ValueErr_eq (p0 : (Int × Int)) (K : Int → Prop) : tfn F_ref06_ValueErr A_ref06_ValueErr C_ref06_ValueErr P_ref06_ValueErr R_ref06_ValueErr p0 K = w_ref06_ValueErr p0 K := by kernel_rfl
def s_ref06_ValueErr (p0 : (Int × Int)) : Int :=
  (cond (cond (!(s_base_Within p0.1 (-1000000000 : Int) (1000000000 : Int))) true (!(s_base_Within p0.2 (-1000000000 : Int) (1000000000 : Int)))) (2 : Int)
    (cond (decide (p0.1 > p0.2)) (9 : Int)
    (0 : Int)))
abbrev pre_ref06_ValueErr (p0 : (Int × Int)) : List Prop := []
set_option maxHeartbeats 4000000 in
theorem d_ref06_ValueErr (p0 : (Int × Int)) (K : Int → Prop) (hp : ∀ p ∈ pre_ref06_ValueErr p0, p) (h : K (s_ref06_ValueErr p0)) : w_ref06_ValueErr p0 K := by
  unfold w_ref06_ValueErr
  unfold s_ref06_ValueErr at h
  exact ⟨rf, rf, rf, rfl, (br' h (fun e0 h => h)
    (fun e0 h => (br' h (fun e1 h => h)
    (fun e1 h => h))))⟩
abbrev t_ref06_ValueErr (p0 : Int × Int) : Int := s_counts_valueErr p0
abbrev qre_ref06_ValueErr (_ : Int × Int) : List Prop := []
theorem pp_ref06_ValueErr (p0 : Int × Int) (_ : ∀ p ∈ qre_ref06_ValueErr p0, p) : ∀ p ∈ pre_ref06_ValueErr p0, p := by
  intro p hp
  simp only [pre_ref06_ValueErr, List.not_mem_nil] at hp
theorem tt_ref06_ValueErr (p0 : Int × Int) (_ : ∀ p ∈ qre_ref06_ValueErr p0, p) : s_ref06_ValueErr p0 = t_ref06_ValueErr p0 := by
  have e : t_ref06_ValueErr p0 = s_counts_first (s_counts_unless (cond (s_counts_within p0.1 (-1000000000) 1000000000) (s_counts_within p0.2 (-1000000000) 1000000000) false) 2 :: s_counts_unless (decide (p0.1 ≤ p0.2)) 9 :: []) := rfl
  rw [e]
  unfold s_ref06_ValueErr
  rw [tx_err _ _ _ (by decide), tx_err _ _ _ (by decide), tx_eqw, tx_eqw]
  have e1 : decide (p0.1 ≤ p0.2) = !decide (p0.1 > p0.2) := by by_cases h : p0.1 > p0.2 <;> simp [h] <;> omega
  rw [e1]
  cases s_counts_within p0.1 (-1000000000) 1000000000 <;> cases s_counts_within p0.2 (-1000000000) 1000000000 <;> cases decide (p0.1 > p0.2) <;> rfl

abbrev con_ref06_ValueErr : Con := ⟨P_ref06_ValueErr, R_ref06_ValueErr, fun x => qre_ref06_ValueErr x, fun x => t_ref06_ValueErr x⟩
theorem ok_ref06_ValueErr : ConOk Try.prog 64 con_ref06_ValueErr := ⟨k_ref06_ValueErr, fun x hx => ret_tf (ps := P_ref06_ValueErr) (rs := R_ref06_ValueErr) (x := x) (y := t_ref06_ValueErr x) e_ref06_ValueErr hC_ref06_ValueErr (tf_of (w_ref06_ValueErr_eq x (fun z => z = t_ref06_ValueErr x)) (d_ref06_ValueErr x (fun z => z = t_ref06_ValueErr x) (pp_ref06_ValueErr x hx) (tt_ref06_ValueErr x hx)))⟩
/- ref06_ValuesErr -/
def C_ref06_ValuesErr : Cons := [(64, [], con_ref06_ValueErr)]
theorem hC_ref06_ValuesErr : ConsOk Try.prog C_ref06_ValuesErr := ConsOk.cons ok_ref06_ValueErr <| ConsOk.nil
def w_ref06_ValuesErr (p0 : R3) (K : Int → Prop) : Prop :=
  (∃ n0, (loopP (fun (y1 : Int) k2 =>
    ((((decide (y1 < (3 : Int))) = true) →
    (((0 : Int) ≤ y1) ∧
      ((y1 < (3 : Int)) ∧
      (((((s_counts_valueErr ((List.getD (p0.1.1 :: (p0.2.1.1 :: (p0.2.2.1 :: ([] : List Int)))) (Int.toNat y1) (0 : Int)), (List.getD (p0.1.2 :: (p0.2.1.2 :: (p0.2.2.2 :: ([] : List Int)))) (Int.toNat y1) (0 : Int)))) != (0 : Int)) = true) →
      (K (s_counts_valueErr ((List.getD (p0.1.1 :: (p0.2.1.1 :: (p0.2.2.1 :: ([] : List Int)))) (Int.toNat y1) (0 : Int)), (List.getD (p0.1.2 :: (p0.2.1.2 :: (p0.2.2.2 :: ([] : List Int)))) (Int.toNat y1) (0 : Int)))))) ∧
      ((((s_counts_valueErr ((List.getD (p0.1.1 :: (p0.2.1.1 :: (p0.2.2.1 :: ([] : List Int)))) (Int.toNat y1) (0 : Int)), (List.getD (p0.1.2 :: (p0.2.1.2 :: (p0.2.2.2 :: ([] : List Int)))) (Int.toNat y1) (0 : Int)))) != (0 : Int)) = false) →
      (k2 (Go.IntKind.wrap .i64 (y1 + (1 : Int))))))))) ∧
    (((decide (y1 < (3 : Int))) = false) →
    (K (0 : Int))))) n0 (0 : Int)))
set_option maxHeartbeats 4000000 in
theorem w_ref06_ValuesErr_eq (p0 : R3) (K : Int → Prop) : tfn F_ref06_ValuesErr A_ref06_ValuesErr C_ref06_ValuesErr P_ref06_ValuesErr R_ref06_ValuesErr p0 K = w_ref06_ValuesErr p0 K := by kernel_rfl
def s_ref06_ValuesErr (p0 : R3) : Int :=
  (cond ((s_counts_valueErr p0.1) != (0 : Int)) (s_counts_valueErr p0.1)
    (cond ((s_counts_valueErr p0.2.1) != (0 : Int)) (s_counts_valueErr p0.2.1)
    (cond ((s_counts_valueErr p0.2.2) != (0 : Int)) (s_counts_valueErr p0.2.2)
    (0 : Int))))
abbrev pre_ref06_ValuesErr (p0 : R3) : List Prop := []
set_option maxHeartbeats 4000000 in
theorem d_ref06_ValuesErr (p0 : R3) (K : Int → Prop) (hp : ∀ p ∈ pre_ref06_ValuesErr p0, p) (h : K (s_ref06_ValuesErr p0)) : w_ref06_ValuesErr p0 K := by
  unfold w_ref06_ValuesErr
  unfold s_ref06_ValuesErr at h
  exact ⟨31, fun _ => ⟨(od rfl), (od rfl), (br' h (fun e0 h => h)
    (fun e0 h => ⟨fun _ => ⟨(od rfl), (od rfl), (br' h (fun e1 h => h)
    (fun e1 h => ⟨fun _ => ⟨(od rfl), (od rfl), (br' h (fun e2 h => h)
    (fun e2 h => ⟨nof, fun _ => h⟩))⟩, fun e => Bool.noConfusion (show true = false from e)⟩))⟩, fun e => Bool.noConfusion (show true = false from e)⟩))⟩, fun e => Bool.noConfusion (show true = false from e)⟩
abbrev t_ref06_ValuesErr (p0 : R3) : Int := v_vals p0
abbrev qre_ref06_ValuesErr (_ : R3) : List Prop := []
theorem pp_ref06_ValuesErr (p0 : R3) (_ : ∀ p ∈ qre_ref06_ValuesErr p0, p) : ∀ p ∈ pre_ref06_ValuesErr p0, p := by
  intro p hp
  simp only [pre_ref06_ValuesErr, List.not_mem_nil] at hp
theorem tt_ref06_ValuesErr (p0 : R3) (_ : ∀ p ∈ qre_ref06_ValuesErr p0, p) : s_ref06_ValuesErr p0 = t_ref06_ValuesErr p0 := by
  unfold s_ref06_ValuesErr t_ref06_ValuesErr v_vals
  have z : s_counts_first [] = 0 := rfl
  simp only [tx_first_cons, z, tx_self]

abbrev con_ref06_ValuesErr : Con := ⟨P_ref06_ValuesErr, R_ref06_ValuesErr, fun x => qre_ref06_ValuesErr x, fun x => t_ref06_ValuesErr x⟩
theorem ok_ref06_ValuesErr : ConOk Try.prog 44 con_ref06_ValuesErr := ⟨k_ref06_ValuesErr, fun x hx => ret_tf (ps := P_ref06_ValuesErr) (rs := R_ref06_ValuesErr) (x := x) (y := t_ref06_ValuesErr x) e_ref06_ValuesErr hC_ref06_ValuesErr (tf_of (w_ref06_ValuesErr_eq x (fun z => z = t_ref06_ValuesErr x)) (d_ref06_ValuesErr x (fun z => z = t_ref06_ValuesErr x) (pp_ref06_ValuesErr x hx) (tt_ref06_ValuesErr x hx)))⟩
/- law06_CountsKept -/
def C_law06_CountsKept : Cons := [(14, [], con_law06_awake), (15, [], con_law06_fewKnots), (23, [], con_ref06_RulesErr), (40, [], con_base_Within), (17, [], con_ref06_CopyRules), (41, [], con_counts_InverseOf), (42, [], con_counts_Mixed), (43, [], con_counts_StrippedOf), (44, [], con_ref06_ValuesErr)]
theorem hC_law06_CountsKept : ConsOk Try.prog C_law06_CountsKept := ConsOk.cons ok_law06_awake <| ConsOk.cons ok_law06_fewKnots <| ConsOk.cons ok_ref06_RulesErr <| ConsOk.cons ok_base_Within <| ConsOk.cons ok_ref06_CopyRules <| ConsOk.cons ok_counts_InverseOf <| ConsOk.cons ok_counts_Mixed <| ConsOk.cons ok_counts_StrippedOf <| ConsOk.cons ok_ref06_ValuesErr <| ConsOk.nil
abbrev q0_law06_CountsKept (p0 : CR) (p1 : (Int × (Int × Int))) := (s_counts_Mixed p0 ((p1.1, p1.1), ((p1.2.1, p1.2.1), (p1.2.2, p1.2.2))))
abbrev q1_law06_CountsKept (p0 : CR) (p1 : (Int × (Int × Int))) := ((s_counts_StrippedOf p0 (q0_law06_CountsKept p0 p1).1).1.1.1 :: ((s_counts_StrippedOf p0 (q0_law06_CountsKept p0 p1).1).1.2.1.1 :: ((s_counts_StrippedOf p0 (q0_law06_CountsKept p0 p1).1).1.2.2.1 :: ([] : List Int))))
abbrev q2_law06_CountsKept (p0 : CR) (p1 : (Int × (Int × Int))) := ((s_counts_StrippedOf p0 (q0_law06_CountsKept p0 p1).1).1.1.2 :: ((s_counts_StrippedOf p0 (q0_law06_CountsKept p0 p1).1).1.2.1.2 :: ((s_counts_StrippedOf p0 (q0_law06_CountsKept p0 p1).1).1.2.2.2 :: ([] : List Int))))
abbrev q13_law06_CountsKept (p0 : CR) (p1 : (Int × (Int × Int))) := (cond ((s_counts_InverseOf p0).2 != (0 : Int)) true ((q0_law06_CountsKept p0 p1).2 != (0 : Int)))
abbrev q9_law06_CountsKept (p0 : CR) (p1 : (Int × (Int × Int))) := (s_counts_StrippedOf p0 ((p1.1, p1.1), ((p1.2.1, p1.2.1), (p1.2.2, p1.2.2))))
abbrev q3_law06_CountsKept (p0 : CR) (p1 : (Int × (Int × Int))) := (cond (q13_law06_CountsKept p0 p1) true ((q9_law06_CountsKept p0 p1).2 != (0 : Int)))
abbrev q12_law06_CountsKept (p0 : CR) := (cond (!(s_law06_fewKnots p0)) true ((s_counts_CheckRules p0).2 != (0 : Int)))
abbrev q4_law06_CountsKept (p0 : CR) (p1 : (Int × (Int × Int))) := (cond (q12_law06_CountsKept p0) true (!(s_base_Within p1.1 (-100000000 : Int) (100000000 : Int))))
abbrev q5_law06_CountsKept (p0 : CR) (p1 : (Int × (Int × Int))) := ((q0_law06_CountsKept p0 p1).1.1.1 + (q0_law06_CountsKept p0 p1).1.2.1.1)
abbrev q6_law06_CountsKept (p0 : CR) (p1 : (Int × (Int × Int))) := ((q0_law06_CountsKept p0 p1).1.1.2 + (q0_law06_CountsKept p0 p1).1.2.1.2)
abbrev q7_law06_CountsKept (p0 : CR) (p1 : (Int × (Int × Int))) := (cond ((s_counts_StrippedOf p0 (q0_law06_CountsKept p0 p1).1).2 != (0 : Int)) true ((s_counts_Mixed p0 (q9_law06_CountsKept p0 p1).1).2 != (0 : Int)))
abbrev q8_law06_CountsKept (p0 : CR) (p1 : (Int × (Int × Int))) := (cond (q4_law06_CountsKept p0 p1) true (!(s_base_Within p1.2.1 (-100000000 : Int) (100000000 : Int))))
abbrev q10_law06_CountsKept (p0 : CR) (p1 : (Int × (Int × Int))) := (cond (q3_law06_CountsKept p0 p1) true ((v_vals (q0_law06_CountsKept p0 p1).1) != (0 : Int)))
abbrev q11_law06_CountsKept (p1 : (Int × (Int × Int))) := (p1.1 :: (p1.2.1 :: (p1.2.2 :: ([] : List Int))))
def w_law06_CountsKept (p0 : CR) (p1 : (Int × (Int × Int))) (K : Bool → Prop) : Prop :=
  ((((!(s_law06_awake)) = true) →
  (K false)) ∧
  (((!(s_law06_awake)) = false) →
  ((((!(s_law06_fewKnots p0)) = false) →
    ((!(s_law06_fewKnots p0)) = (!(s_law06_fewKnots p0)))) ∧
    ((((!(s_law06_fewKnots p0)) = false) →
    ((!(s_law06_fewKnots p0)) = (!(s_law06_fewKnots p0)))) ∧
    (((!(s_law06_fewKnots p0)) = (!(s_law06_fewKnots p0))) ∧
    ((((q12_law06_CountsKept p0) = false) →
    ((q12_law06_CountsKept p0) = (q12_law06_CountsKept p0))) ∧
    ((((q12_law06_CountsKept p0) = false) →
    ((q12_law06_CountsKept p0) = (q12_law06_CountsKept p0))) ∧
    ((((q12_law06_CountsKept p0) = false) →
    ((q12_law06_CountsKept p0) = (q12_law06_CountsKept p0))) ∧
    (((q12_law06_CountsKept p0) = (q12_law06_CountsKept p0)) ∧
    ((((q4_law06_CountsKept p0 p1) = false) →
    ((q4_law06_CountsKept p0 p1) = (q4_law06_CountsKept p0 p1))) ∧
    ((((q4_law06_CountsKept p0 p1) = false) →
    ((q4_law06_CountsKept p0 p1) = (q4_law06_CountsKept p0 p1))) ∧
    ((((q4_law06_CountsKept p0 p1) = false) →
    ((q4_law06_CountsKept p0 p1) = (q4_law06_CountsKept p0 p1))) ∧
    (((q4_law06_CountsKept p0 p1) = (q4_law06_CountsKept p0 p1)) ∧
    ((((q8_law06_CountsKept p0 p1) = false) →
    ((q8_law06_CountsKept p0 p1) = (q8_law06_CountsKept p0 p1))) ∧
    ((((q8_law06_CountsKept p0 p1) = false) →
    ((q8_law06_CountsKept p0 p1) = (q8_law06_CountsKept p0 p1))) ∧
    ((((q8_law06_CountsKept p0 p1) = false) →
    ((q8_law06_CountsKept p0 p1) = (q8_law06_CountsKept p0 p1))) ∧
    (((q8_law06_CountsKept p0 p1) = (q8_law06_CountsKept p0 p1)) ∧
    ((((cond (q8_law06_CountsKept p0 p1) true (!(s_base_Within p1.2.2 (-100000000 : Int) (100000000 : Int)))) = true) →
    (K true)) ∧
    (((cond (q8_law06_CountsKept p0 p1) true (!(s_base_Within p1.2.2 (-100000000 : Int) (100000000 : Int)))) = false) →
    (((List.length p0.2.2.2.2.2.2.2.2) ≤ 10) ∧
      (((((s_counts_CheckRules p0).2 != (0 : Int)) = false) →
      (v_rules p0)) ∧
      (((List.length p0.2.2.2.2.2.2.2.2) ≤ 10) ∧
      (((List.length p0.2.2.2.2.2.2.2.2) ≤ 10) ∧
      (((((cond ((s_counts_CheckRules p0).2 != (0 : Int)) (s_counts_CheckRules p0).2 (v_vals ((p1.1, p1.1), ((p1.2.1, p1.2.1), (p1.2.2, p1.2.2))))) != (0 : Int)) = false) →
      (v_rules p0)) ∧
      (((((s_counts_InverseOf p0).2 != (0 : Int)) = false) →
      (((s_counts_InverseOf p0).2 != (0 : Int)) = ((s_counts_InverseOf p0).2 != (0 : Int)))) ∧
      ((((s_counts_InverseOf p0).2 != (0 : Int)) = ((s_counts_InverseOf p0).2 != (0 : Int))) ∧
      ((((q13_law06_CountsKept p0 p1) = false) →
      ((q13_law06_CountsKept p0 p1) = (q13_law06_CountsKept p0 p1))) ∧
      (((q13_law06_CountsKept p0 p1) = (q13_law06_CountsKept p0 p1)) ∧
      ((((q3_law06_CountsKept p0 p1) = false) →
      ((q3_law06_CountsKept p0 p1) = (q3_law06_CountsKept p0 p1))) ∧
      ((((q3_law06_CountsKept p0 p1) = false) →
      ((q3_law06_CountsKept p0 p1) = (q3_law06_CountsKept p0 p1))) ∧
      (((q3_law06_CountsKept p0 p1) = (q3_law06_CountsKept p0 p1)) ∧
      ((((q10_law06_CountsKept p0 p1) = false) →
      ((q10_law06_CountsKept p0 p1) = (q10_law06_CountsKept p0 p1))) ∧
      ((((q10_law06_CountsKept p0 p1) = false) →
      ((q10_law06_CountsKept p0 p1) = (q10_law06_CountsKept p0 p1))) ∧
      (((q10_law06_CountsKept p0 p1) = (q10_law06_CountsKept p0 p1)) ∧
      ((((cond (q10_law06_CountsKept p0 p1) true ((v_vals (q9_law06_CountsKept p0 p1).1) != (0 : Int))) = true) →
      (K false)) ∧
      (((cond (q10_law06_CountsKept p0 p1) true ((v_vals (q9_law06_CountsKept p0 p1).1) != (0 : Int))) = false) →
      (((List.length p0.2.2.2.2.2.2.2.2) ≤ 10) ∧
        (((((cond ((s_counts_CheckRules p0).2 != (0 : Int)) (s_counts_CheckRules p0).2 (v_vals (q0_law06_CountsKept p0 p1).1)) != (0 : Int)) = false) →
        (v_rules p0)) ∧
        (((List.length p0.2.2.2.2.2.2.2.2) ≤ 10) ∧
        (((((s_counts_StrippedOf p0 (q0_law06_CountsKept p0 p1).1).2 != (0 : Int)) = false) →
        (((s_counts_StrippedOf p0 (q0_law06_CountsKept p0 p1).1).2 != (0 : Int)) = ((s_counts_StrippedOf p0 (q0_law06_CountsKept p0 p1).1).2 != (0 : Int)))) ∧
        ((((s_counts_StrippedOf p0 (q0_law06_CountsKept p0 p1).1).2 != (0 : Int)) = ((s_counts_StrippedOf p0 (q0_law06_CountsKept p0 p1).1).2 != (0 : Int))) ∧
        ((((q7_law06_CountsKept p0 p1) = false) →
        ((q7_law06_CountsKept p0 p1) = (q7_law06_CountsKept p0 p1))) ∧
        ((((q7_law06_CountsKept p0 p1) = false) →
        ((q7_law06_CountsKept p0 p1) = (q7_law06_CountsKept p0 p1))) ∧
        ((((q7_law06_CountsKept p0 p1) = false) →
        ((q7_law06_CountsKept p0 p1) = (q7_law06_CountsKept p0 p1))) ∧
        (((q7_law06_CountsKept p0 p1) = (q7_law06_CountsKept p0 p1)) ∧
        ((((cond (q7_law06_CountsKept p0 p1) true (!(s_base_Within (s_counts_InverseOf p0).1.2 (1 : Int) (1000000000 : Int)))) = true) →
        (K false)) ∧
        (((cond (q7_law06_CountsKept p0 p1) true (!(s_base_Within (s_counts_InverseOf p0).1.2 (1 : Int) (1000000000 : Int)))) = false) →
        (∃ n0, (loopP (fun (y1 : Int) k2 =>
            ((((decide (y1 < (3 : Int))) = true) →
            (∃ n3, (loopP (fun (y4 : (Int × Int)) k5 =>
                ((((decide (y4.1 < (3 : Int))) = true) →
                (((0 : Int) ≤ y4.1) ∧
                  ((y4.1 < (3 : Int)) ∧
                  (((0 : Int) ≤ y1) ∧
                  ((y1 < (3 : Int)) ∧
                  ((((!(s_base_Within (List.getD ((List.getD ((s_counts_InverseOf p0).1.1.1.1 :: ((s_counts_InverseOf p0).1.1.2.1.1 :: ((s_counts_InverseOf p0).1.1.2.2.1 :: ([] : List Int)))) (Int.toNat y4.1) (0 : Int)) :: ((List.getD ((s_counts_InverseOf p0).1.1.1.2.1 :: ((s_counts_InverseOf p0).1.1.2.1.2.1 :: ((s_counts_InverseOf p0).1.1.2.2.2.1 :: ([] : List Int)))) (Int.toNat y4.1) (0 : Int)) :: ((List.getD ((s_counts_InverseOf p0).1.1.1.2.2 :: ((s_counts_InverseOf p0).1.1.2.1.2.2 :: ((s_counts_InverseOf p0).1.1.2.2.2.2 :: ([] : List Int)))) (Int.toNat y4.1) (0 : Int)) :: ([] : List Int)))) (Int.toNat y1) (0 : Int)) (-1000000000 : Int) (1000000000 : Int))) = true) →
                  (K false)) ∧
                  (((!(s_base_Within (List.getD ((List.getD ((s_counts_InverseOf p0).1.1.1.1 :: ((s_counts_InverseOf p0).1.1.2.1.1 :: ((s_counts_InverseOf p0).1.1.2.2.1 :: ([] : List Int)))) (Int.toNat y4.1) (0 : Int)) :: ((List.getD ((s_counts_InverseOf p0).1.1.1.2.1 :: ((s_counts_InverseOf p0).1.1.2.1.2.1 :: ((s_counts_InverseOf p0).1.1.2.2.2.1 :: ([] : List Int)))) (Int.toNat y4.1) (0 : Int)) :: ((List.getD ((s_counts_InverseOf p0).1.1.1.2.2 :: ((s_counts_InverseOf p0).1.1.2.1.2.2 :: ((s_counts_InverseOf p0).1.1.2.2.2.2 :: ([] : List Int)))) (Int.toNat y4.1) (0 : Int)) :: ([] : List Int)))) (Int.toNat y1) (0 : Int)) (-1000000000 : Int) (1000000000 : Int))) = false) →
                  (((0 : Int) ≤ y4.1) ∧
                    ((y4.1 < (3 : Int)) ∧
                    (((0 : Int) ≤ y1) ∧
                    ((y1 < (3 : Int)) ∧
                    (k5 ((Go.IntKind.wrap .i64 (y4.1 + (1 : Int))), (Go.IntKind.wrap .i64 (y4.2 + (List.getD ((List.getD ((s_counts_InverseOf p0).1.1.1.1 :: ((s_counts_InverseOf p0).1.1.2.1.1 :: ((s_counts_InverseOf p0).1.1.2.2.1 :: ([] : List Int)))) (Int.toNat y4.1) (0 : Int)) :: ((List.getD ((s_counts_InverseOf p0).1.1.1.2.1 :: ((s_counts_InverseOf p0).1.1.2.1.2.1 :: ((s_counts_InverseOf p0).1.1.2.2.2.1 :: ([] : List Int)))) (Int.toNat y4.1) (0 : Int)) :: ((List.getD ((s_counts_InverseOf p0).1.1.1.2.2 :: ((s_counts_InverseOf p0).1.1.2.1.2.2 :: ((s_counts_InverseOf p0).1.1.2.2.2.2 :: ([] : List Int)))) (Int.toNat y4.1) (0 : Int)) :: ([] : List Int)))) (Int.toNat y1) (0 : Int))))))))))))))))) ∧
                (((decide (y4.1 < (3 : Int))) = false) →
                ((((y4.2 != (s_counts_InverseOf p0).1.2) = false) →
                  ((y4.2 != (s_counts_InverseOf p0).1.2) = (y4.2 != (s_counts_InverseOf p0).1.2))) ∧
                  ((((y4.2 != (s_counts_InverseOf p0).1.2) = false) →
                  ((0 : Int) ≤ y1)) ∧
                  ((((y4.2 != (s_counts_InverseOf p0).1.2) = false) →
                  (y1 < (3 : Int))) ∧
                  ((((y4.2 != (s_counts_InverseOf p0).1.2) = false) →
                  ((y4.2 != (s_counts_InverseOf p0).1.2) = (y4.2 != (s_counts_InverseOf p0).1.2))) ∧
                  ((((y4.2 != (s_counts_InverseOf p0).1.2) = false) →
                  ((y4.2 != (s_counts_InverseOf p0).1.2) = (y4.2 != (s_counts_InverseOf p0).1.2))) ∧
                  ((((y4.2 != (s_counts_InverseOf p0).1.2) = false) →
                  ((0 : Int) ≤ y1)) ∧
                  ((((y4.2 != (s_counts_InverseOf p0).1.2) = false) →
                  (y1 < (3 : Int))) ∧
                  ((((y4.2 != (s_counts_InverseOf p0).1.2) = false) →
                  ((y4.2 != (s_counts_InverseOf p0).1.2) = (y4.2 != (s_counts_InverseOf p0).1.2))) ∧
                  ((((y4.2 != (s_counts_InverseOf p0).1.2) = false) →
                  ((y4.2 != (s_counts_InverseOf p0).1.2) = (y4.2 != (s_counts_InverseOf p0).1.2))) ∧
                  ((((y4.2 != (s_counts_InverseOf p0).1.2) = false) →
                  ((y4.2 != (s_counts_InverseOf p0).1.2) = (y4.2 != (s_counts_InverseOf p0).1.2))) ∧
                  ((((y4.2 != (s_counts_InverseOf p0).1.2) = false) →
                  ((0 : Int) ≤ y1)) ∧
                  ((((y4.2 != (s_counts_InverseOf p0).1.2) = false) →
                  (y1 < (3 : Int))) ∧
                  ((((y4.2 != (s_counts_InverseOf p0).1.2) = false) →
                  ((y4.2 != (s_counts_InverseOf p0).1.2) = (y4.2 != (s_counts_InverseOf p0).1.2))) ∧
                  ((((y4.2 != (s_counts_InverseOf p0).1.2) = false) →
                  ((y4.2 != (s_counts_InverseOf p0).1.2) = (y4.2 != (s_counts_InverseOf p0).1.2))) ∧
                  ((((y4.2 != (s_counts_InverseOf p0).1.2) = false) →
                  ((y4.2 != (s_counts_InverseOf p0).1.2) = (y4.2 != (s_counts_InverseOf p0).1.2))) ∧
                  ((((y4.2 != (s_counts_InverseOf p0).1.2) = false) →
                  ((y4.2 != (s_counts_InverseOf p0).1.2) = (y4.2 != (s_counts_InverseOf p0).1.2))) ∧
                  ((((y4.2 != (s_counts_InverseOf p0).1.2) = false) →
                  ((y4.2 != (s_counts_InverseOf p0).1.2) = (y4.2 != (s_counts_InverseOf p0).1.2))) ∧
                  ((((y4.2 != (s_counts_InverseOf p0).1.2) = false) →
                  ((y4.2 != (s_counts_InverseOf p0).1.2) = (y4.2 != (s_counts_InverseOf p0).1.2))) ∧
                  (((y4.2 != (s_counts_InverseOf p0).1.2) = (y4.2 != (s_counts_InverseOf p0).1.2)) ∧
                  ((((cond (y4.2 != (s_counts_InverseOf p0).1.2) true (!(s_base_Within (List.getD (q11_law06_CountsKept p1) (Int.toNat y1) (0 : Int)) (List.getD (q1_law06_CountsKept p0 p1) (Int.toNat y1) (0 : Int)) (List.getD (q2_law06_CountsKept p0 p1) (Int.toNat y1) (0 : Int))))) = false) →
                  ((cond (y4.2 != (s_counts_InverseOf p0).1.2) true (!(s_base_Within (List.getD (q11_law06_CountsKept p1) (Int.toNat y1) (0 : Int)) (List.getD (q1_law06_CountsKept p0 p1) (Int.toNat y1) (0 : Int)) (List.getD (q2_law06_CountsKept p0 p1) (Int.toNat y1) (0 : Int))))) = (cond (y4.2 != (s_counts_InverseOf p0).1.2) true (!(s_base_Within (List.getD (q11_law06_CountsKept p1) (Int.toNat y1) (0 : Int)) (List.getD (q1_law06_CountsKept p0 p1) (Int.toNat y1) (0 : Int)) (List.getD (q2_law06_CountsKept p0 p1) (Int.toNat y1) (0 : Int))))))) ∧
                  ((((cond (y4.2 != (s_counts_InverseOf p0).1.2) true (!(s_base_Within (List.getD (q11_law06_CountsKept p1) (Int.toNat y1) (0 : Int)) (List.getD (q1_law06_CountsKept p0 p1) (Int.toNat y1) (0 : Int)) (List.getD (q2_law06_CountsKept p0 p1) (Int.toNat y1) (0 : Int))))) = false) →
                  ((0 : Int) ≤ y1)) ∧
                  ((((cond (y4.2 != (s_counts_InverseOf p0).1.2) true (!(s_base_Within (List.getD (q11_law06_CountsKept p1) (Int.toNat y1) (0 : Int)) (List.getD (q1_law06_CountsKept p0 p1) (Int.toNat y1) (0 : Int)) (List.getD (q2_law06_CountsKept p0 p1) (Int.toNat y1) (0 : Int))))) = false) →
                  (y1 < (3 : Int))) ∧
                  ((((cond (y4.2 != (s_counts_InverseOf p0).1.2) true (!(s_base_Within (List.getD (q11_law06_CountsKept p1) (Int.toNat y1) (0 : Int)) (List.getD (q1_law06_CountsKept p0 p1) (Int.toNat y1) (0 : Int)) (List.getD (q2_law06_CountsKept p0 p1) (Int.toNat y1) (0 : Int))))) = false) →
                  ((cond (y4.2 != (s_counts_InverseOf p0).1.2) true (!(s_base_Within (List.getD (q11_law06_CountsKept p1) (Int.toNat y1) (0 : Int)) (List.getD (q1_law06_CountsKept p0 p1) (Int.toNat y1) (0 : Int)) (List.getD (q2_law06_CountsKept p0 p1) (Int.toNat y1) (0 : Int))))) = (cond (y4.2 != (s_counts_InverseOf p0).1.2) true (!(s_base_Within (List.getD (q11_law06_CountsKept p1) (Int.toNat y1) (0 : Int)) (List.getD (q1_law06_CountsKept p0 p1) (Int.toNat y1) (0 : Int)) (List.getD (q2_law06_CountsKept p0 p1) (Int.toNat y1) (0 : Int))))))) ∧
                  ((((cond (y4.2 != (s_counts_InverseOf p0).1.2) true (!(s_base_Within (List.getD (q11_law06_CountsKept p1) (Int.toNat y1) (0 : Int)) (List.getD (q1_law06_CountsKept p0 p1) (Int.toNat y1) (0 : Int)) (List.getD (q2_law06_CountsKept p0 p1) (Int.toNat y1) (0 : Int))))) = false) →
                  ((cond (y4.2 != (s_counts_InverseOf p0).1.2) true (!(s_base_Within (List.getD (q11_law06_CountsKept p1) (Int.toNat y1) (0 : Int)) (List.getD (q1_law06_CountsKept p0 p1) (Int.toNat y1) (0 : Int)) (List.getD (q2_law06_CountsKept p0 p1) (Int.toNat y1) (0 : Int))))) = (cond (y4.2 != (s_counts_InverseOf p0).1.2) true (!(s_base_Within (List.getD (q11_law06_CountsKept p1) (Int.toNat y1) (0 : Int)) (List.getD (q1_law06_CountsKept p0 p1) (Int.toNat y1) (0 : Int)) (List.getD (q2_law06_CountsKept p0 p1) (Int.toNat y1) (0 : Int))))))) ∧
                  ((((cond (y4.2 != (s_counts_InverseOf p0).1.2) true (!(s_base_Within (List.getD (q11_law06_CountsKept p1) (Int.toNat y1) (0 : Int)) (List.getD (q1_law06_CountsKept p0 p1) (Int.toNat y1) (0 : Int)) (List.getD (q2_law06_CountsKept p0 p1) (Int.toNat y1) (0 : Int))))) = false) →
                  ((0 : Int) ≤ y1)) ∧
                  ((((cond (y4.2 != (s_counts_InverseOf p0).1.2) true (!(s_base_Within (List.getD (q11_law06_CountsKept p1) (Int.toNat y1) (0 : Int)) (List.getD (q1_law06_CountsKept p0 p1) (Int.toNat y1) (0 : Int)) (List.getD (q2_law06_CountsKept p0 p1) (Int.toNat y1) (0 : Int))))) = false) →
                  (y1 < (3 : Int))) ∧
                  ((((cond (y4.2 != (s_counts_InverseOf p0).1.2) true (!(s_base_Within (List.getD (q11_law06_CountsKept p1) (Int.toNat y1) (0 : Int)) (List.getD (q1_law06_CountsKept p0 p1) (Int.toNat y1) (0 : Int)) (List.getD (q2_law06_CountsKept p0 p1) (Int.toNat y1) (0 : Int))))) = false) →
                  ((cond (y4.2 != (s_counts_InverseOf p0).1.2) true (!(s_base_Within (List.getD (q11_law06_CountsKept p1) (Int.toNat y1) (0 : Int)) (List.getD (q1_law06_CountsKept p0 p1) (Int.toNat y1) (0 : Int)) (List.getD (q2_law06_CountsKept p0 p1) (Int.toNat y1) (0 : Int))))) = (cond (y4.2 != (s_counts_InverseOf p0).1.2) true (!(s_base_Within (List.getD (q11_law06_CountsKept p1) (Int.toNat y1) (0 : Int)) (List.getD (q1_law06_CountsKept p0 p1) (Int.toNat y1) (0 : Int)) (List.getD (q2_law06_CountsKept p0 p1) (Int.toNat y1) (0 : Int))))))) ∧
                  ((((cond (y4.2 != (s_counts_InverseOf p0).1.2) true (!(s_base_Within (List.getD (q11_law06_CountsKept p1) (Int.toNat y1) (0 : Int)) (List.getD (q1_law06_CountsKept p0 p1) (Int.toNat y1) (0 : Int)) (List.getD (q2_law06_CountsKept p0 p1) (Int.toNat y1) (0 : Int))))) = false) →
                  ((cond (y4.2 != (s_counts_InverseOf p0).1.2) true (!(s_base_Within (List.getD (q11_law06_CountsKept p1) (Int.toNat y1) (0 : Int)) (List.getD (q1_law06_CountsKept p0 p1) (Int.toNat y1) (0 : Int)) (List.getD (q2_law06_CountsKept p0 p1) (Int.toNat y1) (0 : Int))))) = (cond (y4.2 != (s_counts_InverseOf p0).1.2) true (!(s_base_Within (List.getD (q11_law06_CountsKept p1) (Int.toNat y1) (0 : Int)) (List.getD (q1_law06_CountsKept p0 p1) (Int.toNat y1) (0 : Int)) (List.getD (q2_law06_CountsKept p0 p1) (Int.toNat y1) (0 : Int))))))) ∧
                  ((((cond (y4.2 != (s_counts_InverseOf p0).1.2) true (!(s_base_Within (List.getD (q11_law06_CountsKept p1) (Int.toNat y1) (0 : Int)) (List.getD (q1_law06_CountsKept p0 p1) (Int.toNat y1) (0 : Int)) (List.getD (q2_law06_CountsKept p0 p1) (Int.toNat y1) (0 : Int))))) = false) →
                  ((cond (y4.2 != (s_counts_InverseOf p0).1.2) true (!(s_base_Within (List.getD (q11_law06_CountsKept p1) (Int.toNat y1) (0 : Int)) (List.getD (q1_law06_CountsKept p0 p1) (Int.toNat y1) (0 : Int)) (List.getD (q2_law06_CountsKept p0 p1) (Int.toNat y1) (0 : Int))))) = (cond (y4.2 != (s_counts_InverseOf p0).1.2) true (!(s_base_Within (List.getD (q11_law06_CountsKept p1) (Int.toNat y1) (0 : Int)) (List.getD (q1_law06_CountsKept p0 p1) (Int.toNat y1) (0 : Int)) (List.getD (q2_law06_CountsKept p0 p1) (Int.toNat y1) (0 : Int))))))) ∧
                  ((((cond (y4.2 != (s_counts_InverseOf p0).1.2) true (!(s_base_Within (List.getD (q11_law06_CountsKept p1) (Int.toNat y1) (0 : Int)) (List.getD (q1_law06_CountsKept p0 p1) (Int.toNat y1) (0 : Int)) (List.getD (q2_law06_CountsKept p0 p1) (Int.toNat y1) (0 : Int))))) = false) →
                  ((0 : Int) ≤ y1)) ∧
                  ((((cond (y4.2 != (s_counts_InverseOf p0).1.2) true (!(s_base_Within (List.getD (q11_law06_CountsKept p1) (Int.toNat y1) (0 : Int)) (List.getD (q1_law06_CountsKept p0 p1) (Int.toNat y1) (0 : Int)) (List.getD (q2_law06_CountsKept p0 p1) (Int.toNat y1) (0 : Int))))) = false) →
                  (y1 < (3 : Int))) ∧
                  ((((cond (y4.2 != (s_counts_InverseOf p0).1.2) true (!(s_base_Within (List.getD (q11_law06_CountsKept p1) (Int.toNat y1) (0 : Int)) (List.getD (q1_law06_CountsKept p0 p1) (Int.toNat y1) (0 : Int)) (List.getD (q2_law06_CountsKept p0 p1) (Int.toNat y1) (0 : Int))))) = false) →
                  ((cond (y4.2 != (s_counts_InverseOf p0).1.2) true (!(s_base_Within (List.getD (q11_law06_CountsKept p1) (Int.toNat y1) (0 : Int)) (List.getD (q1_law06_CountsKept p0 p1) (Int.toNat y1) (0 : Int)) (List.getD (q2_law06_CountsKept p0 p1) (Int.toNat y1) (0 : Int))))) = (cond (y4.2 != (s_counts_InverseOf p0).1.2) true (!(s_base_Within (List.getD (q11_law06_CountsKept p1) (Int.toNat y1) (0 : Int)) (List.getD (q1_law06_CountsKept p0 p1) (Int.toNat y1) (0 : Int)) (List.getD (q2_law06_CountsKept p0 p1) (Int.toNat y1) (0 : Int))))))) ∧
                  ((((cond (y4.2 != (s_counts_InverseOf p0).1.2) true (!(s_base_Within (List.getD (q11_law06_CountsKept p1) (Int.toNat y1) (0 : Int)) (List.getD (q1_law06_CountsKept p0 p1) (Int.toNat y1) (0 : Int)) (List.getD (q2_law06_CountsKept p0 p1) (Int.toNat y1) (0 : Int))))) = false) →
                  ((cond (y4.2 != (s_counts_InverseOf p0).1.2) true (!(s_base_Within (List.getD (q11_law06_CountsKept p1) (Int.toNat y1) (0 : Int)) (List.getD (q1_law06_CountsKept p0 p1) (Int.toNat y1) (0 : Int)) (List.getD (q2_law06_CountsKept p0 p1) (Int.toNat y1) (0 : Int))))) = (cond (y4.2 != (s_counts_InverseOf p0).1.2) true (!(s_base_Within (List.getD (q11_law06_CountsKept p1) (Int.toNat y1) (0 : Int)) (List.getD (q1_law06_CountsKept p0 p1) (Int.toNat y1) (0 : Int)) (List.getD (q2_law06_CountsKept p0 p1) (Int.toNat y1) (0 : Int))))))) ∧
                  ((((cond (y4.2 != (s_counts_InverseOf p0).1.2) true (!(s_base_Within (List.getD (q11_law06_CountsKept p1) (Int.toNat y1) (0 : Int)) (List.getD (q1_law06_CountsKept p0 p1) (Int.toNat y1) (0 : Int)) (List.getD (q2_law06_CountsKept p0 p1) (Int.toNat y1) (0 : Int))))) = false) →
                  ((cond (y4.2 != (s_counts_InverseOf p0).1.2) true (!(s_base_Within (List.getD (q11_law06_CountsKept p1) (Int.toNat y1) (0 : Int)) (List.getD (q1_law06_CountsKept p0 p1) (Int.toNat y1) (0 : Int)) (List.getD (q2_law06_CountsKept p0 p1) (Int.toNat y1) (0 : Int))))) = (cond (y4.2 != (s_counts_InverseOf p0).1.2) true (!(s_base_Within (List.getD (q11_law06_CountsKept p1) (Int.toNat y1) (0 : Int)) (List.getD (q1_law06_CountsKept p0 p1) (Int.toNat y1) (0 : Int)) (List.getD (q2_law06_CountsKept p0 p1) (Int.toNat y1) (0 : Int))))))) ∧
                  ((((cond (y4.2 != (s_counts_InverseOf p0).1.2) true (!(s_base_Within (List.getD (q11_law06_CountsKept p1) (Int.toNat y1) (0 : Int)) (List.getD (q1_law06_CountsKept p0 p1) (Int.toNat y1) (0 : Int)) (List.getD (q2_law06_CountsKept p0 p1) (Int.toNat y1) (0 : Int))))) = false) →
                  ((cond (y4.2 != (s_counts_InverseOf p0).1.2) true (!(s_base_Within (List.getD (q11_law06_CountsKept p1) (Int.toNat y1) (0 : Int)) (List.getD (q1_law06_CountsKept p0 p1) (Int.toNat y1) (0 : Int)) (List.getD (q2_law06_CountsKept p0 p1) (Int.toNat y1) (0 : Int))))) = (cond (y4.2 != (s_counts_InverseOf p0).1.2) true (!(s_base_Within (List.getD (q11_law06_CountsKept p1) (Int.toNat y1) (0 : Int)) (List.getD (q1_law06_CountsKept p0 p1) (Int.toNat y1) (0 : Int)) (List.getD (q2_law06_CountsKept p0 p1) (Int.toNat y1) (0 : Int))))))) ∧
                  ((((cond (y4.2 != (s_counts_InverseOf p0).1.2) true (!(s_base_Within (List.getD (q11_law06_CountsKept p1) (Int.toNat y1) (0 : Int)) (List.getD (q1_law06_CountsKept p0 p1) (Int.toNat y1) (0 : Int)) (List.getD (q2_law06_CountsKept p0 p1) (Int.toNat y1) (0 : Int))))) = false) →
                  ((cond (y4.2 != (s_counts_InverseOf p0).1.2) true (!(s_base_Within (List.getD (q11_law06_CountsKept p1) (Int.toNat y1) (0 : Int)) (List.getD (q1_law06_CountsKept p0 p1) (Int.toNat y1) (0 : Int)) (List.getD (q2_law06_CountsKept p0 p1) (Int.toNat y1) (0 : Int))))) = (cond (y4.2 != (s_counts_InverseOf p0).1.2) true (!(s_base_Within (List.getD (q11_law06_CountsKept p1) (Int.toNat y1) (0 : Int)) (List.getD (q1_law06_CountsKept p0 p1) (Int.toNat y1) (0 : Int)) (List.getD (q2_law06_CountsKept p0 p1) (Int.toNat y1) (0 : Int))))))) ∧
                  ((((cond (y4.2 != (s_counts_InverseOf p0).1.2) true (!(s_base_Within (List.getD (q11_law06_CountsKept p1) (Int.toNat y1) (0 : Int)) (List.getD (q1_law06_CountsKept p0 p1) (Int.toNat y1) (0 : Int)) (List.getD (q2_law06_CountsKept p0 p1) (Int.toNat y1) (0 : Int))))) = false) →
                  ((cond (y4.2 != (s_counts_InverseOf p0).1.2) true (!(s_base_Within (List.getD (q11_law06_CountsKept p1) (Int.toNat y1) (0 : Int)) (List.getD (q1_law06_CountsKept p0 p1) (Int.toNat y1) (0 : Int)) (List.getD (q2_law06_CountsKept p0 p1) (Int.toNat y1) (0 : Int))))) = (cond (y4.2 != (s_counts_InverseOf p0).1.2) true (!(s_base_Within (List.getD (q11_law06_CountsKept p1) (Int.toNat y1) (0 : Int)) (List.getD (q1_law06_CountsKept p0 p1) (Int.toNat y1) (0 : Int)) (List.getD (q2_law06_CountsKept p0 p1) (Int.toNat y1) (0 : Int))))))) ∧
                  (((cond (y4.2 != (s_counts_InverseOf p0).1.2) true (!(s_base_Within (List.getD (q11_law06_CountsKept p1) (Int.toNat y1) (0 : Int)) (List.getD (q1_law06_CountsKept p0 p1) (Int.toNat y1) (0 : Int)) (List.getD (q2_law06_CountsKept p0 p1) (Int.toNat y1) (0 : Int))))) = (cond (y4.2 != (s_counts_InverseOf p0).1.2) true (!(s_base_Within (List.getD (q11_law06_CountsKept p1) (Int.toNat y1) (0 : Int)) (List.getD (q1_law06_CountsKept p0 p1) (Int.toNat y1) (0 : Int)) (List.getD (q2_law06_CountsKept p0 p1) (Int.toNat y1) (0 : Int)))))) ∧
                  ((((cond (cond (y4.2 != (s_counts_InverseOf p0).1.2) true (!(s_base_Within (List.getD (q11_law06_CountsKept p1) (Int.toNat y1) (0 : Int)) (List.getD (q1_law06_CountsKept p0 p1) (Int.toNat y1) (0 : Int)) (List.getD (q2_law06_CountsKept p0 p1) (Int.toNat y1) (0 : Int))))) true (!(s_base_Within (List.getD (q11_law06_CountsKept p1) (Int.toNat y1) (0 : Int)) (List.getD ((s_counts_Mixed p0 (q9_law06_CountsKept p0 p1).1).1.1.1 :: ((s_counts_Mixed p0 (q9_law06_CountsKept p0 p1).1).1.2.1.1 :: ((s_counts_Mixed p0 (q9_law06_CountsKept p0 p1).1).1.2.2.1 :: ([] : List Int)))) (Int.toNat y1) (0 : Int)) (List.getD ((s_counts_Mixed p0 (q9_law06_CountsKept p0 p1).1).1.1.2 :: ((s_counts_Mixed p0 (q9_law06_CountsKept p0 p1).1).1.2.1.2 :: ((s_counts_Mixed p0 (q9_law06_CountsKept p0 p1).1).1.2.2.2 :: ([] : List Int)))) (Int.toNat y1) (0 : Int))))) = true) →
                  (K false)) ∧
                  (((cond (cond (y4.2 != (s_counts_InverseOf p0).1.2) true (!(s_base_Within (List.getD (q11_law06_CountsKept p1) (Int.toNat y1) (0 : Int)) (List.getD (q1_law06_CountsKept p0 p1) (Int.toNat y1) (0 : Int)) (List.getD (q2_law06_CountsKept p0 p1) (Int.toNat y1) (0 : Int))))) true (!(s_base_Within (List.getD (q11_law06_CountsKept p1) (Int.toNat y1) (0 : Int)) (List.getD ((s_counts_Mixed p0 (q9_law06_CountsKept p0 p1).1).1.1.1 :: ((s_counts_Mixed p0 (q9_law06_CountsKept p0 p1).1).1.2.1.1 :: ((s_counts_Mixed p0 (q9_law06_CountsKept p0 p1).1).1.2.2.1 :: ([] : List Int)))) (Int.toNat y1) (0 : Int)) (List.getD ((s_counts_Mixed p0 (q9_law06_CountsKept p0 p1).1).1.1.2 :: ((s_counts_Mixed p0 (q9_law06_CountsKept p0 p1).1).1.2.1.2 :: ((s_counts_Mixed p0 (q9_law06_CountsKept p0 p1).1).1.2.2.2 :: ([] : List Int)))) (Int.toNat y1) (0 : Int))))) = false) →
                  (k2 (Go.IntKind.wrap .i64 (y1 + (1 : Int))))))))))))))))))))))))))))))))))))))))))))))) n3 ((0 : Int), (0 : Int))))) ∧
            (((decide (y1 < (3 : Int))) = false) →
            ((((s_base_Within (Go.IntKind.wrap .i64 ((Go.IntKind.wrap .i64 (p1.1 + p1.2.1)) + p1.2.2)) (Go.IntKind.wrap .i64 ((Go.IntKind.wrap .i64 (q5_law06_CountsKept p0 p1)) + (q0_law06_CountsKept p0 p1).1.2.2.1)) (Go.IntKind.wrap .i64 ((Go.IntKind.wrap .i64 (q6_law06_CountsKept p0 p1)) + (q0_law06_CountsKept p0 p1).1.2.2.2))) = true) →
              ((s_base_Within (Go.IntKind.wrap .i64 ((Go.IntKind.wrap .i64 (p1.1 + p1.2.1)) + p1.2.2)) (Go.IntKind.wrap .i64 ((Go.IntKind.wrap .i64 (q5_law06_CountsKept p0 p1)) + (q0_law06_CountsKept p0 p1).1.2.2.1)) (Go.IntKind.wrap .i64 ((Go.IntKind.wrap .i64 (q6_law06_CountsKept p0 p1)) + (q0_law06_CountsKept p0 p1).1.2.2.2))) = (s_base_Within (Go.IntKind.wrap .i64 ((Go.IntKind.wrap .i64 (p1.1 + p1.2.1)) + p1.2.2)) (Go.IntKind.wrap .i64 ((Go.IntKind.wrap .i64 (q5_law06_CountsKept p0 p1)) + (q0_law06_CountsKept p0 p1).1.2.2.1)) (Go.IntKind.wrap .i64 ((Go.IntKind.wrap .i64 (q6_law06_CountsKept p0 p1)) + (q0_law06_CountsKept p0 p1).1.2.2.2))))) ∧
              ((((s_base_Within (Go.IntKind.wrap .i64 ((Go.IntKind.wrap .i64 (p1.1 + p1.2.1)) + p1.2.2)) (Go.IntKind.wrap .i64 ((Go.IntKind.wrap .i64 (q5_law06_CountsKept p0 p1)) + (q0_law06_CountsKept p0 p1).1.2.2.1)) (Go.IntKind.wrap .i64 ((Go.IntKind.wrap .i64 (q6_law06_CountsKept p0 p1)) + (q0_law06_CountsKept p0 p1).1.2.2.2))) = true) →
              ((s_base_Within (Go.IntKind.wrap .i64 ((Go.IntKind.wrap .i64 (p1.1 + p1.2.1)) + p1.2.2)) (Go.IntKind.wrap .i64 ((Go.IntKind.wrap .i64 (q5_law06_CountsKept p0 p1)) + (q0_law06_CountsKept p0 p1).1.2.2.1)) (Go.IntKind.wrap .i64 ((Go.IntKind.wrap .i64 (q6_law06_CountsKept p0 p1)) + (q0_law06_CountsKept p0 p1).1.2.2.2))) = (s_base_Within (Go.IntKind.wrap .i64 ((Go.IntKind.wrap .i64 (p1.1 + p1.2.1)) + p1.2.2)) (Go.IntKind.wrap .i64 ((Go.IntKind.wrap .i64 (q5_law06_CountsKept p0 p1)) + (q0_law06_CountsKept p0 p1).1.2.2.1)) (Go.IntKind.wrap .i64 ((Go.IntKind.wrap .i64 (q6_law06_CountsKept p0 p1)) + (q0_law06_CountsKept p0 p1).1.2.2.2))))) ∧
              ((((s_base_Within (Go.IntKind.wrap .i64 ((Go.IntKind.wrap .i64 (p1.1 + p1.2.1)) + p1.2.2)) (Go.IntKind.wrap .i64 ((Go.IntKind.wrap .i64 (q5_law06_CountsKept p0 p1)) + (q0_law06_CountsKept p0 p1).1.2.2.1)) (Go.IntKind.wrap .i64 ((Go.IntKind.wrap .i64 (q6_law06_CountsKept p0 p1)) + (q0_law06_CountsKept p0 p1).1.2.2.2))) = true) →
              ((s_base_Within (Go.IntKind.wrap .i64 ((Go.IntKind.wrap .i64 (p1.1 + p1.2.1)) + p1.2.2)) (Go.IntKind.wrap .i64 ((Go.IntKind.wrap .i64 (q5_law06_CountsKept p0 p1)) + (q0_law06_CountsKept p0 p1).1.2.2.1)) (Go.IntKind.wrap .i64 ((Go.IntKind.wrap .i64 (q6_law06_CountsKept p0 p1)) + (q0_law06_CountsKept p0 p1).1.2.2.2))) = (s_base_Within (Go.IntKind.wrap .i64 ((Go.IntKind.wrap .i64 (p1.1 + p1.2.1)) + p1.2.2)) (Go.IntKind.wrap .i64 ((Go.IntKind.wrap .i64 (q5_law06_CountsKept p0 p1)) + (q0_law06_CountsKept p0 p1).1.2.2.1)) (Go.IntKind.wrap .i64 ((Go.IntKind.wrap .i64 (q6_law06_CountsKept p0 p1)) + (q0_law06_CountsKept p0 p1).1.2.2.2))))) ∧
              ((((s_base_Within (Go.IntKind.wrap .i64 ((Go.IntKind.wrap .i64 (p1.1 + p1.2.1)) + p1.2.2)) (Go.IntKind.wrap .i64 ((Go.IntKind.wrap .i64 (q5_law06_CountsKept p0 p1)) + (q0_law06_CountsKept p0 p1).1.2.2.1)) (Go.IntKind.wrap .i64 ((Go.IntKind.wrap .i64 (q6_law06_CountsKept p0 p1)) + (q0_law06_CountsKept p0 p1).1.2.2.2))) = true) →
              ((s_base_Within (Go.IntKind.wrap .i64 ((Go.IntKind.wrap .i64 (p1.1 + p1.2.1)) + p1.2.2)) (Go.IntKind.wrap .i64 ((Go.IntKind.wrap .i64 (q5_law06_CountsKept p0 p1)) + (q0_law06_CountsKept p0 p1).1.2.2.1)) (Go.IntKind.wrap .i64 ((Go.IntKind.wrap .i64 (q6_law06_CountsKept p0 p1)) + (q0_law06_CountsKept p0 p1).1.2.2.2))) = (s_base_Within (Go.IntKind.wrap .i64 ((Go.IntKind.wrap .i64 (p1.1 + p1.2.1)) + p1.2.2)) (Go.IntKind.wrap .i64 ((Go.IntKind.wrap .i64 (q5_law06_CountsKept p0 p1)) + (q0_law06_CountsKept p0 p1).1.2.2.1)) (Go.IntKind.wrap .i64 ((Go.IntKind.wrap .i64 (q6_law06_CountsKept p0 p1)) + (q0_law06_CountsKept p0 p1).1.2.2.2))))) ∧
              ((((s_base_Within (Go.IntKind.wrap .i64 ((Go.IntKind.wrap .i64 (p1.1 + p1.2.1)) + p1.2.2)) (Go.IntKind.wrap .i64 ((Go.IntKind.wrap .i64 (q5_law06_CountsKept p0 p1)) + (q0_law06_CountsKept p0 p1).1.2.2.1)) (Go.IntKind.wrap .i64 ((Go.IntKind.wrap .i64 (q6_law06_CountsKept p0 p1)) + (q0_law06_CountsKept p0 p1).1.2.2.2))) = true) →
              ((s_base_Within (Go.IntKind.wrap .i64 ((Go.IntKind.wrap .i64 (p1.1 + p1.2.1)) + p1.2.2)) (Go.IntKind.wrap .i64 ((Go.IntKind.wrap .i64 (q5_law06_CountsKept p0 p1)) + (q0_law06_CountsKept p0 p1).1.2.2.1)) (Go.IntKind.wrap .i64 ((Go.IntKind.wrap .i64 (q6_law06_CountsKept p0 p1)) + (q0_law06_CountsKept p0 p1).1.2.2.2))) = (s_base_Within (Go.IntKind.wrap .i64 ((Go.IntKind.wrap .i64 (p1.1 + p1.2.1)) + p1.2.2)) (Go.IntKind.wrap .i64 ((Go.IntKind.wrap .i64 (q5_law06_CountsKept p0 p1)) + (q0_law06_CountsKept p0 p1).1.2.2.1)) (Go.IntKind.wrap .i64 ((Go.IntKind.wrap .i64 (q6_law06_CountsKept p0 p1)) + (q0_law06_CountsKept p0 p1).1.2.2.2))))) ∧
              ((((s_base_Within (Go.IntKind.wrap .i64 ((Go.IntKind.wrap .i64 (p1.1 + p1.2.1)) + p1.2.2)) (Go.IntKind.wrap .i64 ((Go.IntKind.wrap .i64 (q5_law06_CountsKept p0 p1)) + (q0_law06_CountsKept p0 p1).1.2.2.1)) (Go.IntKind.wrap .i64 ((Go.IntKind.wrap .i64 (q6_law06_CountsKept p0 p1)) + (q0_law06_CountsKept p0 p1).1.2.2.2))) = true) →
              ((s_base_Within (Go.IntKind.wrap .i64 ((Go.IntKind.wrap .i64 (p1.1 + p1.2.1)) + p1.2.2)) (Go.IntKind.wrap .i64 ((Go.IntKind.wrap .i64 (q5_law06_CountsKept p0 p1)) + (q0_law06_CountsKept p0 p1).1.2.2.1)) (Go.IntKind.wrap .i64 ((Go.IntKind.wrap .i64 (q6_law06_CountsKept p0 p1)) + (q0_law06_CountsKept p0 p1).1.2.2.2))) = (s_base_Within (Go.IntKind.wrap .i64 ((Go.IntKind.wrap .i64 (p1.1 + p1.2.1)) + p1.2.2)) (Go.IntKind.wrap .i64 ((Go.IntKind.wrap .i64 (q5_law06_CountsKept p0 p1)) + (q0_law06_CountsKept p0 p1).1.2.2.1)) (Go.IntKind.wrap .i64 ((Go.IntKind.wrap .i64 (q6_law06_CountsKept p0 p1)) + (q0_law06_CountsKept p0 p1).1.2.2.2))))) ∧
              ((((s_base_Within (Go.IntKind.wrap .i64 ((Go.IntKind.wrap .i64 (p1.1 + p1.2.1)) + p1.2.2)) (Go.IntKind.wrap .i64 ((Go.IntKind.wrap .i64 (q5_law06_CountsKept p0 p1)) + (q0_law06_CountsKept p0 p1).1.2.2.1)) (Go.IntKind.wrap .i64 ((Go.IntKind.wrap .i64 (q6_law06_CountsKept p0 p1)) + (q0_law06_CountsKept p0 p1).1.2.2.2))) = true) →
              ((s_base_Within (Go.IntKind.wrap .i64 ((Go.IntKind.wrap .i64 (p1.1 + p1.2.1)) + p1.2.2)) (Go.IntKind.wrap .i64 ((Go.IntKind.wrap .i64 (q5_law06_CountsKept p0 p1)) + (q0_law06_CountsKept p0 p1).1.2.2.1)) (Go.IntKind.wrap .i64 ((Go.IntKind.wrap .i64 (q6_law06_CountsKept p0 p1)) + (q0_law06_CountsKept p0 p1).1.2.2.2))) = (s_base_Within (Go.IntKind.wrap .i64 ((Go.IntKind.wrap .i64 (p1.1 + p1.2.1)) + p1.2.2)) (Go.IntKind.wrap .i64 ((Go.IntKind.wrap .i64 (q5_law06_CountsKept p0 p1)) + (q0_law06_CountsKept p0 p1).1.2.2.1)) (Go.IntKind.wrap .i64 ((Go.IntKind.wrap .i64 (q6_law06_CountsKept p0 p1)) + (q0_law06_CountsKept p0 p1).1.2.2.2))))) ∧
              ((((s_base_Within (Go.IntKind.wrap .i64 ((Go.IntKind.wrap .i64 (p1.1 + p1.2.1)) + p1.2.2)) (Go.IntKind.wrap .i64 ((Go.IntKind.wrap .i64 (q5_law06_CountsKept p0 p1)) + (q0_law06_CountsKept p0 p1).1.2.2.1)) (Go.IntKind.wrap .i64 ((Go.IntKind.wrap .i64 (q6_law06_CountsKept p0 p1)) + (q0_law06_CountsKept p0 p1).1.2.2.2))) = true) →
              ((s_base_Within (Go.IntKind.wrap .i64 ((Go.IntKind.wrap .i64 (p1.1 + p1.2.1)) + p1.2.2)) (Go.IntKind.wrap .i64 ((Go.IntKind.wrap .i64 (q5_law06_CountsKept p0 p1)) + (q0_law06_CountsKept p0 p1).1.2.2.1)) (Go.IntKind.wrap .i64 ((Go.IntKind.wrap .i64 (q6_law06_CountsKept p0 p1)) + (q0_law06_CountsKept p0 p1).1.2.2.2))) = (s_base_Within (Go.IntKind.wrap .i64 ((Go.IntKind.wrap .i64 (p1.1 + p1.2.1)) + p1.2.2)) (Go.IntKind.wrap .i64 ((Go.IntKind.wrap .i64 (q5_law06_CountsKept p0 p1)) + (q0_law06_CountsKept p0 p1).1.2.2.1)) (Go.IntKind.wrap .i64 ((Go.IntKind.wrap .i64 (q6_law06_CountsKept p0 p1)) + (q0_law06_CountsKept p0 p1).1.2.2.2))))) ∧
              ((((s_base_Within (Go.IntKind.wrap .i64 ((Go.IntKind.wrap .i64 (p1.1 + p1.2.1)) + p1.2.2)) (Go.IntKind.wrap .i64 ((Go.IntKind.wrap .i64 (q5_law06_CountsKept p0 p1)) + (q0_law06_CountsKept p0 p1).1.2.2.1)) (Go.IntKind.wrap .i64 ((Go.IntKind.wrap .i64 (q6_law06_CountsKept p0 p1)) + (q0_law06_CountsKept p0 p1).1.2.2.2))) = true) →
              ((s_base_Within (Go.IntKind.wrap .i64 ((Go.IntKind.wrap .i64 (p1.1 + p1.2.1)) + p1.2.2)) (Go.IntKind.wrap .i64 ((Go.IntKind.wrap .i64 (q5_law06_CountsKept p0 p1)) + (q0_law06_CountsKept p0 p1).1.2.2.1)) (Go.IntKind.wrap .i64 ((Go.IntKind.wrap .i64 (q6_law06_CountsKept p0 p1)) + (q0_law06_CountsKept p0 p1).1.2.2.2))) = (s_base_Within (Go.IntKind.wrap .i64 ((Go.IntKind.wrap .i64 (p1.1 + p1.2.1)) + p1.2.2)) (Go.IntKind.wrap .i64 ((Go.IntKind.wrap .i64 (q5_law06_CountsKept p0 p1)) + (q0_law06_CountsKept p0 p1).1.2.2.1)) (Go.IntKind.wrap .i64 ((Go.IntKind.wrap .i64 (q6_law06_CountsKept p0 p1)) + (q0_law06_CountsKept p0 p1).1.2.2.2))))) ∧
              ((((s_base_Within (Go.IntKind.wrap .i64 ((Go.IntKind.wrap .i64 (p1.1 + p1.2.1)) + p1.2.2)) (Go.IntKind.wrap .i64 ((Go.IntKind.wrap .i64 (q5_law06_CountsKept p0 p1)) + (q0_law06_CountsKept p0 p1).1.2.2.1)) (Go.IntKind.wrap .i64 ((Go.IntKind.wrap .i64 (q6_law06_CountsKept p0 p1)) + (q0_law06_CountsKept p0 p1).1.2.2.2))) = true) →
              ((s_base_Within (Go.IntKind.wrap .i64 ((Go.IntKind.wrap .i64 (p1.1 + p1.2.1)) + p1.2.2)) (Go.IntKind.wrap .i64 ((Go.IntKind.wrap .i64 (q5_law06_CountsKept p0 p1)) + (q0_law06_CountsKept p0 p1).1.2.2.1)) (Go.IntKind.wrap .i64 ((Go.IntKind.wrap .i64 (q6_law06_CountsKept p0 p1)) + (q0_law06_CountsKept p0 p1).1.2.2.2))) = (s_base_Within (Go.IntKind.wrap .i64 ((Go.IntKind.wrap .i64 (p1.1 + p1.2.1)) + p1.2.2)) (Go.IntKind.wrap .i64 ((Go.IntKind.wrap .i64 (q5_law06_CountsKept p0 p1)) + (q0_law06_CountsKept p0 p1).1.2.2.1)) (Go.IntKind.wrap .i64 ((Go.IntKind.wrap .i64 (q6_law06_CountsKept p0 p1)) + (q0_law06_CountsKept p0 p1).1.2.2.2))))) ∧
              ((((s_base_Within (Go.IntKind.wrap .i64 ((Go.IntKind.wrap .i64 (p1.1 + p1.2.1)) + p1.2.2)) (Go.IntKind.wrap .i64 ((Go.IntKind.wrap .i64 (q5_law06_CountsKept p0 p1)) + (q0_law06_CountsKept p0 p1).1.2.2.1)) (Go.IntKind.wrap .i64 ((Go.IntKind.wrap .i64 (q6_law06_CountsKept p0 p1)) + (q0_law06_CountsKept p0 p1).1.2.2.2))) = true) →
              ((s_base_Within (Go.IntKind.wrap .i64 ((Go.IntKind.wrap .i64 (p1.1 + p1.2.1)) + p1.2.2)) (Go.IntKind.wrap .i64 ((Go.IntKind.wrap .i64 (q5_law06_CountsKept p0 p1)) + (q0_law06_CountsKept p0 p1).1.2.2.1)) (Go.IntKind.wrap .i64 ((Go.IntKind.wrap .i64 (q6_law06_CountsKept p0 p1)) + (q0_law06_CountsKept p0 p1).1.2.2.2))) = (s_base_Within (Go.IntKind.wrap .i64 ((Go.IntKind.wrap .i64 (p1.1 + p1.2.1)) + p1.2.2)) (Go.IntKind.wrap .i64 ((Go.IntKind.wrap .i64 (q5_law06_CountsKept p0 p1)) + (q0_law06_CountsKept p0 p1).1.2.2.1)) (Go.IntKind.wrap .i64 ((Go.IntKind.wrap .i64 (q6_law06_CountsKept p0 p1)) + (q0_law06_CountsKept p0 p1).1.2.2.2))))) ∧
              ((((s_base_Within (Go.IntKind.wrap .i64 ((Go.IntKind.wrap .i64 (p1.1 + p1.2.1)) + p1.2.2)) (Go.IntKind.wrap .i64 ((Go.IntKind.wrap .i64 (q5_law06_CountsKept p0 p1)) + (q0_law06_CountsKept p0 p1).1.2.2.1)) (Go.IntKind.wrap .i64 ((Go.IntKind.wrap .i64 (q6_law06_CountsKept p0 p1)) + (q0_law06_CountsKept p0 p1).1.2.2.2))) = true) →
              ((s_base_Within (Go.IntKind.wrap .i64 ((Go.IntKind.wrap .i64 (p1.1 + p1.2.1)) + p1.2.2)) (Go.IntKind.wrap .i64 ((Go.IntKind.wrap .i64 (q5_law06_CountsKept p0 p1)) + (q0_law06_CountsKept p0 p1).1.2.2.1)) (Go.IntKind.wrap .i64 ((Go.IntKind.wrap .i64 (q6_law06_CountsKept p0 p1)) + (q0_law06_CountsKept p0 p1).1.2.2.2))) = (s_base_Within (Go.IntKind.wrap .i64 ((Go.IntKind.wrap .i64 (p1.1 + p1.2.1)) + p1.2.2)) (Go.IntKind.wrap .i64 ((Go.IntKind.wrap .i64 (q5_law06_CountsKept p0 p1)) + (q0_law06_CountsKept p0 p1).1.2.2.1)) (Go.IntKind.wrap .i64 ((Go.IntKind.wrap .i64 (q6_law06_CountsKept p0 p1)) + (q0_law06_CountsKept p0 p1).1.2.2.2))))) ∧
              ((((s_base_Within (Go.IntKind.wrap .i64 ((Go.IntKind.wrap .i64 (p1.1 + p1.2.1)) + p1.2.2)) (Go.IntKind.wrap .i64 ((Go.IntKind.wrap .i64 (q5_law06_CountsKept p0 p1)) + (q0_law06_CountsKept p0 p1).1.2.2.1)) (Go.IntKind.wrap .i64 ((Go.IntKind.wrap .i64 (q6_law06_CountsKept p0 p1)) + (q0_law06_CountsKept p0 p1).1.2.2.2))) = true) →
              ((s_base_Within (Go.IntKind.wrap .i64 ((Go.IntKind.wrap .i64 (p1.1 + p1.2.1)) + p1.2.2)) (Go.IntKind.wrap .i64 ((Go.IntKind.wrap .i64 (q5_law06_CountsKept p0 p1)) + (q0_law06_CountsKept p0 p1).1.2.2.1)) (Go.IntKind.wrap .i64 ((Go.IntKind.wrap .i64 (q6_law06_CountsKept p0 p1)) + (q0_law06_CountsKept p0 p1).1.2.2.2))) = (s_base_Within (Go.IntKind.wrap .i64 ((Go.IntKind.wrap .i64 (p1.1 + p1.2.1)) + p1.2.2)) (Go.IntKind.wrap .i64 ((Go.IntKind.wrap .i64 (q5_law06_CountsKept p0 p1)) + (q0_law06_CountsKept p0 p1).1.2.2.1)) (Go.IntKind.wrap .i64 ((Go.IntKind.wrap .i64 (q6_law06_CountsKept p0 p1)) + (q0_law06_CountsKept p0 p1).1.2.2.2))))) ∧
              ((((s_base_Within (Go.IntKind.wrap .i64 ((Go.IntKind.wrap .i64 (p1.1 + p1.2.1)) + p1.2.2)) (Go.IntKind.wrap .i64 ((Go.IntKind.wrap .i64 (q5_law06_CountsKept p0 p1)) + (q0_law06_CountsKept p0 p1).1.2.2.1)) (Go.IntKind.wrap .i64 ((Go.IntKind.wrap .i64 (q6_law06_CountsKept p0 p1)) + (q0_law06_CountsKept p0 p1).1.2.2.2))) = true) →
              ((s_base_Within (Go.IntKind.wrap .i64 ((Go.IntKind.wrap .i64 (p1.1 + p1.2.1)) + p1.2.2)) (Go.IntKind.wrap .i64 ((Go.IntKind.wrap .i64 (q5_law06_CountsKept p0 p1)) + (q0_law06_CountsKept p0 p1).1.2.2.1)) (Go.IntKind.wrap .i64 ((Go.IntKind.wrap .i64 (q6_law06_CountsKept p0 p1)) + (q0_law06_CountsKept p0 p1).1.2.2.2))) = (s_base_Within (Go.IntKind.wrap .i64 ((Go.IntKind.wrap .i64 (p1.1 + p1.2.1)) + p1.2.2)) (Go.IntKind.wrap .i64 ((Go.IntKind.wrap .i64 (q5_law06_CountsKept p0 p1)) + (q0_law06_CountsKept p0 p1).1.2.2.1)) (Go.IntKind.wrap .i64 ((Go.IntKind.wrap .i64 (q6_law06_CountsKept p0 p1)) + (q0_law06_CountsKept p0 p1).1.2.2.2))))) ∧
              ((((s_base_Within (Go.IntKind.wrap .i64 ((Go.IntKind.wrap .i64 (p1.1 + p1.2.1)) + p1.2.2)) (Go.IntKind.wrap .i64 ((Go.IntKind.wrap .i64 (q5_law06_CountsKept p0 p1)) + (q0_law06_CountsKept p0 p1).1.2.2.1)) (Go.IntKind.wrap .i64 ((Go.IntKind.wrap .i64 (q6_law06_CountsKept p0 p1)) + (q0_law06_CountsKept p0 p1).1.2.2.2))) = true) →
              ((s_base_Within (Go.IntKind.wrap .i64 ((Go.IntKind.wrap .i64 (p1.1 + p1.2.1)) + p1.2.2)) (Go.IntKind.wrap .i64 ((Go.IntKind.wrap .i64 (q5_law06_CountsKept p0 p1)) + (q0_law06_CountsKept p0 p1).1.2.2.1)) (Go.IntKind.wrap .i64 ((Go.IntKind.wrap .i64 (q6_law06_CountsKept p0 p1)) + (q0_law06_CountsKept p0 p1).1.2.2.2))) = (s_base_Within (Go.IntKind.wrap .i64 ((Go.IntKind.wrap .i64 (p1.1 + p1.2.1)) + p1.2.2)) (Go.IntKind.wrap .i64 ((Go.IntKind.wrap .i64 (q5_law06_CountsKept p0 p1)) + (q0_law06_CountsKept p0 p1).1.2.2.1)) (Go.IntKind.wrap .i64 ((Go.IntKind.wrap .i64 (q6_law06_CountsKept p0 p1)) + (q0_law06_CountsKept p0 p1).1.2.2.2))))) ∧
              ((((s_base_Within (Go.IntKind.wrap .i64 ((Go.IntKind.wrap .i64 (p1.1 + p1.2.1)) + p1.2.2)) (Go.IntKind.wrap .i64 ((Go.IntKind.wrap .i64 (q5_law06_CountsKept p0 p1)) + (q0_law06_CountsKept p0 p1).1.2.2.1)) (Go.IntKind.wrap .i64 ((Go.IntKind.wrap .i64 (q6_law06_CountsKept p0 p1)) + (q0_law06_CountsKept p0 p1).1.2.2.2))) = true) →
              ((s_base_Within (Go.IntKind.wrap .i64 ((Go.IntKind.wrap .i64 (p1.1 + p1.2.1)) + p1.2.2)) (Go.IntKind.wrap .i64 ((Go.IntKind.wrap .i64 (q5_law06_CountsKept p0 p1)) + (q0_law06_CountsKept p0 p1).1.2.2.1)) (Go.IntKind.wrap .i64 ((Go.IntKind.wrap .i64 (q6_law06_CountsKept p0 p1)) + (q0_law06_CountsKept p0 p1).1.2.2.2))) = (s_base_Within (Go.IntKind.wrap .i64 ((Go.IntKind.wrap .i64 (p1.1 + p1.2.1)) + p1.2.2)) (Go.IntKind.wrap .i64 ((Go.IntKind.wrap .i64 (q5_law06_CountsKept p0 p1)) + (q0_law06_CountsKept p0 p1).1.2.2.1)) (Go.IntKind.wrap .i64 ((Go.IntKind.wrap .i64 (q6_law06_CountsKept p0 p1)) + (q0_law06_CountsKept p0 p1).1.2.2.2))))) ∧
              ((((s_base_Within (Go.IntKind.wrap .i64 ((Go.IntKind.wrap .i64 (p1.1 + p1.2.1)) + p1.2.2)) (Go.IntKind.wrap .i64 ((Go.IntKind.wrap .i64 (q5_law06_CountsKept p0 p1)) + (q0_law06_CountsKept p0 p1).1.2.2.1)) (Go.IntKind.wrap .i64 ((Go.IntKind.wrap .i64 (q6_law06_CountsKept p0 p1)) + (q0_law06_CountsKept p0 p1).1.2.2.2))) = true) →
              ((s_base_Within (Go.IntKind.wrap .i64 ((Go.IntKind.wrap .i64 (p1.1 + p1.2.1)) + p1.2.2)) (Go.IntKind.wrap .i64 ((Go.IntKind.wrap .i64 (q5_law06_CountsKept p0 p1)) + (q0_law06_CountsKept p0 p1).1.2.2.1)) (Go.IntKind.wrap .i64 ((Go.IntKind.wrap .i64 (q6_law06_CountsKept p0 p1)) + (q0_law06_CountsKept p0 p1).1.2.2.2))) = (s_base_Within (Go.IntKind.wrap .i64 ((Go.IntKind.wrap .i64 (p1.1 + p1.2.1)) + p1.2.2)) (Go.IntKind.wrap .i64 ((Go.IntKind.wrap .i64 (q5_law06_CountsKept p0 p1)) + (q0_law06_CountsKept p0 p1).1.2.2.1)) (Go.IntKind.wrap .i64 ((Go.IntKind.wrap .i64 (q6_law06_CountsKept p0 p1)) + (q0_law06_CountsKept p0 p1).1.2.2.2))))) ∧
              ((((s_base_Within (Go.IntKind.wrap .i64 ((Go.IntKind.wrap .i64 (p1.1 + p1.2.1)) + p1.2.2)) (Go.IntKind.wrap .i64 ((Go.IntKind.wrap .i64 (q5_law06_CountsKept p0 p1)) + (q0_law06_CountsKept p0 p1).1.2.2.1)) (Go.IntKind.wrap .i64 ((Go.IntKind.wrap .i64 (q6_law06_CountsKept p0 p1)) + (q0_law06_CountsKept p0 p1).1.2.2.2))) = true) →
              ((s_base_Within (Go.IntKind.wrap .i64 ((Go.IntKind.wrap .i64 (p1.1 + p1.2.1)) + p1.2.2)) (Go.IntKind.wrap .i64 ((Go.IntKind.wrap .i64 (q5_law06_CountsKept p0 p1)) + (q0_law06_CountsKept p0 p1).1.2.2.1)) (Go.IntKind.wrap .i64 ((Go.IntKind.wrap .i64 (q6_law06_CountsKept p0 p1)) + (q0_law06_CountsKept p0 p1).1.2.2.2))) = (s_base_Within (Go.IntKind.wrap .i64 ((Go.IntKind.wrap .i64 (p1.1 + p1.2.1)) + p1.2.2)) (Go.IntKind.wrap .i64 ((Go.IntKind.wrap .i64 (q5_law06_CountsKept p0 p1)) + (q0_law06_CountsKept p0 p1).1.2.2.1)) (Go.IntKind.wrap .i64 ((Go.IntKind.wrap .i64 (q6_law06_CountsKept p0 p1)) + (q0_law06_CountsKept p0 p1).1.2.2.2))))) ∧
              ((((s_base_Within (Go.IntKind.wrap .i64 ((Go.IntKind.wrap .i64 (p1.1 + p1.2.1)) + p1.2.2)) (Go.IntKind.wrap .i64 ((Go.IntKind.wrap .i64 (q5_law06_CountsKept p0 p1)) + (q0_law06_CountsKept p0 p1).1.2.2.1)) (Go.IntKind.wrap .i64 ((Go.IntKind.wrap .i64 (q6_law06_CountsKept p0 p1)) + (q0_law06_CountsKept p0 p1).1.2.2.2))) = true) →
              ((s_base_Within (Go.IntKind.wrap .i64 ((Go.IntKind.wrap .i64 (p1.1 + p1.2.1)) + p1.2.2)) (Go.IntKind.wrap .i64 ((Go.IntKind.wrap .i64 (q5_law06_CountsKept p0 p1)) + (q0_law06_CountsKept p0 p1).1.2.2.1)) (Go.IntKind.wrap .i64 ((Go.IntKind.wrap .i64 (q6_law06_CountsKept p0 p1)) + (q0_law06_CountsKept p0 p1).1.2.2.2))) = (s_base_Within (Go.IntKind.wrap .i64 ((Go.IntKind.wrap .i64 (p1.1 + p1.2.1)) + p1.2.2)) (Go.IntKind.wrap .i64 ((Go.IntKind.wrap .i64 (q5_law06_CountsKept p0 p1)) + (q0_law06_CountsKept p0 p1).1.2.2.1)) (Go.IntKind.wrap .i64 ((Go.IntKind.wrap .i64 (q6_law06_CountsKept p0 p1)) + (q0_law06_CountsKept p0 p1).1.2.2.2))))) ∧
              ((((s_base_Within (Go.IntKind.wrap .i64 ((Go.IntKind.wrap .i64 (p1.1 + p1.2.1)) + p1.2.2)) (Go.IntKind.wrap .i64 ((Go.IntKind.wrap .i64 (q5_law06_CountsKept p0 p1)) + (q0_law06_CountsKept p0 p1).1.2.2.1)) (Go.IntKind.wrap .i64 ((Go.IntKind.wrap .i64 (q6_law06_CountsKept p0 p1)) + (q0_law06_CountsKept p0 p1).1.2.2.2))) = true) →
              ((s_base_Within (Go.IntKind.wrap .i64 ((Go.IntKind.wrap .i64 (p1.1 + p1.2.1)) + p1.2.2)) (Go.IntKind.wrap .i64 ((Go.IntKind.wrap .i64 (q5_law06_CountsKept p0 p1)) + (q0_law06_CountsKept p0 p1).1.2.2.1)) (Go.IntKind.wrap .i64 ((Go.IntKind.wrap .i64 (q6_law06_CountsKept p0 p1)) + (q0_law06_CountsKept p0 p1).1.2.2.2))) = (s_base_Within (Go.IntKind.wrap .i64 ((Go.IntKind.wrap .i64 (p1.1 + p1.2.1)) + p1.2.2)) (Go.IntKind.wrap .i64 ((Go.IntKind.wrap .i64 (q5_law06_CountsKept p0 p1)) + (q0_law06_CountsKept p0 p1).1.2.2.1)) (Go.IntKind.wrap .i64 ((Go.IntKind.wrap .i64 (q6_law06_CountsKept p0 p1)) + (q0_law06_CountsKept p0 p1).1.2.2.2))))) ∧
              ((((s_base_Within (Go.IntKind.wrap .i64 ((Go.IntKind.wrap .i64 (p1.1 + p1.2.1)) + p1.2.2)) (Go.IntKind.wrap .i64 ((Go.IntKind.wrap .i64 (q5_law06_CountsKept p0 p1)) + (q0_law06_CountsKept p0 p1).1.2.2.1)) (Go.IntKind.wrap .i64 ((Go.IntKind.wrap .i64 (q6_law06_CountsKept p0 p1)) + (q0_law06_CountsKept p0 p1).1.2.2.2))) = true) →
              ((s_base_Within (Go.IntKind.wrap .i64 ((Go.IntKind.wrap .i64 (p1.1 + p1.2.1)) + p1.2.2)) (Go.IntKind.wrap .i64 ((Go.IntKind.wrap .i64 (q5_law06_CountsKept p0 p1)) + (q0_law06_CountsKept p0 p1).1.2.2.1)) (Go.IntKind.wrap .i64 ((Go.IntKind.wrap .i64 (q6_law06_CountsKept p0 p1)) + (q0_law06_CountsKept p0 p1).1.2.2.2))) = (s_base_Within (Go.IntKind.wrap .i64 ((Go.IntKind.wrap .i64 (p1.1 + p1.2.1)) + p1.2.2)) (Go.IntKind.wrap .i64 ((Go.IntKind.wrap .i64 (q5_law06_CountsKept p0 p1)) + (q0_law06_CountsKept p0 p1).1.2.2.1)) (Go.IntKind.wrap .i64 ((Go.IntKind.wrap .i64 (q6_law06_CountsKept p0 p1)) + (q0_law06_CountsKept p0 p1).1.2.2.2))))) ∧
              ((((s_base_Within (Go.IntKind.wrap .i64 ((Go.IntKind.wrap .i64 (p1.1 + p1.2.1)) + p1.2.2)) (Go.IntKind.wrap .i64 ((Go.IntKind.wrap .i64 (q5_law06_CountsKept p0 p1)) + (q0_law06_CountsKept p0 p1).1.2.2.1)) (Go.IntKind.wrap .i64 ((Go.IntKind.wrap .i64 (q6_law06_CountsKept p0 p1)) + (q0_law06_CountsKept p0 p1).1.2.2.2))) = true) →
              ((s_base_Within (Go.IntKind.wrap .i64 ((Go.IntKind.wrap .i64 (p1.1 + p1.2.1)) + p1.2.2)) (Go.IntKind.wrap .i64 ((Go.IntKind.wrap .i64 (q5_law06_CountsKept p0 p1)) + (q0_law06_CountsKept p0 p1).1.2.2.1)) (Go.IntKind.wrap .i64 ((Go.IntKind.wrap .i64 (q6_law06_CountsKept p0 p1)) + (q0_law06_CountsKept p0 p1).1.2.2.2))) = (s_base_Within (Go.IntKind.wrap .i64 ((Go.IntKind.wrap .i64 (p1.1 + p1.2.1)) + p1.2.2)) (Go.IntKind.wrap .i64 ((Go.IntKind.wrap .i64 (q5_law06_CountsKept p0 p1)) + (q0_law06_CountsKept p0 p1).1.2.2.1)) (Go.IntKind.wrap .i64 ((Go.IntKind.wrap .i64 (q6_law06_CountsKept p0 p1)) + (q0_law06_CountsKept p0 p1).1.2.2.2))))) ∧
              ((((s_base_Within (Go.IntKind.wrap .i64 ((Go.IntKind.wrap .i64 (p1.1 + p1.2.1)) + p1.2.2)) (Go.IntKind.wrap .i64 ((Go.IntKind.wrap .i64 (q5_law06_CountsKept p0 p1)) + (q0_law06_CountsKept p0 p1).1.2.2.1)) (Go.IntKind.wrap .i64 ((Go.IntKind.wrap .i64 (q6_law06_CountsKept p0 p1)) + (q0_law06_CountsKept p0 p1).1.2.2.2))) = true) →
              ((s_base_Within (Go.IntKind.wrap .i64 ((Go.IntKind.wrap .i64 (p1.1 + p1.2.1)) + p1.2.2)) (Go.IntKind.wrap .i64 ((Go.IntKind.wrap .i64 (q5_law06_CountsKept p0 p1)) + (q0_law06_CountsKept p0 p1).1.2.2.1)) (Go.IntKind.wrap .i64 ((Go.IntKind.wrap .i64 (q6_law06_CountsKept p0 p1)) + (q0_law06_CountsKept p0 p1).1.2.2.2))) = (s_base_Within (Go.IntKind.wrap .i64 ((Go.IntKind.wrap .i64 (p1.1 + p1.2.1)) + p1.2.2)) (Go.IntKind.wrap .i64 ((Go.IntKind.wrap .i64 (q5_law06_CountsKept p0 p1)) + (q0_law06_CountsKept p0 p1).1.2.2.1)) (Go.IntKind.wrap .i64 ((Go.IntKind.wrap .i64 (q6_law06_CountsKept p0 p1)) + (q0_law06_CountsKept p0 p1).1.2.2.2))))) ∧
              (((s_base_Within (Go.IntKind.wrap .i64 ((Go.IntKind.wrap .i64 (p1.1 + p1.2.1)) + p1.2.2)) (Go.IntKind.wrap .i64 ((Go.IntKind.wrap .i64 (q5_law06_CountsKept p0 p1)) + (q0_law06_CountsKept p0 p1).1.2.2.1)) (Go.IntKind.wrap .i64 ((Go.IntKind.wrap .i64 (q6_law06_CountsKept p0 p1)) + (q0_law06_CountsKept p0 p1).1.2.2.2))) = (s_base_Within (Go.IntKind.wrap .i64 ((Go.IntKind.wrap .i64 (p1.1 + p1.2.1)) + p1.2.2)) (Go.IntKind.wrap .i64 ((Go.IntKind.wrap .i64 (q5_law06_CountsKept p0 p1)) + (q0_law06_CountsKept p0 p1).1.2.2.1)) (Go.IntKind.wrap .i64 ((Go.IntKind.wrap .i64 (q6_law06_CountsKept p0 p1)) + (q0_law06_CountsKept p0 p1).1.2.2.2)))) ∧
              (K (cond (s_base_Within (Go.IntKind.wrap .i64 ((Go.IntKind.wrap .i64 (p1.1 + p1.2.1)) + p1.2.2)) (Go.IntKind.wrap .i64 ((Go.IntKind.wrap .i64 (q5_law06_CountsKept p0 p1)) + (q0_law06_CountsKept p0 p1).1.2.2.1)) (Go.IntKind.wrap .i64 ((Go.IntKind.wrap .i64 (q6_law06_CountsKept p0 p1)) + (q0_law06_CountsKept p0 p1).1.2.2.2))) (s_base_Within (Go.IntKind.wrap .i64 ((Go.IntKind.wrap .i64 (p1.1 + p1.2.1)) + p1.2.2)) (Go.IntKind.wrap .i64 ((Go.IntKind.wrap .i64 ((q9_law06_CountsKept p0 p1).1.1.1 + (q9_law06_CountsKept p0 p1).1.2.1.1)) + (q9_law06_CountsKept p0 p1).1.2.2.1)) (Go.IntKind.wrap .i64 ((Go.IntKind.wrap .i64 ((q9_law06_CountsKept p0 p1).1.1.2 + (q9_law06_CountsKept p0 p1).1.2.1.2)) + (q9_law06_CountsKept p0 p1).1.2.2.2))) false))))))))))))))))))))))))))))) n0 (0 : Int))))))))))))))))))))))))))))))))))))))))))))))))))
set_option maxHeartbeats 4000000 in
theorem w_law06_CountsKept_eq (p0 : CR) (p1 : (Int × (Int × Int))) (K : Bool → Prop) : tfn F_law06_CountsKept A_law06_CountsKept C_law06_CountsKept P_law06_CountsKept R_law06_CountsKept (p0, p1) K = w_law06_CountsKept p0 p1 K := by kernel_rfl
def s_law06_CountsKept (p0 : CR) (p1 : (Int × (Int × Int))) : Bool :=
  (cond (cond (cond (cond (cond (!(s_law06_fewKnots p0)) true ((s_counts_CheckRules p0).2 != (0 : Int))) true (!(s_base_Within p1.1 (-100000000 : Int) (100000000 : Int)))) true (!(s_base_Within p1.2.1 (-100000000 : Int) (100000000 : Int)))) true (!(s_base_Within p1.2.2 (-100000000 : Int) (100000000 : Int)))) true
    (cond (cond (cond (cond (cond ((s_counts_InverseOf p0).2 != (0 : Int)) true ((s_counts_Mixed p0 ((p1.1, p1.1), ((p1.2.1, p1.2.1), (p1.2.2, p1.2.2)))).2 != (0 : Int))) true ((s_counts_StrippedOf p0 ((p1.1, p1.1), ((p1.2.1, p1.2.1), (p1.2.2, p1.2.2)))).2 != (0 : Int))) true ((v_vals (s_counts_Mixed p0 ((p1.1, p1.1), ((p1.2.1, p1.2.1), (p1.2.2, p1.2.2)))).1) != (0 : Int))) true ((v_vals (s_counts_StrippedOf p0 ((p1.1, p1.1), ((p1.2.1, p1.2.1), (p1.2.2, p1.2.2)))).1) != (0 : Int))) false
    (cond (cond (cond ((s_counts_StrippedOf p0 (s_counts_Mixed p0 ((p1.1, p1.1), ((p1.2.1, p1.2.1), (p1.2.2, p1.2.2)))).1).2 != (0 : Int)) true ((s_counts_Mixed p0 (s_counts_StrippedOf p0 ((p1.1, p1.1), ((p1.2.1, p1.2.1), (p1.2.2, p1.2.2)))).1).2 != (0 : Int))) true (!(s_base_Within (s_counts_InverseOf p0).1.2 (1 : Int) (1000000000 : Int)))) false
    (cond (!(s_base_Within (s_counts_InverseOf p0).1.1.1.1 (-1000000000 : Int) (1000000000 : Int))) false
    (cond (!(s_base_Within (s_counts_InverseOf p0).1.1.2.1.1 (-1000000000 : Int) (1000000000 : Int))) false
    (cond (!(s_base_Within (s_counts_InverseOf p0).1.1.2.2.1 (-1000000000 : Int) (1000000000 : Int))) false
    (cond (cond (cond ((Go.IntKind.wrap .i64 ((Go.IntKind.wrap .i64 ((Go.IntKind.wrap .i64 ((0 : Int) + (s_counts_InverseOf p0).1.1.1.1)) + (s_counts_InverseOf p0).1.1.2.1.1)) + (s_counts_InverseOf p0).1.1.2.2.1)) != (s_counts_InverseOf p0).1.2) true (!(s_base_Within p1.1 (s_counts_StrippedOf p0 (s_counts_Mixed p0 ((p1.1, p1.1), ((p1.2.1, p1.2.1), (p1.2.2, p1.2.2)))).1).1.1.1 (s_counts_StrippedOf p0 (s_counts_Mixed p0 ((p1.1, p1.1), ((p1.2.1, p1.2.1), (p1.2.2, p1.2.2)))).1).1.1.2))) true (!(s_base_Within p1.1 (s_counts_Mixed p0 (s_counts_StrippedOf p0 ((p1.1, p1.1), ((p1.2.1, p1.2.1), (p1.2.2, p1.2.2)))).1).1.1.1 (s_counts_Mixed p0 (s_counts_StrippedOf p0 ((p1.1, p1.1), ((p1.2.1, p1.2.1), (p1.2.2, p1.2.2)))).1).1.1.2))) false
    (cond (!(s_base_Within (s_counts_InverseOf p0).1.1.1.2.1 (-1000000000 : Int) (1000000000 : Int))) false
    (cond (!(s_base_Within (s_counts_InverseOf p0).1.1.2.1.2.1 (-1000000000 : Int) (1000000000 : Int))) false
    (cond (!(s_base_Within (s_counts_InverseOf p0).1.1.2.2.2.1 (-1000000000 : Int) (1000000000 : Int))) false
    (cond (cond (cond ((Go.IntKind.wrap .i64 ((Go.IntKind.wrap .i64 ((Go.IntKind.wrap .i64 ((0 : Int) + (s_counts_InverseOf p0).1.1.1.2.1)) + (s_counts_InverseOf p0).1.1.2.1.2.1)) + (s_counts_InverseOf p0).1.1.2.2.2.1)) != (s_counts_InverseOf p0).1.2) true (!(s_base_Within p1.2.1 (s_counts_StrippedOf p0 (s_counts_Mixed p0 ((p1.1, p1.1), ((p1.2.1, p1.2.1), (p1.2.2, p1.2.2)))).1).1.2.1.1 (s_counts_StrippedOf p0 (s_counts_Mixed p0 ((p1.1, p1.1), ((p1.2.1, p1.2.1), (p1.2.2, p1.2.2)))).1).1.2.1.2))) true (!(s_base_Within p1.2.1 (s_counts_Mixed p0 (s_counts_StrippedOf p0 ((p1.1, p1.1), ((p1.2.1, p1.2.1), (p1.2.2, p1.2.2)))).1).1.2.1.1 (s_counts_Mixed p0 (s_counts_StrippedOf p0 ((p1.1, p1.1), ((p1.2.1, p1.2.1), (p1.2.2, p1.2.2)))).1).1.2.1.2))) false
    (cond (!(s_base_Within (s_counts_InverseOf p0).1.1.1.2.2 (-1000000000 : Int) (1000000000 : Int))) false
    (cond (!(s_base_Within (s_counts_InverseOf p0).1.1.2.1.2.2 (-1000000000 : Int) (1000000000 : Int))) false
    (cond (!(s_base_Within (s_counts_InverseOf p0).1.1.2.2.2.2 (-1000000000 : Int) (1000000000 : Int))) false
    (cond (cond (cond ((Go.IntKind.wrap .i64 ((Go.IntKind.wrap .i64 ((Go.IntKind.wrap .i64 ((0 : Int) + (s_counts_InverseOf p0).1.1.1.2.2)) + (s_counts_InverseOf p0).1.1.2.1.2.2)) + (s_counts_InverseOf p0).1.1.2.2.2.2)) != (s_counts_InverseOf p0).1.2) true (!(s_base_Within p1.2.2 (s_counts_StrippedOf p0 (s_counts_Mixed p0 ((p1.1, p1.1), ((p1.2.1, p1.2.1), (p1.2.2, p1.2.2)))).1).1.2.2.1 (s_counts_StrippedOf p0 (s_counts_Mixed p0 ((p1.1, p1.1), ((p1.2.1, p1.2.1), (p1.2.2, p1.2.2)))).1).1.2.2.2))) true (!(s_base_Within p1.2.2 (s_counts_Mixed p0 (s_counts_StrippedOf p0 ((p1.1, p1.1), ((p1.2.1, p1.2.1), (p1.2.2, p1.2.2)))).1).1.2.2.1 (s_counts_Mixed p0 (s_counts_StrippedOf p0 ((p1.1, p1.1), ((p1.2.1, p1.2.1), (p1.2.2, p1.2.2)))).1).1.2.2.2))) false
    (cond (s_base_Within (Go.IntKind.wrap .i64 ((Go.IntKind.wrap .i64 (p1.1 + p1.2.1)) + p1.2.2)) (Go.IntKind.wrap .i64 ((Go.IntKind.wrap .i64 ((s_counts_Mixed p0 ((p1.1, p1.1), ((p1.2.1, p1.2.1), (p1.2.2, p1.2.2)))).1.1.1 + (s_counts_Mixed p0 ((p1.1, p1.1), ((p1.2.1, p1.2.1), (p1.2.2, p1.2.2)))).1.2.1.1)) + (s_counts_Mixed p0 ((p1.1, p1.1), ((p1.2.1, p1.2.1), (p1.2.2, p1.2.2)))).1.2.2.1)) (Go.IntKind.wrap .i64 ((Go.IntKind.wrap .i64 ((s_counts_Mixed p0 ((p1.1, p1.1), ((p1.2.1, p1.2.1), (p1.2.2, p1.2.2)))).1.1.2 + (s_counts_Mixed p0 ((p1.1, p1.1), ((p1.2.1, p1.2.1), (p1.2.2, p1.2.2)))).1.2.1.2)) + (s_counts_Mixed p0 ((p1.1, p1.1), ((p1.2.1, p1.2.1), (p1.2.2, p1.2.2)))).1.2.2.2))) (s_base_Within (Go.IntKind.wrap .i64 ((Go.IntKind.wrap .i64 (p1.1 + p1.2.1)) + p1.2.2)) (Go.IntKind.wrap .i64 ((Go.IntKind.wrap .i64 ((s_counts_StrippedOf p0 ((p1.1, p1.1), ((p1.2.1, p1.2.1), (p1.2.2, p1.2.2)))).1.1.1 + (s_counts_StrippedOf p0 ((p1.1, p1.1), ((p1.2.1, p1.2.1), (p1.2.2, p1.2.2)))).1.2.1.1)) + (s_counts_StrippedOf p0 ((p1.1, p1.1), ((p1.2.1, p1.2.1), (p1.2.2, p1.2.2)))).1.2.2.1)) (Go.IntKind.wrap .i64 ((Go.IntKind.wrap .i64 ((s_counts_StrippedOf p0 ((p1.1, p1.1), ((p1.2.1, p1.2.1), (p1.2.2, p1.2.2)))).1.1.2 + (s_counts_StrippedOf p0 ((p1.1, p1.1), ((p1.2.1, p1.2.1), (p1.2.2, p1.2.2)))).1.2.1.2)) + (s_counts_StrippedOf p0 ((p1.1, p1.1), ((p1.2.1, p1.2.1), (p1.2.2, p1.2.2)))).1.2.2.2))) false))))))))))))))))
abbrev pre_law06_CountsKept (p0 : CR) (p1 : (Int × (Int × Int))) : List Prop := [(((cond (cond (cond (cond (!(s_law06_fewKnots p0)) true ((s_counts_CheckRules p0).2 != (0 : Int))) true (!(s_base_Within p1.1 (-100000000 : Int) (100000000 : Int)))) true (!(s_base_Within p1.2.1 (-100000000 : Int) (100000000 : Int)))) true (!(s_base_Within p1.2.2 (-100000000 : Int) (100000000 : Int)))) = false) → ((List.length p0.2.2.2.2.2.2.2.2) ≤ 10)),
    (((cond (cond (cond (cond (!(s_law06_fewKnots p0)) true ((s_counts_CheckRules p0).2 != (0 : Int))) true (!(s_base_Within p1.1 (-100000000 : Int) (100000000 : Int)))) true (!(s_base_Within p1.2.1 (-100000000 : Int) (100000000 : Int)))) true (!(s_base_Within p1.2.2 (-100000000 : Int) (100000000 : Int)))) = false) → ((((s_counts_CheckRules p0).2 != (0 : Int)) = false) → (v_rules p0))),
    (((cond (cond (cond (cond (!(s_law06_fewKnots p0)) true ((s_counts_CheckRules p0).2 != (0 : Int))) true (!(s_base_Within p1.1 (-100000000 : Int) (100000000 : Int)))) true (!(s_base_Within p1.2.1 (-100000000 : Int) (100000000 : Int)))) true (!(s_base_Within p1.2.2 (-100000000 : Int) (100000000 : Int)))) = false) → ((((cond ((s_counts_CheckRules p0).2 != (0 : Int)) (s_counts_CheckRules p0).2 (v_vals ((p1.1, p1.1), ((p1.2.1, p1.2.1), (p1.2.2, p1.2.2))))) != (0 : Int)) = false) → (v_rules p0))),
    (((cond (cond (cond (cond (!(s_law06_fewKnots p0)) true ((s_counts_CheckRules p0).2 != (0 : Int))) true (!(s_base_Within p1.1 (-100000000 : Int) (100000000 : Int)))) true (!(s_base_Within p1.2.1 (-100000000 : Int) (100000000 : Int)))) true (!(s_base_Within p1.2.2 (-100000000 : Int) (100000000 : Int)))) = false) → (((cond (cond (cond (cond ((s_counts_InverseOf p0).2 != (0 : Int)) true ((s_counts_Mixed p0 ((p1.1, p1.1), ((p1.2.1, p1.2.1), (p1.2.2, p1.2.2)))).2 != (0 : Int))) true ((s_counts_StrippedOf p0 ((p1.1, p1.1), ((p1.2.1, p1.2.1), (p1.2.2, p1.2.2)))).2 != (0 : Int))) true ((v_vals (s_counts_Mixed p0 ((p1.1, p1.1), ((p1.2.1, p1.2.1), (p1.2.2, p1.2.2)))).1) != (0 : Int))) true ((v_vals (s_counts_StrippedOf p0 ((p1.1, p1.1), ((p1.2.1, p1.2.1), (p1.2.2, p1.2.2)))).1) != (0 : Int))) = false) → ((List.length p0.2.2.2.2.2.2.2.2) ≤ 10))),
    (((cond (cond (cond (cond (!(s_law06_fewKnots p0)) true ((s_counts_CheckRules p0).2 != (0 : Int))) true (!(s_base_Within p1.1 (-100000000 : Int) (100000000 : Int)))) true (!(s_base_Within p1.2.1 (-100000000 : Int) (100000000 : Int)))) true (!(s_base_Within p1.2.2 (-100000000 : Int) (100000000 : Int)))) = false) → (((cond (cond (cond (cond ((s_counts_InverseOf p0).2 != (0 : Int)) true ((s_counts_Mixed p0 ((p1.1, p1.1), ((p1.2.1, p1.2.1), (p1.2.2, p1.2.2)))).2 != (0 : Int))) true ((s_counts_StrippedOf p0 ((p1.1, p1.1), ((p1.2.1, p1.2.1), (p1.2.2, p1.2.2)))).2 != (0 : Int))) true ((v_vals (s_counts_Mixed p0 ((p1.1, p1.1), ((p1.2.1, p1.2.1), (p1.2.2, p1.2.2)))).1) != (0 : Int))) true ((v_vals (s_counts_StrippedOf p0 ((p1.1, p1.1), ((p1.2.1, p1.2.1), (p1.2.2, p1.2.2)))).1) != (0 : Int))) = false) → ((((cond ((s_counts_CheckRules p0).2 != (0 : Int)) (s_counts_CheckRules p0).2 (v_vals (s_counts_Mixed p0 ((p1.1, p1.1), ((p1.2.1, p1.2.1), (p1.2.2, p1.2.2)))).1)) != (0 : Int)) = false) → (v_rules p0))))]
set_option maxHeartbeats 4000000 in
theorem d_law06_CountsKept (p0 : CR) (p1 : (Int × (Int × Int))) (K : Bool → Prop) (hp : ∀ p ∈ pre_law06_CountsKept p0 p1, p) (h : K (s_law06_CountsKept p0 p1)) : w_law06_CountsKept p0 p1 K := by
  unfold w_law06_CountsKept
  unfold s_law06_CountsKept at h
  obtain ⟨hp0, hp1, hp2, hp3, hp4, _⟩ := conj_of hp
  exact ⟨nof, fun _ => ⟨rf, rf, rfl, rf, rf, rf, rfl, rf, rf, rf, rfl, rf, rf, rf, rfl, (br' h (fun e0 h => h)
    (fun e0 h => ⟨(hp0 e0), (hp1 e0), (hp0 e0), (hp0 e0), (hp2 e0), rf, rfl, rf, rfl, rf, rf, rfl, rf, rf, rfl, (br' h (fun e1 h => h)
    (fun e1 h => ⟨(hp3 e0 e1), (hp4 e0 e1), (hp3 e0 e1), rf, rfl, rf, rf, rf, rfl, (br' h (fun e2 h => h)
    (fun e2 h => ⟨31, fun _ => ⟨31, fun _ => ⟨(od rfl), (od rfl), (od rfl), (od rfl), (br' h (fun e3 h => h)
    (fun e3 h => ⟨(od rfl), (od rfl), (od rfl), (od rfl), fun _ => ⟨(od rfl), (od rfl), (od rfl), (od rfl), (br' h (fun e4 h => h)
    (fun e4 h => ⟨(od rfl), (od rfl), (od rfl), (od rfl), fun _ => ⟨(od rfl), (od rfl), (od rfl), (od rfl), (br' h (fun e5 h => h)
    (fun e5 h => ⟨(od rfl), (od rfl), (od rfl), (od rfl), nof, fun _ => ⟨rf, (fun _ => (od rfl)), (fun _ => (od rfl)), rf, rf, (fun _ => (od rfl)), (fun _ => (od rfl)), rf, rf, rf, (fun _ => (od rfl)), (fun _ => (od rfl)), rf, rf, rf, rf, rf, rf, rfl, rf, (fun _ => (od rfl)), (fun _ => (od rfl)), rf, rf, (fun _ => (od rfl)), (fun _ => (od rfl)), rf, rf, rf, (fun _ => (od rfl)), (fun _ => (od rfl)), rf, rf, rf, rf, rf, rf, rfl, (br' h (fun e6 h => h)
    (fun e6 h => ⟨fun _ => ⟨31, fun _ => ⟨(od rfl), (od rfl), (od rfl), (od rfl), (br' h (fun e7 h => h)
    (fun e7 h => ⟨(od rfl), (od rfl), (od rfl), (od rfl), fun _ => ⟨(od rfl), (od rfl), (od rfl), (od rfl), (br' h (fun e8 h => h)
    (fun e8 h => ⟨(od rfl), (od rfl), (od rfl), (od rfl), fun _ => ⟨(od rfl), (od rfl), (od rfl), (od rfl), (br' h (fun e9 h => h)
    (fun e9 h => ⟨(od rfl), (od rfl), (od rfl), (od rfl), nof, fun _ => ⟨rf, (fun _ => (od rfl)), (fun _ => (od rfl)), rf, rf, (fun _ => (od rfl)), (fun _ => (od rfl)), rf, rf, rf, (fun _ => (od rfl)), (fun _ => (od rfl)), rf, rf, rf, rf, rf, rf, rfl, rf, (fun _ => (od rfl)), (fun _ => (od rfl)), rf, rf, (fun _ => (od rfl)), (fun _ => (od rfl)), rf, rf, rf, (fun _ => (od rfl)), (fun _ => (od rfl)), rf, rf, rf, rf, rf, rf, rfl, (br' h (fun e10 h => h)
    (fun e10 h => ⟨fun _ => ⟨31, fun _ => ⟨(od rfl), (od rfl), (od rfl), (od rfl), (br' h (fun e11 h => h)
    (fun e11 h => ⟨(od rfl), (od rfl), (od rfl), (od rfl), fun _ => ⟨(od rfl), (od rfl), (od rfl), (od rfl), (br' h (fun e12 h => h)
    (fun e12 h => ⟨(od rfl), (od rfl), (od rfl), (od rfl), fun _ => ⟨(od rfl), (od rfl), (od rfl), (od rfl), (br' h (fun e13 h => h)
    (fun e13 h => ⟨(od rfl), (od rfl), (od rfl), (od rfl), nof, fun _ => ⟨rf, (fun _ => (od rfl)), (fun _ => (od rfl)), rf, rf, (fun _ => (od rfl)), (fun _ => (od rfl)), rf, rf, rf, (fun _ => (od rfl)), (fun _ => (od rfl)), rf, rf, rf, rf, rf, rf, rfl, rf, (fun _ => (od rfl)), (fun _ => (od rfl)), rf, rf, (fun _ => (od rfl)), (fun _ => (od rfl)), rf, rf, rf, (fun _ => (od rfl)), (fun _ => (od rfl)), rf, rf, rf, rf, rf, rf, rfl, (br' h (fun e14 h => h)
    (fun e14 h => ⟨nof, fun _ => ⟨rf, rf, rf, rf, rf, rf, rf, rf, rf, rf, rf, rf, rf, rf, rf, rf, rf, rf, rf, rf, rf, rf, rf, rfl, h⟩⟩))⟩⟩))⟩, fun e => Bool.noConfusion (show true = false from e)⟩))⟩, fun e => Bool.noConfusion (show true = false from e)⟩))⟩, fun e => Bool.noConfusion (show true = false from e)⟩, fun e => Bool.noConfusion (show true = false from e)⟩))⟩⟩))⟩, fun e => Bool.noConfusion (show true = false from e)⟩))⟩, fun e => Bool.noConfusion (show true = false from e)⟩))⟩, fun e => Bool.noConfusion (show true = false from e)⟩, fun e => Bool.noConfusion (show true = false from e)⟩))⟩⟩))⟩, fun e => Bool.noConfusion (show true = false from e)⟩))⟩, fun e => Bool.noConfusion (show true = false from e)⟩))⟩, fun e => Bool.noConfusion (show true = false from e)⟩, fun e => Bool.noConfusion (show true = false from e)⟩))⟩))⟩))⟩⟩
abbrev con_law06_CountsKept : Con := ⟨P_law06_CountsKept, R_law06_CountsKept, fun x => pre_law06_CountsKept x.1 x.2, fun x => s_law06_CountsKept x.1 x.2⟩
theorem ok_law06_CountsKept : ConOk Try.prog 8 con_law06_CountsKept := ⟨k_law06_CountsKept, fun x hx => ret_tf (ps := P_law06_CountsKept) (rs := R_law06_CountsKept) (x := x) (y := s_law06_CountsKept x.1 x.2) e_law06_CountsKept hC_law06_CountsKept (tf_of (w_law06_CountsKept_eq x.1 x.2 (fun z => z = s_law06_CountsKept x.1 x.2)) (d_law06_CountsKept x.1 x.2 (fun z => z = s_law06_CountsKept x.1 x.2) hx rfl))⟩
end Go.Proofs.Ytonjnpefnbnohaa
