/- What the functions that CountsLines reaches compute: contracts, each function once. No condition. -/
import Derived.Test.YtonjnpefnbnohaaWalkCountsLinesA
import Derived.KernelRfl
namespace Go.Proofs.Ytonjnpefnbnohaa
open Go Go.Mx
set_option maxRecDepth 100000
/- counts_product -/
def C_counts_product : Cons := [(119, [], con_counts_times), (123, [], con_counts_sum), (118, [], con_counts_rounded)]
theorem hC_counts_product : ConsOk Try.prog C_counts_product := ConsOk.cons ok_counts_times <| ConsOk.cons ok_counts_sum <| ConsOk.cons ok_counts_rounded <| ConsOk.nil
def w_counts_product (p0 : M3) (p1 : R3) (p2 : Int) (K : R3 → Prop) : Prop :=
 (∃ n0, (loopP (fun (y1 : (Int × (Int × (Int × (Int × (Int × (Int × Int))))))) k2 =>
    ((((decide (y1.1 < (3 : Int))) = true) →
    (((0 : Int) ≤ y1.1) ∧
      ((y1.1 < (3 : Int)) ∧
      (∃ n3, (loopP (fun (y4 : (Int × (Int × (Int × (Int × (Int × (Int × Int))))))) k5 =>
        ((((decide (y4.1 < (3 : Int))) = true) →
        (((0 : Int) ≤ y4.1) ∧
          ((y4.1 < (3 : Int)) ∧
          (((0 : Int) ≤ y1.1) ∧
          ((y1.1 < (3 : Int)) ∧
          (((0 : Int) ≤ y4.1) ∧
          ((y4.1 < (3 : Int)) ∧
          (((0 : Int) ≤ y1.1) ∧
          ((y1.1 < (3 : Int)) ∧
          (k5 ((IntKind.i64.wrap (y4.1 + (1 : Int))), ((cond (decide (y1.1 = (0 : Int))) (s_counts_sum ((List.getD (y4.2.1 :: (y4.2.2.2.1 :: (y4.2.2.2.2.2.1 :: ([] : List Int)))) (Int.toNat y1.1) (0 : Int)), (List.getD (y4.2.2.1 :: (y4.2.2.2.2.1 :: (y4.2.2.2.2.2.2 :: ([] : List Int)))) (Int.toNat y1.1) (0 : Int))) (s_counts_times ((List.getD (p1.1.1 :: (p1.2.1.1 :: (p1.2.2.1 :: ([] : List Int)))) (Int.toNat y4.1) (0 : Int)), (List.getD (p1.1.2 :: (p1.2.1.2 :: (p1.2.2.2 :: ([] : List Int)))) (Int.toNat y4.1) (0 : Int))) (List.getD ((List.getD (p0.1.1 :: (p0.2.1.1 :: (p0.2.2.1 :: ([] : List Int)))) (Int.toNat y1.1) (0 : Int)) :: ((List.getD (p0.1.2.1 :: (p0.2.1.2.1 :: (p0.2.2.2.1 :: ([] : List Int)))) (Int.toNat y1.1) (0 : Int)) :: ((List.getD (p0.1.2.2 :: (p0.2.1.2.2 :: (p0.2.2.2.2 :: ([] : List Int)))) (Int.toNat y1.1) (0 : Int)) :: ([] : List Int)))) (Int.toNat y4.1) (0 : Int)))).1 y4.2.1), ((cond (decide (y1.1 = (0 : Int))) (s_counts_sum ((List.getD (y4.2.1 :: (y4.2.2.2.1 :: (y4.2.2.2.2.2.1 :: ([] : List Int)))) (Int.toNat y1.1) (0 : Int)), (List.getD (y4.2.2.1 :: (y4.2.2.2.2.1 :: (y4.2.2.2.2.2.2 :: ([] : List Int)))) (Int.toNat y1.1) (0 : Int))) (s_counts_times ((List.getD (p1.1.1 :: (p1.2.1.1 :: (p1.2.2.1 :: ([] : List Int)))) (Int.toNat y4.1) (0 : Int)), (List.getD (p1.1.2 :: (p1.2.1.2 :: (p1.2.2.2 :: ([] : List Int)))) (Int.toNat y4.1) (0 : Int))) (List.getD ((List.getD (p0.1.1 :: (p0.2.1.1 :: (p0.2.2.1 :: ([] : List Int)))) (Int.toNat y1.1) (0 : Int)) :: ((List.getD (p0.1.2.1 :: (p0.2.1.2.1 :: (p0.2.2.2.1 :: ([] : List Int)))) (Int.toNat y1.1) (0 : Int)) :: ((List.getD (p0.1.2.2 :: (p0.2.1.2.2 :: (p0.2.2.2.2 :: ([] : List Int)))) (Int.toNat y1.1) (0 : Int)) :: ([] : List Int)))) (Int.toNat y4.1) (0 : Int)))).2 y4.2.2.1), ((cond (decide (y1.1 = (1 : Int))) (s_counts_sum ((List.getD (y4.2.1 :: (y4.2.2.2.1 :: (y4.2.2.2.2.2.1 :: ([] : List Int)))) (Int.toNat y1.1) (0 : Int)), (List.getD (y4.2.2.1 :: (y4.2.2.2.2.1 :: (y4.2.2.2.2.2.2 :: ([] : List Int)))) (Int.toNat y1.1) (0 : Int))) (s_counts_times ((List.getD (p1.1.1 :: (p1.2.1.1 :: (p1.2.2.1 :: ([] : List Int)))) (Int.toNat y4.1) (0 : Int)), (List.getD (p1.1.2 :: (p1.2.1.2 :: (p1.2.2.2 :: ([] : List Int)))) (Int.toNat y4.1) (0 : Int))) (List.getD ((List.getD (p0.1.1 :: (p0.2.1.1 :: (p0.2.2.1 :: ([] : List Int)))) (Int.toNat y1.1) (0 : Int)) :: ((List.getD (p0.1.2.1 :: (p0.2.1.2.1 :: (p0.2.2.2.1 :: ([] : List Int)))) (Int.toNat y1.1) (0 : Int)) :: ((List.getD (p0.1.2.2 :: (p0.2.1.2.2 :: (p0.2.2.2.2 :: ([] : List Int)))) (Int.toNat y1.1) (0 : Int)) :: ([] : List Int)))) (Int.toNat y4.1) (0 : Int)))).1 y4.2.2.2.1), ((cond (decide (y1.1 = (1 : Int))) (s_counts_sum ((List.getD (y4.2.1 :: (y4.2.2.2.1 :: (y4.2.2.2.2.2.1 :: ([] : List Int)))) (Int.toNat y1.1) (0 : Int)), (List.getD (y4.2.2.1 :: (y4.2.2.2.2.1 :: (y4.2.2.2.2.2.2 :: ([] : List Int)))) (Int.toNat y1.1) (0 : Int))) (s_counts_times ((List.getD (p1.1.1 :: (p1.2.1.1 :: (p1.2.2.1 :: ([] : List Int)))) (Int.toNat y4.1) (0 : Int)), (List.getD (p1.1.2 :: (p1.2.1.2 :: (p1.2.2.2 :: ([] : List Int)))) (Int.toNat y4.1) (0 : Int))) (List.getD ((List.getD (p0.1.1 :: (p0.2.1.1 :: (p0.2.2.1 :: ([] : List Int)))) (Int.toNat y1.1) (0 : Int)) :: ((List.getD (p0.1.2.1 :: (p0.2.1.2.1 :: (p0.2.2.2.1 :: ([] : List Int)))) (Int.toNat y1.1) (0 : Int)) :: ((List.getD (p0.1.2.2 :: (p0.2.1.2.2 :: (p0.2.2.2.2 :: ([] : List Int)))) (Int.toNat y1.1) (0 : Int)) :: ([] : List Int)))) (Int.toNat y4.1) (0 : Int)))).2 y4.2.2.2.2.1), ((cond (decide (y1.1 = (2 : Int))) (s_counts_sum ((List.getD (y4.2.1 :: (y4.2.2.2.1 :: (y4.2.2.2.2.2.1 :: ([] : List Int)))) (Int.toNat y1.1) (0 : Int)), (List.getD (y4.2.2.1 :: (y4.2.2.2.2.1 :: (y4.2.2.2.2.2.2 :: ([] : List Int)))) (Int.toNat y1.1) (0 : Int))) (s_counts_times ((List.getD (p1.1.1 :: (p1.2.1.1 :: (p1.2.2.1 :: ([] : List Int)))) (Int.toNat y4.1) (0 : Int)), (List.getD (p1.1.2 :: (p1.2.1.2 :: (p1.2.2.2 :: ([] : List Int)))) (Int.toNat y4.1) (0 : Int))) (List.getD ((List.getD (p0.1.1 :: (p0.2.1.1 :: (p0.2.2.1 :: ([] : List Int)))) (Int.toNat y1.1) (0 : Int)) :: ((List.getD (p0.1.2.1 :: (p0.2.1.2.1 :: (p0.2.2.2.1 :: ([] : List Int)))) (Int.toNat y1.1) (0 : Int)) :: ((List.getD (p0.1.2.2 :: (p0.2.1.2.2 :: (p0.2.2.2.2 :: ([] : List Int)))) (Int.toNat y1.1) (0 : Int)) :: ([] : List Int)))) (Int.toNat y4.1) (0 : Int)))).1 y4.2.2.2.2.2.1), (cond (decide (y1.1 = (2 : Int))) (s_counts_sum ((List.getD (y4.2.1 :: (y4.2.2.2.1 :: (y4.2.2.2.2.2.1 :: ([] : List Int)))) (Int.toNat y1.1) (0 : Int)), (List.getD (y4.2.2.1 :: (y4.2.2.2.2.1 :: (y4.2.2.2.2.2.2 :: ([] : List Int)))) (Int.toNat y1.1) (0 : Int))) (s_counts_times ((List.getD (p1.1.1 :: (p1.2.1.1 :: (p1.2.2.1 :: ([] : List Int)))) (Int.toNat y4.1) (0 : Int)), (List.getD (p1.1.2 :: (p1.2.1.2 :: (p1.2.2.2 :: ([] : List Int)))) (Int.toNat y4.1) (0 : Int))) (List.getD ((List.getD (p0.1.1 :: (p0.2.1.1 :: (p0.2.2.1 :: ([] : List Int)))) (Int.toNat y1.1) (0 : Int)) :: ((List.getD (p0.1.2.1 :: (p0.2.1.2.1 :: (p0.2.2.2.1 :: ([] : List Int)))) (Int.toNat y1.1) (0 : Int)) :: ((List.getD (p0.1.2.2 :: (p0.2.1.2.2 :: (p0.2.2.2.2 :: ([] : List Int)))) (Int.toNat y1.1) (0 : Int)) :: ([] : List Int)))) (Int.toNat y4.1) (0 : Int)))).2 y4.2.2.2.2.2.2))))))))))))))))) ∧
        (((decide (y4.1 < (3 : Int))) = false) →
        (((0 : Int) ≤ y1.1) ∧
          ((y1.1 < (3 : Int)) ∧
          ((p2 ≠ (0 : Int)) ∧
          (((0 : Int) ≤ y1.1) ∧
          ((y1.1 < (3 : Int)) ∧
          (k2 ((IntKind.i64.wrap (y1.1 + (1 : Int))), ((cond (decide (y1.1 = (0 : Int))) (s_counts_rounded ((List.getD (y4.2.1 :: (y4.2.2.2.1 :: (y4.2.2.2.2.2.1 :: ([] : List Int)))) (Int.toNat y1.1) (0 : Int)), (List.getD (y4.2.2.1 :: (y4.2.2.2.2.1 :: (y4.2.2.2.2.2.2 :: ([] : List Int)))) (Int.toNat y1.1) (0 : Int))) p2).1 y4.2.1), ((cond (decide (y1.1 = (0 : Int))) (s_counts_rounded ((List.getD (y4.2.1 :: (y4.2.2.2.1 :: (y4.2.2.2.2.2.1 :: ([] : List Int)))) (Int.toNat y1.1) (0 : Int)), (List.getD (y4.2.2.1 :: (y4.2.2.2.2.1 :: (y4.2.2.2.2.2.2 :: ([] : List Int)))) (Int.toNat y1.1) (0 : Int))) p2).2 y4.2.2.1), ((cond (decide (y1.1 = (1 : Int))) (s_counts_rounded ((List.getD (y4.2.1 :: (y4.2.2.2.1 :: (y4.2.2.2.2.2.1 :: ([] : List Int)))) (Int.toNat y1.1) (0 : Int)), (List.getD (y4.2.2.1 :: (y4.2.2.2.2.1 :: (y4.2.2.2.2.2.2 :: ([] : List Int)))) (Int.toNat y1.1) (0 : Int))) p2).1 y4.2.2.2.1), ((cond (decide (y1.1 = (1 : Int))) (s_counts_rounded ((List.getD (y4.2.1 :: (y4.2.2.2.1 :: (y4.2.2.2.2.2.1 :: ([] : List Int)))) (Int.toNat y1.1) (0 : Int)), (List.getD (y4.2.2.1 :: (y4.2.2.2.2.1 :: (y4.2.2.2.2.2.2 :: ([] : List Int)))) (Int.toNat y1.1) (0 : Int))) p2).2 y4.2.2.2.2.1), ((cond (decide (y1.1 = (2 : Int))) (s_counts_rounded ((List.getD (y4.2.1 :: (y4.2.2.2.1 :: (y4.2.2.2.2.2.1 :: ([] : List Int)))) (Int.toNat y1.1) (0 : Int)), (List.getD (y4.2.2.1 :: (y4.2.2.2.2.1 :: (y4.2.2.2.2.2.2 :: ([] : List Int)))) (Int.toNat y1.1) (0 : Int))) p2).1 y4.2.2.2.2.2.1), (cond (decide (y1.1 = (2 : Int))) (s_counts_rounded ((List.getD (y4.2.1 :: (y4.2.2.2.1 :: (y4.2.2.2.2.2.1 :: ([] : List Int)))) (Int.toNat y1.1) (0 : Int)), (List.getD (y4.2.2.1 :: (y4.2.2.2.2.1 :: (y4.2.2.2.2.2.2 :: ([] : List Int)))) (Int.toNat y1.1) (0 : Int))) p2).2 y4.2.2.2.2.2.2)))))))))))))))) n3 ((0 : Int), y1.2)))))) ∧
    (((decide (y1.1 < (3 : Int))) = false) →
    (K ((y1.2.1, y1.2.2.1), ((y1.2.2.2.1, y1.2.2.2.2.1), y1.2.2.2.2.2)))))) n0 ((0 : Int), ((0 : Int), ((0 : Int), ((0 : Int), ((0 : Int), ((0 : Int), (0 : Int)))))))))
set_option maxHeartbeats 4000000 in
theorem w_counts_product_eq (p0 : M3) (p1 : R3) (p2 : Int) (K : R3 → Prop) : tfn F_counts_product A_counts_product C_counts_product P_counts_product R_counts_product (p0, p1, p2) K = w_counts_product p0 p1 p2 K := by kernel_rfl
def s_counts_product (p0 : M3) (p1 : R3) (p2 : Int) : R3 :=
  ((s_counts_rounded (s_counts_sum (s_counts_sum (s_counts_sum ((0 : Int), (0 : Int)) (s_counts_times p1.1 p0.1.1)) (s_counts_times p1.2.1 p0.1.2.1)) (s_counts_times p1.2.2 p0.1.2.2)) p2), ((s_counts_rounded (s_counts_sum (s_counts_sum (s_counts_sum ((0 : Int), (0 : Int)) (s_counts_times p1.1 p0.2.1.1)) (s_counts_times p1.2.1 p0.2.1.2.1)) (s_counts_times p1.2.2 p0.2.1.2.2)) p2), (s_counts_rounded (s_counts_sum (s_counts_sum (s_counts_sum ((0 : Int), (0 : Int)) (s_counts_times p1.1 p0.2.2.1)) (s_counts_times p1.2.1 p0.2.2.2.1)) (s_counts_times p1.2.2 p0.2.2.2.2)) p2)))
abbrev pre_counts_product (p0 : M3) (p1 : R3) (p2 : Int) : List Prop := [(p2 ≠ (0 : Int))]
set_option maxHeartbeats 4000000 in
theorem d_counts_product (p0 : M3) (p1 : R3) (p2 : Int) (K : R3 → Prop) (hp : ∀ p ∈ pre_counts_product p0 p1 p2, p) (h : K (s_counts_product p0 p1 p2)) : w_counts_product p0 p1 p2 K := by
  unfold w_counts_product
  unfold s_counts_product at h
  obtain ⟨hp0, _⟩ := conj_of hp
  exact ⟨31, fun _ => ⟨(od rfl), (od rfl), 31, fun _ => ⟨(od rfl), (od rfl), (od rfl), (od rfl), (od rfl), (od rfl), (od rfl), (od rfl), fun _ => ⟨(od rfl), (od rfl), (od rfl), (od rfl), (od rfl), (od rfl), (od rfl), (od rfl), fun _ => ⟨(od rfl), (od rfl), (od rfl), (od rfl), (od rfl), (od rfl), (od rfl), (od rfl), nof, fun _ => ⟨(od rfl), (od rfl), (hp0), (od rfl), (od rfl), fun _ => ⟨(od rfl), (od rfl), 31, fun _ => ⟨(od rfl), (od rfl), (od rfl), (od rfl), (od rfl), (od rfl), (od rfl), (od rfl), fun _ => ⟨(od rfl), (od rfl), (od rfl), (od rfl), (od rfl), (od rfl), (od rfl), (od rfl), fun _ => ⟨(od rfl), (od rfl), (od rfl), (od rfl), (od rfl), (od rfl), (od rfl), (od rfl), nof, fun _ => ⟨(od rfl), (od rfl), (hp0), (od rfl), (od rfl), fun _ => ⟨(od rfl), (od rfl), 31, fun _ => ⟨(od rfl), (od rfl), (od rfl), (od rfl), (od rfl), (od rfl), (od rfl), (od rfl), fun _ => ⟨(od rfl), (od rfl), (od rfl), (od rfl), (od rfl), (od rfl), (od rfl), (od rfl), fun _ => ⟨(od rfl), (od rfl), (od rfl), (od rfl), (od rfl), (od rfl), (od rfl), (od rfl), nof, fun _ => ⟨(od rfl), (od rfl), (hp0), (od rfl), (od rfl), nof, fun _ => h⟩⟩, fun e => Bool.noConfusion (show true = false from e)⟩, fun e => Bool.noConfusion (show true = false from e)⟩, fun e => Bool.noConfusion (show true = false from e)⟩, fun e => Bool.noConfusion (show true = false from e)⟩⟩, fun e => Bool.noConfusion (show true = false from e)⟩, fun e => Bool.noConfusion (show true = false from e)⟩, fun e => Bool.noConfusion (show true = false from e)⟩, fun e => Bool.noConfusion (show true = false from e)⟩⟩, fun e => Bool.noConfusion (show true = false from e)⟩, fun e => Bool.noConfusion (show true = false from e)⟩, fun e => Bool.noConfusion (show true = false from e)⟩, fun e => Bool.noConfusion (show true = false from e)⟩
abbrev con_counts_product : Con := ⟨P_counts_product, R_counts_product, fun x => pre_counts_product x.1 x.2.1 x.2.2, fun x => s_counts_product x.1 x.2.1 x.2.2⟩
theorem ok_counts_product : ConOk Try.prog 98 con_counts_product := ⟨k_counts_product, fun x hx => ret_tf (ps := P_counts_product) (rs := R_counts_product) (x := x) (y := s_counts_product x.1 x.2.1 x.2.2) e_counts_product hC_counts_product (tf_of (w_counts_product_eq x.1 x.2.1 x.2.2 (fun z => z = s_counts_product x.1 x.2.1 x.2.2)) (d_counts_product x.1 x.2.1 x.2.2 (fun z => z = s_counts_product x.1 x.2.1 x.2.2) hx rfl))⟩
/- counts_rules_stripped -/
def C_counts_rules_stripped : Cons := [(96, [], con_counts_rules_inverse), (98, [], con_counts_product)]
theorem hC_counts_rules_stripped : ConsOk Try.prog C_counts_rules_stripped := ConsOk.cons ok_counts_rules_inverse <| ConsOk.cons ok_counts_product <| ConsOk.nil
def w_counts_rules_stripped (p0 : CR) (p1 : R3) (K : R3 → Prop) : Prop :=
 ((v_rules p0) ∧
  (((v_inv p0).2 ≠ (0 : Int)) ∧
  (K (s_counts_product (v_inv p0).1 p1 (v_inv p0).2))))
set_option maxHeartbeats 4000000 in
theorem w_counts_rules_stripped_eq (p0 : CR) (p1 : R3) (K : R3 → Prop) : tfn F_counts_rules_stripped A_counts_rules_stripped C_counts_rules_stripped P_counts_rules_stripped R_counts_rules_stripped (p0, p1) K = w_counts_rules_stripped p0 p1 K := by kernel_rfl
def s_counts_rules_stripped (p0 : CR) (p1 : R3) : R3 :=
  (s_counts_product (v_inv p0).1 p1 (v_inv p0).2)
abbrev pre_counts_rules_stripped (p0 : CR) (p1 : R3) : List Prop := [(v_rules p0),
    ((v_inv p0).2 ≠ (0 : Int))]
set_option maxHeartbeats 4000000 in
theorem d_counts_rules_stripped (p0 : CR) (p1 : R3) (K : R3 → Prop) (hp : ∀ p ∈ pre_counts_rules_stripped p0 p1, p) (h : K (s_counts_rules_stripped p0 p1)) : w_counts_rules_stripped p0 p1 K := by
  unfold w_counts_rules_stripped
  unfold s_counts_rules_stripped at h
  obtain ⟨hp0, hp1, _⟩ := conj_of hp
  exact ⟨(hp0), (hp1), h⟩
theorem tx_invden {r : CR} (h : v_rules r) : 1 ≤ (v_inv r).2 := by
  have hc := tx_inv0 (tx_mat h)
  have hd := v_div_in hc.den.1
  show 1 ≤ (v_inv0 r.2.2.2.2.2.2.2.1).2.tdiv (v_div (v_inv0 r.2.2.2.2.2.2.2.1))
  rw [Int.tdiv_eq_ediv_of_nonneg (by omega)]
  exact Int.le_ediv_of_mul_le (by omega) (by omega)
abbrev qre_counts_rules_stripped (p0 : CR) (_ : R3) : List Prop := [v_rules p0]
theorem pp_counts_rules_stripped (p0 : CR) (p1 : R3) (hq : ∀ p ∈ qre_counts_rules_stripped p0 p1, p) : ∀ p ∈ pre_counts_rules_stripped p0 p1, p := by
  have hv := (conj_of hq).1
  have := tx_invden hv
  intro p hp
  simp only [pre_counts_rules_stripped, List.mem_cons, List.not_mem_nil, or_false] at hp
  rcases hp with rfl | rfl
  · exact hv
  · omega

abbrev con_counts_rules_stripped : Con := ⟨P_counts_rules_stripped, R_counts_rules_stripped, fun x => qre_counts_rules_stripped x.1 x.2, fun x => s_counts_rules_stripped x.1 x.2⟩
theorem ok_counts_rules_stripped : ConOk Try.prog 99 con_counts_rules_stripped := ⟨k_counts_rules_stripped, fun x hx => ret_tf (ps := P_counts_rules_stripped) (rs := R_counts_rules_stripped) (x := x) (y := s_counts_rules_stripped x.1 x.2) e_counts_rules_stripped hC_counts_rules_stripped (tf_of (w_counts_rules_stripped_eq x.1 x.2 (fun z => z = s_counts_rules_stripped x.1 x.2)) (d_counts_rules_stripped x.1 x.2 (fun z => z = s_counts_rules_stripped x.1 x.2) (pp_counts_rules_stripped x.1 x.2 hx) rfl))⟩
/- counts_single -/
def C_counts_single : Cons := []
theorem hC_counts_single : ConsOk Try.prog C_counts_single := ConsOk.nil
def w_counts_single (p0 : Int) (K : (Int × Int) → Prop) : Prop :=
 (K (p0, p0))
set_option maxHeartbeats 4000000 in
theorem w_counts_single_eq (p0 : Int) (K : (Int × Int) → Prop) : tfn F_counts_single A_counts_single C_counts_single P_counts_single R_counts_single p0 K = w_counts_single p0 K := by kernel_rfl
def s_counts_single (p0 : Int) : (Int × Int) :=
  (p0, p0)
abbrev pre_counts_single (p0 : Int) : List Prop := []
set_option maxHeartbeats 4000000 in
theorem d_counts_single (p0 : Int) (K : (Int × Int) → Prop) (hp : ∀ p ∈ pre_counts_single p0, p) (h : K (s_counts_single p0)) : w_counts_single p0 K := by
  unfold w_counts_single
  unfold s_counts_single at h
  exact h
abbrev con_counts_single : Con := ⟨P_counts_single, R_counts_single, fun x => pre_counts_single x, fun x => s_counts_single x⟩
theorem ok_counts_single : ConOk Try.prog 120 con_counts_single := ⟨k_counts_single, fun x hx => ret_tf (ps := P_counts_single) (rs := R_counts_single) (x := x) (y := s_counts_single x) e_counts_single hC_counts_single (tf_of (w_counts_single_eq x (fun z => z = s_counts_single x)) (d_counts_single x (fun z => z = s_counts_single x) hx rfl))⟩
/- counts_rules_live -/
def C_counts_rules_live : Cons := [(120, [], con_counts_single), (118, [], con_counts_rounded)]
theorem hC_counts_rules_live : ConsOk Try.prog C_counts_rules_live := ConsOk.cons ok_counts_single <| ConsOk.cons ok_counts_rounded <| ConsOk.nil
def w_counts_rules_live (p0 : CR) (p1 : CS) (K : R3 → Prop) : Prop :=
 (∃ n0, (loopP (fun (y1 : (Int × (Int × (Int × (Int × (Int × (Int × Int))))))) k2 =>
    ((((decide (y1.1 < (3 : Int))) = true) →
    (((0 : Int) ≤ y1.1) ∧
      ((y1.1 < (3 : Int)) ∧
      (((IntKind.i64.wrap (p0.1 - (IntKind.i64.wrap (p0.2.1 * p1.2.1)))) ≠ (0 : Int)) ∧
      (((0 : Int) ≤ y1.1) ∧
      ((y1.1 < (3 : Int)) ∧
      (k2 ((IntKind.i64.wrap (y1.1 + (1 : Int))), ((cond (decide (y1.1 = (0 : Int))) (s_counts_rounded (s_counts_single (IntKind.i64.wrap ((IntKind.i64.wrap ((1000 : Int) * (List.getD (p1.1.1 :: (p1.1.2.1 :: (p1.1.2.2 :: ([] : List Int)))) (Int.toNat y1.1) (0 : Int)))) * p0.1))) (IntKind.i64.wrap (p0.1 - (IntKind.i64.wrap (p0.2.1 * p1.2.1))))).1 y1.2.1), ((cond (decide (y1.1 = (0 : Int))) (s_counts_rounded (s_counts_single (IntKind.i64.wrap ((IntKind.i64.wrap ((1000 : Int) * (List.getD (p1.1.1 :: (p1.1.2.1 :: (p1.1.2.2 :: ([] : List Int)))) (Int.toNat y1.1) (0 : Int)))) * p0.1))) (IntKind.i64.wrap (p0.1 - (IntKind.i64.wrap (p0.2.1 * p1.2.1))))).2 y1.2.2.1), ((cond (decide (y1.1 = (1 : Int))) (s_counts_rounded (s_counts_single (IntKind.i64.wrap ((IntKind.i64.wrap ((1000 : Int) * (List.getD (p1.1.1 :: (p1.1.2.1 :: (p1.1.2.2 :: ([] : List Int)))) (Int.toNat y1.1) (0 : Int)))) * p0.1))) (IntKind.i64.wrap (p0.1 - (IntKind.i64.wrap (p0.2.1 * p1.2.1))))).1 y1.2.2.2.1), ((cond (decide (y1.1 = (1 : Int))) (s_counts_rounded (s_counts_single (IntKind.i64.wrap ((IntKind.i64.wrap ((1000 : Int) * (List.getD (p1.1.1 :: (p1.1.2.1 :: (p1.1.2.2 :: ([] : List Int)))) (Int.toNat y1.1) (0 : Int)))) * p0.1))) (IntKind.i64.wrap (p0.1 - (IntKind.i64.wrap (p0.2.1 * p1.2.1))))).2 y1.2.2.2.2.1), ((cond (decide (y1.1 = (2 : Int))) (s_counts_rounded (s_counts_single (IntKind.i64.wrap ((IntKind.i64.wrap ((1000 : Int) * (List.getD (p1.1.1 :: (p1.1.2.1 :: (p1.1.2.2 :: ([] : List Int)))) (Int.toNat y1.1) (0 : Int)))) * p0.1))) (IntKind.i64.wrap (p0.1 - (IntKind.i64.wrap (p0.2.1 * p1.2.1))))).1 y1.2.2.2.2.2.1), (cond (decide (y1.1 = (2 : Int))) (s_counts_rounded (s_counts_single (IntKind.i64.wrap ((IntKind.i64.wrap ((1000 : Int) * (List.getD (p1.1.1 :: (p1.1.2.1 :: (p1.1.2.2 :: ([] : List Int)))) (Int.toNat y1.1) (0 : Int)))) * p0.1))) (IntKind.i64.wrap (p0.1 - (IntKind.i64.wrap (p0.2.1 * p1.2.1))))).2 y1.2.2.2.2.2.2)))))))))))))) ∧
    (((decide (y1.1 < (3 : Int))) = false) →
    (K ((y1.2.1, y1.2.2.1), ((y1.2.2.2.1, y1.2.2.2.2.1), y1.2.2.2.2.2)))))) n0 ((0 : Int), ((0 : Int), ((0 : Int), ((0 : Int), ((0 : Int), ((0 : Int), (0 : Int)))))))))
set_option maxHeartbeats 4000000 in
theorem w_counts_rules_live_eq (p0 : CR) (p1 : CS) (K : R3 → Prop) : tfn F_counts_rules_live A_counts_rules_live C_counts_rules_live P_counts_rules_live R_counts_rules_live (p0, p1) K = w_counts_rules_live p0 p1 K := by kernel_rfl
def s_counts_rules_live (p0 : CR) (p1 : CS) : R3 :=
  ((s_counts_rounded (s_counts_single (IntKind.i64.wrap ((IntKind.i64.wrap ((1000 : Int) * p1.1.1)) * p0.1))) (IntKind.i64.wrap (p0.1 - (IntKind.i64.wrap (p0.2.1 * p1.2.1))))), ((s_counts_rounded (s_counts_single (IntKind.i64.wrap ((IntKind.i64.wrap ((1000 : Int) * p1.1.2.1)) * p0.1))) (IntKind.i64.wrap (p0.1 - (IntKind.i64.wrap (p0.2.1 * p1.2.1))))), (s_counts_rounded (s_counts_single (IntKind.i64.wrap ((IntKind.i64.wrap ((1000 : Int) * p1.1.2.2)) * p0.1))) (IntKind.i64.wrap (p0.1 - (IntKind.i64.wrap (p0.2.1 * p1.2.1)))))))
abbrev pre_counts_rules_live (p0 : CR) (p1 : CS) : List Prop := [((IntKind.i64.wrap (p0.1 - (IntKind.i64.wrap (p0.2.1 * p1.2.1)))) ≠ (0 : Int))]
set_option maxHeartbeats 4000000 in
theorem d_counts_rules_live (p0 : CR) (p1 : CS) (K : R3 → Prop) (hp : ∀ p ∈ pre_counts_rules_live p0 p1, p) (h : K (s_counts_rules_live p0 p1)) : w_counts_rules_live p0 p1 K := by
  unfold w_counts_rules_live
  unfold s_counts_rules_live at h
  obtain ⟨hp0, _⟩ := conj_of hp
  exact ⟨31, fun _ => ⟨(od rfl), (od rfl), (hp0), (od rfl), (od rfl), fun _ => ⟨(od rfl), (od rfl), (hp0), (od rfl), (od rfl), fun _ => ⟨(od rfl), (od rfl), (hp0), (od rfl), (od rfl), nof, fun _ => h⟩, fun e => Bool.noConfusion (show true = false from e)⟩, fun e => Bool.noConfusion (show true = false from e)⟩, fun e => Bool.noConfusion (show true = false from e)⟩
abbrev qre_counts_rules_live (p0 : CR) (p1 : CS) : List Prop := [v_samp p0 p1]
theorem pp_counts_rules_live (p0 : CR) (p1 : CS) (hq : ∀ p ∈ qre_counts_rules_live p0 p1, p) : ∀ p ∈ pre_counts_rules_live p0 p1, p := by
  have hv := conj_of hq
  obtain ⟨h1, h2, _⟩ := tx_live hv.1
  intro p hp
  simp only [pre_counts_rules_live, List.mem_cons, List.not_mem_nil, or_false] at hp
  subst hp
  omega


abbrev con_counts_rules_live : Con := ⟨P_counts_rules_live, R_counts_rules_live, fun x => qre_counts_rules_live x.1 x.2, fun x => s_counts_rules_live x.1 x.2⟩
theorem ok_counts_rules_live : ConOk Try.prog 92 con_counts_rules_live := ⟨k_counts_rules_live, fun x hx => ret_tf (ps := P_counts_rules_live) (rs := R_counts_rules_live) (x := x) (y := s_counts_rules_live x.1 x.2) e_counts_rules_live hC_counts_rules_live (tf_of (w_counts_rules_live_eq x.1 x.2 (fun z => z = s_counts_rules_live x.1 x.2)) (d_counts_rules_live x.1 x.2 (fun z => z = s_counts_rules_live x.1 x.2) (pp_counts_rules_live x.1 x.2 hx) rfl))⟩
/- counts_rules_background -/
def C_counts_rules_background : Cons := []
theorem hC_counts_rules_background : ConsOk Try.prog C_counts_rules_background := ConsOk.nil
def w_counts_rules_background (p0 : CR) (p1 : CS) (K : (Int × (Int × Int)) → Prop) : Prop :=
 (∃ n0, (loopP (fun (y1 : (Int × (Int × (Int × Int)))) k2 =>
    ((((decide (y1.1 < (3 : Int))) = true) →
    (((0 : Int) ≤ y1.1) ∧
      ((y1.1 < (3 : Int)) ∧
      (((0 : Int) ≤ y1.1) ∧
      ((y1.1 < (3 : Int)) ∧
      (((0 : Int) ≤ y1.1) ∧
      ((y1.1 < (3 : Int)) ∧
      (k2 ((IntKind.i64.wrap (y1.1 + (1 : Int))), ((cond (decide (y1.1 = (0 : Int))) (IntKind.i64.wrap ((List.getD (p0.2.2.1.1 :: (p0.2.2.1.2.1 :: (p0.2.2.1.2.2 :: ([] : List Int)))) (Int.toNat y1.1) (0 : Int)) + (IntKind.i64.wrap ((List.getD (p0.2.2.2.1.1 :: (p0.2.2.2.1.2.1 :: (p0.2.2.2.1.2.2 :: ([] : List Int)))) (Int.toNat y1.1) (0 : Int)) * p1.2.2.1)))) y1.2.1), ((cond (decide (y1.1 = (1 : Int))) (IntKind.i64.wrap ((List.getD (p0.2.2.1.1 :: (p0.2.2.1.2.1 :: (p0.2.2.1.2.2 :: ([] : List Int)))) (Int.toNat y1.1) (0 : Int)) + (IntKind.i64.wrap ((List.getD (p0.2.2.2.1.1 :: (p0.2.2.2.1.2.1 :: (p0.2.2.2.1.2.2 :: ([] : List Int)))) (Int.toNat y1.1) (0 : Int)) * p1.2.2.1)))) y1.2.2.1), (cond (decide (y1.1 = (2 : Int))) (IntKind.i64.wrap ((List.getD (p0.2.2.1.1 :: (p0.2.2.1.2.1 :: (p0.2.2.1.2.2 :: ([] : List Int)))) (Int.toNat y1.1) (0 : Int)) + (IntKind.i64.wrap ((List.getD (p0.2.2.2.1.1 :: (p0.2.2.2.1.2.1 :: (p0.2.2.2.1.2.2 :: ([] : List Int)))) (Int.toNat y1.1) (0 : Int)) * p1.2.2.1)))) y1.2.2.2)))))))))))) ∧
    (((decide (y1.1 < (3 : Int))) = false) →
    (K y1.2)))) n0 ((0 : Int), ((0 : Int), ((0 : Int), (0 : Int))))))
set_option maxHeartbeats 4000000 in
theorem w_counts_rules_background_eq (p0 : CR) (p1 : CS) (K : (Int × (Int × Int)) → Prop) : tfn F_counts_rules_background A_counts_rules_background C_counts_rules_background P_counts_rules_background R_counts_rules_background (p0, p1) K = w_counts_rules_background p0 p1 K := by kernel_rfl
def s_counts_rules_background (p0 : CR) (p1 : CS) : (Int × (Int × Int)) :=
  ((IntKind.i64.wrap (p0.2.2.1.1 + (IntKind.i64.wrap (p0.2.2.2.1.1 * p1.2.2.1)))), ((IntKind.i64.wrap (p0.2.2.1.2.1 + (IntKind.i64.wrap (p0.2.2.2.1.2.1 * p1.2.2.1)))), (IntKind.i64.wrap (p0.2.2.1.2.2 + (IntKind.i64.wrap (p0.2.2.2.1.2.2 * p1.2.2.1))))))
abbrev pre_counts_rules_background (p0 : CR) (p1 : CS) : List Prop := []
set_option maxHeartbeats 4000000 in
theorem d_counts_rules_background (p0 : CR) (p1 : CS) (K : (Int × (Int × Int)) → Prop) (hp : ∀ p ∈ pre_counts_rules_background p0 p1, p) (h : K (s_counts_rules_background p0 p1)) : w_counts_rules_background p0 p1 K := by
  unfold w_counts_rules_background
  unfold s_counts_rules_background at h
  exact ⟨31, fun _ => ⟨(od rfl), (od rfl), (od rfl), (od rfl), (od rfl), (od rfl), fun _ => ⟨(od rfl), (od rfl), (od rfl), (od rfl), (od rfl), (od rfl), fun _ => ⟨(od rfl), (od rfl), (od rfl), (od rfl), (od rfl), (od rfl), nof, fun _ => h⟩, fun e => Bool.noConfusion (show true = false from e)⟩, fun e => Bool.noConfusion (show true = false from e)⟩, fun e => Bool.noConfusion (show true = false from e)⟩
abbrev con_counts_rules_background : Con := ⟨P_counts_rules_background, R_counts_rules_background, fun x => pre_counts_rules_background x.1 x.2, fun x => s_counts_rules_background x.1 x.2⟩
theorem ok_counts_rules_background : ConOk Try.prog 93 con_counts_rules_background := ⟨k_counts_rules_background, fun x hx => ret_tf (ps := P_counts_rules_background) (rs := R_counts_rules_background) (x := x) (y := s_counts_rules_background x.1 x.2) e_counts_rules_background hC_counts_rules_background (tf_of (w_counts_rules_background_eq x.1 x.2 (fun z => z = s_counts_rules_background x.1 x.2)) (d_counts_rules_background x.1 x.2 (fun z => z = s_counts_rules_background x.1 x.2) hx rfl))⟩
/- counts_minus -/
def C_counts_minus : Cons := [(119, [], con_counts_times), (123, [], con_counts_sum)]
theorem hC_counts_minus : ConsOk Try.prog C_counts_minus := ConsOk.cons ok_counts_times <| ConsOk.cons ok_counts_sum <| ConsOk.nil
def w_counts_minus (p0 : (Int × Int)) (p1 : (Int × Int)) (K : (Int × Int) → Prop) : Prop :=
 (K (s_counts_sum p0 (s_counts_times p1 (-1 : Int))))
set_option maxHeartbeats 4000000 in
theorem w_counts_minus_eq (p0 : (Int × Int)) (p1 : (Int × Int)) (K : (Int × Int) → Prop) : tfn F_counts_minus A_counts_minus C_counts_minus P_counts_minus R_counts_minus (p0, p1) K = w_counts_minus p0 p1 K := by kernel_rfl
def s_counts_minus (p0 : (Int × Int)) (p1 : (Int × Int)) : (Int × Int) :=
  (s_counts_sum p0 (s_counts_times p1 (-1 : Int)))
abbrev pre_counts_minus (p0 : (Int × Int)) (p1 : (Int × Int)) : List Prop := []
set_option maxHeartbeats 4000000 in
theorem d_counts_minus (p0 : (Int × Int)) (p1 : (Int × Int)) (K : (Int × Int) → Prop) (hp : ∀ p ∈ pre_counts_minus p0 p1, p) (h : K (s_counts_minus p0 p1)) : w_counts_minus p0 p1 K := by
  unfold w_counts_minus
  unfold s_counts_minus at h
  exact h
abbrev con_counts_minus : Con := ⟨P_counts_minus, R_counts_minus, fun x => pre_counts_minus x.1 x.2, fun x => s_counts_minus x.1 x.2⟩
theorem ok_counts_minus : ConOk Try.prog 121 con_counts_minus := ⟨k_counts_minus, fun x hx => ret_tf (ps := P_counts_minus) (rs := R_counts_minus) (x := x) (y := s_counts_minus x.1 x.2) e_counts_minus hC_counts_minus (tf_of (w_counts_minus_eq x.1 x.2 (fun z => z = s_counts_minus x.1 x.2)) (d_counts_minus x.1 x.2 (fun z => z = s_counts_minus x.1 x.2) hx rfl))⟩
/- counts_rules_radon -/
def C_counts_rules_radon : Cons := [(92, [], con_counts_rules_live), (93, [], con_counts_rules_background), (120, [], con_counts_single), (121, [], con_counts_minus), (119, [], con_counts_times), (118, [], con_counts_rounded)]
theorem hC_counts_rules_radon : ConsOk Try.prog C_counts_rules_radon := ConsOk.cons ok_counts_rules_live <| ConsOk.cons ok_counts_rules_background <| ConsOk.cons ok_counts_single <| ConsOk.cons ok_counts_minus <| ConsOk.cons ok_counts_times <| ConsOk.cons ok_counts_rounded <| ConsOk.nil
def w_counts_rules_radon (p0 : CR) (p1 : CS) (K : (Int × Int) → Prop) : Prop :=
 ((v_samp p0 p1) ∧
  (((IntKind.i64.wrap (p0.2.2.2.2.2.1 - p0.2.2.2.2.1)) ≠ (0 : Int)) ∧
  (K (s_counts_rounded (s_counts_minus (s_counts_single (IntKind.i64.wrap ((1000000 : Int) * p1.2.2.2.1))) (s_counts_times (s_counts_minus (s_counts_rules_live p0 p1).2.1 (s_counts_single (s_counts_rules_background p0 p1).2.1)) p0.2.2.2.2.1)) (IntKind.i64.wrap (p0.2.2.2.2.2.1 - p0.2.2.2.2.1))))))
set_option maxHeartbeats 4000000 in
theorem w_counts_rules_radon_eq (p0 : CR) (p1 : CS) (K : (Int × Int) → Prop) : tfn F_counts_rules_radon A_counts_rules_radon C_counts_rules_radon P_counts_rules_radon R_counts_rules_radon (p0, p1) K = w_counts_rules_radon p0 p1 K := by kernel_rfl
def s_counts_rules_radon (p0 : CR) (p1 : CS) : (Int × Int) :=
  (s_counts_rounded (s_counts_minus (s_counts_single (IntKind.i64.wrap ((1000000 : Int) * p1.2.2.2.1))) (s_counts_times (s_counts_minus (s_counts_rules_live p0 p1).2.1 (s_counts_single (s_counts_rules_background p0 p1).2.1)) p0.2.2.2.2.1)) (IntKind.i64.wrap (p0.2.2.2.2.2.1 - p0.2.2.2.2.1)))
abbrev pre_counts_rules_radon (p0 : CR) (p1 : CS) : List Prop := [(v_samp p0 p1),
    ((IntKind.i64.wrap (p0.2.2.2.2.2.1 - p0.2.2.2.2.1)) ≠ (0 : Int))]
set_option maxHeartbeats 4000000 in
theorem d_counts_rules_radon (p0 : CR) (p1 : CS) (K : (Int × Int) → Prop) (hp : ∀ p ∈ pre_counts_rules_radon p0 p1, p) (h : K (s_counts_rules_radon p0 p1)) : w_counts_rules_radon p0 p1 K := by
  unfold w_counts_rules_radon
  unfold s_counts_rules_radon at h
  obtain ⟨hp0, hp1, _⟩ := conj_of hp
  exact ⟨(hp0), (hp1), h⟩
abbrev qre_counts_rules_radon (p0 : CR) (p1 : CS) : List Prop := [v_samp p0 p1]
theorem pp_counts_rules_radon (p0 : CR) (p1 : CS) (hq : ∀ p ∈ qre_counts_rules_radon p0 p1, p) : ∀ p ∈ pre_counts_rules_radon p0 p1, p := by
  have hv := conj_of hq
  obtain ⟨h3, h4, _⟩ := tx_air hv.1.rules
  intro p hp
  simp only [pre_counts_rules_radon, List.mem_cons, List.not_mem_nil, or_false] at hp
  rcases hp with rfl | rfl
  · exact hv.1
  · omega


abbrev con_counts_rules_radon : Con := ⟨P_counts_rules_radon, R_counts_rules_radon, fun x => qre_counts_rules_radon x.1 x.2, fun x => s_counts_rules_radon x.1 x.2⟩
theorem ok_counts_rules_radon : ConOk Try.prog 94 con_counts_rules_radon := ⟨k_counts_rules_radon, fun x hx => ret_tf (ps := P_counts_rules_radon) (rs := R_counts_rules_radon) (x := x) (y := s_counts_rules_radon x.1 x.2) e_counts_rules_radon hC_counts_rules_radon (tf_of (w_counts_rules_radon_eq x.1 x.2 (fun z => z = s_counts_rules_radon x.1 x.2)) (d_counts_rules_radon x.1 x.2 (fun z => z = s_counts_rules_radon x.1 x.2) (pp_counts_rules_radon x.1 x.2 hx) rfl))⟩
/- counts_rules_net -/
def C_counts_rules_net : Cons := [(92, [], con_counts_rules_live), (93, [], con_counts_rules_background), (94, [], con_counts_rules_radon), (119, [], con_counts_times), (118, [], con_counts_rounded), (120, [], con_counts_single), (121, [], con_counts_minus)]
theorem hC_counts_rules_net : ConsOk Try.prog C_counts_rules_net := ConsOk.cons ok_counts_rules_live <| ConsOk.cons ok_counts_rules_background <| ConsOk.cons ok_counts_rules_radon <| ConsOk.cons ok_counts_times <| ConsOk.cons ok_counts_rounded <| ConsOk.cons ok_counts_single <| ConsOk.cons ok_counts_minus <| ConsOk.nil
abbrev q0_counts_rules_net (p0 : CR) (p1 : CS) := ((s_counts_rules_background p0 p1).1 :: ((s_counts_rules_background p0 p1).2.1 :: ((s_counts_rules_background p0 p1).2.2 :: ([] : List Int))))
abbrev q1_counts_rules_net (p0 : CR) (p1 : CS) := ((s_counts_rules_live p0 p1).1.1 :: ((s_counts_rules_live p0 p1).2.1.1 :: ((s_counts_rules_live p0 p1).2.2.1 :: ([] : List Int))))
abbrev q2_counts_rules_net (p0 : CR) (p1 : CS) := ((s_counts_rules_live p0 p1).1.2 :: ((s_counts_rules_live p0 p1).2.1.2 :: ((s_counts_rules_live p0 p1).2.2.2 :: ([] : List Int))))
abbrev q3_counts_rules_net (p0 : CR) := (p0.2.2.2.2.2.2.1.1 :: (p0.2.2.2.2.2.2.1.2.1 :: (p0.2.2.2.2.2.2.1.2.2 :: ([] : List Int))))
def w_counts_rules_net (p0 : CR) (p1 : CS) (K : R3 → Prop) : Prop :=
 ((v_samp p0 p1) ∧
  ((v_samp p0 p1) ∧
  (∃ n0, (loopP (fun (y1 : (Int × (Int × (Int × (Int × (Int × (Int × Int))))))) k2 =>
    ((((decide (y1.1 < zz3)) = true) →
    ((zz0 ≤ y1.1) ∧
      ((y1.1 < zz3) ∧
      (((1000 : Int) ≠ zz0) ∧
      ((zz0 ≤ y1.1) ∧
      ((y1.1 < zz3) ∧
      ((zz0 ≤ y1.1) ∧
      ((y1.1 < zz3) ∧
      ((zz0 ≤ y1.1) ∧
      ((y1.1 < zz3) ∧
      (k2 ((wi (y1.1 + zz1)), ((cond (decide (y1.1 = zz0)) (s_counts_minus (s_counts_minus ((List.getD (q1_counts_rules_net p0 p1) (Int.toNat y1.1) zz0), (List.getD (q2_counts_rules_net p0 p1) (Int.toNat y1.1) zz0)) (s_counts_single (List.getD (q0_counts_rules_net p0 p1) (Int.toNat y1.1) zz0))) (s_counts_rounded (s_counts_times (s_counts_rules_radon p0 p1) (List.getD (q3_counts_rules_net p0) (Int.toNat y1.1) zz0)) (1000 : Int))).1 y1.2.1), ((cond (decide (y1.1 = zz0)) (s_counts_minus (s_counts_minus ((List.getD (q1_counts_rules_net p0 p1) (Int.toNat y1.1) zz0), (List.getD (q2_counts_rules_net p0 p1) (Int.toNat y1.1) zz0)) (s_counts_single (List.getD (q0_counts_rules_net p0 p1) (Int.toNat y1.1) zz0))) (s_counts_rounded (s_counts_times (s_counts_rules_radon p0 p1) (List.getD (q3_counts_rules_net p0) (Int.toNat y1.1) zz0)) (1000 : Int))).2 y1.2.2.1), ((cond (decide (y1.1 = zz1)) (s_counts_minus (s_counts_minus ((List.getD (q1_counts_rules_net p0 p1) (Int.toNat y1.1) zz0), (List.getD (q2_counts_rules_net p0 p1) (Int.toNat y1.1) zz0)) (s_counts_single (List.getD (q0_counts_rules_net p0 p1) (Int.toNat y1.1) zz0))) (s_counts_rounded (s_counts_times (s_counts_rules_radon p0 p1) (List.getD (q3_counts_rules_net p0) (Int.toNat y1.1) zz0)) (1000 : Int))).1 y1.2.2.2.1), ((cond (decide (y1.1 = zz1)) (s_counts_minus (s_counts_minus ((List.getD (q1_counts_rules_net p0 p1) (Int.toNat y1.1) zz0), (List.getD (q2_counts_rules_net p0 p1) (Int.toNat y1.1) zz0)) (s_counts_single (List.getD (q0_counts_rules_net p0 p1) (Int.toNat y1.1) zz0))) (s_counts_rounded (s_counts_times (s_counts_rules_radon p0 p1) (List.getD (q3_counts_rules_net p0) (Int.toNat y1.1) zz0)) (1000 : Int))).2 y1.2.2.2.2.1), ((cond (decide (y1.1 = zz2)) (s_counts_minus (s_counts_minus ((List.getD (q1_counts_rules_net p0 p1) (Int.toNat y1.1) zz0), (List.getD (q2_counts_rules_net p0 p1) (Int.toNat y1.1) zz0)) (s_counts_single (List.getD (q0_counts_rules_net p0 p1) (Int.toNat y1.1) zz0))) (s_counts_rounded (s_counts_times (s_counts_rules_radon p0 p1) (List.getD (q3_counts_rules_net p0) (Int.toNat y1.1) zz0)) (1000 : Int))).1 y1.2.2.2.2.2.1), (cond (decide (y1.1 = zz2)) (s_counts_minus (s_counts_minus ((List.getD (q1_counts_rules_net p0 p1) (Int.toNat y1.1) zz0), (List.getD (q2_counts_rules_net p0 p1) (Int.toNat y1.1) zz0)) (s_counts_single (List.getD (q0_counts_rules_net p0 p1) (Int.toNat y1.1) zz0))) (s_counts_rounded (s_counts_times (s_counts_rules_radon p0 p1) (List.getD (q3_counts_rules_net p0) (Int.toNat y1.1) zz0)) (1000 : Int))).2 y1.2.2.2.2.2.2)))))))))))))))))) ∧
    (((decide (y1.1 < zz3)) = false) →
    (K ((y1.2.1, y1.2.2.1), ((y1.2.2.2.1, y1.2.2.2.2.1), y1.2.2.2.2.2)))))) n0 (zz0, (zz0, (zz0, (zz0, (zz0, (zz0, zz0))))))))))
set_option maxHeartbeats 4000000 in
theorem w_counts_rules_net_eq (p0 : CR) (p1 : CS) (K : R3 → Prop) : tfn F_counts_rules_net A_counts_rules_net C_counts_rules_net P_counts_rules_net R_counts_rules_net (p0, p1) K = w_counts_rules_net p0 p1 K := by kernel_rfl
def s_counts_rules_net (p0 : CR) (p1 : CS) : R3 :=
  ((s_counts_minus (s_counts_minus (s_counts_rules_live p0 p1).1 (s_counts_single (s_counts_rules_background p0 p1).1)) (s_counts_rounded (s_counts_times (s_counts_rules_radon p0 p1) p0.2.2.2.2.2.2.1.1) (1000 : Int))), ((s_counts_minus (s_counts_minus (s_counts_rules_live p0 p1).2.1 (s_counts_single (s_counts_rules_background p0 p1).2.1)) (s_counts_rounded (s_counts_times (s_counts_rules_radon p0 p1) p0.2.2.2.2.2.2.1.2.1) (1000 : Int))), (s_counts_minus (s_counts_minus (s_counts_rules_live p0 p1).2.2 (s_counts_single (s_counts_rules_background p0 p1).2.2)) (s_counts_rounded (s_counts_times (s_counts_rules_radon p0 p1) p0.2.2.2.2.2.2.1.2.2) (1000 : Int)))))
abbrev pre_counts_rules_net (p0 : CR) (p1 : CS) : List Prop := [(v_samp p0 p1)]
set_option maxHeartbeats 4000000 in
theorem d_counts_rules_net (p0 : CR) (p1 : CS) (K : R3 → Prop) (hp : ∀ p ∈ pre_counts_rules_net p0 p1, p) (h : K (s_counts_rules_net p0 p1)) : w_counts_rules_net p0 p1 K := by
  unfold w_counts_rules_net
  unfold s_counts_rules_net at h
  obtain ⟨hp0, _⟩ := conj_of hp
  exact ⟨(hp0), (hp0), 31, fun _ => ⟨(od rfl), (od rfl), (od rfl), (od rfl), (od rfl), (od rfl), (od rfl), (od rfl), (od rfl), fun _ => ⟨(od rfl), (od rfl), (od rfl), (od rfl), (od rfl), (od rfl), (od rfl), (od rfl), (od rfl), fun _ => ⟨(od rfl), (od rfl), (od rfl), (od rfl), (od rfl), (od rfl), (od rfl), (od rfl), (od rfl), nof, fun _ => h⟩, fun e => Bool.noConfusion (show true = false from e)⟩, fun e => Bool.noConfusion (show true = false from e)⟩, fun e => Bool.noConfusion (show true = false from e)⟩
abbrev qre_counts_rules_net (p0 : CR) (p1 : CS) : List Prop := [v_samp p0 p1]
theorem pp_counts_rules_net (p0 : CR) (p1 : CS) (hq : ∀ p ∈ qre_counts_rules_net p0 p1, p) : ∀ p ∈ pre_counts_rules_net p0 p1, p := by
  have hv := conj_of hq
  intro p hp
  simp only [pre_counts_rules_net, List.mem_cons, List.not_mem_nil, or_false] at hp
  subst hp
  exact hv.1


abbrev con_counts_rules_net : Con := ⟨P_counts_rules_net, R_counts_rules_net, fun x => qre_counts_rules_net x.1 x.2, fun x => s_counts_rules_net x.1 x.2⟩
theorem ok_counts_rules_net : ConOk Try.prog 95 con_counts_rules_net := ⟨k_counts_rules_net, fun x hx => ret_tf (ps := P_counts_rules_net) (rs := R_counts_rules_net) (x := x) (y := s_counts_rules_net x.1 x.2) e_counts_rules_net hC_counts_rules_net (tf_of (w_counts_rules_net_eq x.1 x.2 (fun z => z = s_counts_rules_net x.1 x.2)) (d_counts_rules_net x.1 x.2 (fun z => z = s_counts_rules_net x.1 x.2) (pp_counts_rules_net x.1 x.2 hx) rfl))⟩
/- counts_rules_reducedCounts -/
def C_counts_rules_reducedCounts : Cons := [(95, [], con_counts_rules_net), (99, [], con_counts_rules_stripped), (84, [], con_counts_rules_factor), (119, [], con_counts_times), (118, [], con_counts_rounded)]
theorem hC_counts_rules_reducedCounts : ConsOk Try.prog C_counts_rules_reducedCounts := ConsOk.cons ok_counts_rules_net <| ConsOk.cons ok_counts_rules_stripped <| ConsOk.cons ok_counts_rules_factor <| ConsOk.cons ok_counts_times <| ConsOk.cons ok_counts_rounded <| ConsOk.nil
def w_counts_rules_reducedCounts (p0 : CR) (p1 : CS) (K : R3 → Prop) : Prop :=
 ((v_samp p0 p1) ∧
  ((v_rules p0) ∧
  ((v_rules p0) ∧
  (((s_counts_rules_has p0 p1.2.2.2.2) = true) ∧
  (∃ n0, (loopP (fun (y1 : (Int × (Int × (Int × (Int × (Int × (Int × Int))))))) k2 =>
    ((((decide (y1.1 < (3 : Int))) = true) →
    (((0 : Int) ≤ y1.1) ∧
      ((y1.1 < (3 : Int)) ∧
      (((v_factor p0 p1.2.2.2.2).2 ≠ (0 : Int)) ∧
      (((0 : Int) ≤ y1.1) ∧
      ((y1.1 < (3 : Int)) ∧
      (k2 ((IntKind.i64.wrap (y1.1 + (1 : Int))), ((cond (decide (y1.1 = (0 : Int))) (s_counts_rounded (s_counts_times ((List.getD (y1.2.1 :: (y1.2.2.2.1 :: (y1.2.2.2.2.2.1 :: ([] : List Int)))) (Int.toNat y1.1) (0 : Int)), (List.getD (y1.2.2.1 :: (y1.2.2.2.2.1 :: (y1.2.2.2.2.2.2 :: ([] : List Int)))) (Int.toNat y1.1) (0 : Int))) (v_factor p0 p1.2.2.2.2).1) (v_factor p0 p1.2.2.2.2).2).1 y1.2.1), ((cond (decide (y1.1 = (0 : Int))) (s_counts_rounded (s_counts_times ((List.getD (y1.2.1 :: (y1.2.2.2.1 :: (y1.2.2.2.2.2.1 :: ([] : List Int)))) (Int.toNat y1.1) (0 : Int)), (List.getD (y1.2.2.1 :: (y1.2.2.2.2.1 :: (y1.2.2.2.2.2.2 :: ([] : List Int)))) (Int.toNat y1.1) (0 : Int))) (v_factor p0 p1.2.2.2.2).1) (v_factor p0 p1.2.2.2.2).2).2 y1.2.2.1), ((cond (decide (y1.1 = (1 : Int))) (s_counts_rounded (s_counts_times ((List.getD (y1.2.1 :: (y1.2.2.2.1 :: (y1.2.2.2.2.2.1 :: ([] : List Int)))) (Int.toNat y1.1) (0 : Int)), (List.getD (y1.2.2.1 :: (y1.2.2.2.2.1 :: (y1.2.2.2.2.2.2 :: ([] : List Int)))) (Int.toNat y1.1) (0 : Int))) (v_factor p0 p1.2.2.2.2).1) (v_factor p0 p1.2.2.2.2).2).1 y1.2.2.2.1), ((cond (decide (y1.1 = (1 : Int))) (s_counts_rounded (s_counts_times ((List.getD (y1.2.1 :: (y1.2.2.2.1 :: (y1.2.2.2.2.2.1 :: ([] : List Int)))) (Int.toNat y1.1) (0 : Int)), (List.getD (y1.2.2.1 :: (y1.2.2.2.2.1 :: (y1.2.2.2.2.2.2 :: ([] : List Int)))) (Int.toNat y1.1) (0 : Int))) (v_factor p0 p1.2.2.2.2).1) (v_factor p0 p1.2.2.2.2).2).2 y1.2.2.2.2.1), ((cond (decide (y1.1 = (2 : Int))) (s_counts_rounded (s_counts_times ((List.getD (y1.2.1 :: (y1.2.2.2.1 :: (y1.2.2.2.2.2.1 :: ([] : List Int)))) (Int.toNat y1.1) (0 : Int)), (List.getD (y1.2.2.1 :: (y1.2.2.2.2.1 :: (y1.2.2.2.2.2.2 :: ([] : List Int)))) (Int.toNat y1.1) (0 : Int))) (v_factor p0 p1.2.2.2.2).1) (v_factor p0 p1.2.2.2.2).2).1 y1.2.2.2.2.2.1), (cond (decide (y1.1 = (2 : Int))) (s_counts_rounded (s_counts_times ((List.getD (y1.2.1 :: (y1.2.2.2.1 :: (y1.2.2.2.2.2.1 :: ([] : List Int)))) (Int.toNat y1.1) (0 : Int)), (List.getD (y1.2.2.1 :: (y1.2.2.2.2.1 :: (y1.2.2.2.2.2.2 :: ([] : List Int)))) (Int.toNat y1.1) (0 : Int))) (v_factor p0 p1.2.2.2.2).1) (v_factor p0 p1.2.2.2.2).2).2 y1.2.2.2.2.2.2)))))))))))))) ∧
    (((decide (y1.1 < (3 : Int))) = false) →
    (K ((y1.2.1, y1.2.2.1), ((y1.2.2.2.1, y1.2.2.2.2.1), y1.2.2.2.2.2)))))) n0 ((0 : Int), ((s_counts_rules_stripped p0 (s_counts_rules_net p0 p1)).1.1, ((s_counts_rules_stripped p0 (s_counts_rules_net p0 p1)).1.2, ((s_counts_rules_stripped p0 (s_counts_rules_net p0 p1)).2.1.1, ((s_counts_rules_stripped p0 (s_counts_rules_net p0 p1)).2.1.2, (s_counts_rules_stripped p0 (s_counts_rules_net p0 p1)).2.2)))))))))))
set_option maxHeartbeats 4000000 in
theorem w_counts_rules_reducedCounts_eq (p0 : CR) (p1 : CS) (K : R3 → Prop) : tfn F_counts_rules_reducedCounts A_counts_rules_reducedCounts C_counts_rules_reducedCounts P_counts_rules_reducedCounts R_counts_rules_reducedCounts (p0, p1) K = w_counts_rules_reducedCounts p0 p1 K := by kernel_rfl
def s_counts_rules_reducedCounts (p0 : CR) (p1 : CS) : R3 :=
  ((s_counts_rounded (s_counts_times (s_counts_rules_stripped p0 (s_counts_rules_net p0 p1)).1 (v_factor p0 p1.2.2.2.2).1) (v_factor p0 p1.2.2.2.2).2), ((s_counts_rounded (s_counts_times (s_counts_rules_stripped p0 (s_counts_rules_net p0 p1)).2.1 (v_factor p0 p1.2.2.2.2).1) (v_factor p0 p1.2.2.2.2).2), (s_counts_rounded (s_counts_times (s_counts_rules_stripped p0 (s_counts_rules_net p0 p1)).2.2 (v_factor p0 p1.2.2.2.2).1) (v_factor p0 p1.2.2.2.2).2)))
abbrev pre_counts_rules_reducedCounts (p0 : CR) (p1 : CS) : List Prop := [(v_samp p0 p1),
    (v_rules p0),
    ((s_counts_rules_has p0 p1.2.2.2.2) = true),
    ((v_factor p0 p1.2.2.2.2).2 ≠ (0 : Int))]
set_option maxHeartbeats 4000000 in
theorem d_counts_rules_reducedCounts (p0 : CR) (p1 : CS) (K : R3 → Prop) (hp : ∀ p ∈ pre_counts_rules_reducedCounts p0 p1, p) (h : K (s_counts_rules_reducedCounts p0 p1)) : w_counts_rules_reducedCounts p0 p1 K := by
  unfold w_counts_rules_reducedCounts
  unfold s_counts_rules_reducedCounts at h
  obtain ⟨hp0, hp1, hp2, hp3, _⟩ := conj_of hp
  exact ⟨(hp0), (hp1), (hp1), (hp2), 31, fun _ => ⟨(od rfl), (od rfl), (hp3), (od rfl), (od rfl), fun _ => ⟨(od rfl), (od rfl), (hp3), (od rfl), (od rfl), fun _ => ⟨(od rfl), (od rfl), (hp3), (od rfl), (od rfl), nof, fun _ => h⟩, fun e => Bool.noConfusion (show true = false from e)⟩, fun e => Bool.noConfusion (show true = false from e)⟩, fun e => Bool.noConfusion (show true = false from e)⟩
abbrev qre_counts_rules_reducedCounts (p0 : CR) (p1 : CS) : List Prop := [v_samp p0 p1]
theorem pp_counts_rules_reducedCounts (p0 : CR) (p1 : CS) (hq : ∀ p ∈ qre_counts_rules_reducedCounts p0 p1, p) : ∀ p ∈ pre_counts_rules_reducedCounts p0 p1, p := by
  have hv := (conj_of hq).1
  have hf := tx_fac_in hv.rules hv.high
  intro p hp
  simp only [pre_counts_rules_reducedCounts, List.mem_cons, List.not_mem_nil, or_false] at hp
  rcases hp with rfl | rfl | rfl | rfl
  all_goals first | exact hv | exact hv.rules | exact hv.high | omega

abbrev con_counts_rules_reducedCounts : Con := ⟨P_counts_rules_reducedCounts, R_counts_rules_reducedCounts, fun x => qre_counts_rules_reducedCounts x.1 x.2, fun x => s_counts_rules_reducedCounts x.1 x.2⟩
theorem ok_counts_rules_reducedCounts : ConOk Try.prog 90 con_counts_rules_reducedCounts := ⟨k_counts_rules_reducedCounts, fun x hx => ret_tf (ps := P_counts_rules_reducedCounts) (rs := R_counts_rules_reducedCounts) (x := x) (y := s_counts_rules_reducedCounts x.1 x.2) e_counts_rules_reducedCounts hC_counts_rules_reducedCounts (tf_of (w_counts_rules_reducedCounts_eq x.1 x.2 (fun z => z = s_counts_rules_reducedCounts x.1 x.2)) (d_counts_rules_reducedCounts x.1 x.2 (fun z => z = s_counts_rules_reducedCounts x.1 x.2) (pp_counts_rules_reducedCounts x.1 x.2 hx) rfl))⟩
/- counts_LineOf -/
def C_counts_LineOf : Cons := [(82, [], con_counts_open), (78, [], con_counts_unless), (77, [], con_counts_first), (89, [], con_counts_rules_sampleErr), (90, [], con_counts_rules_reducedCounts)]
theorem hC_counts_LineOf : ConsOk Try.prog C_counts_LineOf := ConsOk.cons ok_counts_open <| ConsOk.cons ok_counts_unless <| ConsOk.cons ok_counts_first <| ConsOk.cons ok_counts_rules_sampleErr <| ConsOk.cons ok_counts_rules_reducedCounts <| ConsOk.nil
abbrev q0_counts_LineOf (p1 : (List CS)) (y1 : (Int × (List R3))) := (List.getD p1 (Int.toNat y1.1) ((zz0, (zz0, zz0)), (zz0, (zz0, (zz0, zz0)))))
abbrev q1_counts_LineOf (p0 : CR) (p1 : (List CS)) := ((s_counts_CheckRules p0).2 :: ((s_counts_unless (decide ((((List.length p1) : Nat) : Int) ≤ (100 : Int))) (8 : Int)) :: ([] : List Int)))
def w_counts_LineOf (p0 : CR) (p1 : (List CS)) (K : ((List R3) × (Int × Int)) → Prop) : Prop :=
 ((lenOk (q1_counts_LineOf p0 p1)) ∧
  (((((s_counts_first (q1_counts_LineOf p0 p1)) != zz0) = true) →
  (K (([] : List R3), (zz0, (s_counts_first (q1_counts_LineOf p0 p1)))))) ∧
  ((((s_counts_first (q1_counts_LineOf p0 p1)) != zz0) = false) →
  (∃ n0, (loopP (fun (y1 : (Int × (List R3))) k2 =>
      ((((decide (y1.1 < (((List.length p1) : Nat) : Int))) = true) →
      ((zz0 ≤ y1.1) ∧
        ((y1.1 < (((List.length p1) : Nat) : Int)) ∧
        ((v_rules p0) ∧
        (((((s_counts_rules_sampleErr p0 (q0_counts_LineOf p1 y1)) != zz0) = true) →
        (K (([] : List R3), (y1.1, (s_counts_rules_sampleErr p0 (q0_counts_LineOf p1 y1)))))) ∧
        ((((s_counts_rules_sampleErr p0 (q0_counts_LineOf p1 y1)) != zz0) = false) →
        ((v_samp p0 (q0_counts_LineOf p1 y1)) ∧
          (((((List.length y1.2) + (List.length ((s_counts_rules_reducedCounts p0 (q0_counts_LineOf p1 y1)) :: ([] : List R3)))) * 48) ≤ 140737488355328) ∧
          (k2 ((wi (y1.1 + zz1)), (y1.2 ++ ((s_counts_rules_reducedCounts p0 (q0_counts_LineOf p1 y1)) :: ([] : List R3))))))))))))) ∧
      (((decide (y1.1 < (((List.length p1) : Nat) : Int))) = false) →
      (K (y1.2, (zz0, zz0)))))) n0 (zz0, ([] : List R3)))))))
set_option maxHeartbeats 4000000 in
theorem w_counts_LineOf_eq (p0 : CR) (p1 : (List CS)) (K : ((List R3) × (Int × Int)) → Prop) : tfn F_counts_LineOf A_counts_LineOf C_counts_LineOf P_counts_LineOf R_counts_LineOf (p0, p1) K = w_counts_LineOf p0 p1 K := by kernel_rfl
def b_counts_LineOf_0 (p0 : CR) (p1 : (List CS)) (K : ((List R3) × (Int × Int)) → Prop) (y : (Int × (List R3))) (k : (Int × (List R3)) → Prop) : Prop :=
 (((decide (y.1 < (((List.length p1) : Nat) : Int))) = true →
    (((0 : Int) ≤ y.1) ∧
    ((y.1 < (((List.length p1) : Nat) : Int)) ∧
    ((v_rules p0) ∧
    ((((s_counts_rules_sampleErr p0 (List.getD p1 (Int.toNat y.1) (((0 : Int), ((0 : Int), (0 : Int))), ((0 : Int), ((0 : Int), ((0 : Int), (0 : Int))))))) != (0 : Int)) = true →
      (K (([] : List R3), (y.1, (s_counts_rules_sampleErr p0 (List.getD p1 (Int.toNat y.1) (((0 : Int), ((0 : Int), (0 : Int))), ((0 : Int), ((0 : Int), ((0 : Int), (0 : Int))))))))))) ∧
    (((s_counts_rules_sampleErr p0 (List.getD p1 (Int.toNat y.1) (((0 : Int), ((0 : Int), (0 : Int))), ((0 : Int), ((0 : Int), ((0 : Int), (0 : Int))))))) != (0 : Int)) = false →
      ((v_samp p0 (List.getD p1 (Int.toNat y.1) (((0 : Int), ((0 : Int), (0 : Int))), ((0 : Int), ((0 : Int), ((0 : Int), (0 : Int))))))) ∧
      (((((List.length y.2) + (List.length ((s_counts_rules_reducedCounts p0 (List.getD p1 (Int.toNat y.1) (((0 : Int), ((0 : Int), (0 : Int))), ((0 : Int), ((0 : Int), ((0 : Int), (0 : Int))))))) :: ([] : List R3)))) * 48) ≤ 140737488355328) ∧
      (k ((IntKind.i64.wrap (y.1 + (1 : Int))), (y.2 ++ ((s_counts_rules_reducedCounts p0 (List.getD p1 (Int.toNat y.1) (((0 : Int), ((0 : Int), (0 : Int))), ((0 : Int), ((0 : Int), ((0 : Int), (0 : Int))))))) :: ([] : List R3))))))))))))) ∧
  ((decide (y.1 < (((List.length p1) : Nat) : Int))) = false →
    (K (y.2, ((0 : Int), (0 : Int))))))
/-- A sample without counts. -/
abbrev cs0 : CS := ((0, 0, 0), 0, 0, 0, 0)
/-- The reduced counts of the samples, or the first invalid one. -/
def sp_line (r : CR) (i : Int) : List CS → List R3 → List R3 × Int × Int
  | [], out => (out, 0, 0)
  | s :: t, out => cond (s_counts_rules_sampleErr r s != 0) ([], i, s_counts_rules_sampleErr r s) (sp_line r (i + 1) t (out ++ [s_counts_rules_reducedCounts r s]))
def lp_counts_LineOf_0 (p0 : CR) (p1 : List CS) (x : Int × List R3) : List R3 × Int × Int := sp_line p0 0 p1 x.2
abbrev lpre_counts_LineOf_0 (p0 : CR) (p1 : List CS) (x : Int × List R3) : Prop := (s_counts_CheckRules p0).2 = 0 ∧ p1.length ≤ 100 ∧ x = (0, [])
theorem lk_counts_LineOf_0 (p0 : CR) (p1 : List CS) (x : Int × List R3) (K : List R3 × Int × Int → Prop) (hp : lpre_counts_LineOf_0 p0 p1 x) (h : K (lp_counts_LineOf_0 p0 p1 x)) : ∃ n, loopP (b_counts_LineOf_0 p0 p1 K) n x := by
  obtain ⟨h0, hl, rfl⟩ := hp
  have hv := tx_valid h0
  refine loop_list (fun i t => (i, t)) p1 cs0 (fun (t : List R3) r => t.length + r.length = p1.length ∧ K (sp_line p0 ((p1.length : Int) - r.length) r t)) ?_ ?_ [] ⟨by simp, by simpa [lp_counts_LineOf_0] using h⟩
  · intro t k hI
    unfold b_counts_LineOf_0
    simpa [sp_line] using hI.2
  · intro j t k hj hI hk
    obtain ⟨ht, hI⟩ := hI
    have hj' : (j : Int) < p1.length := by omega
    have e1 : (p1.length : Int) - ((p1.getD j cs0 :: p1.drop (j + 1)).length : Int) = j := by simp; omega
    have e2 : (p1.length : Int) - ((p1.drop (j + 1)).length : Int) = (j : Int) + 1 := by simp; omega
    rw [e1] at hI
    unfold b_counts_LineOf_0
    simp only [wrap_nat (show (j : Int) ≤ 9223372036854775806 by omega), hj', decide_true, Int.toNat_natCast, forall_const, Bool.true_eq_false, false_imp_iff, and_true]
    refine ⟨by omega, trivial, hv, fun hx => ?_, fun hx => ⟨?_, ?_, hk _ ⟨?_, ?_⟩⟩⟩
    · have hx' : (s_counts_rules_sampleErr p0 (p1.getD j cs0) != 0) = true := hx
      simp only [sp_line, hx', cond_true] at hI
      exact hI
    · have hx' : s_counts_rules_sampleErr p0 (p1.getD j cs0) = 0 := bne0 hx
      refine tx_samp ?_
      unfold v_both; rw [h0]; exact hx'
    · simp only [List.length_cons, List.length_nil] at ht ⊢; omega
    · simp only [List.length_cons, List.length_append, List.length_nil] at ht ⊢; omega
    · have hx' : (s_counts_rules_sampleErr p0 (p1.getD j cs0) != 0) = false := hx
      simp only [sp_line, hx', cond_false] at hI
      rw [e2]; exact hI

def s_counts_LineOf (p0 : CR) (p1 : (List CS)) : ((List R3) × (Int × Int)) :=
  (cond ((s_counts_first ((s_counts_CheckRules p0).2 :: ((s_counts_unless (decide ((((List.length p1) : Nat) : Int) ≤ (100 : Int))) (8 : Int)) :: ([] : List Int)))) != (0 : Int)) (([] : List R3), ((0 : Int), (s_counts_first ((s_counts_CheckRules p0).2 :: ((s_counts_unless (decide ((((List.length p1) : Nat) : Int) ≤ (100 : Int))) (8 : Int)) :: ([] : List Int))))))
    (lp_counts_LineOf_0 p0 p1 ((0 : Int), ([] : List R3))))
abbrev pre_counts_LineOf (p0 : CR) (p1 : (List CS)) : List Prop := [((((s_counts_first ((s_counts_CheckRules p0).2 :: ((s_counts_unless (decide ((((List.length p1) : Nat) : Int) ≤ (100 : Int))) (8 : Int)) :: ([] : List Int)))) != (0 : Int)) = false) → (lpre_counts_LineOf_0 p0 p1 ((0 : Int), ([] : List R3))))]
set_option maxHeartbeats 4000000 in
theorem d_counts_LineOf (p0 : CR) (p1 : (List CS)) (K : ((List R3) × (Int × Int)) → Prop) (hp : ∀ p ∈ pre_counts_LineOf p0 p1, p) (h : K (s_counts_LineOf p0 p1)) : w_counts_LineOf p0 p1 K := by
  unfold w_counts_LineOf
  unfold s_counts_LineOf at h
  obtain ⟨hp0, _⟩ := conj_of hp
  exact ⟨(lenOk_of 2 rfl (by decide)), (br' h (fun e0 h => h)
    (fun e0 h => (Exists.imp (fun n hn => loop_mono (fun y k k' hk hy => ⟨fun e1 => ⟨(hy.1 e1).1, (hy.1 e1).2.1, (hy.1 e1).2.2.1, fun e2 => ((hy.1 e1).2.2.2.1 e2), fun e2 => ⟨((hy.1 e1).2.2.2.2 e2).1, ((hy.1 e1).2.2.2.2 e2).2.1, (hk _ ((hy.1 e1).2.2.2.2 e2).2.2)⟩⟩, fun e1 => (hy.2 e1)⟩) n _ hn) (lk_counts_LineOf_0 p0 p1 ((0 : Int), ([] : List R3)) K (hp0 e0) h))))⟩
abbrev qre_counts_LineOf (_ : CR) (_ : List CS) : List Prop := []
theorem pp_counts_LineOf (p0 : CR) (p1 : List CS) (_ : ∀ p ∈ qre_counts_LineOf p0 p1, p) : ∀ p ∈ pre_counts_LineOf p0 p1, p := by
  intro p hp
  simp only [pre_counts_LineOf, List.mem_cons, List.not_mem_nil, or_false] at hp
  subst hp
  intro h
  obtain ⟨h0, h⟩ := tx_first0 (bne0 h)
  obtain ⟨h1, _⟩ := tx_first0 h
  have h2 := of_decide_eq_true (tx_unless0 (by decide) h1)
  exact ⟨h0, by omega, rfl⟩

abbrev con_counts_LineOf : Con := ⟨P_counts_LineOf, R_counts_LineOf, fun x => qre_counts_LineOf x.1 x.2, fun x => s_counts_LineOf x.1 x.2⟩
theorem ok_counts_LineOf : ConOk Try.prog 28 con_counts_LineOf := ⟨k_counts_LineOf, fun x hx => ret_tf (ps := P_counts_LineOf) (rs := R_counts_LineOf) (x := x) (y := s_counts_LineOf x.1 x.2) e_counts_LineOf hC_counts_LineOf (tf_of (w_counts_LineOf_eq x.1 x.2 (fun z => z = s_counts_LineOf x.1 x.2)) (d_counts_LineOf x.1 x.2 (fun z => z = s_counts_LineOf x.1 x.2) (pp_counts_LineOf x.1 x.2 hx) rfl))⟩
/- ref06_RulesErr -/
def C_ref06_RulesErr : Cons := [(19, [], con_ref06_CheckRules)]
theorem hC_ref06_RulesErr : ConsOk Try.prog C_ref06_RulesErr := ConsOk.cons ok_ref06_CheckRules <| ConsOk.nil
def w_ref06_RulesErr (p0 : CR) (K : Int → Prop) : Prop :=
 (K (s_counts_CheckRules p0).2)
set_option maxHeartbeats 4000000 in
theorem w_ref06_RulesErr_eq (p0 : CR) (K : Int → Prop) : tfn F_ref06_RulesErr A_ref06_RulesErr C_ref06_RulesErr P_ref06_RulesErr R_ref06_RulesErr p0 K = w_ref06_RulesErr p0 K := by kernel_rfl
def s_ref06_RulesErr (p0 : CR) : Int :=
  (s_counts_CheckRules p0).2
abbrev pre_ref06_RulesErr (p0 : CR) : List Prop := []
set_option maxHeartbeats 4000000 in
theorem d_ref06_RulesErr (p0 : CR) (K : Int → Prop) (hp : ∀ p ∈ pre_ref06_RulesErr p0, p) (h : K (s_ref06_RulesErr p0)) : w_ref06_RulesErr p0 K := by
  unfold w_ref06_RulesErr
  unfold s_ref06_RulesErr at h
  exact h
abbrev con_ref06_RulesErr : Con := ⟨P_ref06_RulesErr, R_ref06_RulesErr, fun x => pre_ref06_RulesErr x, fun x => s_ref06_RulesErr x⟩
theorem ok_ref06_RulesErr : ConOk Try.prog 23 con_ref06_RulesErr := ⟨k_ref06_RulesErr, fun x hx => ret_tf (ps := P_ref06_RulesErr) (rs := R_ref06_RulesErr) (x := x) (y := s_ref06_RulesErr x) e_ref06_RulesErr hC_ref06_RulesErr (tf_of (w_ref06_RulesErr_eq x (fun z => z = s_ref06_RulesErr x)) (d_ref06_RulesErr x (fun z => z = s_ref06_RulesErr x) hx rfl))⟩
/- ref06_IsHeight -/
def C_ref06_IsHeight : Cons := [(40, [], con_base_Within)]
theorem hC_ref06_IsHeight : ConsOk Try.prog C_ref06_IsHeight := ConsOk.cons ok_base_Within <| ConsOk.nil
def w_ref06_IsHeight (p0 : CR) (p1 : Int) (K : Bool → Prop) : Prop :=
 (((0 : Int) < (((List.length p0.2.2.2.2.2.2.2.2) : Nat) : Int)) ∧
  (((0 : Int) ≤ (IntKind.i64.wrap ((((List.length p0.2.2.2.2.2.2.2.2) : Nat) : Int) - (1 : Int)))) ∧
  (((IntKind.i64.wrap ((((List.length p0.2.2.2.2.2.2.2.2) : Nat) : Int) - (1 : Int))) < (((List.length p0.2.2.2.2.2.2.2.2) : Nat) : Int)) ∧
  (K (s_base_Within p1 (List.getD p0.2.2.2.2.2.2.2.2 (Int.toNat (0 : Int)) ((0 : Int), (0 : Int))).1 (List.getD p0.2.2.2.2.2.2.2.2 (Int.toNat (IntKind.i64.wrap ((((List.length p0.2.2.2.2.2.2.2.2) : Nat) : Int) - (1 : Int)))) ((0 : Int), (0 : Int))).1)))))
set_option maxHeartbeats 4000000 in
theorem w_ref06_IsHeight_eq (p0 : CR) (p1 : Int) (K : Bool → Prop) : tfn F_ref06_IsHeight A_ref06_IsHeight C_ref06_IsHeight P_ref06_IsHeight R_ref06_IsHeight (p0, p1) K = w_ref06_IsHeight p0 p1 K := by kernel_rfl
def s_ref06_IsHeight (p0 : CR) (p1 : Int) : Bool :=
  (s_base_Within p1 (List.getD p0.2.2.2.2.2.2.2.2 (Int.toNat (0 : Int)) ((0 : Int), (0 : Int))).1 (List.getD p0.2.2.2.2.2.2.2.2 (Int.toNat (IntKind.i64.wrap ((((List.length p0.2.2.2.2.2.2.2.2) : Nat) : Int) - (1 : Int)))) ((0 : Int), (0 : Int))).1)
abbrev pre_ref06_IsHeight (p0 : CR) (p1 : Int) : List Prop := [((0 : Int) < (((List.length p0.2.2.2.2.2.2.2.2) : Nat) : Int)),
    ((0 : Int) ≤ (IntKind.i64.wrap ((((List.length p0.2.2.2.2.2.2.2.2) : Nat) : Int) - (1 : Int)))),
    ((IntKind.i64.wrap ((((List.length p0.2.2.2.2.2.2.2.2) : Nat) : Int) - (1 : Int))) < (((List.length p0.2.2.2.2.2.2.2.2) : Nat) : Int))]
set_option maxHeartbeats 4000000 in
theorem d_ref06_IsHeight (p0 : CR) (p1 : Int) (K : Bool → Prop) (hp : ∀ p ∈ pre_ref06_IsHeight p0 p1, p) (h : K (s_ref06_IsHeight p0 p1)) : w_ref06_IsHeight p0 p1 K := by
  unfold w_ref06_IsHeight
  unfold s_ref06_IsHeight at h
  obtain ⟨hp0, hp1, hp2, _⟩ := conj_of hp
  exact ⟨(hp0), (hp1), (hp2), h⟩
abbrev t_ref06_IsHeight (p0 : CR) (p1 : Int) : Bool := s_counts_rules_has p0 p1
abbrev qre_ref06_IsHeight (p0 : CR) (_ : Int) : List Prop := [v_rules p0]
theorem pp_ref06_IsHeight (p0 : CR) (p1 : Int) (hq : ∀ p ∈ qre_ref06_IsHeight p0 p1, p) : ∀ p ∈ pre_ref06_IsHeight p0 p1, p := pp_counts_rules_has p0 p1 hq
theorem tt_ref06_IsHeight (p0 : CR) (p1 : Int) (_ : ∀ p ∈ qre_ref06_IsHeight p0 p1, p) : s_ref06_IsHeight p0 p1 = t_ref06_IsHeight p0 p1 := rfl

abbrev con_ref06_IsHeight : Con := ⟨P_ref06_IsHeight, R_ref06_IsHeight, fun x => qre_ref06_IsHeight x.1 x.2, fun x => t_ref06_IsHeight x.1 x.2⟩
theorem ok_ref06_IsHeight : ConOk Try.prog 24 con_ref06_IsHeight := ⟨k_ref06_IsHeight, fun x hx => ret_tf (ps := P_ref06_IsHeight) (rs := R_ref06_IsHeight) (x := x) (y := t_ref06_IsHeight x.1 x.2) e_ref06_IsHeight hC_ref06_IsHeight (tf_of (w_ref06_IsHeight_eq x.1 x.2 (fun z => z = t_ref06_IsHeight x.1 x.2)) (d_ref06_IsHeight x.1 x.2 (fun z => z = t_ref06_IsHeight x.1 x.2) (pp_ref06_IsHeight x.1 x.2 hx) (tt_ref06_IsHeight x.1 x.2 hx)))⟩
/- ref06_SampleErr -/
def C_ref06_SampleErr : Cons := [(40, [], con_base_Within), (24, [], con_ref06_IsHeight)]
theorem hC_ref06_SampleErr : ConsOk Try.prog C_ref06_SampleErr := ConsOk.cons ok_base_Within <| ConsOk.cons ok_ref06_IsHeight <| ConsOk.nil
abbrev q1_ref06_SampleErr (p1 : CS) := (cond (!(s_base_Within p1.2.2.1 zz0 (100000 : Int))) true (!(s_base_Within p1.2.1 zz0 (1000000 : Int))))
abbrev q0_ref06_SampleErr (p1 : CS) := (cond (q1_ref06_SampleErr p1) true (!(s_base_Within p1.2.2.2.1 zz0 (10000 : Int))))
def w_ref06_SampleErr (p0 : CR) (p1 : CS) (K : Int → Prop) : Prop :=
 (∃ n0, (loopP (fun (y1 : Int) k2 =>
    ((((decide (y1 < zz3)) = true) →
    ((zz0 ≤ y1) ∧
      ((y1 < zz3) ∧
      ((((!(s_base_Within (List.getD (p1.1.1 :: (p1.1.2.1 :: (p1.1.2.2 :: ([] : List Int)))) (Int.toNat y1) zz0) zz0 (100000 : Int))) = true) →
      (K zz2)) ∧
      (((!(s_base_Within (List.getD (p1.1.1 :: (p1.1.2.1 :: (p1.1.2.2 :: ([] : List Int)))) (Int.toNat y1) zz0) zz0 (100000 : Int))) = false) →
      (k2 (wi (y1 + zz1)))))))) ∧
    (((decide (y1 < zz3)) = false) →
    ((((!(s_base_Within p1.2.2.1 zz0 (100000 : Int))) = false) →
      ((!(s_base_Within p1.2.2.1 zz0 (100000 : Int))) = (!(s_base_Within p1.2.2.1 zz0 (100000 : Int))))) ∧
      ((((!(s_base_Within p1.2.2.1 zz0 (100000 : Int))) = false) →
      ((!(s_base_Within p1.2.2.1 zz0 (100000 : Int))) = (!(s_base_Within p1.2.2.1 zz0 (100000 : Int))))) ∧
      ((((!(s_base_Within p1.2.2.1 zz0 (100000 : Int))) = false) →
      ((!(s_base_Within p1.2.2.1 zz0 (100000 : Int))) = (!(s_base_Within p1.2.2.1 zz0 (100000 : Int))))) ∧
      (((!(s_base_Within p1.2.2.1 zz0 (100000 : Int))) = (!(s_base_Within p1.2.2.1 zz0 (100000 : Int)))) ∧
      ((((q1_ref06_SampleErr p1) = false) →
      ((q1_ref06_SampleErr p1) = (q1_ref06_SampleErr p1))) ∧
      ((((q1_ref06_SampleErr p1) = false) →
      ((q1_ref06_SampleErr p1) = (q1_ref06_SampleErr p1))) ∧
      ((((q1_ref06_SampleErr p1) = false) →
      ((q1_ref06_SampleErr p1) = (q1_ref06_SampleErr p1))) ∧
      (((q1_ref06_SampleErr p1) = (q1_ref06_SampleErr p1)) ∧
      ((((q0_ref06_SampleErr p1) = false) →
      ((q0_ref06_SampleErr p1) = (q0_ref06_SampleErr p1))) ∧
      ((((q0_ref06_SampleErr p1) = false) →
      ((q0_ref06_SampleErr p1) = (q0_ref06_SampleErr p1))) ∧
      ((((q0_ref06_SampleErr p1) = false) →
      ((q0_ref06_SampleErr p1) = (q0_ref06_SampleErr p1))) ∧
      ((((q0_ref06_SampleErr p1) = false) →
      (v_rules p0)) ∧
      ((((q0_ref06_SampleErr p1) = false) →
      ((q0_ref06_SampleErr p1) = (q0_ref06_SampleErr p1))) ∧
      (((q0_ref06_SampleErr p1) = (q0_ref06_SampleErr p1)) ∧
      ((((cond (q0_ref06_SampleErr p1) true (!(s_counts_rules_has p0 p1.2.2.2.2))) = true) →
      (K zz2)) ∧
      (((cond (q0_ref06_SampleErr p1) true (!(s_counts_rules_has p0 p1.2.2.2.2))) = false) →
      ((((decide ((wi ((wi (p1.1.1 + p1.1.2.1)) + p1.1.2.2)) > p1.2.1)) = true) →
        (K (13 : Int))) ∧
        (((decide ((wi ((wi (p1.1.1 + p1.1.2.1)) + p1.1.2.2)) > p1.2.1)) = false) →
        ((((decide ((wi ((wi (zz2 * p0.2.1)) * p1.2.1)) > p0.1)) = true) →
          (K (22 : Int))) ∧
          (((decide ((wi ((wi (zz2 * p0.2.1)) * p1.2.1)) > p0.1)) = false) →
          (K zz0)))))))))))))))))))))))) n0 zz0))
set_option maxHeartbeats 4000000 in
theorem w_ref06_SampleErr_eq (p0 : CR) (p1 : CS) (K : Int → Prop) : tfn F_ref06_SampleErr A_ref06_SampleErr C_ref06_SampleErr P_ref06_SampleErr R_ref06_SampleErr (p0, p1) K = w_ref06_SampleErr p0 p1 K := by kernel_rfl
def s_ref06_SampleErr (p0 : CR) (p1 : CS) : Int :=
  (cond (!(s_base_Within p1.1.1 (0 : Int) (100000 : Int))) (2 : Int)
    (cond (!(s_base_Within p1.1.2.1 (0 : Int) (100000 : Int))) (2 : Int)
    (cond (!(s_base_Within p1.1.2.2 (0 : Int) (100000 : Int))) (2 : Int)
    (cond (cond (cond (cond (!(s_base_Within p1.2.2.1 (0 : Int) (100000 : Int))) true (!(s_base_Within p1.2.1 (0 : Int) (1000000 : Int)))) true (!(s_base_Within p1.2.2.2.1 (0 : Int) (10000 : Int)))) true (!(s_counts_rules_has p0 p1.2.2.2.2))) (2 : Int)
    (cond (decide ((IntKind.i64.wrap ((IntKind.i64.wrap (p1.1.1 + p1.1.2.1)) + p1.1.2.2)) > p1.2.1)) (13 : Int)
    (cond (decide ((IntKind.i64.wrap ((IntKind.i64.wrap ((2 : Int) * p0.2.1)) * p1.2.1)) > p0.1)) (22 : Int)
    (0 : Int)))))))
abbrev pre_ref06_SampleErr (p0 : CR) (p1 : CS) : List Prop := [(((!(s_base_Within p1.1.1 (0 : Int) (100000 : Int))) = false) → (((!(s_base_Within p1.1.2.1 (0 : Int) (100000 : Int))) = false) → (((!(s_base_Within p1.1.2.2 (0 : Int) (100000 : Int))) = false) → (((cond (cond (!(s_base_Within p1.2.2.1 (0 : Int) (100000 : Int))) true (!(s_base_Within p1.2.1 (0 : Int) (1000000 : Int)))) true (!(s_base_Within p1.2.2.2.1 (0 : Int) (10000 : Int)))) = false) → (v_rules p0)))))]
set_option maxHeartbeats 4000000 in
theorem d_ref06_SampleErr (p0 : CR) (p1 : CS) (K : Int → Prop) (hp : ∀ p ∈ pre_ref06_SampleErr p0 p1, p) (h : K (s_ref06_SampleErr p0 p1)) : w_ref06_SampleErr p0 p1 K := by
  unfold w_ref06_SampleErr
  unfold s_ref06_SampleErr at h
  obtain ⟨hp0, _⟩ := conj_of hp
  exact ⟨31, fun _ => ⟨(od rfl), (od rfl), (br' h (fun e0 h => h)
    (fun e0 h => ⟨fun _ => ⟨(od rfl), (od rfl), (br' h (fun e1 h => h)
    (fun e1 h => ⟨fun _ => ⟨(od rfl), (od rfl), (br' h (fun e2 h => h)
    (fun e2 h => ⟨nof, fun _ => ⟨rf, rf, rf, rfl, rf, rf, rf, rfl, rf, rf, rf, (hp0 e0 e1 e2), rf, rfl, (br' h (fun e3 h => h)
    (fun e3 h => (br' h (fun e4 h => h)
    (fun e4 h => (br' h (fun e5 h => h)
    (fun e5 h => h))))))⟩⟩))⟩, fun e => Bool.noConfusion (show true = false from e)⟩))⟩, fun e => Bool.noConfusion (show true = false from e)⟩))⟩, fun e => Bool.noConfusion (show true = false from e)⟩
abbrev t_ref06_SampleErr (p0 : CR) (p1 : CS) : Int := s_counts_rules_sampleErr p0 p1
abbrev qre_ref06_SampleErr (p0 : CR) (_ : CS) : List Prop := [v_rules p0]
theorem pp_ref06_SampleErr (p0 : CR) (p1 : CS) (hq : ∀ p ∈ qre_ref06_SampleErr p0 p1, p) : ∀ p ∈ pre_ref06_SampleErr p0 p1, p := by
  have hv : v_rules p0 := hq _ (by simp)
  intro p hp
  simp only [pre_ref06_SampleErr, List.mem_cons, List.not_mem_nil, or_false] at hp
  subst hp
  intros
  exact hv
theorem tt_ref06_SampleErr (p0 : CR) (p1 : CS) (_ : ∀ p ∈ qre_ref06_SampleErr p0 p1, p) : s_ref06_SampleErr p0 p1 = t_ref06_SampleErr p0 p1 := by
  obtain ⟨⟨a, b, c⟩, t, k, u, h⟩ := p1
  unfold s_ref06_SampleErr t_ref06_SampleErr s_counts_rules_sampleErr
  simp only [tx_eqw]
  have e9 : s_counts_isRaw k = s_counts_within k 0 100000 := rfl
  rw [tx_err _ _ _ (by decide), tx_err _ _ _ (by decide), tx_allneg, e9]
  rcases ha : s_counts_within a 0 100000 with _ | _
  · rfl
  rcases hb : s_counts_within b 0 100000 with _ | _
  · rfl
  rcases hc : s_counts_within c 0 100000 with _ | _
  · rfl
  rcases hk : s_counts_within k 0 100000 with _ | _
  · rfl
  rcases ht : s_counts_within t 0 1000000 with _ | _
  · rfl
  rcases hu : s_counts_within u 0 10000 with _ | _
  · rfl
  rcases hh : s_counts_rules_has p0 h with _ | _
  · rfl
  rw [tx_within] at ha hb hc
  have e1 : decide (s_counts_total [a, b, c] ≤ t) = !decide (IntKind.i64.wrap (IntKind.i64.wrap (a + b) + c) > t) := by
    have : s_counts_total [a, b, c] = IntKind.i64.wrap (IntKind.i64.wrap (IntKind.i64.wrap (0 + a) + b) + c) := rfl
    rw [this, Int.zero_add, wrap_id (n := a) (by omega) (by omega)]
    by_cases h : IntKind.i64.wrap (IntKind.i64.wrap (a + b) + c) > t <;> simp [h] <;> omega
  have e2 : decide (IntKind.i64.wrap (IntKind.i64.wrap (2 * p0.2.1) * t) ≤ p0.1) = !decide (IntKind.i64.wrap (IntKind.i64.wrap (2 * p0.2.1) * t) > p0.1) := by
    by_cases h : IntKind.i64.wrap (IntKind.i64.wrap (2 * p0.2.1) * t) > p0.1 <;> simp [h] <;> omega
  simp only [e1, e2]
  cases decide (IntKind.i64.wrap (IntKind.i64.wrap (a + b) + c) > t) <;> cases decide (IntKind.i64.wrap (IntKind.i64.wrap (2 * p0.2.1) * t) > p0.1) <;> rfl

abbrev con_ref06_SampleErr : Con := ⟨P_ref06_SampleErr, R_ref06_SampleErr, fun x => qre_ref06_SampleErr x.1 x.2, fun x => t_ref06_SampleErr x.1 x.2⟩
theorem ok_ref06_SampleErr : ConOk Try.prog 30 con_ref06_SampleErr := ⟨k_ref06_SampleErr, fun x hx => ret_tf (ps := P_ref06_SampleErr) (rs := R_ref06_SampleErr) (x := x) (y := t_ref06_SampleErr x.1 x.2) e_ref06_SampleErr hC_ref06_SampleErr (tf_of (w_ref06_SampleErr_eq x.1 x.2 (fun z => z = t_ref06_SampleErr x.1 x.2)) (d_ref06_SampleErr x.1 x.2 (fun z => z = t_ref06_SampleErr x.1 x.2) (pp_ref06_SampleErr x.1 x.2 hx) (tt_ref06_SampleErr x.1 x.2 hx)))⟩
/- base_Floor -/
def C_base_Floor : Cons := []
theorem hC_base_Floor : ConsOk Try.prog C_base_Floor := ConsOk.nil
def w_base_Floor (p0 : Int) (p1 : Int) (K : Int → Prop) : Prop :=
 ((p1 ≠ (0 : Int)) ∧
  ((p1 ≠ (0 : Int)) ∧
  ((((decide ((Int.tmod p0 p1) < (0 : Int))) = true) →
  (K (IntKind.i64.wrap ((IntKind.i64.wrap (Int.tdiv p0 p1)) - (1 : Int))))) ∧
  (((decide ((Int.tmod p0 p1) < (0 : Int))) = false) →
  (K (IntKind.i64.wrap (Int.tdiv p0 p1)))))))
set_option maxHeartbeats 4000000 in
theorem w_base_Floor_eq (p0 : Int) (p1 : Int) (K : Int → Prop) : tfn F_base_Floor A_base_Floor C_base_Floor P_base_Floor R_base_Floor (p0, p1) K = w_base_Floor p0 p1 K := by kernel_rfl
def s_base_Floor (p0 : Int) (p1 : Int) : Int :=
  (cond (decide ((Int.tmod p0 p1) < (0 : Int))) (IntKind.i64.wrap ((IntKind.i64.wrap (Int.tdiv p0 p1)) - (1 : Int)))
    (IntKind.i64.wrap (Int.tdiv p0 p1)))
abbrev pre_base_Floor (p0 : Int) (p1 : Int) : List Prop := [(p1 ≠ (0 : Int))]
set_option maxHeartbeats 4000000 in
theorem d_base_Floor (p0 : Int) (p1 : Int) (K : Int → Prop) (hp : ∀ p ∈ pre_base_Floor p0 p1, p) (h : K (s_base_Floor p0 p1)) : w_base_Floor p0 p1 K := by
  unfold w_base_Floor
  unfold s_base_Floor at h
  obtain ⟨hp0, _⟩ := conj_of hp
  exact ⟨(hp0), (hp0), (br' h (fun e0 h => h)
    (fun e0 h => h))⟩
abbrev t_base_Floor (p0 : Int) (p1 : Int) : Int := s_counts_floor p0 p1
abbrev qre_base_Floor (_ : Int) (p1 : Int) : List Prop := [p1 ≠ 0]
theorem pp_base_Floor (p0 : Int) (p1 : Int) (hq : ∀ p ∈ qre_base_Floor p0 p1, p) : ∀ p ∈ pre_base_Floor p0 p1, p := by
  have hv := conj_of hq
  intro p hp
  simp only [pre_base_Floor, List.mem_cons, List.not_mem_nil, or_false] at hp
  subst hp
  all_goals first | exact hv.1 | (intros; exact hv.1)

theorem tt_base_Floor (p0 : Int) (p1 : Int) (hq : ∀ p ∈ qre_base_Floor p0 p1, p) : s_base_Floor p0 p1 = t_base_Floor p0 p1 := by
  have hv := conj_of hq
  rfl

abbrev con_base_Floor : Con := ⟨P_base_Floor, R_base_Floor, fun x => qre_base_Floor x.1 x.2, fun x => t_base_Floor x.1 x.2⟩
theorem ok_base_Floor : ConOk Try.prog 46 con_base_Floor := ⟨k_base_Floor, fun x hx => ret_tf (ps := P_base_Floor) (rs := R_base_Floor) (x := x) (y := t_base_Floor x.1 x.2) e_base_Floor hC_base_Floor (tf_of (w_base_Floor_eq x.1 x.2 (fun z => z = t_base_Floor x.1 x.2)) (d_base_Floor x.1 x.2 (fun z => z = t_base_Floor x.1 x.2) (pp_base_Floor x.1 x.2 hx) (tt_base_Floor x.1 x.2 hx)))⟩
/- base_Ceil -/
def C_base_Ceil : Cons := [(46, [], con_base_Floor)]
theorem hC_base_Ceil : ConsOk Try.prog C_base_Ceil := ConsOk.cons ok_base_Floor <| ConsOk.nil
def w_base_Ceil (p0 : Int) (p1 : Int) (K : Int → Prop) : Prop :=
 ((p1 ≠ (0 : Int)) ∧
  (K (IntKind.i64.wrap ((0 : Int) - (s_counts_floor (IntKind.i64.wrap ((0 : Int) - p0)) p1)))))
set_option maxHeartbeats 4000000 in
theorem w_base_Ceil_eq (p0 : Int) (p1 : Int) (K : Int → Prop) : tfn F_base_Ceil A_base_Ceil C_base_Ceil P_base_Ceil R_base_Ceil (p0, p1) K = w_base_Ceil p0 p1 K := by kernel_rfl
def s_base_Ceil (p0 : Int) (p1 : Int) : Int :=
  (IntKind.i64.wrap ((0 : Int) - (s_counts_floor (IntKind.i64.wrap ((0 : Int) - p0)) p1)))
abbrev pre_base_Ceil (p0 : Int) (p1 : Int) : List Prop := [(p1 ≠ (0 : Int))]
set_option maxHeartbeats 4000000 in
theorem d_base_Ceil (p0 : Int) (p1 : Int) (K : Int → Prop) (hp : ∀ p ∈ pre_base_Ceil p0 p1, p) (h : K (s_base_Ceil p0 p1)) : w_base_Ceil p0 p1 K := by
  unfold w_base_Ceil
  unfold s_base_Ceil at h
  obtain ⟨hp0, _⟩ := conj_of hp
  exact ⟨(hp0), h⟩
abbrev t_base_Ceil (p0 : Int) (p1 : Int) : Int := s_counts_ceil p0 p1
abbrev qre_base_Ceil (_ : Int) (p1 : Int) : List Prop := [p1 ≠ 0]
theorem pp_base_Ceil (p0 : Int) (p1 : Int) (hq : ∀ p ∈ qre_base_Ceil p0 p1, p) : ∀ p ∈ pre_base_Ceil p0 p1, p := by
  have hv := conj_of hq
  intro p hp
  simp only [pre_base_Ceil, List.mem_cons, List.not_mem_nil, or_false] at hp
  subst hp
  all_goals first | exact hv.1 | (intros; exact hv.1)

theorem tt_base_Ceil (p0 : Int) (p1 : Int) (hq : ∀ p ∈ qre_base_Ceil p0 p1, p) : s_base_Ceil p0 p1 = t_base_Ceil p0 p1 := by
  have hv := conj_of hq
  rfl

abbrev con_base_Ceil : Con := ⟨P_base_Ceil, R_base_Ceil, fun x => qre_base_Ceil x.1 x.2, fun x => t_base_Ceil x.1 x.2⟩
theorem ok_base_Ceil : ConOk Try.prog 47 con_base_Ceil := ⟨k_base_Ceil, fun x hx => ret_tf (ps := P_base_Ceil) (rs := R_base_Ceil) (x := x) (y := t_base_Ceil x.1 x.2) e_base_Ceil hC_base_Ceil (tf_of (w_base_Ceil_eq x.1 x.2 (fun z => z = t_base_Ceil x.1 x.2)) (d_base_Ceil x.1 x.2 (fun z => z = t_base_Ceil x.1 x.2) (pp_base_Ceil x.1 x.2 hx) (tt_base_Ceil x.1 x.2 hx)))⟩
/- ref06_rounded -/
def C_ref06_rounded : Cons := [(46, [], con_base_Floor), (47, [], con_base_Ceil)]
theorem hC_ref06_rounded : ConsOk Try.prog C_ref06_rounded := ConsOk.cons ok_base_Floor <| ConsOk.cons ok_base_Ceil <| ConsOk.nil
def w_ref06_rounded (p0 : Int) (p1 : Int) (p2 : Int) (K : (Int × Int) → Prop) : Prop :=
 ((p2 ≠ (0 : Int)) ∧
  ((p2 ≠ (0 : Int)) ∧
  (K ((s_counts_floor p0 p2), (s_counts_ceil p1 p2)))))
set_option maxHeartbeats 4000000 in
theorem w_ref06_rounded_eq (p0 : Int) (p1 : Int) (p2 : Int) (K : (Int × Int) → Prop) : tfn F_ref06_rounded A_ref06_rounded C_ref06_rounded P_ref06_rounded R_ref06_rounded (p0, p1, p2) K = w_ref06_rounded p0 p1 p2 K := by kernel_rfl
def s_ref06_rounded (p0 : Int) (p1 : Int) (p2 : Int) : (Int × Int) :=
  ((s_counts_floor p0 p2), (s_counts_ceil p1 p2))
abbrev pre_ref06_rounded (p0 : Int) (p1 : Int) (p2 : Int) : List Prop := [(p2 ≠ (0 : Int))]
set_option maxHeartbeats 4000000 in
theorem d_ref06_rounded (p0 : Int) (p1 : Int) (p2 : Int) (K : (Int × Int) → Prop) (hp : ∀ p ∈ pre_ref06_rounded p0 p1 p2, p) (h : K (s_ref06_rounded p0 p1 p2)) : w_ref06_rounded p0 p1 p2 K := by
  unfold w_ref06_rounded
  unfold s_ref06_rounded at h
  obtain ⟨hp0, _⟩ := conj_of hp
  exact ⟨(hp0), (hp0), h⟩
abbrev t_ref06_rounded (p0 : Int) (p1 : Int) (p2 : Int) : Int × Int := s_counts_rounded (p0, p1) p2
abbrev qre_ref06_rounded (_ : Int) (_ : Int) (p2 : Int) : List Prop := [p2 ≠ 0]
theorem pp_ref06_rounded (p0 : Int) (p1 : Int) (p2 : Int) (hq : ∀ p ∈ qre_ref06_rounded p0 p1 p2, p) : ∀ p ∈ pre_ref06_rounded p0 p1 p2, p := by
  have hv := conj_of hq
  intro p hp
  simp only [pre_ref06_rounded, List.mem_cons, List.not_mem_nil, or_false] at hp
  subst hp
  all_goals first | exact hv.1 | (intros; exact hv.1)

theorem tt_ref06_rounded (p0 : Int) (p1 : Int) (p2 : Int) (hq : ∀ p ∈ qre_ref06_rounded p0 p1 p2, p) : s_ref06_rounded p0 p1 p2 = t_ref06_rounded p0 p1 p2 := by
  have hv := conj_of hq
  rfl

abbrev con_ref06_rounded : Con := ⟨P_ref06_rounded, R_ref06_rounded, fun x => qre_ref06_rounded x.1 x.2.1 x.2.2, fun x => t_ref06_rounded x.1 x.2.1 x.2.2⟩
theorem ok_ref06_rounded : ConOk Try.prog 91 con_ref06_rounded := ⟨k_ref06_rounded, fun x hx => ret_tf (ps := P_ref06_rounded) (rs := R_ref06_rounded) (x := x) (y := t_ref06_rounded x.1 x.2.1 x.2.2) e_ref06_rounded hC_ref06_rounded (tf_of (w_ref06_rounded_eq x.1 x.2.1 x.2.2 (fun z => z = t_ref06_rounded x.1 x.2.1 x.2.2)) (d_ref06_rounded x.1 x.2.1 x.2.2 (fun z => z = t_ref06_rounded x.1 x.2.1 x.2.2) (pp_ref06_rounded x.1 x.2.1 x.2.2 hx) (tt_ref06_rounded x.1 x.2.1 x.2.2 hx)))⟩
/- ref06_Live -/
def C_ref06_Live : Cons := [(91, [], con_ref06_rounded)]
theorem hC_ref06_Live : ConsOk Try.prog C_ref06_Live := ConsOk.cons ok_ref06_rounded <| ConsOk.nil
def w_ref06_Live (p0 : CR) (p1 : CS) (K : R3 → Prop) : Prop :=
 (∃ n0, (loopP (fun (y1 : (Int × (Int × (Int × (Int × (Int × (Int × Int))))))) k2 =>
    ((((decide (y1.1 < (3 : Int))) = true) →
    (((0 : Int) ≤ y1.1) ∧
      ((y1.1 < (3 : Int)) ∧
      (((IntKind.i64.wrap (p0.1 - (IntKind.i64.wrap (p0.2.1 * p1.2.1)))) ≠ (0 : Int)) ∧
      (((0 : Int) ≤ y1.1) ∧
      ((y1.1 < (3 : Int)) ∧
      (k2 ((IntKind.i64.wrap (y1.1 + (1 : Int))), ((cond (decide (y1.1 = (0 : Int))) (s_counts_rounded ((IntKind.i64.wrap ((IntKind.i64.wrap ((1000 : Int) * (List.getD (p1.1.1 :: (p1.1.2.1 :: (p1.1.2.2 :: ([] : List Int)))) (Int.toNat y1.1) (0 : Int)))) * p0.1)), (IntKind.i64.wrap ((IntKind.i64.wrap ((1000 : Int) * (List.getD (p1.1.1 :: (p1.1.2.1 :: (p1.1.2.2 :: ([] : List Int)))) (Int.toNat y1.1) (0 : Int)))) * p0.1))) (IntKind.i64.wrap (p0.1 - (IntKind.i64.wrap (p0.2.1 * p1.2.1))))).1 y1.2.1), ((cond (decide (y1.1 = (0 : Int))) (s_counts_rounded ((IntKind.i64.wrap ((IntKind.i64.wrap ((1000 : Int) * (List.getD (p1.1.1 :: (p1.1.2.1 :: (p1.1.2.2 :: ([] : List Int)))) (Int.toNat y1.1) (0 : Int)))) * p0.1)), (IntKind.i64.wrap ((IntKind.i64.wrap ((1000 : Int) * (List.getD (p1.1.1 :: (p1.1.2.1 :: (p1.1.2.2 :: ([] : List Int)))) (Int.toNat y1.1) (0 : Int)))) * p0.1))) (IntKind.i64.wrap (p0.1 - (IntKind.i64.wrap (p0.2.1 * p1.2.1))))).2 y1.2.2.1), ((cond (decide (y1.1 = (1 : Int))) (s_counts_rounded ((IntKind.i64.wrap ((IntKind.i64.wrap ((1000 : Int) * (List.getD (p1.1.1 :: (p1.1.2.1 :: (p1.1.2.2 :: ([] : List Int)))) (Int.toNat y1.1) (0 : Int)))) * p0.1)), (IntKind.i64.wrap ((IntKind.i64.wrap ((1000 : Int) * (List.getD (p1.1.1 :: (p1.1.2.1 :: (p1.1.2.2 :: ([] : List Int)))) (Int.toNat y1.1) (0 : Int)))) * p0.1))) (IntKind.i64.wrap (p0.1 - (IntKind.i64.wrap (p0.2.1 * p1.2.1))))).1 y1.2.2.2.1), ((cond (decide (y1.1 = (1 : Int))) (s_counts_rounded ((IntKind.i64.wrap ((IntKind.i64.wrap ((1000 : Int) * (List.getD (p1.1.1 :: (p1.1.2.1 :: (p1.1.2.2 :: ([] : List Int)))) (Int.toNat y1.1) (0 : Int)))) * p0.1)), (IntKind.i64.wrap ((IntKind.i64.wrap ((1000 : Int) * (List.getD (p1.1.1 :: (p1.1.2.1 :: (p1.1.2.2 :: ([] : List Int)))) (Int.toNat y1.1) (0 : Int)))) * p0.1))) (IntKind.i64.wrap (p0.1 - (IntKind.i64.wrap (p0.2.1 * p1.2.1))))).2 y1.2.2.2.2.1), ((cond (decide (y1.1 = (2 : Int))) (s_counts_rounded ((IntKind.i64.wrap ((IntKind.i64.wrap ((1000 : Int) * (List.getD (p1.1.1 :: (p1.1.2.1 :: (p1.1.2.2 :: ([] : List Int)))) (Int.toNat y1.1) (0 : Int)))) * p0.1)), (IntKind.i64.wrap ((IntKind.i64.wrap ((1000 : Int) * (List.getD (p1.1.1 :: (p1.1.2.1 :: (p1.1.2.2 :: ([] : List Int)))) (Int.toNat y1.1) (0 : Int)))) * p0.1))) (IntKind.i64.wrap (p0.1 - (IntKind.i64.wrap (p0.2.1 * p1.2.1))))).1 y1.2.2.2.2.2.1), (cond (decide (y1.1 = (2 : Int))) (s_counts_rounded ((IntKind.i64.wrap ((IntKind.i64.wrap ((1000 : Int) * (List.getD (p1.1.1 :: (p1.1.2.1 :: (p1.1.2.2 :: ([] : List Int)))) (Int.toNat y1.1) (0 : Int)))) * p0.1)), (IntKind.i64.wrap ((IntKind.i64.wrap ((1000 : Int) * (List.getD (p1.1.1 :: (p1.1.2.1 :: (p1.1.2.2 :: ([] : List Int)))) (Int.toNat y1.1) (0 : Int)))) * p0.1))) (IntKind.i64.wrap (p0.1 - (IntKind.i64.wrap (p0.2.1 * p1.2.1))))).2 y1.2.2.2.2.2.2)))))))))))))) ∧
    (((decide (y1.1 < (3 : Int))) = false) →
    (K ((y1.2.1, y1.2.2.1), ((y1.2.2.2.1, y1.2.2.2.2.1), y1.2.2.2.2.2)))))) n0 ((0 : Int), ((0 : Int), ((0 : Int), ((0 : Int), ((0 : Int), ((0 : Int), (0 : Int)))))))))
set_option maxHeartbeats 4000000 in
theorem w_ref06_Live_eq (p0 : CR) (p1 : CS) (K : R3 → Prop) : tfn F_ref06_Live A_ref06_Live C_ref06_Live P_ref06_Live R_ref06_Live (p0, p1) K = w_ref06_Live p0 p1 K := by kernel_rfl
def s_ref06_Live (p0 : CR) (p1 : CS) : R3 :=
  ((s_counts_rounded ((IntKind.i64.wrap ((IntKind.i64.wrap ((1000 : Int) * p1.1.1)) * p0.1)), (IntKind.i64.wrap ((IntKind.i64.wrap ((1000 : Int) * p1.1.1)) * p0.1))) (IntKind.i64.wrap (p0.1 - (IntKind.i64.wrap (p0.2.1 * p1.2.1))))), ((s_counts_rounded ((IntKind.i64.wrap ((IntKind.i64.wrap ((1000 : Int) * p1.1.2.1)) * p0.1)), (IntKind.i64.wrap ((IntKind.i64.wrap ((1000 : Int) * p1.1.2.1)) * p0.1))) (IntKind.i64.wrap (p0.1 - (IntKind.i64.wrap (p0.2.1 * p1.2.1))))), (s_counts_rounded ((IntKind.i64.wrap ((IntKind.i64.wrap ((1000 : Int) * p1.1.2.2)) * p0.1)), (IntKind.i64.wrap ((IntKind.i64.wrap ((1000 : Int) * p1.1.2.2)) * p0.1))) (IntKind.i64.wrap (p0.1 - (IntKind.i64.wrap (p0.2.1 * p1.2.1)))))))
abbrev pre_ref06_Live (p0 : CR) (p1 : CS) : List Prop := [((IntKind.i64.wrap (p0.1 - (IntKind.i64.wrap (p0.2.1 * p1.2.1)))) ≠ (0 : Int))]
set_option maxHeartbeats 4000000 in
theorem d_ref06_Live (p0 : CR) (p1 : CS) (K : R3 → Prop) (hp : ∀ p ∈ pre_ref06_Live p0 p1, p) (h : K (s_ref06_Live p0 p1)) : w_ref06_Live p0 p1 K := by
  unfold w_ref06_Live
  unfold s_ref06_Live at h
  obtain ⟨hp0, _⟩ := conj_of hp
  exact ⟨31, fun _ => ⟨(od rfl), (od rfl), (hp0), (od rfl), (od rfl), fun _ => ⟨(od rfl), (od rfl), (hp0), (od rfl), (od rfl), fun _ => ⟨(od rfl), (od rfl), (hp0), (od rfl), (od rfl), nof, fun _ => h⟩, fun e => Bool.noConfusion (show true = false from e)⟩, fun e => Bool.noConfusion (show true = false from e)⟩, fun e => Bool.noConfusion (show true = false from e)⟩
abbrev t_ref06_Live (p0 : CR) (p1 : CS) : (Int × Int) × (Int × Int) × Int × Int := s_counts_rules_live p0 p1
abbrev qre_ref06_Live (p0 : CR) (p1 : CS) : List Prop := [v_samp p0 p1]
theorem pp_ref06_Live (p0 : CR) (p1 : CS) (hq : ∀ p ∈ qre_ref06_Live p0 p1, p) : ∀ p ∈ pre_ref06_Live p0 p1, p := by
  have hv := conj_of hq
  obtain ⟨h1, h2, _⟩ := tx_live hv.1
  intro p hp
  simp only [pre_ref06_Live, List.mem_cons, List.not_mem_nil, or_false] at hp
  subst hp
  omega

theorem tt_ref06_Live (p0 : CR) (p1 : CS) (hq : ∀ p ∈ qre_ref06_Live p0 p1, p) : s_ref06_Live p0 p1 = t_ref06_Live p0 p1 := by
  have hv := conj_of hq
  rfl

abbrev con_ref06_Live : Con := ⟨P_ref06_Live, R_ref06_Live, fun x => qre_ref06_Live x.1 x.2, fun x => t_ref06_Live x.1 x.2⟩
theorem ok_ref06_Live : ConOk Try.prog 36 con_ref06_Live := ⟨k_ref06_Live, fun x hx => ret_tf (ps := P_ref06_Live) (rs := R_ref06_Live) (x := x) (y := t_ref06_Live x.1 x.2) e_ref06_Live hC_ref06_Live (tf_of (w_ref06_Live_eq x.1 x.2 (fun z => z = t_ref06_Live x.1 x.2)) (d_ref06_Live x.1 x.2 (fun z => z = t_ref06_Live x.1 x.2) (pp_ref06_Live x.1 x.2 hx) (tt_ref06_Live x.1 x.2 hx)))⟩
/- ref06_Background -/
def C_ref06_Background : Cons := []
theorem hC_ref06_Background : ConsOk Try.prog C_ref06_Background := ConsOk.nil
def w_ref06_Background (p0 : CR) (p1 : CS) (K : (Int × (Int × Int)) → Prop) : Prop :=
 (∃ n0, (loopP (fun (y1 : (Int × (Int × (Int × Int)))) k2 =>
    ((((decide (y1.1 < (3 : Int))) = true) →
    (((0 : Int) ≤ y1.1) ∧
      ((y1.1 < (3 : Int)) ∧
      (((0 : Int) ≤ y1.1) ∧
      ((y1.1 < (3 : Int)) ∧
      (((0 : Int) ≤ y1.1) ∧
      ((y1.1 < (3 : Int)) ∧
      (k2 ((IntKind.i64.wrap (y1.1 + (1 : Int))), ((cond (decide (y1.1 = (0 : Int))) (IntKind.i64.wrap ((List.getD (p0.2.2.1.1 :: (p0.2.2.1.2.1 :: (p0.2.2.1.2.2 :: ([] : List Int)))) (Int.toNat y1.1) (0 : Int)) + (IntKind.i64.wrap ((List.getD (p0.2.2.2.1.1 :: (p0.2.2.2.1.2.1 :: (p0.2.2.2.1.2.2 :: ([] : List Int)))) (Int.toNat y1.1) (0 : Int)) * p1.2.2.1)))) y1.2.1), ((cond (decide (y1.1 = (1 : Int))) (IntKind.i64.wrap ((List.getD (p0.2.2.1.1 :: (p0.2.2.1.2.1 :: (p0.2.2.1.2.2 :: ([] : List Int)))) (Int.toNat y1.1) (0 : Int)) + (IntKind.i64.wrap ((List.getD (p0.2.2.2.1.1 :: (p0.2.2.2.1.2.1 :: (p0.2.2.2.1.2.2 :: ([] : List Int)))) (Int.toNat y1.1) (0 : Int)) * p1.2.2.1)))) y1.2.2.1), (cond (decide (y1.1 = (2 : Int))) (IntKind.i64.wrap ((List.getD (p0.2.2.1.1 :: (p0.2.2.1.2.1 :: (p0.2.2.1.2.2 :: ([] : List Int)))) (Int.toNat y1.1) (0 : Int)) + (IntKind.i64.wrap ((List.getD (p0.2.2.2.1.1 :: (p0.2.2.2.1.2.1 :: (p0.2.2.2.1.2.2 :: ([] : List Int)))) (Int.toNat y1.1) (0 : Int)) * p1.2.2.1)))) y1.2.2.2)))))))))))) ∧
    (((decide (y1.1 < (3 : Int))) = false) →
    (K y1.2)))) n0 ((0 : Int), ((0 : Int), ((0 : Int), (0 : Int))))))
set_option maxHeartbeats 4000000 in
theorem w_ref06_Background_eq (p0 : CR) (p1 : CS) (K : (Int × (Int × Int)) → Prop) : tfn F_ref06_Background A_ref06_Background C_ref06_Background P_ref06_Background R_ref06_Background (p0, p1) K = w_ref06_Background p0 p1 K := by kernel_rfl
def s_ref06_Background (p0 : CR) (p1 : CS) : (Int × (Int × Int)) :=
  ((IntKind.i64.wrap (p0.2.2.1.1 + (IntKind.i64.wrap (p0.2.2.2.1.1 * p1.2.2.1)))), ((IntKind.i64.wrap (p0.2.2.1.2.1 + (IntKind.i64.wrap (p0.2.2.2.1.2.1 * p1.2.2.1)))), (IntKind.i64.wrap (p0.2.2.1.2.2 + (IntKind.i64.wrap (p0.2.2.2.1.2.2 * p1.2.2.1))))))
abbrev pre_ref06_Background (p0 : CR) (p1 : CS) : List Prop := []
set_option maxHeartbeats 4000000 in
theorem d_ref06_Background (p0 : CR) (p1 : CS) (K : (Int × (Int × Int)) → Prop) (hp : ∀ p ∈ pre_ref06_Background p0 p1, p) (h : K (s_ref06_Background p0 p1)) : w_ref06_Background p0 p1 K := by
  unfold w_ref06_Background
  unfold s_ref06_Background at h
  exact ⟨31, fun _ => ⟨(od rfl), (od rfl), (od rfl), (od rfl), (od rfl), (od rfl), fun _ => ⟨(od rfl), (od rfl), (od rfl), (od rfl), (od rfl), (od rfl), fun _ => ⟨(od rfl), (od rfl), (od rfl), (od rfl), (od rfl), (od rfl), nof, fun _ => h⟩, fun e => Bool.noConfusion (show true = false from e)⟩, fun e => Bool.noConfusion (show true = false from e)⟩, fun e => Bool.noConfusion (show true = false from e)⟩
abbrev t_ref06_Background (p0 : CR) (p1 : CS) : Int × Int × Int := s_counts_rules_background p0 p1
abbrev qre_ref06_Background (_ : CR) (_ : CS) : List Prop := []
theorem pp_ref06_Background (p0 : CR) (p1 : CS) (hq : ∀ p ∈ qre_ref06_Background p0 p1, p) : ∀ p ∈ pre_ref06_Background p0 p1, p := by
  have hv := conj_of hq
  intro p hp
  simp only [pre_ref06_Background, List.not_mem_nil] at hp

theorem tt_ref06_Background (p0 : CR) (p1 : CS) (hq : ∀ p ∈ qre_ref06_Background p0 p1, p) : s_ref06_Background p0 p1 = t_ref06_Background p0 p1 := by
  have hv := conj_of hq
  rfl

abbrev con_ref06_Background : Con := ⟨P_ref06_Background, R_ref06_Background, fun x => qre_ref06_Background x.1 x.2, fun x => t_ref06_Background x.1 x.2⟩
theorem ok_ref06_Background : ConOk Try.prog 37 con_ref06_Background := ⟨k_ref06_Background, fun x hx => ret_tf (ps := P_ref06_Background) (rs := R_ref06_Background) (x := x) (y := t_ref06_Background x.1 x.2) e_ref06_Background hC_ref06_Background (tf_of (w_ref06_Background_eq x.1 x.2 (fun z => z = t_ref06_Background x.1 x.2)) (d_ref06_Background x.1 x.2 (fun z => z = t_ref06_Background x.1 x.2) (pp_ref06_Background x.1 x.2 hx) (tt_ref06_Background x.1 x.2 hx)))⟩
/- ref06_Radon -/
def C_ref06_Radon : Cons := [(36, [], con_ref06_Live), (37, [], con_ref06_Background), (91, [], con_ref06_rounded)]
theorem hC_ref06_Radon : ConsOk Try.prog C_ref06_Radon := ConsOk.cons ok_ref06_Live <| ConsOk.cons ok_ref06_Background <| ConsOk.cons ok_ref06_rounded <| ConsOk.nil
def w_ref06_Radon (p0 : CR) (p1 : CS) (K : (Int × Int) → Prop) : Prop :=
 ((v_samp p0 p1) ∧
  (((IntKind.i64.wrap (p0.2.2.2.2.2.1 - p0.2.2.2.2.1)) ≠ (0 : Int)) ∧
  (K (s_counts_rounded ((IntKind.i64.wrap ((IntKind.i64.wrap ((1000000 : Int) * p1.2.2.2.1)) - (IntKind.i64.wrap (p0.2.2.2.2.1 * (IntKind.i64.wrap ((s_counts_rules_live p0 p1).2.1.2 - (s_counts_rules_background p0 p1).2.1)))))), (IntKind.i64.wrap ((IntKind.i64.wrap ((1000000 : Int) * p1.2.2.2.1)) - (IntKind.i64.wrap (p0.2.2.2.2.1 * (IntKind.i64.wrap ((s_counts_rules_live p0 p1).2.1.1 - (s_counts_rules_background p0 p1).2.1))))))) (IntKind.i64.wrap (p0.2.2.2.2.2.1 - p0.2.2.2.2.1))))))
set_option maxHeartbeats 4000000 in
theorem w_ref06_Radon_eq (p0 : CR) (p1 : CS) (K : (Int × Int) → Prop) : tfn F_ref06_Radon A_ref06_Radon C_ref06_Radon P_ref06_Radon R_ref06_Radon (p0, p1) K = w_ref06_Radon p0 p1 K := by kernel_rfl
def s_ref06_Radon (p0 : CR) (p1 : CS) : (Int × Int) :=
  (s_counts_rounded ((IntKind.i64.wrap ((IntKind.i64.wrap ((1000000 : Int) * p1.2.2.2.1)) - (IntKind.i64.wrap (p0.2.2.2.2.1 * (IntKind.i64.wrap ((s_counts_rules_live p0 p1).2.1.2 - (s_counts_rules_background p0 p1).2.1)))))), (IntKind.i64.wrap ((IntKind.i64.wrap ((1000000 : Int) * p1.2.2.2.1)) - (IntKind.i64.wrap (p0.2.2.2.2.1 * (IntKind.i64.wrap ((s_counts_rules_live p0 p1).2.1.1 - (s_counts_rules_background p0 p1).2.1))))))) (IntKind.i64.wrap (p0.2.2.2.2.2.1 - p0.2.2.2.2.1)))
abbrev pre_ref06_Radon (p0 : CR) (p1 : CS) : List Prop := [(v_samp p0 p1),
    ((IntKind.i64.wrap (p0.2.2.2.2.2.1 - p0.2.2.2.2.1)) ≠ (0 : Int))]
set_option maxHeartbeats 4000000 in
theorem d_ref06_Radon (p0 : CR) (p1 : CS) (K : (Int × Int) → Prop) (hp : ∀ p ∈ pre_ref06_Radon p0 p1, p) (h : K (s_ref06_Radon p0 p1)) : w_ref06_Radon p0 p1 K := by
  unfold w_ref06_Radon
  unfold s_ref06_Radon at h
  obtain ⟨hp0, hp1, _⟩ := conj_of hp
  exact ⟨(hp0), (hp1), h⟩
abbrev t_ref06_Radon (p0 : CR) (p1 : CS) : Int × Int := s_counts_rules_radon p0 p1
abbrev qre_ref06_Radon (p0 : CR) (p1 : CS) : List Prop := [v_samp p0 p1]
theorem pp_ref06_Radon (p0 : CR) (p1 : CS) (hq : ∀ p ∈ qre_ref06_Radon p0 p1, p) : ∀ p ∈ pre_ref06_Radon p0 p1, p := by
  have hv := conj_of hq
  obtain ⟨h3, h4, _⟩ := tx_air hv.1.rules
  intro p hp
  simp only [pre_ref06_Radon, List.mem_cons, List.not_mem_nil, or_false] at hp
  rcases hp with rfl | rfl
  · exact hv.1
  · omega

theorem tt_ref06_Radon (p0 : CR) (p1 : CS) (hq : ∀ p ∈ qre_ref06_Radon p0 p1, p) : s_ref06_Radon p0 p1 = t_ref06_Radon p0 p1 := by
  have hv := conj_of hq
  have hg := hv.1.rules.ground
  have hd : decide (p0.2.2.2.2.1 < 0) = false := decide_eq_false (by omega)
  unfold s_ref06_Radon t_ref06_Radon s_counts_rules_radon
  simp only [s_counts_minus, s_counts_sum, s_counts_times, s_counts_single, hd, cond_false, show decide ((-1 : Int) < 0) = true from rfl, cond_true, w_mul_r, w_add_r, w_sub_r, w_neg]

abbrev con_ref06_Radon : Con := ⟨P_ref06_Radon, R_ref06_Radon, fun x => qre_ref06_Radon x.1 x.2, fun x => t_ref06_Radon x.1 x.2⟩
theorem ok_ref06_Radon : ConOk Try.prog 38 con_ref06_Radon := ⟨k_ref06_Radon, fun x hx => ret_tf (ps := P_ref06_Radon) (rs := R_ref06_Radon) (x := x) (y := t_ref06_Radon x.1 x.2) e_ref06_Radon hC_ref06_Radon (tf_of (w_ref06_Radon_eq x.1 x.2 (fun z => z = t_ref06_Radon x.1 x.2)) (d_ref06_Radon x.1 x.2 (fun z => z = t_ref06_Radon x.1 x.2) (pp_ref06_Radon x.1 x.2 hx) (tt_ref06_Radon x.1 x.2 hx)))⟩
/- ref06_Net -/
def C_ref06_Net : Cons := [(36, [], con_ref06_Live), (37, [], con_ref06_Background), (38, [], con_ref06_Radon), (91, [], con_ref06_rounded)]
theorem hC_ref06_Net : ConsOk Try.prog C_ref06_Net := ConsOk.cons ok_ref06_Live <| ConsOk.cons ok_ref06_Background <| ConsOk.cons ok_ref06_Radon <| ConsOk.cons ok_ref06_rounded <| ConsOk.nil
abbrev q0_ref06_Net (p0 : CR) := (p0.2.2.2.2.2.2.1.1 :: (p0.2.2.2.2.2.2.1.2.1 :: (p0.2.2.2.2.2.2.1.2.2 :: ([] : List Int))))
abbrev q1_ref06_Net (p0 : CR) (p1 : CS) := ((s_counts_rules_background p0 p1).1 :: ((s_counts_rules_background p0 p1).2.1 :: ((s_counts_rules_background p0 p1).2.2 :: ([] : List Int))))
def w_ref06_Net (p0 : CR) (p1 : CS) (K : R3 → Prop) : Prop :=
 ((v_samp p0 p1) ∧
  ((v_samp p0 p1) ∧
  (∃ n0, (loopP (fun (y1 : (Int × (Int × (Int × (Int × (Int × (Int × Int))))))) k2 =>
    ((((decide (y1.1 < zz3)) = true) →
    ((zz0 ≤ y1.1) ∧
      ((y1.1 < zz3) ∧
      ((zz0 ≤ y1.1) ∧
      ((y1.1 < zz3) ∧
      (((1000 : Int) ≠ zz0) ∧
      ((zz0 ≤ y1.1) ∧
      ((y1.1 < zz3) ∧
      ((zz0 ≤ y1.1) ∧
      ((y1.1 < zz3) ∧
      ((zz0 ≤ y1.1) ∧
      ((y1.1 < zz3) ∧
      ((zz0 ≤ y1.1) ∧
      ((y1.1 < zz3) ∧
      ((zz0 ≤ y1.1) ∧
      ((y1.1 < zz3) ∧
      (k2 ((wi (y1.1 + zz1)), ((cond (decide (y1.1 = zz0)) (wi ((wi ((List.getD ((s_counts_rules_live p0 p1).1.1 :: ((s_counts_rules_live p0 p1).2.1.1 :: ((s_counts_rules_live p0 p1).2.2.1 :: ([] : List Int)))) (Int.toNat y1.1) zz0) - (List.getD (q1_ref06_Net p0 p1) (Int.toNat y1.1) zz0))) - (s_counts_rounded ((wi ((List.getD (q0_ref06_Net p0) (Int.toNat y1.1) zz0) * (s_counts_rules_radon p0 p1).1)), (wi ((List.getD (q0_ref06_Net p0) (Int.toNat y1.1) zz0) * (s_counts_rules_radon p0 p1).2))) (1000 : Int)).2)) y1.2.1), ((cond (decide (y1.1 = zz0)) (wi ((wi ((List.getD ((s_counts_rules_live p0 p1).1.2 :: ((s_counts_rules_live p0 p1).2.1.2 :: ((s_counts_rules_live p0 p1).2.2.2 :: ([] : List Int)))) (Int.toNat y1.1) zz0) - (List.getD (q1_ref06_Net p0 p1) (Int.toNat y1.1) zz0))) - (s_counts_rounded ((wi ((List.getD (q0_ref06_Net p0) (Int.toNat y1.1) zz0) * (s_counts_rules_radon p0 p1).1)), (wi ((List.getD (q0_ref06_Net p0) (Int.toNat y1.1) zz0) * (s_counts_rules_radon p0 p1).2))) (1000 : Int)).1)) y1.2.2.1), ((cond (decide (y1.1 = zz1)) (wi ((wi ((List.getD ((s_counts_rules_live p0 p1).1.1 :: ((s_counts_rules_live p0 p1).2.1.1 :: ((s_counts_rules_live p0 p1).2.2.1 :: ([] : List Int)))) (Int.toNat y1.1) zz0) - (List.getD (q1_ref06_Net p0 p1) (Int.toNat y1.1) zz0))) - (s_counts_rounded ((wi ((List.getD (q0_ref06_Net p0) (Int.toNat y1.1) zz0) * (s_counts_rules_radon p0 p1).1)), (wi ((List.getD (q0_ref06_Net p0) (Int.toNat y1.1) zz0) * (s_counts_rules_radon p0 p1).2))) (1000 : Int)).2)) y1.2.2.2.1), ((cond (decide (y1.1 = zz1)) (wi ((wi ((List.getD ((s_counts_rules_live p0 p1).1.2 :: ((s_counts_rules_live p0 p1).2.1.2 :: ((s_counts_rules_live p0 p1).2.2.2 :: ([] : List Int)))) (Int.toNat y1.1) zz0) - (List.getD (q1_ref06_Net p0 p1) (Int.toNat y1.1) zz0))) - (s_counts_rounded ((wi ((List.getD (q0_ref06_Net p0) (Int.toNat y1.1) zz0) * (s_counts_rules_radon p0 p1).1)), (wi ((List.getD (q0_ref06_Net p0) (Int.toNat y1.1) zz0) * (s_counts_rules_radon p0 p1).2))) (1000 : Int)).1)) y1.2.2.2.2.1), ((cond (decide (y1.1 = zz2)) (wi ((wi ((List.getD ((s_counts_rules_live p0 p1).1.1 :: ((s_counts_rules_live p0 p1).2.1.1 :: ((s_counts_rules_live p0 p1).2.2.1 :: ([] : List Int)))) (Int.toNat y1.1) zz0) - (List.getD (q1_ref06_Net p0 p1) (Int.toNat y1.1) zz0))) - (s_counts_rounded ((wi ((List.getD (q0_ref06_Net p0) (Int.toNat y1.1) zz0) * (s_counts_rules_radon p0 p1).1)), (wi ((List.getD (q0_ref06_Net p0) (Int.toNat y1.1) zz0) * (s_counts_rules_radon p0 p1).2))) (1000 : Int)).2)) y1.2.2.2.2.2.1), (cond (decide (y1.1 = zz2)) (wi ((wi ((List.getD ((s_counts_rules_live p0 p1).1.2 :: ((s_counts_rules_live p0 p1).2.1.2 :: ((s_counts_rules_live p0 p1).2.2.2 :: ([] : List Int)))) (Int.toNat y1.1) zz0) - (List.getD (q1_ref06_Net p0 p1) (Int.toNat y1.1) zz0))) - (s_counts_rounded ((wi ((List.getD (q0_ref06_Net p0) (Int.toNat y1.1) zz0) * (s_counts_rules_radon p0 p1).1)), (wi ((List.getD (q0_ref06_Net p0) (Int.toNat y1.1) zz0) * (s_counts_rules_radon p0 p1).2))) (1000 : Int)).1)) y1.2.2.2.2.2.2)))))))))))))))))))))))) ∧
    (((decide (y1.1 < zz3)) = false) →
    (K ((y1.2.1, y1.2.2.1), ((y1.2.2.2.1, y1.2.2.2.2.1), y1.2.2.2.2.2)))))) n0 (zz0, (zz0, (zz0, (zz0, (zz0, (zz0, zz0))))))))))
set_option maxHeartbeats 4000000 in
theorem w_ref06_Net_eq (p0 : CR) (p1 : CS) (K : R3 → Prop) : tfn F_ref06_Net A_ref06_Net C_ref06_Net P_ref06_Net R_ref06_Net (p0, p1) K = w_ref06_Net p0 p1 K := by kernel_rfl
def s_ref06_Net (p0 : CR) (p1 : CS) : R3 :=
  (((IntKind.i64.wrap ((IntKind.i64.wrap ((s_counts_rules_live p0 p1).1.1 - (s_counts_rules_background p0 p1).1)) - (s_counts_rounded ((IntKind.i64.wrap (p0.2.2.2.2.2.2.1.1 * (s_counts_rules_radon p0 p1).1)), (IntKind.i64.wrap (p0.2.2.2.2.2.2.1.1 * (s_counts_rules_radon p0 p1).2))) (1000 : Int)).2)), (IntKind.i64.wrap ((IntKind.i64.wrap ((s_counts_rules_live p0 p1).1.2 - (s_counts_rules_background p0 p1).1)) - (s_counts_rounded ((IntKind.i64.wrap (p0.2.2.2.2.2.2.1.1 * (s_counts_rules_radon p0 p1).1)), (IntKind.i64.wrap (p0.2.2.2.2.2.2.1.1 * (s_counts_rules_radon p0 p1).2))) (1000 : Int)).1))), (((IntKind.i64.wrap ((IntKind.i64.wrap ((s_counts_rules_live p0 p1).2.1.1 - (s_counts_rules_background p0 p1).2.1)) - (s_counts_rounded ((IntKind.i64.wrap (p0.2.2.2.2.2.2.1.2.1 * (s_counts_rules_radon p0 p1).1)), (IntKind.i64.wrap (p0.2.2.2.2.2.2.1.2.1 * (s_counts_rules_radon p0 p1).2))) (1000 : Int)).2)), (IntKind.i64.wrap ((IntKind.i64.wrap ((s_counts_rules_live p0 p1).2.1.2 - (s_counts_rules_background p0 p1).2.1)) - (s_counts_rounded ((IntKind.i64.wrap (p0.2.2.2.2.2.2.1.2.1 * (s_counts_rules_radon p0 p1).1)), (IntKind.i64.wrap (p0.2.2.2.2.2.2.1.2.1 * (s_counts_rules_radon p0 p1).2))) (1000 : Int)).1))), ((IntKind.i64.wrap ((IntKind.i64.wrap ((s_counts_rules_live p0 p1).2.2.1 - (s_counts_rules_background p0 p1).2.2)) - (s_counts_rounded ((IntKind.i64.wrap (p0.2.2.2.2.2.2.1.2.2 * (s_counts_rules_radon p0 p1).1)), (IntKind.i64.wrap (p0.2.2.2.2.2.2.1.2.2 * (s_counts_rules_radon p0 p1).2))) (1000 : Int)).2)), (IntKind.i64.wrap ((IntKind.i64.wrap ((s_counts_rules_live p0 p1).2.2.2 - (s_counts_rules_background p0 p1).2.2)) - (s_counts_rounded ((IntKind.i64.wrap (p0.2.2.2.2.2.2.1.2.2 * (s_counts_rules_radon p0 p1).1)), (IntKind.i64.wrap (p0.2.2.2.2.2.2.1.2.2 * (s_counts_rules_radon p0 p1).2))) (1000 : Int)).1)))))
abbrev pre_ref06_Net (p0 : CR) (p1 : CS) : List Prop := [(v_samp p0 p1)]
set_option maxHeartbeats 4000000 in
theorem d_ref06_Net (p0 : CR) (p1 : CS) (K : R3 → Prop) (hp : ∀ p ∈ pre_ref06_Net p0 p1, p) (h : K (s_ref06_Net p0 p1)) : w_ref06_Net p0 p1 K := by
  unfold w_ref06_Net
  unfold s_ref06_Net at h
  obtain ⟨hp0, _⟩ := conj_of hp
  exact ⟨(hp0), (hp0), 31, fun _ => ⟨(od rfl), (od rfl), (od rfl), (od rfl), (od rfl), (od rfl), (od rfl), (od rfl), (od rfl), (od rfl), (od rfl), (od rfl), (od rfl), (od rfl), (od rfl), fun _ => ⟨(od rfl), (od rfl), (od rfl), (od rfl), (od rfl), (od rfl), (od rfl), (od rfl), (od rfl), (od rfl), (od rfl), (od rfl), (od rfl), (od rfl), (od rfl), fun _ => ⟨(od rfl), (od rfl), (od rfl), (od rfl), (od rfl), (od rfl), (od rfl), (od rfl), (od rfl), (od rfl), (od rfl), (od rfl), (od rfl), (od rfl), (od rfl), nof, fun _ => h⟩, fun e => Bool.noConfusion (show true = false from e)⟩, fun e => Bool.noConfusion (show true = false from e)⟩, fun e => Bool.noConfusion (show true = false from e)⟩
abbrev t_ref06_Net (p0 : CR) (p1 : CS) : (Int × Int) × (Int × Int) × Int × Int := s_counts_rules_net p0 p1
abbrev qre_ref06_Net (p0 : CR) (p1 : CS) : List Prop := [v_samp p0 p1]
theorem pp_ref06_Net (p0 : CR) (p1 : CS) (hq : ∀ p ∈ qre_ref06_Net p0 p1, p) : ∀ p ∈ pre_ref06_Net p0 p1, p := by
  have hv := conj_of hq
  intro p hp
  simp only [pre_ref06_Net, List.mem_cons, List.not_mem_nil, or_false] at hp
  subst hp
  exact hv.1

theorem tt_ref06_Net (p0 : CR) (p1 : CS) (hq : ∀ p ∈ qre_ref06_Net p0 p1, p) : s_ref06_Net p0 p1 = t_ref06_Net p0 p1 := by
  have hv := conj_of hq
  have h0 := hv.1.rules.rad0
  have h1 := hv.1.rules.rad1
  have h2 := hv.1.rules.rad2
  have hd0 : decide (p0.2.2.2.2.2.2.1.1 < 0) = false := decide_eq_false (by omega)
  have hd1 : decide (p0.2.2.2.2.2.2.1.2.1 < 0) = false := decide_eq_false (by omega)
  have hd2 : decide (p0.2.2.2.2.2.2.1.2.2 < 0) = false := decide_eq_false (by omega)
  unfold s_ref06_Net t_ref06_Net s_counts_rules_net
  simp only [s_counts_minus, s_counts_sum, s_counts_times, s_counts_single, hd0, hd1, hd2, cond_false, show decide ((-1 : Int) < 0) = true from rfl, cond_true, w_mul_r, w_add_r, w_add_l, w_sub_r, w_sub_l, w_neg]

abbrev con_ref06_Net : Con := ⟨P_ref06_Net, R_ref06_Net, fun x => qre_ref06_Net x.1 x.2, fun x => t_ref06_Net x.1 x.2⟩
theorem ok_ref06_Net : ConOk Try.prog 39 con_ref06_Net := ⟨k_ref06_Net, fun x hx => ret_tf (ps := P_ref06_Net) (rs := R_ref06_Net) (x := x) (y := t_ref06_Net x.1 x.2) e_ref06_Net hC_ref06_Net (tf_of (w_ref06_Net_eq x.1 x.2 (fun z => z = t_ref06_Net x.1 x.2)) (d_ref06_Net x.1 x.2 (fun z => z = t_ref06_Net x.1 x.2) (pp_ref06_Net x.1 x.2 hx) (tt_ref06_Net x.1 x.2 hx)))⟩
/- base_Size -/
def C_base_Size : Cons := []
theorem hC_base_Size : ConsOk Try.prog C_base_Size := ConsOk.nil
def w_base_Size (p0 : Int) (K : Int → Prop) : Prop :=
 (K (max p0 (IntKind.i64.wrap ((0 : Int) - p0))))
set_option maxHeartbeats 4000000 in
theorem w_base_Size_eq (p0 : Int) (K : Int → Prop) : tfn F_base_Size A_base_Size C_base_Size P_base_Size R_base_Size p0 K = w_base_Size p0 K := by kernel_rfl
def s_base_Size (p0 : Int) : Int :=
  (max p0 (IntKind.i64.wrap ((0 : Int) - p0)))
abbrev pre_base_Size (p0 : Int) : List Prop := []
set_option maxHeartbeats 4000000 in
theorem d_base_Size (p0 : Int) (K : Int → Prop) (hp : ∀ p ∈ pre_base_Size p0, p) (h : K (s_base_Size p0)) : w_base_Size p0 K := by
  unfold w_base_Size
  unfold s_base_Size at h
  exact h
abbrev con_base_Size : Con := ⟨P_base_Size, R_base_Size, fun x => pre_base_Size x, fun x => s_base_Size x⟩
theorem ok_base_Size : ConOk Try.prog 114 con_base_Size := ⟨k_base_Size, fun x hx => ret_tf (ps := P_base_Size) (rs := R_base_Size) (x := x) (y := s_base_Size x) e_base_Size hC_base_Size (tf_of (w_base_Size_eq x (fun z => z = s_base_Size x)) (d_base_Size x (fun z => z = s_base_Size x) hx rfl))⟩
/- base_Gcd -/
def C_base_Gcd : Cons := [(114, [], con_base_Size)]
theorem hC_base_Gcd : ConsOk Try.prog C_base_Gcd := ConsOk.cons ok_base_Size <| ConsOk.nil
def w_base_Gcd (p0 : Int) (p1 : Int) (K : Int → Prop) : Prop :=
 (∃ n0, (loopP (fun (y1 : (Int × Int)) k2 =>
    ((((y1.1 != (0 : Int)) = true) →
    ((y1.1 ≠ (0 : Int)) ∧
      (k2 ((Int.tmod y1.2 y1.1), y1.1)))) ∧
    (((y1.1 != (0 : Int)) = false) →
    (K (s_base_Size y1.2))))) n0 (p1, p0)))
set_option maxHeartbeats 4000000 in
theorem w_base_Gcd_eq (p0 : Int) (p1 : Int) (K : Int → Prop) : tfn F_base_Gcd A_base_Gcd C_base_Gcd P_base_Gcd R_base_Gcd (p0, p1) K = w_base_Gcd p0 p1 K := by kernel_rfl
def b_base_Gcd_0 (p0 : Int) (p1 : Int) (K : Int → Prop) (y : (Int × Int)) (k : (Int × Int) → Prop) : Prop :=
 (((y.1 != (0 : Int)) = true →
    ((y.1 ≠ (0 : Int)) ∧
    (k ((Int.tmod y.2 y.1), y.1)))) ∧
  ((y.1 != (0 : Int)) = false →
    (K (s_base_Size y.2))))
def lp_base_Gcd_0 (_ _ : Int) (x : Int × Int) : Int := v_gcd x.2 x.1
abbrev lpre_base_Gcd_0 (p0 p1 : Int) (x : Int × Int) : Prop := lpre_counts_divisor_0 p0 p1 x
theorem lk_base_Gcd_0 (p0 p1 : Int) (x : Int × Int) (K : Int → Prop) (hp : lpre_base_Gcd_0 p0 p1 x) (h : K (lp_base_Gcd_0 p0 p1 x)) : ∃ n, loopP (b_base_Gcd_0 p0 p1 K) n x := lk_counts_divisor_0 p0 p1 x K hp h

def s_base_Gcd (p0 : Int) (p1 : Int) : Int :=
  (lp_base_Gcd_0 p0 p1 (p1, p0))
abbrev pre_base_Gcd (p0 : Int) (p1 : Int) : List Prop := [(lpre_base_Gcd_0 p0 p1 (p1, p0))]
set_option maxHeartbeats 4000000 in
theorem d_base_Gcd (p0 : Int) (p1 : Int) (K : Int → Prop) (hp : ∀ p ∈ pre_base_Gcd p0 p1, p) (h : K (s_base_Gcd p0 p1)) : w_base_Gcd p0 p1 K := by
  unfold w_base_Gcd
  unfold s_base_Gcd at h
  obtain ⟨hp0, _⟩ := conj_of hp
  exact (Exists.imp (fun n hn => loop_mono (fun y k k' hk hy => ⟨fun e0 => ⟨(hy.1 e0).1, (hk _ (hy.1 e0).2)⟩, fun e0 => (hy.2 e0)⟩) n _ hn) (lk_base_Gcd_0 p0 p1 (p1, p0) K (hp0) h))
abbrev t_base_Gcd (p0 p1 : Int) : Int := v_gcd p0 p1
abbrev qre_base_Gcd (p0 p1 : Int) : List Prop := [(-9223372036854775807 ≤ p1 ∧ p1 ≤ 9223372036854775807) ∧ -9223372036854775807 ≤ p0 ∧ p0 ≤ 9223372036854775807]
theorem pp_base_Gcd (p0 p1 : Int) (hq : ∀ p ∈ qre_base_Gcd p0 p1, p) : ∀ p ∈ pre_base_Gcd p0 p1, p := hq
theorem tt_base_Gcd (p0 p1 : Int) (_ : ∀ p ∈ qre_base_Gcd p0 p1, p) : s_base_Gcd p0 p1 = t_base_Gcd p0 p1 := rfl

abbrev con_base_Gcd : Con := ⟨P_base_Gcd, R_base_Gcd, fun x => qre_base_Gcd x.1 x.2, fun x => t_base_Gcd x.1 x.2⟩
theorem ok_base_Gcd : ConOk Try.prog 117 con_base_Gcd := ⟨k_base_Gcd, fun x hx => ret_tf (ps := P_base_Gcd) (rs := R_base_Gcd) (x := x) (y := t_base_Gcd x.1 x.2) e_base_Gcd hC_base_Gcd (tf_of (w_base_Gcd_eq x.1 x.2 (fun z => z = t_base_Gcd x.1 x.2)) (d_base_Gcd x.1 x.2 (fun z => z = t_base_Gcd x.1 x.2) (pp_base_Gcd x.1 x.2 hx) (tt_base_Gcd x.1 x.2 hx)))⟩
/- ref06_divisor -/
def C_ref06_divisor : Cons := [(117, [], con_base_Gcd)]
theorem hC_ref06_divisor : ConsOk Try.prog C_ref06_divisor := ConsOk.cons ok_base_Gcd <| ConsOk.nil
abbrev q0_ref06_divisor (p0 : CI) (y1 : (Int × Int)) (y4 : (Int × Int)) := (List.getD ((List.getD (p0.1.1.1 :: (p0.1.2.1.1 :: (p0.1.2.2.1 :: ([] : List Int)))) (Int.toNat y1.1) zz0) :: ((List.getD (p0.1.1.2.1 :: (p0.1.2.1.2.1 :: (p0.1.2.2.2.1 :: ([] : List Int)))) (Int.toNat y1.1) zz0) :: ((List.getD (p0.1.1.2.2 :: (p0.1.2.1.2.2 :: (p0.1.2.2.2.2 :: ([] : List Int)))) (Int.toNat y1.1) zz0) :: ([] : List Int)))) (Int.toNat y4.1) zz0)
def w_ref06_divisor (p0 : CI) (K : Int → Prop) : Prop :=
 (∃ n0, (loopP (fun (y1 : (Int × Int)) k2 =>
    ((((decide (y1.1 < zz3)) = true) →
    (∃ n3, (loopP (fun (y4 : (Int × Int)) k5 =>
        ((((decide (y4.1 < zz3)) = true) →
        ((zz0 ≤ y1.1) ∧
          ((y1.1 < zz3) ∧
          ((zz0 ≤ y4.1) ∧
          ((y4.1 < zz3) ∧
          (((((-9223372036854775807 : Int) ≤ (q0_ref06_divisor p0 y1 y4)) ∧
          ((q0_ref06_divisor p0 y1 y4) ≤ (9223372036854775807 : Int))) ∧
          (((-9223372036854775807 : Int) ≤ y4.2) ∧
          (y4.2 ≤ (9223372036854775807 : Int)))) ∧
          (k5 ((wi (y4.1 + zz1)), (v_gcd y4.2 (q0_ref06_divisor p0 y1 y4)))))))))) ∧
        (((decide (y4.1 < zz3)) = false) →
        (k2 ((wi (y1.1 + zz1)), y4.2))))) n3 (zz0, y1.2)))) ∧
    (((decide (y1.1 < zz3)) = false) →
    (K y1.2)))) n0 (zz0, p0.2)))
set_option maxHeartbeats 4000000 in
theorem w_ref06_divisor_eq (p0 : CI) (K : Int → Prop) : tfn F_ref06_divisor A_ref06_divisor C_ref06_divisor P_ref06_divisor R_ref06_divisor p0 K = w_ref06_divisor p0 K := by kernel_rfl
def s_ref06_divisor (p0 : CI) : Int :=
  (v_gcd (v_gcd (v_gcd (v_gcd (v_gcd (v_gcd (v_gcd (v_gcd (v_gcd p0.2 p0.1.1.1) p0.1.1.2.1) p0.1.1.2.2) p0.1.2.1.1) p0.1.2.1.2.1) p0.1.2.1.2.2) p0.1.2.2.1) p0.1.2.2.2.1) p0.1.2.2.2.2)
abbrev pre_ref06_divisor (p0 : CI) : List Prop := [((((-9223372036854775807 : Int) ≤ p0.1.1.1) ∧ (p0.1.1.1 ≤ (9223372036854775807 : Int))) ∧ (((-9223372036854775807 : Int) ≤ p0.2) ∧ (p0.2 ≤ (9223372036854775807 : Int)))),
    ((((-9223372036854775807 : Int) ≤ p0.1.1.2.1) ∧ (p0.1.1.2.1 ≤ (9223372036854775807 : Int))) ∧ (((-9223372036854775807 : Int) ≤ (v_gcd p0.2 p0.1.1.1)) ∧ ((v_gcd p0.2 p0.1.1.1) ≤ (9223372036854775807 : Int)))),
    ((((-9223372036854775807 : Int) ≤ p0.1.1.2.2) ∧ (p0.1.1.2.2 ≤ (9223372036854775807 : Int))) ∧ (((-9223372036854775807 : Int) ≤ (v_gcd (v_gcd p0.2 p0.1.1.1) p0.1.1.2.1)) ∧ ((v_gcd (v_gcd p0.2 p0.1.1.1) p0.1.1.2.1) ≤ (9223372036854775807 : Int)))),
    ((((-9223372036854775807 : Int) ≤ p0.1.2.1.1) ∧ (p0.1.2.1.1 ≤ (9223372036854775807 : Int))) ∧ (((-9223372036854775807 : Int) ≤ (v_gcd (v_gcd (v_gcd p0.2 p0.1.1.1) p0.1.1.2.1) p0.1.1.2.2)) ∧ ((v_gcd (v_gcd (v_gcd p0.2 p0.1.1.1) p0.1.1.2.1) p0.1.1.2.2) ≤ (9223372036854775807 : Int)))),
    ((((-9223372036854775807 : Int) ≤ p0.1.2.1.2.1) ∧ (p0.1.2.1.2.1 ≤ (9223372036854775807 : Int))) ∧ (((-9223372036854775807 : Int) ≤ (v_gcd (v_gcd (v_gcd (v_gcd p0.2 p0.1.1.1) p0.1.1.2.1) p0.1.1.2.2) p0.1.2.1.1)) ∧ ((v_gcd (v_gcd (v_gcd (v_gcd p0.2 p0.1.1.1) p0.1.1.2.1) p0.1.1.2.2) p0.1.2.1.1) ≤ (9223372036854775807 : Int)))),
    ((((-9223372036854775807 : Int) ≤ p0.1.2.1.2.2) ∧ (p0.1.2.1.2.2 ≤ (9223372036854775807 : Int))) ∧ (((-9223372036854775807 : Int) ≤ (v_gcd (v_gcd (v_gcd (v_gcd (v_gcd p0.2 p0.1.1.1) p0.1.1.2.1) p0.1.1.2.2) p0.1.2.1.1) p0.1.2.1.2.1)) ∧ ((v_gcd (v_gcd (v_gcd (v_gcd (v_gcd p0.2 p0.1.1.1) p0.1.1.2.1) p0.1.1.2.2) p0.1.2.1.1) p0.1.2.1.2.1) ≤ (9223372036854775807 : Int)))),
    ((((-9223372036854775807 : Int) ≤ p0.1.2.2.1) ∧ (p0.1.2.2.1 ≤ (9223372036854775807 : Int))) ∧ (((-9223372036854775807 : Int) ≤ (v_gcd (v_gcd (v_gcd (v_gcd (v_gcd (v_gcd p0.2 p0.1.1.1) p0.1.1.2.1) p0.1.1.2.2) p0.1.2.1.1) p0.1.2.1.2.1) p0.1.2.1.2.2)) ∧ ((v_gcd (v_gcd (v_gcd (v_gcd (v_gcd (v_gcd p0.2 p0.1.1.1) p0.1.1.2.1) p0.1.1.2.2) p0.1.2.1.1) p0.1.2.1.2.1) p0.1.2.1.2.2) ≤ (9223372036854775807 : Int)))),
    ((((-9223372036854775807 : Int) ≤ p0.1.2.2.2.1) ∧ (p0.1.2.2.2.1 ≤ (9223372036854775807 : Int))) ∧ (((-9223372036854775807 : Int) ≤ (v_gcd (v_gcd (v_gcd (v_gcd (v_gcd (v_gcd (v_gcd p0.2 p0.1.1.1) p0.1.1.2.1) p0.1.1.2.2) p0.1.2.1.1) p0.1.2.1.2.1) p0.1.2.1.2.2) p0.1.2.2.1)) ∧ ((v_gcd (v_gcd (v_gcd (v_gcd (v_gcd (v_gcd (v_gcd p0.2 p0.1.1.1) p0.1.1.2.1) p0.1.1.2.2) p0.1.2.1.1) p0.1.2.1.2.1) p0.1.2.1.2.2) p0.1.2.2.1) ≤ (9223372036854775807 : Int)))),
    ((((-9223372036854775807 : Int) ≤ p0.1.2.2.2.2) ∧ (p0.1.2.2.2.2 ≤ (9223372036854775807 : Int))) ∧ (((-9223372036854775807 : Int) ≤ (v_gcd (v_gcd (v_gcd (v_gcd (v_gcd (v_gcd (v_gcd (v_gcd p0.2 p0.1.1.1) p0.1.1.2.1) p0.1.1.2.2) p0.1.2.1.1) p0.1.2.1.2.1) p0.1.2.1.2.2) p0.1.2.2.1) p0.1.2.2.2.1)) ∧ ((v_gcd (v_gcd (v_gcd (v_gcd (v_gcd (v_gcd (v_gcd (v_gcd p0.2 p0.1.1.1) p0.1.1.2.1) p0.1.1.2.2) p0.1.2.1.1) p0.1.2.1.2.1) p0.1.2.1.2.2) p0.1.2.2.1) p0.1.2.2.2.1) ≤ (9223372036854775807 : Int))))]
set_option maxHeartbeats 4000000 in
theorem d_ref06_divisor (p0 : CI) (K : Int → Prop) (hp : ∀ p ∈ pre_ref06_divisor p0, p) (h : K (s_ref06_divisor p0)) : w_ref06_divisor p0 K := by
  unfold w_ref06_divisor
  unfold s_ref06_divisor at h
  obtain ⟨hp0, hp1, hp2, hp3, hp4, hp5, hp6, hp7, hp8, _⟩ := conj_of hp
  exact ⟨31, fun _ => ⟨31, fun _ => ⟨(od rfl), (od rfl), (od rfl), (od rfl), (hp0), fun _ => ⟨(od rfl), (od rfl), (od rfl), (od rfl), (hp1), fun _ => ⟨(od rfl), (od rfl), (od rfl), (od rfl), (hp2), nof, fun _ => ⟨fun _ => ⟨31, fun _ => ⟨(od rfl), (od rfl), (od rfl), (od rfl), (hp3), fun _ => ⟨(od rfl), (od rfl), (od rfl), (od rfl), (hp4), fun _ => ⟨(od rfl), (od rfl), (od rfl), (od rfl), (hp5), nof, fun _ => ⟨fun _ => ⟨31, fun _ => ⟨(od rfl), (od rfl), (od rfl), (od rfl), (hp6), fun _ => ⟨(od rfl), (od rfl), (od rfl), (od rfl), (hp7), fun _ => ⟨(od rfl), (od rfl), (od rfl), (od rfl), (hp8), nof, fun _ => ⟨nof, fun _ => h⟩⟩, fun e => Bool.noConfusion (show true = false from e)⟩, fun e => Bool.noConfusion (show true = false from e)⟩, fun e => Bool.noConfusion (show true = false from e)⟩, fun e => Bool.noConfusion (show true = false from e)⟩⟩, fun e => Bool.noConfusion (show true = false from e)⟩, fun e => Bool.noConfusion (show true = false from e)⟩, fun e => Bool.noConfusion (show true = false from e)⟩, fun e => Bool.noConfusion (show true = false from e)⟩⟩, fun e => Bool.noConfusion (show true = false from e)⟩, fun e => Bool.noConfusion (show true = false from e)⟩, fun e => Bool.noConfusion (show true = false from e)⟩, fun e => Bool.noConfusion (show true = false from e)⟩
abbrev t_ref06_divisor (p0 : CI) : Int := v_div p0
abbrev qre_ref06_divisor (p0 : CI) : List Prop := [v_ci p0]
theorem pp_ref06_divisor (p0 : CI) (hq : ∀ p ∈ qre_ref06_divisor p0, p) : ∀ p ∈ pre_ref06_divisor p0, p := by
  have hv := (conj_of hq).1
  have a0 := hv.r0.a
  have a1 := hv.r0.b
  have a2 := hv.r0.c
  have b0 := hv.r1.a
  have b1 := hv.r1.b
  have b2 := hv.r1.c
  have c0 := hv.r2.a
  have c1 := hv.r2.b
  have c2 := hv.r2.c
  have d := hv.den
  have h1 := v_gcd_in p0.1.1.1 d.1
  have h2 := v_gcd_in p0.1.1.2.1 h1.1
  have h3 := v_gcd_in p0.1.1.2.2 h2.1
  have h4 := v_gcd_in p0.1.2.1.1 h3.1
  have h5 := v_gcd_in p0.1.2.1.2.1 h4.1
  have h6 := v_gcd_in p0.1.2.1.2.2 h5.1
  have h7 := v_gcd_in p0.1.2.2.1 h6.1
  have h8 := v_gcd_in p0.1.2.2.2.1 h7.1
  have h9 := v_gcd_in p0.1.2.2.2.2 h8.1
  intro p hp
  simp only [pre_ref06_divisor, List.mem_cons, List.not_mem_nil, or_false] at hp
  rcases hp with rfl | rfl | rfl | rfl | rfl | rfl | rfl | rfl | rfl
  all_goals omega
theorem tt_ref06_divisor (p0 : CI) (_ : ∀ p ∈ qre_ref06_divisor p0, p) : s_ref06_divisor p0 = t_ref06_divisor p0 := rfl

abbrev con_ref06_divisor : Con := ⟨P_ref06_divisor, R_ref06_divisor, fun x => qre_ref06_divisor x, fun x => t_ref06_divisor x⟩
theorem ok_ref06_divisor : ConOk Try.prog 113 con_ref06_divisor := ⟨k_ref06_divisor, fun x hx => ret_tf (ps := P_ref06_divisor) (rs := R_ref06_divisor) (x := x) (y := t_ref06_divisor x) e_ref06_divisor hC_ref06_divisor (tf_of (w_ref06_divisor_eq x (fun z => z = t_ref06_divisor x)) (d_ref06_divisor x (fun z => z = t_ref06_divisor x) (pp_ref06_divisor x hx) (tt_ref06_divisor x hx)))⟩
/- ref06_Inverse -/
def C_ref06_Inverse : Cons := [(113, [], con_ref06_divisor)]
theorem hC_ref06_Inverse : ConsOk Try.prog C_ref06_Inverse := ConsOk.cons ok_ref06_divisor <| ConsOk.nil
abbrev q0_ref06_Inverse (p0 : CR) := (p0.mt.1.2.1 :: (p0.mt.2.1.2.1 :: (p0.mt.2.2.2.1 :: ([] : List Int))))
abbrev q1_ref06_Inverse (p0 : CR) := (p0.mt.1.2.2 :: (p0.mt.2.1.2.2 :: (p0.mt.2.2.2.2 :: ([] : List Int))))
abbrev q2_ref06_Inverse (p0 : CR) := (p0.mt.1.1 :: (p0.mt.2.1.1 :: (p0.mt.2.2.1 :: ([] : List Int))))
abbrev q3_ref06_Inverse := (Int × (Int × (Int × (Int × (Int × (Int × (Int × (Int × (Int × (Int × Int))))))))))
def w_ref06_Inverse (p0 : CR) (K : CI → Prop) : Prop :=
 (∃ n0, (loopP (fun (y1 : (q3_ref06_Inverse)) k2 =>
    ((((decide (y1.1 < zz3)) = true) →
    (∃ n3, (loopP (fun (y4 : (q3_ref06_Inverse)) k5 =>
        ((((decide (y4.1 < zz3)) = true) →
        ((zz0 ≤ (Int.tmod (wi (y4.1 + zz1)) zz3)) ∧
          (((Int.tmod (wi (y4.1 + zz1)) zz3) < zz3) ∧
          ((zz0 ≤ (Int.tmod (wi (y1.1 + zz1)) zz3)) ∧
          (((Int.tmod (wi (y1.1 + zz1)) zz3) < zz3) ∧
          ((zz0 ≤ (Int.tmod (wi (y4.1 + zz2)) zz3)) ∧
          (((Int.tmod (wi (y4.1 + zz2)) zz3) < zz3) ∧
          ((zz0 ≤ (Int.tmod (wi (y1.1 + zz2)) zz3)) ∧
          (((Int.tmod (wi (y1.1 + zz2)) zz3) < zz3) ∧
          ((zz0 ≤ (Int.tmod (wi (y4.1 + zz1)) zz3)) ∧
          (((Int.tmod (wi (y4.1 + zz1)) zz3) < zz3) ∧
          ((zz0 ≤ (Int.tmod (wi (y1.1 + zz2)) zz3)) ∧
          (((Int.tmod (wi (y1.1 + zz2)) zz3) < zz3) ∧
          ((zz0 ≤ (Int.tmod (wi (y4.1 + zz2)) zz3)) ∧
          (((Int.tmod (wi (y4.1 + zz2)) zz3) < zz3) ∧
          ((zz0 ≤ (Int.tmod (wi (y1.1 + zz1)) zz3)) ∧
          (((Int.tmod (wi (y1.1 + zz1)) zz3) < zz3) ∧
          ((zz0 ≤ y1.1) ∧
          ((y1.1 < zz3) ∧
          ((zz0 ≤ y4.1) ∧
          ((y4.1 < zz3) ∧
          (k5 ((wi (y4.1 + zz1)), ((cond ((decide (y4.1 = zz0)) && (decide (y1.1 = zz0))) (wi ((1000 : Int) * (wi ((wi ((List.getD ((List.getD (q2_ref06_Inverse p0) (Int.toNat (Int.tmod (wi (y4.1 + zz1)) zz3)) zz0) :: ((List.getD (q0_ref06_Inverse p0) (Int.toNat (Int.tmod (wi (y4.1 + zz1)) zz3)) zz0) :: ((List.getD (q1_ref06_Inverse p0) (Int.toNat (Int.tmod (wi (y4.1 + zz1)) zz3)) zz0) :: ([] : List Int)))) (Int.toNat (Int.tmod (wi (y1.1 + zz1)) zz3)) zz0) * (List.getD ((List.getD (q2_ref06_Inverse p0) (Int.toNat (Int.tmod (wi (y4.1 + zz2)) zz3)) zz0) :: ((List.getD (q0_ref06_Inverse p0) (Int.toNat (Int.tmod (wi (y4.1 + zz2)) zz3)) zz0) :: ((List.getD (q1_ref06_Inverse p0) (Int.toNat (Int.tmod (wi (y4.1 + zz2)) zz3)) zz0) :: ([] : List Int)))) (Int.toNat (Int.tmod (wi (y1.1 + zz2)) zz3)) zz0))) - (wi ((List.getD ((List.getD (q2_ref06_Inverse p0) (Int.toNat (Int.tmod (wi (y4.1 + zz1)) zz3)) zz0) :: ((List.getD (q0_ref06_Inverse p0) (Int.toNat (Int.tmod (wi (y4.1 + zz1)) zz3)) zz0) :: ((List.getD (q1_ref06_Inverse p0) (Int.toNat (Int.tmod (wi (y4.1 + zz1)) zz3)) zz0) :: ([] : List Int)))) (Int.toNat (Int.tmod (wi (y1.1 + zz2)) zz3)) zz0) * (List.getD ((List.getD (q2_ref06_Inverse p0) (Int.toNat (Int.tmod (wi (y4.1 + zz2)) zz3)) zz0) :: ((List.getD (q0_ref06_Inverse p0) (Int.toNat (Int.tmod (wi (y4.1 + zz2)) zz3)) zz0) :: ((List.getD (q1_ref06_Inverse p0) (Int.toNat (Int.tmod (wi (y4.1 + zz2)) zz3)) zz0) :: ([] : List Int)))) (Int.toNat (Int.tmod (wi (y1.1 + zz1)) zz3)) zz0))))))) y4.2.1), ((cond ((decide (y4.1 = zz1)) && (decide (y1.1 = zz0))) (wi ((1000 : Int) * (wi ((wi ((List.getD ((List.getD (q2_ref06_Inverse p0) (Int.toNat (Int.tmod (wi (y4.1 + zz1)) zz3)) zz0) :: ((List.getD (q0_ref06_Inverse p0) (Int.toNat (Int.tmod (wi (y4.1 + zz1)) zz3)) zz0) :: ((List.getD (q1_ref06_Inverse p0) (Int.toNat (Int.tmod (wi (y4.1 + zz1)) zz3)) zz0) :: ([] : List Int)))) (Int.toNat (Int.tmod (wi (y1.1 + zz1)) zz3)) zz0) * (List.getD ((List.getD (q2_ref06_Inverse p0) (Int.toNat (Int.tmod (wi (y4.1 + zz2)) zz3)) zz0) :: ((List.getD (q0_ref06_Inverse p0) (Int.toNat (Int.tmod (wi (y4.1 + zz2)) zz3)) zz0) :: ((List.getD (q1_ref06_Inverse p0) (Int.toNat (Int.tmod (wi (y4.1 + zz2)) zz3)) zz0) :: ([] : List Int)))) (Int.toNat (Int.tmod (wi (y1.1 + zz2)) zz3)) zz0))) - (wi ((List.getD ((List.getD (q2_ref06_Inverse p0) (Int.toNat (Int.tmod (wi (y4.1 + zz1)) zz3)) zz0) :: ((List.getD (q0_ref06_Inverse p0) (Int.toNat (Int.tmod (wi (y4.1 + zz1)) zz3)) zz0) :: ((List.getD (q1_ref06_Inverse p0) (Int.toNat (Int.tmod (wi (y4.1 + zz1)) zz3)) zz0) :: ([] : List Int)))) (Int.toNat (Int.tmod (wi (y1.1 + zz2)) zz3)) zz0) * (List.getD ((List.getD (q2_ref06_Inverse p0) (Int.toNat (Int.tmod (wi (y4.1 + zz2)) zz3)) zz0) :: ((List.getD (q0_ref06_Inverse p0) (Int.toNat (Int.tmod (wi (y4.1 + zz2)) zz3)) zz0) :: ((List.getD (q1_ref06_Inverse p0) (Int.toNat (Int.tmod (wi (y4.1 + zz2)) zz3)) zz0) :: ([] : List Int)))) (Int.toNat (Int.tmod (wi (y1.1 + zz1)) zz3)) zz0))))))) y4.2.2.1), ((cond ((decide (y4.1 = zz2)) && (decide (y1.1 = zz0))) (wi ((1000 : Int) * (wi ((wi ((List.getD ((List.getD (q2_ref06_Inverse p0) (Int.toNat (Int.tmod (wi (y4.1 + zz1)) zz3)) zz0) :: ((List.getD (q0_ref06_Inverse p0) (Int.toNat (Int.tmod (wi (y4.1 + zz1)) zz3)) zz0) :: ((List.getD (q1_ref06_Inverse p0) (Int.toNat (Int.tmod (wi (y4.1 + zz1)) zz3)) zz0) :: ([] : List Int)))) (Int.toNat (Int.tmod (wi (y1.1 + zz1)) zz3)) zz0) * (List.getD ((List.getD (q2_ref06_Inverse p0) (Int.toNat (Int.tmod (wi (y4.1 + zz2)) zz3)) zz0) :: ((List.getD (q0_ref06_Inverse p0) (Int.toNat (Int.tmod (wi (y4.1 + zz2)) zz3)) zz0) :: ((List.getD (q1_ref06_Inverse p0) (Int.toNat (Int.tmod (wi (y4.1 + zz2)) zz3)) zz0) :: ([] : List Int)))) (Int.toNat (Int.tmod (wi (y1.1 + zz2)) zz3)) zz0))) - (wi ((List.getD ((List.getD (q2_ref06_Inverse p0) (Int.toNat (Int.tmod (wi (y4.1 + zz1)) zz3)) zz0) :: ((List.getD (q0_ref06_Inverse p0) (Int.toNat (Int.tmod (wi (y4.1 + zz1)) zz3)) zz0) :: ((List.getD (q1_ref06_Inverse p0) (Int.toNat (Int.tmod (wi (y4.1 + zz1)) zz3)) zz0) :: ([] : List Int)))) (Int.toNat (Int.tmod (wi (y1.1 + zz2)) zz3)) zz0) * (List.getD ((List.getD (q2_ref06_Inverse p0) (Int.toNat (Int.tmod (wi (y4.1 + zz2)) zz3)) zz0) :: ((List.getD (q0_ref06_Inverse p0) (Int.toNat (Int.tmod (wi (y4.1 + zz2)) zz3)) zz0) :: ((List.getD (q1_ref06_Inverse p0) (Int.toNat (Int.tmod (wi (y4.1 + zz2)) zz3)) zz0) :: ([] : List Int)))) (Int.toNat (Int.tmod (wi (y1.1 + zz1)) zz3)) zz0))))))) y4.2.2.2.1), ((cond ((decide (y4.1 = zz0)) && (decide (y1.1 = zz1))) (wi ((1000 : Int) * (wi ((wi ((List.getD ((List.getD (q2_ref06_Inverse p0) (Int.toNat (Int.tmod (wi (y4.1 + zz1)) zz3)) zz0) :: ((List.getD (q0_ref06_Inverse p0) (Int.toNat (Int.tmod (wi (y4.1 + zz1)) zz3)) zz0) :: ((List.getD (q1_ref06_Inverse p0) (Int.toNat (Int.tmod (wi (y4.1 + zz1)) zz3)) zz0) :: ([] : List Int)))) (Int.toNat (Int.tmod (wi (y1.1 + zz1)) zz3)) zz0) * (List.getD ((List.getD (q2_ref06_Inverse p0) (Int.toNat (Int.tmod (wi (y4.1 + zz2)) zz3)) zz0) :: ((List.getD (q0_ref06_Inverse p0) (Int.toNat (Int.tmod (wi (y4.1 + zz2)) zz3)) zz0) :: ((List.getD (q1_ref06_Inverse p0) (Int.toNat (Int.tmod (wi (y4.1 + zz2)) zz3)) zz0) :: ([] : List Int)))) (Int.toNat (Int.tmod (wi (y1.1 + zz2)) zz3)) zz0))) - (wi ((List.getD ((List.getD (q2_ref06_Inverse p0) (Int.toNat (Int.tmod (wi (y4.1 + zz1)) zz3)) zz0) :: ((List.getD (q0_ref06_Inverse p0) (Int.toNat (Int.tmod (wi (y4.1 + zz1)) zz3)) zz0) :: ((List.getD (q1_ref06_Inverse p0) (Int.toNat (Int.tmod (wi (y4.1 + zz1)) zz3)) zz0) :: ([] : List Int)))) (Int.toNat (Int.tmod (wi (y1.1 + zz2)) zz3)) zz0) * (List.getD ((List.getD (q2_ref06_Inverse p0) (Int.toNat (Int.tmod (wi (y4.1 + zz2)) zz3)) zz0) :: ((List.getD (q0_ref06_Inverse p0) (Int.toNat (Int.tmod (wi (y4.1 + zz2)) zz3)) zz0) :: ((List.getD (q1_ref06_Inverse p0) (Int.toNat (Int.tmod (wi (y4.1 + zz2)) zz3)) zz0) :: ([] : List Int)))) (Int.toNat (Int.tmod (wi (y1.1 + zz1)) zz3)) zz0))))))) y4.2.2.2.2.1), ((cond ((decide (y4.1 = zz1)) && (decide (y1.1 = zz1))) (wi ((1000 : Int) * (wi ((wi ((List.getD ((List.getD (q2_ref06_Inverse p0) (Int.toNat (Int.tmod (wi (y4.1 + zz1)) zz3)) zz0) :: ((List.getD (q0_ref06_Inverse p0) (Int.toNat (Int.tmod (wi (y4.1 + zz1)) zz3)) zz0) :: ((List.getD (q1_ref06_Inverse p0) (Int.toNat (Int.tmod (wi (y4.1 + zz1)) zz3)) zz0) :: ([] : List Int)))) (Int.toNat (Int.tmod (wi (y1.1 + zz1)) zz3)) zz0) * (List.getD ((List.getD (q2_ref06_Inverse p0) (Int.toNat (Int.tmod (wi (y4.1 + zz2)) zz3)) zz0) :: ((List.getD (q0_ref06_Inverse p0) (Int.toNat (Int.tmod (wi (y4.1 + zz2)) zz3)) zz0) :: ((List.getD (q1_ref06_Inverse p0) (Int.toNat (Int.tmod (wi (y4.1 + zz2)) zz3)) zz0) :: ([] : List Int)))) (Int.toNat (Int.tmod (wi (y1.1 + zz2)) zz3)) zz0))) - (wi ((List.getD ((List.getD (q2_ref06_Inverse p0) (Int.toNat (Int.tmod (wi (y4.1 + zz1)) zz3)) zz0) :: ((List.getD (q0_ref06_Inverse p0) (Int.toNat (Int.tmod (wi (y4.1 + zz1)) zz3)) zz0) :: ((List.getD (q1_ref06_Inverse p0) (Int.toNat (Int.tmod (wi (y4.1 + zz1)) zz3)) zz0) :: ([] : List Int)))) (Int.toNat (Int.tmod (wi (y1.1 + zz2)) zz3)) zz0) * (List.getD ((List.getD (q2_ref06_Inverse p0) (Int.toNat (Int.tmod (wi (y4.1 + zz2)) zz3)) zz0) :: ((List.getD (q0_ref06_Inverse p0) (Int.toNat (Int.tmod (wi (y4.1 + zz2)) zz3)) zz0) :: ((List.getD (q1_ref06_Inverse p0) (Int.toNat (Int.tmod (wi (y4.1 + zz2)) zz3)) zz0) :: ([] : List Int)))) (Int.toNat (Int.tmod (wi (y1.1 + zz1)) zz3)) zz0))))))) y4.2.2.2.2.2.1), ((cond ((decide (y4.1 = zz2)) && (decide (y1.1 = zz1))) (wi ((1000 : Int) * (wi ((wi ((List.getD ((List.getD (q2_ref06_Inverse p0) (Int.toNat (Int.tmod (wi (y4.1 + zz1)) zz3)) zz0) :: ((List.getD (q0_ref06_Inverse p0) (Int.toNat (Int.tmod (wi (y4.1 + zz1)) zz3)) zz0) :: ((List.getD (q1_ref06_Inverse p0) (Int.toNat (Int.tmod (wi (y4.1 + zz1)) zz3)) zz0) :: ([] : List Int)))) (Int.toNat (Int.tmod (wi (y1.1 + zz1)) zz3)) zz0) * (List.getD ((List.getD (q2_ref06_Inverse p0) (Int.toNat (Int.tmod (wi (y4.1 + zz2)) zz3)) zz0) :: ((List.getD (q0_ref06_Inverse p0) (Int.toNat (Int.tmod (wi (y4.1 + zz2)) zz3)) zz0) :: ((List.getD (q1_ref06_Inverse p0) (Int.toNat (Int.tmod (wi (y4.1 + zz2)) zz3)) zz0) :: ([] : List Int)))) (Int.toNat (Int.tmod (wi (y1.1 + zz2)) zz3)) zz0))) - (wi ((List.getD ((List.getD (q2_ref06_Inverse p0) (Int.toNat (Int.tmod (wi (y4.1 + zz1)) zz3)) zz0) :: ((List.getD (q0_ref06_Inverse p0) (Int.toNat (Int.tmod (wi (y4.1 + zz1)) zz3)) zz0) :: ((List.getD (q1_ref06_Inverse p0) (Int.toNat (Int.tmod (wi (y4.1 + zz1)) zz3)) zz0) :: ([] : List Int)))) (Int.toNat (Int.tmod (wi (y1.1 + zz2)) zz3)) zz0) * (List.getD ((List.getD (q2_ref06_Inverse p0) (Int.toNat (Int.tmod (wi (y4.1 + zz2)) zz3)) zz0) :: ((List.getD (q0_ref06_Inverse p0) (Int.toNat (Int.tmod (wi (y4.1 + zz2)) zz3)) zz0) :: ((List.getD (q1_ref06_Inverse p0) (Int.toNat (Int.tmod (wi (y4.1 + zz2)) zz3)) zz0) :: ([] : List Int)))) (Int.toNat (Int.tmod (wi (y1.1 + zz1)) zz3)) zz0))))))) y4.2.2.2.2.2.2.1), ((cond ((decide (y4.1 = zz0)) && (decide (y1.1 = zz2))) (wi ((1000 : Int) * (wi ((wi ((List.getD ((List.getD (q2_ref06_Inverse p0) (Int.toNat (Int.tmod (wi (y4.1 + zz1)) zz3)) zz0) :: ((List.getD (q0_ref06_Inverse p0) (Int.toNat (Int.tmod (wi (y4.1 + zz1)) zz3)) zz0) :: ((List.getD (q1_ref06_Inverse p0) (Int.toNat (Int.tmod (wi (y4.1 + zz1)) zz3)) zz0) :: ([] : List Int)))) (Int.toNat (Int.tmod (wi (y1.1 + zz1)) zz3)) zz0) * (List.getD ((List.getD (q2_ref06_Inverse p0) (Int.toNat (Int.tmod (wi (y4.1 + zz2)) zz3)) zz0) :: ((List.getD (q0_ref06_Inverse p0) (Int.toNat (Int.tmod (wi (y4.1 + zz2)) zz3)) zz0) :: ((List.getD (q1_ref06_Inverse p0) (Int.toNat (Int.tmod (wi (y4.1 + zz2)) zz3)) zz0) :: ([] : List Int)))) (Int.toNat (Int.tmod (wi (y1.1 + zz2)) zz3)) zz0))) - (wi ((List.getD ((List.getD (q2_ref06_Inverse p0) (Int.toNat (Int.tmod (wi (y4.1 + zz1)) zz3)) zz0) :: ((List.getD (q0_ref06_Inverse p0) (Int.toNat (Int.tmod (wi (y4.1 + zz1)) zz3)) zz0) :: ((List.getD (q1_ref06_Inverse p0) (Int.toNat (Int.tmod (wi (y4.1 + zz1)) zz3)) zz0) :: ([] : List Int)))) (Int.toNat (Int.tmod (wi (y1.1 + zz2)) zz3)) zz0) * (List.getD ((List.getD (q2_ref06_Inverse p0) (Int.toNat (Int.tmod (wi (y4.1 + zz2)) zz3)) zz0) :: ((List.getD (q0_ref06_Inverse p0) (Int.toNat (Int.tmod (wi (y4.1 + zz2)) zz3)) zz0) :: ((List.getD (q1_ref06_Inverse p0) (Int.toNat (Int.tmod (wi (y4.1 + zz2)) zz3)) zz0) :: ([] : List Int)))) (Int.toNat (Int.tmod (wi (y1.1 + zz1)) zz3)) zz0))))))) y4.2.2.2.2.2.2.2.1), ((cond ((decide (y4.1 = zz1)) && (decide (y1.1 = zz2))) (wi ((1000 : Int) * (wi ((wi ((List.getD ((List.getD (q2_ref06_Inverse p0) (Int.toNat (Int.tmod (wi (y4.1 + zz1)) zz3)) zz0) :: ((List.getD (q0_ref06_Inverse p0) (Int.toNat (Int.tmod (wi (y4.1 + zz1)) zz3)) zz0) :: ((List.getD (q1_ref06_Inverse p0) (Int.toNat (Int.tmod (wi (y4.1 + zz1)) zz3)) zz0) :: ([] : List Int)))) (Int.toNat (Int.tmod (wi (y1.1 + zz1)) zz3)) zz0) * (List.getD ((List.getD (q2_ref06_Inverse p0) (Int.toNat (Int.tmod (wi (y4.1 + zz2)) zz3)) zz0) :: ((List.getD (q0_ref06_Inverse p0) (Int.toNat (Int.tmod (wi (y4.1 + zz2)) zz3)) zz0) :: ((List.getD (q1_ref06_Inverse p0) (Int.toNat (Int.tmod (wi (y4.1 + zz2)) zz3)) zz0) :: ([] : List Int)))) (Int.toNat (Int.tmod (wi (y1.1 + zz2)) zz3)) zz0))) - (wi ((List.getD ((List.getD (q2_ref06_Inverse p0) (Int.toNat (Int.tmod (wi (y4.1 + zz1)) zz3)) zz0) :: ((List.getD (q0_ref06_Inverse p0) (Int.toNat (Int.tmod (wi (y4.1 + zz1)) zz3)) zz0) :: ((List.getD (q1_ref06_Inverse p0) (Int.toNat (Int.tmod (wi (y4.1 + zz1)) zz3)) zz0) :: ([] : List Int)))) (Int.toNat (Int.tmod (wi (y1.1 + zz2)) zz3)) zz0) * (List.getD ((List.getD (q2_ref06_Inverse p0) (Int.toNat (Int.tmod (wi (y4.1 + zz2)) zz3)) zz0) :: ((List.getD (q0_ref06_Inverse p0) (Int.toNat (Int.tmod (wi (y4.1 + zz2)) zz3)) zz0) :: ((List.getD (q1_ref06_Inverse p0) (Int.toNat (Int.tmod (wi (y4.1 + zz2)) zz3)) zz0) :: ([] : List Int)))) (Int.toNat (Int.tmod (wi (y1.1 + zz1)) zz3)) zz0))))))) y4.2.2.2.2.2.2.2.2.1), ((cond ((decide (y4.1 = zz2)) && (decide (y1.1 = zz2))) (wi ((1000 : Int) * (wi ((wi ((List.getD ((List.getD (q2_ref06_Inverse p0) (Int.toNat (Int.tmod (wi (y4.1 + zz1)) zz3)) zz0) :: ((List.getD (q0_ref06_Inverse p0) (Int.toNat (Int.tmod (wi (y4.1 + zz1)) zz3)) zz0) :: ((List.getD (q1_ref06_Inverse p0) (Int.toNat (Int.tmod (wi (y4.1 + zz1)) zz3)) zz0) :: ([] : List Int)))) (Int.toNat (Int.tmod (wi (y1.1 + zz1)) zz3)) zz0) * (List.getD ((List.getD (q2_ref06_Inverse p0) (Int.toNat (Int.tmod (wi (y4.1 + zz2)) zz3)) zz0) :: ((List.getD (q0_ref06_Inverse p0) (Int.toNat (Int.tmod (wi (y4.1 + zz2)) zz3)) zz0) :: ((List.getD (q1_ref06_Inverse p0) (Int.toNat (Int.tmod (wi (y4.1 + zz2)) zz3)) zz0) :: ([] : List Int)))) (Int.toNat (Int.tmod (wi (y1.1 + zz2)) zz3)) zz0))) - (wi ((List.getD ((List.getD (q2_ref06_Inverse p0) (Int.toNat (Int.tmod (wi (y4.1 + zz1)) zz3)) zz0) :: ((List.getD (q0_ref06_Inverse p0) (Int.toNat (Int.tmod (wi (y4.1 + zz1)) zz3)) zz0) :: ((List.getD (q1_ref06_Inverse p0) (Int.toNat (Int.tmod (wi (y4.1 + zz1)) zz3)) zz0) :: ([] : List Int)))) (Int.toNat (Int.tmod (wi (y1.1 + zz2)) zz3)) zz0) * (List.getD ((List.getD (q2_ref06_Inverse p0) (Int.toNat (Int.tmod (wi (y4.1 + zz2)) zz3)) zz0) :: ((List.getD (q0_ref06_Inverse p0) (Int.toNat (Int.tmod (wi (y4.1 + zz2)) zz3)) zz0) :: ((List.getD (q1_ref06_Inverse p0) (Int.toNat (Int.tmod (wi (y4.1 + zz2)) zz3)) zz0) :: ([] : List Int)))) (Int.toNat (Int.tmod (wi (y1.1 + zz1)) zz3)) zz0))))))) y4.2.2.2.2.2.2.2.2.2.1), y4.2.2.2.2.2.2.2.2.2.2)))))))))))))))))))))))))))))))) ∧
        (((decide (y4.1 < zz3)) = false) →
        (k2 ((wi (y1.1 + zz1)), y4.2))))) n3 (zz0, y1.2)))) ∧
    (((decide (y1.1 < zz3)) = false) →
    (∃ n6, (loopP (fun (y7 : (q3_ref06_Inverse)) k8 =>
        ((((decide (y7.1 < zz3)) = true) →
        ((zz0 ≤ y7.1) ∧
          ((y7.1 < zz3) ∧
          ((zz0 ≤ y7.1) ∧
          ((y7.1 < zz3) ∧
          (k8 ((wi (y7.1 + zz1)), (y7.2.1, (y7.2.2.1, (y7.2.2.2.1, (y7.2.2.2.2.1, (y7.2.2.2.2.2.1, (y7.2.2.2.2.2.2.1, (y7.2.2.2.2.2.2.2.1, (y7.2.2.2.2.2.2.2.2.1, (y7.2.2.2.2.2.2.2.2.2.1, (wi (y7.2.2.2.2.2.2.2.2.2.2 + (wi (Int.tdiv (wi ((List.getD (p0.mt.1.1 :: (p0.mt.1.2.1 :: (p0.mt.1.2.2 :: ([] : List Int)))) (Int.toNat y7.1) zz0) * (List.getD (y7.2.1 :: (y7.2.2.2.2.1 :: (y7.2.2.2.2.2.2.2.1 :: ([] : List Int)))) (Int.toNat y7.1) zz0))) (1000 : Int))))))))))))))))))))) ∧
        (((decide (y7.1 < zz3)) = false) →
        ((v_ci (((y7.2.1, (y7.2.2.1, y7.2.2.2.1)), ((y7.2.2.2.2.1, (y7.2.2.2.2.2.1, y7.2.2.2.2.2.2.1)), (y7.2.2.2.2.2.2.2.1, (y7.2.2.2.2.2.2.2.2.1, y7.2.2.2.2.2.2.2.2.2.1)))), y7.2.2.2.2.2.2.2.2.2.2)) ∧
          (∃ n9, (loopP (fun (y10 : (q3_ref06_Inverse)) k11 =>
            ((((decide (y10.1 < zz3)) = true) →
            (∃ n12, (loopP (fun (y13 : (q3_ref06_Inverse)) k14 =>
                ((((decide (y13.1 < zz3)) = true) →
                ((zz0 ≤ y10.1) ∧
                  ((y10.1 < zz3) ∧
                  ((zz0 ≤ y13.1) ∧
                  ((y13.1 < zz3) ∧
                  (((v_div (((y7.2.1, (y7.2.2.1, y7.2.2.2.1)), ((y7.2.2.2.2.1, (y7.2.2.2.2.2.1, y7.2.2.2.2.2.2.1)), (y7.2.2.2.2.2.2.2.1, (y7.2.2.2.2.2.2.2.2.1, y7.2.2.2.2.2.2.2.2.2.1)))), y7.2.2.2.2.2.2.2.2.2.2)) ≠ zz0) ∧
                  ((zz0 ≤ y10.1) ∧
                  ((y10.1 < zz3) ∧
                  ((zz0 ≤ y13.1) ∧
                  ((y13.1 < zz3) ∧
                  (k14 ((wi (y13.1 + zz1)), ((cond ((decide (y13.1 = zz0)) && (decide (y10.1 = zz0))) (wi (Int.tdiv (List.getD ((List.getD (y13.2.1 :: (y13.2.2.2.2.1 :: (y13.2.2.2.2.2.2.2.1 :: ([] : List Int)))) (Int.toNat y10.1) zz0) :: ((List.getD (y13.2.2.1 :: (y13.2.2.2.2.2.1 :: (y13.2.2.2.2.2.2.2.2.1 :: ([] : List Int)))) (Int.toNat y10.1) zz0) :: ((List.getD (y13.2.2.2.1 :: (y13.2.2.2.2.2.2.1 :: (y13.2.2.2.2.2.2.2.2.2.1 :: ([] : List Int)))) (Int.toNat y10.1) zz0) :: ([] : List Int)))) (Int.toNat y13.1) zz0) (v_div (((y7.2.1, (y7.2.2.1, y7.2.2.2.1)), ((y7.2.2.2.2.1, (y7.2.2.2.2.2.1, y7.2.2.2.2.2.2.1)), (y7.2.2.2.2.2.2.2.1, (y7.2.2.2.2.2.2.2.2.1, y7.2.2.2.2.2.2.2.2.2.1)))), y7.2.2.2.2.2.2.2.2.2.2)))) y13.2.1), ((cond ((decide (y13.1 = zz1)) && (decide (y10.1 = zz0))) (wi (Int.tdiv (List.getD ((List.getD (y13.2.1 :: (y13.2.2.2.2.1 :: (y13.2.2.2.2.2.2.2.1 :: ([] : List Int)))) (Int.toNat y10.1) zz0) :: ((List.getD (y13.2.2.1 :: (y13.2.2.2.2.2.1 :: (y13.2.2.2.2.2.2.2.2.1 :: ([] : List Int)))) (Int.toNat y10.1) zz0) :: ((List.getD (y13.2.2.2.1 :: (y13.2.2.2.2.2.2.1 :: (y13.2.2.2.2.2.2.2.2.2.1 :: ([] : List Int)))) (Int.toNat y10.1) zz0) :: ([] : List Int)))) (Int.toNat y13.1) zz0) (v_div (((y7.2.1, (y7.2.2.1, y7.2.2.2.1)), ((y7.2.2.2.2.1, (y7.2.2.2.2.2.1, y7.2.2.2.2.2.2.1)), (y7.2.2.2.2.2.2.2.1, (y7.2.2.2.2.2.2.2.2.1, y7.2.2.2.2.2.2.2.2.2.1)))), y7.2.2.2.2.2.2.2.2.2.2)))) y13.2.2.1), ((cond ((decide (y13.1 = zz2)) && (decide (y10.1 = zz0))) (wi (Int.tdiv (List.getD ((List.getD (y13.2.1 :: (y13.2.2.2.2.1 :: (y13.2.2.2.2.2.2.2.1 :: ([] : List Int)))) (Int.toNat y10.1) zz0) :: ((List.getD (y13.2.2.1 :: (y13.2.2.2.2.2.1 :: (y13.2.2.2.2.2.2.2.2.1 :: ([] : List Int)))) (Int.toNat y10.1) zz0) :: ((List.getD (y13.2.2.2.1 :: (y13.2.2.2.2.2.2.1 :: (y13.2.2.2.2.2.2.2.2.2.1 :: ([] : List Int)))) (Int.toNat y10.1) zz0) :: ([] : List Int)))) (Int.toNat y13.1) zz0) (v_div (((y7.2.1, (y7.2.2.1, y7.2.2.2.1)), ((y7.2.2.2.2.1, (y7.2.2.2.2.2.1, y7.2.2.2.2.2.2.1)), (y7.2.2.2.2.2.2.2.1, (y7.2.2.2.2.2.2.2.2.1, y7.2.2.2.2.2.2.2.2.2.1)))), y7.2.2.2.2.2.2.2.2.2.2)))) y13.2.2.2.1), ((cond ((decide (y13.1 = zz0)) && (decide (y10.1 = zz1))) (wi (Int.tdiv (List.getD ((List.getD (y13.2.1 :: (y13.2.2.2.2.1 :: (y13.2.2.2.2.2.2.2.1 :: ([] : List Int)))) (Int.toNat y10.1) zz0) :: ((List.getD (y13.2.2.1 :: (y13.2.2.2.2.2.1 :: (y13.2.2.2.2.2.2.2.2.1 :: ([] : List Int)))) (Int.toNat y10.1) zz0) :: ((List.getD (y13.2.2.2.1 :: (y13.2.2.2.2.2.2.1 :: (y13.2.2.2.2.2.2.2.2.2.1 :: ([] : List Int)))) (Int.toNat y10.1) zz0) :: ([] : List Int)))) (Int.toNat y13.1) zz0) (v_div (((y7.2.1, (y7.2.2.1, y7.2.2.2.1)), ((y7.2.2.2.2.1, (y7.2.2.2.2.2.1, y7.2.2.2.2.2.2.1)), (y7.2.2.2.2.2.2.2.1, (y7.2.2.2.2.2.2.2.2.1, y7.2.2.2.2.2.2.2.2.2.1)))), y7.2.2.2.2.2.2.2.2.2.2)))) y13.2.2.2.2.1), ((cond ((decide (y13.1 = zz1)) && (decide (y10.1 = zz1))) (wi (Int.tdiv (List.getD ((List.getD (y13.2.1 :: (y13.2.2.2.2.1 :: (y13.2.2.2.2.2.2.2.1 :: ([] : List Int)))) (Int.toNat y10.1) zz0) :: ((List.getD (y13.2.2.1 :: (y13.2.2.2.2.2.1 :: (y13.2.2.2.2.2.2.2.2.1 :: ([] : List Int)))) (Int.toNat y10.1) zz0) :: ((List.getD (y13.2.2.2.1 :: (y13.2.2.2.2.2.2.1 :: (y13.2.2.2.2.2.2.2.2.2.1 :: ([] : List Int)))) (Int.toNat y10.1) zz0) :: ([] : List Int)))) (Int.toNat y13.1) zz0) (v_div (((y7.2.1, (y7.2.2.1, y7.2.2.2.1)), ((y7.2.2.2.2.1, (y7.2.2.2.2.2.1, y7.2.2.2.2.2.2.1)), (y7.2.2.2.2.2.2.2.1, (y7.2.2.2.2.2.2.2.2.1, y7.2.2.2.2.2.2.2.2.2.1)))), y7.2.2.2.2.2.2.2.2.2.2)))) y13.2.2.2.2.2.1), ((cond ((decide (y13.1 = zz2)) && (decide (y10.1 = zz1))) (wi (Int.tdiv (List.getD ((List.getD (y13.2.1 :: (y13.2.2.2.2.1 :: (y13.2.2.2.2.2.2.2.1 :: ([] : List Int)))) (Int.toNat y10.1) zz0) :: ((List.getD (y13.2.2.1 :: (y13.2.2.2.2.2.1 :: (y13.2.2.2.2.2.2.2.2.1 :: ([] : List Int)))) (Int.toNat y10.1) zz0) :: ((List.getD (y13.2.2.2.1 :: (y13.2.2.2.2.2.2.1 :: (y13.2.2.2.2.2.2.2.2.2.1 :: ([] : List Int)))) (Int.toNat y10.1) zz0) :: ([] : List Int)))) (Int.toNat y13.1) zz0) (v_div (((y7.2.1, (y7.2.2.1, y7.2.2.2.1)), ((y7.2.2.2.2.1, (y7.2.2.2.2.2.1, y7.2.2.2.2.2.2.1)), (y7.2.2.2.2.2.2.2.1, (y7.2.2.2.2.2.2.2.2.1, y7.2.2.2.2.2.2.2.2.2.1)))), y7.2.2.2.2.2.2.2.2.2.2)))) y13.2.2.2.2.2.2.1), ((cond ((decide (y13.1 = zz0)) && (decide (y10.1 = zz2))) (wi (Int.tdiv (List.getD ((List.getD (y13.2.1 :: (y13.2.2.2.2.1 :: (y13.2.2.2.2.2.2.2.1 :: ([] : List Int)))) (Int.toNat y10.1) zz0) :: ((List.getD (y13.2.2.1 :: (y13.2.2.2.2.2.1 :: (y13.2.2.2.2.2.2.2.2.1 :: ([] : List Int)))) (Int.toNat y10.1) zz0) :: ((List.getD (y13.2.2.2.1 :: (y13.2.2.2.2.2.2.1 :: (y13.2.2.2.2.2.2.2.2.2.1 :: ([] : List Int)))) (Int.toNat y10.1) zz0) :: ([] : List Int)))) (Int.toNat y13.1) zz0) (v_div (((y7.2.1, (y7.2.2.1, y7.2.2.2.1)), ((y7.2.2.2.2.1, (y7.2.2.2.2.2.1, y7.2.2.2.2.2.2.1)), (y7.2.2.2.2.2.2.2.1, (y7.2.2.2.2.2.2.2.2.1, y7.2.2.2.2.2.2.2.2.2.1)))), y7.2.2.2.2.2.2.2.2.2.2)))) y13.2.2.2.2.2.2.2.1), ((cond ((decide (y13.1 = zz1)) && (decide (y10.1 = zz2))) (wi (Int.tdiv (List.getD ((List.getD (y13.2.1 :: (y13.2.2.2.2.1 :: (y13.2.2.2.2.2.2.2.1 :: ([] : List Int)))) (Int.toNat y10.1) zz0) :: ((List.getD (y13.2.2.1 :: (y13.2.2.2.2.2.1 :: (y13.2.2.2.2.2.2.2.2.1 :: ([] : List Int)))) (Int.toNat y10.1) zz0) :: ((List.getD (y13.2.2.2.1 :: (y13.2.2.2.2.2.2.1 :: (y13.2.2.2.2.2.2.2.2.2.1 :: ([] : List Int)))) (Int.toNat y10.1) zz0) :: ([] : List Int)))) (Int.toNat y13.1) zz0) (v_div (((y7.2.1, (y7.2.2.1, y7.2.2.2.1)), ((y7.2.2.2.2.1, (y7.2.2.2.2.2.1, y7.2.2.2.2.2.2.1)), (y7.2.2.2.2.2.2.2.1, (y7.2.2.2.2.2.2.2.2.1, y7.2.2.2.2.2.2.2.2.2.1)))), y7.2.2.2.2.2.2.2.2.2.2)))) y13.2.2.2.2.2.2.2.2.1), ((cond ((decide (y13.1 = zz2)) && (decide (y10.1 = zz2))) (wi (Int.tdiv (List.getD ((List.getD (y13.2.1 :: (y13.2.2.2.2.1 :: (y13.2.2.2.2.2.2.2.1 :: ([] : List Int)))) (Int.toNat y10.1) zz0) :: ((List.getD (y13.2.2.1 :: (y13.2.2.2.2.2.1 :: (y13.2.2.2.2.2.2.2.2.1 :: ([] : List Int)))) (Int.toNat y10.1) zz0) :: ((List.getD (y13.2.2.2.1 :: (y13.2.2.2.2.2.2.1 :: (y13.2.2.2.2.2.2.2.2.2.1 :: ([] : List Int)))) (Int.toNat y10.1) zz0) :: ([] : List Int)))) (Int.toNat y13.1) zz0) (v_div (((y7.2.1, (y7.2.2.1, y7.2.2.2.1)), ((y7.2.2.2.2.1, (y7.2.2.2.2.2.1, y7.2.2.2.2.2.2.1)), (y7.2.2.2.2.2.2.2.1, (y7.2.2.2.2.2.2.2.2.1, y7.2.2.2.2.2.2.2.2.2.1)))), y7.2.2.2.2.2.2.2.2.2.2)))) y13.2.2.2.2.2.2.2.2.2.1), y13.2.2.2.2.2.2.2.2.2.2))))))))))))))))))))) ∧
                (((decide (y13.1 < zz3)) = false) →
                (k11 ((wi (y10.1 + zz1)), y13.2))))) n12 (zz0, y10.2)))) ∧
            (((decide (y10.1 < zz3)) = false) →
            (((v_div (((y7.2.1, (y7.2.2.1, y7.2.2.2.1)), ((y7.2.2.2.2.1, (y7.2.2.2.2.2.1, y7.2.2.2.2.2.2.1)), (y7.2.2.2.2.2.2.2.1, (y7.2.2.2.2.2.2.2.2.1, y7.2.2.2.2.2.2.2.2.2.1)))), y7.2.2.2.2.2.2.2.2.2.2)) ≠ zz0) ∧
              (K (((y10.2.1, (y10.2.2.1, y10.2.2.2.1)), ((y10.2.2.2.2.1, (y10.2.2.2.2.2.1, y10.2.2.2.2.2.2.1)), (y10.2.2.2.2.2.2.2.1, (y10.2.2.2.2.2.2.2.2.1, y10.2.2.2.2.2.2.2.2.2.1)))), (wi (Int.tdiv y10.2.2.2.2.2.2.2.2.2.2 (v_div (((y7.2.1, (y7.2.2.1, y7.2.2.2.1)), ((y7.2.2.2.2.1, (y7.2.2.2.2.2.1, y7.2.2.2.2.2.2.1)), (y7.2.2.2.2.2.2.2.1, (y7.2.2.2.2.2.2.2.2.1, y7.2.2.2.2.2.2.2.2.2.1)))), y7.2.2.2.2.2.2.2.2.2.2)))))))))) n9 (zz0, y7.2))))))) n6 (zz0, y1.2)))))) n0 (zz0, (zz0, (zz0, (zz0, (zz0, (zz0, (zz0, (zz0, (zz0, (zz0, zz0))))))))))))
set_option maxHeartbeats 4000000 in
theorem w_ref06_Inverse_eq (p0 : CR) (K : CI → Prop) : tfn F_ref06_Inverse A_ref06_Inverse C_ref06_Inverse P_ref06_Inverse R_ref06_Inverse p0 K = w_ref06_Inverse p0 K := by kernel_rfl
def s_ref06_Inverse (p0 : CR) : CI :=
  ((((IntKind.i64.wrap (Int.tdiv (IntKind.i64.wrap ((1000 : Int) * (IntKind.i64.wrap ((IntKind.i64.wrap (p0.mt.2.1.2.1 * p0.mt.2.2.2.2)) - (IntKind.i64.wrap (p0.mt.2.1.2.2 * p0.mt.2.2.2.1)))))) (v_div ((((IntKind.i64.wrap ((1000 : Int) * (IntKind.i64.wrap ((IntKind.i64.wrap (p0.mt.2.1.2.1 * p0.mt.2.2.2.2)) - (IntKind.i64.wrap (p0.mt.2.1.2.2 * p0.mt.2.2.2.1)))))), ((IntKind.i64.wrap ((1000 : Int) * (IntKind.i64.wrap ((IntKind.i64.wrap (p0.mt.2.2.2.1 * p0.mt.1.2.2)) - (IntKind.i64.wrap (p0.mt.2.2.2.2 * p0.mt.1.2.1)))))), (IntKind.i64.wrap ((1000 : Int) * (IntKind.i64.wrap ((IntKind.i64.wrap (p0.mt.1.2.1 * p0.mt.2.1.2.2)) - (IntKind.i64.wrap (p0.mt.1.2.2 * p0.mt.2.1.2.1)))))))), (((IntKind.i64.wrap ((1000 : Int) * (IntKind.i64.wrap ((IntKind.i64.wrap (p0.mt.2.1.2.2 * p0.mt.2.2.1)) - (IntKind.i64.wrap (p0.mt.2.1.1 * p0.mt.2.2.2.2)))))), ((IntKind.i64.wrap ((1000 : Int) * (IntKind.i64.wrap ((IntKind.i64.wrap (p0.mt.2.2.2.2 * p0.mt.1.1)) - (IntKind.i64.wrap (p0.mt.2.2.1 * p0.mt.1.2.2)))))), (IntKind.i64.wrap ((1000 : Int) * (IntKind.i64.wrap ((IntKind.i64.wrap (p0.mt.1.2.2 * p0.mt.2.1.1)) - (IntKind.i64.wrap (p0.mt.1.1 * p0.mt.2.1.2.2)))))))), ((IntKind.i64.wrap ((1000 : Int) * (IntKind.i64.wrap ((IntKind.i64.wrap (p0.mt.2.1.1 * p0.mt.2.2.2.1)) - (IntKind.i64.wrap (p0.mt.2.1.2.1 * p0.mt.2.2.1)))))), ((IntKind.i64.wrap ((1000 : Int) * (IntKind.i64.wrap ((IntKind.i64.wrap (p0.mt.2.2.1 * p0.mt.1.2.1)) - (IntKind.i64.wrap (p0.mt.2.2.2.1 * p0.mt.1.1)))))), (IntKind.i64.wrap ((1000 : Int) * (IntKind.i64.wrap ((IntKind.i64.wrap (p0.mt.1.1 * p0.mt.2.1.2.1)) - (IntKind.i64.wrap (p0.mt.1.2.1 * p0.mt.2.1.1)))))))))), (IntKind.i64.wrap ((IntKind.i64.wrap ((IntKind.i64.wrap ((0 : Int) + (IntKind.i64.wrap (Int.tdiv (IntKind.i64.wrap (p0.mt.1.1 * (IntKind.i64.wrap ((1000 : Int) * (IntKind.i64.wrap ((IntKind.i64.wrap (p0.mt.2.1.2.1 * p0.mt.2.2.2.2)) - (IntKind.i64.wrap (p0.mt.2.1.2.2 * p0.mt.2.2.2.1)))))))) (1000 : Int))))) + (IntKind.i64.wrap (Int.tdiv (IntKind.i64.wrap (p0.mt.1.2.1 * (IntKind.i64.wrap ((1000 : Int) * (IntKind.i64.wrap ((IntKind.i64.wrap (p0.mt.2.1.2.2 * p0.mt.2.2.1)) - (IntKind.i64.wrap (p0.mt.2.1.1 * p0.mt.2.2.2.2)))))))) (1000 : Int))))) + (IntKind.i64.wrap (Int.tdiv (IntKind.i64.wrap (p0.mt.1.2.2 * (IntKind.i64.wrap ((1000 : Int) * (IntKind.i64.wrap ((IntKind.i64.wrap (p0.mt.2.1.1 * p0.mt.2.2.2.1)) - (IntKind.i64.wrap (p0.mt.2.1.2.1 * p0.mt.2.2.1)))))))) (1000 : Int))))))))), ((IntKind.i64.wrap (Int.tdiv (IntKind.i64.wrap ((1000 : Int) * (IntKind.i64.wrap ((IntKind.i64.wrap (p0.mt.2.2.2.1 * p0.mt.1.2.2)) - (IntKind.i64.wrap (p0.mt.2.2.2.2 * p0.mt.1.2.1)))))) (v_div ((((IntKind.i64.wrap ((1000 : Int) * (IntKind.i64.wrap ((IntKind.i64.wrap (p0.mt.2.1.2.1 * p0.mt.2.2.2.2)) - (IntKind.i64.wrap (p0.mt.2.1.2.2 * p0.mt.2.2.2.1)))))), ((IntKind.i64.wrap ((1000 : Int) * (IntKind.i64.wrap ((IntKind.i64.wrap (p0.mt.2.2.2.1 * p0.mt.1.2.2)) - (IntKind.i64.wrap (p0.mt.2.2.2.2 * p0.mt.1.2.1)))))), (IntKind.i64.wrap ((1000 : Int) * (IntKind.i64.wrap ((IntKind.i64.wrap (p0.mt.1.2.1 * p0.mt.2.1.2.2)) - (IntKind.i64.wrap (p0.mt.1.2.2 * p0.mt.2.1.2.1)))))))), (((IntKind.i64.wrap ((1000 : Int) * (IntKind.i64.wrap ((IntKind.i64.wrap (p0.mt.2.1.2.2 * p0.mt.2.2.1)) - (IntKind.i64.wrap (p0.mt.2.1.1 * p0.mt.2.2.2.2)))))), ((IntKind.i64.wrap ((1000 : Int) * (IntKind.i64.wrap ((IntKind.i64.wrap (p0.mt.2.2.2.2 * p0.mt.1.1)) - (IntKind.i64.wrap (p0.mt.2.2.1 * p0.mt.1.2.2)))))), (IntKind.i64.wrap ((1000 : Int) * (IntKind.i64.wrap ((IntKind.i64.wrap (p0.mt.1.2.2 * p0.mt.2.1.1)) - (IntKind.i64.wrap (p0.mt.1.1 * p0.mt.2.1.2.2)))))))), ((IntKind.i64.wrap ((1000 : Int) * (IntKind.i64.wrap ((IntKind.i64.wrap (p0.mt.2.1.1 * p0.mt.2.2.2.1)) - (IntKind.i64.wrap (p0.mt.2.1.2.1 * p0.mt.2.2.1)))))), ((IntKind.i64.wrap ((1000 : Int) * (IntKind.i64.wrap ((IntKind.i64.wrap (p0.mt.2.2.1 * p0.mt.1.2.1)) - (IntKind.i64.wrap (p0.mt.2.2.2.1 * p0.mt.1.1)))))), (IntKind.i64.wrap ((1000 : Int) * (IntKind.i64.wrap ((IntKind.i64.wrap (p0.mt.1.1 * p0.mt.2.1.2.1)) - (IntKind.i64.wrap (p0.mt.1.2.1 * p0.mt.2.1.1)))))))))), (IntKind.i64.wrap ((IntKind.i64.wrap ((IntKind.i64.wrap ((0 : Int) + (IntKind.i64.wrap (Int.tdiv (IntKind.i64.wrap (p0.mt.1.1 * (IntKind.i64.wrap ((1000 : Int) * (IntKind.i64.wrap ((IntKind.i64.wrap (p0.mt.2.1.2.1 * p0.mt.2.2.2.2)) - (IntKind.i64.wrap (p0.mt.2.1.2.2 * p0.mt.2.2.2.1)))))))) (1000 : Int))))) + (IntKind.i64.wrap (Int.tdiv (IntKind.i64.wrap (p0.mt.1.2.1 * (IntKind.i64.wrap ((1000 : Int) * (IntKind.i64.wrap ((IntKind.i64.wrap (p0.mt.2.1.2.2 * p0.mt.2.2.1)) - (IntKind.i64.wrap (p0.mt.2.1.1 * p0.mt.2.2.2.2)))))))) (1000 : Int))))) + (IntKind.i64.wrap (Int.tdiv (IntKind.i64.wrap (p0.mt.1.2.2 * (IntKind.i64.wrap ((1000 : Int) * (IntKind.i64.wrap ((IntKind.i64.wrap (p0.mt.2.1.1 * p0.mt.2.2.2.1)) - (IntKind.i64.wrap (p0.mt.2.1.2.1 * p0.mt.2.2.1)))))))) (1000 : Int))))))))), (IntKind.i64.wrap (Int.tdiv (IntKind.i64.wrap ((1000 : Int) * (IntKind.i64.wrap ((IntKind.i64.wrap (p0.mt.1.2.1 * p0.mt.2.1.2.2)) - (IntKind.i64.wrap (p0.mt.1.2.2 * p0.mt.2.1.2.1)))))) (v_div ((((IntKind.i64.wrap ((1000 : Int) * (IntKind.i64.wrap ((IntKind.i64.wrap (p0.mt.2.1.2.1 * p0.mt.2.2.2.2)) - (IntKind.i64.wrap (p0.mt.2.1.2.2 * p0.mt.2.2.2.1)))))), ((IntKind.i64.wrap ((1000 : Int) * (IntKind.i64.wrap ((IntKind.i64.wrap (p0.mt.2.2.2.1 * p0.mt.1.2.2)) - (IntKind.i64.wrap (p0.mt.2.2.2.2 * p0.mt.1.2.1)))))), (IntKind.i64.wrap ((1000 : Int) * (IntKind.i64.wrap ((IntKind.i64.wrap (p0.mt.1.2.1 * p0.mt.2.1.2.2)) - (IntKind.i64.wrap (p0.mt.1.2.2 * p0.mt.2.1.2.1)))))))), (((IntKind.i64.wrap ((1000 : Int) * (IntKind.i64.wrap ((IntKind.i64.wrap (p0.mt.2.1.2.2 * p0.mt.2.2.1)) - (IntKind.i64.wrap (p0.mt.2.1.1 * p0.mt.2.2.2.2)))))), ((IntKind.i64.wrap ((1000 : Int) * (IntKind.i64.wrap ((IntKind.i64.wrap (p0.mt.2.2.2.2 * p0.mt.1.1)) - (IntKind.i64.wrap (p0.mt.2.2.1 * p0.mt.1.2.2)))))), (IntKind.i64.wrap ((1000 : Int) * (IntKind.i64.wrap ((IntKind.i64.wrap (p0.mt.1.2.2 * p0.mt.2.1.1)) - (IntKind.i64.wrap (p0.mt.1.1 * p0.mt.2.1.2.2)))))))), ((IntKind.i64.wrap ((1000 : Int) * (IntKind.i64.wrap ((IntKind.i64.wrap (p0.mt.2.1.1 * p0.mt.2.2.2.1)) - (IntKind.i64.wrap (p0.mt.2.1.2.1 * p0.mt.2.2.1)))))), ((IntKind.i64.wrap ((1000 : Int) * (IntKind.i64.wrap ((IntKind.i64.wrap (p0.mt.2.2.1 * p0.mt.1.2.1)) - (IntKind.i64.wrap (p0.mt.2.2.2.1 * p0.mt.1.1)))))), (IntKind.i64.wrap ((1000 : Int) * (IntKind.i64.wrap ((IntKind.i64.wrap (p0.mt.1.1 * p0.mt.2.1.2.1)) - (IntKind.i64.wrap (p0.mt.1.2.1 * p0.mt.2.1.1)))))))))), (IntKind.i64.wrap ((IntKind.i64.wrap ((IntKind.i64.wrap ((0 : Int) + (IntKind.i64.wrap (Int.tdiv (IntKind.i64.wrap (p0.mt.1.1 * (IntKind.i64.wrap ((1000 : Int) * (IntKind.i64.wrap ((IntKind.i64.wrap (p0.mt.2.1.2.1 * p0.mt.2.2.2.2)) - (IntKind.i64.wrap (p0.mt.2.1.2.2 * p0.mt.2.2.2.1)))))))) (1000 : Int))))) + (IntKind.i64.wrap (Int.tdiv (IntKind.i64.wrap (p0.mt.1.2.1 * (IntKind.i64.wrap ((1000 : Int) * (IntKind.i64.wrap ((IntKind.i64.wrap (p0.mt.2.1.2.2 * p0.mt.2.2.1)) - (IntKind.i64.wrap (p0.mt.2.1.1 * p0.mt.2.2.2.2)))))))) (1000 : Int))))) + (IntKind.i64.wrap (Int.tdiv (IntKind.i64.wrap (p0.mt.1.2.2 * (IntKind.i64.wrap ((1000 : Int) * (IntKind.i64.wrap ((IntKind.i64.wrap (p0.mt.2.1.1 * p0.mt.2.2.2.1)) - (IntKind.i64.wrap (p0.mt.2.1.2.1 * p0.mt.2.2.1)))))))) (1000 : Int))))))))))), (((IntKind.i64.wrap (Int.tdiv (IntKind.i64.wrap ((1000 : Int) * (IntKind.i64.wrap ((IntKind.i64.wrap (p0.mt.2.1.2.2 * p0.mt.2.2.1)) - (IntKind.i64.wrap (p0.mt.2.1.1 * p0.mt.2.2.2.2)))))) (v_div ((((IntKind.i64.wrap ((1000 : Int) * (IntKind.i64.wrap ((IntKind.i64.wrap (p0.mt.2.1.2.1 * p0.mt.2.2.2.2)) - (IntKind.i64.wrap (p0.mt.2.1.2.2 * p0.mt.2.2.2.1)))))), ((IntKind.i64.wrap ((1000 : Int) * (IntKind.i64.wrap ((IntKind.i64.wrap (p0.mt.2.2.2.1 * p0.mt.1.2.2)) - (IntKind.i64.wrap (p0.mt.2.2.2.2 * p0.mt.1.2.1)))))), (IntKind.i64.wrap ((1000 : Int) * (IntKind.i64.wrap ((IntKind.i64.wrap (p0.mt.1.2.1 * p0.mt.2.1.2.2)) - (IntKind.i64.wrap (p0.mt.1.2.2 * p0.mt.2.1.2.1)))))))), (((IntKind.i64.wrap ((1000 : Int) * (IntKind.i64.wrap ((IntKind.i64.wrap (p0.mt.2.1.2.2 * p0.mt.2.2.1)) - (IntKind.i64.wrap (p0.mt.2.1.1 * p0.mt.2.2.2.2)))))), ((IntKind.i64.wrap ((1000 : Int) * (IntKind.i64.wrap ((IntKind.i64.wrap (p0.mt.2.2.2.2 * p0.mt.1.1)) - (IntKind.i64.wrap (p0.mt.2.2.1 * p0.mt.1.2.2)))))), (IntKind.i64.wrap ((1000 : Int) * (IntKind.i64.wrap ((IntKind.i64.wrap (p0.mt.1.2.2 * p0.mt.2.1.1)) - (IntKind.i64.wrap (p0.mt.1.1 * p0.mt.2.1.2.2)))))))), ((IntKind.i64.wrap ((1000 : Int) * (IntKind.i64.wrap ((IntKind.i64.wrap (p0.mt.2.1.1 * p0.mt.2.2.2.1)) - (IntKind.i64.wrap (p0.mt.2.1.2.1 * p0.mt.2.2.1)))))), ((IntKind.i64.wrap ((1000 : Int) * (IntKind.i64.wrap ((IntKind.i64.wrap (p0.mt.2.2.1 * p0.mt.1.2.1)) - (IntKind.i64.wrap (p0.mt.2.2.2.1 * p0.mt.1.1)))))), (IntKind.i64.wrap ((1000 : Int) * (IntKind.i64.wrap ((IntKind.i64.wrap (p0.mt.1.1 * p0.mt.2.1.2.1)) - (IntKind.i64.wrap (p0.mt.1.2.1 * p0.mt.2.1.1)))))))))), (IntKind.i64.wrap ((IntKind.i64.wrap ((IntKind.i64.wrap ((0 : Int) + (IntKind.i64.wrap (Int.tdiv (IntKind.i64.wrap (p0.mt.1.1 * (IntKind.i64.wrap ((1000 : Int) * (IntKind.i64.wrap ((IntKind.i64.wrap (p0.mt.2.1.2.1 * p0.mt.2.2.2.2)) - (IntKind.i64.wrap (p0.mt.2.1.2.2 * p0.mt.2.2.2.1)))))))) (1000 : Int))))) + (IntKind.i64.wrap (Int.tdiv (IntKind.i64.wrap (p0.mt.1.2.1 * (IntKind.i64.wrap ((1000 : Int) * (IntKind.i64.wrap ((IntKind.i64.wrap (p0.mt.2.1.2.2 * p0.mt.2.2.1)) - (IntKind.i64.wrap (p0.mt.2.1.1 * p0.mt.2.2.2.2)))))))) (1000 : Int))))) + (IntKind.i64.wrap (Int.tdiv (IntKind.i64.wrap (p0.mt.1.2.2 * (IntKind.i64.wrap ((1000 : Int) * (IntKind.i64.wrap ((IntKind.i64.wrap (p0.mt.2.1.1 * p0.mt.2.2.2.1)) - (IntKind.i64.wrap (p0.mt.2.1.2.1 * p0.mt.2.2.1)))))))) (1000 : Int))))))))), ((IntKind.i64.wrap (Int.tdiv (IntKind.i64.wrap ((1000 : Int) * (IntKind.i64.wrap ((IntKind.i64.wrap (p0.mt.2.2.2.2 * p0.mt.1.1)) - (IntKind.i64.wrap (p0.mt.2.2.1 * p0.mt.1.2.2)))))) (v_div ((((IntKind.i64.wrap ((1000 : Int) * (IntKind.i64.wrap ((IntKind.i64.wrap (p0.mt.2.1.2.1 * p0.mt.2.2.2.2)) - (IntKind.i64.wrap (p0.mt.2.1.2.2 * p0.mt.2.2.2.1)))))), ((IntKind.i64.wrap ((1000 : Int) * (IntKind.i64.wrap ((IntKind.i64.wrap (p0.mt.2.2.2.1 * p0.mt.1.2.2)) - (IntKind.i64.wrap (p0.mt.2.2.2.2 * p0.mt.1.2.1)))))), (IntKind.i64.wrap ((1000 : Int) * (IntKind.i64.wrap ((IntKind.i64.wrap (p0.mt.1.2.1 * p0.mt.2.1.2.2)) - (IntKind.i64.wrap (p0.mt.1.2.2 * p0.mt.2.1.2.1)))))))), (((IntKind.i64.wrap ((1000 : Int) * (IntKind.i64.wrap ((IntKind.i64.wrap (p0.mt.2.1.2.2 * p0.mt.2.2.1)) - (IntKind.i64.wrap (p0.mt.2.1.1 * p0.mt.2.2.2.2)))))), ((IntKind.i64.wrap ((1000 : Int) * (IntKind.i64.wrap ((IntKind.i64.wrap (p0.mt.2.2.2.2 * p0.mt.1.1)) - (IntKind.i64.wrap (p0.mt.2.2.1 * p0.mt.1.2.2)))))), (IntKind.i64.wrap ((1000 : Int) * (IntKind.i64.wrap ((IntKind.i64.wrap (p0.mt.1.2.2 * p0.mt.2.1.1)) - (IntKind.i64.wrap (p0.mt.1.1 * p0.mt.2.1.2.2)))))))), ((IntKind.i64.wrap ((1000 : Int) * (IntKind.i64.wrap ((IntKind.i64.wrap (p0.mt.2.1.1 * p0.mt.2.2.2.1)) - (IntKind.i64.wrap (p0.mt.2.1.2.1 * p0.mt.2.2.1)))))), ((IntKind.i64.wrap ((1000 : Int) * (IntKind.i64.wrap ((IntKind.i64.wrap (p0.mt.2.2.1 * p0.mt.1.2.1)) - (IntKind.i64.wrap (p0.mt.2.2.2.1 * p0.mt.1.1)))))), (IntKind.i64.wrap ((1000 : Int) * (IntKind.i64.wrap ((IntKind.i64.wrap (p0.mt.1.1 * p0.mt.2.1.2.1)) - (IntKind.i64.wrap (p0.mt.1.2.1 * p0.mt.2.1.1)))))))))), (IntKind.i64.wrap ((IntKind.i64.wrap ((IntKind.i64.wrap ((0 : Int) + (IntKind.i64.wrap (Int.tdiv (IntKind.i64.wrap (p0.mt.1.1 * (IntKind.i64.wrap ((1000 : Int) * (IntKind.i64.wrap ((IntKind.i64.wrap (p0.mt.2.1.2.1 * p0.mt.2.2.2.2)) - (IntKind.i64.wrap (p0.mt.2.1.2.2 * p0.mt.2.2.2.1)))))))) (1000 : Int))))) + (IntKind.i64.wrap (Int.tdiv (IntKind.i64.wrap (p0.mt.1.2.1 * (IntKind.i64.wrap ((1000 : Int) * (IntKind.i64.wrap ((IntKind.i64.wrap (p0.mt.2.1.2.2 * p0.mt.2.2.1)) - (IntKind.i64.wrap (p0.mt.2.1.1 * p0.mt.2.2.2.2)))))))) (1000 : Int))))) + (IntKind.i64.wrap (Int.tdiv (IntKind.i64.wrap (p0.mt.1.2.2 * (IntKind.i64.wrap ((1000 : Int) * (IntKind.i64.wrap ((IntKind.i64.wrap (p0.mt.2.1.1 * p0.mt.2.2.2.1)) - (IntKind.i64.wrap (p0.mt.2.1.2.1 * p0.mt.2.2.1)))))))) (1000 : Int))))))))), (IntKind.i64.wrap (Int.tdiv (IntKind.i64.wrap ((1000 : Int) * (IntKind.i64.wrap ((IntKind.i64.wrap (p0.mt.1.2.2 * p0.mt.2.1.1)) - (IntKind.i64.wrap (p0.mt.1.1 * p0.mt.2.1.2.2)))))) (v_div ((((IntKind.i64.wrap ((1000 : Int) * (IntKind.i64.wrap ((IntKind.i64.wrap (p0.mt.2.1.2.1 * p0.mt.2.2.2.2)) - (IntKind.i64.wrap (p0.mt.2.1.2.2 * p0.mt.2.2.2.1)))))), ((IntKind.i64.wrap ((1000 : Int) * (IntKind.i64.wrap ((IntKind.i64.wrap (p0.mt.2.2.2.1 * p0.mt.1.2.2)) - (IntKind.i64.wrap (p0.mt.2.2.2.2 * p0.mt.1.2.1)))))), (IntKind.i64.wrap ((1000 : Int) * (IntKind.i64.wrap ((IntKind.i64.wrap (p0.mt.1.2.1 * p0.mt.2.1.2.2)) - (IntKind.i64.wrap (p0.mt.1.2.2 * p0.mt.2.1.2.1)))))))), (((IntKind.i64.wrap ((1000 : Int) * (IntKind.i64.wrap ((IntKind.i64.wrap (p0.mt.2.1.2.2 * p0.mt.2.2.1)) - (IntKind.i64.wrap (p0.mt.2.1.1 * p0.mt.2.2.2.2)))))), ((IntKind.i64.wrap ((1000 : Int) * (IntKind.i64.wrap ((IntKind.i64.wrap (p0.mt.2.2.2.2 * p0.mt.1.1)) - (IntKind.i64.wrap (p0.mt.2.2.1 * p0.mt.1.2.2)))))), (IntKind.i64.wrap ((1000 : Int) * (IntKind.i64.wrap ((IntKind.i64.wrap (p0.mt.1.2.2 * p0.mt.2.1.1)) - (IntKind.i64.wrap (p0.mt.1.1 * p0.mt.2.1.2.2)))))))), ((IntKind.i64.wrap ((1000 : Int) * (IntKind.i64.wrap ((IntKind.i64.wrap (p0.mt.2.1.1 * p0.mt.2.2.2.1)) - (IntKind.i64.wrap (p0.mt.2.1.2.1 * p0.mt.2.2.1)))))), ((IntKind.i64.wrap ((1000 : Int) * (IntKind.i64.wrap ((IntKind.i64.wrap (p0.mt.2.2.1 * p0.mt.1.2.1)) - (IntKind.i64.wrap (p0.mt.2.2.2.1 * p0.mt.1.1)))))), (IntKind.i64.wrap ((1000 : Int) * (IntKind.i64.wrap ((IntKind.i64.wrap (p0.mt.1.1 * p0.mt.2.1.2.1)) - (IntKind.i64.wrap (p0.mt.1.2.1 * p0.mt.2.1.1)))))))))), (IntKind.i64.wrap ((IntKind.i64.wrap ((IntKind.i64.wrap ((0 : Int) + (IntKind.i64.wrap (Int.tdiv (IntKind.i64.wrap (p0.mt.1.1 * (IntKind.i64.wrap ((1000 : Int) * (IntKind.i64.wrap ((IntKind.i64.wrap (p0.mt.2.1.2.1 * p0.mt.2.2.2.2)) - (IntKind.i64.wrap (p0.mt.2.1.2.2 * p0.mt.2.2.2.1)))))))) (1000 : Int))))) + (IntKind.i64.wrap (Int.tdiv (IntKind.i64.wrap (p0.mt.1.2.1 * (IntKind.i64.wrap ((1000 : Int) * (IntKind.i64.wrap ((IntKind.i64.wrap (p0.mt.2.1.2.2 * p0.mt.2.2.1)) - (IntKind.i64.wrap (p0.mt.2.1.1 * p0.mt.2.2.2.2)))))))) (1000 : Int))))) + (IntKind.i64.wrap (Int.tdiv (IntKind.i64.wrap (p0.mt.1.2.2 * (IntKind.i64.wrap ((1000 : Int) * (IntKind.i64.wrap ((IntKind.i64.wrap (p0.mt.2.1.1 * p0.mt.2.2.2.1)) - (IntKind.i64.wrap (p0.mt.2.1.2.1 * p0.mt.2.2.1)))))))) (1000 : Int))))))))))), ((IntKind.i64.wrap (Int.tdiv (IntKind.i64.wrap ((1000 : Int) * (IntKind.i64.wrap ((IntKind.i64.wrap (p0.mt.2.1.1 * p0.mt.2.2.2.1)) - (IntKind.i64.wrap (p0.mt.2.1.2.1 * p0.mt.2.2.1)))))) (v_div ((((IntKind.i64.wrap ((1000 : Int) * (IntKind.i64.wrap ((IntKind.i64.wrap (p0.mt.2.1.2.1 * p0.mt.2.2.2.2)) - (IntKind.i64.wrap (p0.mt.2.1.2.2 * p0.mt.2.2.2.1)))))), ((IntKind.i64.wrap ((1000 : Int) * (IntKind.i64.wrap ((IntKind.i64.wrap (p0.mt.2.2.2.1 * p0.mt.1.2.2)) - (IntKind.i64.wrap (p0.mt.2.2.2.2 * p0.mt.1.2.1)))))), (IntKind.i64.wrap ((1000 : Int) * (IntKind.i64.wrap ((IntKind.i64.wrap (p0.mt.1.2.1 * p0.mt.2.1.2.2)) - (IntKind.i64.wrap (p0.mt.1.2.2 * p0.mt.2.1.2.1)))))))), (((IntKind.i64.wrap ((1000 : Int) * (IntKind.i64.wrap ((IntKind.i64.wrap (p0.mt.2.1.2.2 * p0.mt.2.2.1)) - (IntKind.i64.wrap (p0.mt.2.1.1 * p0.mt.2.2.2.2)))))), ((IntKind.i64.wrap ((1000 : Int) * (IntKind.i64.wrap ((IntKind.i64.wrap (p0.mt.2.2.2.2 * p0.mt.1.1)) - (IntKind.i64.wrap (p0.mt.2.2.1 * p0.mt.1.2.2)))))), (IntKind.i64.wrap ((1000 : Int) * (IntKind.i64.wrap ((IntKind.i64.wrap (p0.mt.1.2.2 * p0.mt.2.1.1)) - (IntKind.i64.wrap (p0.mt.1.1 * p0.mt.2.1.2.2)))))))), ((IntKind.i64.wrap ((1000 : Int) * (IntKind.i64.wrap ((IntKind.i64.wrap (p0.mt.2.1.1 * p0.mt.2.2.2.1)) - (IntKind.i64.wrap (p0.mt.2.1.2.1 * p0.mt.2.2.1)))))), ((IntKind.i64.wrap ((1000 : Int) * (IntKind.i64.wrap ((IntKind.i64.wrap (p0.mt.2.2.1 * p0.mt.1.2.1)) - (IntKind.i64.wrap (p0.mt.2.2.2.1 * p0.mt.1.1)))))), (IntKind.i64.wrap ((1000 : Int) * (IntKind.i64.wrap ((IntKind.i64.wrap (p0.mt.1.1 * p0.mt.2.1.2.1)) - (IntKind.i64.wrap (p0.mt.1.2.1 * p0.mt.2.1.1)))))))))), (IntKind.i64.wrap ((IntKind.i64.wrap ((IntKind.i64.wrap ((0 : Int) + (IntKind.i64.wrap (Int.tdiv (IntKind.i64.wrap (p0.mt.1.1 * (IntKind.i64.wrap ((1000 : Int) * (IntKind.i64.wrap ((IntKind.i64.wrap (p0.mt.2.1.2.1 * p0.mt.2.2.2.2)) - (IntKind.i64.wrap (p0.mt.2.1.2.2 * p0.mt.2.2.2.1)))))))) (1000 : Int))))) + (IntKind.i64.wrap (Int.tdiv (IntKind.i64.wrap (p0.mt.1.2.1 * (IntKind.i64.wrap ((1000 : Int) * (IntKind.i64.wrap ((IntKind.i64.wrap (p0.mt.2.1.2.2 * p0.mt.2.2.1)) - (IntKind.i64.wrap (p0.mt.2.1.1 * p0.mt.2.2.2.2)))))))) (1000 : Int))))) + (IntKind.i64.wrap (Int.tdiv (IntKind.i64.wrap (p0.mt.1.2.2 * (IntKind.i64.wrap ((1000 : Int) * (IntKind.i64.wrap ((IntKind.i64.wrap (p0.mt.2.1.1 * p0.mt.2.2.2.1)) - (IntKind.i64.wrap (p0.mt.2.1.2.1 * p0.mt.2.2.1)))))))) (1000 : Int))))))))), ((IntKind.i64.wrap (Int.tdiv (IntKind.i64.wrap ((1000 : Int) * (IntKind.i64.wrap ((IntKind.i64.wrap (p0.mt.2.2.1 * p0.mt.1.2.1)) - (IntKind.i64.wrap (p0.mt.2.2.2.1 * p0.mt.1.1)))))) (v_div ((((IntKind.i64.wrap ((1000 : Int) * (IntKind.i64.wrap ((IntKind.i64.wrap (p0.mt.2.1.2.1 * p0.mt.2.2.2.2)) - (IntKind.i64.wrap (p0.mt.2.1.2.2 * p0.mt.2.2.2.1)))))), ((IntKind.i64.wrap ((1000 : Int) * (IntKind.i64.wrap ((IntKind.i64.wrap (p0.mt.2.2.2.1 * p0.mt.1.2.2)) - (IntKind.i64.wrap (p0.mt.2.2.2.2 * p0.mt.1.2.1)))))), (IntKind.i64.wrap ((1000 : Int) * (IntKind.i64.wrap ((IntKind.i64.wrap (p0.mt.1.2.1 * p0.mt.2.1.2.2)) - (IntKind.i64.wrap (p0.mt.1.2.2 * p0.mt.2.1.2.1)))))))), (((IntKind.i64.wrap ((1000 : Int) * (IntKind.i64.wrap ((IntKind.i64.wrap (p0.mt.2.1.2.2 * p0.mt.2.2.1)) - (IntKind.i64.wrap (p0.mt.2.1.1 * p0.mt.2.2.2.2)))))), ((IntKind.i64.wrap ((1000 : Int) * (IntKind.i64.wrap ((IntKind.i64.wrap (p0.mt.2.2.2.2 * p0.mt.1.1)) - (IntKind.i64.wrap (p0.mt.2.2.1 * p0.mt.1.2.2)))))), (IntKind.i64.wrap ((1000 : Int) * (IntKind.i64.wrap ((IntKind.i64.wrap (p0.mt.1.2.2 * p0.mt.2.1.1)) - (IntKind.i64.wrap (p0.mt.1.1 * p0.mt.2.1.2.2)))))))), ((IntKind.i64.wrap ((1000 : Int) * (IntKind.i64.wrap ((IntKind.i64.wrap (p0.mt.2.1.1 * p0.mt.2.2.2.1)) - (IntKind.i64.wrap (p0.mt.2.1.2.1 * p0.mt.2.2.1)))))), ((IntKind.i64.wrap ((1000 : Int) * (IntKind.i64.wrap ((IntKind.i64.wrap (p0.mt.2.2.1 * p0.mt.1.2.1)) - (IntKind.i64.wrap (p0.mt.2.2.2.1 * p0.mt.1.1)))))), (IntKind.i64.wrap ((1000 : Int) * (IntKind.i64.wrap ((IntKind.i64.wrap (p0.mt.1.1 * p0.mt.2.1.2.1)) - (IntKind.i64.wrap (p0.mt.1.2.1 * p0.mt.2.1.1)))))))))), (IntKind.i64.wrap ((IntKind.i64.wrap ((IntKind.i64.wrap ((0 : Int) + (IntKind.i64.wrap (Int.tdiv (IntKind.i64.wrap (p0.mt.1.1 * (IntKind.i64.wrap ((1000 : Int) * (IntKind.i64.wrap ((IntKind.i64.wrap (p0.mt.2.1.2.1 * p0.mt.2.2.2.2)) - (IntKind.i64.wrap (p0.mt.2.1.2.2 * p0.mt.2.2.2.1)))))))) (1000 : Int))))) + (IntKind.i64.wrap (Int.tdiv (IntKind.i64.wrap (p0.mt.1.2.1 * (IntKind.i64.wrap ((1000 : Int) * (IntKind.i64.wrap ((IntKind.i64.wrap (p0.mt.2.1.2.2 * p0.mt.2.2.1)) - (IntKind.i64.wrap (p0.mt.2.1.1 * p0.mt.2.2.2.2)))))))) (1000 : Int))))) + (IntKind.i64.wrap (Int.tdiv (IntKind.i64.wrap (p0.mt.1.2.2 * (IntKind.i64.wrap ((1000 : Int) * (IntKind.i64.wrap ((IntKind.i64.wrap (p0.mt.2.1.1 * p0.mt.2.2.2.1)) - (IntKind.i64.wrap (p0.mt.2.1.2.1 * p0.mt.2.2.1)))))))) (1000 : Int))))))))), (IntKind.i64.wrap (Int.tdiv (IntKind.i64.wrap ((1000 : Int) * (IntKind.i64.wrap ((IntKind.i64.wrap (p0.mt.1.1 * p0.mt.2.1.2.1)) - (IntKind.i64.wrap (p0.mt.1.2.1 * p0.mt.2.1.1)))))) (v_div ((((IntKind.i64.wrap ((1000 : Int) * (IntKind.i64.wrap ((IntKind.i64.wrap (p0.mt.2.1.2.1 * p0.mt.2.2.2.2)) - (IntKind.i64.wrap (p0.mt.2.1.2.2 * p0.mt.2.2.2.1)))))), ((IntKind.i64.wrap ((1000 : Int) * (IntKind.i64.wrap ((IntKind.i64.wrap (p0.mt.2.2.2.1 * p0.mt.1.2.2)) - (IntKind.i64.wrap (p0.mt.2.2.2.2 * p0.mt.1.2.1)))))), (IntKind.i64.wrap ((1000 : Int) * (IntKind.i64.wrap ((IntKind.i64.wrap (p0.mt.1.2.1 * p0.mt.2.1.2.2)) - (IntKind.i64.wrap (p0.mt.1.2.2 * p0.mt.2.1.2.1)))))))), (((IntKind.i64.wrap ((1000 : Int) * (IntKind.i64.wrap ((IntKind.i64.wrap (p0.mt.2.1.2.2 * p0.mt.2.2.1)) - (IntKind.i64.wrap (p0.mt.2.1.1 * p0.mt.2.2.2.2)))))), ((IntKind.i64.wrap ((1000 : Int) * (IntKind.i64.wrap ((IntKind.i64.wrap (p0.mt.2.2.2.2 * p0.mt.1.1)) - (IntKind.i64.wrap (p0.mt.2.2.1 * p0.mt.1.2.2)))))), (IntKind.i64.wrap ((1000 : Int) * (IntKind.i64.wrap ((IntKind.i64.wrap (p0.mt.1.2.2 * p0.mt.2.1.1)) - (IntKind.i64.wrap (p0.mt.1.1 * p0.mt.2.1.2.2)))))))), ((IntKind.i64.wrap ((1000 : Int) * (IntKind.i64.wrap ((IntKind.i64.wrap (p0.mt.2.1.1 * p0.mt.2.2.2.1)) - (IntKind.i64.wrap (p0.mt.2.1.2.1 * p0.mt.2.2.1)))))), ((IntKind.i64.wrap ((1000 : Int) * (IntKind.i64.wrap ((IntKind.i64.wrap (p0.mt.2.2.1 * p0.mt.1.2.1)) - (IntKind.i64.wrap (p0.mt.2.2.2.1 * p0.mt.1.1)))))), (IntKind.i64.wrap ((1000 : Int) * (IntKind.i64.wrap ((IntKind.i64.wrap (p0.mt.1.1 * p0.mt.2.1.2.1)) - (IntKind.i64.wrap (p0.mt.1.2.1 * p0.mt.2.1.1)))))))))), (IntKind.i64.wrap ((IntKind.i64.wrap ((IntKind.i64.wrap ((0 : Int) + (IntKind.i64.wrap (Int.tdiv (IntKind.i64.wrap (p0.mt.1.1 * (IntKind.i64.wrap ((1000 : Int) * (IntKind.i64.wrap ((IntKind.i64.wrap (p0.mt.2.1.2.1 * p0.mt.2.2.2.2)) - (IntKind.i64.wrap (p0.mt.2.1.2.2 * p0.mt.2.2.2.1)))))))) (1000 : Int))))) + (IntKind.i64.wrap (Int.tdiv (IntKind.i64.wrap (p0.mt.1.2.1 * (IntKind.i64.wrap ((1000 : Int) * (IntKind.i64.wrap ((IntKind.i64.wrap (p0.mt.2.1.2.2 * p0.mt.2.2.1)) - (IntKind.i64.wrap (p0.mt.2.1.1 * p0.mt.2.2.2.2)))))))) (1000 : Int))))) + (IntKind.i64.wrap (Int.tdiv (IntKind.i64.wrap (p0.mt.1.2.2 * (IntKind.i64.wrap ((1000 : Int) * (IntKind.i64.wrap ((IntKind.i64.wrap (p0.mt.2.1.1 * p0.mt.2.2.2.1)) - (IntKind.i64.wrap (p0.mt.2.1.2.1 * p0.mt.2.2.1)))))))) (1000 : Int))))))))))))), (IntKind.i64.wrap (Int.tdiv (IntKind.i64.wrap ((IntKind.i64.wrap ((IntKind.i64.wrap ((0 : Int) + (IntKind.i64.wrap (Int.tdiv (IntKind.i64.wrap (p0.mt.1.1 * (IntKind.i64.wrap ((1000 : Int) * (IntKind.i64.wrap ((IntKind.i64.wrap (p0.mt.2.1.2.1 * p0.mt.2.2.2.2)) - (IntKind.i64.wrap (p0.mt.2.1.2.2 * p0.mt.2.2.2.1)))))))) (1000 : Int))))) + (IntKind.i64.wrap (Int.tdiv (IntKind.i64.wrap (p0.mt.1.2.1 * (IntKind.i64.wrap ((1000 : Int) * (IntKind.i64.wrap ((IntKind.i64.wrap (p0.mt.2.1.2.2 * p0.mt.2.2.1)) - (IntKind.i64.wrap (p0.mt.2.1.1 * p0.mt.2.2.2.2)))))))) (1000 : Int))))) + (IntKind.i64.wrap (Int.tdiv (IntKind.i64.wrap (p0.mt.1.2.2 * (IntKind.i64.wrap ((1000 : Int) * (IntKind.i64.wrap ((IntKind.i64.wrap (p0.mt.2.1.1 * p0.mt.2.2.2.1)) - (IntKind.i64.wrap (p0.mt.2.1.2.1 * p0.mt.2.2.1)))))))) (1000 : Int))))) (v_div ((((IntKind.i64.wrap ((1000 : Int) * (IntKind.i64.wrap ((IntKind.i64.wrap (p0.mt.2.1.2.1 * p0.mt.2.2.2.2)) - (IntKind.i64.wrap (p0.mt.2.1.2.2 * p0.mt.2.2.2.1)))))), ((IntKind.i64.wrap ((1000 : Int) * (IntKind.i64.wrap ((IntKind.i64.wrap (p0.mt.2.2.2.1 * p0.mt.1.2.2)) - (IntKind.i64.wrap (p0.mt.2.2.2.2 * p0.mt.1.2.1)))))), (IntKind.i64.wrap ((1000 : Int) * (IntKind.i64.wrap ((IntKind.i64.wrap (p0.mt.1.2.1 * p0.mt.2.1.2.2)) - (IntKind.i64.wrap (p0.mt.1.2.2 * p0.mt.2.1.2.1)))))))), (((IntKind.i64.wrap ((1000 : Int) * (IntKind.i64.wrap ((IntKind.i64.wrap (p0.mt.2.1.2.2 * p0.mt.2.2.1)) - (IntKind.i64.wrap (p0.mt.2.1.1 * p0.mt.2.2.2.2)))))), ((IntKind.i64.wrap ((1000 : Int) * (IntKind.i64.wrap ((IntKind.i64.wrap (p0.mt.2.2.2.2 * p0.mt.1.1)) - (IntKind.i64.wrap (p0.mt.2.2.1 * p0.mt.1.2.2)))))), (IntKind.i64.wrap ((1000 : Int) * (IntKind.i64.wrap ((IntKind.i64.wrap (p0.mt.1.2.2 * p0.mt.2.1.1)) - (IntKind.i64.wrap (p0.mt.1.1 * p0.mt.2.1.2.2)))))))), ((IntKind.i64.wrap ((1000 : Int) * (IntKind.i64.wrap ((IntKind.i64.wrap (p0.mt.2.1.1 * p0.mt.2.2.2.1)) - (IntKind.i64.wrap (p0.mt.2.1.2.1 * p0.mt.2.2.1)))))), ((IntKind.i64.wrap ((1000 : Int) * (IntKind.i64.wrap ((IntKind.i64.wrap (p0.mt.2.2.1 * p0.mt.1.2.1)) - (IntKind.i64.wrap (p0.mt.2.2.2.1 * p0.mt.1.1)))))), (IntKind.i64.wrap ((1000 : Int) * (IntKind.i64.wrap ((IntKind.i64.wrap (p0.mt.1.1 * p0.mt.2.1.2.1)) - (IntKind.i64.wrap (p0.mt.1.2.1 * p0.mt.2.1.1)))))))))), (IntKind.i64.wrap ((IntKind.i64.wrap ((IntKind.i64.wrap ((0 : Int) + (IntKind.i64.wrap (Int.tdiv (IntKind.i64.wrap (p0.mt.1.1 * (IntKind.i64.wrap ((1000 : Int) * (IntKind.i64.wrap ((IntKind.i64.wrap (p0.mt.2.1.2.1 * p0.mt.2.2.2.2)) - (IntKind.i64.wrap (p0.mt.2.1.2.2 * p0.mt.2.2.2.1)))))))) (1000 : Int))))) + (IntKind.i64.wrap (Int.tdiv (IntKind.i64.wrap (p0.mt.1.2.1 * (IntKind.i64.wrap ((1000 : Int) * (IntKind.i64.wrap ((IntKind.i64.wrap (p0.mt.2.1.2.2 * p0.mt.2.2.1)) - (IntKind.i64.wrap (p0.mt.2.1.1 * p0.mt.2.2.2.2)))))))) (1000 : Int))))) + (IntKind.i64.wrap (Int.tdiv (IntKind.i64.wrap (p0.mt.1.2.2 * (IntKind.i64.wrap ((1000 : Int) * (IntKind.i64.wrap ((IntKind.i64.wrap (p0.mt.2.1.1 * p0.mt.2.2.2.1)) - (IntKind.i64.wrap (p0.mt.2.1.2.1 * p0.mt.2.2.1)))))))) (1000 : Int))))))))))
abbrev pre_ref06_Inverse (p0 : CR) : List Prop := [(v_ci ((((IntKind.i64.wrap ((1000 : Int) * (IntKind.i64.wrap ((IntKind.i64.wrap (p0.mt.2.1.2.1 * p0.mt.2.2.2.2)) - (IntKind.i64.wrap (p0.mt.2.1.2.2 * p0.mt.2.2.2.1)))))), ((IntKind.i64.wrap ((1000 : Int) * (IntKind.i64.wrap ((IntKind.i64.wrap (p0.mt.2.2.2.1 * p0.mt.1.2.2)) - (IntKind.i64.wrap (p0.mt.2.2.2.2 * p0.mt.1.2.1)))))), (IntKind.i64.wrap ((1000 : Int) * (IntKind.i64.wrap ((IntKind.i64.wrap (p0.mt.1.2.1 * p0.mt.2.1.2.2)) - (IntKind.i64.wrap (p0.mt.1.2.2 * p0.mt.2.1.2.1)))))))), (((IntKind.i64.wrap ((1000 : Int) * (IntKind.i64.wrap ((IntKind.i64.wrap (p0.mt.2.1.2.2 * p0.mt.2.2.1)) - (IntKind.i64.wrap (p0.mt.2.1.1 * p0.mt.2.2.2.2)))))), ((IntKind.i64.wrap ((1000 : Int) * (IntKind.i64.wrap ((IntKind.i64.wrap (p0.mt.2.2.2.2 * p0.mt.1.1)) - (IntKind.i64.wrap (p0.mt.2.2.1 * p0.mt.1.2.2)))))), (IntKind.i64.wrap ((1000 : Int) * (IntKind.i64.wrap ((IntKind.i64.wrap (p0.mt.1.2.2 * p0.mt.2.1.1)) - (IntKind.i64.wrap (p0.mt.1.1 * p0.mt.2.1.2.2)))))))), ((IntKind.i64.wrap ((1000 : Int) * (IntKind.i64.wrap ((IntKind.i64.wrap (p0.mt.2.1.1 * p0.mt.2.2.2.1)) - (IntKind.i64.wrap (p0.mt.2.1.2.1 * p0.mt.2.2.1)))))), ((IntKind.i64.wrap ((1000 : Int) * (IntKind.i64.wrap ((IntKind.i64.wrap (p0.mt.2.2.1 * p0.mt.1.2.1)) - (IntKind.i64.wrap (p0.mt.2.2.2.1 * p0.mt.1.1)))))), (IntKind.i64.wrap ((1000 : Int) * (IntKind.i64.wrap ((IntKind.i64.wrap (p0.mt.1.1 * p0.mt.2.1.2.1)) - (IntKind.i64.wrap (p0.mt.1.2.1 * p0.mt.2.1.1)))))))))), (IntKind.i64.wrap ((IntKind.i64.wrap ((IntKind.i64.wrap ((0 : Int) + (IntKind.i64.wrap (Int.tdiv (IntKind.i64.wrap (p0.mt.1.1 * (IntKind.i64.wrap ((1000 : Int) * (IntKind.i64.wrap ((IntKind.i64.wrap (p0.mt.2.1.2.1 * p0.mt.2.2.2.2)) - (IntKind.i64.wrap (p0.mt.2.1.2.2 * p0.mt.2.2.2.1)))))))) (1000 : Int))))) + (IntKind.i64.wrap (Int.tdiv (IntKind.i64.wrap (p0.mt.1.2.1 * (IntKind.i64.wrap ((1000 : Int) * (IntKind.i64.wrap ((IntKind.i64.wrap (p0.mt.2.1.2.2 * p0.mt.2.2.1)) - (IntKind.i64.wrap (p0.mt.2.1.1 * p0.mt.2.2.2.2)))))))) (1000 : Int))))) + (IntKind.i64.wrap (Int.tdiv (IntKind.i64.wrap (p0.mt.1.2.2 * (IntKind.i64.wrap ((1000 : Int) * (IntKind.i64.wrap ((IntKind.i64.wrap (p0.mt.2.1.1 * p0.mt.2.2.2.1)) - (IntKind.i64.wrap (p0.mt.2.1.2.1 * p0.mt.2.2.1)))))))) (1000 : Int))))))),
    ((v_div ((((IntKind.i64.wrap ((1000 : Int) * (IntKind.i64.wrap ((IntKind.i64.wrap (p0.mt.2.1.2.1 * p0.mt.2.2.2.2)) - (IntKind.i64.wrap (p0.mt.2.1.2.2 * p0.mt.2.2.2.1)))))), ((IntKind.i64.wrap ((1000 : Int) * (IntKind.i64.wrap ((IntKind.i64.wrap (p0.mt.2.2.2.1 * p0.mt.1.2.2)) - (IntKind.i64.wrap (p0.mt.2.2.2.2 * p0.mt.1.2.1)))))), (IntKind.i64.wrap ((1000 : Int) * (IntKind.i64.wrap ((IntKind.i64.wrap (p0.mt.1.2.1 * p0.mt.2.1.2.2)) - (IntKind.i64.wrap (p0.mt.1.2.2 * p0.mt.2.1.2.1)))))))), (((IntKind.i64.wrap ((1000 : Int) * (IntKind.i64.wrap ((IntKind.i64.wrap (p0.mt.2.1.2.2 * p0.mt.2.2.1)) - (IntKind.i64.wrap (p0.mt.2.1.1 * p0.mt.2.2.2.2)))))), ((IntKind.i64.wrap ((1000 : Int) * (IntKind.i64.wrap ((IntKind.i64.wrap (p0.mt.2.2.2.2 * p0.mt.1.1)) - (IntKind.i64.wrap (p0.mt.2.2.1 * p0.mt.1.2.2)))))), (IntKind.i64.wrap ((1000 : Int) * (IntKind.i64.wrap ((IntKind.i64.wrap (p0.mt.1.2.2 * p0.mt.2.1.1)) - (IntKind.i64.wrap (p0.mt.1.1 * p0.mt.2.1.2.2)))))))), ((IntKind.i64.wrap ((1000 : Int) * (IntKind.i64.wrap ((IntKind.i64.wrap (p0.mt.2.1.1 * p0.mt.2.2.2.1)) - (IntKind.i64.wrap (p0.mt.2.1.2.1 * p0.mt.2.2.1)))))), ((IntKind.i64.wrap ((1000 : Int) * (IntKind.i64.wrap ((IntKind.i64.wrap (p0.mt.2.2.1 * p0.mt.1.2.1)) - (IntKind.i64.wrap (p0.mt.2.2.2.1 * p0.mt.1.1)))))), (IntKind.i64.wrap ((1000 : Int) * (IntKind.i64.wrap ((IntKind.i64.wrap (p0.mt.1.1 * p0.mt.2.1.2.1)) - (IntKind.i64.wrap (p0.mt.1.2.1 * p0.mt.2.1.1)))))))))), (IntKind.i64.wrap ((IntKind.i64.wrap ((IntKind.i64.wrap ((0 : Int) + (IntKind.i64.wrap (Int.tdiv (IntKind.i64.wrap (p0.mt.1.1 * (IntKind.i64.wrap ((1000 : Int) * (IntKind.i64.wrap ((IntKind.i64.wrap (p0.mt.2.1.2.1 * p0.mt.2.2.2.2)) - (IntKind.i64.wrap (p0.mt.2.1.2.2 * p0.mt.2.2.2.1)))))))) (1000 : Int))))) + (IntKind.i64.wrap (Int.tdiv (IntKind.i64.wrap (p0.mt.1.2.1 * (IntKind.i64.wrap ((1000 : Int) * (IntKind.i64.wrap ((IntKind.i64.wrap (p0.mt.2.1.2.2 * p0.mt.2.2.1)) - (IntKind.i64.wrap (p0.mt.2.1.1 * p0.mt.2.2.2.2)))))))) (1000 : Int))))) + (IntKind.i64.wrap (Int.tdiv (IntKind.i64.wrap (p0.mt.1.2.2 * (IntKind.i64.wrap ((1000 : Int) * (IntKind.i64.wrap ((IntKind.i64.wrap (p0.mt.2.1.1 * p0.mt.2.2.2.1)) - (IntKind.i64.wrap (p0.mt.2.1.2.1 * p0.mt.2.2.1)))))))) (1000 : Int))))))) ≠ (0 : Int))]
set_option maxHeartbeats 4000000 in
theorem d_ref06_Inverse (p0 : CR) (K : CI → Prop) (hp : ∀ p ∈ pre_ref06_Inverse p0, p) (h : K (s_ref06_Inverse p0)) : w_ref06_Inverse p0 K := by
  unfold w_ref06_Inverse
  unfold s_ref06_Inverse at h
  obtain ⟨hp0, hp1, _⟩ := conj_of hp
  exact ⟨31, fun _ => ⟨31, fun _ => ⟨(od rfl), (od rfl), (od rfl), (od rfl), (od rfl), (od rfl), (od rfl), (od rfl), (od rfl), (od rfl), (od rfl), (od rfl), (od rfl), (od rfl), (od rfl), (od rfl), (od rfl), (od rfl), (od rfl), (od rfl), fun _ => ⟨(od rfl), (od rfl), (od rfl), (od rfl), (od rfl), (od rfl), (od rfl), (od rfl), (od rfl), (od rfl), (od rfl), (od rfl), (od rfl), (od rfl), (od rfl), (od rfl), (od rfl), (od rfl), (od rfl), (od rfl), fun _ => ⟨(od rfl), (od rfl), (od rfl), (od rfl), (od rfl), (od rfl), (od rfl), (od rfl), (od rfl), (od rfl), (od rfl), (od rfl), (od rfl), (od rfl), (od rfl), (od rfl), (od rfl), (od rfl), (od rfl), (od rfl), nof, fun _ => ⟨fun _ => ⟨31, fun _ => ⟨(od rfl), (od rfl), (od rfl), (od rfl), (od rfl), (od rfl), (od rfl), (od rfl), (od rfl), (od rfl), (od rfl), (od rfl), (od rfl), (od rfl), (od rfl), (od rfl), (od rfl), (od rfl), (od rfl), (od rfl), fun _ => ⟨(od rfl), (od rfl), (od rfl), (od rfl), (od rfl), (od rfl), (od rfl), (od rfl), (od rfl), (od rfl), (od rfl), (od rfl), (od rfl), (od rfl), (od rfl), (od rfl), (od rfl), (od rfl), (od rfl), (od rfl), fun _ => ⟨(od rfl), (od rfl), (od rfl), (od rfl), (od rfl), (od rfl), (od rfl), (od rfl), (od rfl), (od rfl), (od rfl), (od rfl), (od rfl), (od rfl), (od rfl), (od rfl), (od rfl), (od rfl), (od rfl), (od rfl), nof, fun _ => ⟨fun _ => ⟨31, fun _ => ⟨(od rfl), (od rfl), (od rfl), (od rfl), (od rfl), (od rfl), (od rfl), (od rfl), (od rfl), (od rfl), (od rfl), (od rfl), (od rfl), (od rfl), (od rfl), (od rfl), (od rfl), (od rfl), (od rfl), (od rfl), fun _ => ⟨(od rfl), (od rfl), (od rfl), (od rfl), (od rfl), (od rfl), (od rfl), (od rfl), (od rfl), (od rfl), (od rfl), (od rfl), (od rfl), (od rfl), (od rfl), (od rfl), (od rfl), (od rfl), (od rfl), (od rfl), fun _ => ⟨(od rfl), (od rfl), (od rfl), (od rfl), (od rfl), (od rfl), (od rfl), (od rfl), (od rfl), (od rfl), (od rfl), (od rfl), (od rfl), (od rfl), (od rfl), (od rfl), (od rfl), (od rfl), (od rfl), (od rfl), nof, fun _ => ⟨nof, fun _ => ⟨31, fun _ => ⟨(od rfl), (od rfl), (od rfl), (od rfl), fun _ => ⟨(od rfl), (od rfl), (od rfl), (od rfl), fun _ => ⟨(od rfl), (od rfl), (od rfl), (od rfl), nof, fun _ => ⟨(hp0), 31, fun _ => ⟨31, fun _ => ⟨(od rfl), (od rfl), (od rfl), (od rfl), (hp1), (od rfl), (od rfl), (od rfl), (od rfl), fun _ => ⟨(od rfl), (od rfl), (od rfl), (od rfl), (hp1), (od rfl), (od rfl), (od rfl), (od rfl), fun _ => ⟨(od rfl), (od rfl), (od rfl), (od rfl), (hp1), (od rfl), (od rfl), (od rfl), (od rfl), nof, fun _ => ⟨fun _ => ⟨31, fun _ => ⟨(od rfl), (od rfl), (od rfl), (od rfl), (hp1), (od rfl), (od rfl), (od rfl), (od rfl), fun _ => ⟨(od rfl), (od rfl), (od rfl), (od rfl), (hp1), (od rfl), (od rfl), (od rfl), (od rfl), fun _ => ⟨(od rfl), (od rfl), (od rfl), (od rfl), (hp1), (od rfl), (od rfl), (od rfl), (od rfl), nof, fun _ => ⟨fun _ => ⟨31, fun _ => ⟨(od rfl), (od rfl), (od rfl), (od rfl), (hp1), (od rfl), (od rfl), (od rfl), (od rfl), fun _ => ⟨(od rfl), (od rfl), (od rfl), (od rfl), (hp1), (od rfl), (od rfl), (od rfl), (od rfl), fun _ => ⟨(od rfl), (od rfl), (od rfl), (od rfl), (hp1), (od rfl), (od rfl), (od rfl), (od rfl), nof, fun _ => ⟨nof, fun _ => ⟨(hp1), h⟩⟩⟩, fun e => Bool.noConfusion (show true = false from e)⟩, fun e => Bool.noConfusion (show true = false from e)⟩, fun e => Bool.noConfusion (show true = false from e)⟩, fun e => Bool.noConfusion (show true = false from e)⟩⟩, fun e => Bool.noConfusion (show true = false from e)⟩, fun e => Bool.noConfusion (show true = false from e)⟩, fun e => Bool.noConfusion (show true = false from e)⟩, fun e => Bool.noConfusion (show true = false from e)⟩⟩, fun e => Bool.noConfusion (show true = false from e)⟩, fun e => Bool.noConfusion (show true = false from e)⟩, fun e => Bool.noConfusion (show true = false from e)⟩, fun e => Bool.noConfusion (show true = false from e)⟩⟩, fun e => Bool.noConfusion (show true = false from e)⟩, fun e => Bool.noConfusion (show true = false from e)⟩, fun e => Bool.noConfusion (show true = false from e)⟩⟩⟩, fun e => Bool.noConfusion (show true = false from e)⟩, fun e => Bool.noConfusion (show true = false from e)⟩, fun e => Bool.noConfusion (show true = false from e)⟩, fun e => Bool.noConfusion (show true = false from e)⟩⟩, fun e => Bool.noConfusion (show true = false from e)⟩, fun e => Bool.noConfusion (show true = false from e)⟩, fun e => Bool.noConfusion (show true = false from e)⟩, fun e => Bool.noConfusion (show true = false from e)⟩⟩, fun e => Bool.noConfusion (show true = false from e)⟩, fun e => Bool.noConfusion (show true = false from e)⟩, fun e => Bool.noConfusion (show true = false from e)⟩, fun e => Bool.noConfusion (show true = false from e)⟩
theorem den_step {a x : Int} (ha : 0 ≤ a ∧ a ≤ 1000) (hx : v_in 1000000 x) : IntKind.i64.wrap ((IntKind.i64.wrap (a * (1000 * x))).tdiv 1000) = a * x := by
  have g := mul_abs (x := a) (y := x) (a := 1000) (b := 1000000) (by omega) ha.2 hx.1 hx.2
  have e : a * (1000 * x) = a * x * 1000 := by rw [Int.mul_comm 1000 x, Int.mul_assoc]
  rw [e, wrap_id (n := a * x * 1000) (by omega) (by omega), Int.mul_tdiv_cancel _ (by decide), wrap_id (by omega) (by omega)]
theorem tx_inv1w {m : M3} (h : v_mat m) : ((((IntKind.i64.wrap (1000 * IntKind.i64.wrap (IntKind.i64.wrap (m.2.1.2.1 * m.2.2.2.2) - IntKind.i64.wrap (m.2.1.2.2 * m.2.2.2.1))), IntKind.i64.wrap (1000 * IntKind.i64.wrap (IntKind.i64.wrap (m.2.2.2.1 * m.1.2.2) - IntKind.i64.wrap (m.2.2.2.2 * m.1.2.1))), IntKind.i64.wrap (1000 * IntKind.i64.wrap (IntKind.i64.wrap (m.1.2.1 * m.2.1.2.2) - IntKind.i64.wrap (m.1.2.2 * m.2.1.2.1)))), (IntKind.i64.wrap (1000 * IntKind.i64.wrap (IntKind.i64.wrap (m.2.1.2.2 * m.2.2.1) - IntKind.i64.wrap (m.2.1.1 * m.2.2.2.2))), IntKind.i64.wrap (1000 * IntKind.i64.wrap (IntKind.i64.wrap (m.2.2.2.2 * m.1.1) - IntKind.i64.wrap (m.2.2.1 * m.1.2.2))), IntKind.i64.wrap (1000 * IntKind.i64.wrap (IntKind.i64.wrap (m.1.2.2 * m.2.1.1) - IntKind.i64.wrap (m.1.1 * m.2.1.2.2)))), (IntKind.i64.wrap (1000 * IntKind.i64.wrap (IntKind.i64.wrap (m.2.1.1 * m.2.2.2.1) - IntKind.i64.wrap (m.2.1.2.1 * m.2.2.1))), IntKind.i64.wrap (1000 * IntKind.i64.wrap (IntKind.i64.wrap (m.2.2.1 * m.1.2.1) - IntKind.i64.wrap (m.2.2.2.1 * m.1.1))), IntKind.i64.wrap (1000 * IntKind.i64.wrap (IntKind.i64.wrap (m.1.1 * m.2.1.2.1) - IntKind.i64.wrap (m.1.2.1 * m.2.1.1))))), IntKind.i64.wrap (IntKind.i64.wrap (IntKind.i64.wrap (0 + IntKind.i64.wrap ((IntKind.i64.wrap (m.1.1 * IntKind.i64.wrap (1000 * IntKind.i64.wrap (IntKind.i64.wrap (m.2.1.2.1 * m.2.2.2.2) - IntKind.i64.wrap (m.2.1.2.2 * m.2.2.2.1))))).tdiv 1000)) + IntKind.i64.wrap ((IntKind.i64.wrap (m.1.2.1 * IntKind.i64.wrap (1000 * IntKind.i64.wrap (IntKind.i64.wrap (m.2.1.2.2 * m.2.2.1) - IntKind.i64.wrap (m.2.1.1 * m.2.2.2.2))))).tdiv 1000)) + IntKind.i64.wrap ((IntKind.i64.wrap (m.1.2.2 * IntKind.i64.wrap (1000 * IntKind.i64.wrap (IntKind.i64.wrap (m.2.1.1 * m.2.2.2.1) - IntKind.i64.wrap (m.2.1.2.1 * m.2.2.1))))).tdiv 1000))) : CI) = v_inv0 m := by
  obtain ⟨⟨a0, a1, a2⟩, ⟨b0, b1, b2⟩, ⟨c0, c1, c2⟩⟩ := tx_cof h
  have d := tx_det h
  have a := h.c0
  have b := h.c1
  have c := h.c2
  have s0 := den_step a.x0 a0
  have s1 := den_step b.x0 b0
  have s2 := den_step c.x0 c0
  unfold v_in at *
  rw [(tx_w2 b.y0 c.z0 c.y0 b.z0).1, (tx_w2 b.z0 c.x0 c.z0 b.x0).1, (tx_w2 b.x0 c.y0 c.x0 b.y0).1, (tx_w2 c.y0 a.z0 a.y0 c.z0).1, (tx_w2 c.z0 a.x0 a.z0 c.x0).1, (tx_w2 c.x0 a.y0 a.x0 c.y0).1, (tx_w2 a.y0 b.z0 b.y0 a.z0).1, (tx_w2 a.z0 b.x0 b.z0 a.x0).1, (tx_w2 a.x0 b.y0 b.x0 a.y0).1]
  simp only [v_cof] at a0 a1 a2 b0 b1 b2 c0 c1 c2 s0 s1 s2
  simp only [v_det, v_cof] at d
  rw [wrap_id (n := 1000 * (m.2.1.2.1 * m.2.2.2.2 - m.2.1.2.2 * m.2.2.2.1)) (by omega) (by omega), wrap_id (n := 1000 * (m.2.2.2.1 * m.1.2.2 - m.2.2.2.2 * m.1.2.1)) (by omega) (by omega), wrap_id (n := 1000 * (m.1.2.1 * m.2.1.2.2 - m.1.2.2 * m.2.1.2.1)) (by omega) (by omega), wrap_id (n := 1000 * (m.2.1.2.2 * m.2.2.1 - m.2.1.1 * m.2.2.2.2)) (by omega) (by omega), wrap_id (n := 1000 * (m.2.2.2.2 * m.1.1 - m.2.2.1 * m.1.2.2)) (by omega) (by omega), wrap_id (n := 1000 * (m.1.2.2 * m.2.1.1 - m.1.1 * m.2.1.2.2)) (by omega) (by omega), wrap_id (n := 1000 * (m.2.1.1 * m.2.2.2.1 - m.2.1.2.1 * m.2.2.1)) (by omega) (by omega), wrap_id (n := 1000 * (m.2.2.1 * m.1.2.1 - m.2.2.2.1 * m.1.1)) (by omega) (by omega), wrap_id (n := 1000 * (m.1.1 * m.2.1.2.1 - m.1.2.1 * m.2.1.1)) (by omega) (by omega)]
  rw [s0, s1, s2]
  simp only [w_add_l, Int.zero_add]
  rw [wrap_id (by omega) (by omega)]
  rfl
theorem tx_tdivs (x : CI) (h : v_ci x) : ((((IntKind.i64.wrap (x.1.1.1.tdiv (v_div x)), IntKind.i64.wrap (x.1.1.2.1.tdiv (v_div x)), IntKind.i64.wrap (x.1.1.2.2.tdiv (v_div x))), (IntKind.i64.wrap (x.1.2.1.1.tdiv (v_div x)), IntKind.i64.wrap (x.1.2.1.2.1.tdiv (v_div x)), IntKind.i64.wrap (x.1.2.1.2.2.tdiv (v_div x))), (IntKind.i64.wrap (x.1.2.2.1.tdiv (v_div x)), IntKind.i64.wrap (x.1.2.2.2.1.tdiv (v_div x)), IntKind.i64.wrap (x.1.2.2.2.2.tdiv (v_div x)))), IntKind.i64.wrap (x.2.tdiv (v_div x))) : CI) = v_lowest x := by
  have a0 := h.r0.a
  have a1 := h.r0.b
  have a2 := h.r0.c
  have b0 := h.r1.a
  have b1 := h.r1.b
  have b2 := h.r1.c
  have c0 := h.r2.a
  have c1 := h.r2.b
  have c2 := h.r2.c
  have d := h.den
  rw [w_tdiv (a := x.1.1.1) (by omega), w_tdiv (a := x.1.1.2.1) (by omega), w_tdiv (a := x.1.1.2.2) (by omega), w_tdiv (a := x.1.2.1.1) (by omega), w_tdiv (a := x.1.2.1.2.1) (by omega), w_tdiv (a := x.1.2.1.2.2) (by omega), w_tdiv (a := x.1.2.2.1) (by omega), w_tdiv (a := x.1.2.2.2.1) (by omega), w_tdiv (a := x.1.2.2.2.2) (by omega), w_tdiv (a := x.2) (by omega)]
  rfl
abbrev t_ref06_Inverse (p0 : CR) : CI := v_inv p0
abbrev qre_ref06_Inverse (p0 : CR) : List Prop := [v_rules p0]
theorem pp_ref06_Inverse (p0 : CR) (hq : ∀ p ∈ qre_ref06_Inverse p0, p) : ∀ p ∈ pre_ref06_Inverse p0, p := by
  have hv := (conj_of hq).1
  have hc := tx_inv0 (tx_mat hv)
  have hd := v_div_in hc.den.1
  intro p hp
  simp only [pre_ref06_Inverse, List.mem_cons, List.not_mem_nil, or_false] at hp
  rcases hp with rfl | rfl
  · rw [tx_inv1w (tx_mat hv)]; first | exact hc | omega
  · rw [tx_inv1w (tx_mat hv)]; first | exact hc | omega
theorem tt_ref06_Inverse (p0 : CR) (hq : ∀ p ∈ qre_ref06_Inverse p0, p) : s_ref06_Inverse p0 = t_ref06_Inverse p0 := by
  have hv := (conj_of hq).1
  have hc := tx_inv0 (tx_mat hv)
  unfold s_ref06_Inverse t_ref06_Inverse v_inv
  rw [← tx_tdivs _ hc, ← tx_inv1w (tx_mat hv)]

abbrev con_ref06_Inverse : Con := ⟨P_ref06_Inverse, R_ref06_Inverse, fun x => qre_ref06_Inverse x, fun x => t_ref06_Inverse x⟩
theorem ok_ref06_Inverse : ConOk Try.prog 67 con_ref06_Inverse := ⟨k_ref06_Inverse, fun x hx => ret_tf (ps := P_ref06_Inverse) (rs := R_ref06_Inverse) (x := x) (y := t_ref06_Inverse x) e_ref06_Inverse hC_ref06_Inverse (tf_of (w_ref06_Inverse_eq x (fun z => z = t_ref06_Inverse x)) (d_ref06_Inverse x (fun z => z = t_ref06_Inverse x) (pp_ref06_Inverse x hx) (tt_ref06_Inverse x hx)))⟩
/- ref06_product -/
def C_ref06_product : Cons := [(91, [], con_ref06_rounded)]
theorem hC_ref06_product : ConsOk Try.prog C_ref06_product := ConsOk.cons ok_ref06_rounded <| ConsOk.nil
def w_ref06_product (p0 : M3) (p1 : R3) (p2 : Int) (K : R3 → Prop) : Prop :=
 (∃ n0, (loopP (fun (y1 : (Int × (Int × (Int × (Int × (Int × (Int × Int))))))) k2 =>
    ((((decide (y1.1 < (3 : Int))) = true) →
    (∃ n3, (loopP (fun (y4 : (Int × (Int × Int))) k5 =>
        ((((decide (y4.1 < (3 : Int))) = true) →
        (((0 : Int) ≤ y1.1) ∧
          ((y1.1 < (3 : Int)) ∧
          (((0 : Int) ≤ y4.1) ∧
          ((y4.1 < (3 : Int)) ∧
          ((((decide ((List.getD ((List.getD (p0.1.1 :: (p0.2.1.1 :: (p0.2.2.1 :: ([] : List Int)))) (Int.toNat y1.1) (0 : Int)) :: ((List.getD (p0.1.2.1 :: (p0.2.1.2.1 :: (p0.2.2.2.1 :: ([] : List Int)))) (Int.toNat y1.1) (0 : Int)) :: ((List.getD (p0.1.2.2 :: (p0.2.1.2.2 :: (p0.2.2.2.2 :: ([] : List Int)))) (Int.toNat y1.1) (0 : Int)) :: ([] : List Int)))) (Int.toNat y4.1) (0 : Int)) ≥ (0 : Int))) = true) →
          (((0 : Int) ≤ y1.1) ∧
            ((y1.1 < (3 : Int)) ∧
            (((0 : Int) ≤ y4.1) ∧
            ((y4.1 < (3 : Int)) ∧
            (((0 : Int) ≤ y4.1) ∧
            ((y4.1 < (3 : Int)) ∧
            (((0 : Int) ≤ y1.1) ∧
            ((y1.1 < (3 : Int)) ∧
            (((0 : Int) ≤ y4.1) ∧
            ((y4.1 < (3 : Int)) ∧
            (((0 : Int) ≤ y4.1) ∧
            ((y4.1 < (3 : Int)) ∧
            (k5 ((IntKind.i64.wrap (y4.1 + (1 : Int))), ((IntKind.i64.wrap (y4.2.1 + (IntKind.i64.wrap ((List.getD ((List.getD (p0.1.1 :: (p0.2.1.1 :: (p0.2.2.1 :: ([] : List Int)))) (Int.toNat y1.1) (0 : Int)) :: ((List.getD (p0.1.2.1 :: (p0.2.1.2.1 :: (p0.2.2.2.1 :: ([] : List Int)))) (Int.toNat y1.1) (0 : Int)) :: ((List.getD (p0.1.2.2 :: (p0.2.1.2.2 :: (p0.2.2.2.2 :: ([] : List Int)))) (Int.toNat y1.1) (0 : Int)) :: ([] : List Int)))) (Int.toNat y4.1) (0 : Int)) * (List.getD (p1.1.2 :: (p1.2.1.2 :: (p1.2.2.2 :: ([] : List Int)))) (Int.toNat y4.1) (0 : Int)))))), (IntKind.i64.wrap (y4.2.2 + (IntKind.i64.wrap ((List.getD ((List.getD (p0.1.1 :: (p0.2.1.1 :: (p0.2.2.1 :: ([] : List Int)))) (Int.toNat y1.1) (0 : Int)) :: ((List.getD (p0.1.2.1 :: (p0.2.1.2.1 :: (p0.2.2.2.1 :: ([] : List Int)))) (Int.toNat y1.1) (0 : Int)) :: ((List.getD (p0.1.2.2 :: (p0.2.1.2.2 :: (p0.2.2.2.2 :: ([] : List Int)))) (Int.toNat y1.1) (0 : Int)) :: ([] : List Int)))) (Int.toNat y4.1) (0 : Int)) * (List.getD (p1.1.1 :: (p1.2.1.1 :: (p1.2.2.1 :: ([] : List Int)))) (Int.toNat y4.1) (0 : Int)))))))))))))))))))))) ∧
          (((decide ((List.getD ((List.getD (p0.1.1 :: (p0.2.1.1 :: (p0.2.2.1 :: ([] : List Int)))) (Int.toNat y1.1) (0 : Int)) :: ((List.getD (p0.1.2.1 :: (p0.2.1.2.1 :: (p0.2.2.2.1 :: ([] : List Int)))) (Int.toNat y1.1) (0 : Int)) :: ((List.getD (p0.1.2.2 :: (p0.2.1.2.2 :: (p0.2.2.2.2 :: ([] : List Int)))) (Int.toNat y1.1) (0 : Int)) :: ([] : List Int)))) (Int.toNat y4.1) (0 : Int)) ≥ (0 : Int))) = false) →
          (((0 : Int) ≤ y1.1) ∧
            ((y1.1 < (3 : Int)) ∧
            (((0 : Int) ≤ y4.1) ∧
            ((y4.1 < (3 : Int)) ∧
            (((0 : Int) ≤ y4.1) ∧
            ((y4.1 < (3 : Int)) ∧
            (((0 : Int) ≤ y1.1) ∧
            ((y1.1 < (3 : Int)) ∧
            (((0 : Int) ≤ y4.1) ∧
            ((y4.1 < (3 : Int)) ∧
            (((0 : Int) ≤ y4.1) ∧
            ((y4.1 < (3 : Int)) ∧
            (k5 ((IntKind.i64.wrap (y4.1 + (1 : Int))), ((IntKind.i64.wrap (y4.2.1 + (IntKind.i64.wrap ((List.getD ((List.getD (p0.1.1 :: (p0.2.1.1 :: (p0.2.2.1 :: ([] : List Int)))) (Int.toNat y1.1) (0 : Int)) :: ((List.getD (p0.1.2.1 :: (p0.2.1.2.1 :: (p0.2.2.2.1 :: ([] : List Int)))) (Int.toNat y1.1) (0 : Int)) :: ((List.getD (p0.1.2.2 :: (p0.2.1.2.2 :: (p0.2.2.2.2 :: ([] : List Int)))) (Int.toNat y1.1) (0 : Int)) :: ([] : List Int)))) (Int.toNat y4.1) (0 : Int)) * (List.getD (p1.1.1 :: (p1.2.1.1 :: (p1.2.2.1 :: ([] : List Int)))) (Int.toNat y4.1) (0 : Int)))))), (IntKind.i64.wrap (y4.2.2 + (IntKind.i64.wrap ((List.getD ((List.getD (p0.1.1 :: (p0.2.1.1 :: (p0.2.2.1 :: ([] : List Int)))) (Int.toNat y1.1) (0 : Int)) :: ((List.getD (p0.1.2.1 :: (p0.2.1.2.1 :: (p0.2.2.2.1 :: ([] : List Int)))) (Int.toNat y1.1) (0 : Int)) :: ((List.getD (p0.1.2.2 :: (p0.2.1.2.2 :: (p0.2.2.2.2 :: ([] : List Int)))) (Int.toNat y1.1) (0 : Int)) :: ([] : List Int)))) (Int.toNat y4.1) (0 : Int)) * (List.getD (p1.1.2 :: (p1.2.1.2 :: (p1.2.2.2 :: ([] : List Int)))) (Int.toNat y4.1) (0 : Int)))))))))))))))))))))))))))) ∧
        (((decide (y4.1 < (3 : Int))) = false) →
        ((p2 ≠ (0 : Int)) ∧
          (((0 : Int) ≤ y1.1) ∧
          ((y1.1 < (3 : Int)) ∧
          (k2 ((IntKind.i64.wrap (y1.1 + (1 : Int))), ((cond (decide (y1.1 = (0 : Int))) (s_counts_rounded (y4.2.2, y4.2.1) p2).1 y1.2.1), ((cond (decide (y1.1 = (0 : Int))) (s_counts_rounded (y4.2.2, y4.2.1) p2).2 y1.2.2.1), ((cond (decide (y1.1 = (1 : Int))) (s_counts_rounded (y4.2.2, y4.2.1) p2).1 y1.2.2.2.1), ((cond (decide (y1.1 = (1 : Int))) (s_counts_rounded (y4.2.2, y4.2.1) p2).2 y1.2.2.2.2.1), ((cond (decide (y1.1 = (2 : Int))) (s_counts_rounded (y4.2.2, y4.2.1) p2).1 y1.2.2.2.2.2.1), (cond (decide (y1.1 = (2 : Int))) (s_counts_rounded (y4.2.2, y4.2.1) p2).2 y1.2.2.2.2.2.2)))))))))))))) n3 ((0 : Int), ((0 : Int), (0 : Int)))))) ∧
    (((decide (y1.1 < (3 : Int))) = false) →
    (K ((y1.2.1, y1.2.2.1), ((y1.2.2.2.1, y1.2.2.2.2.1), y1.2.2.2.2.2)))))) n0 ((0 : Int), ((0 : Int), ((0 : Int), ((0 : Int), ((0 : Int), ((0 : Int), (0 : Int)))))))))
set_option maxHeartbeats 4000000 in
theorem w_ref06_product_eq (p0 : M3) (p1 : R3) (p2 : Int) (K : R3 → Prop) : tfn F_ref06_product A_ref06_product C_ref06_product P_ref06_product R_ref06_product (p0, p1, p2) K = w_ref06_product p0 p1 p2 K := by kernel_rfl
theorem loop4 {σ : Type} {body : σ → (σ → Prop) → Prop} {x0 : σ} (x1 x2 x3 : σ) (h0 : ∀ k : σ → Prop, k x1 → body x0 k) (h1 : ∀ k : σ → Prop, k x2 → body x1 k) (h2 : ∀ k : σ → Prop, k x3 → body x2 k) (h3 : ∀ k : σ → Prop, body x3 k) : loopP body 4 x0 :=
  h0 _ (h1 _ (h2 _ (h3 _)))
theorem pstep {A l : Int × Int} {n j : Int} {k : Int × Int × Int → Prop} (hk : k (j, (s_counts_sum A (s_counts_times l n)).2, (s_counts_sum A (s_counts_times l n)).1)) :
    (decide (n ≥ 0) = true → k (j, IntKind.i64.wrap (A.2 + IntKind.i64.wrap (n * l.2)), IntKind.i64.wrap (A.1 + IntKind.i64.wrap (n * l.1)))) ∧ (decide (n ≥ 0) = false → k (j, IntKind.i64.wrap (A.2 + IntKind.i64.wrap (n * l.1)), IntKind.i64.wrap (A.1 + IntKind.i64.wrap (n * l.2)))) := by
  refine ⟨fun e => ?_, fun e => ?_⟩
  · have e := of_decide_eq_true e
    unfold s_counts_sum s_counts_times at hk
    rw [decide_eq_false (show ¬ n < 0 by omega)] at hk
    exact hk
  · have e := of_decide_eq_false e
    unfold s_counts_sum s_counts_times at hk
    rw [decide_eq_true (show n < 0 by omega)] at hk
    exact hk
def s_ref06_product (p0 : M3) (p1 : R3) (p2 : Int) : R3 := s_counts_product p0 p1 p2
abbrev pre_ref06_product (_ : M3) (_ : R3) (p2 : Int) : List Prop := [p2 ≠ 0]
theorem d_ref06_product (p0 : M3) (p1 : R3) (p2 : Int) (K : R3 → Prop) (hp : ∀ p ∈ pre_ref06_product p0 p1 p2, p) (h : K (s_ref06_product p0 p1 p2)) : w_ref06_product p0 p1 p2 K := by
  have hz : p2 ≠ 0 := (conj_of hp).1
  unfold w_ref06_product
  refine ⟨4, loop4 ((1 : Int), (s_counts_rounded (s_counts_sum (s_counts_sum (s_counts_sum ((0 : Int), (0 : Int)) (s_counts_times p1.1 p0.1.1)) (s_counts_times p1.2.1 p0.1.2.1)) (s_counts_times p1.2.2 p0.1.2.2)) p2).1, (s_counts_rounded (s_counts_sum (s_counts_sum (s_counts_sum ((0 : Int), (0 : Int)) (s_counts_times p1.1 p0.1.1)) (s_counts_times p1.2.1 p0.1.2.1)) (s_counts_times p1.2.2 p0.1.2.2)) p2).2, (0 : Int), (0 : Int), (0 : Int), (0 : Int)) ((2 : Int), (s_counts_rounded (s_counts_sum (s_counts_sum (s_counts_sum ((0 : Int), (0 : Int)) (s_counts_times p1.1 p0.1.1)) (s_counts_times p1.2.1 p0.1.2.1)) (s_counts_times p1.2.2 p0.1.2.2)) p2).1, (s_counts_rounded (s_counts_sum (s_counts_sum (s_counts_sum ((0 : Int), (0 : Int)) (s_counts_times p1.1 p0.1.1)) (s_counts_times p1.2.1 p0.1.2.1)) (s_counts_times p1.2.2 p0.1.2.2)) p2).2, (s_counts_rounded (s_counts_sum (s_counts_sum (s_counts_sum ((0 : Int), (0 : Int)) (s_counts_times p1.1 p0.2.1.1)) (s_counts_times p1.2.1 p0.2.1.2.1)) (s_counts_times p1.2.2 p0.2.1.2.2)) p2).1, (s_counts_rounded (s_counts_sum (s_counts_sum (s_counts_sum ((0 : Int), (0 : Int)) (s_counts_times p1.1 p0.2.1.1)) (s_counts_times p1.2.1 p0.2.1.2.1)) (s_counts_times p1.2.2 p0.2.1.2.2)) p2).2, (0 : Int), (0 : Int)) ((3 : Int), (s_counts_rounded (s_counts_sum (s_counts_sum (s_counts_sum ((0 : Int), (0 : Int)) (s_counts_times p1.1 p0.1.1)) (s_counts_times p1.2.1 p0.1.2.1)) (s_counts_times p1.2.2 p0.1.2.2)) p2).1, (s_counts_rounded (s_counts_sum (s_counts_sum (s_counts_sum ((0 : Int), (0 : Int)) (s_counts_times p1.1 p0.1.1)) (s_counts_times p1.2.1 p0.1.2.1)) (s_counts_times p1.2.2 p0.1.2.2)) p2).2, (s_counts_rounded (s_counts_sum (s_counts_sum (s_counts_sum ((0 : Int), (0 : Int)) (s_counts_times p1.1 p0.2.1.1)) (s_counts_times p1.2.1 p0.2.1.2.1)) (s_counts_times p1.2.2 p0.2.1.2.2)) p2).1, (s_counts_rounded (s_counts_sum (s_counts_sum (s_counts_sum ((0 : Int), (0 : Int)) (s_counts_times p1.1 p0.2.1.1)) (s_counts_times p1.2.1 p0.2.1.2.1)) (s_counts_times p1.2.2 p0.2.1.2.2)) p2).2, (s_counts_rounded (s_counts_sum (s_counts_sum (s_counts_sum ((0 : Int), (0 : Int)) (s_counts_times p1.1 p0.2.2.1)) (s_counts_times p1.2.1 p0.2.2.2.1)) (s_counts_times p1.2.2 p0.2.2.2.2)) p2).1, (s_counts_rounded (s_counts_sum (s_counts_sum (s_counts_sum ((0 : Int), (0 : Int)) (s_counts_times p1.1 p0.2.2.1)) (s_counts_times p1.2.1 p0.2.2.2.1)) (s_counts_times p1.2.2 p0.2.2.2.2)) p2).2) (fun k hk => ?_) (fun k hk => ?_) (fun k hk => ?_) (fun k => ⟨nof, fun _ => h⟩)⟩
  · refine ⟨fun _ => ⟨4, loop4 ((1 : Int), (s_counts_sum ((0 : Int), (0 : Int)) (s_counts_times p1.1 p0.1.1)).2, (s_counts_sum ((0 : Int), (0 : Int)) (s_counts_times p1.1 p0.1.1)).1) ((2 : Int), (s_counts_sum (s_counts_sum ((0 : Int), (0 : Int)) (s_counts_times p1.1 p0.1.1)) (s_counts_times p1.2.1 p0.1.2.1)).2, (s_counts_sum (s_counts_sum ((0 : Int), (0 : Int)) (s_counts_times p1.1 p0.1.1)) (s_counts_times p1.2.1 p0.1.2.1)).1) ((3 : Int), (s_counts_sum (s_counts_sum (s_counts_sum ((0 : Int), (0 : Int)) (s_counts_times p1.1 p0.1.1)) (s_counts_times p1.2.1 p0.1.2.1)) (s_counts_times p1.2.2 p0.1.2.2)).2, (s_counts_sum (s_counts_sum (s_counts_sum ((0 : Int), (0 : Int)) (s_counts_times p1.1 p0.1.1)) (s_counts_times p1.2.1 p0.1.2.1)) (s_counts_times p1.2.2 p0.1.2.2)).1) (fun k5 hk5 => ?_) (fun k5 hk5 => ?_) (fun k5 hk5 => ?_) (fun k5 => ⟨nof, fun _ => ⟨hz, of_decide_eq_true rfl, of_decide_eq_true rfl, hk⟩⟩)⟩, fun e => Bool.noConfusion (show true = false from e)⟩
    · have g := pstep (A := ((0 : Int), (0 : Int))) (l := p1.1) (n := p0.1.1) (j := (1 : Int)) (k := k5) hk5
      exact ⟨fun _ => ⟨of_decide_eq_true rfl, of_decide_eq_true rfl, of_decide_eq_true rfl, of_decide_eq_true rfl, fun e => ⟨of_decide_eq_true rfl, of_decide_eq_true rfl, of_decide_eq_true rfl, of_decide_eq_true rfl, of_decide_eq_true rfl, of_decide_eq_true rfl, of_decide_eq_true rfl, of_decide_eq_true rfl, of_decide_eq_true rfl, of_decide_eq_true rfl, of_decide_eq_true rfl, of_decide_eq_true rfl, g.1 e⟩, fun e => ⟨of_decide_eq_true rfl, of_decide_eq_true rfl, of_decide_eq_true rfl, of_decide_eq_true rfl, of_decide_eq_true rfl, of_decide_eq_true rfl, of_decide_eq_true rfl, of_decide_eq_true rfl, of_decide_eq_true rfl, of_decide_eq_true rfl, of_decide_eq_true rfl, of_decide_eq_true rfl, g.2 e⟩⟩, fun e => Bool.noConfusion (show true = false from e)⟩
    · have g := pstep (A := (s_counts_sum ((0 : Int), (0 : Int)) (s_counts_times p1.1 p0.1.1))) (l := p1.2.1) (n := p0.1.2.1) (j := (2 : Int)) (k := k5) hk5
      exact ⟨fun _ => ⟨of_decide_eq_true rfl, of_decide_eq_true rfl, of_decide_eq_true rfl, of_decide_eq_true rfl, fun e => ⟨of_decide_eq_true rfl, of_decide_eq_true rfl, of_decide_eq_true rfl, of_decide_eq_true rfl, of_decide_eq_true rfl, of_decide_eq_true rfl, of_decide_eq_true rfl, of_decide_eq_true rfl, of_decide_eq_true rfl, of_decide_eq_true rfl, of_decide_eq_true rfl, of_decide_eq_true rfl, g.1 e⟩, fun e => ⟨of_decide_eq_true rfl, of_decide_eq_true rfl, of_decide_eq_true rfl, of_decide_eq_true rfl, of_decide_eq_true rfl, of_decide_eq_true rfl, of_decide_eq_true rfl, of_decide_eq_true rfl, of_decide_eq_true rfl, of_decide_eq_true rfl, of_decide_eq_true rfl, of_decide_eq_true rfl, g.2 e⟩⟩, fun e => Bool.noConfusion (show true = false from e)⟩
    · have g := pstep (A := (s_counts_sum (s_counts_sum ((0 : Int), (0 : Int)) (s_counts_times p1.1 p0.1.1)) (s_counts_times p1.2.1 p0.1.2.1))) (l := p1.2.2) (n := p0.1.2.2) (j := (3 : Int)) (k := k5) hk5
      exact ⟨fun _ => ⟨of_decide_eq_true rfl, of_decide_eq_true rfl, of_decide_eq_true rfl, of_decide_eq_true rfl, fun e => ⟨of_decide_eq_true rfl, of_decide_eq_true rfl, of_decide_eq_true rfl, of_decide_eq_true rfl, of_decide_eq_true rfl, of_decide_eq_true rfl, of_decide_eq_true rfl, of_decide_eq_true rfl, of_decide_eq_true rfl, of_decide_eq_true rfl, of_decide_eq_true rfl, of_decide_eq_true rfl, g.1 e⟩, fun e => ⟨of_decide_eq_true rfl, of_decide_eq_true rfl, of_decide_eq_true rfl, of_decide_eq_true rfl, of_decide_eq_true rfl, of_decide_eq_true rfl, of_decide_eq_true rfl, of_decide_eq_true rfl, of_decide_eq_true rfl, of_decide_eq_true rfl, of_decide_eq_true rfl, of_decide_eq_true rfl, g.2 e⟩⟩, fun e => Bool.noConfusion (show true = false from e)⟩
  · refine ⟨fun _ => ⟨4, loop4 ((1 : Int), (s_counts_sum ((0 : Int), (0 : Int)) (s_counts_times p1.1 p0.2.1.1)).2, (s_counts_sum ((0 : Int), (0 : Int)) (s_counts_times p1.1 p0.2.1.1)).1) ((2 : Int), (s_counts_sum (s_counts_sum ((0 : Int), (0 : Int)) (s_counts_times p1.1 p0.2.1.1)) (s_counts_times p1.2.1 p0.2.1.2.1)).2, (s_counts_sum (s_counts_sum ((0 : Int), (0 : Int)) (s_counts_times p1.1 p0.2.1.1)) (s_counts_times p1.2.1 p0.2.1.2.1)).1) ((3 : Int), (s_counts_sum (s_counts_sum (s_counts_sum ((0 : Int), (0 : Int)) (s_counts_times p1.1 p0.2.1.1)) (s_counts_times p1.2.1 p0.2.1.2.1)) (s_counts_times p1.2.2 p0.2.1.2.2)).2, (s_counts_sum (s_counts_sum (s_counts_sum ((0 : Int), (0 : Int)) (s_counts_times p1.1 p0.2.1.1)) (s_counts_times p1.2.1 p0.2.1.2.1)) (s_counts_times p1.2.2 p0.2.1.2.2)).1) (fun k5 hk5 => ?_) (fun k5 hk5 => ?_) (fun k5 hk5 => ?_) (fun k5 => ⟨nof, fun _ => ⟨hz, of_decide_eq_true rfl, of_decide_eq_true rfl, hk⟩⟩)⟩, fun e => Bool.noConfusion (show true = false from e)⟩
    · have g := pstep (A := ((0 : Int), (0 : Int))) (l := p1.1) (n := p0.2.1.1) (j := (1 : Int)) (k := k5) hk5
      exact ⟨fun _ => ⟨of_decide_eq_true rfl, of_decide_eq_true rfl, of_decide_eq_true rfl, of_decide_eq_true rfl, fun e => ⟨of_decide_eq_true rfl, of_decide_eq_true rfl, of_decide_eq_true rfl, of_decide_eq_true rfl, of_decide_eq_true rfl, of_decide_eq_true rfl, of_decide_eq_true rfl, of_decide_eq_true rfl, of_decide_eq_true rfl, of_decide_eq_true rfl, of_decide_eq_true rfl, of_decide_eq_true rfl, g.1 e⟩, fun e => ⟨of_decide_eq_true rfl, of_decide_eq_true rfl, of_decide_eq_true rfl, of_decide_eq_true rfl, of_decide_eq_true rfl, of_decide_eq_true rfl, of_decide_eq_true rfl, of_decide_eq_true rfl, of_decide_eq_true rfl, of_decide_eq_true rfl, of_decide_eq_true rfl, of_decide_eq_true rfl, g.2 e⟩⟩, fun e => Bool.noConfusion (show true = false from e)⟩
    · have g := pstep (A := (s_counts_sum ((0 : Int), (0 : Int)) (s_counts_times p1.1 p0.2.1.1))) (l := p1.2.1) (n := p0.2.1.2.1) (j := (2 : Int)) (k := k5) hk5
      exact ⟨fun _ => ⟨of_decide_eq_true rfl, of_decide_eq_true rfl, of_decide_eq_true rfl, of_decide_eq_true rfl, fun e => ⟨of_decide_eq_true rfl, of_decide_eq_true rfl, of_decide_eq_true rfl, of_decide_eq_true rfl, of_decide_eq_true rfl, of_decide_eq_true rfl, of_decide_eq_true rfl, of_decide_eq_true rfl, of_decide_eq_true rfl, of_decide_eq_true rfl, of_decide_eq_true rfl, of_decide_eq_true rfl, g.1 e⟩, fun e => ⟨of_decide_eq_true rfl, of_decide_eq_true rfl, of_decide_eq_true rfl, of_decide_eq_true rfl, of_decide_eq_true rfl, of_decide_eq_true rfl, of_decide_eq_true rfl, of_decide_eq_true rfl, of_decide_eq_true rfl, of_decide_eq_true rfl, of_decide_eq_true rfl, of_decide_eq_true rfl, g.2 e⟩⟩, fun e => Bool.noConfusion (show true = false from e)⟩
    · have g := pstep (A := (s_counts_sum (s_counts_sum ((0 : Int), (0 : Int)) (s_counts_times p1.1 p0.2.1.1)) (s_counts_times p1.2.1 p0.2.1.2.1))) (l := p1.2.2) (n := p0.2.1.2.2) (j := (3 : Int)) (k := k5) hk5
      exact ⟨fun _ => ⟨of_decide_eq_true rfl, of_decide_eq_true rfl, of_decide_eq_true rfl, of_decide_eq_true rfl, fun e => ⟨of_decide_eq_true rfl, of_decide_eq_true rfl, of_decide_eq_true rfl, of_decide_eq_true rfl, of_decide_eq_true rfl, of_decide_eq_true rfl, of_decide_eq_true rfl, of_decide_eq_true rfl, of_decide_eq_true rfl, of_decide_eq_true rfl, of_decide_eq_true rfl, of_decide_eq_true rfl, g.1 e⟩, fun e => ⟨of_decide_eq_true rfl, of_decide_eq_true rfl, of_decide_eq_true rfl, of_decide_eq_true rfl, of_decide_eq_true rfl, of_decide_eq_true rfl, of_decide_eq_true rfl, of_decide_eq_true rfl, of_decide_eq_true rfl, of_decide_eq_true rfl, of_decide_eq_true rfl, of_decide_eq_true rfl, g.2 e⟩⟩, fun e => Bool.noConfusion (show true = false from e)⟩
  · refine ⟨fun _ => ⟨4, loop4 ((1 : Int), (s_counts_sum ((0 : Int), (0 : Int)) (s_counts_times p1.1 p0.2.2.1)).2, (s_counts_sum ((0 : Int), (0 : Int)) (s_counts_times p1.1 p0.2.2.1)).1) ((2 : Int), (s_counts_sum (s_counts_sum ((0 : Int), (0 : Int)) (s_counts_times p1.1 p0.2.2.1)) (s_counts_times p1.2.1 p0.2.2.2.1)).2, (s_counts_sum (s_counts_sum ((0 : Int), (0 : Int)) (s_counts_times p1.1 p0.2.2.1)) (s_counts_times p1.2.1 p0.2.2.2.1)).1) ((3 : Int), (s_counts_sum (s_counts_sum (s_counts_sum ((0 : Int), (0 : Int)) (s_counts_times p1.1 p0.2.2.1)) (s_counts_times p1.2.1 p0.2.2.2.1)) (s_counts_times p1.2.2 p0.2.2.2.2)).2, (s_counts_sum (s_counts_sum (s_counts_sum ((0 : Int), (0 : Int)) (s_counts_times p1.1 p0.2.2.1)) (s_counts_times p1.2.1 p0.2.2.2.1)) (s_counts_times p1.2.2 p0.2.2.2.2)).1) (fun k5 hk5 => ?_) (fun k5 hk5 => ?_) (fun k5 hk5 => ?_) (fun k5 => ⟨nof, fun _ => ⟨hz, of_decide_eq_true rfl, of_decide_eq_true rfl, hk⟩⟩)⟩, fun e => Bool.noConfusion (show true = false from e)⟩
    · have g := pstep (A := ((0 : Int), (0 : Int))) (l := p1.1) (n := p0.2.2.1) (j := (1 : Int)) (k := k5) hk5
      exact ⟨fun _ => ⟨of_decide_eq_true rfl, of_decide_eq_true rfl, of_decide_eq_true rfl, of_decide_eq_true rfl, fun e => ⟨of_decide_eq_true rfl, of_decide_eq_true rfl, of_decide_eq_true rfl, of_decide_eq_true rfl, of_decide_eq_true rfl, of_decide_eq_true rfl, of_decide_eq_true rfl, of_decide_eq_true rfl, of_decide_eq_true rfl, of_decide_eq_true rfl, of_decide_eq_true rfl, of_decide_eq_true rfl, g.1 e⟩, fun e => ⟨of_decide_eq_true rfl, of_decide_eq_true rfl, of_decide_eq_true rfl, of_decide_eq_true rfl, of_decide_eq_true rfl, of_decide_eq_true rfl, of_decide_eq_true rfl, of_decide_eq_true rfl, of_decide_eq_true rfl, of_decide_eq_true rfl, of_decide_eq_true rfl, of_decide_eq_true rfl, g.2 e⟩⟩, fun e => Bool.noConfusion (show true = false from e)⟩
    · have g := pstep (A := (s_counts_sum ((0 : Int), (0 : Int)) (s_counts_times p1.1 p0.2.2.1))) (l := p1.2.1) (n := p0.2.2.2.1) (j := (2 : Int)) (k := k5) hk5
      exact ⟨fun _ => ⟨of_decide_eq_true rfl, of_decide_eq_true rfl, of_decide_eq_true rfl, of_decide_eq_true rfl, fun e => ⟨of_decide_eq_true rfl, of_decide_eq_true rfl, of_decide_eq_true rfl, of_decide_eq_true rfl, of_decide_eq_true rfl, of_decide_eq_true rfl, of_decide_eq_true rfl, of_decide_eq_true rfl, of_decide_eq_true rfl, of_decide_eq_true rfl, of_decide_eq_true rfl, of_decide_eq_true rfl, g.1 e⟩, fun e => ⟨of_decide_eq_true rfl, of_decide_eq_true rfl, of_decide_eq_true rfl, of_decide_eq_true rfl, of_decide_eq_true rfl, of_decide_eq_true rfl, of_decide_eq_true rfl, of_decide_eq_true rfl, of_decide_eq_true rfl, of_decide_eq_true rfl, of_decide_eq_true rfl, of_decide_eq_true rfl, g.2 e⟩⟩, fun e => Bool.noConfusion (show true = false from e)⟩
    · have g := pstep (A := (s_counts_sum (s_counts_sum ((0 : Int), (0 : Int)) (s_counts_times p1.1 p0.2.2.1)) (s_counts_times p1.2.1 p0.2.2.2.1))) (l := p1.2.2) (n := p0.2.2.2.2) (j := (3 : Int)) (k := k5) hk5
      exact ⟨fun _ => ⟨of_decide_eq_true rfl, of_decide_eq_true rfl, of_decide_eq_true rfl, of_decide_eq_true rfl, fun e => ⟨of_decide_eq_true rfl, of_decide_eq_true rfl, of_decide_eq_true rfl, of_decide_eq_true rfl, of_decide_eq_true rfl, of_decide_eq_true rfl, of_decide_eq_true rfl, of_decide_eq_true rfl, of_decide_eq_true rfl, of_decide_eq_true rfl, of_decide_eq_true rfl, of_decide_eq_true rfl, g.1 e⟩, fun e => ⟨of_decide_eq_true rfl, of_decide_eq_true rfl, of_decide_eq_true rfl, of_decide_eq_true rfl, of_decide_eq_true rfl, of_decide_eq_true rfl, of_decide_eq_true rfl, of_decide_eq_true rfl, of_decide_eq_true rfl, of_decide_eq_true rfl, of_decide_eq_true rfl, of_decide_eq_true rfl, g.2 e⟩⟩, fun e => Bool.noConfusion (show true = false from e)⟩

abbrev con_ref06_product : Con := ⟨P_ref06_product, R_ref06_product, fun x => pre_ref06_product x.1 x.2.1 x.2.2, fun x => s_ref06_product x.1 x.2.1 x.2.2⟩
theorem ok_ref06_product : ConOk Try.prog 115 con_ref06_product := ⟨k_ref06_product, fun x hx => ret_tf (ps := P_ref06_product) (rs := R_ref06_product) (x := x) (y := s_ref06_product x.1 x.2.1 x.2.2) e_ref06_product hC_ref06_product (tf_of (w_ref06_product_eq x.1 x.2.1 x.2.2 (fun z => z = s_ref06_product x.1 x.2.1 x.2.2)) (d_ref06_product x.1 x.2.1 x.2.2 (fun z => z = s_ref06_product x.1 x.2.1 x.2.2) hx rfl))⟩
/- ref06_Stripped -/
def C_ref06_Stripped : Cons := [(67, [], con_ref06_Inverse), (115, [], con_ref06_product)]
theorem hC_ref06_Stripped : ConsOk Try.prog C_ref06_Stripped := ConsOk.cons ok_ref06_Inverse <| ConsOk.cons ok_ref06_product <| ConsOk.nil
def w_ref06_Stripped (p0 : CR) (p1 : R3) (K : R3 → Prop) : Prop :=
 ((v_rules p0) ∧
  (((v_inv p0).2 ≠ (0 : Int)) ∧
  (K (s_counts_product (v_inv p0).1 p1 (v_inv p0).2))))
set_option maxHeartbeats 4000000 in
theorem w_ref06_Stripped_eq (p0 : CR) (p1 : R3) (K : R3 → Prop) : tfn F_ref06_Stripped A_ref06_Stripped C_ref06_Stripped P_ref06_Stripped R_ref06_Stripped (p0, p1) K = w_ref06_Stripped p0 p1 K := by kernel_rfl
def s_ref06_Stripped (p0 : CR) (p1 : R3) : R3 :=
  (s_counts_product (v_inv p0).1 p1 (v_inv p0).2)
abbrev pre_ref06_Stripped (p0 : CR) (p1 : R3) : List Prop := [(v_rules p0),
    ((v_inv p0).2 ≠ (0 : Int))]
set_option maxHeartbeats 4000000 in
theorem d_ref06_Stripped (p0 : CR) (p1 : R3) (K : R3 → Prop) (hp : ∀ p ∈ pre_ref06_Stripped p0 p1, p) (h : K (s_ref06_Stripped p0 p1)) : w_ref06_Stripped p0 p1 K := by
  unfold w_ref06_Stripped
  unfold s_ref06_Stripped at h
  obtain ⟨hp0, hp1, _⟩ := conj_of hp
  exact ⟨(hp0), (hp1), h⟩
abbrev con_ref06_Stripped : Con := ⟨P_ref06_Stripped, R_ref06_Stripped, fun x => pre_ref06_Stripped x.1 x.2, fun x => s_ref06_Stripped x.1 x.2⟩
theorem ok_ref06_Stripped : ConOk Try.prog 71 con_ref06_Stripped := ⟨k_ref06_Stripped, fun x hx => ret_tf (ps := P_ref06_Stripped) (rs := R_ref06_Stripped) (x := x) (y := s_ref06_Stripped x.1 x.2) e_ref06_Stripped hC_ref06_Stripped (tf_of (w_ref06_Stripped_eq x.1 x.2 (fun z => z = s_ref06_Stripped x.1 x.2)) (d_ref06_Stripped x.1 x.2 (fun z => z = s_ref06_Stripped x.1 x.2) hx rfl))⟩
/- ref06_factor -/
def C_ref06_factor : Cons := []
theorem hC_ref06_factor : ConsOk Try.prog C_ref06_factor := ConsOk.nil
def w_ref06_factor (p0 : CR) (p1 : Int) (K : (Int × Int) → Prop) : Prop :=
 (∃ n0, (loopP (fun (y1 : Int) k2 =>
    (((0 : Int) ≤ y1) ∧
    ((y1 < (((List.length p0.2.2.2.2.2.2.2.2) : Nat) : Int)) ∧
    ((((decide ((List.getD p0.2.2.2.2.2.2.2.2 (Int.toNat y1) ((0 : Int), (0 : Int))).1 < p1)) = true) →
    (k2 (IntKind.i64.wrap (y1 + (1 : Int))))) ∧
    (((decide ((List.getD p0.2.2.2.2.2.2.2.2 (Int.toNat y1) ((0 : Int), (0 : Int))).1 < p1)) = false) →
    (((0 : Int) ≤ (IntKind.i64.wrap (y1 - (1 : Int)))) ∧
      (((IntKind.i64.wrap (y1 - (1 : Int))) < (((List.length p0.2.2.2.2.2.2.2.2) : Nat) : Int)) ∧
      (((0 : Int) ≤ y1) ∧
      ((y1 < (((List.length p0.2.2.2.2.2.2.2.2) : Nat) : Int)) ∧
      (K ((IntKind.i64.wrap ((IntKind.i64.wrap ((List.getD p0.2.2.2.2.2.2.2.2 (Int.toNat (IntKind.i64.wrap (y1 - (1 : Int)))) ((0 : Int), (0 : Int))).2 * (IntKind.i64.wrap ((List.getD p0.2.2.2.2.2.2.2.2 (Int.toNat y1) ((0 : Int), (0 : Int))).1 - (List.getD p0.2.2.2.2.2.2.2.2 (Int.toNat (IntKind.i64.wrap (y1 - (1 : Int)))) ((0 : Int), (0 : Int))).1)))) + (IntKind.i64.wrap ((IntKind.i64.wrap ((List.getD p0.2.2.2.2.2.2.2.2 (Int.toNat y1) ((0 : Int), (0 : Int))).2 - (List.getD p0.2.2.2.2.2.2.2.2 (Int.toNat (IntKind.i64.wrap (y1 - (1 : Int)))) ((0 : Int), (0 : Int))).2)) * (IntKind.i64.wrap (p1 - (List.getD p0.2.2.2.2.2.2.2.2 (Int.toNat (IntKind.i64.wrap (y1 - (1 : Int)))) ((0 : Int), (0 : Int))).1)))))), (IntKind.i64.wrap ((1000 : Int) * (IntKind.i64.wrap ((List.getD p0.2.2.2.2.2.2.2.2 (Int.toNat y1) ((0 : Int), (0 : Int))).1 - (List.getD p0.2.2.2.2.2.2.2.2 (Int.toNat (IntKind.i64.wrap (y1 - (1 : Int)))) ((0 : Int), (0 : Int))).1))))))))))))))) n0 (1 : Int)))
set_option maxHeartbeats 4000000 in
theorem w_ref06_factor_eq (p0 : CR) (p1 : Int) (K : (Int × Int) → Prop) : tfn F_ref06_factor A_ref06_factor C_ref06_factor P_ref06_factor R_ref06_factor (p0, p1) K = w_ref06_factor p0 p1 K := by kernel_rfl
def b_ref06_factor_0 (p0 : CR) (p1 : Int) (K : (Int × Int) → Prop) (y : Int) (k : Int → Prop) : Prop :=
 (((0 : Int) ≤ y) ∧
  ((y < (((List.length p0.2.2.2.2.2.2.2.2) : Nat) : Int)) ∧
  (((decide ((List.getD p0.2.2.2.2.2.2.2.2 (Int.toNat y) ((0 : Int), (0 : Int))).1 < p1)) = true →
    (k (IntKind.i64.wrap (y + (1 : Int))))) ∧
  ((decide ((List.getD p0.2.2.2.2.2.2.2.2 (Int.toNat y) ((0 : Int), (0 : Int))).1 < p1)) = false →
    (((0 : Int) ≤ (IntKind.i64.wrap (y - (1 : Int)))) ∧
    (((IntKind.i64.wrap (y - (1 : Int))) < (((List.length p0.2.2.2.2.2.2.2.2) : Nat) : Int)) ∧
    (((0 : Int) ≤ y) ∧
    ((y < (((List.length p0.2.2.2.2.2.2.2.2) : Nat) : Int)) ∧
    (K ((IntKind.i64.wrap ((IntKind.i64.wrap ((List.getD p0.2.2.2.2.2.2.2.2 (Int.toNat (IntKind.i64.wrap (y - (1 : Int)))) ((0 : Int), (0 : Int))).2 * (IntKind.i64.wrap ((List.getD p0.2.2.2.2.2.2.2.2 (Int.toNat y) ((0 : Int), (0 : Int))).1 - (List.getD p0.2.2.2.2.2.2.2.2 (Int.toNat (IntKind.i64.wrap (y - (1 : Int)))) ((0 : Int), (0 : Int))).1)))) + (IntKind.i64.wrap ((IntKind.i64.wrap ((List.getD p0.2.2.2.2.2.2.2.2 (Int.toNat y) ((0 : Int), (0 : Int))).2 - (List.getD p0.2.2.2.2.2.2.2.2 (Int.toNat (IntKind.i64.wrap (y - (1 : Int)))) ((0 : Int), (0 : Int))).2)) * (IntKind.i64.wrap (p1 - (List.getD p0.2.2.2.2.2.2.2.2 (Int.toNat (IntKind.i64.wrap (y - (1 : Int)))) ((0 : Int), (0 : Int))).1)))))), (IntKind.i64.wrap ((1000 : Int) * (IntKind.i64.wrap ((List.getD p0.2.2.2.2.2.2.2.2 (Int.toNat y) ((0 : Int), (0 : Int))).1 - (List.getD p0.2.2.2.2.2.2.2.2 (Int.toNat (IntKind.i64.wrap (y - (1 : Int)))) ((0 : Int), (0 : Int))).1))))))))))))))
def lp_ref06_factor_0 (p0 : CR) (p1 : Int) (_ : Int) : Int × Int := v_factor p0 p1
abbrev lpre_ref06_factor_0 (p0 : CR) (p1 : Int) (x : Int) : Prop := lpre_counts_rules_factor_0 p0 p1 x
theorem lk_ref06_factor_0 (p0 : CR) (p1 : Int) (x : Int) (K : Int × Int → Prop) (hp : lpre_ref06_factor_0 p0 p1 x) (h : K (lp_ref06_factor_0 p0 p1 x)) : ∃ n, loopP (b_ref06_factor_0 p0 p1 K) n x := lk_counts_rules_factor_0 p0 p1 x K hp h

def s_ref06_factor (p0 : CR) (p1 : Int) : (Int × Int) :=
  (lp_ref06_factor_0 p0 p1 (1 : Int))
abbrev pre_ref06_factor (p0 : CR) (p1 : Int) : List Prop := [(lpre_ref06_factor_0 p0 p1 (1 : Int))]
set_option maxHeartbeats 4000000 in
theorem d_ref06_factor (p0 : CR) (p1 : Int) (K : (Int × Int) → Prop) (hp : ∀ p ∈ pre_ref06_factor p0 p1, p) (h : K (s_ref06_factor p0 p1)) : w_ref06_factor p0 p1 K := by
  unfold w_ref06_factor
  unfold s_ref06_factor at h
  obtain ⟨hp0, _⟩ := conj_of hp
  exact (Exists.imp (fun n hn => loop_mono (fun y k k' hk hy => ⟨hy.1, hy.2.1, fun e0 => (hk _ (hy.2.2.1 e0)), fun e0 => ⟨(hy.2.2.2 e0).1, (hy.2.2.2 e0).2.1, (hy.2.2.2 e0).2.2.1, (hy.2.2.2 e0).2.2.2.1, (hy.2.2.2 e0).2.2.2.2⟩⟩) n _ hn) (lk_ref06_factor_0 p0 p1 (1 : Int) K (hp0) h))
abbrev t_ref06_factor (p0 : CR) (p1 : Int) : Int × Int := v_factor p0 p1
abbrev qre_ref06_factor (p0 : CR) (p1 : Int) : List Prop := [v_rules p0, s_counts_rules_has p0 p1 = true]
theorem pp_ref06_factor (p0 : CR) (p1 : Int) (hq : ∀ p ∈ qre_ref06_factor p0 p1, p) : ∀ p ∈ pre_ref06_factor p0 p1, p := by
  have hv := conj_of hq
  intro p hp
  simp only [pre_ref06_factor, List.mem_cons, List.not_mem_nil, or_false] at hp
  subst hp
  exact ⟨hv.1, hv.2.1, rfl⟩
theorem tt_ref06_factor (p0 : CR) (p1 : Int) (_ : ∀ p ∈ qre_ref06_factor p0 p1, p) : s_ref06_factor p0 p1 = t_ref06_factor p0 p1 := rfl

abbrev con_ref06_factor : Con := ⟨P_ref06_factor, R_ref06_factor, fun x => qre_ref06_factor x.1 x.2, fun x => t_ref06_factor x.1 x.2⟩
theorem ok_ref06_factor : ConOk Try.prog 87 con_ref06_factor := ⟨k_ref06_factor, fun x hx => ret_tf (ps := P_ref06_factor) (rs := R_ref06_factor) (x := x) (y := t_ref06_factor x.1 x.2) e_ref06_factor hC_ref06_factor (tf_of (w_ref06_factor_eq x.1 x.2 (fun z => z = t_ref06_factor x.1 x.2)) (d_ref06_factor x.1 x.2 (fun z => z = t_ref06_factor x.1 x.2) (pp_ref06_factor x.1 x.2 hx) (tt_ref06_factor x.1 x.2 hx)))⟩
/- ref06_Reduced -/
def C_ref06_Reduced : Cons := [(39, [], con_ref06_Net), (71, [], con_ref06_Stripped), (87, [], con_ref06_factor), (91, [], con_ref06_rounded)]
theorem hC_ref06_Reduced : ConsOk Try.prog C_ref06_Reduced := ConsOk.cons ok_ref06_Net <| ConsOk.cons ok_ref06_Stripped <| ConsOk.cons ok_ref06_factor <| ConsOk.cons ok_ref06_rounded <| ConsOk.nil
def w_ref06_Reduced (p0 : CR) (p1 : CS) (K : R3 → Prop) : Prop :=
 ((v_samp p0 p1) ∧
  ((v_rules p0) ∧
  (((v_inv p0).2 ≠ (0 : Int)) ∧
  ((v_rules p0) ∧
  (((s_counts_rules_has p0 p1.2.2.2.2) = true) ∧
  (∃ n0, (loopP (fun (y1 : (Int × (Int × (Int × (Int × (Int × (Int × Int))))))) k2 =>
    ((((decide (y1.1 < (3 : Int))) = true) →
    (((0 : Int) ≤ y1.1) ∧
      ((y1.1 < (3 : Int)) ∧
      (((0 : Int) ≤ y1.1) ∧
      ((y1.1 < (3 : Int)) ∧
      (((v_factor p0 p1.2.2.2.2).2 ≠ (0 : Int)) ∧
      (((0 : Int) ≤ y1.1) ∧
      ((y1.1 < (3 : Int)) ∧
      (k2 ((IntKind.i64.wrap (y1.1 + (1 : Int))), ((cond (decide (y1.1 = (0 : Int))) (s_counts_rounded ((IntKind.i64.wrap ((v_factor p0 p1.2.2.2.2).1 * (List.getD (y1.2.1 :: (y1.2.2.2.1 :: (y1.2.2.2.2.2.1 :: ([] : List Int)))) (Int.toNat y1.1) (0 : Int)))), (IntKind.i64.wrap ((v_factor p0 p1.2.2.2.2).1 * (List.getD (y1.2.2.1 :: (y1.2.2.2.2.1 :: (y1.2.2.2.2.2.2 :: ([] : List Int)))) (Int.toNat y1.1) (0 : Int))))) (v_factor p0 p1.2.2.2.2).2).1 y1.2.1), ((cond (decide (y1.1 = (0 : Int))) (s_counts_rounded ((IntKind.i64.wrap ((v_factor p0 p1.2.2.2.2).1 * (List.getD (y1.2.1 :: (y1.2.2.2.1 :: (y1.2.2.2.2.2.1 :: ([] : List Int)))) (Int.toNat y1.1) (0 : Int)))), (IntKind.i64.wrap ((v_factor p0 p1.2.2.2.2).1 * (List.getD (y1.2.2.1 :: (y1.2.2.2.2.1 :: (y1.2.2.2.2.2.2 :: ([] : List Int)))) (Int.toNat y1.1) (0 : Int))))) (v_factor p0 p1.2.2.2.2).2).2 y1.2.2.1), ((cond (decide (y1.1 = (1 : Int))) (s_counts_rounded ((IntKind.i64.wrap ((v_factor p0 p1.2.2.2.2).1 * (List.getD (y1.2.1 :: (y1.2.2.2.1 :: (y1.2.2.2.2.2.1 :: ([] : List Int)))) (Int.toNat y1.1) (0 : Int)))), (IntKind.i64.wrap ((v_factor p0 p1.2.2.2.2).1 * (List.getD (y1.2.2.1 :: (y1.2.2.2.2.1 :: (y1.2.2.2.2.2.2 :: ([] : List Int)))) (Int.toNat y1.1) (0 : Int))))) (v_factor p0 p1.2.2.2.2).2).1 y1.2.2.2.1), ((cond (decide (y1.1 = (1 : Int))) (s_counts_rounded ((IntKind.i64.wrap ((v_factor p0 p1.2.2.2.2).1 * (List.getD (y1.2.1 :: (y1.2.2.2.1 :: (y1.2.2.2.2.2.1 :: ([] : List Int)))) (Int.toNat y1.1) (0 : Int)))), (IntKind.i64.wrap ((v_factor p0 p1.2.2.2.2).1 * (List.getD (y1.2.2.1 :: (y1.2.2.2.2.1 :: (y1.2.2.2.2.2.2 :: ([] : List Int)))) (Int.toNat y1.1) (0 : Int))))) (v_factor p0 p1.2.2.2.2).2).2 y1.2.2.2.2.1), ((cond (decide (y1.1 = (2 : Int))) (s_counts_rounded ((IntKind.i64.wrap ((v_factor p0 p1.2.2.2.2).1 * (List.getD (y1.2.1 :: (y1.2.2.2.1 :: (y1.2.2.2.2.2.1 :: ([] : List Int)))) (Int.toNat y1.1) (0 : Int)))), (IntKind.i64.wrap ((v_factor p0 p1.2.2.2.2).1 * (List.getD (y1.2.2.1 :: (y1.2.2.2.2.1 :: (y1.2.2.2.2.2.2 :: ([] : List Int)))) (Int.toNat y1.1) (0 : Int))))) (v_factor p0 p1.2.2.2.2).2).1 y1.2.2.2.2.2.1), (cond (decide (y1.1 = (2 : Int))) (s_counts_rounded ((IntKind.i64.wrap ((v_factor p0 p1.2.2.2.2).1 * (List.getD (y1.2.1 :: (y1.2.2.2.1 :: (y1.2.2.2.2.2.1 :: ([] : List Int)))) (Int.toNat y1.1) (0 : Int)))), (IntKind.i64.wrap ((v_factor p0 p1.2.2.2.2).1 * (List.getD (y1.2.2.1 :: (y1.2.2.2.2.1 :: (y1.2.2.2.2.2.2 :: ([] : List Int)))) (Int.toNat y1.1) (0 : Int))))) (v_factor p0 p1.2.2.2.2).2).2 y1.2.2.2.2.2.2)))))))))))))))) ∧
    (((decide (y1.1 < (3 : Int))) = false) →
    (K ((y1.2.1, y1.2.2.1), ((y1.2.2.2.1, y1.2.2.2.2.1), y1.2.2.2.2.2)))))) n0 ((0 : Int), ((s_ref06_Stripped p0 (s_counts_rules_net p0 p1)).1.1, ((s_ref06_Stripped p0 (s_counts_rules_net p0 p1)).1.2, ((s_ref06_Stripped p0 (s_counts_rules_net p0 p1)).2.1.1, ((s_ref06_Stripped p0 (s_counts_rules_net p0 p1)).2.1.2, (s_ref06_Stripped p0 (s_counts_rules_net p0 p1)).2.2))))))))))))
set_option maxHeartbeats 4000000 in
theorem w_ref06_Reduced_eq (p0 : CR) (p1 : CS) (K : R3 → Prop) : tfn F_ref06_Reduced A_ref06_Reduced C_ref06_Reduced P_ref06_Reduced R_ref06_Reduced (p0, p1) K = w_ref06_Reduced p0 p1 K := by kernel_rfl
def s_ref06_Reduced (p0 : CR) (p1 : CS) : R3 :=
  ((s_counts_rounded ((IntKind.i64.wrap ((v_factor p0 p1.2.2.2.2).1 * (s_ref06_Stripped p0 (s_counts_rules_net p0 p1)).1.1)), (IntKind.i64.wrap ((v_factor p0 p1.2.2.2.2).1 * (s_ref06_Stripped p0 (s_counts_rules_net p0 p1)).1.2))) (v_factor p0 p1.2.2.2.2).2), ((s_counts_rounded ((IntKind.i64.wrap ((v_factor p0 p1.2.2.2.2).1 * (s_ref06_Stripped p0 (s_counts_rules_net p0 p1)).2.1.1)), (IntKind.i64.wrap ((v_factor p0 p1.2.2.2.2).1 * (s_ref06_Stripped p0 (s_counts_rules_net p0 p1)).2.1.2))) (v_factor p0 p1.2.2.2.2).2), (s_counts_rounded ((IntKind.i64.wrap ((v_factor p0 p1.2.2.2.2).1 * (s_ref06_Stripped p0 (s_counts_rules_net p0 p1)).2.2.1)), (IntKind.i64.wrap ((v_factor p0 p1.2.2.2.2).1 * (s_ref06_Stripped p0 (s_counts_rules_net p0 p1)).2.2.2))) (v_factor p0 p1.2.2.2.2).2)))
abbrev pre_ref06_Reduced (p0 : CR) (p1 : CS) : List Prop := [(v_samp p0 p1),
    (v_rules p0),
    ((v_inv p0).2 ≠ (0 : Int)),
    ((s_counts_rules_has p0 p1.2.2.2.2) = true),
    ((v_factor p0 p1.2.2.2.2).2 ≠ (0 : Int))]
set_option maxHeartbeats 4000000 in
theorem d_ref06_Reduced (p0 : CR) (p1 : CS) (K : R3 → Prop) (hp : ∀ p ∈ pre_ref06_Reduced p0 p1, p) (h : K (s_ref06_Reduced p0 p1)) : w_ref06_Reduced p0 p1 K := by
  unfold w_ref06_Reduced
  unfold s_ref06_Reduced at h
  obtain ⟨hp0, hp1, hp2, hp3, hp4, _⟩ := conj_of hp
  exact ⟨(hp0), (hp1), (hp2), (hp1), (hp3), 31, fun _ => ⟨(od rfl), (od rfl), (od rfl), (od rfl), (hp4), (od rfl), (od rfl), fun _ => ⟨(od rfl), (od rfl), (od rfl), (od rfl), (hp4), (od rfl), (od rfl), fun _ => ⟨(od rfl), (od rfl), (od rfl), (od rfl), (hp4), (od rfl), (od rfl), nof, fun _ => h⟩, fun e => Bool.noConfusion (show true = false from e)⟩, fun e => Bool.noConfusion (show true = false from e)⟩, fun e => Bool.noConfusion (show true = false from e)⟩
abbrev t_ref06_Reduced (p0 : CR) (p1 : CS) : R3 := s_counts_rules_reducedCounts p0 p1
abbrev qre_ref06_Reduced (p0 : CR) (p1 : CS) : List Prop := [v_samp p0 p1]
theorem pp_ref06_Reduced (p0 : CR) (p1 : CS) (hq : ∀ p ∈ qre_ref06_Reduced p0 p1, p) : ∀ p ∈ pre_ref06_Reduced p0 p1, p := by
  have hv := (conj_of hq).1
  have hf := tx_fac_in hv.rules hv.high
  have hd := tx_invden hv.rules
  intro p hp
  simp only [pre_ref06_Reduced, List.mem_cons, List.not_mem_nil, or_false] at hp
  rcases hp with rfl | rfl | rfl | rfl | rfl
  all_goals first | exact hv | exact hv.rules | exact hv.high | omega
theorem tt_ref06_Reduced (p0 : CR) (p1 : CS) (hq : ∀ p ∈ qre_ref06_Reduced p0 p1, p) : s_ref06_Reduced p0 p1 = t_ref06_Reduced p0 p1 := by
  have hv := (conj_of hq).1
  have hf := tx_fac_in hv.rules hv.high
  have hn : decide ((v_factor p0 p1.2.2.2.2).1 < 0) = false := decide_eq_false (by omega)
  unfold s_ref06_Reduced t_ref06_Reduced s_counts_rules_reducedCounts
  simp only [s_counts_times, hn, cond_false]
  rfl

abbrev con_ref06_Reduced : Con := ⟨P_ref06_Reduced, R_ref06_Reduced, fun x => qre_ref06_Reduced x.1 x.2, fun x => t_ref06_Reduced x.1 x.2⟩
theorem ok_ref06_Reduced : ConOk Try.prog 31 con_ref06_Reduced := ⟨k_ref06_Reduced, fun x hx => ret_tf (ps := P_ref06_Reduced) (rs := R_ref06_Reduced) (x := x) (y := t_ref06_Reduced x.1 x.2) e_ref06_Reduced hC_ref06_Reduced (tf_of (w_ref06_Reduced_eq x.1 x.2 (fun z => z = t_ref06_Reduced x.1 x.2)) (d_ref06_Reduced x.1 x.2 (fun z => z = t_ref06_Reduced x.1 x.2) (pp_ref06_Reduced x.1 x.2 hx) (tt_ref06_Reduced x.1 x.2 hx)))⟩
end Go.Proofs.Ytonjnpefnbnohaa
