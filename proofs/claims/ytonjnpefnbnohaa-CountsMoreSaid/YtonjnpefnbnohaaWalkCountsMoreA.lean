/- What the functions that CountsMore reaches compute: contracts, each function once. No condition. -/
import Derived.Test.YtonjnpefnbnohaaTxR
import Derived.Test.YtonjnpefnbnohaaAwCountsMore
import Derived.KernelRfl
namespace Go.Proofs.Ytonjnpefnbnohaa
open Go Go.Mx
set_option maxRecDepth 100000
/-- Rules: period, dead, aircraft, cosmic, ground, air, radon, strip, heights. -/
abbrev CR : Type := Int × Int × (Int × Int × Int) × (Int × Int × Int) × Int × Int × (Int × Int × Int) × ((Int × Int × Int) × (Int × Int × Int) × (Int × Int × Int)) × List (Int × Int)
abbrev CR.hs (r : CR) : List (Int × Int) := r.2.2.2.2.2.2.2.2
/- law06_fewKnots -/
def C_law06_fewKnots : Cons := []
theorem hC_law06_fewKnots : ConsOk Try.prog C_law06_fewKnots := ConsOk.nil
def w_law06_fewKnots (p0 : (Int × (Int × ((Int × (Int × Int)) × ((Int × (Int × Int)) × (Int × (Int × ((Int × (Int × Int)) × (((Int × (Int × Int)) × ((Int × (Int × Int)) × (Int × (Int × Int)))) × (List (Int × Int))))))))))) (K : Bool → Prop) : Prop :=
  (K (decide ((((List.length p0.2.2.2.2.2.2.2.2) : Nat) : Int) ≤ (10 : Int))))
set_option maxHeartbeats 4000000 in
theorem w_law06_fewKnots_eq (p0 : (Int × (Int × ((Int × (Int × Int)) × ((Int × (Int × Int)) × (Int × (Int × ((Int × (Int × Int)) × (((Int × (Int × Int)) × ((Int × (Int × Int)) × (Int × (Int × Int)))) × (List (Int × Int))))))))))) (K : Bool → Prop) : tfn F_law06_fewKnots A_law06_fewKnots C_law06_fewKnots P_law06_fewKnots R_law06_fewKnots p0 K = w_law06_fewKnots p0 K := by kernel_rfl
def s_law06_fewKnots (p0 : (Int × (Int × ((Int × (Int × Int)) × ((Int × (Int × Int)) × (Int × (Int × ((Int × (Int × Int)) × (((Int × (Int × Int)) × ((Int × (Int × Int)) × (Int × (Int × Int)))) × (List (Int × Int))))))))))) : Bool :=
  (decide ((((List.length p0.2.2.2.2.2.2.2.2) : Nat) : Int) ≤ (10 : Int)))
abbrev pre_law06_fewKnots (p0 : (Int × (Int × ((Int × (Int × Int)) × ((Int × (Int × Int)) × (Int × (Int × ((Int × (Int × Int)) × (((Int × (Int × Int)) × ((Int × (Int × Int)) × (Int × (Int × Int)))) × (List (Int × Int))))))))))) : List Prop := []
set_option maxHeartbeats 4000000 in
theorem d_law06_fewKnots (p0 : (Int × (Int × ((Int × (Int × Int)) × ((Int × (Int × Int)) × (Int × (Int × ((Int × (Int × Int)) × (((Int × (Int × Int)) × ((Int × (Int × Int)) × (Int × (Int × Int)))) × (List (Int × Int))))))))))) (K : Bool → Prop) (hp : ∀ p ∈ pre_law06_fewKnots p0, p) (h : K (s_law06_fewKnots p0)) : w_law06_fewKnots p0 K := by
  unfold w_law06_fewKnots
  unfold s_law06_fewKnots at h
  exact h
abbrev con_law06_fewKnots : Con := ⟨P_law06_fewKnots, R_law06_fewKnots, fun x => pre_law06_fewKnots x, fun x => s_law06_fewKnots x⟩
theorem ok_law06_fewKnots : ConOk Try.prog 15 con_law06_fewKnots := ⟨k_law06_fewKnots, fun x hx => ret_tf (ps := P_law06_fewKnots) (rs := R_law06_fewKnots) (x := x) (y := s_law06_fewKnots x) e_law06_fewKnots hC_law06_fewKnots (tf_of (w_law06_fewKnots_eq x (fun z => z = s_law06_fewKnots x)) (d_law06_fewKnots x (fun z => z = s_law06_fewKnots x) hx rfl))⟩
/- counts_within -/
def C_counts_within : Cons := []
theorem hC_counts_within : ConsOk Try.prog C_counts_within := ConsOk.nil
def w_counts_within (p0 : Int) (p1 : Int) (p2 : Int) (K : Bool → Prop) : Prop :=
  ((((decide (p1 ≤ p0)) = true) →
  ((decide (p1 ≤ p0)) = (decide (p1 ≤ p0)))) ∧
  ((((decide (p1 ≤ p0)) = true) →
  ((decide (p1 ≤ p0)) = (decide (p1 ≤ p0)))) ∧
  (((decide (p1 ≤ p0)) = (decide (p1 ≤ p0))) ∧
  (K (cond (decide (p1 ≤ p0)) (decide (p0 ≤ p2)) false)))))
set_option maxHeartbeats 4000000 in
theorem w_counts_within_eq (p0 : Int) (p1 : Int) (p2 : Int) (K : Bool → Prop) : tfn F_counts_within A_counts_within C_counts_within P_counts_within R_counts_within (p0, p1, p2) K = w_counts_within p0 p1 p2 K := by kernel_rfl
def s_counts_within (p0 : Int) (p1 : Int) (p2 : Int) : Bool :=
  (cond (decide (p1 ≤ p0)) (decide (p0 ≤ p2)) false)
abbrev pre_counts_within (p0 : Int) (p1 : Int) (p2 : Int) : List Prop := []
set_option maxHeartbeats 4000000 in
theorem d_counts_within (p0 : Int) (p1 : Int) (p2 : Int) (K : Bool → Prop) (hp : ∀ p ∈ pre_counts_within p0 p1 p2, p) (h : K (s_counts_within p0 p1 p2)) : w_counts_within p0 p1 p2 K := by
  unfold w_counts_within
  unfold s_counts_within at h
  exact ⟨(fun _ => rfl), ⟨(fun _ => rfl), ⟨rfl, h⟩⟩⟩
abbrev con_counts_within : Con := ⟨P_counts_within, R_counts_within, fun x => pre_counts_within x.1 x.2.1 x.2.2, fun x => s_counts_within x.1 x.2.1 x.2.2⟩
theorem ok_counts_within : ConOk Try.prog 74 con_counts_within := ⟨k_counts_within, fun x hx => ret_tf (ps := P_counts_within) (rs := R_counts_within) (x := x) (y := s_counts_within x.1 x.2.1 x.2.2) e_counts_within hC_counts_within (tf_of (w_counts_within_eq x.1 x.2.1 x.2.2 (fun z => z = s_counts_within x.1 x.2.1 x.2.2)) (d_counts_within x.1 x.2.1 x.2.2 (fun z => z = s_counts_within x.1 x.2.1 x.2.2) hx rfl))⟩
/- counts_allWithin_1 -/
def C_counts_allWithin_1 : Cons := [(74, [], con_counts_within)]
theorem hC_counts_allWithin_1 : ConsOk Try.prog C_counts_allWithin_1 := ConsOk.cons ok_counts_within <| ConsOk.nil
def w_counts_allWithin_1 (p0 : Int) (p1 : Int) (K : Bool → Prop) : Prop :=
  (K (!(s_counts_within p0 (0 : Int) p1)))
set_option maxHeartbeats 4000000 in
theorem w_counts_allWithin_1_eq (p0 : Int) (p1 : Int) (K : Bool → Prop) : tfn F_counts_allWithin_1 A_counts_allWithin_1 C_counts_allWithin_1 P_counts_allWithin_1 R_counts_allWithin_1 (p0, p1) K = w_counts_allWithin_1 p0 p1 K := by kernel_rfl
def s_counts_allWithin_1 (p0 : Int) (p1 : Int) : Bool :=
  (!(s_counts_within p0 (0 : Int) p1))
abbrev pre_counts_allWithin_1 (p0 : Int) (p1 : Int) : List Prop := []
set_option maxHeartbeats 4000000 in
theorem d_counts_allWithin_1 (p0 : Int) (p1 : Int) (K : Bool → Prop) (hp : ∀ p ∈ pre_counts_allWithin_1 p0 p1, p) (h : K (s_counts_allWithin_1 p0 p1)) : w_counts_allWithin_1 p0 p1 K := by
  unfold w_counts_allWithin_1
  unfold s_counts_allWithin_1 at h
  exact h
abbrev con_counts_allWithin_1 : Con := ⟨P_counts_allWithin_1, R_counts_allWithin_1, fun x => pre_counts_allWithin_1 x.1 x.2, fun x => s_counts_allWithin_1 x.1 x.2⟩
theorem ok_counts_allWithin_1 : ConOk Try.prog 116 con_counts_allWithin_1 := ⟨k_counts_allWithin_1, fun x hx => ret_tf (ps := P_counts_allWithin_1) (rs := R_counts_allWithin_1) (x := x) (y := s_counts_allWithin_1 x.1 x.2) e_counts_allWithin_1 hC_counts_allWithin_1 (tf_of (w_counts_allWithin_1_eq x.1 x.2 (fun z => z = s_counts_allWithin_1 x.1 x.2)) (d_counts_allWithin_1 x.1 x.2 (fun z => z = s_counts_allWithin_1 x.1 x.2) hx rfl))⟩
/- slices_IndexFuncint_int__counts_allWithin_1 -/
def C_slices_IndexFuncint_int__counts_allWithin_1 : Cons := [(116, [], con_counts_allWithin_1)]
theorem hC_slices_IndexFuncint_int__counts_allWithin_1 : ConsOk Try.prog C_slices_IndexFuncint_int__counts_allWithin_1 := ConsOk.cons ok_counts_allWithin_1 <| ConsOk.nil
def w_slices_IndexFuncint_int__counts_allWithin_1 (p0 : (List Int)) (p1 : (Int × PUnit)) (K : Int → Prop) : Prop :=
  (∃ n0, (loopP (fun (y1 : Int) k2 =>
    ((((decide (y1 < (((List.length p0) : Nat) : Int))) = true) →
    (((0 : Int) ≤ y1) ∧
      ((y1 < (((List.length p0) : Nat) : Int)) ∧
      ((((s_counts_allWithin_1 (List.getD p0 (Int.toNat y1) (0 : Int)) p1.1) = true) →
      (K y1)) ∧
      (((s_counts_allWithin_1 (List.getD p0 (Int.toNat y1) (0 : Int)) p1.1) = false) →
      (k2 (Go.IntKind.wrap .i64 (y1 + (1 : Int))))))))) ∧
    (((decide (y1 < (((List.length p0) : Nat) : Int))) = false) →
    (K (-1 : Int))))) n0 (0 : Int)))
set_option maxHeartbeats 4000000 in
theorem w_slices_IndexFuncint_int__counts_allWithin_1_eq (p0 : (List Int)) (p1 : (Int × PUnit)) (K : Int → Prop) : tfn F_slices_IndexFuncint_int__counts_allWithin_1 A_slices_IndexFuncint_int__counts_allWithin_1 C_slices_IndexFuncint_int__counts_allWithin_1 P_slices_IndexFuncint_int__counts_allWithin_1 R_slices_IndexFuncint_int__counts_allWithin_1 (p0, p1) K = w_slices_IndexFuncint_int__counts_allWithin_1 p0 p1 K := by kernel_rfl
/-- The number of the first that is not from 0 to a limit, from a number on, or -1. -/
def sp_out (m : Int) (i : Int) : List Int → Int
  | [] => -1
  | x :: r => if s_counts_allWithin_1 x m = true then i else sp_out m (i + 1) r
def s_slices_IndexFuncint_int__counts_allWithin_1 (l : List Int) (m : Int × PUnit) : Int := sp_out m.1 0 l
abbrev pre_slices_IndexFuncint_int__counts_allWithin_1 (l : List Int) (_ : Int × PUnit) : List Prop := [lenOk l]
theorem d_slices_IndexFuncint_int__counts_allWithin_1 (l : List Int) (m : Int × PUnit) (K : Int → Prop) (hp : ∀ p ∈ pre_slices_IndexFuncint_int__counts_allWithin_1 l m, p) (h : K (s_slices_IndexFuncint_int__counts_allWithin_1 l m)) : w_slices_IndexFuncint_int__counts_allWithin_1 l m K := by
  obtain ⟨hl, _⟩ := conj_of hp
  refine loop_list0 l 0 (fun r => K (sp_out m.1 ((l.length : Int) - r.length) r)) ?_ ?_ (by simpa [s_slices_IndexFuncint_int__counts_allWithin_1] using h)
  · intro k hI
    simpa [sp_out] using hI
  · intro j k hj hI hk
    have hj' : (j : Int) < l.length := by omega
    rw [wrap_nat (by omega)]
    have e1 : (l.length : Int) - ((l.getD j 0 :: l.drop (j + 1)).length : Int) = j := by simp; omega
    have e2 : (l.length : Int) - ((l.drop (j + 1)).length : Int) = (j : Int) + 1 := by simp; omega
    rw [e1] at hI
    rw [e2] at hk
    simp only [hj', decide_true, Int.toNat_natCast, forall_const, Bool.true_eq_false, false_imp_iff, and_true]
    refine ⟨by omega, trivial, fun hx => ?_, fun hx => hk ?_⟩
    · simpa only [sp_out, hx, if_true] using hI
    · simpa only [sp_out, hx, Bool.false_eq_true, if_false] using hI

abbrev con_slices_IndexFuncint_int__counts_allWithin_1 : Con := ⟨P_slices_IndexFuncint_int__counts_allWithin_1, R_slices_IndexFuncint_int__counts_allWithin_1, fun x => pre_slices_IndexFuncint_int__counts_allWithin_1 x.1 x.2, fun x => s_slices_IndexFuncint_int__counts_allWithin_1 x.1 x.2⟩
theorem ok_slices_IndexFuncint_int__counts_allWithin_1 : ConOk Try.prog 102 con_slices_IndexFuncint_int__counts_allWithin_1 := ⟨k_slices_IndexFuncint_int__counts_allWithin_1, fun x hx => ret_tf (ps := P_slices_IndexFuncint_int__counts_allWithin_1) (rs := R_slices_IndexFuncint_int__counts_allWithin_1) (x := x) (y := s_slices_IndexFuncint_int__counts_allWithin_1 x.1 x.2) e_slices_IndexFuncint_int__counts_allWithin_1 hC_slices_IndexFuncint_int__counts_allWithin_1 (tf_of (w_slices_IndexFuncint_int__counts_allWithin_1_eq x.1 x.2 (fun z => z = s_slices_IndexFuncint_int__counts_allWithin_1 x.1 x.2)) (d_slices_IndexFuncint_int__counts_allWithin_1 x.1 x.2 (fun z => z = s_slices_IndexFuncint_int__counts_allWithin_1 x.1 x.2) hx rfl))⟩
/- counts_allWithin -/
def C_counts_allWithin : Cons := [(102, [116], con_slices_IndexFuncint_int__counts_allWithin_1)]
theorem hC_counts_allWithin : ConsOk Try.prog C_counts_allWithin := ConsOk.cons ok_slices_IndexFuncint_int__counts_allWithin_1 <| ConsOk.nil
def w_counts_allWithin (p0 : (Int × (Int × Int))) (p1 : Int) (K : Int → Prop) : Prop :=
  ((lenOk (p0.1 :: (p0.2.1 :: (p0.2.2 :: ([] : List Int))))) ∧
  (K (s_slices_IndexFuncint_int__counts_allWithin_1 (p0.1 :: (p0.2.1 :: (p0.2.2 :: ([] : List Int)))) (p1, ()))))
set_option maxHeartbeats 4000000 in
theorem w_counts_allWithin_eq (p0 : (Int × (Int × Int))) (p1 : Int) (K : Int → Prop) : tfn F_counts_allWithin A_counts_allWithin C_counts_allWithin P_counts_allWithin R_counts_allWithin (p0, p1) K = w_counts_allWithin p0 p1 K := by kernel_rfl
def s_counts_allWithin (p0 : (Int × (Int × Int))) (p1 : Int) : Int :=
  (s_slices_IndexFuncint_int__counts_allWithin_1 (p0.1 :: (p0.2.1 :: (p0.2.2 :: ([] : List Int)))) (p1, ()))
abbrev pre_counts_allWithin (p0 : (Int × (Int × Int))) (p1 : Int) : List Prop := []
set_option maxHeartbeats 4000000 in
theorem d_counts_allWithin (p0 : (Int × (Int × Int))) (p1 : Int) (K : Int → Prop) (hp : ∀ p ∈ pre_counts_allWithin p0 p1, p) (h : K (s_counts_allWithin p0 p1)) : w_counts_allWithin p0 p1 K := by
  unfold w_counts_allWithin
  unfold s_counts_allWithin at h
  exact ⟨(lenOk_of 3 rfl (by decide)), h⟩
abbrev con_counts_allWithin : Con := ⟨P_counts_allWithin, R_counts_allWithin, fun x => pre_counts_allWithin x.1 x.2, fun x => s_counts_allWithin x.1 x.2⟩
theorem ok_counts_allWithin : ConOk Try.prog 75 con_counts_allWithin := ⟨k_counts_allWithin, fun x hx => ret_tf (ps := P_counts_allWithin) (rs := R_counts_allWithin) (x := x) (y := s_counts_allWithin x.1 x.2) e_counts_allWithin hC_counts_allWithin (tf_of (w_counts_allWithin_eq x.1 x.2 (fun z => z = s_counts_allWithin x.1 x.2)) (d_counts_allWithin x.1 x.2 (fun z => z = s_counts_allWithin x.1 x.2) hx rfl))⟩
/- counts_unless -/
def C_counts_unless : Cons := []
theorem hC_counts_unless : ConsOk Try.prog C_counts_unless := ConsOk.nil
def w_counts_unless (p0 : Bool) (p1 : Int) (K : Int → Prop) : Prop :=
  (((p0 = true) →
  (K (0 : Int))) ∧
  ((p0 = false) →
  (K p1)))
set_option maxHeartbeats 4000000 in
theorem w_counts_unless_eq (p0 : Bool) (p1 : Int) (K : Int → Prop) : tfn F_counts_unless A_counts_unless C_counts_unless P_counts_unless R_counts_unless (p0, p1) K = w_counts_unless p0 p1 K := by kernel_rfl
def s_counts_unless (p0 : Bool) (p1 : Int) : Int :=
  (cond p0 (0 : Int)
    p1)
abbrev pre_counts_unless (p0 : Bool) (p1 : Int) : List Prop := []
set_option maxHeartbeats 4000000 in
theorem d_counts_unless (p0 : Bool) (p1 : Int) (K : Int → Prop) (hp : ∀ p ∈ pre_counts_unless p0 p1, p) (h : K (s_counts_unless p0 p1)) : w_counts_unless p0 p1 K := by
  unfold w_counts_unless
  unfold s_counts_unless at h
  exact (br' h (fun e0 h => h)
    (fun e0 h => h))
abbrev con_counts_unless : Con := ⟨P_counts_unless, R_counts_unless, fun x => pre_counts_unless x.1 x.2, fun x => s_counts_unless x.1 x.2⟩
theorem ok_counts_unless : ConOk Try.prog 78 con_counts_unless := ⟨k_counts_unless, fun x hx => ret_tf (ps := P_counts_unless) (rs := R_counts_unless) (x := x) (y := s_counts_unless x.1 x.2) e_counts_unless hC_counts_unless (tf_of (w_counts_unless_eq x.1 x.2 (fun z => z = s_counts_unless x.1 x.2)) (d_counts_unless x.1 x.2 (fun z => z = s_counts_unless x.1 x.2) hx rfl))⟩
/- counts_total -/
def C_counts_total : Cons := []
theorem hC_counts_total : ConsOk Try.prog C_counts_total := ConsOk.nil
def w_counts_total (p0 : (List Int)) (K : Int → Prop) : Prop :=
  (∃ n0, (loopP (fun (y1 : (Int × Int)) k2 =>
    ((((decide (y1.1 < (((List.length p0) : Nat) : Int))) = true) →
    (((0 : Int) ≤ y1.1) ∧
      ((y1.1 < (((List.length p0) : Nat) : Int)) ∧
      (k2 ((Go.IntKind.wrap .i64 (y1.1 + (1 : Int))), (Go.IntKind.wrap .i64 (y1.2 + (List.getD p0 (Int.toNat y1.1) (0 : Int))))))))) ∧
    (((decide (y1.1 < (((List.length p0) : Nat) : Int))) = false) →
    (K y1.2)))) n0 ((0 : Int), (0 : Int))))
set_option maxHeartbeats 4000000 in
theorem w_counts_total_eq (p0 : (List Int)) (K : Int → Prop) : tfn F_counts_total A_counts_total C_counts_total P_counts_total R_counts_total p0 K = w_counts_total p0 K := by kernel_rfl
/-- The sum, round after round. -/
def sp_total (a : Int) : List Int → Int
  | [] => a
  | x :: r => sp_total (IntKind.i64.wrap (a + x)) r
def s_counts_total (l : List Int) : Int := sp_total 0 l
abbrev pre_counts_total (l : List Int) : List Prop := [lenOk l]
theorem d_counts_total (l : List Int) (K : Int → Prop) (hp : ∀ p ∈ pre_counts_total l, p) (h : K (s_counts_total l)) : w_counts_total l K := by
  obtain ⟨hl, _⟩ := conj_of hp
  refine loop_list (fun i t => (i, t)) l 0 (fun t r => K (sp_total t r)) ?_ ?_ 0 h
  · intro t k hI
    simpa [sp_total] using hI
  · intro j t k hj hI hk
    have hj' : (j : Int) < l.length := by omega
    simp only [wrap_nat (show (j : Int) ≤ 9223372036854775806 by omega)]
    simp only [hj', decide_true, Int.toNat_natCast, forall_const, Bool.true_eq_false, false_imp_iff, and_true]
    exact ⟨by omega, trivial, hk _ hI⟩

abbrev con_counts_total : Con := ⟨P_counts_total, R_counts_total, fun x => pre_counts_total x, fun x => s_counts_total x⟩
theorem ok_counts_total : ConOk Try.prog 100 con_counts_total := ⟨k_counts_total, fun x hx => ret_tf (ps := P_counts_total) (rs := R_counts_total) (x := x) (y := s_counts_total x) e_counts_total hC_counts_total (tf_of (w_counts_total_eq x (fun z => z = s_counts_total x)) (d_counts_total x (fun z => z = s_counts_total x) hx rfl))⟩
/- counts_first -/
def C_counts_first : Cons := []
theorem hC_counts_first : ConsOk Try.prog C_counts_first := ConsOk.nil
def w_counts_first (p0 : (List Int)) (K : Int → Prop) : Prop :=
  (∃ n0, (loopP (fun (y1 : Int) k2 =>
    ((((decide (y1 < (((List.length p0) : Nat) : Int))) = true) →
    (((0 : Int) ≤ y1) ∧
      ((y1 < (((List.length p0) : Nat) : Int)) ∧
      (((((List.getD p0 (Int.toNat y1) (0 : Int)) != (0 : Int)) = true) →
      (K (List.getD p0 (Int.toNat y1) (0 : Int)))) ∧
      ((((List.getD p0 (Int.toNat y1) (0 : Int)) != (0 : Int)) = false) →
      (k2 (Go.IntKind.wrap .i64 (y1 + (1 : Int))))))))) ∧
    (((decide (y1 < (((List.length p0) : Nat) : Int))) = false) →
    (K (0 : Int))))) n0 (0 : Int)))
set_option maxHeartbeats 4000000 in
theorem w_counts_first_eq (p0 : (List Int)) (K : Int → Prop) : tfn F_counts_first A_counts_first C_counts_first P_counts_first R_counts_first p0 K = w_counts_first p0 K := by kernel_rfl
/-- The first that is not 0. -/
def s_counts_first : List Int → Int
  | [] => 0
  | x :: r => if x = 0 then s_counts_first r else x
abbrev pre_counts_first (l : List Int) : List Prop := [lenOk l]
theorem d_counts_first (l : List Int) (K : Int → Prop) (hp : ∀ p ∈ pre_counts_first l, p) (h : K (s_counts_first l)) : w_counts_first l K := by
  obtain ⟨hl, _⟩ := conj_of hp
  refine loop_list0 l 0 (fun r => K (s_counts_first r)) ?_ ?_ h
  · intro k hI
    simpa [s_counts_first] using hI
  · intro j k hj hI hk
    have hj' : (j : Int) < l.length := by omega
    rw [wrap_nat (by omega)]
    simp only [hj', decide_true, Int.toNat_natCast, forall_const, Bool.true_eq_false, false_imp_iff, and_true, bne_iff_ne, ne_eq, bne_eq_false_iff_eq]
    refine ⟨by omega, trivial, fun hx => ?_, fun hx => hk ?_⟩
    · simpa only [s_counts_first, if_neg hx] using hI
    · simpa only [s_counts_first, if_pos hx] using hI

abbrev con_counts_first : Con := ⟨P_counts_first, R_counts_first, fun x => pre_counts_first x, fun x => s_counts_first x⟩
theorem ok_counts_first : ConOk Try.prog 77 con_counts_first := ⟨k_counts_first, fun x hx => ret_tf (ps := P_counts_first) (rs := R_counts_first) (x := x) (y := s_counts_first x) e_counts_first hC_counts_first (tf_of (w_counts_first_eq x (fun z => z = s_counts_first x)) (d_counts_first x (fun z => z = s_counts_first x) hx rfl))⟩
/- counts_columnErr -/
def C_counts_columnErr : Cons := [(75, [], con_counts_allWithin), (78, [], con_counts_unless), (100, [], con_counts_total), (77, [], con_counts_first)]
theorem hC_counts_columnErr : ConsOk Try.prog C_counts_columnErr := ConsOk.cons ok_counts_allWithin <| ConsOk.cons ok_counts_unless <| ConsOk.cons ok_counts_total <| ConsOk.cons ok_counts_first <| ConsOk.nil
def w_counts_columnErr (p0 : ((Int × (Int × Int)) × ((Int × (Int × Int)) × (Int × (Int × Int))))) (p1 : Int) (K : Int → Prop) : Prop :=
  (∃ n0, (loopP (fun (y1 : (Int × (Int × (Int × Int)))) k2 =>
    ((((decide (y1.1 < (3 : Int))) = true) →
    (((0 : Int) ≤ y1.1) ∧
      ((y1.1 < (3 : Int)) ∧
      (((0 : Int) ≤ p1) ∧
      ((p1 < (3 : Int)) ∧
      (((0 : Int) ≤ y1.1) ∧
      ((y1.1 < (3 : Int)) ∧
      (k2 ((Go.IntKind.wrap .i64 (y1.1 + (1 : Int))), ((cond (decide (y1.1 = (0 : Int))) (List.getD ((List.getD (p0.1.1 :: (p0.2.1.1 :: (p0.2.2.1 :: ([] : List Int)))) (Int.toNat y1.1) (0 : Int)) :: ((List.getD (p0.1.2.1 :: (p0.2.1.2.1 :: (p0.2.2.2.1 :: ([] : List Int)))) (Int.toNat y1.1) (0 : Int)) :: ((List.getD (p0.1.2.2 :: (p0.2.1.2.2 :: (p0.2.2.2.2 :: ([] : List Int)))) (Int.toNat y1.1) (0 : Int)) :: ([] : List Int)))) (Int.toNat p1) (0 : Int)) y1.2.1), ((cond (decide (y1.1 = (1 : Int))) (List.getD ((List.getD (p0.1.1 :: (p0.2.1.1 :: (p0.2.2.1 :: ([] : List Int)))) (Int.toNat y1.1) (0 : Int)) :: ((List.getD (p0.1.2.1 :: (p0.2.1.2.1 :: (p0.2.2.2.1 :: ([] : List Int)))) (Int.toNat y1.1) (0 : Int)) :: ((List.getD (p0.1.2.2 :: (p0.2.1.2.2 :: (p0.2.2.2.2 :: ([] : List Int)))) (Int.toNat y1.1) (0 : Int)) :: ([] : List Int)))) (Int.toNat p1) (0 : Int)) y1.2.2.1), (cond (decide (y1.1 = (2 : Int))) (List.getD ((List.getD (p0.1.1 :: (p0.2.1.1 :: (p0.2.2.1 :: ([] : List Int)))) (Int.toNat y1.1) (0 : Int)) :: ((List.getD (p0.1.2.1 :: (p0.2.1.2.1 :: (p0.2.2.2.1 :: ([] : List Int)))) (Int.toNat y1.1) (0 : Int)) :: ((List.getD (p0.1.2.2 :: (p0.2.1.2.2 :: (p0.2.2.2.2 :: ([] : List Int)))) (Int.toNat y1.1) (0 : Int)) :: ([] : List Int)))) (Int.toNat p1) (0 : Int)) y1.2.2.2)))))))))))) ∧
    (((decide (y1.1 < (3 : Int))) = false) →
    ((lenOk (y1.2.1 :: (y1.2.2.1 :: (y1.2.2.2 :: ([] : List Int))))) ∧
      (((0 : Int) ≤ p1) ∧
      ((p1 < (3 : Int)) ∧
      ((lenOk ((s_counts_unless (decide ((s_counts_allWithin y1.2 (1000 : Int)) < (0 : Int))) (2 : Int)) :: ((s_counts_unless ((s_counts_total (y1.2.1 :: (y1.2.2.1 :: (y1.2.2.2 :: ([] : List Int))))) == (1000 : Int)) (3 : Int)) :: ((s_counts_unless (decide ((List.getD (y1.2.1 :: (y1.2.2.1 :: (y1.2.2.2 :: ([] : List Int)))) (Int.toNat p1) (0 : Int)) ≥ (600 : Int))) (22 : Int)) :: ([] : List Int))))) ∧
      (K (s_counts_first ((s_counts_unless (decide ((s_counts_allWithin y1.2 (1000 : Int)) < (0 : Int))) (2 : Int)) :: ((s_counts_unless ((s_counts_total (y1.2.1 :: (y1.2.2.1 :: (y1.2.2.2 :: ([] : List Int))))) == (1000 : Int)) (3 : Int)) :: ((s_counts_unless (decide ((List.getD (y1.2.1 :: (y1.2.2.1 :: (y1.2.2.2 :: ([] : List Int)))) (Int.toNat p1) (0 : Int)) ≥ (600 : Int))) (22 : Int)) :: ([] : List Int))))))))))))) n0 ((0 : Int), ((0 : Int), ((0 : Int), (0 : Int))))))
set_option maxHeartbeats 4000000 in
theorem w_counts_columnErr_eq (p0 : ((Int × (Int × Int)) × ((Int × (Int × Int)) × (Int × (Int × Int))))) (p1 : Int) (K : Int → Prop) : tfn F_counts_columnErr A_counts_columnErr C_counts_columnErr P_counts_columnErr R_counts_columnErr (p0, p1) K = w_counts_columnErr p0 p1 K := by kernel_rfl
def s_counts_columnErr (p0 : ((Int × (Int × Int)) × ((Int × (Int × Int)) × (Int × (Int × Int))))) (p1 : Int) : Int :=
  (s_counts_first ((s_counts_unless (decide ((s_counts_allWithin ((List.getD (p0.1.1 :: (p0.1.2.1 :: (p0.1.2.2 :: ([] : List Int)))) (Int.toNat p1) (0 : Int)), ((List.getD (p0.2.1.1 :: (p0.2.1.2.1 :: (p0.2.1.2.2 :: ([] : List Int)))) (Int.toNat p1) (0 : Int)), (List.getD (p0.2.2.1 :: (p0.2.2.2.1 :: (p0.2.2.2.2 :: ([] : List Int)))) (Int.toNat p1) (0 : Int)))) (1000 : Int)) < (0 : Int))) (2 : Int)) :: ((s_counts_unless ((s_counts_total ((List.getD (p0.1.1 :: (p0.1.2.1 :: (p0.1.2.2 :: ([] : List Int)))) (Int.toNat p1) (0 : Int)) :: ((List.getD (p0.2.1.1 :: (p0.2.1.2.1 :: (p0.2.1.2.2 :: ([] : List Int)))) (Int.toNat p1) (0 : Int)) :: ((List.getD (p0.2.2.1 :: (p0.2.2.2.1 :: (p0.2.2.2.2 :: ([] : List Int)))) (Int.toNat p1) (0 : Int)) :: ([] : List Int))))) == (1000 : Int)) (3 : Int)) :: ((s_counts_unless (decide ((List.getD ((List.getD (p0.1.1 :: (p0.1.2.1 :: (p0.1.2.2 :: ([] : List Int)))) (Int.toNat p1) (0 : Int)) :: ((List.getD (p0.2.1.1 :: (p0.2.1.2.1 :: (p0.2.1.2.2 :: ([] : List Int)))) (Int.toNat p1) (0 : Int)) :: ((List.getD (p0.2.2.1 :: (p0.2.2.2.1 :: (p0.2.2.2.2 :: ([] : List Int)))) (Int.toNat p1) (0 : Int)) :: ([] : List Int)))) (Int.toNat p1) (0 : Int)) ≥ (600 : Int))) (22 : Int)) :: ([] : List Int)))))
abbrev pre_counts_columnErr (p0 : ((Int × (Int × Int)) × ((Int × (Int × Int)) × (Int × (Int × Int))))) (p1 : Int) : List Prop := [((0 : Int) ≤ p1),
    (p1 < (3 : Int))]
set_option maxHeartbeats 4000000 in
theorem d_counts_columnErr (p0 : ((Int × (Int × Int)) × ((Int × (Int × Int)) × (Int × (Int × Int))))) (p1 : Int) (K : Int → Prop) (hp : ∀ p ∈ pre_counts_columnErr p0 p1, p) (h : K (s_counts_columnErr p0 p1)) : w_counts_columnErr p0 p1 K := by
  unfold w_counts_columnErr
  unfold s_counts_columnErr at h
  obtain ⟨hp0, hp1, _⟩ := conj_of hp
  exact ⟨31, ⟨fun _ => ⟨(of_decide_eq_true rfl), ⟨(of_decide_eq_true rfl), ⟨(hp0), ⟨(hp1), ⟨(of_decide_eq_true rfl), ⟨(of_decide_eq_true rfl), ⟨fun _ => ⟨(of_decide_eq_true rfl), ⟨(of_decide_eq_true rfl), ⟨(hp0), ⟨(hp1), ⟨(of_decide_eq_true rfl), ⟨(of_decide_eq_true rfl), ⟨fun _ => ⟨(of_decide_eq_true rfl), ⟨(of_decide_eq_true rfl), ⟨(hp0), ⟨(hp1), ⟨(of_decide_eq_true rfl), ⟨(of_decide_eq_true rfl), ⟨fun e => Bool.noConfusion (show false = true from e), fun _ => ⟨(lenOk_of 3 rfl (by decide)), ⟨(hp0), ⟨(hp1), ⟨(lenOk_of 3 rfl (by decide)), h⟩⟩⟩⟩⟩⟩⟩⟩⟩⟩⟩, fun e => Bool.noConfusion (show true = false from e)⟩⟩⟩⟩⟩⟩⟩, fun e => Bool.noConfusion (show true = false from e)⟩⟩⟩⟩⟩⟩⟩, fun e => Bool.noConfusion (show true = false from e)⟩⟩
abbrev con_counts_columnErr : Con := ⟨P_counts_columnErr, R_counts_columnErr, fun x => pre_counts_columnErr x.1 x.2, fun x => s_counts_columnErr x.1 x.2⟩
theorem ok_counts_columnErr : ConOk Try.prog 76 con_counts_columnErr := ⟨k_counts_columnErr, fun x hx => ret_tf (ps := P_counts_columnErr) (rs := R_counts_columnErr) (x := x) (y := s_counts_columnErr x.1 x.2) e_counts_columnErr hC_counts_columnErr (tf_of (w_counts_columnErr_eq x.1 x.2 (fun z => z = s_counts_columnErr x.1 x.2)) (d_counts_columnErr x.1 x.2 (fun z => z = s_counts_columnErr x.1 x.2) hx rfl))⟩
/- counts_CheckRules -/
def C_counts_CheckRules : Cons := [(74, [], con_counts_within), (75, [], con_counts_allWithin), (76, [], con_counts_columnErr), (78, [], con_counts_unless), (77, [], con_counts_first)]
theorem hC_counts_CheckRules : ConsOk Try.prog C_counts_CheckRules := ConsOk.cons ok_counts_within <| ConsOk.cons ok_counts_allWithin <| ConsOk.cons ok_counts_columnErr <| ConsOk.cons ok_counts_unless <| ConsOk.cons ok_counts_first <| ConsOk.nil
def w_counts_CheckRules (p0 : (Int × (Int × ((Int × (Int × Int)) × ((Int × (Int × Int)) × (Int × (Int × ((Int × (Int × Int)) × (((Int × (Int × Int)) × ((Int × (Int × Int)) × (Int × (Int × Int)))) × (List (Int × Int))))))))))) (K : (Int × Int) → Prop) : Prop :=
  ((((!(s_counts_within p0.1 (1 : Int) (1000000 : Int))) = false) →
  ((!(s_counts_within p0.1 (1 : Int) (1000000 : Int))) = (!(s_counts_within p0.1 (1 : Int) (1000000 : Int))))) ∧
  ((((!(s_counts_within p0.1 (1 : Int) (1000000 : Int))) = false) →
  ((!(s_counts_within p0.1 (1 : Int) (1000000 : Int))) = (!(s_counts_within p0.1 (1 : Int) (1000000 : Int))))) ∧
  ((((!(s_counts_within p0.1 (1 : Int) (1000000 : Int))) = false) →
  ((!(s_counts_within p0.1 (1 : Int) (1000000 : Int))) = (!(s_counts_within p0.1 (1 : Int) (1000000 : Int))))) ∧
  (((!(s_counts_within p0.1 (1 : Int) (1000000 : Int))) = (!(s_counts_within p0.1 (1 : Int) (1000000 : Int)))) ∧
  ((((cond (!(s_counts_within p0.1 (1 : Int) (1000000 : Int))) true (!(s_counts_within p0.2.1 (0 : Int) (100 : Int)))) = true) →
  (K ((0 : Int), (2 : Int)))) ∧
  (((cond (!(s_counts_within p0.1 (1 : Int) (1000000 : Int))) true (!(s_counts_within p0.2.1 (0 : Int) (100 : Int)))) = false) →
  (∃ n0, (loopP (fun (y1 : Int) k2 =>
      ((((decide (y1 < (3 : Int))) = true) →
      (((0 : Int) ≤ y1) ∧
        ((y1 < (3 : Int)) ∧
        ((((!(s_counts_within (List.getD (p0.2.2.1.1 :: (p0.2.2.1.2.1 :: (p0.2.2.1.2.2 :: ([] : List Int)))) (Int.toNat y1) (0 : Int)) (0 : Int) (1000000 : Int))) = false) →
        ((!(s_counts_within (List.getD (p0.2.2.1.1 :: (p0.2.2.1.2.1 :: (p0.2.2.1.2.2 :: ([] : List Int)))) (Int.toNat y1) (0 : Int)) (0 : Int) (1000000 : Int))) = (!(s_counts_within (List.getD (p0.2.2.1.1 :: (p0.2.2.1.2.1 :: (p0.2.2.1.2.2 :: ([] : List Int)))) (Int.toNat y1) (0 : Int)) (0 : Int) (1000000 : Int))))) ∧
        ((((!(s_counts_within (List.getD (p0.2.2.1.1 :: (p0.2.2.1.2.1 :: (p0.2.2.1.2.2 :: ([] : List Int)))) (Int.toNat y1) (0 : Int)) (0 : Int) (1000000 : Int))) = false) →
        ((!(s_counts_within (List.getD (p0.2.2.1.1 :: (p0.2.2.1.2.1 :: (p0.2.2.1.2.2 :: ([] : List Int)))) (Int.toNat y1) (0 : Int)) (0 : Int) (1000000 : Int))) = (!(s_counts_within (List.getD (p0.2.2.1.1 :: (p0.2.2.1.2.1 :: (p0.2.2.1.2.2 :: ([] : List Int)))) (Int.toNat y1) (0 : Int)) (0 : Int) (1000000 : Int))))) ∧
        ((((!(s_counts_within (List.getD (p0.2.2.1.1 :: (p0.2.2.1.2.1 :: (p0.2.2.1.2.2 :: ([] : List Int)))) (Int.toNat y1) (0 : Int)) (0 : Int) (1000000 : Int))) = false) →
        ((0 : Int) ≤ y1)) ∧
        ((((!(s_counts_within (List.getD (p0.2.2.1.1 :: (p0.2.2.1.2.1 :: (p0.2.2.1.2.2 :: ([] : List Int)))) (Int.toNat y1) (0 : Int)) (0 : Int) (1000000 : Int))) = false) →
        (y1 < (3 : Int))) ∧
        ((((!(s_counts_within (List.getD (p0.2.2.1.1 :: (p0.2.2.1.2.1 :: (p0.2.2.1.2.2 :: ([] : List Int)))) (Int.toNat y1) (0 : Int)) (0 : Int) (1000000 : Int))) = false) →
        ((!(s_counts_within (List.getD (p0.2.2.1.1 :: (p0.2.2.1.2.1 :: (p0.2.2.1.2.2 :: ([] : List Int)))) (Int.toNat y1) (0 : Int)) (0 : Int) (1000000 : Int))) = (!(s_counts_within (List.getD (p0.2.2.1.1 :: (p0.2.2.1.2.1 :: (p0.2.2.1.2.2 :: ([] : List Int)))) (Int.toNat y1) (0 : Int)) (0 : Int) (1000000 : Int))))) ∧
        ((((!(s_counts_within (List.getD (p0.2.2.1.1 :: (p0.2.2.1.2.1 :: (p0.2.2.1.2.2 :: ([] : List Int)))) (Int.toNat y1) (0 : Int)) (0 : Int) (1000000 : Int))) = false) →
        ((!(s_counts_within (List.getD (p0.2.2.1.1 :: (p0.2.2.1.2.1 :: (p0.2.2.1.2.2 :: ([] : List Int)))) (Int.toNat y1) (0 : Int)) (0 : Int) (1000000 : Int))) = (!(s_counts_within (List.getD (p0.2.2.1.1 :: (p0.2.2.1.2.1 :: (p0.2.2.1.2.2 :: ([] : List Int)))) (Int.toNat y1) (0 : Int)) (0 : Int) (1000000 : Int))))) ∧
        ((((!(s_counts_within (List.getD (p0.2.2.1.1 :: (p0.2.2.1.2.1 :: (p0.2.2.1.2.2 :: ([] : List Int)))) (Int.toNat y1) (0 : Int)) (0 : Int) (1000000 : Int))) = false) →
        ((!(s_counts_within (List.getD (p0.2.2.1.1 :: (p0.2.2.1.2.1 :: (p0.2.2.1.2.2 :: ([] : List Int)))) (Int.toNat y1) (0 : Int)) (0 : Int) (1000000 : Int))) = (!(s_counts_within (List.getD (p0.2.2.1.1 :: (p0.2.2.1.2.1 :: (p0.2.2.1.2.2 :: ([] : List Int)))) (Int.toNat y1) (0 : Int)) (0 : Int) (1000000 : Int))))) ∧
        (((!(s_counts_within (List.getD (p0.2.2.1.1 :: (p0.2.2.1.2.1 :: (p0.2.2.1.2.2 :: ([] : List Int)))) (Int.toNat y1) (0 : Int)) (0 : Int) (1000000 : Int))) = (!(s_counts_within (List.getD (p0.2.2.1.1 :: (p0.2.2.1.2.1 :: (p0.2.2.1.2.2 :: ([] : List Int)))) (Int.toNat y1) (0 : Int)) (0 : Int) (1000000 : Int)))) ∧
        ((((cond (!(s_counts_within (List.getD (p0.2.2.1.1 :: (p0.2.2.1.2.1 :: (p0.2.2.1.2.2 :: ([] : List Int)))) (Int.toNat y1) (0 : Int)) (0 : Int) (1000000 : Int))) true (!(s_counts_within (List.getD (p0.2.2.2.1.1 :: (p0.2.2.2.1.2.1 :: (p0.2.2.2.1.2.2 :: ([] : List Int)))) (Int.toNat y1) (0 : Int)) (0 : Int) (1000 : Int)))) = true) →
        (K (y1, (2 : Int)))) ∧
        (((cond (!(s_counts_within (List.getD (p0.2.2.1.1 :: (p0.2.2.1.2.1 :: (p0.2.2.1.2.2 :: ([] : List Int)))) (Int.toNat y1) (0 : Int)) (0 : Int) (1000000 : Int))) true (!(s_counts_within (List.getD (p0.2.2.2.1.1 :: (p0.2.2.2.1.2.1 :: (p0.2.2.2.1.2.2 :: ([] : List Int)))) (Int.toNat y1) (0 : Int)) (0 : Int) (1000 : Int)))) = false) →
        (k2 (Go.IntKind.wrap .i64 (y1 + (1 : Int))))))))))))))))) ∧
      (((decide (y1 < (3 : Int))) = false) →
      ((((!(s_counts_within p0.2.2.2.2.1 (0 : Int) (200 : Int))) = false) →
        ((!(s_counts_within p0.2.2.2.2.1 (0 : Int) (200 : Int))) = (!(s_counts_within p0.2.2.2.2.1 (0 : Int) (200 : Int))))) ∧
        ((((!(s_counts_within p0.2.2.2.2.1 (0 : Int) (200 : Int))) = false) →
        ((!(s_counts_within p0.2.2.2.2.1 (0 : Int) (200 : Int))) = (!(s_counts_within p0.2.2.2.2.1 (0 : Int) (200 : Int))))) ∧
        ((((!(s_counts_within p0.2.2.2.2.1 (0 : Int) (200 : Int))) = false) →
        ((!(s_counts_within p0.2.2.2.2.1 (0 : Int) (200 : Int))) = (!(s_counts_within p0.2.2.2.2.1 (0 : Int) (200 : Int))))) ∧
        ((((!(s_counts_within p0.2.2.2.2.1 (0 : Int) (200 : Int))) = false) →
        ((!(s_counts_within p0.2.2.2.2.1 (0 : Int) (200 : Int))) = (!(s_counts_within p0.2.2.2.2.1 (0 : Int) (200 : Int))))) ∧
        ((((!(s_counts_within p0.2.2.2.2.1 (0 : Int) (200 : Int))) = false) →
        ((!(s_counts_within p0.2.2.2.2.1 (0 : Int) (200 : Int))) = (!(s_counts_within p0.2.2.2.2.1 (0 : Int) (200 : Int))))) ∧
        ((((!(s_counts_within p0.2.2.2.2.1 (0 : Int) (200 : Int))) = false) →
        ((!(s_counts_within p0.2.2.2.2.1 (0 : Int) (200 : Int))) = (!(s_counts_within p0.2.2.2.2.1 (0 : Int) (200 : Int))))) ∧
        (((!(s_counts_within p0.2.2.2.2.1 (0 : Int) (200 : Int))) = (!(s_counts_within p0.2.2.2.2.1 (0 : Int) (200 : Int)))) ∧
        ((((cond (!(s_counts_within p0.2.2.2.2.1 (0 : Int) (200 : Int))) true (!(s_counts_within p0.2.2.2.2.2.1 (Go.IntKind.wrap .i64 (p0.2.2.2.2.1 + (200 : Int))) (1000 : Int)))) = true) →
        (K ((0 : Int), (2 : Int)))) ∧
        (((cond (!(s_counts_within p0.2.2.2.2.1 (0 : Int) (200 : Int))) true (!(s_counts_within p0.2.2.2.2.2.1 (Go.IntKind.wrap .i64 (p0.2.2.2.2.1 + (200 : Int))) (1000 : Int)))) = false) →
        ((((decide ((s_counts_allWithin p0.2.2.2.2.2.2.1 (1000 : Int)) ≥ (0 : Int))) = true) →
          (K ((s_counts_allWithin p0.2.2.2.2.2.2.1 (1000 : Int)), (2 : Int)))) ∧
          (((decide ((s_counts_allWithin p0.2.2.2.2.2.2.1 (1000 : Int)) ≥ (0 : Int))) = false) →
          ((((p0.2.2.2.2.2.2.1.2.1 != (1000 : Int)) = true) →
            (K ((1 : Int), (3 : Int)))) ∧
            (((p0.2.2.2.2.2.2.1.2.1 != (1000 : Int)) = false) →
            (∃ n3, (loopP (fun (y4 : Int) k5 =>
                ((((decide (y4 < (3 : Int))) = true) →
                (((0 : Int) ≤ y4) ∧
                  ((y4 < (3 : Int)) ∧
                  (((((s_counts_columnErr p0.2.2.2.2.2.2.2.1 y4) != (0 : Int)) = true) →
                  (K (y4, (s_counts_columnErr p0.2.2.2.2.2.2.2.1 y4)))) ∧
                  ((((s_counts_columnErr p0.2.2.2.2.2.2.2.1 y4) != (0 : Int)) = false) →
                  (k5 (Go.IntKind.wrap .i64 (y4 + (1 : Int))))))))) ∧
                (((decide (y4 < (3 : Int))) = false) →
                ((lenOk ((s_counts_unless (decide ((((List.length p0.2.2.2.2.2.2.2.2) : Nat) : Int) ≥ (2 : Int))) (10 : Int)) :: ((s_counts_unless (decide ((((List.length p0.2.2.2.2.2.2.2.2) : Nat) : Int) ≤ (8 : Int))) (8 : Int)) :: ([] : List Int)))) ∧
                  (((((s_counts_first ((s_counts_unless (decide ((((List.length p0.2.2.2.2.2.2.2.2) : Nat) : Int) ≥ (2 : Int))) (10 : Int)) :: ((s_counts_unless (decide ((((List.length p0.2.2.2.2.2.2.2.2) : Nat) : Int) ≤ (8 : Int))) (8 : Int)) :: ([] : List Int)))) != (0 : Int)) = true) →
                  (K ((0 : Int), (s_counts_first ((s_counts_unless (decide ((((List.length p0.2.2.2.2.2.2.2.2) : Nat) : Int) ≥ (2 : Int))) (10 : Int)) :: ((s_counts_unless (decide ((((List.length p0.2.2.2.2.2.2.2.2) : Nat) : Int) ≤ (8 : Int))) (8 : Int)) :: ([] : List Int))))))) ∧
                  ((((s_counts_first ((s_counts_unless (decide ((((List.length p0.2.2.2.2.2.2.2.2) : Nat) : Int) ≥ (2 : Int))) (10 : Int)) :: ((s_counts_unless (decide ((((List.length p0.2.2.2.2.2.2.2.2) : Nat) : Int) ≤ (8 : Int))) (8 : Int)) :: ([] : List Int)))) != (0 : Int)) = false) →
                  (∃ n6, (loopP (fun (y7 : (Int × Int)) k8 =>
                      ((((decide (y7.1 < (((List.length p0.2.2.2.2.2.2.2.2) : Nat) : Int))) = true) →
                      (((0 : Int) ≤ y7.1) ∧
                        ((y7.1 < (((List.length p0.2.2.2.2.2.2.2.2) : Nat) : Int)) ∧
                        ((((s_counts_within (List.getD p0.2.2.2.2.2.2.2.2 (Int.toNat y7.1) ((0 : Int), (0 : Int))).1 (0 : Int) (1000 : Int)) = true) →
                        ((s_counts_within (List.getD p0.2.2.2.2.2.2.2.2 (Int.toNat y7.1) ((0 : Int), (0 : Int))).1 (0 : Int) (1000 : Int)) = (s_counts_within (List.getD p0.2.2.2.2.2.2.2.2 (Int.toNat y7.1) ((0 : Int), (0 : Int))).1 (0 : Int) (1000 : Int)))) ∧
                        ((((s_counts_within (List.getD p0.2.2.2.2.2.2.2.2 (Int.toNat y7.1) ((0 : Int), (0 : Int))).1 (0 : Int) (1000 : Int)) = true) →
                        ((s_counts_within (List.getD p0.2.2.2.2.2.2.2.2 (Int.toNat y7.1) ((0 : Int), (0 : Int))).1 (0 : Int) (1000 : Int)) = (s_counts_within (List.getD p0.2.2.2.2.2.2.2.2 (Int.toNat y7.1) ((0 : Int), (0 : Int))).1 (0 : Int) (1000 : Int)))) ∧
                        (((s_counts_within (List.getD p0.2.2.2.2.2.2.2.2 (Int.toNat y7.1) ((0 : Int), (0 : Int))).1 (0 : Int) (1000 : Int)) = (s_counts_within (List.getD p0.2.2.2.2.2.2.2.2 (Int.toNat y7.1) ((0 : Int), (0 : Int))).1 (0 : Int) (1000 : Int))) ∧
                        ((lenOk ((s_counts_unless (cond (s_counts_within (List.getD p0.2.2.2.2.2.2.2.2 (Int.toNat y7.1) ((0 : Int), (0 : Int))).1 (0 : Int) (1000 : Int)) (s_counts_within (List.getD p0.2.2.2.2.2.2.2.2 (Int.toNat y7.1) ((0 : Int), (0 : Int))).2 (1 : Int) (10000 : Int)) false) (2 : Int)) :: ((s_counts_unless (decide ((List.getD p0.2.2.2.2.2.2.2.2 (Int.toNat y7.1) ((0 : Int), (0 : Int))).1 > y7.2)) (9 : Int)) :: ([] : List Int)))) ∧
                        (((((s_counts_first ((s_counts_unless (cond (s_counts_within (List.getD p0.2.2.2.2.2.2.2.2 (Int.toNat y7.1) ((0 : Int), (0 : Int))).1 (0 : Int) (1000 : Int)) (s_counts_within (List.getD p0.2.2.2.2.2.2.2.2 (Int.toNat y7.1) ((0 : Int), (0 : Int))).2 (1 : Int) (10000 : Int)) false) (2 : Int)) :: ((s_counts_unless (decide ((List.getD p0.2.2.2.2.2.2.2.2 (Int.toNat y7.1) ((0 : Int), (0 : Int))).1 > y7.2)) (9 : Int)) :: ([] : List Int)))) != (0 : Int)) = true) →
                        (K (y7.1, (s_counts_first ((s_counts_unless (cond (s_counts_within (List.getD p0.2.2.2.2.2.2.2.2 (Int.toNat y7.1) ((0 : Int), (0 : Int))).1 (0 : Int) (1000 : Int)) (s_counts_within (List.getD p0.2.2.2.2.2.2.2.2 (Int.toNat y7.1) ((0 : Int), (0 : Int))).2 (1 : Int) (10000 : Int)) false) (2 : Int)) :: ((s_counts_unless (decide ((List.getD p0.2.2.2.2.2.2.2.2 (Int.toNat y7.1) ((0 : Int), (0 : Int))).1 > y7.2)) (9 : Int)) :: ([] : List Int))))))) ∧
                        ((((s_counts_first ((s_counts_unless (cond (s_counts_within (List.getD p0.2.2.2.2.2.2.2.2 (Int.toNat y7.1) ((0 : Int), (0 : Int))).1 (0 : Int) (1000 : Int)) (s_counts_within (List.getD p0.2.2.2.2.2.2.2.2 (Int.toNat y7.1) ((0 : Int), (0 : Int))).2 (1 : Int) (10000 : Int)) false) (2 : Int)) :: ((s_counts_unless (decide ((List.getD p0.2.2.2.2.2.2.2.2 (Int.toNat y7.1) ((0 : Int), (0 : Int))).1 > y7.2)) (9 : Int)) :: ([] : List Int)))) != (0 : Int)) = false) →
                        (k8 ((Go.IntKind.wrap .i64 (y7.1 + (1 : Int))), (List.getD p0.2.2.2.2.2.2.2.2 (Int.toNat y7.1) ((0 : Int), (0 : Int))).1))))))))))) ∧
                      (((decide (y7.1 < (((List.length p0.2.2.2.2.2.2.2.2) : Nat) : Int))) = false) →
                      (K ((0 : Int), (0 : Int)))))) n6 ((0 : Int), (-1 : Int)))))))))) n3 (0 : Int))))))))))))))))))) n0 (0 : Int)))))))))
set_option maxHeartbeats 4000000 in
theorem w_counts_CheckRules_eq (p0 : (Int × (Int × ((Int × (Int × Int)) × ((Int × (Int × Int)) × (Int × (Int × ((Int × (Int × Int)) × (((Int × (Int × Int)) × ((Int × (Int × Int)) × (Int × (Int × Int)))) × (List (Int × Int))))))))))) (K : (Int × Int) → Prop) : tfn F_counts_CheckRules A_counts_CheckRules C_counts_CheckRules P_counts_CheckRules R_counts_CheckRules p0 K = w_counts_CheckRules p0 K := by kernel_rfl
def b_counts_CheckRules_0 (p0 : (Int × (Int × ((Int × (Int × Int)) × ((Int × (Int × Int)) × (Int × (Int × ((Int × (Int × Int)) × (((Int × (Int × Int)) × ((Int × (Int × Int)) × (Int × (Int × Int)))) × (List (Int × Int))))))))))) (K : (Int × Int) → Prop) (y : (Int × Int)) (k : (Int × Int) → Prop) : Prop :=
  (((decide (y.1 < (((List.length p0.2.2.2.2.2.2.2.2) : Nat) : Int))) = true →
    (((0 : Int) ≤ y.1) ∧
    ((y.1 < (((List.length p0.2.2.2.2.2.2.2.2) : Nat) : Int)) ∧
    ((((s_counts_first ((s_counts_unless (cond (s_counts_within (List.getD p0.2.2.2.2.2.2.2.2 (Int.toNat y.1) ((0 : Int), (0 : Int))).1 (0 : Int) (1000 : Int)) (s_counts_within (List.getD p0.2.2.2.2.2.2.2.2 (Int.toNat y.1) ((0 : Int), (0 : Int))).2 (1 : Int) (10000 : Int)) false) (2 : Int)) :: ((s_counts_unless (decide ((List.getD p0.2.2.2.2.2.2.2.2 (Int.toNat y.1) ((0 : Int), (0 : Int))).1 > y.2)) (9 : Int)) :: ([] : List Int)))) != (0 : Int)) = true →
      (K (y.1, (s_counts_first ((s_counts_unless (cond (s_counts_within (List.getD p0.2.2.2.2.2.2.2.2 (Int.toNat y.1) ((0 : Int), (0 : Int))).1 (0 : Int) (1000 : Int)) (s_counts_within (List.getD p0.2.2.2.2.2.2.2.2 (Int.toNat y.1) ((0 : Int), (0 : Int))).2 (1 : Int) (10000 : Int)) false) (2 : Int)) :: ((s_counts_unless (decide ((List.getD p0.2.2.2.2.2.2.2.2 (Int.toNat y.1) ((0 : Int), (0 : Int))).1 > y.2)) (9 : Int)) :: ([] : List Int))))))) ∧
    (((s_counts_first ((s_counts_unless (cond (s_counts_within (List.getD p0.2.2.2.2.2.2.2.2 (Int.toNat y.1) ((0 : Int), (0 : Int))).1 (0 : Int) (1000 : Int)) (s_counts_within (List.getD p0.2.2.2.2.2.2.2.2 (Int.toNat y.1) ((0 : Int), (0 : Int))).2 (1 : Int) (10000 : Int)) false) (2 : Int)) :: ((s_counts_unless (decide ((List.getD p0.2.2.2.2.2.2.2.2 (Int.toNat y.1) ((0 : Int), (0 : Int))).1 > y.2)) (9 : Int)) :: ([] : List Int)))) != (0 : Int)) = false →
      (k ((Go.IntKind.wrap .i64 (y.1 + (1 : Int))), (List.getD p0.2.2.2.2.2.2.2.2 (Int.toNat y.1) ((0 : Int), (0 : Int))).1))))))) ∧
  ((decide (y.1 < (((List.length p0.2.2.2.2.2.2.2.2) : Nat) : Int))) = false →
    (K ((0 : Int), (0 : Int)))))
/-- The error of a knot behind another one. -/
def sp_knErr (last : Int) (x : Int × Int) : Int :=
  s_counts_first (s_counts_unless (cond (s_counts_within x.1 0 1000) (s_counts_within x.2 1 10000) false) 2 :: s_counts_unless (decide (x.1 > last)) 9 :: [])
/-- The first invalid knot. -/
def sp_kn (i last : Int) : List (Int × Int) → Int × Int
  | [] => (0, 0)
  | x :: r => cond (sp_knErr last x != 0) (i, sp_knErr last x) (sp_kn (i + 1) x.1 r)
def lp_counts_CheckRules_0 (p0 : CR) (x : Int × Int) : Int × Int := sp_kn 0 x.2 p0.hs
abbrev lpre_counts_CheckRules_0 (p0 : CR) (x : Int × Int) : Prop := lenOk p0.hs ∧ x.1 = 0
theorem lk_counts_CheckRules_0 (p0 : CR) (x : Int × Int) (K : Int × Int → Prop) (hp : lpre_counts_CheckRules_0 p0 x) (h : K (lp_counts_CheckRules_0 p0 x)) : ∃ n, loopP (b_counts_CheckRules_0 p0 K) n x := by
  obtain ⟨x1, x2⟩ := x
  obtain ⟨hl, hx⟩ := hp
  simp only at hx
  subst hx
  generalize hlist : p0.hs = l at *
  have e0 : p0.2.2.2.2.2.2.2.2 = l := hlist
  refine loop_list (fun i t => (i, t)) l (0, 0) (fun t r => K (sp_kn ((l.length : Int) - r.length) t r)) ?_ ?_ x2 (by simpa [lp_counts_CheckRules_0, hlist] using h)
  · intro t k hI
    unfold b_counts_CheckRules_0
    rw [e0]
    simpa [sp_kn] using hI
  · intro j t k hj hI hk
    have hj' : (j : Int) < l.length := by omega
    have e1 : (l.length : Int) - ((l.getD j (0, 0) :: l.drop (j + 1)).length : Int) = j := by simp; omega
    have e2 : (l.length : Int) - ((l.drop (j + 1)).length : Int) = (j : Int) + 1 := by simp; omega
    rw [e1] at hI
    rw [e2] at hk
    unfold b_counts_CheckRules_0
    rw [e0]
    simp only [wrap_nat (show (j : Int) ≤ 9223372036854775806 by omega), hj', decide_true, Int.toNat_natCast, forall_const, Bool.true_eq_false, false_imp_iff, and_true]
    refine ⟨by omega, trivial, fun hx => ?_, fun hx => hk _ ?_⟩
    · have hx' : (sp_knErr t (l.getD j (0, 0)) != 0) = true := hx
      simp only [sp_kn, hx', cond_true] at hI
      exact hI
    · have hx' : (sp_knErr t (l.getD j (0, 0)) != 0) = false := hx
      simp only [sp_kn, hx', cond_false] at hI
      exact hI

def s_counts_CheckRules (p0 : (Int × (Int × ((Int × (Int × Int)) × ((Int × (Int × Int)) × (Int × (Int × ((Int × (Int × Int)) × (((Int × (Int × Int)) × ((Int × (Int × Int)) × (Int × (Int × Int)))) × (List (Int × Int))))))))))) : (Int × Int) :=
  (cond (cond (!(s_counts_within p0.1 (1 : Int) (1000000 : Int))) true (!(s_counts_within p0.2.1 (0 : Int) (100 : Int)))) ((0 : Int), (2 : Int))
    (cond (cond (!(s_counts_within p0.2.2.1.1 (0 : Int) (1000000 : Int))) true (!(s_counts_within p0.2.2.2.1.1 (0 : Int) (1000 : Int)))) ((0 : Int), (2 : Int))
    (cond (cond (!(s_counts_within p0.2.2.1.2.1 (0 : Int) (1000000 : Int))) true (!(s_counts_within p0.2.2.2.1.2.1 (0 : Int) (1000 : Int)))) ((1 : Int), (2 : Int))
    (cond (cond (!(s_counts_within p0.2.2.1.2.2 (0 : Int) (1000000 : Int))) true (!(s_counts_within p0.2.2.2.1.2.2 (0 : Int) (1000 : Int)))) ((2 : Int), (2 : Int))
    (cond (cond (!(s_counts_within p0.2.2.2.2.1 (0 : Int) (200 : Int))) true (!(s_counts_within p0.2.2.2.2.2.1 (Go.IntKind.wrap .i64 (p0.2.2.2.2.1 + (200 : Int))) (1000 : Int)))) ((0 : Int), (2 : Int))
    (cond (decide ((s_counts_allWithin p0.2.2.2.2.2.2.1 (1000 : Int)) ≥ (0 : Int))) ((s_counts_allWithin p0.2.2.2.2.2.2.1 (1000 : Int)), (2 : Int))
    (cond (p0.2.2.2.2.2.2.1.2.1 != (1000 : Int)) ((1 : Int), (3 : Int))
    (cond ((s_counts_columnErr p0.2.2.2.2.2.2.2.1 (0 : Int)) != (0 : Int)) ((0 : Int), (s_counts_columnErr p0.2.2.2.2.2.2.2.1 (0 : Int)))
    (cond ((s_counts_columnErr p0.2.2.2.2.2.2.2.1 (1 : Int)) != (0 : Int)) ((1 : Int), (s_counts_columnErr p0.2.2.2.2.2.2.2.1 (1 : Int)))
    (cond ((s_counts_columnErr p0.2.2.2.2.2.2.2.1 (2 : Int)) != (0 : Int)) ((2 : Int), (s_counts_columnErr p0.2.2.2.2.2.2.2.1 (2 : Int)))
    (cond ((s_counts_first ((s_counts_unless (decide ((((List.length p0.2.2.2.2.2.2.2.2) : Nat) : Int) ≥ (2 : Int))) (10 : Int)) :: ((s_counts_unless (decide ((((List.length p0.2.2.2.2.2.2.2.2) : Nat) : Int) ≤ (8 : Int))) (8 : Int)) :: ([] : List Int)))) != (0 : Int)) ((0 : Int), (s_counts_first ((s_counts_unless (decide ((((List.length p0.2.2.2.2.2.2.2.2) : Nat) : Int) ≥ (2 : Int))) (10 : Int)) :: ((s_counts_unless (decide ((((List.length p0.2.2.2.2.2.2.2.2) : Nat) : Int) ≤ (8 : Int))) (8 : Int)) :: ([] : List Int)))))
    (lp_counts_CheckRules_0 p0 ((0 : Int), (-1 : Int))))))))))))))
abbrev pre_counts_CheckRules (p0 : (Int × (Int × ((Int × (Int × Int)) × ((Int × (Int × Int)) × (Int × (Int × ((Int × (Int × Int)) × (((Int × (Int × Int)) × ((Int × (Int × Int)) × (Int × (Int × Int)))) × (List (Int × Int))))))))))) : List Prop := [(((cond (!(s_counts_within p0.1 (1 : Int) (1000000 : Int))) true (!(s_counts_within p0.2.1 (0 : Int) (100 : Int)))) = false) → (((cond (!(s_counts_within p0.2.2.1.1 (0 : Int) (1000000 : Int))) true (!(s_counts_within p0.2.2.2.1.1 (0 : Int) (1000 : Int)))) = false) → (((cond (!(s_counts_within p0.2.2.1.2.1 (0 : Int) (1000000 : Int))) true (!(s_counts_within p0.2.2.2.1.2.1 (0 : Int) (1000 : Int)))) = false) → (((cond (!(s_counts_within p0.2.2.1.2.2 (0 : Int) (1000000 : Int))) true (!(s_counts_within p0.2.2.2.1.2.2 (0 : Int) (1000 : Int)))) = false) → (((cond (!(s_counts_within p0.2.2.2.2.1 (0 : Int) (200 : Int))) true (!(s_counts_within p0.2.2.2.2.2.1 (Go.IntKind.wrap .i64 (p0.2.2.2.2.1 + (200 : Int))) (1000 : Int)))) = false) → (((decide ((s_counts_allWithin p0.2.2.2.2.2.2.1 (1000 : Int)) ≥ (0 : Int))) = false) → (((p0.2.2.2.2.2.2.1.2.1 != (1000 : Int)) = false) → ((((s_counts_columnErr p0.2.2.2.2.2.2.2.1 (0 : Int)) != (0 : Int)) = false) → ((((s_counts_columnErr p0.2.2.2.2.2.2.2.1 (1 : Int)) != (0 : Int)) = false) → ((((s_counts_columnErr p0.2.2.2.2.2.2.2.1 (2 : Int)) != (0 : Int)) = false) → ((((s_counts_first ((s_counts_unless (decide ((((List.length p0.2.2.2.2.2.2.2.2) : Nat) : Int) ≥ (2 : Int))) (10 : Int)) :: ((s_counts_unless (decide ((((List.length p0.2.2.2.2.2.2.2.2) : Nat) : Int) ≤ (8 : Int))) (8 : Int)) :: ([] : List Int)))) != (0 : Int)) = false) → (lpre_counts_CheckRules_0 p0 ((0 : Int), (-1 : Int))))))))))))))]
set_option maxHeartbeats 4000000 in
theorem d_counts_CheckRules (p0 : (Int × (Int × ((Int × (Int × Int)) × ((Int × (Int × Int)) × (Int × (Int × ((Int × (Int × Int)) × (((Int × (Int × Int)) × ((Int × (Int × Int)) × (Int × (Int × Int)))) × (List (Int × Int))))))))))) (K : (Int × Int) → Prop) (hp : ∀ p ∈ pre_counts_CheckRules p0, p) (h : K (s_counts_CheckRules p0)) : w_counts_CheckRules p0 K := by
  unfold w_counts_CheckRules
  unfold s_counts_CheckRules at h
  obtain ⟨hp0, _⟩ := conj_of hp
  exact ⟨(fun _ => rfl), ⟨(fun _ => rfl), ⟨(fun _ => rfl), ⟨rfl, (br' h (fun e0 h => h)
    (fun e0 h => ⟨31, ⟨fun _ => ⟨(of_decide_eq_true rfl), ⟨(of_decide_eq_true rfl), ⟨(fun _ => rfl), ⟨(fun _ => rfl), ⟨(fun _ => (of_decide_eq_true rfl)), ⟨(fun _ => (of_decide_eq_true rfl)), ⟨(fun _ => rfl), ⟨(fun _ => rfl), ⟨(fun _ => rfl), ⟨rfl, (br' h (fun e1 h => h)
    (fun e1 h => ⟨fun _ => ⟨(of_decide_eq_true rfl), ⟨(of_decide_eq_true rfl), ⟨(fun _ => rfl), ⟨(fun _ => rfl), ⟨(fun _ => (of_decide_eq_true rfl)), ⟨(fun _ => (of_decide_eq_true rfl)), ⟨(fun _ => rfl), ⟨(fun _ => rfl), ⟨(fun _ => rfl), ⟨rfl, (br' h (fun e2 h => h)
    (fun e2 h => ⟨fun _ => ⟨(of_decide_eq_true rfl), ⟨(of_decide_eq_true rfl), ⟨(fun _ => rfl), ⟨(fun _ => rfl), ⟨(fun _ => (of_decide_eq_true rfl)), ⟨(fun _ => (of_decide_eq_true rfl)), ⟨(fun _ => rfl), ⟨(fun _ => rfl), ⟨(fun _ => rfl), ⟨rfl, (br' h (fun e3 h => h)
    (fun e3 h => ⟨fun e => Bool.noConfusion (show false = true from e), fun _ => ⟨(fun _ => rfl), ⟨(fun _ => rfl), ⟨(fun _ => rfl), ⟨(fun _ => rfl), ⟨(fun _ => rfl), ⟨(fun _ => rfl), ⟨rfl, (br' h (fun e4 h => h)
    (fun e4 h => (br' h (fun e5 h => h)
    (fun e5 h => (br' h (fun e6 h => h)
    (fun e6 h => ⟨31, ⟨fun _ => ⟨(of_decide_eq_true rfl), ⟨(of_decide_eq_true rfl), (br' h (fun e7 h => h)
    (fun e7 h => ⟨fun _ => ⟨(of_decide_eq_true rfl), ⟨(of_decide_eq_true rfl), (br' h (fun e8 h => h)
    (fun e8 h => ⟨fun _ => ⟨(of_decide_eq_true rfl), ⟨(of_decide_eq_true rfl), (br' h (fun e9 h => h)
    (fun e9 h => ⟨fun e => Bool.noConfusion (show false = true from e), fun _ => ⟨(lenOk_of 2 rfl (by decide)), (br' h (fun e10 h => h)
    (fun e10 h => (Exists.imp (fun n hn => loop_mono (fun y k k' hk hy => ⟨fun e11 => ⟨(hy.1 e11).1, ⟨(hy.1 e11).2.1, ⟨(fun _ => rfl), ⟨(fun _ => rfl), ⟨rfl, ⟨(lenOk_of 2 rfl (by decide)), ⟨fun e12 => ((hy.1 e11).2.2.1 e12), fun e12 => (hk _ ((hy.1 e11).2.2.2 e12))⟩⟩⟩⟩⟩⟩⟩, fun e11 => (hy.2 e11)⟩) n _ hn) (lk_counts_CheckRules_0 p0 ((0 : Int), (-1 : Int)) K (hp0 e0 e1 e2 e3 e4 e5 e6 e7 e8 e9 e10) h))))⟩⟩))⟩⟩, fun e => Bool.noConfusion (show true = false from e)⟩))⟩⟩, fun e => Bool.noConfusion (show true = false from e)⟩))⟩⟩, fun e => Bool.noConfusion (show true = false from e)⟩⟩))))))⟩⟩⟩⟩⟩⟩⟩⟩))⟩⟩⟩⟩⟩⟩⟩⟩⟩⟩, fun e => Bool.noConfusion (show true = false from e)⟩))⟩⟩⟩⟩⟩⟩⟩⟩⟩⟩, fun e => Bool.noConfusion (show true = false from e)⟩))⟩⟩⟩⟩⟩⟩⟩⟩⟩⟩, fun e => Bool.noConfusion (show true = false from e)⟩⟩))⟩⟩⟩⟩
theorem sp_first2 {a b : Bool} {x y : Int} (hx : x ≠ 0) (hy : y ≠ 0) (h : (s_counts_first (s_counts_unless a x :: s_counts_unless b y :: []) != 0) = false) : a = true ∧ b = true := by
  cases a <;> cases b <;> simp [s_counts_first, s_counts_unless, hx, hy] at h ⊢
theorem pp_counts_CheckRules (p0 : CR) : ∀ p ∈ pre_counts_CheckRules p0, p := by
  intro p hp
  simp only [pre_counts_CheckRules, List.mem_cons, List.not_mem_nil, or_false] at hp
  subst hp
  intros
  rename_i h
  obtain ⟨h1, h2⟩ := sp_first2 (by decide) (by decide) h
  refine ⟨?_, rfl⟩
  have : ((p0.hs.length : Nat) : Int) ≤ 8 := of_decide_eq_true h2
  unfold lenOk; omega

abbrev con_counts_CheckRules : Con := ⟨P_counts_CheckRules, R_counts_CheckRules, fun x => [], fun x => s_counts_CheckRules x⟩
theorem ok_counts_CheckRules : ConOk Try.prog 16 con_counts_CheckRules := ⟨k_counts_CheckRules, fun x hx => ret_tf (ps := P_counts_CheckRules) (rs := R_counts_CheckRules) (x := x) (y := s_counts_CheckRules x) e_counts_CheckRules hC_counts_CheckRules (tf_of (w_counts_CheckRules_eq x (fun z => z = s_counts_CheckRules x)) (d_counts_CheckRules x (fun z => z = s_counts_CheckRules x) (pp_counts_CheckRules x) rfl))⟩
theorem tx_err (a : Bool) (x : Int) (l : List Int) (hx : x ≠ 0) : s_counts_first (s_counts_unless a x :: l) = cond a (s_counts_first l) x := by
  cases a <;> simp [s_counts_first, s_counts_unless, hx]
theorem tx_within {n a b : Int} : s_counts_within n a b = true ↔ a ≤ n ∧ n ≤ b := by
  unfold s_counts_within
  by_cases h : a ≤ n <;> simp [h]
theorem tx_nwithin {n a b : Int} : (!s_counts_within n a b) = false ↔ a ≤ n ∧ n ≤ b := by
  rw [Bool.not_eq_false', tx_within]
theorem tx_all (x y z m : Int) : s_counts_allWithin (x, y, z) m = cond (!s_counts_within x 0 m) 0 (cond (!s_counts_within y 0 m) 1 (cond (!s_counts_within z 0 m) 2 (-1))) := by
  show sp_out m 0 [x, y, z] = _
  simp only [sp_out, s_counts_allWithin_1]
  by_cases hx : s_counts_within x 0 m = true <;> by_cases hy : s_counts_within y 0 m = true <;> by_cases hz : s_counts_within z 0 m = true <;> simp [hx, hy, hz]
theorem tx_allneg (x y z m : Int) : decide (s_counts_allWithin (x, y, z) m < 0) = cond (!s_counts_within x 0 m) false (cond (!s_counts_within y 0 m) false (cond (!s_counts_within z 0 m) false true)) := by
  rw [tx_all]
  cases s_counts_within x 0 m <;> cases s_counts_within y 0 m <;> cases s_counts_within z 0 m <;> rfl
/-- The error of a column. -/
def v_colErr (x y z o : Int) : Int := cond (!s_counts_within x 0 1000) 2 (cond (!s_counts_within y 0 1000) 2 (cond (!s_counts_within z 0 1000) 2 (cond (s_counts_total [x, y, z] != 1000) 3 (cond (decide (o < 600)) 22 0))))
theorem tx_col (x y z o : Int) : s_counts_first (s_counts_unless (decide (s_counts_allWithin (x, y, z) 1000 < 0)) 2 :: s_counts_unless (s_counts_total [x, y, z] == 1000) 3 :: s_counts_unless (decide (o ≥ 600)) 22 :: []) = v_colErr x y z o := by
  rw [tx_err _ _ _ (by decide), tx_err _ _ _ (by decide), tx_err _ _ _ (by decide), tx_allneg, v_colErr]
  have e1 : decide (o ≥ 600) = !decide (o < 600) := by by_cases h : o < 600 <;> simp [h] <;> omega
  have e2 : (s_counts_total [x, y, z] != 1000) = !(s_counts_total [x, y, z] == 1000) := rfl
  rw [e1, e2]
  cases s_counts_within x 0 1000 <;> cases s_counts_within y 0 1000 <;> cases s_counts_within z 0 1000 <;> cases (s_counts_total [x, y, z] == 1000) <;> cases decide (o < 600) <;> rfl
theorem tx_len (n : Int) : s_counts_first (s_counts_unless (decide (n ≥ 2)) 10 :: s_counts_unless (decide (n ≤ 8)) 8 :: []) = cond (decide (n < 2)) 10 (cond (decide (n > 8)) 8 0) := by
  rw [tx_err _ _ _ (by decide), tx_err _ _ _ (by decide)]
  have e1 : decide (n ≥ 2) = !decide (n < 2) := by by_cases h : n < 2 <;> simp [h] <;> omega
  have e2 : decide (n ≤ 8) = !decide (n > 8) := by by_cases h : n > 8 <;> simp [h] <;> omega
  rw [e1, e2]
  cases decide (n < 2) <;> cases decide (n > 8) <;> rfl
/-- A valid column: from 0 to 1000, 1000 together, its own 600 or more. -/
structure v_col (x y z o : Int) : Prop where
  x0 : 0 ≤ x ∧ x ≤ 1000
  y0 : 0 ≤ y ∧ y ≤ 1000
  z0 : 0 ≤ z ∧ z ≤ 1000
  all : x + y + z = 1000
  own : 600 ≤ o
theorem tx_colv {x y z o : Int} (h : v_colErr x y z o = 0) : v_col x y z o := by
  unfold v_colErr at h
  rcases hx : (!s_counts_within x 0 1000) with _ | _
  · rcases hy : (!s_counts_within y 0 1000) with _ | _
    · rcases hz : (!s_counts_within z 0 1000) with _ | _
      · rw [hx, hy, hz] at h
        rw [tx_nwithin] at hx hy hz
        rcases ht : (s_counts_total [x, y, z] != 1000) with _ | _
        · rcases ho : decide (o < 600) with _ | _
          · have hs : s_counts_total [x, y, z] = 1000 := by simpa using ht
            have hs' : IntKind.i64.wrap (IntKind.i64.wrap (IntKind.i64.wrap (0 + x) + y) + z) = 1000 := hs
            rw [wrap_id (n := 0 + x) (by omega) (by omega), wrap_id (n := 0 + x + y) (by omega) (by omega), wrap_id (by omega) (by omega)] at hs'
            exact ⟨hx, hy, hz, by omega, by have := of_decide_eq_false ho; omega⟩
          · rw [ht, ho] at h; cases h
        · rw [ht] at h; cases h
      · rw [hx, hy, hz] at h; cases h
    · rw [hx, hy] at h; cases h
  · rw [hx] at h; cases h
/-- Valid rules. -/
structure v_rules (r : CR) : Prop where
  period : 1 ≤ r.1 ∧ r.1 ≤ 1000000
  dead : 0 ≤ r.2.1 ∧ r.2.1 ≤ 100
  air0 : 0 ≤ r.2.2.1.1 ∧ r.2.2.1.1 ≤ 1000000
  air1 : 0 ≤ r.2.2.1.2.1 ∧ r.2.2.1.2.1 ≤ 1000000
  air2 : 0 ≤ r.2.2.1.2.2 ∧ r.2.2.1.2.2 ≤ 1000000
  cos0 : 0 ≤ r.2.2.2.1.1 ∧ r.2.2.2.1.1 ≤ 1000
  cos1 : 0 ≤ r.2.2.2.1.2.1 ∧ r.2.2.2.1.2.1 ≤ 1000
  cos2 : 0 ≤ r.2.2.2.1.2.2 ∧ r.2.2.2.1.2.2 ≤ 1000
  ground : 0 ≤ r.2.2.2.2.1 ∧ r.2.2.2.2.1 ≤ 200
  air : r.2.2.2.2.1 + 200 ≤ r.2.2.2.2.2.1 ∧ r.2.2.2.2.2.1 ≤ 1000
  rad0 : 0 ≤ r.2.2.2.2.2.2.1.1 ∧ r.2.2.2.2.2.2.1.1 ≤ 1000
  rad1 : r.2.2.2.2.2.2.1.2.1 = 1000
  rad2 : 0 ≤ r.2.2.2.2.2.2.1.2.2 ∧ r.2.2.2.2.2.2.1.2.2 ≤ 1000
  col0 : v_col r.2.2.2.2.2.2.2.1.1.1 r.2.2.2.2.2.2.2.1.2.1.1 r.2.2.2.2.2.2.2.1.2.2.1 r.2.2.2.2.2.2.2.1.1.1
  col1 : v_col r.2.2.2.2.2.2.2.1.1.2.1 r.2.2.2.2.2.2.2.1.2.1.2.1 r.2.2.2.2.2.2.2.1.2.2.2.1 r.2.2.2.2.2.2.2.1.2.1.2.1
  col2 : v_col r.2.2.2.2.2.2.2.1.1.2.2 r.2.2.2.2.2.2.2.1.2.1.2.2 r.2.2.2.2.2.2.2.1.2.2.2.2 r.2.2.2.2.2.2.2.1.2.2.2.2
  len : 2 ≤ r.hs.length ∧ r.hs.length ≤ 8
  knot : ∀ x ∈ r.hs, (0 ≤ x.1 ∧ x.1 ≤ 1000) ∧ 1 ≤ x.2 ∧ x.2 ≤ 10000
  up : r.hs.Pairwise (fun x y => x.1 < y.1)
theorem tx_kn1 (last : Int) (x : Int × Int) : sp_knErr last x = cond (!(cond (s_counts_within x.1 0 1000) (s_counts_within x.2 1 10000) false)) 2 (cond (decide (x.1 ≤ last)) 9 0) := by
  unfold sp_knErr
  rw [tx_err _ _ _ (by decide), tx_err _ _ _ (by decide)]
  have e1 : decide (x.1 > last) = !decide (x.1 ≤ last) := by by_cases h : x.1 ≤ last <;> simp [h] <;> omega
  rw [e1]
  cases (cond (s_counts_within x.1 0 1000) (s_counts_within x.2 1 10000) false) <;> cases decide (x.1 ≤ last) <;> rfl
theorem tx_kn : ∀ (l : List (Int × Int)) (i last : Int), (sp_kn i last l).2 = 0 → (∀ x ∈ l, ((0 ≤ x.1 ∧ x.1 ≤ 1000) ∧ 1 ≤ x.2 ∧ x.2 ≤ 10000) ∧ last < x.1) ∧ l.Pairwise (fun x y => x.1 < y.1)
  | [], _, _, _ => ⟨by simp, .nil⟩
  | x :: r, i, last, h => by
    unfold sp_kn at h
    rcases he : (sp_knErr last x != 0) with _ | _
    · rw [he, cond_false] at h
      obtain ⟨h1, h2⟩ := tx_kn r _ _ h
      have he' : sp_knErr last x = 0 := by simpa using he
      rw [tx_kn1] at he'
      rcases ha : s_counts_within x.1 0 1000 with _ | _
      · rw [ha] at he'; cases he'
      · rcases hb : s_counts_within x.2 1 10000 with _ | _
        · rw [ha, hb] at he'; cases he'
        · rcases hc : decide (x.1 ≤ last) with _ | _
          · rw [tx_within] at ha hb
            have := of_decide_eq_false hc
            refine ⟨fun y hy => ?_, .cons (fun y hy => (h1 y hy).2) h2⟩
            rcases List.mem_cons.1 hy with rfl | hy
            · exact ⟨⟨ha, hb⟩, by omega⟩
            · exact ⟨(h1 y hy).1, by have := (h1 y hy).2; omega⟩
          · rw [ha, hb, hc] at he'; cases he'
    · rw [he, cond_true] at h
      exfalso
      have h' : sp_knErr last x = 0 := h
      rw [h'] at he; cases he
theorem tx_step {c : Bool} {a b : Int × Int} (h : (cond c a b).2 = 0) (ha : a.2 ≠ 0) : c = false ∧ b.2 = 0 := by
  cases c
  · exact ⟨rfl, h⟩
  · exact (ha h).elim
theorem tx_or {a b : Bool} (h : cond a true b = false) : a = false ∧ b = false := by
  cases a
  · exact ⟨rfl, h⟩
  · cases h
theorem tx_step2 {x : Int} {i : Int} {b : Int × Int} (h : (cond (x != 0) (i, x) b).2 = 0) : x = 0 ∧ b.2 = 0 := by
  by_cases hx : x = 0
  · rw [hx] at h; exact ⟨hx, h⟩
  · have : (x != 0) = true := by simpa using hx
    rw [this] at h; exact (hx h).elim
theorem tx_valid {r : CR} (h : (s_counts_CheckRules r).2 = 0) : v_rules r := by
  unfold s_counts_CheckRules at h
  obtain ⟨h1, h⟩ := tx_step h (by decide)
  obtain ⟨h2, h⟩ := tx_step h (by decide)
  obtain ⟨h3, h⟩ := tx_step h (by decide)
  obtain ⟨h4, h⟩ := tx_step h (by decide)
  obtain ⟨h5, h⟩ := tx_step h (by decide)
  obtain ⟨h6, h⟩ := tx_step h (show (2 : Int) ≠ 0 by decide)
  obtain ⟨h7, h⟩ := tx_step h (by decide)
  obtain ⟨h8, h⟩ := tx_step2 h
  obtain ⟨h9, h⟩ := tx_step2 h
  obtain ⟨h10, h⟩ := tx_step2 h
  obtain ⟨h11, h⟩ := tx_step2 h
  obtain ⟨a1, a2⟩ := tx_or h1
  obtain ⟨b1, b2⟩ := tx_or h2
  obtain ⟨c1, c2⟩ := tx_or h3
  obtain ⟨d1, d2⟩ := tx_or h4
  obtain ⟨e1, e2⟩ := tx_or h5
  rw [tx_nwithin] at a1 a2 b1 b2 c1 c2 d1 d2 e1
  rw [wrap_id (by omega) (by omega), tx_nwithin] at e2
  have g := of_decide_eq_false h6
  have g' : decide (s_counts_allWithin r.2.2.2.2.2.2.1 1000 < 0) = true := decide_eq_true (by omega)
  rw [show r.2.2.2.2.2.2.1 = (r.2.2.2.2.2.2.1.1, r.2.2.2.2.2.2.1.2.1, r.2.2.2.2.2.2.1.2.2) from rfl, tx_allneg] at g'
  have g1 : (!s_counts_within r.2.2.2.2.2.2.1.1 0 1000) = false := by
    cases e : (!s_counts_within r.2.2.2.2.2.2.1.1 0 1000)
    · rfl
    · rw [e] at g'; cases g'
  have g2 : (!s_counts_within r.2.2.2.2.2.2.1.2.1 0 1000) = false := by
    cases e : (!s_counts_within r.2.2.2.2.2.2.1.2.1 0 1000)
    · rfl
    · rw [g1, e] at g'; cases g'
  have g3 : (!s_counts_within r.2.2.2.2.2.2.1.2.2 0 1000) = false := by
    cases e : (!s_counts_within r.2.2.2.2.2.2.1.2.2 0 1000)
    · rfl
    · rw [g1, g2, e] at g'; cases g'
  rw [tx_nwithin] at g1 g2 g3
  have k0 := tx_colv ((tx_col _ _ _ _).symm.trans h8)
  have k1 := tx_colv ((tx_col _ _ _ _).symm.trans h9)
  have k2 := tx_colv ((tx_col _ _ _ _).symm.trans h10)
  have hl := (tx_len _).symm.trans h11
  have hkn := tx_kn r.hs 0 (-1) h
  have l1 : ¬ ((r.hs.length : Int) < 2) := fun hx => by
    have : decide ((r.hs.length : Int) < 2) = true := decide_eq_true hx
    rw [show r.2.2.2.2.2.2.2.2 = r.hs from rfl, this] at hl; cases hl
  have l2 : ¬ ((r.hs.length : Int) > 8) := fun hx => by
    have e : decide ((r.hs.length : Int) < 2) = false := decide_eq_false l1
    have : decide ((r.hs.length : Int) > 8) = true := decide_eq_true hx
    rw [show r.2.2.2.2.2.2.2.2 = r.hs from rfl, e, this] at hl; cases hl
  exact ⟨a1, a2, b1, c1, d1, b2, c2, d2, e1, e2, g1, by simpa using h7, g3, k0, k1, k2, by omega, fun x hx => (hkn.1 x hx).1, hkn.2⟩
/- counts_open -/
def C_counts_open : Cons := [(16, [], con_counts_CheckRules)]
theorem hC_counts_open : ConsOk Try.prog C_counts_open := ConsOk.cons ok_counts_CheckRules <| ConsOk.nil
def w_counts_open (p0 : (Int × (Int × ((Int × (Int × Int)) × ((Int × (Int × Int)) × (Int × (Int × ((Int × (Int × Int)) × (((Int × (Int × Int)) × ((Int × (Int × Int)) × (Int × (Int × Int)))) × (List (Int × Int))))))))))) (K : ((Int × (Int × ((Int × (Int × Int)) × ((Int × (Int × Int)) × (Int × (Int × ((Int × (Int × Int)) × (((Int × (Int × Int)) × ((Int × (Int × Int)) × (Int × (Int × Int)))) × (List (Int × Int)))))))))) × Int) → Prop) : Prop :=
  (K (p0, (s_counts_CheckRules p0).2))
set_option maxHeartbeats 4000000 in
theorem w_counts_open_eq (p0 : (Int × (Int × ((Int × (Int × Int)) × ((Int × (Int × Int)) × (Int × (Int × ((Int × (Int × Int)) × (((Int × (Int × Int)) × ((Int × (Int × Int)) × (Int × (Int × Int)))) × (List (Int × Int))))))))))) (K : ((Int × (Int × ((Int × (Int × Int)) × ((Int × (Int × Int)) × (Int × (Int × ((Int × (Int × Int)) × (((Int × (Int × Int)) × ((Int × (Int × Int)) × (Int × (Int × Int)))) × (List (Int × Int)))))))))) × Int) → Prop) : tfn F_counts_open A_counts_open C_counts_open P_counts_open R_counts_open p0 K = w_counts_open p0 K := by kernel_rfl
def s_counts_open (p0 : (Int × (Int × ((Int × (Int × Int)) × ((Int × (Int × Int)) × (Int × (Int × ((Int × (Int × Int)) × (((Int × (Int × Int)) × ((Int × (Int × Int)) × (Int × (Int × Int)))) × (List (Int × Int))))))))))) : ((Int × (Int × ((Int × (Int × Int)) × ((Int × (Int × Int)) × (Int × (Int × ((Int × (Int × Int)) × (((Int × (Int × Int)) × ((Int × (Int × Int)) × (Int × (Int × Int)))) × (List (Int × Int)))))))))) × Int) :=
  (p0, (s_counts_CheckRules p0).2)
abbrev pre_counts_open (p0 : (Int × (Int × ((Int × (Int × Int)) × ((Int × (Int × Int)) × (Int × (Int × ((Int × (Int × Int)) × (((Int × (Int × Int)) × ((Int × (Int × Int)) × (Int × (Int × Int)))) × (List (Int × Int))))))))))) : List Prop := []
set_option maxHeartbeats 4000000 in
theorem d_counts_open (p0 : (Int × (Int × ((Int × (Int × Int)) × ((Int × (Int × Int)) × (Int × (Int × ((Int × (Int × Int)) × (((Int × (Int × Int)) × ((Int × (Int × Int)) × (Int × (Int × Int)))) × (List (Int × Int))))))))))) (K : ((Int × (Int × ((Int × (Int × Int)) × ((Int × (Int × Int)) × (Int × (Int × ((Int × (Int × Int)) × (((Int × (Int × Int)) × ((Int × (Int × Int)) × (Int × (Int × Int)))) × (List (Int × Int)))))))))) × Int) → Prop) (hp : ∀ p ∈ pre_counts_open p0, p) (h : K (s_counts_open p0)) : w_counts_open p0 K := by
  unfold w_counts_open
  unfold s_counts_open at h
  exact h
abbrev con_counts_open : Con := ⟨P_counts_open, R_counts_open, fun x => pre_counts_open x, fun x => s_counts_open x⟩
theorem ok_counts_open : ConOk Try.prog 82 con_counts_open := ⟨k_counts_open, fun x hx => ret_tf (ps := P_counts_open) (rs := R_counts_open) (x := x) (y := s_counts_open x) e_counts_open hC_counts_open (tf_of (w_counts_open_eq x (fun z => z = s_counts_open x)) (d_counts_open x (fun z => z = s_counts_open x) hx rfl))⟩
/- counts_isRaw -/
def C_counts_isRaw : Cons := [(74, [], con_counts_within)]
theorem hC_counts_isRaw : ConsOk Try.prog C_counts_isRaw := ConsOk.cons ok_counts_within <| ConsOk.nil
def w_counts_isRaw (p0 : Int) (K : Bool → Prop) : Prop :=
  (K (s_counts_within p0 (0 : Int) (100000 : Int)))
set_option maxHeartbeats 4000000 in
theorem w_counts_isRaw_eq (p0 : Int) (K : Bool → Prop) : tfn F_counts_isRaw A_counts_isRaw C_counts_isRaw P_counts_isRaw R_counts_isRaw p0 K = w_counts_isRaw p0 K := by kernel_rfl
def s_counts_isRaw (p0 : Int) : Bool :=
  (s_counts_within p0 (0 : Int) (100000 : Int))
abbrev pre_counts_isRaw (p0 : Int) : List Prop := []
set_option maxHeartbeats 4000000 in
theorem d_counts_isRaw (p0 : Int) (K : Bool → Prop) (hp : ∀ p ∈ pre_counts_isRaw p0, p) (h : K (s_counts_isRaw p0)) : w_counts_isRaw p0 K := by
  unfold w_counts_isRaw
  unfold s_counts_isRaw at h
  exact h
abbrev con_counts_isRaw : Con := ⟨P_counts_isRaw, R_counts_isRaw, fun x => pre_counts_isRaw x, fun x => s_counts_isRaw x⟩
theorem ok_counts_isRaw : ConOk Try.prog 104 con_counts_isRaw := ⟨k_counts_isRaw, fun x hx => ret_tf (ps := P_counts_isRaw) (rs := R_counts_isRaw) (x := x) (y := s_counts_isRaw x) e_counts_isRaw hC_counts_isRaw (tf_of (w_counts_isRaw_eq x (fun z => z = s_counts_isRaw x)) (d_counts_isRaw x (fun z => z = s_counts_isRaw x) hx rfl))⟩
/- counts_rules_has -/
def C_counts_rules_has : Cons := [(74, [], con_counts_within)]
theorem hC_counts_rules_has : ConsOk Try.prog C_counts_rules_has := ConsOk.cons ok_counts_within <| ConsOk.nil
def w_counts_rules_has (p0 : (Int × (Int × ((Int × (Int × Int)) × ((Int × (Int × Int)) × (Int × (Int × ((Int × (Int × Int)) × (((Int × (Int × Int)) × ((Int × (Int × Int)) × (Int × (Int × Int)))) × (List (Int × Int))))))))))) (p1 : Int) (K : Bool → Prop) : Prop :=
  (((0 : Int) < (((List.length p0.2.2.2.2.2.2.2.2) : Nat) : Int)) ∧
  (((0 : Int) ≤ (Go.IntKind.wrap .i64 ((((List.length p0.2.2.2.2.2.2.2.2) : Nat) : Int) - (1 : Int)))) ∧
  (((Go.IntKind.wrap .i64 ((((List.length p0.2.2.2.2.2.2.2.2) : Nat) : Int) - (1 : Int))) < (((List.length p0.2.2.2.2.2.2.2.2) : Nat) : Int)) ∧
  (K (s_counts_within p1 (List.getD p0.2.2.2.2.2.2.2.2 (Int.toNat (0 : Int)) ((0 : Int), (0 : Int))).1 (List.getD p0.2.2.2.2.2.2.2.2 (Int.toNat (Go.IntKind.wrap .i64 ((((List.length p0.2.2.2.2.2.2.2.2) : Nat) : Int) - (1 : Int)))) ((0 : Int), (0 : Int))).1)))))
set_option maxHeartbeats 4000000 in
theorem w_counts_rules_has_eq (p0 : (Int × (Int × ((Int × (Int × Int)) × ((Int × (Int × Int)) × (Int × (Int × ((Int × (Int × Int)) × (((Int × (Int × Int)) × ((Int × (Int × Int)) × (Int × (Int × Int)))) × (List (Int × Int))))))))))) (p1 : Int) (K : Bool → Prop) : tfn F_counts_rules_has A_counts_rules_has C_counts_rules_has P_counts_rules_has R_counts_rules_has (p0, p1) K = w_counts_rules_has p0 p1 K := by kernel_rfl
def s_counts_rules_has (p0 : (Int × (Int × ((Int × (Int × Int)) × ((Int × (Int × Int)) × (Int × (Int × ((Int × (Int × Int)) × (((Int × (Int × Int)) × ((Int × (Int × Int)) × (Int × (Int × Int)))) × (List (Int × Int))))))))))) (p1 : Int) : Bool :=
  (s_counts_within p1 (List.getD p0.2.2.2.2.2.2.2.2 (Int.toNat (0 : Int)) ((0 : Int), (0 : Int))).1 (List.getD p0.2.2.2.2.2.2.2.2 (Int.toNat (Go.IntKind.wrap .i64 ((((List.length p0.2.2.2.2.2.2.2.2) : Nat) : Int) - (1 : Int)))) ((0 : Int), (0 : Int))).1)
abbrev pre_counts_rules_has (p0 : (Int × (Int × ((Int × (Int × Int)) × ((Int × (Int × Int)) × (Int × (Int × ((Int × (Int × Int)) × (((Int × (Int × Int)) × ((Int × (Int × Int)) × (Int × (Int × Int)))) × (List (Int × Int))))))))))) (p1 : Int) : List Prop := [((0 : Int) < (((List.length p0.2.2.2.2.2.2.2.2) : Nat) : Int)),
    ((0 : Int) ≤ (Go.IntKind.wrap .i64 ((((List.length p0.2.2.2.2.2.2.2.2) : Nat) : Int) - (1 : Int)))),
    ((Go.IntKind.wrap .i64 ((((List.length p0.2.2.2.2.2.2.2.2) : Nat) : Int) - (1 : Int))) < (((List.length p0.2.2.2.2.2.2.2.2) : Nat) : Int))]
set_option maxHeartbeats 4000000 in
theorem d_counts_rules_has (p0 : (Int × (Int × ((Int × (Int × Int)) × ((Int × (Int × Int)) × (Int × (Int × ((Int × (Int × Int)) × (((Int × (Int × Int)) × ((Int × (Int × Int)) × (Int × (Int × Int)))) × (List (Int × Int))))))))))) (p1 : Int) (K : Bool → Prop) (hp : ∀ p ∈ pre_counts_rules_has p0 p1, p) (h : K (s_counts_rules_has p0 p1)) : w_counts_rules_has p0 p1 K := by
  unfold w_counts_rules_has
  unfold s_counts_rules_has at h
  obtain ⟨hp0, hp1, hp2, _⟩ := conj_of hp
  exact ⟨(hp0), ⟨(hp1), ⟨(hp2), h⟩⟩⟩
abbrev qre_counts_rules_has (p0 : CR) (_ : Int) : List Prop := [v_rules p0]
theorem pp_counts_rules_has (p0 : CR) (p1 : Int) (hq : ∀ p ∈ qre_counts_rules_has p0 p1, p) : ∀ p ∈ pre_counts_rules_has p0 p1, p := by
  have hv : v_rules p0 := hq _ (by simp)
  have h1 := hv.len.1
  have h2 := hv.len.2
  have hl : p0.2.2.2.2.2.2.2.2.length = p0.hs.length := rfl
  intro p hp
  simp only [pre_counts_rules_has, List.mem_cons, List.not_mem_nil, or_false] at hp
  rcases hp with rfl | rfl | rfl
  · omega
  · rw [wrap_id (by omega) (by omega)]; omega
  · rw [wrap_id (by omega) (by omega)]; omega

abbrev con_counts_rules_has : Con := ⟨P_counts_rules_has, R_counts_rules_has, fun x => qre_counts_rules_has x.1 x.2, fun x => s_counts_rules_has x.1 x.2⟩
theorem ok_counts_rules_has : ConOk Try.prog 83 con_counts_rules_has := ⟨k_counts_rules_has, fun x hx => ret_tf (ps := P_counts_rules_has) (rs := R_counts_rules_has) (x := x) (y := s_counts_rules_has x.1 x.2) e_counts_rules_has hC_counts_rules_has (tf_of (w_counts_rules_has_eq x.1 x.2 (fun z => z = s_counts_rules_has x.1 x.2)) (d_counts_rules_has x.1 x.2 (fun z => z = s_counts_rules_has x.1 x.2) (pp_counts_rules_has x.1 x.2 hx) rfl))⟩
/- counts_rules_sampleErr -/
def C_counts_rules_sampleErr : Cons := [(75, [], con_counts_allWithin), (104, [], con_counts_isRaw), (74, [], con_counts_within), (83, [], con_counts_rules_has), (100, [], con_counts_total), (78, [], con_counts_unless), (77, [], con_counts_first)]
theorem hC_counts_rules_sampleErr : ConsOk Try.prog C_counts_rules_sampleErr := ConsOk.cons ok_counts_allWithin <| ConsOk.cons ok_counts_isRaw <| ConsOk.cons ok_counts_within <| ConsOk.cons ok_counts_rules_has <| ConsOk.cons ok_counts_total <| ConsOk.cons ok_counts_unless <| ConsOk.cons ok_counts_first <| ConsOk.nil
def w_counts_rules_sampleErr (p0 : (Int × (Int × ((Int × (Int × Int)) × ((Int × (Int × Int)) × (Int × (Int × ((Int × (Int × Int)) × (((Int × (Int × Int)) × ((Int × (Int × Int)) × (Int × (Int × Int)))) × (List (Int × Int))))))))))) (p1 : ((Int × (Int × Int)) × (Int × (Int × (Int × Int))))) (K : Int → Prop) : Prop :=
  ((((decide ((s_counts_allWithin p1.1 (100000 : Int)) < (0 : Int))) = true) →
  ((decide ((s_counts_allWithin p1.1 (100000 : Int)) < (0 : Int))) = (decide ((s_counts_allWithin p1.1 (100000 : Int)) < (0 : Int))))) ∧
  ((((decide ((s_counts_allWithin p1.1 (100000 : Int)) < (0 : Int))) = true) →
  ((decide ((s_counts_allWithin p1.1 (100000 : Int)) < (0 : Int))) = (decide ((s_counts_allWithin p1.1 (100000 : Int)) < (0 : Int))))) ∧
  (((decide ((s_counts_allWithin p1.1 (100000 : Int)) < (0 : Int))) = (decide ((s_counts_allWithin p1.1 (100000 : Int)) < (0 : Int)))) ∧
  ((((cond (decide ((s_counts_allWithin p1.1 (100000 : Int)) < (0 : Int))) (s_counts_isRaw p1.2.2.1) false) = true) →
  ((cond (decide ((s_counts_allWithin p1.1 (100000 : Int)) < (0 : Int))) (s_counts_isRaw p1.2.2.1) false) = (cond (decide ((s_counts_allWithin p1.1 (100000 : Int)) < (0 : Int))) (s_counts_isRaw p1.2.2.1) false))) ∧
  ((((cond (decide ((s_counts_allWithin p1.1 (100000 : Int)) < (0 : Int))) (s_counts_isRaw p1.2.2.1) false) = true) →
  ((cond (decide ((s_counts_allWithin p1.1 (100000 : Int)) < (0 : Int))) (s_counts_isRaw p1.2.2.1) false) = (cond (decide ((s_counts_allWithin p1.1 (100000 : Int)) < (0 : Int))) (s_counts_isRaw p1.2.2.1) false))) ∧
  (((cond (decide ((s_counts_allWithin p1.1 (100000 : Int)) < (0 : Int))) (s_counts_isRaw p1.2.2.1) false) = (cond (decide ((s_counts_allWithin p1.1 (100000 : Int)) < (0 : Int))) (s_counts_isRaw p1.2.2.1) false)) ∧
  ((((cond (cond (decide ((s_counts_allWithin p1.1 (100000 : Int)) < (0 : Int))) (s_counts_isRaw p1.2.2.1) false) (s_counts_within p1.2.1 (0 : Int) (1000000 : Int)) false) = true) →
  ((cond (cond (decide ((s_counts_allWithin p1.1 (100000 : Int)) < (0 : Int))) (s_counts_isRaw p1.2.2.1) false) (s_counts_within p1.2.1 (0 : Int) (1000000 : Int)) false) = (cond (cond (decide ((s_counts_allWithin p1.1 (100000 : Int)) < (0 : Int))) (s_counts_isRaw p1.2.2.1) false) (s_counts_within p1.2.1 (0 : Int) (1000000 : Int)) false))) ∧
  ((((cond (cond (decide ((s_counts_allWithin p1.1 (100000 : Int)) < (0 : Int))) (s_counts_isRaw p1.2.2.1) false) (s_counts_within p1.2.1 (0 : Int) (1000000 : Int)) false) = true) →
  ((cond (cond (decide ((s_counts_allWithin p1.1 (100000 : Int)) < (0 : Int))) (s_counts_isRaw p1.2.2.1) false) (s_counts_within p1.2.1 (0 : Int) (1000000 : Int)) false) = (cond (cond (decide ((s_counts_allWithin p1.1 (100000 : Int)) < (0 : Int))) (s_counts_isRaw p1.2.2.1) false) (s_counts_within p1.2.1 (0 : Int) (1000000 : Int)) false))) ∧
  (((cond (cond (decide ((s_counts_allWithin p1.1 (100000 : Int)) < (0 : Int))) (s_counts_isRaw p1.2.2.1) false) (s_counts_within p1.2.1 (0 : Int) (1000000 : Int)) false) = (cond (cond (decide ((s_counts_allWithin p1.1 (100000 : Int)) < (0 : Int))) (s_counts_isRaw p1.2.2.1) false) (s_counts_within p1.2.1 (0 : Int) (1000000 : Int)) false)) ∧
  ((((cond (cond (cond (decide ((s_counts_allWithin p1.1 (100000 : Int)) < (0 : Int))) (s_counts_isRaw p1.2.2.1) false) (s_counts_within p1.2.1 (0 : Int) (1000000 : Int)) false) (s_counts_within p1.2.2.2.1 (0 : Int) (10000 : Int)) false) = true) →
  ((cond (cond (cond (decide ((s_counts_allWithin p1.1 (100000 : Int)) < (0 : Int))) (s_counts_isRaw p1.2.2.1) false) (s_counts_within p1.2.1 (0 : Int) (1000000 : Int)) false) (s_counts_within p1.2.2.2.1 (0 : Int) (10000 : Int)) false) = (cond (cond (cond (decide ((s_counts_allWithin p1.1 (100000 : Int)) < (0 : Int))) (s_counts_isRaw p1.2.2.1) false) (s_counts_within p1.2.1 (0 : Int) (1000000 : Int)) false) (s_counts_within p1.2.2.2.1 (0 : Int) (10000 : Int)) false))) ∧
  ((((cond (cond (cond (decide ((s_counts_allWithin p1.1 (100000 : Int)) < (0 : Int))) (s_counts_isRaw p1.2.2.1) false) (s_counts_within p1.2.1 (0 : Int) (1000000 : Int)) false) (s_counts_within p1.2.2.2.1 (0 : Int) (10000 : Int)) false) = true) →
  ((cond (cond (cond (decide ((s_counts_allWithin p1.1 (100000 : Int)) < (0 : Int))) (s_counts_isRaw p1.2.2.1) false) (s_counts_within p1.2.1 (0 : Int) (1000000 : Int)) false) (s_counts_within p1.2.2.2.1 (0 : Int) (10000 : Int)) false) = (cond (cond (cond (decide ((s_counts_allWithin p1.1 (100000 : Int)) < (0 : Int))) (s_counts_isRaw p1.2.2.1) false) (s_counts_within p1.2.1 (0 : Int) (1000000 : Int)) false) (s_counts_within p1.2.2.2.1 (0 : Int) (10000 : Int)) false))) ∧
  ((((cond (cond (cond (decide ((s_counts_allWithin p1.1 (100000 : Int)) < (0 : Int))) (s_counts_isRaw p1.2.2.1) false) (s_counts_within p1.2.1 (0 : Int) (1000000 : Int)) false) (s_counts_within p1.2.2.2.1 (0 : Int) (10000 : Int)) false) = true) →
  ((cond (cond (cond (decide ((s_counts_allWithin p1.1 (100000 : Int)) < (0 : Int))) (s_counts_isRaw p1.2.2.1) false) (s_counts_within p1.2.1 (0 : Int) (1000000 : Int)) false) (s_counts_within p1.2.2.2.1 (0 : Int) (10000 : Int)) false) = (cond (cond (cond (decide ((s_counts_allWithin p1.1 (100000 : Int)) < (0 : Int))) (s_counts_isRaw p1.2.2.1) false) (s_counts_within p1.2.1 (0 : Int) (1000000 : Int)) false) (s_counts_within p1.2.2.2.1 (0 : Int) (10000 : Int)) false))) ∧
  ((((cond (cond (cond (decide ((s_counts_allWithin p1.1 (100000 : Int)) < (0 : Int))) (s_counts_isRaw p1.2.2.1) false) (s_counts_within p1.2.1 (0 : Int) (1000000 : Int)) false) (s_counts_within p1.2.2.2.1 (0 : Int) (10000 : Int)) false) = true) →
  (v_rules p0)) ∧
  (((cond (cond (cond (decide ((s_counts_allWithin p1.1 (100000 : Int)) < (0 : Int))) (s_counts_isRaw p1.2.2.1) false) (s_counts_within p1.2.1 (0 : Int) (1000000 : Int)) false) (s_counts_within p1.2.2.2.1 (0 : Int) (10000 : Int)) false) = (cond (cond (cond (decide ((s_counts_allWithin p1.1 (100000 : Int)) < (0 : Int))) (s_counts_isRaw p1.2.2.1) false) (s_counts_within p1.2.1 (0 : Int) (1000000 : Int)) false) (s_counts_within p1.2.2.2.1 (0 : Int) (10000 : Int)) false)) ∧
  ((((!(cond (cond (cond (cond (decide ((s_counts_allWithin p1.1 (100000 : Int)) < (0 : Int))) (s_counts_isRaw p1.2.2.1) false) (s_counts_within p1.2.1 (0 : Int) (1000000 : Int)) false) (s_counts_within p1.2.2.2.1 (0 : Int) (10000 : Int)) false) (s_counts_rules_has p0 p1.2.2.2.2) false)) = true) →
  (K (2 : Int))) ∧
  (((!(cond (cond (cond (cond (decide ((s_counts_allWithin p1.1 (100000 : Int)) < (0 : Int))) (s_counts_isRaw p1.2.2.1) false) (s_counts_within p1.2.1 (0 : Int) (1000000 : Int)) false) (s_counts_within p1.2.2.2.1 (0 : Int) (10000 : Int)) false) (s_counts_rules_has p0 p1.2.2.2.2) false)) = false) →
  ((lenOk (p1.1.1 :: (p1.1.2.1 :: (p1.1.2.2 :: ([] : List Int))))) ∧
    ((lenOk ((s_counts_unless (decide ((s_counts_total (p1.1.1 :: (p1.1.2.1 :: (p1.1.2.2 :: ([] : List Int))))) ≤ p1.2.1)) (13 : Int)) :: ((s_counts_unless (decide ((Go.IntKind.wrap .i64 ((Go.IntKind.wrap .i64 ((2 : Int) * p0.2.1)) * p1.2.1)) ≤ p0.1)) (22 : Int)) :: ([] : List Int)))) ∧
    (K (s_counts_first ((s_counts_unless (decide ((s_counts_total (p1.1.1 :: (p1.1.2.1 :: (p1.1.2.2 :: ([] : List Int))))) ≤ p1.2.1)) (13 : Int)) :: ((s_counts_unless (decide ((Go.IntKind.wrap .i64 ((Go.IntKind.wrap .i64 ((2 : Int) * p0.2.1)) * p1.2.1)) ≤ p0.1)) (22 : Int)) :: ([] : List Int)))))))))))))))))))))))
set_option maxHeartbeats 4000000 in
theorem w_counts_rules_sampleErr_eq (p0 : (Int × (Int × ((Int × (Int × Int)) × ((Int × (Int × Int)) × (Int × (Int × ((Int × (Int × Int)) × (((Int × (Int × Int)) × ((Int × (Int × Int)) × (Int × (Int × Int)))) × (List (Int × Int))))))))))) (p1 : ((Int × (Int × Int)) × (Int × (Int × (Int × Int))))) (K : Int → Prop) : tfn F_counts_rules_sampleErr A_counts_rules_sampleErr C_counts_rules_sampleErr P_counts_rules_sampleErr R_counts_rules_sampleErr (p0, p1) K = w_counts_rules_sampleErr p0 p1 K := by kernel_rfl
def s_counts_rules_sampleErr (p0 : (Int × (Int × ((Int × (Int × Int)) × ((Int × (Int × Int)) × (Int × (Int × ((Int × (Int × Int)) × (((Int × (Int × Int)) × ((Int × (Int × Int)) × (Int × (Int × Int)))) × (List (Int × Int))))))))))) (p1 : ((Int × (Int × Int)) × (Int × (Int × (Int × Int))))) : Int :=
  (cond (!(cond (cond (cond (cond (decide ((s_counts_allWithin p1.1 (100000 : Int)) < (0 : Int))) (s_counts_isRaw p1.2.2.1) false) (s_counts_within p1.2.1 (0 : Int) (1000000 : Int)) false) (s_counts_within p1.2.2.2.1 (0 : Int) (10000 : Int)) false) (s_counts_rules_has p0 p1.2.2.2.2) false)) (2 : Int)
    (s_counts_first ((s_counts_unless (decide ((s_counts_total (p1.1.1 :: (p1.1.2.1 :: (p1.1.2.2 :: ([] : List Int))))) ≤ p1.2.1)) (13 : Int)) :: ((s_counts_unless (decide ((Go.IntKind.wrap .i64 ((Go.IntKind.wrap .i64 ((2 : Int) * p0.2.1)) * p1.2.1)) ≤ p0.1)) (22 : Int)) :: ([] : List Int)))))
abbrev pre_counts_rules_sampleErr (p0 : (Int × (Int × ((Int × (Int × Int)) × ((Int × (Int × Int)) × (Int × (Int × ((Int × (Int × Int)) × (((Int × (Int × Int)) × ((Int × (Int × Int)) × (Int × (Int × Int)))) × (List (Int × Int))))))))))) (p1 : ((Int × (Int × Int)) × (Int × (Int × (Int × Int))))) : List Prop := [(((cond (cond (cond (decide ((s_counts_allWithin p1.1 (100000 : Int)) < (0 : Int))) (s_counts_isRaw p1.2.2.1) false) (s_counts_within p1.2.1 (0 : Int) (1000000 : Int)) false) (s_counts_within p1.2.2.2.1 (0 : Int) (10000 : Int)) false) = true) → (v_rules p0))]
set_option maxHeartbeats 4000000 in
theorem d_counts_rules_sampleErr (p0 : (Int × (Int × ((Int × (Int × Int)) × ((Int × (Int × Int)) × (Int × (Int × ((Int × (Int × Int)) × (((Int × (Int × Int)) × ((Int × (Int × Int)) × (Int × (Int × Int)))) × (List (Int × Int))))))))))) (p1 : ((Int × (Int × Int)) × (Int × (Int × (Int × Int))))) (K : Int → Prop) (hp : ∀ p ∈ pre_counts_rules_sampleErr p0 p1, p) (h : K (s_counts_rules_sampleErr p0 p1)) : w_counts_rules_sampleErr p0 p1 K := by
  unfold w_counts_rules_sampleErr
  unfold s_counts_rules_sampleErr at h
  obtain ⟨hp0, _⟩ := conj_of hp
  exact ⟨(fun _ => rfl), ⟨(fun _ => rfl), ⟨rfl, ⟨(fun _ => rfl), ⟨(fun _ => rfl), ⟨rfl, ⟨(fun _ => rfl), ⟨(fun _ => rfl), ⟨rfl, ⟨(fun _ => rfl), ⟨(fun _ => rfl), ⟨(fun _ => rfl), ⟨(hp0), ⟨rfl, (br' h (fun e0 h => h)
    (fun e0 h => ⟨(lenOk_of 3 rfl (by decide)), ⟨(lenOk_of 2 rfl (by decide)), h⟩⟩))⟩⟩⟩⟩⟩⟩⟩⟩⟩⟩⟩⟩⟩⟩
abbrev CS : Type := (Int × Int × Int) × Int × Int × Int × Int
abbrev qre_counts_rules_sampleErr (p0 : CR) (_ : CS) : List Prop := [v_rules p0]
theorem pp_counts_rules_sampleErr (p0 : CR) (p1 : CS) (hq : ∀ p ∈ qre_counts_rules_sampleErr p0 p1, p) : ∀ p ∈ pre_counts_rules_sampleErr p0 p1, p := by
  have hv : v_rules p0 := hq _ (by simp)
  intro p hp
  simp only [pre_counts_rules_sampleErr, List.mem_cons, List.not_mem_nil, or_false] at hp
  subst hp
  intros
  exact hv

abbrev con_counts_rules_sampleErr : Con := ⟨P_counts_rules_sampleErr, R_counts_rules_sampleErr, fun x => qre_counts_rules_sampleErr x.1 x.2, fun x => s_counts_rules_sampleErr x.1 x.2⟩
theorem ok_counts_rules_sampleErr : ConOk Try.prog 89 con_counts_rules_sampleErr := ⟨k_counts_rules_sampleErr, fun x hx => ret_tf (ps := P_counts_rules_sampleErr) (rs := R_counts_rules_sampleErr) (x := x) (y := s_counts_rules_sampleErr x.1 x.2) e_counts_rules_sampleErr hC_counts_rules_sampleErr (tf_of (w_counts_rules_sampleErr_eq x.1 x.2 (fun z => z = s_counts_rules_sampleErr x.1 x.2)) (d_counts_rules_sampleErr x.1 x.2 (fun z => z = s_counts_rules_sampleErr x.1 x.2) (pp_counts_rules_sampleErr x.1 x.2 hx) rfl))⟩
/- counts_openSample -/
def C_counts_openSample : Cons := [(82, [], con_counts_open), (89, [], con_counts_rules_sampleErr)]
theorem hC_counts_openSample : ConsOk Try.prog C_counts_openSample := ConsOk.cons ok_counts_open <| ConsOk.cons ok_counts_rules_sampleErr <| ConsOk.nil
def w_counts_openSample (p0 : (Int × (Int × ((Int × (Int × Int)) × ((Int × (Int × Int)) × (Int × (Int × ((Int × (Int × Int)) × (((Int × (Int × Int)) × ((Int × (Int × Int)) × (Int × (Int × Int)))) × (List (Int × Int))))))))))) (p1 : ((Int × (Int × Int)) × (Int × (Int × (Int × Int))))) (K : ((Int × (Int × ((Int × (Int × Int)) × ((Int × (Int × Int)) × (Int × (Int × ((Int × (Int × Int)) × (((Int × (Int × Int)) × ((Int × (Int × Int)) × (Int × (Int × Int)))) × (List (Int × Int)))))))))) × Int) → Prop) : Prop :=
  (((((s_counts_CheckRules p0).2 == (0 : Int)) = true) →
  ((v_rules p0) ∧
    (K (p0, (s_counts_rules_sampleErr p0 p1))))) ∧
  ((((s_counts_CheckRules p0).2 == (0 : Int)) = false) →
  (K (p0, (s_counts_CheckRules p0).2))))
set_option maxHeartbeats 4000000 in
theorem w_counts_openSample_eq (p0 : (Int × (Int × ((Int × (Int × Int)) × ((Int × (Int × Int)) × (Int × (Int × ((Int × (Int × Int)) × (((Int × (Int × Int)) × ((Int × (Int × Int)) × (Int × (Int × Int)))) × (List (Int × Int))))))))))) (p1 : ((Int × (Int × Int)) × (Int × (Int × (Int × Int))))) (K : ((Int × (Int × ((Int × (Int × Int)) × ((Int × (Int × Int)) × (Int × (Int × ((Int × (Int × Int)) × (((Int × (Int × Int)) × ((Int × (Int × Int)) × (Int × (Int × Int)))) × (List (Int × Int)))))))))) × Int) → Prop) : tfn F_counts_openSample A_counts_openSample C_counts_openSample P_counts_openSample R_counts_openSample (p0, p1) K = w_counts_openSample p0 p1 K := by kernel_rfl
def s_counts_openSample (p0 : (Int × (Int × ((Int × (Int × Int)) × ((Int × (Int × Int)) × (Int × (Int × ((Int × (Int × Int)) × (((Int × (Int × Int)) × ((Int × (Int × Int)) × (Int × (Int × Int)))) × (List (Int × Int))))))))))) (p1 : ((Int × (Int × Int)) × (Int × (Int × (Int × Int))))) : ((Int × (Int × ((Int × (Int × Int)) × ((Int × (Int × Int)) × (Int × (Int × ((Int × (Int × Int)) × (((Int × (Int × Int)) × ((Int × (Int × Int)) × (Int × (Int × Int)))) × (List (Int × Int)))))))))) × Int) :=
  (cond ((s_counts_CheckRules p0).2 == (0 : Int)) (p0, (s_counts_rules_sampleErr p0 p1))
    (p0, (s_counts_CheckRules p0).2))
abbrev pre_counts_openSample (p0 : (Int × (Int × ((Int × (Int × Int)) × ((Int × (Int × Int)) × (Int × (Int × ((Int × (Int × Int)) × (((Int × (Int × Int)) × ((Int × (Int × Int)) × (Int × (Int × Int)))) × (List (Int × Int))))))))))) (p1 : ((Int × (Int × Int)) × (Int × (Int × (Int × Int))))) : List Prop := [((((s_counts_CheckRules p0).2 == (0 : Int)) = true) → (v_rules p0))]
set_option maxHeartbeats 4000000 in
theorem d_counts_openSample (p0 : (Int × (Int × ((Int × (Int × Int)) × ((Int × (Int × Int)) × (Int × (Int × ((Int × (Int × Int)) × (((Int × (Int × Int)) × ((Int × (Int × Int)) × (Int × (Int × Int)))) × (List (Int × Int))))))))))) (p1 : ((Int × (Int × Int)) × (Int × (Int × (Int × Int))))) (K : ((Int × (Int × ((Int × (Int × Int)) × ((Int × (Int × Int)) × (Int × (Int × ((Int × (Int × Int)) × (((Int × (Int × Int)) × ((Int × (Int × Int)) × (Int × (Int × Int)))) × (List (Int × Int)))))))))) × Int) → Prop) (hp : ∀ p ∈ pre_counts_openSample p0 p1, p) (h : K (s_counts_openSample p0 p1)) : w_counts_openSample p0 p1 K := by
  unfold w_counts_openSample
  unfold s_counts_openSample at h
  obtain ⟨hp0, _⟩ := conj_of hp
  exact (br' h (fun e0 h => ⟨(hp0 e0), h⟩)
    (fun e0 h => h))
/-- The error of rules and a sample. -/
def v_both (p0 : CR) (p1 : CS) : Int := cond ((s_counts_CheckRules p0).2 == 0) (s_counts_rules_sampleErr p0 p1) (s_counts_CheckRules p0).2
theorem v_both_rules {p0 : CR} {p1 : CS} (h : v_both p0 p1 = 0) : (s_counts_CheckRules p0).2 = 0 := by
  unfold v_both at h
  rcases he : ((s_counts_CheckRules p0).2 == 0) with _ | _
  · rw [he] at h; exact h
  · simpa using he
abbrev t_counts_openSample (p0 : CR) (p1 : CS) : CR × Int := (p0, v_both p0 p1)
abbrev qre_counts_openSample (_ : CR) (_ : CS) : List Prop := []
theorem pp_counts_openSample (p0 : CR) (p1 : CS) (_ : ∀ p ∈ qre_counts_openSample p0 p1, p) : ∀ p ∈ pre_counts_openSample p0 p1, p := by
  intro p hp
  simp only [pre_counts_openSample, List.mem_cons, List.not_mem_nil, or_false] at hp
  subst hp
  intro h
  exact tx_valid (by simpa using h)
theorem tt_counts_openSample (p0 : CR) (p1 : CS) (_ : ∀ p ∈ qre_counts_openSample p0 p1, p) : s_counts_openSample p0 p1 = t_counts_openSample p0 p1 := by
  unfold s_counts_openSample t_counts_openSample v_both
  cases (s_counts_CheckRules p0).2 == 0 <;> rfl

abbrev con_counts_openSample : Con := ⟨P_counts_openSample, R_counts_openSample, fun x => qre_counts_openSample x.1 x.2, fun x => t_counts_openSample x.1 x.2⟩
theorem ok_counts_openSample : ConOk Try.prog 79 con_counts_openSample := ⟨k_counts_openSample, fun x hx => ret_tf (ps := P_counts_openSample) (rs := R_counts_openSample) (x := x) (y := t_counts_openSample x.1 x.2) e_counts_openSample hC_counts_openSample (tf_of (w_counts_openSample_eq x.1 x.2 (fun z => z = t_counts_openSample x.1 x.2)) (d_counts_openSample x.1 x.2 (fun z => z = t_counts_openSample x.1 x.2) (pp_counts_openSample x.1 x.2 hx) (tt_counts_openSample x.1 x.2 hx)))⟩
/-- A valid sample of valid rules. -/
structure v_samp (r : CR) (s : CS) : Prop where
  rules : v_rules r
  raw0 : 0 ≤ s.1.1 ∧ s.1.1 ≤ 100000
  raw1 : 0 ≤ s.1.2.1 ∧ s.1.2.1 ≤ 100000
  raw2 : 0 ≤ s.1.2.2 ∧ s.1.2.2 ≤ 100000
  total : 0 ≤ s.2.1 ∧ s.2.1 ≤ 1000000
  cosmic : 0 ≤ s.2.2.1 ∧ s.2.2.1 ≤ 100000
  up : 0 ≤ s.2.2.2.1 ∧ s.2.2.2.1 ≤ 10000
  high : s_counts_rules_has r s.2.2.2.2 = true
  sum : s.1.1 + s.1.2.1 + s.1.2.2 ≤ s.2.1
  dead : 2 * (r.2.1 * s.2.1) ≤ r.1
theorem tx_and {a b : Bool} (h : cond a b false = true) : a = true ∧ b = true := by
  cases a
  · cases h
  · exact ⟨rfl, h⟩
theorem tx_mul {x y a b : Int} (h1 : 0 ≤ x) (h2 : x ≤ a) (h3 : 0 ≤ y) (h4 : y ≤ b) : 0 ≤ x * y ∧ x * y ≤ a * b := ⟨Int.mul_nonneg h1 h3, Int.mul_le_mul h2 h4 h3 (by omega)⟩
theorem tx_samp {r : CR} {s : CS} (h : v_both r s = 0) : v_samp r s := by
  have h0 := v_both_rules h
  have hv := tx_valid h0
  have hs : s_counts_rules_sampleErr r s = 0 := by unfold v_both at h; rw [h0] at h; exact h
  obtain ⟨⟨a, b, c⟩, t, k, u, z⟩ := s
  unfold s_counts_rules_sampleErr at hs
  rw [tx_err _ _ _ (by decide), tx_err _ _ _ (by decide), tx_allneg] at hs
  rcases hr : (cond (cond (cond (cond (cond (!s_counts_within a 0 100000) false (cond (!s_counts_within b 0 100000) false (cond (!s_counts_within c 0 100000) false true))) (s_counts_isRaw k) false) (s_counts_within t 0 1000000) false) (s_counts_within u 0 10000) false) (s_counts_rules_has r z) false) with _ | _
  · simp only [hr] at hs; cases hs
  · simp only [hr] at hs
    obtain ⟨hr, h5⟩ := tx_and hr
    obtain ⟨hr, h4⟩ := tx_and hr
    obtain ⟨hr, h3⟩ := tx_and hr
    obtain ⟨hr, h2⟩ := tx_and hr
    rcases ha : s_counts_within a 0 100000 with _ | _
    · rw [ha] at hr; cases hr
    rcases hb : s_counts_within b 0 100000 with _ | _
    · rw [ha, hb] at hr; cases hr
    rcases hc : s_counts_within c 0 100000 with _ | _
    · rw [ha, hb, hc] at hr; cases hr
    have h2' : s_counts_within k 0 100000 = true := h2
    rw [tx_within] at ha hb hc h2' h3 h4
    rcases g1 : decide (s_counts_total [a, b, c] ≤ t) with _ | _
    · rw [g1] at hs; cases hs
    rcases g2 : decide (IntKind.i64.wrap (IntKind.i64.wrap (2 * r.2.1) * t) ≤ r.1) with _ | _
    · rw [g1, g2] at hs; cases hs
    have g1' := of_decide_eq_true g1
    have g2' := of_decide_eq_true g2
    have g3 : s_counts_total [a, b, c] = IntKind.i64.wrap (IntKind.i64.wrap (IntKind.i64.wrap (0 + a) + b) + c) := rfl
    rw [g3, wrap_id (n := 0 + a) (by omega) (by omega), wrap_id (n := 0 + a + b) (by omega) (by omega), wrap_id (by omega) (by omega)] at g1'
    have hm := tx_mul hv.dead.1 hv.dead.2 h3.1 h3.2
    have e : 2 * r.2.1 * t = 2 * (r.2.1 * t) := Int.mul_assoc _ _ _
    rw [w_mul_l, e, wrap_id (by omega) (by omega)] at g2'
    exact ⟨hv, ha, hb, hc, h3, h2', h4, h5, by show a + b + c ≤ t; omega, g2'⟩
theorem tx_live {r : CR} {s : CS} (h : v_samp r s) : IntKind.i64.wrap (r.1 - IntKind.i64.wrap (r.2.1 * s.2.1)) = r.1 - r.2.1 * s.2.1 ∧ 1 ≤ r.1 - r.2.1 * s.2.1 ∧ r.1 - r.2.1 * s.2.1 ≤ 1000000 := by
  have h1 := h.rules.period
  have h2 := h.dead
  have h3 := tx_mul h.rules.dead.1 h.rules.dead.2 h.total.1 h.total.2
  rw [w_sub_r, wrap_id (by omega) (by omega)]
  omega
theorem tx_air {r : CR} (h : v_rules r) : IntKind.i64.wrap (r.2.2.2.2.2.1 - r.2.2.2.2.1) = r.2.2.2.2.2.1 - r.2.2.2.2.1 ∧ 200 ≤ r.2.2.2.2.2.1 - r.2.2.2.2.1 ∧ r.2.2.2.2.2.1 - r.2.2.2.2.1 ≤ 1000 := by
  have h1 := h.ground
  have h2 := h.air
  rw [wrap_id (by omega) (by omega)]
  omega
theorem tx_vok {r : CR} {s : CS} (h : (v_both r s != 0) = false) : v_samp r s := tx_samp (by simpa using h)
theorem tx_rok {r : CR} (h : ((s_counts_CheckRules r).2 != 0) = false) : v_rules r := tx_valid (by simpa using h)
/- counts_CheckSample -/
def C_counts_CheckSample : Cons := [(79, [], con_counts_openSample)]
theorem hC_counts_CheckSample : ConsOk Try.prog C_counts_CheckSample := ConsOk.cons ok_counts_openSample <| ConsOk.nil
def w_counts_CheckSample (p0 : (Int × (Int × ((Int × (Int × Int)) × ((Int × (Int × Int)) × (Int × (Int × ((Int × (Int × Int)) × (((Int × (Int × Int)) × ((Int × (Int × Int)) × (Int × (Int × Int)))) × (List (Int × Int))))))))))) (p1 : ((Int × (Int × Int)) × (Int × (Int × (Int × Int))))) (K : Int → Prop) : Prop :=
  (K (v_both p0 p1))
set_option maxHeartbeats 4000000 in
theorem w_counts_CheckSample_eq (p0 : (Int × (Int × ((Int × (Int × Int)) × ((Int × (Int × Int)) × (Int × (Int × ((Int × (Int × Int)) × (((Int × (Int × Int)) × ((Int × (Int × Int)) × (Int × (Int × Int)))) × (List (Int × Int))))))))))) (p1 : ((Int × (Int × Int)) × (Int × (Int × (Int × Int))))) (K : Int → Prop) : tfn F_counts_CheckSample A_counts_CheckSample C_counts_CheckSample P_counts_CheckSample R_counts_CheckSample (p0, p1) K = w_counts_CheckSample p0 p1 K := by kernel_rfl
def s_counts_CheckSample (p0 : (Int × (Int × ((Int × (Int × Int)) × ((Int × (Int × Int)) × (Int × (Int × ((Int × (Int × Int)) × (((Int × (Int × Int)) × ((Int × (Int × Int)) × (Int × (Int × Int)))) × (List (Int × Int))))))))))) (p1 : ((Int × (Int × Int)) × (Int × (Int × (Int × Int))))) : Int :=
  (v_both p0 p1)
abbrev pre_counts_CheckSample (p0 : (Int × (Int × ((Int × (Int × Int)) × ((Int × (Int × Int)) × (Int × (Int × ((Int × (Int × Int)) × (((Int × (Int × Int)) × ((Int × (Int × Int)) × (Int × (Int × Int)))) × (List (Int × Int))))))))))) (p1 : ((Int × (Int × Int)) × (Int × (Int × (Int × Int))))) : List Prop := []
set_option maxHeartbeats 4000000 in
theorem d_counts_CheckSample (p0 : (Int × (Int × ((Int × (Int × Int)) × ((Int × (Int × Int)) × (Int × (Int × ((Int × (Int × Int)) × (((Int × (Int × Int)) × ((Int × (Int × Int)) × (Int × (Int × Int)))) × (List (Int × Int))))))))))) (p1 : ((Int × (Int × Int)) × (Int × (Int × (Int × Int))))) (K : Int → Prop) (hp : ∀ p ∈ pre_counts_CheckSample p0 p1, p) (h : K (s_counts_CheckSample p0 p1)) : w_counts_CheckSample p0 p1 K := by
  unfold w_counts_CheckSample
  unfold s_counts_CheckSample at h
  exact h
abbrev con_counts_CheckSample : Con := ⟨P_counts_CheckSample, R_counts_CheckSample, fun x => pre_counts_CheckSample x.1 x.2, fun x => s_counts_CheckSample x.1 x.2⟩
theorem ok_counts_CheckSample : ConOk Try.prog 18 con_counts_CheckSample := ⟨k_counts_CheckSample, fun x hx => ret_tf (ps := P_counts_CheckSample) (rs := R_counts_CheckSample) (x := x) (y := s_counts_CheckSample x.1 x.2) e_counts_CheckSample hC_counts_CheckSample (tf_of (w_counts_CheckSample_eq x.1 x.2 (fun z => z = s_counts_CheckSample x.1 x.2)) (d_counts_CheckSample x.1 x.2 (fun z => z = s_counts_CheckSample x.1 x.2) hx rfl))⟩
/- base_Within -/
def C_base_Within : Cons := []
theorem hC_base_Within : ConsOk Try.prog C_base_Within := ConsOk.nil
def w_base_Within (p0 : Int) (p1 : Int) (p2 : Int) (K : Bool → Prop) : Prop :=
  ((((decide (p1 ≤ p0)) = true) →
  ((decide (p1 ≤ p0)) = (decide (p1 ≤ p0)))) ∧
  ((((decide (p1 ≤ p0)) = true) →
  ((decide (p1 ≤ p0)) = (decide (p1 ≤ p0)))) ∧
  (((decide (p1 ≤ p0)) = (decide (p1 ≤ p0))) ∧
  (K (cond (decide (p1 ≤ p0)) (decide (p0 ≤ p2)) false)))))
set_option maxHeartbeats 4000000 in
theorem w_base_Within_eq (p0 : Int) (p1 : Int) (p2 : Int) (K : Bool → Prop) : tfn F_base_Within A_base_Within C_base_Within P_base_Within R_base_Within (p0, p1, p2) K = w_base_Within p0 p1 p2 K := by kernel_rfl
def s_base_Within (p0 : Int) (p1 : Int) (p2 : Int) : Bool :=
  (cond (decide (p1 ≤ p0)) (decide (p0 ≤ p2)) false)
abbrev pre_base_Within (p0 : Int) (p1 : Int) (p2 : Int) : List Prop := []
set_option maxHeartbeats 4000000 in
theorem d_base_Within (p0 : Int) (p1 : Int) (p2 : Int) (K : Bool → Prop) (hp : ∀ p ∈ pre_base_Within p0 p1 p2, p) (h : K (s_base_Within p0 p1 p2)) : w_base_Within p0 p1 p2 K := by
  unfold w_base_Within
  unfold s_base_Within at h
  exact ⟨(fun _ => rfl), ⟨(fun _ => rfl), ⟨rfl, h⟩⟩⟩
abbrev con_base_Within : Con := ⟨P_base_Within, R_base_Within, fun x => pre_base_Within x.1 x.2.1 x.2.2, fun x => s_base_Within x.1 x.2.1 x.2.2⟩
theorem ok_base_Within : ConOk Try.prog 40 con_base_Within := ⟨k_base_Within, fun x hx => ret_tf (ps := P_base_Within) (rs := R_base_Within) (x := x) (y := s_base_Within x.1 x.2.1 x.2.2) e_base_Within hC_base_Within (tf_of (w_base_Within_eq x.1 x.2.1 x.2.2 (fun z => z = s_base_Within x.1 x.2.1 x.2.2)) (d_base_Within x.1 x.2.1 x.2.2 (fun z => z = s_base_Within x.1 x.2.1 x.2.2) hx rfl))⟩
/- ref06_CheckRules -/
def C_ref06_CheckRules : Cons := [(40, [], con_base_Within)]
theorem hC_ref06_CheckRules : ConsOk Try.prog C_ref06_CheckRules := ConsOk.cons ok_base_Within <| ConsOk.nil
def w_ref06_CheckRules (p0 : (Int × (Int × ((Int × (Int × Int)) × ((Int × (Int × Int)) × (Int × (Int × ((Int × (Int × Int)) × (((Int × (Int × Int)) × ((Int × (Int × Int)) × (Int × (Int × Int)))) × (List (Int × Int))))))))))) (K : (Int × Int) → Prop) : Prop :=
  ((((!(s_base_Within p0.1 (1 : Int) (1000000 : Int))) = false) →
  ((!(s_base_Within p0.1 (1 : Int) (1000000 : Int))) = (!(s_base_Within p0.1 (1 : Int) (1000000 : Int))))) ∧
  ((((!(s_base_Within p0.1 (1 : Int) (1000000 : Int))) = false) →
  ((!(s_base_Within p0.1 (1 : Int) (1000000 : Int))) = (!(s_base_Within p0.1 (1 : Int) (1000000 : Int))))) ∧
  ((((!(s_base_Within p0.1 (1 : Int) (1000000 : Int))) = false) →
  ((!(s_base_Within p0.1 (1 : Int) (1000000 : Int))) = (!(s_base_Within p0.1 (1 : Int) (1000000 : Int))))) ∧
  (((!(s_base_Within p0.1 (1 : Int) (1000000 : Int))) = (!(s_base_Within p0.1 (1 : Int) (1000000 : Int)))) ∧
  ((((cond (!(s_base_Within p0.1 (1 : Int) (1000000 : Int))) true (!(s_base_Within p0.2.1 (0 : Int) (100 : Int)))) = true) →
  (K ((0 : Int), (2 : Int)))) ∧
  (((cond (!(s_base_Within p0.1 (1 : Int) (1000000 : Int))) true (!(s_base_Within p0.2.1 (0 : Int) (100 : Int)))) = false) →
  (∃ n0, (loopP (fun (y1 : Int) k2 =>
      ((((decide (y1 < (3 : Int))) = true) →
      (((0 : Int) ≤ y1) ∧
        ((y1 < (3 : Int)) ∧
        ((((!(s_base_Within (List.getD (p0.2.2.1.1 :: (p0.2.2.1.2.1 :: (p0.2.2.1.2.2 :: ([] : List Int)))) (Int.toNat y1) (0 : Int)) (0 : Int) (1000000 : Int))) = false) →
        ((!(s_base_Within (List.getD (p0.2.2.1.1 :: (p0.2.2.1.2.1 :: (p0.2.2.1.2.2 :: ([] : List Int)))) (Int.toNat y1) (0 : Int)) (0 : Int) (1000000 : Int))) = (!(s_base_Within (List.getD (p0.2.2.1.1 :: (p0.2.2.1.2.1 :: (p0.2.2.1.2.2 :: ([] : List Int)))) (Int.toNat y1) (0 : Int)) (0 : Int) (1000000 : Int))))) ∧
        ((((!(s_base_Within (List.getD (p0.2.2.1.1 :: (p0.2.2.1.2.1 :: (p0.2.2.1.2.2 :: ([] : List Int)))) (Int.toNat y1) (0 : Int)) (0 : Int) (1000000 : Int))) = false) →
        ((!(s_base_Within (List.getD (p0.2.2.1.1 :: (p0.2.2.1.2.1 :: (p0.2.2.1.2.2 :: ([] : List Int)))) (Int.toNat y1) (0 : Int)) (0 : Int) (1000000 : Int))) = (!(s_base_Within (List.getD (p0.2.2.1.1 :: (p0.2.2.1.2.1 :: (p0.2.2.1.2.2 :: ([] : List Int)))) (Int.toNat y1) (0 : Int)) (0 : Int) (1000000 : Int))))) ∧
        ((((!(s_base_Within (List.getD (p0.2.2.1.1 :: (p0.2.2.1.2.1 :: (p0.2.2.1.2.2 :: ([] : List Int)))) (Int.toNat y1) (0 : Int)) (0 : Int) (1000000 : Int))) = false) →
        ((0 : Int) ≤ y1)) ∧
        ((((!(s_base_Within (List.getD (p0.2.2.1.1 :: (p0.2.2.1.2.1 :: (p0.2.2.1.2.2 :: ([] : List Int)))) (Int.toNat y1) (0 : Int)) (0 : Int) (1000000 : Int))) = false) →
        (y1 < (3 : Int))) ∧
        ((((!(s_base_Within (List.getD (p0.2.2.1.1 :: (p0.2.2.1.2.1 :: (p0.2.2.1.2.2 :: ([] : List Int)))) (Int.toNat y1) (0 : Int)) (0 : Int) (1000000 : Int))) = false) →
        ((!(s_base_Within (List.getD (p0.2.2.1.1 :: (p0.2.2.1.2.1 :: (p0.2.2.1.2.2 :: ([] : List Int)))) (Int.toNat y1) (0 : Int)) (0 : Int) (1000000 : Int))) = (!(s_base_Within (List.getD (p0.2.2.1.1 :: (p0.2.2.1.2.1 :: (p0.2.2.1.2.2 :: ([] : List Int)))) (Int.toNat y1) (0 : Int)) (0 : Int) (1000000 : Int))))) ∧
        ((((!(s_base_Within (List.getD (p0.2.2.1.1 :: (p0.2.2.1.2.1 :: (p0.2.2.1.2.2 :: ([] : List Int)))) (Int.toNat y1) (0 : Int)) (0 : Int) (1000000 : Int))) = false) →
        ((!(s_base_Within (List.getD (p0.2.2.1.1 :: (p0.2.2.1.2.1 :: (p0.2.2.1.2.2 :: ([] : List Int)))) (Int.toNat y1) (0 : Int)) (0 : Int) (1000000 : Int))) = (!(s_base_Within (List.getD (p0.2.2.1.1 :: (p0.2.2.1.2.1 :: (p0.2.2.1.2.2 :: ([] : List Int)))) (Int.toNat y1) (0 : Int)) (0 : Int) (1000000 : Int))))) ∧
        ((((!(s_base_Within (List.getD (p0.2.2.1.1 :: (p0.2.2.1.2.1 :: (p0.2.2.1.2.2 :: ([] : List Int)))) (Int.toNat y1) (0 : Int)) (0 : Int) (1000000 : Int))) = false) →
        ((!(s_base_Within (List.getD (p0.2.2.1.1 :: (p0.2.2.1.2.1 :: (p0.2.2.1.2.2 :: ([] : List Int)))) (Int.toNat y1) (0 : Int)) (0 : Int) (1000000 : Int))) = (!(s_base_Within (List.getD (p0.2.2.1.1 :: (p0.2.2.1.2.1 :: (p0.2.2.1.2.2 :: ([] : List Int)))) (Int.toNat y1) (0 : Int)) (0 : Int) (1000000 : Int))))) ∧
        (((!(s_base_Within (List.getD (p0.2.2.1.1 :: (p0.2.2.1.2.1 :: (p0.2.2.1.2.2 :: ([] : List Int)))) (Int.toNat y1) (0 : Int)) (0 : Int) (1000000 : Int))) = (!(s_base_Within (List.getD (p0.2.2.1.1 :: (p0.2.2.1.2.1 :: (p0.2.2.1.2.2 :: ([] : List Int)))) (Int.toNat y1) (0 : Int)) (0 : Int) (1000000 : Int)))) ∧
        ((((cond (!(s_base_Within (List.getD (p0.2.2.1.1 :: (p0.2.2.1.2.1 :: (p0.2.2.1.2.2 :: ([] : List Int)))) (Int.toNat y1) (0 : Int)) (0 : Int) (1000000 : Int))) true (!(s_base_Within (List.getD (p0.2.2.2.1.1 :: (p0.2.2.2.1.2.1 :: (p0.2.2.2.1.2.2 :: ([] : List Int)))) (Int.toNat y1) (0 : Int)) (0 : Int) (1000 : Int)))) = true) →
        (K (y1, (2 : Int)))) ∧
        (((cond (!(s_base_Within (List.getD (p0.2.2.1.1 :: (p0.2.2.1.2.1 :: (p0.2.2.1.2.2 :: ([] : List Int)))) (Int.toNat y1) (0 : Int)) (0 : Int) (1000000 : Int))) true (!(s_base_Within (List.getD (p0.2.2.2.1.1 :: (p0.2.2.2.1.2.1 :: (p0.2.2.2.1.2.2 :: ([] : List Int)))) (Int.toNat y1) (0 : Int)) (0 : Int) (1000 : Int)))) = false) →
        (k2 (Go.IntKind.wrap .i64 (y1 + (1 : Int))))))))))))))))) ∧
      (((decide (y1 < (3 : Int))) = false) →
      ((((!(s_base_Within p0.2.2.2.2.1 (0 : Int) (200 : Int))) = false) →
        ((!(s_base_Within p0.2.2.2.2.1 (0 : Int) (200 : Int))) = (!(s_base_Within p0.2.2.2.2.1 (0 : Int) (200 : Int))))) ∧
        ((((!(s_base_Within p0.2.2.2.2.1 (0 : Int) (200 : Int))) = false) →
        ((!(s_base_Within p0.2.2.2.2.1 (0 : Int) (200 : Int))) = (!(s_base_Within p0.2.2.2.2.1 (0 : Int) (200 : Int))))) ∧
        ((((!(s_base_Within p0.2.2.2.2.1 (0 : Int) (200 : Int))) = false) →
        ((!(s_base_Within p0.2.2.2.2.1 (0 : Int) (200 : Int))) = (!(s_base_Within p0.2.2.2.2.1 (0 : Int) (200 : Int))))) ∧
        ((((!(s_base_Within p0.2.2.2.2.1 (0 : Int) (200 : Int))) = false) →
        ((!(s_base_Within p0.2.2.2.2.1 (0 : Int) (200 : Int))) = (!(s_base_Within p0.2.2.2.2.1 (0 : Int) (200 : Int))))) ∧
        ((((!(s_base_Within p0.2.2.2.2.1 (0 : Int) (200 : Int))) = false) →
        ((!(s_base_Within p0.2.2.2.2.1 (0 : Int) (200 : Int))) = (!(s_base_Within p0.2.2.2.2.1 (0 : Int) (200 : Int))))) ∧
        ((((!(s_base_Within p0.2.2.2.2.1 (0 : Int) (200 : Int))) = false) →
        ((!(s_base_Within p0.2.2.2.2.1 (0 : Int) (200 : Int))) = (!(s_base_Within p0.2.2.2.2.1 (0 : Int) (200 : Int))))) ∧
        (((!(s_base_Within p0.2.2.2.2.1 (0 : Int) (200 : Int))) = (!(s_base_Within p0.2.2.2.2.1 (0 : Int) (200 : Int)))) ∧
        ((((cond (!(s_base_Within p0.2.2.2.2.1 (0 : Int) (200 : Int))) true (!(s_base_Within p0.2.2.2.2.2.1 (Go.IntKind.wrap .i64 (p0.2.2.2.2.1 + (200 : Int))) (1000 : Int)))) = true) →
        (K ((0 : Int), (2 : Int)))) ∧
        (((cond (!(s_base_Within p0.2.2.2.2.1 (0 : Int) (200 : Int))) true (!(s_base_Within p0.2.2.2.2.2.1 (Go.IntKind.wrap .i64 (p0.2.2.2.2.1 + (200 : Int))) (1000 : Int)))) = false) →
        (∃ n3, (loopP (fun (y4 : Int) k5 =>
            ((((decide (y4 < (3 : Int))) = true) →
            (((0 : Int) ≤ y4) ∧
              ((y4 < (3 : Int)) ∧
              ((((!(s_base_Within (List.getD (p0.2.2.2.2.2.2.1.1 :: (p0.2.2.2.2.2.2.1.2.1 :: (p0.2.2.2.2.2.2.1.2.2 :: ([] : List Int)))) (Int.toNat y4) (0 : Int)) (0 : Int) (1000 : Int))) = true) →
              (K (y4, (2 : Int)))) ∧
              (((!(s_base_Within (List.getD (p0.2.2.2.2.2.2.1.1 :: (p0.2.2.2.2.2.2.1.2.1 :: (p0.2.2.2.2.2.2.1.2.2 :: ([] : List Int)))) (Int.toNat y4) (0 : Int)) (0 : Int) (1000 : Int))) = false) →
              (k5 (Go.IntKind.wrap .i64 (y4 + (1 : Int))))))))) ∧
            (((decide (y4 < (3 : Int))) = false) →
            ((((p0.2.2.2.2.2.2.1.2.1 != (1000 : Int)) = true) →
              (K ((1 : Int), (3 : Int)))) ∧
              (((p0.2.2.2.2.2.2.1.2.1 != (1000 : Int)) = false) →
              (∃ n6, (loopP (fun (y7 : Int) k8 =>
                  ((((decide (y7 < (3 : Int))) = true) →
                  (∃ n9, (loopP (fun (y10 : (Int × Int)) k11 =>
                      ((((decide (y10.1 < (3 : Int))) = true) →
                      (((0 : Int) ≤ y10.1) ∧
                        ((y10.1 < (3 : Int)) ∧
                        (((0 : Int) ≤ y7) ∧
                        ((y7 < (3 : Int)) ∧
                        ((((!(s_base_Within (List.getD ((List.getD (p0.2.2.2.2.2.2.2.1.1.1 :: (p0.2.2.2.2.2.2.2.1.2.1.1 :: (p0.2.2.2.2.2.2.2.1.2.2.1 :: ([] : List Int)))) (Int.toNat y10.1) (0 : Int)) :: ((List.getD (p0.2.2.2.2.2.2.2.1.1.2.1 :: (p0.2.2.2.2.2.2.2.1.2.1.2.1 :: (p0.2.2.2.2.2.2.2.1.2.2.2.1 :: ([] : List Int)))) (Int.toNat y10.1) (0 : Int)) :: ((List.getD (p0.2.2.2.2.2.2.2.1.1.2.2 :: (p0.2.2.2.2.2.2.2.1.2.1.2.2 :: (p0.2.2.2.2.2.2.2.1.2.2.2.2 :: ([] : List Int)))) (Int.toNat y10.1) (0 : Int)) :: ([] : List Int)))) (Int.toNat y7) (0 : Int)) (0 : Int) (1000 : Int))) = true) →
                        (K (y7, (2 : Int)))) ∧
                        (((!(s_base_Within (List.getD ((List.getD (p0.2.2.2.2.2.2.2.1.1.1 :: (p0.2.2.2.2.2.2.2.1.2.1.1 :: (p0.2.2.2.2.2.2.2.1.2.2.1 :: ([] : List Int)))) (Int.toNat y10.1) (0 : Int)) :: ((List.getD (p0.2.2.2.2.2.2.2.1.1.2.1 :: (p0.2.2.2.2.2.2.2.1.2.1.2.1 :: (p0.2.2.2.2.2.2.2.1.2.2.2.1 :: ([] : List Int)))) (Int.toNat y10.1) (0 : Int)) :: ((List.getD (p0.2.2.2.2.2.2.2.1.1.2.2 :: (p0.2.2.2.2.2.2.2.1.2.1.2.2 :: (p0.2.2.2.2.2.2.2.1.2.2.2.2 :: ([] : List Int)))) (Int.toNat y10.1) (0 : Int)) :: ([] : List Int)))) (Int.toNat y7) (0 : Int)) (0 : Int) (1000 : Int))) = false) →
                        (((0 : Int) ≤ y10.1) ∧
                          ((y10.1 < (3 : Int)) ∧
                          (((0 : Int) ≤ y7) ∧
                          ((y7 < (3 : Int)) ∧
                          (k11 ((Go.IntKind.wrap .i64 (y10.1 + (1 : Int))), (Go.IntKind.wrap .i64 (y10.2 + (List.getD ((List.getD (p0.2.2.2.2.2.2.2.1.1.1 :: (p0.2.2.2.2.2.2.2.1.2.1.1 :: (p0.2.2.2.2.2.2.2.1.2.2.1 :: ([] : List Int)))) (Int.toNat y10.1) (0 : Int)) :: ((List.getD (p0.2.2.2.2.2.2.2.1.1.2.1 :: (p0.2.2.2.2.2.2.2.1.2.1.2.1 :: (p0.2.2.2.2.2.2.2.1.2.2.2.1 :: ([] : List Int)))) (Int.toNat y10.1) (0 : Int)) :: ((List.getD (p0.2.2.2.2.2.2.2.1.1.2.2 :: (p0.2.2.2.2.2.2.2.1.2.1.2.2 :: (p0.2.2.2.2.2.2.2.1.2.2.2.2 :: ([] : List Int)))) (Int.toNat y10.1) (0 : Int)) :: ([] : List Int)))) (Int.toNat y7) (0 : Int))))))))))))))))) ∧
                      (((decide (y10.1 < (3 : Int))) = false) →
                      ((((y10.2 != (1000 : Int)) = true) →
                        (K (y7, (3 : Int)))) ∧
                        (((y10.2 != (1000 : Int)) = false) →
                        (((0 : Int) ≤ y7) ∧
                          ((y7 < (3 : Int)) ∧
                          (((0 : Int) ≤ y7) ∧
                          ((y7 < (3 : Int)) ∧
                          ((((decide ((List.getD ((List.getD (p0.2.2.2.2.2.2.2.1.1.1 :: (p0.2.2.2.2.2.2.2.1.2.1.1 :: (p0.2.2.2.2.2.2.2.1.2.2.1 :: ([] : List Int)))) (Int.toNat y7) (0 : Int)) :: ((List.getD (p0.2.2.2.2.2.2.2.1.1.2.1 :: (p0.2.2.2.2.2.2.2.1.2.1.2.1 :: (p0.2.2.2.2.2.2.2.1.2.2.2.1 :: ([] : List Int)))) (Int.toNat y7) (0 : Int)) :: ((List.getD (p0.2.2.2.2.2.2.2.1.1.2.2 :: (p0.2.2.2.2.2.2.2.1.2.1.2.2 :: (p0.2.2.2.2.2.2.2.1.2.2.2.2 :: ([] : List Int)))) (Int.toNat y7) (0 : Int)) :: ([] : List Int)))) (Int.toNat y7) (0 : Int)) < (600 : Int))) = true) →
                          (K (y7, (22 : Int)))) ∧
                          (((decide ((List.getD ((List.getD (p0.2.2.2.2.2.2.2.1.1.1 :: (p0.2.2.2.2.2.2.2.1.2.1.1 :: (p0.2.2.2.2.2.2.2.1.2.2.1 :: ([] : List Int)))) (Int.toNat y7) (0 : Int)) :: ((List.getD (p0.2.2.2.2.2.2.2.1.1.2.1 :: (p0.2.2.2.2.2.2.2.1.2.1.2.1 :: (p0.2.2.2.2.2.2.2.1.2.2.2.1 :: ([] : List Int)))) (Int.toNat y7) (0 : Int)) :: ((List.getD (p0.2.2.2.2.2.2.2.1.1.2.2 :: (p0.2.2.2.2.2.2.2.1.2.1.2.2 :: (p0.2.2.2.2.2.2.2.1.2.2.2.2 :: ([] : List Int)))) (Int.toNat y7) (0 : Int)) :: ([] : List Int)))) (Int.toNat y7) (0 : Int)) < (600 : Int))) = false) →
                          (k8 (Go.IntKind.wrap .i64 (y7 + (1 : Int))))))))))))))) n9 ((0 : Int), (0 : Int))))) ∧
                  (((decide (y7 < (3 : Int))) = false) →
                  ((((decide ((((List.length p0.2.2.2.2.2.2.2.2) : Nat) : Int) < (2 : Int))) = true) →
                    (K ((0 : Int), (10 : Int)))) ∧
                    (((decide ((((List.length p0.2.2.2.2.2.2.2.2) : Nat) : Int) < (2 : Int))) = false) →
                    ((((decide ((((List.length p0.2.2.2.2.2.2.2.2) : Nat) : Int) > (8 : Int))) = true) →
                      (K ((0 : Int), (8 : Int)))) ∧
                      (((decide ((((List.length p0.2.2.2.2.2.2.2.2) : Nat) : Int) > (8 : Int))) = false) →
                      (∃ n12, (loopP (fun (y13 : Int) k14 =>
                          ((((decide (y13 < (((List.length p0.2.2.2.2.2.2.2.2) : Nat) : Int))) = true) →
                          (((0 : Int) ≤ y13) ∧
                            ((y13 < (((List.length p0.2.2.2.2.2.2.2.2) : Nat) : Int)) ∧
                            ((((!(s_base_Within (List.getD p0.2.2.2.2.2.2.2.2 (Int.toNat y13) ((0 : Int), (0 : Int))).1 (0 : Int) (1000 : Int))) = false) →
                            ((!(s_base_Within (List.getD p0.2.2.2.2.2.2.2.2 (Int.toNat y13) ((0 : Int), (0 : Int))).1 (0 : Int) (1000 : Int))) = (!(s_base_Within (List.getD p0.2.2.2.2.2.2.2.2 (Int.toNat y13) ((0 : Int), (0 : Int))).1 (0 : Int) (1000 : Int))))) ∧
                            ((((!(s_base_Within (List.getD p0.2.2.2.2.2.2.2.2 (Int.toNat y13) ((0 : Int), (0 : Int))).1 (0 : Int) (1000 : Int))) = false) →
                            ((!(s_base_Within (List.getD p0.2.2.2.2.2.2.2.2 (Int.toNat y13) ((0 : Int), (0 : Int))).1 (0 : Int) (1000 : Int))) = (!(s_base_Within (List.getD p0.2.2.2.2.2.2.2.2 (Int.toNat y13) ((0 : Int), (0 : Int))).1 (0 : Int) (1000 : Int))))) ∧
                            ((((!(s_base_Within (List.getD p0.2.2.2.2.2.2.2.2 (Int.toNat y13) ((0 : Int), (0 : Int))).1 (0 : Int) (1000 : Int))) = false) →
                            ((!(s_base_Within (List.getD p0.2.2.2.2.2.2.2.2 (Int.toNat y13) ((0 : Int), (0 : Int))).1 (0 : Int) (1000 : Int))) = (!(s_base_Within (List.getD p0.2.2.2.2.2.2.2.2 (Int.toNat y13) ((0 : Int), (0 : Int))).1 (0 : Int) (1000 : Int))))) ∧
                            ((((!(s_base_Within (List.getD p0.2.2.2.2.2.2.2.2 (Int.toNat y13) ((0 : Int), (0 : Int))).1 (0 : Int) (1000 : Int))) = false) →
                            ((0 : Int) ≤ y13)) ∧
                            ((((!(s_base_Within (List.getD p0.2.2.2.2.2.2.2.2 (Int.toNat y13) ((0 : Int), (0 : Int))).1 (0 : Int) (1000 : Int))) = false) →
                            (y13 < (((List.length p0.2.2.2.2.2.2.2.2) : Nat) : Int))) ∧
                            ((((!(s_base_Within (List.getD p0.2.2.2.2.2.2.2.2 (Int.toNat y13) ((0 : Int), (0 : Int))).1 (0 : Int) (1000 : Int))) = false) →
                            ((!(s_base_Within (List.getD p0.2.2.2.2.2.2.2.2 (Int.toNat y13) ((0 : Int), (0 : Int))).1 (0 : Int) (1000 : Int))) = (!(s_base_Within (List.getD p0.2.2.2.2.2.2.2.2 (Int.toNat y13) ((0 : Int), (0 : Int))).1 (0 : Int) (1000 : Int))))) ∧
                            ((((!(s_base_Within (List.getD p0.2.2.2.2.2.2.2.2 (Int.toNat y13) ((0 : Int), (0 : Int))).1 (0 : Int) (1000 : Int))) = false) →
                            ((!(s_base_Within (List.getD p0.2.2.2.2.2.2.2.2 (Int.toNat y13) ((0 : Int), (0 : Int))).1 (0 : Int) (1000 : Int))) = (!(s_base_Within (List.getD p0.2.2.2.2.2.2.2.2 (Int.toNat y13) ((0 : Int), (0 : Int))).1 (0 : Int) (1000 : Int))))) ∧
                            ((((!(s_base_Within (List.getD p0.2.2.2.2.2.2.2.2 (Int.toNat y13) ((0 : Int), (0 : Int))).1 (0 : Int) (1000 : Int))) = false) →
                            ((!(s_base_Within (List.getD p0.2.2.2.2.2.2.2.2 (Int.toNat y13) ((0 : Int), (0 : Int))).1 (0 : Int) (1000 : Int))) = (!(s_base_Within (List.getD p0.2.2.2.2.2.2.2.2 (Int.toNat y13) ((0 : Int), (0 : Int))).1 (0 : Int) (1000 : Int))))) ∧
                            ((((!(s_base_Within (List.getD p0.2.2.2.2.2.2.2.2 (Int.toNat y13) ((0 : Int), (0 : Int))).1 (0 : Int) (1000 : Int))) = false) →
                            ((!(s_base_Within (List.getD p0.2.2.2.2.2.2.2.2 (Int.toNat y13) ((0 : Int), (0 : Int))).1 (0 : Int) (1000 : Int))) = (!(s_base_Within (List.getD p0.2.2.2.2.2.2.2.2 (Int.toNat y13) ((0 : Int), (0 : Int))).1 (0 : Int) (1000 : Int))))) ∧
                            (((!(s_base_Within (List.getD p0.2.2.2.2.2.2.2.2 (Int.toNat y13) ((0 : Int), (0 : Int))).1 (0 : Int) (1000 : Int))) = (!(s_base_Within (List.getD p0.2.2.2.2.2.2.2.2 (Int.toNat y13) ((0 : Int), (0 : Int))).1 (0 : Int) (1000 : Int)))) ∧
                            ((((cond (!(s_base_Within (List.getD p0.2.2.2.2.2.2.2.2 (Int.toNat y13) ((0 : Int), (0 : Int))).1 (0 : Int) (1000 : Int))) true (!(s_base_Within (List.getD p0.2.2.2.2.2.2.2.2 (Int.toNat y13) ((0 : Int), (0 : Int))).2 (1 : Int) (10000 : Int)))) = true) →
                            (K (y13, (2 : Int)))) ∧
                            (((cond (!(s_base_Within (List.getD p0.2.2.2.2.2.2.2.2 (Int.toNat y13) ((0 : Int), (0 : Int))).1 (0 : Int) (1000 : Int))) true (!(s_base_Within (List.getD p0.2.2.2.2.2.2.2.2 (Int.toNat y13) ((0 : Int), (0 : Int))).2 (1 : Int) (10000 : Int)))) = false) →
                            ((((decide (y13 > (0 : Int))) = true) →
                              ((decide (y13 > (0 : Int))) = (decide (y13 > (0 : Int))))) ∧
                              ((((decide (y13 > (0 : Int))) = true) →
                              ((decide (y13 > (0 : Int))) = (decide (y13 > (0 : Int))))) ∧
                              ((((decide (y13 > (0 : Int))) = true) →
                              ((decide (y13 > (0 : Int))) = (decide (y13 > (0 : Int))))) ∧
                              ((((decide (y13 > (0 : Int))) = true) →
                              ((0 : Int) ≤ y13)) ∧
                              ((((decide (y13 > (0 : Int))) = true) →
                              (y13 < (((List.length p0.2.2.2.2.2.2.2.2) : Nat) : Int))) ∧
                              ((((decide (y13 > (0 : Int))) = true) →
                              ((decide (y13 > (0 : Int))) = (decide (y13 > (0 : Int))))) ∧
                              ((((decide (y13 > (0 : Int))) = true) →
                              ((decide (y13 > (0 : Int))) = (decide (y13 > (0 : Int))))) ∧
                              ((((decide (y13 > (0 : Int))) = true) →
                              ((decide (y13 > (0 : Int))) = (decide (y13 > (0 : Int))))) ∧
                              ((((decide (y13 > (0 : Int))) = true) →
                              ((decide (y13 > (0 : Int))) = (decide (y13 > (0 : Int))))) ∧
                              ((((decide (y13 > (0 : Int))) = true) →
                              ((decide (y13 > (0 : Int))) = (decide (y13 > (0 : Int))))) ∧
                              ((((decide (y13 > (0 : Int))) = true) →
                              ((decide (y13 > (0 : Int))) = (decide (y13 > (0 : Int))))) ∧
                              ((((decide (y13 > (0 : Int))) = true) →
                              ((0 : Int) ≤ (Go.IntKind.wrap .i64 (y13 - (1 : Int))))) ∧
                              ((((decide (y13 > (0 : Int))) = true) →
                              ((Go.IntKind.wrap .i64 (y13 - (1 : Int))) < (((List.length p0.2.2.2.2.2.2.2.2) : Nat) : Int))) ∧
                              ((((decide (y13 > (0 : Int))) = true) →
                              ((decide (y13 > (0 : Int))) = (decide (y13 > (0 : Int))))) ∧
                              ((((decide (y13 > (0 : Int))) = true) →
                              ((decide (y13 > (0 : Int))) = (decide (y13 > (0 : Int))))) ∧
                              ((((decide (y13 > (0 : Int))) = true) →
                              ((decide (y13 > (0 : Int))) = (decide (y13 > (0 : Int))))) ∧
                              ((((decide (y13 > (0 : Int))) = true) →
                              ((decide (y13 > (0 : Int))) = (decide (y13 > (0 : Int))))) ∧
                              (((decide (y13 > (0 : Int))) = (decide (y13 > (0 : Int)))) ∧
                              ((((cond (decide (y13 > (0 : Int))) (decide ((List.getD p0.2.2.2.2.2.2.2.2 (Int.toNat y13) ((0 : Int), (0 : Int))).1 ≤ (List.getD p0.2.2.2.2.2.2.2.2 (Int.toNat (Go.IntKind.wrap .i64 (y13 - (1 : Int)))) ((0 : Int), (0 : Int))).1)) false) = true) →
                              (K (y13, (9 : Int)))) ∧
                              (((cond (decide (y13 > (0 : Int))) (decide ((List.getD p0.2.2.2.2.2.2.2.2 (Int.toNat y13) ((0 : Int), (0 : Int))).1 ≤ (List.getD p0.2.2.2.2.2.2.2.2 (Int.toNat (Go.IntKind.wrap .i64 (y13 - (1 : Int)))) ((0 : Int), (0 : Int))).1)) false) = false) →
                              (k14 (Go.IntKind.wrap .i64 (y13 + (1 : Int))))))))))))))))))))))))))))))))))))))) ∧
                          (((decide (y13 < (((List.length p0.2.2.2.2.2.2.2.2) : Nat) : Int))) = false) →
                          (K ((0 : Int), (0 : Int)))))) n12 (0 : Int)))))))))) n6 (0 : Int)))))))) n3 (0 : Int))))))))))))))) n0 (0 : Int)))))))))
set_option maxHeartbeats 4000000 in
theorem w_ref06_CheckRules_eq (p0 : (Int × (Int × ((Int × (Int × Int)) × ((Int × (Int × Int)) × (Int × (Int × ((Int × (Int × Int)) × (((Int × (Int × Int)) × ((Int × (Int × Int)) × (Int × (Int × Int)))) × (List (Int × Int))))))))))) (K : (Int × Int) → Prop) : tfn F_ref06_CheckRules A_ref06_CheckRules C_ref06_CheckRules P_ref06_CheckRules R_ref06_CheckRules p0 K = w_ref06_CheckRules p0 K := by kernel_rfl
def b_ref06_CheckRules_0 (p0 : (Int × (Int × ((Int × (Int × Int)) × ((Int × (Int × Int)) × (Int × (Int × ((Int × (Int × Int)) × (((Int × (Int × Int)) × ((Int × (Int × Int)) × (Int × (Int × Int)))) × (List (Int × Int))))))))))) (K : (Int × Int) → Prop) (y : Int) (k : Int → Prop) : Prop :=
  (((decide (y < (((List.length p0.2.2.2.2.2.2.2.2) : Nat) : Int))) = true →
    (((0 : Int) ≤ y) ∧
    ((y < (((List.length p0.2.2.2.2.2.2.2.2) : Nat) : Int)) ∧
    ((((!(s_base_Within (List.getD p0.2.2.2.2.2.2.2.2 (Int.toNat y) ((0 : Int), (0 : Int))).1 (0 : Int) (1000 : Int))) = false) → ((0 : Int) ≤ y)) ∧
    ((((!(s_base_Within (List.getD p0.2.2.2.2.2.2.2.2 (Int.toNat y) ((0 : Int), (0 : Int))).1 (0 : Int) (1000 : Int))) = false) → (y < (((List.length p0.2.2.2.2.2.2.2.2) : Nat) : Int))) ∧
    (((cond (!(s_base_Within (List.getD p0.2.2.2.2.2.2.2.2 (Int.toNat y) ((0 : Int), (0 : Int))).1 (0 : Int) (1000 : Int))) true (!(s_base_Within (List.getD p0.2.2.2.2.2.2.2.2 (Int.toNat y) ((0 : Int), (0 : Int))).2 (1 : Int) (10000 : Int)))) = true →
      (K (y, (2 : Int)))) ∧
    ((cond (!(s_base_Within (List.getD p0.2.2.2.2.2.2.2.2 (Int.toNat y) ((0 : Int), (0 : Int))).1 (0 : Int) (1000 : Int))) true (!(s_base_Within (List.getD p0.2.2.2.2.2.2.2.2 (Int.toNat y) ((0 : Int), (0 : Int))).2 (1 : Int) (10000 : Int)))) = false →
      ((((decide (y > (0 : Int))) = true) → ((0 : Int) ≤ y)) ∧
      ((((decide (y > (0 : Int))) = true) → (y < (((List.length p0.2.2.2.2.2.2.2.2) : Nat) : Int))) ∧
      ((((decide (y > (0 : Int))) = true) → ((0 : Int) ≤ (Go.IntKind.wrap .i64 (y - (1 : Int))))) ∧
      ((((decide (y > (0 : Int))) = true) → ((Go.IntKind.wrap .i64 (y - (1 : Int))) < (((List.length p0.2.2.2.2.2.2.2.2) : Nat) : Int))) ∧
      (((cond (decide (y > (0 : Int))) (decide ((List.getD p0.2.2.2.2.2.2.2.2 (Int.toNat y) ((0 : Int), (0 : Int))).1 ≤ (List.getD p0.2.2.2.2.2.2.2.2 (Int.toNat (Go.IntKind.wrap .i64 (y - (1 : Int)))) ((0 : Int), (0 : Int))).1)) false) = true →
        (K (y, (9 : Int)))) ∧
      ((cond (decide (y > (0 : Int))) (decide ((List.getD p0.2.2.2.2.2.2.2.2 (Int.toNat y) ((0 : Int), (0 : Int))).1 ≤ (List.getD p0.2.2.2.2.2.2.2.2 (Int.toNat (Go.IntKind.wrap .i64 (y - (1 : Int)))) ((0 : Int), (0 : Int))).1)) false) = false →
        (k (Go.IntKind.wrap .i64 (y + (1 : Int))))))))))))))))) ∧
  ((decide (y < (((List.length p0.2.2.2.2.2.2.2.2) : Nat) : Int))) = false →
    (K ((0 : Int), (0 : Int)))))
/-- The first invalid knot, each beside the one ahead of it in the whole list. -/
def sp_rk (l : List (Int × Int)) : List (Int × Int) → Int × Int
  | [] => (0, 0)
  | x :: r => cond (cond (!(s_base_Within x.1 0 1000)) true (!(s_base_Within x.2 1 10000))) (((l.length : Int) - (r.length + 1), 2))
      (cond (cond (decide (((l.length : Int) - (r.length + 1)) > 0)) (decide (x.1 ≤ (l.getD (l.length - (r.length + 1) - 1) (0, 0)).1)) false) ((l.length : Int) - (r.length + 1), 9) (sp_rk l r))
def lp_ref06_CheckRules_0 (p0 : CR) (_ : Int) : Int × Int := sp_rk p0.hs p0.hs
abbrev lpre_ref06_CheckRules_0 (p0 : CR) (x : Int) : Prop := lenOk p0.hs ∧ x = 0
theorem lk_ref06_CheckRules_0 (p0 : CR) (x : Int) (K : Int × Int → Prop) (hp : lpre_ref06_CheckRules_0 p0 x) (h : K (lp_ref06_CheckRules_0 p0 x)) : ∃ n, loopP (b_ref06_CheckRules_0 p0 K) n x := by
  obtain ⟨hl, hx⟩ := hp
  subst hx
  generalize hlist : p0.hs = l at *
  have e0 : p0.2.2.2.2.2.2.2.2 = l := hlist
  refine loop_list0 l (0, 0) (fun r => K (sp_rk l r)) ?_ ?_ (by simpa [lp_ref06_CheckRules_0, hlist] using h)
  · intro k hI
    unfold b_ref06_CheckRules_0
    rw [e0]
    simpa [sp_rk] using hI
  · intro j k hj hI hk
    have hj' : (j : Int) < l.length := by omega
    have e1 : (l.length : Int) - (((l.drop (j + 1)).length : Int) + 1) = j := by simp; omega
    have e3 : l.length - ((l.drop (j + 1)).length + 1) - 1 = j - 1 := by simp; omega
    have e4 : (j : Int) > 0 → IntKind.i64.wrap ((j : Int) - 1) = ((j - 1 : Nat) : Int) := fun h0 => by rw [wrap_id (by omega) (by omega)]; omega
    simp only [sp_rk, e1, e3] at hI
    unfold b_ref06_CheckRules_0
    rw [e0]
    simp only [wrap_nat (show (j : Int) ≤ 9223372036854775806 by omega), hj', decide_true, Int.toNat_natCast, forall_const, Bool.true_eq_false, false_imp_iff, and_true]
    refine ⟨by omega, trivial, fun _ => by omega, fun _ => trivial, fun hx => ?_, fun hx => ⟨fun _ => by omega, fun _ => trivial, fun h0 => ?_, fun h0 => ?_, fun hy => ?_, fun hy => hk ?_⟩⟩
    · simpa only [hx, cond_true] using hI
    · have h0 : (j : Int) > 0 := by simpa using h0
      rw [e4 h0]; omega
    · have h0 : (j : Int) > 0 := by simpa using h0
      rw [e4 h0]; omega
    · simp only [hx, cond_false] at hI
      by_cases h0 : (j : Int) > 0
      · rw [e4 h0, Int.toNat_natCast] at hy
        simpa only [hy, cond_true] using hI
      · have hd : decide ((j : Int) > 0) = false := by simp; omega
        rw [hd] at hy; cases hy
    · simp only [hx, cond_false] at hI
      by_cases h0 : (j : Int) > 0
      · rw [e4 h0, Int.toNat_natCast] at hy
        simpa only [hy, cond_false] using hI
      · have hd : decide ((j : Int) > 0) = false := by simp; omega
        rw [hd] at hI; exact hI

def s_ref06_CheckRules (p0 : (Int × (Int × ((Int × (Int × Int)) × ((Int × (Int × Int)) × (Int × (Int × ((Int × (Int × Int)) × (((Int × (Int × Int)) × ((Int × (Int × Int)) × (Int × (Int × Int)))) × (List (Int × Int))))))))))) : (Int × Int) :=
  (cond (cond (!(s_base_Within p0.1 (1 : Int) (1000000 : Int))) true (!(s_base_Within p0.2.1 (0 : Int) (100 : Int)))) ((0 : Int), (2 : Int))
    (cond (cond (!(s_base_Within p0.2.2.1.1 (0 : Int) (1000000 : Int))) true (!(s_base_Within p0.2.2.2.1.1 (0 : Int) (1000 : Int)))) ((0 : Int), (2 : Int))
    (cond (cond (!(s_base_Within p0.2.2.1.2.1 (0 : Int) (1000000 : Int))) true (!(s_base_Within p0.2.2.2.1.2.1 (0 : Int) (1000 : Int)))) ((1 : Int), (2 : Int))
    (cond (cond (!(s_base_Within p0.2.2.1.2.2 (0 : Int) (1000000 : Int))) true (!(s_base_Within p0.2.2.2.1.2.2 (0 : Int) (1000 : Int)))) ((2 : Int), (2 : Int))
    (cond (cond (!(s_base_Within p0.2.2.2.2.1 (0 : Int) (200 : Int))) true (!(s_base_Within p0.2.2.2.2.2.1 (Go.IntKind.wrap .i64 (p0.2.2.2.2.1 + (200 : Int))) (1000 : Int)))) ((0 : Int), (2 : Int))
    (cond (!(s_base_Within p0.2.2.2.2.2.2.1.1 (0 : Int) (1000 : Int))) ((0 : Int), (2 : Int))
    (cond (!(s_base_Within p0.2.2.2.2.2.2.1.2.1 (0 : Int) (1000 : Int))) ((1 : Int), (2 : Int))
    (cond (!(s_base_Within p0.2.2.2.2.2.2.1.2.2 (0 : Int) (1000 : Int))) ((2 : Int), (2 : Int))
    (cond (p0.2.2.2.2.2.2.1.2.1 != (1000 : Int)) ((1 : Int), (3 : Int))
    (cond (!(s_base_Within p0.2.2.2.2.2.2.2.1.1.1 (0 : Int) (1000 : Int))) ((0 : Int), (2 : Int))
    (cond (!(s_base_Within p0.2.2.2.2.2.2.2.1.2.1.1 (0 : Int) (1000 : Int))) ((0 : Int), (2 : Int))
    (cond (!(s_base_Within p0.2.2.2.2.2.2.2.1.2.2.1 (0 : Int) (1000 : Int))) ((0 : Int), (2 : Int))
    (cond ((Go.IntKind.wrap .i64 ((Go.IntKind.wrap .i64 ((Go.IntKind.wrap .i64 ((0 : Int) + p0.2.2.2.2.2.2.2.1.1.1)) + p0.2.2.2.2.2.2.2.1.2.1.1)) + p0.2.2.2.2.2.2.2.1.2.2.1)) != (1000 : Int)) ((0 : Int), (3 : Int))
    (cond (decide (p0.2.2.2.2.2.2.2.1.1.1 < (600 : Int))) ((0 : Int), (22 : Int))
    (cond (!(s_base_Within p0.2.2.2.2.2.2.2.1.1.2.1 (0 : Int) (1000 : Int))) ((1 : Int), (2 : Int))
    (cond (!(s_base_Within p0.2.2.2.2.2.2.2.1.2.1.2.1 (0 : Int) (1000 : Int))) ((1 : Int), (2 : Int))
    (cond (!(s_base_Within p0.2.2.2.2.2.2.2.1.2.2.2.1 (0 : Int) (1000 : Int))) ((1 : Int), (2 : Int))
    (cond ((Go.IntKind.wrap .i64 ((Go.IntKind.wrap .i64 ((Go.IntKind.wrap .i64 ((0 : Int) + p0.2.2.2.2.2.2.2.1.1.2.1)) + p0.2.2.2.2.2.2.2.1.2.1.2.1)) + p0.2.2.2.2.2.2.2.1.2.2.2.1)) != (1000 : Int)) ((1 : Int), (3 : Int))
    (cond (decide (p0.2.2.2.2.2.2.2.1.2.1.2.1 < (600 : Int))) ((1 : Int), (22 : Int))
    (cond (!(s_base_Within p0.2.2.2.2.2.2.2.1.1.2.2 (0 : Int) (1000 : Int))) ((2 : Int), (2 : Int))
    (cond (!(s_base_Within p0.2.2.2.2.2.2.2.1.2.1.2.2 (0 : Int) (1000 : Int))) ((2 : Int), (2 : Int))
    (cond (!(s_base_Within p0.2.2.2.2.2.2.2.1.2.2.2.2 (0 : Int) (1000 : Int))) ((2 : Int), (2 : Int))
    (cond ((Go.IntKind.wrap .i64 ((Go.IntKind.wrap .i64 ((Go.IntKind.wrap .i64 ((0 : Int) + p0.2.2.2.2.2.2.2.1.1.2.2)) + p0.2.2.2.2.2.2.2.1.2.1.2.2)) + p0.2.2.2.2.2.2.2.1.2.2.2.2)) != (1000 : Int)) ((2 : Int), (3 : Int))
    (cond (decide (p0.2.2.2.2.2.2.2.1.2.2.2.2 < (600 : Int))) ((2 : Int), (22 : Int))
    (cond (decide ((((List.length p0.2.2.2.2.2.2.2.2) : Nat) : Int) < (2 : Int))) ((0 : Int), (10 : Int))
    (cond (decide ((((List.length p0.2.2.2.2.2.2.2.2) : Nat) : Int) > (8 : Int))) ((0 : Int), (8 : Int))
    (lp_ref06_CheckRules_0 p0 (0 : Int))))))))))))))))))))))))))))
abbrev pre_ref06_CheckRules (p0 : (Int × (Int × ((Int × (Int × Int)) × ((Int × (Int × Int)) × (Int × (Int × ((Int × (Int × Int)) × (((Int × (Int × Int)) × ((Int × (Int × Int)) × (Int × (Int × Int)))) × (List (Int × Int))))))))))) : List Prop := [(((cond (!(s_base_Within p0.1 (1 : Int) (1000000 : Int))) true (!(s_base_Within p0.2.1 (0 : Int) (100 : Int)))) = false) → (((cond (!(s_base_Within p0.2.2.1.1 (0 : Int) (1000000 : Int))) true (!(s_base_Within p0.2.2.2.1.1 (0 : Int) (1000 : Int)))) = false) → (((cond (!(s_base_Within p0.2.2.1.2.1 (0 : Int) (1000000 : Int))) true (!(s_base_Within p0.2.2.2.1.2.1 (0 : Int) (1000 : Int)))) = false) → (((cond (!(s_base_Within p0.2.2.1.2.2 (0 : Int) (1000000 : Int))) true (!(s_base_Within p0.2.2.2.1.2.2 (0 : Int) (1000 : Int)))) = false) → (((cond (!(s_base_Within p0.2.2.2.2.1 (0 : Int) (200 : Int))) true (!(s_base_Within p0.2.2.2.2.2.1 (Go.IntKind.wrap .i64 (p0.2.2.2.2.1 + (200 : Int))) (1000 : Int)))) = false) → (((!(s_base_Within p0.2.2.2.2.2.2.1.1 (0 : Int) (1000 : Int))) = false) → (((!(s_base_Within p0.2.2.2.2.2.2.1.2.1 (0 : Int) (1000 : Int))) = false) → (((!(s_base_Within p0.2.2.2.2.2.2.1.2.2 (0 : Int) (1000 : Int))) = false) → (((p0.2.2.2.2.2.2.1.2.1 != (1000 : Int)) = false) → (((!(s_base_Within p0.2.2.2.2.2.2.2.1.1.1 (0 : Int) (1000 : Int))) = false) → (((!(s_base_Within p0.2.2.2.2.2.2.2.1.2.1.1 (0 : Int) (1000 : Int))) = false) → (((!(s_base_Within p0.2.2.2.2.2.2.2.1.2.2.1 (0 : Int) (1000 : Int))) = false) → ((((Go.IntKind.wrap .i64 ((Go.IntKind.wrap .i64 ((Go.IntKind.wrap .i64 ((0 : Int) + p0.2.2.2.2.2.2.2.1.1.1)) + p0.2.2.2.2.2.2.2.1.2.1.1)) + p0.2.2.2.2.2.2.2.1.2.2.1)) != (1000 : Int)) = false) → (((decide (p0.2.2.2.2.2.2.2.1.1.1 < (600 : Int))) = false) → (((!(s_base_Within p0.2.2.2.2.2.2.2.1.1.2.1 (0 : Int) (1000 : Int))) = false) → (((!(s_base_Within p0.2.2.2.2.2.2.2.1.2.1.2.1 (0 : Int) (1000 : Int))) = false) → (((!(s_base_Within p0.2.2.2.2.2.2.2.1.2.2.2.1 (0 : Int) (1000 : Int))) = false) → ((((Go.IntKind.wrap .i64 ((Go.IntKind.wrap .i64 ((Go.IntKind.wrap .i64 ((0 : Int) + p0.2.2.2.2.2.2.2.1.1.2.1)) + p0.2.2.2.2.2.2.2.1.2.1.2.1)) + p0.2.2.2.2.2.2.2.1.2.2.2.1)) != (1000 : Int)) = false) → (((decide (p0.2.2.2.2.2.2.2.1.2.1.2.1 < (600 : Int))) = false) → (((!(s_base_Within p0.2.2.2.2.2.2.2.1.1.2.2 (0 : Int) (1000 : Int))) = false) → (((!(s_base_Within p0.2.2.2.2.2.2.2.1.2.1.2.2 (0 : Int) (1000 : Int))) = false) → (((!(s_base_Within p0.2.2.2.2.2.2.2.1.2.2.2.2 (0 : Int) (1000 : Int))) = false) → ((((Go.IntKind.wrap .i64 ((Go.IntKind.wrap .i64 ((Go.IntKind.wrap .i64 ((0 : Int) + p0.2.2.2.2.2.2.2.1.1.2.2)) + p0.2.2.2.2.2.2.2.1.2.1.2.2)) + p0.2.2.2.2.2.2.2.1.2.2.2.2)) != (1000 : Int)) = false) → (((decide (p0.2.2.2.2.2.2.2.1.2.2.2.2 < (600 : Int))) = false) → (((decide ((((List.length p0.2.2.2.2.2.2.2.2) : Nat) : Int) < (2 : Int))) = false) → (((decide ((((List.length p0.2.2.2.2.2.2.2.2) : Nat) : Int) > (8 : Int))) = false) → (lpre_ref06_CheckRules_0 p0 (0 : Int))))))))))))))))))))))))))))]
set_option maxHeartbeats 4000000 in
theorem d_ref06_CheckRules (p0 : (Int × (Int × ((Int × (Int × Int)) × ((Int × (Int × Int)) × (Int × (Int × ((Int × (Int × Int)) × (((Int × (Int × Int)) × ((Int × (Int × Int)) × (Int × (Int × Int)))) × (List (Int × Int))))))))))) (K : (Int × Int) → Prop) (hp : ∀ p ∈ pre_ref06_CheckRules p0, p) (h : K (s_ref06_CheckRules p0)) : w_ref06_CheckRules p0 K := by
  unfold w_ref06_CheckRules
  unfold s_ref06_CheckRules at h
  obtain ⟨hp0, _⟩ := conj_of hp
  exact ⟨(fun _ => rfl), ⟨(fun _ => rfl), ⟨(fun _ => rfl), ⟨rfl, (br' h (fun e0 h => h)
    (fun e0 h => ⟨31, ⟨fun _ => ⟨(of_decide_eq_true rfl), ⟨(of_decide_eq_true rfl), ⟨(fun _ => rfl), ⟨(fun _ => rfl), ⟨(fun _ => (of_decide_eq_true rfl)), ⟨(fun _ => (of_decide_eq_true rfl)), ⟨(fun _ => rfl), ⟨(fun _ => rfl), ⟨(fun _ => rfl), ⟨rfl, (br' h (fun e1 h => h)
    (fun e1 h => ⟨fun _ => ⟨(of_decide_eq_true rfl), ⟨(of_decide_eq_true rfl), ⟨(fun _ => rfl), ⟨(fun _ => rfl), ⟨(fun _ => (of_decide_eq_true rfl)), ⟨(fun _ => (of_decide_eq_true rfl)), ⟨(fun _ => rfl), ⟨(fun _ => rfl), ⟨(fun _ => rfl), ⟨rfl, (br' h (fun e2 h => h)
    (fun e2 h => ⟨fun _ => ⟨(of_decide_eq_true rfl), ⟨(of_decide_eq_true rfl), ⟨(fun _ => rfl), ⟨(fun _ => rfl), ⟨(fun _ => (of_decide_eq_true rfl)), ⟨(fun _ => (of_decide_eq_true rfl)), ⟨(fun _ => rfl), ⟨(fun _ => rfl), ⟨(fun _ => rfl), ⟨rfl, (br' h (fun e3 h => h)
    (fun e3 h => ⟨fun e => Bool.noConfusion (show false = true from e), fun _ => ⟨(fun _ => rfl), ⟨(fun _ => rfl), ⟨(fun _ => rfl), ⟨(fun _ => rfl), ⟨(fun _ => rfl), ⟨(fun _ => rfl), ⟨rfl, (br' h (fun e4 h => h)
    (fun e4 h => ⟨31, ⟨fun _ => ⟨(of_decide_eq_true rfl), ⟨(of_decide_eq_true rfl), (br' h (fun e5 h => h)
    (fun e5 h => ⟨fun _ => ⟨(of_decide_eq_true rfl), ⟨(of_decide_eq_true rfl), (br' h (fun e6 h => h)
    (fun e6 h => ⟨fun _ => ⟨(of_decide_eq_true rfl), ⟨(of_decide_eq_true rfl), (br' h (fun e7 h => h)
    (fun e7 h => ⟨fun e => Bool.noConfusion (show false = true from e), fun _ => (br' h (fun e8 h => h)
    (fun e8 h => ⟨31, ⟨fun _ => ⟨31, ⟨fun _ => ⟨(of_decide_eq_true rfl), ⟨(of_decide_eq_true rfl), ⟨(of_decide_eq_true rfl), ⟨(of_decide_eq_true rfl), (br' h (fun e9 h => h)
    (fun e9 h => ⟨(of_decide_eq_true rfl), ⟨(of_decide_eq_true rfl), ⟨(of_decide_eq_true rfl), ⟨(of_decide_eq_true rfl), ⟨fun _ => ⟨(of_decide_eq_true rfl), ⟨(of_decide_eq_true rfl), ⟨(of_decide_eq_true rfl), ⟨(of_decide_eq_true rfl), (br' h (fun e10 h => h)
    (fun e10 h => ⟨(of_decide_eq_true rfl), ⟨(of_decide_eq_true rfl), ⟨(of_decide_eq_true rfl), ⟨(of_decide_eq_true rfl), ⟨fun _ => ⟨(of_decide_eq_true rfl), ⟨(of_decide_eq_true rfl), ⟨(of_decide_eq_true rfl), ⟨(of_decide_eq_true rfl), (br' h (fun e11 h => h)
    (fun e11 h => ⟨(of_decide_eq_true rfl), ⟨(of_decide_eq_true rfl), ⟨(of_decide_eq_true rfl), ⟨(of_decide_eq_true rfl), ⟨fun e => Bool.noConfusion (show false = true from e), fun _ => (br' h (fun e12 h => h)
    (fun e12 h => ⟨(of_decide_eq_true rfl), ⟨(of_decide_eq_true rfl), ⟨(of_decide_eq_true rfl), ⟨(of_decide_eq_true rfl), (br' h (fun e13 h => h)
    (fun e13 h => ⟨fun _ => ⟨31, ⟨fun _ => ⟨(of_decide_eq_true rfl), ⟨(of_decide_eq_true rfl), ⟨(of_decide_eq_true rfl), ⟨(of_decide_eq_true rfl), (br' h (fun e14 h => h)
    (fun e14 h => ⟨(of_decide_eq_true rfl), ⟨(of_decide_eq_true rfl), ⟨(of_decide_eq_true rfl), ⟨(of_decide_eq_true rfl), ⟨fun _ => ⟨(of_decide_eq_true rfl), ⟨(of_decide_eq_true rfl), ⟨(of_decide_eq_true rfl), ⟨(of_decide_eq_true rfl), (br' h (fun e15 h => h)
    (fun e15 h => ⟨(of_decide_eq_true rfl), ⟨(of_decide_eq_true rfl), ⟨(of_decide_eq_true rfl), ⟨(of_decide_eq_true rfl), ⟨fun _ => ⟨(of_decide_eq_true rfl), ⟨(of_decide_eq_true rfl), ⟨(of_decide_eq_true rfl), ⟨(of_decide_eq_true rfl), (br' h (fun e16 h => h)
    (fun e16 h => ⟨(of_decide_eq_true rfl), ⟨(of_decide_eq_true rfl), ⟨(of_decide_eq_true rfl), ⟨(of_decide_eq_true rfl), ⟨fun e => Bool.noConfusion (show false = true from e), fun _ => (br' h (fun e17 h => h)
    (fun e17 h => ⟨(of_decide_eq_true rfl), ⟨(of_decide_eq_true rfl), ⟨(of_decide_eq_true rfl), ⟨(of_decide_eq_true rfl), (br' h (fun e18 h => h)
    (fun e18 h => ⟨fun _ => ⟨31, ⟨fun _ => ⟨(of_decide_eq_true rfl), ⟨(of_decide_eq_true rfl), ⟨(of_decide_eq_true rfl), ⟨(of_decide_eq_true rfl), (br' h (fun e19 h => h)
    (fun e19 h => ⟨(of_decide_eq_true rfl), ⟨(of_decide_eq_true rfl), ⟨(of_decide_eq_true rfl), ⟨(of_decide_eq_true rfl), ⟨fun _ => ⟨(of_decide_eq_true rfl), ⟨(of_decide_eq_true rfl), ⟨(of_decide_eq_true rfl), ⟨(of_decide_eq_true rfl), (br' h (fun e20 h => h)
    (fun e20 h => ⟨(of_decide_eq_true rfl), ⟨(of_decide_eq_true rfl), ⟨(of_decide_eq_true rfl), ⟨(of_decide_eq_true rfl), ⟨fun _ => ⟨(of_decide_eq_true rfl), ⟨(of_decide_eq_true rfl), ⟨(of_decide_eq_true rfl), ⟨(of_decide_eq_true rfl), (br' h (fun e21 h => h)
    (fun e21 h => ⟨(of_decide_eq_true rfl), ⟨(of_decide_eq_true rfl), ⟨(of_decide_eq_true rfl), ⟨(of_decide_eq_true rfl), ⟨fun e => Bool.noConfusion (show false = true from e), fun _ => (br' h (fun e22 h => h)
    (fun e22 h => ⟨(of_decide_eq_true rfl), ⟨(of_decide_eq_true rfl), ⟨(of_decide_eq_true rfl), ⟨(of_decide_eq_true rfl), (br' h (fun e23 h => h)
    (fun e23 h => ⟨fun e => Bool.noConfusion (show false = true from e), fun _ => (br' h (fun e24 h => h)
    (fun e24 h => (br' h (fun e25 h => h)
    (fun e25 h => (Exists.imp (fun n hn => loop_mono (fun y k k' hk hy => ⟨fun e26 => ⟨(hy.1 e26).1, ⟨(hy.1 e26).2.1, ⟨(fun _ => rfl), ⟨(fun _ => rfl), ⟨(fun _ => rfl), ⟨(hy.1 e26).2.2.1, ⟨(hy.1 e26).2.2.2.1, ⟨(fun _ => rfl), ⟨(fun _ => rfl), ⟨(fun _ => rfl), ⟨(fun _ => rfl), ⟨rfl, ⟨fun e27 => ((hy.1 e26).2.2.2.2.1 e27), fun e27 => ⟨(fun _ => rfl), ⟨(fun _ => rfl), ⟨(fun _ => rfl), ⟨((hy.1 e26).2.2.2.2.2 e27).1, ⟨((hy.1 e26).2.2.2.2.2 e27).2.1, ⟨(fun _ => rfl), ⟨(fun _ => rfl), ⟨(fun _ => rfl), ⟨(fun _ => rfl), ⟨(fun _ => rfl), ⟨(fun _ => rfl), ⟨((hy.1 e26).2.2.2.2.2 e27).2.2.1, ⟨((hy.1 e26).2.2.2.2.2 e27).2.2.2.1, ⟨(fun _ => rfl), ⟨(fun _ => rfl), ⟨(fun _ => rfl), ⟨(fun _ => rfl), ⟨rfl, ⟨fun e28 => (((hy.1 e26).2.2.2.2.2 e27).2.2.2.2.1 e28), fun e28 => (hk _ (((hy.1 e26).2.2.2.2.2 e27).2.2.2.2.2 e28))⟩⟩⟩⟩⟩⟩⟩⟩⟩⟩⟩⟩⟩⟩⟩⟩⟩⟩⟩⟩⟩⟩⟩⟩⟩⟩⟩⟩⟩⟩⟩⟩, fun e26 => (hy.2 e26)⟩) n _ hn) (lk_ref06_CheckRules_0 p0 (0 : Int) K (hp0 e0 e1 e2 e3 e4 e5 e6 e7 e8 e9 e10 e11 e12 e13 e14 e15 e16 e17 e18 e19 e20 e21 e22 e23 e24 e25) h))))))⟩))⟩⟩⟩⟩))⟩⟩⟩⟩⟩))⟩⟩⟩⟩, fun e => Bool.noConfusion (show true = false from e)⟩⟩⟩⟩⟩))⟩⟩⟩⟩, fun e => Bool.noConfusion (show true = false from e)⟩⟩⟩⟩⟩))⟩⟩⟩⟩, fun e => Bool.noConfusion (show true = false from e)⟩⟩, fun e => Bool.noConfusion (show true = false from e)⟩))⟩⟩⟩⟩))⟩⟩⟩⟩⟩))⟩⟩⟩⟩, fun e => Bool.noConfusion (show true = false from e)⟩⟩⟩⟩⟩))⟩⟩⟩⟩, fun e => Bool.noConfusion (show true = false from e)⟩⟩⟩⟩⟩))⟩⟩⟩⟩, fun e => Bool.noConfusion (show true = false from e)⟩⟩, fun e => Bool.noConfusion (show true = false from e)⟩))⟩⟩⟩⟩))⟩⟩⟩⟩⟩))⟩⟩⟩⟩, fun e => Bool.noConfusion (show true = false from e)⟩⟩⟩⟩⟩))⟩⟩⟩⟩, fun e => Bool.noConfusion (show true = false from e)⟩⟩⟩⟩⟩))⟩⟩⟩⟩, fun e => Bool.noConfusion (show true = false from e)⟩⟩, fun e => Bool.noConfusion (show true = false from e)⟩⟩))⟩))⟩⟩, fun e => Bool.noConfusion (show true = false from e)⟩))⟩⟩, fun e => Bool.noConfusion (show true = false from e)⟩))⟩⟩, fun e => Bool.noConfusion (show true = false from e)⟩⟩))⟩⟩⟩⟩⟩⟩⟩⟩))⟩⟩⟩⟩⟩⟩⟩⟩⟩⟩, fun e => Bool.noConfusion (show true = false from e)⟩))⟩⟩⟩⟩⟩⟩⟩⟩⟩⟩, fun e => Bool.noConfusion (show true = false from e)⟩))⟩⟩⟩⟩⟩⟩⟩⟩⟩⟩, fun e => Bool.noConfusion (show true = false from e)⟩⟩))⟩⟩⟩⟩
theorem tx_eqw (n a b : Int) : s_base_Within n a b = s_counts_within n a b := rfl
theorem tx_rk : ∀ (r pre : List (Int × Int)), sp_rk (pre ++ r) r = sp_kn pre.length (pre.getD (pre.length - 1) (-1, 0)).1 r
  | [], _ => rfl
  | x :: r, pre => by
    have ih := tx_rk r (pre ++ [x])
    have e0 : pre ++ [x] ++ r = pre ++ x :: r := by simp
    have e1 : ((pre ++ [x]).getD ((pre ++ [x]).length - 1) (-1, 0)) = x := by
      rw [List.length_append, List.length_cons, List.length_nil, List.getD, List.getElem?_append_right (by omega)]; simp
    have e2 : (((pre ++ x :: r).length : Nat) : Int) - ((r.length : Int) + 1) = pre.length := by simp only [List.length_append, List.length_cons]; omega
    have e3 : (pre ++ x :: r).length - (r.length + 1) - 1 = pre.length - 1 := by simp
    rw [e0, e1] at ih
    have e4 : ((pre ++ [x]).length : Int) = (pre.length : Int) + 1 := by simp
    rw [e4] at ih
    unfold sp_rk sp_kn
    rw [e2, e3, ih, tx_kn1, tx_eqw, tx_eqw]
    rcases ha : s_counts_within x.1 0 1000 with _ | _
    · rfl
    · rcases hb : s_counts_within x.2 1 10000 with _ | _
      · rfl
      · rw [tx_within] at ha
        by_cases hp : pre = []
        · subst hp
          have hd : decide (x.1 ≤ -1) = false := decide_eq_false (by omega)
          show _ = cond ((cond (decide (x.1 ≤ -1)) 9 0 : Int) != 0) (0, (cond (decide (x.1 ≤ -1)) 9 0 : Int)) _
          rw [hd]; rfl
        · have hl : 0 < pre.length := List.length_pos_iff.2 hp
          have hd : decide ((pre.length : Int) > 0) = true := decide_eq_true (by omega)
          have e5 : (pre ++ x :: r).getD (pre.length - 1) (0, 0) = pre.getD (pre.length - 1) (-1, 0) := by
            rw [List.getD, List.getElem?_append_left (by omega), List.getD, List.getElem?_eq_getElem (by omega)]; rfl
          rw [hd, e5]
          cases decide (x.1 ≤ (pre.getD (pre.length - 1) (-1, 0)).1) <;> rfl
theorem tx_allc (x y z m : Int) (c : Int × Int) : cond (decide (s_counts_allWithin (x, y, z) m ≥ 0)) (s_counts_allWithin (x, y, z) m, 2) c = cond (!s_base_Within x 0 m) (0, 2) (cond (!s_base_Within y 0 m) (1, 2) (cond (!s_base_Within z 0 m) (2, 2) c)) := by
  rw [tx_all, tx_eqw, tx_eqw, tx_eqw]
  cases s_counts_within x 0 m <;> cases s_counts_within y 0 m <;> cases s_counts_within z 0 m <;> rfl
theorem tx_colc (x y z o i : Int) (c : Int × Int) : cond (v_colErr x y z o != 0) (i, v_colErr x y z o) c = cond (!s_base_Within x 0 1000) (i, 2) (cond (!s_base_Within y 0 1000) (i, 2) (cond (!s_base_Within z 0 1000) (i, 2) (cond (s_counts_total [x, y, z] != 1000) (i, 3) (cond (decide (o < 600)) (i, 22) c)))) := by
  rw [v_colErr, tx_eqw, tx_eqw, tx_eqw]
  cases s_counts_within x 0 1000 <;> cases s_counts_within y 0 1000 <;> cases s_counts_within z 0 1000 <;> cases (s_counts_total [x, y, z] != 1000) <;> cases decide (o < 600) <;> rfl
theorem tx_lenc (n : Int) (c : Int × Int) : cond (cond (decide (n < 2)) (10 : Int) (cond (decide (n > 8)) 8 0) != 0) (0, cond (decide (n < 2)) (10 : Int) (cond (decide (n > 8)) 8 0)) c = cond (decide (n < 2)) (0, 10) (cond (decide (n > 8)) (0, 8) c) := by
  cases decide (n < 2) <;> cases decide (n > 8) <;> rfl
theorem tx_ref (p : CR) : s_ref06_CheckRules p = s_counts_CheckRules p := by
  unfold s_counts_CheckRules
  have c0 : s_counts_columnErr p.2.2.2.2.2.2.2.1 0 = v_colErr p.2.2.2.2.2.2.2.1.1.1 p.2.2.2.2.2.2.2.1.2.1.1 p.2.2.2.2.2.2.2.1.2.2.1 p.2.2.2.2.2.2.2.1.1.1 := tx_col _ _ _ _
  have c1 : s_counts_columnErr p.2.2.2.2.2.2.2.1 1 = v_colErr p.2.2.2.2.2.2.2.1.1.2.1 p.2.2.2.2.2.2.2.1.2.1.2.1 p.2.2.2.2.2.2.2.1.2.2.2.1 p.2.2.2.2.2.2.2.1.2.1.2.1 := tx_col _ _ _ _
  have c2 : s_counts_columnErr p.2.2.2.2.2.2.2.1 2 = v_colErr p.2.2.2.2.2.2.2.1.1.2.2 p.2.2.2.2.2.2.2.1.2.1.2.2 p.2.2.2.2.2.2.2.1.2.2.2.2 p.2.2.2.2.2.2.2.1.2.2.2.2 := tx_col _ _ _ _
  rw [c0, c1, c2, tx_colc, tx_colc, tx_colc, tx_len, tx_lenc, show p.2.2.2.2.2.2.1 = (p.2.2.2.2.2.2.1.1, p.2.2.2.2.2.2.1.2.1, p.2.2.2.2.2.2.1.2.2) from rfl, tx_allc]
  have h : lp_counts_CheckRules_0 p ((0 : Int), (-1 : Int)) = lp_ref06_CheckRules_0 p 0 := (tx_rk p.hs []).symm
  rw [h]
  rfl
abbrev qre_ref06_CheckRules (_ : CR) : List Prop := []
abbrev t_ref06_CheckRules (p0 : CR) : Int × Int := s_counts_CheckRules p0
theorem pp_ref06_CheckRules (p0 : CR) (_ : ∀ p ∈ qre_ref06_CheckRules p0, p) : ∀ p ∈ pre_ref06_CheckRules p0, p := by
  intro p hp
  simp only [pre_ref06_CheckRules, List.mem_cons, List.not_mem_nil, or_false] at hp
  subst hp
  intros
  rename_i h
  refine ⟨?_, rfl⟩
  have : ¬ ((p0.hs.length : Nat) : Int) > 8 := of_decide_eq_false h
  unfold lenOk; omega
theorem tt_ref06_CheckRules (p0 : CR) (_ : ∀ p ∈ qre_ref06_CheckRules p0, p) : s_ref06_CheckRules p0 = t_ref06_CheckRules p0 := tx_ref p0

abbrev con_ref06_CheckRules : Con := ⟨P_ref06_CheckRules, R_ref06_CheckRules, fun x => qre_ref06_CheckRules x, fun x => t_ref06_CheckRules x⟩
theorem ok_ref06_CheckRules : ConOk Try.prog 19 con_ref06_CheckRules := ⟨k_ref06_CheckRules, fun x hx => ret_tf (ps := P_ref06_CheckRules) (rs := R_ref06_CheckRules) (x := x) (y := t_ref06_CheckRules x) e_ref06_CheckRules hC_ref06_CheckRules (tf_of (w_ref06_CheckRules_eq x (fun z => z = t_ref06_CheckRules x)) (d_ref06_CheckRules x (fun z => z = t_ref06_CheckRules x) (pp_ref06_CheckRules x hx) (tt_ref06_CheckRules x hx)))⟩
/- ref06_RulesErr -/
def C_ref06_RulesErr : Cons := [(19, [], con_ref06_CheckRules)]
theorem hC_ref06_RulesErr : ConsOk Try.prog C_ref06_RulesErr := ConsOk.cons ok_ref06_CheckRules <| ConsOk.nil
def w_ref06_RulesErr (p0 : (Int × (Int × ((Int × (Int × Int)) × ((Int × (Int × Int)) × (Int × (Int × ((Int × (Int × Int)) × (((Int × (Int × Int)) × ((Int × (Int × Int)) × (Int × (Int × Int)))) × (List (Int × Int))))))))))) (K : Int → Prop) : Prop :=
  (K (s_counts_CheckRules p0).2)
set_option maxHeartbeats 4000000 in
theorem w_ref06_RulesErr_eq (p0 : (Int × (Int × ((Int × (Int × Int)) × ((Int × (Int × Int)) × (Int × (Int × ((Int × (Int × Int)) × (((Int × (Int × Int)) × ((Int × (Int × Int)) × (Int × (Int × Int)))) × (List (Int × Int))))))))))) (K : Int → Prop) : tfn F_ref06_RulesErr A_ref06_RulesErr C_ref06_RulesErr P_ref06_RulesErr R_ref06_RulesErr p0 K = w_ref06_RulesErr p0 K := by kernel_rfl
def s_ref06_RulesErr (p0 : (Int × (Int × ((Int × (Int × Int)) × ((Int × (Int × Int)) × (Int × (Int × ((Int × (Int × Int)) × (((Int × (Int × Int)) × ((Int × (Int × Int)) × (Int × (Int × Int)))) × (List (Int × Int))))))))))) : Int :=
  (s_counts_CheckRules p0).2
abbrev pre_ref06_RulesErr (p0 : (Int × (Int × ((Int × (Int × Int)) × ((Int × (Int × Int)) × (Int × (Int × ((Int × (Int × Int)) × (((Int × (Int × Int)) × ((Int × (Int × Int)) × (Int × (Int × Int)))) × (List (Int × Int))))))))))) : List Prop := []
set_option maxHeartbeats 4000000 in
theorem d_ref06_RulesErr (p0 : (Int × (Int × ((Int × (Int × Int)) × ((Int × (Int × Int)) × (Int × (Int × ((Int × (Int × Int)) × (((Int × (Int × Int)) × ((Int × (Int × Int)) × (Int × (Int × Int)))) × (List (Int × Int))))))))))) (K : Int → Prop) (hp : ∀ p ∈ pre_ref06_RulesErr p0, p) (h : K (s_ref06_RulesErr p0)) : w_ref06_RulesErr p0 K := by
  unfold w_ref06_RulesErr
  unfold s_ref06_RulesErr at h
  exact h
abbrev con_ref06_RulesErr : Con := ⟨P_ref06_RulesErr, R_ref06_RulesErr, fun x => pre_ref06_RulesErr x, fun x => s_ref06_RulesErr x⟩
theorem ok_ref06_RulesErr : ConOk Try.prog 23 con_ref06_RulesErr := ⟨k_ref06_RulesErr, fun x hx => ret_tf (ps := P_ref06_RulesErr) (rs := R_ref06_RulesErr) (x := x) (y := s_ref06_RulesErr x) e_ref06_RulesErr hC_ref06_RulesErr (tf_of (w_ref06_RulesErr_eq x (fun z => z = s_ref06_RulesErr x)) (d_ref06_RulesErr x (fun z => z = s_ref06_RulesErr x) hx rfl))⟩
/- ref06_IsHeight -/
def C_ref06_IsHeight : Cons := [(40, [], con_base_Within)]
theorem hC_ref06_IsHeight : ConsOk Try.prog C_ref06_IsHeight := ConsOk.cons ok_base_Within <| ConsOk.nil
def w_ref06_IsHeight (p0 : (Int × (Int × ((Int × (Int × Int)) × ((Int × (Int × Int)) × (Int × (Int × ((Int × (Int × Int)) × (((Int × (Int × Int)) × ((Int × (Int × Int)) × (Int × (Int × Int)))) × (List (Int × Int))))))))))) (p1 : Int) (K : Bool → Prop) : Prop :=
  (((0 : Int) < (((List.length p0.2.2.2.2.2.2.2.2) : Nat) : Int)) ∧
  (((0 : Int) ≤ (Go.IntKind.wrap .i64 ((((List.length p0.2.2.2.2.2.2.2.2) : Nat) : Int) - (1 : Int)))) ∧
  (((Go.IntKind.wrap .i64 ((((List.length p0.2.2.2.2.2.2.2.2) : Nat) : Int) - (1 : Int))) < (((List.length p0.2.2.2.2.2.2.2.2) : Nat) : Int)) ∧
  (K (s_base_Within p1 (List.getD p0.2.2.2.2.2.2.2.2 (Int.toNat (0 : Int)) ((0 : Int), (0 : Int))).1 (List.getD p0.2.2.2.2.2.2.2.2 (Int.toNat (Go.IntKind.wrap .i64 ((((List.length p0.2.2.2.2.2.2.2.2) : Nat) : Int) - (1 : Int)))) ((0 : Int), (0 : Int))).1)))))
set_option maxHeartbeats 4000000 in
theorem w_ref06_IsHeight_eq (p0 : (Int × (Int × ((Int × (Int × Int)) × ((Int × (Int × Int)) × (Int × (Int × ((Int × (Int × Int)) × (((Int × (Int × Int)) × ((Int × (Int × Int)) × (Int × (Int × Int)))) × (List (Int × Int))))))))))) (p1 : Int) (K : Bool → Prop) : tfn F_ref06_IsHeight A_ref06_IsHeight C_ref06_IsHeight P_ref06_IsHeight R_ref06_IsHeight (p0, p1) K = w_ref06_IsHeight p0 p1 K := by kernel_rfl
def s_ref06_IsHeight (p0 : (Int × (Int × ((Int × (Int × Int)) × ((Int × (Int × Int)) × (Int × (Int × ((Int × (Int × Int)) × (((Int × (Int × Int)) × ((Int × (Int × Int)) × (Int × (Int × Int)))) × (List (Int × Int))))))))))) (p1 : Int) : Bool :=
  (s_base_Within p1 (List.getD p0.2.2.2.2.2.2.2.2 (Int.toNat (0 : Int)) ((0 : Int), (0 : Int))).1 (List.getD p0.2.2.2.2.2.2.2.2 (Int.toNat (Go.IntKind.wrap .i64 ((((List.length p0.2.2.2.2.2.2.2.2) : Nat) : Int) - (1 : Int)))) ((0 : Int), (0 : Int))).1)
abbrev pre_ref06_IsHeight (p0 : (Int × (Int × ((Int × (Int × Int)) × ((Int × (Int × Int)) × (Int × (Int × ((Int × (Int × Int)) × (((Int × (Int × Int)) × ((Int × (Int × Int)) × (Int × (Int × Int)))) × (List (Int × Int))))))))))) (p1 : Int) : List Prop := [((0 : Int) < (((List.length p0.2.2.2.2.2.2.2.2) : Nat) : Int)),
    ((0 : Int) ≤ (Go.IntKind.wrap .i64 ((((List.length p0.2.2.2.2.2.2.2.2) : Nat) : Int) - (1 : Int)))),
    ((Go.IntKind.wrap .i64 ((((List.length p0.2.2.2.2.2.2.2.2) : Nat) : Int) - (1 : Int))) < (((List.length p0.2.2.2.2.2.2.2.2) : Nat) : Int))]
set_option maxHeartbeats 4000000 in
theorem d_ref06_IsHeight (p0 : (Int × (Int × ((Int × (Int × Int)) × ((Int × (Int × Int)) × (Int × (Int × ((Int × (Int × Int)) × (((Int × (Int × Int)) × ((Int × (Int × Int)) × (Int × (Int × Int)))) × (List (Int × Int))))))))))) (p1 : Int) (K : Bool → Prop) (hp : ∀ p ∈ pre_ref06_IsHeight p0 p1, p) (h : K (s_ref06_IsHeight p0 p1)) : w_ref06_IsHeight p0 p1 K := by
  unfold w_ref06_IsHeight
  unfold s_ref06_IsHeight at h
  obtain ⟨hp0, hp1, hp2, _⟩ := conj_of hp
  exact ⟨(hp0), ⟨(hp1), ⟨(hp2), h⟩⟩⟩
abbrev t_ref06_IsHeight (p0 : CR) (p1 : Int) : Bool := s_counts_rules_has p0 p1
abbrev qre_ref06_IsHeight (p0 : CR) (_ : Int) : List Prop := [v_rules p0]
theorem pp_ref06_IsHeight (p0 : CR) (p1 : Int) (hq : ∀ p ∈ qre_ref06_IsHeight p0 p1, p) : ∀ p ∈ pre_ref06_IsHeight p0 p1, p := pp_counts_rules_has p0 p1 hq
theorem tt_ref06_IsHeight (p0 : CR) (p1 : Int) (_ : ∀ p ∈ qre_ref06_IsHeight p0 p1, p) : s_ref06_IsHeight p0 p1 = t_ref06_IsHeight p0 p1 := rfl

abbrev con_ref06_IsHeight : Con := ⟨P_ref06_IsHeight, R_ref06_IsHeight, fun x => qre_ref06_IsHeight x.1 x.2, fun x => t_ref06_IsHeight x.1 x.2⟩
theorem ok_ref06_IsHeight : ConOk Try.prog 24 con_ref06_IsHeight := ⟨k_ref06_IsHeight, fun x hx => ret_tf (ps := P_ref06_IsHeight) (rs := R_ref06_IsHeight) (x := x) (y := t_ref06_IsHeight x.1 x.2) e_ref06_IsHeight hC_ref06_IsHeight (tf_of (w_ref06_IsHeight_eq x.1 x.2 (fun z => z = t_ref06_IsHeight x.1 x.2)) (d_ref06_IsHeight x.1 x.2 (fun z => z = t_ref06_IsHeight x.1 x.2) (pp_ref06_IsHeight x.1 x.2 hx) (tt_ref06_IsHeight x.1 x.2 hx)))⟩
/- ref06_SampleErr -/
def C_ref06_SampleErr : Cons := [(40, [], con_base_Within), (24, [], con_ref06_IsHeight)]
theorem hC_ref06_SampleErr : ConsOk Try.prog C_ref06_SampleErr := ConsOk.cons ok_base_Within <| ConsOk.cons ok_ref06_IsHeight <| ConsOk.nil
def w_ref06_SampleErr (p0 : (Int × (Int × ((Int × (Int × Int)) × ((Int × (Int × Int)) × (Int × (Int × ((Int × (Int × Int)) × (((Int × (Int × Int)) × ((Int × (Int × Int)) × (Int × (Int × Int)))) × (List (Int × Int))))))))))) (p1 : ((Int × (Int × Int)) × (Int × (Int × (Int × Int))))) (K : Int → Prop) : Prop :=
  (∃ n0, (loopP (fun (y1 : Int) k2 =>
    ((((decide (y1 < (3 : Int))) = true) →
    (((0 : Int) ≤ y1) ∧
      ((y1 < (3 : Int)) ∧
      ((((!(s_base_Within (List.getD (p1.1.1 :: (p1.1.2.1 :: (p1.1.2.2 :: ([] : List Int)))) (Int.toNat y1) (0 : Int)) (0 : Int) (100000 : Int))) = true) →
      (K (2 : Int))) ∧
      (((!(s_base_Within (List.getD (p1.1.1 :: (p1.1.2.1 :: (p1.1.2.2 :: ([] : List Int)))) (Int.toNat y1) (0 : Int)) (0 : Int) (100000 : Int))) = false) →
      (k2 (Go.IntKind.wrap .i64 (y1 + (1 : Int))))))))) ∧
    (((decide (y1 < (3 : Int))) = false) →
    ((((!(s_base_Within p1.2.2.1 (0 : Int) (100000 : Int))) = false) →
      ((!(s_base_Within p1.2.2.1 (0 : Int) (100000 : Int))) = (!(s_base_Within p1.2.2.1 (0 : Int) (100000 : Int))))) ∧
      ((((!(s_base_Within p1.2.2.1 (0 : Int) (100000 : Int))) = false) →
      ((!(s_base_Within p1.2.2.1 (0 : Int) (100000 : Int))) = (!(s_base_Within p1.2.2.1 (0 : Int) (100000 : Int))))) ∧
      ((((!(s_base_Within p1.2.2.1 (0 : Int) (100000 : Int))) = false) →
      ((!(s_base_Within p1.2.2.1 (0 : Int) (100000 : Int))) = (!(s_base_Within p1.2.2.1 (0 : Int) (100000 : Int))))) ∧
      (((!(s_base_Within p1.2.2.1 (0 : Int) (100000 : Int))) = (!(s_base_Within p1.2.2.1 (0 : Int) (100000 : Int)))) ∧
      ((((cond (!(s_base_Within p1.2.2.1 (0 : Int) (100000 : Int))) true (!(s_base_Within p1.2.1 (0 : Int) (1000000 : Int)))) = false) →
      ((cond (!(s_base_Within p1.2.2.1 (0 : Int) (100000 : Int))) true (!(s_base_Within p1.2.1 (0 : Int) (1000000 : Int)))) = (cond (!(s_base_Within p1.2.2.1 (0 : Int) (100000 : Int))) true (!(s_base_Within p1.2.1 (0 : Int) (1000000 : Int)))))) ∧
      ((((cond (!(s_base_Within p1.2.2.1 (0 : Int) (100000 : Int))) true (!(s_base_Within p1.2.1 (0 : Int) (1000000 : Int)))) = false) →
      ((cond (!(s_base_Within p1.2.2.1 (0 : Int) (100000 : Int))) true (!(s_base_Within p1.2.1 (0 : Int) (1000000 : Int)))) = (cond (!(s_base_Within p1.2.2.1 (0 : Int) (100000 : Int))) true (!(s_base_Within p1.2.1 (0 : Int) (1000000 : Int)))))) ∧
      ((((cond (!(s_base_Within p1.2.2.1 (0 : Int) (100000 : Int))) true (!(s_base_Within p1.2.1 (0 : Int) (1000000 : Int)))) = false) →
      ((cond (!(s_base_Within p1.2.2.1 (0 : Int) (100000 : Int))) true (!(s_base_Within p1.2.1 (0 : Int) (1000000 : Int)))) = (cond (!(s_base_Within p1.2.2.1 (0 : Int) (100000 : Int))) true (!(s_base_Within p1.2.1 (0 : Int) (1000000 : Int)))))) ∧
      (((cond (!(s_base_Within p1.2.2.1 (0 : Int) (100000 : Int))) true (!(s_base_Within p1.2.1 (0 : Int) (1000000 : Int)))) = (cond (!(s_base_Within p1.2.2.1 (0 : Int) (100000 : Int))) true (!(s_base_Within p1.2.1 (0 : Int) (1000000 : Int))))) ∧
      ((((cond (cond (!(s_base_Within p1.2.2.1 (0 : Int) (100000 : Int))) true (!(s_base_Within p1.2.1 (0 : Int) (1000000 : Int)))) true (!(s_base_Within p1.2.2.2.1 (0 : Int) (10000 : Int)))) = false) →
      ((cond (cond (!(s_base_Within p1.2.2.1 (0 : Int) (100000 : Int))) true (!(s_base_Within p1.2.1 (0 : Int) (1000000 : Int)))) true (!(s_base_Within p1.2.2.2.1 (0 : Int) (10000 : Int)))) = (cond (cond (!(s_base_Within p1.2.2.1 (0 : Int) (100000 : Int))) true (!(s_base_Within p1.2.1 (0 : Int) (1000000 : Int)))) true (!(s_base_Within p1.2.2.2.1 (0 : Int) (10000 : Int)))))) ∧
      ((((cond (cond (!(s_base_Within p1.2.2.1 (0 : Int) (100000 : Int))) true (!(s_base_Within p1.2.1 (0 : Int) (1000000 : Int)))) true (!(s_base_Within p1.2.2.2.1 (0 : Int) (10000 : Int)))) = false) →
      ((cond (cond (!(s_base_Within p1.2.2.1 (0 : Int) (100000 : Int))) true (!(s_base_Within p1.2.1 (0 : Int) (1000000 : Int)))) true (!(s_base_Within p1.2.2.2.1 (0 : Int) (10000 : Int)))) = (cond (cond (!(s_base_Within p1.2.2.1 (0 : Int) (100000 : Int))) true (!(s_base_Within p1.2.1 (0 : Int) (1000000 : Int)))) true (!(s_base_Within p1.2.2.2.1 (0 : Int) (10000 : Int)))))) ∧
      ((((cond (cond (!(s_base_Within p1.2.2.1 (0 : Int) (100000 : Int))) true (!(s_base_Within p1.2.1 (0 : Int) (1000000 : Int)))) true (!(s_base_Within p1.2.2.2.1 (0 : Int) (10000 : Int)))) = false) →
      ((cond (cond (!(s_base_Within p1.2.2.1 (0 : Int) (100000 : Int))) true (!(s_base_Within p1.2.1 (0 : Int) (1000000 : Int)))) true (!(s_base_Within p1.2.2.2.1 (0 : Int) (10000 : Int)))) = (cond (cond (!(s_base_Within p1.2.2.1 (0 : Int) (100000 : Int))) true (!(s_base_Within p1.2.1 (0 : Int) (1000000 : Int)))) true (!(s_base_Within p1.2.2.2.1 (0 : Int) (10000 : Int)))))) ∧
      ((((cond (cond (!(s_base_Within p1.2.2.1 (0 : Int) (100000 : Int))) true (!(s_base_Within p1.2.1 (0 : Int) (1000000 : Int)))) true (!(s_base_Within p1.2.2.2.1 (0 : Int) (10000 : Int)))) = false) →
      (v_rules p0)) ∧
      ((((cond (cond (!(s_base_Within p1.2.2.1 (0 : Int) (100000 : Int))) true (!(s_base_Within p1.2.1 (0 : Int) (1000000 : Int)))) true (!(s_base_Within p1.2.2.2.1 (0 : Int) (10000 : Int)))) = false) →
      ((cond (cond (!(s_base_Within p1.2.2.1 (0 : Int) (100000 : Int))) true (!(s_base_Within p1.2.1 (0 : Int) (1000000 : Int)))) true (!(s_base_Within p1.2.2.2.1 (0 : Int) (10000 : Int)))) = (cond (cond (!(s_base_Within p1.2.2.1 (0 : Int) (100000 : Int))) true (!(s_base_Within p1.2.1 (0 : Int) (1000000 : Int)))) true (!(s_base_Within p1.2.2.2.1 (0 : Int) (10000 : Int)))))) ∧
      (((cond (cond (!(s_base_Within p1.2.2.1 (0 : Int) (100000 : Int))) true (!(s_base_Within p1.2.1 (0 : Int) (1000000 : Int)))) true (!(s_base_Within p1.2.2.2.1 (0 : Int) (10000 : Int)))) = (cond (cond (!(s_base_Within p1.2.2.1 (0 : Int) (100000 : Int))) true (!(s_base_Within p1.2.1 (0 : Int) (1000000 : Int)))) true (!(s_base_Within p1.2.2.2.1 (0 : Int) (10000 : Int))))) ∧
      ((((cond (cond (cond (!(s_base_Within p1.2.2.1 (0 : Int) (100000 : Int))) true (!(s_base_Within p1.2.1 (0 : Int) (1000000 : Int)))) true (!(s_base_Within p1.2.2.2.1 (0 : Int) (10000 : Int)))) true (!(s_counts_rules_has p0 p1.2.2.2.2))) = true) →
      (K (2 : Int))) ∧
      (((cond (cond (cond (!(s_base_Within p1.2.2.1 (0 : Int) (100000 : Int))) true (!(s_base_Within p1.2.1 (0 : Int) (1000000 : Int)))) true (!(s_base_Within p1.2.2.2.1 (0 : Int) (10000 : Int)))) true (!(s_counts_rules_has p0 p1.2.2.2.2))) = false) →
      ((((decide ((Go.IntKind.wrap .i64 ((Go.IntKind.wrap .i64 (p1.1.1 + p1.1.2.1)) + p1.1.2.2)) > p1.2.1)) = true) →
        (K (13 : Int))) ∧
        (((decide ((Go.IntKind.wrap .i64 ((Go.IntKind.wrap .i64 (p1.1.1 + p1.1.2.1)) + p1.1.2.2)) > p1.2.1)) = false) →
        ((((decide ((Go.IntKind.wrap .i64 ((Go.IntKind.wrap .i64 ((2 : Int) * p0.2.1)) * p1.2.1)) > p0.1)) = true) →
          (K (22 : Int))) ∧
          (((decide ((Go.IntKind.wrap .i64 ((Go.IntKind.wrap .i64 ((2 : Int) * p0.2.1)) * p1.2.1)) > p0.1)) = false) →
          (K (0 : Int))))))))))))))))))))))))) n0 (0 : Int)))
set_option maxHeartbeats 4000000 in
theorem w_ref06_SampleErr_eq (p0 : (Int × (Int × ((Int × (Int × Int)) × ((Int × (Int × Int)) × (Int × (Int × ((Int × (Int × Int)) × (((Int × (Int × Int)) × ((Int × (Int × Int)) × (Int × (Int × Int)))) × (List (Int × Int))))))))))) (p1 : ((Int × (Int × Int)) × (Int × (Int × (Int × Int))))) (K : Int → Prop) : tfn F_ref06_SampleErr A_ref06_SampleErr C_ref06_SampleErr P_ref06_SampleErr R_ref06_SampleErr (p0, p1) K = w_ref06_SampleErr p0 p1 K := by kernel_rfl
def s_ref06_SampleErr (p0 : (Int × (Int × ((Int × (Int × Int)) × ((Int × (Int × Int)) × (Int × (Int × ((Int × (Int × Int)) × (((Int × (Int × Int)) × ((Int × (Int × Int)) × (Int × (Int × Int)))) × (List (Int × Int))))))))))) (p1 : ((Int × (Int × Int)) × (Int × (Int × (Int × Int))))) : Int :=
  (cond (!(s_base_Within p1.1.1 (0 : Int) (100000 : Int))) (2 : Int)
    (cond (!(s_base_Within p1.1.2.1 (0 : Int) (100000 : Int))) (2 : Int)
    (cond (!(s_base_Within p1.1.2.2 (0 : Int) (100000 : Int))) (2 : Int)
    (cond (cond (cond (cond (!(s_base_Within p1.2.2.1 (0 : Int) (100000 : Int))) true (!(s_base_Within p1.2.1 (0 : Int) (1000000 : Int)))) true (!(s_base_Within p1.2.2.2.1 (0 : Int) (10000 : Int)))) true (!(s_counts_rules_has p0 p1.2.2.2.2))) (2 : Int)
    (cond (decide ((Go.IntKind.wrap .i64 ((Go.IntKind.wrap .i64 (p1.1.1 + p1.1.2.1)) + p1.1.2.2)) > p1.2.1)) (13 : Int)
    (cond (decide ((Go.IntKind.wrap .i64 ((Go.IntKind.wrap .i64 ((2 : Int) * p0.2.1)) * p1.2.1)) > p0.1)) (22 : Int)
    (0 : Int)))))))
abbrev pre_ref06_SampleErr (p0 : (Int × (Int × ((Int × (Int × Int)) × ((Int × (Int × Int)) × (Int × (Int × ((Int × (Int × Int)) × (((Int × (Int × Int)) × ((Int × (Int × Int)) × (Int × (Int × Int)))) × (List (Int × Int))))))))))) (p1 : ((Int × (Int × Int)) × (Int × (Int × (Int × Int))))) : List Prop := [(((!(s_base_Within p1.1.1 (0 : Int) (100000 : Int))) = false) → (((!(s_base_Within p1.1.2.1 (0 : Int) (100000 : Int))) = false) → (((!(s_base_Within p1.1.2.2 (0 : Int) (100000 : Int))) = false) → (((cond (cond (!(s_base_Within p1.2.2.1 (0 : Int) (100000 : Int))) true (!(s_base_Within p1.2.1 (0 : Int) (1000000 : Int)))) true (!(s_base_Within p1.2.2.2.1 (0 : Int) (10000 : Int)))) = false) → (v_rules p0)))))]
set_option maxHeartbeats 4000000 in
theorem d_ref06_SampleErr (p0 : (Int × (Int × ((Int × (Int × Int)) × ((Int × (Int × Int)) × (Int × (Int × ((Int × (Int × Int)) × (((Int × (Int × Int)) × ((Int × (Int × Int)) × (Int × (Int × Int)))) × (List (Int × Int))))))))))) (p1 : ((Int × (Int × Int)) × (Int × (Int × (Int × Int))))) (K : Int → Prop) (hp : ∀ p ∈ pre_ref06_SampleErr p0 p1, p) (h : K (s_ref06_SampleErr p0 p1)) : w_ref06_SampleErr p0 p1 K := by
  unfold w_ref06_SampleErr
  unfold s_ref06_SampleErr at h
  obtain ⟨hp0, _⟩ := conj_of hp
  exact ⟨31, ⟨fun _ => ⟨(of_decide_eq_true rfl), ⟨(of_decide_eq_true rfl), (br' h (fun e0 h => h)
    (fun e0 h => ⟨fun _ => ⟨(of_decide_eq_true rfl), ⟨(of_decide_eq_true rfl), (br' h (fun e1 h => h)
    (fun e1 h => ⟨fun _ => ⟨(of_decide_eq_true rfl), ⟨(of_decide_eq_true rfl), (br' h (fun e2 h => h)
    (fun e2 h => ⟨fun e => Bool.noConfusion (show false = true from e), fun _ => ⟨(fun _ => rfl), ⟨(fun _ => rfl), ⟨(fun _ => rfl), ⟨rfl, ⟨(fun _ => rfl), ⟨(fun _ => rfl), ⟨(fun _ => rfl), ⟨rfl, ⟨(fun _ => rfl), ⟨(fun _ => rfl), ⟨(fun _ => rfl), ⟨(hp0 e0 e1 e2), ⟨(fun _ => rfl), ⟨rfl, (br' h (fun e3 h => h)
    (fun e3 h => (br' h (fun e4 h => h)
    (fun e4 h => (br' h (fun e5 h => h)
    (fun e5 h => h))))))⟩⟩⟩⟩⟩⟩⟩⟩⟩⟩⟩⟩⟩⟩⟩))⟩⟩, fun e => Bool.noConfusion (show true = false from e)⟩))⟩⟩, fun e => Bool.noConfusion (show true = false from e)⟩))⟩⟩, fun e => Bool.noConfusion (show true = false from e)⟩⟩
abbrev t_ref06_SampleErr (p0 : CR) (p1 : CS) : Int := s_counts_rules_sampleErr p0 p1
abbrev qre_ref06_SampleErr (p0 : CR) (_ : CS) : List Prop := [v_rules p0]
theorem pp_ref06_SampleErr (p0 : CR) (p1 : CS) (hq : ∀ p ∈ qre_ref06_SampleErr p0 p1, p) : ∀ p ∈ pre_ref06_SampleErr p0 p1, p := by
  have hv : v_rules p0 := hq _ (by simp)
  intro p hp
  simp only [pre_ref06_SampleErr, List.mem_cons, List.not_mem_nil, or_false] at hp
  subst hp
  intros
  exact hv
theorem tt_ref06_SampleErr (p0 : CR) (p1 : CS) (_ : ∀ p ∈ qre_ref06_SampleErr p0 p1, p) : s_ref06_SampleErr p0 p1 = t_ref06_SampleErr p0 p1 := by
  obtain ⟨⟨a, b, c⟩, t, k, u, h⟩ := p1
  unfold s_ref06_SampleErr t_ref06_SampleErr s_counts_rules_sampleErr
  simp only [tx_eqw]
  have e9 : s_counts_isRaw k = s_counts_within k 0 100000 := rfl
  rw [tx_err _ _ _ (by decide), tx_err _ _ _ (by decide), tx_allneg, e9]
  rcases ha : s_counts_within a 0 100000 with _ | _
  · rfl
  rcases hb : s_counts_within b 0 100000 with _ | _
  · rfl
  rcases hc : s_counts_within c 0 100000 with _ | _
  · rfl
  rcases hk : s_counts_within k 0 100000 with _ | _
  · rfl
  rcases ht : s_counts_within t 0 1000000 with _ | _
  · rfl
  rcases hu : s_counts_within u 0 10000 with _ | _
  · rfl
  rcases hh : s_counts_rules_has p0 h with _ | _
  · rfl
  rw [tx_within] at ha hb hc
  have e1 : decide (s_counts_total [a, b, c] ≤ t) = !decide (IntKind.i64.wrap (IntKind.i64.wrap (a + b) + c) > t) := by
    have : s_counts_total [a, b, c] = IntKind.i64.wrap (IntKind.i64.wrap (IntKind.i64.wrap (0 + a) + b) + c) := rfl
    rw [this, Int.zero_add, wrap_id (n := a) (by omega) (by omega)]
    by_cases h : IntKind.i64.wrap (IntKind.i64.wrap (a + b) + c) > t <;> simp [h] <;> omega
  have e2 : decide (IntKind.i64.wrap (IntKind.i64.wrap (2 * p0.2.1) * t) ≤ p0.1) = !decide (IntKind.i64.wrap (IntKind.i64.wrap (2 * p0.2.1) * t) > p0.1) := by
    by_cases h : IntKind.i64.wrap (IntKind.i64.wrap (2 * p0.2.1) * t) > p0.1 <;> simp [h] <;> omega
  simp only [e1, e2]
  cases decide (IntKind.i64.wrap (IntKind.i64.wrap (a + b) + c) > t) <;> cases decide (IntKind.i64.wrap (IntKind.i64.wrap (2 * p0.2.1) * t) > p0.1) <;> rfl

abbrev con_ref06_SampleErr : Con := ⟨P_ref06_SampleErr, R_ref06_SampleErr, fun x => qre_ref06_SampleErr x.1 x.2, fun x => t_ref06_SampleErr x.1 x.2⟩
theorem ok_ref06_SampleErr : ConOk Try.prog 30 con_ref06_SampleErr := ⟨k_ref06_SampleErr, fun x hx => ret_tf (ps := P_ref06_SampleErr) (rs := R_ref06_SampleErr) (x := x) (y := t_ref06_SampleErr x.1 x.2) e_ref06_SampleErr hC_ref06_SampleErr (tf_of (w_ref06_SampleErr_eq x.1 x.2 (fun z => z = t_ref06_SampleErr x.1 x.2)) (d_ref06_SampleErr x.1 x.2 (fun z => z = t_ref06_SampleErr x.1 x.2) (pp_ref06_SampleErr x.1 x.2 hx) (tt_ref06_SampleErr x.1 x.2 hx)))⟩
/- ref06_BothErr -/
def C_ref06_BothErr : Cons := [(23, [], con_ref06_RulesErr), (30, [], con_ref06_SampleErr)]
theorem hC_ref06_BothErr : ConsOk Try.prog C_ref06_BothErr := ConsOk.cons ok_ref06_RulesErr <| ConsOk.cons ok_ref06_SampleErr <| ConsOk.nil
def w_ref06_BothErr (p0 : (Int × (Int × ((Int × (Int × Int)) × ((Int × (Int × Int)) × (Int × (Int × ((Int × (Int × Int)) × (((Int × (Int × Int)) × ((Int × (Int × Int)) × (Int × (Int × Int)))) × (List (Int × Int))))))))))) (p1 : ((Int × (Int × Int)) × (Int × (Int × (Int × Int))))) (K : Int → Prop) : Prop :=
  (((((s_counts_CheckRules p0).2 != (0 : Int)) = true) →
  (K (s_counts_CheckRules p0).2)) ∧
  ((((s_counts_CheckRules p0).2 != (0 : Int)) = false) →
  ((v_rules p0) ∧
    (K (s_counts_rules_sampleErr p0 p1)))))
set_option maxHeartbeats 4000000 in
theorem w_ref06_BothErr_eq (p0 : (Int × (Int × ((Int × (Int × Int)) × ((Int × (Int × Int)) × (Int × (Int × ((Int × (Int × Int)) × (((Int × (Int × Int)) × ((Int × (Int × Int)) × (Int × (Int × Int)))) × (List (Int × Int))))))))))) (p1 : ((Int × (Int × Int)) × (Int × (Int × (Int × Int))))) (K : Int → Prop) : tfn F_ref06_BothErr A_ref06_BothErr C_ref06_BothErr P_ref06_BothErr R_ref06_BothErr (p0, p1) K = w_ref06_BothErr p0 p1 K := by kernel_rfl
def s_ref06_BothErr (p0 : (Int × (Int × ((Int × (Int × Int)) × ((Int × (Int × Int)) × (Int × (Int × ((Int × (Int × Int)) × (((Int × (Int × Int)) × ((Int × (Int × Int)) × (Int × (Int × Int)))) × (List (Int × Int))))))))))) (p1 : ((Int × (Int × Int)) × (Int × (Int × (Int × Int))))) : Int :=
  (cond ((s_counts_CheckRules p0).2 != (0 : Int)) (s_counts_CheckRules p0).2
    (s_counts_rules_sampleErr p0 p1))
abbrev pre_ref06_BothErr (p0 : (Int × (Int × ((Int × (Int × Int)) × ((Int × (Int × Int)) × (Int × (Int × ((Int × (Int × Int)) × (((Int × (Int × Int)) × ((Int × (Int × Int)) × (Int × (Int × Int)))) × (List (Int × Int))))))))))) (p1 : ((Int × (Int × Int)) × (Int × (Int × (Int × Int))))) : List Prop := [((((s_counts_CheckRules p0).2 != (0 : Int)) = false) → (v_rules p0))]
set_option maxHeartbeats 4000000 in
theorem d_ref06_BothErr (p0 : (Int × (Int × ((Int × (Int × Int)) × ((Int × (Int × Int)) × (Int × (Int × ((Int × (Int × Int)) × (((Int × (Int × Int)) × ((Int × (Int × Int)) × (Int × (Int × Int)))) × (List (Int × Int))))))))))) (p1 : ((Int × (Int × Int)) × (Int × (Int × (Int × Int))))) (K : Int → Prop) (hp : ∀ p ∈ pre_ref06_BothErr p0 p1, p) (h : K (s_ref06_BothErr p0 p1)) : w_ref06_BothErr p0 p1 K := by
  unfold w_ref06_BothErr
  unfold s_ref06_BothErr at h
  obtain ⟨hp0, _⟩ := conj_of hp
  exact (br' h (fun e0 h => h)
    (fun e0 h => ⟨(hp0 e0), h⟩))
abbrev t_ref06_BothErr (p0 : CR) (p1 : CS) : Int := v_both p0 p1
abbrev qre_ref06_BothErr (_ : CR) (_ : CS) : List Prop := []
theorem pp_ref06_BothErr (p0 : CR) (p1 : CS) (_ : ∀ p ∈ qre_ref06_BothErr p0 p1, p) : ∀ p ∈ pre_ref06_BothErr p0 p1, p := by
  intro p hp
  simp only [pre_ref06_BothErr, List.mem_cons, List.not_mem_nil, or_false] at hp
  subst hp
  intro h
  exact tx_valid (by simpa using h)
theorem tt_ref06_BothErr (p0 : CR) (p1 : CS) (_ : ∀ p ∈ qre_ref06_BothErr p0 p1, p) : s_ref06_BothErr p0 p1 = t_ref06_BothErr p0 p1 := by
  have e : s_ref06_BothErr p0 p1 = cond ((s_counts_CheckRules p0).2 != 0) (s_counts_CheckRules p0).2 (s_counts_rules_sampleErr p0 p1) := rfl
  rw [e]
  unfold t_ref06_BothErr v_both
  rw [show ((s_counts_CheckRules p0).2 != 0) = !((s_counts_CheckRules p0).2 == 0) from rfl]
  cases (s_counts_CheckRules p0).2 == 0 <;> rfl

abbrev con_ref06_BothErr : Con := ⟨P_ref06_BothErr, R_ref06_BothErr, fun x => qre_ref06_BothErr x.1 x.2, fun x => t_ref06_BothErr x.1 x.2⟩
theorem ok_ref06_BothErr : ConOk Try.prog 20 con_ref06_BothErr := ⟨k_ref06_BothErr, fun x hx => ret_tf (ps := P_ref06_BothErr) (rs := R_ref06_BothErr) (x := x) (y := t_ref06_BothErr x.1 x.2) e_ref06_BothErr hC_ref06_BothErr (tf_of (w_ref06_BothErr_eq x.1 x.2 (fun z => z = t_ref06_BothErr x.1 x.2)) (d_ref06_BothErr x.1 x.2 (fun z => z = t_ref06_BothErr x.1 x.2) (pp_ref06_BothErr x.1 x.2 hx) (tt_ref06_BothErr x.1 x.2 hx)))⟩
/- ref06_CopyRules -/
def C_ref06_CopyRules : Cons := []
theorem hC_ref06_CopyRules : ConsOk Try.prog C_ref06_CopyRules := ConsOk.nil
def w_ref06_CopyRules (p0 : (Int × (Int × ((Int × (Int × Int)) × ((Int × (Int × Int)) × (Int × (Int × ((Int × (Int × Int)) × (((Int × (Int × Int)) × ((Int × (Int × Int)) × (Int × (Int × Int)))) × (List (Int × Int))))))))))) (K : (Int × (Int × ((Int × (Int × Int)) × ((Int × (Int × Int)) × (Int × (Int × ((Int × (Int × Int)) × (((Int × (Int × Int)) × ((Int × (Int × Int)) × (Int × (Int × Int)))) × (List (Int × Int)))))))))) → Prop) : Prop :=
  (((((List.length ([] : List (Int × Int))) + (List.length p0.2.2.2.2.2.2.2.2)) * 16) ≤ 140737488355328) ∧
  (K (p0.1, (p0.2.1, (p0.2.2.1, (p0.2.2.2.1, (p0.2.2.2.2.1, (p0.2.2.2.2.2.1, (p0.2.2.2.2.2.2.1, (p0.2.2.2.2.2.2.2.1, (([] : List (Int × Int)) ++ p0.2.2.2.2.2.2.2.2)))))))))))
set_option maxHeartbeats 4000000 in
theorem w_ref06_CopyRules_eq (p0 : (Int × (Int × ((Int × (Int × Int)) × ((Int × (Int × Int)) × (Int × (Int × ((Int × (Int × Int)) × (((Int × (Int × Int)) × ((Int × (Int × Int)) × (Int × (Int × Int)))) × (List (Int × Int))))))))))) (K : (Int × (Int × ((Int × (Int × Int)) × ((Int × (Int × Int)) × (Int × (Int × ((Int × (Int × Int)) × (((Int × (Int × Int)) × ((Int × (Int × Int)) × (Int × (Int × Int)))) × (List (Int × Int)))))))))) → Prop) : tfn F_ref06_CopyRules A_ref06_CopyRules C_ref06_CopyRules P_ref06_CopyRules R_ref06_CopyRules p0 K = w_ref06_CopyRules p0 K := by kernel_rfl
def s_ref06_CopyRules (p0 : (Int × (Int × ((Int × (Int × Int)) × ((Int × (Int × Int)) × (Int × (Int × ((Int × (Int × Int)) × (((Int × (Int × Int)) × ((Int × (Int × Int)) × (Int × (Int × Int)))) × (List (Int × Int))))))))))) : (Int × (Int × ((Int × (Int × Int)) × ((Int × (Int × Int)) × (Int × (Int × ((Int × (Int × Int)) × (((Int × (Int × Int)) × ((Int × (Int × Int)) × (Int × (Int × Int)))) × (List (Int × Int)))))))))) :=
  (p0.1, (p0.2.1, (p0.2.2.1, (p0.2.2.2.1, (p0.2.2.2.2.1, (p0.2.2.2.2.2.1, (p0.2.2.2.2.2.2.1, (p0.2.2.2.2.2.2.2.1, (([] : List (Int × Int)) ++ p0.2.2.2.2.2.2.2.2)))))))))
abbrev pre_ref06_CopyRules (p0 : (Int × (Int × ((Int × (Int × Int)) × ((Int × (Int × Int)) × (Int × (Int × ((Int × (Int × Int)) × (((Int × (Int × Int)) × ((Int × (Int × Int)) × (Int × (Int × Int)))) × (List (Int × Int))))))))))) : List Prop := [((((List.length ([] : List (Int × Int))) + (List.length p0.2.2.2.2.2.2.2.2)) * 16) ≤ 140737488355328)]
set_option maxHeartbeats 4000000 in
theorem d_ref06_CopyRules (p0 : (Int × (Int × ((Int × (Int × Int)) × ((Int × (Int × Int)) × (Int × (Int × ((Int × (Int × Int)) × (((Int × (Int × Int)) × ((Int × (Int × Int)) × (Int × (Int × Int)))) × (List (Int × Int))))))))))) (K : (Int × (Int × ((Int × (Int × Int)) × ((Int × (Int × Int)) × (Int × (Int × ((Int × (Int × Int)) × (((Int × (Int × Int)) × ((Int × (Int × Int)) × (Int × (Int × Int)))) × (List (Int × Int)))))))))) → Prop) (hp : ∀ p ∈ pre_ref06_CopyRules p0, p) (h : K (s_ref06_CopyRules p0)) : w_ref06_CopyRules p0 K := by
  unfold w_ref06_CopyRules
  unfold s_ref06_CopyRules at h
  obtain ⟨hp0, _⟩ := conj_of hp
  exact ⟨(hp0), h⟩
abbrev t_ref06_CopyRules (p0 : CR) : CR := p0
abbrev qre_ref06_CopyRules (p0 : CR) : List Prop := [p0.hs.length ≤ 10]
theorem pp_ref06_CopyRules (p0 : CR) (hq : ∀ p ∈ qre_ref06_CopyRules p0, p) : ∀ p ∈ pre_ref06_CopyRules p0, p := by
  have hv : p0.hs.length ≤ 10 := hq _ (by simp)
  have hl : p0.2.2.2.2.2.2.2.2.length = p0.hs.length := rfl
  intro p hp
  simp only [pre_ref06_CopyRules, List.mem_cons, List.not_mem_nil, or_false] at hp
  subst hp
  simp only [List.length_nil, List.length_append]
  omega
theorem tt_ref06_CopyRules (p0 : CR) (_ : ∀ p ∈ qre_ref06_CopyRules p0, p) : s_ref06_CopyRules p0 = t_ref06_CopyRules p0 := rfl

abbrev con_ref06_CopyRules : Con := ⟨P_ref06_CopyRules, R_ref06_CopyRules, fun x => qre_ref06_CopyRules x, fun x => t_ref06_CopyRules x⟩
theorem ok_ref06_CopyRules : ConOk Try.prog 17 con_ref06_CopyRules := ⟨k_ref06_CopyRules, fun x hx => ret_tf (ps := P_ref06_CopyRules) (rs := R_ref06_CopyRules) (x := x) (y := t_ref06_CopyRules x) e_ref06_CopyRules hC_ref06_CopyRules (tf_of (w_ref06_CopyRules_eq x (fun z => z = t_ref06_CopyRules x)) (d_ref06_CopyRules x (fun z => z = t_ref06_CopyRules x) (pp_ref06_CopyRules x hx) (tt_ref06_CopyRules x hx)))⟩
/- counts_single -/
def C_counts_single : Cons := []
theorem hC_counts_single : ConsOk Try.prog C_counts_single := ConsOk.nil
def w_counts_single (p0 : Int) (K : (Int × Int) → Prop) : Prop :=
  (K (p0, p0))
set_option maxHeartbeats 4000000 in
theorem w_counts_single_eq (p0 : Int) (K : (Int × Int) → Prop) : tfn F_counts_single A_counts_single C_counts_single P_counts_single R_counts_single p0 K = w_counts_single p0 K := by kernel_rfl
def s_counts_single (p0 : Int) : (Int × Int) :=
  (p0, p0)
abbrev pre_counts_single (p0 : Int) : List Prop := []
set_option maxHeartbeats 4000000 in
theorem d_counts_single (p0 : Int) (K : (Int × Int) → Prop) (hp : ∀ p ∈ pre_counts_single p0, p) (h : K (s_counts_single p0)) : w_counts_single p0 K := by
  unfold w_counts_single
  unfold s_counts_single at h
  exact h
abbrev con_counts_single : Con := ⟨P_counts_single, R_counts_single, fun x => pre_counts_single x, fun x => s_counts_single x⟩
theorem ok_counts_single : ConOk Try.prog 120 con_counts_single := ⟨k_counts_single, fun x hx => ret_tf (ps := P_counts_single) (rs := R_counts_single) (x := x) (y := s_counts_single x) e_counts_single hC_counts_single (tf_of (w_counts_single_eq x (fun z => z = s_counts_single x)) (d_counts_single x (fun z => z = s_counts_single x) hx rfl))⟩
/- counts_floor -/
def C_counts_floor : Cons := []
theorem hC_counts_floor : ConsOk Try.prog C_counts_floor := ConsOk.nil
def w_counts_floor (p0 : Int) (p1 : Int) (K : Int → Prop) : Prop :=
  ((p1 ≠ (0 : Int)) ∧
  ((p1 ≠ (0 : Int)) ∧
  ((((decide ((Int.tmod p0 p1) < (0 : Int))) = true) →
  (K (Go.IntKind.wrap .i64 ((Go.IntKind.wrap .i64 (Int.tdiv p0 p1)) - (1 : Int))))) ∧
  (((decide ((Int.tmod p0 p1) < (0 : Int))) = false) →
  (K (Go.IntKind.wrap .i64 (Int.tdiv p0 p1)))))))
set_option maxHeartbeats 4000000 in
theorem w_counts_floor_eq (p0 : Int) (p1 : Int) (K : Int → Prop) : tfn F_counts_floor A_counts_floor C_counts_floor P_counts_floor R_counts_floor (p0, p1) K = w_counts_floor p0 p1 K := by kernel_rfl
def s_counts_floor (p0 : Int) (p1 : Int) : Int :=
  (cond (decide ((Int.tmod p0 p1) < (0 : Int))) (Go.IntKind.wrap .i64 ((Go.IntKind.wrap .i64 (Int.tdiv p0 p1)) - (1 : Int)))
    (Go.IntKind.wrap .i64 (Int.tdiv p0 p1)))
abbrev pre_counts_floor (p0 : Int) (p1 : Int) : List Prop := [(p1 ≠ (0 : Int))]
set_option maxHeartbeats 4000000 in
theorem d_counts_floor (p0 : Int) (p1 : Int) (K : Int → Prop) (hp : ∀ p ∈ pre_counts_floor p0 p1, p) (h : K (s_counts_floor p0 p1)) : w_counts_floor p0 p1 K := by
  unfold w_counts_floor
  unfold s_counts_floor at h
  obtain ⟨hp0, _⟩ := conj_of hp
  exact ⟨(hp0), ⟨(hp0), (br' h (fun e0 h => h)
    (fun e0 h => h))⟩⟩
abbrev con_counts_floor : Con := ⟨P_counts_floor, R_counts_floor, fun x => pre_counts_floor x.1 x.2, fun x => s_counts_floor x.1 x.2⟩
theorem ok_counts_floor : ConOk Try.prog 125 con_counts_floor := ⟨k_counts_floor, fun x hx => ret_tf (ps := P_counts_floor) (rs := R_counts_floor) (x := x) (y := s_counts_floor x.1 x.2) e_counts_floor hC_counts_floor (tf_of (w_counts_floor_eq x.1 x.2 (fun z => z = s_counts_floor x.1 x.2)) (d_counts_floor x.1 x.2 (fun z => z = s_counts_floor x.1 x.2) hx rfl))⟩
/- counts_ceil -/
def C_counts_ceil : Cons := [(125, [], con_counts_floor)]
theorem hC_counts_ceil : ConsOk Try.prog C_counts_ceil := ConsOk.cons ok_counts_floor <| ConsOk.nil
def w_counts_ceil (p0 : Int) (p1 : Int) (K : Int → Prop) : Prop :=
  ((p1 ≠ (0 : Int)) ∧
  (K (Go.IntKind.wrap .i64 ((0 : Int) - (s_counts_floor (Go.IntKind.wrap .i64 ((0 : Int) - p0)) p1)))))
set_option maxHeartbeats 4000000 in
theorem w_counts_ceil_eq (p0 : Int) (p1 : Int) (K : Int → Prop) : tfn F_counts_ceil A_counts_ceil C_counts_ceil P_counts_ceil R_counts_ceil (p0, p1) K = w_counts_ceil p0 p1 K := by kernel_rfl
def s_counts_ceil (p0 : Int) (p1 : Int) : Int :=
  (Go.IntKind.wrap .i64 ((0 : Int) - (s_counts_floor (Go.IntKind.wrap .i64 ((0 : Int) - p0)) p1)))
abbrev pre_counts_ceil (p0 : Int) (p1 : Int) : List Prop := [(p1 ≠ (0 : Int))]
set_option maxHeartbeats 4000000 in
theorem d_counts_ceil (p0 : Int) (p1 : Int) (K : Int → Prop) (hp : ∀ p ∈ pre_counts_ceil p0 p1, p) (h : K (s_counts_ceil p0 p1)) : w_counts_ceil p0 p1 K := by
  unfold w_counts_ceil
  unfold s_counts_ceil at h
  obtain ⟨hp0, _⟩ := conj_of hp
  exact ⟨(hp0), h⟩
abbrev con_counts_ceil : Con := ⟨P_counts_ceil, R_counts_ceil, fun x => pre_counts_ceil x.1 x.2, fun x => s_counts_ceil x.1 x.2⟩
theorem ok_counts_ceil : ConOk Try.prog 112 con_counts_ceil := ⟨k_counts_ceil, fun x hx => ret_tf (ps := P_counts_ceil) (rs := R_counts_ceil) (x := x) (y := s_counts_ceil x.1 x.2) e_counts_ceil hC_counts_ceil (tf_of (w_counts_ceil_eq x.1 x.2 (fun z => z = s_counts_ceil x.1 x.2)) (d_counts_ceil x.1 x.2 (fun z => z = s_counts_ceil x.1 x.2) hx rfl))⟩
/- counts_rounded -/
def C_counts_rounded : Cons := [(125, [], con_counts_floor), (112, [], con_counts_ceil)]
theorem hC_counts_rounded : ConsOk Try.prog C_counts_rounded := ConsOk.cons ok_counts_floor <| ConsOk.cons ok_counts_ceil <| ConsOk.nil
def w_counts_rounded (p0 : (Int × Int)) (p1 : Int) (K : (Int × Int) → Prop) : Prop :=
  ((p1 ≠ (0 : Int)) ∧
  ((p1 ≠ (0 : Int)) ∧
  (K ((s_counts_floor p0.1 p1), (s_counts_ceil p0.2 p1)))))
set_option maxHeartbeats 4000000 in
theorem w_counts_rounded_eq (p0 : (Int × Int)) (p1 : Int) (K : (Int × Int) → Prop) : tfn F_counts_rounded A_counts_rounded C_counts_rounded P_counts_rounded R_counts_rounded (p0, p1) K = w_counts_rounded p0 p1 K := by kernel_rfl
def s_counts_rounded (p0 : (Int × Int)) (p1 : Int) : (Int × Int) :=
  ((s_counts_floor p0.1 p1), (s_counts_ceil p0.2 p1))
abbrev pre_counts_rounded (p0 : (Int × Int)) (p1 : Int) : List Prop := [(p1 ≠ (0 : Int))]
set_option maxHeartbeats 4000000 in
theorem d_counts_rounded (p0 : (Int × Int)) (p1 : Int) (K : (Int × Int) → Prop) (hp : ∀ p ∈ pre_counts_rounded p0 p1, p) (h : K (s_counts_rounded p0 p1)) : w_counts_rounded p0 p1 K := by
  unfold w_counts_rounded
  unfold s_counts_rounded at h
  obtain ⟨hp0, _⟩ := conj_of hp
  exact ⟨(hp0), ⟨(hp0), h⟩⟩
abbrev con_counts_rounded : Con := ⟨P_counts_rounded, R_counts_rounded, fun x => pre_counts_rounded x.1 x.2, fun x => s_counts_rounded x.1 x.2⟩
theorem ok_counts_rounded : ConOk Try.prog 118 con_counts_rounded := ⟨k_counts_rounded, fun x hx => ret_tf (ps := P_counts_rounded) (rs := R_counts_rounded) (x := x) (y := s_counts_rounded x.1 x.2) e_counts_rounded hC_counts_rounded (tf_of (w_counts_rounded_eq x.1 x.2 (fun z => z = s_counts_rounded x.1 x.2)) (d_counts_rounded x.1 x.2 (fun z => z = s_counts_rounded x.1 x.2) hx rfl))⟩
/- counts_rules_live -/
def C_counts_rules_live : Cons := [(120, [], con_counts_single), (118, [], con_counts_rounded)]
theorem hC_counts_rules_live : ConsOk Try.prog C_counts_rules_live := ConsOk.cons ok_counts_single <| ConsOk.cons ok_counts_rounded <| ConsOk.nil
def w_counts_rules_live (p0 : (Int × (Int × ((Int × (Int × Int)) × ((Int × (Int × Int)) × (Int × (Int × ((Int × (Int × Int)) × (((Int × (Int × Int)) × ((Int × (Int × Int)) × (Int × (Int × Int)))) × (List (Int × Int))))))))))) (p1 : ((Int × (Int × Int)) × (Int × (Int × (Int × Int))))) (K : ((Int × Int) × ((Int × Int) × (Int × Int))) → Prop) : Prop :=
  (∃ n0, (loopP (fun (y1 : (Int × (Int × (Int × (Int × (Int × (Int × Int))))))) k2 =>
    ((((decide (y1.1 < (3 : Int))) = true) →
    (((0 : Int) ≤ y1.1) ∧
      ((y1.1 < (3 : Int)) ∧
      (((Go.IntKind.wrap .i64 (p0.1 - (Go.IntKind.wrap .i64 (p0.2.1 * p1.2.1)))) ≠ (0 : Int)) ∧
      (((0 : Int) ≤ y1.1) ∧
      ((y1.1 < (3 : Int)) ∧
      (k2 ((Go.IntKind.wrap .i64 (y1.1 + (1 : Int))), ((cond (decide (y1.1 = (0 : Int))) (s_counts_rounded (s_counts_single (Go.IntKind.wrap .i64 ((Go.IntKind.wrap .i64 ((1000 : Int) * (List.getD (p1.1.1 :: (p1.1.2.1 :: (p1.1.2.2 :: ([] : List Int)))) (Int.toNat y1.1) (0 : Int)))) * p0.1))) (Go.IntKind.wrap .i64 (p0.1 - (Go.IntKind.wrap .i64 (p0.2.1 * p1.2.1))))).1 y1.2.1), ((cond (decide (y1.1 = (0 : Int))) (s_counts_rounded (s_counts_single (Go.IntKind.wrap .i64 ((Go.IntKind.wrap .i64 ((1000 : Int) * (List.getD (p1.1.1 :: (p1.1.2.1 :: (p1.1.2.2 :: ([] : List Int)))) (Int.toNat y1.1) (0 : Int)))) * p0.1))) (Go.IntKind.wrap .i64 (p0.1 - (Go.IntKind.wrap .i64 (p0.2.1 * p1.2.1))))).2 y1.2.2.1), ((cond (decide (y1.1 = (1 : Int))) (s_counts_rounded (s_counts_single (Go.IntKind.wrap .i64 ((Go.IntKind.wrap .i64 ((1000 : Int) * (List.getD (p1.1.1 :: (p1.1.2.1 :: (p1.1.2.2 :: ([] : List Int)))) (Int.toNat y1.1) (0 : Int)))) * p0.1))) (Go.IntKind.wrap .i64 (p0.1 - (Go.IntKind.wrap .i64 (p0.2.1 * p1.2.1))))).1 y1.2.2.2.1), ((cond (decide (y1.1 = (1 : Int))) (s_counts_rounded (s_counts_single (Go.IntKind.wrap .i64 ((Go.IntKind.wrap .i64 ((1000 : Int) * (List.getD (p1.1.1 :: (p1.1.2.1 :: (p1.1.2.2 :: ([] : List Int)))) (Int.toNat y1.1) (0 : Int)))) * p0.1))) (Go.IntKind.wrap .i64 (p0.1 - (Go.IntKind.wrap .i64 (p0.2.1 * p1.2.1))))).2 y1.2.2.2.2.1), ((cond (decide (y1.1 = (2 : Int))) (s_counts_rounded (s_counts_single (Go.IntKind.wrap .i64 ((Go.IntKind.wrap .i64 ((1000 : Int) * (List.getD (p1.1.1 :: (p1.1.2.1 :: (p1.1.2.2 :: ([] : List Int)))) (Int.toNat y1.1) (0 : Int)))) * p0.1))) (Go.IntKind.wrap .i64 (p0.1 - (Go.IntKind.wrap .i64 (p0.2.1 * p1.2.1))))).1 y1.2.2.2.2.2.1), (cond (decide (y1.1 = (2 : Int))) (s_counts_rounded (s_counts_single (Go.IntKind.wrap .i64 ((Go.IntKind.wrap .i64 ((1000 : Int) * (List.getD (p1.1.1 :: (p1.1.2.1 :: (p1.1.2.2 :: ([] : List Int)))) (Int.toNat y1.1) (0 : Int)))) * p0.1))) (Go.IntKind.wrap .i64 (p0.1 - (Go.IntKind.wrap .i64 (p0.2.1 * p1.2.1))))).2 y1.2.2.2.2.2.2)))))))))))))) ∧
    (((decide (y1.1 < (3 : Int))) = false) →
    (K ((y1.2.1, y1.2.2.1), ((y1.2.2.2.1, y1.2.2.2.2.1), y1.2.2.2.2.2)))))) n0 ((0 : Int), ((0 : Int), ((0 : Int), ((0 : Int), ((0 : Int), ((0 : Int), (0 : Int)))))))))
set_option maxHeartbeats 4000000 in
theorem w_counts_rules_live_eq (p0 : (Int × (Int × ((Int × (Int × Int)) × ((Int × (Int × Int)) × (Int × (Int × ((Int × (Int × Int)) × (((Int × (Int × Int)) × ((Int × (Int × Int)) × (Int × (Int × Int)))) × (List (Int × Int))))))))))) (p1 : ((Int × (Int × Int)) × (Int × (Int × (Int × Int))))) (K : ((Int × Int) × ((Int × Int) × (Int × Int))) → Prop) : tfn F_counts_rules_live A_counts_rules_live C_counts_rules_live P_counts_rules_live R_counts_rules_live (p0, p1) K = w_counts_rules_live p0 p1 K := by kernel_rfl
def s_counts_rules_live (p0 : (Int × (Int × ((Int × (Int × Int)) × ((Int × (Int × Int)) × (Int × (Int × ((Int × (Int × Int)) × (((Int × (Int × Int)) × ((Int × (Int × Int)) × (Int × (Int × Int)))) × (List (Int × Int))))))))))) (p1 : ((Int × (Int × Int)) × (Int × (Int × (Int × Int))))) : ((Int × Int) × ((Int × Int) × (Int × Int))) :=
  ((s_counts_rounded (s_counts_single (Go.IntKind.wrap .i64 ((Go.IntKind.wrap .i64 ((1000 : Int) * p1.1.1)) * p0.1))) (Go.IntKind.wrap .i64 (p0.1 - (Go.IntKind.wrap .i64 (p0.2.1 * p1.2.1))))), ((s_counts_rounded (s_counts_single (Go.IntKind.wrap .i64 ((Go.IntKind.wrap .i64 ((1000 : Int) * p1.1.2.1)) * p0.1))) (Go.IntKind.wrap .i64 (p0.1 - (Go.IntKind.wrap .i64 (p0.2.1 * p1.2.1))))), (s_counts_rounded (s_counts_single (Go.IntKind.wrap .i64 ((Go.IntKind.wrap .i64 ((1000 : Int) * p1.1.2.2)) * p0.1))) (Go.IntKind.wrap .i64 (p0.1 - (Go.IntKind.wrap .i64 (p0.2.1 * p1.2.1)))))))
abbrev pre_counts_rules_live (p0 : (Int × (Int × ((Int × (Int × Int)) × ((Int × (Int × Int)) × (Int × (Int × ((Int × (Int × Int)) × (((Int × (Int × Int)) × ((Int × (Int × Int)) × (Int × (Int × Int)))) × (List (Int × Int))))))))))) (p1 : ((Int × (Int × Int)) × (Int × (Int × (Int × Int))))) : List Prop := [((Go.IntKind.wrap .i64 (p0.1 - (Go.IntKind.wrap .i64 (p0.2.1 * p1.2.1)))) ≠ (0 : Int))]
set_option maxHeartbeats 4000000 in
theorem d_counts_rules_live (p0 : (Int × (Int × ((Int × (Int × Int)) × ((Int × (Int × Int)) × (Int × (Int × ((Int × (Int × Int)) × (((Int × (Int × Int)) × ((Int × (Int × Int)) × (Int × (Int × Int)))) × (List (Int × Int))))))))))) (p1 : ((Int × (Int × Int)) × (Int × (Int × (Int × Int))))) (K : ((Int × Int) × ((Int × Int) × (Int × Int))) → Prop) (hp : ∀ p ∈ pre_counts_rules_live p0 p1, p) (h : K (s_counts_rules_live p0 p1)) : w_counts_rules_live p0 p1 K := by
  unfold w_counts_rules_live
  unfold s_counts_rules_live at h
  obtain ⟨hp0, _⟩ := conj_of hp
  exact ⟨31, ⟨fun _ => ⟨(of_decide_eq_true rfl), ⟨(of_decide_eq_true rfl), ⟨(hp0), ⟨(of_decide_eq_true rfl), ⟨(of_decide_eq_true rfl), ⟨fun _ => ⟨(of_decide_eq_true rfl), ⟨(of_decide_eq_true rfl), ⟨(hp0), ⟨(of_decide_eq_true rfl), ⟨(of_decide_eq_true rfl), ⟨fun _ => ⟨(of_decide_eq_true rfl), ⟨(of_decide_eq_true rfl), ⟨(hp0), ⟨(of_decide_eq_true rfl), ⟨(of_decide_eq_true rfl), ⟨fun e => Bool.noConfusion (show false = true from e), fun _ => h⟩⟩⟩⟩⟩⟩, fun e => Bool.noConfusion (show true = false from e)⟩⟩⟩⟩⟩⟩, fun e => Bool.noConfusion (show true = false from e)⟩⟩⟩⟩⟩⟩, fun e => Bool.noConfusion (show true = false from e)⟩⟩
abbrev qre_counts_rules_live (p0 : CR) (p1 : CS) : List Prop := [v_samp p0 p1]
theorem pp_counts_rules_live (p0 : CR) (p1 : CS) (hq : ∀ p ∈ qre_counts_rules_live p0 p1, p) : ∀ p ∈ pre_counts_rules_live p0 p1, p := by
  have hv := conj_of hq
  obtain ⟨h1, h2, _⟩ := tx_live hv.1
  intro p hp
  simp only [pre_counts_rules_live, List.mem_cons, List.not_mem_nil, or_false] at hp
  subst hp
  omega


abbrev con_counts_rules_live : Con := ⟨P_counts_rules_live, R_counts_rules_live, fun x => qre_counts_rules_live x.1 x.2, fun x => s_counts_rules_live x.1 x.2⟩
theorem ok_counts_rules_live : ConOk Try.prog 92 con_counts_rules_live := ⟨k_counts_rules_live, fun x hx => ret_tf (ps := P_counts_rules_live) (rs := R_counts_rules_live) (x := x) (y := s_counts_rules_live x.1 x.2) e_counts_rules_live hC_counts_rules_live (tf_of (w_counts_rules_live_eq x.1 x.2 (fun z => z = s_counts_rules_live x.1 x.2)) (d_counts_rules_live x.1 x.2 (fun z => z = s_counts_rules_live x.1 x.2) (pp_counts_rules_live x.1 x.2 hx) rfl))⟩
/- counts_LiveOf -/
def C_counts_LiveOf : Cons := [(79, [], con_counts_openSample), (92, [], con_counts_rules_live)]
theorem hC_counts_LiveOf : ConsOk Try.prog C_counts_LiveOf := ConsOk.cons ok_counts_openSample <| ConsOk.cons ok_counts_rules_live <| ConsOk.nil
def w_counts_LiveOf (p0 : (Int × (Int × ((Int × (Int × Int)) × ((Int × (Int × Int)) × (Int × (Int × ((Int × (Int × Int)) × (((Int × (Int × Int)) × ((Int × (Int × Int)) × (Int × (Int × Int)))) × (List (Int × Int))))))))))) (p1 : ((Int × (Int × Int)) × (Int × (Int × (Int × Int))))) (K : (((Int × Int) × ((Int × Int) × (Int × Int))) × Int) → Prop) : Prop :=
  (((((v_both p0 p1) != (0 : Int)) = true) →
  (K ((((0 : Int), (0 : Int)), (((0 : Int), (0 : Int)), ((0 : Int), (0 : Int)))), (v_both p0 p1)))) ∧
  ((((v_both p0 p1) != (0 : Int)) = false) →
  ((v_samp p0 p1) ∧
    (K ((s_counts_rules_live p0 p1), (0 : Int))))))
set_option maxHeartbeats 4000000 in
theorem w_counts_LiveOf_eq (p0 : (Int × (Int × ((Int × (Int × Int)) × ((Int × (Int × Int)) × (Int × (Int × ((Int × (Int × Int)) × (((Int × (Int × Int)) × ((Int × (Int × Int)) × (Int × (Int × Int)))) × (List (Int × Int))))))))))) (p1 : ((Int × (Int × Int)) × (Int × (Int × (Int × Int))))) (K : (((Int × Int) × ((Int × Int) × (Int × Int))) × Int) → Prop) : tfn F_counts_LiveOf A_counts_LiveOf C_counts_LiveOf P_counts_LiveOf R_counts_LiveOf (p0, p1) K = w_counts_LiveOf p0 p1 K := by kernel_rfl
def s_counts_LiveOf (p0 : (Int × (Int × ((Int × (Int × Int)) × ((Int × (Int × Int)) × (Int × (Int × ((Int × (Int × Int)) × (((Int × (Int × Int)) × ((Int × (Int × Int)) × (Int × (Int × Int)))) × (List (Int × Int))))))))))) (p1 : ((Int × (Int × Int)) × (Int × (Int × (Int × Int))))) : (((Int × Int) × ((Int × Int) × (Int × Int))) × Int) :=
  (cond ((v_both p0 p1) != (0 : Int)) ((((0 : Int), (0 : Int)), (((0 : Int), (0 : Int)), ((0 : Int), (0 : Int)))), (v_both p0 p1))
    ((s_counts_rules_live p0 p1), (0 : Int)))
abbrev pre_counts_LiveOf (p0 : (Int × (Int × ((Int × (Int × Int)) × ((Int × (Int × Int)) × (Int × (Int × ((Int × (Int × Int)) × (((Int × (Int × Int)) × ((Int × (Int × Int)) × (Int × (Int × Int)))) × (List (Int × Int))))))))))) (p1 : ((Int × (Int × Int)) × (Int × (Int × (Int × Int))))) : List Prop := [((((v_both p0 p1) != (0 : Int)) = false) → (v_samp p0 p1))]
set_option maxHeartbeats 4000000 in
theorem d_counts_LiveOf (p0 : (Int × (Int × ((Int × (Int × Int)) × ((Int × (Int × Int)) × (Int × (Int × ((Int × (Int × Int)) × (((Int × (Int × Int)) × ((Int × (Int × Int)) × (Int × (Int × Int)))) × (List (Int × Int))))))))))) (p1 : ((Int × (Int × Int)) × (Int × (Int × (Int × Int))))) (K : (((Int × Int) × ((Int × Int) × (Int × Int))) × Int) → Prop) (hp : ∀ p ∈ pre_counts_LiveOf p0 p1, p) (h : K (s_counts_LiveOf p0 p1)) : w_counts_LiveOf p0 p1 K := by
  unfold w_counts_LiveOf
  unfold s_counts_LiveOf at h
  obtain ⟨hp0, _⟩ := conj_of hp
  exact (br' h (fun e0 h => h)
    (fun e0 h => ⟨(hp0 e0), h⟩))
abbrev qre_counts_LiveOf (_ : CR) (_ : CS) : List Prop := []
theorem pp_counts_LiveOf (p0 : CR) (p1 : CS) (hq : ∀ p ∈ qre_counts_LiveOf p0 p1, p) : ∀ p ∈ pre_counts_LiveOf p0 p1, p := by
  have hv := conj_of hq
  intro p hp
  simp only [pre_counts_LiveOf, List.mem_cons, List.not_mem_nil, or_false] at hp
  subst hp
  intro h
  exact tx_vok h


abbrev con_counts_LiveOf : Con := ⟨P_counts_LiveOf, R_counts_LiveOf, fun x => qre_counts_LiveOf x.1 x.2, fun x => s_counts_LiveOf x.1 x.2⟩
theorem ok_counts_LiveOf : ConOk Try.prog 32 con_counts_LiveOf := ⟨k_counts_LiveOf, fun x hx => ret_tf (ps := P_counts_LiveOf) (rs := R_counts_LiveOf) (x := x) (y := s_counts_LiveOf x.1 x.2) e_counts_LiveOf hC_counts_LiveOf (tf_of (w_counts_LiveOf_eq x.1 x.2 (fun z => z = s_counts_LiveOf x.1 x.2)) (d_counts_LiveOf x.1 x.2 (fun z => z = s_counts_LiveOf x.1 x.2) (pp_counts_LiveOf x.1 x.2 hx) rfl))⟩
/- counts_rules_background -/
def C_counts_rules_background : Cons := []
theorem hC_counts_rules_background : ConsOk Try.prog C_counts_rules_background := ConsOk.nil
def w_counts_rules_background (p0 : (Int × (Int × ((Int × (Int × Int)) × ((Int × (Int × Int)) × (Int × (Int × ((Int × (Int × Int)) × (((Int × (Int × Int)) × ((Int × (Int × Int)) × (Int × (Int × Int)))) × (List (Int × Int))))))))))) (p1 : ((Int × (Int × Int)) × (Int × (Int × (Int × Int))))) (K : (Int × (Int × Int)) → Prop) : Prop :=
  (∃ n0, (loopP (fun (y1 : (Int × (Int × (Int × Int)))) k2 =>
    ((((decide (y1.1 < (3 : Int))) = true) →
    (((0 : Int) ≤ y1.1) ∧
      ((y1.1 < (3 : Int)) ∧
      (((0 : Int) ≤ y1.1) ∧
      ((y1.1 < (3 : Int)) ∧
      (((0 : Int) ≤ y1.1) ∧
      ((y1.1 < (3 : Int)) ∧
      (k2 ((Go.IntKind.wrap .i64 (y1.1 + (1 : Int))), ((cond (decide (y1.1 = (0 : Int))) (Go.IntKind.wrap .i64 ((List.getD (p0.2.2.1.1 :: (p0.2.2.1.2.1 :: (p0.2.2.1.2.2 :: ([] : List Int)))) (Int.toNat y1.1) (0 : Int)) + (Go.IntKind.wrap .i64 ((List.getD (p0.2.2.2.1.1 :: (p0.2.2.2.1.2.1 :: (p0.2.2.2.1.2.2 :: ([] : List Int)))) (Int.toNat y1.1) (0 : Int)) * p1.2.2.1)))) y1.2.1), ((cond (decide (y1.1 = (1 : Int))) (Go.IntKind.wrap .i64 ((List.getD (p0.2.2.1.1 :: (p0.2.2.1.2.1 :: (p0.2.2.1.2.2 :: ([] : List Int)))) (Int.toNat y1.1) (0 : Int)) + (Go.IntKind.wrap .i64 ((List.getD (p0.2.2.2.1.1 :: (p0.2.2.2.1.2.1 :: (p0.2.2.2.1.2.2 :: ([] : List Int)))) (Int.toNat y1.1) (0 : Int)) * p1.2.2.1)))) y1.2.2.1), (cond (decide (y1.1 = (2 : Int))) (Go.IntKind.wrap .i64 ((List.getD (p0.2.2.1.1 :: (p0.2.2.1.2.1 :: (p0.2.2.1.2.2 :: ([] : List Int)))) (Int.toNat y1.1) (0 : Int)) + (Go.IntKind.wrap .i64 ((List.getD (p0.2.2.2.1.1 :: (p0.2.2.2.1.2.1 :: (p0.2.2.2.1.2.2 :: ([] : List Int)))) (Int.toNat y1.1) (0 : Int)) * p1.2.2.1)))) y1.2.2.2)))))))))))) ∧
    (((decide (y1.1 < (3 : Int))) = false) →
    (K y1.2)))) n0 ((0 : Int), ((0 : Int), ((0 : Int), (0 : Int))))))
set_option maxHeartbeats 4000000 in
theorem w_counts_rules_background_eq (p0 : (Int × (Int × ((Int × (Int × Int)) × ((Int × (Int × Int)) × (Int × (Int × ((Int × (Int × Int)) × (((Int × (Int × Int)) × ((Int × (Int × Int)) × (Int × (Int × Int)))) × (List (Int × Int))))))))))) (p1 : ((Int × (Int × Int)) × (Int × (Int × (Int × Int))))) (K : (Int × (Int × Int)) → Prop) : tfn F_counts_rules_background A_counts_rules_background C_counts_rules_background P_counts_rules_background R_counts_rules_background (p0, p1) K = w_counts_rules_background p0 p1 K := by kernel_rfl
def s_counts_rules_background (p0 : (Int × (Int × ((Int × (Int × Int)) × ((Int × (Int × Int)) × (Int × (Int × ((Int × (Int × Int)) × (((Int × (Int × Int)) × ((Int × (Int × Int)) × (Int × (Int × Int)))) × (List (Int × Int))))))))))) (p1 : ((Int × (Int × Int)) × (Int × (Int × (Int × Int))))) : (Int × (Int × Int)) :=
  ((Go.IntKind.wrap .i64 (p0.2.2.1.1 + (Go.IntKind.wrap .i64 (p0.2.2.2.1.1 * p1.2.2.1)))), ((Go.IntKind.wrap .i64 (p0.2.2.1.2.1 + (Go.IntKind.wrap .i64 (p0.2.2.2.1.2.1 * p1.2.2.1)))), (Go.IntKind.wrap .i64 (p0.2.2.1.2.2 + (Go.IntKind.wrap .i64 (p0.2.2.2.1.2.2 * p1.2.2.1))))))
abbrev pre_counts_rules_background (p0 : (Int × (Int × ((Int × (Int × Int)) × ((Int × (Int × Int)) × (Int × (Int × ((Int × (Int × Int)) × (((Int × (Int × Int)) × ((Int × (Int × Int)) × (Int × (Int × Int)))) × (List (Int × Int))))))))))) (p1 : ((Int × (Int × Int)) × (Int × (Int × (Int × Int))))) : List Prop := []
set_option maxHeartbeats 4000000 in
theorem d_counts_rules_background (p0 : (Int × (Int × ((Int × (Int × Int)) × ((Int × (Int × Int)) × (Int × (Int × ((Int × (Int × Int)) × (((Int × (Int × Int)) × ((Int × (Int × Int)) × (Int × (Int × Int)))) × (List (Int × Int))))))))))) (p1 : ((Int × (Int × Int)) × (Int × (Int × (Int × Int))))) (K : (Int × (Int × Int)) → Prop) (hp : ∀ p ∈ pre_counts_rules_background p0 p1, p) (h : K (s_counts_rules_background p0 p1)) : w_counts_rules_background p0 p1 K := by
  unfold w_counts_rules_background
  unfold s_counts_rules_background at h
  exact ⟨31, ⟨fun _ => ⟨(of_decide_eq_true rfl), ⟨(of_decide_eq_true rfl), ⟨(of_decide_eq_true rfl), ⟨(of_decide_eq_true rfl), ⟨(of_decide_eq_true rfl), ⟨(of_decide_eq_true rfl), ⟨fun _ => ⟨(of_decide_eq_true rfl), ⟨(of_decide_eq_true rfl), ⟨(of_decide_eq_true rfl), ⟨(of_decide_eq_true rfl), ⟨(of_decide_eq_true rfl), ⟨(of_decide_eq_true rfl), ⟨fun _ => ⟨(of_decide_eq_true rfl), ⟨(of_decide_eq_true rfl), ⟨(of_decide_eq_true rfl), ⟨(of_decide_eq_true rfl), ⟨(of_decide_eq_true rfl), ⟨(of_decide_eq_true rfl), ⟨fun e => Bool.noConfusion (show false = true from e), fun _ => h⟩⟩⟩⟩⟩⟩⟩, fun e => Bool.noConfusion (show true = false from e)⟩⟩⟩⟩⟩⟩⟩, fun e => Bool.noConfusion (show true = false from e)⟩⟩⟩⟩⟩⟩⟩, fun e => Bool.noConfusion (show true = false from e)⟩⟩
abbrev con_counts_rules_background : Con := ⟨P_counts_rules_background, R_counts_rules_background, fun x => pre_counts_rules_background x.1 x.2, fun x => s_counts_rules_background x.1 x.2⟩
theorem ok_counts_rules_background : ConOk Try.prog 93 con_counts_rules_background := ⟨k_counts_rules_background, fun x hx => ret_tf (ps := P_counts_rules_background) (rs := R_counts_rules_background) (x := x) (y := s_counts_rules_background x.1 x.2) e_counts_rules_background hC_counts_rules_background (tf_of (w_counts_rules_background_eq x.1 x.2 (fun z => z = s_counts_rules_background x.1 x.2)) (d_counts_rules_background x.1 x.2 (fun z => z = s_counts_rules_background x.1 x.2) hx rfl))⟩
/- counts_times -/
def C_counts_times : Cons := []
theorem hC_counts_times : ConsOk Try.prog C_counts_times := ConsOk.nil
def w_counts_times (p0 : (Int × Int)) (p1 : Int) (K : (Int × Int) → Prop) : Prop :=
  ((((decide (p1 < (0 : Int))) = true) →
  (K ((Go.IntKind.wrap .i64 (p1 * p0.2)), (Go.IntKind.wrap .i64 (p1 * p0.1))))) ∧
  (((decide (p1 < (0 : Int))) = false) →
  (K ((Go.IntKind.wrap .i64 (p1 * p0.1)), (Go.IntKind.wrap .i64 (p1 * p0.2))))))
set_option maxHeartbeats 4000000 in
theorem w_counts_times_eq (p0 : (Int × Int)) (p1 : Int) (K : (Int × Int) → Prop) : tfn F_counts_times A_counts_times C_counts_times P_counts_times R_counts_times (p0, p1) K = w_counts_times p0 p1 K := by kernel_rfl
def s_counts_times (p0 : (Int × Int)) (p1 : Int) : (Int × Int) :=
  (cond (decide (p1 < (0 : Int))) ((Go.IntKind.wrap .i64 (p1 * p0.2)), (Go.IntKind.wrap .i64 (p1 * p0.1)))
    ((Go.IntKind.wrap .i64 (p1 * p0.1)), (Go.IntKind.wrap .i64 (p1 * p0.2))))
abbrev pre_counts_times (p0 : (Int × Int)) (p1 : Int) : List Prop := []
set_option maxHeartbeats 4000000 in
theorem d_counts_times (p0 : (Int × Int)) (p1 : Int) (K : (Int × Int) → Prop) (hp : ∀ p ∈ pre_counts_times p0 p1, p) (h : K (s_counts_times p0 p1)) : w_counts_times p0 p1 K := by
  unfold w_counts_times
  unfold s_counts_times at h
  exact (br' h (fun e0 h => h)
    (fun e0 h => h))
abbrev con_counts_times : Con := ⟨P_counts_times, R_counts_times, fun x => pre_counts_times x.1 x.2, fun x => s_counts_times x.1 x.2⟩
theorem ok_counts_times : ConOk Try.prog 119 con_counts_times := ⟨k_counts_times, fun x hx => ret_tf (ps := P_counts_times) (rs := R_counts_times) (x := x) (y := s_counts_times x.1 x.2) e_counts_times hC_counts_times (tf_of (w_counts_times_eq x.1 x.2 (fun z => z = s_counts_times x.1 x.2)) (d_counts_times x.1 x.2 (fun z => z = s_counts_times x.1 x.2) hx rfl))⟩
/- counts_sum -/
def C_counts_sum : Cons := []
theorem hC_counts_sum : ConsOk Try.prog C_counts_sum := ConsOk.nil
def w_counts_sum (p0 : (Int × Int)) (p1 : (Int × Int)) (K : (Int × Int) → Prop) : Prop :=
  (K ((Go.IntKind.wrap .i64 (p0.1 + p1.1)), (Go.IntKind.wrap .i64 (p0.2 + p1.2))))
set_option maxHeartbeats 4000000 in
theorem w_counts_sum_eq (p0 : (Int × Int)) (p1 : (Int × Int)) (K : (Int × Int) → Prop) : tfn F_counts_sum A_counts_sum C_counts_sum P_counts_sum R_counts_sum (p0, p1) K = w_counts_sum p0 p1 K := by kernel_rfl
def s_counts_sum (p0 : (Int × Int)) (p1 : (Int × Int)) : (Int × Int) :=
  ((Go.IntKind.wrap .i64 (p0.1 + p1.1)), (Go.IntKind.wrap .i64 (p0.2 + p1.2)))
abbrev pre_counts_sum (p0 : (Int × Int)) (p1 : (Int × Int)) : List Prop := []
set_option maxHeartbeats 4000000 in
theorem d_counts_sum (p0 : (Int × Int)) (p1 : (Int × Int)) (K : (Int × Int) → Prop) (hp : ∀ p ∈ pre_counts_sum p0 p1, p) (h : K (s_counts_sum p0 p1)) : w_counts_sum p0 p1 K := by
  unfold w_counts_sum
  unfold s_counts_sum at h
  exact h
abbrev con_counts_sum : Con := ⟨P_counts_sum, R_counts_sum, fun x => pre_counts_sum x.1 x.2, fun x => s_counts_sum x.1 x.2⟩
theorem ok_counts_sum : ConOk Try.prog 123 con_counts_sum := ⟨k_counts_sum, fun x hx => ret_tf (ps := P_counts_sum) (rs := R_counts_sum) (x := x) (y := s_counts_sum x.1 x.2) e_counts_sum hC_counts_sum (tf_of (w_counts_sum_eq x.1 x.2 (fun z => z = s_counts_sum x.1 x.2)) (d_counts_sum x.1 x.2 (fun z => z = s_counts_sum x.1 x.2) hx rfl))⟩
/- counts_minus -/
def C_counts_minus : Cons := [(119, [], con_counts_times), (123, [], con_counts_sum)]
theorem hC_counts_minus : ConsOk Try.prog C_counts_minus := ConsOk.cons ok_counts_times <| ConsOk.cons ok_counts_sum <| ConsOk.nil
def w_counts_minus (p0 : (Int × Int)) (p1 : (Int × Int)) (K : (Int × Int) → Prop) : Prop :=
  (K (s_counts_sum p0 (s_counts_times p1 (-1 : Int))))
set_option maxHeartbeats 4000000 in
theorem w_counts_minus_eq (p0 : (Int × Int)) (p1 : (Int × Int)) (K : (Int × Int) → Prop) : tfn F_counts_minus A_counts_minus C_counts_minus P_counts_minus R_counts_minus (p0, p1) K = w_counts_minus p0 p1 K := by kernel_rfl
def s_counts_minus (p0 : (Int × Int)) (p1 : (Int × Int)) : (Int × Int) :=
  (s_counts_sum p0 (s_counts_times p1 (-1 : Int)))
abbrev pre_counts_minus (p0 : (Int × Int)) (p1 : (Int × Int)) : List Prop := []
set_option maxHeartbeats 4000000 in
theorem d_counts_minus (p0 : (Int × Int)) (p1 : (Int × Int)) (K : (Int × Int) → Prop) (hp : ∀ p ∈ pre_counts_minus p0 p1, p) (h : K (s_counts_minus p0 p1)) : w_counts_minus p0 p1 K := by
  unfold w_counts_minus
  unfold s_counts_minus at h
  exact h
abbrev con_counts_minus : Con := ⟨P_counts_minus, R_counts_minus, fun x => pre_counts_minus x.1 x.2, fun x => s_counts_minus x.1 x.2⟩
theorem ok_counts_minus : ConOk Try.prog 121 con_counts_minus := ⟨k_counts_minus, fun x hx => ret_tf (ps := P_counts_minus) (rs := R_counts_minus) (x := x) (y := s_counts_minus x.1 x.2) e_counts_minus hC_counts_minus (tf_of (w_counts_minus_eq x.1 x.2 (fun z => z = s_counts_minus x.1 x.2)) (d_counts_minus x.1 x.2 (fun z => z = s_counts_minus x.1 x.2) hx rfl))⟩
/- counts_rules_radon -/
def C_counts_rules_radon : Cons := [(92, [], con_counts_rules_live), (93, [], con_counts_rules_background), (120, [], con_counts_single), (121, [], con_counts_minus), (119, [], con_counts_times), (118, [], con_counts_rounded)]
theorem hC_counts_rules_radon : ConsOk Try.prog C_counts_rules_radon := ConsOk.cons ok_counts_rules_live <| ConsOk.cons ok_counts_rules_background <| ConsOk.cons ok_counts_single <| ConsOk.cons ok_counts_minus <| ConsOk.cons ok_counts_times <| ConsOk.cons ok_counts_rounded <| ConsOk.nil
def w_counts_rules_radon (p0 : (Int × (Int × ((Int × (Int × Int)) × ((Int × (Int × Int)) × (Int × (Int × ((Int × (Int × Int)) × (((Int × (Int × Int)) × ((Int × (Int × Int)) × (Int × (Int × Int)))) × (List (Int × Int))))))))))) (p1 : ((Int × (Int × Int)) × (Int × (Int × (Int × Int))))) (K : (Int × Int) → Prop) : Prop :=
  ((v_samp p0 p1) ∧
  (((Go.IntKind.wrap .i64 (p0.2.2.2.2.2.1 - p0.2.2.2.2.1)) ≠ (0 : Int)) ∧
  (K (s_counts_rounded (s_counts_minus (s_counts_single (Go.IntKind.wrap .i64 ((1000000 : Int) * p1.2.2.2.1))) (s_counts_times (s_counts_minus (s_counts_rules_live p0 p1).2.1 (s_counts_single (s_counts_rules_background p0 p1).2.1)) p0.2.2.2.2.1)) (Go.IntKind.wrap .i64 (p0.2.2.2.2.2.1 - p0.2.2.2.2.1))))))
set_option maxHeartbeats 4000000 in
theorem w_counts_rules_radon_eq (p0 : (Int × (Int × ((Int × (Int × Int)) × ((Int × (Int × Int)) × (Int × (Int × ((Int × (Int × Int)) × (((Int × (Int × Int)) × ((Int × (Int × Int)) × (Int × (Int × Int)))) × (List (Int × Int))))))))))) (p1 : ((Int × (Int × Int)) × (Int × (Int × (Int × Int))))) (K : (Int × Int) → Prop) : tfn F_counts_rules_radon A_counts_rules_radon C_counts_rules_radon P_counts_rules_radon R_counts_rules_radon (p0, p1) K = w_counts_rules_radon p0 p1 K := by kernel_rfl
def s_counts_rules_radon (p0 : (Int × (Int × ((Int × (Int × Int)) × ((Int × (Int × Int)) × (Int × (Int × ((Int × (Int × Int)) × (((Int × (Int × Int)) × ((Int × (Int × Int)) × (Int × (Int × Int)))) × (List (Int × Int))))))))))) (p1 : ((Int × (Int × Int)) × (Int × (Int × (Int × Int))))) : (Int × Int) :=
  (s_counts_rounded (s_counts_minus (s_counts_single (Go.IntKind.wrap .i64 ((1000000 : Int) * p1.2.2.2.1))) (s_counts_times (s_counts_minus (s_counts_rules_live p0 p1).2.1 (s_counts_single (s_counts_rules_background p0 p1).2.1)) p0.2.2.2.2.1)) (Go.IntKind.wrap .i64 (p0.2.2.2.2.2.1 - p0.2.2.2.2.1)))
abbrev pre_counts_rules_radon (p0 : (Int × (Int × ((Int × (Int × Int)) × ((Int × (Int × Int)) × (Int × (Int × ((Int × (Int × Int)) × (((Int × (Int × Int)) × ((Int × (Int × Int)) × (Int × (Int × Int)))) × (List (Int × Int))))))))))) (p1 : ((Int × (Int × Int)) × (Int × (Int × (Int × Int))))) : List Prop := [(v_samp p0 p1),
    ((Go.IntKind.wrap .i64 (p0.2.2.2.2.2.1 - p0.2.2.2.2.1)) ≠ (0 : Int))]
set_option maxHeartbeats 4000000 in
theorem d_counts_rules_radon (p0 : (Int × (Int × ((Int × (Int × Int)) × ((Int × (Int × Int)) × (Int × (Int × ((Int × (Int × Int)) × (((Int × (Int × Int)) × ((Int × (Int × Int)) × (Int × (Int × Int)))) × (List (Int × Int))))))))))) (p1 : ((Int × (Int × Int)) × (Int × (Int × (Int × Int))))) (K : (Int × Int) → Prop) (hp : ∀ p ∈ pre_counts_rules_radon p0 p1, p) (h : K (s_counts_rules_radon p0 p1)) : w_counts_rules_radon p0 p1 K := by
  unfold w_counts_rules_radon
  unfold s_counts_rules_radon at h
  obtain ⟨hp0, hp1, _⟩ := conj_of hp
  exact ⟨(hp0), ⟨(hp1), h⟩⟩
abbrev qre_counts_rules_radon (p0 : CR) (p1 : CS) : List Prop := [v_samp p0 p1]
theorem pp_counts_rules_radon (p0 : CR) (p1 : CS) (hq : ∀ p ∈ qre_counts_rules_radon p0 p1, p) : ∀ p ∈ pre_counts_rules_radon p0 p1, p := by
  have hv := conj_of hq
  obtain ⟨h3, h4, _⟩ := tx_air hv.1.rules
  intro p hp
  simp only [pre_counts_rules_radon, List.mem_cons, List.not_mem_nil, or_false] at hp
  rcases hp with rfl | rfl
  · exact hv.1
  · omega


abbrev con_counts_rules_radon : Con := ⟨P_counts_rules_radon, R_counts_rules_radon, fun x => qre_counts_rules_radon x.1 x.2, fun x => s_counts_rules_radon x.1 x.2⟩
theorem ok_counts_rules_radon : ConOk Try.prog 94 con_counts_rules_radon := ⟨k_counts_rules_radon, fun x hx => ret_tf (ps := P_counts_rules_radon) (rs := R_counts_rules_radon) (x := x) (y := s_counts_rules_radon x.1 x.2) e_counts_rules_radon hC_counts_rules_radon (tf_of (w_counts_rules_radon_eq x.1 x.2 (fun z => z = s_counts_rules_radon x.1 x.2)) (d_counts_rules_radon x.1 x.2 (fun z => z = s_counts_rules_radon x.1 x.2) (pp_counts_rules_radon x.1 x.2 hx) rfl))⟩
/- counts_RadonOf -/
def C_counts_RadonOf : Cons := [(79, [], con_counts_openSample), (94, [], con_counts_rules_radon)]
theorem hC_counts_RadonOf : ConsOk Try.prog C_counts_RadonOf := ConsOk.cons ok_counts_openSample <| ConsOk.cons ok_counts_rules_radon <| ConsOk.nil
def w_counts_RadonOf (p0 : (Int × (Int × ((Int × (Int × Int)) × ((Int × (Int × Int)) × (Int × (Int × ((Int × (Int × Int)) × (((Int × (Int × Int)) × ((Int × (Int × Int)) × (Int × (Int × Int)))) × (List (Int × Int))))))))))) (p1 : ((Int × (Int × Int)) × (Int × (Int × (Int × Int))))) (K : ((Int × Int) × Int) → Prop) : Prop :=
  (((((v_both p0 p1) != (0 : Int)) = true) →
  (K (((0 : Int), (0 : Int)), (v_both p0 p1)))) ∧
  ((((v_both p0 p1) != (0 : Int)) = false) →
  ((v_samp p0 p1) ∧
    (K ((s_counts_rules_radon p0 p1), (0 : Int))))))
set_option maxHeartbeats 4000000 in
theorem w_counts_RadonOf_eq (p0 : (Int × (Int × ((Int × (Int × Int)) × ((Int × (Int × Int)) × (Int × (Int × ((Int × (Int × Int)) × (((Int × (Int × Int)) × ((Int × (Int × Int)) × (Int × (Int × Int)))) × (List (Int × Int))))))))))) (p1 : ((Int × (Int × Int)) × (Int × (Int × (Int × Int))))) (K : ((Int × Int) × Int) → Prop) : tfn F_counts_RadonOf A_counts_RadonOf C_counts_RadonOf P_counts_RadonOf R_counts_RadonOf (p0, p1) K = w_counts_RadonOf p0 p1 K := by kernel_rfl
def s_counts_RadonOf (p0 : (Int × (Int × ((Int × (Int × Int)) × ((Int × (Int × Int)) × (Int × (Int × ((Int × (Int × Int)) × (((Int × (Int × Int)) × ((Int × (Int × Int)) × (Int × (Int × Int)))) × (List (Int × Int))))))))))) (p1 : ((Int × (Int × Int)) × (Int × (Int × (Int × Int))))) : ((Int × Int) × Int) :=
  (cond ((v_both p0 p1) != (0 : Int)) (((0 : Int), (0 : Int)), (v_both p0 p1))
    ((s_counts_rules_radon p0 p1), (0 : Int)))
abbrev pre_counts_RadonOf (p0 : (Int × (Int × ((Int × (Int × Int)) × ((Int × (Int × Int)) × (Int × (Int × ((Int × (Int × Int)) × (((Int × (Int × Int)) × ((Int × (Int × Int)) × (Int × (Int × Int)))) × (List (Int × Int))))))))))) (p1 : ((Int × (Int × Int)) × (Int × (Int × (Int × Int))))) : List Prop := [((((v_both p0 p1) != (0 : Int)) = false) → (v_samp p0 p1))]
set_option maxHeartbeats 4000000 in
theorem d_counts_RadonOf (p0 : (Int × (Int × ((Int × (Int × Int)) × ((Int × (Int × Int)) × (Int × (Int × ((Int × (Int × Int)) × (((Int × (Int × Int)) × ((Int × (Int × Int)) × (Int × (Int × Int)))) × (List (Int × Int))))))))))) (p1 : ((Int × (Int × Int)) × (Int × (Int × (Int × Int))))) (K : ((Int × Int) × Int) → Prop) (hp : ∀ p ∈ pre_counts_RadonOf p0 p1, p) (h : K (s_counts_RadonOf p0 p1)) : w_counts_RadonOf p0 p1 K := by
  unfold w_counts_RadonOf
  unfold s_counts_RadonOf at h
  obtain ⟨hp0, _⟩ := conj_of hp
  exact (br' h (fun e0 h => h)
    (fun e0 h => ⟨(hp0 e0), h⟩))
abbrev qre_counts_RadonOf (_ : CR) (_ : CS) : List Prop := []
theorem pp_counts_RadonOf (p0 : CR) (p1 : CS) (hq : ∀ p ∈ qre_counts_RadonOf p0 p1, p) : ∀ p ∈ pre_counts_RadonOf p0 p1, p := by
  have hv := conj_of hq
  intro p hp
  simp only [pre_counts_RadonOf, List.mem_cons, List.not_mem_nil, or_false] at hp
  subst hp
  intro h
  exact tx_vok h


abbrev con_counts_RadonOf : Con := ⟨P_counts_RadonOf, R_counts_RadonOf, fun x => qre_counts_RadonOf x.1 x.2, fun x => s_counts_RadonOf x.1 x.2⟩
theorem ok_counts_RadonOf : ConOk Try.prog 34 con_counts_RadonOf := ⟨k_counts_RadonOf, fun x hx => ret_tf (ps := P_counts_RadonOf) (rs := R_counts_RadonOf) (x := x) (y := s_counts_RadonOf x.1 x.2) e_counts_RadonOf hC_counts_RadonOf (tf_of (w_counts_RadonOf_eq x.1 x.2 (fun z => z = s_counts_RadonOf x.1 x.2)) (d_counts_RadonOf x.1 x.2 (fun z => z = s_counts_RadonOf x.1 x.2) (pp_counts_RadonOf x.1 x.2 hx) rfl))⟩
/- counts_BackgroundOf -/
def C_counts_BackgroundOf : Cons := [(79, [], con_counts_openSample), (93, [], con_counts_rules_background)]
theorem hC_counts_BackgroundOf : ConsOk Try.prog C_counts_BackgroundOf := ConsOk.cons ok_counts_openSample <| ConsOk.cons ok_counts_rules_background <| ConsOk.nil
def w_counts_BackgroundOf (p0 : (Int × (Int × ((Int × (Int × Int)) × ((Int × (Int × Int)) × (Int × (Int × ((Int × (Int × Int)) × (((Int × (Int × Int)) × ((Int × (Int × Int)) × (Int × (Int × Int)))) × (List (Int × Int))))))))))) (p1 : ((Int × (Int × Int)) × (Int × (Int × (Int × Int))))) (K : ((Int × (Int × Int)) × Int) → Prop) : Prop :=
  (((((v_both p0 p1) != (0 : Int)) = true) →
  (K (((0 : Int), ((0 : Int), (0 : Int))), (v_both p0 p1)))) ∧
  ((((v_both p0 p1) != (0 : Int)) = false) →
  (K ((s_counts_rules_background p0 p1), (0 : Int)))))
set_option maxHeartbeats 4000000 in
theorem w_counts_BackgroundOf_eq (p0 : (Int × (Int × ((Int × (Int × Int)) × ((Int × (Int × Int)) × (Int × (Int × ((Int × (Int × Int)) × (((Int × (Int × Int)) × ((Int × (Int × Int)) × (Int × (Int × Int)))) × (List (Int × Int))))))))))) (p1 : ((Int × (Int × Int)) × (Int × (Int × (Int × Int))))) (K : ((Int × (Int × Int)) × Int) → Prop) : tfn F_counts_BackgroundOf A_counts_BackgroundOf C_counts_BackgroundOf P_counts_BackgroundOf R_counts_BackgroundOf (p0, p1) K = w_counts_BackgroundOf p0 p1 K := by kernel_rfl
def s_counts_BackgroundOf (p0 : (Int × (Int × ((Int × (Int × Int)) × ((Int × (Int × Int)) × (Int × (Int × ((Int × (Int × Int)) × (((Int × (Int × Int)) × ((Int × (Int × Int)) × (Int × (Int × Int)))) × (List (Int × Int))))))))))) (p1 : ((Int × (Int × Int)) × (Int × (Int × (Int × Int))))) : ((Int × (Int × Int)) × Int) :=
  (cond ((v_both p0 p1) != (0 : Int)) (((0 : Int), ((0 : Int), (0 : Int))), (v_both p0 p1))
    ((s_counts_rules_background p0 p1), (0 : Int)))
abbrev pre_counts_BackgroundOf (p0 : (Int × (Int × ((Int × (Int × Int)) × ((Int × (Int × Int)) × (Int × (Int × ((Int × (Int × Int)) × (((Int × (Int × Int)) × ((Int × (Int × Int)) × (Int × (Int × Int)))) × (List (Int × Int))))))))))) (p1 : ((Int × (Int × Int)) × (Int × (Int × (Int × Int))))) : List Prop := []
set_option maxHeartbeats 4000000 in
theorem d_counts_BackgroundOf (p0 : (Int × (Int × ((Int × (Int × Int)) × ((Int × (Int × Int)) × (Int × (Int × ((Int × (Int × Int)) × (((Int × (Int × Int)) × ((Int × (Int × Int)) × (Int × (Int × Int)))) × (List (Int × Int))))))))))) (p1 : ((Int × (Int × Int)) × (Int × (Int × (Int × Int))))) (K : ((Int × (Int × Int)) × Int) → Prop) (hp : ∀ p ∈ pre_counts_BackgroundOf p0 p1, p) (h : K (s_counts_BackgroundOf p0 p1)) : w_counts_BackgroundOf p0 p1 K := by
  unfold w_counts_BackgroundOf
  unfold s_counts_BackgroundOf at h
  exact (br' h (fun e0 h => h)
    (fun e0 h => h))
abbrev con_counts_BackgroundOf : Con := ⟨P_counts_BackgroundOf, R_counts_BackgroundOf, fun x => pre_counts_BackgroundOf x.1 x.2, fun x => s_counts_BackgroundOf x.1 x.2⟩
theorem ok_counts_BackgroundOf : ConOk Try.prog 33 con_counts_BackgroundOf := ⟨k_counts_BackgroundOf, fun x hx => ret_tf (ps := P_counts_BackgroundOf) (rs := R_counts_BackgroundOf) (x := x) (y := s_counts_BackgroundOf x.1 x.2) e_counts_BackgroundOf hC_counts_BackgroundOf (tf_of (w_counts_BackgroundOf_eq x.1 x.2 (fun z => z = s_counts_BackgroundOf x.1 x.2)) (d_counts_BackgroundOf x.1 x.2 (fun z => z = s_counts_BackgroundOf x.1 x.2) hx rfl))⟩
end Go.Proofs.Ytonjnpefnbnohaa
