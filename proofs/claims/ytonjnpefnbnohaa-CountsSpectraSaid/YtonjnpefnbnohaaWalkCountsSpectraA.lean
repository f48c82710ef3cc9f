/- What the functions that CountsSpectra reaches compute: contracts, each function once. No condition. -/
import Derived.Test.YtonjnpefnbnohaaTxV
import Derived.Test.YtonjnpefnbnohaaAwCountsSpectra
import Derived.KernelRfl
namespace Go.Proofs.Ytonjnpefnbnohaa
open Go Go.Mx
set_option maxRecDepth 100000
/-- Rules: period, dead, aircraft, cosmic, ground, air, radon, strip, heights. -/
abbrev CR : Type := Int × Int × (Int × Int × Int) × (Int × Int × Int) × Int × Int × (Int × Int × Int) × ((Int × Int × Int) × (Int × Int × Int) × (Int × Int × Int)) × List (Int × Int)
abbrev CR.hs (r : CR) : List (Int × Int) := r.2.2.2.2.2.2.2.2
/- law06_few -/
def C_law06_few : Cons := []
theorem hC_law06_few : ConsOk Try.prog C_law06_few := ConsOk.nil
def w_law06_few (p0 : (List Int)) (K : Bool → Prop) : Prop :=
  (K (decide ((((List.length p0) : Nat) : Int) ≤ (66 : Int))))
set_option maxHeartbeats 4000000 in
theorem w_law06_few_eq (p0 : (List Int)) (K : Bool → Prop) : tfn F_law06_few A_law06_few C_law06_few P_law06_few R_law06_few p0 K = w_law06_few p0 K := by kernel_rfl
def s_law06_few (p0 : (List Int)) : Bool :=
  (decide ((((List.length p0) : Nat) : Int) ≤ (66 : Int)))
abbrev pre_law06_few (p0 : (List Int)) : List Prop := []
set_option maxHeartbeats 4000000 in
theorem d_law06_few (p0 : (List Int)) (K : Bool → Prop) (hp : ∀ p ∈ pre_law06_few p0, p) (h : K (s_law06_few p0)) : w_law06_few p0 K := by
  unfold w_law06_few
  unfold s_law06_few at h
  exact h
abbrev con_law06_few : Con := ⟨P_law06_few, R_law06_few, fun x => pre_law06_few x, fun x => s_law06_few x⟩
theorem ok_law06_few : ConOk Try.prog 48 con_law06_few := ⟨k_law06_few, fun x hx => ret_tf (ps := P_law06_few) (rs := R_law06_few) (x := x) (y := s_law06_few x) e_law06_few hC_law06_few (tf_of (w_law06_few_eq x (fun z => z = s_law06_few x)) (d_law06_few x (fun z => z = s_law06_few x) hx rfl))⟩
/- base_CopyInts -/
def C_base_CopyInts : Cons := []
theorem hC_base_CopyInts : ConsOk Try.prog C_base_CopyInts := ConsOk.nil
def w_base_CopyInts (p0 : (List Int)) (K : (List Int) → Prop) : Prop :=
  (((((List.length ([] : List Int)) + (List.length p0)) * 8) ≤ 140737488355328) ∧
  (K (([] : List Int) ++ p0)))
set_option maxHeartbeats 4000000 in
theorem w_base_CopyInts_eq (p0 : (List Int)) (K : (List Int) → Prop) : tfn F_base_CopyInts A_base_CopyInts C_base_CopyInts P_base_CopyInts R_base_CopyInts p0 K = w_base_CopyInts p0 K := by kernel_rfl
def s_base_CopyInts (p0 : (List Int)) : (List Int) :=
  (([] : List Int) ++ p0)
abbrev pre_base_CopyInts (p0 : (List Int)) : List Prop := [((((List.length ([] : List Int)) + (List.length p0)) * 8) ≤ 140737488355328)]
set_option maxHeartbeats 4000000 in
theorem d_base_CopyInts (p0 : (List Int)) (K : (List Int) → Prop) (hp : ∀ p ∈ pre_base_CopyInts p0, p) (h : K (s_base_CopyInts p0)) : w_base_CopyInts p0 K := by
  unfold w_base_CopyInts
  unfold s_base_CopyInts at h
  obtain ⟨hp0, _⟩ := conj_of hp
  exact ⟨(hp0), h⟩
abbrev t_base_CopyInts (p0 : List Int) : List Int := p0
abbrev qre_base_CopyInts (p0 : List Int) : List Prop := [p0.length ≤ 17592186044416]
theorem pp_base_CopyInts (p0 : List Int) (hq : ∀ p ∈ qre_base_CopyInts p0, p) : ∀ p ∈ pre_base_CopyInts p0, p := by
  have hv := (conj_of hq).1
  intro p hp
  simp only [pre_base_CopyInts, List.mem_cons, List.not_mem_nil, or_false] at hp
  subst hp
  simp only [List.length_nil]
  omega
theorem tt_base_CopyInts (p0 : List Int) (_ : ∀ p ∈ qre_base_CopyInts p0, p) : s_base_CopyInts p0 = t_base_CopyInts p0 := rfl

abbrev con_base_CopyInts : Con := ⟨P_base_CopyInts, R_base_CopyInts, fun x => qre_base_CopyInts x, fun x => t_base_CopyInts x⟩
theorem ok_base_CopyInts : ConOk Try.prog 51 con_base_CopyInts := ⟨k_base_CopyInts, fun x hx => ret_tf (ps := P_base_CopyInts) (rs := R_base_CopyInts) (x := x) (y := t_base_CopyInts x) e_base_CopyInts hC_base_CopyInts (tf_of (w_base_CopyInts_eq x (fun z => z = t_base_CopyInts x)) (d_base_CopyInts x (fun z => z = t_base_CopyInts x) (pp_base_CopyInts x hx) (tt_base_CopyInts x hx)))⟩
/- counts_within -/
def C_counts_within : Cons := []
theorem hC_counts_within : ConsOk Try.prog C_counts_within := ConsOk.nil
def w_counts_within (p0 : Int) (p1 : Int) (p2 : Int) (K : Bool → Prop) : Prop :=
  ((((decide (p1 ≤ p0)) = true) →
  ((decide (p1 ≤ p0)) = (decide (p1 ≤ p0)))) ∧
  ((((decide (p1 ≤ p0)) = true) →
  ((decide (p1 ≤ p0)) = (decide (p1 ≤ p0)))) ∧
  (((decide (p1 ≤ p0)) = (decide (p1 ≤ p0))) ∧
  (K (cond (decide (p1 ≤ p0)) (decide (p0 ≤ p2)) false)))))
set_option maxHeartbeats 4000000 in
theorem w_counts_within_eq (p0 : Int) (p1 : Int) (p2 : Int) (K : Bool → Prop) : tfn F_counts_within A_counts_within C_counts_within P_counts_within R_counts_within (p0, p1, p2) K = w_counts_within p0 p1 p2 K := by kernel_rfl
def s_counts_within (p0 : Int) (p1 : Int) (p2 : Int) : Bool :=
  (cond (decide (p1 ≤ p0)) (decide (p0 ≤ p2)) false)
abbrev pre_counts_within (p0 : Int) (p1 : Int) (p2 : Int) : List Prop := []
set_option maxHeartbeats 4000000 in
theorem d_counts_within (p0 : Int) (p1 : Int) (p2 : Int) (K : Bool → Prop) (hp : ∀ p ∈ pre_counts_within p0 p1 p2, p) (h : K (s_counts_within p0 p1 p2)) : w_counts_within p0 p1 p2 K := by
  unfold w_counts_within
  unfold s_counts_within at h
  exact ⟨(fun _ => rfl), ⟨(fun _ => rfl), ⟨rfl, h⟩⟩⟩
abbrev con_counts_within : Con := ⟨P_counts_within, R_counts_within, fun x => pre_counts_within x.1 x.2.1 x.2.2, fun x => s_counts_within x.1 x.2.1 x.2.2⟩
theorem ok_counts_within : ConOk Try.prog 74 con_counts_within := ⟨k_counts_within, fun x hx => ret_tf (ps := P_counts_within) (rs := R_counts_within) (x := x) (y := s_counts_within x.1 x.2.1 x.2.2) e_counts_within hC_counts_within (tf_of (w_counts_within_eq x.1 x.2.1 x.2.2 (fun z => z = s_counts_within x.1 x.2.1 x.2.2)) (d_counts_within x.1 x.2.1 x.2.2 (fun z => z = s_counts_within x.1 x.2.1 x.2.2) hx rfl))⟩
/- counts_allWithin_1 -/
def C_counts_allWithin_1 : Cons := [(74, [], con_counts_within)]
theorem hC_counts_allWithin_1 : ConsOk Try.prog C_counts_allWithin_1 := ConsOk.cons ok_counts_within <| ConsOk.nil
def w_counts_allWithin_1 (p0 : Int) (p1 : Int) (K : Bool → Prop) : Prop :=
  (K (!(s_counts_within p0 (0 : Int) p1)))
set_option maxHeartbeats 4000000 in
theorem w_counts_allWithin_1_eq (p0 : Int) (p1 : Int) (K : Bool → Prop) : tfn F_counts_allWithin_1 A_counts_allWithin_1 C_counts_allWithin_1 P_counts_allWithin_1 R_counts_allWithin_1 (p0, p1) K = w_counts_allWithin_1 p0 p1 K := by kernel_rfl
def s_counts_allWithin_1 (p0 : Int) (p1 : Int) : Bool :=
  (!(s_counts_within p0 (0 : Int) p1))
abbrev pre_counts_allWithin_1 (p0 : Int) (p1 : Int) : List Prop := []
set_option maxHeartbeats 4000000 in
theorem d_counts_allWithin_1 (p0 : Int) (p1 : Int) (K : Bool → Prop) (hp : ∀ p ∈ pre_counts_allWithin_1 p0 p1, p) (h : K (s_counts_allWithin_1 p0 p1)) : w_counts_allWithin_1 p0 p1 K := by
  unfold w_counts_allWithin_1
  unfold s_counts_allWithin_1 at h
  exact h
abbrev con_counts_allWithin_1 : Con := ⟨P_counts_allWithin_1, R_counts_allWithin_1, fun x => pre_counts_allWithin_1 x.1 x.2, fun x => s_counts_allWithin_1 x.1 x.2⟩
theorem ok_counts_allWithin_1 : ConOk Try.prog 116 con_counts_allWithin_1 := ⟨k_counts_allWithin_1, fun x hx => ret_tf (ps := P_counts_allWithin_1) (rs := R_counts_allWithin_1) (x := x) (y := s_counts_allWithin_1 x.1 x.2) e_counts_allWithin_1 hC_counts_allWithin_1 (tf_of (w_counts_allWithin_1_eq x.1 x.2 (fun z => z = s_counts_allWithin_1 x.1 x.2)) (d_counts_allWithin_1 x.1 x.2 (fun z => z = s_counts_allWithin_1 x.1 x.2) hx rfl))⟩
/- slices_IndexFuncint_int__counts_allWithin_1 -/
def C_slices_IndexFuncint_int__counts_allWithin_1 : Cons := [(116, [], con_counts_allWithin_1)]
theorem hC_slices_IndexFuncint_int__counts_allWithin_1 : ConsOk Try.prog C_slices_IndexFuncint_int__counts_allWithin_1 := ConsOk.cons ok_counts_allWithin_1 <| ConsOk.nil
def w_slices_IndexFuncint_int__counts_allWithin_1 (p0 : (List Int)) (p1 : (Int × PUnit)) (K : Int → Prop) : Prop :=
  (∃ n0, (loopP (fun (y1 : Int) k2 =>
    ((((decide (y1 < (((List.length p0) : Nat) : Int))) = true) →
    (((0 : Int) ≤ y1) ∧
      ((y1 < (((List.length p0) : Nat) : Int)) ∧
      ((((s_counts_allWithin_1 (List.getD p0 (Int.toNat y1) (0 : Int)) p1.1) = true) →
      (K y1)) ∧
      (((s_counts_allWithin_1 (List.getD p0 (Int.toNat y1) (0 : Int)) p1.1) = false) →
      (k2 (Go.IntKind.wrap .i64 (y1 + (1 : Int))))))))) ∧
    (((decide (y1 < (((List.length p0) : Nat) : Int))) = false) →
    (K (-1 : Int))))) n0 (0 : Int)))
set_option maxHeartbeats 4000000 in
theorem w_slices_IndexFuncint_int__counts_allWithin_1_eq (p0 : (List Int)) (p1 : (Int × PUnit)) (K : Int → Prop) : tfn F_slices_IndexFuncint_int__counts_allWithin_1 A_slices_IndexFuncint_int__counts_allWithin_1 C_slices_IndexFuncint_int__counts_allWithin_1 P_slices_IndexFuncint_int__counts_allWithin_1 R_slices_IndexFuncint_int__counts_allWithin_1 (p0, p1) K = w_slices_IndexFuncint_int__counts_allWithin_1 p0 p1 K := by kernel_rfl
/-- The number of the first that is not from 0 to a limit, from a number on, or -1. -/
def sp_out (m : Int) (i : Int) : List Int → Int
  | [] => -1
  | x :: r => if s_counts_allWithin_1 x m = true then i else sp_out m (i + 1) r
def s_slices_IndexFuncint_int__counts_allWithin_1 (l : List Int) (m : Int × PUnit) : Int := sp_out m.1 0 l
abbrev pre_slices_IndexFuncint_int__counts_allWithin_1 (l : List Int) (_ : Int × PUnit) : List Prop := [lenOk l]
theorem d_slices_IndexFuncint_int__counts_allWithin_1 (l : List Int) (m : Int × PUnit) (K : Int → Prop) (hp : ∀ p ∈ pre_slices_IndexFuncint_int__counts_allWithin_1 l m, p) (h : K (s_slices_IndexFuncint_int__counts_allWithin_1 l m)) : w_slices_IndexFuncint_int__counts_allWithin_1 l m K := by
  obtain ⟨hl, _⟩ := conj_of hp
  refine loop_list0 l 0 (fun r => K (sp_out m.1 ((l.length : Int) - r.length) r)) ?_ ?_ (by simpa [s_slices_IndexFuncint_int__counts_allWithin_1] using h)
  · intro k hI
    simpa [sp_out] using hI
  · intro j k hj hI hk
    have hj' : (j : Int) < l.length := by omega
    rw [wrap_nat (by omega)]
    have e1 : (l.length : Int) - ((l.getD j 0 :: l.drop (j + 1)).length : Int) = j := by simp; omega
    have e2 : (l.length : Int) - ((l.drop (j + 1)).length : Int) = (j : Int) + 1 := by simp; omega
    rw [e1] at hI
    rw [e2] at hk
    simp only [hj', decide_true, Int.toNat_natCast, forall_const, Bool.true_eq_false, false_imp_iff, and_true]
    refine ⟨by omega, trivial, fun hx => ?_, fun hx => hk ?_⟩
    · simpa only [sp_out, hx, if_true] using hI
    · simpa only [sp_out, hx, Bool.false_eq_true, if_false] using hI

abbrev con_slices_IndexFuncint_int__counts_allWithin_1 : Con := ⟨P_slices_IndexFuncint_int__counts_allWithin_1, R_slices_IndexFuncint_int__counts_allWithin_1, fun x => pre_slices_IndexFuncint_int__counts_allWithin_1 x.1 x.2, fun x => s_slices_IndexFuncint_int__counts_allWithin_1 x.1 x.2⟩
theorem ok_slices_IndexFuncint_int__counts_allWithin_1 : ConOk Try.prog 102 con_slices_IndexFuncint_int__counts_allWithin_1 := ⟨k_slices_IndexFuncint_int__counts_allWithin_1, fun x hx => ret_tf (ps := P_slices_IndexFuncint_int__counts_allWithin_1) (rs := R_slices_IndexFuncint_int__counts_allWithin_1) (x := x) (y := s_slices_IndexFuncint_int__counts_allWithin_1 x.1 x.2) e_slices_IndexFuncint_int__counts_allWithin_1 hC_slices_IndexFuncint_int__counts_allWithin_1 (tf_of (w_slices_IndexFuncint_int__counts_allWithin_1_eq x.1 x.2 (fun z => z = s_slices_IndexFuncint_int__counts_allWithin_1 x.1 x.2)) (d_slices_IndexFuncint_int__counts_allWithin_1 x.1 x.2 (fun z => z = s_slices_IndexFuncint_int__counts_allWithin_1 x.1 x.2) hx rfl))⟩
/- counts_allWithin -/
def C_counts_allWithin : Cons := [(102, [116], con_slices_IndexFuncint_int__counts_allWithin_1)]
theorem hC_counts_allWithin : ConsOk Try.prog C_counts_allWithin := ConsOk.cons ok_slices_IndexFuncint_int__counts_allWithin_1 <| ConsOk.nil
def w_counts_allWithin (p0 : (Int × (Int × Int))) (p1 : Int) (K : Int → Prop) : Prop :=
  ((lenOk (p0.1 :: (p0.2.1 :: (p0.2.2 :: ([] : List Int))))) ∧
  (K (s_slices_IndexFuncint_int__counts_allWithin_1 (p0.1 :: (p0.2.1 :: (p0.2.2 :: ([] : List Int)))) (p1, ()))))
set_option maxHeartbeats 4000000 in
theorem w_counts_allWithin_eq (p0 : (Int × (Int × Int))) (p1 : Int) (K : Int → Prop) : tfn F_counts_allWithin A_counts_allWithin C_counts_allWithin P_counts_allWithin R_counts_allWithin (p0, p1) K = w_counts_allWithin p0 p1 K := by kernel_rfl
def s_counts_allWithin (p0 : (Int × (Int × Int))) (p1 : Int) : Int :=
  (s_slices_IndexFuncint_int__counts_allWithin_1 (p0.1 :: (p0.2.1 :: (p0.2.2 :: ([] : List Int)))) (p1, ()))
abbrev pre_counts_allWithin (p0 : (Int × (Int × Int))) (p1 : Int) : List Prop := []
set_option maxHeartbeats 4000000 in
theorem d_counts_allWithin (p0 : (Int × (Int × Int))) (p1 : Int) (K : Int → Prop) (hp : ∀ p ∈ pre_counts_allWithin p0 p1, p) (h : K (s_counts_allWithin p0 p1)) : w_counts_allWithin p0 p1 K := by
  unfold w_counts_allWithin
  unfold s_counts_allWithin at h
  exact ⟨(lenOk_of 3 rfl (by decide)), h⟩
abbrev con_counts_allWithin : Con := ⟨P_counts_allWithin, R_counts_allWithin, fun x => pre_counts_allWithin x.1 x.2, fun x => s_counts_allWithin x.1 x.2⟩
theorem ok_counts_allWithin : ConOk Try.prog 75 con_counts_allWithin := ⟨k_counts_allWithin, fun x hx => ret_tf (ps := P_counts_allWithin) (rs := R_counts_allWithin) (x := x) (y := s_counts_allWithin x.1 x.2) e_counts_allWithin hC_counts_allWithin (tf_of (w_counts_allWithin_eq x.1 x.2 (fun z => z = s_counts_allWithin x.1 x.2)) (d_counts_allWithin x.1 x.2 (fun z => z = s_counts_allWithin x.1 x.2) hx rfl))⟩
/- counts_unless -/
def C_counts_unless : Cons := []
theorem hC_counts_unless : ConsOk Try.prog C_counts_unless := ConsOk.nil
def w_counts_unless (p0 : Bool) (p1 : Int) (K : Int → Prop) : Prop :=
  (((p0 = true) →
  (K (0 : Int))) ∧
  ((p0 = false) →
  (K p1)))
set_option maxHeartbeats 4000000 in
theorem w_counts_unless_eq (p0 : Bool) (p1 : Int) (K : Int → Prop) : tfn F_counts_unless A_counts_unless C_counts_unless P_counts_unless R_counts_unless (p0, p1) K = w_counts_unless p0 p1 K := by kernel_rfl
def s_counts_unless (p0 : Bool) (p1 : Int) : Int :=
  (cond p0 (0 : Int)
    p1)
abbrev pre_counts_unless (p0 : Bool) (p1 : Int) : List Prop := []
set_option maxHeartbeats 4000000 in
theorem d_counts_unless (p0 : Bool) (p1 : Int) (K : Int → Prop) (hp : ∀ p ∈ pre_counts_unless p0 p1, p) (h : K (s_counts_unless p0 p1)) : w_counts_unless p0 p1 K := by
  unfold w_counts_unless
  unfold s_counts_unless at h
  exact (br' h (fun e0 h => h)
    (fun e0 h => h))
abbrev con_counts_unless : Con := ⟨P_counts_unless, R_counts_unless, fun x => pre_counts_unless x.1 x.2, fun x => s_counts_unless x.1 x.2⟩
theorem ok_counts_unless : ConOk Try.prog 78 con_counts_unless := ⟨k_counts_unless, fun x hx => ret_tf (ps := P_counts_unless) (rs := R_counts_unless) (x := x) (y := s_counts_unless x.1 x.2) e_counts_unless hC_counts_unless (tf_of (w_counts_unless_eq x.1 x.2 (fun z => z = s_counts_unless x.1 x.2)) (d_counts_unless x.1 x.2 (fun z => z = s_counts_unless x.1 x.2) hx rfl))⟩
/- counts_total -/
def C_counts_total : Cons := []
theorem hC_counts_total : ConsOk Try.prog C_counts_total := ConsOk.nil
def w_counts_total (p0 : (List Int)) (K : Int → Prop) : Prop :=
  (∃ n0, (loopP (fun (y1 : (Int × Int)) k2 =>
    ((((decide (y1.1 < (((List.length p0) : Nat) : Int))) = true) →
    (((0 : Int) ≤ y1.1) ∧
      ((y1.1 < (((List.length p0) : Nat) : Int)) ∧
      (k2 ((Go.IntKind.wrap .i64 (y1.1 + (1 : Int))), (Go.IntKind.wrap .i64 (y1.2 + (List.getD p0 (Int.toNat y1.1) (0 : Int))))))))) ∧
    (((decide (y1.1 < (((List.length p0) : Nat) : Int))) = false) →
    (K y1.2)))) n0 ((0 : Int), (0 : Int))))
set_option maxHeartbeats 4000000 in
theorem w_counts_total_eq (p0 : (List Int)) (K : Int → Prop) : tfn F_counts_total A_counts_total C_counts_total P_counts_total R_counts_total p0 K = w_counts_total p0 K := by kernel_rfl
/-- The sum, round after round. -/
def sp_total (a : Int) : List Int → Int
  | [] => a
  | x :: r => sp_total (IntKind.i64.wrap (a + x)) r
def s_counts_total (l : List Int) : Int := sp_total 0 l
abbrev pre_counts_total (l : List Int) : List Prop := [lenOk l]
theorem d_counts_total (l : List Int) (K : Int → Prop) (hp : ∀ p ∈ pre_counts_total l, p) (h : K (s_counts_total l)) : w_counts_total l K := by
  obtain ⟨hl, _⟩ := conj_of hp
  refine loop_list (fun i t => (i, t)) l 0 (fun t r => K (sp_total t r)) ?_ ?_ 0 h
  · intro t k hI
    simpa [sp_total] using hI
  · intro j t k hj hI hk
    have hj' : (j : Int) < l.length := by omega
    simp only [wrap_nat (show (j : Int) ≤ 9223372036854775806 by omega)]
    simp only [hj', decide_true, Int.toNat_natCast, forall_const, Bool.true_eq_false, false_imp_iff, and_true]
    exact ⟨by omega, trivial, hk _ hI⟩

abbrev con_counts_total : Con := ⟨P_counts_total, R_counts_total, fun x => pre_counts_total x, fun x => s_counts_total x⟩
theorem ok_counts_total : ConOk Try.prog 100 con_counts_total := ⟨k_counts_total, fun x hx => ret_tf (ps := P_counts_total) (rs := R_counts_total) (x := x) (y := s_counts_total x) e_counts_total hC_counts_total (tf_of (w_counts_total_eq x (fun z => z = s_counts_total x)) (d_counts_total x (fun z => z = s_counts_total x) hx rfl))⟩
/- counts_first -/
def C_counts_first : Cons := []
theorem hC_counts_first : ConsOk Try.prog C_counts_first := ConsOk.nil
def w_counts_first (p0 : (List Int)) (K : Int → Prop) : Prop :=
  (∃ n0, (loopP (fun (y1 : Int) k2 =>
    ((((decide (y1 < (((List.length p0) : Nat) : Int))) = true) →
    (((0 : Int) ≤ y1) ∧
      ((y1 < (((List.length p0) : Nat) : Int)) ∧
      (((((List.getD p0 (Int.toNat y1) (0 : Int)) != (0 : Int)) = true) →
      (K (List.getD p0 (Int.toNat y1) (0 : Int)))) ∧
      ((((List.getD p0 (Int.toNat y1) (0 : Int)) != (0 : Int)) = false) →
      (k2 (Go.IntKind.wrap .i64 (y1 + (1 : Int))))))))) ∧
    (((decide (y1 < (((List.length p0) : Nat) : Int))) = false) →
    (K (0 : Int))))) n0 (0 : Int)))
set_option maxHeartbeats 4000000 in
theorem w_counts_first_eq (p0 : (List Int)) (K : Int → Prop) : tfn F_counts_first A_counts_first C_counts_first P_counts_first R_counts_first p0 K = w_counts_first p0 K := by kernel_rfl
/-- The first that is not 0. -/
def s_counts_first : List Int → Int
  | [] => 0
  | x :: r => if x = 0 then s_counts_first r else x
abbrev pre_counts_first (l : List Int) : List Prop := [lenOk l]
theorem d_counts_first (l : List Int) (K : Int → Prop) (hp : ∀ p ∈ pre_counts_first l, p) (h : K (s_counts_first l)) : w_counts_first l K := by
  obtain ⟨hl, _⟩ := conj_of hp
  refine loop_list0 l 0 (fun r => K (s_counts_first r)) ?_ ?_ h
  · intro k hI
    simpa [s_counts_first] using hI
  · intro j k hj hI hk
    have hj' : (j : Int) < l.length := by omega
    rw [wrap_nat (by omega)]
    simp only [hj', decide_true, Int.toNat_natCast, forall_const, Bool.true_eq_false, false_imp_iff, and_true, bne_iff_ne, ne_eq, bne_eq_false_iff_eq]
    refine ⟨by omega, trivial, fun hx => ?_, fun hx => hk ?_⟩
    · simpa only [s_counts_first, if_neg hx] using hI
    · simpa only [s_counts_first, if_pos hx] using hI

abbrev con_counts_first : Con := ⟨P_counts_first, R_counts_first, fun x => pre_counts_first x, fun x => s_counts_first x⟩
theorem ok_counts_first : ConOk Try.prog 77 con_counts_first := ⟨k_counts_first, fun x hx => ret_tf (ps := P_counts_first) (rs := R_counts_first) (x := x) (y := s_counts_first x) e_counts_first hC_counts_first (tf_of (w_counts_first_eq x (fun z => z = s_counts_first x)) (d_counts_first x (fun z => z = s_counts_first x) hx rfl))⟩
/- counts_columnErr -/
def C_counts_columnErr : Cons := [(75, [], con_counts_allWithin), (78, [], con_counts_unless), (100, [], con_counts_total), (77, [], con_counts_first)]
theorem hC_counts_columnErr : ConsOk Try.prog C_counts_columnErr := ConsOk.cons ok_counts_allWithin <| ConsOk.cons ok_counts_unless <| ConsOk.cons ok_counts_total <| ConsOk.cons ok_counts_first <| ConsOk.nil
def w_counts_columnErr (p0 : ((Int × (Int × Int)) × ((Int × (Int × Int)) × (Int × (Int × Int))))) (p1 : Int) (K : Int → Prop) : Prop :=
  (∃ n0, (loopP (fun (y1 : (Int × (Int × (Int × Int)))) k2 =>
    ((((decide (y1.1 < (3 : Int))) = true) →
    (((0 : Int) ≤ y1.1) ∧
      ((y1.1 < (3 : Int)) ∧
      (((0 : Int) ≤ p1) ∧
      ((p1 < (3 : Int)) ∧
      (((0 : Int) ≤ y1.1) ∧
      ((y1.1 < (3 : Int)) ∧
      (k2 ((Go.IntKind.wrap .i64 (y1.1 + (1 : Int))), ((cond (decide (y1.1 = (0 : Int))) (List.getD ((List.getD (p0.1.1 :: (p0.2.1.1 :: (p0.2.2.1 :: ([] : List Int)))) (Int.toNat y1.1) (0 : Int)) :: ((List.getD (p0.1.2.1 :: (p0.2.1.2.1 :: (p0.2.2.2.1 :: ([] : List Int)))) (Int.toNat y1.1) (0 : Int)) :: ((List.getD (p0.1.2.2 :: (p0.2.1.2.2 :: (p0.2.2.2.2 :: ([] : List Int)))) (Int.toNat y1.1) (0 : Int)) :: ([] : List Int)))) (Int.toNat p1) (0 : Int)) y1.2.1), ((cond (decide (y1.1 = (1 : Int))) (List.getD ((List.getD (p0.1.1 :: (p0.2.1.1 :: (p0.2.2.1 :: ([] : List Int)))) (Int.toNat y1.1) (0 : Int)) :: ((List.getD (p0.1.2.1 :: (p0.2.1.2.1 :: (p0.2.2.2.1 :: ([] : List Int)))) (Int.toNat y1.1) (0 : Int)) :: ((List.getD (p0.1.2.2 :: (p0.2.1.2.2 :: (p0.2.2.2.2 :: ([] : List Int)))) (Int.toNat y1.1) (0 : Int)) :: ([] : List Int)))) (Int.toNat p1) (0 : Int)) y1.2.2.1), (cond (decide (y1.1 = (2 : Int))) (List.getD ((List.getD (p0.1.1 :: (p0.2.1.1 :: (p0.2.2.1 :: ([] : List Int)))) (Int.toNat y1.1) (0 : Int)) :: ((List.getD (p0.1.2.1 :: (p0.2.1.2.1 :: (p0.2.2.2.1 :: ([] : List Int)))) (Int.toNat y1.1) (0 : Int)) :: ((List.getD (p0.1.2.2 :: (p0.2.1.2.2 :: (p0.2.2.2.2 :: ([] : List Int)))) (Int.toNat y1.1) (0 : Int)) :: ([] : List Int)))) (Int.toNat p1) (0 : Int)) y1.2.2.2)))))))))))) ∧
    (((decide (y1.1 < (3 : Int))) = false) →
    ((lenOk (y1.2.1 :: (y1.2.2.1 :: (y1.2.2.2 :: ([] : List Int))))) ∧
      (((0 : Int) ≤ p1) ∧
      ((p1 < (3 : Int)) ∧
      ((lenOk ((s_counts_unless (decide ((s_counts_allWithin y1.2 (1000 : Int)) < (0 : Int))) (2 : Int)) :: ((s_counts_unless ((s_counts_total (y1.2.1 :: (y1.2.2.1 :: (y1.2.2.2 :: ([] : List Int))))) == (1000 : Int)) (3 : Int)) :: ((s_counts_unless (decide ((List.getD (y1.2.1 :: (y1.2.2.1 :: (y1.2.2.2 :: ([] : List Int)))) (Int.toNat p1) (0 : Int)) ≥ (600 : Int))) (22 : Int)) :: ([] : List Int))))) ∧
      (K (s_counts_first ((s_counts_unless (decide ((s_counts_allWithin y1.2 (1000 : Int)) < (0 : Int))) (2 : Int)) :: ((s_counts_unless ((s_counts_total (y1.2.1 :: (y1.2.2.1 :: (y1.2.2.2 :: ([] : List Int))))) == (1000 : Int)) (3 : Int)) :: ((s_counts_unless (decide ((List.getD (y1.2.1 :: (y1.2.2.1 :: (y1.2.2.2 :: ([] : List Int)))) (Int.toNat p1) (0 : Int)) ≥ (600 : Int))) (22 : Int)) :: ([] : List Int))))))))))))) n0 ((0 : Int), ((0 : Int), ((0 : Int), (0 : Int))))))
set_option maxHeartbeats 4000000 in
theorem w_counts_columnErr_eq (p0 : ((Int × (Int × Int)) × ((Int × (Int × Int)) × (Int × (Int × Int))))) (p1 : Int) (K : Int → Prop) : tfn F_counts_columnErr A_counts_columnErr C_counts_columnErr P_counts_columnErr R_counts_columnErr (p0, p1) K = w_counts_columnErr p0 p1 K := by kernel_rfl
def s_counts_columnErr (p0 : ((Int × (Int × Int)) × ((Int × (Int × Int)) × (Int × (Int × Int))))) (p1 : Int) : Int :=
  (s_counts_first ((s_counts_unless (decide ((s_counts_allWithin ((List.getD (p0.1.1 :: (p0.1.2.1 :: (p0.1.2.2 :: ([] : List Int)))) (Int.toNat p1) (0 : Int)), ((List.getD (p0.2.1.1 :: (p0.2.1.2.1 :: (p0.2.1.2.2 :: ([] : List Int)))) (Int.toNat p1) (0 : Int)), (List.getD (p0.2.2.1 :: (p0.2.2.2.1 :: (p0.2.2.2.2 :: ([] : List Int)))) (Int.toNat p1) (0 : Int)))) (1000 : Int)) < (0 : Int))) (2 : Int)) :: ((s_counts_unless ((s_counts_total ((List.getD (p0.1.1 :: (p0.1.2.1 :: (p0.1.2.2 :: ([] : List Int)))) (Int.toNat p1) (0 : Int)) :: ((List.getD (p0.2.1.1 :: (p0.2.1.2.1 :: (p0.2.1.2.2 :: ([] : List Int)))) (Int.toNat p1) (0 : Int)) :: ((List.getD (p0.2.2.1 :: (p0.2.2.2.1 :: (p0.2.2.2.2 :: ([] : List Int)))) (Int.toNat p1) (0 : Int)) :: ([] : List Int))))) == (1000 : Int)) (3 : Int)) :: ((s_counts_unless (decide ((List.getD ((List.getD (p0.1.1 :: (p0.1.2.1 :: (p0.1.2.2 :: ([] : List Int)))) (Int.toNat p1) (0 : Int)) :: ((List.getD (p0.2.1.1 :: (p0.2.1.2.1 :: (p0.2.1.2.2 :: ([] : List Int)))) (Int.toNat p1) (0 : Int)) :: ((List.getD (p0.2.2.1 :: (p0.2.2.2.1 :: (p0.2.2.2.2 :: ([] : List Int)))) (Int.toNat p1) (0 : Int)) :: ([] : List Int)))) (Int.toNat p1) (0 : Int)) ≥ (600 : Int))) (22 : Int)) :: ([] : List Int)))))
abbrev pre_counts_columnErr (p0 : ((Int × (Int × Int)) × ((Int × (Int × Int)) × (Int × (Int × Int))))) (p1 : Int) : List Prop := [((0 : Int) ≤ p1),
    (p1 < (3 : Int))]
set_option maxHeartbeats 4000000 in
theorem d_counts_columnErr (p0 : ((Int × (Int × Int)) × ((Int × (Int × Int)) × (Int × (Int × Int))))) (p1 : Int) (K : Int → Prop) (hp : ∀ p ∈ pre_counts_columnErr p0 p1, p) (h : K (s_counts_columnErr p0 p1)) : w_counts_columnErr p0 p1 K := by
  unfold w_counts_columnErr
  unfold s_counts_columnErr at h
  obtain ⟨hp0, hp1, _⟩ := conj_of hp
  exact ⟨31, ⟨fun _ => ⟨(of_decide_eq_true rfl), ⟨(of_decide_eq_true rfl), ⟨(hp0), ⟨(hp1), ⟨(of_decide_eq_true rfl), ⟨(of_decide_eq_true rfl), ⟨fun _ => ⟨(of_decide_eq_true rfl), ⟨(of_decide_eq_true rfl), ⟨(hp0), ⟨(hp1), ⟨(of_decide_eq_true rfl), ⟨(of_decide_eq_true rfl), ⟨fun _ => ⟨(of_decide_eq_true rfl), ⟨(of_decide_eq_true rfl), ⟨(hp0), ⟨(hp1), ⟨(of_decide_eq_true rfl), ⟨(of_decide_eq_true rfl), ⟨fun e => Bool.noConfusion (show false = true from e), fun _ => ⟨(lenOk_of 3 rfl (by decide)), ⟨(hp0), ⟨(hp1), ⟨(lenOk_of 3 rfl (by decide)), h⟩⟩⟩⟩⟩⟩⟩⟩⟩⟩⟩, fun e => Bool.noConfusion (show true = false from e)⟩⟩⟩⟩⟩⟩⟩, fun e => Bool.noConfusion (show true = false from e)⟩⟩⟩⟩⟩⟩⟩, fun e => Bool.noConfusion (show true = false from e)⟩⟩
abbrev con_counts_columnErr : Con := ⟨P_counts_columnErr, R_counts_columnErr, fun x => pre_counts_columnErr x.1 x.2, fun x => s_counts_columnErr x.1 x.2⟩
theorem ok_counts_columnErr : ConOk Try.prog 76 con_counts_columnErr := ⟨k_counts_columnErr, fun x hx => ret_tf (ps := P_counts_columnErr) (rs := R_counts_columnErr) (x := x) (y := s_counts_columnErr x.1 x.2) e_counts_columnErr hC_counts_columnErr (tf_of (w_counts_columnErr_eq x.1 x.2 (fun z => z = s_counts_columnErr x.1 x.2)) (d_counts_columnErr x.1 x.2 (fun z => z = s_counts_columnErr x.1 x.2) hx rfl))⟩
/- counts_CheckRules -/
def C_counts_CheckRules : Cons := [(74, [], con_counts_within), (75, [], con_counts_allWithin), (76, [], con_counts_columnErr), (78, [], con_counts_unless), (77, [], con_counts_first)]
theorem hC_counts_CheckRules : ConsOk Try.prog C_counts_CheckRules := ConsOk.cons ok_counts_within <| ConsOk.cons ok_counts_allWithin <| ConsOk.cons ok_counts_columnErr <| ConsOk.cons ok_counts_unless <| ConsOk.cons ok_counts_first <| ConsOk.nil
def w_counts_CheckRules (p0 : (Int × (Int × ((Int × (Int × Int)) × ((Int × (Int × Int)) × (Int × (Int × ((Int × (Int × Int)) × (((Int × (Int × Int)) × ((Int × (Int × Int)) × (Int × (Int × Int)))) × (List (Int × Int))))))))))) (K : (Int × Int) → Prop) : Prop :=
  ((((!(s_counts_within p0.1 (1 : Int) (1000000 : Int))) = false) →
  ((!(s_counts_within p0.1 (1 : Int) (1000000 : Int))) = (!(s_counts_within p0.1 (1 : Int) (1000000 : Int))))) ∧
  ((((!(s_counts_within p0.1 (1 : Int) (1000000 : Int))) = false) →
  ((!(s_counts_within p0.1 (1 : Int) (1000000 : Int))) = (!(s_counts_within p0.1 (1 : Int) (1000000 : Int))))) ∧
  ((((!(s_counts_within p0.1 (1 : Int) (1000000 : Int))) = false) →
  ((!(s_counts_within p0.1 (1 : Int) (1000000 : Int))) = (!(s_counts_within p0.1 (1 : Int) (1000000 : Int))))) ∧
  (((!(s_counts_within p0.1 (1 : Int) (1000000 : Int))) = (!(s_counts_within p0.1 (1 : Int) (1000000 : Int)))) ∧
  ((((cond (!(s_counts_within p0.1 (1 : Int) (1000000 : Int))) true (!(s_counts_within p0.2.1 (0 : Int) (100 : Int)))) = true) →
  (K ((0 : Int), (2 : Int)))) ∧
  (((cond (!(s_counts_within p0.1 (1 : Int) (1000000 : Int))) true (!(s_counts_within p0.2.1 (0 : Int) (100 : Int)))) = false) →
  (∃ n0, (loopP (fun (y1 : Int) k2 =>
      ((((decide (y1 < (3 : Int))) = true) →
      (((0 : Int) ≤ y1) ∧
        ((y1 < (3 : Int)) ∧
        ((((!(s_counts_within (List.getD (p0.2.2.1.1 :: (p0.2.2.1.2.1 :: (p0.2.2.1.2.2 :: ([] : List Int)))) (Int.toNat y1) (0 : Int)) (0 : Int) (1000000 : Int))) = false) →
        ((!(s_counts_within (List.getD (p0.2.2.1.1 :: (p0.2.2.1.2.1 :: (p0.2.2.1.2.2 :: ([] : List Int)))) (Int.toNat y1) (0 : Int)) (0 : Int) (1000000 : Int))) = (!(s_counts_within (List.getD (p0.2.2.1.1 :: (p0.2.2.1.2.1 :: (p0.2.2.1.2.2 :: ([] : List Int)))) (Int.toNat y1) (0 : Int)) (0 : Int) (1000000 : Int))))) ∧
        ((((!(s_counts_within (List.getD (p0.2.2.1.1 :: (p0.2.2.1.2.1 :: (p0.2.2.1.2.2 :: ([] : List Int)))) (Int.toNat y1) (0 : Int)) (0 : Int) (1000000 : Int))) = false) →
        ((!(s_counts_within (List.getD (p0.2.2.1.1 :: (p0.2.2.1.2.1 :: (p0.2.2.1.2.2 :: ([] : List Int)))) (Int.toNat y1) (0 : Int)) (0 : Int) (1000000 : Int))) = (!(s_counts_within (List.getD (p0.2.2.1.1 :: (p0.2.2.1.2.1 :: (p0.2.2.1.2.2 :: ([] : List Int)))) (Int.toNat y1) (0 : Int)) (0 : Int) (1000000 : Int))))) ∧
        ((((!(s_counts_within (List.getD (p0.2.2.1.1 :: (p0.2.2.1.2.1 :: (p0.2.2.1.2.2 :: ([] : List Int)))) (Int.toNat y1) (0 : Int)) (0 : Int) (1000000 : Int))) = false) →
        ((0 : Int) ≤ y1)) ∧
        ((((!(s_counts_within (List.getD (p0.2.2.1.1 :: (p0.2.2.1.2.1 :: (p0.2.2.1.2.2 :: ([] : List Int)))) (Int.toNat y1) (0 : Int)) (0 : Int) (1000000 : Int))) = false) →
        (y1 < (3 : Int))) ∧
        ((((!(s_counts_within (List.getD (p0.2.2.1.1 :: (p0.2.2.1.2.1 :: (p0.2.2.1.2.2 :: ([] : List Int)))) (Int.toNat y1) (0 : Int)) (0 : Int) (1000000 : Int))) = false) →
        ((!(s_counts_within (List.getD (p0.2.2.1.1 :: (p0.2.2.1.2.1 :: (p0.2.2.1.2.2 :: ([] : List Int)))) (Int.toNat y1) (0 : Int)) (0 : Int) (1000000 : Int))) = (!(s_counts_within (List.getD (p0.2.2.1.1 :: (p0.2.2.1.2.1 :: (p0.2.2.1.2.2 :: ([] : List Int)))) (Int.toNat y1) (0 : Int)) (0 : Int) (1000000 : Int))))) ∧
        ((((!(s_counts_within (List.getD (p0.2.2.1.1 :: (p0.2.2.1.2.1 :: (p0.2.2.1.2.2 :: ([] : List Int)))) (Int.toNat y1) (0 : Int)) (0 : Int) (1000000 : Int))) = false) →
        ((!(s_counts_within (List.getD (p0.2.2.1.1 :: (p0.2.2.1.2.1 :: (p0.2.2.1.2.2 :: ([] : List Int)))) (Int.toNat y1) (0 : Int)) (0 : Int) (1000000 : Int))) = (!(s_counts_within (List.getD (p0.2.2.1.1 :: (p0.2.2.1.2.1 :: (p0.2.2.1.2.2 :: ([] : List Int)))) (Int.toNat y1) (0 : Int)) (0 : Int) (1000000 : Int))))) ∧
        ((((!(s_counts_within (List.getD (p0.2.2.1.1 :: (p0.2.2.1.2.1 :: (p0.2.2.1.2.2 :: ([] : List Int)))) (Int.toNat y1) (0 : Int)) (0 : Int) (1000000 : Int))) = false) →
        ((!(s_counts_within (List.getD (p0.2.2.1.1 :: (p0.2.2.1.2.1 :: (p0.2.2.1.2.2 :: ([] : List Int)))) (Int.toNat y1) (0 : Int)) (0 : Int) (1000000 : Int))) = (!(s_counts_within (List.getD (p0.2.2.1.1 :: (p0.2.2.1.2.1 :: (p0.2.2.1.2.2 :: ([] : List Int)))) (Int.toNat y1) (0 : Int)) (0 : Int) (1000000 : Int))))) ∧
        (((!(s_counts_within (List.getD (p0.2.2.1.1 :: (p0.2.2.1.2.1 :: (p0.2.2.1.2.2 :: ([] : List Int)))) (Int.toNat y1) (0 : Int)) (0 : Int) (1000000 : Int))) = (!(s_counts_within (List.getD (p0.2.2.1.1 :: (p0.2.2.1.2.1 :: (p0.2.2.1.2.2 :: ([] : List Int)))) (Int.toNat y1) (0 : Int)) (0 : Int) (1000000 : Int)))) ∧
        ((((cond (!(s_counts_within (List.getD (p0.2.2.1.1 :: (p0.2.2.1.2.1 :: (p0.2.2.1.2.2 :: ([] : List Int)))) (Int.toNat y1) (0 : Int)) (0 : Int) (1000000 : Int))) true (!(s_counts_within (List.getD (p0.2.2.2.1.1 :: (p0.2.2.2.1.2.1 :: (p0.2.2.2.1.2.2 :: ([] : List Int)))) (Int.toNat y1) (0 : Int)) (0 : Int) (1000 : Int)))) = true) →
        (K (y1, (2 : Int)))) ∧
        (((cond (!(s_counts_within (List.getD (p0.2.2.1.1 :: (p0.2.2.1.2.1 :: (p0.2.2.1.2.2 :: ([] : List Int)))) (Int.toNat y1) (0 : Int)) (0 : Int) (1000000 : Int))) true (!(s_counts_within (List.getD (p0.2.2.2.1.1 :: (p0.2.2.2.1.2.1 :: (p0.2.2.2.1.2.2 :: ([] : List Int)))) (Int.toNat y1) (0 : Int)) (0 : Int) (1000 : Int)))) = false) →
        (k2 (Go.IntKind.wrap .i64 (y1 + (1 : Int))))))))))))))))) ∧
      (((decide (y1 < (3 : Int))) = false) →
      ((((!(s_counts_within p0.2.2.2.2.1 (0 : Int) (200 : Int))) = false) →
        ((!(s_counts_within p0.2.2.2.2.1 (0 : Int) (200 : Int))) = (!(s_counts_within p0.2.2.2.2.1 (0 : Int) (200 : Int))))) ∧
        ((((!(s_counts_within p0.2.2.2.2.1 (0 : Int) (200 : Int))) = false) →
        ((!(s_counts_within p0.2.2.2.2.1 (0 : Int) (200 : Int))) = (!(s_counts_within p0.2.2.2.2.1 (0 : Int) (200 : Int))))) ∧
        ((((!(s_counts_within p0.2.2.2.2.1 (0 : Int) (200 : Int))) = false) →
        ((!(s_counts_within p0.2.2.2.2.1 (0 : Int) (200 : Int))) = (!(s_counts_within p0.2.2.2.2.1 (0 : Int) (200 : Int))))) ∧
        ((((!(s_counts_within p0.2.2.2.2.1 (0 : Int) (200 : Int))) = false) →
        ((!(s_counts_within p0.2.2.2.2.1 (0 : Int) (200 : Int))) = (!(s_counts_within p0.2.2.2.2.1 (0 : Int) (200 : Int))))) ∧
        ((((!(s_counts_within p0.2.2.2.2.1 (0 : Int) (200 : Int))) = false) →
        ((!(s_counts_within p0.2.2.2.2.1 (0 : Int) (200 : Int))) = (!(s_counts_within p0.2.2.2.2.1 (0 : Int) (200 : Int))))) ∧
        ((((!(s_counts_within p0.2.2.2.2.1 (0 : Int) (200 : Int))) = false) →
        ((!(s_counts_within p0.2.2.2.2.1 (0 : Int) (200 : Int))) = (!(s_counts_within p0.2.2.2.2.1 (0 : Int) (200 : Int))))) ∧
        (((!(s_counts_within p0.2.2.2.2.1 (0 : Int) (200 : Int))) = (!(s_counts_within p0.2.2.2.2.1 (0 : Int) (200 : Int)))) ∧
        ((((cond (!(s_counts_within p0.2.2.2.2.1 (0 : Int) (200 : Int))) true (!(s_counts_within p0.2.2.2.2.2.1 (Go.IntKind.wrap .i64 (p0.2.2.2.2.1 + (200 : Int))) (1000 : Int)))) = true) →
        (K ((0 : Int), (2 : Int)))) ∧
        (((cond (!(s_counts_within p0.2.2.2.2.1 (0 : Int) (200 : Int))) true (!(s_counts_within p0.2.2.2.2.2.1 (Go.IntKind.wrap .i64 (p0.2.2.2.2.1 + (200 : Int))) (1000 : Int)))) = false) →
        ((((decide ((s_counts_allWithin p0.2.2.2.2.2.2.1 (1000 : Int)) ≥ (0 : Int))) = true) →
          (K ((s_counts_allWithin p0.2.2.2.2.2.2.1 (1000 : Int)), (2 : Int)))) ∧
          (((decide ((s_counts_allWithin p0.2.2.2.2.2.2.1 (1000 : Int)) ≥ (0 : Int))) = false) →
          ((((p0.2.2.2.2.2.2.1.2.1 != (1000 : Int)) = true) →
            (K ((1 : Int), (3 : Int)))) ∧
            (((p0.2.2.2.2.2.2.1.2.1 != (1000 : Int)) = false) →
            (∃ n3, (loopP (fun (y4 : Int) k5 =>
                ((((decide (y4 < (3 : Int))) = true) →
                (((0 : Int) ≤ y4) ∧
                  ((y4 < (3 : Int)) ∧
                  (((((s_counts_columnErr p0.2.2.2.2.2.2.2.1 y4) != (0 : Int)) = true) →
                  (K (y4, (s_counts_columnErr p0.2.2.2.2.2.2.2.1 y4)))) ∧
                  ((((s_counts_columnErr p0.2.2.2.2.2.2.2.1 y4) != (0 : Int)) = false) →
                  (k5 (Go.IntKind.wrap .i64 (y4 + (1 : Int))))))))) ∧
                (((decide (y4 < (3 : Int))) = false) →
                ((lenOk ((s_counts_unless (decide ((((List.length p0.2.2.2.2.2.2.2.2) : Nat) : Int) ≥ (2 : Int))) (10 : Int)) :: ((s_counts_unless (decide ((((List.length p0.2.2.2.2.2.2.2.2) : Nat) : Int) ≤ (8 : Int))) (8 : Int)) :: ([] : List Int)))) ∧
                  (((((s_counts_first ((s_counts_unless (decide ((((List.length p0.2.2.2.2.2.2.2.2) : Nat) : Int) ≥ (2 : Int))) (10 : Int)) :: ((s_counts_unless (decide ((((List.length p0.2.2.2.2.2.2.2.2) : Nat) : Int) ≤ (8 : Int))) (8 : Int)) :: ([] : List Int)))) != (0 : Int)) = true) →
                  (K ((0 : Int), (s_counts_first ((s_counts_unless (decide ((((List.length p0.2.2.2.2.2.2.2.2) : Nat) : Int) ≥ (2 : Int))) (10 : Int)) :: ((s_counts_unless (decide ((((List.length p0.2.2.2.2.2.2.2.2) : Nat) : Int) ≤ (8 : Int))) (8 : Int)) :: ([] : List Int))))))) ∧
                  ((((s_counts_first ((s_counts_unless (decide ((((List.length p0.2.2.2.2.2.2.2.2) : Nat) : Int) ≥ (2 : Int))) (10 : Int)) :: ((s_counts_unless (decide ((((List.length p0.2.2.2.2.2.2.2.2) : Nat) : Int) ≤ (8 : Int))) (8 : Int)) :: ([] : List Int)))) != (0 : Int)) = false) →
                  (∃ n6, (loopP (fun (y7 : (Int × Int)) k8 =>
                      ((((decide (y7.1 < (((List.length p0.2.2.2.2.2.2.2.2) : Nat) : Int))) = true) →
                      (((0 : Int) ≤ y7.1) ∧
                        ((y7.1 < (((List.length p0.2.2.2.2.2.2.2.2) : Nat) : Int)) ∧
                        ((((s_counts_within (List.getD p0.2.2.2.2.2.2.2.2 (Int.toNat y7.1) ((0 : Int), (0 : Int))).1 (0 : Int) (1000 : Int)) = true) →
                        ((s_counts_within (List.getD p0.2.2.2.2.2.2.2.2 (Int.toNat y7.1) ((0 : Int), (0 : Int))).1 (0 : Int) (1000 : Int)) = (s_counts_within (List.getD p0.2.2.2.2.2.2.2.2 (Int.toNat y7.1) ((0 : Int), (0 : Int))).1 (0 : Int) (1000 : Int)))) ∧
                        ((((s_counts_within (List.getD p0.2.2.2.2.2.2.2.2 (Int.toNat y7.1) ((0 : Int), (0 : Int))).1 (0 : Int) (1000 : Int)) = true) →
                        ((s_counts_within (List.getD p0.2.2.2.2.2.2.2.2 (Int.toNat y7.1) ((0 : Int), (0 : Int))).1 (0 : Int) (1000 : Int)) = (s_counts_within (List.getD p0.2.2.2.2.2.2.2.2 (Int.toNat y7.1) ((0 : Int), (0 : Int))).1 (0 : Int) (1000 : Int)))) ∧
                        (((s_counts_within (List.getD p0.2.2.2.2.2.2.2.2 (Int.toNat y7.1) ((0 : Int), (0 : Int))).1 (0 : Int) (1000 : Int)) = (s_counts_within (List.getD p0.2.2.2.2.2.2.2.2 (Int.toNat y7.1) ((0 : Int), (0 : Int))).1 (0 : Int) (1000 : Int))) ∧
                        ((lenOk ((s_counts_unless (cond (s_counts_within (List.getD p0.2.2.2.2.2.2.2.2 (Int.toNat y7.1) ((0 : Int), (0 : Int))).1 (0 : Int) (1000 : Int)) (s_counts_within (List.getD p0.2.2.2.2.2.2.2.2 (Int.toNat y7.1) ((0 : Int), (0 : Int))).2 (1 : Int) (10000 : Int)) false) (2 : Int)) :: ((s_counts_unless (decide ((List.getD p0.2.2.2.2.2.2.2.2 (Int.toNat y7.1) ((0 : Int), (0 : Int))).1 > y7.2)) (9 : Int)) :: ([] : List Int)))) ∧
                        (((((s_counts_first ((s_counts_unless (cond (s_counts_within (List.getD p0.2.2.2.2.2.2.2.2 (Int.toNat y7.1) ((0 : Int), (0 : Int))).1 (0 : Int) (1000 : Int)) (s_counts_within (List.getD p0.2.2.2.2.2.2.2.2 (Int.toNat y7.1) ((0 : Int), (0 : Int))).2 (1 : Int) (10000 : Int)) false) (2 : Int)) :: ((s_counts_unless (decide ((List.getD p0.2.2.2.2.2.2.2.2 (Int.toNat y7.1) ((0 : Int), (0 : Int))).1 > y7.2)) (9 : Int)) :: ([] : List Int)))) != (0 : Int)) = true) →
                        (K (y7.1, (s_counts_first ((s_counts_unless (cond (s_counts_within (List.getD p0.2.2.2.2.2.2.2.2 (Int.toNat y7.1) ((0 : Int), (0 : Int))).1 (0 : Int) (1000 : Int)) (s_counts_within (List.getD p0.2.2.2.2.2.2.2.2 (Int.toNat y7.1) ((0 : Int), (0 : Int))).2 (1 : Int) (10000 : Int)) false) (2 : Int)) :: ((s_counts_unless (decide ((List.getD p0.2.2.2.2.2.2.2.2 (Int.toNat y7.1) ((0 : Int), (0 : Int))).1 > y7.2)) (9 : Int)) :: ([] : List Int))))))) ∧
                        ((((s_counts_first ((s_counts_unless (cond (s_counts_within (List.getD p0.2.2.2.2.2.2.2.2 (Int.toNat y7.1) ((0 : Int), (0 : Int))).1 (0 : Int) (1000 : Int)) (s_counts_within (List.getD p0.2.2.2.2.2.2.2.2 (Int.toNat y7.1) ((0 : Int), (0 : Int))).2 (1 : Int) (10000 : Int)) false) (2 : Int)) :: ((s_counts_unless (decide ((List.getD p0.2.2.2.2.2.2.2.2 (Int.toNat y7.1) ((0 : Int), (0 : Int))).1 > y7.2)) (9 : Int)) :: ([] : List Int)))) != (0 : Int)) = false) →
                        (k8 ((Go.IntKind.wrap .i64 (y7.1 + (1 : Int))), (List.getD p0.2.2.2.2.2.2.2.2 (Int.toNat y7.1) ((0 : Int), (0 : Int))).1))))))))))) ∧
                      (((decide (y7.1 < (((List.length p0.2.2.2.2.2.2.2.2) : Nat) : Int))) = false) →
                      (K ((0 : Int), (0 : Int)))))) n6 ((0 : Int), (-1 : Int)))))))))) n3 (0 : Int))))))))))))))))))) n0 (0 : Int)))))))))
set_option maxHeartbeats 4000000 in
theorem w_counts_CheckRules_eq (p0 : (Int × (Int × ((Int × (Int × Int)) × ((Int × (Int × Int)) × (Int × (Int × ((Int × (Int × Int)) × (((Int × (Int × Int)) × ((Int × (Int × Int)) × (Int × (Int × Int)))) × (List (Int × Int))))))))))) (K : (Int × Int) → Prop) : tfn F_counts_CheckRules A_counts_CheckRules C_counts_CheckRules P_counts_CheckRules R_counts_CheckRules p0 K = w_counts_CheckRules p0 K := by kernel_rfl
def b_counts_CheckRules_0 (p0 : (Int × (Int × ((Int × (Int × Int)) × ((Int × (Int × Int)) × (Int × (Int × ((Int × (Int × Int)) × (((Int × (Int × Int)) × ((Int × (Int × Int)) × (Int × (Int × Int)))) × (List (Int × Int))))))))))) (K : (Int × Int) → Prop) (y : (Int × Int)) (k : (Int × Int) → Prop) : Prop :=
  (((decide (y.1 < (((List.length p0.2.2.2.2.2.2.2.2) : Nat) : Int))) = true →
    (((0 : Int) ≤ y.1) ∧
    ((y.1 < (((List.length p0.2.2.2.2.2.2.2.2) : Nat) : Int)) ∧
    ((((s_counts_first ((s_counts_unless (cond (s_counts_within (List.getD p0.2.2.2.2.2.2.2.2 (Int.toNat y.1) ((0 : Int), (0 : Int))).1 (0 : Int) (1000 : Int)) (s_counts_within (List.getD p0.2.2.2.2.2.2.2.2 (Int.toNat y.1) ((0 : Int), (0 : Int))).2 (1 : Int) (10000 : Int)) false) (2 : Int)) :: ((s_counts_unless (decide ((List.getD p0.2.2.2.2.2.2.2.2 (Int.toNat y.1) ((0 : Int), (0 : Int))).1 > y.2)) (9 : Int)) :: ([] : List Int)))) != (0 : Int)) = true →
      (K (y.1, (s_counts_first ((s_counts_unless (cond (s_counts_within (List.getD p0.2.2.2.2.2.2.2.2 (Int.toNat y.1) ((0 : Int), (0 : Int))).1 (0 : Int) (1000 : Int)) (s_counts_within (List.getD p0.2.2.2.2.2.2.2.2 (Int.toNat y.1) ((0 : Int), (0 : Int))).2 (1 : Int) (10000 : Int)) false) (2 : Int)) :: ((s_counts_unless (decide ((List.getD p0.2.2.2.2.2.2.2.2 (Int.toNat y.1) ((0 : Int), (0 : Int))).1 > y.2)) (9 : Int)) :: ([] : List Int))))))) ∧
    (((s_counts_first ((s_counts_unless (cond (s_counts_within (List.getD p0.2.2.2.2.2.2.2.2 (Int.toNat y.1) ((0 : Int), (0 : Int))).1 (0 : Int) (1000 : Int)) (s_counts_within (List.getD p0.2.2.2.2.2.2.2.2 (Int.toNat y.1) ((0 : Int), (0 : Int))).2 (1 : Int) (10000 : Int)) false) (2 : Int)) :: ((s_counts_unless (decide ((List.getD p0.2.2.2.2.2.2.2.2 (Int.toNat y.1) ((0 : Int), (0 : Int))).1 > y.2)) (9 : Int)) :: ([] : List Int)))) != (0 : Int)) = false →
      (k ((Go.IntKind.wrap .i64 (y.1 + (1 : Int))), (List.getD p0.2.2.2.2.2.2.2.2 (Int.toNat y.1) ((0 : Int), (0 : Int))).1))))))) ∧
  ((decide (y.1 < (((List.length p0.2.2.2.2.2.2.2.2) : Nat) : Int))) = false →
    (K ((0 : Int), (0 : Int)))))
/-- The error of a knot behind another one. -/
def sp_knErr (last : Int) (x : Int × Int) : Int :=
  s_counts_first (s_counts_unless (cond (s_counts_within x.1 0 1000) (s_counts_within x.2 1 10000) false) 2 :: s_counts_unless (decide (x.1 > last)) 9 :: [])
/-- The first invalid knot. -/
def sp_kn (i last : Int) : List (Int × Int) → Int × Int
  | [] => (0, 0)
  | x :: r => cond (sp_knErr last x != 0) (i, sp_knErr last x) (sp_kn (i + 1) x.1 r)
def lp_counts_CheckRules_0 (p0 : CR) (x : Int × Int) : Int × Int := sp_kn 0 x.2 p0.hs
abbrev lpre_counts_CheckRules_0 (p0 : CR) (x : Int × Int) : Prop := lenOk p0.hs ∧ x.1 = 0
theorem lk_counts_CheckRules_0 (p0 : CR) (x : Int × Int) (K : Int × Int → Prop) (hp : lpre_counts_CheckRules_0 p0 x) (h : K (lp_counts_CheckRules_0 p0 x)) : ∃ n, loopP (b_counts_CheckRules_0 p0 K) n x := by
  obtain ⟨x1, x2⟩ := x
  obtain ⟨hl, hx⟩ := hp
  simp only at hx
  subst hx
  generalize hlist : p0.hs = l at *
  have e0 : p0.2.2.2.2.2.2.2.2 = l := hlist
  refine loop_list (fun i t => (i, t)) l (0, 0) (fun t r => K (sp_kn ((l.length : Int) - r.length) t r)) ?_ ?_ x2 (by simpa [lp_counts_CheckRules_0, hlist] using h)
  · intro t k hI
    unfold b_counts_CheckRules_0
    rw [e0]
    simpa [sp_kn] using hI
  · intro j t k hj hI hk
    have hj' : (j : Int) < l.length := by omega
    have e1 : (l.length : Int) - ((l.getD j (0, 0) :: l.drop (j + 1)).length : Int) = j := by simp; omega
    have e2 : (l.length : Int) - ((l.drop (j + 1)).length : Int) = (j : Int) + 1 := by simp; omega
    rw [e1] at hI
    rw [e2] at hk
    unfold b_counts_CheckRules_0
    rw [e0]
    simp only [wrap_nat (show (j : Int) ≤ 9223372036854775806 by omega), hj', decide_true, Int.toNat_natCast, forall_const, Bool.true_eq_false, false_imp_iff, and_true]
    refine ⟨by omega, trivial, fun hx => ?_, fun hx => hk _ ?_⟩
    · have hx' : (sp_knErr t (l.getD j (0, 0)) != 0) = true := hx
      simp only [sp_kn, hx', cond_true] at hI
      exact hI
    · have hx' : (sp_knErr t (l.getD j (0, 0)) != 0) = false := hx
      simp only [sp_kn, hx', cond_false] at hI
      exact hI

def s_counts_CheckRules (p0 : (Int × (Int × ((Int × (Int × Int)) × ((Int × (Int × Int)) × (Int × (Int × ((Int × (Int × Int)) × (((Int × (Int × Int)) × ((Int × (Int × Int)) × (Int × (Int × Int)))) × (List (Int × Int))))))))))) : (Int × Int) :=
  (cond (cond (!(s_counts_within p0.1 (1 : Int) (1000000 : Int))) true (!(s_counts_within p0.2.1 (0 : Int) (100 : Int)))) ((0 : Int), (2 : Int))
    (cond (cond (!(s_counts_within p0.2.2.1.1 (0 : Int) (1000000 : Int))) true (!(s_counts_within p0.2.2.2.1.1 (0 : Int) (1000 : Int)))) ((0 : Int), (2 : Int))
    (cond (cond (!(s_counts_within p0.2.2.1.2.1 (0 : Int) (1000000 : Int))) true (!(s_counts_within p0.2.2.2.1.2.1 (0 : Int) (1000 : Int)))) ((1 : Int), (2 : Int))
    (cond (cond (!(s_counts_within p0.2.2.1.2.2 (0 : Int) (1000000 : Int))) true (!(s_counts_within p0.2.2.2.1.2.2 (0 : Int) (1000 : Int)))) ((2 : Int), (2 : Int))
    (cond (cond (!(s_counts_within p0.2.2.2.2.1 (0 : Int) (200 : Int))) true (!(s_counts_within p0.2.2.2.2.2.1 (Go.IntKind.wrap .i64 (p0.2.2.2.2.1 + (200 : Int))) (1000 : Int)))) ((0 : Int), (2 : Int))
    (cond (decide ((s_counts_allWithin p0.2.2.2.2.2.2.1 (1000 : Int)) ≥ (0 : Int))) ((s_counts_allWithin p0.2.2.2.2.2.2.1 (1000 : Int)), (2 : Int))
    (cond (p0.2.2.2.2.2.2.1.2.1 != (1000 : Int)) ((1 : Int), (3 : Int))
    (cond ((s_counts_columnErr p0.2.2.2.2.2.2.2.1 (0 : Int)) != (0 : Int)) ((0 : Int), (s_counts_columnErr p0.2.2.2.2.2.2.2.1 (0 : Int)))
    (cond ((s_counts_columnErr p0.2.2.2.2.2.2.2.1 (1 : Int)) != (0 : Int)) ((1 : Int), (s_counts_columnErr p0.2.2.2.2.2.2.2.1 (1 : Int)))
    (cond ((s_counts_columnErr p0.2.2.2.2.2.2.2.1 (2 : Int)) != (0 : Int)) ((2 : Int), (s_counts_columnErr p0.2.2.2.2.2.2.2.1 (2 : Int)))
    (cond ((s_counts_first ((s_counts_unless (decide ((((List.length p0.2.2.2.2.2.2.2.2) : Nat) : Int) ≥ (2 : Int))) (10 : Int)) :: ((s_counts_unless (decide ((((List.length p0.2.2.2.2.2.2.2.2) : Nat) : Int) ≤ (8 : Int))) (8 : Int)) :: ([] : List Int)))) != (0 : Int)) ((0 : Int), (s_counts_first ((s_counts_unless (decide ((((List.length p0.2.2.2.2.2.2.2.2) : Nat) : Int) ≥ (2 : Int))) (10 : Int)) :: ((s_counts_unless (decide ((((List.length p0.2.2.2.2.2.2.2.2) : Nat) : Int) ≤ (8 : Int))) (8 : Int)) :: ([] : List Int)))))
    (lp_counts_CheckRules_0 p0 ((0 : Int), (-1 : Int))))))))))))))
abbrev pre_counts_CheckRules (p0 : (Int × (Int × ((Int × (Int × Int)) × ((Int × (Int × Int)) × (Int × (Int × ((Int × (Int × Int)) × (((Int × (Int × Int)) × ((Int × (Int × Int)) × (Int × (Int × Int)))) × (List (Int × Int))))))))))) : List Prop := [(((cond (!(s_counts_within p0.1 (1 : Int) (1000000 : Int))) true (!(s_counts_within p0.2.1 (0 : Int) (100 : Int)))) = false) → (((cond (!(s_counts_within p0.2.2.1.1 (0 : Int) (1000000 : Int))) true (!(s_counts_within p0.2.2.2.1.1 (0 : Int) (1000 : Int)))) = false) → (((cond (!(s_counts_within p0.2.2.1.2.1 (0 : Int) (1000000 : Int))) true (!(s_counts_within p0.2.2.2.1.2.1 (0 : Int) (1000 : Int)))) = false) → (((cond (!(s_counts_within p0.2.2.1.2.2 (0 : Int) (1000000 : Int))) true (!(s_counts_within p0.2.2.2.1.2.2 (0 : Int) (1000 : Int)))) = false) → (((cond (!(s_counts_within p0.2.2.2.2.1 (0 : Int) (200 : Int))) true (!(s_counts_within p0.2.2.2.2.2.1 (Go.IntKind.wrap .i64 (p0.2.2.2.2.1 + (200 : Int))) (1000 : Int)))) = false) → (((decide ((s_counts_allWithin p0.2.2.2.2.2.2.1 (1000 : Int)) ≥ (0 : Int))) = false) → (((p0.2.2.2.2.2.2.1.2.1 != (1000 : Int)) = false) → ((((s_counts_columnErr p0.2.2.2.2.2.2.2.1 (0 : Int)) != (0 : Int)) = false) → ((((s_counts_columnErr p0.2.2.2.2.2.2.2.1 (1 : Int)) != (0 : Int)) = false) → ((((s_counts_columnErr p0.2.2.2.2.2.2.2.1 (2 : Int)) != (0 : Int)) = false) → ((((s_counts_first ((s_counts_unless (decide ((((List.length p0.2.2.2.2.2.2.2.2) : Nat) : Int) ≥ (2 : Int))) (10 : Int)) :: ((s_counts_unless (decide ((((List.length p0.2.2.2.2.2.2.2.2) : Nat) : Int) ≤ (8 : Int))) (8 : Int)) :: ([] : List Int)))) != (0 : Int)) = false) → (lpre_counts_CheckRules_0 p0 ((0 : Int), (-1 : Int))))))))))))))]
set_option maxHeartbeats 4000000 in
theorem d_counts_CheckRules (p0 : (Int × (Int × ((Int × (Int × Int)) × ((Int × (Int × Int)) × (Int × (Int × ((Int × (Int × Int)) × (((Int × (Int × Int)) × ((Int × (Int × Int)) × (Int × (Int × Int)))) × (List (Int × Int))))))))))) (K : (Int × Int) → Prop) (hp : ∀ p ∈ pre_counts_CheckRules p0, p) (h : K (s_counts_CheckRules p0)) : w_counts_CheckRules p0 K := by
  unfold w_counts_CheckRules
  unfold s_counts_CheckRules at h
  obtain ⟨hp0, _⟩ := conj_of hp
  exact ⟨(fun _ => rfl), ⟨(fun _ => rfl), ⟨(fun _ => rfl), ⟨rfl, (br' h (fun e0 h => h)
    (fun e0 h => ⟨31, ⟨fun _ => ⟨(of_decide_eq_true rfl), ⟨(of_decide_eq_true rfl), ⟨(fun _ => rfl), ⟨(fun _ => rfl), ⟨(fun _ => (of_decide_eq_true rfl)), ⟨(fun _ => (of_decide_eq_true rfl)), ⟨(fun _ => rfl), ⟨(fun _ => rfl), ⟨(fun _ => rfl), ⟨rfl, (br' h (fun e1 h => h)
    (fun e1 h => ⟨fun _ => ⟨(of_decide_eq_true rfl), ⟨(of_decide_eq_true rfl), ⟨(fun _ => rfl), ⟨(fun _ => rfl), ⟨(fun _ => (of_decide_eq_true rfl)), ⟨(fun _ => (of_decide_eq_true rfl)), ⟨(fun _ => rfl), ⟨(fun _ => rfl), ⟨(fun _ => rfl), ⟨rfl, (br' h (fun e2 h => h)
    (fun e2 h => ⟨fun _ => ⟨(of_decide_eq_true rfl), ⟨(of_decide_eq_true rfl), ⟨(fun _ => rfl), ⟨(fun _ => rfl), ⟨(fun _ => (of_decide_eq_true rfl)), ⟨(fun _ => (of_decide_eq_true rfl)), ⟨(fun _ => rfl), ⟨(fun _ => rfl), ⟨(fun _ => rfl), ⟨rfl, (br' h (fun e3 h => h)
    (fun e3 h => ⟨fun e => Bool.noConfusion (show false = true from e), fun _ => ⟨(fun _ => rfl), ⟨(fun _ => rfl), ⟨(fun _ => rfl), ⟨(fun _ => rfl), ⟨(fun _ => rfl), ⟨(fun _ => rfl), ⟨rfl, (br' h (fun e4 h => h)
    (fun e4 h => (br' h (fun e5 h => h)
    (fun e5 h => (br' h (fun e6 h => h)
    (fun e6 h => ⟨31, ⟨fun _ => ⟨(of_decide_eq_true rfl), ⟨(of_decide_eq_true rfl), (br' h (fun e7 h => h)
    (fun e7 h => ⟨fun _ => ⟨(of_decide_eq_true rfl), ⟨(of_decide_eq_true rfl), (br' h (fun e8 h => h)
    (fun e8 h => ⟨fun _ => ⟨(of_decide_eq_true rfl), ⟨(of_decide_eq_true rfl), (br' h (fun e9 h => h)
    (fun e9 h => ⟨fun e => Bool.noConfusion (show false = true from e), fun _ => ⟨(lenOk_of 2 rfl (by decide)), (br' h (fun e10 h => h)
    (fun e10 h => (Exists.imp (fun n hn => loop_mono (fun y k k' hk hy => ⟨fun e11 => ⟨(hy.1 e11).1, ⟨(hy.1 e11).2.1, ⟨(fun _ => rfl), ⟨(fun _ => rfl), ⟨rfl, ⟨(lenOk_of 2 rfl (by decide)), ⟨fun e12 => ((hy.1 e11).2.2.1 e12), fun e12 => (hk _ ((hy.1 e11).2.2.2 e12))⟩⟩⟩⟩⟩⟩⟩, fun e11 => (hy.2 e11)⟩) n _ hn) (lk_counts_CheckRules_0 p0 ((0 : Int), (-1 : Int)) K (hp0 e0 e1 e2 e3 e4 e5 e6 e7 e8 e9 e10) h))))⟩⟩))⟩⟩, fun e => Bool.noConfusion (show true = false from e)⟩))⟩⟩, fun e => Bool.noConfusion (show true = false from e)⟩))⟩⟩, fun e => Bool.noConfusion (show true = false from e)⟩⟩))))))⟩⟩⟩⟩⟩⟩⟩⟩))⟩⟩⟩⟩⟩⟩⟩⟩⟩⟩, fun e => Bool.noConfusion (show true = false from e)⟩))⟩⟩⟩⟩⟩⟩⟩⟩⟩⟩, fun e => Bool.noConfusion (show true = false from e)⟩))⟩⟩⟩⟩⟩⟩⟩⟩⟩⟩, fun e => Bool.noConfusion (show true = false from e)⟩⟩))⟩⟩⟩⟩
theorem sp_first2 {a b : Bool} {x y : Int} (hx : x ≠ 0) (hy : y ≠ 0) (h : (s_counts_first (s_counts_unless a x :: s_counts_unless b y :: []) != 0) = false) : a = true ∧ b = true := by
  cases a <;> cases b <;> simp [s_counts_first, s_counts_unless, hx, hy] at h ⊢
theorem pp_counts_CheckRules (p0 : CR) : ∀ p ∈ pre_counts_CheckRules p0, p := by
  intro p hp
  simp only [pre_counts_CheckRules, List.mem_cons, List.not_mem_nil, or_false] at hp
  subst hp
  intros
  rename_i h
  obtain ⟨h1, h2⟩ := sp_first2 (by decide) (by decide) h
  refine ⟨?_, rfl⟩
  have : ((p0.hs.length : Nat) : Int) ≤ 8 := of_decide_eq_true h2
  unfold lenOk; omega

abbrev con_counts_CheckRules : Con := ⟨P_counts_CheckRules, R_counts_CheckRules, fun x => [], fun x => s_counts_CheckRules x⟩
theorem ok_counts_CheckRules : ConOk Try.prog 16 con_counts_CheckRules := ⟨k_counts_CheckRules, fun x hx => ret_tf (ps := P_counts_CheckRules) (rs := R_counts_CheckRules) (x := x) (y := s_counts_CheckRules x) e_counts_CheckRules hC_counts_CheckRules (tf_of (w_counts_CheckRules_eq x (fun z => z = s_counts_CheckRules x)) (d_counts_CheckRules x (fun z => z = s_counts_CheckRules x) (pp_counts_CheckRules x) rfl))⟩
theorem tx_err (a : Bool) (x : Int) (l : List Int) (hx : x ≠ 0) : s_counts_first (s_counts_unless a x :: l) = cond a (s_counts_first l) x := by
  cases a <;> simp [s_counts_first, s_counts_unless, hx]
theorem tx_within {n a b : Int} : s_counts_within n a b = true ↔ a ≤ n ∧ n ≤ b := by
  unfold s_counts_within
  by_cases h : a ≤ n <;> simp [h]
theorem tx_nwithin {n a b : Int} : (!s_counts_within n a b) = false ↔ a ≤ n ∧ n ≤ b := by
  rw [Bool.not_eq_false', tx_within]
theorem tx_all (x y z m : Int) : s_counts_allWithin (x, y, z) m = cond (!s_counts_within x 0 m) 0 (cond (!s_counts_within y 0 m) 1 (cond (!s_counts_within z 0 m) 2 (-1))) := by
  show sp_out m 0 [x, y, z] = _
  simp only [sp_out, s_counts_allWithin_1]
  by_cases hx : s_counts_within x 0 m = true <;> by_cases hy : s_counts_within y 0 m = true <;> by_cases hz : s_counts_within z 0 m = true <;> simp [hx, hy, hz]
theorem tx_allneg (x y z m : Int) : decide (s_counts_allWithin (x, y, z) m < 0) = cond (!s_counts_within x 0 m) false (cond (!s_counts_within y 0 m) false (cond (!s_counts_within z 0 m) false true)) := by
  rw [tx_all]
  cases s_counts_within x 0 m <;> cases s_counts_within y 0 m <;> cases s_counts_within z 0 m <;> rfl
/-- The error of a column. -/
def v_colErr (x y z o : Int) : Int := cond (!s_counts_within x 0 1000) 2 (cond (!s_counts_within y 0 1000) 2 (cond (!s_counts_within z 0 1000) 2 (cond (s_counts_total [x, y, z] != 1000) 3 (cond (decide (o < 600)) 22 0))))
theorem tx_col (x y z o : Int) : s_counts_first (s_counts_unless (decide (s_counts_allWithin (x, y, z) 1000 < 0)) 2 :: s_counts_unless (s_counts_total [x, y, z] == 1000) 3 :: s_counts_unless (decide (o ≥ 600)) 22 :: []) = v_colErr x y z o := by
  rw [tx_err _ _ _ (by decide), tx_err _ _ _ (by decide), tx_err _ _ _ (by decide), tx_allneg, v_colErr]
  have e1 : decide (o ≥ 600) = !decide (o < 600) := by by_cases h : o < 600 <;> simp [h] <;> omega
  have e2 : (s_counts_total [x, y, z] != 1000) = !(s_counts_total [x, y, z] == 1000) := rfl
  rw [e1, e2]
  cases s_counts_within x 0 1000 <;> cases s_counts_within y 0 1000 <;> cases s_counts_within z 0 1000 <;> cases (s_counts_total [x, y, z] == 1000) <;> cases decide (o < 600) <;> rfl
theorem tx_len (n : Int) : s_counts_first (s_counts_unless (decide (n ≥ 2)) 10 :: s_counts_unless (decide (n ≤ 8)) 8 :: []) = cond (decide (n < 2)) 10 (cond (decide (n > 8)) 8 0) := by
  rw [tx_err _ _ _ (by decide), tx_err _ _ _ (by decide)]
  have e1 : decide (n ≥ 2) = !decide (n < 2) := by by_cases h : n < 2 <;> simp [h] <;> omega
  have e2 : decide (n ≤ 8) = !decide (n > 8) := by by_cases h : n > 8 <;> simp [h] <;> omega
  rw [e1, e2]
  cases decide (n < 2) <;> cases decide (n > 8) <;> rfl
/-- A valid column: from 0 to 1000, 1000 together, its own 600 or more. -/
structure v_col (x y z o : Int) : Prop where
  x0 : 0 ≤ x ∧ x ≤ 1000
  y0 : 0 ≤ y ∧ y ≤ 1000
  z0 : 0 ≤ z ∧ z ≤ 1000
  all : x + y + z = 1000
  own : 600 ≤ o
theorem tx_colv {x y z o : Int} (h : v_colErr x y z o = 0) : v_col x y z o := by
  unfold v_colErr at h
  rcases hx : (!s_counts_within x 0 1000) with _ | _
  · rcases hy : (!s_counts_within y 0 1000) with _ | _
    · rcases hz : (!s_counts_within z 0 1000) with _ | _
      · rw [hx, hy, hz] at h
        rw [tx_nwithin] at hx hy hz
        rcases ht : (s_counts_total [x, y, z] != 1000) with _ | _
        · rcases ho : decide (o < 600) with _ | _
          · have hs : s_counts_total [x, y, z] = 1000 := by simpa using ht
            have hs' : IntKind.i64.wrap (IntKind.i64.wrap (IntKind.i64.wrap (0 + x) + y) + z) = 1000 := hs
            rw [wrap_id (n := 0 + x) (by omega) (by omega), wrap_id (n := 0 + x + y) (by omega) (by omega), wrap_id (by omega) (by omega)] at hs'
            exact ⟨hx, hy, hz, by omega, by have := of_decide_eq_false ho; omega⟩
          · rw [ht, ho] at h; cases h
        · rw [ht] at h; cases h
      · rw [hx, hy, hz] at h; cases h
    · rw [hx, hy] at h; cases h
  · rw [hx] at h; cases h
/-- Valid rules. -/
structure v_rules (r : CR) : Prop where
  period : 1 ≤ r.1 ∧ r.1 ≤ 1000000
  dead : 0 ≤ r.2.1 ∧ r.2.1 ≤ 100
  air0 : 0 ≤ r.2.2.1.1 ∧ r.2.2.1.1 ≤ 1000000
  air1 : 0 ≤ r.2.2.1.2.1 ∧ r.2.2.1.2.1 ≤ 1000000
  air2 : 0 ≤ r.2.2.1.2.2 ∧ r.2.2.1.2.2 ≤ 1000000
  cos0 : 0 ≤ r.2.2.2.1.1 ∧ r.2.2.2.1.1 ≤ 1000
  cos1 : 0 ≤ r.2.2.2.1.2.1 ∧ r.2.2.2.1.2.1 ≤ 1000
  cos2 : 0 ≤ r.2.2.2.1.2.2 ∧ r.2.2.2.1.2.2 ≤ 1000
  ground : 0 ≤ r.2.2.2.2.1 ∧ r.2.2.2.2.1 ≤ 200
  air : r.2.2.2.2.1 + 200 ≤ r.2.2.2.2.2.1 ∧ r.2.2.2.2.2.1 ≤ 1000
  rad0 : 0 ≤ r.2.2.2.2.2.2.1.1 ∧ r.2.2.2.2.2.2.1.1 ≤ 1000
  rad1 : r.2.2.2.2.2.2.1.2.1 = 1000
  rad2 : 0 ≤ r.2.2.2.2.2.2.1.2.2 ∧ r.2.2.2.2.2.2.1.2.2 ≤ 1000
  col0 : v_col r.2.2.2.2.2.2.2.1.1.1 r.2.2.2.2.2.2.2.1.2.1.1 r.2.2.2.2.2.2.2.1.2.2.1 r.2.2.2.2.2.2.2.1.1.1
  col1 : v_col r.2.2.2.2.2.2.2.1.1.2.1 r.2.2.2.2.2.2.2.1.2.1.2.1 r.2.2.2.2.2.2.2.1.2.2.2.1 r.2.2.2.2.2.2.2.1.2.1.2.1
  col2 : v_col r.2.2.2.2.2.2.2.1.1.2.2 r.2.2.2.2.2.2.2.1.2.1.2.2 r.2.2.2.2.2.2.2.1.2.2.2.2 r.2.2.2.2.2.2.2.1.2.2.2.2
  len : 2 ≤ r.hs.length ∧ r.hs.length ≤ 8
  knot : ∀ x ∈ r.hs, (0 ≤ x.1 ∧ x.1 ≤ 1000) ∧ 1 ≤ x.2 ∧ x.2 ≤ 10000
  up : r.hs.Pairwise (fun x y => x.1 < y.1)
theorem tx_kn1 (last : Int) (x : Int × Int) : sp_knErr last x = cond (!(cond (s_counts_within x.1 0 1000) (s_counts_within x.2 1 10000) false)) 2 (cond (decide (x.1 ≤ last)) 9 0) := by
  unfold sp_knErr
  rw [tx_err _ _ _ (by decide), tx_err _ _ _ (by decide)]
  have e1 : decide (x.1 > last) = !decide (x.1 ≤ last) := by by_cases h : x.1 ≤ last <;> simp [h] <;> omega
  rw [e1]
  cases (cond (s_counts_within x.1 0 1000) (s_counts_within x.2 1 10000) false) <;> cases decide (x.1 ≤ last) <;> rfl
theorem tx_kn : ∀ (l : List (Int × Int)) (i last : Int), (sp_kn i last l).2 = 0 → (∀ x ∈ l, ((0 ≤ x.1 ∧ x.1 ≤ 1000) ∧ 1 ≤ x.2 ∧ x.2 ≤ 10000) ∧ last < x.1) ∧ l.Pairwise (fun x y => x.1 < y.1)
  | [], _, _, _ => ⟨by simp, .nil⟩
  | x :: r, i, last, h => by
    unfold sp_kn at h
    rcases he : (sp_knErr last x != 0) with _ | _
    · rw [he, cond_false] at h
      obtain ⟨h1, h2⟩ := tx_kn r _ _ h
      have he' : sp_knErr last x = 0 := by simpa using he
      rw [tx_kn1] at he'
      rcases ha : s_counts_within x.1 0 1000 with _ | _
      · rw [ha] at he'; cases he'
      · rcases hb : s_counts_within x.2 1 10000 with _ | _
        · rw [ha, hb] at he'; cases he'
        · rcases hc : decide (x.1 ≤ last) with _ | _
          · rw [tx_within] at ha hb
            have := of_decide_eq_false hc
            refine ⟨fun y hy => ?_, .cons (fun y hy => (h1 y hy).2) h2⟩
            rcases List.mem_cons.1 hy with rfl | hy
            · exact ⟨⟨ha, hb⟩, by omega⟩
            · exact ⟨(h1 y hy).1, by have := (h1 y hy).2; omega⟩
          · rw [ha, hb, hc] at he'; cases he'
    · rw [he, cond_true] at h
      exfalso
      have h' : sp_knErr last x = 0 := h
      rw [h'] at he; cases he
theorem tx_step {c : Bool} {a b : Int × Int} (h : (cond c a b).2 = 0) (ha : a.2 ≠ 0) : c = false ∧ b.2 = 0 := by
  cases c
  · exact ⟨rfl, h⟩
  · exact (ha h).elim
theorem tx_or {a b : Bool} (h : cond a true b = false) : a = false ∧ b = false := by
  cases a
  · exact ⟨rfl, h⟩
  · cases h
theorem tx_step2 {x : Int} {i : Int} {b : Int × Int} (h : (cond (x != 0) (i, x) b).2 = 0) : x = 0 ∧ b.2 = 0 := by
  by_cases hx : x = 0
  · rw [hx] at h; exact ⟨hx, h⟩
  · have : (x != 0) = true := by simpa using hx
    rw [this] at h; exact (hx h).elim
theorem tx_valid {r : CR} (h : (s_counts_CheckRules r).2 = 0) : v_rules r := by
  unfold s_counts_CheckRules at h
  obtain ⟨h1, h⟩ := tx_step h (by decide)
  obtain ⟨h2, h⟩ := tx_step h (by decide)
  obtain ⟨h3, h⟩ := tx_step h (by decide)
  obtain ⟨h4, h⟩ := tx_step h (by decide)
  obtain ⟨h5, h⟩ := tx_step h (by decide)
  obtain ⟨h6, h⟩ := tx_step h (show (2 : Int) ≠ 0 by decide)
  obtain ⟨h7, h⟩ := tx_step h (by decide)
  obtain ⟨h8, h⟩ := tx_step2 h
  obtain ⟨h9, h⟩ := tx_step2 h
  obtain ⟨h10, h⟩ := tx_step2 h
  obtain ⟨h11, h⟩ := tx_step2 h
  obtain ⟨a1, a2⟩ := tx_or h1
  obtain ⟨b1, b2⟩ := tx_or h2
  obtain ⟨c1, c2⟩ := tx_or h3
  obtain ⟨d1, d2⟩ := tx_or h4
  obtain ⟨e1, e2⟩ := tx_or h5
  rw [tx_nwithin] at a1 a2 b1 b2 c1 c2 d1 d2 e1
  rw [wrap_id (by omega) (by omega), tx_nwithin] at e2
  have g := of_decide_eq_false h6
  have g' : decide (s_counts_allWithin r.2.2.2.2.2.2.1 1000 < 0) = true := decide_eq_true (by omega)
  rw [show r.2.2.2.2.2.2.1 = (r.2.2.2.2.2.2.1.1, r.2.2.2.2.2.2.1.2.1, r.2.2.2.2.2.2.1.2.2) from rfl, tx_allneg] at g'
  have g1 : (!s_counts_within r.2.2.2.2.2.2.1.1 0 1000) = false := by
    cases e : (!s_counts_within r.2.2.2.2.2.2.1.1 0 1000)
    · rfl
    · rw [e] at g'; cases g'
  have g2 : (!s_counts_within r.2.2.2.2.2.2.1.2.1 0 1000) = false := by
    cases e : (!s_counts_within r.2.2.2.2.2.2.1.2.1 0 1000)
    · rfl
    · rw [g1, e] at g'; cases g'
  have g3 : (!s_counts_within r.2.2.2.2.2.2.1.2.2 0 1000) = false := by
    cases e : (!s_counts_within r.2.2.2.2.2.2.1.2.2 0 1000)
    · rfl
    · rw [g1, g2, e] at g'; cases g'
  rw [tx_nwithin] at g1 g2 g3
  have k0 := tx_colv ((tx_col _ _ _ _).symm.trans h8)
  have k1 := tx_colv ((tx_col _ _ _ _).symm.trans h9)
  have k2 := tx_colv ((tx_col _ _ _ _).symm.trans h10)
  have hl := (tx_len _).symm.trans h11
  have hkn := tx_kn r.hs 0 (-1) h
  have l1 : ¬ ((r.hs.length : Int) < 2) := fun hx => by
    have : decide ((r.hs.length : Int) < 2) = true := decide_eq_true hx
    rw [show r.2.2.2.2.2.2.2.2 = r.hs from rfl, this] at hl; cases hl
  have l2 : ¬ ((r.hs.length : Int) > 8) := fun hx => by
    have e : decide ((r.hs.length : Int) < 2) = false := decide_eq_false l1
    have : decide ((r.hs.length : Int) > 8) = true := decide_eq_true hx
    rw [show r.2.2.2.2.2.2.2.2 = r.hs from rfl, e, this] at hl; cases hl
  exact ⟨a1, a2, b1, c1, d1, b2, c2, d2, e1, e2, g1, by simpa using h7, g3, k0, k1, k2, by omega, fun x hx => (hkn.1 x hx).1, hkn.2⟩
/- base_Within -/
def C_base_Within : Cons := []
theorem hC_base_Within : ConsOk Try.prog C_base_Within := ConsOk.nil
def w_base_Within (p0 : Int) (p1 : Int) (p2 : Int) (K : Bool → Prop) : Prop :=
  ((((decide (p1 ≤ p0)) = true) →
  ((decide (p1 ≤ p0)) = (decide (p1 ≤ p0)))) ∧
  ((((decide (p1 ≤ p0)) = true) →
  ((decide (p1 ≤ p0)) = (decide (p1 ≤ p0)))) ∧
  (((decide (p1 ≤ p0)) = (decide (p1 ≤ p0))) ∧
  (K (cond (decide (p1 ≤ p0)) (decide (p0 ≤ p2)) false)))))
set_option maxHeartbeats 4000000 in
theorem w_base_Within_eq (p0 : Int) (p1 : Int) (p2 : Int) (K : Bool → Prop) : tfn F_base_Within A_base_Within C_base_Within P_base_Within R_base_Within (p0, p1, p2) K = w_base_Within p0 p1 p2 K := by kernel_rfl
def s_base_Within (p0 : Int) (p1 : Int) (p2 : Int) : Bool :=
  (cond (decide (p1 ≤ p0)) (decide (p0 ≤ p2)) false)
abbrev pre_base_Within (p0 : Int) (p1 : Int) (p2 : Int) : List Prop := []
set_option maxHeartbeats 4000000 in
theorem d_base_Within (p0 : Int) (p1 : Int) (p2 : Int) (K : Bool → Prop) (hp : ∀ p ∈ pre_base_Within p0 p1 p2, p) (h : K (s_base_Within p0 p1 p2)) : w_base_Within p0 p1 p2 K := by
  unfold w_base_Within
  unfold s_base_Within at h
  exact ⟨(fun _ => rfl), ⟨(fun _ => rfl), ⟨rfl, h⟩⟩⟩
abbrev con_base_Within : Con := ⟨P_base_Within, R_base_Within, fun x => pre_base_Within x.1 x.2.1 x.2.2, fun x => s_base_Within x.1 x.2.1 x.2.2⟩
theorem ok_base_Within : ConOk Try.prog 40 con_base_Within := ⟨k_base_Within, fun x hx => ret_tf (ps := P_base_Within) (rs := R_base_Within) (x := x) (y := s_base_Within x.1 x.2.1 x.2.2) e_base_Within hC_base_Within (tf_of (w_base_Within_eq x.1 x.2.1 x.2.2 (fun z => z = s_base_Within x.1 x.2.1 x.2.2)) (d_base_Within x.1 x.2.1 x.2.2 (fun z => z = s_base_Within x.1 x.2.1 x.2.2) hx rfl))⟩
/- ref06_CheckRules -/
def C_ref06_CheckRules : Cons := [(40, [], con_base_Within)]
theorem hC_ref06_CheckRules : ConsOk Try.prog C_ref06_CheckRules := ConsOk.cons ok_base_Within <| ConsOk.nil
def w_ref06_CheckRules (p0 : (Int × (Int × ((Int × (Int × Int)) × ((Int × (Int × Int)) × (Int × (Int × ((Int × (Int × Int)) × (((Int × (Int × Int)) × ((Int × (Int × Int)) × (Int × (Int × Int)))) × (List (Int × Int))))))))))) (K : (Int × Int) → Prop) : Prop :=
  ((((!(s_base_Within p0.1 (1 : Int) (1000000 : Int))) = false) →
  ((!(s_base_Within p0.1 (1 : Int) (1000000 : Int))) = (!(s_base_Within p0.1 (1 : Int) (1000000 : Int))))) ∧
  ((((!(s_base_Within p0.1 (1 : Int) (1000000 : Int))) = false) →
  ((!(s_base_Within p0.1 (1 : Int) (1000000 : Int))) = (!(s_base_Within p0.1 (1 : Int) (1000000 : Int))))) ∧
  ((((!(s_base_Within p0.1 (1 : Int) (1000000 : Int))) = false) →
  ((!(s_base_Within p0.1 (1 : Int) (1000000 : Int))) = (!(s_base_Within p0.1 (1 : Int) (1000000 : Int))))) ∧
  (((!(s_base_Within p0.1 (1 : Int) (1000000 : Int))) = (!(s_base_Within p0.1 (1 : Int) (1000000 : Int)))) ∧
  ((((cond (!(s_base_Within p0.1 (1 : Int) (1000000 : Int))) true (!(s_base_Within p0.2.1 (0 : Int) (100 : Int)))) = true) →
  (K ((0 : Int), (2 : Int)))) ∧
  (((cond (!(s_base_Within p0.1 (1 : Int) (1000000 : Int))) true (!(s_base_Within p0.2.1 (0 : Int) (100 : Int)))) = false) →
  (∃ n0, (loopP (fun (y1 : Int) k2 =>
      ((((decide (y1 < (3 : Int))) = true) →
      (((0 : Int) ≤ y1) ∧
        ((y1 < (3 : Int)) ∧
        ((((!(s_base_Within (List.getD (p0.2.2.1.1 :: (p0.2.2.1.2.1 :: (p0.2.2.1.2.2 :: ([] : List Int)))) (Int.toNat y1) (0 : Int)) (0 : Int) (1000000 : Int))) = false) →
        ((!(s_base_Within (List.getD (p0.2.2.1.1 :: (p0.2.2.1.2.1 :: (p0.2.2.1.2.2 :: ([] : List Int)))) (Int.toNat y1) (0 : Int)) (0 : Int) (1000000 : Int))) = (!(s_base_Within (List.getD (p0.2.2.1.1 :: (p0.2.2.1.2.1 :: (p0.2.2.1.2.2 :: ([] : List Int)))) (Int.toNat y1) (0 : Int)) (0 : Int) (1000000 : Int))))) ∧
        ((((!(s_base_Within (List.getD (p0.2.2.1.1 :: (p0.2.2.1.2.1 :: (p0.2.2.1.2.2 :: ([] : List Int)))) (Int.toNat y1) (0 : Int)) (0 : Int) (1000000 : Int))) = false) →
        ((!(s_base_Within (List.getD (p0.2.2.1.1 :: (p0.2.2.1.2.1 :: (p0.2.2.1.2.2 :: ([] : List Int)))) (Int.toNat y1) (0 : Int)) (0 : Int) (1000000 : Int))) = (!(s_base_Within (List.getD (p0.2.2.1.1 :: (p0.2.2.1.2.1 :: (p0.2.2.1.2.2 :: ([] : List Int)))) (Int.toNat y1) (0 : Int)) (0 : Int) (1000000 : Int))))) ∧
        ((((!(s_base_Within (List.getD (p0.2.2.1.1 :: (p0.2.2.1.2.1 :: (p0.2.2.1.2.2 :: ([] : List Int)))) (Int.toNat y1) (0 : Int)) (0 : Int) (1000000 : Int))) = false) →
        ((0 : Int) ≤ y1)) ∧
        ((((!(s_base_Within (List.getD (p0.2.2.1.1 :: (p0.2.2.1.2.1 :: (p0.2.2.1.2.2 :: ([] : List Int)))) (Int.toNat y1) (0 : Int)) (0 : Int) (1000000 : Int))) = false) →
        (y1 < (3 : Int))) ∧
        ((((!(s_base_Within (List.getD (p0.2.2.1.1 :: (p0.2.2.1.2.1 :: (p0.2.2.1.2.2 :: ([] : List Int)))) (Int.toNat y1) (0 : Int)) (0 : Int) (1000000 : Int))) = false) →
        ((!(s_base_Within (List.getD (p0.2.2.1.1 :: (p0.2.2.1.2.1 :: (p0.2.2.1.2.2 :: ([] : List Int)))) (Int.toNat y1) (0 : Int)) (0 : Int) (1000000 : Int))) = (!(s_base_Within (List.getD (p0.2.2.1.1 :: (p0.2.2.1.2.1 :: (p0.2.2.1.2.2 :: ([] : List Int)))) (Int.toNat y1) (0 : Int)) (0 : Int) (1000000 : Int))))) ∧
        ((((!(s_base_Within (List.getD (p0.2.2.1.1 :: (p0.2.2.1.2.1 :: (p0.2.2.1.2.2 :: ([] : List Int)))) (Int.toNat y1) (0 : Int)) (0 : Int) (1000000 : Int))) = false) →
        ((!(s_base_Within (List.getD (p0.2.2.1.1 :: (p0.2.2.1.2.1 :: (p0.2.2.1.2.2 :: ([] : List Int)))) (Int.toNat y1) (0 : Int)) (0 : Int) (1000000 : Int))) = (!(s_base_Within (List.getD (p0.2.2.1.1 :: (p0.2.2.1.2.1 :: (p0.2.2.1.2.2 :: ([] : List Int)))) (Int.toNat y1) (0 : Int)) (0 : Int) (1000000 : Int))))) ∧
        ((((!(s_base_Within (List.getD (p0.2.2.1.1 :: (p0.2.2.1.2.1 :: (p0.2.2.1.2.2 :: ([] : List Int)))) (Int.toNat y1) (0 : Int)) (0 : Int) (1000000 : Int))) = false) →
        ((!(s_base_Within (List.getD (p0.2.2.1.1 :: (p0.2.2.1.2.1 :: (p0.2.2.1.2.2 :: ([] : List Int)))) (Int.toNat y1) (0 : Int)) (0 : Int) (1000000 : Int))) = (!(s_base_Within (List.getD (p0.2.2.1.1 :: (p0.2.2.1.2.1 :: (p0.2.2.1.2.2 :: ([] : List Int)))) (Int.toNat y1) (0 : Int)) (0 : Int) (1000000 : Int))))) ∧
        (((!(s_base_Within (List.getD (p0.2.2.1.1 :: (p0.2.2.1.2.1 :: (p0.2.2.1.2.2 :: ([] : List Int)))) (Int.toNat y1) (0 : Int)) (0 : Int) (1000000 : Int))) = (!(s_base_Within (List.getD (p0.2.2.1.1 :: (p0.2.2.1.2.1 :: (p0.2.2.1.2.2 :: ([] : List Int)))) (Int.toNat y1) (0 : Int)) (0 : Int) (1000000 : Int)))) ∧
        ((((cond (!(s_base_Within (List.getD (p0.2.2.1.1 :: (p0.2.2.1.2.1 :: (p0.2.2.1.2.2 :: ([] : List Int)))) (Int.toNat y1) (0 : Int)) (0 : Int) (1000000 : Int))) true (!(s_base_Within (List.getD (p0.2.2.2.1.1 :: (p0.2.2.2.1.2.1 :: (p0.2.2.2.1.2.2 :: ([] : List Int)))) (Int.toNat y1) (0 : Int)) (0 : Int) (1000 : Int)))) = true) →
        (K (y1, (2 : Int)))) ∧
        (((cond (!(s_base_Within (List.getD (p0.2.2.1.1 :: (p0.2.2.1.2.1 :: (p0.2.2.1.2.2 :: ([] : List Int)))) (Int.toNat y1) (0 : Int)) (0 : Int) (1000000 : Int))) true (!(s_base_Within (List.getD (p0.2.2.2.1.1 :: (p0.2.2.2.1.2.1 :: (p0.2.2.2.1.2.2 :: ([] : List Int)))) (Int.toNat y1) (0 : Int)) (0 : Int) (1000 : Int)))) = false) →
        (k2 (Go.IntKind.wrap .i64 (y1 + (1 : Int))))))))))))))))) ∧
      (((decide (y1 < (3 : Int))) = false) →
      ((((!(s_base_Within p0.2.2.2.2.1 (0 : Int) (200 : Int))) = false) →
        ((!(s_base_Within p0.2.2.2.2.1 (0 : Int) (200 : Int))) = (!(s_base_Within p0.2.2.2.2.1 (0 : Int) (200 : Int))))) ∧
        ((((!(s_base_Within p0.2.2.2.2.1 (0 : Int) (200 : Int))) = false) →
        ((!(s_base_Within p0.2.2.2.2.1 (0 : Int) (200 : Int))) = (!(s_base_Within p0.2.2.2.2.1 (0 : Int) (200 : Int))))) ∧
        ((((!(s_base_Within p0.2.2.2.2.1 (0 : Int) (200 : Int))) = false) →
        ((!(s_base_Within p0.2.2.2.2.1 (0 : Int) (200 : Int))) = (!(s_base_Within p0.2.2.2.2.1 (0 : Int) (200 : Int))))) ∧
        ((((!(s_base_Within p0.2.2.2.2.1 (0 : Int) (200 : Int))) = false) →
        ((!(s_base_Within p0.2.2.2.2.1 (0 : Int) (200 : Int))) = (!(s_base_Within p0.2.2.2.2.1 (0 : Int) (200 : Int))))) ∧
        ((((!(s_base_Within p0.2.2.2.2.1 (0 : Int) (200 : Int))) = false) →
        ((!(s_base_Within p0.2.2.2.2.1 (0 : Int) (200 : Int))) = (!(s_base_Within p0.2.2.2.2.1 (0 : Int) (200 : Int))))) ∧
        ((((!(s_base_Within p0.2.2.2.2.1 (0 : Int) (200 : Int))) = false) →
        ((!(s_base_Within p0.2.2.2.2.1 (0 : Int) (200 : Int))) = (!(s_base_Within p0.2.2.2.2.1 (0 : Int) (200 : Int))))) ∧
        (((!(s_base_Within p0.2.2.2.2.1 (0 : Int) (200 : Int))) = (!(s_base_Within p0.2.2.2.2.1 (0 : Int) (200 : Int)))) ∧
        ((((cond (!(s_base_Within p0.2.2.2.2.1 (0 : Int) (200 : Int))) true (!(s_base_Within p0.2.2.2.2.2.1 (Go.IntKind.wrap .i64 (p0.2.2.2.2.1 + (200 : Int))) (1000 : Int)))) = true) →
        (K ((0 : Int), (2 : Int)))) ∧
        (((cond (!(s_base_Within p0.2.2.2.2.1 (0 : Int) (200 : Int))) true (!(s_base_Within p0.2.2.2.2.2.1 (Go.IntKind.wrap .i64 (p0.2.2.2.2.1 + (200 : Int))) (1000 : Int)))) = false) →
        (∃ n3, (loopP (fun (y4 : Int) k5 =>
            ((((decide (y4 < (3 : Int))) = true) →
            (((0 : Int) ≤ y4) ∧
              ((y4 < (3 : Int)) ∧
              ((((!(s_base_Within (List.getD (p0.2.2.2.2.2.2.1.1 :: (p0.2.2.2.2.2.2.1.2.1 :: (p0.2.2.2.2.2.2.1.2.2 :: ([] : List Int)))) (Int.toNat y4) (0 : Int)) (0 : Int) (1000 : Int))) = true) →
              (K (y4, (2 : Int)))) ∧
              (((!(s_base_Within (List.getD (p0.2.2.2.2.2.2.1.1 :: (p0.2.2.2.2.2.2.1.2.1 :: (p0.2.2.2.2.2.2.1.2.2 :: ([] : List Int)))) (Int.toNat y4) (0 : Int)) (0 : Int) (1000 : Int))) = false) →
              (k5 (Go.IntKind.wrap .i64 (y4 + (1 : Int))))))))) ∧
            (((decide (y4 < (3 : Int))) = false) →
            ((((p0.2.2.2.2.2.2.1.2.1 != (1000 : Int)) = true) →
              (K ((1 : Int), (3 : Int)))) ∧
              (((p0.2.2.2.2.2.2.1.2.1 != (1000 : Int)) = false) →
              (∃ n6, (loopP (fun (y7 : Int) k8 =>
                  ((((decide (y7 < (3 : Int))) = true) →
                  (∃ n9, (loopP (fun (y10 : (Int × Int)) k11 =>
                      ((((decide (y10.1 < (3 : Int))) = true) →
                      (((0 : Int) ≤ y10.1) ∧
                        ((y10.1 < (3 : Int)) ∧
                        (((0 : Int) ≤ y7) ∧
                        ((y7 < (3 : Int)) ∧
                        ((((!(s_base_Within (List.getD ((List.getD (p0.2.2.2.2.2.2.2.1.1.1 :: (p0.2.2.2.2.2.2.2.1.2.1.1 :: (p0.2.2.2.2.2.2.2.1.2.2.1 :: ([] : List Int)))) (Int.toNat y10.1) (0 : Int)) :: ((List.getD (p0.2.2.2.2.2.2.2.1.1.2.1 :: (p0.2.2.2.2.2.2.2.1.2.1.2.1 :: (p0.2.2.2.2.2.2.2.1.2.2.2.1 :: ([] : List Int)))) (Int.toNat y10.1) (0 : Int)) :: ((List.getD (p0.2.2.2.2.2.2.2.1.1.2.2 :: (p0.2.2.2.2.2.2.2.1.2.1.2.2 :: (p0.2.2.2.2.2.2.2.1.2.2.2.2 :: ([] : List Int)))) (Int.toNat y10.1) (0 : Int)) :: ([] : List Int)))) (Int.toNat y7) (0 : Int)) (0 : Int) (1000 : Int))) = true) →
                        (K (y7, (2 : Int)))) ∧
                        (((!(s_base_Within (List.getD ((List.getD (p0.2.2.2.2.2.2.2.1.1.1 :: (p0.2.2.2.2.2.2.2.1.2.1.1 :: (p0.2.2.2.2.2.2.2.1.2.2.1 :: ([] : List Int)))) (Int.toNat y10.1) (0 : Int)) :: ((List.getD (p0.2.2.2.2.2.2.2.1.1.2.1 :: (p0.2.2.2.2.2.2.2.1.2.1.2.1 :: (p0.2.2.2.2.2.2.2.1.2.2.2.1 :: ([] : List Int)))) (Int.toNat y10.1) (0 : Int)) :: ((List.getD (p0.2.2.2.2.2.2.2.1.1.2.2 :: (p0.2.2.2.2.2.2.2.1.2.1.2.2 :: (p0.2.2.2.2.2.2.2.1.2.2.2.2 :: ([] : List Int)))) (Int.toNat y10.1) (0 : Int)) :: ([] : List Int)))) (Int.toNat y7) (0 : Int)) (0 : Int) (1000 : Int))) = false) →
                        (((0 : Int) ≤ y10.1) ∧
                          ((y10.1 < (3 : Int)) ∧
                          (((0 : Int) ≤ y7) ∧
                          ((y7 < (3 : Int)) ∧
                          (k11 ((Go.IntKind.wrap .i64 (y10.1 + (1 : Int))), (Go.IntKind.wrap .i64 (y10.2 + (List.getD ((List.getD (p0.2.2.2.2.2.2.2.1.1.1 :: (p0.2.2.2.2.2.2.2.1.2.1.1 :: (p0.2.2.2.2.2.2.2.1.2.2.1 :: ([] : List Int)))) (Int.toNat y10.1) (0 : Int)) :: ((List.getD (p0.2.2.2.2.2.2.2.1.1.2.1 :: (p0.2.2.2.2.2.2.2.1.2.1.2.1 :: (p0.2.2.2.2.2.2.2.1.2.2.2.1 :: ([] : List Int)))) (Int.toNat y10.1) (0 : Int)) :: ((List.getD (p0.2.2.2.2.2.2.2.1.1.2.2 :: (p0.2.2.2.2.2.2.2.1.2.1.2.2 :: (p0.2.2.2.2.2.2.2.1.2.2.2.2 :: ([] : List Int)))) (Int.toNat y10.1) (0 : Int)) :: ([] : List Int)))) (Int.toNat y7) (0 : Int))))))))))))))))) ∧
                      (((decide (y10.1 < (3 : Int))) = false) →
                      ((((y10.2 != (1000 : Int)) = true) →
                        (K (y7, (3 : Int)))) ∧
                        (((y10.2 != (1000 : Int)) = false) →
                        (((0 : Int) ≤ y7) ∧
                          ((y7 < (3 : Int)) ∧
                          (((0 : Int) ≤ y7) ∧
                          ((y7 < (3 : Int)) ∧
                          ((((decide ((List.getD ((List.getD (p0.2.2.2.2.2.2.2.1.1.1 :: (p0.2.2.2.2.2.2.2.1.2.1.1 :: (p0.2.2.2.2.2.2.2.1.2.2.1 :: ([] : List Int)))) (Int.toNat y7) (0 : Int)) :: ((List.getD (p0.2.2.2.2.2.2.2.1.1.2.1 :: (p0.2.2.2.2.2.2.2.1.2.1.2.1 :: (p0.2.2.2.2.2.2.2.1.2.2.2.1 :: ([] : List Int)))) (Int.toNat y7) (0 : Int)) :: ((List.getD (p0.2.2.2.2.2.2.2.1.1.2.2 :: (p0.2.2.2.2.2.2.2.1.2.1.2.2 :: (p0.2.2.2.2.2.2.2.1.2.2.2.2 :: ([] : List Int)))) (Int.toNat y7) (0 : Int)) :: ([] : List Int)))) (Int.toNat y7) (0 : Int)) < (600 : Int))) = true) →
                          (K (y7, (22 : Int)))) ∧
                          (((decide ((List.getD ((List.getD (p0.2.2.2.2.2.2.2.1.1.1 :: (p0.2.2.2.2.2.2.2.1.2.1.1 :: (p0.2.2.2.2.2.2.2.1.2.2.1 :: ([] : List Int)))) (Int.toNat y7) (0 : Int)) :: ((List.getD (p0.2.2.2.2.2.2.2.1.1.2.1 :: (p0.2.2.2.2.2.2.2.1.2.1.2.1 :: (p0.2.2.2.2.2.2.2.1.2.2.2.1 :: ([] : List Int)))) (Int.toNat y7) (0 : Int)) :: ((List.getD (p0.2.2.2.2.2.2.2.1.1.2.2 :: (p0.2.2.2.2.2.2.2.1.2.1.2.2 :: (p0.2.2.2.2.2.2.2.1.2.2.2.2 :: ([] : List Int)))) (Int.toNat y7) (0 : Int)) :: ([] : List Int)))) (Int.toNat y7) (0 : Int)) < (600 : Int))) = false) →
                          (k8 (Go.IntKind.wrap .i64 (y7 + (1 : Int))))))))))))))) n9 ((0 : Int), (0 : Int))))) ∧
                  (((decide (y7 < (3 : Int))) = false) →
                  ((((decide ((((List.length p0.2.2.2.2.2.2.2.2) : Nat) : Int) < (2 : Int))) = true) →
                    (K ((0 : Int), (10 : Int)))) ∧
                    (((decide ((((List.length p0.2.2.2.2.2.2.2.2) : Nat) : Int) < (2 : Int))) = false) →
                    ((((decide ((((List.length p0.2.2.2.2.2.2.2.2) : Nat) : Int) > (8 : Int))) = true) →
                      (K ((0 : Int), (8 : Int)))) ∧
                      (((decide ((((List.length p0.2.2.2.2.2.2.2.2) : Nat) : Int) > (8 : Int))) = false) →
                      (∃ n12, (loopP (fun (y13 : Int) k14 =>
                          ((((decide (y13 < (((List.length p0.2.2.2.2.2.2.2.2) : Nat) : Int))) = true) →
                          (((0 : Int) ≤ y13) ∧
                            ((y13 < (((List.length p0.2.2.2.2.2.2.2.2) : Nat) : Int)) ∧
                            ((((!(s_base_Within (List.getD p0.2.2.2.2.2.2.2.2 (Int.toNat y13) ((0 : Int), (0 : Int))).1 (0 : Int) (1000 : Int))) = false) →
                            ((!(s_base_Within (List.getD p0.2.2.2.2.2.2.2.2 (Int.toNat y13) ((0 : Int), (0 : Int))).1 (0 : Int) (1000 : Int))) = (!(s_base_Within (List.getD p0.2.2.2.2.2.2.2.2 (Int.toNat y13) ((0 : Int), (0 : Int))).1 (0 : Int) (1000 : Int))))) ∧
                            ((((!(s_base_Within (List.getD p0.2.2.2.2.2.2.2.2 (Int.toNat y13) ((0 : Int), (0 : Int))).1 (0 : Int) (1000 : Int))) = false) →
                            ((!(s_base_Within (List.getD p0.2.2.2.2.2.2.2.2 (Int.toNat y13) ((0 : Int), (0 : Int))).1 (0 : Int) (1000 : Int))) = (!(s_base_Within (List.getD p0.2.2.2.2.2.2.2.2 (Int.toNat y13) ((0 : Int), (0 : Int))).1 (0 : Int) (1000 : Int))))) ∧
                            ((((!(s_base_Within (List.getD p0.2.2.2.2.2.2.2.2 (Int.toNat y13) ((0 : Int), (0 : Int))).1 (0 : Int) (1000 : Int))) = false) →
                            ((!(s_base_Within (List.getD p0.2.2.2.2.2.2.2.2 (Int.toNat y13) ((0 : Int), (0 : Int))).1 (0 : Int) (1000 : Int))) = (!(s_base_Within (List.getD p0.2.2.2.2.2.2.2.2 (Int.toNat y13) ((0 : Int), (0 : Int))).1 (0 : Int) (1000 : Int))))) ∧
                            ((((!(s_base_Within (List.getD p0.2.2.2.2.2.2.2.2 (Int.toNat y13) ((0 : Int), (0 : Int))).1 (0 : Int) (1000 : Int))) = false) →
                            ((0 : Int) ≤ y13)) ∧
                            ((((!(s_base_Within (List.getD p0.2.2.2.2.2.2.2.2 (Int.toNat y13) ((0 : Int), (0 : Int))).1 (0 : Int) (1000 : Int))) = false) →
                            (y13 < (((List.length p0.2.2.2.2.2.2.2.2) : Nat) : Int))) ∧
                            ((((!(s_base_Within (List.getD p0.2.2.2.2.2.2.2.2 (Int.toNat y13) ((0 : Int), (0 : Int))).1 (0 : Int) (1000 : Int))) = false) →
                            ((!(s_base_Within (List.getD p0.2.2.2.2.2.2.2.2 (Int.toNat y13) ((0 : Int), (0 : Int))).1 (0 : Int) (1000 : Int))) = (!(s_base_Within (List.getD p0.2.2.2.2.2.2.2.2 (Int.toNat y13) ((0 : Int), (0 : Int))).1 (0 : Int) (1000 : Int))))) ∧
                            ((((!(s_base_Within (List.getD p0.2.2.2.2.2.2.2.2 (Int.toNat y13) ((0 : Int), (0 : Int))).1 (0 : Int) (1000 : Int))) = false) →
                            ((!(s_base_Within (List.getD p0.2.2.2.2.2.2.2.2 (Int.toNat y13) ((0 : Int), (0 : Int))).1 (0 : Int) (1000 : Int))) = (!(s_base_Within (List.getD p0.2.2.2.2.2.2.2.2 (Int.toNat y13) ((0 : Int), (0 : Int))).1 (0 : Int) (1000 : Int))))) ∧
                            ((((!(s_base_Within (List.getD p0.2.2.2.2.2.2.2.2 (Int.toNat y13) ((0 : Int), (0 : Int))).1 (0 : Int) (1000 : Int))) = false) →
                            ((!(s_base_Within (List.getD p0.2.2.2.2.2.2.2.2 (Int.toNat y13) ((0 : Int), (0 : Int))).1 (0 : Int) (1000 : Int))) = (!(s_base_Within (List.getD p0.2.2.2.2.2.2.2.2 (Int.toNat y13) ((0 : Int), (0 : Int))).1 (0 : Int) (1000 : Int))))) ∧
                            ((((!(s_base_Within (List.getD p0.2.2.2.2.2.2.2.2 (Int.toNat y13) ((0 : Int), (0 : Int))).1 (0 : Int) (1000 : Int))) = false) →
                            ((!(s_base_Within (List.getD p0.2.2.2.2.2.2.2.2 (Int.toNat y13) ((0 : Int), (0 : Int))).1 (0 : Int) (1000 : Int))) = (!(s_base_Within (List.getD p0.2.2.2.2.2.2.2.2 (Int.toNat y13) ((0 : Int), (0 : Int))).1 (0 : Int) (1000 : Int))))) ∧
                            (((!(s_base_Within (List.getD p0.2.2.2.2.2.2.2.2 (Int.toNat y13) ((0 : Int), (0 : Int))).1 (0 : Int) (1000 : Int))) = (!(s_base_Within (List.getD p0.2.2.2.2.2.2.2.2 (Int.toNat y13) ((0 : Int), (0 : Int))).1 (0 : Int) (1000 : Int)))) ∧
                            ((((cond (!(s_base_Within (List.getD p0.2.2.2.2.2.2.2.2 (Int.toNat y13) ((0 : Int), (0 : Int))).1 (0 : Int) (1000 : Int))) true (!(s_base_Within (List.getD p0.2.2.2.2.2.2.2.2 (Int.toNat y13) ((0 : Int), (0 : Int))).2 (1 : Int) (10000 : Int)))) = true) →
                            (K (y13, (2 : Int)))) ∧
                            (((cond (!(s_base_Within (List.getD p0.2.2.2.2.2.2.2.2 (Int.toNat y13) ((0 : Int), (0 : Int))).1 (0 : Int) (1000 : Int))) true (!(s_base_Within (List.getD p0.2.2.2.2.2.2.2.2 (Int.toNat y13) ((0 : Int), (0 : Int))).2 (1 : Int) (10000 : Int)))) = false) →
                            ((((decide (y13 > (0 : Int))) = true) →
                              ((decide (y13 > (0 : Int))) = (decide (y13 > (0 : Int))))) ∧
                              ((((decide (y13 > (0 : Int))) = true) →
                              ((decide (y13 > (0 : Int))) = (decide (y13 > (0 : Int))))) ∧
                              ((((decide (y13 > (0 : Int))) = true) →
                              ((decide (y13 > (0 : Int))) = (decide (y13 > (0 : Int))))) ∧
                              ((((decide (y13 > (0 : Int))) = true) →
                              ((0 : Int) ≤ y13)) ∧
                              ((((decide (y13 > (0 : Int))) = true) →
                              (y13 < (((List.length p0.2.2.2.2.2.2.2.2) : Nat) : Int))) ∧
                              ((((decide (y13 > (0 : Int))) = true) →
                              ((decide (y13 > (0 : Int))) = (decide (y13 > (0 : Int))))) ∧
                              ((((decide (y13 > (0 : Int))) = true) →
                              ((decide (y13 > (0 : Int))) = (decide (y13 > (0 : Int))))) ∧
                              ((((decide (y13 > (0 : Int))) = true) →
                              ((decide (y13 > (0 : Int))) = (decide (y13 > (0 : Int))))) ∧
                              ((((decide (y13 > (0 : Int))) = true) →
                              ((decide (y13 > (0 : Int))) = (decide (y13 > (0 : Int))))) ∧
                              ((((decide (y13 > (0 : Int))) = true) →
                              ((decide (y13 > (0 : Int))) = (decide (y13 > (0 : Int))))) ∧
                              ((((decide (y13 > (0 : Int))) = true) →
                              ((decide (y13 > (0 : Int))) = (decide (y13 > (0 : Int))))) ∧
                              ((((decide (y13 > (0 : Int))) = true) →
                              ((0 : Int) ≤ (Go.IntKind.wrap .i64 (y13 - (1 : Int))))) ∧
                              ((((decide (y13 > (0 : Int))) = true) →
                              ((Go.IntKind.wrap .i64 (y13 - (1 : Int))) < (((List.length p0.2.2.2.2.2.2.2.2) : Nat) : Int))) ∧
                              ((((decide (y13 > (0 : Int))) = true) →
                              ((decide (y13 > (0 : Int))) = (decide (y13 > (0 : Int))))) ∧
                              ((((decide (y13 > (0 : Int))) = true) →
                              ((decide (y13 > (0 : Int))) = (decide (y13 > (0 : Int))))) ∧
                              ((((decide (y13 > (0 : Int))) = true) →
                              ((decide (y13 > (0 : Int))) = (decide (y13 > (0 : Int))))) ∧
                              ((((decide (y13 > (0 : Int))) = true) →
                              ((decide (y13 > (0 : Int))) = (decide (y13 > (0 : Int))))) ∧
                              (((decide (y13 > (0 : Int))) = (decide (y13 > (0 : Int)))) ∧
                              ((((cond (decide (y13 > (0 : Int))) (decide ((List.getD p0.2.2.2.2.2.2.2.2 (Int.toNat y13) ((0 : Int), (0 : Int))).1 ≤ (List.getD p0.2.2.2.2.2.2.2.2 (Int.toNat (Go.IntKind.wrap .i64 (y13 - (1 : Int)))) ((0 : Int), (0 : Int))).1)) false) = true) →
                              (K (y13, (9 : Int)))) ∧
                              (((cond (decide (y13 > (0 : Int))) (decide ((List.getD p0.2.2.2.2.2.2.2.2 (Int.toNat y13) ((0 : Int), (0 : Int))).1 ≤ (List.getD p0.2.2.2.2.2.2.2.2 (Int.toNat (Go.IntKind.wrap .i64 (y13 - (1 : Int)))) ((0 : Int), (0 : Int))).1)) false) = false) →
                              (k14 (Go.IntKind.wrap .i64 (y13 + (1 : Int))))))))))))))))))))))))))))))))))))))) ∧
                          (((decide (y13 < (((List.length p0.2.2.2.2.2.2.2.2) : Nat) : Int))) = false) →
                          (K ((0 : Int), (0 : Int)))))) n12 (0 : Int)))))))))) n6 (0 : Int)))))))) n3 (0 : Int))))))))))))))) n0 (0 : Int)))))))))
set_option maxHeartbeats 4000000 in
theorem w_ref06_CheckRules_eq (p0 : (Int × (Int × ((Int × (Int × Int)) × ((Int × (Int × Int)) × (Int × (Int × ((Int × (Int × Int)) × (((Int × (Int × Int)) × ((Int × (Int × Int)) × (Int × (Int × Int)))) × (List (Int × Int))))))))))) (K : (Int × Int) → Prop) : tfn F_ref06_CheckRules A_ref06_CheckRules C_ref06_CheckRules P_ref06_CheckRules R_ref06_CheckRules p0 K = w_ref06_CheckRules p0 K := by kernel_rfl
def b_ref06_CheckRules_0 (p0 : (Int × (Int × ((Int × (Int × Int)) × ((Int × (Int × Int)) × (Int × (Int × ((Int × (Int × Int)) × (((Int × (Int × Int)) × ((Int × (Int × Int)) × (Int × (Int × Int)))) × (List (Int × Int))))))))))) (K : (Int × Int) → Prop) (y : Int) (k : Int → Prop) : Prop :=
  (((decide (y < (((List.length p0.2.2.2.2.2.2.2.2) : Nat) : Int))) = true →
    (((0 : Int) ≤ y) ∧
    ((y < (((List.length p0.2.2.2.2.2.2.2.2) : Nat) : Int)) ∧
    ((((!(s_base_Within (List.getD p0.2.2.2.2.2.2.2.2 (Int.toNat y) ((0 : Int), (0 : Int))).1 (0 : Int) (1000 : Int))) = false) → ((0 : Int) ≤ y)) ∧
    ((((!(s_base_Within (List.getD p0.2.2.2.2.2.2.2.2 (Int.toNat y) ((0 : Int), (0 : Int))).1 (0 : Int) (1000 : Int))) = false) → (y < (((List.length p0.2.2.2.2.2.2.2.2) : Nat) : Int))) ∧
    (((cond (!(s_base_Within (List.getD p0.2.2.2.2.2.2.2.2 (Int.toNat y) ((0 : Int), (0 : Int))).1 (0 : Int) (1000 : Int))) true (!(s_base_Within (List.getD p0.2.2.2.2.2.2.2.2 (Int.toNat y) ((0 : Int), (0 : Int))).2 (1 : Int) (10000 : Int)))) = true →
      (K (y, (2 : Int)))) ∧
    ((cond (!(s_base_Within (List.getD p0.2.2.2.2.2.2.2.2 (Int.toNat y) ((0 : Int), (0 : Int))).1 (0 : Int) (1000 : Int))) true (!(s_base_Within (List.getD p0.2.2.2.2.2.2.2.2 (Int.toNat y) ((0 : Int), (0 : Int))).2 (1 : Int) (10000 : Int)))) = false →
      ((((decide (y > (0 : Int))) = true) → ((0 : Int) ≤ y)) ∧
      ((((decide (y > (0 : Int))) = true) → (y < (((List.length p0.2.2.2.2.2.2.2.2) : Nat) : Int))) ∧
      ((((decide (y > (0 : Int))) = true) → ((0 : Int) ≤ (Go.IntKind.wrap .i64 (y - (1 : Int))))) ∧
      ((((decide (y > (0 : Int))) = true) → ((Go.IntKind.wrap .i64 (y - (1 : Int))) < (((List.length p0.2.2.2.2.2.2.2.2) : Nat) : Int))) ∧
      (((cond (decide (y > (0 : Int))) (decide ((List.getD p0.2.2.2.2.2.2.2.2 (Int.toNat y) ((0 : Int), (0 : Int))).1 ≤ (List.getD p0.2.2.2.2.2.2.2.2 (Int.toNat (Go.IntKind.wrap .i64 (y - (1 : Int)))) ((0 : Int), (0 : Int))).1)) false) = true →
        (K (y, (9 : Int)))) ∧
      ((cond (decide (y > (0 : Int))) (decide ((List.getD p0.2.2.2.2.2.2.2.2 (Int.toNat y) ((0 : Int), (0 : Int))).1 ≤ (List.getD p0.2.2.2.2.2.2.2.2 (Int.toNat (Go.IntKind.wrap .i64 (y - (1 : Int)))) ((0 : Int), (0 : Int))).1)) false) = false →
        (k (Go.IntKind.wrap .i64 (y + (1 : Int))))))))))))))))) ∧
  ((decide (y < (((List.length p0.2.2.2.2.2.2.2.2) : Nat) : Int))) = false →
    (K ((0 : Int), (0 : Int)))))
/-- The first invalid knot, each beside the one ahead of it in the whole list. -/
def sp_rk (l : List (Int × Int)) : List (Int × Int) → Int × Int
  | [] => (0, 0)
  | x :: r => cond (cond (!(s_base_Within x.1 0 1000)) true (!(s_base_Within x.2 1 10000))) (((l.length : Int) - (r.length + 1), 2))
      (cond (cond (decide (((l.length : Int) - (r.length + 1)) > 0)) (decide (x.1 ≤ (l.getD (l.length - (r.length + 1) - 1) (0, 0)).1)) false) ((l.length : Int) - (r.length + 1), 9) (sp_rk l r))
def lp_ref06_CheckRules_0 (p0 : CR) (_ : Int) : Int × Int := sp_rk p0.hs p0.hs
abbrev lpre_ref06_CheckRules_0 (p0 : CR) (x : Int) : Prop := lenOk p0.hs ∧ x = 0
theorem lk_ref06_CheckRules_0 (p0 : CR) (x : Int) (K : Int × Int → Prop) (hp : lpre_ref06_CheckRules_0 p0 x) (h : K (lp_ref06_CheckRules_0 p0 x)) : ∃ n, loopP (b_ref06_CheckRules_0 p0 K) n x := by
  obtain ⟨hl, hx⟩ := hp
  subst hx
  generalize hlist : p0.hs = l at *
  have e0 : p0.2.2.2.2.2.2.2.2 = l := hlist
  refine loop_list0 l (0, 0) (fun r => K (sp_rk l r)) ?_ ?_ (by simpa [lp_ref06_CheckRules_0, hlist] using h)
  · intro k hI
    unfold b_ref06_CheckRules_0
    rw [e0]
    simpa [sp_rk] using hI
  · intro j k hj hI hk
    have hj' : (j : Int) < l.length := by omega
    have e1 : (l.length : Int) - (((l.drop (j + 1)).length : Int) + 1) = j := by simp; omega
    have e3 : l.length - ((l.drop (j + 1)).length + 1) - 1 = j - 1 := by simp; omega
    have e4 : (j : Int) > 0 → IntKind.i64.wrap ((j : Int) - 1) = ((j - 1 : Nat) : Int) := fun h0 => by rw [wrap_id (by omega) (by omega)]; omega
    simp only [sp_rk, e1, e3] at hI
    unfold b_ref06_CheckRules_0
    rw [e0]
    simp only [wrap_nat (show (j : Int) ≤ 9223372036854775806 by omega), hj', decide_true, Int.toNat_natCast, forall_const, Bool.true_eq_false, false_imp_iff, and_true]
    refine ⟨by omega, trivial, fun _ => by omega, fun _ => trivial, fun hx => ?_, fun hx => ⟨fun _ => by omega, fun _ => trivial, fun h0 => ?_, fun h0 => ?_, fun hy => ?_, fun hy => hk ?_⟩⟩
    · simpa only [hx, cond_true] using hI
    · have h0 : (j : Int) > 0 := by simpa using h0
      rw [e4 h0]; omega
    · have h0 : (j : Int) > 0 := by simpa using h0
      rw [e4 h0]; omega
    · simp only [hx, cond_false] at hI
      by_cases h0 : (j : Int) > 0
      · rw [e4 h0, Int.toNat_natCast] at hy
        simpa only [hy, cond_true] using hI
      · have hd : decide ((j : Int) > 0) = false := by simp; omega
        rw [hd] at hy; cases hy
    · simp only [hx, cond_false] at hI
      by_cases h0 : (j : Int) > 0
      · rw [e4 h0, Int.toNat_natCast] at hy
        simpa only [hy, cond_false] using hI
      · have hd : decide ((j : Int) > 0) = false := by simp; omega
        rw [hd] at hI; exact hI

def s_ref06_CheckRules (p0 : (Int × (Int × ((Int × (Int × Int)) × ((Int × (Int × Int)) × (Int × (Int × ((Int × (Int × Int)) × (((Int × (Int × Int)) × ((Int × (Int × Int)) × (Int × (Int × Int)))) × (List (Int × Int))))))))))) : (Int × Int) :=
  (cond (cond (!(s_base_Within p0.1 (1 : Int) (1000000 : Int))) true (!(s_base_Within p0.2.1 (0 : Int) (100 : Int)))) ((0 : Int), (2 : Int))
    (cond (cond (!(s_base_Within p0.2.2.1.1 (0 : Int) (1000000 : Int))) true (!(s_base_Within p0.2.2.2.1.1 (0 : Int) (1000 : Int)))) ((0 : Int), (2 : Int))
    (cond (cond (!(s_base_Within p0.2.2.1.2.1 (0 : Int) (1000000 : Int))) true (!(s_base_Within p0.2.2.2.1.2.1 (0 : Int) (1000 : Int)))) ((1 : Int), (2 : Int))
    (cond (cond (!(s_base_Within p0.2.2.1.2.2 (0 : Int) (1000000 : Int))) true (!(s_base_Within p0.2.2.2.1.2.2 (0 : Int) (1000 : Int)))) ((2 : Int), (2 : Int))
    (cond (cond (!(s_base_Within p0.2.2.2.2.1 (0 : Int) (200 : Int))) true (!(s_base_Within p0.2.2.2.2.2.1 (Go.IntKind.wrap .i64 (p0.2.2.2.2.1 + (200 : Int))) (1000 : Int)))) ((0 : Int), (2 : Int))
    (cond (!(s_base_Within p0.2.2.2.2.2.2.1.1 (0 : Int) (1000 : Int))) ((0 : Int), (2 : Int))
    (cond (!(s_base_Within p0.2.2.2.2.2.2.1.2.1 (0 : Int) (1000 : Int))) ((1 : Int), (2 : Int))
    (cond (!(s_base_Within p0.2.2.2.2.2.2.1.2.2 (0 : Int) (1000 : Int))) ((2 : Int), (2 : Int))
    (cond (p0.2.2.2.2.2.2.1.2.1 != (1000 : Int)) ((1 : Int), (3 : Int))
    (cond (!(s_base_Within p0.2.2.2.2.2.2.2.1.1.1 (0 : Int) (1000 : Int))) ((0 : Int), (2 : Int))
    (cond (!(s_base_Within p0.2.2.2.2.2.2.2.1.2.1.1 (0 : Int) (1000 : Int))) ((0 : Int), (2 : Int))
    (cond (!(s_base_Within p0.2.2.2.2.2.2.2.1.2.2.1 (0 : Int) (1000 : Int))) ((0 : Int), (2 : Int))
    (cond ((Go.IntKind.wrap .i64 ((Go.IntKind.wrap .i64 ((Go.IntKind.wrap .i64 ((0 : Int) + p0.2.2.2.2.2.2.2.1.1.1)) + p0.2.2.2.2.2.2.2.1.2.1.1)) + p0.2.2.2.2.2.2.2.1.2.2.1)) != (1000 : Int)) ((0 : Int), (3 : Int))
    (cond (decide (p0.2.2.2.2.2.2.2.1.1.1 < (600 : Int))) ((0 : Int), (22 : Int))
    (cond (!(s_base_Within p0.2.2.2.2.2.2.2.1.1.2.1 (0 : Int) (1000 : Int))) ((1 : Int), (2 : Int))
    (cond (!(s_base_Within p0.2.2.2.2.2.2.2.1.2.1.2.1 (0 : Int) (1000 : Int))) ((1 : Int), (2 : Int))
    (cond (!(s_base_Within p0.2.2.2.2.2.2.2.1.2.2.2.1 (0 : Int) (1000 : Int))) ((1 : Int), (2 : Int))
    (cond ((Go.IntKind.wrap .i64 ((Go.IntKind.wrap .i64 ((Go.IntKind.wrap .i64 ((0 : Int) + p0.2.2.2.2.2.2.2.1.1.2.1)) + p0.2.2.2.2.2.2.2.1.2.1.2.1)) + p0.2.2.2.2.2.2.2.1.2.2.2.1)) != (1000 : Int)) ((1 : Int), (3 : Int))
    (cond (decide (p0.2.2.2.2.2.2.2.1.2.1.2.1 < (600 : Int))) ((1 : Int), (22 : Int))
    (cond (!(s_base_Within p0.2.2.2.2.2.2.2.1.1.2.2 (0 : Int) (1000 : Int))) ((2 : Int), (2 : Int))
    (cond (!(s_base_Within p0.2.2.2.2.2.2.2.1.2.1.2.2 (0 : Int) (1000 : Int))) ((2 : Int), (2 : Int))
    (cond (!(s_base_Within p0.2.2.2.2.2.2.2.1.2.2.2.2 (0 : Int) (1000 : Int))) ((2 : Int), (2 : Int))
    (cond ((Go.IntKind.wrap .i64 ((Go.IntKind.wrap .i64 ((Go.IntKind.wrap .i64 ((0 : Int) + p0.2.2.2.2.2.2.2.1.1.2.2)) + p0.2.2.2.2.2.2.2.1.2.1.2.2)) + p0.2.2.2.2.2.2.2.1.2.2.2.2)) != (1000 : Int)) ((2 : Int), (3 : Int))
    (cond (decide (p0.2.2.2.2.2.2.2.1.2.2.2.2 < (600 : Int))) ((2 : Int), (22 : Int))
    (cond (decide ((((List.length p0.2.2.2.2.2.2.2.2) : Nat) : Int) < (2 : Int))) ((0 : Int), (10 : Int))
    (cond (decide ((((List.length p0.2.2.2.2.2.2.2.2) : Nat) : Int) > (8 : Int))) ((0 : Int), (8 : Int))
    (lp_ref06_CheckRules_0 p0 (0 : Int))))))))))))))))))))))))))))
abbrev pre_ref06_CheckRules (p0 : (Int × (Int × ((Int × (Int × Int)) × ((Int × (Int × Int)) × (Int × (Int × ((Int × (Int × Int)) × (((Int × (Int × Int)) × ((Int × (Int × Int)) × (Int × (Int × Int)))) × (List (Int × Int))))))))))) : List Prop := [(((cond (!(s_base_Within p0.1 (1 : Int) (1000000 : Int))) true (!(s_base_Within p0.2.1 (0 : Int) (100 : Int)))) = false) → (((cond (!(s_base_Within p0.2.2.1.1 (0 : Int) (1000000 : Int))) true (!(s_base_Within p0.2.2.2.1.1 (0 : Int) (1000 : Int)))) = false) → (((cond (!(s_base_Within p0.2.2.1.2.1 (0 : Int) (1000000 : Int))) true (!(s_base_Within p0.2.2.2.1.2.1 (0 : Int) (1000 : Int)))) = false) → (((cond (!(s_base_Within p0.2.2.1.2.2 (0 : Int) (1000000 : Int))) true (!(s_base_Within p0.2.2.2.1.2.2 (0 : Int) (1000 : Int)))) = false) → (((cond (!(s_base_Within p0.2.2.2.2.1 (0 : Int) (200 : Int))) true (!(s_base_Within p0.2.2.2.2.2.1 (Go.IntKind.wrap .i64 (p0.2.2.2.2.1 + (200 : Int))) (1000 : Int)))) = false) → (((!(s_base_Within p0.2.2.2.2.2.2.1.1 (0 : Int) (1000 : Int))) = false) → (((!(s_base_Within p0.2.2.2.2.2.2.1.2.1 (0 : Int) (1000 : Int))) = false) → (((!(s_base_Within p0.2.2.2.2.2.2.1.2.2 (0 : Int) (1000 : Int))) = false) → (((p0.2.2.2.2.2.2.1.2.1 != (1000 : Int)) = false) → (((!(s_base_Within p0.2.2.2.2.2.2.2.1.1.1 (0 : Int) (1000 : Int))) = false) → (((!(s_base_Within p0.2.2.2.2.2.2.2.1.2.1.1 (0 : Int) (1000 : Int))) = false) → (((!(s_base_Within p0.2.2.2.2.2.2.2.1.2.2.1 (0 : Int) (1000 : Int))) = false) → ((((Go.IntKind.wrap .i64 ((Go.IntKind.wrap .i64 ((Go.IntKind.wrap .i64 ((0 : Int) + p0.2.2.2.2.2.2.2.1.1.1)) + p0.2.2.2.2.2.2.2.1.2.1.1)) + p0.2.2.2.2.2.2.2.1.2.2.1)) != (1000 : Int)) = false) → (((decide (p0.2.2.2.2.2.2.2.1.1.1 < (600 : Int))) = false) → (((!(s_base_Within p0.2.2.2.2.2.2.2.1.1.2.1 (0 : Int) (1000 : Int))) = false) → (((!(s_base_Within p0.2.2.2.2.2.2.2.1.2.1.2.1 (0 : Int) (1000 : Int))) = false) → (((!(s_base_Within p0.2.2.2.2.2.2.2.1.2.2.2.1 (0 : Int) (1000 : Int))) = false) → ((((Go.IntKind.wrap .i64 ((Go.IntKind.wrap .i64 ((Go.IntKind.wrap .i64 ((0 : Int) + p0.2.2.2.2.2.2.2.1.1.2.1)) + p0.2.2.2.2.2.2.2.1.2.1.2.1)) + p0.2.2.2.2.2.2.2.1.2.2.2.1)) != (1000 : Int)) = false) → (((decide (p0.2.2.2.2.2.2.2.1.2.1.2.1 < (600 : Int))) = false) → (((!(s_base_Within p0.2.2.2.2.2.2.2.1.1.2.2 (0 : Int) (1000 : Int))) = false) → (((!(s_base_Within p0.2.2.2.2.2.2.2.1.2.1.2.2 (0 : Int) (1000 : Int))) = false) → (((!(s_base_Within p0.2.2.2.2.2.2.2.1.2.2.2.2 (0 : Int) (1000 : Int))) = false) → ((((Go.IntKind.wrap .i64 ((Go.IntKind.wrap .i64 ((Go.IntKind.wrap .i64 ((0 : Int) + p0.2.2.2.2.2.2.2.1.1.2.2)) + p0.2.2.2.2.2.2.2.1.2.1.2.2)) + p0.2.2.2.2.2.2.2.1.2.2.2.2)) != (1000 : Int)) = false) → (((decide (p0.2.2.2.2.2.2.2.1.2.2.2.2 < (600 : Int))) = false) → (((decide ((((List.length p0.2.2.2.2.2.2.2.2) : Nat) : Int) < (2 : Int))) = false) → (((decide ((((List.length p0.2.2.2.2.2.2.2.2) : Nat) : Int) > (8 : Int))) = false) → (lpre_ref06_CheckRules_0 p0 (0 : Int))))))))))))))))))))))))))))]
set_option maxHeartbeats 4000000 in
theorem d_ref06_CheckRules (p0 : (Int × (Int × ((Int × (Int × Int)) × ((Int × (Int × Int)) × (Int × (Int × ((Int × (Int × Int)) × (((Int × (Int × Int)) × ((Int × (Int × Int)) × (Int × (Int × Int)))) × (List (Int × Int))))))))))) (K : (Int × Int) → Prop) (hp : ∀ p ∈ pre_ref06_CheckRules p0, p) (h : K (s_ref06_CheckRules p0)) : w_ref06_CheckRules p0 K := by
  unfold w_ref06_CheckRules
  unfold s_ref06_CheckRules at h
  obtain ⟨hp0, _⟩ := conj_of hp
  exact ⟨(fun _ => rfl), ⟨(fun _ => rfl), ⟨(fun _ => rfl), ⟨rfl, (br' h (fun e0 h => h)
    (fun e0 h => ⟨31, ⟨fun _ => ⟨(of_decide_eq_true rfl), ⟨(of_decide_eq_true rfl), ⟨(fun _ => rfl), ⟨(fun _ => rfl), ⟨(fun _ => (of_decide_eq_true rfl)), ⟨(fun _ => (of_decide_eq_true rfl)), ⟨(fun _ => rfl), ⟨(fun _ => rfl), ⟨(fun _ => rfl), ⟨rfl, (br' h (fun e1 h => h)
    (fun e1 h => ⟨fun _ => ⟨(of_decide_eq_true rfl), ⟨(of_decide_eq_true rfl), ⟨(fun _ => rfl), ⟨(fun _ => rfl), ⟨(fun _ => (of_decide_eq_true rfl)), ⟨(fun _ => (of_decide_eq_true rfl)), ⟨(fun _ => rfl), ⟨(fun _ => rfl), ⟨(fun _ => rfl), ⟨rfl, (br' h (fun e2 h => h)
    (fun e2 h => ⟨fun _ => ⟨(of_decide_eq_true rfl), ⟨(of_decide_eq_true rfl), ⟨(fun _ => rfl), ⟨(fun _ => rfl), ⟨(fun _ => (of_decide_eq_true rfl)), ⟨(fun _ => (of_decide_eq_true rfl)), ⟨(fun _ => rfl), ⟨(fun _ => rfl), ⟨(fun _ => rfl), ⟨rfl, (br' h (fun e3 h => h)
    (fun e3 h => ⟨fun e => Bool.noConfusion (show false = true from e), fun _ => ⟨(fun _ => rfl), ⟨(fun _ => rfl), ⟨(fun _ => rfl), ⟨(fun _ => rfl), ⟨(fun _ => rfl), ⟨(fun _ => rfl), ⟨rfl, (br' h (fun e4 h => h)
    (fun e4 h => ⟨31, ⟨fun _ => ⟨(of_decide_eq_true rfl), ⟨(of_decide_eq_true rfl), (br' h (fun e5 h => h)
    (fun e5 h => ⟨fun _ => ⟨(of_decide_eq_true rfl), ⟨(of_decide_eq_true rfl), (br' h (fun e6 h => h)
    (fun e6 h => ⟨fun _ => ⟨(of_decide_eq_true rfl), ⟨(of_decide_eq_true rfl), (br' h (fun e7 h => h)
    (fun e7 h => ⟨fun e => Bool.noConfusion (show false = true from e), fun _ => (br' h (fun e8 h => h)
    (fun e8 h => ⟨31, ⟨fun _ => ⟨31, ⟨fun _ => ⟨(of_decide_eq_true rfl), ⟨(of_decide_eq_true rfl), ⟨(of_decide_eq_true rfl), ⟨(of_decide_eq_true rfl), (br' h (fun e9 h => h)
    (fun e9 h => ⟨(of_decide_eq_true rfl), ⟨(of_decide_eq_true rfl), ⟨(of_decide_eq_true rfl), ⟨(of_decide_eq_true rfl), ⟨fun _ => ⟨(of_decide_eq_true rfl), ⟨(of_decide_eq_true rfl), ⟨(of_decide_eq_true rfl), ⟨(of_decide_eq_true rfl), (br' h (fun e10 h => h)
    (fun e10 h => ⟨(of_decide_eq_true rfl), ⟨(of_decide_eq_true rfl), ⟨(of_decide_eq_true rfl), ⟨(of_decide_eq_true rfl), ⟨fun _ => ⟨(of_decide_eq_true rfl), ⟨(of_decide_eq_true rfl), ⟨(of_decide_eq_true rfl), ⟨(of_decide_eq_true rfl), (br' h (fun e11 h => h)
    (fun e11 h => ⟨(of_decide_eq_true rfl), ⟨(of_decide_eq_true rfl), ⟨(of_decide_eq_true rfl), ⟨(of_decide_eq_true rfl), ⟨fun e => Bool.noConfusion (show false = true from e), fun _ => (br' h (fun e12 h => h)
    (fun e12 h => ⟨(of_decide_eq_true rfl), ⟨(of_decide_eq_true rfl), ⟨(of_decide_eq_true rfl), ⟨(of_decide_eq_true rfl), (br' h (fun e13 h => h)
    (fun e13 h => ⟨fun _ => ⟨31, ⟨fun _ => ⟨(of_decide_eq_true rfl), ⟨(of_decide_eq_true rfl), ⟨(of_decide_eq_true rfl), ⟨(of_decide_eq_true rfl), (br' h (fun e14 h => h)
    (fun e14 h => ⟨(of_decide_eq_true rfl), ⟨(of_decide_eq_true rfl), ⟨(of_decide_eq_true rfl), ⟨(of_decide_eq_true rfl), ⟨fun _ => ⟨(of_decide_eq_true rfl), ⟨(of_decide_eq_true rfl), ⟨(of_decide_eq_true rfl), ⟨(of_decide_eq_true rfl), (br' h (fun e15 h => h)
    (fun e15 h => ⟨(of_decide_eq_true rfl), ⟨(of_decide_eq_true rfl), ⟨(of_decide_eq_true rfl), ⟨(of_decide_eq_true rfl), ⟨fun _ => ⟨(of_decide_eq_true rfl), ⟨(of_decide_eq_true rfl), ⟨(of_decide_eq_true rfl), ⟨(of_decide_eq_true rfl), (br' h (fun e16 h => h)
    (fun e16 h => ⟨(of_decide_eq_true rfl), ⟨(of_decide_eq_true rfl), ⟨(of_decide_eq_true rfl), ⟨(of_decide_eq_true rfl), ⟨fun e => Bool.noConfusion (show false = true from e), fun _ => (br' h (fun e17 h => h)
    (fun e17 h => ⟨(of_decide_eq_true rfl), ⟨(of_decide_eq_true rfl), ⟨(of_decide_eq_true rfl), ⟨(of_decide_eq_true rfl), (br' h (fun e18 h => h)
    (fun e18 h => ⟨fun _ => ⟨31, ⟨fun _ => ⟨(of_decide_eq_true rfl), ⟨(of_decide_eq_true rfl), ⟨(of_decide_eq_true rfl), ⟨(of_decide_eq_true rfl), (br' h (fun e19 h => h)
    (fun e19 h => ⟨(of_decide_eq_true rfl), ⟨(of_decide_eq_true rfl), ⟨(of_decide_eq_true rfl), ⟨(of_decide_eq_true rfl), ⟨fun _ => ⟨(of_decide_eq_true rfl), ⟨(of_decide_eq_true rfl), ⟨(of_decide_eq_true rfl), ⟨(of_decide_eq_true rfl), (br' h (fun e20 h => h)
    (fun e20 h => ⟨(of_decide_eq_true rfl), ⟨(of_decide_eq_true rfl), ⟨(of_decide_eq_true rfl), ⟨(of_decide_eq_true rfl), ⟨fun _ => ⟨(of_decide_eq_true rfl), ⟨(of_decide_eq_true rfl), ⟨(of_decide_eq_true rfl), ⟨(of_decide_eq_true rfl), (br' h (fun e21 h => h)
    (fun e21 h => ⟨(of_decide_eq_true rfl), ⟨(of_decide_eq_true rfl), ⟨(of_decide_eq_true rfl), ⟨(of_decide_eq_true rfl), ⟨fun e => Bool.noConfusion (show false = true from e), fun _ => (br' h (fun e22 h => h)
    (fun e22 h => ⟨(of_decide_eq_true rfl), ⟨(of_decide_eq_true rfl), ⟨(of_decide_eq_true rfl), ⟨(of_decide_eq_true rfl), (br' h (fun e23 h => h)
    (fun e23 h => ⟨fun e => Bool.noConfusion (show false = true from e), fun _ => (br' h (fun e24 h => h)
    (fun e24 h => (br' h (fun e25 h => h)
    (fun e25 h => (Exists.imp (fun n hn => loop_mono (fun y k k' hk hy => ⟨fun e26 => ⟨(hy.1 e26).1, ⟨(hy.1 e26).2.1, ⟨(fun _ => rfl), ⟨(fun _ => rfl), ⟨(fun _ => rfl), ⟨(hy.1 e26).2.2.1, ⟨(hy.1 e26).2.2.2.1, ⟨(fun _ => rfl), ⟨(fun _ => rfl), ⟨(fun _ => rfl), ⟨(fun _ => rfl), ⟨rfl, ⟨fun e27 => ((hy.1 e26).2.2.2.2.1 e27), fun e27 => ⟨(fun _ => rfl), ⟨(fun _ => rfl), ⟨(fun _ => rfl), ⟨((hy.1 e26).2.2.2.2.2 e27).1, ⟨((hy.1 e26).2.2.2.2.2 e27).2.1, ⟨(fun _ => rfl), ⟨(fun _ => rfl), ⟨(fun _ => rfl), ⟨(fun _ => rfl), ⟨(fun _ => rfl), ⟨(fun _ => rfl), ⟨((hy.1 e26).2.2.2.2.2 e27).2.2.1, ⟨((hy.1 e26).2.2.2.2.2 e27).2.2.2.1, ⟨(fun _ => rfl), ⟨(fun _ => rfl), ⟨(fun _ => rfl), ⟨(fun _ => rfl), ⟨rfl, ⟨fun e28 => (((hy.1 e26).2.2.2.2.2 e27).2.2.2.2.1 e28), fun e28 => (hk _ (((hy.1 e26).2.2.2.2.2 e27).2.2.2.2.2 e28))⟩⟩⟩⟩⟩⟩⟩⟩⟩⟩⟩⟩⟩⟩⟩⟩⟩⟩⟩⟩⟩⟩⟩⟩⟩⟩⟩⟩⟩⟩⟩⟩, fun e26 => (hy.2 e26)⟩) n _ hn) (lk_ref06_CheckRules_0 p0 (0 : Int) K (hp0 e0 e1 e2 e3 e4 e5 e6 e7 e8 e9 e10 e11 e12 e13 e14 e15 e16 e17 e18 e19 e20 e21 e22 e23 e24 e25) h))))))⟩))⟩⟩⟩⟩))⟩⟩⟩⟩⟩))⟩⟩⟩⟩, fun e => Bool.noConfusion (show true = false from e)⟩⟩⟩⟩⟩))⟩⟩⟩⟩, fun e => Bool.noConfusion (show true = false from e)⟩⟩⟩⟩⟩))⟩⟩⟩⟩, fun e => Bool.noConfusion (show true = false from e)⟩⟩, fun e => Bool.noConfusion (show true = false from e)⟩))⟩⟩⟩⟩))⟩⟩⟩⟩⟩))⟩⟩⟩⟩, fun e => Bool.noConfusion (show true = false from e)⟩⟩⟩⟩⟩))⟩⟩⟩⟩, fun e => Bool.noConfusion (show true = false from e)⟩⟩⟩⟩⟩))⟩⟩⟩⟩, fun e => Bool.noConfusion (show true = false from e)⟩⟩, fun e => Bool.noConfusion (show true = false from e)⟩))⟩⟩⟩⟩))⟩⟩⟩⟩⟩))⟩⟩⟩⟩, fun e => Bool.noConfusion (show true = false from e)⟩⟩⟩⟩⟩))⟩⟩⟩⟩, fun e => Bool.noConfusion (show true = false from e)⟩⟩⟩⟩⟩))⟩⟩⟩⟩, fun e => Bool.noConfusion (show true = false from e)⟩⟩, fun e => Bool.noConfusion (show true = false from e)⟩⟩))⟩))⟩⟩, fun e => Bool.noConfusion (show true = false from e)⟩))⟩⟩, fun e => Bool.noConfusion (show true = false from e)⟩))⟩⟩, fun e => Bool.noConfusion (show true = false from e)⟩⟩))⟩⟩⟩⟩⟩⟩⟩⟩))⟩⟩⟩⟩⟩⟩⟩⟩⟩⟩, fun e => Bool.noConfusion (show true = false from e)⟩))⟩⟩⟩⟩⟩⟩⟩⟩⟩⟩, fun e => Bool.noConfusion (show true = false from e)⟩))⟩⟩⟩⟩⟩⟩⟩⟩⟩⟩, fun e => Bool.noConfusion (show true = false from e)⟩⟩))⟩⟩⟩⟩
theorem tx_eqw (n a b : Int) : s_base_Within n a b = s_counts_within n a b := rfl
theorem tx_rk : ∀ (r pre : List (Int × Int)), sp_rk (pre ++ r) r = sp_kn pre.length (pre.getD (pre.length - 1) (-1, 0)).1 r
  | [], _ => rfl
  | x :: r, pre => by
    have ih := tx_rk r (pre ++ [x])
    have e0 : pre ++ [x] ++ r = pre ++ x :: r := by simp
    have e1 : ((pre ++ [x]).getD ((pre ++ [x]).length - 1) (-1, 0)) = x := by
      rw [List.length_append, List.length_cons, List.length_nil, List.getD, List.getElem?_append_right (by omega)]; simp
    have e2 : (((pre ++ x :: r).length : Nat) : Int) - ((r.length : Int) + 1) = pre.length := by simp only [List.length_append, List.length_cons]; omega
    have e3 : (pre ++ x :: r).length - (r.length + 1) - 1 = pre.length - 1 := by simp
    rw [e0, e1] at ih
    have e4 : ((pre ++ [x]).length : Int) = (pre.length : Int) + 1 := by simp
    rw [e4] at ih
    unfold sp_rk sp_kn
    rw [e2, e3, ih, tx_kn1, tx_eqw, tx_eqw]
    rcases ha : s_counts_within x.1 0 1000 with _ | _
    · rfl
    · rcases hb : s_counts_within x.2 1 10000 with _ | _
      · rfl
      · rw [tx_within] at ha
        by_cases hp : pre = []
        · subst hp
          have hd : decide (x.1 ≤ -1) = false := decide_eq_false (by omega)
          show _ = cond ((cond (decide (x.1 ≤ -1)) 9 0 : Int) != 0) (0, (cond (decide (x.1 ≤ -1)) 9 0 : Int)) _
          rw [hd]; rfl
        · have hl : 0 < pre.length := List.length_pos_iff.2 hp
          have hd : decide ((pre.length : Int) > 0) = true := decide_eq_true (by omega)
          have e5 : (pre ++ x :: r).getD (pre.length - 1) (0, 0) = pre.getD (pre.length - 1) (-1, 0) := by
            rw [List.getD, List.getElem?_append_left (by omega), List.getD, List.getElem?_eq_getElem (by omega)]; rfl
          rw [hd, e5]
          cases decide (x.1 ≤ (pre.getD (pre.length - 1) (-1, 0)).1) <;> rfl
theorem tx_allc (x y z m : Int) (c : Int × Int) : cond (decide (s_counts_allWithin (x, y, z) m ≥ 0)) (s_counts_allWithin (x, y, z) m, 2) c = cond (!s_base_Within x 0 m) (0, 2) (cond (!s_base_Within y 0 m) (1, 2) (cond (!s_base_Within z 0 m) (2, 2) c)) := by
  rw [tx_all, tx_eqw, tx_eqw, tx_eqw]
  cases s_counts_within x 0 m <;> cases s_counts_within y 0 m <;> cases s_counts_within z 0 m <;> rfl
theorem tx_colc (x y z o i : Int) (c : Int × Int) : cond (v_colErr x y z o != 0) (i, v_colErr x y z o) c = cond (!s_base_Within x 0 1000) (i, 2) (cond (!s_base_Within y 0 1000) (i, 2) (cond (!s_base_Within z 0 1000) (i, 2) (cond (s_counts_total [x, y, z] != 1000) (i, 3) (cond (decide (o < 600)) (i, 22) c)))) := by
  rw [v_colErr, tx_eqw, tx_eqw, tx_eqw]
  cases s_counts_within x 0 1000 <;> cases s_counts_within y 0 1000 <;> cases s_counts_within z 0 1000 <;> cases (s_counts_total [x, y, z] != 1000) <;> cases decide (o < 600) <;> rfl
theorem tx_lenc (n : Int) (c : Int × Int) : cond (cond (decide (n < 2)) (10 : Int) (cond (decide (n > 8)) 8 0) != 0) (0, cond (decide (n < 2)) (10 : Int) (cond (decide (n > 8)) 8 0)) c = cond (decide (n < 2)) (0, 10) (cond (decide (n > 8)) (0, 8) c) := by
  cases decide (n < 2) <;> cases decide (n > 8) <;> rfl
theorem tx_ref (p : CR) : s_ref06_CheckRules p = s_counts_CheckRules p := by
  unfold s_counts_CheckRules
  have c0 : s_counts_columnErr p.2.2.2.2.2.2.2.1 0 = v_colErr p.2.2.2.2.2.2.2.1.1.1 p.2.2.2.2.2.2.2.1.2.1.1 p.2.2.2.2.2.2.2.1.2.2.1 p.2.2.2.2.2.2.2.1.1.1 := tx_col _ _ _ _
  have c1 : s_counts_columnErr p.2.2.2.2.2.2.2.1 1 = v_colErr p.2.2.2.2.2.2.2.1.1.2.1 p.2.2.2.2.2.2.2.1.2.1.2.1 p.2.2.2.2.2.2.2.1.2.2.2.1 p.2.2.2.2.2.2.2.1.2.1.2.1 := tx_col _ _ _ _
  have c2 : s_counts_columnErr p.2.2.2.2.2.2.2.1 2 = v_colErr p.2.2.2.2.2.2.2.1.1.2.2 p.2.2.2.2.2.2.2.1.2.1.2.2 p.2.2.2.2.2.2.2.1.2.2.2.2 p.2.2.2.2.2.2.2.1.2.2.2.2 := tx_col _ _ _ _
  rw [c0, c1, c2, tx_colc, tx_colc, tx_colc, tx_len, tx_lenc, show p.2.2.2.2.2.2.1 = (p.2.2.2.2.2.2.1.1, p.2.2.2.2.2.2.1.2.1, p.2.2.2.2.2.2.1.2.2) from rfl, tx_allc]
  have h : lp_counts_CheckRules_0 p ((0 : Int), (-1 : Int)) = lp_ref06_CheckRules_0 p 0 := (tx_rk p.hs []).symm
  rw [h]
  rfl
abbrev qre_ref06_CheckRules (_ : CR) : List Prop := []
abbrev t_ref06_CheckRules (p0 : CR) : Int × Int := s_counts_CheckRules p0
theorem pp_ref06_CheckRules (p0 : CR) (_ : ∀ p ∈ qre_ref06_CheckRules p0, p) : ∀ p ∈ pre_ref06_CheckRules p0, p := by
  intro p hp
  simp only [pre_ref06_CheckRules, List.mem_cons, List.not_mem_nil, or_false] at hp
  subst hp
  intros
  rename_i h
  refine ⟨?_, rfl⟩
  have : ¬ ((p0.hs.length : Nat) : Int) > 8 := of_decide_eq_false h
  unfold lenOk; omega
theorem tt_ref06_CheckRules (p0 : CR) (_ : ∀ p ∈ qre_ref06_CheckRules p0, p) : s_ref06_CheckRules p0 = t_ref06_CheckRules p0 := tx_ref p0

abbrev con_ref06_CheckRules : Con := ⟨P_ref06_CheckRules, R_ref06_CheckRules, fun x => qre_ref06_CheckRules x, fun x => t_ref06_CheckRules x⟩
theorem ok_ref06_CheckRules : ConOk Try.prog 19 con_ref06_CheckRules := ⟨k_ref06_CheckRules, fun x hx => ret_tf (ps := P_ref06_CheckRules) (rs := R_ref06_CheckRules) (x := x) (y := t_ref06_CheckRules x) e_ref06_CheckRules hC_ref06_CheckRules (tf_of (w_ref06_CheckRules_eq x (fun z => z = t_ref06_CheckRules x)) (d_ref06_CheckRules x (fun z => z = t_ref06_CheckRules x) (pp_ref06_CheckRules x hx) (tt_ref06_CheckRules x hx)))⟩
/- counts_open -/
def C_counts_open : Cons := [(16, [], con_counts_CheckRules)]
theorem hC_counts_open : ConsOk Try.prog C_counts_open := ConsOk.cons ok_counts_CheckRules <| ConsOk.nil
def w_counts_open (p0 : (Int × (Int × ((Int × (Int × Int)) × ((Int × (Int × Int)) × (Int × (Int × ((Int × (Int × Int)) × (((Int × (Int × Int)) × ((Int × (Int × Int)) × (Int × (Int × Int)))) × (List (Int × Int))))))))))) (K : ((Int × (Int × ((Int × (Int × Int)) × ((Int × (Int × Int)) × (Int × (Int × ((Int × (Int × Int)) × (((Int × (Int × Int)) × ((Int × (Int × Int)) × (Int × (Int × Int)))) × (List (Int × Int)))))))))) × Int) → Prop) : Prop :=
  (K (p0, (s_counts_CheckRules p0).2))
set_option maxHeartbeats 4000000 in
theorem w_counts_open_eq (p0 : (Int × (Int × ((Int × (Int × Int)) × ((Int × (Int × Int)) × (Int × (Int × ((Int × (Int × Int)) × (((Int × (Int × Int)) × ((Int × (Int × Int)) × (Int × (Int × Int)))) × (List (Int × Int))))))))))) (K : ((Int × (Int × ((Int × (Int × Int)) × ((Int × (Int × Int)) × (Int × (Int × ((Int × (Int × Int)) × (((Int × (Int × Int)) × ((Int × (Int × Int)) × (Int × (Int × Int)))) × (List (Int × Int)))))))))) × Int) → Prop) : tfn F_counts_open A_counts_open C_counts_open P_counts_open R_counts_open p0 K = w_counts_open p0 K := by kernel_rfl
def s_counts_open (p0 : (Int × (Int × ((Int × (Int × Int)) × ((Int × (Int × Int)) × (Int × (Int × ((Int × (Int × Int)) × (((Int × (Int × Int)) × ((Int × (Int × Int)) × (Int × (Int × Int)))) × (List (Int × Int))))))))))) : ((Int × (Int × ((Int × (Int × Int)) × ((Int × (Int × Int)) × (Int × (Int × ((Int × (Int × Int)) × (((Int × (Int × Int)) × ((Int × (Int × Int)) × (Int × (Int × Int)))) × (List (Int × Int)))))))))) × Int) :=
  (p0, (s_counts_CheckRules p0).2)
abbrev pre_counts_open (p0 : (Int × (Int × ((Int × (Int × Int)) × ((Int × (Int × Int)) × (Int × (Int × ((Int × (Int × Int)) × (((Int × (Int × Int)) × ((Int × (Int × Int)) × (Int × (Int × Int)))) × (List (Int × Int))))))))))) : List Prop := []
set_option maxHeartbeats 4000000 in
theorem d_counts_open (p0 : (Int × (Int × ((Int × (Int × Int)) × ((Int × (Int × Int)) × (Int × (Int × ((Int × (Int × Int)) × (((Int × (Int × Int)) × ((Int × (Int × Int)) × (Int × (Int × Int)))) × (List (Int × Int))))))))))) (K : ((Int × (Int × ((Int × (Int × Int)) × ((Int × (Int × Int)) × (Int × (Int × ((Int × (Int × Int)) × (((Int × (Int × Int)) × ((Int × (Int × Int)) × (Int × (Int × Int)))) × (List (Int × Int)))))))))) × Int) → Prop) (hp : ∀ p ∈ pre_counts_open p0, p) (h : K (s_counts_open p0)) : w_counts_open p0 K := by
  unfold w_counts_open
  unfold s_counts_open at h
  exact h
abbrev con_counts_open : Con := ⟨P_counts_open, R_counts_open, fun x => pre_counts_open x, fun x => s_counts_open x⟩
theorem ok_counts_open : ConOk Try.prog 82 con_counts_open := ⟨k_counts_open, fun x hx => ret_tf (ps := P_counts_open) (rs := R_counts_open) (x := x) (y := s_counts_open x) e_counts_open hC_counts_open (tf_of (w_counts_open_eq x (fun z => z = s_counts_open x)) (d_counts_open x (fun z => z = s_counts_open x) hx rfl))⟩
/- counts_isRaw -/
def C_counts_isRaw : Cons := [(74, [], con_counts_within)]
theorem hC_counts_isRaw : ConsOk Try.prog C_counts_isRaw := ConsOk.cons ok_counts_within <| ConsOk.nil
def w_counts_isRaw (p0 : Int) (K : Bool → Prop) : Prop :=
  (K (s_counts_within p0 (0 : Int) (100000 : Int)))
set_option maxHeartbeats 4000000 in
theorem w_counts_isRaw_eq (p0 : Int) (K : Bool → Prop) : tfn F_counts_isRaw A_counts_isRaw C_counts_isRaw P_counts_isRaw R_counts_isRaw p0 K = w_counts_isRaw p0 K := by kernel_rfl
def s_counts_isRaw (p0 : Int) : Bool :=
  (s_counts_within p0 (0 : Int) (100000 : Int))
abbrev pre_counts_isRaw (p0 : Int) : List Prop := []
set_option maxHeartbeats 4000000 in
theorem d_counts_isRaw (p0 : Int) (K : Bool → Prop) (hp : ∀ p ∈ pre_counts_isRaw p0, p) (h : K (s_counts_isRaw p0)) : w_counts_isRaw p0 K := by
  unfold w_counts_isRaw
  unfold s_counts_isRaw at h
  exact h
abbrev con_counts_isRaw : Con := ⟨P_counts_isRaw, R_counts_isRaw, fun x => pre_counts_isRaw x, fun x => s_counts_isRaw x⟩
theorem ok_counts_isRaw : ConOk Try.prog 104 con_counts_isRaw := ⟨k_counts_isRaw, fun x hx => ret_tf (ps := P_counts_isRaw) (rs := R_counts_isRaw) (x := x) (y := s_counts_isRaw x) e_counts_isRaw hC_counts_isRaw (tf_of (w_counts_isRaw_eq x (fun z => z = s_counts_isRaw x)) (d_counts_isRaw x (fun z => z = s_counts_isRaw x) hx rfl))⟩
/- counts_rules_has -/
def C_counts_rules_has : Cons := [(74, [], con_counts_within)]
theorem hC_counts_rules_has : ConsOk Try.prog C_counts_rules_has := ConsOk.cons ok_counts_within <| ConsOk.nil
def w_counts_rules_has (p0 : (Int × (Int × ((Int × (Int × Int)) × ((Int × (Int × Int)) × (Int × (Int × ((Int × (Int × Int)) × (((Int × (Int × Int)) × ((Int × (Int × Int)) × (Int × (Int × Int)))) × (List (Int × Int))))))))))) (p1 : Int) (K : Bool → Prop) : Prop :=
  (((0 : Int) < (((List.length p0.2.2.2.2.2.2.2.2) : Nat) : Int)) ∧
  (((0 : Int) ≤ (Go.IntKind.wrap .i64 ((((List.length p0.2.2.2.2.2.2.2.2) : Nat) : Int) - (1 : Int)))) ∧
  (((Go.IntKind.wrap .i64 ((((List.length p0.2.2.2.2.2.2.2.2) : Nat) : Int) - (1 : Int))) < (((List.length p0.2.2.2.2.2.2.2.2) : Nat) : Int)) ∧
  (K (s_counts_within p1 (List.getD p0.2.2.2.2.2.2.2.2 (Int.toNat (0 : Int)) ((0 : Int), (0 : Int))).1 (List.getD p0.2.2.2.2.2.2.2.2 (Int.toNat (Go.IntKind.wrap .i64 ((((List.length p0.2.2.2.2.2.2.2.2) : Nat) : Int) - (1 : Int)))) ((0 : Int), (0 : Int))).1)))))
set_option maxHeartbeats 4000000 in
theorem w_counts_rules_has_eq (p0 : (Int × (Int × ((Int × (Int × Int)) × ((Int × (Int × Int)) × (Int × (Int × ((Int × (Int × Int)) × (((Int × (Int × Int)) × ((Int × (Int × Int)) × (Int × (Int × Int)))) × (List (Int × Int))))))))))) (p1 : Int) (K : Bool → Prop) : tfn F_counts_rules_has A_counts_rules_has C_counts_rules_has P_counts_rules_has R_counts_rules_has (p0, p1) K = w_counts_rules_has p0 p1 K := by kernel_rfl
def s_counts_rules_has (p0 : (Int × (Int × ((Int × (Int × Int)) × ((Int × (Int × Int)) × (Int × (Int × ((Int × (Int × Int)) × (((Int × (Int × Int)) × ((Int × (Int × Int)) × (Int × (Int × Int)))) × (List (Int × Int))))))))))) (p1 : Int) : Bool :=
  (s_counts_within p1 (List.getD p0.2.2.2.2.2.2.2.2 (Int.toNat (0 : Int)) ((0 : Int), (0 : Int))).1 (List.getD p0.2.2.2.2.2.2.2.2 (Int.toNat (Go.IntKind.wrap .i64 ((((List.length p0.2.2.2.2.2.2.2.2) : Nat) : Int) - (1 : Int)))) ((0 : Int), (0 : Int))).1)
abbrev pre_counts_rules_has (p0 : (Int × (Int × ((Int × (Int × Int)) × ((Int × (Int × Int)) × (Int × (Int × ((Int × (Int × Int)) × (((Int × (Int × Int)) × ((Int × (Int × Int)) × (Int × (Int × Int)))) × (List (Int × Int))))))))))) (p1 : Int) : List Prop := [((0 : Int) < (((List.length p0.2.2.2.2.2.2.2.2) : Nat) : Int)),
    ((0 : Int) ≤ (Go.IntKind.wrap .i64 ((((List.length p0.2.2.2.2.2.2.2.2) : Nat) : Int) - (1 : Int)))),
    ((Go.IntKind.wrap .i64 ((((List.length p0.2.2.2.2.2.2.2.2) : Nat) : Int) - (1 : Int))) < (((List.length p0.2.2.2.2.2.2.2.2) : Nat) : Int))]
set_option maxHeartbeats 4000000 in
theorem d_counts_rules_has (p0 : (Int × (Int × ((Int × (Int × Int)) × ((Int × (Int × Int)) × (Int × (Int × ((Int × (Int × Int)) × (((Int × (Int × Int)) × ((Int × (Int × Int)) × (Int × (Int × Int)))) × (List (Int × Int))))))))))) (p1 : Int) (K : Bool → Prop) (hp : ∀ p ∈ pre_counts_rules_has p0 p1, p) (h : K (s_counts_rules_has p0 p1)) : w_counts_rules_has p0 p1 K := by
  unfold w_counts_rules_has
  unfold s_counts_rules_has at h
  obtain ⟨hp0, hp1, hp2, _⟩ := conj_of hp
  exact ⟨(hp0), ⟨(hp1), ⟨(hp2), h⟩⟩⟩
abbrev qre_counts_rules_has (p0 : CR) (_ : Int) : List Prop := [v_rules p0]
theorem pp_counts_rules_has (p0 : CR) (p1 : Int) (hq : ∀ p ∈ qre_counts_rules_has p0 p1, p) : ∀ p ∈ pre_counts_rules_has p0 p1, p := by
  have hv : v_rules p0 := hq _ (by simp)
  have h1 := hv.len.1
  have h2 := hv.len.2
  have hl : p0.2.2.2.2.2.2.2.2.length = p0.hs.length := rfl
  intro p hp
  simp only [pre_counts_rules_has, List.mem_cons, List.not_mem_nil, or_false] at hp
  rcases hp with rfl | rfl | rfl
  · omega
  · rw [wrap_id (by omega) (by omega)]; omega
  · rw [wrap_id (by omega) (by omega)]; omega

abbrev con_counts_rules_has : Con := ⟨P_counts_rules_has, R_counts_rules_has, fun x => qre_counts_rules_has x.1 x.2, fun x => s_counts_rules_has x.1 x.2⟩
theorem ok_counts_rules_has : ConOk Try.prog 83 con_counts_rules_has := ⟨k_counts_rules_has, fun x hx => ret_tf (ps := P_counts_rules_has) (rs := R_counts_rules_has) (x := x) (y := s_counts_rules_has x.1 x.2) e_counts_rules_has hC_counts_rules_has (tf_of (w_counts_rules_has_eq x.1 x.2 (fun z => z = s_counts_rules_has x.1 x.2)) (d_counts_rules_has x.1 x.2 (fun z => z = s_counts_rules_has x.1 x.2) (pp_counts_rules_has x.1 x.2 hx) rfl))⟩
/- counts_rules_sampleErr -/
def C_counts_rules_sampleErr : Cons := [(75, [], con_counts_allWithin), (104, [], con_counts_isRaw), (74, [], con_counts_within), (83, [], con_counts_rules_has), (100, [], con_counts_total), (78, [], con_counts_unless), (77, [], con_counts_first)]
theorem hC_counts_rules_sampleErr : ConsOk Try.prog C_counts_rules_sampleErr := ConsOk.cons ok_counts_allWithin <| ConsOk.cons ok_counts_isRaw <| ConsOk.cons ok_counts_within <| ConsOk.cons ok_counts_rules_has <| ConsOk.cons ok_counts_total <| ConsOk.cons ok_counts_unless <| ConsOk.cons ok_counts_first <| ConsOk.nil
def w_counts_rules_sampleErr (p0 : (Int × (Int × ((Int × (Int × Int)) × ((Int × (Int × Int)) × (Int × (Int × ((Int × (Int × Int)) × (((Int × (Int × Int)) × ((Int × (Int × Int)) × (Int × (Int × Int)))) × (List (Int × Int))))))))))) (p1 : ((Int × (Int × Int)) × (Int × (Int × (Int × Int))))) (K : Int → Prop) : Prop :=
  ((((decide ((s_counts_allWithin p1.1 (100000 : Int)) < (0 : Int))) = true) →
  ((decide ((s_counts_allWithin p1.1 (100000 : Int)) < (0 : Int))) = (decide ((s_counts_allWithin p1.1 (100000 : Int)) < (0 : Int))))) ∧
  ((((decide ((s_counts_allWithin p1.1 (100000 : Int)) < (0 : Int))) = true) →
  ((decide ((s_counts_allWithin p1.1 (100000 : Int)) < (0 : Int))) = (decide ((s_counts_allWithin p1.1 (100000 : Int)) < (0 : Int))))) ∧
  (((decide ((s_counts_allWithin p1.1 (100000 : Int)) < (0 : Int))) = (decide ((s_counts_allWithin p1.1 (100000 : Int)) < (0 : Int)))) ∧
  ((((cond (decide ((s_counts_allWithin p1.1 (100000 : Int)) < (0 : Int))) (s_counts_isRaw p1.2.2.1) false) = true) →
  ((cond (decide ((s_counts_allWithin p1.1 (100000 : Int)) < (0 : Int))) (s_counts_isRaw p1.2.2.1) false) = (cond (decide ((s_counts_allWithin p1.1 (100000 : Int)) < (0 : Int))) (s_counts_isRaw p1.2.2.1) false))) ∧
  ((((cond (decide ((s_counts_allWithin p1.1 (100000 : Int)) < (0 : Int))) (s_counts_isRaw p1.2.2.1) false) = true) →
  ((cond (decide ((s_counts_allWithin p1.1 (100000 : Int)) < (0 : Int))) (s_counts_isRaw p1.2.2.1) false) = (cond (decide ((s_counts_allWithin p1.1 (100000 : Int)) < (0 : Int))) (s_counts_isRaw p1.2.2.1) false))) ∧
  (((cond (decide ((s_counts_allWithin p1.1 (100000 : Int)) < (0 : Int))) (s_counts_isRaw p1.2.2.1) false) = (cond (decide ((s_counts_allWithin p1.1 (100000 : Int)) < (0 : Int))) (s_counts_isRaw p1.2.2.1) false)) ∧
  ((((cond (cond (decide ((s_counts_allWithin p1.1 (100000 : Int)) < (0 : Int))) (s_counts_isRaw p1.2.2.1) false) (s_counts_within p1.2.1 (0 : Int) (1000000 : Int)) false) = true) →
  ((cond (cond (decide ((s_counts_allWithin p1.1 (100000 : Int)) < (0 : Int))) (s_counts_isRaw p1.2.2.1) false) (s_counts_within p1.2.1 (0 : Int) (1000000 : Int)) false) = (cond (cond (decide ((s_counts_allWithin p1.1 (100000 : Int)) < (0 : Int))) (s_counts_isRaw p1.2.2.1) false) (s_counts_within p1.2.1 (0 : Int) (1000000 : Int)) false))) ∧
  ((((cond (cond (decide ((s_counts_allWithin p1.1 (100000 : Int)) < (0 : Int))) (s_counts_isRaw p1.2.2.1) false) (s_counts_within p1.2.1 (0 : Int) (1000000 : Int)) false) = true) →
  ((cond (cond (decide ((s_counts_allWithin p1.1 (100000 : Int)) < (0 : Int))) (s_counts_isRaw p1.2.2.1) false) (s_counts_within p1.2.1 (0 : Int) (1000000 : Int)) false) = (cond (cond (decide ((s_counts_allWithin p1.1 (100000 : Int)) < (0 : Int))) (s_counts_isRaw p1.2.2.1) false) (s_counts_within p1.2.1 (0 : Int) (1000000 : Int)) false))) ∧
  (((cond (cond (decide ((s_counts_allWithin p1.1 (100000 : Int)) < (0 : Int))) (s_counts_isRaw p1.2.2.1) false) (s_counts_within p1.2.1 (0 : Int) (1000000 : Int)) false) = (cond (cond (decide ((s_counts_allWithin p1.1 (100000 : Int)) < (0 : Int))) (s_counts_isRaw p1.2.2.1) false) (s_counts_within p1.2.1 (0 : Int) (1000000 : Int)) false)) ∧
  ((((cond (cond (cond (decide ((s_counts_allWithin p1.1 (100000 : Int)) < (0 : Int))) (s_counts_isRaw p1.2.2.1) false) (s_counts_within p1.2.1 (0 : Int) (1000000 : Int)) false) (s_counts_within p1.2.2.2.1 (0 : Int) (10000 : Int)) false) = true) →
  ((cond (cond (cond (decide ((s_counts_allWithin p1.1 (100000 : Int)) < (0 : Int))) (s_counts_isRaw p1.2.2.1) false) (s_counts_within p1.2.1 (0 : Int) (1000000 : Int)) false) (s_counts_within p1.2.2.2.1 (0 : Int) (10000 : Int)) false) = (cond (cond (cond (decide ((s_counts_allWithin p1.1 (100000 : Int)) < (0 : Int))) (s_counts_isRaw p1.2.2.1) false) (s_counts_within p1.2.1 (0 : Int) (1000000 : Int)) false) (s_counts_within p1.2.2.2.1 (0 : Int) (10000 : Int)) false))) ∧
  ((((cond (cond (cond (decide ((s_counts_allWithin p1.1 (100000 : Int)) < (0 : Int))) (s_counts_isRaw p1.2.2.1) false) (s_counts_within p1.2.1 (0 : Int) (1000000 : Int)) false) (s_counts_within p1.2.2.2.1 (0 : Int) (10000 : Int)) false) = true) →
  ((cond (cond (cond (decide ((s_counts_allWithin p1.1 (100000 : Int)) < (0 : Int))) (s_counts_isRaw p1.2.2.1) false) (s_counts_within p1.2.1 (0 : Int) (1000000 : Int)) false) (s_counts_within p1.2.2.2.1 (0 : Int) (10000 : Int)) false) = (cond (cond (cond (decide ((s_counts_allWithin p1.1 (100000 : Int)) < (0 : Int))) (s_counts_isRaw p1.2.2.1) false) (s_counts_within p1.2.1 (0 : Int) (1000000 : Int)) false) (s_counts_within p1.2.2.2.1 (0 : Int) (10000 : Int)) false))) ∧
  ((((cond (cond (cond (decide ((s_counts_allWithin p1.1 (100000 : Int)) < (0 : Int))) (s_counts_isRaw p1.2.2.1) false) (s_counts_within p1.2.1 (0 : Int) (1000000 : Int)) false) (s_counts_within p1.2.2.2.1 (0 : Int) (10000 : Int)) false) = true) →
  ((cond (cond (cond (decide ((s_counts_allWithin p1.1 (100000 : Int)) < (0 : Int))) (s_counts_isRaw p1.2.2.1) false) (s_counts_within p1.2.1 (0 : Int) (1000000 : Int)) false) (s_counts_within p1.2.2.2.1 (0 : Int) (10000 : Int)) false) = (cond (cond (cond (decide ((s_counts_allWithin p1.1 (100000 : Int)) < (0 : Int))) (s_counts_isRaw p1.2.2.1) false) (s_counts_within p1.2.1 (0 : Int) (1000000 : Int)) false) (s_counts_within p1.2.2.2.1 (0 : Int) (10000 : Int)) false))) ∧
  ((((cond (cond (cond (decide ((s_counts_allWithin p1.1 (100000 : Int)) < (0 : Int))) (s_counts_isRaw p1.2.2.1) false) (s_counts_within p1.2.1 (0 : Int) (1000000 : Int)) false) (s_counts_within p1.2.2.2.1 (0 : Int) (10000 : Int)) false) = true) →
  (v_rules p0)) ∧
  (((cond (cond (cond (decide ((s_counts_allWithin p1.1 (100000 : Int)) < (0 : Int))) (s_counts_isRaw p1.2.2.1) false) (s_counts_within p1.2.1 (0 : Int) (1000000 : Int)) false) (s_counts_within p1.2.2.2.1 (0 : Int) (10000 : Int)) false) = (cond (cond (cond (decide ((s_counts_allWithin p1.1 (100000 : Int)) < (0 : Int))) (s_counts_isRaw p1.2.2.1) false) (s_counts_within p1.2.1 (0 : Int) (1000000 : Int)) false) (s_counts_within p1.2.2.2.1 (0 : Int) (10000 : Int)) false)) ∧
  ((((!(cond (cond (cond (cond (decide ((s_counts_allWithin p1.1 (100000 : Int)) < (0 : Int))) (s_counts_isRaw p1.2.2.1) false) (s_counts_within p1.2.1 (0 : Int) (1000000 : Int)) false) (s_counts_within p1.2.2.2.1 (0 : Int) (10000 : Int)) false) (s_counts_rules_has p0 p1.2.2.2.2) false)) = true) →
  (K (2 : Int))) ∧
  (((!(cond (cond (cond (cond (decide ((s_counts_allWithin p1.1 (100000 : Int)) < (0 : Int))) (s_counts_isRaw p1.2.2.1) false) (s_counts_within p1.2.1 (0 : Int) (1000000 : Int)) false) (s_counts_within p1.2.2.2.1 (0 : Int) (10000 : Int)) false) (s_counts_rules_has p0 p1.2.2.2.2) false)) = false) →
  ((lenOk (p1.1.1 :: (p1.1.2.1 :: (p1.1.2.2 :: ([] : List Int))))) ∧
    ((lenOk ((s_counts_unless (decide ((s_counts_total (p1.1.1 :: (p1.1.2.1 :: (p1.1.2.2 :: ([] : List Int))))) ≤ p1.2.1)) (13 : Int)) :: ((s_counts_unless (decide ((Go.IntKind.wrap .i64 ((Go.IntKind.wrap .i64 ((2 : Int) * p0.2.1)) * p1.2.1)) ≤ p0.1)) (22 : Int)) :: ([] : List Int)))) ∧
    (K (s_counts_first ((s_counts_unless (decide ((s_counts_total (p1.1.1 :: (p1.1.2.1 :: (p1.1.2.2 :: ([] : List Int))))) ≤ p1.2.1)) (13 : Int)) :: ((s_counts_unless (decide ((Go.IntKind.wrap .i64 ((Go.IntKind.wrap .i64 ((2 : Int) * p0.2.1)) * p1.2.1)) ≤ p0.1)) (22 : Int)) :: ([] : List Int)))))))))))))))))))))))
set_option maxHeartbeats 4000000 in
theorem w_counts_rules_sampleErr_eq (p0 : (Int × (Int × ((Int × (Int × Int)) × ((Int × (Int × Int)) × (Int × (Int × ((Int × (Int × Int)) × (((Int × (Int × Int)) × ((Int × (Int × Int)) × (Int × (Int × Int)))) × (List (Int × Int))))))))))) (p1 : ((Int × (Int × Int)) × (Int × (Int × (Int × Int))))) (K : Int → Prop) : tfn F_counts_rules_sampleErr A_counts_rules_sampleErr C_counts_rules_sampleErr P_counts_rules_sampleErr R_counts_rules_sampleErr (p0, p1) K = w_counts_rules_sampleErr p0 p1 K := by kernel_rfl
def s_counts_rules_sampleErr (p0 : (Int × (Int × ((Int × (Int × Int)) × ((Int × (Int × Int)) × (Int × (Int × ((Int × (Int × Int)) × (((Int × (Int × Int)) × ((Int × (Int × Int)) × (Int × (Int × Int)))) × (List (Int × Int))))))))))) (p1 : ((Int × (Int × Int)) × (Int × (Int × (Int × Int))))) : Int :=
  (cond (!(cond (cond (cond (cond (decide ((s_counts_allWithin p1.1 (100000 : Int)) < (0 : Int))) (s_counts_isRaw p1.2.2.1) false) (s_counts_within p1.2.1 (0 : Int) (1000000 : Int)) false) (s_counts_within p1.2.2.2.1 (0 : Int) (10000 : Int)) false) (s_counts_rules_has p0 p1.2.2.2.2) false)) (2 : Int)
    (s_counts_first ((s_counts_unless (decide ((s_counts_total (p1.1.1 :: (p1.1.2.1 :: (p1.1.2.2 :: ([] : List Int))))) ≤ p1.2.1)) (13 : Int)) :: ((s_counts_unless (decide ((Go.IntKind.wrap .i64 ((Go.IntKind.wrap .i64 ((2 : Int) * p0.2.1)) * p1.2.1)) ≤ p0.1)) (22 : Int)) :: ([] : List Int)))))
abbrev pre_counts_rules_sampleErr (p0 : (Int × (Int × ((Int × (Int × Int)) × ((Int × (Int × Int)) × (Int × (Int × ((Int × (Int × Int)) × (((Int × (Int × Int)) × ((Int × (Int × Int)) × (Int × (Int × Int)))) × (List (Int × Int))))))))))) (p1 : ((Int × (Int × Int)) × (Int × (Int × (Int × Int))))) : List Prop := [(((cond (cond (cond (decide ((s_counts_allWithin p1.1 (100000 : Int)) < (0 : Int))) (s_counts_isRaw p1.2.2.1) false) (s_counts_within p1.2.1 (0 : Int) (1000000 : Int)) false) (s_counts_within p1.2.2.2.1 (0 : Int) (10000 : Int)) false) = true) → (v_rules p0))]
set_option maxHeartbeats 4000000 in
theorem d_counts_rules_sampleErr (p0 : (Int × (Int × ((Int × (Int × Int)) × ((Int × (Int × Int)) × (Int × (Int × ((Int × (Int × Int)) × (((Int × (Int × Int)) × ((Int × (Int × Int)) × (Int × (Int × Int)))) × (List (Int × Int))))))))))) (p1 : ((Int × (Int × Int)) × (Int × (Int × (Int × Int))))) (K : Int → Prop) (hp : ∀ p ∈ pre_counts_rules_sampleErr p0 p1, p) (h : K (s_counts_rules_sampleErr p0 p1)) : w_counts_rules_sampleErr p0 p1 K := by
  unfold w_counts_rules_sampleErr
  unfold s_counts_rules_sampleErr at h
  obtain ⟨hp0, _⟩ := conj_of hp
  exact ⟨(fun _ => rfl), ⟨(fun _ => rfl), ⟨rfl, ⟨(fun _ => rfl), ⟨(fun _ => rfl), ⟨rfl, ⟨(fun _ => rfl), ⟨(fun _ => rfl), ⟨rfl, ⟨(fun _ => rfl), ⟨(fun _ => rfl), ⟨(fun _ => rfl), ⟨(hp0), ⟨rfl, (br' h (fun e0 h => h)
    (fun e0 h => ⟨(lenOk_of 3 rfl (by decide)), ⟨(lenOk_of 2 rfl (by decide)), h⟩⟩))⟩⟩⟩⟩⟩⟩⟩⟩⟩⟩⟩⟩⟩⟩
abbrev CS : Type := (Int × Int × Int) × Int × Int × Int × Int
abbrev qre_counts_rules_sampleErr (p0 : CR) (_ : CS) : List Prop := [v_rules p0]
theorem pp_counts_rules_sampleErr (p0 : CR) (p1 : CS) (hq : ∀ p ∈ qre_counts_rules_sampleErr p0 p1, p) : ∀ p ∈ pre_counts_rules_sampleErr p0 p1, p := by
  have hv : v_rules p0 := hq _ (by simp)
  intro p hp
  simp only [pre_counts_rules_sampleErr, List.mem_cons, List.not_mem_nil, or_false] at hp
  subst hp
  intros
  exact hv

abbrev con_counts_rules_sampleErr : Con := ⟨P_counts_rules_sampleErr, R_counts_rules_sampleErr, fun x => qre_counts_rules_sampleErr x.1 x.2, fun x => s_counts_rules_sampleErr x.1 x.2⟩
theorem ok_counts_rules_sampleErr : ConOk Try.prog 89 con_counts_rules_sampleErr := ⟨k_counts_rules_sampleErr, fun x hx => ret_tf (ps := P_counts_rules_sampleErr) (rs := R_counts_rules_sampleErr) (x := x) (y := s_counts_rules_sampleErr x.1 x.2) e_counts_rules_sampleErr hC_counts_rules_sampleErr (tf_of (w_counts_rules_sampleErr_eq x.1 x.2 (fun z => z = s_counts_rules_sampleErr x.1 x.2)) (d_counts_rules_sampleErr x.1 x.2 (fun z => z = s_counts_rules_sampleErr x.1 x.2) (pp_counts_rules_sampleErr x.1 x.2 hx) rfl))⟩
/- counts_openSample -/
def C_counts_openSample : Cons := [(82, [], con_counts_open), (89, [], con_counts_rules_sampleErr)]
theorem hC_counts_openSample : ConsOk Try.prog C_counts_openSample := ConsOk.cons ok_counts_open <| ConsOk.cons ok_counts_rules_sampleErr <| ConsOk.nil
def w_counts_openSample (p0 : (Int × (Int × ((Int × (Int × Int)) × ((Int × (Int × Int)) × (Int × (Int × ((Int × (Int × Int)) × (((Int × (Int × Int)) × ((Int × (Int × Int)) × (Int × (Int × Int)))) × (List (Int × Int))))))))))) (p1 : ((Int × (Int × Int)) × (Int × (Int × (Int × Int))))) (K : ((Int × (Int × ((Int × (Int × Int)) × ((Int × (Int × Int)) × (Int × (Int × ((Int × (Int × Int)) × (((Int × (Int × Int)) × ((Int × (Int × Int)) × (Int × (Int × Int)))) × (List (Int × Int)))))))))) × Int) → Prop) : Prop :=
  (((((s_counts_CheckRules p0).2 == (0 : Int)) = true) →
  ((v_rules p0) ∧
    (K (p0, (s_counts_rules_sampleErr p0 p1))))) ∧
  ((((s_counts_CheckRules p0).2 == (0 : Int)) = false) →
  (K (p0, (s_counts_CheckRules p0).2))))
set_option maxHeartbeats 4000000 in
theorem w_counts_openSample_eq (p0 : (Int × (Int × ((Int × (Int × Int)) × ((Int × (Int × Int)) × (Int × (Int × ((Int × (Int × Int)) × (((Int × (Int × Int)) × ((Int × (Int × Int)) × (Int × (Int × Int)))) × (List (Int × Int))))))))))) (p1 : ((Int × (Int × Int)) × (Int × (Int × (Int × Int))))) (K : ((Int × (Int × ((Int × (Int × Int)) × ((Int × (Int × Int)) × (Int × (Int × ((Int × (Int × Int)) × (((Int × (Int × Int)) × ((Int × (Int × Int)) × (Int × (Int × Int)))) × (List (Int × Int)))))))))) × Int) → Prop) : tfn F_counts_openSample A_counts_openSample C_counts_openSample P_counts_openSample R_counts_openSample (p0, p1) K = w_counts_openSample p0 p1 K := by kernel_rfl
def s_counts_openSample (p0 : (Int × (Int × ((Int × (Int × Int)) × ((Int × (Int × Int)) × (Int × (Int × ((Int × (Int × Int)) × (((Int × (Int × Int)) × ((Int × (Int × Int)) × (Int × (Int × Int)))) × (List (Int × Int))))))))))) (p1 : ((Int × (Int × Int)) × (Int × (Int × (Int × Int))))) : ((Int × (Int × ((Int × (Int × Int)) × ((Int × (Int × Int)) × (Int × (Int × ((Int × (Int × Int)) × (((Int × (Int × Int)) × ((Int × (Int × Int)) × (Int × (Int × Int)))) × (List (Int × Int)))))))))) × Int) :=
  (cond ((s_counts_CheckRules p0).2 == (0 : Int)) (p0, (s_counts_rules_sampleErr p0 p1))
    (p0, (s_counts_CheckRules p0).2))
abbrev pre_counts_openSample (p0 : (Int × (Int × ((Int × (Int × Int)) × ((Int × (Int × Int)) × (Int × (Int × ((Int × (Int × Int)) × (((Int × (Int × Int)) × ((Int × (Int × Int)) × (Int × (Int × Int)))) × (List (Int × Int))))))))))) (p1 : ((Int × (Int × Int)) × (Int × (Int × (Int × Int))))) : List Prop := [((((s_counts_CheckRules p0).2 == (0 : Int)) = true) → (v_rules p0))]
set_option maxHeartbeats 4000000 in
theorem d_counts_openSample (p0 : (Int × (Int × ((Int × (Int × Int)) × ((Int × (Int × Int)) × (Int × (Int × ((Int × (Int × Int)) × (((Int × (Int × Int)) × ((Int × (Int × Int)) × (Int × (Int × Int)))) × (List (Int × Int))))))))))) (p1 : ((Int × (Int × Int)) × (Int × (Int × (Int × Int))))) (K : ((Int × (Int × ((Int × (Int × Int)) × ((Int × (Int × Int)) × (Int × (Int × ((Int × (Int × Int)) × (((Int × (Int × Int)) × ((Int × (Int × Int)) × (Int × (Int × Int)))) × (List (Int × Int)))))))))) × Int) → Prop) (hp : ∀ p ∈ pre_counts_openSample p0 p1, p) (h : K (s_counts_openSample p0 p1)) : w_counts_openSample p0 p1 K := by
  unfold w_counts_openSample
  unfold s_counts_openSample at h
  obtain ⟨hp0, _⟩ := conj_of hp
  exact (br' h (fun e0 h => ⟨(hp0 e0), h⟩)
    (fun e0 h => h))
/-- The error of rules and a sample. -/
def v_both (p0 : CR) (p1 : CS) : Int := cond ((s_counts_CheckRules p0).2 == 0) (s_counts_rules_sampleErr p0 p1) (s_counts_CheckRules p0).2
theorem v_both_rules {p0 : CR} {p1 : CS} (h : v_both p0 p1 = 0) : (s_counts_CheckRules p0).2 = 0 := by
  unfold v_both at h
  rcases he : ((s_counts_CheckRules p0).2 == 0) with _ | _
  · rw [he] at h; exact h
  · simpa using he
abbrev t_counts_openSample (p0 : CR) (p1 : CS) : CR × Int := (p0, v_both p0 p1)
abbrev qre_counts_openSample (_ : CR) (_ : CS) : List Prop := []
theorem pp_counts_openSample (p0 : CR) (p1 : CS) (_ : ∀ p ∈ qre_counts_openSample p0 p1, p) : ∀ p ∈ pre_counts_openSample p0 p1, p := by
  intro p hp
  simp only [pre_counts_openSample, List.mem_cons, List.not_mem_nil, or_false] at hp
  subst hp
  intro h
  exact tx_valid (by simpa using h)
theorem tt_counts_openSample (p0 : CR) (p1 : CS) (_ : ∀ p ∈ qre_counts_openSample p0 p1, p) : s_counts_openSample p0 p1 = t_counts_openSample p0 p1 := by
  unfold s_counts_openSample t_counts_openSample v_both
  cases (s_counts_CheckRules p0).2 == 0 <;> rfl

abbrev con_counts_openSample : Con := ⟨P_counts_openSample, R_counts_openSample, fun x => qre_counts_openSample x.1 x.2, fun x => t_counts_openSample x.1 x.2⟩
theorem ok_counts_openSample : ConOk Try.prog 79 con_counts_openSample := ⟨k_counts_openSample, fun x hx => ret_tf (ps := P_counts_openSample) (rs := R_counts_openSample) (x := x) (y := t_counts_openSample x.1 x.2) e_counts_openSample hC_counts_openSample (tf_of (w_counts_openSample_eq x.1 x.2 (fun z => z = t_counts_openSample x.1 x.2)) (d_counts_openSample x.1 x.2 (fun z => z = t_counts_openSample x.1 x.2) (pp_counts_openSample x.1 x.2 hx) (tt_counts_openSample x.1 x.2 hx)))⟩
/-- A valid sample of valid rules. -/
structure v_samp (r : CR) (s : CS) : Prop where
  rules : v_rules r
  raw0 : 0 ≤ s.1.1 ∧ s.1.1 ≤ 100000
  raw1 : 0 ≤ s.1.2.1 ∧ s.1.2.1 ≤ 100000
  raw2 : 0 ≤ s.1.2.2 ∧ s.1.2.2 ≤ 100000
  total : 0 ≤ s.2.1 ∧ s.2.1 ≤ 1000000
  cosmic : 0 ≤ s.2.2.1 ∧ s.2.2.1 ≤ 100000
  up : 0 ≤ s.2.2.2.1 ∧ s.2.2.2.1 ≤ 10000
  high : s_counts_rules_has r s.2.2.2.2 = true
  sum : s.1.1 + s.1.2.1 + s.1.2.2 ≤ s.2.1
  dead : 2 * (r.2.1 * s.2.1) ≤ r.1
theorem tx_and {a b : Bool} (h : cond a b false = true) : a = true ∧ b = true := by
  cases a
  · cases h
  · exact ⟨rfl, h⟩
theorem tx_mul {x y a b : Int} (h1 : 0 ≤ x) (h2 : x ≤ a) (h3 : 0 ≤ y) (h4 : y ≤ b) : 0 ≤ x * y ∧ x * y ≤ a * b := ⟨Int.mul_nonneg h1 h3, Int.mul_le_mul h2 h4 h3 (by omega)⟩
theorem tx_samp {r : CR} {s : CS} (h : v_both r s = 0) : v_samp r s := by
  have h0 := v_both_rules h
  have hv := tx_valid h0
  have hs : s_counts_rules_sampleErr r s = 0 := by unfold v_both at h; rw [h0] at h; exact h
  obtain ⟨⟨a, b, c⟩, t, k, u, z⟩ := s
  unfold s_counts_rules_sampleErr at hs
  rw [tx_err _ _ _ (by decide), tx_err _ _ _ (by decide), tx_allneg] at hs
  rcases hr : (cond (cond (cond (cond (cond (!s_counts_within a 0 100000) false (cond (!s_counts_within b 0 100000) false (cond (!s_counts_within c 0 100000) false true))) (s_counts_isRaw k) false) (s_counts_within t 0 1000000) false) (s_counts_within u 0 10000) false) (s_counts_rules_has r z) false) with _ | _
  · simp only [hr] at hs; cases hs
  · simp only [hr] at hs
    obtain ⟨hr, h5⟩ := tx_and hr
    obtain ⟨hr, h4⟩ := tx_and hr
    obtain ⟨hr, h3⟩ := tx_and hr
    obtain ⟨hr, h2⟩ := tx_and hr
    rcases ha : s_counts_within a 0 100000 with _ | _
    · rw [ha] at hr; cases hr
    rcases hb : s_counts_within b 0 100000 with _ | _
    · rw [ha, hb] at hr; cases hr
    rcases hc : s_counts_within c 0 100000 with _ | _
    · rw [ha, hb, hc] at hr; cases hr
    have h2' : s_counts_within k 0 100000 = true := h2
    rw [tx_within] at ha hb hc h2' h3 h4
    rcases g1 : decide (s_counts_total [a, b, c] ≤ t) with _ | _
    · rw [g1] at hs; cases hs
    rcases g2 : decide (IntKind.i64.wrap (IntKind.i64.wrap (2 * r.2.1) * t) ≤ r.1) with _ | _
    · rw [g1, g2] at hs; cases hs
    have g1' := of_decide_eq_true g1
    have g2' := of_decide_eq_true g2
    have g3 : s_counts_total [a, b, c] = IntKind.i64.wrap (IntKind.i64.wrap (IntKind.i64.wrap (0 + a) + b) + c) := rfl
    rw [g3, wrap_id (n := 0 + a) (by omega) (by omega), wrap_id (n := 0 + a + b) (by omega) (by omega), wrap_id (by omega) (by omega)] at g1'
    have hm := tx_mul hv.dead.1 hv.dead.2 h3.1 h3.2
    have e : 2 * r.2.1 * t = 2 * (r.2.1 * t) := Int.mul_assoc _ _ _
    rw [w_mul_l, e, wrap_id (by omega) (by omega)] at g2'
    exact ⟨hv, ha, hb, hc, h3, h2', h4, h5, by show a + b + c ≤ t; omega, g2'⟩
theorem tx_live {r : CR} {s : CS} (h : v_samp r s) : IntKind.i64.wrap (r.1 - IntKind.i64.wrap (r.2.1 * s.2.1)) = r.1 - r.2.1 * s.2.1 ∧ 1 ≤ r.1 - r.2.1 * s.2.1 ∧ r.1 - r.2.1 * s.2.1 ≤ 1000000 := by
  have h1 := h.rules.period
  have h2 := h.dead
  have h3 := tx_mul h.rules.dead.1 h.rules.dead.2 h.total.1 h.total.2
  rw [w_sub_r, wrap_id (by omega) (by omega)]
  omega
theorem tx_air {r : CR} (h : v_rules r) : IntKind.i64.wrap (r.2.2.2.2.2.1 - r.2.2.2.2.1) = r.2.2.2.2.2.1 - r.2.2.2.2.1 ∧ 200 ≤ r.2.2.2.2.2.1 - r.2.2.2.2.1 ∧ r.2.2.2.2.2.1 - r.2.2.2.2.1 ≤ 1000 := by
  have h1 := h.ground
  have h2 := h.air
  rw [wrap_id (by omega) (by omega)]
  omega
theorem tx_vok {r : CR} {s : CS} (h : (v_both r s != 0) = false) : v_samp r s := tx_samp (by simpa using h)
theorem tx_rok {r : CR} (h : ((s_counts_CheckRules r).2 != 0) = false) : v_rules r := tx_valid (by simpa using h)
/- counts_isValue -/
def C_counts_isValue : Cons := [(74, [], con_counts_within)]
theorem hC_counts_isValue : ConsOk Try.prog C_counts_isValue := ConsOk.cons ok_counts_within <| ConsOk.nil
def w_counts_isValue (p0 : Int) (K : Bool → Prop) : Prop :=
  (K (s_counts_within p0 (-1000000000 : Int) (1000000000 : Int)))
set_option maxHeartbeats 4000000 in
theorem w_counts_isValue_eq (p0 : Int) (K : Bool → Prop) : tfn F_counts_isValue A_counts_isValue C_counts_isValue P_counts_isValue R_counts_isValue p0 K = w_counts_isValue p0 K := by kernel_rfl
def s_counts_isValue (p0 : Int) : Bool :=
  (s_counts_within p0 (-1000000000 : Int) (1000000000 : Int))
abbrev pre_counts_isValue (p0 : Int) : List Prop := []
set_option maxHeartbeats 4000000 in
theorem d_counts_isValue (p0 : Int) (K : Bool → Prop) (hp : ∀ p ∈ pre_counts_isValue p0, p) (h : K (s_counts_isValue p0)) : w_counts_isValue p0 K := by
  unfold w_counts_isValue
  unfold s_counts_isValue at h
  exact h
abbrev con_counts_isValue : Con := ⟨P_counts_isValue, R_counts_isValue, fun x => pre_counts_isValue x, fun x => s_counts_isValue x⟩
theorem ok_counts_isValue : ConOk Try.prog 110 con_counts_isValue := ⟨k_counts_isValue, fun x hx => ret_tf (ps := P_counts_isValue) (rs := R_counts_isValue) (x := x) (y := s_counts_isValue x) e_counts_isValue hC_counts_isValue (tf_of (w_counts_isValue_eq x (fun z => z = s_counts_isValue x)) (d_counts_isValue x (fun z => z = s_counts_isValue x) hx rfl))⟩
/- counts_valueErr -/
def C_counts_valueErr : Cons := [(110, [], con_counts_isValue), (78, [], con_counts_unless), (77, [], con_counts_first)]
theorem hC_counts_valueErr : ConsOk Try.prog C_counts_valueErr := ConsOk.cons ok_counts_isValue <| ConsOk.cons ok_counts_unless <| ConsOk.cons ok_counts_first <| ConsOk.nil
def w_counts_valueErr (p0 : (Int × Int)) (K : Int → Prop) : Prop :=
  ((((s_counts_isValue p0.1) = true) →
  ((s_counts_isValue p0.1) = (s_counts_isValue p0.1))) ∧
  ((((s_counts_isValue p0.1) = true) →
  ((s_counts_isValue p0.1) = (s_counts_isValue p0.1))) ∧
  (((s_counts_isValue p0.1) = (s_counts_isValue p0.1)) ∧
  ((lenOk ((s_counts_unless (cond (s_counts_isValue p0.1) (s_counts_isValue p0.2) false) (2 : Int)) :: ((s_counts_unless (decide (p0.1 ≤ p0.2)) (9 : Int)) :: ([] : List Int)))) ∧
  (K (s_counts_first ((s_counts_unless (cond (s_counts_isValue p0.1) (s_counts_isValue p0.2) false) (2 : Int)) :: ((s_counts_unless (decide (p0.1 ≤ p0.2)) (9 : Int)) :: ([] : List Int)))))))))
set_option maxHeartbeats 4000000 in
theorem w_counts_valueErr_eq (p0 : (Int × Int)) (K : Int → Prop) : tfn F_counts_valueErr A_counts_valueErr C_counts_valueErr P_counts_valueErr R_counts_valueErr p0 K = w_counts_valueErr p0 K := by kernel_rfl
def s_counts_valueErr (p0 : (Int × Int)) : Int :=
  (s_counts_first ((s_counts_unless (cond (s_counts_isValue p0.1) (s_counts_isValue p0.2) false) (2 : Int)) :: ((s_counts_unless (decide (p0.1 ≤ p0.2)) (9 : Int)) :: ([] : List Int))))
abbrev pre_counts_valueErr (p0 : (Int × Int)) : List Prop := []
set_option maxHeartbeats 4000000 in
theorem d_counts_valueErr (p0 : (Int × Int)) (K : Int → Prop) (hp : ∀ p ∈ pre_counts_valueErr p0, p) (h : K (s_counts_valueErr p0)) : w_counts_valueErr p0 K := by
  unfold w_counts_valueErr
  unfold s_counts_valueErr at h
  exact ⟨(fun _ => rfl), ⟨(fun _ => rfl), ⟨rfl, ⟨(lenOk_of 2 rfl (by decide)), h⟩⟩⟩⟩
abbrev con_counts_valueErr : Con := ⟨P_counts_valueErr, R_counts_valueErr, fun x => pre_counts_valueErr x, fun x => s_counts_valueErr x⟩
theorem ok_counts_valueErr : ConOk Try.prog 80 con_counts_valueErr := ⟨k_counts_valueErr, fun x hx => ret_tf (ps := P_counts_valueErr) (rs := R_counts_valueErr) (x := x) (y := s_counts_valueErr x) e_counts_valueErr hC_counts_valueErr (tf_of (w_counts_valueErr_eq x (fun z => z = s_counts_valueErr x)) (d_counts_valueErr x (fun z => z = s_counts_valueErr x) hx rfl))⟩
/- counts_rootUp -/
def C_counts_rootUp : Cons := []
theorem hC_counts_rootUp : ConsOk Try.prog C_counts_rootUp := ConsOk.nil
def w_counts_rootUp (p0 : Int) (K : Int → Prop) : Prop :=
  (∃ n0, (loopP (fun (y1 : (Int × Int)) k2 =>
    ((((decide (y1.2 < y1.1)) = true) →
    ((((decide ((Go.IntKind.wrap .i64 ((Go.IntKind.wrap .i64 (Int.tdiv (Go.IntKind.wrap .i64 (y1.2 + y1.1)) (2 : Int))) * (Go.IntKind.wrap .i64 (Int.tdiv (Go.IntKind.wrap .i64 (y1.2 + y1.1)) (2 : Int))))) ≥ p0)) = true) →
      (k2 ((Go.IntKind.wrap .i64 (Int.tdiv (Go.IntKind.wrap .i64 (y1.2 + y1.1)) (2 : Int))), y1.2))) ∧
      (((decide ((Go.IntKind.wrap .i64 ((Go.IntKind.wrap .i64 (Int.tdiv (Go.IntKind.wrap .i64 (y1.2 + y1.1)) (2 : Int))) * (Go.IntKind.wrap .i64 (Int.tdiv (Go.IntKind.wrap .i64 (y1.2 + y1.1)) (2 : Int))))) ≥ p0)) = false) →
      (k2 (y1.1, (Go.IntKind.wrap .i64 ((Go.IntKind.wrap .i64 (Int.tdiv (Go.IntKind.wrap .i64 (y1.2 + y1.1)) (2 : Int))) + (1 : Int)))))))) ∧
    (((decide (y1.2 < y1.1)) = false) →
    (K y1.2)))) n0 ((2097152 : Int), (0 : Int))))
set_option maxHeartbeats 4000000 in
theorem w_counts_rootUp_eq (p0 : Int) (K : Int → Prop) : tfn F_counts_rootUp A_counts_rootUp C_counts_rootUp P_counts_rootUp R_counts_rootUp p0 K = w_counts_rootUp p0 K := by kernel_rfl
def b_counts_rootUp_0 (p0 : Int) (K : Int → Prop) (y : (Int × Int)) (k : (Int × Int) → Prop) : Prop :=
  (((decide (y.2 < y.1)) = true →
    (((decide ((Go.IntKind.wrap .i64 ((Go.IntKind.wrap .i64 (Int.tdiv (Go.IntKind.wrap .i64 (y.2 + y.1)) (2 : Int))) * (Go.IntKind.wrap .i64 (Int.tdiv (Go.IntKind.wrap .i64 (y.2 + y.1)) (2 : Int))))) ≥ p0)) = true →
      (k ((Go.IntKind.wrap .i64 (Int.tdiv (Go.IntKind.wrap .i64 (y.2 + y.1)) (2 : Int))), y.2))) ∧
    ((decide ((Go.IntKind.wrap .i64 ((Go.IntKind.wrap .i64 (Int.tdiv (Go.IntKind.wrap .i64 (y.2 + y.1)) (2 : Int))) * (Go.IntKind.wrap .i64 (Int.tdiv (Go.IntKind.wrap .i64 (y.2 + y.1)) (2 : Int))))) ≥ p0)) = false →
      (k (y.1, (Go.IntKind.wrap .i64 ((Go.IntKind.wrap .i64 (Int.tdiv (Go.IntKind.wrap .i64 (y.2 + y.1)) (2 : Int))) + (1 : Int)))))))) ∧
  ((decide (y.2 < y.1)) = false →
    (K y.2)))
def lp_counts_rootUp_0 (p0 : Int) (_ : Int × Int) : Int := v_rootUp p0
abbrev lpre_counts_rootUp_0 (p0 : Int) (x : Int × Int) : Prop := (0 ≤ p0 ∧ p0 ≤ 4398046511104) ∧ x = (2097152, 0)
theorem lk_counts_rootUp_0 (p0 : Int) (x : Int × Int) (K : Int → Prop) (hp : lpre_counts_rootUp_0 p0 x) (h : K (lp_counts_rootUp_0 p0 x)) : ∃ n, loopP (b_counts_rootUp_0 p0 K) n x := by
  obtain ⟨⟨hn, hn2⟩, rfl⟩ := hp
  refine ⟨2097153, loop_ind (fun n s => 0 ≤ s.2 ∧ s.2 ≤ s.1 ∧ s.1 ≤ 2097152 ∧ p0 ≤ s.1 * s.1 ∧ (s.2 = 0 ∨ (s.2 - 1) * (s.2 - 1) < p0) ∧ s.1 - s.2 < (n : Int)) (fun s hs => by omega) ?_ _ _ ⟨by decide, by decide, by decide, by simpa using hn2, .inl rfl, by decide⟩⟩
  rintro n ⟨hi, lo⟩ k ⟨h1, h2, h3, h4, h5, h6⟩ hk
  simp only at h1 h2 h3 h4 h5 h6
  have e1 : IntKind.i64.wrap (lo + hi) = lo + hi := wrap_id (by omega) (by omega)
  have e2 : (lo + hi).tdiv 2 = (lo + hi) / 2 := Int.tdiv_eq_ediv_of_nonneg (by omega)
  have e3 : IntKind.i64.wrap ((lo + hi) / 2) = (lo + hi) / 2 := wrap_id (by omega) (by omega)
  have g := mul_in (x := (lo + hi) / 2) (y := (lo + hi) / 2) (a := 2097152) (b := 2097152) (by omega) (by omega) (by omega) (by omega)
  have e4 : IntKind.i64.wrap ((lo + hi) / 2 * ((lo + hi) / 2)) = (lo + hi) / 2 * ((lo + hi) / 2) := wrap_id (by omega) (by omega)
  unfold b_counts_rootUp_0
  simp only [e1, e2, e3, e4]
  refine ⟨fun hl => ⟨fun hm => hk _ ?_, fun hm => hk _ ?_⟩, fun hl => ?_⟩
  · have hl := of_decide_eq_true hl
    have hm := of_decide_eq_true hm
    exact ⟨h1, by simp only; omega, by simp only; omega, hm, h5, by simp only; omega⟩
  · have hl := of_decide_eq_true hl
    have hm := of_decide_eq_false hm
    rw [wrap_id (by omega) (by omega)]
    exact ⟨by simp only; omega, by simp only; omega, h3, h4, .inr (by simp only; rw [show (lo + hi) / 2 + 1 - 1 = (lo + hi) / 2 by omega]; omega), by simp only; omega⟩
  · have hl := of_decide_eq_false hl
    have : lo = hi := by omega
    subst this
    have h' : K (v_rootUp p0) := h
    rw [v_rootUp_is hn h1 h4 h5] at h'
    exact h'

def s_counts_rootUp (p0 : Int) : Int :=
  (lp_counts_rootUp_0 p0 ((2097152 : Int), (0 : Int)))
abbrev pre_counts_rootUp (p0 : Int) : List Prop := [(lpre_counts_rootUp_0 p0 ((2097152 : Int), (0 : Int)))]
set_option maxHeartbeats 4000000 in
theorem d_counts_rootUp (p0 : Int) (K : Int → Prop) (hp : ∀ p ∈ pre_counts_rootUp p0, p) (h : K (s_counts_rootUp p0)) : w_counts_rootUp p0 K := by
  unfold w_counts_rootUp
  unfold s_counts_rootUp at h
  obtain ⟨hp0, _⟩ := conj_of hp
  exact (Exists.imp (fun n hn => loop_mono (fun y k k' hk hy => ⟨fun e0 => ⟨fun e1 => (hk _ ((hy.1 e0).1 e1)), fun e1 => (hk _ ((hy.1 e0).2 e1))⟩, fun e0 => (hy.2 e0)⟩) n _ hn) (lk_counts_rootUp_0 p0 ((2097152 : Int), (0 : Int)) K (hp0) h))
abbrev t_counts_rootUp (p0 : Int) : Int := v_rootUp p0
abbrev qre_counts_rootUp (p0 : Int) : List Prop := [0 ≤ p0 ∧ p0 ≤ 4398046511104]
theorem pp_counts_rootUp (p0 : Int) (hq : ∀ p ∈ qre_counts_rootUp p0, p) : ∀ p ∈ pre_counts_rootUp p0, p := by
  have hv := conj_of hq
  intro p hp
  simp only [pre_counts_rootUp, List.mem_cons, List.not_mem_nil, or_false] at hp
  subst hp
  exact ⟨hv.1, rfl⟩
theorem tt_counts_rootUp (p0 : Int) (_ : ∀ p ∈ qre_counts_rootUp p0, p) : s_counts_rootUp p0 = t_counts_rootUp p0 := rfl

abbrev con_counts_rootUp : Con := ⟨P_counts_rootUp, R_counts_rootUp, fun x => qre_counts_rootUp x, fun x => t_counts_rootUp x⟩
theorem ok_counts_rootUp : ConOk Try.prog 81 con_counts_rootUp := ⟨k_counts_rootUp, fun x hx => ret_tf (ps := P_counts_rootUp) (rs := R_counts_rootUp) (x := x) (y := t_counts_rootUp x) e_counts_rootUp hC_counts_rootUp (tf_of (w_counts_rootUp_eq x (fun z => z = t_counts_rootUp x)) (d_counts_rootUp x (fun z => z = t_counts_rootUp x) (pp_counts_rootUp x hx) (tt_counts_rootUp x hx)))⟩
/- counts_BandOf -/
def C_counts_BandOf : Cons := [(74, [], con_counts_within), (80, [], con_counts_valueErr), (78, [], con_counts_unless), (77, [], con_counts_first), (81, [], con_counts_rootUp)]
theorem hC_counts_BandOf : ConsOk Try.prog C_counts_BandOf := ConsOk.cons ok_counts_within <| ConsOk.cons ok_counts_valueErr <| ConsOk.cons ok_counts_unless <| ConsOk.cons ok_counts_first <| ConsOk.cons ok_counts_rootUp <| ConsOk.nil
def w_counts_BandOf (p0 : (Int × Int)) (p1 : Int) (p2 : Int) (K : ((Int × Int) × Int) → Prop) : Prop :=
  ((((s_counts_within p1 (0 : Int) (1000000000000 : Int)) = true) →
  ((s_counts_within p1 (0 : Int) (1000000000000 : Int)) = (s_counts_within p1 (0 : Int) (1000000000000 : Int)))) ∧
  (((s_counts_within p1 (0 : Int) (1000000000000 : Int)) = (s_counts_within p1 (0 : Int) (1000000000000 : Int))) ∧
  ((lenOk ((s_counts_valueErr p0) :: ((s_counts_unless (cond (s_counts_within p1 (0 : Int) (1000000000000 : Int)) (s_counts_within p2 (0 : Int) (5 : Int)) false) (2 : Int)) :: ([] : List Int)))) ∧
  (((((s_counts_first ((s_counts_valueErr p0) :: ((s_counts_unless (cond (s_counts_within p1 (0 : Int) (1000000000000 : Int)) (s_counts_within p2 (0 : Int) (5 : Int)) false) (2 : Int)) :: ([] : List Int)))) != (0 : Int)) = true) →
  (K (((0 : Int), (0 : Int)), (s_counts_first ((s_counts_valueErr p0) :: ((s_counts_unless (cond (s_counts_within p1 (0 : Int) (1000000000000 : Int)) (s_counts_within p2 (0 : Int) (5 : Int)) false) (2 : Int)) :: ([] : List Int))))))) ∧
  ((((s_counts_first ((s_counts_valueErr p0) :: ((s_counts_unless (cond (s_counts_within p1 (0 : Int) (1000000000000 : Int)) (s_counts_within p2 (0 : Int) (5 : Int)) false) (2 : Int)) :: ([] : List Int)))) != (0 : Int)) = false) →
  ((((0 : Int) ≤ p1) ∧
    (p1 ≤ (4398046511104 : Int))) ∧
    (K (((Go.IntKind.wrap .i64 (p0.1 - (Go.IntKind.wrap .i64 (p2 * (v_rootUp p1))))), (Go.IntKind.wrap .i64 (p0.2 + (Go.IntKind.wrap .i64 (p2 * (v_rootUp p1)))))), (0 : Int)))))))))
set_option maxHeartbeats 4000000 in
theorem w_counts_BandOf_eq (p0 : (Int × Int)) (p1 : Int) (p2 : Int) (K : ((Int × Int) × Int) → Prop) : tfn F_counts_BandOf A_counts_BandOf C_counts_BandOf P_counts_BandOf R_counts_BandOf (p0, p1, p2) K = w_counts_BandOf p0 p1 p2 K := by kernel_rfl
def s_counts_BandOf (p0 : (Int × Int)) (p1 : Int) (p2 : Int) : ((Int × Int) × Int) :=
  (cond ((s_counts_first ((s_counts_valueErr p0) :: ((s_counts_unless (cond (s_counts_within p1 (0 : Int) (1000000000000 : Int)) (s_counts_within p2 (0 : Int) (5 : Int)) false) (2 : Int)) :: ([] : List Int)))) != (0 : Int)) (((0 : Int), (0 : Int)), (s_counts_first ((s_counts_valueErr p0) :: ((s_counts_unless (cond (s_counts_within p1 (0 : Int) (1000000000000 : Int)) (s_counts_within p2 (0 : Int) (5 : Int)) false) (2 : Int)) :: ([] : List Int)))))
    (((Go.IntKind.wrap .i64 (p0.1 - (Go.IntKind.wrap .i64 (p2 * (v_rootUp p1))))), (Go.IntKind.wrap .i64 (p0.2 + (Go.IntKind.wrap .i64 (p2 * (v_rootUp p1)))))), (0 : Int)))
abbrev pre_counts_BandOf (p0 : (Int × Int)) (p1 : Int) (p2 : Int) : List Prop := [((((s_counts_first ((s_counts_valueErr p0) :: ((s_counts_unless (cond (s_counts_within p1 (0 : Int) (1000000000000 : Int)) (s_counts_within p2 (0 : Int) (5 : Int)) false) (2 : Int)) :: ([] : List Int)))) != (0 : Int)) = false) → (((0 : Int) ≤ p1) ∧ (p1 ≤ (4398046511104 : Int))))]
set_option maxHeartbeats 4000000 in
theorem d_counts_BandOf (p0 : (Int × Int)) (p1 : Int) (p2 : Int) (K : ((Int × Int) × Int) → Prop) (hp : ∀ p ∈ pre_counts_BandOf p0 p1 p2, p) (h : K (s_counts_BandOf p0 p1 p2)) : w_counts_BandOf p0 p1 p2 K := by
  unfold w_counts_BandOf
  unfold s_counts_BandOf at h
  obtain ⟨hp0, _⟩ := conj_of hp
  exact ⟨(fun _ => rfl), ⟨rfl, ⟨(lenOk_of 2 rfl (by decide)), (br' h (fun e0 h => h)
    (fun e0 h => ⟨(hp0 e0), h⟩))⟩⟩⟩
/-- The error of a band. -/
def v_bandErr (x : Int × Int) (q t : Int) : Int := s_counts_first (s_counts_valueErr x :: s_counts_unless (cond (s_counts_within q 0 1000000000000) (s_counts_within t 0 5) false) 2 :: [])
structure v_value (x : Int × Int) : Prop where
  lo : -1000000000 ≤ x.1 ∧ x.1 ≤ 1000000000
  hi : -1000000000 ≤ x.2 ∧ x.2 ≤ 1000000000
  le : x.1 ≤ x.2
structure v_bandok (x : Int × Int) (q t : Int) : Prop where
  val : v_value x
  sq : 0 ≤ q ∧ q ≤ 1000000000000
  ti : 0 ≤ t ∧ t ≤ 5
theorem tx_first0 {x : Int} {l : List Int} (h : s_counts_first (x :: l) = 0) : x = 0 ∧ s_counts_first l = 0 := by
  unfold s_counts_first at h
  by_cases hx : x = 0
  · rw [if_pos hx] at h; exact ⟨hx, h⟩
  · rw [if_neg hx] at h; exact (hx h).elim
theorem tx_unless0 {a : Bool} {x : Int} (hx : x ≠ 0) (h : s_counts_unless a x = 0) : a = true := by
  cases a
  · exact (hx h).elim
  · rfl
theorem tx_value {x : Int × Int} (h : s_counts_valueErr x = 0) : v_value x := by
  unfold s_counts_valueErr at h
  obtain ⟨h1, h⟩ := tx_first0 h
  obtain ⟨h2, h⟩ := tx_first0 h
  obtain ⟨h3, h4⟩ := tx_and (tx_unless0 (by decide) h1)
  have h5 := of_decide_eq_true (tx_unless0 (by decide) h2)
  have h3' : s_counts_within x.1 (-1000000000) 1000000000 = true := h3
  have h4' : s_counts_within x.2 (-1000000000) 1000000000 = true := h4
  rw [tx_within] at h3' h4'
  exact ⟨h3', h4', h5⟩
theorem tx_band {x : Int × Int} {q t : Int} (h : v_bandErr x q t = 0) : v_bandok x q t := by
  obtain ⟨h1, h⟩ := tx_first0 h
  obtain ⟨h2, h⟩ := tx_first0 h
  obtain ⟨h3, h4⟩ := tx_and (tx_unless0 (by decide) h2)
  rw [tx_within] at h3 h4
  exact ⟨tx_value h1, h3, h4⟩
theorem tx_rootUp {q : Int} (h : 0 ≤ q ∧ q ≤ 1000000000000) : 0 ≤ v_rootUp q ∧ v_rootUp q ≤ 1000000 := by
  obtain ⟨h1, h2, h3⟩ := v_rootUp_spec h.1
  refine ⟨h1, ?_⟩
  rcases h3 with h3 | h3
  · omega
  · rcases Int.lt_or_le 1000000 (v_rootUp q) with h4 | h4
    · have := sq_le (x := 1000000) (y := v_rootUp q - 1) (by decide) (by omega)
      omega
    · exact h4
/-- The band. -/
def v_band (x : Int × Int) (q t : Int) : Int × Int := (x.1 - t * v_rootUp q, x.2 + t * v_rootUp q)
theorem tx_bandw {x : Int × Int} {q t : Int} (h : v_bandok x q t) : ((IntKind.i64.wrap (x.1 - IntKind.i64.wrap (t * v_rootUp q)), IntKind.i64.wrap (x.2 + IntKind.i64.wrap (t * v_rootUp q))) : Int × Int) = v_band x q t := by
  have g := tx_rootUp h.sq
  have g2 := mul_in h.ti.1 h.ti.2 g.1 g.2
  have h1 := h.val.lo
  have h2 := h.val.hi
  unfold v_band
  rw [wrap_id (n := t * v_rootUp q) (by omega) (by omega), wrap_id (by omega) (by omega), wrap_id (by omega) (by omega)]
abbrev t_counts_BandOf (p0 : Int × Int) (p1 p2 : Int) : (Int × Int) × Int := cond (v_bandErr p0 p1 p2 != 0) ((0, 0), v_bandErr p0 p1 p2) (v_band p0 p1 p2, 0)
abbrev qre_counts_BandOf (_ : Int × Int) (_ _ : Int) : List Prop := []
theorem pp_counts_BandOf (p0 : Int × Int) (p1 p2 : Int) (_ : ∀ p ∈ qre_counts_BandOf p0 p1 p2, p) : ∀ p ∈ pre_counts_BandOf p0 p1 p2, p := by
  intro p hp
  simp only [pre_counts_BandOf, List.mem_cons, List.not_mem_nil, or_false] at hp
  subst hp
  intro h
  have h' : v_bandErr p0 p1 p2 = 0 := bne0 h
  have := (tx_band h').sq
  omega
theorem tt_counts_BandOf (p0 : Int × Int) (p1 p2 : Int) (_ : ∀ p ∈ qre_counts_BandOf p0 p1 p2, p) : s_counts_BandOf p0 p1 p2 = t_counts_BandOf p0 p1 p2 := by
  unfold s_counts_BandOf t_counts_BandOf
  rw [show s_counts_first (s_counts_valueErr p0 :: s_counts_unless (cond (s_counts_within p1 0 1000000000000) (s_counts_within p2 0 5) false) 2 :: []) = v_bandErr p0 p1 p2 from rfl]
  rcases hb : (v_bandErr p0 p1 p2 != 0) with _ | _
  · have h' : v_bandErr p0 p1 p2 = 0 := bne0 hb
    show ((_, _), (0 : Int)) = _
    rw [tx_bandw (tx_band h')]; rfl
  · rfl

abbrev con_counts_BandOf : Con := ⟨P_counts_BandOf, R_counts_BandOf, fun x => qre_counts_BandOf x.1 x.2.1 x.2.2, fun x => t_counts_BandOf x.1 x.2.1 x.2.2⟩
theorem ok_counts_BandOf : ConOk Try.prog 21 con_counts_BandOf := ⟨k_counts_BandOf, fun x hx => ret_tf (ps := P_counts_BandOf) (rs := R_counts_BandOf) (x := x) (y := t_counts_BandOf x.1 x.2.1 x.2.2) e_counts_BandOf hC_counts_BandOf (tf_of (w_counts_BandOf_eq x.1 x.2.1 x.2.2 (fun z => z = t_counts_BandOf x.1 x.2.1 x.2.2)) (d_counts_BandOf x.1 x.2.1 x.2.2 (fun z => z = t_counts_BandOf x.1 x.2.1 x.2.2) (pp_counts_BandOf x.1 x.2.1 x.2.2 hx) (tt_counts_BandOf x.1 x.2.1 x.2.2 hx)))⟩
/- counts_CheckSpectrum_1 -/
def C_counts_CheckSpectrum_1 : Cons := [(104, [], con_counts_isRaw)]
theorem hC_counts_CheckSpectrum_1 : ConsOk Try.prog C_counts_CheckSpectrum_1 := ConsOk.cons ok_counts_isRaw <| ConsOk.nil
def w_counts_CheckSpectrum_1 (p0 : Int) (K : Bool → Prop) : Prop :=
  (K (!(s_counts_isRaw p0)))
set_option maxHeartbeats 4000000 in
theorem w_counts_CheckSpectrum_1_eq (p0 : Int) (K : Bool → Prop) : tfn F_counts_CheckSpectrum_1 A_counts_CheckSpectrum_1 C_counts_CheckSpectrum_1 P_counts_CheckSpectrum_1 R_counts_CheckSpectrum_1 p0 K = w_counts_CheckSpectrum_1 p0 K := by kernel_rfl
def s_counts_CheckSpectrum_1 (p0 : Int) : Bool :=
  (!(s_counts_isRaw p0))
abbrev pre_counts_CheckSpectrum_1 (p0 : Int) : List Prop := []
set_option maxHeartbeats 4000000 in
theorem d_counts_CheckSpectrum_1 (p0 : Int) (K : Bool → Prop) (hp : ∀ p ∈ pre_counts_CheckSpectrum_1 p0, p) (h : K (s_counts_CheckSpectrum_1 p0)) : w_counts_CheckSpectrum_1 p0 K := by
  unfold w_counts_CheckSpectrum_1
  unfold s_counts_CheckSpectrum_1 at h
  exact h
abbrev con_counts_CheckSpectrum_1 : Con := ⟨P_counts_CheckSpectrum_1, R_counts_CheckSpectrum_1, fun x => pre_counts_CheckSpectrum_1 x, fun x => s_counts_CheckSpectrum_1 x⟩
theorem ok_counts_CheckSpectrum_1 : ConOk Try.prog 103 con_counts_CheckSpectrum_1 := ⟨k_counts_CheckSpectrum_1, fun x hx => ret_tf (ps := P_counts_CheckSpectrum_1) (rs := R_counts_CheckSpectrum_1) (x := x) (y := s_counts_CheckSpectrum_1 x) e_counts_CheckSpectrum_1 hC_counts_CheckSpectrum_1 (tf_of (w_counts_CheckSpectrum_1_eq x (fun z => z = s_counts_CheckSpectrum_1 x)) (d_counts_CheckSpectrum_1 x (fun z => z = s_counts_CheckSpectrum_1 x) hx rfl))⟩
/- slices_IndexFuncint_int__counts_CheckSpectrum_1 -/
def C_slices_IndexFuncint_int__counts_CheckSpectrum_1 : Cons := [(103, [], con_counts_CheckSpectrum_1)]
theorem hC_slices_IndexFuncint_int__counts_CheckSpectrum_1 : ConsOk Try.prog C_slices_IndexFuncint_int__counts_CheckSpectrum_1 := ConsOk.cons ok_counts_CheckSpectrum_1 <| ConsOk.nil
def w_slices_IndexFuncint_int__counts_CheckSpectrum_1 (p0 : (List Int)) (p1 : PUnit) (K : Int → Prop) : Prop :=
  (∃ n0, (loopP (fun (y1 : Int) k2 =>
    ((((decide (y1 < (((List.length p0) : Nat) : Int))) = true) →
    (((0 : Int) ≤ y1) ∧
      ((y1 < (((List.length p0) : Nat) : Int)) ∧
      ((((s_counts_CheckSpectrum_1 (List.getD p0 (Int.toNat y1) (0 : Int))) = true) →
      (K y1)) ∧
      (((s_counts_CheckSpectrum_1 (List.getD p0 (Int.toNat y1) (0 : Int))) = false) →
      (k2 (Go.IntKind.wrap .i64 (y1 + (1 : Int))))))))) ∧
    (((decide (y1 < (((List.length p0) : Nat) : Int))) = false) →
    (K (-1 : Int))))) n0 (0 : Int)))
set_option maxHeartbeats 4000000 in
theorem w_slices_IndexFuncint_int__counts_CheckSpectrum_1_eq (p0 : (List Int)) (p1 : PUnit) (K : Int → Prop) : tfn F_slices_IndexFuncint_int__counts_CheckSpectrum_1 A_slices_IndexFuncint_int__counts_CheckSpectrum_1 C_slices_IndexFuncint_int__counts_CheckSpectrum_1 P_slices_IndexFuncint_int__counts_CheckSpectrum_1 R_slices_IndexFuncint_int__counts_CheckSpectrum_1 (p0, p1) K = w_slices_IndexFuncint_int__counts_CheckSpectrum_1 p0 p1 K := by kernel_rfl
def b_slices_IndexFuncint_int__counts_CheckSpectrum_1_0 (p0 : (List Int)) (p1 : PUnit) (K : Int → Prop) (y : Int) (k : Int → Prop) : Prop :=
  (((decide (y < (((List.length p0) : Nat) : Int))) = true →
    (((0 : Int) ≤ y) ∧
    ((y < (((List.length p0) : Nat) : Int)) ∧
    (((s_counts_CheckSpectrum_1 (List.getD p0 (Int.toNat y) (0 : Int))) = true →
      (K y)) ∧
    ((s_counts_CheckSpectrum_1 (List.getD p0 (Int.toNat y) (0 : Int))) = false →
      (k (Go.IntKind.wrap .i64 (y + (1 : Int))))))))) ∧
  ((decide (y < (((List.length p0) : Nat) : Int))) = false →
    (K (-1 : Int))))
def lp_slices_IndexFuncint_int__counts_CheckSpectrum_1_0 (p0 : List Int) (_ : PUnit) (_ : Int) : Int := sp_out 100000 0 p0
abbrev lpre_slices_IndexFuncint_int__counts_CheckSpectrum_1_0 (p0 : List Int) (_ : PUnit) (x : Int) : Prop := lenOk p0 ∧ x = 0
theorem lk_slices_IndexFuncint_int__counts_CheckSpectrum_1_0 (p0 : List Int) (p1 : PUnit) (x : Int) (K : Int → Prop) (hp : lpre_slices_IndexFuncint_int__counts_CheckSpectrum_1_0 p0 p1 x) (h : K (lp_slices_IndexFuncint_int__counts_CheckSpectrum_1_0 p0 p1 x)) : ∃ n, loopP (b_slices_IndexFuncint_int__counts_CheckSpectrum_1_0 p0 p1 K) n x := by
  obtain ⟨hl, rfl⟩ := hp
  refine loop_list0 p0 0 (fun r => K (sp_out 100000 ((p0.length : Int) - r.length) r)) ?_ ?_ (by simpa [lp_slices_IndexFuncint_int__counts_CheckSpectrum_1_0] using h)
  · intro k hI
    unfold b_slices_IndexFuncint_int__counts_CheckSpectrum_1_0
    simpa [sp_out] using hI
  · intro j k hj hI hk
    have hj' : (j : Int) < p0.length := by omega
    unfold b_slices_IndexFuncint_int__counts_CheckSpectrum_1_0
    rw [wrap_nat (by omega)]
    have e1 : (p0.length : Int) - ((p0.getD j 0 :: p0.drop (j + 1)).length : Int) = j := by simp; omega
    have e2 : (p0.length : Int) - ((p0.drop (j + 1)).length : Int) = (j : Int) + 1 := by simp; omega
    rw [e1] at hI
    rw [e2] at hk
    simp only [hj', decide_true, Int.toNat_natCast, forall_const, Bool.true_eq_false, false_imp_iff, and_true]
    refine ⟨by omega, trivial, fun hx => ?_, fun hx => hk ?_⟩
    · have hx' : s_counts_allWithin_1 (p0.getD j 0) 100000 = true := hx
      simpa only [sp_out, hx', if_true] using hI
    · have hx' : s_counts_allWithin_1 (p0.getD j 0) 100000 = false := hx
      simpa only [sp_out, hx', Bool.false_eq_true, if_false] using hI

def s_slices_IndexFuncint_int__counts_CheckSpectrum_1 (p0 : (List Int)) (p1 : PUnit) : Int :=
  (lp_slices_IndexFuncint_int__counts_CheckSpectrum_1_0 p0 p1 (0 : Int))
abbrev pre_slices_IndexFuncint_int__counts_CheckSpectrum_1 (p0 : (List Int)) (p1 : PUnit) : List Prop := [(lpre_slices_IndexFuncint_int__counts_CheckSpectrum_1_0 p0 p1 (0 : Int))]
set_option maxHeartbeats 4000000 in
theorem d_slices_IndexFuncint_int__counts_CheckSpectrum_1 (p0 : (List Int)) (p1 : PUnit) (K : Int → Prop) (hp : ∀ p ∈ pre_slices_IndexFuncint_int__counts_CheckSpectrum_1 p0 p1, p) (h : K (s_slices_IndexFuncint_int__counts_CheckSpectrum_1 p0 p1)) : w_slices_IndexFuncint_int__counts_CheckSpectrum_1 p0 p1 K := by
  unfold w_slices_IndexFuncint_int__counts_CheckSpectrum_1
  unfold s_slices_IndexFuncint_int__counts_CheckSpectrum_1 at h
  obtain ⟨hp0, _⟩ := conj_of hp
  exact (Exists.imp (fun n hn => loop_mono (fun y k k' hk hy => ⟨fun e0 => ⟨(hy.1 e0).1, ⟨(hy.1 e0).2.1, ⟨fun e1 => ((hy.1 e0).2.2.1 e1), fun e1 => (hk _ ((hy.1 e0).2.2.2 e1))⟩⟩⟩, fun e0 => (hy.2 e0)⟩) n _ hn) (lk_slices_IndexFuncint_int__counts_CheckSpectrum_1_0 p0 p1 (0 : Int) K (hp0) h))
abbrev qre_slices_IndexFuncint_int__counts_CheckSpectrum_1 (p0 : List Int) (_ : PUnit) : List Prop := [lenOk p0]
theorem pp_slices_IndexFuncint_int__counts_CheckSpectrum_1 (p0 : List Int) (p1 : PUnit) (hq : ∀ p ∈ qre_slices_IndexFuncint_int__counts_CheckSpectrum_1 p0 p1, p) : ∀ p ∈ pre_slices_IndexFuncint_int__counts_CheckSpectrum_1 p0 p1, p := by
  have hv := (conj_of hq).1
  intro p hp
  simp only [pre_slices_IndexFuncint_int__counts_CheckSpectrum_1, List.mem_cons, List.not_mem_nil, or_false] at hp
  subst hp
  exact ⟨hv, rfl⟩

abbrev con_slices_IndexFuncint_int__counts_CheckSpectrum_1 : Con := ⟨P_slices_IndexFuncint_int__counts_CheckSpectrum_1, R_slices_IndexFuncint_int__counts_CheckSpectrum_1, fun x => qre_slices_IndexFuncint_int__counts_CheckSpectrum_1 x.1 x.2, fun x => s_slices_IndexFuncint_int__counts_CheckSpectrum_1 x.1 x.2⟩
theorem ok_slices_IndexFuncint_int__counts_CheckSpectrum_1 : ConOk Try.prog 102 con_slices_IndexFuncint_int__counts_CheckSpectrum_1 := ⟨k_slices_IndexFuncint_int__counts_CheckSpectrum_1, fun x hx => ret_tf (ps := P_slices_IndexFuncint_int__counts_CheckSpectrum_1) (rs := R_slices_IndexFuncint_int__counts_CheckSpectrum_1) (x := x) (y := s_slices_IndexFuncint_int__counts_CheckSpectrum_1 x.1 x.2) e_slices_IndexFuncint_int__counts_CheckSpectrum_1 hC_slices_IndexFuncint_int__counts_CheckSpectrum_1 (tf_of (w_slices_IndexFuncint_int__counts_CheckSpectrum_1_eq x.1 x.2 (fun z => z = s_slices_IndexFuncint_int__counts_CheckSpectrum_1 x.1 x.2)) (d_slices_IndexFuncint_int__counts_CheckSpectrum_1 x.1 x.2 (fun z => z = s_slices_IndexFuncint_int__counts_CheckSpectrum_1 x.1 x.2) (pp_slices_IndexFuncint_int__counts_CheckSpectrum_1 x.1 x.2 hx) rfl))⟩
/- counts_CheckSpectrum -/
def C_counts_CheckSpectrum : Cons := [(78, [], con_counts_unless), (77, [], con_counts_first), (102, [103], con_slices_IndexFuncint_int__counts_CheckSpectrum_1)]
theorem hC_counts_CheckSpectrum : ConsOk Try.prog C_counts_CheckSpectrum := ConsOk.cons ok_counts_unless <| ConsOk.cons ok_counts_first <| ConsOk.cons ok_slices_IndexFuncint_int__counts_CheckSpectrum_1 <| ConsOk.nil
def w_counts_CheckSpectrum (p0 : (List Int)) (K : (Int × Int) → Prop) : Prop :=
  ((lenOk ((s_counts_unless (decide ((((List.length p0) : Nat) : Int) > (0 : Int))) (10 : Int)) :: ((s_counts_unless (decide ((((List.length p0) : Nat) : Int) ≤ (64 : Int))) (8 : Int)) :: ([] : List Int)))) ∧
  (((((s_counts_first ((s_counts_unless (decide ((((List.length p0) : Nat) : Int) > (0 : Int))) (10 : Int)) :: ((s_counts_unless (decide ((((List.length p0) : Nat) : Int) ≤ (64 : Int))) (8 : Int)) :: ([] : List Int)))) != (0 : Int)) = true) →
  (K ((0 : Int), (s_counts_first ((s_counts_unless (decide ((((List.length p0) : Nat) : Int) > (0 : Int))) (10 : Int)) :: ((s_counts_unless (decide ((((List.length p0) : Nat) : Int) ≤ (64 : Int))) (8 : Int)) :: ([] : List Int))))))) ∧
  ((((s_counts_first ((s_counts_unless (decide ((((List.length p0) : Nat) : Int) > (0 : Int))) (10 : Int)) :: ((s_counts_unless (decide ((((List.length p0) : Nat) : Int) ≤ (64 : Int))) (8 : Int)) :: ([] : List Int)))) != (0 : Int)) = false) →
  ((lenOk p0) ∧
    ((((decide ((s_slices_IndexFuncint_int__counts_CheckSpectrum_1 p0 ()) ≥ (0 : Int))) = true) →
    (K ((s_slices_IndexFuncint_int__counts_CheckSpectrum_1 p0 ()), (2 : Int)))) ∧
    (((decide ((s_slices_IndexFuncint_int__counts_CheckSpectrum_1 p0 ()) ≥ (0 : Int))) = false) →
    (K ((0 : Int), (0 : Int)))))))))
set_option maxHeartbeats 4000000 in
theorem w_counts_CheckSpectrum_eq (p0 : (List Int)) (K : (Int × Int) → Prop) : tfn F_counts_CheckSpectrum A_counts_CheckSpectrum C_counts_CheckSpectrum P_counts_CheckSpectrum R_counts_CheckSpectrum p0 K = w_counts_CheckSpectrum p0 K := by kernel_rfl
def s_counts_CheckSpectrum (p0 : (List Int)) : (Int × Int) :=
  (cond ((s_counts_first ((s_counts_unless (decide ((((List.length p0) : Nat) : Int) > (0 : Int))) (10 : Int)) :: ((s_counts_unless (decide ((((List.length p0) : Nat) : Int) ≤ (64 : Int))) (8 : Int)) :: ([] : List Int)))) != (0 : Int)) ((0 : Int), (s_counts_first ((s_counts_unless (decide ((((List.length p0) : Nat) : Int) > (0 : Int))) (10 : Int)) :: ((s_counts_unless (decide ((((List.length p0) : Nat) : Int) ≤ (64 : Int))) (8 : Int)) :: ([] : List Int)))))
    (cond (decide ((s_slices_IndexFuncint_int__counts_CheckSpectrum_1 p0 ()) ≥ (0 : Int))) ((s_slices_IndexFuncint_int__counts_CheckSpectrum_1 p0 ()), (2 : Int))
    ((0 : Int), (0 : Int))))
abbrev pre_counts_CheckSpectrum (p0 : (List Int)) : List Prop := [((((s_counts_first ((s_counts_unless (decide ((((List.length p0) : Nat) : Int) > (0 : Int))) (10 : Int)) :: ((s_counts_unless (decide ((((List.length p0) : Nat) : Int) ≤ (64 : Int))) (8 : Int)) :: ([] : List Int)))) != (0 : Int)) = false) → (lenOk p0))]
set_option maxHeartbeats 4000000 in
theorem d_counts_CheckSpectrum (p0 : (List Int)) (K : (Int × Int) → Prop) (hp : ∀ p ∈ pre_counts_CheckSpectrum p0, p) (h : K (s_counts_CheckSpectrum p0)) : w_counts_CheckSpectrum p0 K := by
  unfold w_counts_CheckSpectrum
  unfold s_counts_CheckSpectrum at h
  obtain ⟨hp0, _⟩ := conj_of hp
  exact ⟨(lenOk_of 2 rfl (by decide)), (br' h (fun e0 h => h)
    (fun e0 h => ⟨(hp0 e0), (br' h (fun e1 h => h)
    (fun e1 h => h))⟩))⟩
/-- The first count out of bounds, or none. -/
def v_bad (i : Int) (l : List Int) : Int × Int := cond (decide (sp_out 100000 i l ≥ 0)) (sp_out 100000 i l, 2) (0, 0)
def v_spec (l : List Int) : Int × Int := cond ((l.length : Int) == 0) (0, 10) (cond (decide ((l.length : Int) > 64)) (0, 8) (v_bad 0 l))
structure v_spectrum (l : List Int) : Prop where
  len : 1 ≤ l.length ∧ l.length ≤ 64
  all : ∀ x ∈ l, 0 ≤ x ∧ x ≤ 100000
theorem tx_out : ∀ (l : List Int) (m i : Int), 0 ≤ i → ¬ sp_out m i l ≥ 0 → ∀ x ∈ l, 0 ≤ x ∧ x ≤ m
  | [], _, _, _, _ => by simp
  | x :: r, m, i, hi, h => by
    unfold sp_out at h
    by_cases hx : s_counts_allWithin_1 x m = true
    · rw [if_pos hx] at h; omega
    · rw [if_neg hx] at h
      have hx' : (!s_counts_within x 0 m) = false := (Bool.not_eq_true _).mp hx
      rw [tx_nwithin] at hx'
      intro y hy
      rcases List.mem_cons.1 hy with rfl | hy
      · exact hx'
      · exact tx_out r m (i + 1) (by omega) h y hy
theorem tx_spectrum {l : List Int} (h : (v_spec l).2 = 0) : v_spectrum l := by
  unfold v_spec at h
  obtain ⟨h1, h⟩ := tx_step h (by decide)
  obtain ⟨h2, h⟩ := tx_step h (by decide)
  obtain ⟨h3, h⟩ := tx_step h (show (2 : Int) ≠ 0 by decide)
  have h1' : ¬ (l.length : Int) = 0 := by simpa using h1
  have h2' := of_decide_eq_false h2
  exact ⟨by omega, tx_out l _ 0 (by decide) (of_decide_eq_false h3)⟩
abbrev t_counts_CheckSpectrum (p0 : List Int) : Int × Int := v_spec p0
abbrev qre_counts_CheckSpectrum (_ : List Int) : List Prop := []
theorem tx_specerr (n : Int) (h : 0 ≤ n) : s_counts_first (s_counts_unless (decide (n > 0)) 10 :: s_counts_unless (decide (n ≤ 64)) 8 :: []) = cond (n == 0) 10 (cond (decide (n > 64)) 8 0) := by
  rw [tx_err _ _ _ (by decide), tx_err _ _ _ (by decide)]
  have e1 : decide (n > 0) = !(n == 0) := by
    by_cases h' : n = 0
    · subst h'; rfl
    · rw [decide_eq_true (show n > 0 by omega), beq_eq_false_iff_ne.2 h']; rfl
  have e2 : decide (n ≤ 64) = !decide (n > 64) := by by_cases h' : n > 64 <;> simp [h'] <;> omega
  rw [e1, e2]
  cases (n == 0) <;> cases decide (n > 64) <;> rfl
theorem pp_counts_CheckSpectrum (p0 : List Int) (_ : ∀ p ∈ qre_counts_CheckSpectrum p0, p) : ∀ p ∈ pre_counts_CheckSpectrum p0, p := by
  intro p hp
  simp only [pre_counts_CheckSpectrum, List.mem_cons, List.not_mem_nil, or_false] at hp
  subst hp
  intro h
  rw [tx_specerr _ (by omega)] at h
  by_cases h2 : (p0.length : Int) > 64
  · rw [decide_eq_true h2, show ((p0.length : Int) == 0) = false from beq_eq_false_iff_ne.2 (by omega)] at h; cases h
  · unfold lenOk; omega
theorem tt_counts_CheckSpectrum (p0 : List Int) (_ : ∀ p ∈ qre_counts_CheckSpectrum p0, p) : s_counts_CheckSpectrum p0 = t_counts_CheckSpectrum p0 := by
  unfold s_counts_CheckSpectrum t_counts_CheckSpectrum v_spec
  rw [tx_specerr _ (by omega)]
  cases ((p0.length : Int) == 0) <;> cases decide ((p0.length : Int) > 64) <;> rfl

abbrev con_counts_CheckSpectrum : Con := ⟨P_counts_CheckSpectrum, R_counts_CheckSpectrum, fun x => qre_counts_CheckSpectrum x, fun x => t_counts_CheckSpectrum x⟩
theorem ok_counts_CheckSpectrum : ConOk Try.prog 54 con_counts_CheckSpectrum := ⟨k_counts_CheckSpectrum, fun x hx => ret_tf (ps := P_counts_CheckSpectrum) (rs := R_counts_CheckSpectrum) (x := x) (y := t_counts_CheckSpectrum x) e_counts_CheckSpectrum hC_counts_CheckSpectrum (tf_of (w_counts_CheckSpectrum_eq x (fun z => z = t_counts_CheckSpectrum x)) (d_counts_CheckSpectrum x (fun z => z = t_counts_CheckSpectrum x) (pp_counts_CheckSpectrum x hx) (tt_counts_CheckSpectrum x hx)))⟩
/- counts_spectrumErr -/
def C_counts_spectrumErr : Cons := [(54, [], con_counts_CheckSpectrum)]
theorem hC_counts_spectrumErr : ConsOk Try.prog C_counts_spectrumErr := ConsOk.cons ok_counts_CheckSpectrum <| ConsOk.nil
def w_counts_spectrumErr (p0 : (List Int)) (K : Int → Prop) : Prop :=
  (K (v_spec p0).2)
set_option maxHeartbeats 4000000 in
theorem w_counts_spectrumErr_eq (p0 : (List Int)) (K : Int → Prop) : tfn F_counts_spectrumErr A_counts_spectrumErr C_counts_spectrumErr P_counts_spectrumErr R_counts_spectrumErr p0 K = w_counts_spectrumErr p0 K := by kernel_rfl
def s_counts_spectrumErr (p0 : (List Int)) : Int :=
  (v_spec p0).2
abbrev pre_counts_spectrumErr (p0 : (List Int)) : List Prop := []
set_option maxHeartbeats 4000000 in
theorem d_counts_spectrumErr (p0 : (List Int)) (K : Int → Prop) (hp : ∀ p ∈ pre_counts_spectrumErr p0, p) (h : K (s_counts_spectrumErr p0)) : w_counts_spectrumErr p0 K := by
  unfold w_counts_spectrumErr
  unfold s_counts_spectrumErr at h
  exact h
abbrev con_counts_spectrumErr : Con := ⟨P_counts_spectrumErr, R_counts_spectrumErr, fun x => pre_counts_spectrumErr x, fun x => s_counts_spectrumErr x⟩
theorem ok_counts_spectrumErr : ConOk Try.prog 101 con_counts_spectrumErr := ⟨k_counts_spectrumErr, fun x hx => ret_tf (ps := P_counts_spectrumErr) (rs := R_counts_spectrumErr) (x := x) (y := s_counts_spectrumErr x) e_counts_spectrumErr hC_counts_spectrumErr (tf_of (w_counts_spectrumErr_eq x (fun z => z = s_counts_spectrumErr x)) (d_counts_spectrumErr x (fun z => z = s_counts_spectrumErr x) hx rfl))⟩
/- counts_windowErr_1 -/
def C_counts_windowErr_1 : Cons := [(74, [], con_counts_within)]
theorem hC_counts_windowErr_1 : ConsOk Try.prog C_counts_windowErr_1 := ConsOk.cons ok_counts_within <| ConsOk.nil
def w_counts_windowErr_1 (p0 : Int) (p1 : Int) (K : Bool → Prop) : Prop :=
  (K (s_counts_within p0 (0 : Int) (Go.IntKind.wrap .i64 (p1 - (1 : Int)))))
set_option maxHeartbeats 4000000 in
theorem w_counts_windowErr_1_eq (p0 : Int) (p1 : Int) (K : Bool → Prop) : tfn F_counts_windowErr_1 A_counts_windowErr_1 C_counts_windowErr_1 P_counts_windowErr_1 R_counts_windowErr_1 (p0, p1) K = w_counts_windowErr_1 p0 p1 K := by kernel_rfl
def s_counts_windowErr_1 (p0 : Int) (p1 : Int) : Bool :=
  (s_counts_within p0 (0 : Int) (Go.IntKind.wrap .i64 (p1 - (1 : Int))))
abbrev pre_counts_windowErr_1 (p0 : Int) (p1 : Int) : List Prop := []
set_option maxHeartbeats 4000000 in
theorem d_counts_windowErr_1 (p0 : Int) (p1 : Int) (K : Bool → Prop) (hp : ∀ p ∈ pre_counts_windowErr_1 p0 p1, p) (h : K (s_counts_windowErr_1 p0 p1)) : w_counts_windowErr_1 p0 p1 K := by
  unfold w_counts_windowErr_1
  unfold s_counts_windowErr_1 at h
  exact h
abbrev con_counts_windowErr_1 : Con := ⟨P_counts_windowErr_1, R_counts_windowErr_1, fun x => pre_counts_windowErr_1 x.1 x.2, fun x => s_counts_windowErr_1 x.1 x.2⟩
theorem ok_counts_windowErr_1 : ConOk Try.prog 124 con_counts_windowErr_1 := ⟨k_counts_windowErr_1, fun x hx => ret_tf (ps := P_counts_windowErr_1) (rs := R_counts_windowErr_1) (x := x) (y := s_counts_windowErr_1 x.1 x.2) e_counts_windowErr_1 hC_counts_windowErr_1 (tf_of (w_counts_windowErr_1_eq x.1 x.2 (fun z => z = s_counts_windowErr_1 x.1 x.2)) (d_counts_windowErr_1 x.1 x.2 (fun z => z = s_counts_windowErr_1 x.1 x.2) hx rfl))⟩
/- counts_windowErr -/
def C_counts_windowErr : Cons := [(124, [], con_counts_windowErr_1), (78, [], con_counts_unless), (77, [], con_counts_first)]
theorem hC_counts_windowErr : ConsOk Try.prog C_counts_windowErr := ConsOk.cons ok_counts_windowErr_1 <| ConsOk.cons ok_counts_unless <| ConsOk.cons ok_counts_first <| ConsOk.nil
def w_counts_windowErr (p0 : (Int × Int)) (p1 : Int) (p2 : Int) (K : Int → Prop) : Prop :=
  ((((s_counts_windowErr_1 p0.1 p1) = true) →
  ((s_counts_windowErr_1 p0.1 p1) = (s_counts_windowErr_1 p0.1 p1))) ∧
  ((((s_counts_windowErr_1 p0.1 p1) = true) →
  ((s_counts_windowErr_1 p0.1 p1) = (s_counts_windowErr_1 p0.1 p1))) ∧
  ((((s_counts_windowErr_1 p0.1 p1) = true) →
  ((s_counts_windowErr_1 p0.1 p1) = (s_counts_windowErr_1 p0.1 p1))) ∧
  (((s_counts_windowErr_1 p0.1 p1) = (s_counts_windowErr_1 p0.1 p1)) ∧
  ((((decide (p0.1 ≤ p0.2)) = true) →
  ((decide (p0.1 ≤ p0.2)) = (decide (p0.1 ≤ p0.2)))) ∧
  ((((decide (p0.1 ≤ p0.2)) = true) →
  ((decide (p0.1 ≤ p0.2)) = (decide (p0.1 ≤ p0.2)))) ∧
  ((((decide (p0.1 ≤ p0.2)) = true) →
  ((decide (p0.1 ≤ p0.2)) = (decide (p0.1 ≤ p0.2)))) ∧
  (((decide (p0.1 ≤ p0.2)) = (decide (p0.1 ≤ p0.2))) ∧
  ((lenOk ((s_counts_unless (cond (s_counts_windowErr_1 p0.1 p1) (s_counts_windowErr_1 p0.2 p1) false) (6 : Int)) :: ((s_counts_unless (cond (decide (p0.1 ≤ p0.2)) (decide (p0.1 > p2)) false) (9 : Int)) :: ([] : List Int)))) ∧
  (K (s_counts_first ((s_counts_unless (cond (s_counts_windowErr_1 p0.1 p1) (s_counts_windowErr_1 p0.2 p1) false) (6 : Int)) :: ((s_counts_unless (cond (decide (p0.1 ≤ p0.2)) (decide (p0.1 > p2)) false) (9 : Int)) :: ([] : List Int))))))))))))))
set_option maxHeartbeats 4000000 in
theorem w_counts_windowErr_eq (p0 : (Int × Int)) (p1 : Int) (p2 : Int) (K : Int → Prop) : tfn F_counts_windowErr A_counts_windowErr C_counts_windowErr P_counts_windowErr R_counts_windowErr (p0, p1, p2) K = w_counts_windowErr p0 p1 p2 K := by kernel_rfl
def s_counts_windowErr (p0 : (Int × Int)) (p1 : Int) (p2 : Int) : Int :=
  (s_counts_first ((s_counts_unless (cond (s_counts_windowErr_1 p0.1 p1) (s_counts_windowErr_1 p0.2 p1) false) (6 : Int)) :: ((s_counts_unless (cond (decide (p0.1 ≤ p0.2)) (decide (p0.1 > p2)) false) (9 : Int)) :: ([] : List Int))))
abbrev pre_counts_windowErr (p0 : (Int × Int)) (p1 : Int) (p2 : Int) : List Prop := []
set_option maxHeartbeats 4000000 in
theorem d_counts_windowErr (p0 : (Int × Int)) (p1 : Int) (p2 : Int) (K : Int → Prop) (hp : ∀ p ∈ pre_counts_windowErr p0 p1 p2, p) (h : K (s_counts_windowErr p0 p1 p2)) : w_counts_windowErr p0 p1 p2 K := by
  unfold w_counts_windowErr
  unfold s_counts_windowErr at h
  exact ⟨(fun _ => rfl), ⟨(fun _ => rfl), ⟨(fun _ => rfl), ⟨rfl, ⟨(fun _ => rfl), ⟨(fun _ => rfl), ⟨(fun _ => rfl), ⟨rfl, ⟨(lenOk_of 2 rfl (by decide)), h⟩⟩⟩⟩⟩⟩⟩⟩⟩
abbrev con_counts_windowErr : Con := ⟨P_counts_windowErr, R_counts_windowErr, fun x => pre_counts_windowErr x.1 x.2.1 x.2.2, fun x => s_counts_windowErr x.1 x.2.1 x.2.2⟩
theorem ok_counts_windowErr : ConOk Try.prog 105 con_counts_windowErr := ⟨k_counts_windowErr, fun x hx => ret_tf (ps := P_counts_windowErr) (rs := R_counts_windowErr) (x := x) (y := s_counts_windowErr x.1 x.2.1 x.2.2) e_counts_windowErr hC_counts_windowErr (tf_of (w_counts_windowErr_eq x.1 x.2.1 x.2.2 (fun z => z = s_counts_windowErr x.1 x.2.1 x.2.2)) (d_counts_windowErr x.1 x.2.1 x.2.2 (fun z => z = s_counts_windowErr x.1 x.2.1 x.2.2) hx rfl))⟩
/- counts_CheckWindows -/
def C_counts_CheckWindows : Cons := [(101, [], con_counts_spectrumErr), (105, [], con_counts_windowErr)]
theorem hC_counts_CheckWindows : ConsOk Try.prog C_counts_CheckWindows := ConsOk.cons ok_counts_spectrumErr <| ConsOk.cons ok_counts_windowErr <| ConsOk.nil
def w_counts_CheckWindows (p0 : (List Int)) (p1 : ((Int × Int) × ((Int × Int) × (Int × Int)))) (K : (Int × Int) → Prop) : Prop :=
  (((((v_spec p0).2 != (0 : Int)) = true) →
  (K ((0 : Int), (v_spec p0).2))) ∧
  ((((v_spec p0).2 != (0 : Int)) = false) →
  (∃ n0, (loopP (fun (y1 : (Int × Int)) k2 =>
      ((((decide (y1.1 < (3 : Int))) = true) →
      (((0 : Int) ≤ y1.1) ∧
        ((y1.1 < (3 : Int)) ∧
        (((((s_counts_windowErr ((List.getD (p1.1.1 :: (p1.2.1.1 :: (p1.2.2.1 :: ([] : List Int)))) (Int.toNat y1.1) (0 : Int)), (List.getD (p1.1.2 :: (p1.2.1.2 :: (p1.2.2.2 :: ([] : List Int)))) (Int.toNat y1.1) (0 : Int))) (((List.length p0) : Nat) : Int) y1.2) != (0 : Int)) = true) →
        (K (y1.1, (s_counts_windowErr ((List.getD (p1.1.1 :: (p1.2.1.1 :: (p1.2.2.1 :: ([] : List Int)))) (Int.toNat y1.1) (0 : Int)), (List.getD (p1.1.2 :: (p1.2.1.2 :: (p1.2.2.2 :: ([] : List Int)))) (Int.toNat y1.1) (0 : Int))) (((List.length p0) : Nat) : Int) y1.2)))) ∧
        ((((s_counts_windowErr ((List.getD (p1.1.1 :: (p1.2.1.1 :: (p1.2.2.1 :: ([] : List Int)))) (Int.toNat y1.1) (0 : Int)), (List.getD (p1.1.2 :: (p1.2.1.2 :: (p1.2.2.2 :: ([] : List Int)))) (Int.toNat y1.1) (0 : Int))) (((List.length p0) : Nat) : Int) y1.2) != (0 : Int)) = false) →
        (k2 ((Go.IntKind.wrap .i64 (y1.1 + (1 : Int))), (List.getD (p1.1.2 :: (p1.2.1.2 :: (p1.2.2.2 :: ([] : List Int)))) (Int.toNat y1.1) (0 : Int))))))))) ∧
      (((decide (y1.1 < (3 : Int))) = false) →
      (K ((0 : Int), (0 : Int)))))) n0 ((0 : Int), (-1 : Int))))))
set_option maxHeartbeats 4000000 in
theorem w_counts_CheckWindows_eq (p0 : (List Int)) (p1 : ((Int × Int) × ((Int × Int) × (Int × Int)))) (K : (Int × Int) → Prop) : tfn F_counts_CheckWindows A_counts_CheckWindows C_counts_CheckWindows P_counts_CheckWindows R_counts_CheckWindows (p0, p1) K = w_counts_CheckWindows p0 p1 K := by kernel_rfl
def s_counts_CheckWindows (p0 : (List Int)) (p1 : ((Int × Int) × ((Int × Int) × (Int × Int)))) : (Int × Int) :=
  (cond ((v_spec p0).2 != (0 : Int)) ((0 : Int), (v_spec p0).2)
    (cond ((s_counts_windowErr p1.1 (((List.length p0) : Nat) : Int) (-1 : Int)) != (0 : Int)) ((0 : Int), (s_counts_windowErr p1.1 (((List.length p0) : Nat) : Int) (-1 : Int)))
    (cond ((s_counts_windowErr p1.2.1 (((List.length p0) : Nat) : Int) p1.1.2) != (0 : Int)) ((1 : Int), (s_counts_windowErr p1.2.1 (((List.length p0) : Nat) : Int) p1.1.2))
    (cond ((s_counts_windowErr p1.2.2 (((List.length p0) : Nat) : Int) p1.2.1.2) != (0 : Int)) ((2 : Int), (s_counts_windowErr p1.2.2 (((List.length p0) : Nat) : Int) p1.2.1.2))
    ((0 : Int), (0 : Int))))))
abbrev pre_counts_CheckWindows (p0 : (List Int)) (p1 : ((Int × Int) × ((Int × Int) × (Int × Int)))) : List Prop := []
set_option maxHeartbeats 4000000 in
theorem d_counts_CheckWindows (p0 : (List Int)) (p1 : ((Int × Int) × ((Int × Int) × (Int × Int)))) (K : (Int × Int) → Prop) (hp : ∀ p ∈ pre_counts_CheckWindows p0 p1, p) (h : K (s_counts_CheckWindows p0 p1)) : w_counts_CheckWindows p0 p1 K := by
  unfold w_counts_CheckWindows
  unfold s_counts_CheckWindows at h
  exact (br' h (fun e0 h => h)
    (fun e0 h => ⟨31, ⟨fun _ => ⟨(of_decide_eq_true rfl), ⟨(of_decide_eq_true rfl), (br' h (fun e1 h => h)
    (fun e1 h => ⟨fun _ => ⟨(of_decide_eq_true rfl), ⟨(of_decide_eq_true rfl), (br' h (fun e2 h => h)
    (fun e2 h => ⟨fun _ => ⟨(of_decide_eq_true rfl), ⟨(of_decide_eq_true rfl), (br' h (fun e3 h => h)
    (fun e3 h => ⟨fun e => Bool.noConfusion (show false = true from e), fun _ => h⟩))⟩⟩, fun e => Bool.noConfusion (show true = false from e)⟩))⟩⟩, fun e => Bool.noConfusion (show true = false from e)⟩))⟩⟩, fun e => Bool.noConfusion (show true = false from e)⟩⟩))
abbrev con_counts_CheckWindows : Con := ⟨P_counts_CheckWindows, R_counts_CheckWindows, fun x => pre_counts_CheckWindows x.1 x.2, fun x => s_counts_CheckWindows x.1 x.2⟩
theorem ok_counts_CheckWindows : ConOk Try.prog 55 con_counts_CheckWindows := ⟨k_counts_CheckWindows, fun x hx => ret_tf (ps := P_counts_CheckWindows) (rs := R_counts_CheckWindows) (x := x) (y := s_counts_CheckWindows x.1 x.2) e_counts_CheckWindows hC_counts_CheckWindows (tf_of (w_counts_CheckWindows_eq x.1 x.2 (fun z => z = s_counts_CheckWindows x.1 x.2)) (d_counts_CheckWindows x.1 x.2 (fun z => z = s_counts_CheckWindows x.1 x.2) hx rfl))⟩
/-- Valid windows of a valid spectrum. -/
structure v_windows (l : List Int) (w : (Int × Int) × (Int × Int) × Int × Int) : Prop where
  spec : v_spectrum l
  in0 : 0 ≤ w.1.1 ∧ w.1.1 ≤ w.1.2
  ord1 : w.1.2 < w.2.1.1
  in1 : w.2.1.1 ≤ w.2.1.2
  ord2 : w.2.1.2 < w.2.2.1
  in2 : w.2.2.1 ≤ w.2.2.2 ∧ w.2.2.2 < l.length
theorem tx_window {x : Int × Int} {n a : Int} (hn : 1 ≤ n ∧ n ≤ 64) (h : s_counts_windowErr x n a = 0) : (0 ≤ x.1 ∧ x.1 < n) ∧ (0 ≤ x.2 ∧ x.2 < n) ∧ x.1 ≤ x.2 ∧ a < x.1 := by
  unfold s_counts_windowErr at h
  obtain ⟨h1, h⟩ := tx_first0 h
  obtain ⟨h2, _⟩ := tx_first0 h
  obtain ⟨h3, h4⟩ := tx_and (tx_unless0 (by decide) h1)
  obtain ⟨h5, h6⟩ := tx_and (tx_unless0 (by decide) h2)
  have h3' : s_counts_within x.1 0 (IntKind.i64.wrap (n - 1)) = true := h3
  have h4' : s_counts_within x.2 0 (IntKind.i64.wrap (n - 1)) = true := h4
  rw [wrap_id (by omega) (by omega), tx_within] at h3' h4'
  have h5 := of_decide_eq_true h5
  have h6 := of_decide_eq_true h6
  omega
theorem tx_windows {l : List Int} {w : (Int × Int) × (Int × Int) × Int × Int} (h : (s_counts_CheckWindows l w).2 = 0) : v_windows l w := by
  unfold s_counts_CheckWindows at h
  obtain ⟨h0, h⟩ := tx_step2 h
  obtain ⟨h1, h⟩ := tx_step2 h
  obtain ⟨h2, h⟩ := tx_step2 h
  obtain ⟨h3, h⟩ := tx_step2 h
  have hs := tx_spectrum h0
  have hl := hs.len
  have g1 := tx_window (by omega) h1
  have g2 := tx_window (by omega) h2
  have g3 := tx_window (by omega) h3
  exact ⟨hs, by omega, by omega, by omega, by omega, by omega⟩
/- counts_WindowSums -/
def C_counts_WindowSums : Cons := [(55, [], con_counts_CheckWindows), (100, [], con_counts_total)]
theorem hC_counts_WindowSums : ConsOk Try.prog C_counts_WindowSums := ConsOk.cons ok_counts_CheckWindows <| ConsOk.cons ok_counts_total <| ConsOk.nil
def w_counts_WindowSums (p0 : (List Int)) (p1 : ((Int × Int) × ((Int × Int) × (Int × Int)))) (K : ((Int × (Int × Int)) × (Int × Int)) → Prop) : Prop :=
  (((((s_counts_CheckWindows p0 p1).2 != (0 : Int)) = true) →
  (K (((0 : Int), ((0 : Int), (0 : Int))), ((0 : Int), (s_counts_CheckWindows p0 p1).2)))) ∧
  ((((s_counts_CheckWindows p0 p1).2 != (0 : Int)) = false) →
  (∃ n0, (loopP (fun (y1 : (Int × (Int × (Int × Int)))) k2 =>
      ((((decide (y1.1 < (3 : Int))) = true) →
      (((0 : Int) ≤ y1.1) ∧
        ((y1.1 < (3 : Int)) ∧
        (((0 : Int) ≤ (List.getD (p1.1.1 :: (p1.2.1.1 :: (p1.2.2.1 :: ([] : List Int)))) (Int.toNat y1.1) (0 : Int))) ∧
        (((List.getD (p1.1.1 :: (p1.2.1.1 :: (p1.2.2.1 :: ([] : List Int)))) (Int.toNat y1.1) (0 : Int)) ≤ (Go.IntKind.wrap .i64 ((List.getD (p1.1.2 :: (p1.2.1.2 :: (p1.2.2.2 :: ([] : List Int)))) (Int.toNat y1.1) (0 : Int)) + (1 : Int)))) ∧
        (((Go.IntKind.wrap .i64 ((List.getD (p1.1.2 :: (p1.2.1.2 :: (p1.2.2.2 :: ([] : List Int)))) (Int.toNat y1.1) (0 : Int)) + (1 : Int))) ≤ (((List.length p0) : Nat) : Int)) ∧
        ((lenOk (List.take ((Int.toNat (Go.IntKind.wrap .i64 ((List.getD (p1.1.2 :: (p1.2.1.2 :: (p1.2.2.2 :: ([] : List Int)))) (Int.toNat y1.1) (0 : Int)) + (1 : Int)))) - (Int.toNat (List.getD (p1.1.1 :: (p1.2.1.1 :: (p1.2.2.1 :: ([] : List Int)))) (Int.toNat y1.1) (0 : Int)))) (List.drop (Int.toNat (List.getD (p1.1.1 :: (p1.2.1.1 :: (p1.2.2.1 :: ([] : List Int)))) (Int.toNat y1.1) (0 : Int))) p0))) ∧
        (((0 : Int) ≤ y1.1) ∧
        ((y1.1 < (3 : Int)) ∧
        (k2 ((Go.IntKind.wrap .i64 (y1.1 + (1 : Int))), ((cond (decide (y1.1 = (0 : Int))) (s_counts_total (List.take ((Int.toNat (Go.IntKind.wrap .i64 ((List.getD (p1.1.2 :: (p1.2.1.2 :: (p1.2.2.2 :: ([] : List Int)))) (Int.toNat y1.1) (0 : Int)) + (1 : Int)))) - (Int.toNat (List.getD (p1.1.1 :: (p1.2.1.1 :: (p1.2.2.1 :: ([] : List Int)))) (Int.toNat y1.1) (0 : Int)))) (List.drop (Int.toNat (List.getD (p1.1.1 :: (p1.2.1.1 :: (p1.2.2.1 :: ([] : List Int)))) (Int.toNat y1.1) (0 : Int))) p0))) y1.2.1), ((cond (decide (y1.1 = (1 : Int))) (s_counts_total (List.take ((Int.toNat (Go.IntKind.wrap .i64 ((List.getD (p1.1.2 :: (p1.2.1.2 :: (p1.2.2.2 :: ([] : List Int)))) (Int.toNat y1.1) (0 : Int)) + (1 : Int)))) - (Int.toNat (List.getD (p1.1.1 :: (p1.2.1.1 :: (p1.2.2.1 :: ([] : List Int)))) (Int.toNat y1.1) (0 : Int)))) (List.drop (Int.toNat (List.getD (p1.1.1 :: (p1.2.1.1 :: (p1.2.2.1 :: ([] : List Int)))) (Int.toNat y1.1) (0 : Int))) p0))) y1.2.2.1), (cond (decide (y1.1 = (2 : Int))) (s_counts_total (List.take ((Int.toNat (Go.IntKind.wrap .i64 ((List.getD (p1.1.2 :: (p1.2.1.2 :: (p1.2.2.2 :: ([] : List Int)))) (Int.toNat y1.1) (0 : Int)) + (1 : Int)))) - (Int.toNat (List.getD (p1.1.1 :: (p1.2.1.1 :: (p1.2.2.1 :: ([] : List Int)))) (Int.toNat y1.1) (0 : Int)))) (List.drop (Int.toNat (List.getD (p1.1.1 :: (p1.2.1.1 :: (p1.2.2.1 :: ([] : List Int)))) (Int.toNat y1.1) (0 : Int))) p0))) y1.2.2.2)))))))))))))) ∧
      (((decide (y1.1 < (3 : Int))) = false) →
      ((lenOk p0) ∧
        ((lenOk (y1.2.1 :: (y1.2.2.1 :: (y1.2.2.2 :: ([] : List Int))))) ∧
        (K (y1.2, ((Go.IntKind.wrap .i64 ((s_counts_total p0) - (s_counts_total (y1.2.1 :: (y1.2.2.1 :: (y1.2.2.2 :: ([] : List Int))))))), (0 : Int))))))))) n0 ((0 : Int), ((0 : Int), ((0 : Int), (0 : Int))))))))
set_option maxHeartbeats 4000000 in
theorem w_counts_WindowSums_eq (p0 : (List Int)) (p1 : ((Int × Int) × ((Int × Int) × (Int × Int)))) (K : ((Int × (Int × Int)) × (Int × Int)) → Prop) : tfn F_counts_WindowSums A_counts_WindowSums C_counts_WindowSums P_counts_WindowSums R_counts_WindowSums (p0, p1) K = w_counts_WindowSums p0 p1 K := by kernel_rfl
def s_counts_WindowSums (p0 : (List Int)) (p1 : ((Int × Int) × ((Int × Int) × (Int × Int)))) : ((Int × (Int × Int)) × (Int × Int)) :=
  (cond ((s_counts_CheckWindows p0 p1).2 != (0 : Int)) (((0 : Int), ((0 : Int), (0 : Int))), ((0 : Int), (s_counts_CheckWindows p0 p1).2))
    (((s_counts_total (List.take ((Int.toNat (Go.IntKind.wrap .i64 (p1.1.2 + (1 : Int)))) - (Int.toNat p1.1.1)) (List.drop (Int.toNat p1.1.1) p0))), ((s_counts_total (List.take ((Int.toNat (Go.IntKind.wrap .i64 (p1.2.1.2 + (1 : Int)))) - (Int.toNat p1.2.1.1)) (List.drop (Int.toNat p1.2.1.1) p0))), (s_counts_total (List.take ((Int.toNat (Go.IntKind.wrap .i64 (p1.2.2.2 + (1 : Int)))) - (Int.toNat p1.2.2.1)) (List.drop (Int.toNat p1.2.2.1) p0))))), ((Go.IntKind.wrap .i64 ((s_counts_total p0) - (s_counts_total ((s_counts_total (List.take ((Int.toNat (Go.IntKind.wrap .i64 (p1.1.2 + (1 : Int)))) - (Int.toNat p1.1.1)) (List.drop (Int.toNat p1.1.1) p0))) :: ((s_counts_total (List.take ((Int.toNat (Go.IntKind.wrap .i64 (p1.2.1.2 + (1 : Int)))) - (Int.toNat p1.2.1.1)) (List.drop (Int.toNat p1.2.1.1) p0))) :: ((s_counts_total (List.take ((Int.toNat (Go.IntKind.wrap .i64 (p1.2.2.2 + (1 : Int)))) - (Int.toNat p1.2.2.1)) (List.drop (Int.toNat p1.2.2.1) p0))) :: ([] : List Int))))))), (0 : Int))))
abbrev pre_counts_WindowSums (p0 : (List Int)) (p1 : ((Int × Int) × ((Int × Int) × (Int × Int)))) : List Prop := [((((s_counts_CheckWindows p0 p1).2 != (0 : Int)) = false) → ((0 : Int) ≤ p1.1.1)),
    ((((s_counts_CheckWindows p0 p1).2 != (0 : Int)) = false) → (p1.1.1 ≤ (Go.IntKind.wrap .i64 (p1.1.2 + (1 : Int))))),
    ((((s_counts_CheckWindows p0 p1).2 != (0 : Int)) = false) → ((Go.IntKind.wrap .i64 (p1.1.2 + (1 : Int))) ≤ (((List.length p0) : Nat) : Int))),
    ((((s_counts_CheckWindows p0 p1).2 != (0 : Int)) = false) → (lenOk (List.take ((Int.toNat (Go.IntKind.wrap .i64 (p1.1.2 + (1 : Int)))) - (Int.toNat p1.1.1)) (List.drop (Int.toNat p1.1.1) p0)))),
    ((((s_counts_CheckWindows p0 p1).2 != (0 : Int)) = false) → ((0 : Int) ≤ p1.2.1.1)),
    ((((s_counts_CheckWindows p0 p1).2 != (0 : Int)) = false) → (p1.2.1.1 ≤ (Go.IntKind.wrap .i64 (p1.2.1.2 + (1 : Int))))),
    ((((s_counts_CheckWindows p0 p1).2 != (0 : Int)) = false) → ((Go.IntKind.wrap .i64 (p1.2.1.2 + (1 : Int))) ≤ (((List.length p0) : Nat) : Int))),
    ((((s_counts_CheckWindows p0 p1).2 != (0 : Int)) = false) → (lenOk (List.take ((Int.toNat (Go.IntKind.wrap .i64 (p1.2.1.2 + (1 : Int)))) - (Int.toNat p1.2.1.1)) (List.drop (Int.toNat p1.2.1.1) p0)))),
    ((((s_counts_CheckWindows p0 p1).2 != (0 : Int)) = false) → ((0 : Int) ≤ p1.2.2.1)),
    ((((s_counts_CheckWindows p0 p1).2 != (0 : Int)) = false) → (p1.2.2.1 ≤ (Go.IntKind.wrap .i64 (p1.2.2.2 + (1 : Int))))),
    ((((s_counts_CheckWindows p0 p1).2 != (0 : Int)) = false) → ((Go.IntKind.wrap .i64 (p1.2.2.2 + (1 : Int))) ≤ (((List.length p0) : Nat) : Int))),
    ((((s_counts_CheckWindows p0 p1).2 != (0 : Int)) = false) → (lenOk (List.take ((Int.toNat (Go.IntKind.wrap .i64 (p1.2.2.2 + (1 : Int)))) - (Int.toNat p1.2.2.1)) (List.drop (Int.toNat p1.2.2.1) p0)))),
    ((((s_counts_CheckWindows p0 p1).2 != (0 : Int)) = false) → (lenOk p0))]
set_option maxHeartbeats 4000000 in
theorem d_counts_WindowSums (p0 : (List Int)) (p1 : ((Int × Int) × ((Int × Int) × (Int × Int)))) (K : ((Int × (Int × Int)) × (Int × Int)) → Prop) (hp : ∀ p ∈ pre_counts_WindowSums p0 p1, p) (h : K (s_counts_WindowSums p0 p1)) : w_counts_WindowSums p0 p1 K := by
  unfold w_counts_WindowSums
  unfold s_counts_WindowSums at h
  obtain ⟨hp0, hp1, hp2, hp3, hp4, hp5, hp6, hp7, hp8, hp9, hp10, hp11, hp12, _⟩ := conj_of hp
  exact (br' h (fun e0 h => h)
    (fun e0 h => ⟨31, ⟨fun _ => ⟨(of_decide_eq_true rfl), ⟨(of_decide_eq_true rfl), ⟨(hp0 e0), ⟨(hp1 e0), ⟨(hp2 e0), ⟨(hp3 e0), ⟨(of_decide_eq_true rfl), ⟨(of_decide_eq_true rfl), ⟨fun _ => ⟨(of_decide_eq_true rfl), ⟨(of_decide_eq_true rfl), ⟨(hp4 e0), ⟨(hp5 e0), ⟨(hp6 e0), ⟨(hp7 e0), ⟨(of_decide_eq_true rfl), ⟨(of_decide_eq_true rfl), ⟨fun _ => ⟨(of_decide_eq_true rfl), ⟨(of_decide_eq_true rfl), ⟨(hp8 e0), ⟨(hp9 e0), ⟨(hp10 e0), ⟨(hp11 e0), ⟨(of_decide_eq_true rfl), ⟨(of_decide_eq_true rfl), ⟨fun e => Bool.noConfusion (show false = true from e), fun _ => ⟨(hp12 e0), ⟨(lenOk_of 3 rfl (by decide)), h⟩⟩⟩⟩⟩⟩⟩⟩⟩⟩⟩, fun e => Bool.noConfusion (show true = false from e)⟩⟩⟩⟩⟩⟩⟩⟩⟩, fun e => Bool.noConfusion (show true = false from e)⟩⟩⟩⟩⟩⟩⟩⟩⟩, fun e => Bool.noConfusion (show true = false from e)⟩⟩))
theorem tx_total : ∀ (l : List Int) (a : Int), (∀ x ∈ l, 0 ≤ x ∧ x ≤ 100000000) → 0 ≤ a → a + 100000000 * l.length ≤ 9000000000000000000 → sp_total a l = a + v_sum l
  | [], a, _, _, _ => by simp [sp_total, v_sum]
  | x :: r, a, h, h0, h1 => by
    have hx := h x (by simp)
    rw [List.length_cons] at h1
    unfold sp_total
    rw [wrap_id (by omega) (by omega), tx_total r (a + x) (fun y hy => h y (by simp [hy])) (by omega) (by omega)]
    simp only [v_sum]; omega
/-- The counts of a window. -/
def v_win (l : List Int) (x : Int × Int) : Int := v_sum (l.take (x.2 + 1).toNat) - v_sum (l.take x.1.toNat)
theorem tx_win {l : List Int} {x : Int × Int} (hs : v_spectrum l) (h0 : 0 ≤ x.1) (h1 : x.1 ≤ x.2) (h2 : x.2 < l.length) : s_counts_total (List.take ((IntKind.i64.wrap (x.2 + 1)).toNat - x.1.toNat) (List.drop x.1.toNat l)) = v_win l x := by
  have hl := hs.len
  rw [wrap_id (by omega) (by omega)]
  have e : s_counts_total (List.take ((x.2 + 1).toNat - x.1.toNat) (List.drop x.1.toNat l)) = 0 + v_sum (List.take ((x.2 + 1).toNat - x.1.toNat) (List.drop x.1.toNat l)) := by
    refine tx_total _ 0 (fun y hy => ?_) (by decide) ?_
    · have := hs.all y (List.mem_of_mem_drop (List.mem_of_mem_take hy)); omega
    · rw [List.length_take, List.length_drop]; omega
  rw [e, Int.zero_add, v_sum_part l (by omega)]
  rfl
theorem tx_wins {l : List Int} {w : (Int × Int) × (Int × Int) × Int × Int} (h : v_windows l w) : 0 ≤ v_win l w.1 ∧ 0 ≤ v_win l w.2.1 ∧ 0 ≤ v_win l w.2.2 ∧ v_win l w.1 + v_win l w.2.1 + v_win l w.2.2 ≤ v_sum l ∧ v_sum l ≤ 6400000 := by
  have hl := h.spec.len
  have h0 : ∀ x ∈ l, 0 ≤ x := fun x hx => (h.spec.all x hx).1
  have a1 := h.in0
  have a2 := h.ord1
  have a3 := h.in1
  have a4 := h.ord2
  have a5 := h.in2
  have b0 := v_sum_up h0 (show 0 ≤ w.1.1.toNat by omega)
  have b1 := v_sum_up h0 (show w.1.1.toNat ≤ (w.1.2 + 1).toNat by omega)
  have b2 := v_sum_up h0 (show (w.1.2 + 1).toNat ≤ w.2.1.1.toNat by omega)
  have b3 := v_sum_up h0 (show w.2.1.1.toNat ≤ (w.2.1.2 + 1).toNat by omega)
  have b4 := v_sum_up h0 (show (w.2.1.2 + 1).toNat ≤ w.2.2.1.toNat by omega)
  have b5 := v_sum_up h0 (show w.2.2.1.toNat ≤ (w.2.2.2 + 1).toNat by omega)
  have b6 := v_sum_up h0 (show (w.2.2.2 + 1).toNat ≤ l.length by omega)
  have b7 := v_sum_in h.spec.all
  rw [List.take_length] at b6
  rw [List.take_zero, show v_sum [] = 0 from rfl] at b0
  unfold v_win
  omega
abbrev t_counts_WindowSums (p0 : List Int) (p1 : (Int × Int) × (Int × Int) × Int × Int) : (Int × Int × Int) × Int × Int := cond ((s_counts_CheckWindows p0 p1).2 != 0) ((0, 0, 0), 0, (s_counts_CheckWindows p0 p1).2) ((v_win p0 p1.1, v_win p0 p1.2.1, v_win p0 p1.2.2), v_sum p0 - (v_win p0 p1.1 + v_win p0 p1.2.1 + v_win p0 p1.2.2), 0)
abbrev qre_counts_WindowSums (_ : List Int) (_ : (Int × Int) × (Int × Int) × Int × Int) : List Prop := []
theorem pp_counts_WindowSums (p0 : List Int) (p1 : (Int × Int) × (Int × Int) × Int × Int) (_ : ∀ p ∈ qre_counts_WindowSums p0 p1, p) : ∀ p ∈ pre_counts_WindowSums p0 p1, p := by
  intro p hp
  simp only [pre_counts_WindowSums, List.mem_cons, List.not_mem_nil, or_false] at hp
  rcases hp with rfl | rfl | rfl | rfl | rfl | rfl | rfl | rfl | rfl | rfl | rfl | rfl | rfl
  all_goals
    intro h
    have hw := tx_windows (bne0 h)
    have hl := hw.spec.len
    have a1 := hw.in0
    have a2 := hw.ord1
    have a3 := hw.in1
    have a4 := hw.ord2
    have a5 := hw.in2
    first
      | omega
      | (rw [wrap_id (by omega) (by omega)]; omega)
      | (unfold lenOk; rw [List.length_take, List.length_drop]; omega)
      | (unfold lenOk; omega)
theorem tt_counts_WindowSums (p0 : List Int) (p1 : (Int × Int) × (Int × Int) × Int × Int) (_ : ∀ p ∈ qre_counts_WindowSums p0 p1, p) : s_counts_WindowSums p0 p1 = t_counts_WindowSums p0 p1 := by
  unfold s_counts_WindowSums t_counts_WindowSums
  rcases hb : ((s_counts_CheckWindows p0 p1).2 != 0) with _ | _
  · have hw := tx_windows (bne0 hb)
    have hl := hw.spec.len
    have a1 := hw.in0
    have a2 := hw.ord1
    have a3 := hw.in1
    have a4 := hw.ord2
    have a5 := hw.in2
    have hs := tx_wins hw
    rw [tx_win hw.spec a1.1 a1.2 (by omega), tx_win hw.spec (by omega) a3 (by omega), tx_win hw.spec (by omega) a5.1 a5.2]
    have e1 : s_counts_total p0 = 0 + v_sum p0 := tx_total p0 0 (fun y hy => by have := hw.spec.all y hy; omega) (by decide) (by omega)
    have e2 : s_counts_total [v_win p0 p1.1, v_win p0 p1.2.1, v_win p0 p1.2.2] = IntKind.i64.wrap (IntKind.i64.wrap (IntKind.i64.wrap (0 + v_win p0 p1.1) + v_win p0 p1.2.1) + v_win p0 p1.2.2) := rfl
    rw [e1, e2, wrap_id (n := 0 + v_win p0 p1.1) (by omega) (by omega), wrap_id (n := 0 + v_win p0 p1.1 + v_win p0 p1.2.1) (by omega) (by omega), wrap_id (n := 0 + v_win p0 p1.1 + v_win p0 p1.2.1 + v_win p0 p1.2.2) (by omega) (by omega), Int.zero_add, Int.zero_add, wrap_id (by omega) (by omega)]
  · rfl

abbrev con_counts_WindowSums : Con := ⟨P_counts_WindowSums, R_counts_WindowSums, fun x => qre_counts_WindowSums x.1 x.2, fun x => t_counts_WindowSums x.1 x.2⟩
theorem ok_counts_WindowSums : ConOk Try.prog 50 con_counts_WindowSums := ⟨k_counts_WindowSums, fun x hx => ret_tf (ps := P_counts_WindowSums) (rs := R_counts_WindowSums) (x := x) (y := t_counts_WindowSums x.1 x.2) e_counts_WindowSums hC_counts_WindowSums (tf_of (w_counts_WindowSums_eq x.1 x.2 (fun z => z = t_counts_WindowSums x.1 x.2)) (d_counts_WindowSums x.1 x.2 (fun z => z = t_counts_WindowSums x.1 x.2) (pp_counts_WindowSums x.1 x.2 hx) (tt_counts_WindowSums x.1 x.2 hx)))⟩
/- slices_Maxint_int -/
def C_slices_Maxint_int : Cons := []
theorem hC_slices_Maxint_int : ConsOk Try.prog C_slices_Maxint_int := ConsOk.nil
def w_slices_Maxint_int (p0 : (List Int)) (K : Int → Prop) : Prop :=
  ((((decide ((((List.length p0) : Nat) : Int) < (1 : Int))) = true) →
  False) ∧
  (((decide ((((List.length p0) : Nat) : Int) < (1 : Int))) = false) →
  (((0 : Int) < (((List.length p0) : Nat) : Int)) ∧
    (∃ n0, (loopP (fun (y1 : (Int × Int)) k2 =>
      ((((decide (y1.1 < (((List.length p0) : Nat) : Int))) = true) →
      (((0 : Int) ≤ y1.1) ∧
        ((y1.1 < (((List.length p0) : Nat) : Int)) ∧
        (k2 ((Go.IntKind.wrap .i64 (y1.1 + (1 : Int))), (max y1.2 (List.getD p0 (Int.toNat y1.1) (0 : Int)))))))) ∧
      (((decide (y1.1 < (((List.length p0) : Nat) : Int))) = false) →
      (K y1.2)))) n0 ((1 : Int), (List.getD p0 (Int.toNat (0 : Int)) (0 : Int))))))))
set_option maxHeartbeats 4000000 in
theorem w_slices_Maxint_int_eq (p0 : (List Int)) (K : Int → Prop) : tfn F_slices_Maxint_int A_slices_Maxint_int C_slices_Maxint_int P_slices_Maxint_int R_slices_Maxint_int p0 K = w_slices_Maxint_int p0 K := by kernel_rfl
def b_slices_Maxint_int_0 (p0 : (List Int)) (K : Int → Prop) (y : (Int × Int)) (k : (Int × Int) → Prop) : Prop :=
  (((decide (y.1 < (((List.length p0) : Nat) : Int))) = true →
    (((0 : Int) ≤ y.1) ∧
    ((y.1 < (((List.length p0) : Nat) : Int)) ∧
    (k ((Go.IntKind.wrap .i64 (y.1 + (1 : Int))), (max y.2 (List.getD p0 (Int.toNat y.1) (0 : Int)))))))) ∧
  ((decide (y.1 < (((List.length p0) : Nat) : Int))) = false →
    (K y.2)))
def lp_slices_Maxint_int_0 (p0 : List Int) (_ : Int × Int) : Int := v_max p0
abbrev lpre_slices_Maxint_int_0 (p0 : List Int) (x : Int × Int) : Prop := lenOk p0 ∧ 1 ≤ p0.length ∧ x = (1, p0.getD 0 0)
theorem v_max_one : ∀ {l : List Int}, 1 ≤ l.length → l.getD 0 0 = v_max (l.take 1)
  | _ :: _, _ => rfl
theorem lk_slices_Maxint_int_0 (p0 : List Int) (x : Int × Int) (K : Int → Prop) (hp : lpre_slices_Maxint_int_0 p0 x) (h : K (lp_slices_Maxint_int_0 p0 x)) : ∃ n, loopP (b_slices_Maxint_int_0 p0 K) n x := by
  obtain ⟨hl, h1, rfl⟩ := hp
  unfold lenOk at hl
  refine ⟨p0.length, loop_ind (fun n s => ∃ j : Nat, s = ((j : Int), v_max (p0.take j)) ∧ 1 ≤ j ∧ j ≤ p0.length ∧ n + j = p0.length + 1) (fun s hs => by obtain ⟨j, hs⟩ := hs; omega) ?_ _ _ ⟨1, ?_, Nat.le_refl 1, h1, rfl⟩⟩
  · rintro n s k ⟨j, rfl, h2, h3, h4⟩ hk
    unfold b_slices_Maxint_int_0
    refine ⟨fun hj => ⟨by show (0 : Int) ≤ j; omega, of_decide_eq_true hj, ?_⟩, fun hj => ?_⟩
    · have hj : (j : Int) < (p0.length : Int) := of_decide_eq_true hj
      have hj' : j < p0.length := by omega
      simp only [wrap_nat (show (j : Int) ≤ 9223372036854775806 by omega), Int.toNat_natCast]
      refine hk _ ⟨j + 1, ?_, by omega, by omega, by omega⟩
      rw [take_snoc hj', v_max_snoc _ (by intro e; have := congrArg List.length e; rw [List.length_take, List.length_nil] at this; omega)]
    · have hj : ¬ (j : Int) < (p0.length : Int) := of_decide_eq_false hj
      have : j = p0.length := by omega
      subst this
      rw [List.take_length]
      exact h
  · rw [v_max_one h1]; rfl

def s_slices_Maxint_int (p0 : (List Int)) : Int :=
  (cond (decide ((((List.length p0) : Nat) : Int) < (1 : Int))) (0 : Int)
    (lp_slices_Maxint_int_0 p0 ((1 : Int), (List.getD p0 (Int.toNat (0 : Int)) (0 : Int)))))
abbrev pre_slices_Maxint_int (p0 : (List Int)) : List Prop := [(((decide ((((List.length p0) : Nat) : Int) < (1 : Int))) = true) → False),
    (((decide ((((List.length p0) : Nat) : Int) < (1 : Int))) = false) → ((0 : Int) < (((List.length p0) : Nat) : Int))),
    (((decide ((((List.length p0) : Nat) : Int) < (1 : Int))) = false) → (lpre_slices_Maxint_int_0 p0 ((1 : Int), (List.getD p0 (Int.toNat (0 : Int)) (0 : Int)))))]
set_option maxHeartbeats 4000000 in
theorem d_slices_Maxint_int (p0 : (List Int)) (K : Int → Prop) (hp : ∀ p ∈ pre_slices_Maxint_int p0, p) (h : K (s_slices_Maxint_int p0)) : w_slices_Maxint_int p0 K := by
  unfold w_slices_Maxint_int
  unfold s_slices_Maxint_int at h
  obtain ⟨hp0, hp1, hp2, _⟩ := conj_of hp
  exact (br' h (fun e0 h => (hp0 e0).elim)
    (fun e0 h => ⟨(hp1 e0), (Exists.imp (fun n hn => loop_mono (fun y k k' hk hy => ⟨fun e1 => ⟨(hy.1 e1).1, ⟨(hy.1 e1).2.1, (hk _ (hy.1 e1).2.2)⟩⟩, fun e1 => (hy.2 e1)⟩) n _ hn) (lk_slices_Maxint_int_0 p0 ((1 : Int), (List.getD p0 (Int.toNat (0 : Int)) (0 : Int))) K (hp2 e0) h))⟩))
abbrev t_slices_Maxint_int (p0 : List Int) : Int := v_max p0
abbrev qre_slices_Maxint_int (p0 : List Int) : List Prop := [lenOk p0 ∧ 1 ≤ p0.length]
theorem pp_slices_Maxint_int (p0 : List Int) (hq : ∀ p ∈ qre_slices_Maxint_int p0, p) : ∀ p ∈ pre_slices_Maxint_int p0, p := by
  have hv := (conj_of hq).1
  intro p hp
  simp only [pre_slices_Maxint_int, List.mem_cons, List.not_mem_nil, or_false] at hp
  rcases hp with rfl | rfl | rfl
  · intro h
    have := of_decide_eq_true h
    omega
  · intro _; omega
  · exact fun _ => ⟨hv.1, hv.2, rfl⟩
theorem tt_slices_Maxint_int (p0 : List Int) (hq : ∀ p ∈ qre_slices_Maxint_int p0, p) : s_slices_Maxint_int p0 = t_slices_Maxint_int p0 := by
  have hv := (conj_of hq).1
  unfold s_slices_Maxint_int
  rw [decide_eq_false (show ¬ (p0.length : Int) < 1 by omega)]
  rfl

abbrev con_slices_Maxint_int : Con := ⟨P_slices_Maxint_int, R_slices_Maxint_int, fun x => qre_slices_Maxint_int x, fun x => t_slices_Maxint_int x⟩
theorem ok_slices_Maxint_int : ConOk Try.prog 107 con_slices_Maxint_int := ⟨k_slices_Maxint_int, fun x hx => ret_tf (ps := P_slices_Maxint_int) (rs := R_slices_Maxint_int) (x := x) (y := t_slices_Maxint_int x) e_slices_Maxint_int hC_slices_Maxint_int (tf_of (w_slices_Maxint_int_eq x (fun z => z = t_slices_Maxint_int x)) (d_slices_Maxint_int x (fun z => z = t_slices_Maxint_int x) (pp_slices_Maxint_int x hx) (tt_slices_Maxint_int x hx)))⟩
/- slices_Indexint_int -/
def C_slices_Indexint_int : Cons := []
theorem hC_slices_Indexint_int : ConsOk Try.prog C_slices_Indexint_int := ConsOk.nil
def w_slices_Indexint_int (p0 : (List Int)) (p1 : Int) (K : Int → Prop) : Prop :=
  (∃ n0, (loopP (fun (y1 : Int) k2 =>
    ((((decide (y1 < (((List.length p0) : Nat) : Int))) = true) →
    (((0 : Int) ≤ y1) ∧
      ((y1 < (((List.length p0) : Nat) : Int)) ∧
      ((((p1 == (List.getD p0 (Int.toNat y1) (0 : Int))) = true) →
      (K y1)) ∧
      (((p1 == (List.getD p0 (Int.toNat y1) (0 : Int))) = false) →
      (k2 (Go.IntKind.wrap .i64 (y1 + (1 : Int))))))))) ∧
    (((decide (y1 < (((List.length p0) : Nat) : Int))) = false) →
    (K (-1 : Int))))) n0 (0 : Int)))
set_option maxHeartbeats 4000000 in
theorem w_slices_Indexint_int_eq (p0 : (List Int)) (p1 : Int) (K : Int → Prop) : tfn F_slices_Indexint_int A_slices_Indexint_int C_slices_Indexint_int P_slices_Indexint_int R_slices_Indexint_int (p0, p1) K = w_slices_Indexint_int p0 p1 K := by kernel_rfl
def b_slices_Indexint_int_0 (p0 : (List Int)) (p1 : Int) (K : Int → Prop) (y : Int) (k : Int → Prop) : Prop :=
  (((decide (y < (((List.length p0) : Nat) : Int))) = true →
    (((0 : Int) ≤ y) ∧
    ((y < (((List.length p0) : Nat) : Int)) ∧
    (((p1 == (List.getD p0 (Int.toNat y) (0 : Int))) = true →
      (K y)) ∧
    ((p1 == (List.getD p0 (Int.toNat y) (0 : Int))) = false →
      (k (Go.IntKind.wrap .i64 (y + (1 : Int))))))))) ∧
  ((decide (y < (((List.length p0) : Nat) : Int))) = false →
    (K (-1 : Int))))
def lp_slices_Indexint_int_0 (p0 : List Int) (p1 : Int) (_ : Int) : Int := v_idx p1 0 p0
abbrev lpre_slices_Indexint_int_0 (p0 : List Int) (_ : Int) (x : Int) : Prop := lenOk p0 ∧ x = 0
theorem lk_slices_Indexint_int_0 (p0 : List Int) (p1 : Int) (x : Int) (K : Int → Prop) (hp : lpre_slices_Indexint_int_0 p0 p1 x) (h : K (lp_slices_Indexint_int_0 p0 p1 x)) : ∃ n, loopP (b_slices_Indexint_int_0 p0 p1 K) n x := by
  obtain ⟨hl, rfl⟩ := hp
  refine loop_list0 p0 0 (fun r => K (v_idx p1 ((p0.length : Int) - r.length) r)) ?_ ?_ (by simpa [lp_slices_Indexint_int_0] using h)
  · intro k hI
    unfold b_slices_Indexint_int_0
    simpa [v_idx] using hI
  · intro j k hj hI hk
    have hj' : (j : Int) < p0.length := by omega
    unfold b_slices_Indexint_int_0
    rw [wrap_nat (by omega)]
    have e1 : (p0.length : Int) - ((p0.getD j 0 :: p0.drop (j + 1)).length : Int) = j := by simp; omega
    have e2 : (p0.length : Int) - ((p0.drop (j + 1)).length : Int) = (j : Int) + 1 := by simp; omega
    rw [e1] at hI
    rw [e2] at hk
    simp only [hj', decide_true, Int.toNat_natCast, forall_const, Bool.true_eq_false, false_imp_iff, and_true]
    refine ⟨by omega, trivial, fun hx => ?_, fun hx => hk ?_⟩
    · rw [v_idx, if_pos (beq_iff_eq.1 hx)] at hI; exact hI
    · rw [v_idx, if_neg (beq_eq_false_iff_ne.1 hx)] at hI; exact hI

def s_slices_Indexint_int (p0 : (List Int)) (p1 : Int) : Int :=
  (lp_slices_Indexint_int_0 p0 p1 (0 : Int))
abbrev pre_slices_Indexint_int (p0 : (List Int)) (p1 : Int) : List Prop := [(lpre_slices_Indexint_int_0 p0 p1 (0 : Int))]
set_option maxHeartbeats 4000000 in
theorem d_slices_Indexint_int (p0 : (List Int)) (p1 : Int) (K : Int → Prop) (hp : ∀ p ∈ pre_slices_Indexint_int p0 p1, p) (h : K (s_slices_Indexint_int p0 p1)) : w_slices_Indexint_int p0 p1 K := by
  unfold w_slices_Indexint_int
  unfold s_slices_Indexint_int at h
  obtain ⟨hp0, _⟩ := conj_of hp
  exact (Exists.imp (fun n hn => loop_mono (fun y k k' hk hy => ⟨fun e0 => ⟨(hy.1 e0).1, ⟨(hy.1 e0).2.1, ⟨fun e1 => ((hy.1 e0).2.2.1 e1), fun e1 => (hk _ ((hy.1 e0).2.2.2 e1))⟩⟩⟩, fun e0 => (hy.2 e0)⟩) n _ hn) (lk_slices_Indexint_int_0 p0 p1 (0 : Int) K (hp0) h))
abbrev t_slices_Indexint_int (p0 : List Int) (p1 : Int) : Int := v_idx p1 0 p0
abbrev qre_slices_Indexint_int (p0 : List Int) (_ : Int) : List Prop := [lenOk p0]
theorem pp_slices_Indexint_int (p0 : List Int) (p1 : Int) (hq : ∀ p ∈ qre_slices_Indexint_int p0 p1, p) : ∀ p ∈ pre_slices_Indexint_int p0 p1, p := by
  have hv := (conj_of hq).1
  intro p hp
  simp only [pre_slices_Indexint_int, List.mem_cons, List.not_mem_nil, or_false] at hp
  subst hp
  exact ⟨hv, rfl⟩
theorem tt_slices_Indexint_int (p0 : List Int) (p1 : Int) (_ : ∀ p ∈ qre_slices_Indexint_int p0 p1, p) : s_slices_Indexint_int p0 p1 = t_slices_Indexint_int p0 p1 := rfl

abbrev con_slices_Indexint_int : Con := ⟨P_slices_Indexint_int, R_slices_Indexint_int, fun x => qre_slices_Indexint_int x.1 x.2, fun x => t_slices_Indexint_int x.1 x.2⟩
theorem ok_slices_Indexint_int : ConOk Try.prog 106 con_slices_Indexint_int := ⟨k_slices_Indexint_int, fun x hx => ret_tf (ps := P_slices_Indexint_int) (rs := R_slices_Indexint_int) (x := x) (y := t_slices_Indexint_int x.1 x.2) e_slices_Indexint_int hC_slices_Indexint_int (tf_of (w_slices_Indexint_int_eq x.1 x.2 (fun z => z = t_slices_Indexint_int x.1 x.2)) (d_slices_Indexint_int x.1 x.2 (fun z => z = t_slices_Indexint_int x.1 x.2) (pp_slices_Indexint_int x.1 x.2 hx) (tt_slices_Indexint_int x.1 x.2 hx)))⟩
/- counts_PeakIn -/
def C_counts_PeakIn : Cons := [(101, [], con_counts_spectrumErr), (105, [], con_counts_windowErr), (77, [], con_counts_first), (107, [], con_slices_Maxint_int), (106, [], con_slices_Indexint_int)]
theorem hC_counts_PeakIn : ConsOk Try.prog C_counts_PeakIn := ConsOk.cons ok_counts_spectrumErr <| ConsOk.cons ok_counts_windowErr <| ConsOk.cons ok_counts_first <| ConsOk.cons ok_slices_Maxint_int <| ConsOk.cons ok_slices_Indexint_int <| ConsOk.nil
def w_counts_PeakIn (p0 : (List Int)) (p1 : (Int × Int)) (K : (Int × Int) → Prop) : Prop :=
  ((lenOk ((v_spec p0).2 :: ((s_counts_windowErr p1 (((List.length p0) : Nat) : Int) (-1 : Int)) :: ([] : List Int)))) ∧
  (((((s_counts_first ((v_spec p0).2 :: ((s_counts_windowErr p1 (((List.length p0) : Nat) : Int) (-1 : Int)) :: ([] : List Int)))) != (0 : Int)) = true) →
  (K ((0 : Int), (s_counts_first ((v_spec p0).2 :: ((s_counts_windowErr p1 (((List.length p0) : Nat) : Int) (-1 : Int)) :: ([] : List Int))))))) ∧
  ((((s_counts_first ((v_spec p0).2 :: ((s_counts_windowErr p1 (((List.length p0) : Nat) : Int) (-1 : Int)) :: ([] : List Int)))) != (0 : Int)) = false) →
  (((0 : Int) ≤ p1.1) ∧
    ((p1.1 ≤ (Go.IntKind.wrap .i64 (p1.2 + (1 : Int)))) ∧
    (((Go.IntKind.wrap .i64 (p1.2 + (1 : Int))) ≤ (((List.length p0) : Nat) : Int)) ∧
    (((lenOk (List.take ((Int.toNat (Go.IntKind.wrap .i64 (p1.2 + (1 : Int)))) - (Int.toNat p1.1)) (List.drop (Int.toNat p1.1) p0))) ∧
    (1 ≤ (List.length (List.take ((Int.toNat (Go.IntKind.wrap .i64 (p1.2 + (1 : Int)))) - (Int.toNat p1.1)) (List.drop (Int.toNat p1.1) p0))))) ∧
    ((lenOk (List.take ((Int.toNat (Go.IntKind.wrap .i64 (p1.2 + (1 : Int)))) - (Int.toNat p1.1)) (List.drop (Int.toNat p1.1) p0))) ∧
    (K ((Go.IntKind.wrap .i64 (p1.1 + (v_idx (v_max (List.take ((Int.toNat (Go.IntKind.wrap .i64 (p1.2 + (1 : Int)))) - (Int.toNat p1.1)) (List.drop (Int.toNat p1.1) p0))) (0 : Int) (List.take ((Int.toNat (Go.IntKind.wrap .i64 (p1.2 + (1 : Int)))) - (Int.toNat p1.1)) (List.drop (Int.toNat p1.1) p0))))), (0 : Int)))))))))))
set_option maxHeartbeats 4000000 in
theorem w_counts_PeakIn_eq (p0 : (List Int)) (p1 : (Int × Int)) (K : (Int × Int) → Prop) : tfn F_counts_PeakIn A_counts_PeakIn C_counts_PeakIn P_counts_PeakIn R_counts_PeakIn (p0, p1) K = w_counts_PeakIn p0 p1 K := by kernel_rfl
def s_counts_PeakIn (p0 : (List Int)) (p1 : (Int × Int)) : (Int × Int) :=
  (cond ((s_counts_first ((v_spec p0).2 :: ((s_counts_windowErr p1 (((List.length p0) : Nat) : Int) (-1 : Int)) :: ([] : List Int)))) != (0 : Int)) ((0 : Int), (s_counts_first ((v_spec p0).2 :: ((s_counts_windowErr p1 (((List.length p0) : Nat) : Int) (-1 : Int)) :: ([] : List Int)))))
    ((Go.IntKind.wrap .i64 (p1.1 + (v_idx (v_max (List.take ((Int.toNat (Go.IntKind.wrap .i64 (p1.2 + (1 : Int)))) - (Int.toNat p1.1)) (List.drop (Int.toNat p1.1) p0))) (0 : Int) (List.take ((Int.toNat (Go.IntKind.wrap .i64 (p1.2 + (1 : Int)))) - (Int.toNat p1.1)) (List.drop (Int.toNat p1.1) p0))))), (0 : Int)))
abbrev pre_counts_PeakIn (p0 : (List Int)) (p1 : (Int × Int)) : List Prop := [((((s_counts_first ((v_spec p0).2 :: ((s_counts_windowErr p1 (((List.length p0) : Nat) : Int) (-1 : Int)) :: ([] : List Int)))) != (0 : Int)) = false) → ((0 : Int) ≤ p1.1)),
    ((((s_counts_first ((v_spec p0).2 :: ((s_counts_windowErr p1 (((List.length p0) : Nat) : Int) (-1 : Int)) :: ([] : List Int)))) != (0 : Int)) = false) → (p1.1 ≤ (Go.IntKind.wrap .i64 (p1.2 + (1 : Int))))),
    ((((s_counts_first ((v_spec p0).2 :: ((s_counts_windowErr p1 (((List.length p0) : Nat) : Int) (-1 : Int)) :: ([] : List Int)))) != (0 : Int)) = false) → ((Go.IntKind.wrap .i64 (p1.2 + (1 : Int))) ≤ (((List.length p0) : Nat) : Int))),
    ((((s_counts_first ((v_spec p0).2 :: ((s_counts_windowErr p1 (((List.length p0) : Nat) : Int) (-1 : Int)) :: ([] : List Int)))) != (0 : Int)) = false) → ((lenOk (List.take ((Int.toNat (Go.IntKind.wrap .i64 (p1.2 + (1 : Int)))) - (Int.toNat p1.1)) (List.drop (Int.toNat p1.1) p0))) ∧ (1 ≤ (List.length (List.take ((Int.toNat (Go.IntKind.wrap .i64 (p1.2 + (1 : Int)))) - (Int.toNat p1.1)) (List.drop (Int.toNat p1.1) p0)))))),
    ((((s_counts_first ((v_spec p0).2 :: ((s_counts_windowErr p1 (((List.length p0) : Nat) : Int) (-1 : Int)) :: ([] : List Int)))) != (0 : Int)) = false) → (lenOk (List.take ((Int.toNat (Go.IntKind.wrap .i64 (p1.2 + (1 : Int)))) - (Int.toNat p1.1)) (List.drop (Int.toNat p1.1) p0))))]
set_option maxHeartbeats 4000000 in
theorem d_counts_PeakIn (p0 : (List Int)) (p1 : (Int × Int)) (K : (Int × Int) → Prop) (hp : ∀ p ∈ pre_counts_PeakIn p0 p1, p) (h : K (s_counts_PeakIn p0 p1)) : w_counts_PeakIn p0 p1 K := by
  unfold w_counts_PeakIn
  unfold s_counts_PeakIn at h
  obtain ⟨hp0, hp1, hp2, hp3, hp4, _⟩ := conj_of hp
  exact ⟨(lenOk_of 2 rfl (by decide)), (br' h (fun e0 h => h)
    (fun e0 h => ⟨(hp0 e0), ⟨(hp1 e0), ⟨(hp2 e0), ⟨(hp3 e0), ⟨(hp4 e0), h⟩⟩⟩⟩⟩))⟩
/-- The first channel of a window with its greatest count. -/
def v_own (l : List Int) (w : Int × Int) : List Int := (l.drop w.1.toNat).take ((w.2 + 1).toNat - w.1.toNat)
def v_peak (l : List Int) (w : Int × Int) : Int := w.1 + v_idx (v_max (v_own l w)) 0 (v_own l w)
abbrev t_counts_PeakIn (p0 : List Int) (p1 : Int × Int) : Int × Int := cond ((v_spec p0).2 != 0) (0, (v_spec p0).2) (cond (s_counts_windowErr p1 p0.length (-1) != 0) (0, s_counts_windowErr p1 p0.length (-1)) (v_peak p0 p1, 0))
abbrev qre_counts_PeakIn (_ : List Int) (_ : Int × Int) : List Prop := []
theorem tx_own {l : List Int} {w : Int × Int} (hs : v_spectrum l) (h0 : 0 ≤ w.1) (h1 : w.1 ≤ w.2) (h2 : w.2 < l.length) : (v_own l w).length = (w.2 + 1).toNat - w.1.toNat ∧ 1 ≤ (v_own l w).length ∧ IntKind.i64.wrap (w.2 + 1) = w.2 + 1 := by
  have hl := hs.len
  rw [wrap_id (by omega) (by omega)]
  unfold v_own
  rw [List.length_take, List.length_drop]
  omega
theorem tx_peakok {p0 : List Int} {p1 : Int × Int} (h : (s_counts_first ((v_spec p0).2 :: s_counts_windowErr p1 p0.length (-1) :: []) != 0) = false) : v_spectrum p0 ∧ (0 ≤ p1.1 ∧ p1.1 ≤ p1.2 ∧ p1.2 < p0.length) := by
  obtain ⟨h1, h2⟩ := tx_first0 (bne0 h)
  obtain ⟨h2, _⟩ := tx_first0 h2
  have hs := tx_spectrum h1
  have hl := hs.len
  have := tx_window (by omega) h2
  exact ⟨hs, by omega⟩
theorem pp_counts_PeakIn (p0 : List Int) (p1 : Int × Int) (_ : ∀ p ∈ qre_counts_PeakIn p0 p1, p) : ∀ p ∈ pre_counts_PeakIn p0 p1, p := by
  intro p hp
  simp only [pre_counts_PeakIn, List.mem_cons, List.not_mem_nil, or_false] at hp
  rcases hp with rfl | rfl | rfl | rfl | rfl
  all_goals
    intro h
    obtain ⟨hs, h0, h1, h2⟩ := tx_peakok h
    obtain ⟨g1, g2, g3⟩ := tx_own hs h0 h1 h2
    have hl := hs.len
    unfold v_own at g1 g2
    try rw [g3]
    first | omega | (unfold lenOk; omega)
theorem tt_counts_PeakIn (p0 : List Int) (p1 : Int × Int) (_ : ∀ p ∈ qre_counts_PeakIn p0 p1, p) : s_counts_PeakIn p0 p1 = t_counts_PeakIn p0 p1 := by
  unfold s_counts_PeakIn t_counts_PeakIn
  have e : s_counts_first ((v_spec p0).2 :: s_counts_windowErr p1 p0.length (-1) :: []) = cond ((v_spec p0).2 != 0) (v_spec p0).2 (s_counts_windowErr p1 p0.length (-1)) := by
    show (if (v_spec p0).2 = 0 then (if s_counts_windowErr p1 p0.length (-1) = 0 then 0 else s_counts_windowErr p1 p0.length (-1)) else _) = _
    by_cases h : (v_spec p0).2 = 0
    · rw [if_pos h, h]
      by_cases h2 : s_counts_windowErr p1 p0.length (-1) = 0
      · rw [if_pos h2, h2]; rfl
      · rw [if_neg h2]; rfl
    · rw [if_neg h, show ((v_spec p0).2 != 0) = true from bne_iff_ne.2 h]; rfl
  rcases hb : (s_counts_first ((v_spec p0).2 :: s_counts_windowErr p1 p0.length (-1) :: []) != 0) with _ | _
  · obtain ⟨hs, h0, h1, h2⟩ := tx_peakok hb
    obtain ⟨g1, g2, g3⟩ := tx_own hs h0 h1 h2
    have hl := hs.len
    obtain ⟨c1, c2⟩ := tx_first0 (bne0 hb)
    obtain ⟨c2, _⟩ := tx_first0 c2
    have hm : v_max (v_own p0 p1) ∈ v_own p0 p1 := v_max_mem (by intro e; rw [e] at g2; simp at g2)
    have hi := v_idx_mem (i := 0) hm
    rw [c1, c2]
    show ((IntKind.i64.wrap (p1.1 + v_idx (v_max (List.take ((IntKind.i64.wrap (p1.2 + 1)).toNat - p1.1.toNat) (List.drop p1.1.toNat p0))) 0 (List.take ((IntKind.i64.wrap (p1.2 + 1)).toNat - p1.1.toNat) (List.drop p1.1.toNat p0))), (0 : Int)) : Int × Int) = (v_peak p0 p1, 0)
    rw [g3]
    show ((IntKind.i64.wrap (p1.1 + v_idx (v_max (v_own p0 p1)) 0 (v_own p0 p1)), (0 : Int)) : Int × Int) = (v_peak p0 p1, 0)
    rw [wrap_id (by omega) (by omega)]; rfl
  · rw [e] at hb ⊢
    rcases hc : ((v_spec p0).2 != 0) with _ | _
    · rw [hc] at hb
      simp only [cond_false] at hb ⊢
      rw [hb]; rfl
    · simp only [cond_true, hc]

abbrev con_counts_PeakIn : Con := ⟨P_counts_PeakIn, R_counts_PeakIn, fun x => qre_counts_PeakIn x.1 x.2, fun x => t_counts_PeakIn x.1 x.2⟩
theorem ok_counts_PeakIn : ConOk Try.prog 56 con_counts_PeakIn := ⟨k_counts_PeakIn, fun x hx => ret_tf (ps := P_counts_PeakIn) (rs := R_counts_PeakIn) (x := x) (y := t_counts_PeakIn x.1 x.2) e_counts_PeakIn hC_counts_PeakIn (tf_of (w_counts_PeakIn_eq x.1 x.2 (fun z => z = t_counts_PeakIn x.1 x.2)) (d_counts_PeakIn x.1 x.2 (fun z => z = t_counts_PeakIn x.1 x.2) (pp_counts_PeakIn x.1 x.2 hx) (tt_counts_PeakIn x.1 x.2 hx)))⟩
end Go.Proofs.Ytonjnpefnbnohaa
