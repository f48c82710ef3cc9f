/- What the functions that CountsLines reaches compute: contracts, each function once. No condition. -/
import Derived.Test.YtonjnpefnbnohaaTxV
import Derived.Test.YtonjnpefnbnohaaAwCountsLines
import Derived.KernelRfl
namespace Go.Proofs.Ytonjnpefnbnohaa
open Go Go.Mx
set_option maxRecDepth 100000
abbrev wi (n : Int) : Int := IntKind.i64.wrap n
abbrev zz0 : Int := 0
abbrev zz1 : Int := 1
abbrev zz2 : Int := 2
abbrev zz3 : Int := 3
theorem od {p : Prop} [Decidable p] (h : decide p = true) : p := of_decide_eq_true h
theorem nof {p : Prop} (h : false = true) : p := Bool.noConfusion h
theorem rf {p : Prop} {α : Sort _} {a : α} (_ : p) : a = a := rfl
/-- Rules: period, dead, aircraft, cosmic, ground, air, radon, strip, heights. -/
abbrev M3 : Type := (Int × Int × Int) × (Int × Int × Int) × (Int × Int × Int)
abbrev CR : Type := Int × Int × (Int × Int × Int) × (Int × Int × Int) × Int × Int × (Int × Int × Int) × M3 × List (Int × Int)
abbrev CR.hs (r : CR) : List (Int × Int) := r.2.2.2.2.2.2.2.2
abbrev CR.mt (r : CR) : M3 := r.2.2.2.2.2.2.2.1
abbrev CS : Type := (Int × Int × Int) × Int × Int × Int × Int
abbrev CI : Type := M3 × Int
abbrev R3 : Type := (Int × Int) × (Int × Int) × Int × Int
/- law06_fewKnots -/
def C_law06_fewKnots : Cons := []
theorem hC_law06_fewKnots : ConsOk Try.prog C_law06_fewKnots := ConsOk.nil
def w_law06_fewKnots (p0 : CR) (K : Bool → Prop) : Prop :=
 (K (decide ((((List.length p0.2.2.2.2.2.2.2.2) : Nat) : Int) ≤ (10 : Int))))
set_option maxHeartbeats 4000000 in
theorem w_law06_fewKnots_eq (p0 : CR) (K : Bool → Prop) : tfn F_law06_fewKnots A_law06_fewKnots C_law06_fewKnots P_law06_fewKnots R_law06_fewKnots p0 K = w_law06_fewKnots p0 K := by kernel_rfl
def s_law06_fewKnots (p0 : CR) : Bool :=
  (decide ((((List.length p0.2.2.2.2.2.2.2.2) : Nat) : Int) ≤ (10 : Int)))
abbrev pre_law06_fewKnots (p0 : CR) : List Prop := []
set_option maxHeartbeats 4000000 in
theorem d_law06_fewKnots (p0 : CR) (K : Bool → Prop) (hp : ∀ p ∈ pre_law06_fewKnots p0, p) (h : K (s_law06_fewKnots p0)) : w_law06_fewKnots p0 K := by
  unfold w_law06_fewKnots
  unfold s_law06_fewKnots at h
  exact h
abbrev con_law06_fewKnots : Con := ⟨P_law06_fewKnots, R_law06_fewKnots, fun x => pre_law06_fewKnots x, fun x => s_law06_fewKnots x⟩
theorem ok_law06_fewKnots : ConOk Try.prog 15 con_law06_fewKnots := ⟨k_law06_fewKnots, fun x hx => ret_tf (ps := P_law06_fewKnots) (rs := R_law06_fewKnots) (x := x) (y := s_law06_fewKnots x) e_law06_fewKnots hC_law06_fewKnots (tf_of (w_law06_fewKnots_eq x (fun z => z = s_law06_fewKnots x)) (d_law06_fewKnots x (fun z => z = s_law06_fewKnots x) hx rfl))⟩
/- ref06_CopyRules -/
def C_ref06_CopyRules : Cons := []
theorem hC_ref06_CopyRules : ConsOk Try.prog C_ref06_CopyRules := ConsOk.nil
def w_ref06_CopyRules (p0 : CR) (K : CR → Prop) : Prop :=
 (((((List.length ([] : List (Int × Int))) + (List.length p0.2.2.2.2.2.2.2.2)) * 16) ≤ 140737488355328) ∧
  (K (p0.1, (p0.2.1, (p0.2.2.1, (p0.2.2.2.1, (p0.2.2.2.2.1, (p0.2.2.2.2.2.1, (p0.2.2.2.2.2.2.1, (p0.2.2.2.2.2.2.2.1, (([] : List (Int × Int)) ++ p0.2.2.2.2.2.2.2.2)))))))))))
set_option maxHeartbeats 4000000 in
theorem w_ref06_CopyRules_eq (p0 : CR) (K : CR → Prop) : tfn F_ref06_CopyRules A_ref06_CopyRules C_ref06_CopyRules P_ref06_CopyRules R_ref06_CopyRules p0 K = w_ref06_CopyRules p0 K := by kernel_rfl
def s_ref06_CopyRules (p0 : CR) : CR :=
  (p0.1, (p0.2.1, (p0.2.2.1, (p0.2.2.2.1, (p0.2.2.2.2.1, (p0.2.2.2.2.2.1, (p0.2.2.2.2.2.2.1, (p0.2.2.2.2.2.2.2.1, (([] : List (Int × Int)) ++ p0.2.2.2.2.2.2.2.2)))))))))
abbrev pre_ref06_CopyRules (p0 : CR) : List Prop := [((((List.length ([] : List (Int × Int))) + (List.length p0.2.2.2.2.2.2.2.2)) * 16) ≤ 140737488355328)]
set_option maxHeartbeats 4000000 in
theorem d_ref06_CopyRules (p0 : CR) (K : CR → Prop) (hp : ∀ p ∈ pre_ref06_CopyRules p0, p) (h : K (s_ref06_CopyRules p0)) : w_ref06_CopyRules p0 K := by
  unfold w_ref06_CopyRules
  unfold s_ref06_CopyRules at h
  obtain ⟨hp0, _⟩ := conj_of hp
  exact ⟨(hp0), h⟩
abbrev t_ref06_CopyRules (p0 : CR) : CR := p0
abbrev qre_ref06_CopyRules (p0 : CR) : List Prop := [p0.hs.length ≤ 10]
theorem pp_ref06_CopyRules (p0 : CR) (hq : ∀ p ∈ qre_ref06_CopyRules p0, p) : ∀ p ∈ pre_ref06_CopyRules p0, p := by
  have hv : p0.hs.length ≤ 10 := hq _ (by simp)
  have hl : p0.2.2.2.2.2.2.2.2.length = p0.hs.length := rfl
  intro p hp
  simp only [pre_ref06_CopyRules, List.mem_cons, List.not_mem_nil, or_false] at hp
  subst hp
  simp only [List.length_nil, List.length_append]
  omega
theorem tt_ref06_CopyRules (p0 : CR) (_ : ∀ p ∈ qre_ref06_CopyRules p0, p) : s_ref06_CopyRules p0 = t_ref06_CopyRules p0 := rfl

abbrev con_ref06_CopyRules : Con := ⟨P_ref06_CopyRules, R_ref06_CopyRules, fun x => qre_ref06_CopyRules x, fun x => t_ref06_CopyRules x⟩
theorem ok_ref06_CopyRules : ConOk Try.prog 17 con_ref06_CopyRules := ⟨k_ref06_CopyRules, fun x hx => ret_tf (ps := P_ref06_CopyRules) (rs := R_ref06_CopyRules) (x := x) (y := t_ref06_CopyRules x) e_ref06_CopyRules hC_ref06_CopyRules (tf_of (w_ref06_CopyRules_eq x (fun z => z = t_ref06_CopyRules x)) (d_ref06_CopyRules x (fun z => z = t_ref06_CopyRules x) (pp_ref06_CopyRules x hx) (tt_ref06_CopyRules x hx)))⟩
/- ref06_CopySamples -/
def C_ref06_CopySamples : Cons := []
theorem hC_ref06_CopySamples : ConsOk Try.prog C_ref06_CopySamples := ConsOk.nil
def w_ref06_CopySamples (p0 : (List CS)) (K : (List CS) → Prop) : Prop :=
 (((((List.length ([] : List CS)) + (List.length p0)) * 56) ≤ 140737488355328) ∧
  (K (([] : List CS) ++ p0)))
set_option maxHeartbeats 4000000 in
theorem w_ref06_CopySamples_eq (p0 : (List CS)) (K : (List CS) → Prop) : tfn F_ref06_CopySamples A_ref06_CopySamples C_ref06_CopySamples P_ref06_CopySamples R_ref06_CopySamples p0 K = w_ref06_CopySamples p0 K := by kernel_rfl
def s_ref06_CopySamples (p0 : (List CS)) : (List CS) :=
  (([] : List CS) ++ p0)
abbrev pre_ref06_CopySamples (p0 : (List CS)) : List Prop := [((((List.length ([] : List CS)) + (List.length p0)) * 56) ≤ 140737488355328)]
set_option maxHeartbeats 4000000 in
theorem d_ref06_CopySamples (p0 : (List CS)) (K : (List CS) → Prop) (hp : ∀ p ∈ pre_ref06_CopySamples p0, p) (h : K (s_ref06_CopySamples p0)) : w_ref06_CopySamples p0 K := by
  unfold w_ref06_CopySamples
  unfold s_ref06_CopySamples at h
  obtain ⟨hp0, _⟩ := conj_of hp
  exact ⟨(hp0), h⟩
abbrev con_ref06_CopySamples : Con := ⟨P_ref06_CopySamples, R_ref06_CopySamples, fun x => pre_ref06_CopySamples x, fun x => s_ref06_CopySamples x⟩
theorem ok_ref06_CopySamples : ConOk Try.prog 29 con_ref06_CopySamples := ⟨k_ref06_CopySamples, fun x hx => ret_tf (ps := P_ref06_CopySamples) (rs := R_ref06_CopySamples) (x := x) (y := s_ref06_CopySamples x) e_ref06_CopySamples hC_ref06_CopySamples (tf_of (w_ref06_CopySamples_eq x (fun z => z = s_ref06_CopySamples x)) (d_ref06_CopySamples x (fun z => z = s_ref06_CopySamples x) hx rfl))⟩
/- counts_within -/
def C_counts_within : Cons := []
theorem hC_counts_within : ConsOk Try.prog C_counts_within := ConsOk.nil
def w_counts_within (p0 : Int) (p1 : Int) (p2 : Int) (K : Bool → Prop) : Prop :=
 ((((decide (p1 ≤ p0)) = true) →
  ((decide (p1 ≤ p0)) = (decide (p1 ≤ p0)))) ∧
  ((((decide (p1 ≤ p0)) = true) →
  ((decide (p1 ≤ p0)) = (decide (p1 ≤ p0)))) ∧
  (((decide (p1 ≤ p0)) = (decide (p1 ≤ p0))) ∧
  (K (cond (decide (p1 ≤ p0)) (decide (p0 ≤ p2)) false)))))
set_option maxHeartbeats 4000000 in
theorem w_counts_within_eq (p0 : Int) (p1 : Int) (p2 : Int) (K : Bool → Prop) : tfn F_counts_within A_counts_within C_counts_within P_counts_within R_counts_within (p0, p1, p2) K = w_counts_within p0 p1 p2 K := by kernel_rfl
def s_counts_within (p0 : Int) (p1 : Int) (p2 : Int) : Bool :=
  (cond (decide (p1 ≤ p0)) (decide (p0 ≤ p2)) false)
abbrev pre_counts_within (p0 : Int) (p1 : Int) (p2 : Int) : List Prop := []
set_option maxHeartbeats 4000000 in
theorem d_counts_within (p0 : Int) (p1 : Int) (p2 : Int) (K : Bool → Prop) (hp : ∀ p ∈ pre_counts_within p0 p1 p2, p) (h : K (s_counts_within p0 p1 p2)) : w_counts_within p0 p1 p2 K := by
  unfold w_counts_within
  unfold s_counts_within at h
  exact ⟨rf, rf, rfl, h⟩
abbrev con_counts_within : Con := ⟨P_counts_within, R_counts_within, fun x => pre_counts_within x.1 x.2.1 x.2.2, fun x => s_counts_within x.1 x.2.1 x.2.2⟩
theorem ok_counts_within : ConOk Try.prog 74 con_counts_within := ⟨k_counts_within, fun x hx => ret_tf (ps := P_counts_within) (rs := R_counts_within) (x := x) (y := s_counts_within x.1 x.2.1 x.2.2) e_counts_within hC_counts_within (tf_of (w_counts_within_eq x.1 x.2.1 x.2.2 (fun z => z = s_counts_within x.1 x.2.1 x.2.2)) (d_counts_within x.1 x.2.1 x.2.2 (fun z => z = s_counts_within x.1 x.2.1 x.2.2) hx rfl))⟩
/- counts_allWithin_1 -/
def C_counts_allWithin_1 : Cons := [(74, [], con_counts_within)]
theorem hC_counts_allWithin_1 : ConsOk Try.prog C_counts_allWithin_1 := ConsOk.cons ok_counts_within <| ConsOk.nil
def w_counts_allWithin_1 (p0 : Int) (p1 : Int) (K : Bool → Prop) : Prop :=
 (K (!(s_counts_within p0 (0 : Int) p1)))
set_option maxHeartbeats 4000000 in
theorem w_counts_allWithin_1_eq (p0 : Int) (p1 : Int) (K : Bool → Prop) : tfn F_counts_allWithin_1 A_counts_allWithin_1 C_counts_allWithin_1 P_counts_allWithin_1 R_counts_allWithin_1 (p0, p1) K = w_counts_allWithin_1 p0 p1 K := by kernel_rfl
def s_counts_allWithin_1 (p0 : Int) (p1 : Int) : Bool :=
  (!(s_counts_within p0 (0 : Int) p1))
abbrev pre_counts_allWithin_1 (p0 : Int) (p1 : Int) : List Prop := []
set_option maxHeartbeats 4000000 in
theorem d_counts_allWithin_1 (p0 : Int) (p1 : Int) (K : Bool → Prop) (hp : ∀ p ∈ pre_counts_allWithin_1 p0 p1, p) (h : K (s_counts_allWithin_1 p0 p1)) : w_counts_allWithin_1 p0 p1 K := by
  unfold w_counts_allWithin_1
  unfold s_counts_allWithin_1 at h
  exact h
abbrev con_counts_allWithin_1 : Con := ⟨P_counts_allWithin_1, R_counts_allWithin_1, fun x => pre_counts_allWithin_1 x.1 x.2, fun x => s_counts_allWithin_1 x.1 x.2⟩
theorem ok_counts_allWithin_1 : ConOk Try.prog 116 con_counts_allWithin_1 := ⟨k_counts_allWithin_1, fun x hx => ret_tf (ps := P_counts_allWithin_1) (rs := R_counts_allWithin_1) (x := x) (y := s_counts_allWithin_1 x.1 x.2) e_counts_allWithin_1 hC_counts_allWithin_1 (tf_of (w_counts_allWithin_1_eq x.1 x.2 (fun z => z = s_counts_allWithin_1 x.1 x.2)) (d_counts_allWithin_1 x.1 x.2 (fun z => z = s_counts_allWithin_1 x.1 x.2) hx rfl))⟩
/- slices_IndexFuncint_int__counts_allWithin_1 -/
def C_slices_IndexFuncint_int__counts_allWithin_1 : Cons := [(116, [], con_counts_allWithin_1)]
theorem hC_slices_IndexFuncint_int__counts_allWithin_1 : ConsOk Try.prog C_slices_IndexFuncint_int__counts_allWithin_1 := ConsOk.cons ok_counts_allWithin_1 <| ConsOk.nil
def w_slices_IndexFuncint_int__counts_allWithin_1 (p0 : (List Int)) (p1 : (Int × PUnit)) (K : Int → Prop) : Prop :=
 (∃ n0, (loopP (fun (y1 : Int) k2 =>
    ((((decide (y1 < (((List.length p0) : Nat) : Int))) = true) →
    (((0 : Int) ≤ y1) ∧
      ((y1 < (((List.length p0) : Nat) : Int)) ∧
      ((((s_counts_allWithin_1 (List.getD p0 (Int.toNat y1) (0 : Int)) p1.1) = true) →
      (K y1)) ∧
      (((s_counts_allWithin_1 (List.getD p0 (Int.toNat y1) (0 : Int)) p1.1) = false) →
      (k2 (IntKind.i64.wrap (y1 + (1 : Int))))))))) ∧
    (((decide (y1 < (((List.length p0) : Nat) : Int))) = false) →
    (K (-1 : Int))))) n0 (0 : Int)))
set_option maxHeartbeats 4000000 in
theorem w_slices_IndexFuncint_int__counts_allWithin_1_eq (p0 : (List Int)) (p1 : (Int × PUnit)) (K : Int → Prop) : tfn F_slices_IndexFuncint_int__counts_allWithin_1 A_slices_IndexFuncint_int__counts_allWithin_1 C_slices_IndexFuncint_int__counts_allWithin_1 P_slices_IndexFuncint_int__counts_allWithin_1 R_slices_IndexFuncint_int__counts_allWithin_1 (p0, p1) K = w_slices_IndexFuncint_int__counts_allWithin_1 p0 p1 K := by kernel_rfl
/-- The number of the first that is not from 0 to a limit, from a number on, or -1. -/
def sp_out (m : Int) (i : Int) : List Int → Int
  | [] => -1
  | x :: r => if s_counts_allWithin_1 x m = true then i else sp_out m (i + 1) r
def s_slices_IndexFuncint_int__counts_allWithin_1 (l : List Int) (m : Int × PUnit) : Int := sp_out m.1 0 l
abbrev pre_slices_IndexFuncint_int__counts_allWithin_1 (l : List Int) (_ : Int × PUnit) : List Prop := [lenOk l]
theorem d_slices_IndexFuncint_int__counts_allWithin_1 (l : List Int) (m : Int × PUnit) (K : Int → Prop) (hp : ∀ p ∈ pre_slices_IndexFuncint_int__counts_allWithin_1 l m, p) (h : K (s_slices_IndexFuncint_int__counts_allWithin_1 l m)) : w_slices_IndexFuncint_int__counts_allWithin_1 l m K := by
  obtain ⟨hl, _⟩ := conj_of hp
  refine loop_list0 l 0 (fun r => K (sp_out m.1 ((l.length : Int) - r.length) r)) ?_ ?_ (by simpa [s_slices_IndexFuncint_int__counts_allWithin_1] using h)
  · intro k hI
    simpa [sp_out] using hI
  · intro j k hj hI hk
    have hj' : (j : Int) < l.length := by omega
    rw [wrap_nat (by omega)]
    have e1 : (l.length : Int) - ((l.getD j 0 :: l.drop (j + 1)).length : Int) = j := by simp; omega
    have e2 : (l.length : Int) - ((l.drop (j + 1)).length : Int) = (j : Int) + 1 := by simp; omega
    rw [e1] at hI
    rw [e2] at hk
    simp only [hj', decide_true, Int.toNat_natCast, forall_const, Bool.true_eq_false, false_imp_iff, and_true]
    refine ⟨by omega, trivial, fun hx => ?_, fun hx => hk ?_⟩
    · simpa only [sp_out, hx, if_true] using hI
    · simpa only [sp_out, hx, Bool.false_eq_true, if_false] using hI

abbrev con_slices_IndexFuncint_int__counts_allWithin_1 : Con := ⟨P_slices_IndexFuncint_int__counts_allWithin_1, R_slices_IndexFuncint_int__counts_allWithin_1, fun x => pre_slices_IndexFuncint_int__counts_allWithin_1 x.1 x.2, fun x => s_slices_IndexFuncint_int__counts_allWithin_1 x.1 x.2⟩
theorem ok_slices_IndexFuncint_int__counts_allWithin_1 : ConOk Try.prog 102 con_slices_IndexFuncint_int__counts_allWithin_1 := ⟨k_slices_IndexFuncint_int__counts_allWithin_1, fun x hx => ret_tf (ps := P_slices_IndexFuncint_int__counts_allWithin_1) (rs := R_slices_IndexFuncint_int__counts_allWithin_1) (x := x) (y := s_slices_IndexFuncint_int__counts_allWithin_1 x.1 x.2) e_slices_IndexFuncint_int__counts_allWithin_1 hC_slices_IndexFuncint_int__counts_allWithin_1 (tf_of (w_slices_IndexFuncint_int__counts_allWithin_1_eq x.1 x.2 (fun z => z = s_slices_IndexFuncint_int__counts_allWithin_1 x.1 x.2)) (d_slices_IndexFuncint_int__counts_allWithin_1 x.1 x.2 (fun z => z = s_slices_IndexFuncint_int__counts_allWithin_1 x.1 x.2) hx rfl))⟩
/- counts_allWithin -/
def C_counts_allWithin : Cons := [(102, [116], con_slices_IndexFuncint_int__counts_allWithin_1)]
theorem hC_counts_allWithin : ConsOk Try.prog C_counts_allWithin := ConsOk.cons ok_slices_IndexFuncint_int__counts_allWithin_1 <| ConsOk.nil
def w_counts_allWithin (p0 : (Int × (Int × Int))) (p1 : Int) (K : Int → Prop) : Prop :=
 ((lenOk (p0.1 :: (p0.2.1 :: (p0.2.2 :: ([] : List Int))))) ∧
  (K (s_slices_IndexFuncint_int__counts_allWithin_1 (p0.1 :: (p0.2.1 :: (p0.2.2 :: ([] : List Int)))) (p1, ()))))
set_option maxHeartbeats 4000000 in
theorem w_counts_allWithin_eq (p0 : (Int × (Int × Int))) (p1 : Int) (K : Int → Prop) : tfn F_counts_allWithin A_counts_allWithin C_counts_allWithin P_counts_allWithin R_counts_allWithin (p0, p1) K = w_counts_allWithin p0 p1 K := by kernel_rfl
def s_counts_allWithin (p0 : (Int × (Int × Int))) (p1 : Int) : Int :=
  (s_slices_IndexFuncint_int__counts_allWithin_1 (p0.1 :: (p0.2.1 :: (p0.2.2 :: ([] : List Int)))) (p1, ()))
abbrev pre_counts_allWithin (p0 : (Int × (Int × Int))) (p1 : Int) : List Prop := []
set_option maxHeartbeats 4000000 in
theorem d_counts_allWithin (p0 : (Int × (Int × Int))) (p1 : Int) (K : Int → Prop) (hp : ∀ p ∈ pre_counts_allWithin p0 p1, p) (h : K (s_counts_allWithin p0 p1)) : w_counts_allWithin p0 p1 K := by
  unfold w_counts_allWithin
  unfold s_counts_allWithin at h
  exact ⟨(lenOk_of 3 rfl (by decide)), h⟩
abbrev con_counts_allWithin : Con := ⟨P_counts_allWithin, R_counts_allWithin, fun x => pre_counts_allWithin x.1 x.2, fun x => s_counts_allWithin x.1 x.2⟩
theorem ok_counts_allWithin : ConOk Try.prog 75 con_counts_allWithin := ⟨k_counts_allWithin, fun x hx => ret_tf (ps := P_counts_allWithin) (rs := R_counts_allWithin) (x := x) (y := s_counts_allWithin x.1 x.2) e_counts_allWithin hC_counts_allWithin (tf_of (w_counts_allWithin_eq x.1 x.2 (fun z => z = s_counts_allWithin x.1 x.2)) (d_counts_allWithin x.1 x.2 (fun z => z = s_counts_allWithin x.1 x.2) hx rfl))⟩
/- counts_unless -/
def C_counts_unless : Cons := []
theorem hC_counts_unless : ConsOk Try.prog C_counts_unless := ConsOk.nil
def w_counts_unless (p0 : Bool) (p1 : Int) (K : Int → Prop) : Prop :=
 (((p0 = true) →
  (K (0 : Int))) ∧
  ((p0 = false) →
  (K p1)))
set_option maxHeartbeats 4000000 in
theorem w_counts_unless_eq (p0 : Bool) (p1 : Int) (K : Int → Prop) : tfn F_counts_unless A_counts_unless C_counts_unless P_counts_unless R_counts_unless (p0, p1) K = w_counts_unless p0 p1 K := by kernel_rfl
def s_counts_unless (p0 : Bool) (p1 : Int) : Int :=
  (cond p0 (0 : Int)
    p1)
abbrev pre_counts_unless (p0 : Bool) (p1 : Int) : List Prop := []
set_option maxHeartbeats 4000000 in
theorem d_counts_unless (p0 : Bool) (p1 : Int) (K : Int → Prop) (hp : ∀ p ∈ pre_counts_unless p0 p1, p) (h : K (s_counts_unless p0 p1)) : w_counts_unless p0 p1 K := by
  unfold w_counts_unless
  unfold s_counts_unless at h
  exact (br' h (fun e0 h => h)
    (fun e0 h => h))
abbrev con_counts_unless : Con := ⟨P_counts_unless, R_counts_unless, fun x => pre_counts_unless x.1 x.2, fun x => s_counts_unless x.1 x.2⟩
theorem ok_counts_unless : ConOk Try.prog 78 con_counts_unless := ⟨k_counts_unless, fun x hx => ret_tf (ps := P_counts_unless) (rs := R_counts_unless) (x := x) (y := s_counts_unless x.1 x.2) e_counts_unless hC_counts_unless (tf_of (w_counts_unless_eq x.1 x.2 (fun z => z = s_counts_unless x.1 x.2)) (d_counts_unless x.1 x.2 (fun z => z = s_counts_unless x.1 x.2) hx rfl))⟩
/- counts_total -/
def C_counts_total : Cons := []
theorem hC_counts_total : ConsOk Try.prog C_counts_total := ConsOk.nil
def w_counts_total (p0 : (List Int)) (K : Int → Prop) : Prop :=
 (∃ n0, (loopP (fun (y1 : (Int × Int)) k2 =>
    ((((decide (y1.1 < (((List.length p0) : Nat) : Int))) = true) →
    (((0 : Int) ≤ y1.1) ∧
      ((y1.1 < (((List.length p0) : Nat) : Int)) ∧
      (k2 ((IntKind.i64.wrap (y1.1 + (1 : Int))), (IntKind.i64.wrap (y1.2 + (List.getD p0 (Int.toNat y1.1) (0 : Int))))))))) ∧
    (((decide (y1.1 < (((List.length p0) : Nat) : Int))) = false) →
    (K y1.2)))) n0 ((0 : Int), (0 : Int))))
set_option maxHeartbeats 4000000 in
theorem w_counts_total_eq (p0 : (List Int)) (K : Int → Prop) : tfn F_counts_total A_counts_total C_counts_total P_counts_total R_counts_total p0 K = w_counts_total p0 K := by kernel_rfl
/-- The sum, round after round. -/
def sp_total (a : Int) : List Int → Int
  | [] => a
  | x :: r => sp_total (IntKind.i64.wrap (a + x)) r
def s_counts_total (l : List Int) : Int := sp_total 0 l
abbrev pre_counts_total (l : List Int) : List Prop := [lenOk l]
theorem d_counts_total (l : List Int) (K : Int → Prop) (hp : ∀ p ∈ pre_counts_total l, p) (h : K (s_counts_total l)) : w_counts_total l K := by
  obtain ⟨hl, _⟩ := conj_of hp
  refine loop_list (fun i t => (i, t)) l 0 (fun t r => K (sp_total t r)) ?_ ?_ 0 h
  · intro t k hI
    simpa [sp_total] using hI
  · intro j t k hj hI hk
    have hj' : (j : Int) < l.length := by omega
    simp only [wrap_nat (show (j : Int) ≤ 9223372036854775806 by omega)]
    simp only [hj', decide_true, Int.toNat_natCast, forall_const, Bool.true_eq_false, false_imp_iff, and_true]
    exact ⟨by omega, trivial, hk _ hI⟩

abbrev con_counts_total : Con := ⟨P_counts_total, R_counts_total, fun x => pre_counts_total x, fun x => s_counts_total x⟩
theorem ok_counts_total : ConOk Try.prog 100 con_counts_total := ⟨k_counts_total, fun x hx => ret_tf (ps := P_counts_total) (rs := R_counts_total) (x := x) (y := s_counts_total x) e_counts_total hC_counts_total (tf_of (w_counts_total_eq x (fun z => z = s_counts_total x)) (d_counts_total x (fun z => z = s_counts_total x) hx rfl))⟩
/- counts_first -/
def C_counts_first : Cons := []
theorem hC_counts_first : ConsOk Try.prog C_counts_first := ConsOk.nil
def w_counts_first (p0 : (List Int)) (K : Int → Prop) : Prop :=
 (∃ n0, (loopP (fun (y1 : Int) k2 =>
    ((((decide (y1 < (((List.length p0) : Nat) : Int))) = true) →
    (((0 : Int) ≤ y1) ∧
      ((y1 < (((List.length p0) : Nat) : Int)) ∧
      (((((List.getD p0 (Int.toNat y1) (0 : Int)) != (0 : Int)) = true) →
      (K (List.getD p0 (Int.toNat y1) (0 : Int)))) ∧
      ((((List.getD p0 (Int.toNat y1) (0 : Int)) != (0 : Int)) = false) →
      (k2 (IntKind.i64.wrap (y1 + (1 : Int))))))))) ∧
    (((decide (y1 < (((List.length p0) : Nat) : Int))) = false) →
    (K (0 : Int))))) n0 (0 : Int)))
set_option maxHeartbeats 4000000 in
theorem w_counts_first_eq (p0 : (List Int)) (K : Int → Prop) : tfn F_counts_first A_counts_first C_counts_first P_counts_first R_counts_first p0 K = w_counts_first p0 K := by kernel_rfl
/-- The first that is not 0. -/
def s_counts_first : List Int → Int
  | [] => 0
  | x :: r => if x = 0 then s_counts_first r else x
abbrev pre_counts_first (l : List Int) : List Prop := [lenOk l]
theorem d_counts_first (l : List Int) (K : Int → Prop) (hp : ∀ p ∈ pre_counts_first l, p) (h : K (s_counts_first l)) : w_counts_first l K := by
  obtain ⟨hl, _⟩ := conj_of hp
  refine loop_list0 l 0 (fun r => K (s_counts_first r)) ?_ ?_ h
  · intro k hI
    simpa [s_counts_first] using hI
  · intro j k hj hI hk
    have hj' : (j : Int) < l.length := by omega
    rw [wrap_nat (by omega)]
    simp only [hj', decide_true, Int.toNat_natCast, forall_const, Bool.true_eq_false, false_imp_iff, and_true, bne_iff_ne, ne_eq, bne_eq_false_iff_eq]
    refine ⟨by omega, trivial, fun hx => ?_, fun hx => hk ?_⟩
    · simpa only [s_counts_first, if_neg hx] using hI
    · simpa only [s_counts_first, if_pos hx] using hI

abbrev con_counts_first : Con := ⟨P_counts_first, R_counts_first, fun x => pre_counts_first x, fun x => s_counts_first x⟩
theorem ok_counts_first : ConOk Try.prog 77 con_counts_first := ⟨k_counts_first, fun x hx => ret_tf (ps := P_counts_first) (rs := R_counts_first) (x := x) (y := s_counts_first x) e_counts_first hC_counts_first (tf_of (w_counts_first_eq x (fun z => z = s_counts_first x)) (d_counts_first x (fun z => z = s_counts_first x) hx rfl))⟩
/- counts_columnErr -/
def C_counts_columnErr : Cons := [(75, [], con_counts_allWithin), (78, [], con_counts_unless), (100, [], con_counts_total), (77, [], con_counts_first)]
theorem hC_counts_columnErr : ConsOk Try.prog C_counts_columnErr := ConsOk.cons ok_counts_allWithin <| ConsOk.cons ok_counts_unless <| ConsOk.cons ok_counts_total <| ConsOk.cons ok_counts_first <| ConsOk.nil
def w_counts_columnErr (p0 : M3) (p1 : Int) (K : Int → Prop) : Prop :=
 (∃ n0, (loopP (fun (y1 : (Int × (Int × (Int × Int)))) k2 =>
    ((((decide (y1.1 < (3 : Int))) = true) →
    (((0 : Int) ≤ y1.1) ∧
      ((y1.1 < (3 : Int)) ∧
      (((0 : Int) ≤ p1) ∧
      ((p1 < (3 : Int)) ∧
      (((0 : Int) ≤ y1.1) ∧
      ((y1.1 < (3 : Int)) ∧
      (k2 ((IntKind.i64.wrap (y1.1 + (1 : Int))), ((cond (decide (y1.1 = (0 : Int))) (List.getD ((List.getD (p0.1.1 :: (p0.2.1.1 :: (p0.2.2.1 :: ([] : List Int)))) (Int.toNat y1.1) (0 : Int)) :: ((List.getD (p0.1.2.1 :: (p0.2.1.2.1 :: (p0.2.2.2.1 :: ([] : List Int)))) (Int.toNat y1.1) (0 : Int)) :: ((List.getD (p0.1.2.2 :: (p0.2.1.2.2 :: (p0.2.2.2.2 :: ([] : List Int)))) (Int.toNat y1.1) (0 : Int)) :: ([] : List Int)))) (Int.toNat p1) (0 : Int)) y1.2.1), ((cond (decide (y1.1 = (1 : Int))) (List.getD ((List.getD (p0.1.1 :: (p0.2.1.1 :: (p0.2.2.1 :: ([] : List Int)))) (Int.toNat y1.1) (0 : Int)) :: ((List.getD (p0.1.2.1 :: (p0.2.1.2.1 :: (p0.2.2.2.1 :: ([] : List Int)))) (Int.toNat y1.1) (0 : Int)) :: ((List.getD (p0.1.2.2 :: (p0.2.1.2.2 :: (p0.2.2.2.2 :: ([] : List Int)))) (Int.toNat y1.1) (0 : Int)) :: ([] : List Int)))) (Int.toNat p1) (0 : Int)) y1.2.2.1), (cond (decide (y1.1 = (2 : Int))) (List.getD ((List.getD (p0.1.1 :: (p0.2.1.1 :: (p0.2.2.1 :: ([] : List Int)))) (Int.toNat y1.1) (0 : Int)) :: ((List.getD (p0.1.2.1 :: (p0.2.1.2.1 :: (p0.2.2.2.1 :: ([] : List Int)))) (Int.toNat y1.1) (0 : Int)) :: ((List.getD (p0.1.2.2 :: (p0.2.1.2.2 :: (p0.2.2.2.2 :: ([] : List Int)))) (Int.toNat y1.1) (0 : Int)) :: ([] : List Int)))) (Int.toNat p1) (0 : Int)) y1.2.2.2)))))))))))) ∧
    (((decide (y1.1 < (3 : Int))) = false) →
    ((lenOk (y1.2.1 :: (y1.2.2.1 :: (y1.2.2.2 :: ([] : List Int))))) ∧
      (((0 : Int) ≤ p1) ∧
      ((p1 < (3 : Int)) ∧
      ((lenOk ((s_counts_unless (decide ((s_counts_allWithin y1.2 (1000 : Int)) < (0 : Int))) (2 : Int)) :: ((s_counts_unless ((s_counts_total (y1.2.1 :: (y1.2.2.1 :: (y1.2.2.2 :: ([] : List Int))))) == (1000 : Int)) (3 : Int)) :: ((s_counts_unless (decide ((List.getD (y1.2.1 :: (y1.2.2.1 :: (y1.2.2.2 :: ([] : List Int)))) (Int.toNat p1) (0 : Int)) ≥ (600 : Int))) (22 : Int)) :: ([] : List Int))))) ∧
      (K (s_counts_first ((s_counts_unless (decide ((s_counts_allWithin y1.2 (1000 : Int)) < (0 : Int))) (2 : Int)) :: ((s_counts_unless ((s_counts_total (y1.2.1 :: (y1.2.2.1 :: (y1.2.2.2 :: ([] : List Int))))) == (1000 : Int)) (3 : Int)) :: ((s_counts_unless (decide ((List.getD (y1.2.1 :: (y1.2.2.1 :: (y1.2.2.2 :: ([] : List Int)))) (Int.toNat p1) (0 : Int)) ≥ (600 : Int))) (22 : Int)) :: ([] : List Int))))))))))))) n0 ((0 : Int), ((0 : Int), ((0 : Int), (0 : Int))))))
set_option maxHeartbeats 4000000 in
theorem w_counts_columnErr_eq (p0 : M3) (p1 : Int) (K : Int → Prop) : tfn F_counts_columnErr A_counts_columnErr C_counts_columnErr P_counts_columnErr R_counts_columnErr (p0, p1) K = w_counts_columnErr p0 p1 K := by kernel_rfl
def s_counts_columnErr (p0 : M3) (p1 : Int) : Int :=
  (s_counts_first ((s_counts_unless (decide ((s_counts_allWithin ((List.getD (p0.1.1 :: (p0.1.2.1 :: (p0.1.2.2 :: ([] : List Int)))) (Int.toNat p1) (0 : Int)), ((List.getD (p0.2.1.1 :: (p0.2.1.2.1 :: (p0.2.1.2.2 :: ([] : List Int)))) (Int.toNat p1) (0 : Int)), (List.getD (p0.2.2.1 :: (p0.2.2.2.1 :: (p0.2.2.2.2 :: ([] : List Int)))) (Int.toNat p1) (0 : Int)))) (1000 : Int)) < (0 : Int))) (2 : Int)) :: ((s_counts_unless ((s_counts_total ((List.getD (p0.1.1 :: (p0.1.2.1 :: (p0.1.2.2 :: ([] : List Int)))) (Int.toNat p1) (0 : Int)) :: ((List.getD (p0.2.1.1 :: (p0.2.1.2.1 :: (p0.2.1.2.2 :: ([] : List Int)))) (Int.toNat p1) (0 : Int)) :: ((List.getD (p0.2.2.1 :: (p0.2.2.2.1 :: (p0.2.2.2.2 :: ([] : List Int)))) (Int.toNat p1) (0 : Int)) :: ([] : List Int))))) == (1000 : Int)) (3 : Int)) :: ((s_counts_unless (decide ((List.getD ((List.getD (p0.1.1 :: (p0.1.2.1 :: (p0.1.2.2 :: ([] : List Int)))) (Int.toNat p1) (0 : Int)) :: ((List.getD (p0.2.1.1 :: (p0.2.1.2.1 :: (p0.2.1.2.2 :: ([] : List Int)))) (Int.toNat p1) (0 : Int)) :: ((List.getD (p0.2.2.1 :: (p0.2.2.2.1 :: (p0.2.2.2.2 :: ([] : List Int)))) (Int.toNat p1) (0 : Int)) :: ([] : List Int)))) (Int.toNat p1) (0 : Int)) ≥ (600 : Int))) (22 : Int)) :: ([] : List Int)))))
abbrev pre_counts_columnErr (p0 : M3) (p1 : Int) : List Prop := [((0 : Int) ≤ p1),
    (p1 < (3 : Int))]
set_option maxHeartbeats 4000000 in
theorem d_counts_columnErr (p0 : M3) (p1 : Int) (K : Int → Prop) (hp : ∀ p ∈ pre_counts_columnErr p0 p1, p) (h : K (s_counts_columnErr p0 p1)) : w_counts_columnErr p0 p1 K := by
  unfold w_counts_columnErr
  unfold s_counts_columnErr at h
  obtain ⟨hp0, hp1, _⟩ := conj_of hp
  exact ⟨31, fun _ => ⟨(od rfl), (od rfl), (hp0), (hp1), (od rfl), (od rfl), fun _ => ⟨(od rfl), (od rfl), (hp0), (hp1), (od rfl), (od rfl), fun _ => ⟨(od rfl), (od rfl), (hp0), (hp1), (od rfl), (od rfl), nof, fun _ => ⟨(lenOk_of 3 rfl (by decide)), (hp0), (hp1), (lenOk_of 3 rfl (by decide)), h⟩⟩, fun e => Bool.noConfusion (show true = false from e)⟩, fun e => Bool.noConfusion (show true = false from e)⟩, fun e => Bool.noConfusion (show true = false from e)⟩
abbrev con_counts_columnErr : Con := ⟨P_counts_columnErr, R_counts_columnErr, fun x => pre_counts_columnErr x.1 x.2, fun x => s_counts_columnErr x.1 x.2⟩
theorem ok_counts_columnErr : ConOk Try.prog 76 con_counts_columnErr := ⟨k_counts_columnErr, fun x hx => ret_tf (ps := P_counts_columnErr) (rs := R_counts_columnErr) (x := x) (y := s_counts_columnErr x.1 x.2) e_counts_columnErr hC_counts_columnErr (tf_of (w_counts_columnErr_eq x.1 x.2 (fun z => z = s_counts_columnErr x.1 x.2)) (d_counts_columnErr x.1 x.2 (fun z => z = s_counts_columnErr x.1 x.2) hx rfl))⟩
/- counts_CheckRules -/
def C_counts_CheckRules : Cons := [(74, [], con_counts_within), (75, [], con_counts_allWithin), (76, [], con_counts_columnErr), (78, [], con_counts_unless), (77, [], con_counts_first)]
theorem hC_counts_CheckRules : ConsOk Try.prog C_counts_CheckRules := ConsOk.cons ok_counts_within <| ConsOk.cons ok_counts_allWithin <| ConsOk.cons ok_counts_columnErr <| ConsOk.cons ok_counts_unless <| ConsOk.cons ok_counts_first <| ConsOk.nil
abbrev q0_counts_CheckRules (p0 : CR) (y1 : Int) := (!(s_counts_within (List.getD (p0.2.2.1.1 :: (p0.2.2.1.2.1 :: (p0.2.2.1.2.2 :: ([] : List Int)))) (Int.toNat y1) zz0) zz0 (1000000 : Int)))
abbrev q3_counts_CheckRules (p0 : CR) (y7 : (Int × Int)) := (s_counts_within (List.getD p0.2.2.2.2.2.2.2.2 (Int.toNat y7.1) (zz0, zz0)).1 zz0 (1000 : Int))
abbrev q1_counts_CheckRules (p0 : CR) (y7 : (Int × Int)) := ((s_counts_unless (cond (q3_counts_CheckRules p0 y7) (s_counts_within (List.getD p0.2.2.2.2.2.2.2.2 (Int.toNat y7.1) (zz0, zz0)).2 zz1 (10000 : Int)) false) zz2) :: ((s_counts_unless (decide ((List.getD p0.2.2.2.2.2.2.2.2 (Int.toNat y7.1) (zz0, zz0)).1 > y7.2)) (9 : Int)) :: ([] : List Int)))
abbrev q2_counts_CheckRules (p0 : CR) := ((s_counts_unless (decide ((((List.length p0.2.2.2.2.2.2.2.2) : Nat) : Int) ≥ zz2)) (10 : Int)) :: ((s_counts_unless (decide ((((List.length p0.2.2.2.2.2.2.2.2) : Nat) : Int) ≤ (8 : Int))) (8 : Int)) :: ([] : List Int)))
abbrev q4_counts_CheckRules (p0 : CR) := ((!(s_counts_within p0.2.2.2.2.1 zz0 (200 : Int))) = (!(s_counts_within p0.2.2.2.2.1 zz0 (200 : Int))))
def w_counts_CheckRules (p0 : CR) (K : (Int × Int) → Prop) : Prop :=
 ((((!(s_counts_within p0.1 zz1 (1000000 : Int))) = false) →
  ((!(s_counts_within p0.1 zz1 (1000000 : Int))) = (!(s_counts_within p0.1 zz1 (1000000 : Int))))) ∧
  ((((!(s_counts_within p0.1 zz1 (1000000 : Int))) = false) →
  ((!(s_counts_within p0.1 zz1 (1000000 : Int))) = (!(s_counts_within p0.1 zz1 (1000000 : Int))))) ∧
  ((((!(s_counts_within p0.1 zz1 (1000000 : Int))) = false) →
  ((!(s_counts_within p0.1 zz1 (1000000 : Int))) = (!(s_counts_within p0.1 zz1 (1000000 : Int))))) ∧
  (((!(s_counts_within p0.1 zz1 (1000000 : Int))) = (!(s_counts_within p0.1 zz1 (1000000 : Int)))) ∧
  ((((cond (!(s_counts_within p0.1 zz1 (1000000 : Int))) true (!(s_counts_within p0.2.1 zz0 (100 : Int)))) = true) →
  (K (zz0, zz2))) ∧
  (((cond (!(s_counts_within p0.1 zz1 (1000000 : Int))) true (!(s_counts_within p0.2.1 zz0 (100 : Int)))) = false) →
  (∃ n0, (loopP (fun (y1 : Int) k2 =>
      ((((decide (y1 < zz3)) = true) →
      ((zz0 ≤ y1) ∧
        ((y1 < zz3) ∧
        ((((q0_counts_CheckRules p0 y1) = false) →
        ((q0_counts_CheckRules p0 y1) = (q0_counts_CheckRules p0 y1))) ∧
        ((((q0_counts_CheckRules p0 y1) = false) →
        ((q0_counts_CheckRules p0 y1) = (q0_counts_CheckRules p0 y1))) ∧
        ((((q0_counts_CheckRules p0 y1) = false) →
        (zz0 ≤ y1)) ∧
        ((((q0_counts_CheckRules p0 y1) = false) →
        (y1 < zz3)) ∧
        ((((q0_counts_CheckRules p0 y1) = false) →
        ((q0_counts_CheckRules p0 y1) = (q0_counts_CheckRules p0 y1))) ∧
        ((((q0_counts_CheckRules p0 y1) = false) →
        ((q0_counts_CheckRules p0 y1) = (q0_counts_CheckRules p0 y1))) ∧
        ((((q0_counts_CheckRules p0 y1) = false) →
        ((q0_counts_CheckRules p0 y1) = (q0_counts_CheckRules p0 y1))) ∧
        (((q0_counts_CheckRules p0 y1) = (q0_counts_CheckRules p0 y1)) ∧
        ((((cond (q0_counts_CheckRules p0 y1) true (!(s_counts_within (List.getD (p0.2.2.2.1.1 :: (p0.2.2.2.1.2.1 :: (p0.2.2.2.1.2.2 :: ([] : List Int)))) (Int.toNat y1) zz0) zz0 (1000 : Int)))) = true) →
        (K (y1, zz2))) ∧
        (((cond (q0_counts_CheckRules p0 y1) true (!(s_counts_within (List.getD (p0.2.2.2.1.1 :: (p0.2.2.2.1.2.1 :: (p0.2.2.2.1.2.2 :: ([] : List Int)))) (Int.toNat y1) zz0) zz0 (1000 : Int)))) = false) →
        (k2 (wi (y1 + zz1)))))))))))))))) ∧
      (((decide (y1 < zz3)) = false) →
      ((((!(s_counts_within p0.2.2.2.2.1 zz0 (200 : Int))) = false) →
        (q4_counts_CheckRules p0)) ∧
        ((((!(s_counts_within p0.2.2.2.2.1 zz0 (200 : Int))) = false) →
        (q4_counts_CheckRules p0)) ∧
        ((((!(s_counts_within p0.2.2.2.2.1 zz0 (200 : Int))) = false) →
        (q4_counts_CheckRules p0)) ∧
        ((((!(s_counts_within p0.2.2.2.2.1 zz0 (200 : Int))) = false) →
        (q4_counts_CheckRules p0)) ∧
        ((((!(s_counts_within p0.2.2.2.2.1 zz0 (200 : Int))) = false) →
        (q4_counts_CheckRules p0)) ∧
        ((((!(s_counts_within p0.2.2.2.2.1 zz0 (200 : Int))) = false) →
        (q4_counts_CheckRules p0)) ∧
        ((q4_counts_CheckRules p0) ∧
        ((((cond (!(s_counts_within p0.2.2.2.2.1 zz0 (200 : Int))) true (!(s_counts_within p0.2.2.2.2.2.1 (wi (p0.2.2.2.2.1 + (200 : Int))) (1000 : Int)))) = true) →
        (K (zz0, zz2))) ∧
        (((cond (!(s_counts_within p0.2.2.2.2.1 zz0 (200 : Int))) true (!(s_counts_within p0.2.2.2.2.2.1 (wi (p0.2.2.2.2.1 + (200 : Int))) (1000 : Int)))) = false) →
        ((((decide ((s_counts_allWithin p0.2.2.2.2.2.2.1 (1000 : Int)) ≥ zz0)) = true) →
          (K ((s_counts_allWithin p0.2.2.2.2.2.2.1 (1000 : Int)), zz2))) ∧
          (((decide ((s_counts_allWithin p0.2.2.2.2.2.2.1 (1000 : Int)) ≥ zz0)) = false) →
          ((((p0.2.2.2.2.2.2.1.2.1 != (1000 : Int)) = true) →
            (K (zz1, zz3))) ∧
            (((p0.2.2.2.2.2.2.1.2.1 != (1000 : Int)) = false) →
            (∃ n3, (loopP (fun (y4 : Int) k5 =>
                ((((decide (y4 < zz3)) = true) →
                ((zz0 ≤ y4) ∧
                  ((y4 < zz3) ∧
                  (((((s_counts_columnErr p0.2.2.2.2.2.2.2.1 y4) != zz0) = true) →
                  (K (y4, (s_counts_columnErr p0.2.2.2.2.2.2.2.1 y4)))) ∧
                  ((((s_counts_columnErr p0.2.2.2.2.2.2.2.1 y4) != zz0) = false) →
                  (k5 (wi (y4 + zz1)))))))) ∧
                (((decide (y4 < zz3)) = false) →
                ((lenOk (q2_counts_CheckRules p0)) ∧
                  (((((s_counts_first (q2_counts_CheckRules p0)) != zz0) = true) →
                  (K (zz0, (s_counts_first (q2_counts_CheckRules p0))))) ∧
                  ((((s_counts_first (q2_counts_CheckRules p0)) != zz0) = false) →
                  (∃ n6, (loopP (fun (y7 : (Int × Int)) k8 =>
                      ((((decide (y7.1 < (((List.length p0.2.2.2.2.2.2.2.2) : Nat) : Int))) = true) →
                      ((zz0 ≤ y7.1) ∧
                        ((y7.1 < (((List.length p0.2.2.2.2.2.2.2.2) : Nat) : Int)) ∧
                        ((((q3_counts_CheckRules p0 y7) = true) →
                        ((q3_counts_CheckRules p0 y7) = (q3_counts_CheckRules p0 y7))) ∧
                        ((((q3_counts_CheckRules p0 y7) = true) →
                        ((q3_counts_CheckRules p0 y7) = (q3_counts_CheckRules p0 y7))) ∧
                        (((q3_counts_CheckRules p0 y7) = (q3_counts_CheckRules p0 y7)) ∧
                        ((lenOk (q1_counts_CheckRules p0 y7)) ∧
                        (((((s_counts_first (q1_counts_CheckRules p0 y7)) != zz0) = true) →
                        (K (y7.1, (s_counts_first (q1_counts_CheckRules p0 y7))))) ∧
                        ((((s_counts_first (q1_counts_CheckRules p0 y7)) != zz0) = false) →
                        (k8 ((wi (y7.1 + zz1)), (List.getD p0.2.2.2.2.2.2.2.2 (Int.toNat y7.1) (zz0, zz0)).1))))))))))) ∧
                      (((decide (y7.1 < (((List.length p0.2.2.2.2.2.2.2.2) : Nat) : Int))) = false) →
                      (K (zz0, zz0))))) n6 (zz0, (-1 : Int)))))))))) n3 zz0)))))))))))))))))) n0 zz0))))))))
set_option maxHeartbeats 4000000 in
theorem w_counts_CheckRules_eq (p0 : CR) (K : (Int × Int) → Prop) : tfn F_counts_CheckRules A_counts_CheckRules C_counts_CheckRules P_counts_CheckRules R_counts_CheckRules p0 K = w_counts_CheckRules p0 K := by kernel_rfl
def b_counts_CheckRules_0 (p0 : CR) (K : (Int × Int) → Prop) (y : (Int × Int)) (k : (Int × Int) → Prop) : Prop :=
 (((decide (y.1 < (((List.length p0.2.2.2.2.2.2.2.2) : Nat) : Int))) = true →
    (((0 : Int) ≤ y.1) ∧
    ((y.1 < (((List.length p0.2.2.2.2.2.2.2.2) : Nat) : Int)) ∧
    ((((s_counts_first ((s_counts_unless (cond (s_counts_within (List.getD p0.2.2.2.2.2.2.2.2 (Int.toNat y.1) ((0 : Int), (0 : Int))).1 (0 : Int) (1000 : Int)) (s_counts_within (List.getD p0.2.2.2.2.2.2.2.2 (Int.toNat y.1) ((0 : Int), (0 : Int))).2 (1 : Int) (10000 : Int)) false) (2 : Int)) :: ((s_counts_unless (decide ((List.getD p0.2.2.2.2.2.2.2.2 (Int.toNat y.1) ((0 : Int), (0 : Int))).1 > y.2)) (9 : Int)) :: ([] : List Int)))) != (0 : Int)) = true →
      (K (y.1, (s_counts_first ((s_counts_unless (cond (s_counts_within (List.getD p0.2.2.2.2.2.2.2.2 (Int.toNat y.1) ((0 : Int), (0 : Int))).1 (0 : Int) (1000 : Int)) (s_counts_within (List.getD p0.2.2.2.2.2.2.2.2 (Int.toNat y.1) ((0 : Int), (0 : Int))).2 (1 : Int) (10000 : Int)) false) (2 : Int)) :: ((s_counts_unless (decide ((List.getD p0.2.2.2.2.2.2.2.2 (Int.toNat y.1) ((0 : Int), (0 : Int))).1 > y.2)) (9 : Int)) :: ([] : List Int))))))) ∧
    (((s_counts_first ((s_counts_unless (cond (s_counts_within (List.getD p0.2.2.2.2.2.2.2.2 (Int.toNat y.1) ((0 : Int), (0 : Int))).1 (0 : Int) (1000 : Int)) (s_counts_within (List.getD p0.2.2.2.2.2.2.2.2 (Int.toNat y.1) ((0 : Int), (0 : Int))).2 (1 : Int) (10000 : Int)) false) (2 : Int)) :: ((s_counts_unless (decide ((List.getD p0.2.2.2.2.2.2.2.2 (Int.toNat y.1) ((0 : Int), (0 : Int))).1 > y.2)) (9 : Int)) :: ([] : List Int)))) != (0 : Int)) = false →
      (k ((IntKind.i64.wrap (y.1 + (1 : Int))), (List.getD p0.2.2.2.2.2.2.2.2 (Int.toNat y.1) ((0 : Int), (0 : Int))).1))))))) ∧
  ((decide (y.1 < (((List.length p0.2.2.2.2.2.2.2.2) : Nat) : Int))) = false →
    (K ((0 : Int), (0 : Int)))))
/-- The error of a knot behind another one. -/
def sp_knErr (last : Int) (x : Int × Int) : Int :=
  s_counts_first (s_counts_unless (cond (s_counts_within x.1 0 1000) (s_counts_within x.2 1 10000) false) 2 :: s_counts_unless (decide (x.1 > last)) 9 :: [])
/-- The first invalid knot. -/
def sp_kn (i last : Int) : List (Int × Int) → Int × Int
  | [] => (0, 0)
  | x :: r => cond (sp_knErr last x != 0) (i, sp_knErr last x) (sp_kn (i + 1) x.1 r)
def lp_counts_CheckRules_0 (p0 : CR) (x : Int × Int) : Int × Int := sp_kn 0 x.2 p0.hs
abbrev lpre_counts_CheckRules_0 (p0 : CR) (x : Int × Int) : Prop := lenOk p0.hs ∧ x.1 = 0
theorem lk_counts_CheckRules_0 (p0 : CR) (x : Int × Int) (K : Int × Int → Prop) (hp : lpre_counts_CheckRules_0 p0 x) (h : K (lp_counts_CheckRules_0 p0 x)) : ∃ n, loopP (b_counts_CheckRules_0 p0 K) n x := by
  obtain ⟨x1, x2⟩ := x
  obtain ⟨hl, hx⟩ := hp
  simp only at hx
  subst hx
  generalize hlist : p0.hs = l at *
  have e0 : p0.2.2.2.2.2.2.2.2 = l := hlist
  refine loop_list (fun i t => (i, t)) l (0, 0) (fun t r => K (sp_kn ((l.length : Int) - r.length) t r)) ?_ ?_ x2 (by simpa [lp_counts_CheckRules_0, hlist] using h)
  · intro t k hI
    unfold b_counts_CheckRules_0
    rw [e0]
    simpa [sp_kn] using hI
  · intro j t k hj hI hk
    have hj' : (j : Int) < l.length := by omega
    have e1 : (l.length : Int) - ((l.getD j (0, 0) :: l.drop (j + 1)).length : Int) = j := by simp; omega
    have e2 : (l.length : Int) - ((l.drop (j + 1)).length : Int) = (j : Int) + 1 := by simp; omega
    rw [e1] at hI
    rw [e2] at hk
    unfold b_counts_CheckRules_0
    rw [e0]
    simp only [wrap_nat (show (j : Int) ≤ 9223372036854775806 by omega), hj', decide_true, Int.toNat_natCast, forall_const, Bool.true_eq_false, false_imp_iff, and_true]
    refine ⟨by omega, trivial, fun hx => ?_, fun hx => hk _ ?_⟩
    · have hx' : (sp_knErr t (l.getD j (0, 0)) != 0) = true := hx
      simp only [sp_kn, hx', cond_true] at hI
      exact hI
    · have hx' : (sp_knErr t (l.getD j (0, 0)) != 0) = false := hx
      simp only [sp_kn, hx', cond_false] at hI
      exact hI

def s_counts_CheckRules (p0 : CR) : (Int × Int) :=
  (cond (cond (!(s_counts_within p0.1 (1 : Int) (1000000 : Int))) true (!(s_counts_within p0.2.1 (0 : Int) (100 : Int)))) ((0 : Int), (2 : Int))
    (cond (cond (!(s_counts_within p0.2.2.1.1 (0 : Int) (1000000 : Int))) true (!(s_counts_within p0.2.2.2.1.1 (0 : Int) (1000 : Int)))) ((0 : Int), (2 : Int))
    (cond (cond (!(s_counts_within p0.2.2.1.2.1 (0 : Int) (1000000 : Int))) true (!(s_counts_within p0.2.2.2.1.2.1 (0 : Int) (1000 : Int)))) ((1 : Int), (2 : Int))
    (cond (cond (!(s_counts_within p0.2.2.1.2.2 (0 : Int) (1000000 : Int))) true (!(s_counts_within p0.2.2.2.1.2.2 (0 : Int) (1000 : Int)))) ((2 : Int), (2 : Int))
    (cond (cond (!(s_counts_within p0.2.2.2.2.1 (0 : Int) (200 : Int))) true (!(s_counts_within p0.2.2.2.2.2.1 (IntKind.i64.wrap (p0.2.2.2.2.1 + (200 : Int))) (1000 : Int)))) ((0 : Int), (2 : Int))
    (cond (decide ((s_counts_allWithin p0.2.2.2.2.2.2.1 (1000 : Int)) ≥ (0 : Int))) ((s_counts_allWithin p0.2.2.2.2.2.2.1 (1000 : Int)), (2 : Int))
    (cond (p0.2.2.2.2.2.2.1.2.1 != (1000 : Int)) ((1 : Int), (3 : Int))
    (cond ((s_counts_columnErr p0.2.2.2.2.2.2.2.1 (0 : Int)) != (0 : Int)) ((0 : Int), (s_counts_columnErr p0.2.2.2.2.2.2.2.1 (0 : Int)))
    (cond ((s_counts_columnErr p0.2.2.2.2.2.2.2.1 (1 : Int)) != (0 : Int)) ((1 : Int), (s_counts_columnErr p0.2.2.2.2.2.2.2.1 (1 : Int)))
    (cond ((s_counts_columnErr p0.2.2.2.2.2.2.2.1 (2 : Int)) != (0 : Int)) ((2 : Int), (s_counts_columnErr p0.2.2.2.2.2.2.2.1 (2 : Int)))
    (cond ((s_counts_first ((s_counts_unless (decide ((((List.length p0.2.2.2.2.2.2.2.2) : Nat) : Int) ≥ (2 : Int))) (10 : Int)) :: ((s_counts_unless (decide ((((List.length p0.2.2.2.2.2.2.2.2) : Nat) : Int) ≤ (8 : Int))) (8 : Int)) :: ([] : List Int)))) != (0 : Int)) ((0 : Int), (s_counts_first ((s_counts_unless (decide ((((List.length p0.2.2.2.2.2.2.2.2) : Nat) : Int) ≥ (2 : Int))) (10 : Int)) :: ((s_counts_unless (decide ((((List.length p0.2.2.2.2.2.2.2.2) : Nat) : Int) ≤ (8 : Int))) (8 : Int)) :: ([] : List Int)))))
    (lp_counts_CheckRules_0 p0 ((0 : Int), (-1 : Int))))))))))))))
abbrev pre_counts_CheckRules (p0 : CR) : List Prop := [(((cond (!(s_counts_within p0.1 (1 : Int) (1000000 : Int))) true (!(s_counts_within p0.2.1 (0 : Int) (100 : Int)))) = false) → (((cond (!(s_counts_within p0.2.2.1.1 (0 : Int) (1000000 : Int))) true (!(s_counts_within p0.2.2.2.1.1 (0 : Int) (1000 : Int)))) = false) → (((cond (!(s_counts_within p0.2.2.1.2.1 (0 : Int) (1000000 : Int))) true (!(s_counts_within p0.2.2.2.1.2.1 (0 : Int) (1000 : Int)))) = false) → (((cond (!(s_counts_within p0.2.2.1.2.2 (0 : Int) (1000000 : Int))) true (!(s_counts_within p0.2.2.2.1.2.2 (0 : Int) (1000 : Int)))) = false) → (((cond (!(s_counts_within p0.2.2.2.2.1 (0 : Int) (200 : Int))) true (!(s_counts_within p0.2.2.2.2.2.1 (IntKind.i64.wrap (p0.2.2.2.2.1 + (200 : Int))) (1000 : Int)))) = false) → (((decide ((s_counts_allWithin p0.2.2.2.2.2.2.1 (1000 : Int)) ≥ (0 : Int))) = false) → (((p0.2.2.2.2.2.2.1.2.1 != (1000 : Int)) = false) → ((((s_counts_columnErr p0.2.2.2.2.2.2.2.1 (0 : Int)) != (0 : Int)) = false) → ((((s_counts_columnErr p0.2.2.2.2.2.2.2.1 (1 : Int)) != (0 : Int)) = false) → ((((s_counts_columnErr p0.2.2.2.2.2.2.2.1 (2 : Int)) != (0 : Int)) = false) → ((((s_counts_first ((s_counts_unless (decide ((((List.length p0.2.2.2.2.2.2.2.2) : Nat) : Int) ≥ (2 : Int))) (10 : Int)) :: ((s_counts_unless (decide ((((List.length p0.2.2.2.2.2.2.2.2) : Nat) : Int) ≤ (8 : Int))) (8 : Int)) :: ([] : List Int)))) != (0 : Int)) = false) → (lpre_counts_CheckRules_0 p0 ((0 : Int), (-1 : Int))))))))))))))]
set_option maxHeartbeats 4000000 in
theorem d_counts_CheckRules (p0 : CR) (K : (Int × Int) → Prop) (hp : ∀ p ∈ pre_counts_CheckRules p0, p) (h : K (s_counts_CheckRules p0)) : w_counts_CheckRules p0 K := by
  unfold w_counts_CheckRules
  unfold s_counts_CheckRules at h
  obtain ⟨hp0, _⟩ := conj_of hp
  exact ⟨rf, rf, rf, rfl, (br' h (fun e0 h => h)
    (fun e0 h => ⟨31, fun _ => ⟨(od rfl), (od rfl), rf, rf, (fun _ => (od rfl)), (fun _ => (od rfl)), rf, rf, rf, rfl, (br' h (fun e1 h => h)
    (fun e1 h => ⟨fun _ => ⟨(od rfl), (od rfl), rf, rf, (fun _ => (od rfl)), (fun _ => (od rfl)), rf, rf, rf, rfl, (br' h (fun e2 h => h)
    (fun e2 h => ⟨fun _ => ⟨(od rfl), (od rfl), rf, rf, (fun _ => (od rfl)), (fun _ => (od rfl)), rf, rf, rf, rfl, (br' h (fun e3 h => h)
    (fun e3 h => ⟨nof, fun _ => ⟨rf, rf, rf, rf, rf, rf, rfl, (br' h (fun e4 h => h)
    (fun e4 h => (br' h (fun e5 h => h)
    (fun e5 h => (br' h (fun e6 h => h)
    (fun e6 h => ⟨31, fun _ => ⟨(od rfl), (od rfl), (br' h (fun e7 h => h)
    (fun e7 h => ⟨fun _ => ⟨(od rfl), (od rfl), (br' h (fun e8 h => h)
    (fun e8 h => ⟨fun _ => ⟨(od rfl), (od rfl), (br' h (fun e9 h => h)
    (fun e9 h => ⟨nof, fun _ => ⟨(lenOk_of 2 rfl (by decide)), (br' h (fun e10 h => h)
    (fun e10 h => (Exists.imp (fun n hn => loop_mono (fun y k k' hk hy => ⟨fun e11 => ⟨(hy.1 e11).1, (hy.1 e11).2.1, rf, rf, rfl, (lenOk_of 2 rfl (by decide)), fun e12 => ((hy.1 e11).2.2.1 e12), fun e12 => (hk _ ((hy.1 e11).2.2.2 e12))⟩, fun e11 => (hy.2 e11)⟩) n _ hn) (lk_counts_CheckRules_0 p0 ((0 : Int), (-1 : Int)) K (hp0 e0 e1 e2 e3 e4 e5 e6 e7 e8 e9 e10) h))))⟩⟩))⟩, fun e => Bool.noConfusion (show true = false from e)⟩))⟩, fun e => Bool.noConfusion (show true = false from e)⟩))⟩, fun e => Bool.noConfusion (show true = false from e)⟩))))))⟩⟩))⟩, fun e => Bool.noConfusion (show true = false from e)⟩))⟩, fun e => Bool.noConfusion (show true = false from e)⟩))⟩, fun e => Bool.noConfusion (show true = false from e)⟩))⟩
theorem sp_first2 {a b : Bool} {x y : Int} (hx : x ≠ 0) (hy : y ≠ 0) (h : (s_counts_first (s_counts_unless a x :: s_counts_unless b y :: []) != 0) = false) : a = true ∧ b = true := by
  cases a <;> cases b <;> simp [s_counts_first, s_counts_unless, hx, hy] at h ⊢
theorem pp_counts_CheckRules (p0 : CR) : ∀ p ∈ pre_counts_CheckRules p0, p := by
  intro p hp
  simp only [pre_counts_CheckRules, List.mem_cons, List.not_mem_nil, or_false] at hp
  subst hp
  intros
  rename_i h
  obtain ⟨h1, h2⟩ := sp_first2 (by decide) (by decide) h
  refine ⟨?_, rfl⟩
  have : ((p0.hs.length : Nat) : Int) ≤ 8 := of_decide_eq_true h2
  unfold lenOk; omega

abbrev con_counts_CheckRules : Con := ⟨P_counts_CheckRules, R_counts_CheckRules, fun x => [], fun x => s_counts_CheckRules x⟩
theorem ok_counts_CheckRules : ConOk Try.prog 16 con_counts_CheckRules := ⟨k_counts_CheckRules, fun x hx => ret_tf (ps := P_counts_CheckRules) (rs := R_counts_CheckRules) (x := x) (y := s_counts_CheckRules x) e_counts_CheckRules hC_counts_CheckRules (tf_of (w_counts_CheckRules_eq x (fun z => z = s_counts_CheckRules x)) (d_counts_CheckRules x (fun z => z = s_counts_CheckRules x) (pp_counts_CheckRules x) rfl))⟩
theorem tx_err (a : Bool) (x : Int) (l : List Int) (hx : x ≠ 0) : s_counts_first (s_counts_unless a x :: l) = cond a (s_counts_first l) x := by
  cases a <;> simp [s_counts_first, s_counts_unless, hx]
theorem tx_within {n a b : Int} : s_counts_within n a b = true ↔ a ≤ n ∧ n ≤ b := by
  unfold s_counts_within
  by_cases h : a ≤ n <;> simp [h]
theorem tx_nwithin {n a b : Int} : (!s_counts_within n a b) = false ↔ a ≤ n ∧ n ≤ b := by
  rw [Bool.not_eq_false', tx_within]
theorem tx_all (x y z m : Int) : s_counts_allWithin (x, y, z) m = cond (!s_counts_within x 0 m) 0 (cond (!s_counts_within y 0 m) 1 (cond (!s_counts_within z 0 m) 2 (-1))) := by
  show sp_out m 0 [x, y, z] = _
  simp only [sp_out, s_counts_allWithin_1]
  by_cases hx : s_counts_within x 0 m = true <;> by_cases hy : s_counts_within y 0 m = true <;> by_cases hz : s_counts_within z 0 m = true <;> simp [hx, hy, hz]
theorem tx_allneg (x y z m : Int) : decide (s_counts_allWithin (x, y, z) m < 0) = cond (!s_counts_within x 0 m) false (cond (!s_counts_within y 0 m) false (cond (!s_counts_within z 0 m) false true)) := by
  rw [tx_all]
  cases s_counts_within x 0 m <;> cases s_counts_within y 0 m <;> cases s_counts_within z 0 m <;> rfl
/-- The error of a column. -/
def v_colErr (x y z o : Int) : Int := cond (!s_counts_within x 0 1000) 2 (cond (!s_counts_within y 0 1000) 2 (cond (!s_counts_within z 0 1000) 2 (cond (s_counts_total [x, y, z] != 1000) 3 (cond (decide (o < 600)) 22 0))))
theorem tx_col (x y z o : Int) : s_counts_first (s_counts_unless (decide (s_counts_allWithin (x, y, z) 1000 < 0)) 2 :: s_counts_unless (s_counts_total [x, y, z] == 1000) 3 :: s_counts_unless (decide (o ≥ 600)) 22 :: []) = v_colErr x y z o := by
  rw [tx_err _ _ _ (by decide), tx_err _ _ _ (by decide), tx_err _ _ _ (by decide), tx_allneg, v_colErr]
  have e1 : decide (o ≥ 600) = !decide (o < 600) := by by_cases h : o < 600 <;> simp [h] <;> omega
  have e2 : (s_counts_total [x, y, z] != 1000) = !(s_counts_total [x, y, z] == 1000) := rfl
  rw [e1, e2]
  cases s_counts_within x 0 1000 <;> cases s_counts_within y 0 1000 <;> cases s_counts_within z 0 1000 <;> cases (s_counts_total [x, y, z] == 1000) <;> cases decide (o < 600) <;> rfl
theorem tx_len (n : Int) : s_counts_first (s_counts_unless (decide (n ≥ 2)) 10 :: s_counts_unless (decide (n ≤ 8)) 8 :: []) = cond (decide (n < 2)) 10 (cond (decide (n > 8)) 8 0) := by
  rw [tx_err _ _ _ (by decide), tx_err _ _ _ (by decide)]
  have e1 : decide (n ≥ 2) = !decide (n < 2) := by by_cases h : n < 2 <;> simp [h] <;> omega
  have e2 : decide (n ≤ 8) = !decide (n > 8) := by by_cases h : n > 8 <;> simp [h] <;> omega
  rw [e1, e2]
  cases decide (n < 2) <;> cases decide (n > 8) <;> rfl
/-- A valid column: from 0 to 1000, 1000 together, its own 600 or more. -/
structure v_col (x y z o : Int) : Prop where
  x0 : 0 ≤ x ∧ x ≤ 1000
  y0 : 0 ≤ y ∧ y ≤ 1000
  z0 : 0 ≤ z ∧ z ≤ 1000
  all : x + y + z = 1000
  own : 600 ≤ o
theorem tx_colv {x y z o : Int} (h : v_colErr x y z o = 0) : v_col x y z o := by
  unfold v_colErr at h
  rcases hx : (!s_counts_within x 0 1000) with _ | _
  · rcases hy : (!s_counts_within y 0 1000) with _ | _
    · rcases hz : (!s_counts_within z 0 1000) with _ | _
      · rw [hx, hy, hz] at h
        rw [tx_nwithin] at hx hy hz
        rcases ht : (s_counts_total [x, y, z] != 1000) with _ | _
        · rcases ho : decide (o < 600) with _ | _
          · have hs : s_counts_total [x, y, z] = 1000 := by simpa using ht
            have hs' : IntKind.i64.wrap (IntKind.i64.wrap (IntKind.i64.wrap (0 + x) + y) + z) = 1000 := hs
            rw [wrap_id (n := 0 + x) (by omega) (by omega), wrap_id (n := 0 + x + y) (by omega) (by omega), wrap_id (by omega) (by omega)] at hs'
            exact ⟨hx, hy, hz, by omega, by have := of_decide_eq_false ho; omega⟩
          · rw [ht, ho] at h; cases h
        · rw [ht] at h; cases h
      · rw [hx, hy, hz] at h; cases h
    · rw [hx, hy] at h; cases h
  · rw [hx] at h; cases h
/-- Valid rules. -/
structure v_rules (r : CR) : Prop where
  period : 1 ≤ r.1 ∧ r.1 ≤ 1000000
  dead : 0 ≤ r.2.1 ∧ r.2.1 ≤ 100
  air0 : 0 ≤ r.2.2.1.1 ∧ r.2.2.1.1 ≤ 1000000
  air1 : 0 ≤ r.2.2.1.2.1 ∧ r.2.2.1.2.1 ≤ 1000000
  air2 : 0 ≤ r.2.2.1.2.2 ∧ r.2.2.1.2.2 ≤ 1000000
  cos0 : 0 ≤ r.2.2.2.1.1 ∧ r.2.2.2.1.1 ≤ 1000
  cos1 : 0 ≤ r.2.2.2.1.2.1 ∧ r.2.2.2.1.2.1 ≤ 1000
  cos2 : 0 ≤ r.2.2.2.1.2.2 ∧ r.2.2.2.1.2.2 ≤ 1000
  ground : 0 ≤ r.2.2.2.2.1 ∧ r.2.2.2.2.1 ≤ 200
  air : r.2.2.2.2.1 + 200 ≤ r.2.2.2.2.2.1 ∧ r.2.2.2.2.2.1 ≤ 1000
  rad0 : 0 ≤ r.2.2.2.2.2.2.1.1 ∧ r.2.2.2.2.2.2.1.1 ≤ 1000
  rad1 : r.2.2.2.2.2.2.1.2.1 = 1000
  rad2 : 0 ≤ r.2.2.2.2.2.2.1.2.2 ∧ r.2.2.2.2.2.2.1.2.2 ≤ 1000
  col0 : v_col r.2.2.2.2.2.2.2.1.1.1 r.2.2.2.2.2.2.2.1.2.1.1 r.2.2.2.2.2.2.2.1.2.2.1 r.2.2.2.2.2.2.2.1.1.1
  col1 : v_col r.2.2.2.2.2.2.2.1.1.2.1 r.2.2.2.2.2.2.2.1.2.1.2.1 r.2.2.2.2.2.2.2.1.2.2.2.1 r.2.2.2.2.2.2.2.1.2.1.2.1
  col2 : v_col r.2.2.2.2.2.2.2.1.1.2.2 r.2.2.2.2.2.2.2.1.2.1.2.2 r.2.2.2.2.2.2.2.1.2.2.2.2 r.2.2.2.2.2.2.2.1.2.2.2.2
  len : 2 ≤ r.hs.length ∧ r.hs.length ≤ 8
  knot : ∀ x ∈ r.hs, (0 ≤ x.1 ∧ x.1 ≤ 1000) ∧ 1 ≤ x.2 ∧ x.2 ≤ 10000
  up : r.hs.Pairwise (fun x y => x.1 < y.1)
theorem tx_kn1 (last : Int) (x : Int × Int) : sp_knErr last x = cond (!(cond (s_counts_within x.1 0 1000) (s_counts_within x.2 1 10000) false)) 2 (cond (decide (x.1 ≤ last)) 9 0) := by
  unfold sp_knErr
  rw [tx_err _ _ _ (by decide), tx_err _ _ _ (by decide)]
  have e1 : decide (x.1 > last) = !decide (x.1 ≤ last) := by by_cases h : x.1 ≤ last <;> simp [h] <;> omega
  rw [e1]
  cases (cond (s_counts_within x.1 0 1000) (s_counts_within x.2 1 10000) false) <;> cases decide (x.1 ≤ last) <;> rfl
theorem tx_kn : ∀ (l : List (Int × Int)) (i last : Int), (sp_kn i last l).2 = 0 → (∀ x ∈ l, ((0 ≤ x.1 ∧ x.1 ≤ 1000) ∧ 1 ≤ x.2 ∧ x.2 ≤ 10000) ∧ last < x.1) ∧ l.Pairwise (fun x y => x.1 < y.1)
  | [], _, _, _ => ⟨by simp, .nil⟩
  | x :: r, i, last, h => by
    unfold sp_kn at h
    rcases he : (sp_knErr last x != 0) with _ | _
    · rw [he, cond_false] at h
      obtain ⟨h1, h2⟩ := tx_kn r _ _ h
      have he' : sp_knErr last x = 0 := by simpa using he
      rw [tx_kn1] at he'
      rcases ha : s_counts_within x.1 0 1000 with _ | _
      · rw [ha] at he'; cases he'
      · rcases hb : s_counts_within x.2 1 10000 with _ | _
        · rw [ha, hb] at he'; cases he'
        · rcases hc : decide (x.1 ≤ last) with _ | _
          · rw [tx_within] at ha hb
            have := of_decide_eq_false hc
            refine ⟨fun y hy => ?_, .cons (fun y hy => (h1 y hy).2) h2⟩
            rcases List.mem_cons.1 hy with rfl | hy
            · exact ⟨⟨ha, hb⟩, by omega⟩
            · exact ⟨(h1 y hy).1, by have := (h1 y hy).2; omega⟩
          · rw [ha, hb, hc] at he'; cases he'
    · rw [he, cond_true] at h
      exfalso
      have h' : sp_knErr last x = 0 := h
      rw [h'] at he; cases he
theorem tx_step {c : Bool} {a b : Int × Int} (h : (cond c a b).2 = 0) (ha : a.2 ≠ 0) : c = false ∧ b.2 = 0 := by
  cases c
  · exact ⟨rfl, h⟩
  · exact (ha h).elim
theorem tx_or {a b : Bool} (h : cond a true b = false) : a = false ∧ b = false := by
  cases a
  · exact ⟨rfl, h⟩
  · cases h
theorem tx_step2 {x : Int} {i : Int} {b : Int × Int} (h : (cond (x != 0) (i, x) b).2 = 0) : x = 0 ∧ b.2 = 0 := by
  by_cases hx : x = 0
  · rw [hx] at h; exact ⟨hx, h⟩
  · have : (x != 0) = true := by simpa using hx
    rw [this] at h; exact (hx h).elim
theorem tx_valid {r : CR} (h : (s_counts_CheckRules r).2 = 0) : v_rules r := by
  unfold s_counts_CheckRules at h
  obtain ⟨h1, h⟩ := tx_step h (by decide)
  obtain ⟨h2, h⟩ := tx_step h (by decide)
  obtain ⟨h3, h⟩ := tx_step h (by decide)
  obtain ⟨h4, h⟩ := tx_step h (by decide)
  obtain ⟨h5, h⟩ := tx_step h (by decide)
  obtain ⟨h6, h⟩ := tx_step h (show (2 : Int) ≠ 0 by decide)
  obtain ⟨h7, h⟩ := tx_step h (by decide)
  obtain ⟨h8, h⟩ := tx_step2 h
  obtain ⟨h9, h⟩ := tx_step2 h
  obtain ⟨h10, h⟩ := tx_step2 h
  obtain ⟨h11, h⟩ := tx_step2 h
  obtain ⟨a1, a2⟩ := tx_or h1
  obtain ⟨b1, b2⟩ := tx_or h2
  obtain ⟨c1, c2⟩ := tx_or h3
  obtain ⟨d1, d2⟩ := tx_or h4
  obtain ⟨e1, e2⟩ := tx_or h5
  rw [tx_nwithin] at a1 a2 b1 b2 c1 c2 d1 d2 e1
  rw [wrap_id (by omega) (by omega), tx_nwithin] at e2
  have g := of_decide_eq_false h6
  have g' : decide (s_counts_allWithin r.2.2.2.2.2.2.1 1000 < 0) = true := decide_eq_true (by omega)
  rw [show r.2.2.2.2.2.2.1 = (r.2.2.2.2.2.2.1.1, r.2.2.2.2.2.2.1.2.1, r.2.2.2.2.2.2.1.2.2) from rfl, tx_allneg] at g'
  have g1 : (!s_counts_within r.2.2.2.2.2.2.1.1 0 1000) = false := by
    cases e : (!s_counts_within r.2.2.2.2.2.2.1.1 0 1000)
    · rfl
    · rw [e] at g'; cases g'
  have g2 : (!s_counts_within r.2.2.2.2.2.2.1.2.1 0 1000) = false := by
    cases e : (!s_counts_within r.2.2.2.2.2.2.1.2.1 0 1000)
    · rfl
    · rw [g1, e] at g'; cases g'
  have g3 : (!s_counts_within r.2.2.2.2.2.2.1.2.2 0 1000) = false := by
    cases e : (!s_counts_within r.2.2.2.2.2.2.1.2.2 0 1000)
    · rfl
    · rw [g1, g2, e] at g'; cases g'
  rw [tx_nwithin] at g1 g2 g3
  have k0 := tx_colv ((tx_col _ _ _ _).symm.trans h8)
  have k1 := tx_colv ((tx_col _ _ _ _).symm.trans h9)
  have k2 := tx_colv ((tx_col _ _ _ _).symm.trans h10)
  have hl := (tx_len _).symm.trans h11
  have hkn := tx_kn r.hs 0 (-1) h
  have l1 : ¬ ((r.hs.length : Int) < 2) := fun hx => by
    have : decide ((r.hs.length : Int) < 2) = true := decide_eq_true hx
    rw [show r.2.2.2.2.2.2.2.2 = r.hs from rfl, this] at hl; cases hl
  have l2 : ¬ ((r.hs.length : Int) > 8) := fun hx => by
    have e : decide ((r.hs.length : Int) < 2) = false := decide_eq_false l1
    have : decide ((r.hs.length : Int) > 8) = true := decide_eq_true hx
    rw [show r.2.2.2.2.2.2.2.2 = r.hs from rfl, e, this] at hl; cases hl
  exact ⟨a1, a2, b1, c1, d1, b2, c2, d2, e1, e2, g1, by simpa using h7, g3, k0, k1, k2, by omega, fun x hx => (hkn.1 x hx).1, hkn.2⟩
/- base_Within -/
def C_base_Within : Cons := []
theorem hC_base_Within : ConsOk Try.prog C_base_Within := ConsOk.nil
def w_base_Within (p0 : Int) (p1 : Int) (p2 : Int) (K : Bool → Prop) : Prop :=
 ((((decide (p1 ≤ p0)) = true) →
  ((decide (p1 ≤ p0)) = (decide (p1 ≤ p0)))) ∧
  ((((decide (p1 ≤ p0)) = true) →
  ((decide (p1 ≤ p0)) = (decide (p1 ≤ p0)))) ∧
  (((decide (p1 ≤ p0)) = (decide (p1 ≤ p0))) ∧
  (K (cond (decide (p1 ≤ p0)) (decide (p0 ≤ p2)) false)))))
set_option maxHeartbeats 4000000 in
theorem w_base_Within_eq (p0 : Int) (p1 : Int) (p2 : Int) (K : Bool → Prop) : tfn F_base_Within A_base_Within C_base_Within P_base_Within R_base_Within (p0, p1, p2) K = w_base_Within p0 p1 p2 K := by kernel_rfl
def s_base_Within (p0 : Int) (p1 : Int) (p2 : Int) : Bool :=
  (cond (decide (p1 ≤ p0)) (decide (p0 ≤ p2)) false)
abbrev pre_base_Within (p0 : Int) (p1 : Int) (p2 : Int) : List Prop := []
set_option maxHeartbeats 4000000 in
theorem d_base_Within (p0 : Int) (p1 : Int) (p2 : Int) (K : Bool → Prop) (hp : ∀ p ∈ pre_base_Within p0 p1 p2, p) (h : K (s_base_Within p0 p1 p2)) : w_base_Within p0 p1 p2 K := by
  unfold w_base_Within
  unfold s_base_Within at h
  exact ⟨rf, rf, rfl, h⟩
abbrev con_base_Within : Con := ⟨P_base_Within, R_base_Within, fun x => pre_base_Within x.1 x.2.1 x.2.2, fun x => s_base_Within x.1 x.2.1 x.2.2⟩
theorem ok_base_Within : ConOk Try.prog 40 con_base_Within := ⟨k_base_Within, fun x hx => ret_tf (ps := P_base_Within) (rs := R_base_Within) (x := x) (y := s_base_Within x.1 x.2.1 x.2.2) e_base_Within hC_base_Within (tf_of (w_base_Within_eq x.1 x.2.1 x.2.2 (fun z => z = s_base_Within x.1 x.2.1 x.2.2)) (d_base_Within x.1 x.2.1 x.2.2 (fun z => z = s_base_Within x.1 x.2.1 x.2.2) hx rfl))⟩
/- ref06_CheckRules -/
def C_ref06_CheckRules : Cons := [(40, [], con_base_Within)]
theorem hC_ref06_CheckRules : ConsOk Try.prog C_ref06_CheckRules := ConsOk.cons ok_base_Within <| ConsOk.nil
abbrev q0_ref06_CheckRules (p0 : CR) (y1 : Int) := (!(s_base_Within (List.getD (p0.2.2.1.1 :: (p0.2.2.1.2.1 :: (p0.2.2.1.2.2 :: ([] : List Int)))) (Int.toNat y1) zz0) zz0 (1000000 : Int)))
abbrev q1_ref06_CheckRules (p0 : CR) (y13 : Int) := (!(s_base_Within (List.getD p0.2.2.2.2.2.2.2.2 (Int.toNat y13) (zz0, zz0)).1 zz0 (1000 : Int)))
abbrev q2_ref06_CheckRules (p0 : CR) (y7 : Int) (y10 : (Int × Int)) := (List.getD ((List.getD (p0.mt.1.1 :: (p0.mt.2.1.1 :: (p0.mt.2.2.1 :: ([] : List Int)))) (Int.toNat y10.1) zz0) :: ((List.getD (p0.mt.1.2.1 :: (p0.mt.2.1.2.1 :: (p0.mt.2.2.2.1 :: ([] : List Int)))) (Int.toNat y10.1) zz0) :: ((List.getD (p0.mt.1.2.2 :: (p0.mt.2.1.2.2 :: (p0.mt.2.2.2.2 :: ([] : List Int)))) (Int.toNat y10.1) zz0) :: ([] : List Int)))) (Int.toNat y7) zz0)
abbrev q3_ref06_CheckRules (p0 : CR) (y7 : Int) := (decide ((List.getD ((List.getD (p0.mt.1.1 :: (p0.mt.2.1.1 :: (p0.mt.2.2.1 :: ([] : List Int)))) (Int.toNat y7) zz0) :: ((List.getD (p0.mt.1.2.1 :: (p0.mt.2.1.2.1 :: (p0.mt.2.2.2.1 :: ([] : List Int)))) (Int.toNat y7) zz0) :: ((List.getD (p0.mt.1.2.2 :: (p0.mt.2.1.2.2 :: (p0.mt.2.2.2.2 :: ([] : List Int)))) (Int.toNat y7) zz0) :: ([] : List Int)))) (Int.toNat y7) zz0) < (600 : Int)))
abbrev q4_ref06_CheckRules (p0 : CR) := ((!(s_base_Within p0.2.2.2.2.1 zz0 (200 : Int))) = (!(s_base_Within p0.2.2.2.2.1 zz0 (200 : Int))))
abbrev q5_ref06_CheckRules (y13 : Int) := ((decide (y13 > zz0)) = (decide (y13 > zz0)))
def w_ref06_CheckRules (p0 : CR) (K : (Int × Int) → Prop) : Prop :=
 ((((!(s_base_Within p0.1 zz1 (1000000 : Int))) = false) →
  ((!(s_base_Within p0.1 zz1 (1000000 : Int))) = (!(s_base_Within p0.1 zz1 (1000000 : Int))))) ∧
  ((((!(s_base_Within p0.1 zz1 (1000000 : Int))) = false) →
  ((!(s_base_Within p0.1 zz1 (1000000 : Int))) = (!(s_base_Within p0.1 zz1 (1000000 : Int))))) ∧
  ((((!(s_base_Within p0.1 zz1 (1000000 : Int))) = false) →
  ((!(s_base_Within p0.1 zz1 (1000000 : Int))) = (!(s_base_Within p0.1 zz1 (1000000 : Int))))) ∧
  (((!(s_base_Within p0.1 zz1 (1000000 : Int))) = (!(s_base_Within p0.1 zz1 (1000000 : Int)))) ∧
  ((((cond (!(s_base_Within p0.1 zz1 (1000000 : Int))) true (!(s_base_Within p0.2.1 zz0 (100 : Int)))) = true) →
  (K (zz0, zz2))) ∧
  (((cond (!(s_base_Within p0.1 zz1 (1000000 : Int))) true (!(s_base_Within p0.2.1 zz0 (100 : Int)))) = false) →
  (∃ n0, (loopP (fun (y1 : Int) k2 =>
      ((((decide (y1 < zz3)) = true) →
      ((zz0 ≤ y1) ∧
        ((y1 < zz3) ∧
        ((((q0_ref06_CheckRules p0 y1) = false) →
        ((q0_ref06_CheckRules p0 y1) = (q0_ref06_CheckRules p0 y1))) ∧
        ((((q0_ref06_CheckRules p0 y1) = false) →
        ((q0_ref06_CheckRules p0 y1) = (q0_ref06_CheckRules p0 y1))) ∧
        ((((q0_ref06_CheckRules p0 y1) = false) →
        (zz0 ≤ y1)) ∧
        ((((q0_ref06_CheckRules p0 y1) = false) →
        (y1 < zz3)) ∧
        ((((q0_ref06_CheckRules p0 y1) = false) →
        ((q0_ref06_CheckRules p0 y1) = (q0_ref06_CheckRules p0 y1))) ∧
        ((((q0_ref06_CheckRules p0 y1) = false) →
        ((q0_ref06_CheckRules p0 y1) = (q0_ref06_CheckRules p0 y1))) ∧
        ((((q0_ref06_CheckRules p0 y1) = false) →
        ((q0_ref06_CheckRules p0 y1) = (q0_ref06_CheckRules p0 y1))) ∧
        (((q0_ref06_CheckRules p0 y1) = (q0_ref06_CheckRules p0 y1)) ∧
        ((((cond (q0_ref06_CheckRules p0 y1) true (!(s_base_Within (List.getD (p0.2.2.2.1.1 :: (p0.2.2.2.1.2.1 :: (p0.2.2.2.1.2.2 :: ([] : List Int)))) (Int.toNat y1) zz0) zz0 (1000 : Int)))) = true) →
        (K (y1, zz2))) ∧
        (((cond (q0_ref06_CheckRules p0 y1) true (!(s_base_Within (List.getD (p0.2.2.2.1.1 :: (p0.2.2.2.1.2.1 :: (p0.2.2.2.1.2.2 :: ([] : List Int)))) (Int.toNat y1) zz0) zz0 (1000 : Int)))) = false) →
        (k2 (wi (y1 + zz1)))))))))))))))) ∧
      (((decide (y1 < zz3)) = false) →
      ((((!(s_base_Within p0.2.2.2.2.1 zz0 (200 : Int))) = false) →
        (q4_ref06_CheckRules p0)) ∧
        ((((!(s_base_Within p0.2.2.2.2.1 zz0 (200 : Int))) = false) →
        (q4_ref06_CheckRules p0)) ∧
        ((((!(s_base_Within p0.2.2.2.2.1 zz0 (200 : Int))) = false) →
        (q4_ref06_CheckRules p0)) ∧
        ((((!(s_base_Within p0.2.2.2.2.1 zz0 (200 : Int))) = false) →
        (q4_ref06_CheckRules p0)) ∧
        ((((!(s_base_Within p0.2.2.2.2.1 zz0 (200 : Int))) = false) →
        (q4_ref06_CheckRules p0)) ∧
        ((((!(s_base_Within p0.2.2.2.2.1 zz0 (200 : Int))) = false) →
        (q4_ref06_CheckRules p0)) ∧
        ((q4_ref06_CheckRules p0) ∧
        ((((cond (!(s_base_Within p0.2.2.2.2.1 zz0 (200 : Int))) true (!(s_base_Within p0.2.2.2.2.2.1 (wi (p0.2.2.2.2.1 + (200 : Int))) (1000 : Int)))) = true) →
        (K (zz0, zz2))) ∧
        (((cond (!(s_base_Within p0.2.2.2.2.1 zz0 (200 : Int))) true (!(s_base_Within p0.2.2.2.2.2.1 (wi (p0.2.2.2.2.1 + (200 : Int))) (1000 : Int)))) = false) →
        (∃ n3, (loopP (fun (y4 : Int) k5 =>
            ((((decide (y4 < zz3)) = true) →
            ((zz0 ≤ y4) ∧
              ((y4 < zz3) ∧
              ((((!(s_base_Within (List.getD (p0.2.2.2.2.2.2.1.1 :: (p0.2.2.2.2.2.2.1.2.1 :: (p0.2.2.2.2.2.2.1.2.2 :: ([] : List Int)))) (Int.toNat y4) zz0) zz0 (1000 : Int))) = true) →
              (K (y4, zz2))) ∧
              (((!(s_base_Within (List.getD (p0.2.2.2.2.2.2.1.1 :: (p0.2.2.2.2.2.2.1.2.1 :: (p0.2.2.2.2.2.2.1.2.2 :: ([] : List Int)))) (Int.toNat y4) zz0) zz0 (1000 : Int))) = false) →
              (k5 (wi (y4 + zz1)))))))) ∧
            (((decide (y4 < zz3)) = false) →
            ((((p0.2.2.2.2.2.2.1.2.1 != (1000 : Int)) = true) →
              (K (zz1, zz3))) ∧
              (((p0.2.2.2.2.2.2.1.2.1 != (1000 : Int)) = false) →
              (∃ n6, (loopP (fun (y7 : Int) k8 =>
                  ((((decide (y7 < zz3)) = true) →
                  (∃ n9, (loopP (fun (y10 : (Int × Int)) k11 =>
                      ((((decide (y10.1 < zz3)) = true) →
                      ((zz0 ≤ y10.1) ∧
                        ((y10.1 < zz3) ∧
                        ((zz0 ≤ y7) ∧
                        ((y7 < zz3) ∧
                        ((((!(s_base_Within (q2_ref06_CheckRules p0 y7 y10) zz0 (1000 : Int))) = true) →
                        (K (y7, zz2))) ∧
                        (((!(s_base_Within (q2_ref06_CheckRules p0 y7 y10) zz0 (1000 : Int))) = false) →
                        ((zz0 ≤ y10.1) ∧
                          ((y10.1 < zz3) ∧
                          ((zz0 ≤ y7) ∧
                          ((y7 < zz3) ∧
                          (k11 ((wi (y10.1 + zz1)), (wi (y10.2 + (q2_ref06_CheckRules p0 y7 y10)))))))))))))))) ∧
                      (((decide (y10.1 < zz3)) = false) →
                      ((((y10.2 != (1000 : Int)) = true) →
                        (K (y7, zz3))) ∧
                        (((y10.2 != (1000 : Int)) = false) →
                        ((zz0 ≤ y7) ∧
                          ((y7 < zz3) ∧
                          ((zz0 ≤ y7) ∧
                          ((y7 < zz3) ∧
                          ((((q3_ref06_CheckRules p0 y7) = true) →
                          (K (y7, (22 : Int)))) ∧
                          (((q3_ref06_CheckRules p0 y7) = false) →
                          (k8 (wi (y7 + zz1)))))))))))))) n9 (zz0, zz0)))) ∧
                  (((decide (y7 < zz3)) = false) →
                  ((((decide ((((List.length p0.2.2.2.2.2.2.2.2) : Nat) : Int) < zz2)) = true) →
                    (K (zz0, (10 : Int)))) ∧
                    (((decide ((((List.length p0.2.2.2.2.2.2.2.2) : Nat) : Int) < zz2)) = false) →
                    ((((decide ((((List.length p0.2.2.2.2.2.2.2.2) : Nat) : Int) > (8 : Int))) = true) →
                      (K (zz0, (8 : Int)))) ∧
                      (((decide ((((List.length p0.2.2.2.2.2.2.2.2) : Nat) : Int) > (8 : Int))) = false) →
                      (∃ n12, (loopP (fun (y13 : Int) k14 =>
                          ((((decide (y13 < (((List.length p0.2.2.2.2.2.2.2.2) : Nat) : Int))) = true) →
                          ((zz0 ≤ y13) ∧
                            ((y13 < (((List.length p0.2.2.2.2.2.2.2.2) : Nat) : Int)) ∧
                            ((((q1_ref06_CheckRules p0 y13) = false) →
                            ((q1_ref06_CheckRules p0 y13) = (q1_ref06_CheckRules p0 y13))) ∧
                            ((((q1_ref06_CheckRules p0 y13) = false) →
                            ((q1_ref06_CheckRules p0 y13) = (q1_ref06_CheckRules p0 y13))) ∧
                            ((((q1_ref06_CheckRules p0 y13) = false) →
                            ((q1_ref06_CheckRules p0 y13) = (q1_ref06_CheckRules p0 y13))) ∧
                            ((((q1_ref06_CheckRules p0 y13) = false) →
                            (zz0 ≤ y13)) ∧
                            ((((q1_ref06_CheckRules p0 y13) = false) →
                            (y13 < (((List.length p0.2.2.2.2.2.2.2.2) : Nat) : Int))) ∧
                            ((((q1_ref06_CheckRules p0 y13) = false) →
                            ((q1_ref06_CheckRules p0 y13) = (q1_ref06_CheckRules p0 y13))) ∧
                            ((((q1_ref06_CheckRules p0 y13) = false) →
                            ((q1_ref06_CheckRules p0 y13) = (q1_ref06_CheckRules p0 y13))) ∧
                            ((((q1_ref06_CheckRules p0 y13) = false) →
                            ((q1_ref06_CheckRules p0 y13) = (q1_ref06_CheckRules p0 y13))) ∧
                            ((((q1_ref06_CheckRules p0 y13) = false) →
                            ((q1_ref06_CheckRules p0 y13) = (q1_ref06_CheckRules p0 y13))) ∧
                            (((q1_ref06_CheckRules p0 y13) = (q1_ref06_CheckRules p0 y13)) ∧
                            ((((cond (q1_ref06_CheckRules p0 y13) true (!(s_base_Within (List.getD p0.2.2.2.2.2.2.2.2 (Int.toNat y13) (zz0, zz0)).2 zz1 (10000 : Int)))) = true) →
                            (K (y13, zz2))) ∧
                            (((cond (q1_ref06_CheckRules p0 y13) true (!(s_base_Within (List.getD p0.2.2.2.2.2.2.2.2 (Int.toNat y13) (zz0, zz0)).2 zz1 (10000 : Int)))) = false) →
                            ((((decide (y13 > zz0)) = true) →
                              (q5_ref06_CheckRules y13)) ∧
                              ((((decide (y13 > zz0)) = true) →
                              (q5_ref06_CheckRules y13)) ∧
                              ((((decide (y13 > zz0)) = true) →
                              (q5_ref06_CheckRules y13)) ∧
                              ((((decide (y13 > zz0)) = true) →
                              (zz0 ≤ y13)) ∧
                              ((((decide (y13 > zz0)) = true) →
                              (y13 < (((List.length p0.2.2.2.2.2.2.2.2) : Nat) : Int))) ∧
                              ((((decide (y13 > zz0)) = true) →
                              (q5_ref06_CheckRules y13)) ∧
                              ((((decide (y13 > zz0)) = true) →
                              (q5_ref06_CheckRules y13)) ∧
                              ((((decide (y13 > zz0)) = true) →
                              (q5_ref06_CheckRules y13)) ∧
                              ((((decide (y13 > zz0)) = true) →
                              (q5_ref06_CheckRules y13)) ∧
                              ((((decide (y13 > zz0)) = true) →
                              (q5_ref06_CheckRules y13)) ∧
                              ((((decide (y13 > zz0)) = true) →
                              (q5_ref06_CheckRules y13)) ∧
                              ((((decide (y13 > zz0)) = true) →
                              (zz0 ≤ (wi (y13 - zz1)))) ∧
                              ((((decide (y13 > zz0)) = true) →
                              ((wi (y13 - zz1)) < (((List.length p0.2.2.2.2.2.2.2.2) : Nat) : Int))) ∧
                              ((((decide (y13 > zz0)) = true) →
                              (q5_ref06_CheckRules y13)) ∧
                              ((((decide (y13 > zz0)) = true) →
                              (q5_ref06_CheckRules y13)) ∧
                              ((((decide (y13 > zz0)) = true) →
                              (q5_ref06_CheckRules y13)) ∧
                              ((((decide (y13 > zz0)) = true) →
                              (q5_ref06_CheckRules y13)) ∧
                              ((q5_ref06_CheckRules y13) ∧
                              ((((cond (decide (y13 > zz0)) (decide ((List.getD p0.2.2.2.2.2.2.2.2 (Int.toNat y13) (zz0, zz0)).1 ≤ (List.getD p0.2.2.2.2.2.2.2.2 (Int.toNat (wi (y13 - zz1))) (zz0, zz0)).1)) false) = true) →
                              (K (y13, (9 : Int)))) ∧
                              (((cond (decide (y13 > zz0)) (decide ((List.getD p0.2.2.2.2.2.2.2.2 (Int.toNat y13) (zz0, zz0)).1 ≤ (List.getD p0.2.2.2.2.2.2.2.2 (Int.toNat (wi (y13 - zz1))) (zz0, zz0)).1)) false) = false) →
                              (k14 (wi (y13 + zz1)))))))))))))))))))))))))))))))))))))) ∧
                          (((decide (y13 < (((List.length p0.2.2.2.2.2.2.2.2) : Nat) : Int))) = false) →
                          (K (zz0, zz0))))) n12 zz0))))))))) n6 zz0))))))) n3 zz0)))))))))))))) n0 zz0))))))))
set_option maxHeartbeats 4000000 in
theorem w_ref06_CheckRules_eq (p0 : CR) (K : (Int × Int) → Prop) : tfn F_ref06_CheckRules A_ref06_CheckRules C_ref06_CheckRules P_ref06_CheckRules R_ref06_CheckRules p0 K = w_ref06_CheckRules p0 K := by kernel_rfl
def b_ref06_CheckRules_0 (p0 : CR) (K : (Int × Int) → Prop) (y : Int) (k : Int → Prop) : Prop :=
 (((decide (y < (((List.length p0.2.2.2.2.2.2.2.2) : Nat) : Int))) = true →
    (((0 : Int) ≤ y) ∧
    ((y < (((List.length p0.2.2.2.2.2.2.2.2) : Nat) : Int)) ∧
    ((((!(s_base_Within (List.getD p0.2.2.2.2.2.2.2.2 (Int.toNat y) ((0 : Int), (0 : Int))).1 (0 : Int) (1000 : Int))) = false) → ((0 : Int) ≤ y)) ∧
    ((((!(s_base_Within (List.getD p0.2.2.2.2.2.2.2.2 (Int.toNat y) ((0 : Int), (0 : Int))).1 (0 : Int) (1000 : Int))) = false) → (y < (((List.length p0.2.2.2.2.2.2.2.2) : Nat) : Int))) ∧
    (((cond (!(s_base_Within (List.getD p0.2.2.2.2.2.2.2.2 (Int.toNat y) ((0 : Int), (0 : Int))).1 (0 : Int) (1000 : Int))) true (!(s_base_Within (List.getD p0.2.2.2.2.2.2.2.2 (Int.toNat y) ((0 : Int), (0 : Int))).2 (1 : Int) (10000 : Int)))) = true →
      (K (y, (2 : Int)))) ∧
    ((cond (!(s_base_Within (List.getD p0.2.2.2.2.2.2.2.2 (Int.toNat y) ((0 : Int), (0 : Int))).1 (0 : Int) (1000 : Int))) true (!(s_base_Within (List.getD p0.2.2.2.2.2.2.2.2 (Int.toNat y) ((0 : Int), (0 : Int))).2 (1 : Int) (10000 : Int)))) = false →
      ((((decide (y > (0 : Int))) = true) → ((0 : Int) ≤ y)) ∧
      ((((decide (y > (0 : Int))) = true) → (y < (((List.length p0.2.2.2.2.2.2.2.2) : Nat) : Int))) ∧
      ((((decide (y > (0 : Int))) = true) → ((0 : Int) ≤ (IntKind.i64.wrap (y - (1 : Int))))) ∧
      ((((decide (y > (0 : Int))) = true) → ((IntKind.i64.wrap (y - (1 : Int))) < (((List.length p0.2.2.2.2.2.2.2.2) : Nat) : Int))) ∧
      (((cond (decide (y > (0 : Int))) (decide ((List.getD p0.2.2.2.2.2.2.2.2 (Int.toNat y) ((0 : Int), (0 : Int))).1 ≤ (List.getD p0.2.2.2.2.2.2.2.2 (Int.toNat (IntKind.i64.wrap (y - (1 : Int)))) ((0 : Int), (0 : Int))).1)) false) = true →
        (K (y, (9 : Int)))) ∧
      ((cond (decide (y > (0 : Int))) (decide ((List.getD p0.2.2.2.2.2.2.2.2 (Int.toNat y) ((0 : Int), (0 : Int))).1 ≤ (List.getD p0.2.2.2.2.2.2.2.2 (Int.toNat (IntKind.i64.wrap (y - (1 : Int)))) ((0 : Int), (0 : Int))).1)) false) = false →
        (k (IntKind.i64.wrap (y + (1 : Int))))))))))))))))) ∧
  ((decide (y < (((List.length p0.2.2.2.2.2.2.2.2) : Nat) : Int))) = false →
    (K ((0 : Int), (0 : Int)))))
/-- The first invalid knot, each beside the one ahead of it in the whole list. -/
def sp_rk (l : List (Int × Int)) : List (Int × Int) → Int × Int
  | [] => (0, 0)
  | x :: r => cond (cond (!(s_base_Within x.1 0 1000)) true (!(s_base_Within x.2 1 10000))) (((l.length : Int) - (r.length + 1), 2))
      (cond (cond (decide (((l.length : Int) - (r.length + 1)) > 0)) (decide (x.1 ≤ (l.getD (l.length - (r.length + 1) - 1) (0, 0)).1)) false) ((l.length : Int) - (r.length + 1), 9) (sp_rk l r))
def lp_ref06_CheckRules_0 (p0 : CR) (_ : Int) : Int × Int := sp_rk p0.hs p0.hs
abbrev lpre_ref06_CheckRules_0 (p0 : CR) (x : Int) : Prop := lenOk p0.hs ∧ x = 0
theorem lk_ref06_CheckRules_0 (p0 : CR) (x : Int) (K : Int × Int → Prop) (hp : lpre_ref06_CheckRules_0 p0 x) (h : K (lp_ref06_CheckRules_0 p0 x)) : ∃ n, loopP (b_ref06_CheckRules_0 p0 K) n x := by
  obtain ⟨hl, hx⟩ := hp
  subst hx
  generalize hlist : p0.hs = l at *
  have e0 : p0.2.2.2.2.2.2.2.2 = l := hlist
  refine loop_list0 l (0, 0) (fun r => K (sp_rk l r)) ?_ ?_ (by simpa [lp_ref06_CheckRules_0, hlist] using h)
  · intro k hI
    unfold b_ref06_CheckRules_0
    rw [e0]
    simpa [sp_rk] using hI
  · intro j k hj hI hk
    have hj' : (j : Int) < l.length := by omega
    have e1 : (l.length : Int) - (((l.drop (j + 1)).length : Int) + 1) = j := by simp; omega
    have e3 : l.length - ((l.drop (j + 1)).length + 1) - 1 = j - 1 := by simp; omega
    have e4 : (j : Int) > 0 → IntKind.i64.wrap ((j : Int) - 1) = ((j - 1 : Nat) : Int) := fun h0 => by rw [wrap_id (by omega) (by omega)]; omega
    simp only [sp_rk, e1, e3] at hI
    unfold b_ref06_CheckRules_0
    rw [e0]
    simp only [wrap_nat (show (j : Int) ≤ 9223372036854775806 by omega), hj', decide_true, Int.toNat_natCast, forall_const, Bool.true_eq_false, false_imp_iff, and_true]
    refine ⟨by omega, trivial, fun _ => by omega, fun _ => trivial, fun hx => ?_, fun hx => ⟨fun _ => by omega, fun _ => trivial, fun h0 => ?_, fun h0 => ?_, fun hy => ?_, fun hy => hk ?_⟩⟩
    · simpa only [hx, cond_true] using hI
    · have h0 : (j : Int) > 0 := by simpa using h0
      rw [e4 h0]; omega
    · have h0 : (j : Int) > 0 := by simpa using h0
      rw [e4 h0]; omega
    · simp only [hx, cond_false] at hI
      by_cases h0 : (j : Int) > 0
      · rw [e4 h0, Int.toNat_natCast] at hy
        simpa only [hy, cond_true] using hI
      · have hd : decide ((j : Int) > 0) = false := by simp; omega
        rw [hd] at hy; cases hy
    · simp only [hx, cond_false] at hI
      by_cases h0 : (j : Int) > 0
      · rw [e4 h0, Int.toNat_natCast] at hy
        simpa only [hy, cond_false] using hI
      · have hd : decide ((j : Int) > 0) = false := by simp; omega
        rw [hd] at hI; exact hI

def s_ref06_CheckRules (p0 : CR) : (Int × Int) :=
  (cond (cond (!(s_base_Within p0.1 (1 : Int) (1000000 : Int))) true (!(s_base_Within p0.2.1 (0 : Int) (100 : Int)))) ((0 : Int), (2 : Int))
    (cond (cond (!(s_base_Within p0.2.2.1.1 (0 : Int) (1000000 : Int))) true (!(s_base_Within p0.2.2.2.1.1 (0 : Int) (1000 : Int)))) ((0 : Int), (2 : Int))
    (cond (cond (!(s_base_Within p0.2.2.1.2.1 (0 : Int) (1000000 : Int))) true (!(s_base_Within p0.2.2.2.1.2.1 (0 : Int) (1000 : Int)))) ((1 : Int), (2 : Int))
    (cond (cond (!(s_base_Within p0.2.2.1.2.2 (0 : Int) (1000000 : Int))) true (!(s_base_Within p0.2.2.2.1.2.2 (0 : Int) (1000 : Int)))) ((2 : Int), (2 : Int))
    (cond (cond (!(s_base_Within p0.2.2.2.2.1 (0 : Int) (200 : Int))) true (!(s_base_Within p0.2.2.2.2.2.1 (IntKind.i64.wrap (p0.2.2.2.2.1 + (200 : Int))) (1000 : Int)))) ((0 : Int), (2 : Int))
    (cond (!(s_base_Within p0.2.2.2.2.2.2.1.1 (0 : Int) (1000 : Int))) ((0 : Int), (2 : Int))
    (cond (!(s_base_Within p0.2.2.2.2.2.2.1.2.1 (0 : Int) (1000 : Int))) ((1 : Int), (2 : Int))
    (cond (!(s_base_Within p0.2.2.2.2.2.2.1.2.2 (0 : Int) (1000 : Int))) ((2 : Int), (2 : Int))
    (cond (p0.2.2.2.2.2.2.1.2.1 != (1000 : Int)) ((1 : Int), (3 : Int))
    (cond (!(s_base_Within p0.mt.1.1 (0 : Int) (1000 : Int))) ((0 : Int), (2 : Int))
    (cond (!(s_base_Within p0.mt.2.1.1 (0 : Int) (1000 : Int))) ((0 : Int), (2 : Int))
    (cond (!(s_base_Within p0.mt.2.2.1 (0 : Int) (1000 : Int))) ((0 : Int), (2 : Int))
    (cond ((IntKind.i64.wrap ((IntKind.i64.wrap ((IntKind.i64.wrap ((0 : Int) + p0.mt.1.1)) + p0.mt.2.1.1)) + p0.mt.2.2.1)) != (1000 : Int)) ((0 : Int), (3 : Int))
    (cond (decide (p0.mt.1.1 < (600 : Int))) ((0 : Int), (22 : Int))
    (cond (!(s_base_Within p0.mt.1.2.1 (0 : Int) (1000 : Int))) ((1 : Int), (2 : Int))
    (cond (!(s_base_Within p0.mt.2.1.2.1 (0 : Int) (1000 : Int))) ((1 : Int), (2 : Int))
    (cond (!(s_base_Within p0.mt.2.2.2.1 (0 : Int) (1000 : Int))) ((1 : Int), (2 : Int))
    (cond ((IntKind.i64.wrap ((IntKind.i64.wrap ((IntKind.i64.wrap ((0 : Int) + p0.mt.1.2.1)) + p0.mt.2.1.2.1)) + p0.mt.2.2.2.1)) != (1000 : Int)) ((1 : Int), (3 : Int))
    (cond (decide (p0.mt.2.1.2.1 < (600 : Int))) ((1 : Int), (22 : Int))
    (cond (!(s_base_Within p0.mt.1.2.2 (0 : Int) (1000 : Int))) ((2 : Int), (2 : Int))
    (cond (!(s_base_Within p0.mt.2.1.2.2 (0 : Int) (1000 : Int))) ((2 : Int), (2 : Int))
    (cond (!(s_base_Within p0.mt.2.2.2.2 (0 : Int) (1000 : Int))) ((2 : Int), (2 : Int))
    (cond ((IntKind.i64.wrap ((IntKind.i64.wrap ((IntKind.i64.wrap ((0 : Int) + p0.mt.1.2.2)) + p0.mt.2.1.2.2)) + p0.mt.2.2.2.2)) != (1000 : Int)) ((2 : Int), (3 : Int))
    (cond (decide (p0.mt.2.2.2.2 < (600 : Int))) ((2 : Int), (22 : Int))
    (cond (decide ((((List.length p0.2.2.2.2.2.2.2.2) : Nat) : Int) < (2 : Int))) ((0 : Int), (10 : Int))
    (cond (decide ((((List.length p0.2.2.2.2.2.2.2.2) : Nat) : Int) > (8 : Int))) ((0 : Int), (8 : Int))
    (lp_ref06_CheckRules_0 p0 (0 : Int))))))))))))))))))))))))))))
abbrev pre_ref06_CheckRules (p0 : CR) : List Prop := [(((cond (!(s_base_Within p0.1 (1 : Int) (1000000 : Int))) true (!(s_base_Within p0.2.1 (0 : Int) (100 : Int)))) = false) → (((cond (!(s_base_Within p0.2.2.1.1 (0 : Int) (1000000 : Int))) true (!(s_base_Within p0.2.2.2.1.1 (0 : Int) (1000 : Int)))) = false) → (((cond (!(s_base_Within p0.2.2.1.2.1 (0 : Int) (1000000 : Int))) true (!(s_base_Within p0.2.2.2.1.2.1 (0 : Int) (1000 : Int)))) = false) → (((cond (!(s_base_Within p0.2.2.1.2.2 (0 : Int) (1000000 : Int))) true (!(s_base_Within p0.2.2.2.1.2.2 (0 : Int) (1000 : Int)))) = false) → (((cond (!(s_base_Within p0.2.2.2.2.1 (0 : Int) (200 : Int))) true (!(s_base_Within p0.2.2.2.2.2.1 (IntKind.i64.wrap (p0.2.2.2.2.1 + (200 : Int))) (1000 : Int)))) = false) → (((!(s_base_Within p0.2.2.2.2.2.2.1.1 (0 : Int) (1000 : Int))) = false) → (((!(s_base_Within p0.2.2.2.2.2.2.1.2.1 (0 : Int) (1000 : Int))) = false) → (((!(s_base_Within p0.2.2.2.2.2.2.1.2.2 (0 : Int) (1000 : Int))) = false) → (((p0.2.2.2.2.2.2.1.2.1 != (1000 : Int)) = false) → (((!(s_base_Within p0.mt.1.1 (0 : Int) (1000 : Int))) = false) → (((!(s_base_Within p0.mt.2.1.1 (0 : Int) (1000 : Int))) = false) → (((!(s_base_Within p0.mt.2.2.1 (0 : Int) (1000 : Int))) = false) → ((((IntKind.i64.wrap ((IntKind.i64.wrap ((IntKind.i64.wrap ((0 : Int) + p0.mt.1.1)) + p0.mt.2.1.1)) + p0.mt.2.2.1)) != (1000 : Int)) = false) → (((decide (p0.mt.1.1 < (600 : Int))) = false) → (((!(s_base_Within p0.mt.1.2.1 (0 : Int) (1000 : Int))) = false) → (((!(s_base_Within p0.mt.2.1.2.1 (0 : Int) (1000 : Int))) = false) → (((!(s_base_Within p0.mt.2.2.2.1 (0 : Int) (1000 : Int))) = false) → ((((IntKind.i64.wrap ((IntKind.i64.wrap ((IntKind.i64.wrap ((0 : Int) + p0.mt.1.2.1)) + p0.mt.2.1.2.1)) + p0.mt.2.2.2.1)) != (1000 : Int)) = false) → (((decide (p0.mt.2.1.2.1 < (600 : Int))) = false) → (((!(s_base_Within p0.mt.1.2.2 (0 : Int) (1000 : Int))) = false) → (((!(s_base_Within p0.mt.2.1.2.2 (0 : Int) (1000 : Int))) = false) → (((!(s_base_Within p0.mt.2.2.2.2 (0 : Int) (1000 : Int))) = false) → ((((IntKind.i64.wrap ((IntKind.i64.wrap ((IntKind.i64.wrap ((0 : Int) + p0.mt.1.2.2)) + p0.mt.2.1.2.2)) + p0.mt.2.2.2.2)) != (1000 : Int)) = false) → (((decide (p0.mt.2.2.2.2 < (600 : Int))) = false) → (((decide ((((List.length p0.2.2.2.2.2.2.2.2) : Nat) : Int) < (2 : Int))) = false) → (((decide ((((List.length p0.2.2.2.2.2.2.2.2) : Nat) : Int) > (8 : Int))) = false) → (lpre_ref06_CheckRules_0 p0 (0 : Int))))))))))))))))))))))))))))]
set_option maxHeartbeats 4000000 in
theorem d_ref06_CheckRules (p0 : CR) (K : (Int × Int) → Prop) (hp : ∀ p ∈ pre_ref06_CheckRules p0, p) (h : K (s_ref06_CheckRules p0)) : w_ref06_CheckRules p0 K := by
  unfold w_ref06_CheckRules
  unfold s_ref06_CheckRules at h
  obtain ⟨hp0, _⟩ := conj_of hp
  exact ⟨rf, rf, rf, rfl, (br' h (fun e0 h => h)
    (fun e0 h => ⟨31, fun _ => ⟨(od rfl), (od rfl), rf, rf, (fun _ => (od rfl)), (fun _ => (od rfl)), rf, rf, rf, rfl, (br' h (fun e1 h => h)
    (fun e1 h => ⟨fun _ => ⟨(od rfl), (od rfl), rf, rf, (fun _ => (od rfl)), (fun _ => (od rfl)), rf, rf, rf, rfl, (br' h (fun e2 h => h)
    (fun e2 h => ⟨fun _ => ⟨(od rfl), (od rfl), rf, rf, (fun _ => (od rfl)), (fun _ => (od rfl)), rf, rf, rf, rfl, (br' h (fun e3 h => h)
    (fun e3 h => ⟨nof, fun _ => ⟨rf, rf, rf, rf, rf, rf, rfl, (br' h (fun e4 h => h)
    (fun e4 h => ⟨31, fun _ => ⟨(od rfl), (od rfl), (br' h (fun e5 h => h)
    (fun e5 h => ⟨fun _ => ⟨(od rfl), (od rfl), (br' h (fun e6 h => h)
    (fun e6 h => ⟨fun _ => ⟨(od rfl), (od rfl), (br' h (fun e7 h => h)
    (fun e7 h => ⟨nof, fun _ => (br' h (fun e8 h => h)
    (fun e8 h => ⟨31, fun _ => ⟨31, fun _ => ⟨(od rfl), (od rfl), (od rfl), (od rfl), (br' h (fun e9 h => h)
    (fun e9 h => ⟨(od rfl), (od rfl), (od rfl), (od rfl), fun _ => ⟨(od rfl), (od rfl), (od rfl), (od rfl), (br' h (fun e10 h => h)
    (fun e10 h => ⟨(od rfl), (od rfl), (od rfl), (od rfl), fun _ => ⟨(od rfl), (od rfl), (od rfl), (od rfl), (br' h (fun e11 h => h)
    (fun e11 h => ⟨(od rfl), (od rfl), (od rfl), (od rfl), nof, fun _ => (br' h (fun e12 h => h)
    (fun e12 h => ⟨(od rfl), (od rfl), (od rfl), (od rfl), (br' h (fun e13 h => h)
    (fun e13 h => ⟨fun _ => ⟨31, fun _ => ⟨(od rfl), (od rfl), (od rfl), (od rfl), (br' h (fun e14 h => h)
    (fun e14 h => ⟨(od rfl), (od rfl), (od rfl), (od rfl), fun _ => ⟨(od rfl), (od rfl), (od rfl), (od rfl), (br' h (fun e15 h => h)
    (fun e15 h => ⟨(od rfl), (od rfl), (od rfl), (od rfl), fun _ => ⟨(od rfl), (od rfl), (od rfl), (od rfl), (br' h (fun e16 h => h)
    (fun e16 h => ⟨(od rfl), (od rfl), (od rfl), (od rfl), nof, fun _ => (br' h (fun e17 h => h)
    (fun e17 h => ⟨(od rfl), (od rfl), (od rfl), (od rfl), (br' h (fun e18 h => h)
    (fun e18 h => ⟨fun _ => ⟨31, fun _ => ⟨(od rfl), (od rfl), (od rfl), (od rfl), (br' h (fun e19 h => h)
    (fun e19 h => ⟨(od rfl), (od rfl), (od rfl), (od rfl), fun _ => ⟨(od rfl), (od rfl), (od rfl), (od rfl), (br' h (fun e20 h => h)
    (fun e20 h => ⟨(od rfl), (od rfl), (od rfl), (od rfl), fun _ => ⟨(od rfl), (od rfl), (od rfl), (od rfl), (br' h (fun e21 h => h)
    (fun e21 h => ⟨(od rfl), (od rfl), (od rfl), (od rfl), nof, fun _ => (br' h (fun e22 h => h)
    (fun e22 h => ⟨(od rfl), (od rfl), (od rfl), (od rfl), (br' h (fun e23 h => h)
    (fun e23 h => ⟨nof, fun _ => (br' h (fun e24 h => h)
    (fun e24 h => (br' h (fun e25 h => h)
    (fun e25 h => (Exists.imp (fun n hn => loop_mono (fun y k k' hk hy => ⟨fun e26 => ⟨(hy.1 e26).1, (hy.1 e26).2.1, rf, rf, rf, (hy.1 e26).2.2.1, (hy.1 e26).2.2.2.1, rf, rf, rf, rf, rfl, fun e27 => ((hy.1 e26).2.2.2.2.1 e27), fun e27 => ⟨rf, rf, rf, ((hy.1 e26).2.2.2.2.2 e27).1, ((hy.1 e26).2.2.2.2.2 e27).2.1, rf, rf, rf, rf, rf, rf, ((hy.1 e26).2.2.2.2.2 e27).2.2.1, ((hy.1 e26).2.2.2.2.2 e27).2.2.2.1, rf, rf, rf, rf, rfl, fun e28 => (((hy.1 e26).2.2.2.2.2 e27).2.2.2.2.1 e28), fun e28 => (hk _ (((hy.1 e26).2.2.2.2.2 e27).2.2.2.2.2 e28))⟩⟩, fun e26 => (hy.2 e26)⟩) n _ hn) (lk_ref06_CheckRules_0 p0 (0 : Int) K (hp0 e0 e1 e2 e3 e4 e5 e6 e7 e8 e9 e10 e11 e12 e13 e14 e15 e16 e17 e18 e19 e20 e21 e22 e23 e24 e25) h))))))⟩))⟩))⟩))⟩, fun e => Bool.noConfusion (show true = false from e)⟩))⟩, fun e => Bool.noConfusion (show true = false from e)⟩))⟩, fun e => Bool.noConfusion (show true = false from e)⟩, fun e => Bool.noConfusion (show true = false from e)⟩))⟩))⟩))⟩, fun e => Bool.noConfusion (show true = false from e)⟩))⟩, fun e => Bool.noConfusion (show true = false from e)⟩))⟩, fun e => Bool.noConfusion (show true = false from e)⟩, fun e => Bool.noConfusion (show true = false from e)⟩))⟩))⟩))⟩, fun e => Bool.noConfusion (show true = false from e)⟩))⟩, fun e => Bool.noConfusion (show true = false from e)⟩))⟩, fun e => Bool.noConfusion (show true = false from e)⟩, fun e => Bool.noConfusion (show true = false from e)⟩))⟩))⟩, fun e => Bool.noConfusion (show true = false from e)⟩))⟩, fun e => Bool.noConfusion (show true = false from e)⟩))⟩, fun e => Bool.noConfusion (show true = false from e)⟩))⟩⟩))⟩, fun e => Bool.noConfusion (show true = false from e)⟩))⟩, fun e => Bool.noConfusion (show true = false from e)⟩))⟩, fun e => Bool.noConfusion (show true = false from e)⟩))⟩
theorem tx_eqw (n a b : Int) : s_base_Within n a b = s_counts_within n a b := rfl
theorem tx_rk : ∀ (r pre : List (Int × Int)), sp_rk (pre ++ r) r = sp_kn pre.length (pre.getD (pre.length - 1) (-1, 0)).1 r
  | [], _ => rfl
  | x :: r, pre => by
    have ih := tx_rk r (pre ++ [x])
    have e0 : pre ++ [x] ++ r = pre ++ x :: r := by simp
    have e1 : ((pre ++ [x]).getD ((pre ++ [x]).length - 1) (-1, 0)) = x := by
      rw [List.length_append, List.length_cons, List.length_nil, List.getD, List.getElem?_append_right (by omega)]; simp
    have e2 : (((pre ++ x :: r).length : Nat) : Int) - ((r.length : Int) + 1) = pre.length := by simp only [List.length_append, List.length_cons]; omega
    have e3 : (pre ++ x :: r).length - (r.length + 1) - 1 = pre.length - 1 := by simp
    rw [e0, e1] at ih
    have e4 : ((pre ++ [x]).length : Int) = (pre.length : Int) + 1 := by simp
    rw [e4] at ih
    unfold sp_rk sp_kn
    rw [e2, e3, ih, tx_kn1, tx_eqw, tx_eqw]
    rcases ha : s_counts_within x.1 0 1000 with _ | _
    · rfl
    · rcases hb : s_counts_within x.2 1 10000 with _ | _
      · rfl
      · rw [tx_within] at ha
        by_cases hp : pre = []
        · subst hp
          have hd : decide (x.1 ≤ -1) = false := decide_eq_false (by omega)
          show _ = cond ((cond (decide (x.1 ≤ -1)) 9 0 : Int) != 0) (0, (cond (decide (x.1 ≤ -1)) 9 0 : Int)) _
          rw [hd]; rfl
        · have hl : 0 < pre.length := List.length_pos_iff.2 hp
          have hd : decide ((pre.length : Int) > 0) = true := decide_eq_true (by omega)
          have e5 : (pre ++ x :: r).getD (pre.length - 1) (0, 0) = pre.getD (pre.length - 1) (-1, 0) := by
            rw [List.getD, List.getElem?_append_left (by omega), List.getD, List.getElem?_eq_getElem (by omega)]; rfl
          rw [hd, e5]
          cases decide (x.1 ≤ (pre.getD (pre.length - 1) (-1, 0)).1) <;> rfl
theorem tx_allc (x y z m : Int) (c : Int × Int) : cond (decide (s_counts_allWithin (x, y, z) m ≥ 0)) (s_counts_allWithin (x, y, z) m, 2) c = cond (!s_base_Within x 0 m) (0, 2) (cond (!s_base_Within y 0 m) (1, 2) (cond (!s_base_Within z 0 m) (2, 2) c)) := by
  rw [tx_all, tx_eqw, tx_eqw, tx_eqw]
  cases s_counts_within x 0 m <;> cases s_counts_within y 0 m <;> cases s_counts_within z 0 m <;> rfl
theorem tx_colc (x y z o i : Int) (c : Int × Int) : cond (v_colErr x y z o != 0) (i, v_colErr x y z o) c = cond (!s_base_Within x 0 1000) (i, 2) (cond (!s_base_Within y 0 1000) (i, 2) (cond (!s_base_Within z 0 1000) (i, 2) (cond (s_counts_total [x, y, z] != 1000) (i, 3) (cond (decide (o < 600)) (i, 22) c)))) := by
  rw [v_colErr, tx_eqw, tx_eqw, tx_eqw]
  cases s_counts_within x 0 1000 <;> cases s_counts_within y 0 1000 <;> cases s_counts_within z 0 1000 <;> cases (s_counts_total [x, y, z] != 1000) <;> cases decide (o < 600) <;> rfl
theorem tx_lenc (n : Int) (c : Int × Int) : cond (cond (decide (n < 2)) (10 : Int) (cond (decide (n > 8)) 8 0) != 0) (0, cond (decide (n < 2)) (10 : Int) (cond (decide (n > 8)) 8 0)) c = cond (decide (n < 2)) (0, 10) (cond (decide (n > 8)) (0, 8) c) := by
  cases decide (n < 2) <;> cases decide (n > 8) <;> rfl
theorem tx_ref (p : CR) : s_ref06_CheckRules p = s_counts_CheckRules p := by
  unfold s_counts_CheckRules
  have c0 : s_counts_columnErr p.2.2.2.2.2.2.2.1 0 = v_colErr p.2.2.2.2.2.2.2.1.1.1 p.2.2.2.2.2.2.2.1.2.1.1 p.2.2.2.2.2.2.2.1.2.2.1 p.2.2.2.2.2.2.2.1.1.1 := tx_col _ _ _ _
  have c1 : s_counts_columnErr p.2.2.2.2.2.2.2.1 1 = v_colErr p.2.2.2.2.2.2.2.1.1.2.1 p.2.2.2.2.2.2.2.1.2.1.2.1 p.2.2.2.2.2.2.2.1.2.2.2.1 p.2.2.2.2.2.2.2.1.2.1.2.1 := tx_col _ _ _ _
  have c2 : s_counts_columnErr p.2.2.2.2.2.2.2.1 2 = v_colErr p.2.2.2.2.2.2.2.1.1.2.2 p.2.2.2.2.2.2.2.1.2.1.2.2 p.2.2.2.2.2.2.2.1.2.2.2.2 p.2.2.2.2.2.2.2.1.2.2.2.2 := tx_col _ _ _ _
  rw [c0, c1, c2, tx_colc, tx_colc, tx_colc, tx_len, tx_lenc, show p.2.2.2.2.2.2.1 = (p.2.2.2.2.2.2.1.1, p.2.2.2.2.2.2.1.2.1, p.2.2.2.2.2.2.1.2.2) from rfl, tx_allc]
  have h : lp_counts_CheckRules_0 p ((0 : Int), (-1 : Int)) = lp_ref06_CheckRules_0 p 0 := (tx_rk p.hs []).symm
  rw [h]
  rfl
abbrev qre_ref06_CheckRules (_ : CR) : List Prop := []
abbrev t_ref06_CheckRules (p0 : CR) : Int × Int := s_counts_CheckRules p0
theorem pp_ref06_CheckRules (p0 : CR) (_ : ∀ p ∈ qre_ref06_CheckRules p0, p) : ∀ p ∈ pre_ref06_CheckRules p0, p := by
  intro p hp
  simp only [pre_ref06_CheckRules, List.mem_cons, List.not_mem_nil, or_false] at hp
  subst hp
  intros
  rename_i h
  refine ⟨?_, rfl⟩
  have : ¬ ((p0.hs.length : Nat) : Int) > 8 := of_decide_eq_false h
  unfold lenOk; omega
theorem tt_ref06_CheckRules (p0 : CR) (_ : ∀ p ∈ qre_ref06_CheckRules p0, p) : s_ref06_CheckRules p0 = t_ref06_CheckRules p0 := tx_ref p0

abbrev con_ref06_CheckRules : Con := ⟨P_ref06_CheckRules, R_ref06_CheckRules, fun x => qre_ref06_CheckRules x, fun x => t_ref06_CheckRules x⟩
theorem ok_ref06_CheckRules : ConOk Try.prog 19 con_ref06_CheckRules := ⟨k_ref06_CheckRules, fun x hx => ret_tf (ps := P_ref06_CheckRules) (rs := R_ref06_CheckRules) (x := x) (y := t_ref06_CheckRules x) e_ref06_CheckRules hC_ref06_CheckRules (tf_of (w_ref06_CheckRules_eq x (fun z => z = t_ref06_CheckRules x)) (d_ref06_CheckRules x (fun z => z = t_ref06_CheckRules x) (pp_ref06_CheckRules x hx) (tt_ref06_CheckRules x hx)))⟩
/- counts_open -/
def C_counts_open : Cons := [(16, [], con_counts_CheckRules)]
theorem hC_counts_open : ConsOk Try.prog C_counts_open := ConsOk.cons ok_counts_CheckRules <| ConsOk.nil
def w_counts_open (p0 : CR) (K : (CR × Int) → Prop) : Prop :=
 (K (p0, (s_counts_CheckRules p0).2))
set_option maxHeartbeats 4000000 in
theorem w_counts_open_eq (p0 : CR) (K : (CR × Int) → Prop) : tfn F_counts_open A_counts_open C_counts_open P_counts_open R_counts_open p0 K = w_counts_open p0 K := by kernel_rfl
def s_counts_open (p0 : CR) : (CR × Int) :=
  (p0, (s_counts_CheckRules p0).2)
abbrev pre_counts_open (p0 : CR) : List Prop := []
set_option maxHeartbeats 4000000 in
theorem d_counts_open (p0 : CR) (K : (CR × Int) → Prop) (hp : ∀ p ∈ pre_counts_open p0, p) (h : K (s_counts_open p0)) : w_counts_open p0 K := by
  unfold w_counts_open
  unfold s_counts_open at h
  exact h
abbrev con_counts_open : Con := ⟨P_counts_open, R_counts_open, fun x => pre_counts_open x, fun x => s_counts_open x⟩
theorem ok_counts_open : ConOk Try.prog 82 con_counts_open := ⟨k_counts_open, fun x hx => ret_tf (ps := P_counts_open) (rs := R_counts_open) (x := x) (y := s_counts_open x) e_counts_open hC_counts_open (tf_of (w_counts_open_eq x (fun z => z = s_counts_open x)) (d_counts_open x (fun z => z = s_counts_open x) hx rfl))⟩
/- counts_isRaw -/
def C_counts_isRaw : Cons := [(74, [], con_counts_within)]
theorem hC_counts_isRaw : ConsOk Try.prog C_counts_isRaw := ConsOk.cons ok_counts_within <| ConsOk.nil
def w_counts_isRaw (p0 : Int) (K : Bool → Prop) : Prop :=
 (K (s_counts_within p0 (0 : Int) (100000 : Int)))
set_option maxHeartbeats 4000000 in
theorem w_counts_isRaw_eq (p0 : Int) (K : Bool → Prop) : tfn F_counts_isRaw A_counts_isRaw C_counts_isRaw P_counts_isRaw R_counts_isRaw p0 K = w_counts_isRaw p0 K := by kernel_rfl
def s_counts_isRaw (p0 : Int) : Bool :=
  (s_counts_within p0 (0 : Int) (100000 : Int))
abbrev pre_counts_isRaw (p0 : Int) : List Prop := []
set_option maxHeartbeats 4000000 in
theorem d_counts_isRaw (p0 : Int) (K : Bool → Prop) (hp : ∀ p ∈ pre_counts_isRaw p0, p) (h : K (s_counts_isRaw p0)) : w_counts_isRaw p0 K := by
  unfold w_counts_isRaw
  unfold s_counts_isRaw at h
  exact h
abbrev con_counts_isRaw : Con := ⟨P_counts_isRaw, R_counts_isRaw, fun x => pre_counts_isRaw x, fun x => s_counts_isRaw x⟩
theorem ok_counts_isRaw : ConOk Try.prog 104 con_counts_isRaw := ⟨k_counts_isRaw, fun x hx => ret_tf (ps := P_counts_isRaw) (rs := R_counts_isRaw) (x := x) (y := s_counts_isRaw x) e_counts_isRaw hC_counts_isRaw (tf_of (w_counts_isRaw_eq x (fun z => z = s_counts_isRaw x)) (d_counts_isRaw x (fun z => z = s_counts_isRaw x) hx rfl))⟩
/- counts_rules_has -/
def C_counts_rules_has : Cons := [(74, [], con_counts_within)]
theorem hC_counts_rules_has : ConsOk Try.prog C_counts_rules_has := ConsOk.cons ok_counts_within <| ConsOk.nil
def w_counts_rules_has (p0 : CR) (p1 : Int) (K : Bool → Prop) : Prop :=
 (((0 : Int) < (((List.length p0.2.2.2.2.2.2.2.2) : Nat) : Int)) ∧
  (((0 : Int) ≤ (IntKind.i64.wrap ((((List.length p0.2.2.2.2.2.2.2.2) : Nat) : Int) - (1 : Int)))) ∧
  (((IntKind.i64.wrap ((((List.length p0.2.2.2.2.2.2.2.2) : Nat) : Int) - (1 : Int))) < (((List.length p0.2.2.2.2.2.2.2.2) : Nat) : Int)) ∧
  (K (s_counts_within p1 (List.getD p0.2.2.2.2.2.2.2.2 (Int.toNat (0 : Int)) ((0 : Int), (0 : Int))).1 (List.getD p0.2.2.2.2.2.2.2.2 (Int.toNat (IntKind.i64.wrap ((((List.length p0.2.2.2.2.2.2.2.2) : Nat) : Int) - (1 : Int)))) ((0 : Int), (0 : Int))).1)))))
set_option maxHeartbeats 4000000 in
theorem w_counts_rules_has_eq (p0 : CR) (p1 : Int) (K : Bool → Prop) : tfn F_counts_rules_has A_counts_rules_has C_counts_rules_has P_counts_rules_has R_counts_rules_has (p0, p1) K = w_counts_rules_has p0 p1 K := by kernel_rfl
def s_counts_rules_has (p0 : CR) (p1 : Int) : Bool :=
  (s_counts_within p1 (List.getD p0.2.2.2.2.2.2.2.2 (Int.toNat (0 : Int)) ((0 : Int), (0 : Int))).1 (List.getD p0.2.2.2.2.2.2.2.2 (Int.toNat (IntKind.i64.wrap ((((List.length p0.2.2.2.2.2.2.2.2) : Nat) : Int) - (1 : Int)))) ((0 : Int), (0 : Int))).1)
abbrev pre_counts_rules_has (p0 : CR) (p1 : Int) : List Prop := [((0 : Int) < (((List.length p0.2.2.2.2.2.2.2.2) : Nat) : Int)),
    ((0 : Int) ≤ (IntKind.i64.wrap ((((List.length p0.2.2.2.2.2.2.2.2) : Nat) : Int) - (1 : Int)))),
    ((IntKind.i64.wrap ((((List.length p0.2.2.2.2.2.2.2.2) : Nat) : Int) - (1 : Int))) < (((List.length p0.2.2.2.2.2.2.2.2) : Nat) : Int))]
set_option maxHeartbeats 4000000 in
theorem d_counts_rules_has (p0 : CR) (p1 : Int) (K : Bool → Prop) (hp : ∀ p ∈ pre_counts_rules_has p0 p1, p) (h : K (s_counts_rules_has p0 p1)) : w_counts_rules_has p0 p1 K := by
  unfold w_counts_rules_has
  unfold s_counts_rules_has at h
  obtain ⟨hp0, hp1, hp2, _⟩ := conj_of hp
  exact ⟨(hp0), (hp1), (hp2), h⟩
abbrev qre_counts_rules_has (p0 : CR) (_ : Int) : List Prop := [v_rules p0]
theorem pp_counts_rules_has (p0 : CR) (p1 : Int) (hq : ∀ p ∈ qre_counts_rules_has p0 p1, p) : ∀ p ∈ pre_counts_rules_has p0 p1, p := by
  have hv : v_rules p0 := hq _ (by simp)
  have h1 := hv.len.1
  have h2 := hv.len.2
  have hl : p0.2.2.2.2.2.2.2.2.length = p0.hs.length := rfl
  intro p hp
  simp only [pre_counts_rules_has, List.mem_cons, List.not_mem_nil, or_false] at hp
  rcases hp with rfl | rfl | rfl
  · omega
  · rw [wrap_id (by omega) (by omega)]; omega
  · rw [wrap_id (by omega) (by omega)]; omega

abbrev con_counts_rules_has : Con := ⟨P_counts_rules_has, R_counts_rules_has, fun x => qre_counts_rules_has x.1 x.2, fun x => s_counts_rules_has x.1 x.2⟩
theorem ok_counts_rules_has : ConOk Try.prog 83 con_counts_rules_has := ⟨k_counts_rules_has, fun x hx => ret_tf (ps := P_counts_rules_has) (rs := R_counts_rules_has) (x := x) (y := s_counts_rules_has x.1 x.2) e_counts_rules_has hC_counts_rules_has (tf_of (w_counts_rules_has_eq x.1 x.2 (fun z => z = s_counts_rules_has x.1 x.2)) (d_counts_rules_has x.1 x.2 (fun z => z = s_counts_rules_has x.1 x.2) (pp_counts_rules_has x.1 x.2 hx) rfl))⟩
/- counts_rules_sampleErr -/
def C_counts_rules_sampleErr : Cons := [(75, [], con_counts_allWithin), (104, [], con_counts_isRaw), (74, [], con_counts_within), (83, [], con_counts_rules_has), (100, [], con_counts_total), (78, [], con_counts_unless), (77, [], con_counts_first)]
theorem hC_counts_rules_sampleErr : ConsOk Try.prog C_counts_rules_sampleErr := ConsOk.cons ok_counts_allWithin <| ConsOk.cons ok_counts_isRaw <| ConsOk.cons ok_counts_within <| ConsOk.cons ok_counts_rules_has <| ConsOk.cons ok_counts_total <| ConsOk.cons ok_counts_unless <| ConsOk.cons ok_counts_first <| ConsOk.nil
abbrev q2_counts_rules_sampleErr (p1 : CS) := (cond (decide ((s_counts_allWithin p1.1 (100000 : Int)) < zz0)) (s_counts_isRaw p1.2.2.1) false)
abbrev q0_counts_rules_sampleErr (p1 : CS) := (cond (q2_counts_rules_sampleErr p1) (s_counts_within p1.2.1 zz0 (1000000 : Int)) false)
abbrev q1_counts_rules_sampleErr (p1 : CS) := (cond (q0_counts_rules_sampleErr p1) (s_counts_within p1.2.2.2.1 zz0 (10000 : Int)) false)
def w_counts_rules_sampleErr (p0 : CR) (p1 : CS) (K : Int → Prop) : Prop :=
 ((((decide ((s_counts_allWithin p1.1 (100000 : Int)) < zz0)) = true) →
  ((decide ((s_counts_allWithin p1.1 (100000 : Int)) < zz0)) = (decide ((s_counts_allWithin p1.1 (100000 : Int)) < zz0)))) ∧
  ((((decide ((s_counts_allWithin p1.1 (100000 : Int)) < zz0)) = true) →
  ((decide ((s_counts_allWithin p1.1 (100000 : Int)) < zz0)) = (decide ((s_counts_allWithin p1.1 (100000 : Int)) < zz0)))) ∧
  (((decide ((s_counts_allWithin p1.1 (100000 : Int)) < zz0)) = (decide ((s_counts_allWithin p1.1 (100000 : Int)) < zz0))) ∧
  ((((q2_counts_rules_sampleErr p1) = true) →
  ((q2_counts_rules_sampleErr p1) = (q2_counts_rules_sampleErr p1))) ∧
  ((((q2_counts_rules_sampleErr p1) = true) →
  ((q2_counts_rules_sampleErr p1) = (q2_counts_rules_sampleErr p1))) ∧
  (((q2_counts_rules_sampleErr p1) = (q2_counts_rules_sampleErr p1)) ∧
  ((((q0_counts_rules_sampleErr p1) = true) →
  ((q0_counts_rules_sampleErr p1) = (q0_counts_rules_sampleErr p1))) ∧
  ((((q0_counts_rules_sampleErr p1) = true) →
  ((q0_counts_rules_sampleErr p1) = (q0_counts_rules_sampleErr p1))) ∧
  (((q0_counts_rules_sampleErr p1) = (q0_counts_rules_sampleErr p1)) ∧
  ((((q1_counts_rules_sampleErr p1) = true) →
  ((q1_counts_rules_sampleErr p1) = (q1_counts_rules_sampleErr p1))) ∧
  ((((q1_counts_rules_sampleErr p1) = true) →
  ((q1_counts_rules_sampleErr p1) = (q1_counts_rules_sampleErr p1))) ∧
  ((((q1_counts_rules_sampleErr p1) = true) →
  ((q1_counts_rules_sampleErr p1) = (q1_counts_rules_sampleErr p1))) ∧
  ((((q1_counts_rules_sampleErr p1) = true) →
  (v_rules p0)) ∧
  (((q1_counts_rules_sampleErr p1) = (q1_counts_rules_sampleErr p1)) ∧
  ((((!(cond (q1_counts_rules_sampleErr p1) (s_counts_rules_has p0 p1.2.2.2.2) false)) = true) →
  (K zz2)) ∧
  (((!(cond (q1_counts_rules_sampleErr p1) (s_counts_rules_has p0 p1.2.2.2.2) false)) = false) →
  ((lenOk (p1.1.1 :: (p1.1.2.1 :: (p1.1.2.2 :: ([] : List Int))))) ∧
    ((lenOk ((s_counts_unless (decide ((s_counts_total (p1.1.1 :: (p1.1.2.1 :: (p1.1.2.2 :: ([] : List Int))))) ≤ p1.2.1)) (13 : Int)) :: ((s_counts_unless (decide ((wi ((wi (zz2 * p0.2.1)) * p1.2.1)) ≤ p0.1)) (22 : Int)) :: ([] : List Int)))) ∧
    (K (s_counts_first ((s_counts_unless (decide ((s_counts_total (p1.1.1 :: (p1.1.2.1 :: (p1.1.2.2 :: ([] : List Int))))) ≤ p1.2.1)) (13 : Int)) :: ((s_counts_unless (decide ((wi ((wi (zz2 * p0.2.1)) * p1.2.1)) ≤ p0.1)) (22 : Int)) :: ([] : List Int)))))))))))))))))))))))
set_option maxHeartbeats 4000000 in
theorem w_counts_rules_sampleErr_eq (p0 : CR) (p1 : CS) (K : Int → Prop) : tfn F_counts_rules_sampleErr A_counts_rules_sampleErr C_counts_rules_sampleErr P_counts_rules_sampleErr R_counts_rules_sampleErr (p0, p1) K = w_counts_rules_sampleErr p0 p1 K := by kernel_rfl
def s_counts_rules_sampleErr (p0 : CR) (p1 : CS) : Int :=
  (cond (!(cond (cond (cond (cond (decide ((s_counts_allWithin p1.1 (100000 : Int)) < (0 : Int))) (s_counts_isRaw p1.2.2.1) false) (s_counts_within p1.2.1 (0 : Int) (1000000 : Int)) false) (s_counts_within p1.2.2.2.1 (0 : Int) (10000 : Int)) false) (s_counts_rules_has p0 p1.2.2.2.2) false)) (2 : Int)
    (s_counts_first ((s_counts_unless (decide ((s_counts_total (p1.1.1 :: (p1.1.2.1 :: (p1.1.2.2 :: ([] : List Int))))) ≤ p1.2.1)) (13 : Int)) :: ((s_counts_unless (decide ((IntKind.i64.wrap ((IntKind.i64.wrap ((2 : Int) * p0.2.1)) * p1.2.1)) ≤ p0.1)) (22 : Int)) :: ([] : List Int)))))
abbrev pre_counts_rules_sampleErr (p0 : CR) (p1 : CS) : List Prop := [(((cond (cond (cond (decide ((s_counts_allWithin p1.1 (100000 : Int)) < (0 : Int))) (s_counts_isRaw p1.2.2.1) false) (s_counts_within p1.2.1 (0 : Int) (1000000 : Int)) false) (s_counts_within p1.2.2.2.1 (0 : Int) (10000 : Int)) false) = true) → (v_rules p0))]
set_option maxHeartbeats 4000000 in
theorem d_counts_rules_sampleErr (p0 : CR) (p1 : CS) (K : Int → Prop) (hp : ∀ p ∈ pre_counts_rules_sampleErr p0 p1, p) (h : K (s_counts_rules_sampleErr p0 p1)) : w_counts_rules_sampleErr p0 p1 K := by
  unfold w_counts_rules_sampleErr
  unfold s_counts_rules_sampleErr at h
  obtain ⟨hp0, _⟩ := conj_of hp
  exact ⟨rf, rf, rfl, rf, rf, rfl, rf, rf, rfl, rf, rf, rf, (hp0), rfl, (br' h (fun e0 h => h)
    (fun e0 h => ⟨(lenOk_of 3 rfl (by decide)), (lenOk_of 2 rfl (by decide)), h⟩))⟩
abbrev qre_counts_rules_sampleErr (p0 : CR) (_ : CS) : List Prop := [v_rules p0]
theorem pp_counts_rules_sampleErr (p0 : CR) (p1 : CS) (hq : ∀ p ∈ qre_counts_rules_sampleErr p0 p1, p) : ∀ p ∈ pre_counts_rules_sampleErr p0 p1, p := by
  have hv : v_rules p0 := hq _ (by simp)
  intro p hp
  simp only [pre_counts_rules_sampleErr, List.mem_cons, List.not_mem_nil, or_false] at hp
  subst hp
  intros
  exact hv

abbrev con_counts_rules_sampleErr : Con := ⟨P_counts_rules_sampleErr, R_counts_rules_sampleErr, fun x => qre_counts_rules_sampleErr x.1 x.2, fun x => s_counts_rules_sampleErr x.1 x.2⟩
theorem ok_counts_rules_sampleErr : ConOk Try.prog 89 con_counts_rules_sampleErr := ⟨k_counts_rules_sampleErr, fun x hx => ret_tf (ps := P_counts_rules_sampleErr) (rs := R_counts_rules_sampleErr) (x := x) (y := s_counts_rules_sampleErr x.1 x.2) e_counts_rules_sampleErr hC_counts_rules_sampleErr (tf_of (w_counts_rules_sampleErr_eq x.1 x.2 (fun z => z = s_counts_rules_sampleErr x.1 x.2)) (d_counts_rules_sampleErr x.1 x.2 (fun z => z = s_counts_rules_sampleErr x.1 x.2) (pp_counts_rules_sampleErr x.1 x.2 hx) rfl))⟩
/- counts_openSample -/
def C_counts_openSample : Cons := [(82, [], con_counts_open), (89, [], con_counts_rules_sampleErr)]
theorem hC_counts_openSample : ConsOk Try.prog C_counts_openSample := ConsOk.cons ok_counts_open <| ConsOk.cons ok_counts_rules_sampleErr <| ConsOk.nil
def w_counts_openSample (p0 : CR) (p1 : CS) (K : (CR × Int) → Prop) : Prop :=
 (((((s_counts_CheckRules p0).2 == (0 : Int)) = true) →
  ((v_rules p0) ∧
    (K (p0, (s_counts_rules_sampleErr p0 p1))))) ∧
  ((((s_counts_CheckRules p0).2 == (0 : Int)) = false) →
  (K (p0, (s_counts_CheckRules p0).2))))
set_option maxHeartbeats 4000000 in
theorem w_counts_openSample_eq (p0 : CR) (p1 : CS) (K : (CR × Int) → Prop) : tfn F_counts_openSample A_counts_openSample C_counts_openSample P_counts_openSample R_counts_openSample (p0, p1) K = w_counts_openSample p0 p1 K := by kernel_rfl
def s_counts_openSample (p0 : CR) (p1 : CS) : (CR × Int) :=
  (cond ((s_counts_CheckRules p0).2 == (0 : Int)) (p0, (s_counts_rules_sampleErr p0 p1))
    (p0, (s_counts_CheckRules p0).2))
abbrev pre_counts_openSample (p0 : CR) (p1 : CS) : List Prop := [((((s_counts_CheckRules p0).2 == (0 : Int)) = true) → (v_rules p0))]
set_option maxHeartbeats 4000000 in
theorem d_counts_openSample (p0 : CR) (p1 : CS) (K : (CR × Int) → Prop) (hp : ∀ p ∈ pre_counts_openSample p0 p1, p) (h : K (s_counts_openSample p0 p1)) : w_counts_openSample p0 p1 K := by
  unfold w_counts_openSample
  unfold s_counts_openSample at h
  obtain ⟨hp0, _⟩ := conj_of hp
  exact (br' h (fun e0 h => ⟨(hp0 e0), h⟩)
    (fun e0 h => h))
/-- The error of rules and a sample. -/
def v_both (p0 : CR) (p1 : CS) : Int := cond ((s_counts_CheckRules p0).2 == 0) (s_counts_rules_sampleErr p0 p1) (s_counts_CheckRules p0).2
theorem v_both_rules {p0 : CR} {p1 : CS} (h : v_both p0 p1 = 0) : (s_counts_CheckRules p0).2 = 0 := by
  unfold v_both at h
  rcases he : ((s_counts_CheckRules p0).2 == 0) with _ | _
  · rw [he] at h; exact h
  · simpa using he
abbrev t_counts_openSample (p0 : CR) (p1 : CS) : CR × Int := (p0, v_both p0 p1)
abbrev qre_counts_openSample (_ : CR) (_ : CS) : List Prop := []
theorem pp_counts_openSample (p0 : CR) (p1 : CS) (_ : ∀ p ∈ qre_counts_openSample p0 p1, p) : ∀ p ∈ pre_counts_openSample p0 p1, p := by
  intro p hp
  simp only [pre_counts_openSample, List.mem_cons, List.not_mem_nil, or_false] at hp
  subst hp
  intro h
  exact tx_valid (by simpa using h)
theorem tt_counts_openSample (p0 : CR) (p1 : CS) (_ : ∀ p ∈ qre_counts_openSample p0 p1, p) : s_counts_openSample p0 p1 = t_counts_openSample p0 p1 := by
  unfold s_counts_openSample t_counts_openSample v_both
  cases (s_counts_CheckRules p0).2 == 0 <;> rfl

abbrev con_counts_openSample : Con := ⟨P_counts_openSample, R_counts_openSample, fun x => qre_counts_openSample x.1 x.2, fun x => t_counts_openSample x.1 x.2⟩
theorem ok_counts_openSample : ConOk Try.prog 79 con_counts_openSample := ⟨k_counts_openSample, fun x hx => ret_tf (ps := P_counts_openSample) (rs := R_counts_openSample) (x := x) (y := t_counts_openSample x.1 x.2) e_counts_openSample hC_counts_openSample (tf_of (w_counts_openSample_eq x.1 x.2 (fun z => z = t_counts_openSample x.1 x.2)) (d_counts_openSample x.1 x.2 (fun z => z = t_counts_openSample x.1 x.2) (pp_counts_openSample x.1 x.2 hx) (tt_counts_openSample x.1 x.2 hx)))⟩
/-- A valid sample of valid rules. -/
structure v_samp (r : CR) (s : CS) : Prop where
  rules : v_rules r
  raw0 : 0 ≤ s.1.1 ∧ s.1.1 ≤ 100000
  raw1 : 0 ≤ s.1.2.1 ∧ s.1.2.1 ≤ 100000
  raw2 : 0 ≤ s.1.2.2 ∧ s.1.2.2 ≤ 100000
  total : 0 ≤ s.2.1 ∧ s.2.1 ≤ 1000000
  cosmic : 0 ≤ s.2.2.1 ∧ s.2.2.1 ≤ 100000
  up : 0 ≤ s.2.2.2.1 ∧ s.2.2.2.1 ≤ 10000
  high : s_counts_rules_has r s.2.2.2.2 = true
  sum : s.1.1 + s.1.2.1 + s.1.2.2 ≤ s.2.1
  dead : 2 * (r.2.1 * s.2.1) ≤ r.1
theorem tx_and {a b : Bool} (h : cond a b false = true) : a = true ∧ b = true := by
  cases a
  · cases h
  · exact ⟨rfl, h⟩
theorem tx_mul {x y a b : Int} (h1 : 0 ≤ x) (h2 : x ≤ a) (h3 : 0 ≤ y) (h4 : y ≤ b) : 0 ≤ x * y ∧ x * y ≤ a * b := ⟨Int.mul_nonneg h1 h3, Int.mul_le_mul h2 h4 h3 (by omega)⟩
theorem tx_samp {r : CR} {s : CS} (h : v_both r s = 0) : v_samp r s := by
  have h0 := v_both_rules h
  have hv := tx_valid h0
  have hs : s_counts_rules_sampleErr r s = 0 := by unfold v_both at h; rw [h0] at h; exact h
  obtain ⟨⟨a, b, c⟩, t, k, u, z⟩ := s
  unfold s_counts_rules_sampleErr at hs
  rw [tx_err _ _ _ (by decide), tx_err _ _ _ (by decide), tx_allneg] at hs
  rcases hr : (cond (cond (cond (cond (cond (!s_counts_within a 0 100000) false (cond (!s_counts_within b 0 100000) false (cond (!s_counts_within c 0 100000) false true))) (s_counts_isRaw k) false) (s_counts_within t 0 1000000) false) (s_counts_within u 0 10000) false) (s_counts_rules_has r z) false) with _ | _
  · simp only [hr] at hs; cases hs
  · simp only [hr] at hs
    obtain ⟨hr, h5⟩ := tx_and hr
    obtain ⟨hr, h4⟩ := tx_and hr
    obtain ⟨hr, h3⟩ := tx_and hr
    obtain ⟨hr, h2⟩ := tx_and hr
    rcases ha : s_counts_within a 0 100000 with _ | _
    · rw [ha] at hr; cases hr
    rcases hb : s_counts_within b 0 100000 with _ | _
    · rw [ha, hb] at hr; cases hr
    rcases hc : s_counts_within c 0 100000 with _ | _
    · rw [ha, hb, hc] at hr; cases hr
    have h2' : s_counts_within k 0 100000 = true := h2
    rw [tx_within] at ha hb hc h2' h3 h4
    rcases g1 : decide (s_counts_total [a, b, c] ≤ t) with _ | _
    · rw [g1] at hs; cases hs
    rcases g2 : decide (IntKind.i64.wrap (IntKind.i64.wrap (2 * r.2.1) * t) ≤ r.1) with _ | _
    · rw [g1, g2] at hs; cases hs
    have g1' := of_decide_eq_true g1
    have g2' := of_decide_eq_true g2
    have g3 : s_counts_total [a, b, c] = IntKind.i64.wrap (IntKind.i64.wrap (IntKind.i64.wrap (0 + a) + b) + c) := rfl
    rw [g3, wrap_id (n := 0 + a) (by omega) (by omega), wrap_id (n := 0 + a + b) (by omega) (by omega), wrap_id (by omega) (by omega)] at g1'
    have hm := tx_mul hv.dead.1 hv.dead.2 h3.1 h3.2
    have e : 2 * r.2.1 * t = 2 * (r.2.1 * t) := Int.mul_assoc _ _ _
    rw [w_mul_l, e, wrap_id (by omega) (by omega)] at g2'
    exact ⟨hv, ha, hb, hc, h3, h2', h4, h5, by show a + b + c ≤ t; omega, g2'⟩
theorem tx_live {r : CR} {s : CS} (h : v_samp r s) : IntKind.i64.wrap (r.1 - IntKind.i64.wrap (r.2.1 * s.2.1)) = r.1 - r.2.1 * s.2.1 ∧ 1 ≤ r.1 - r.2.1 * s.2.1 ∧ r.1 - r.2.1 * s.2.1 ≤ 1000000 := by
  have h1 := h.rules.period
  have h2 := h.dead
  have h3 := tx_mul h.rules.dead.1 h.rules.dead.2 h.total.1 h.total.2
  rw [w_sub_r, wrap_id (by omega) (by omega)]
  omega
theorem tx_air {r : CR} (h : v_rules r) : IntKind.i64.wrap (r.2.2.2.2.2.1 - r.2.2.2.2.1) = r.2.2.2.2.2.1 - r.2.2.2.2.1 ∧ 200 ≤ r.2.2.2.2.2.1 - r.2.2.2.2.1 ∧ r.2.2.2.2.2.1 - r.2.2.2.2.1 ≤ 1000 := by
  have h1 := h.ground
  have h2 := h.air
  rw [wrap_id (by omega) (by omega)]
  omega
theorem tx_vok {r : CR} {s : CS} (h : (v_both r s != 0) = false) : v_samp r s := tx_samp (by simpa using h)
theorem tx_rok {r : CR} (h : ((s_counts_CheckRules r).2 != 0) = false) : v_rules r := tx_valid (by simpa using h)
/- counts_isValue -/
def C_counts_isValue : Cons := [(74, [], con_counts_within)]
theorem hC_counts_isValue : ConsOk Try.prog C_counts_isValue := ConsOk.cons ok_counts_within <| ConsOk.nil
def w_counts_isValue (p0 : Int) (K : Bool → Prop) : Prop :=
 (K (s_counts_within p0 (-1000000000 : Int) (1000000000 : Int)))
set_option maxHeartbeats 4000000 in
theorem w_counts_isValue_eq (p0 : Int) (K : Bool → Prop) : tfn F_counts_isValue A_counts_isValue C_counts_isValue P_counts_isValue R_counts_isValue p0 K = w_counts_isValue p0 K := by kernel_rfl
def s_counts_isValue (p0 : Int) : Bool :=
  (s_counts_within p0 (-1000000000 : Int) (1000000000 : Int))
abbrev pre_counts_isValue (p0 : Int) : List Prop := []
set_option maxHeartbeats 4000000 in
theorem d_counts_isValue (p0 : Int) (K : Bool → Prop) (hp : ∀ p ∈ pre_counts_isValue p0, p) (h : K (s_counts_isValue p0)) : w_counts_isValue p0 K := by
  unfold w_counts_isValue
  unfold s_counts_isValue at h
  exact h
abbrev con_counts_isValue : Con := ⟨P_counts_isValue, R_counts_isValue, fun x => pre_counts_isValue x, fun x => s_counts_isValue x⟩
theorem ok_counts_isValue : ConOk Try.prog 110 con_counts_isValue := ⟨k_counts_isValue, fun x hx => ret_tf (ps := P_counts_isValue) (rs := R_counts_isValue) (x := x) (y := s_counts_isValue x) e_counts_isValue hC_counts_isValue (tf_of (w_counts_isValue_eq x (fun z => z = s_counts_isValue x)) (d_counts_isValue x (fun z => z = s_counts_isValue x) hx rfl))⟩
/- counts_valueErr -/
def C_counts_valueErr : Cons := [(110, [], con_counts_isValue), (78, [], con_counts_unless), (77, [], con_counts_first)]
theorem hC_counts_valueErr : ConsOk Try.prog C_counts_valueErr := ConsOk.cons ok_counts_isValue <| ConsOk.cons ok_counts_unless <| ConsOk.cons ok_counts_first <| ConsOk.nil
def w_counts_valueErr (p0 : (Int × Int)) (K : Int → Prop) : Prop :=
 ((((s_counts_isValue p0.1) = true) →
  ((s_counts_isValue p0.1) = (s_counts_isValue p0.1))) ∧
  ((((s_counts_isValue p0.1) = true) →
  ((s_counts_isValue p0.1) = (s_counts_isValue p0.1))) ∧
  (((s_counts_isValue p0.1) = (s_counts_isValue p0.1)) ∧
  ((lenOk ((s_counts_unless (cond (s_counts_isValue p0.1) (s_counts_isValue p0.2) false) (2 : Int)) :: ((s_counts_unless (decide (p0.1 ≤ p0.2)) (9 : Int)) :: ([] : List Int)))) ∧
  (K (s_counts_first ((s_counts_unless (cond (s_counts_isValue p0.1) (s_counts_isValue p0.2) false) (2 : Int)) :: ((s_counts_unless (decide (p0.1 ≤ p0.2)) (9 : Int)) :: ([] : List Int)))))))))
set_option maxHeartbeats 4000000 in
theorem w_counts_valueErr_eq (p0 : (Int × Int)) (K : Int → Prop) : tfn F_counts_valueErr A_counts_valueErr C_counts_valueErr P_counts_valueErr R_counts_valueErr p0 K = w_counts_valueErr p0 K := by kernel_rfl
def s_counts_valueErr (p0 : (Int × Int)) : Int :=
  (s_counts_first ((s_counts_unless (cond (s_counts_isValue p0.1) (s_counts_isValue p0.2) false) (2 : Int)) :: ((s_counts_unless (decide (p0.1 ≤ p0.2)) (9 : Int)) :: ([] : List Int))))
abbrev pre_counts_valueErr (p0 : (Int × Int)) : List Prop := []
set_option maxHeartbeats 4000000 in
theorem d_counts_valueErr (p0 : (Int × Int)) (K : Int → Prop) (hp : ∀ p ∈ pre_counts_valueErr p0, p) (h : K (s_counts_valueErr p0)) : w_counts_valueErr p0 K := by
  unfold w_counts_valueErr
  unfold s_counts_valueErr at h
  exact ⟨rf, rf, rfl, (lenOk_of 2 rfl (by decide)), h⟩
abbrev con_counts_valueErr : Con := ⟨P_counts_valueErr, R_counts_valueErr, fun x => pre_counts_valueErr x, fun x => s_counts_valueErr x⟩
theorem ok_counts_valueErr : ConOk Try.prog 80 con_counts_valueErr := ⟨k_counts_valueErr, fun x hx => ret_tf (ps := P_counts_valueErr) (rs := R_counts_valueErr) (x := x) (y := s_counts_valueErr x) e_counts_valueErr hC_counts_valueErr (tf_of (w_counts_valueErr_eq x (fun z => z = s_counts_valueErr x)) (d_counts_valueErr x (fun z => z = s_counts_valueErr x) hx rfl))⟩
/- counts_rootUp -/
def C_counts_rootUp : Cons := []
theorem hC_counts_rootUp : ConsOk Try.prog C_counts_rootUp := ConsOk.nil
def w_counts_rootUp (p0 : Int) (K : Int → Prop) : Prop :=
 (∃ n0, (loopP (fun (y1 : (Int × Int)) k2 =>
    ((((decide (y1.2 < y1.1)) = true) →
    ((((decide ((IntKind.i64.wrap ((IntKind.i64.wrap (Int.tdiv (IntKind.i64.wrap (y1.2 + y1.1)) (2 : Int))) * (IntKind.i64.wrap (Int.tdiv (IntKind.i64.wrap (y1.2 + y1.1)) (2 : Int))))) ≥ p0)) = true) →
      (k2 ((IntKind.i64.wrap (Int.tdiv (IntKind.i64.wrap (y1.2 + y1.1)) (2 : Int))), y1.2))) ∧
      (((decide ((IntKind.i64.wrap ((IntKind.i64.wrap (Int.tdiv (IntKind.i64.wrap (y1.2 + y1.1)) (2 : Int))) * (IntKind.i64.wrap (Int.tdiv (IntKind.i64.wrap (y1.2 + y1.1)) (2 : Int))))) ≥ p0)) = false) →
      (k2 (y1.1, (IntKind.i64.wrap ((IntKind.i64.wrap (Int.tdiv (IntKind.i64.wrap (y1.2 + y1.1)) (2 : Int))) + (1 : Int)))))))) ∧
    (((decide (y1.2 < y1.1)) = false) →
    (K y1.2)))) n0 ((2097152 : Int), (0 : Int))))
set_option maxHeartbeats 4000000 in
theorem w_counts_rootUp_eq (p0 : Int) (K : Int → Prop) : tfn F_counts_rootUp A_counts_rootUp C_counts_rootUp P_counts_rootUp R_counts_rootUp p0 K = w_counts_rootUp p0 K := by kernel_rfl
def b_counts_rootUp_0 (p0 : Int) (K : Int → Prop) (y : (Int × Int)) (k : (Int × Int) → Prop) : Prop :=
 (((decide (y.2 < y.1)) = true →
    (((decide ((IntKind.i64.wrap ((IntKind.i64.wrap (Int.tdiv (IntKind.i64.wrap (y.2 + y.1)) (2 : Int))) * (IntKind.i64.wrap (Int.tdiv (IntKind.i64.wrap (y.2 + y.1)) (2 : Int))))) ≥ p0)) = true →
      (k ((IntKind.i64.wrap (Int.tdiv (IntKind.i64.wrap (y.2 + y.1)) (2 : Int))), y.2))) ∧
    ((decide ((IntKind.i64.wrap ((IntKind.i64.wrap (Int.tdiv (IntKind.i64.wrap (y.2 + y.1)) (2 : Int))) * (IntKind.i64.wrap (Int.tdiv (IntKind.i64.wrap (y.2 + y.1)) (2 : Int))))) ≥ p0)) = false →
      (k (y.1, (IntKind.i64.wrap ((IntKind.i64.wrap (Int.tdiv (IntKind.i64.wrap (y.2 + y.1)) (2 : Int))) + (1 : Int)))))))) ∧
  ((decide (y.2 < y.1)) = false →
    (K y.2)))
def lp_counts_rootUp_0 (p0 : Int) (_ : Int × Int) : Int := v_rootUp p0
abbrev lpre_counts_rootUp_0 (p0 : Int) (x : Int × Int) : Prop := (0 ≤ p0 ∧ p0 ≤ 4398046511104) ∧ x = (2097152, 0)
theorem lk_counts_rootUp_0 (p0 : Int) (x : Int × Int) (K : Int → Prop) (hp : lpre_counts_rootUp_0 p0 x) (h : K (lp_counts_rootUp_0 p0 x)) : ∃ n, loopP (b_counts_rootUp_0 p0 K) n x := by
  obtain ⟨⟨hn, hn2⟩, rfl⟩ := hp
  refine ⟨2097153, loop_ind (fun n s => 0 ≤ s.2 ∧ s.2 ≤ s.1 ∧ s.1 ≤ 2097152 ∧ p0 ≤ s.1 * s.1 ∧ (s.2 = 0 ∨ (s.2 - 1) * (s.2 - 1) < p0) ∧ s.1 - s.2 < (n : Int)) (fun s hs => by omega) ?_ _ _ ⟨by decide, by decide, by decide, by simpa using hn2, .inl rfl, by decide⟩⟩
  rintro n ⟨hi, lo⟩ k ⟨h1, h2, h3, h4, h5, h6⟩ hk
  simp only at h1 h2 h3 h4 h5 h6
  have e1 : IntKind.i64.wrap (lo + hi) = lo + hi := wrap_id (by omega) (by omega)
  have e2 : (lo + hi).tdiv 2 = (lo + hi) / 2 := Int.tdiv_eq_ediv_of_nonneg (by omega)
  have e3 : IntKind.i64.wrap ((lo + hi) / 2) = (lo + hi) / 2 := wrap_id (by omega) (by omega)
  have g := mul_in (x := (lo + hi) / 2) (y := (lo + hi) / 2) (a := 2097152) (b := 2097152) (by omega) (by omega) (by omega) (by omega)
  have e4 : IntKind.i64.wrap ((lo + hi) / 2 * ((lo + hi) / 2)) = (lo + hi) / 2 * ((lo + hi) / 2) := wrap_id (by omega) (by omega)
  unfold b_counts_rootUp_0
  simp only [e1, e2, e3, e4]
  refine ⟨fun hl => ⟨fun hm => hk _ ?_, fun hm => hk _ ?_⟩, fun hl => ?_⟩
  · have hl := of_decide_eq_true hl
    have hm := of_decide_eq_true hm
    exact ⟨h1, by simp only; omega, by simp only; omega, hm, h5, by simp only; omega⟩
  · have hl := of_decide_eq_true hl
    have hm := of_decide_eq_false hm
    rw [wrap_id (by omega) (by omega)]
    exact ⟨by simp only; omega, by simp only; omega, h3, h4, .inr (by simp only; rw [show (lo + hi) / 2 + 1 - 1 = (lo + hi) / 2 by omega]; omega), by simp only; omega⟩
  · have hl := of_decide_eq_false hl
    have : lo = hi := by omega
    subst this
    have h' : K (v_rootUp p0) := h
    rw [v_rootUp_is hn h1 h4 h5] at h'
    exact h'

def s_counts_rootUp (p0 : Int) : Int :=
  (lp_counts_rootUp_0 p0 ((2097152 : Int), (0 : Int)))
abbrev pre_counts_rootUp (p0 : Int) : List Prop := [(lpre_counts_rootUp_0 p0 ((2097152 : Int), (0 : Int)))]
set_option maxHeartbeats 4000000 in
theorem d_counts_rootUp (p0 : Int) (K : Int → Prop) (hp : ∀ p ∈ pre_counts_rootUp p0, p) (h : K (s_counts_rootUp p0)) : w_counts_rootUp p0 K := by
  unfold w_counts_rootUp
  unfold s_counts_rootUp at h
  obtain ⟨hp0, _⟩ := conj_of hp
  exact (Exists.imp (fun n hn => loop_mono (fun y k k' hk hy => ⟨fun e0 => ⟨fun e1 => (hk _ ((hy.1 e0).1 e1)), fun e1 => (hk _ ((hy.1 e0).2 e1))⟩, fun e0 => (hy.2 e0)⟩) n _ hn) (lk_counts_rootUp_0 p0 ((2097152 : Int), (0 : Int)) K (hp0) h))
abbrev t_counts_rootUp (p0 : Int) : Int := v_rootUp p0
abbrev qre_counts_rootUp (p0 : Int) : List Prop := [0 ≤ p0 ∧ p0 ≤ 4398046511104]
theorem pp_counts_rootUp (p0 : Int) (hq : ∀ p ∈ qre_counts_rootUp p0, p) : ∀ p ∈ pre_counts_rootUp p0, p := by
  have hv := conj_of hq
  intro p hp
  simp only [pre_counts_rootUp, List.mem_cons, List.not_mem_nil, or_false] at hp
  subst hp
  exact ⟨hv.1, rfl⟩
theorem tt_counts_rootUp (p0 : Int) (_ : ∀ p ∈ qre_counts_rootUp p0, p) : s_counts_rootUp p0 = t_counts_rootUp p0 := rfl

abbrev con_counts_rootUp : Con := ⟨P_counts_rootUp, R_counts_rootUp, fun x => qre_counts_rootUp x, fun x => t_counts_rootUp x⟩
theorem ok_counts_rootUp : ConOk Try.prog 81 con_counts_rootUp := ⟨k_counts_rootUp, fun x hx => ret_tf (ps := P_counts_rootUp) (rs := R_counts_rootUp) (x := x) (y := t_counts_rootUp x) e_counts_rootUp hC_counts_rootUp (tf_of (w_counts_rootUp_eq x (fun z => z = t_counts_rootUp x)) (d_counts_rootUp x (fun z => z = t_counts_rootUp x) (pp_counts_rootUp x hx) (tt_counts_rootUp x hx)))⟩
/- counts_BandOf -/
def C_counts_BandOf : Cons := [(74, [], con_counts_within), (80, [], con_counts_valueErr), (78, [], con_counts_unless), (77, [], con_counts_first), (81, [], con_counts_rootUp)]
theorem hC_counts_BandOf : ConsOk Try.prog C_counts_BandOf := ConsOk.cons ok_counts_within <| ConsOk.cons ok_counts_valueErr <| ConsOk.cons ok_counts_unless <| ConsOk.cons ok_counts_first <| ConsOk.cons ok_counts_rootUp <| ConsOk.nil
abbrev q0_counts_BandOf (p0 : (Int × Int)) (p1 : Int) (p2 : Int) := ((s_counts_valueErr p0) :: ((s_counts_unless (cond (s_counts_within p1 zz0 (1000000000000 : Int)) (s_counts_within p2 zz0 (5 : Int)) false) zz2) :: ([] : List Int)))
def w_counts_BandOf (p0 : (Int × Int)) (p1 : Int) (p2 : Int) (K : ((Int × Int) × Int) → Prop) : Prop :=
 ((((s_counts_within p1 zz0 (1000000000000 : Int)) = true) →
  ((s_counts_within p1 zz0 (1000000000000 : Int)) = (s_counts_within p1 zz0 (1000000000000 : Int)))) ∧
  (((s_counts_within p1 zz0 (1000000000000 : Int)) = (s_counts_within p1 zz0 (1000000000000 : Int))) ∧
  ((lenOk (q0_counts_BandOf p0 p1 p2)) ∧
  (((((s_counts_first (q0_counts_BandOf p0 p1 p2)) != zz0) = true) →
  (K ((zz0, zz0), (s_counts_first (q0_counts_BandOf p0 p1 p2))))) ∧
  ((((s_counts_first (q0_counts_BandOf p0 p1 p2)) != zz0) = false) →
  (((zz0 ≤ p1) ∧
    (p1 ≤ (4398046511104 : Int))) ∧
    (K (((wi (p0.1 - (wi (p2 * (v_rootUp p1))))), (wi (p0.2 + (wi (p2 * (v_rootUp p1)))))), zz0))))))))
set_option maxHeartbeats 4000000 in
theorem w_counts_BandOf_eq (p0 : (Int × Int)) (p1 : Int) (p2 : Int) (K : ((Int × Int) × Int) → Prop) : tfn F_counts_BandOf A_counts_BandOf C_counts_BandOf P_counts_BandOf R_counts_BandOf (p0, p1, p2) K = w_counts_BandOf p0 p1 p2 K := by kernel_rfl
def s_counts_BandOf (p0 : (Int × Int)) (p1 : Int) (p2 : Int) : ((Int × Int) × Int) :=
  (cond ((s_counts_first ((s_counts_valueErr p0) :: ((s_counts_unless (cond (s_counts_within p1 (0 : Int) (1000000000000 : Int)) (s_counts_within p2 (0 : Int) (5 : Int)) false) (2 : Int)) :: ([] : List Int)))) != (0 : Int)) (((0 : Int), (0 : Int)), (s_counts_first ((s_counts_valueErr p0) :: ((s_counts_unless (cond (s_counts_within p1 (0 : Int) (1000000000000 : Int)) (s_counts_within p2 (0 : Int) (5 : Int)) false) (2 : Int)) :: ([] : List Int)))))
    (((IntKind.i64.wrap (p0.1 - (IntKind.i64.wrap (p2 * (v_rootUp p1))))), (IntKind.i64.wrap (p0.2 + (IntKind.i64.wrap (p2 * (v_rootUp p1)))))), (0 : Int)))
abbrev pre_counts_BandOf (p0 : (Int × Int)) (p1 : Int) (p2 : Int) : List Prop := [((((s_counts_first ((s_counts_valueErr p0) :: ((s_counts_unless (cond (s_counts_within p1 (0 : Int) (1000000000000 : Int)) (s_counts_within p2 (0 : Int) (5 : Int)) false) (2 : Int)) :: ([] : List Int)))) != (0 : Int)) = false) → (((0 : Int) ≤ p1) ∧ (p1 ≤ (4398046511104 : Int))))]
set_option maxHeartbeats 4000000 in
theorem d_counts_BandOf (p0 : (Int × Int)) (p1 : Int) (p2 : Int) (K : ((Int × Int) × Int) → Prop) (hp : ∀ p ∈ pre_counts_BandOf p0 p1 p2, p) (h : K (s_counts_BandOf p0 p1 p2)) : w_counts_BandOf p0 p1 p2 K := by
  unfold w_counts_BandOf
  unfold s_counts_BandOf at h
  obtain ⟨hp0, _⟩ := conj_of hp
  exact ⟨rf, rfl, (lenOk_of 2 rfl (by decide)), (br' h (fun e0 h => h)
    (fun e0 h => ⟨(hp0 e0), h⟩))⟩
/-- The error of a band. -/
def v_bandErr (x : Int × Int) (q t : Int) : Int := s_counts_first (s_counts_valueErr x :: s_counts_unless (cond (s_counts_within q 0 1000000000000) (s_counts_within t 0 5) false) 2 :: [])
structure v_value (x : Int × Int) : Prop where
  lo : -1000000000 ≤ x.1 ∧ x.1 ≤ 1000000000
  hi : -1000000000 ≤ x.2 ∧ x.2 ≤ 1000000000
  le : x.1 ≤ x.2
structure v_bandok (x : Int × Int) (q t : Int) : Prop where
  val : v_value x
  sq : 0 ≤ q ∧ q ≤ 1000000000000
  ti : 0 ≤ t ∧ t ≤ 5
theorem tx_first0 {x : Int} {l : List Int} (h : s_counts_first (x :: l) = 0) : x = 0 ∧ s_counts_first l = 0 := by
  unfold s_counts_first at h
  by_cases hx : x = 0
  · rw [if_pos hx] at h; exact ⟨hx, h⟩
  · rw [if_neg hx] at h; exact (hx h).elim
theorem tx_unless0 {a : Bool} {x : Int} (hx : x ≠ 0) (h : s_counts_unless a x = 0) : a = true := by
  cases a
  · exact (hx h).elim
  · rfl
theorem tx_value {x : Int × Int} (h : s_counts_valueErr x = 0) : v_value x := by
  unfold s_counts_valueErr at h
  obtain ⟨h1, h⟩ := tx_first0 h
  obtain ⟨h2, h⟩ := tx_first0 h
  obtain ⟨h3, h4⟩ := tx_and (tx_unless0 (by decide) h1)
  have h5 := of_decide_eq_true (tx_unless0 (by decide) h2)
  have h3' : s_counts_within x.1 (-1000000000) 1000000000 = true := h3
  have h4' : s_counts_within x.2 (-1000000000) 1000000000 = true := h4
  rw [tx_within] at h3' h4'
  exact ⟨h3', h4', h5⟩
theorem tx_band {x : Int × Int} {q t : Int} (h : v_bandErr x q t = 0) : v_bandok x q t := by
  obtain ⟨h1, h⟩ := tx_first0 h
  obtain ⟨h2, h⟩ := tx_first0 h
  obtain ⟨h3, h4⟩ := tx_and (tx_unless0 (by decide) h2)
  rw [tx_within] at h3 h4
  exact ⟨tx_value h1, h3, h4⟩
theorem tx_rootUp {q : Int} (h : 0 ≤ q ∧ q ≤ 1000000000000) : 0 ≤ v_rootUp q ∧ v_rootUp q ≤ 1000000 := by
  obtain ⟨h1, h2, h3⟩ := v_rootUp_spec h.1
  refine ⟨h1, ?_⟩
  rcases h3 with h3 | h3
  · omega
  · rcases Int.lt_or_le 1000000 (v_rootUp q) with h4 | h4
    · have := sq_le (x := 1000000) (y := v_rootUp q - 1) (by decide) (by omega)
      omega
    · exact h4
/-- The band. -/
def v_band (x : Int × Int) (q t : Int) : Int × Int := (x.1 - t * v_rootUp q, x.2 + t * v_rootUp q)
theorem tx_bandw {x : Int × Int} {q t : Int} (h : v_bandok x q t) : ((IntKind.i64.wrap (x.1 - IntKind.i64.wrap (t * v_rootUp q)), IntKind.i64.wrap (x.2 + IntKind.i64.wrap (t * v_rootUp q))) : Int × Int) = v_band x q t := by
  have g := tx_rootUp h.sq
  have g2 := mul_in h.ti.1 h.ti.2 g.1 g.2
  have h1 := h.val.lo
  have h2 := h.val.hi
  unfold v_band
  rw [wrap_id (n := t * v_rootUp q) (by omega) (by omega), wrap_id (by omega) (by omega), wrap_id (by omega) (by omega)]
abbrev t_counts_BandOf (p0 : Int × Int) (p1 p2 : Int) : (Int × Int) × Int := cond (v_bandErr p0 p1 p2 != 0) ((0, 0), v_bandErr p0 p1 p2) (v_band p0 p1 p2, 0)
abbrev qre_counts_BandOf (_ : Int × Int) (_ _ : Int) : List Prop := []
theorem pp_counts_BandOf (p0 : Int × Int) (p1 p2 : Int) (_ : ∀ p ∈ qre_counts_BandOf p0 p1 p2, p) : ∀ p ∈ pre_counts_BandOf p0 p1 p2, p := by
  intro p hp
  simp only [pre_counts_BandOf, List.mem_cons, List.not_mem_nil, or_false] at hp
  subst hp
  intro h
  have h' : v_bandErr p0 p1 p2 = 0 := bne0 h
  have := (tx_band h').sq
  omega
theorem tt_counts_BandOf (p0 : Int × Int) (p1 p2 : Int) (_ : ∀ p ∈ qre_counts_BandOf p0 p1 p2, p) : s_counts_BandOf p0 p1 p2 = t_counts_BandOf p0 p1 p2 := by
  unfold s_counts_BandOf t_counts_BandOf
  rw [show s_counts_first (s_counts_valueErr p0 :: s_counts_unless (cond (s_counts_within p1 0 1000000000000) (s_counts_within p2 0 5) false) 2 :: []) = v_bandErr p0 p1 p2 from rfl]
  rcases hb : (v_bandErr p0 p1 p2 != 0) with _ | _
  · have h' : v_bandErr p0 p1 p2 = 0 := bne0 hb
    show ((_, _), (0 : Int)) = _
    rw [tx_bandw (tx_band h')]; rfl
  · rfl

abbrev con_counts_BandOf : Con := ⟨P_counts_BandOf, R_counts_BandOf, fun x => qre_counts_BandOf x.1 x.2.1 x.2.2, fun x => t_counts_BandOf x.1 x.2.1 x.2.2⟩
theorem ok_counts_BandOf : ConOk Try.prog 21 con_counts_BandOf := ⟨k_counts_BandOf, fun x hx => ret_tf (ps := P_counts_BandOf) (rs := R_counts_BandOf) (x := x) (y := t_counts_BandOf x.1 x.2.1 x.2.2) e_counts_BandOf hC_counts_BandOf (tf_of (w_counts_BandOf_eq x.1 x.2.1 x.2.2 (fun z => z = t_counts_BandOf x.1 x.2.1 x.2.2)) (d_counts_BandOf x.1 x.2.1 x.2.2 (fun z => z = t_counts_BandOf x.1 x.2.1 x.2.2) (pp_counts_BandOf x.1 x.2.1 x.2.2 hx) (tt_counts_BandOf x.1 x.2.1 x.2.2 hx)))⟩
/- counts_rules_factor -/
def C_counts_rules_factor : Cons := []
theorem hC_counts_rules_factor : ConsOk Try.prog C_counts_rules_factor := ConsOk.nil
def w_counts_rules_factor (p0 : CR) (p1 : Int) (K : (Int × Int) → Prop) : Prop :=
 (∃ n0, (loopP (fun (y1 : Int) k2 =>
    (((0 : Int) ≤ y1) ∧
    ((y1 < (((List.length p0.2.2.2.2.2.2.2.2) : Nat) : Int)) ∧
    ((((decide ((List.getD p0.2.2.2.2.2.2.2.2 (Int.toNat y1) ((0 : Int), (0 : Int))).1 < p1)) = true) →
    (k2 (IntKind.i64.wrap (y1 + (1 : Int))))) ∧
    (((decide ((List.getD p0.2.2.2.2.2.2.2.2 (Int.toNat y1) ((0 : Int), (0 : Int))).1 < p1)) = false) →
    (((0 : Int) ≤ (IntKind.i64.wrap (y1 - (1 : Int)))) ∧
      (((IntKind.i64.wrap (y1 - (1 : Int))) < (((List.length p0.2.2.2.2.2.2.2.2) : Nat) : Int)) ∧
      (((0 : Int) ≤ y1) ∧
      ((y1 < (((List.length p0.2.2.2.2.2.2.2.2) : Nat) : Int)) ∧
      (K ((IntKind.i64.wrap ((IntKind.i64.wrap ((List.getD p0.2.2.2.2.2.2.2.2 (Int.toNat (IntKind.i64.wrap (y1 - (1 : Int)))) ((0 : Int), (0 : Int))).2 * (IntKind.i64.wrap ((List.getD p0.2.2.2.2.2.2.2.2 (Int.toNat y1) ((0 : Int), (0 : Int))).1 - (List.getD p0.2.2.2.2.2.2.2.2 (Int.toNat (IntKind.i64.wrap (y1 - (1 : Int)))) ((0 : Int), (0 : Int))).1)))) + (IntKind.i64.wrap ((IntKind.i64.wrap ((List.getD p0.2.2.2.2.2.2.2.2 (Int.toNat y1) ((0 : Int), (0 : Int))).2 - (List.getD p0.2.2.2.2.2.2.2.2 (Int.toNat (IntKind.i64.wrap (y1 - (1 : Int)))) ((0 : Int), (0 : Int))).2)) * (IntKind.i64.wrap (p1 - (List.getD p0.2.2.2.2.2.2.2.2 (Int.toNat (IntKind.i64.wrap (y1 - (1 : Int)))) ((0 : Int), (0 : Int))).1)))))), (IntKind.i64.wrap ((1000 : Int) * (IntKind.i64.wrap ((List.getD p0.2.2.2.2.2.2.2.2 (Int.toNat y1) ((0 : Int), (0 : Int))).1 - (List.getD p0.2.2.2.2.2.2.2.2 (Int.toNat (IntKind.i64.wrap (y1 - (1 : Int)))) ((0 : Int), (0 : Int))).1))))))))))))))) n0 (1 : Int)))
set_option maxHeartbeats 4000000 in
theorem w_counts_rules_factor_eq (p0 : CR) (p1 : Int) (K : (Int × Int) → Prop) : tfn F_counts_rules_factor A_counts_rules_factor C_counts_rules_factor P_counts_rules_factor R_counts_rules_factor (p0, p1) K = w_counts_rules_factor p0 p1 K := by kernel_rfl
def b_counts_rules_factor_0 (p0 : CR) (p1 : Int) (K : (Int × Int) → Prop) (y : Int) (k : Int → Prop) : Prop :=
 (((0 : Int) ≤ y) ∧
  ((y < (((List.length p0.2.2.2.2.2.2.2.2) : Nat) : Int)) ∧
  (((decide ((List.getD p0.2.2.2.2.2.2.2.2 (Int.toNat y) ((0 : Int), (0 : Int))).1 < p1)) = true →
    (k (IntKind.i64.wrap (y + (1 : Int))))) ∧
  ((decide ((List.getD p0.2.2.2.2.2.2.2.2 (Int.toNat y) ((0 : Int), (0 : Int))).1 < p1)) = false →
    (((0 : Int) ≤ (IntKind.i64.wrap (y - (1 : Int)))) ∧
    (((IntKind.i64.wrap (y - (1 : Int))) < (((List.length p0.2.2.2.2.2.2.2.2) : Nat) : Int)) ∧
    (((0 : Int) ≤ y) ∧
    ((y < (((List.length p0.2.2.2.2.2.2.2.2) : Nat) : Int)) ∧
    (K ((IntKind.i64.wrap ((IntKind.i64.wrap ((List.getD p0.2.2.2.2.2.2.2.2 (Int.toNat (IntKind.i64.wrap (y - (1 : Int)))) ((0 : Int), (0 : Int))).2 * (IntKind.i64.wrap ((List.getD p0.2.2.2.2.2.2.2.2 (Int.toNat y) ((0 : Int), (0 : Int))).1 - (List.getD p0.2.2.2.2.2.2.2.2 (Int.toNat (IntKind.i64.wrap (y - (1 : Int)))) ((0 : Int), (0 : Int))).1)))) + (IntKind.i64.wrap ((IntKind.i64.wrap ((List.getD p0.2.2.2.2.2.2.2.2 (Int.toNat y) ((0 : Int), (0 : Int))).2 - (List.getD p0.2.2.2.2.2.2.2.2 (Int.toNat (IntKind.i64.wrap (y - (1 : Int)))) ((0 : Int), (0 : Int))).2)) * (IntKind.i64.wrap (p1 - (List.getD p0.2.2.2.2.2.2.2.2 (Int.toNat (IntKind.i64.wrap (y - (1 : Int)))) ((0 : Int), (0 : Int))).1)))))), (IntKind.i64.wrap ((1000 : Int) * (IntKind.i64.wrap ((List.getD p0.2.2.2.2.2.2.2.2 (Int.toNat y) ((0 : Int), (0 : Int))).1 - (List.getD p0.2.2.2.2.2.2.2.2 (Int.toNat (IntKind.i64.wrap (y - (1 : Int)))) ((0 : Int), (0 : Int))).1))))))))))))))
/-- The factor at a height between the knots ahead and behind. -/
def sp_fac (h : Int) (a : Int × Int) : List (Int × Int) → Int × Int
  | [] => (0, 0)
  | b :: r => if b.1 < h then sp_fac h b r else (a.2 * (b.1 - a.1) + (b.2 - a.2) * (h - a.1), 1000 * (b.1 - a.1))
def v_factor (p0 : CR) (h : Int) : Int × Int := sp_fac h (p0.hs.getD 0 (0, 0)) (p0.hs.drop 1)
theorem tx_high {p0 : CR} {h : Int} (hv : v_rules p0) (hh : s_counts_rules_has p0 h = true) : (p0.hs.getD 0 (0, 0)).1 ≤ h ∧ h ≤ (p0.hs.getD (p0.hs.length - 1) (0, 0)).1 := by
  have h1 := hv.len.1
  have h2 := hv.len.2
  have e : s_counts_rules_has p0 h = s_counts_within h (p0.hs.getD 0 (0, 0)).1 (p0.hs.getD (IntKind.i64.wrap ((p0.hs.length : Int) - 1)).toNat (0, 0)).1 := rfl
  rw [e, wrap_id (by omega) (by omega), show ((p0.hs.length : Int) - 1).toNat = p0.hs.length - 1 by omega, tx_within] at hh
  exact hh
theorem tx_mem {l : List (Int × Int)} {j : Nat} (h : j < l.length) : l.getD j (0, 0) ∈ l := by
  rw [List.getD, List.getElem?_eq_getElem h]
  exact List.getElem_mem h
theorem tx_up {p0 : CR} (hv : v_rules p0) {i j : Nat} (h1 : i < j) (h2 : j < p0.hs.length) : (p0.hs.getD i (0, 0)).1 < (p0.hs.getD j (0, 0)).1 := by
  have := List.pairwise_iff_getElem.1 hv.up i j (by omega) h2 h1
  rw [List.getD, List.getElem?_eq_getElem (by omega), List.getD, List.getElem?_eq_getElem h2]
  exact this
/-- What the numbers of a factor are: within bounds, of two knots around the height. -/
theorem tx_fac {p0 : CR} {h : Int} (hv : v_rules p0) (hh : s_counts_rules_has p0 h = true) (P : Int × Int → Prop)
    (hP : ∀ j : Nat, j + 1 < p0.hs.length → (p0.hs.getD j (0, 0)).1 ≤ h → h ≤ (p0.hs.getD (j + 1) (0, 0)).1 → P ((p0.hs.getD j (0, 0)).2 * ((p0.hs.getD (j + 1) (0, 0)).1 - (p0.hs.getD j (0, 0)).1) + ((p0.hs.getD (j + 1) (0, 0)).2 - (p0.hs.getD j (0, 0)).2) * (h - (p0.hs.getD j (0, 0)).1), 1000 * ((p0.hs.getD (j + 1) (0, 0)).1 - (p0.hs.getD j (0, 0)).1))) : P (v_factor p0 h) := by
  have hl := hv.len.1
  obtain ⟨hh1, hh2⟩ := tx_high hv hh
  have key : ∀ (m j : Nat), m + j + 1 = p0.hs.length → 0 < m → (p0.hs.getD j (0, 0)).1 ≤ h → P (sp_fac h (p0.hs.getD j (0, 0)) (p0.hs.drop (j + 1))) := by
    intro m
    induction m with
    | zero => intro j _ h0; omega
    | succ m ih =>
      intro j hm _ hj
      rw [drop_getD (0, 0) (show j + 1 < p0.hs.length by omega)]
      unfold sp_fac
      by_cases hb : (p0.hs.getD (j + 1) (0, 0)).1 < h
      · rw [if_pos hb]
        by_cases hm0 : m = 0
        · rw [show p0.hs.length - 1 = j + 1 by omega] at hh2
          omega
        · exact ih (j + 1) (by omega) (by omega) (by omega)
      · rw [if_neg hb]
        exact hP j (by omega) hj (by omega)
  exact key (p0.hs.length - 1) 0 (by omega) (by omega) hh1
def lp_counts_rules_factor_0 (p0 : CR) (p1 : Int) (_ : Int) : Int × Int := v_factor p0 p1
abbrev lpre_counts_rules_factor_0 (p0 : CR) (p1 : Int) (x : Int) : Prop := v_rules p0 ∧ s_counts_rules_has p0 p1 = true ∧ x = 1
theorem lk_counts_rules_factor_0 (p0 : CR) (p1 : Int) (x : Int) (K : Int × Int → Prop) (hp : lpre_counts_rules_factor_0 p0 p1 x) (h : K (lp_counts_rules_factor_0 p0 p1 x)) : ∃ n, loopP (b_counts_rules_factor_0 p0 p1 K) n x := by
  obtain ⟨hv, hh, rfl⟩ := hp
  have hl := hv.len.1
  have hl2 := hv.len.2
  obtain ⟨hh1, hh2⟩ := tx_high hv hh
  refine ⟨p0.hs.length, loop_ind (fun n s => ∃ j : Nat, s = ((j + 1 : Nat) : Int) ∧ j + 1 < p0.hs.length ∧ n + j = p0.hs.length ∧ K (sp_fac p1 (p0.hs.getD j (0, 0)) (p0.hs.drop (j + 1)))) (fun s hs => by obtain ⟨j, hs⟩ := hs; omega) ?_ _ _ ⟨0, rfl, by omega, by omega, h⟩⟩
  rintro n s k ⟨j, rfl, h1, h2, h3⟩ hk
  rw [drop_getD (0, 0) (show j + 1 < p0.hs.length by omega)] at h3
  unfold sp_fac at h3
  have ka := hv.knot _ (tx_mem (show j < p0.hs.length by omega))
  have kb := hv.knot _ (tx_mem h1)
  have ku := tx_up hv (show j < j + 1 by omega) h1
  have e1 : IntKind.i64.wrap (((j + 1 : Nat) : Int) - 1) = (j : Int) := by rw [wrap_id (by omega) (by omega)]; omega
  unfold b_counts_rules_factor_0
  refine ⟨by omega, by show ((j + 1 : Nat) : Int) < (p0.hs.length : Int); omega, fun hb => ?_, fun hb => ?_⟩
  · have hb' : (p0.hs.getD (j + 1) (0, 0)).1 < p1 := of_decide_eq_true hb
    rw [if_pos hb'] at h3
    rw [wrap_nat (by omega)]
    refine hk _ ⟨j + 1, rfl, ?_, by omega, h3⟩
    by_cases hj : j + 1 + 1 < p0.hs.length
    · exact hj
    · rw [show p0.hs.length - 1 = j + 1 by omega] at hh2
      omega
  · have hb' : ¬ (p0.hs.getD (j + 1) (0, 0)).1 < p1 := of_decide_eq_false hb
    rw [if_neg hb'] at h3
    rw [e1]
    refine ⟨by omega, by show (j : Int) < (p0.hs.length : Int); omega, by omega, by show ((j + 1 : Nat) : Int) < (p0.hs.length : Int); omega, ?_⟩
    show K (IntKind.i64.wrap (IntKind.i64.wrap ((p0.hs.getD j (0, 0)).2 * IntKind.i64.wrap ((p0.hs.getD (j + 1) (0, 0)).1 - (p0.hs.getD j (0, 0)).1)) + IntKind.i64.wrap (IntKind.i64.wrap ((p0.hs.getD (j + 1) (0, 0)).2 - (p0.hs.getD j (0, 0)).2) * IntKind.i64.wrap (p1 - (p0.hs.getD j (0, 0)).1))), IntKind.i64.wrap (1000 * IntKind.i64.wrap ((p0.hs.getD (j + 1) (0, 0)).1 - (p0.hs.getD j (0, 0)).1)))
    generalize p0.hs.getD j (0, 0) = a at *
    generalize p0.hs.getD (j + 1) (0, 0) = b at *
    simp only [w_mul_l, w_mul_r, w_add_l, w_add_r]
    have hlast : (p0.hs.getD (p0.hs.length - 1) (0, 0)).1 ≤ 1000 := (hv.knot _ (tx_mem (by omega))).1.2
    have g1 := mul_in (x := a.2) (y := b.1 - a.1) (a := 10000) (b := 1000) (by omega) (by omega) (by omega) (by omega)
    have hfirst : 0 ≤ (p0.hs.getD 0 (0, 0)).1 := (hv.knot _ (tx_mem (by omega))).1.1
    have g2 := mul_abs (x := b.2 - a.2) (y := p1 - a.1) (a := 10000) (b := 1000) (by omega) (by omega) (by omega) (by omega)
    rw [wrap_id (by omega) (by omega), wrap_id (by omega) (by omega)]
    exact h3

def s_counts_rules_factor (p0 : CR) (p1 : Int) : (Int × Int) :=
  (lp_counts_rules_factor_0 p0 p1 (1 : Int))
abbrev pre_counts_rules_factor (p0 : CR) (p1 : Int) : List Prop := [(lpre_counts_rules_factor_0 p0 p1 (1 : Int))]
set_option maxHeartbeats 4000000 in
theorem d_counts_rules_factor (p0 : CR) (p1 : Int) (K : (Int × Int) → Prop) (hp : ∀ p ∈ pre_counts_rules_factor p0 p1, p) (h : K (s_counts_rules_factor p0 p1)) : w_counts_rules_factor p0 p1 K := by
  unfold w_counts_rules_factor
  unfold s_counts_rules_factor at h
  obtain ⟨hp0, _⟩ := conj_of hp
  exact (Exists.imp (fun n hn => loop_mono (fun y k k' hk hy => ⟨hy.1, hy.2.1, fun e0 => (hk _ (hy.2.2.1 e0)), fun e0 => ⟨(hy.2.2.2 e0).1, (hy.2.2.2 e0).2.1, (hy.2.2.2 e0).2.2.1, (hy.2.2.2 e0).2.2.2.1, (hy.2.2.2 e0).2.2.2.2⟩⟩) n _ hn) (lk_counts_rules_factor_0 p0 p1 (1 : Int) K (hp0) h))
abbrev t_counts_rules_factor (p0 : CR) (p1 : Int) : Int × Int := v_factor p0 p1
abbrev qre_counts_rules_factor (p0 : CR) (p1 : Int) : List Prop := [v_rules p0, s_counts_rules_has p0 p1 = true]
theorem pp_counts_rules_factor (p0 : CR) (p1 : Int) (hq : ∀ p ∈ qre_counts_rules_factor p0 p1, p) : ∀ p ∈ pre_counts_rules_factor p0 p1, p := by
  have hv := conj_of hq
  intro p hp
  simp only [pre_counts_rules_factor, List.mem_cons, List.not_mem_nil, or_false] at hp
  subst hp
  exact ⟨hv.1, hv.2.1, rfl⟩
theorem tt_counts_rules_factor (p0 : CR) (p1 : Int) (_ : ∀ p ∈ qre_counts_rules_factor p0 p1, p) : s_counts_rules_factor p0 p1 = t_counts_rules_factor p0 p1 := rfl

abbrev con_counts_rules_factor : Con := ⟨P_counts_rules_factor, R_counts_rules_factor, fun x => qre_counts_rules_factor x.1 x.2, fun x => t_counts_rules_factor x.1 x.2⟩
theorem ok_counts_rules_factor : ConOk Try.prog 84 con_counts_rules_factor := ⟨k_counts_rules_factor, fun x hx => ret_tf (ps := P_counts_rules_factor) (rs := R_counts_rules_factor) (x := x) (y := t_counts_rules_factor x.1 x.2) e_counts_rules_factor hC_counts_rules_factor (tf_of (w_counts_rules_factor_eq x.1 x.2 (fun z => z = t_counts_rules_factor x.1 x.2)) (d_counts_rules_factor x.1 x.2 (fun z => z = t_counts_rules_factor x.1 x.2) (pp_counts_rules_factor x.1 x.2 hx) (tt_counts_rules_factor x.1 x.2 hx)))⟩
/- counts_divisor -/
def C_counts_divisor : Cons := []
theorem hC_counts_divisor : ConsOk Try.prog C_counts_divisor := ConsOk.nil
def w_counts_divisor (p0 : Int) (p1 : Int) (K : Int → Prop) : Prop :=
 (∃ n0, (loopP (fun (y1 : (Int × Int)) k2 =>
    ((((y1.1 != (0 : Int)) = true) →
    ((y1.1 ≠ (0 : Int)) ∧
      (k2 ((Int.tmod y1.2 y1.1), y1.1)))) ∧
    (((y1.1 != (0 : Int)) = false) →
    (K (max y1.2 (IntKind.i64.wrap ((0 : Int) - y1.2))))))) n0 (p1, p0)))
set_option maxHeartbeats 4000000 in
theorem w_counts_divisor_eq (p0 : Int) (p1 : Int) (K : Int → Prop) : tfn F_counts_divisor A_counts_divisor C_counts_divisor P_counts_divisor R_counts_divisor (p0, p1) K = w_counts_divisor p0 p1 K := by kernel_rfl
def b_counts_divisor_0 (p0 : Int) (p1 : Int) (K : Int → Prop) (y : (Int × Int)) (k : (Int × Int) → Prop) : Prop :=
 (((y.1 != (0 : Int)) = true →
    ((y.1 ≠ (0 : Int)) ∧
    (k ((Int.tmod y.2 y.1), y.1)))) ∧
  ((y.1 != (0 : Int)) = false →
    (K (max y.2 (IntKind.i64.wrap ((0 : Int) - y.2))))))
/-- The greatest common divisor. -/
def v_gcd (a b : Int) : Int := ((Int.gcd a b : Nat) : Int)
theorem v_gcd_step (a b : Int) : v_gcd b (a.tmod b) = v_gcd a b := by
  unfold v_gcd Int.gcd
  rw [Int.natAbs_tmod, Nat.gcd_comm, ← Nat.gcd_rec, Nat.gcd_comm]
def lp_counts_divisor_0 (_ _ : Int) (x : Int × Int) : Int := v_gcd x.2 x.1
abbrev lpre_counts_divisor_0 (_ _ : Int) (x : Int × Int) : Prop := (-9223372036854775807 ≤ x.1 ∧ x.1 ≤ 9223372036854775807) ∧ -9223372036854775807 ≤ x.2 ∧ x.2 ≤ 9223372036854775807
theorem tx_tmod {a b : Int} (hb : b ≠ 0) : (a.tmod b).natAbs < b.natAbs := by
  rw [Int.natAbs_tmod]
  exact Nat.mod_lt _ (by omega)
theorem tx_gcd0 {a : Int} (h : -9223372036854775807 ≤ a ∧ a ≤ 9223372036854775807) : max a (IntKind.i64.wrap (0 - a)) = v_gcd a 0 := by
  rw [wrap_id (by omega) (by omega)]
  unfold v_gcd
  rw [Int.gcd_zero_right]
  omega
theorem lk_counts_divisor_0 (p0 p1 : Int) (x : Int × Int) (K : Int → Prop) (hp : lpre_counts_divisor_0 p0 p1 x) (h : K (lp_counts_divisor_0 p0 p1 x)) : ∃ n, loopP (b_counts_divisor_0 p0 p1 K) n x := by
  refine ⟨x.1.natAbs + 1, loop_ind (fun n s => lpre_counts_divisor_0 p0 p1 s ∧ v_gcd s.2 s.1 = v_gcd x.2 x.1 ∧ s.1.natAbs < n) (fun s hs => by omega) ?_ _ _ ⟨hp, rfl, by omega⟩⟩
  rintro n ⟨b, a⟩ k ⟨⟨h1, h2⟩, h3, h4⟩ hk
  simp only at h1 h2 h3 h4
  refine ⟨fun hb => ?_, fun hb => ?_⟩
  · have hb : b ≠ 0 := by simpa using hb
    have := tx_tmod (a := a) hb
    exact ⟨hb, hk _ ⟨⟨by simp only; omega, h1⟩, by rw [← h3, v_gcd_step], by simp only; omega⟩⟩
  · have hb : b = 0 := by simpa using hb
    subst hb
    have h' : K (v_gcd x.2 x.1) := h
    rw [← h3, ← tx_gcd0 h2] at h'
    exact h'

def s_counts_divisor (p0 : Int) (p1 : Int) : Int :=
  (lp_counts_divisor_0 p0 p1 (p1, p0))
abbrev pre_counts_divisor (p0 : Int) (p1 : Int) : List Prop := [(lpre_counts_divisor_0 p0 p1 (p1, p0))]
set_option maxHeartbeats 4000000 in
theorem d_counts_divisor (p0 : Int) (p1 : Int) (K : Int → Prop) (hp : ∀ p ∈ pre_counts_divisor p0 p1, p) (h : K (s_counts_divisor p0 p1)) : w_counts_divisor p0 p1 K := by
  unfold w_counts_divisor
  unfold s_counts_divisor at h
  obtain ⟨hp0, _⟩ := conj_of hp
  exact (Exists.imp (fun n hn => loop_mono (fun y k k' hk hy => ⟨fun e0 => ⟨(hy.1 e0).1, (hk _ (hy.1 e0).2)⟩, fun e0 => (hy.2 e0)⟩) n _ hn) (lk_counts_divisor_0 p0 p1 (p1, p0) K (hp0) h))
abbrev t_counts_divisor (p0 p1 : Int) : Int := v_gcd p0 p1
abbrev qre_counts_divisor (p0 p1 : Int) : List Prop := [(-9223372036854775807 ≤ p1 ∧ p1 ≤ 9223372036854775807) ∧ -9223372036854775807 ≤ p0 ∧ p0 ≤ 9223372036854775807]
theorem pp_counts_divisor (p0 p1 : Int) (hq : ∀ p ∈ qre_counts_divisor p0 p1, p) : ∀ p ∈ pre_counts_divisor p0 p1, p := hq
theorem tt_counts_divisor (p0 p1 : Int) (_ : ∀ p ∈ qre_counts_divisor p0 p1, p) : s_counts_divisor p0 p1 = t_counts_divisor p0 p1 := rfl

abbrev con_counts_divisor : Con := ⟨P_counts_divisor, R_counts_divisor, fun x => qre_counts_divisor x.1 x.2, fun x => t_counts_divisor x.1 x.2⟩
theorem ok_counts_divisor : ConOk Try.prog 85 con_counts_divisor := ⟨k_counts_divisor, fun x hx => ret_tf (ps := P_counts_divisor) (rs := R_counts_divisor) (x := x) (y := t_counts_divisor x.1 x.2) e_counts_divisor hC_counts_divisor (tf_of (w_counts_divisor_eq x.1 x.2 (fun z => z = t_counts_divisor x.1 x.2)) (d_counts_divisor x.1 x.2 (fun z => z = t_counts_divisor x.1 x.2) (pp_counts_divisor x.1 x.2 hx) (tt_counts_divisor x.1 x.2 hx)))⟩
/- counts_FactorAt -/
def C_counts_FactorAt : Cons := [(82, [], con_counts_open), (83, [], con_counts_rules_has), (78, [], con_counts_unless), (84, [], con_counts_rules_factor), (85, [], con_counts_divisor)]
theorem hC_counts_FactorAt : ConsOk Try.prog C_counts_FactorAt := ConsOk.cons ok_counts_open <| ConsOk.cons ok_counts_rules_has <| ConsOk.cons ok_counts_unless <| ConsOk.cons ok_counts_rules_factor <| ConsOk.cons ok_counts_divisor <| ConsOk.nil
def w_counts_FactorAt (p0 : CR) (p1 : Int) (K : ((Int × Int) × Int) → Prop) : Prop :=
 (((((s_counts_CheckRules p0).2 == (0 : Int)) = true) →
  ((v_rules p0) ∧
    (((((s_counts_unless (s_counts_rules_has p0 p1) (2 : Int)) != (0 : Int)) = true) →
    (K (((0 : Int), (0 : Int)), (s_counts_unless (s_counts_rules_has p0 p1) (2 : Int))))) ∧
    ((((s_counts_unless (s_counts_rules_has p0 p1) (2 : Int)) != (0 : Int)) = false) →
    ((v_rules p0) ∧
      (((s_counts_rules_has p0 p1) = true) ∧
      (((((-9223372036854775807 : Int) ≤ (v_factor p0 p1).2) ∧
      ((v_factor p0 p1).2 ≤ (9223372036854775807 : Int))) ∧
      (((-9223372036854775807 : Int) ≤ (v_factor p0 p1).1) ∧
      ((v_factor p0 p1).1 ≤ (9223372036854775807 : Int)))) ∧
      (((v_gcd (v_factor p0 p1).1 (v_factor p0 p1).2) ≠ (0 : Int)) ∧
      (((v_gcd (v_factor p0 p1).1 (v_factor p0 p1).2) ≠ (0 : Int)) ∧
      (K (((IntKind.i64.wrap (Int.tdiv (v_factor p0 p1).1 (v_gcd (v_factor p0 p1).1 (v_factor p0 p1).2))), (IntKind.i64.wrap (Int.tdiv (v_factor p0 p1).2 (v_gcd (v_factor p0 p1).1 (v_factor p0 p1).2)))), (0 : Int)))))))))))) ∧
  ((((s_counts_CheckRules p0).2 == (0 : Int)) = false) →
  (((((s_counts_CheckRules p0).2 != (0 : Int)) = true) →
    (K (((0 : Int), (0 : Int)), (s_counts_CheckRules p0).2))) ∧
    ((((s_counts_CheckRules p0).2 != (0 : Int)) = false) →
    ((v_rules p0) ∧
      (((s_counts_rules_has p0 p1) = true) ∧
      (((((-9223372036854775807 : Int) ≤ (v_factor p0 p1).2) ∧
      ((v_factor p0 p1).2 ≤ (9223372036854775807 : Int))) ∧
      (((-9223372036854775807 : Int) ≤ (v_factor p0 p1).1) ∧
      ((v_factor p0 p1).1 ≤ (9223372036854775807 : Int)))) ∧
      (((v_gcd (v_factor p0 p1).1 (v_factor p0 p1).2) ≠ (0 : Int)) ∧
      (((v_gcd (v_factor p0 p1).1 (v_factor p0 p1).2) ≠ (0 : Int)) ∧
      (K (((IntKind.i64.wrap (Int.tdiv (v_factor p0 p1).1 (v_gcd (v_factor p0 p1).1 (v_factor p0 p1).2))), (IntKind.i64.wrap (Int.tdiv (v_factor p0 p1).2 (v_gcd (v_factor p0 p1).1 (v_factor p0 p1).2)))), (0 : Int))))))))))))
set_option maxHeartbeats 4000000 in
theorem w_counts_FactorAt_eq (p0 : CR) (p1 : Int) (K : ((Int × Int) × Int) → Prop) : tfn F_counts_FactorAt A_counts_FactorAt C_counts_FactorAt P_counts_FactorAt R_counts_FactorAt (p0, p1) K = w_counts_FactorAt p0 p1 K := by kernel_rfl
def s_counts_FactorAt (p0 : CR) (p1 : Int) : ((Int × Int) × Int) :=
  (cond ((s_counts_CheckRules p0).2 == (0 : Int)) (cond ((s_counts_unless (s_counts_rules_has p0 p1) (2 : Int)) != (0 : Int)) (((0 : Int), (0 : Int)), (s_counts_unless (s_counts_rules_has p0 p1) (2 : Int)))
    (((IntKind.i64.wrap (Int.tdiv (v_factor p0 p1).1 (v_gcd (v_factor p0 p1).1 (v_factor p0 p1).2))), (IntKind.i64.wrap (Int.tdiv (v_factor p0 p1).2 (v_gcd (v_factor p0 p1).1 (v_factor p0 p1).2)))), (0 : Int)))
    (cond ((s_counts_CheckRules p0).2 != (0 : Int)) (((0 : Int), (0 : Int)), (s_counts_CheckRules p0).2)
    (((IntKind.i64.wrap (Int.tdiv (v_factor p0 p1).1 (v_gcd (v_factor p0 p1).1 (v_factor p0 p1).2))), (IntKind.i64.wrap (Int.tdiv (v_factor p0 p1).2 (v_gcd (v_factor p0 p1).1 (v_factor p0 p1).2)))), (0 : Int))))
abbrev pre_counts_FactorAt (p0 : CR) (p1 : Int) : List Prop := [((((s_counts_CheckRules p0).2 == (0 : Int)) = true) → (v_rules p0)),
    ((((s_counts_CheckRules p0).2 == (0 : Int)) = true) → ((((s_counts_unless (s_counts_rules_has p0 p1) (2 : Int)) != (0 : Int)) = false) → (v_rules p0))),
    ((((s_counts_CheckRules p0).2 == (0 : Int)) = true) → ((((s_counts_unless (s_counts_rules_has p0 p1) (2 : Int)) != (0 : Int)) = false) → ((s_counts_rules_has p0 p1) = true))),
    ((((s_counts_CheckRules p0).2 == (0 : Int)) = true) → ((((s_counts_unless (s_counts_rules_has p0 p1) (2 : Int)) != (0 : Int)) = false) → ((((-9223372036854775807 : Int) ≤ (v_factor p0 p1).2) ∧ ((v_factor p0 p1).2 ≤ (9223372036854775807 : Int))) ∧ (((-9223372036854775807 : Int) ≤ (v_factor p0 p1).1) ∧ ((v_factor p0 p1).1 ≤ (9223372036854775807 : Int)))))),
    ((((s_counts_CheckRules p0).2 == (0 : Int)) = true) → ((((s_counts_unless (s_counts_rules_has p0 p1) (2 : Int)) != (0 : Int)) = false) → ((v_gcd (v_factor p0 p1).1 (v_factor p0 p1).2) ≠ (0 : Int)))),
    ((((s_counts_CheckRules p0).2 == (0 : Int)) = false) → ((((s_counts_CheckRules p0).2 != (0 : Int)) = false) → (v_rules p0))),
    ((((s_counts_CheckRules p0).2 == (0 : Int)) = false) → ((((s_counts_CheckRules p0).2 != (0 : Int)) = false) → ((s_counts_rules_has p0 p1) = true))),
    ((((s_counts_CheckRules p0).2 == (0 : Int)) = false) → ((((s_counts_CheckRules p0).2 != (0 : Int)) = false) → ((((-9223372036854775807 : Int) ≤ (v_factor p0 p1).2) ∧ ((v_factor p0 p1).2 ≤ (9223372036854775807 : Int))) ∧ (((-9223372036854775807 : Int) ≤ (v_factor p0 p1).1) ∧ ((v_factor p0 p1).1 ≤ (9223372036854775807 : Int)))))),
    ((((s_counts_CheckRules p0).2 == (0 : Int)) = false) → ((((s_counts_CheckRules p0).2 != (0 : Int)) = false) → ((v_gcd (v_factor p0 p1).1 (v_factor p0 p1).2) ≠ (0 : Int))))]
set_option maxHeartbeats 4000000 in
theorem d_counts_FactorAt (p0 : CR) (p1 : Int) (K : ((Int × Int) × Int) → Prop) (hp : ∀ p ∈ pre_counts_FactorAt p0 p1, p) (h : K (s_counts_FactorAt p0 p1)) : w_counts_FactorAt p0 p1 K := by
  unfold w_counts_FactorAt
  unfold s_counts_FactorAt at h
  obtain ⟨hp0, hp1, hp2, hp3, hp4, hp5, hp6, hp7, hp8, _⟩ := conj_of hp
  exact (br' h (fun e0 h => ⟨(hp0 e0), (br' h (fun e1 h => h)
    (fun e1 h => ⟨(hp1 e0 e1), (hp2 e0 e1), (hp3 e0 e1), (hp4 e0 e1), (hp4 e0 e1), h⟩))⟩)
    (fun e0 h => (br' h (fun e2 h => h)
    (fun e2 h => ⟨(hp5 e0 e2), (hp6 e0 e2), (hp7 e0 e2), (hp8 e0 e2), (hp8 e0 e2), h⟩))))
theorem tx_scale {x y m : Int} (h1 : 1 ≤ x) (h2 : x ≤ m) (h : 0 ≤ y) : y ≤ x * y ∧ x * y ≤ m * y := by
  have g1 := Int.mul_le_mul_of_nonneg_right h1 h
  have g2 := Int.mul_le_mul_of_nonneg_right h2 h
  omega
theorem tx_fac_in {p0 : CR} {h : Int} (hv : v_rules p0) (hh : s_counts_rules_has p0 h = true) : (1 ≤ (v_factor p0 h).1 ∧ (v_factor p0 h).1 ≤ 10000000) ∧ 1000 ≤ (v_factor p0 h).2 ∧ (v_factor p0 h).2 ≤ 1000000 := by
  refine tx_fac hv hh (fun y => (1 ≤ y.1 ∧ y.1 ≤ 10000000) ∧ 1000 ≤ y.2 ∧ y.2 ≤ 1000000) (fun j hj h1 h2 => ?_)
  have ka := hv.knot _ (tx_mem (show j < p0.hs.length by omega))
  have kb := hv.knot _ (tx_mem hj)
  have ku := tx_up hv (show j < j + 1 by omega) hj
  generalize p0.hs.getD j (0, 0) = a at *
  generalize p0.hs.getD (j + 1) (0, 0) = b at *
  have e : a.2 * (b.1 - a.1) + (b.2 - a.2) * (h - a.1) = a.2 * (b.1 - h) + b.2 * (h - a.1) := by grind
  have g1 := tx_scale ka.2.1 ka.2.2 (show 0 ≤ b.1 - h by omega)
  have g2 := tx_scale kb.2.1 kb.2.2 (show 0 ≤ h - a.1 by omega)
  simp only [e]
  omega
/-- The factor in lowest terms. -/
def v_fact (p0 : CR) (h : Int) : Int × Int := ((v_factor p0 h).1.tdiv (v_gcd (v_factor p0 h).1 (v_factor p0 h).2), (v_factor p0 h).2.tdiv (v_gcd (v_factor p0 h).1 (v_factor p0 h).2))
theorem tx_factw {p0 : CR} {h : Int} (hv : v_rules p0) (hh : s_counts_rules_has p0 h = true) : ((IntKind.i64.wrap ((v_factor p0 h).1.tdiv (v_gcd (v_factor p0 h).1 (v_factor p0 h).2)), IntKind.i64.wrap ((v_factor p0 h).2.tdiv (v_gcd (v_factor p0 h).1 (v_factor p0 h).2))) : Int × Int) = v_fact p0 h := by
  have g := tx_fac_in hv hh
  rw [w_tdiv (by omega), w_tdiv (by omega)]; rfl
theorem tx_facg {p0 : CR} {h : Int} (hv : v_rules p0) (hh : s_counts_rules_has p0 h = true) : v_gcd (v_factor p0 h).1 (v_factor p0 h).2 ≠ 0 := by
  have g := tx_fac_in hv hh
  have : 0 < Int.gcd (v_factor p0 h).1 (v_factor p0 h).2 := v_gcd_pos_in (by omega)
  unfold v_gcd
  omega
abbrev t_counts_FactorAt (p0 : CR) (p1 : Int) : (Int × Int) × Int := cond ((s_counts_CheckRules p0).2 != 0) ((0, 0), (s_counts_CheckRules p0).2) (cond (s_counts_rules_has p0 p1) (v_fact p0 p1, 0) ((0, 0), 2))
abbrev qre_counts_FactorAt (_ : CR) (_ : Int) : List Prop := []
theorem tx_has {b : Bool} (h : (s_counts_unless b 2 != 0) = false) : b = true := tx_unless0 (by decide) (bne0 h)
theorem tx_contra {x : Int} {p : Prop} (h : (x == 0) = false) (h2 : (x != 0) = false) : p := by
  have := bne0 h2
  subst this
  cases h
theorem pp_counts_FactorAt (p0 : CR) (p1 : Int) (_ : ∀ p ∈ qre_counts_FactorAt p0 p1, p) : ∀ p ∈ pre_counts_FactorAt p0 p1, p := by
  intro p hp
  simp only [pre_counts_FactorAt, List.mem_cons, List.not_mem_nil, or_false] at hp
  rcases hp with rfl | rfl | rfl | rfl | rfl | rfl | rfl | rfl | rfl
  · exact fun h => tx_valid (beq0 h)
  · exact fun h _ => tx_valid (beq0 h)
  · exact fun _ h => tx_has h
  · intro h1 h2
    have := tx_fac_in (tx_valid (beq0 h1)) (tx_has h2)
    omega
  · exact fun h1 h2 => tx_facg (tx_valid (beq0 h1)) (tx_has h2)
  all_goals exact fun h1 h2 => tx_contra h1 h2
theorem tt_counts_FactorAt (p0 : CR) (p1 : Int) (_ : ∀ p ∈ qre_counts_FactorAt p0 p1, p) : s_counts_FactorAt p0 p1 = t_counts_FactorAt p0 p1 := by
  unfold s_counts_FactorAt t_counts_FactorAt
  rcases hb : ((s_counts_CheckRules p0).2 != 0) with _ | _
  · have hv := tx_valid (bne0 hb)
    rw [bne0 hb]
    rcases hh : s_counts_rules_has p0 p1 with _ | _
    · rfl
    · show ((_, _), (0 : Int)) = _
      rw [tx_factw hv hh]; rfl
  · rw [show ((s_counts_CheckRules p0).2 == 0) = false by simpa using hb]; rfl

abbrev con_counts_FactorAt : Con := ⟨P_counts_FactorAt, R_counts_FactorAt, fun x => qre_counts_FactorAt x.1 x.2, fun x => t_counts_FactorAt x.1 x.2⟩
theorem ok_counts_FactorAt : ConOk Try.prog 22 con_counts_FactorAt := ⟨k_counts_FactorAt, fun x hx => ret_tf (ps := P_counts_FactorAt) (rs := R_counts_FactorAt) (x := x) (y := t_counts_FactorAt x.1 x.2) e_counts_FactorAt hC_counts_FactorAt (tf_of (w_counts_FactorAt_eq x.1 x.2 (fun z => z = t_counts_FactorAt x.1 x.2)) (d_counts_FactorAt x.1 x.2 (fun z => z = t_counts_FactorAt x.1 x.2) (pp_counts_FactorAt x.1 x.2 hx) (tt_counts_FactorAt x.1 x.2 hx)))⟩
/- counts_minor -/
def C_counts_minor : Cons := []
theorem hC_counts_minor : ConsOk Try.prog C_counts_minor := ConsOk.nil
def w_counts_minor (p0 : M3) (p1 : Int) (p2 : Int) (K : Int → Prop) : Prop :=
 (((0 : Int) ≤ (Int.tmod (IntKind.i64.wrap (p1 + (1 : Int))) (3 : Int))) ∧
  (((Int.tmod (IntKind.i64.wrap (p1 + (1 : Int))) (3 : Int)) < (3 : Int)) ∧
  (((0 : Int) ≤ (Int.tmod (IntKind.i64.wrap (p2 + (1 : Int))) (3 : Int))) ∧
  (((Int.tmod (IntKind.i64.wrap (p2 + (1 : Int))) (3 : Int)) < (3 : Int)) ∧
  (((0 : Int) ≤ (Int.tmod (IntKind.i64.wrap (p1 + (2 : Int))) (3 : Int))) ∧
  (((Int.tmod (IntKind.i64.wrap (p1 + (2 : Int))) (3 : Int)) < (3 : Int)) ∧
  (((0 : Int) ≤ (Int.tmod (IntKind.i64.wrap (p2 + (2 : Int))) (3 : Int))) ∧
  (((Int.tmod (IntKind.i64.wrap (p2 + (2 : Int))) (3 : Int)) < (3 : Int)) ∧
  (((0 : Int) ≤ (Int.tmod (IntKind.i64.wrap (p1 + (1 : Int))) (3 : Int))) ∧
  (((Int.tmod (IntKind.i64.wrap (p1 + (1 : Int))) (3 : Int)) < (3 : Int)) ∧
  (((0 : Int) ≤ (Int.tmod (IntKind.i64.wrap (p2 + (2 : Int))) (3 : Int))) ∧
  (((Int.tmod (IntKind.i64.wrap (p2 + (2 : Int))) (3 : Int)) < (3 : Int)) ∧
  (((0 : Int) ≤ (Int.tmod (IntKind.i64.wrap (p1 + (2 : Int))) (3 : Int))) ∧
  (((Int.tmod (IntKind.i64.wrap (p1 + (2 : Int))) (3 : Int)) < (3 : Int)) ∧
  (((0 : Int) ≤ (Int.tmod (IntKind.i64.wrap (p2 + (1 : Int))) (3 : Int))) ∧
  (((Int.tmod (IntKind.i64.wrap (p2 + (1 : Int))) (3 : Int)) < (3 : Int)) ∧
  (K (IntKind.i64.wrap ((IntKind.i64.wrap ((List.getD ((List.getD (p0.1.1 :: (p0.2.1.1 :: (p0.2.2.1 :: ([] : List Int)))) (Int.toNat (Int.tmod (IntKind.i64.wrap (p1 + (1 : Int))) (3 : Int))) (0 : Int)) :: ((List.getD (p0.1.2.1 :: (p0.2.1.2.1 :: (p0.2.2.2.1 :: ([] : List Int)))) (Int.toNat (Int.tmod (IntKind.i64.wrap (p1 + (1 : Int))) (3 : Int))) (0 : Int)) :: ((List.getD (p0.1.2.2 :: (p0.2.1.2.2 :: (p0.2.2.2.2 :: ([] : List Int)))) (Int.toNat (Int.tmod (IntKind.i64.wrap (p1 + (1 : Int))) (3 : Int))) (0 : Int)) :: ([] : List Int)))) (Int.toNat (Int.tmod (IntKind.i64.wrap (p2 + (1 : Int))) (3 : Int))) (0 : Int)) * (List.getD ((List.getD (p0.1.1 :: (p0.2.1.1 :: (p0.2.2.1 :: ([] : List Int)))) (Int.toNat (Int.tmod (IntKind.i64.wrap (p1 + (2 : Int))) (3 : Int))) (0 : Int)) :: ((List.getD (p0.1.2.1 :: (p0.2.1.2.1 :: (p0.2.2.2.1 :: ([] : List Int)))) (Int.toNat (Int.tmod (IntKind.i64.wrap (p1 + (2 : Int))) (3 : Int))) (0 : Int)) :: ((List.getD (p0.1.2.2 :: (p0.2.1.2.2 :: (p0.2.2.2.2 :: ([] : List Int)))) (Int.toNat (Int.tmod (IntKind.i64.wrap (p1 + (2 : Int))) (3 : Int))) (0 : Int)) :: ([] : List Int)))) (Int.toNat (Int.tmod (IntKind.i64.wrap (p2 + (2 : Int))) (3 : Int))) (0 : Int)))) - (IntKind.i64.wrap ((List.getD ((List.getD (p0.1.1 :: (p0.2.1.1 :: (p0.2.2.1 :: ([] : List Int)))) (Int.toNat (Int.tmod (IntKind.i64.wrap (p1 + (1 : Int))) (3 : Int))) (0 : Int)) :: ((List.getD (p0.1.2.1 :: (p0.2.1.2.1 :: (p0.2.2.2.1 :: ([] : List Int)))) (Int.toNat (Int.tmod (IntKind.i64.wrap (p1 + (1 : Int))) (3 : Int))) (0 : Int)) :: ((List.getD (p0.1.2.2 :: (p0.2.1.2.2 :: (p0.2.2.2.2 :: ([] : List Int)))) (Int.toNat (Int.tmod (IntKind.i64.wrap (p1 + (1 : Int))) (3 : Int))) (0 : Int)) :: ([] : List Int)))) (Int.toNat (Int.tmod (IntKind.i64.wrap (p2 + (2 : Int))) (3 : Int))) (0 : Int)) * (List.getD ((List.getD (p0.1.1 :: (p0.2.1.1 :: (p0.2.2.1 :: ([] : List Int)))) (Int.toNat (Int.tmod (IntKind.i64.wrap (p1 + (2 : Int))) (3 : Int))) (0 : Int)) :: ((List.getD (p0.1.2.1 :: (p0.2.1.2.1 :: (p0.2.2.2.1 :: ([] : List Int)))) (Int.toNat (Int.tmod (IntKind.i64.wrap (p1 + (2 : Int))) (3 : Int))) (0 : Int)) :: ((List.getD (p0.1.2.2 :: (p0.2.1.2.2 :: (p0.2.2.2.2 :: ([] : List Int)))) (Int.toNat (Int.tmod (IntKind.i64.wrap (p1 + (2 : Int))) (3 : Int))) (0 : Int)) :: ([] : List Int)))) (Int.toNat (Int.tmod (IntKind.i64.wrap (p2 + (1 : Int))) (3 : Int))) (0 : Int)))))))))))))))))))))))
set_option maxHeartbeats 4000000 in
theorem w_counts_minor_eq (p0 : M3) (p1 : Int) (p2 : Int) (K : Int → Prop) : tfn F_counts_minor A_counts_minor C_counts_minor P_counts_minor R_counts_minor (p0, p1, p2) K = w_counts_minor p0 p1 p2 K := by kernel_rfl
def s_counts_minor (p0 : M3) (p1 : Int) (p2 : Int) : Int :=
  (IntKind.i64.wrap ((IntKind.i64.wrap ((List.getD ((List.getD (p0.1.1 :: (p0.2.1.1 :: (p0.2.2.1 :: ([] : List Int)))) (Int.toNat (Int.tmod (IntKind.i64.wrap (p1 + (1 : Int))) (3 : Int))) (0 : Int)) :: ((List.getD (p0.1.2.1 :: (p0.2.1.2.1 :: (p0.2.2.2.1 :: ([] : List Int)))) (Int.toNat (Int.tmod (IntKind.i64.wrap (p1 + (1 : Int))) (3 : Int))) (0 : Int)) :: ((List.getD (p0.1.2.2 :: (p0.2.1.2.2 :: (p0.2.2.2.2 :: ([] : List Int)))) (Int.toNat (Int.tmod (IntKind.i64.wrap (p1 + (1 : Int))) (3 : Int))) (0 : Int)) :: ([] : List Int)))) (Int.toNat (Int.tmod (IntKind.i64.wrap (p2 + (1 : Int))) (3 : Int))) (0 : Int)) * (List.getD ((List.getD (p0.1.1 :: (p0.2.1.1 :: (p0.2.2.1 :: ([] : List Int)))) (Int.toNat (Int.tmod (IntKind.i64.wrap (p1 + (2 : Int))) (3 : Int))) (0 : Int)) :: ((List.getD (p0.1.2.1 :: (p0.2.1.2.1 :: (p0.2.2.2.1 :: ([] : List Int)))) (Int.toNat (Int.tmod (IntKind.i64.wrap (p1 + (2 : Int))) (3 : Int))) (0 : Int)) :: ((List.getD (p0.1.2.2 :: (p0.2.1.2.2 :: (p0.2.2.2.2 :: ([] : List Int)))) (Int.toNat (Int.tmod (IntKind.i64.wrap (p1 + (2 : Int))) (3 : Int))) (0 : Int)) :: ([] : List Int)))) (Int.toNat (Int.tmod (IntKind.i64.wrap (p2 + (2 : Int))) (3 : Int))) (0 : Int)))) - (IntKind.i64.wrap ((List.getD ((List.getD (p0.1.1 :: (p0.2.1.1 :: (p0.2.2.1 :: ([] : List Int)))) (Int.toNat (Int.tmod (IntKind.i64.wrap (p1 + (1 : Int))) (3 : Int))) (0 : Int)) :: ((List.getD (p0.1.2.1 :: (p0.2.1.2.1 :: (p0.2.2.2.1 :: ([] : List Int)))) (Int.toNat (Int.tmod (IntKind.i64.wrap (p1 + (1 : Int))) (3 : Int))) (0 : Int)) :: ((List.getD (p0.1.2.2 :: (p0.2.1.2.2 :: (p0.2.2.2.2 :: ([] : List Int)))) (Int.toNat (Int.tmod (IntKind.i64.wrap (p1 + (1 : Int))) (3 : Int))) (0 : Int)) :: ([] : List Int)))) (Int.toNat (Int.tmod (IntKind.i64.wrap (p2 + (2 : Int))) (3 : Int))) (0 : Int)) * (List.getD ((List.getD (p0.1.1 :: (p0.2.1.1 :: (p0.2.2.1 :: ([] : List Int)))) (Int.toNat (Int.tmod (IntKind.i64.wrap (p1 + (2 : Int))) (3 : Int))) (0 : Int)) :: ((List.getD (p0.1.2.1 :: (p0.2.1.2.1 :: (p0.2.2.2.1 :: ([] : List Int)))) (Int.toNat (Int.tmod (IntKind.i64.wrap (p1 + (2 : Int))) (3 : Int))) (0 : Int)) :: ((List.getD (p0.1.2.2 :: (p0.2.1.2.2 :: (p0.2.2.2.2 :: ([] : List Int)))) (Int.toNat (Int.tmod (IntKind.i64.wrap (p1 + (2 : Int))) (3 : Int))) (0 : Int)) :: ([] : List Int)))) (Int.toNat (Int.tmod (IntKind.i64.wrap (p2 + (1 : Int))) (3 : Int))) (0 : Int))))))
abbrev pre_counts_minor (p0 : M3) (p1 : Int) (p2 : Int) : List Prop := [((0 : Int) ≤ (Int.tmod (IntKind.i64.wrap (p1 + (1 : Int))) (3 : Int))),
    ((Int.tmod (IntKind.i64.wrap (p1 + (1 : Int))) (3 : Int)) < (3 : Int)),
    ((0 : Int) ≤ (Int.tmod (IntKind.i64.wrap (p2 + (1 : Int))) (3 : Int))),
    ((Int.tmod (IntKind.i64.wrap (p2 + (1 : Int))) (3 : Int)) < (3 : Int)),
    ((0 : Int) ≤ (Int.tmod (IntKind.i64.wrap (p1 + (2 : Int))) (3 : Int))),
    ((Int.tmod (IntKind.i64.wrap (p1 + (2 : Int))) (3 : Int)) < (3 : Int)),
    ((0 : Int) ≤ (Int.tmod (IntKind.i64.wrap (p2 + (2 : Int))) (3 : Int))),
    ((Int.tmod (IntKind.i64.wrap (p2 + (2 : Int))) (3 : Int)) < (3 : Int))]
set_option maxHeartbeats 4000000 in
theorem d_counts_minor (p0 : M3) (p1 : Int) (p2 : Int) (K : Int → Prop) (hp : ∀ p ∈ pre_counts_minor p0 p1 p2, p) (h : K (s_counts_minor p0 p1 p2)) : w_counts_minor p0 p1 p2 K := by
  unfold w_counts_minor
  unfold s_counts_minor at h
  obtain ⟨hp0, hp1, hp2, hp3, hp4, hp5, hp6, hp7, _⟩ := conj_of hp
  exact ⟨(hp0), (hp1), (hp2), (hp3), (hp4), (hp5), (hp6), (hp7), (hp0), (hp1), (hp6), (hp7), (hp4), (hp5), (hp2), (hp3), h⟩
abbrev con_counts_minor : Con := ⟨P_counts_minor, R_counts_minor, fun x => pre_counts_minor x.1 x.2.1 x.2.2, fun x => s_counts_minor x.1 x.2.1 x.2.2⟩
theorem ok_counts_minor : ConOk Try.prog 122 con_counts_minor := ⟨k_counts_minor, fun x hx => ret_tf (ps := P_counts_minor) (rs := R_counts_minor) (x := x) (y := s_counts_minor x.1 x.2.1 x.2.2) e_counts_minor hC_counts_minor (tf_of (w_counts_minor_eq x.1 x.2.1 x.2.2 (fun z => z = s_counts_minor x.1 x.2.1 x.2.2)) (d_counts_minor x.1 x.2.1 x.2.2 (fun z => z = s_counts_minor x.1 x.2.1 x.2.2) hx rfl))⟩
/- counts_reduced -/
def C_counts_reduced : Cons := [(85, [], con_counts_divisor)]
theorem hC_counts_reduced : ConsOk Try.prog C_counts_reduced := ConsOk.cons ok_counts_divisor <| ConsOk.nil
abbrev q0_counts_reduced (p0 : CI) (y1 : (Int × Int)) (y4 : (Int × Int)) := (List.getD ((List.getD (p0.1.1.1 :: (p0.1.2.1.1 :: (p0.1.2.2.1 :: ([] : List Int)))) (Int.toNat y1.2) zz0) :: ((List.getD (p0.1.1.2.1 :: (p0.1.2.1.2.1 :: (p0.1.2.2.2.1 :: ([] : List Int)))) (Int.toNat y1.2) zz0) :: ((List.getD (p0.1.1.2.2 :: (p0.1.2.1.2.2 :: (p0.1.2.2.2.2 :: ([] : List Int)))) (Int.toNat y1.2) zz0) :: ([] : List Int)))) (Int.toNat y4.1) zz0)
def w_counts_reduced (p0 : CI) (K : (Int × CI) → Prop) : Prop :=
 (∃ n0, (loopP (fun (y1 : (Int × Int)) k2 =>
    ((((decide (y1.2 < zz3)) = true) →
    ((zz0 ≤ y1.2) ∧
      ((y1.2 < zz3) ∧
      (∃ n3, (loopP (fun (y4 : (Int × Int)) k5 =>
        ((((decide (y4.1 < zz3)) = true) →
        ((zz0 ≤ y4.1) ∧
          ((y4.1 < zz3) ∧
          (((((-9223372036854775807 : Int) ≤ (q0_counts_reduced p0 y1 y4)) ∧
          ((q0_counts_reduced p0 y1 y4) ≤ (9223372036854775807 : Int))) ∧
          (((-9223372036854775807 : Int) ≤ y4.2) ∧
          (y4.2 ≤ (9223372036854775807 : Int)))) ∧
          (k5 ((wi (y4.1 + zz1)), (v_gcd y4.2 (q0_counts_reduced p0 y1 y4)))))))) ∧
        (((decide (y4.1 < zz3)) = false) →
        (k2 (y4.2, (wi (y1.2 + zz1))))))) n3 (zz0, y1.1)))))) ∧
    (((decide (y1.2 < zz3)) = false) →
    ((y1.1 ≠ zz0) ∧
      (∃ n6, (loopP (fun (y7 : (Int × (Int × (Int × (Int × (Int × (Int × (Int × (Int × (Int × (Int × Int))))))))))) k8 =>
        ((((decide (y7.1 < zz3)) = true) →
        (∃ n9, (loopP (fun (y10 : (Int × (Int × (Int × (Int × (Int × (Int × (Int × (Int × (Int × (Int × Int))))))))))) k11 =>
            ((((decide (y10.1 < zz3)) = true) →
            ((zz0 ≤ y7.1) ∧
              ((y7.1 < zz3) ∧
              ((zz0 ≤ y10.1) ∧
              ((y10.1 < zz3) ∧
              ((y1.1 ≠ zz0) ∧
              ((zz0 ≤ y7.1) ∧
              ((y7.1 < zz3) ∧
              ((zz0 ≤ y10.1) ∧
              ((y10.1 < zz3) ∧
              (k11 ((wi (y10.1 + zz1)), ((cond ((decide (y10.1 = zz0)) && (decide (y7.1 = zz0))) (wi (Int.tdiv (List.getD ((List.getD (y10.2.1 :: (y10.2.2.2.2.1 :: (y10.2.2.2.2.2.2.2.1 :: ([] : List Int)))) (Int.toNat y7.1) zz0) :: ((List.getD (y10.2.2.1 :: (y10.2.2.2.2.2.1 :: (y10.2.2.2.2.2.2.2.2.1 :: ([] : List Int)))) (Int.toNat y7.1) zz0) :: ((List.getD (y10.2.2.2.1 :: (y10.2.2.2.2.2.2.1 :: (y10.2.2.2.2.2.2.2.2.2.1 :: ([] : List Int)))) (Int.toNat y7.1) zz0) :: ([] : List Int)))) (Int.toNat y10.1) zz0) y1.1)) y10.2.1), ((cond ((decide (y10.1 = zz1)) && (decide (y7.1 = zz0))) (wi (Int.tdiv (List.getD ((List.getD (y10.2.1 :: (y10.2.2.2.2.1 :: (y10.2.2.2.2.2.2.2.1 :: ([] : List Int)))) (Int.toNat y7.1) zz0) :: ((List.getD (y10.2.2.1 :: (y10.2.2.2.2.2.1 :: (y10.2.2.2.2.2.2.2.2.1 :: ([] : List Int)))) (Int.toNat y7.1) zz0) :: ((List.getD (y10.2.2.2.1 :: (y10.2.2.2.2.2.2.1 :: (y10.2.2.2.2.2.2.2.2.2.1 :: ([] : List Int)))) (Int.toNat y7.1) zz0) :: ([] : List Int)))) (Int.toNat y10.1) zz0) y1.1)) y10.2.2.1), ((cond ((decide (y10.1 = zz2)) && (decide (y7.1 = zz0))) (wi (Int.tdiv (List.getD ((List.getD (y10.2.1 :: (y10.2.2.2.2.1 :: (y10.2.2.2.2.2.2.2.1 :: ([] : List Int)))) (Int.toNat y7.1) zz0) :: ((List.getD (y10.2.2.1 :: (y10.2.2.2.2.2.1 :: (y10.2.2.2.2.2.2.2.2.1 :: ([] : List Int)))) (Int.toNat y7.1) zz0) :: ((List.getD (y10.2.2.2.1 :: (y10.2.2.2.2.2.2.1 :: (y10.2.2.2.2.2.2.2.2.2.1 :: ([] : List Int)))) (Int.toNat y7.1) zz0) :: ([] : List Int)))) (Int.toNat y10.1) zz0) y1.1)) y10.2.2.2.1), ((cond ((decide (y10.1 = zz0)) && (decide (y7.1 = zz1))) (wi (Int.tdiv (List.getD ((List.getD (y10.2.1 :: (y10.2.2.2.2.1 :: (y10.2.2.2.2.2.2.2.1 :: ([] : List Int)))) (Int.toNat y7.1) zz0) :: ((List.getD (y10.2.2.1 :: (y10.2.2.2.2.2.1 :: (y10.2.2.2.2.2.2.2.2.1 :: ([] : List Int)))) (Int.toNat y7.1) zz0) :: ((List.getD (y10.2.2.2.1 :: (y10.2.2.2.2.2.2.1 :: (y10.2.2.2.2.2.2.2.2.2.1 :: ([] : List Int)))) (Int.toNat y7.1) zz0) :: ([] : List Int)))) (Int.toNat y10.1) zz0) y1.1)) y10.2.2.2.2.1), ((cond ((decide (y10.1 = zz1)) && (decide (y7.1 = zz1))) (wi (Int.tdiv (List.getD ((List.getD (y10.2.1 :: (y10.2.2.2.2.1 :: (y10.2.2.2.2.2.2.2.1 :: ([] : List Int)))) (Int.toNat y7.1) zz0) :: ((List.getD (y10.2.2.1 :: (y10.2.2.2.2.2.1 :: (y10.2.2.2.2.2.2.2.2.1 :: ([] : List Int)))) (Int.toNat y7.1) zz0) :: ((List.getD (y10.2.2.2.1 :: (y10.2.2.2.2.2.2.1 :: (y10.2.2.2.2.2.2.2.2.2.1 :: ([] : List Int)))) (Int.toNat y7.1) zz0) :: ([] : List Int)))) (Int.toNat y10.1) zz0) y1.1)) y10.2.2.2.2.2.1), ((cond ((decide (y10.1 = zz2)) && (decide (y7.1 = zz1))) (wi (Int.tdiv (List.getD ((List.getD (y10.2.1 :: (y10.2.2.2.2.1 :: (y10.2.2.2.2.2.2.2.1 :: ([] : List Int)))) (Int.toNat y7.1) zz0) :: ((List.getD (y10.2.2.1 :: (y10.2.2.2.2.2.1 :: (y10.2.2.2.2.2.2.2.2.1 :: ([] : List Int)))) (Int.toNat y7.1) zz0) :: ((List.getD (y10.2.2.2.1 :: (y10.2.2.2.2.2.2.1 :: (y10.2.2.2.2.2.2.2.2.2.1 :: ([] : List Int)))) (Int.toNat y7.1) zz0) :: ([] : List Int)))) (Int.toNat y10.1) zz0) y1.1)) y10.2.2.2.2.2.2.1), ((cond ((decide (y10.1 = zz0)) && (decide (y7.1 = zz2))) (wi (Int.tdiv (List.getD ((List.getD (y10.2.1 :: (y10.2.2.2.2.1 :: (y10.2.2.2.2.2.2.2.1 :: ([] : List Int)))) (Int.toNat y7.1) zz0) :: ((List.getD (y10.2.2.1 :: (y10.2.2.2.2.2.1 :: (y10.2.2.2.2.2.2.2.2.1 :: ([] : List Int)))) (Int.toNat y7.1) zz0) :: ((List.getD (y10.2.2.2.1 :: (y10.2.2.2.2.2.2.1 :: (y10.2.2.2.2.2.2.2.2.2.1 :: ([] : List Int)))) (Int.toNat y7.1) zz0) :: ([] : List Int)))) (Int.toNat y10.1) zz0) y1.1)) y10.2.2.2.2.2.2.2.1), ((cond ((decide (y10.1 = zz1)) && (decide (y7.1 = zz2))) (wi (Int.tdiv (List.getD ((List.getD (y10.2.1 :: (y10.2.2.2.2.1 :: (y10.2.2.2.2.2.2.2.1 :: ([] : List Int)))) (Int.toNat y7.1) zz0) :: ((List.getD (y10.2.2.1 :: (y10.2.2.2.2.2.1 :: (y10.2.2.2.2.2.2.2.2.1 :: ([] : List Int)))) (Int.toNat y7.1) zz0) :: ((List.getD (y10.2.2.2.1 :: (y10.2.2.2.2.2.2.1 :: (y10.2.2.2.2.2.2.2.2.2.1 :: ([] : List Int)))) (Int.toNat y7.1) zz0) :: ([] : List Int)))) (Int.toNat y10.1) zz0) y1.1)) y10.2.2.2.2.2.2.2.2.1), ((cond ((decide (y10.1 = zz2)) && (decide (y7.1 = zz2))) (wi (Int.tdiv (List.getD ((List.getD (y10.2.1 :: (y10.2.2.2.2.1 :: (y10.2.2.2.2.2.2.2.1 :: ([] : List Int)))) (Int.toNat y7.1) zz0) :: ((List.getD (y10.2.2.1 :: (y10.2.2.2.2.2.1 :: (y10.2.2.2.2.2.2.2.2.1 :: ([] : List Int)))) (Int.toNat y7.1) zz0) :: ((List.getD (y10.2.2.2.1 :: (y10.2.2.2.2.2.2.1 :: (y10.2.2.2.2.2.2.2.2.2.1 :: ([] : List Int)))) (Int.toNat y7.1) zz0) :: ([] : List Int)))) (Int.toNat y10.1) zz0) y1.1)) y10.2.2.2.2.2.2.2.2.2.1), y10.2.2.2.2.2.2.2.2.2.2))))))))))))))))))))) ∧
            (((decide (y10.1 < zz3)) = false) →
            (k8 ((wi (y7.1 + zz1)), y10.2))))) n9 (zz0, y7.2)))) ∧
        (((decide (y7.1 < zz3)) = false) →
        (K (y1.1, (((y7.2.1, (y7.2.2.1, y7.2.2.2.1)), ((y7.2.2.2.2.1, (y7.2.2.2.2.2.1, y7.2.2.2.2.2.2.1)), (y7.2.2.2.2.2.2.2.1, (y7.2.2.2.2.2.2.2.2.1, y7.2.2.2.2.2.2.2.2.2.1)))), y7.2.2.2.2.2.2.2.2.2.2)))))) n6 (zz0, (p0.1.1.1, (p0.1.1.2.1, (p0.1.1.2.2, (p0.1.2.1.1, (p0.1.2.1.2.1, (p0.1.2.1.2.2, (p0.1.2.2.1, (p0.1.2.2.2.1, (p0.1.2.2.2.2, (wi (Int.tdiv p0.2 y1.1)))))))))))))))))) n0 (p0.2, zz0)))
set_option maxHeartbeats 4000000 in
theorem w_counts_reduced_eq (p0 : CI) (K : (Int × CI) → Prop) : tfnM F_counts_reduced A_counts_reduced C_counts_reduced T_counts_reduced V_counts_reduced p0 K = w_counts_reduced p0 K := by kernel_rfl
def s_counts_reduced (p0 : CI) : (Int × CI) :=
  ((v_gcd (v_gcd (v_gcd (v_gcd (v_gcd (v_gcd (v_gcd (v_gcd (v_gcd p0.2 p0.1.1.1) p0.1.1.2.1) p0.1.1.2.2) p0.1.2.1.1) p0.1.2.1.2.1) p0.1.2.1.2.2) p0.1.2.2.1) p0.1.2.2.2.1) p0.1.2.2.2.2), ((((IntKind.i64.wrap (Int.tdiv p0.1.1.1 (v_gcd (v_gcd (v_gcd (v_gcd (v_gcd (v_gcd (v_gcd (v_gcd (v_gcd p0.2 p0.1.1.1) p0.1.1.2.1) p0.1.1.2.2) p0.1.2.1.1) p0.1.2.1.2.1) p0.1.2.1.2.2) p0.1.2.2.1) p0.1.2.2.2.1) p0.1.2.2.2.2))), ((IntKind.i64.wrap (Int.tdiv p0.1.1.2.1 (v_gcd (v_gcd (v_gcd (v_gcd (v_gcd (v_gcd (v_gcd (v_gcd (v_gcd p0.2 p0.1.1.1) p0.1.1.2.1) p0.1.1.2.2) p0.1.2.1.1) p0.1.2.1.2.1) p0.1.2.1.2.2) p0.1.2.2.1) p0.1.2.2.2.1) p0.1.2.2.2.2))), (IntKind.i64.wrap (Int.tdiv p0.1.1.2.2 (v_gcd (v_gcd (v_gcd (v_gcd (v_gcd (v_gcd (v_gcd (v_gcd (v_gcd p0.2 p0.1.1.1) p0.1.1.2.1) p0.1.1.2.2) p0.1.2.1.1) p0.1.2.1.2.1) p0.1.2.1.2.2) p0.1.2.2.1) p0.1.2.2.2.1) p0.1.2.2.2.2))))), (((IntKind.i64.wrap (Int.tdiv p0.1.2.1.1 (v_gcd (v_gcd (v_gcd (v_gcd (v_gcd (v_gcd (v_gcd (v_gcd (v_gcd p0.2 p0.1.1.1) p0.1.1.2.1) p0.1.1.2.2) p0.1.2.1.1) p0.1.2.1.2.1) p0.1.2.1.2.2) p0.1.2.2.1) p0.1.2.2.2.1) p0.1.2.2.2.2))), ((IntKind.i64.wrap (Int.tdiv p0.1.2.1.2.1 (v_gcd (v_gcd (v_gcd (v_gcd (v_gcd (v_gcd (v_gcd (v_gcd (v_gcd p0.2 p0.1.1.1) p0.1.1.2.1) p0.1.1.2.2) p0.1.2.1.1) p0.1.2.1.2.1) p0.1.2.1.2.2) p0.1.2.2.1) p0.1.2.2.2.1) p0.1.2.2.2.2))), (IntKind.i64.wrap (Int.tdiv p0.1.2.1.2.2 (v_gcd (v_gcd (v_gcd (v_gcd (v_gcd (v_gcd (v_gcd (v_gcd (v_gcd p0.2 p0.1.1.1) p0.1.1.2.1) p0.1.1.2.2) p0.1.2.1.1) p0.1.2.1.2.1) p0.1.2.1.2.2) p0.1.2.2.1) p0.1.2.2.2.1) p0.1.2.2.2.2))))), ((IntKind.i64.wrap (Int.tdiv p0.1.2.2.1 (v_gcd (v_gcd (v_gcd (v_gcd (v_gcd (v_gcd (v_gcd (v_gcd (v_gcd p0.2 p0.1.1.1) p0.1.1.2.1) p0.1.1.2.2) p0.1.2.1.1) p0.1.2.1.2.1) p0.1.2.1.2.2) p0.1.2.2.1) p0.1.2.2.2.1) p0.1.2.2.2.2))), ((IntKind.i64.wrap (Int.tdiv p0.1.2.2.2.1 (v_gcd (v_gcd (v_gcd (v_gcd (v_gcd (v_gcd (v_gcd (v_gcd (v_gcd p0.2 p0.1.1.1) p0.1.1.2.1) p0.1.1.2.2) p0.1.2.1.1) p0.1.2.1.2.1) p0.1.2.1.2.2) p0.1.2.2.1) p0.1.2.2.2.1) p0.1.2.2.2.2))), (IntKind.i64.wrap (Int.tdiv p0.1.2.2.2.2 (v_gcd (v_gcd (v_gcd (v_gcd (v_gcd (v_gcd (v_gcd (v_gcd (v_gcd p0.2 p0.1.1.1) p0.1.1.2.1) p0.1.1.2.2) p0.1.2.1.1) p0.1.2.1.2.1) p0.1.2.1.2.2) p0.1.2.2.1) p0.1.2.2.2.1) p0.1.2.2.2.2))))))), (IntKind.i64.wrap (Int.tdiv p0.2 (v_gcd (v_gcd (v_gcd (v_gcd (v_gcd (v_gcd (v_gcd (v_gcd (v_gcd p0.2 p0.1.1.1) p0.1.1.2.1) p0.1.1.2.2) p0.1.2.1.1) p0.1.2.1.2.1) p0.1.2.1.2.2) p0.1.2.2.1) p0.1.2.2.2.1) p0.1.2.2.2.2)))))
abbrev pre_counts_reduced (p0 : CI) : List Prop := [((((-9223372036854775807 : Int) ≤ p0.1.1.1) ∧ (p0.1.1.1 ≤ (9223372036854775807 : Int))) ∧ (((-9223372036854775807 : Int) ≤ p0.2) ∧ (p0.2 ≤ (9223372036854775807 : Int)))),
    ((((-9223372036854775807 : Int) ≤ p0.1.1.2.1) ∧ (p0.1.1.2.1 ≤ (9223372036854775807 : Int))) ∧ (((-9223372036854775807 : Int) ≤ (v_gcd p0.2 p0.1.1.1)) ∧ ((v_gcd p0.2 p0.1.1.1) ≤ (9223372036854775807 : Int)))),
    ((((-9223372036854775807 : Int) ≤ p0.1.1.2.2) ∧ (p0.1.1.2.2 ≤ (9223372036854775807 : Int))) ∧ (((-9223372036854775807 : Int) ≤ (v_gcd (v_gcd p0.2 p0.1.1.1) p0.1.1.2.1)) ∧ ((v_gcd (v_gcd p0.2 p0.1.1.1) p0.1.1.2.1) ≤ (9223372036854775807 : Int)))),
    ((((-9223372036854775807 : Int) ≤ p0.1.2.1.1) ∧ (p0.1.2.1.1 ≤ (9223372036854775807 : Int))) ∧ (((-9223372036854775807 : Int) ≤ (v_gcd (v_gcd (v_gcd p0.2 p0.1.1.1) p0.1.1.2.1) p0.1.1.2.2)) ∧ ((v_gcd (v_gcd (v_gcd p0.2 p0.1.1.1) p0.1.1.2.1) p0.1.1.2.2) ≤ (9223372036854775807 : Int)))),
    ((((-9223372036854775807 : Int) ≤ p0.1.2.1.2.1) ∧ (p0.1.2.1.2.1 ≤ (9223372036854775807 : Int))) ∧ (((-9223372036854775807 : Int) ≤ (v_gcd (v_gcd (v_gcd (v_gcd p0.2 p0.1.1.1) p0.1.1.2.1) p0.1.1.2.2) p0.1.2.1.1)) ∧ ((v_gcd (v_gcd (v_gcd (v_gcd p0.2 p0.1.1.1) p0.1.1.2.1) p0.1.1.2.2) p0.1.2.1.1) ≤ (9223372036854775807 : Int)))),
    ((((-9223372036854775807 : Int) ≤ p0.1.2.1.2.2) ∧ (p0.1.2.1.2.2 ≤ (9223372036854775807 : Int))) ∧ (((-9223372036854775807 : Int) ≤ (v_gcd (v_gcd (v_gcd (v_gcd (v_gcd p0.2 p0.1.1.1) p0.1.1.2.1) p0.1.1.2.2) p0.1.2.1.1) p0.1.2.1.2.1)) ∧ ((v_gcd (v_gcd (v_gcd (v_gcd (v_gcd p0.2 p0.1.1.1) p0.1.1.2.1) p0.1.1.2.2) p0.1.2.1.1) p0.1.2.1.2.1) ≤ (9223372036854775807 : Int)))),
    ((((-9223372036854775807 : Int) ≤ p0.1.2.2.1) ∧ (p0.1.2.2.1 ≤ (9223372036854775807 : Int))) ∧ (((-9223372036854775807 : Int) ≤ (v_gcd (v_gcd (v_gcd (v_gcd (v_gcd (v_gcd p0.2 p0.1.1.1) p0.1.1.2.1) p0.1.1.2.2) p0.1.2.1.1) p0.1.2.1.2.1) p0.1.2.1.2.2)) ∧ ((v_gcd (v_gcd (v_gcd (v_gcd (v_gcd (v_gcd p0.2 p0.1.1.1) p0.1.1.2.1) p0.1.1.2.2) p0.1.2.1.1) p0.1.2.1.2.1) p0.1.2.1.2.2) ≤ (9223372036854775807 : Int)))),
    ((((-9223372036854775807 : Int) ≤ p0.1.2.2.2.1) ∧ (p0.1.2.2.2.1 ≤ (9223372036854775807 : Int))) ∧ (((-9223372036854775807 : Int) ≤ (v_gcd (v_gcd (v_gcd (v_gcd (v_gcd (v_gcd (v_gcd p0.2 p0.1.1.1) p0.1.1.2.1) p0.1.1.2.2) p0.1.2.1.1) p0.1.2.1.2.1) p0.1.2.1.2.2) p0.1.2.2.1)) ∧ ((v_gcd (v_gcd (v_gcd (v_gcd (v_gcd (v_gcd (v_gcd p0.2 p0.1.1.1) p0.1.1.2.1) p0.1.1.2.2) p0.1.2.1.1) p0.1.2.1.2.1) p0.1.2.1.2.2) p0.1.2.2.1) ≤ (9223372036854775807 : Int)))),
    ((((-9223372036854775807 : Int) ≤ p0.1.2.2.2.2) ∧ (p0.1.2.2.2.2 ≤ (9223372036854775807 : Int))) ∧ (((-9223372036854775807 : Int) ≤ (v_gcd (v_gcd (v_gcd (v_gcd (v_gcd (v_gcd (v_gcd (v_gcd p0.2 p0.1.1.1) p0.1.1.2.1) p0.1.1.2.2) p0.1.2.1.1) p0.1.2.1.2.1) p0.1.2.1.2.2) p0.1.2.2.1) p0.1.2.2.2.1)) ∧ ((v_gcd (v_gcd (v_gcd (v_gcd (v_gcd (v_gcd (v_gcd (v_gcd p0.2 p0.1.1.1) p0.1.1.2.1) p0.1.1.2.2) p0.1.2.1.1) p0.1.2.1.2.1) p0.1.2.1.2.2) p0.1.2.2.1) p0.1.2.2.2.1) ≤ (9223372036854775807 : Int)))),
    ((v_gcd (v_gcd (v_gcd (v_gcd (v_gcd (v_gcd (v_gcd (v_gcd (v_gcd p0.2 p0.1.1.1) p0.1.1.2.1) p0.1.1.2.2) p0.1.2.1.1) p0.1.2.1.2.1) p0.1.2.1.2.2) p0.1.2.2.1) p0.1.2.2.2.1) p0.1.2.2.2.2) ≠ (0 : Int))]
set_option maxHeartbeats 4000000 in
theorem d_counts_reduced (p0 : CI) (K : (Int × CI) → Prop) (hp : ∀ p ∈ pre_counts_reduced p0, p) (h : K (s_counts_reduced p0)) : w_counts_reduced p0 K := by
  unfold w_counts_reduced
  unfold s_counts_reduced at h
  obtain ⟨hp0, hp1, hp2, hp3, hp4, hp5, hp6, hp7, hp8, hp9, _⟩ := conj_of hp
  exact ⟨31, fun _ => ⟨(od rfl), (od rfl), 31, fun _ => ⟨(od rfl), (od rfl), (hp0), fun _ => ⟨(od rfl), (od rfl), (hp1), fun _ => ⟨(od rfl), (od rfl), (hp2), nof, fun _ => ⟨fun _ => ⟨(od rfl), (od rfl), 31, fun _ => ⟨(od rfl), (od rfl), (hp3), fun _ => ⟨(od rfl), (od rfl), (hp4), fun _ => ⟨(od rfl), (od rfl), (hp5), nof, fun _ => ⟨fun _ => ⟨(od rfl), (od rfl), 31, fun _ => ⟨(od rfl), (od rfl), (hp6), fun _ => ⟨(od rfl), (od rfl), (hp7), fun _ => ⟨(od rfl), (od rfl), (hp8), nof, fun _ => ⟨nof, fun _ => ⟨(hp9), 31, fun _ => ⟨31, fun _ => ⟨(od rfl), (od rfl), (od rfl), (od rfl), (hp9), (od rfl), (od rfl), (od rfl), (od rfl), fun _ => ⟨(od rfl), (od rfl), (od rfl), (od rfl), (hp9), (od rfl), (od rfl), (od rfl), (od rfl), fun _ => ⟨(od rfl), (od rfl), (od rfl), (od rfl), (hp9), (od rfl), (od rfl), (od rfl), (od rfl), nof, fun _ => ⟨fun _ => ⟨31, fun _ => ⟨(od rfl), (od rfl), (od rfl), (od rfl), (hp9), (od rfl), (od rfl), (od rfl), (od rfl), fun _ => ⟨(od rfl), (od rfl), (od rfl), (od rfl), (hp9), (od rfl), (od rfl), (od rfl), (od rfl), fun _ => ⟨(od rfl), (od rfl), (od rfl), (od rfl), (hp9), (od rfl), (od rfl), (od rfl), (od rfl), nof, fun _ => ⟨fun _ => ⟨31, fun _ => ⟨(od rfl), (od rfl), (od rfl), (od rfl), (hp9), (od rfl), (od rfl), (od rfl), (od rfl), fun _ => ⟨(od rfl), (od rfl), (od rfl), (od rfl), (hp9), (od rfl), (od rfl), (od rfl), (od rfl), fun _ => ⟨(od rfl), (od rfl), (od rfl), (od rfl), (hp9), (od rfl), (od rfl), (od rfl), (od rfl), nof, fun _ => ⟨nof, fun _ => h⟩⟩, fun e => Bool.noConfusion (show true = false from e)⟩, fun e => Bool.noConfusion (show true = false from e)⟩, fun e => Bool.noConfusion (show true = false from e)⟩, fun e => Bool.noConfusion (show true = false from e)⟩⟩, fun e => Bool.noConfusion (show true = false from e)⟩, fun e => Bool.noConfusion (show true = false from e)⟩, fun e => Bool.noConfusion (show true = false from e)⟩, fun e => Bool.noConfusion (show true = false from e)⟩⟩, fun e => Bool.noConfusion (show true = false from e)⟩, fun e => Bool.noConfusion (show true = false from e)⟩, fun e => Bool.noConfusion (show true = false from e)⟩, fun e => Bool.noConfusion (show true = false from e)⟩⟩⟩, fun e => Bool.noConfusion (show true = false from e)⟩, fun e => Bool.noConfusion (show true = false from e)⟩, fun e => Bool.noConfusion (show true = false from e)⟩, fun e => Bool.noConfusion (show true = false from e)⟩⟩, fun e => Bool.noConfusion (show true = false from e)⟩, fun e => Bool.noConfusion (show true = false from e)⟩, fun e => Bool.noConfusion (show true = false from e)⟩, fun e => Bool.noConfusion (show true = false from e)⟩⟩, fun e => Bool.noConfusion (show true = false from e)⟩, fun e => Bool.noConfusion (show true = false from e)⟩, fun e => Bool.noConfusion (show true = false from e)⟩, fun e => Bool.noConfusion (show true = false from e)⟩
/-- What divides all numbers. -/
def v_div (x : CI) : Int := v_gcd (v_gcd (v_gcd (v_gcd (v_gcd (v_gcd (v_gcd (v_gcd (v_gcd x.2 x.1.1.1) x.1.1.2.1) x.1.1.2.2) x.1.2.1.1) x.1.2.1.2.1) x.1.2.1.2.2) x.1.2.2.1) x.1.2.2.2.1) x.1.2.2.2.2
def v_lowest (x : CI) : CI := (((x.1.1.1.tdiv (v_div x), x.1.1.2.1.tdiv (v_div x), x.1.1.2.2.tdiv (v_div x)), (x.1.2.1.1.tdiv (v_div x), x.1.2.1.2.1.tdiv (v_div x), x.1.2.1.2.2.tdiv (v_div x)), (x.1.2.2.1.tdiv (v_div x), x.1.2.2.2.1.tdiv (v_div x), x.1.2.2.2.2.tdiv (v_div x))), x.2.tdiv (v_div x))
abbrev v_in (m n : Int) : Prop := -m ≤ n ∧ n ≤ m
structure v_row (m : Int) (r : Int × Int × Int) : Prop where
  a : v_in m r.1
  b : v_in m r.2.1
  c : v_in m r.2.2
structure v_ci (x : CI) : Prop where
  r0 : v_row 1000000000000000000 x.1.1
  r1 : v_row 1000000000000000000 x.1.2.1
  r2 : v_row 1000000000000000000 x.1.2.2
  den : 1 ≤ x.2 ∧ x.2 ≤ 1000000000000000000
theorem v_gcd_in {a : Int} (b : Int) (h : 1 ≤ a) : 1 ≤ v_gcd a b ∧ v_gcd a b ≤ a := by
  unfold v_gcd
  have h1 : 0 < Int.gcd a b := Nat.gcd_pos_of_pos_left _ (by omega)
  have h2 : Int.gcd a b ≤ a.natAbs := Nat.gcd_le_left _ (by omega)
  omega
theorem v_div_in {x : CI} (h : 1 ≤ x.2) : 1 ≤ v_div x ∧ v_div x ≤ x.2 := by
  have h1 := v_gcd_in x.1.1.1 h
  have h2 := v_gcd_in x.1.1.2.1 h1.1
  have h3 := v_gcd_in x.1.1.2.2 h2.1
  have h4 := v_gcd_in x.1.2.1.1 h3.1
  have h5 := v_gcd_in x.1.2.1.2.1 h4.1
  have h6 := v_gcd_in x.1.2.1.2.2 h5.1
  have h7 := v_gcd_in x.1.2.2.1 h6.1
  have h8 := v_gcd_in x.1.2.2.2.1 h7.1
  have h9 := v_gcd_in x.1.2.2.2.2 h8.1
  unfold v_div
  omega
abbrev t_counts_reduced (p0 : CI) : Int × CI := (v_div p0, v_lowest p0)
abbrev qre_counts_reduced (p0 : CI) : List Prop := [v_ci p0]
theorem pp_counts_reduced (p0 : CI) (hq : ∀ p ∈ qre_counts_reduced p0, p) : ∀ p ∈ pre_counts_reduced p0, p := by
  have hv := (conj_of hq).1
  have a0 := hv.r0.a
  have a1 := hv.r0.b
  have a2 := hv.r0.c
  have b0 := hv.r1.a
  have b1 := hv.r1.b
  have b2 := hv.r1.c
  have c0 := hv.r2.a
  have c1 := hv.r2.b
  have c2 := hv.r2.c
  have d := hv.den
  have h1 := v_gcd_in p0.1.1.1 d.1
  have h2 := v_gcd_in p0.1.1.2.1 h1.1
  have h3 := v_gcd_in p0.1.1.2.2 h2.1
  have h4 := v_gcd_in p0.1.2.1.1 h3.1
  have h5 := v_gcd_in p0.1.2.1.2.1 h4.1
  have h6 := v_gcd_in p0.1.2.1.2.2 h5.1
  have h7 := v_gcd_in p0.1.2.2.1 h6.1
  have h8 := v_gcd_in p0.1.2.2.2.1 h7.1
  have h9 := v_gcd_in p0.1.2.2.2.2 h8.1
  intro p hp
  simp only [pre_counts_reduced, List.mem_cons, List.not_mem_nil, or_false] at hp
  rcases hp with rfl | rfl | rfl | rfl | rfl | rfl | rfl | rfl | rfl | rfl
  all_goals omega
theorem tt_counts_reduced (p0 : CI) (hq : ∀ p ∈ qre_counts_reduced p0, p) : s_counts_reduced p0 = t_counts_reduced p0 := by
  have hv := (conj_of hq).1
  have a0 := hv.r0.a
  have a1 := hv.r0.b
  have a2 := hv.r0.c
  have b0 := hv.r1.a
  have b1 := hv.r1.b
  have b2 := hv.r1.c
  have c0 := hv.r2.a
  have c1 := hv.r2.b
  have c2 := hv.r2.c
  have d := hv.den
  unfold s_counts_reduced
  rw [w_tdiv (a := p0.1.1.1) (by omega), w_tdiv (a := p0.1.1.2.1) (by omega), w_tdiv (a := p0.1.1.2.2) (by omega), w_tdiv (a := p0.1.2.1.1) (by omega), w_tdiv (a := p0.1.2.1.2.1) (by omega), w_tdiv (a := p0.1.2.1.2.2) (by omega), w_tdiv (a := p0.1.2.2.1) (by omega), w_tdiv (a := p0.1.2.2.2.1) (by omega), w_tdiv (a := p0.1.2.2.2.2) (by omega), w_tdiv (a := p0.2) (by omega)]
  rfl

abbrev con_counts_reduced : Con := ⟨[.ptr T_counts_reduced], [.one V_counts_reduced, .agg T_counts_reduced], fun x => qre_counts_reduced x, fun x => t_counts_reduced x⟩
theorem ok_counts_reduced : ConMOk Try.prog 111 con_counts_reduced := ⟨k_counts_reduced, rfl, fun x hx => retm_tf (t := T_counts_reduced) (r := V_counts_reduced) (x := x) (y := t_counts_reduced x) e_counts_reduced hC_counts_reduced (tfm_of (w_counts_reduced_eq x (fun z => z = t_counts_reduced x)) (d_counts_reduced x (fun z => z = t_counts_reduced x) (pp_counts_reduced x hx) (tt_counts_reduced x hx)))⟩
/- counts_rules_inverse -/
def C_counts_rules_inverse : Cons := [(122, [], con_counts_minor), (111, ioMark, con_counts_reduced)]
theorem hC_counts_rules_inverse : ConsOk Try.prog C_counts_rules_inverse := ConsOk.cons ok_counts_minor <| ConsOk.consM ok_counts_reduced <| ConsOk.nil
abbrev q0_counts_rules_inverse (p0 : CR) := (p0.mt.1.2.1 :: (p0.mt.2.1.2.1 :: (p0.mt.2.2.2.1 :: ([] : List Int))))
abbrev q1_counts_rules_inverse (p0 : CR) := (p0.mt.1.2.2 :: (p0.mt.2.1.2.2 :: (p0.mt.2.2.2.2 :: ([] : List Int))))
abbrev q2_counts_rules_inverse (p0 : CR) := (p0.mt.1.1 :: (p0.mt.2.1.1 :: (p0.mt.2.2.1 :: ([] : List Int))))
def w_counts_rules_inverse (p0 : CR) (K : CI → Prop) : Prop :=
 (∃ n0, (loopP (fun (y1 : (Int × (Int × (Int × (Int × (Int × (Int × (Int × (Int × (Int × (Int × Int))))))))))) k2 =>
    ((((decide (y1.1 < zz3)) = true) →
    (∃ n3, (loopP (fun (y4 : (Int × (Int × (Int × (Int × (Int × (Int × (Int × (Int × (Int × (Int × Int))))))))))) k5 =>
        ((((decide (y4.1 < zz3)) = true) →
        ((zz0 ≤ (Int.tmod (wi (y4.1 + zz1)) zz3)) ∧
          (((Int.tmod (wi (y4.1 + zz1)) zz3) < zz3) ∧
          ((zz0 ≤ (Int.tmod (wi (y1.1 + zz1)) zz3)) ∧
          (((Int.tmod (wi (y1.1 + zz1)) zz3) < zz3) ∧
          ((zz0 ≤ (Int.tmod (wi (y4.1 + zz2)) zz3)) ∧
          (((Int.tmod (wi (y4.1 + zz2)) zz3) < zz3) ∧
          ((zz0 ≤ (Int.tmod (wi (y1.1 + zz2)) zz3)) ∧
          (((Int.tmod (wi (y1.1 + zz2)) zz3) < zz3) ∧
          ((zz0 ≤ y1.1) ∧
          ((y1.1 < zz3) ∧
          ((zz0 ≤ y4.1) ∧
          ((y4.1 < zz3) ∧
          (k5 ((wi (y4.1 + zz1)), ((cond ((decide (y4.1 = zz0)) && (decide (y1.1 = zz0))) (wi ((1000 : Int) * (wi ((wi ((List.getD ((List.getD (q2_counts_rules_inverse p0) (Int.toNat (Int.tmod (wi (y4.1 + zz1)) zz3)) zz0) :: ((List.getD (q0_counts_rules_inverse p0) (Int.toNat (Int.tmod (wi (y4.1 + zz1)) zz3)) zz0) :: ((List.getD (q1_counts_rules_inverse p0) (Int.toNat (Int.tmod (wi (y4.1 + zz1)) zz3)) zz0) :: ([] : List Int)))) (Int.toNat (Int.tmod (wi (y1.1 + zz1)) zz3)) zz0) * (List.getD ((List.getD (q2_counts_rules_inverse p0) (Int.toNat (Int.tmod (wi (y4.1 + zz2)) zz3)) zz0) :: ((List.getD (q0_counts_rules_inverse p0) (Int.toNat (Int.tmod (wi (y4.1 + zz2)) zz3)) zz0) :: ((List.getD (q1_counts_rules_inverse p0) (Int.toNat (Int.tmod (wi (y4.1 + zz2)) zz3)) zz0) :: ([] : List Int)))) (Int.toNat (Int.tmod (wi (y1.1 + zz2)) zz3)) zz0))) - (wi ((List.getD ((List.getD (q2_counts_rules_inverse p0) (Int.toNat (Int.tmod (wi (y4.1 + zz1)) zz3)) zz0) :: ((List.getD (q0_counts_rules_inverse p0) (Int.toNat (Int.tmod (wi (y4.1 + zz1)) zz3)) zz0) :: ((List.getD (q1_counts_rules_inverse p0) (Int.toNat (Int.tmod (wi (y4.1 + zz1)) zz3)) zz0) :: ([] : List Int)))) (Int.toNat (Int.tmod (wi (y1.1 + zz2)) zz3)) zz0) * (List.getD ((List.getD (q2_counts_rules_inverse p0) (Int.toNat (Int.tmod (wi (y4.1 + zz2)) zz3)) zz0) :: ((List.getD (q0_counts_rules_inverse p0) (Int.toNat (Int.tmod (wi (y4.1 + zz2)) zz3)) zz0) :: ((List.getD (q1_counts_rules_inverse p0) (Int.toNat (Int.tmod (wi (y4.1 + zz2)) zz3)) zz0) :: ([] : List Int)))) (Int.toNat (Int.tmod (wi (y1.1 + zz1)) zz3)) zz0))))))) y4.2.1), ((cond ((decide (y4.1 = zz1)) && (decide (y1.1 = zz0))) (wi ((1000 : Int) * (wi ((wi ((List.getD ((List.getD (q2_counts_rules_inverse p0) (Int.toNat (Int.tmod (wi (y4.1 + zz1)) zz3)) zz0) :: ((List.getD (q0_counts_rules_inverse p0) (Int.toNat (Int.tmod (wi (y4.1 + zz1)) zz3)) zz0) :: ((List.getD (q1_counts_rules_inverse p0) (Int.toNat (Int.tmod (wi (y4.1 + zz1)) zz3)) zz0) :: ([] : List Int)))) (Int.toNat (Int.tmod (wi (y1.1 + zz1)) zz3)) zz0) * (List.getD ((List.getD (q2_counts_rules_inverse p0) (Int.toNat (Int.tmod (wi (y4.1 + zz2)) zz3)) zz0) :: ((List.getD (q0_counts_rules_inverse p0) (Int.toNat (Int.tmod (wi (y4.1 + zz2)) zz3)) zz0) :: ((List.getD (q1_counts_rules_inverse p0) (Int.toNat (Int.tmod (wi (y4.1 + zz2)) zz3)) zz0) :: ([] : List Int)))) (Int.toNat (Int.tmod (wi (y1.1 + zz2)) zz3)) zz0))) - (wi ((List.getD ((List.getD (q2_counts_rules_inverse p0) (Int.toNat (Int.tmod (wi (y4.1 + zz1)) zz3)) zz0) :: ((List.getD (q0_counts_rules_inverse p0) (Int.toNat (Int.tmod (wi (y4.1 + zz1)) zz3)) zz0) :: ((List.getD (q1_counts_rules_inverse p0) (Int.toNat (Int.tmod (wi (y4.1 + zz1)) zz3)) zz0) :: ([] : List Int)))) (Int.toNat (Int.tmod (wi (y1.1 + zz2)) zz3)) zz0) * (List.getD ((List.getD (q2_counts_rules_inverse p0) (Int.toNat (Int.tmod (wi (y4.1 + zz2)) zz3)) zz0) :: ((List.getD (q0_counts_rules_inverse p0) (Int.toNat (Int.tmod (wi (y4.1 + zz2)) zz3)) zz0) :: ((List.getD (q1_counts_rules_inverse p0) (Int.toNat (Int.tmod (wi (y4.1 + zz2)) zz3)) zz0) :: ([] : List Int)))) (Int.toNat (Int.tmod (wi (y1.1 + zz1)) zz3)) zz0))))))) y4.2.2.1), ((cond ((decide (y4.1 = zz2)) && (decide (y1.1 = zz0))) (wi ((1000 : Int) * (wi ((wi ((List.getD ((List.getD (q2_counts_rules_inverse p0) (Int.toNat (Int.tmod (wi (y4.1 + zz1)) zz3)) zz0) :: ((List.getD (q0_counts_rules_inverse p0) (Int.toNat (Int.tmod (wi (y4.1 + zz1)) zz3)) zz0) :: ((List.getD (q1_counts_rules_inverse p0) (Int.toNat (Int.tmod (wi (y4.1 + zz1)) zz3)) zz0) :: ([] : List Int)))) (Int.toNat (Int.tmod (wi (y1.1 + zz1)) zz3)) zz0) * (List.getD ((List.getD (q2_counts_rules_inverse p0) (Int.toNat (Int.tmod (wi (y4.1 + zz2)) zz3)) zz0) :: ((List.getD (q0_counts_rules_inverse p0) (Int.toNat (Int.tmod (wi (y4.1 + zz2)) zz3)) zz0) :: ((List.getD (q1_counts_rules_inverse p0) (Int.toNat (Int.tmod (wi (y4.1 + zz2)) zz3)) zz0) :: ([] : List Int)))) (Int.toNat (Int.tmod (wi (y1.1 + zz2)) zz3)) zz0))) - (wi ((List.getD ((List.getD (q2_counts_rules_inverse p0) (Int.toNat (Int.tmod (wi (y4.1 + zz1)) zz3)) zz0) :: ((List.getD (q0_counts_rules_inverse p0) (Int.toNat (Int.tmod (wi (y4.1 + zz1)) zz3)) zz0) :: ((List.getD (q1_counts_rules_inverse p0) (Int.toNat (Int.tmod (wi (y4.1 + zz1)) zz3)) zz0) :: ([] : List Int)))) (Int.toNat (Int.tmod (wi (y1.1 + zz2)) zz3)) zz0) * (List.getD ((List.getD (q2_counts_rules_inverse p0) (Int.toNat (Int.tmod (wi (y4.1 + zz2)) zz3)) zz0) :: ((List.getD (q0_counts_rules_inverse p0) (Int.toNat (Int.tmod (wi (y4.1 + zz2)) zz3)) zz0) :: ((List.getD (q1_counts_rules_inverse p0) (Int.toNat (Int.tmod (wi (y4.1 + zz2)) zz3)) zz0) :: ([] : List Int)))) (Int.toNat (Int.tmod (wi (y1.1 + zz1)) zz3)) zz0))))))) y4.2.2.2.1), ((cond ((decide (y4.1 = zz0)) && (decide (y1.1 = zz1))) (wi ((1000 : Int) * (wi ((wi ((List.getD ((List.getD (q2_counts_rules_inverse p0) (Int.toNat (Int.tmod (wi (y4.1 + zz1)) zz3)) zz0) :: ((List.getD (q0_counts_rules_inverse p0) (Int.toNat (Int.tmod (wi (y4.1 + zz1)) zz3)) zz0) :: ((List.getD (q1_counts_rules_inverse p0) (Int.toNat (Int.tmod (wi (y4.1 + zz1)) zz3)) zz0) :: ([] : List Int)))) (Int.toNat (Int.tmod (wi (y1.1 + zz1)) zz3)) zz0) * (List.getD ((List.getD (q2_counts_rules_inverse p0) (Int.toNat (Int.tmod (wi (y4.1 + zz2)) zz3)) zz0) :: ((List.getD (q0_counts_rules_inverse p0) (Int.toNat (Int.tmod (wi (y4.1 + zz2)) zz3)) zz0) :: ((List.getD (q1_counts_rules_inverse p0) (Int.toNat (Int.tmod (wi (y4.1 + zz2)) zz3)) zz0) :: ([] : List Int)))) (Int.toNat (Int.tmod (wi (y1.1 + zz2)) zz3)) zz0))) - (wi ((List.getD ((List.getD (q2_counts_rules_inverse p0) (Int.toNat (Int.tmod (wi (y4.1 + zz1)) zz3)) zz0) :: ((List.getD (q0_counts_rules_inverse p0) (Int.toNat (Int.tmod (wi (y4.1 + zz1)) zz3)) zz0) :: ((List.getD (q1_counts_rules_inverse p0) (Int.toNat (Int.tmod (wi (y4.1 + zz1)) zz3)) zz0) :: ([] : List Int)))) (Int.toNat (Int.tmod (wi (y1.1 + zz2)) zz3)) zz0) * (List.getD ((List.getD (q2_counts_rules_inverse p0) (Int.toNat (Int.tmod (wi (y4.1 + zz2)) zz3)) zz0) :: ((List.getD (q0_counts_rules_inverse p0) (Int.toNat (Int.tmod (wi (y4.1 + zz2)) zz3)) zz0) :: ((List.getD (q1_counts_rules_inverse p0) (Int.toNat (Int.tmod (wi (y4.1 + zz2)) zz3)) zz0) :: ([] : List Int)))) (Int.toNat (Int.tmod (wi (y1.1 + zz1)) zz3)) zz0))))))) y4.2.2.2.2.1), ((cond ((decide (y4.1 = zz1)) && (decide (y1.1 = zz1))) (wi ((1000 : Int) * (wi ((wi ((List.getD ((List.getD (q2_counts_rules_inverse p0) (Int.toNat (Int.tmod (wi (y4.1 + zz1)) zz3)) zz0) :: ((List.getD (q0_counts_rules_inverse p0) (Int.toNat (Int.tmod (wi (y4.1 + zz1)) zz3)) zz0) :: ((List.getD (q1_counts_rules_inverse p0) (Int.toNat (Int.tmod (wi (y4.1 + zz1)) zz3)) zz0) :: ([] : List Int)))) (Int.toNat (Int.tmod (wi (y1.1 + zz1)) zz3)) zz0) * (List.getD ((List.getD (q2_counts_rules_inverse p0) (Int.toNat (Int.tmod (wi (y4.1 + zz2)) zz3)) zz0) :: ((List.getD (q0_counts_rules_inverse p0) (Int.toNat (Int.tmod (wi (y4.1 + zz2)) zz3)) zz0) :: ((List.getD (q1_counts_rules_inverse p0) (Int.toNat (Int.tmod (wi (y4.1 + zz2)) zz3)) zz0) :: ([] : List Int)))) (Int.toNat (Int.tmod (wi (y1.1 + zz2)) zz3)) zz0))) - (wi ((List.getD ((List.getD (q2_counts_rules_inverse p0) (Int.toNat (Int.tmod (wi (y4.1 + zz1)) zz3)) zz0) :: ((List.getD (q0_counts_rules_inverse p0) (Int.toNat (Int.tmod (wi (y4.1 + zz1)) zz3)) zz0) :: ((List.getD (q1_counts_rules_inverse p0) (Int.toNat (Int.tmod (wi (y4.1 + zz1)) zz3)) zz0) :: ([] : List Int)))) (Int.toNat (Int.tmod (wi (y1.1 + zz2)) zz3)) zz0) * (List.getD ((List.getD (q2_counts_rules_inverse p0) (Int.toNat (Int.tmod (wi (y4.1 + zz2)) zz3)) zz0) :: ((List.getD (q0_counts_rules_inverse p0) (Int.toNat (Int.tmod (wi (y4.1 + zz2)) zz3)) zz0) :: ((List.getD (q1_counts_rules_inverse p0) (Int.toNat (Int.tmod (wi (y4.1 + zz2)) zz3)) zz0) :: ([] : List Int)))) (Int.toNat (Int.tmod (wi (y1.1 + zz1)) zz3)) zz0))))))) y4.2.2.2.2.2.1), ((cond ((decide (y4.1 = zz2)) && (decide (y1.1 = zz1))) (wi ((1000 : Int) * (wi ((wi ((List.getD ((List.getD (q2_counts_rules_inverse p0) (Int.toNat (Int.tmod (wi (y4.1 + zz1)) zz3)) zz0) :: ((List.getD (q0_counts_rules_inverse p0) (Int.toNat (Int.tmod (wi (y4.1 + zz1)) zz3)) zz0) :: ((List.getD (q1_counts_rules_inverse p0) (Int.toNat (Int.tmod (wi (y4.1 + zz1)) zz3)) zz0) :: ([] : List Int)))) (Int.toNat (Int.tmod (wi (y1.1 + zz1)) zz3)) zz0) * (List.getD ((List.getD (q2_counts_rules_inverse p0) (Int.toNat (Int.tmod (wi (y4.1 + zz2)) zz3)) zz0) :: ((List.getD (q0_counts_rules_inverse p0) (Int.toNat (Int.tmod (wi (y4.1 + zz2)) zz3)) zz0) :: ((List.getD (q1_counts_rules_inverse p0) (Int.toNat (Int.tmod (wi (y4.1 + zz2)) zz3)) zz0) :: ([] : List Int)))) (Int.toNat (Int.tmod (wi (y1.1 + zz2)) zz3)) zz0))) - (wi ((List.getD ((List.getD (q2_counts_rules_inverse p0) (Int.toNat (Int.tmod (wi (y4.1 + zz1)) zz3)) zz0) :: ((List.getD (q0_counts_rules_inverse p0) (Int.toNat (Int.tmod (wi (y4.1 + zz1)) zz3)) zz0) :: ((List.getD (q1_counts_rules_inverse p0) (Int.toNat (Int.tmod (wi (y4.1 + zz1)) zz3)) zz0) :: ([] : List Int)))) (Int.toNat (Int.tmod (wi (y1.1 + zz2)) zz3)) zz0) * (List.getD ((List.getD (q2_counts_rules_inverse p0) (Int.toNat (Int.tmod (wi (y4.1 + zz2)) zz3)) zz0) :: ((List.getD (q0_counts_rules_inverse p0) (Int.toNat (Int.tmod (wi (y4.1 + zz2)) zz3)) zz0) :: ((List.getD (q1_counts_rules_inverse p0) (Int.toNat (Int.tmod (wi (y4.1 + zz2)) zz3)) zz0) :: ([] : List Int)))) (Int.toNat (Int.tmod (wi (y1.1 + zz1)) zz3)) zz0))))))) y4.2.2.2.2.2.2.1), ((cond ((decide (y4.1 = zz0)) && (decide (y1.1 = zz2))) (wi ((1000 : Int) * (wi ((wi ((List.getD ((List.getD (q2_counts_rules_inverse p0) (Int.toNat (Int.tmod (wi (y4.1 + zz1)) zz3)) zz0) :: ((List.getD (q0_counts_rules_inverse p0) (Int.toNat (Int.tmod (wi (y4.1 + zz1)) zz3)) zz0) :: ((List.getD (q1_counts_rules_inverse p0) (Int.toNat (Int.tmod (wi (y4.1 + zz1)) zz3)) zz0) :: ([] : List Int)))) (Int.toNat (Int.tmod (wi (y1.1 + zz1)) zz3)) zz0) * (List.getD ((List.getD (q2_counts_rules_inverse p0) (Int.toNat (Int.tmod (wi (y4.1 + zz2)) zz3)) zz0) :: ((List.getD (q0_counts_rules_inverse p0) (Int.toNat (Int.tmod (wi (y4.1 + zz2)) zz3)) zz0) :: ((List.getD (q1_counts_rules_inverse p0) (Int.toNat (Int.tmod (wi (y4.1 + zz2)) zz3)) zz0) :: ([] : List Int)))) (Int.toNat (Int.tmod (wi (y1.1 + zz2)) zz3)) zz0))) - (wi ((List.getD ((List.getD (q2_counts_rules_inverse p0) (Int.toNat (Int.tmod (wi (y4.1 + zz1)) zz3)) zz0) :: ((List.getD (q0_counts_rules_inverse p0) (Int.toNat (Int.tmod (wi (y4.1 + zz1)) zz3)) zz0) :: ((List.getD (q1_counts_rules_inverse p0) (Int.toNat (Int.tmod (wi (y4.1 + zz1)) zz3)) zz0) :: ([] : List Int)))) (Int.toNat (Int.tmod (wi (y1.1 + zz2)) zz3)) zz0) * (List.getD ((List.getD (q2_counts_rules_inverse p0) (Int.toNat (Int.tmod (wi (y4.1 + zz2)) zz3)) zz0) :: ((List.getD (q0_counts_rules_inverse p0) (Int.toNat (Int.tmod (wi (y4.1 + zz2)) zz3)) zz0) :: ((List.getD (q1_counts_rules_inverse p0) (Int.toNat (Int.tmod (wi (y4.1 + zz2)) zz3)) zz0) :: ([] : List Int)))) (Int.toNat (Int.tmod (wi (y1.1 + zz1)) zz3)) zz0))))))) y4.2.2.2.2.2.2.2.1), ((cond ((decide (y4.1 = zz1)) && (decide (y1.1 = zz2))) (wi ((1000 : Int) * (wi ((wi ((List.getD ((List.getD (q2_counts_rules_inverse p0) (Int.toNat (Int.tmod (wi (y4.1 + zz1)) zz3)) zz0) :: ((List.getD (q0_counts_rules_inverse p0) (Int.toNat (Int.tmod (wi (y4.1 + zz1)) zz3)) zz0) :: ((List.getD (q1_counts_rules_inverse p0) (Int.toNat (Int.tmod (wi (y4.1 + zz1)) zz3)) zz0) :: ([] : List Int)))) (Int.toNat (Int.tmod (wi (y1.1 + zz1)) zz3)) zz0) * (List.getD ((List.getD (q2_counts_rules_inverse p0) (Int.toNat (Int.tmod (wi (y4.1 + zz2)) zz3)) zz0) :: ((List.getD (q0_counts_rules_inverse p0) (Int.toNat (Int.tmod (wi (y4.1 + zz2)) zz3)) zz0) :: ((List.getD (q1_counts_rules_inverse p0) (Int.toNat (Int.tmod (wi (y4.1 + zz2)) zz3)) zz0) :: ([] : List Int)))) (Int.toNat (Int.tmod (wi (y1.1 + zz2)) zz3)) zz0))) - (wi ((List.getD ((List.getD (q2_counts_rules_inverse p0) (Int.toNat (Int.tmod (wi (y4.1 + zz1)) zz3)) zz0) :: ((List.getD (q0_counts_rules_inverse p0) (Int.toNat (Int.tmod (wi (y4.1 + zz1)) zz3)) zz0) :: ((List.getD (q1_counts_rules_inverse p0) (Int.toNat (Int.tmod (wi (y4.1 + zz1)) zz3)) zz0) :: ([] : List Int)))) (Int.toNat (Int.tmod (wi (y1.1 + zz2)) zz3)) zz0) * (List.getD ((List.getD (q2_counts_rules_inverse p0) (Int.toNat (Int.tmod (wi (y4.1 + zz2)) zz3)) zz0) :: ((List.getD (q0_counts_rules_inverse p0) (Int.toNat (Int.tmod (wi (y4.1 + zz2)) zz3)) zz0) :: ((List.getD (q1_counts_rules_inverse p0) (Int.toNat (Int.tmod (wi (y4.1 + zz2)) zz3)) zz0) :: ([] : List Int)))) (Int.toNat (Int.tmod (wi (y1.1 + zz1)) zz3)) zz0))))))) y4.2.2.2.2.2.2.2.2.1), ((cond ((decide (y4.1 = zz2)) && (decide (y1.1 = zz2))) (wi ((1000 : Int) * (wi ((wi ((List.getD ((List.getD (q2_counts_rules_inverse p0) (Int.toNat (Int.tmod (wi (y4.1 + zz1)) zz3)) zz0) :: ((List.getD (q0_counts_rules_inverse p0) (Int.toNat (Int.tmod (wi (y4.1 + zz1)) zz3)) zz0) :: ((List.getD (q1_counts_rules_inverse p0) (Int.toNat (Int.tmod (wi (y4.1 + zz1)) zz3)) zz0) :: ([] : List Int)))) (Int.toNat (Int.tmod (wi (y1.1 + zz1)) zz3)) zz0) * (List.getD ((List.getD (q2_counts_rules_inverse p0) (Int.toNat (Int.tmod (wi (y4.1 + zz2)) zz3)) zz0) :: ((List.getD (q0_counts_rules_inverse p0) (Int.toNat (Int.tmod (wi (y4.1 + zz2)) zz3)) zz0) :: ((List.getD (q1_counts_rules_inverse p0) (Int.toNat (Int.tmod (wi (y4.1 + zz2)) zz3)) zz0) :: ([] : List Int)))) (Int.toNat (Int.tmod (wi (y1.1 + zz2)) zz3)) zz0))) - (wi ((List.getD ((List.getD (q2_counts_rules_inverse p0) (Int.toNat (Int.tmod (wi (y4.1 + zz1)) zz3)) zz0) :: ((List.getD (q0_counts_rules_inverse p0) (Int.toNat (Int.tmod (wi (y4.1 + zz1)) zz3)) zz0) :: ((List.getD (q1_counts_rules_inverse p0) (Int.toNat (Int.tmod (wi (y4.1 + zz1)) zz3)) zz0) :: ([] : List Int)))) (Int.toNat (Int.tmod (wi (y1.1 + zz2)) zz3)) zz0) * (List.getD ((List.getD (q2_counts_rules_inverse p0) (Int.toNat (Int.tmod (wi (y4.1 + zz2)) zz3)) zz0) :: ((List.getD (q0_counts_rules_inverse p0) (Int.toNat (Int.tmod (wi (y4.1 + zz2)) zz3)) zz0) :: ((List.getD (q1_counts_rules_inverse p0) (Int.toNat (Int.tmod (wi (y4.1 + zz2)) zz3)) zz0) :: ([] : List Int)))) (Int.toNat (Int.tmod (wi (y1.1 + zz1)) zz3)) zz0))))))) y4.2.2.2.2.2.2.2.2.2.1), y4.2.2.2.2.2.2.2.2.2.2)))))))))))))))))))))))) ∧
        (((decide (y4.1 < zz3)) = false) →
        ((zz0 ≤ y1.1) ∧
          ((y1.1 < zz3) ∧
          ((zz0 ≤ zz1) ∧
          ((zz1 < zz3) ∧
          ((zz0 ≤ (Int.tmod (wi (y1.1 + zz1)) zz3)) ∧
          (((Int.tmod (wi (y1.1 + zz1)) zz3) < zz3) ∧
          ((zz0 ≤ zz2) ∧
          ((zz2 < zz3) ∧
          ((zz0 ≤ (Int.tmod (wi (y1.1 + zz2)) zz3)) ∧
          (((Int.tmod (wi (y1.1 + zz2)) zz3) < zz3) ∧
          (k2 ((wi (y1.1 + zz1)), (y4.2.1, (y4.2.2.1, (y4.2.2.2.1, (y4.2.2.2.2.1, (y4.2.2.2.2.2.1, (y4.2.2.2.2.2.2.1, (y4.2.2.2.2.2.2.2.1, (y4.2.2.2.2.2.2.2.2.1, (y4.2.2.2.2.2.2.2.2.2.1, (wi (y4.2.2.2.2.2.2.2.2.2.2 + (wi ((List.getD (p0.mt.1.1 :: (p0.mt.1.2.1 :: (p0.mt.1.2.2 :: ([] : List Int)))) (Int.toNat y1.1) zz0) * (wi ((wi ((List.getD (p0.mt.2.1.1 :: (p0.mt.2.1.2.1 :: (p0.mt.2.1.2.2 :: ([] : List Int)))) (Int.toNat (Int.tmod (wi (y1.1 + zz1)) zz3)) zz0) * (List.getD (p0.mt.2.2.1 :: (p0.mt.2.2.2.1 :: (p0.mt.2.2.2.2 :: ([] : List Int)))) (Int.toNat (Int.tmod (wi (y1.1 + zz2)) zz3)) zz0))) - (wi ((List.getD (p0.mt.2.1.1 :: (p0.mt.2.1.2.1 :: (p0.mt.2.1.2.2 :: ([] : List Int)))) (Int.toNat (Int.tmod (wi (y1.1 + zz2)) zz3)) zz0) * (List.getD (p0.mt.2.2.1 :: (p0.mt.2.2.2.1 :: (p0.mt.2.2.2.2 :: ([] : List Int)))) (Int.toNat (Int.tmod (wi (y1.1 + zz1)) zz3)) zz0))))))))))))))))))))))))))))))))) n3 (zz0, y1.2)))) ∧
    (((decide (y1.1 < zz3)) = false) →
    ((v_ci (((y1.2.1, (y1.2.2.1, y1.2.2.2.1)), ((y1.2.2.2.2.1, (y1.2.2.2.2.2.1, y1.2.2.2.2.2.2.1)), (y1.2.2.2.2.2.2.2.1, (y1.2.2.2.2.2.2.2.2.1, y1.2.2.2.2.2.2.2.2.2.1)))), y1.2.2.2.2.2.2.2.2.2.2)) ∧
      (K (v_lowest (((y1.2.1, (y1.2.2.1, y1.2.2.2.1)), ((y1.2.2.2.2.1, (y1.2.2.2.2.2.1, y1.2.2.2.2.2.2.1)), (y1.2.2.2.2.2.2.2.1, (y1.2.2.2.2.2.2.2.2.1, y1.2.2.2.2.2.2.2.2.2.1)))), y1.2.2.2.2.2.2.2.2.2.2))))))) n0 (zz0, (zz0, (zz0, (zz0, (zz0, (zz0, (zz0, (zz0, (zz0, (zz0, zz0))))))))))))
set_option maxHeartbeats 4000000 in
theorem w_counts_rules_inverse_eq (p0 : CR) (K : CI → Prop) : tfn F_counts_rules_inverse A_counts_rules_inverse C_counts_rules_inverse P_counts_rules_inverse R_counts_rules_inverse p0 K = w_counts_rules_inverse p0 K := by kernel_rfl
def s_counts_rules_inverse (p0 : CR) : CI :=
  (v_lowest ((((IntKind.i64.wrap ((1000 : Int) * (IntKind.i64.wrap ((IntKind.i64.wrap (p0.mt.2.1.2.1 * p0.mt.2.2.2.2)) - (IntKind.i64.wrap (p0.mt.2.1.2.2 * p0.mt.2.2.2.1)))))), ((IntKind.i64.wrap ((1000 : Int) * (IntKind.i64.wrap ((IntKind.i64.wrap (p0.mt.2.2.2.1 * p0.mt.1.2.2)) - (IntKind.i64.wrap (p0.mt.2.2.2.2 * p0.mt.1.2.1)))))), (IntKind.i64.wrap ((1000 : Int) * (IntKind.i64.wrap ((IntKind.i64.wrap (p0.mt.1.2.1 * p0.mt.2.1.2.2)) - (IntKind.i64.wrap (p0.mt.1.2.2 * p0.mt.2.1.2.1)))))))), (((IntKind.i64.wrap ((1000 : Int) * (IntKind.i64.wrap ((IntKind.i64.wrap (p0.mt.2.1.2.2 * p0.mt.2.2.1)) - (IntKind.i64.wrap (p0.mt.2.1.1 * p0.mt.2.2.2.2)))))), ((IntKind.i64.wrap ((1000 : Int) * (IntKind.i64.wrap ((IntKind.i64.wrap (p0.mt.2.2.2.2 * p0.mt.1.1)) - (IntKind.i64.wrap (p0.mt.2.2.1 * p0.mt.1.2.2)))))), (IntKind.i64.wrap ((1000 : Int) * (IntKind.i64.wrap ((IntKind.i64.wrap (p0.mt.1.2.2 * p0.mt.2.1.1)) - (IntKind.i64.wrap (p0.mt.1.1 * p0.mt.2.1.2.2)))))))), ((IntKind.i64.wrap ((1000 : Int) * (IntKind.i64.wrap ((IntKind.i64.wrap (p0.mt.2.1.1 * p0.mt.2.2.2.1)) - (IntKind.i64.wrap (p0.mt.2.1.2.1 * p0.mt.2.2.1)))))), ((IntKind.i64.wrap ((1000 : Int) * (IntKind.i64.wrap ((IntKind.i64.wrap (p0.mt.2.2.1 * p0.mt.1.2.1)) - (IntKind.i64.wrap (p0.mt.2.2.2.1 * p0.mt.1.1)))))), (IntKind.i64.wrap ((1000 : Int) * (IntKind.i64.wrap ((IntKind.i64.wrap (p0.mt.1.1 * p0.mt.2.1.2.1)) - (IntKind.i64.wrap (p0.mt.1.2.1 * p0.mt.2.1.1)))))))))), (IntKind.i64.wrap ((IntKind.i64.wrap ((IntKind.i64.wrap ((0 : Int) + (IntKind.i64.wrap (p0.mt.1.1 * (IntKind.i64.wrap ((IntKind.i64.wrap (p0.mt.2.1.2.1 * p0.mt.2.2.2.2)) - (IntKind.i64.wrap (p0.mt.2.1.2.2 * p0.mt.2.2.2.1)))))))) + (IntKind.i64.wrap (p0.mt.1.2.1 * (IntKind.i64.wrap ((IntKind.i64.wrap (p0.mt.2.1.2.2 * p0.mt.2.2.1)) - (IntKind.i64.wrap (p0.mt.2.1.1 * p0.mt.2.2.2.2)))))))) + (IntKind.i64.wrap (p0.mt.1.2.2 * (IntKind.i64.wrap ((IntKind.i64.wrap (p0.mt.2.1.1 * p0.mt.2.2.2.1)) - (IntKind.i64.wrap (p0.mt.2.1.2.1 * p0.mt.2.2.1))))))))))
abbrev pre_counts_rules_inverse (p0 : CR) : List Prop := [(v_ci ((((IntKind.i64.wrap ((1000 : Int) * (IntKind.i64.wrap ((IntKind.i64.wrap (p0.mt.2.1.2.1 * p0.mt.2.2.2.2)) - (IntKind.i64.wrap (p0.mt.2.1.2.2 * p0.mt.2.2.2.1)))))), ((IntKind.i64.wrap ((1000 : Int) * (IntKind.i64.wrap ((IntKind.i64.wrap (p0.mt.2.2.2.1 * p0.mt.1.2.2)) - (IntKind.i64.wrap (p0.mt.2.2.2.2 * p0.mt.1.2.1)))))), (IntKind.i64.wrap ((1000 : Int) * (IntKind.i64.wrap ((IntKind.i64.wrap (p0.mt.1.2.1 * p0.mt.2.1.2.2)) - (IntKind.i64.wrap (p0.mt.1.2.2 * p0.mt.2.1.2.1)))))))), (((IntKind.i64.wrap ((1000 : Int) * (IntKind.i64.wrap ((IntKind.i64.wrap (p0.mt.2.1.2.2 * p0.mt.2.2.1)) - (IntKind.i64.wrap (p0.mt.2.1.1 * p0.mt.2.2.2.2)))))), ((IntKind.i64.wrap ((1000 : Int) * (IntKind.i64.wrap ((IntKind.i64.wrap (p0.mt.2.2.2.2 * p0.mt.1.1)) - (IntKind.i64.wrap (p0.mt.2.2.1 * p0.mt.1.2.2)))))), (IntKind.i64.wrap ((1000 : Int) * (IntKind.i64.wrap ((IntKind.i64.wrap (p0.mt.1.2.2 * p0.mt.2.1.1)) - (IntKind.i64.wrap (p0.mt.1.1 * p0.mt.2.1.2.2)))))))), ((IntKind.i64.wrap ((1000 : Int) * (IntKind.i64.wrap ((IntKind.i64.wrap (p0.mt.2.1.1 * p0.mt.2.2.2.1)) - (IntKind.i64.wrap (p0.mt.2.1.2.1 * p0.mt.2.2.1)))))), ((IntKind.i64.wrap ((1000 : Int) * (IntKind.i64.wrap ((IntKind.i64.wrap (p0.mt.2.2.1 * p0.mt.1.2.1)) - (IntKind.i64.wrap (p0.mt.2.2.2.1 * p0.mt.1.1)))))), (IntKind.i64.wrap ((1000 : Int) * (IntKind.i64.wrap ((IntKind.i64.wrap (p0.mt.1.1 * p0.mt.2.1.2.1)) - (IntKind.i64.wrap (p0.mt.1.2.1 * p0.mt.2.1.1)))))))))), (IntKind.i64.wrap ((IntKind.i64.wrap ((IntKind.i64.wrap ((0 : Int) + (IntKind.i64.wrap (p0.mt.1.1 * (IntKind.i64.wrap ((IntKind.i64.wrap (p0.mt.2.1.2.1 * p0.mt.2.2.2.2)) - (IntKind.i64.wrap (p0.mt.2.1.2.2 * p0.mt.2.2.2.1)))))))) + (IntKind.i64.wrap (p0.mt.1.2.1 * (IntKind.i64.wrap ((IntKind.i64.wrap (p0.mt.2.1.2.2 * p0.mt.2.2.1)) - (IntKind.i64.wrap (p0.mt.2.1.1 * p0.mt.2.2.2.2)))))))) + (IntKind.i64.wrap (p0.mt.1.2.2 * (IntKind.i64.wrap ((IntKind.i64.wrap (p0.mt.2.1.1 * p0.mt.2.2.2.1)) - (IntKind.i64.wrap (p0.mt.2.1.2.1 * p0.mt.2.2.1))))))))))]
set_option maxHeartbeats 4000000 in
theorem d_counts_rules_inverse (p0 : CR) (K : CI → Prop) (hp : ∀ p ∈ pre_counts_rules_inverse p0, p) (h : K (s_counts_rules_inverse p0)) : w_counts_rules_inverse p0 K := by
  unfold w_counts_rules_inverse
  unfold s_counts_rules_inverse at h
  obtain ⟨hp0, _⟩ := conj_of hp
  exact ⟨31, fun _ => ⟨31, fun _ => ⟨(od rfl), (od rfl), (od rfl), (od rfl), (od rfl), (od rfl), (od rfl), (od rfl), (od rfl), (od rfl), (od rfl), (od rfl), fun _ => ⟨(od rfl), (od rfl), (od rfl), (od rfl), (od rfl), (od rfl), (od rfl), (od rfl), (od rfl), (od rfl), (od rfl), (od rfl), fun _ => ⟨(od rfl), (od rfl), (od rfl), (od rfl), (od rfl), (od rfl), (od rfl), (od rfl), (od rfl), (od rfl), (od rfl), (od rfl), nof, fun _ => ⟨(od rfl), (od rfl), (od rfl), (od rfl), (od rfl), (od rfl), (od rfl), (od rfl), (od rfl), (od rfl), fun _ => ⟨31, fun _ => ⟨(od rfl), (od rfl), (od rfl), (od rfl), (od rfl), (od rfl), (od rfl), (od rfl), (od rfl), (od rfl), (od rfl), (od rfl), fun _ => ⟨(od rfl), (od rfl), (od rfl), (od rfl), (od rfl), (od rfl), (od rfl), (od rfl), (od rfl), (od rfl), (od rfl), (od rfl), fun _ => ⟨(od rfl), (od rfl), (od rfl), (od rfl), (od rfl), (od rfl), (od rfl), (od rfl), (od rfl), (od rfl), (od rfl), (od rfl), nof, fun _ => ⟨(od rfl), (od rfl), (od rfl), (od rfl), (od rfl), (od rfl), (od rfl), (od rfl), (od rfl), (od rfl), fun _ => ⟨31, fun _ => ⟨(od rfl), (od rfl), (od rfl), (od rfl), (od rfl), (od rfl), (od rfl), (od rfl), (od rfl), (od rfl), (od rfl), (od rfl), fun _ => ⟨(od rfl), (od rfl), (od rfl), (od rfl), (od rfl), (od rfl), (od rfl), (od rfl), (od rfl), (od rfl), (od rfl), (od rfl), fun _ => ⟨(od rfl), (od rfl), (od rfl), (od rfl), (od rfl), (od rfl), (od rfl), (od rfl), (od rfl), (od rfl), (od rfl), (od rfl), nof, fun _ => ⟨(od rfl), (od rfl), (od rfl), (od rfl), (od rfl), (od rfl), (od rfl), (od rfl), (od rfl), (od rfl), nof, fun _ => ⟨(hp0), h⟩⟩⟩, fun e => Bool.noConfusion (show true = false from e)⟩, fun e => Bool.noConfusion (show true = false from e)⟩, fun e => Bool.noConfusion (show true = false from e)⟩, fun e => Bool.noConfusion (show true = false from e)⟩⟩, fun e => Bool.noConfusion (show true = false from e)⟩, fun e => Bool.noConfusion (show true = false from e)⟩, fun e => Bool.noConfusion (show true = false from e)⟩, fun e => Bool.noConfusion (show true = false from e)⟩⟩, fun e => Bool.noConfusion (show true = false from e)⟩, fun e => Bool.noConfusion (show true = false from e)⟩, fun e => Bool.noConfusion (show true = false from e)⟩, fun e => Bool.noConfusion (show true = false from e)⟩
/-- A matrix whose columns are shares, the greater part of each one's own. -/
structure v_mat (m : M3) : Prop where
  c0 : v_col m.1.1 m.2.1.1 m.2.2.1 m.1.1
  c1 : v_col m.1.2.1 m.2.1.2.1 m.2.2.2.1 m.2.1.2.1
  c2 : v_col m.1.2.2 m.2.1.2.2 m.2.2.2.2 m.2.2.2.2
theorem tx_mat {r : CR} (h : v_rules r) : v_mat r.2.2.2.2.2.2.2.1 := ⟨h.col0, h.col1, h.col2⟩
/-- The cofactors, and the determinant. -/
def v_cof (m : M3) : M3 := ((m.2.1.2.1 * m.2.2.2.2 - m.2.1.2.2 * m.2.2.2.1, m.2.2.2.1 * m.1.2.2 - m.2.2.2.2 * m.1.2.1, m.1.2.1 * m.2.1.2.2 - m.1.2.2 * m.2.1.2.1), (m.2.1.2.2 * m.2.2.1 - m.2.1.1 * m.2.2.2.2, m.2.2.2.2 * m.1.1 - m.2.2.1 * m.1.2.2, m.1.2.2 * m.2.1.1 - m.1.1 * m.2.1.2.2), (m.2.1.1 * m.2.2.2.1 - m.2.1.2.1 * m.2.2.1, m.2.2.1 * m.1.2.1 - m.2.2.2.1 * m.1.1, m.1.1 * m.2.1.2.1 - m.1.2.1 * m.2.1.1))
def v_det (m : M3) : Int := m.1.1 * (v_cof m).1.1 + m.1.2.1 * (v_cof m).2.1.1 + m.1.2.2 * (v_cof m).2.2.1
/-- The inverse, not in lowest terms. -/
def v_inv0 (m : M3) : CI := (((1000 * (v_cof m).1.1, 1000 * (v_cof m).1.2.1, 1000 * (v_cof m).1.2.2), (1000 * (v_cof m).2.1.1, 1000 * (v_cof m).2.1.2.1, 1000 * (v_cof m).2.1.2.2), (1000 * (v_cof m).2.2.1, 1000 * (v_cof m).2.2.2.1, 1000 * (v_cof m).2.2.2.2)), v_det m)
theorem tx_w2 {x y z w : Int} (hx : 0 ≤ x ∧ x ≤ 1000) (hy : 0 ≤ y ∧ y ≤ 1000) (hz : 0 ≤ z ∧ z ≤ 1000) (hw : 0 ≤ w ∧ w ≤ 1000) : IntKind.i64.wrap (IntKind.i64.wrap (x * y) - IntKind.i64.wrap (z * w)) = x * y - z * w ∧ v_in 1000000 (x * y - z * w) := by
  have g1 := mul_in hx.1 hx.2 hy.1 hy.2
  have g2 := mul_in hz.1 hz.2 hw.1 hw.2
  rw [w_sub_l, w_sub_r, wrap_id (by omega) (by omega)]
  unfold v_in; omega
theorem tx_det {m : M3} (h : v_mat m) : 120000000 ≤ v_det m ∧ v_det m ≤ 3000000000 := by
  obtain ⟨⟨a, b, c⟩, ⟨d, e, f⟩, ⟨g, k, i⟩⟩ := m
  obtain ⟨⟨a0, d0, g0, s0, o0⟩, ⟨b0, e0, k0, s1, o1⟩, ⟨c0, f0, i0, s2, o2⟩⟩ := h
  simp only at a0 d0 g0 s0 o0 b0 e0 k0 s1 o1 c0 f0 i0 s2 o2
  have hd : v_det ((a, b, c), (d, e, f), (g, k, i)) = 1000 * ((e - d) * (i - g) - (f - d) * (k - g)) := by
    have ha : a = 1000 - d - g := by omega
    have hb : b = 1000 - e - k := by omega
    have hc : c = 1000 - f - i := by omega
    subst ha hb hc
    simp only [v_det, v_cof]
    grind
  rw [hd]
  have p1 : (600 - d) * (600 - g) ≤ (e - d) * (i - g) := Int.mul_le_mul (by omega) (by omega) (by omega) (by omega)
  have p2 : (e - d) * (i - g) ≤ 1000 * 1000 := Int.mul_le_mul (by omega) (by omega) (by omega) (by omega)
  have p3 : (600 - d) * (600 - g) = 360000 - 600 * d - 600 * g + d * g := by grind
  have p4 := mul_in d0.1 d0.2 g0.1 g0.2
  have q := mul_abs (x := f - d) (y := k - g) (a := 1000) (b := 1000) (by omega) (by omega) (by omega) (by omega)
  refine ⟨?_, by omega⟩
  rcases Int.le_total d f with hf | hf <;> rcases Int.le_total g k with hk | hk
  · have r1 : (f - d) * (k - g) ≤ (400 - d) * (400 - g) := Int.mul_le_mul (by omega) (by omega) (by omega) (by omega)
    have r2 : (400 - d) * (400 - g) = 160000 - 400 * d - 400 * g + d * g := by grind
    omega
  · have r1 := Int.mul_nonneg (show 0 ≤ f - d by omega) (show 0 ≤ g - k by omega)
    have r2 : (f - d) * (k - g) = -((f - d) * (g - k)) := by grind
    omega
  · have r1 := Int.mul_nonneg (show 0 ≤ d - f by omega) (show 0 ≤ k - g by omega)
    have r2 : (f - d) * (k - g) = -((d - f) * (k - g)) := by grind
    omega
  · have r1 : (d - f) * (g - k) ≤ d * g := Int.mul_le_mul (by omega) (by omega) (by omega) (by omega)
    have r2 : (f - d) * (k - g) = (d - f) * (g - k) := by grind
    omega
theorem tx_cof {m : M3} (h : v_mat m) : v_row 1000000 (v_cof m).1 ∧ v_row 1000000 (v_cof m).2.1 ∧ v_row 1000000 (v_cof m).2.2 := by
  have a := h.c0
  have b := h.c1
  have c := h.c2
  exact ⟨⟨(tx_w2 b.y0 c.z0 c.y0 b.z0).2, (tx_w2 b.z0 c.x0 c.z0 b.x0).2, (tx_w2 b.x0 c.y0 c.x0 b.y0).2⟩, ⟨(tx_w2 c.y0 a.z0 a.y0 c.z0).2, (tx_w2 c.z0 a.x0 a.z0 c.x0).2, (tx_w2 c.x0 a.y0 a.x0 c.y0).2⟩, ⟨(tx_w2 a.y0 b.z0 b.y0 a.z0).2, (tx_w2 a.z0 b.x0 b.z0 a.x0).2, (tx_w2 a.x0 b.y0 b.x0 a.y0).2⟩⟩
theorem tx_inv0 {m : M3} (h : v_mat m) : v_ci (v_inv0 m) := by
  obtain ⟨⟨a0, a1, a2⟩, ⟨b0, b1, b2⟩, ⟨c0, c1, c2⟩⟩ := tx_cof h
  have d := tx_det h
  unfold v_in at *
  unfold v_inv0
  exact ⟨⟨by simp only [v_in]; omega, by simp only [v_in]; omega, by simp only [v_in]; omega⟩, ⟨by simp only [v_in]; omega, by simp only [v_in]; omega, by simp only [v_in]; omega⟩, ⟨by simp only [v_in]; omega, by simp only [v_in]; omega, by simp only [v_in]; omega⟩, by simp only; omega⟩
/-- The inverse of rules. -/
def v_inv (r : CR) : CI := v_lowest (v_inv0 r.2.2.2.2.2.2.2.1)
theorem tx_inv0w {m : M3} (h : v_mat m) : (((((IntKind.i64.wrap (1000 * (IntKind.i64.wrap (IntKind.i64.wrap (m.2.1.2.1 * m.2.2.2.2) - IntKind.i64.wrap (m.2.1.2.2 * m.2.2.2.1))))), (IntKind.i64.wrap (1000 * (IntKind.i64.wrap (IntKind.i64.wrap (m.2.2.2.1 * m.1.2.2) - IntKind.i64.wrap (m.2.2.2.2 * m.1.2.1))))), (IntKind.i64.wrap (1000 * (IntKind.i64.wrap (IntKind.i64.wrap (m.1.2.1 * m.2.1.2.2) - IntKind.i64.wrap (m.1.2.2 * m.2.1.2.1)))))),
    ((IntKind.i64.wrap (1000 * (IntKind.i64.wrap (IntKind.i64.wrap (m.2.1.2.2 * m.2.2.1) - IntKind.i64.wrap (m.2.1.1 * m.2.2.2.2))))), (IntKind.i64.wrap (1000 * (IntKind.i64.wrap (IntKind.i64.wrap (m.2.2.2.2 * m.1.1) - IntKind.i64.wrap (m.2.2.1 * m.1.2.2))))), (IntKind.i64.wrap (1000 * (IntKind.i64.wrap (IntKind.i64.wrap (m.1.2.2 * m.2.1.1) - IntKind.i64.wrap (m.1.1 * m.2.1.2.2)))))),
    ((IntKind.i64.wrap (1000 * (IntKind.i64.wrap (IntKind.i64.wrap (m.2.1.1 * m.2.2.2.1) - IntKind.i64.wrap (m.2.1.2.1 * m.2.2.1))))), (IntKind.i64.wrap (1000 * (IntKind.i64.wrap (IntKind.i64.wrap (m.2.2.1 * m.1.2.1) - IntKind.i64.wrap (m.2.2.2.1 * m.1.1))))), (IntKind.i64.wrap (1000 * (IntKind.i64.wrap (IntKind.i64.wrap (m.1.1 * m.2.1.2.1) - IntKind.i64.wrap (m.1.2.1 * m.2.1.1))))))),
    IntKind.i64.wrap (IntKind.i64.wrap (IntKind.i64.wrap (0 + IntKind.i64.wrap (m.1.1 * IntKind.i64.wrap (IntKind.i64.wrap (m.2.1.2.1 * m.2.2.2.2) - IntKind.i64.wrap (m.2.1.2.2 * m.2.2.2.1)))) + IntKind.i64.wrap (m.1.2.1 * IntKind.i64.wrap (IntKind.i64.wrap (m.2.1.2.2 * m.2.2.1) - IntKind.i64.wrap (m.2.1.1 * m.2.2.2.2)))) + IntKind.i64.wrap (m.1.2.2 * IntKind.i64.wrap (IntKind.i64.wrap (m.2.1.1 * m.2.2.2.1) - IntKind.i64.wrap (m.2.1.2.1 * m.2.2.1))))) : CI) = v_inv0 m := by
  obtain ⟨⟨a0, a1, a2⟩, ⟨b0, b1, b2⟩, ⟨c0, c1, c2⟩⟩ := tx_cof h
  have d := tx_det h
  have a := h.c0
  have b := h.c1
  have c := h.c2
  unfold v_in at *
  rw [(tx_w2 b.y0 c.z0 c.y0 b.z0).1, (tx_w2 b.z0 c.x0 c.z0 b.x0).1, (tx_w2 b.x0 c.y0 c.x0 b.y0).1, (tx_w2 c.y0 a.z0 a.y0 c.z0).1, (tx_w2 c.z0 a.x0 a.z0 c.x0).1, (tx_w2 c.x0 a.y0 a.x0 c.y0).1, (tx_w2 a.y0 b.z0 b.y0 a.z0).1, (tx_w2 a.z0 b.x0 b.z0 a.x0).1, (tx_w2 a.x0 b.y0 b.x0 a.y0).1]
  simp only [v_cof] at a0 a1 a2 b0 b1 b2 c0 c1 c2
  simp only [v_det, v_cof] at d
  simp only [w_add_l, w_add_r, Int.zero_add]
  rw [wrap_id (n := 1000 * (m.2.1.2.1 * m.2.2.2.2 - m.2.1.2.2 * m.2.2.2.1)) (by omega) (by omega), wrap_id (n := 1000 * (m.2.2.2.1 * m.1.2.2 - m.2.2.2.2 * m.1.2.1)) (by omega) (by omega), wrap_id (n := 1000 * (m.1.2.1 * m.2.1.2.2 - m.1.2.2 * m.2.1.2.1)) (by omega) (by omega), wrap_id (n := 1000 * (m.2.1.2.2 * m.2.2.1 - m.2.1.1 * m.2.2.2.2)) (by omega) (by omega), wrap_id (n := 1000 * (m.2.2.2.2 * m.1.1 - m.2.2.1 * m.1.2.2)) (by omega) (by omega), wrap_id (n := 1000 * (m.1.2.2 * m.2.1.1 - m.1.1 * m.2.1.2.2)) (by omega) (by omega), wrap_id (n := 1000 * (m.2.1.1 * m.2.2.2.1 - m.2.1.2.1 * m.2.2.1)) (by omega) (by omega), wrap_id (n := 1000 * (m.2.2.1 * m.1.2.1 - m.2.2.2.1 * m.1.1)) (by omega) (by omega), wrap_id (n := 1000 * (m.1.1 * m.2.1.2.1 - m.1.2.1 * m.2.1.1)) (by omega) (by omega)]
  rw [wrap_id (by omega) (by omega)]
  rfl
abbrev t_counts_rules_inverse (p0 : CR) : CI := v_inv p0
abbrev qre_counts_rules_inverse (p0 : CR) : List Prop := [v_rules p0]
theorem pp_counts_rules_inverse (p0 : CR) (hq : ∀ p ∈ qre_counts_rules_inverse p0, p) : ∀ p ∈ pre_counts_rules_inverse p0, p := by
  have hv := (conj_of hq).1
  intro p hp
  simp only [pre_counts_rules_inverse, List.mem_cons, List.not_mem_nil, or_false] at hp
  subst hp
  rw [tx_inv0w (tx_mat hv)]; exact tx_inv0 (tx_mat hv)
theorem tt_counts_rules_inverse (p0 : CR) (hq : ∀ p ∈ qre_counts_rules_inverse p0, p) : s_counts_rules_inverse p0 = t_counts_rules_inverse p0 := by
  have hv := (conj_of hq).1
  unfold s_counts_rules_inverse
  rw [tx_inv0w (tx_mat hv)]
  rfl

abbrev con_counts_rules_inverse : Con := ⟨P_counts_rules_inverse, R_counts_rules_inverse, fun x => qre_counts_rules_inverse x, fun x => t_counts_rules_inverse x⟩
theorem ok_counts_rules_inverse : ConOk Try.prog 96 con_counts_rules_inverse := ⟨k_counts_rules_inverse, fun x hx => ret_tf (ps := P_counts_rules_inverse) (rs := R_counts_rules_inverse) (x := x) (y := t_counts_rules_inverse x) e_counts_rules_inverse hC_counts_rules_inverse (tf_of (w_counts_rules_inverse_eq x (fun z => z = t_counts_rules_inverse x)) (d_counts_rules_inverse x (fun z => z = t_counts_rules_inverse x) (pp_counts_rules_inverse x hx) (tt_counts_rules_inverse x hx)))⟩
/- counts_times -/
def C_counts_times : Cons := []
theorem hC_counts_times : ConsOk Try.prog C_counts_times := ConsOk.nil
def w_counts_times (p0 : (Int × Int)) (p1 : Int) (K : (Int × Int) → Prop) : Prop :=
 ((((decide (p1 < (0 : Int))) = true) →
  (K ((IntKind.i64.wrap (p1 * p0.2)), (IntKind.i64.wrap (p1 * p0.1))))) ∧
  (((decide (p1 < (0 : Int))) = false) →
  (K ((IntKind.i64.wrap (p1 * p0.1)), (IntKind.i64.wrap (p1 * p0.2))))))
set_option maxHeartbeats 4000000 in
theorem w_counts_times_eq (p0 : (Int × Int)) (p1 : Int) (K : (Int × Int) → Prop) : tfn F_counts_times A_counts_times C_counts_times P_counts_times R_counts_times (p0, p1) K = w_counts_times p0 p1 K := by kernel_rfl
def s_counts_times (p0 : (Int × Int)) (p1 : Int) : (Int × Int) :=
  (cond (decide (p1 < (0 : Int))) ((IntKind.i64.wrap (p1 * p0.2)), (IntKind.i64.wrap (p1 * p0.1)))
    ((IntKind.i64.wrap (p1 * p0.1)), (IntKind.i64.wrap (p1 * p0.2))))
abbrev pre_counts_times (p0 : (Int × Int)) (p1 : Int) : List Prop := []
set_option maxHeartbeats 4000000 in
theorem d_counts_times (p0 : (Int × Int)) (p1 : Int) (K : (Int × Int) → Prop) (hp : ∀ p ∈ pre_counts_times p0 p1, p) (h : K (s_counts_times p0 p1)) : w_counts_times p0 p1 K := by
  unfold w_counts_times
  unfold s_counts_times at h
  exact (br' h (fun e0 h => h)
    (fun e0 h => h))
abbrev con_counts_times : Con := ⟨P_counts_times, R_counts_times, fun x => pre_counts_times x.1 x.2, fun x => s_counts_times x.1 x.2⟩
theorem ok_counts_times : ConOk Try.prog 119 con_counts_times := ⟨k_counts_times, fun x hx => ret_tf (ps := P_counts_times) (rs := R_counts_times) (x := x) (y := s_counts_times x.1 x.2) e_counts_times hC_counts_times (tf_of (w_counts_times_eq x.1 x.2 (fun z => z = s_counts_times x.1 x.2)) (d_counts_times x.1 x.2 (fun z => z = s_counts_times x.1 x.2) hx rfl))⟩
/- counts_sum -/
def C_counts_sum : Cons := []
theorem hC_counts_sum : ConsOk Try.prog C_counts_sum := ConsOk.nil
def w_counts_sum (p0 : (Int × Int)) (p1 : (Int × Int)) (K : (Int × Int) → Prop) : Prop :=
 (K ((IntKind.i64.wrap (p0.1 + p1.1)), (IntKind.i64.wrap (p0.2 + p1.2))))
set_option maxHeartbeats 4000000 in
theorem w_counts_sum_eq (p0 : (Int × Int)) (p1 : (Int × Int)) (K : (Int × Int) → Prop) : tfn F_counts_sum A_counts_sum C_counts_sum P_counts_sum R_counts_sum (p0, p1) K = w_counts_sum p0 p1 K := by kernel_rfl
def s_counts_sum (p0 : (Int × Int)) (p1 : (Int × Int)) : (Int × Int) :=
  ((IntKind.i64.wrap (p0.1 + p1.1)), (IntKind.i64.wrap (p0.2 + p1.2)))
abbrev pre_counts_sum (p0 : (Int × Int)) (p1 : (Int × Int)) : List Prop := []
set_option maxHeartbeats 4000000 in
theorem d_counts_sum (p0 : (Int × Int)) (p1 : (Int × Int)) (K : (Int × Int) → Prop) (hp : ∀ p ∈ pre_counts_sum p0 p1, p) (h : K (s_counts_sum p0 p1)) : w_counts_sum p0 p1 K := by
  unfold w_counts_sum
  unfold s_counts_sum at h
  exact h
abbrev con_counts_sum : Con := ⟨P_counts_sum, R_counts_sum, fun x => pre_counts_sum x.1 x.2, fun x => s_counts_sum x.1 x.2⟩
theorem ok_counts_sum : ConOk Try.prog 123 con_counts_sum := ⟨k_counts_sum, fun x hx => ret_tf (ps := P_counts_sum) (rs := R_counts_sum) (x := x) (y := s_counts_sum x.1 x.2) e_counts_sum hC_counts_sum (tf_of (w_counts_sum_eq x.1 x.2 (fun z => z = s_counts_sum x.1 x.2)) (d_counts_sum x.1 x.2 (fun z => z = s_counts_sum x.1 x.2) hx rfl))⟩
/- counts_floor -/
def C_counts_floor : Cons := []
theorem hC_counts_floor : ConsOk Try.prog C_counts_floor := ConsOk.nil
def w_counts_floor (p0 : Int) (p1 : Int) (K : Int → Prop) : Prop :=
 ((p1 ≠ (0 : Int)) ∧
  ((p1 ≠ (0 : Int)) ∧
  ((((decide ((Int.tmod p0 p1) < (0 : Int))) = true) →
  (K (IntKind.i64.wrap ((IntKind.i64.wrap (Int.tdiv p0 p1)) - (1 : Int))))) ∧
  (((decide ((Int.tmod p0 p1) < (0 : Int))) = false) →
  (K (IntKind.i64.wrap (Int.tdiv p0 p1)))))))
set_option maxHeartbeats 4000000 in
theorem w_counts_floor_eq (p0 : Int) (p1 : Int) (K : Int → Prop) : tfn F_counts_floor A_counts_floor C_counts_floor P_counts_floor R_counts_floor (p0, p1) K = w_counts_floor p0 p1 K := by kernel_rfl
def s_counts_floor (p0 : Int) (p1 : Int) : Int :=
  (cond (decide ((Int.tmod p0 p1) < (0 : Int))) (IntKind.i64.wrap ((IntKind.i64.wrap (Int.tdiv p0 p1)) - (1 : Int)))
    (IntKind.i64.wrap (Int.tdiv p0 p1)))
abbrev pre_counts_floor (p0 : Int) (p1 : Int) : List Prop := [(p1 ≠ (0 : Int))]
set_option maxHeartbeats 4000000 in
theorem d_counts_floor (p0 : Int) (p1 : Int) (K : Int → Prop) (hp : ∀ p ∈ pre_counts_floor p0 p1, p) (h : K (s_counts_floor p0 p1)) : w_counts_floor p0 p1 K := by
  unfold w_counts_floor
  unfold s_counts_floor at h
  obtain ⟨hp0, _⟩ := conj_of hp
  exact ⟨(hp0), (hp0), (br' h (fun e0 h => h)
    (fun e0 h => h))⟩
abbrev con_counts_floor : Con := ⟨P_counts_floor, R_counts_floor, fun x => pre_counts_floor x.1 x.2, fun x => s_counts_floor x.1 x.2⟩
theorem ok_counts_floor : ConOk Try.prog 125 con_counts_floor := ⟨k_counts_floor, fun x hx => ret_tf (ps := P_counts_floor) (rs := R_counts_floor) (x := x) (y := s_counts_floor x.1 x.2) e_counts_floor hC_counts_floor (tf_of (w_counts_floor_eq x.1 x.2 (fun z => z = s_counts_floor x.1 x.2)) (d_counts_floor x.1 x.2 (fun z => z = s_counts_floor x.1 x.2) hx rfl))⟩
/- counts_ceil -/
def C_counts_ceil : Cons := [(125, [], con_counts_floor)]
theorem hC_counts_ceil : ConsOk Try.prog C_counts_ceil := ConsOk.cons ok_counts_floor <| ConsOk.nil
def w_counts_ceil (p0 : Int) (p1 : Int) (K : Int → Prop) : Prop :=
 ((p1 ≠ (0 : Int)) ∧
  (K (IntKind.i64.wrap ((0 : Int) - (s_counts_floor (IntKind.i64.wrap ((0 : Int) - p0)) p1)))))
set_option maxHeartbeats 4000000 in
theorem w_counts_ceil_eq (p0 : Int) (p1 : Int) (K : Int → Prop) : tfn F_counts_ceil A_counts_ceil C_counts_ceil P_counts_ceil R_counts_ceil (p0, p1) K = w_counts_ceil p0 p1 K := by kernel_rfl
def s_counts_ceil (p0 : Int) (p1 : Int) : Int :=
  (IntKind.i64.wrap ((0 : Int) - (s_counts_floor (IntKind.i64.wrap ((0 : Int) - p0)) p1)))
abbrev pre_counts_ceil (p0 : Int) (p1 : Int) : List Prop := [(p1 ≠ (0 : Int))]
set_option maxHeartbeats 4000000 in
theorem d_counts_ceil (p0 : Int) (p1 : Int) (K : Int → Prop) (hp : ∀ p ∈ pre_counts_ceil p0 p1, p) (h : K (s_counts_ceil p0 p1)) : w_counts_ceil p0 p1 K := by
  unfold w_counts_ceil
  unfold s_counts_ceil at h
  obtain ⟨hp0, _⟩ := conj_of hp
  exact ⟨(hp0), h⟩
abbrev con_counts_ceil : Con := ⟨P_counts_ceil, R_counts_ceil, fun x => pre_counts_ceil x.1 x.2, fun x => s_counts_ceil x.1 x.2⟩
theorem ok_counts_ceil : ConOk Try.prog 112 con_counts_ceil := ⟨k_counts_ceil, fun x hx => ret_tf (ps := P_counts_ceil) (rs := R_counts_ceil) (x := x) (y := s_counts_ceil x.1 x.2) e_counts_ceil hC_counts_ceil (tf_of (w_counts_ceil_eq x.1 x.2 (fun z => z = s_counts_ceil x.1 x.2)) (d_counts_ceil x.1 x.2 (fun z => z = s_counts_ceil x.1 x.2) hx rfl))⟩
/- counts_rounded -/
def C_counts_rounded : Cons := [(125, [], con_counts_floor), (112, [], con_counts_ceil)]
theorem hC_counts_rounded : ConsOk Try.prog C_counts_rounded := ConsOk.cons ok_counts_floor <| ConsOk.cons ok_counts_ceil <| ConsOk.nil
def w_counts_rounded (p0 : (Int × Int)) (p1 : Int) (K : (Int × Int) → Prop) : Prop :=
 ((p1 ≠ (0 : Int)) ∧
  ((p1 ≠ (0 : Int)) ∧
  (K ((s_counts_floor p0.1 p1), (s_counts_ceil p0.2 p1)))))
set_option maxHeartbeats 4000000 in
theorem w_counts_rounded_eq (p0 : (Int × Int)) (p1 : Int) (K : (Int × Int) → Prop) : tfn F_counts_rounded A_counts_rounded C_counts_rounded P_counts_rounded R_counts_rounded (p0, p1) K = w_counts_rounded p0 p1 K := by kernel_rfl
def s_counts_rounded (p0 : (Int × Int)) (p1 : Int) : (Int × Int) :=
  ((s_counts_floor p0.1 p1), (s_counts_ceil p0.2 p1))
abbrev pre_counts_rounded (p0 : (Int × Int)) (p1 : Int) : List Prop := [(p1 ≠ (0 : Int))]
set_option maxHeartbeats 4000000 in
theorem d_counts_rounded (p0 : (Int × Int)) (p1 : Int) (K : (Int × Int) → Prop) (hp : ∀ p ∈ pre_counts_rounded p0 p1, p) (h : K (s_counts_rounded p0 p1)) : w_counts_rounded p0 p1 K := by
  unfold w_counts_rounded
  unfold s_counts_rounded at h
  obtain ⟨hp0, _⟩ := conj_of hp
  exact ⟨(hp0), (hp0), h⟩
abbrev con_counts_rounded : Con := ⟨P_counts_rounded, R_counts_rounded, fun x => pre_counts_rounded x.1 x.2, fun x => s_counts_rounded x.1 x.2⟩
theorem ok_counts_rounded : ConOk Try.prog 118 con_counts_rounded := ⟨k_counts_rounded, fun x hx => ret_tf (ps := P_counts_rounded) (rs := R_counts_rounded) (x := x) (y := s_counts_rounded x.1 x.2) e_counts_rounded hC_counts_rounded (tf_of (w_counts_rounded_eq x.1 x.2 (fun z => z = s_counts_rounded x.1 x.2)) (d_counts_rounded x.1 x.2 (fun z => z = s_counts_rounded x.1 x.2) hx rfl))⟩
end Go.Proofs.Ytonjnpefnbnohaa
