/- What the functions that GravityHeights reaches compute: contracts, each function once. No condition. -/
import Derived.Test.YtcecdmdnfmgnfaaDoorLayB
import Derived.Test.YtcecdmdnfmgnfaaDoorAwGGravityHeights
import Derived.KernelRfl
namespace Go.Proofs.YtcecdmdnfmgnfaaDoor
open Go Go.Mx
set_option maxRecDepth 100000
/-- Ranges, and ties: from, to, difference. -/
abbrev GR : Type := Int × Int
abbrev GT : Type := Int × Int × Int × Int
/- law05_few -/
def C_law05_few : Cons := []
theorem hC_law05_few : ConsOk Tryd.prog C_law05_few := ConsOk.nil
def w_law05_few (p0 : (List (Int × Int))) (K : Bool → Prop) : Prop :=
  (K (decide ((((List.length p0) : Nat) : Int) ≤ (66 : Int))))
set_option maxHeartbeats 4000000 in
theorem w_law05_few_eq (p0 : (List (Int × Int))) (K : Bool → Prop) : tfn F_law05_few A_law05_few C_law05_few P_law05_few R_law05_few p0 K = w_law05_few p0 K := by kernel_rfl
def s_law05_few (p0 : (List (Int × Int))) : Bool :=
  (decide ((((List.length p0) : Nat) : Int) ≤ (66 : Int)))
abbrev pre_law05_few (p0 : (List (Int × Int))) : List Prop := []
set_option maxHeartbeats 4000000 in
theorem d_law05_few (p0 : (List (Int × Int))) (K : Bool → Prop) (hp : ∀ p ∈ pre_law05_few p0, p) (h : K (s_law05_few p0)) : w_law05_few p0 K := by
  unfold w_law05_few
  unfold s_law05_few at h
  exact h
abbrev con_law05_few : Con := ⟨P_law05_few, R_law05_few, fun x => pre_law05_few x, fun x => s_law05_few x⟩
theorem ok_law05_few : ConOk Tryd.prog 25 con_law05_few := ⟨k_law05_few, fun x hx => ret_tf (ps := P_law05_few) (rs := R_law05_few) (x := x) (y := s_law05_few x) e_law05_few hC_law05_few (tf_of (w_law05_few_eq x (fun z => z = s_law05_few x)) (d_law05_few x (fun z => z = s_law05_few x) hx rfl))⟩
/- law05_fewNumbers -/
def C_law05_fewNumbers : Cons := []
theorem hC_law05_fewNumbers : ConsOk Tryd.prog C_law05_fewNumbers := ConsOk.nil
def w_law05_fewNumbers (p0 : (List Int)) (K : Bool → Prop) : Prop :=
  (K (decide ((((List.length p0) : Nat) : Int) ≤ (66 : Int))))
set_option maxHeartbeats 4000000 in
theorem w_law05_fewNumbers_eq (p0 : (List Int)) (K : Bool → Prop) : tfn F_law05_fewNumbers A_law05_fewNumbers C_law05_fewNumbers P_law05_fewNumbers R_law05_fewNumbers p0 K = w_law05_fewNumbers p0 K := by kernel_rfl
def s_law05_fewNumbers (p0 : (List Int)) : Bool :=
  (decide ((((List.length p0) : Nat) : Int) ≤ (66 : Int)))
abbrev pre_law05_fewNumbers (p0 : (List Int)) : List Prop := []
set_option maxHeartbeats 4000000 in
theorem d_law05_fewNumbers (p0 : (List Int)) (K : Bool → Prop) (hp : ∀ p ∈ pre_law05_fewNumbers p0, p) (h : K (s_law05_fewNumbers p0)) : w_law05_fewNumbers p0 K := by
  unfold w_law05_fewNumbers
  unfold s_law05_fewNumbers at h
  exact h
abbrev con_law05_fewNumbers : Con := ⟨P_law05_fewNumbers, R_law05_fewNumbers, fun x => pre_law05_fewNumbers x, fun x => s_law05_fewNumbers x⟩
theorem ok_law05_fewNumbers : ConOk Tryd.prog 26 con_law05_fewNumbers := ⟨k_law05_fewNumbers, fun x hx => ret_tf (ps := P_law05_fewNumbers) (rs := R_law05_fewNumbers) (x := x) (y := s_law05_fewNumbers x) e_law05_fewNumbers hC_law05_fewNumbers (tf_of (w_law05_fewNumbers_eq x (fun z => z = s_law05_fewNumbers x)) (d_law05_fewNumbers x (fun z => z = s_law05_fewNumbers x) hx rfl))⟩
/- base_CopyRanges -/
def C_base_CopyRanges : Cons := []
theorem hC_base_CopyRanges : ConsOk Tryd.prog C_base_CopyRanges := ConsOk.nil
def w_base_CopyRanges (p0 : (List (Int × Int))) (K : (List (Int × Int)) → Prop) : Prop :=
  (((((List.length ([] : List (Int × Int))) + (List.length p0)) * 16) ≤ 140737488355328) ∧
  (K (([] : List (Int × Int)) ++ p0)))
set_option maxHeartbeats 4000000 in
theorem w_base_CopyRanges_eq (p0 : (List (Int × Int))) (K : (List (Int × Int)) → Prop) : tfn F_base_CopyRanges A_base_CopyRanges C_base_CopyRanges P_base_CopyRanges R_base_CopyRanges p0 K = w_base_CopyRanges p0 K := by kernel_rfl
def s_base_CopyRanges (p0 : (List (Int × Int))) : (List (Int × Int)) :=
  (([] : List (Int × Int)) ++ p0)
abbrev pre_base_CopyRanges (p0 : (List (Int × Int))) : List Prop := [((((List.length ([] : List (Int × Int))) + (List.length p0)) * 16) ≤ 140737488355328)]
set_option maxHeartbeats 4000000 in
theorem d_base_CopyRanges (p0 : (List (Int × Int))) (K : (List (Int × Int)) → Prop) (hp : ∀ p ∈ pre_base_CopyRanges p0, p) (h : K (s_base_CopyRanges p0)) : w_base_CopyRanges p0 K := by
  unfold w_base_CopyRanges
  unfold s_base_CopyRanges at h
  obtain ⟨hp0, _⟩ := conj_of hp
  exact ⟨(hp0), h⟩
abbrev t_base_CopyRanges (p0 : List (Int × Int)) : List (Int × Int) := p0
abbrev qre_base_CopyRanges (p0 : List (Int × Int)) : List Prop := [p0.length ≤ 1000000]
theorem pp_base_CopyRanges (p0 : List (Int × Int)) (hq : ∀ p ∈ qre_base_CopyRanges p0, p) : ∀ p ∈ pre_base_CopyRanges p0, p := by
  simp only [pre_base_CopyRanges, List.forall_mem_cons]
  have := (conj_of hq).1
  exact ⟨by simp; omega, by simp⟩
theorem tt_base_CopyRanges (p0 : List (Int × Int)) (hq : ∀ p ∈ qre_base_CopyRanges p0, p) : s_base_CopyRanges p0 = t_base_CopyRanges p0 := by
  rfl

abbrev con_base_CopyRanges : Con := ⟨P_base_CopyRanges, R_base_CopyRanges, fun x => qre_base_CopyRanges x, fun x => t_base_CopyRanges x⟩
theorem ok_base_CopyRanges : ConOk Tryd.prog 28 con_base_CopyRanges := ⟨k_base_CopyRanges, fun x hx => ret_tf (ps := P_base_CopyRanges) (rs := R_base_CopyRanges) (x := x) (y := t_base_CopyRanges x) e_base_CopyRanges hC_base_CopyRanges (tf_of (w_base_CopyRanges_eq x (fun z => z = t_base_CopyRanges x)) (d_base_CopyRanges x (fun z => z = t_base_CopyRanges x) (pp_base_CopyRanges x hx) (tt_base_CopyRanges x hx)))⟩
/- gravity_within -/
def C_gravity_within : Cons := []
theorem hC_gravity_within : ConsOk Tryd.prog C_gravity_within := ConsOk.nil
def w_gravity_within (p0 : Int) (p1 : Int) (p2 : Int) (K : Bool → Prop) : Prop :=
  ((((decide (p1 ≤ p0)) = true) →
  ((decide (p1 ≤ p0)) = (decide (p1 ≤ p0)))) ∧
  ((((decide (p1 ≤ p0)) = true) →
  ((decide (p1 ≤ p0)) = (decide (p1 ≤ p0)))) ∧
  (((decide (p1 ≤ p0)) = (decide (p1 ≤ p0))) ∧
  (K (cond (decide (p1 ≤ p0)) (decide (p0 ≤ p2)) false)))))
set_option maxHeartbeats 4000000 in
theorem w_gravity_within_eq (p0 : Int) (p1 : Int) (p2 : Int) (K : Bool → Prop) : tfn F_gravity_within A_gravity_within C_gravity_within P_gravity_within R_gravity_within (p0, p1, p2) K = w_gravity_within p0 p1 p2 K := by kernel_rfl
def s_gravity_within (p0 : Int) (p1 : Int) (p2 : Int) : Bool :=
  (cond (decide (p1 ≤ p0)) (decide (p0 ≤ p2)) false)
abbrev pre_gravity_within (p0 : Int) (p1 : Int) (p2 : Int) : List Prop := []
set_option maxHeartbeats 4000000 in
theorem d_gravity_within (p0 : Int) (p1 : Int) (p2 : Int) (K : Bool → Prop) (hp : ∀ p ∈ pre_gravity_within p0 p1 p2, p) (h : K (s_gravity_within p0 p1 p2)) : w_gravity_within p0 p1 p2 K := by
  unfold w_gravity_within
  unfold s_gravity_within at h
  exact ⟨(fun _ => rfl), ⟨(fun _ => rfl), ⟨rfl, h⟩⟩⟩
abbrev con_gravity_within : Con := ⟨P_gravity_within, R_gravity_within, fun x => pre_gravity_within x.1 x.2.1 x.2.2, fun x => s_gravity_within x.1 x.2.1 x.2.2⟩
theorem ok_gravity_within : ConOk Tryd.prog 94 con_gravity_within := ⟨k_gravity_within, fun x hx => ret_tf (ps := P_gravity_within) (rs := R_gravity_within) (x := x) (y := s_gravity_within x.1 x.2.1 x.2.2) e_gravity_within hC_gravity_within (tf_of (w_gravity_within_eq x.1 x.2.1 x.2.2 (fun z => z = s_gravity_within x.1 x.2.1 x.2.2)) (d_gravity_within x.1 x.2.1 x.2.2 (fun z => z = s_gravity_within x.1 x.2.1 x.2.2) hx rfl))⟩
theorem tx_within {n lo hi : Int} : s_gravity_within n lo hi = true ↔ lo ≤ n ∧ n ≤ hi := by unfold s_gravity_within; simp
/- gravity_isSized -/
def C_gravity_isSized : Cons := [(94, [], con_gravity_within)]
theorem hC_gravity_isSized : ConsOk Tryd.prog C_gravity_isSized := ConsOk.cons ok_gravity_within <| ConsOk.nil
def w_gravity_isSized (p0 : Int) (p1 : Int) (K : Bool → Prop) : Prop :=
  (K (s_gravity_within p0 (Go.IntKind.wrap .i64 ((0 : Int) - p1)) p1))
set_option maxHeartbeats 4000000 in
theorem w_gravity_isSized_eq (p0 : Int) (p1 : Int) (K : Bool → Prop) : tfn F_gravity_isSized A_gravity_isSized C_gravity_isSized P_gravity_isSized R_gravity_isSized (p0, p1) K = w_gravity_isSized p0 p1 K := by kernel_rfl
def s_gravity_isSized (p0 : Int) (p1 : Int) : Bool :=
  (s_gravity_within p0 (Go.IntKind.wrap .i64 ((0 : Int) - p1)) p1)
abbrev pre_gravity_isSized (p0 : Int) (p1 : Int) : List Prop := []
set_option maxHeartbeats 4000000 in
theorem d_gravity_isSized (p0 : Int) (p1 : Int) (K : Bool → Prop) (hp : ∀ p ∈ pre_gravity_isSized p0 p1, p) (h : K (s_gravity_isSized p0 p1)) : w_gravity_isSized p0 p1 K := by
  unfold w_gravity_isSized
  unfold s_gravity_isSized at h
  exact h
abbrev con_gravity_isSized : Con := ⟨P_gravity_isSized, R_gravity_isSized, fun x => pre_gravity_isSized x.1 x.2, fun x => s_gravity_isSized x.1 x.2⟩
theorem ok_gravity_isSized : ConOk Tryd.prog 93 con_gravity_isSized := ⟨k_gravity_isSized, fun x hx => ret_tf (ps := P_gravity_isSized) (rs := R_gravity_isSized) (x := x) (y := s_gravity_isSized x.1 x.2) e_gravity_isSized hC_gravity_isSized (tf_of (w_gravity_isSized_eq x.1 x.2 (fun z => z = s_gravity_isSized x.1 x.2)) (d_gravity_isSized x.1 x.2 (fun z => z = s_gravity_isSized x.1 x.2) hx rfl))⟩
/- gravity_unless -/
def C_gravity_unless : Cons := []
theorem hC_gravity_unless : ConsOk Tryd.prog C_gravity_unless := ConsOk.nil
def w_gravity_unless (p0 : Bool) (p1 : Int) (K : Int → Prop) : Prop :=
  (((p0 = true) →
  (K (0 : Int))) ∧
  ((p0 = false) →
  (K p1)))
set_option maxHeartbeats 4000000 in
theorem w_gravity_unless_eq (p0 : Bool) (p1 : Int) (K : Int → Prop) : tfn F_gravity_unless A_gravity_unless C_gravity_unless P_gravity_unless R_gravity_unless (p0, p1) K = w_gravity_unless p0 p1 K := by kernel_rfl
def s_gravity_unless (p0 : Bool) (p1 : Int) : Int :=
  (cond p0 (0 : Int)
    p1)
abbrev pre_gravity_unless (p0 : Bool) (p1 : Int) : List Prop := []
set_option maxHeartbeats 4000000 in
theorem d_gravity_unless (p0 : Bool) (p1 : Int) (K : Int → Prop) (hp : ∀ p ∈ pre_gravity_unless p0 p1, p) (h : K (s_gravity_unless p0 p1)) : w_gravity_unless p0 p1 K := by
  unfold w_gravity_unless
  unfold s_gravity_unless at h
  exact (br' h (fun e0 h => h)
    (fun e0 h => h))
abbrev con_gravity_unless : Con := ⟨P_gravity_unless, R_gravity_unless, fun x => pre_gravity_unless x.1 x.2, fun x => s_gravity_unless x.1 x.2⟩
theorem ok_gravity_unless : ConOk Tryd.prog 89 con_gravity_unless := ⟨k_gravity_unless, fun x hx => ret_tf (ps := P_gravity_unless) (rs := R_gravity_unless) (x := x) (y := s_gravity_unless x.1 x.2) e_gravity_unless hC_gravity_unless (tf_of (w_gravity_unless_eq x.1 x.2 (fun z => z = s_gravity_unless x.1 x.2)) (d_gravity_unless x.1 x.2 (fun z => z = s_gravity_unless x.1 x.2) hx rfl))⟩
/- gravity_first -/
def C_gravity_first : Cons := []
theorem hC_gravity_first : ConsOk Tryd.prog C_gravity_first := ConsOk.nil
def w_gravity_first (p0 : (List Int)) (K : Int → Prop) : Prop :=
  (∃ n0, (loopP (fun (y1 : Int) k2 =>
    ((((decide (y1 < (((List.length p0) : Nat) : Int))) = true) →
    (((0 : Int) ≤ y1) ∧
      ((y1 < (((List.length p0) : Nat) : Int)) ∧
      (((((List.getD p0 (Int.toNat y1) (0 : Int)) != (0 : Int)) = true) →
      (K (List.getD p0 (Int.toNat y1) (0 : Int)))) ∧
      ((((List.getD p0 (Int.toNat y1) (0 : Int)) != (0 : Int)) = false) →
      (k2 (Go.IntKind.wrap .i64 (y1 + (1 : Int))))))))) ∧
    (((decide (y1 < (((List.length p0) : Nat) : Int))) = false) →
    (K (0 : Int))))) n0 (0 : Int)))
set_option maxHeartbeats 4000000 in
theorem w_gravity_first_eq (p0 : (List Int)) (K : Int → Prop) : tfn F_gravity_first A_gravity_first C_gravity_first P_gravity_first R_gravity_first p0 K = w_gravity_first p0 K := by kernel_rfl
def st_gravity_first_0 (p0 : (List Int)) (y0 : Int) : Int ⊕ Int :=
  (cond (decide (y0 < (((List.length p0) : Nat) : Int))) (cond ((List.getD p0 (Int.toNat y0) (0 : Int)) != (0 : Int)) (Sum.inr (List.getD p0 (Int.toNat y0) (0 : Int)))
    (Sum.inl (Go.IntKind.wrap .i64 (y0 + (1 : Int)))))
    (Sum.inr (0 : Int)))
abbrev sp_gravity_first_0 (p0 : (List Int)) (y0 : Int) : List Prop := [(((decide (y0 < (((List.length p0) : Nat) : Int))) = true) → ((0 : Int) ≤ y0)),
    (((decide (y0 < (((List.length p0) : Nat) : Int))) = true) → (y0 < (((List.length p0) : Nat) : Int)))]
def s_gravity_first (p0 : (List Int)) : Int :=
  (lpv (0 : Int) (st_gravity_first_0 p0) (0 : Int))
abbrev pre_gravity_first (p0 : (List Int)) : List Prop := [(OkL (st_gravity_first_0 p0) (sp_gravity_first_0 p0) (0 : Int))]
set_option maxHeartbeats 4000000 in
theorem d_gravity_first (p0 : (List Int)) (K : Int → Prop) (hp : ∀ p ∈ pre_gravity_first p0, p) (h : K (s_gravity_first p0)) : w_gravity_first p0 K := by
  unfold w_gravity_first
  unfold s_gravity_first at h
  obtain ⟨hp0, _⟩ := conj_of hp
  exact (loop_gen (hp0) h (fun y0 k0 hp h => by
  unfold st_gravity_first_0 at h; obtain ⟨hp0, hp1, _⟩ := conj_of hp
  exact (br' h (fun e1 h => ⟨(hp0 e1), ⟨(hp1 e1), (br' h (fun e2 h => h)
    (fun e2 h => h))⟩⟩)
    (fun e1 h => h))))
theorem l_gravity_first_0 (p0 : List Int) (hl : lenOk p0) : OkL (st_gravity_first_0 p0) (sp_gravity_first_0 p0) 0 ∧ lpv (0 : Int) (st_gravity_first_0 p0) 0 = v_scan (fun _ x => cond (x != 0) (some x) none) (0 : Int) 0 p0 := by
  refine scan_is p0 0 (fun _ x => cond (x != 0) (some x) none) (0 : Int) hl ?_ ?_
  · refine ⟨by simp only [sp_gravity_first_0, List.forall_mem_cons, decide_eq_true_eq]; simp, by simp [st_gravity_first_0]⟩
  · intro j hj
    have hj' : (j : Int) < p0.length := by omega
    refine ⟨by simp only [sp_gravity_first_0, List.forall_mem_cons, decide_eq_true_eq, Int.toNat_natCast]; simp <;> omega, ?_⟩
    simp only [st_gravity_first_0, hj', decide_true, Int.toNat_natCast, cond_true, wrap_nat (show (j : Int) ≤ 9223372036854775806 by unfold lenOk at hl; omega)]
    generalize p0.getD j 0 = x
    cases (x != 0) <;> rfl
abbrev t_gravity_first (p0 : List Int) : Int := v_first p0
abbrev qre_gravity_first (p0 : List Int) : List Prop := [lenOk p0]
theorem pp_gravity_first (p0 : List Int) (hq : ∀ p ∈ qre_gravity_first p0, p) : ∀ p ∈ pre_gravity_first p0, p := by
  simp only [pre_gravity_first, List.forall_mem_cons]
  exact ⟨(l_gravity_first_0 p0 (conj_of hq).1).1, by simp⟩
theorem tt_gravity_first (p0 : List Int) (hq : ∀ p ∈ qre_gravity_first p0, p) : s_gravity_first p0 = t_gravity_first p0 := by
  exact (l_gravity_first_0 p0 (conj_of hq).1).2.trans (v_first_scan p0 0)

abbrev con_gravity_first : Con := ⟨P_gravity_first, R_gravity_first, fun x => qre_gravity_first x, fun x => t_gravity_first x⟩
theorem ok_gravity_first : ConOk Tryd.prog 88 con_gravity_first := ⟨k_gravity_first, fun x hx => ret_tf (ps := P_gravity_first) (rs := R_gravity_first) (x := x) (y := t_gravity_first x) e_gravity_first hC_gravity_first (tf_of (w_gravity_first_eq x (fun z => z = t_gravity_first x)) (d_gravity_first x (fun z => z = t_gravity_first x) (pp_gravity_first x hx) (tt_gravity_first x hx)))⟩
/- gravity_rangeErr -/
def C_gravity_rangeErr : Cons := [(93, [], con_gravity_isSized), (89, [], con_gravity_unless), (88, [], con_gravity_first)]
theorem hC_gravity_rangeErr : ConsOk Tryd.prog C_gravity_rangeErr := ConsOk.cons ok_gravity_isSized <| ConsOk.cons ok_gravity_unless <| ConsOk.cons ok_gravity_first <| ConsOk.nil
def w_gravity_rangeErr (p0 : (Int × Int)) (p1 : Int) (K : Int → Prop) : Prop :=
  ((((s_gravity_isSized p0.1 p1) = true) →
  ((s_gravity_isSized p0.1 p1) = (s_gravity_isSized p0.1 p1))) ∧
  ((((s_gravity_isSized p0.1 p1) = true) →
  ((s_gravity_isSized p0.1 p1) = (s_gravity_isSized p0.1 p1))) ∧
  ((((s_gravity_isSized p0.1 p1) = true) →
  ((s_gravity_isSized p0.1 p1) = (s_gravity_isSized p0.1 p1))) ∧
  (((s_gravity_isSized p0.1 p1) = (s_gravity_isSized p0.1 p1)) ∧
  ((lenOk ((s_gravity_unless (cond (s_gravity_isSized p0.1 p1) (s_gravity_isSized p0.2 p1) false) (2 : Int)) :: ((s_gravity_unless (decide (p0.1 ≤ p0.2)) (9 : Int)) :: ([] : List Int)))) ∧
  (K (v_first ((s_gravity_unless (cond (s_gravity_isSized p0.1 p1) (s_gravity_isSized p0.2 p1) false) (2 : Int)) :: ((s_gravity_unless (decide (p0.1 ≤ p0.2)) (9 : Int)) :: ([] : List Int))))))))))
set_option maxHeartbeats 4000000 in
theorem w_gravity_rangeErr_eq (p0 : (Int × Int)) (p1 : Int) (K : Int → Prop) : tfn F_gravity_rangeErr A_gravity_rangeErr C_gravity_rangeErr P_gravity_rangeErr R_gravity_rangeErr (p0, p1) K = w_gravity_rangeErr p0 p1 K := by kernel_rfl
def s_gravity_rangeErr (p0 : (Int × Int)) (p1 : Int) : Int :=
  (v_first ((s_gravity_unless (cond (s_gravity_isSized p0.1 p1) (s_gravity_isSized p0.2 p1) false) (2 : Int)) :: ((s_gravity_unless (decide (p0.1 ≤ p0.2)) (9 : Int)) :: ([] : List Int))))
abbrev pre_gravity_rangeErr (p0 : (Int × Int)) (p1 : Int) : List Prop := []
set_option maxHeartbeats 4000000 in
theorem d_gravity_rangeErr (p0 : (Int × Int)) (p1 : Int) (K : Int → Prop) (hp : ∀ p ∈ pre_gravity_rangeErr p0 p1, p) (h : K (s_gravity_rangeErr p0 p1)) : w_gravity_rangeErr p0 p1 K := by
  unfold w_gravity_rangeErr
  unfold s_gravity_rangeErr at h
  exact ⟨(fun _ => rfl), ⟨(fun _ => rfl), ⟨(fun _ => rfl), ⟨rfl, ⟨(lenOk_of 2 rfl (by decide)), h⟩⟩⟩⟩⟩
abbrev con_gravity_rangeErr : Con := ⟨P_gravity_rangeErr, R_gravity_rangeErr, fun x => pre_gravity_rangeErr x.1 x.2, fun x => s_gravity_rangeErr x.1 x.2⟩
theorem ok_gravity_rangeErr : ConOk Tryd.prog 98 con_gravity_rangeErr := ⟨k_gravity_rangeErr, fun x hx => ret_tf (ps := P_gravity_rangeErr) (rs := R_gravity_rangeErr) (x := x) (y := s_gravity_rangeErr x.1 x.2) e_gravity_rangeErr hC_gravity_rangeErr (tf_of (w_gravity_rangeErr_eq x.1 x.2 (fun z => z = s_gravity_rangeErr x.1 x.2)) (d_gravity_rangeErr x.1 x.2 (fun z => z = s_gravity_rangeErr x.1 x.2) hx rfl))⟩
/- gravity_CheckHeights -/
def C_gravity_CheckHeights : Cons := [(98, [], con_gravity_rangeErr)]
theorem hC_gravity_CheckHeights : ConsOk Tryd.prog C_gravity_CheckHeights := ConsOk.cons ok_gravity_rangeErr <| ConsOk.nil
def w_gravity_CheckHeights (p0 : (List (Int × Int))) (K : (Int × Int) → Prop) : Prop :=
  ((((decide ((((List.length p0) : Nat) : Int) > (64 : Int))) = true) →
  (K ((0 : Int), (8 : Int)))) ∧
  (((decide ((((List.length p0) : Nat) : Int) > (64 : Int))) = false) →
  (∃ n0, (loopP (fun (y1 : Int) k2 =>
      ((((decide (y1 < (((List.length p0) : Nat) : Int))) = true) →
      (((0 : Int) ≤ y1) ∧
        ((y1 < (((List.length p0) : Nat) : Int)) ∧
        (((((s_gravity_rangeErr (List.getD p0 (Int.toNat y1) ((0 : Int), (0 : Int))) (1000000 : Int)) != (0 : Int)) = true) →
        (K (y1, (s_gravity_rangeErr (List.getD p0 (Int.toNat y1) ((0 : Int), (0 : Int))) (1000000 : Int))))) ∧
        ((((s_gravity_rangeErr (List.getD p0 (Int.toNat y1) ((0 : Int), (0 : Int))) (1000000 : Int)) != (0 : Int)) = false) →
        (k2 (Go.IntKind.wrap .i64 (y1 + (1 : Int))))))))) ∧
      (((decide (y1 < (((List.length p0) : Nat) : Int))) = false) →
      (K ((0 : Int), (0 : Int)))))) n0 (0 : Int)))))
set_option maxHeartbeats 4000000 in
theorem w_gravity_CheckHeights_eq (p0 : (List (Int × Int))) (K : (Int × Int) → Prop) : tfn F_gravity_CheckHeights A_gravity_CheckHeights C_gravity_CheckHeights P_gravity_CheckHeights R_gravity_CheckHeights p0 K = w_gravity_CheckHeights p0 K := by kernel_rfl
def st_gravity_CheckHeights_0 (p0 : (List (Int × Int))) (y1 : Int) : Int ⊕ (Int × Int) :=
  (cond (decide (y1 < (((List.length p0) : Nat) : Int))) (cond ((s_gravity_rangeErr (List.getD p0 (Int.toNat y1) ((0 : Int), (0 : Int))) (1000000 : Int)) != (0 : Int)) (Sum.inr (y1, (s_gravity_rangeErr (List.getD p0 (Int.toNat y1) ((0 : Int), (0 : Int))) (1000000 : Int))))
    (Sum.inl (Go.IntKind.wrap .i64 (y1 + (1 : Int)))))
    (Sum.inr ((0 : Int), (0 : Int))))
abbrev sp_gravity_CheckHeights_0 (p0 : (List (Int × Int))) (y1 : Int) : List Prop := [(((decide (y1 < (((List.length p0) : Nat) : Int))) = true) → ((0 : Int) ≤ y1)),
    (((decide (y1 < (((List.length p0) : Nat) : Int))) = true) → (y1 < (((List.length p0) : Nat) : Int)))]
def s_gravity_CheckHeights (p0 : (List (Int × Int))) : (Int × Int) :=
  (cond (decide ((((List.length p0) : Nat) : Int) > (64 : Int))) ((0 : Int), (8 : Int))
    (lpv ((0 : Int), (0 : Int)) (st_gravity_CheckHeights_0 p0) (0 : Int)))
abbrev pre_gravity_CheckHeights (p0 : (List (Int × Int))) : List Prop := [(((decide ((((List.length p0) : Nat) : Int) > (64 : Int))) = false) → (OkL (st_gravity_CheckHeights_0 p0) (sp_gravity_CheckHeights_0 p0) (0 : Int)))]
set_option maxHeartbeats 4000000 in
theorem d_gravity_CheckHeights (p0 : (List (Int × Int))) (K : (Int × Int) → Prop) (hp : ∀ p ∈ pre_gravity_CheckHeights p0, p) (h : K (s_gravity_CheckHeights p0)) : w_gravity_CheckHeights p0 K := by
  unfold w_gravity_CheckHeights
  unfold s_gravity_CheckHeights at h
  obtain ⟨hp0, _⟩ := conj_of hp
  exact (br' h (fun e0 h => h)
    (fun e0 h => (loop_gen (hp0 e0) h (fun y1 k1 hp h => by
  unfold st_gravity_CheckHeights_0 at h; obtain ⟨hp0, hp1, _⟩ := conj_of hp
  exact (br' h (fun e2 h => ⟨(hp0 e2), ⟨(hp1 e2), (br' h (fun e3 h => h)
    (fun e3 h => h))⟩⟩)
    (fun e2 h => h))))))
theorem l_gravity_CheckHeights_0 (p0 : List (Int × Int)) (hl : lenOk p0) : OkL (st_gravity_CheckHeights_0 p0) (sp_gravity_CheckHeights_0 p0) 0 ∧ lpv ((0 : Int), (0 : Int)) (st_gravity_CheckHeights_0 p0) 0 = v_scan (fun i x => cond (s_gravity_rangeErr x 1000000 != 0) (some (i, s_gravity_rangeErr x 1000000)) none) ((0 : Int), (0 : Int)) 0 p0 := by
  refine scan_is p0 (0, 0) (fun i x => cond (s_gravity_rangeErr x 1000000 != 0) (some (i, s_gravity_rangeErr x 1000000)) none) ((0 : Int), (0 : Int)) hl ?_ ?_
  · refine ⟨by simp only [sp_gravity_CheckHeights_0, List.forall_mem_cons, decide_eq_true_eq]; simp, by simp [st_gravity_CheckHeights_0]⟩
  · intro j hj
    have hj' : (j : Int) < p0.length := by omega
    refine ⟨by simp only [sp_gravity_CheckHeights_0, List.forall_mem_cons, decide_eq_true_eq, Int.toNat_natCast]; simp <;> omega, ?_⟩
    simp only [st_gravity_CheckHeights_0, hj', decide_true, Int.toNat_natCast, cond_true, wrap_nat (show (j : Int) ≤ 9223372036854775806 by unfold lenOk at hl; omega)]
    generalize p0.getD j (0, 0) = x
    cases (s_gravity_rangeErr x 1000000 != 0) <;> rfl
/-- The error of ranges, with an index. -/
def v_heights (p0 : List (Int × Int)) : Int × Int := cond (decide ((p0.length : Int) > 64)) (0, 8) (v_scan (fun i x => cond (s_gravity_rangeErr x 1000000 != 0) (some (i, s_gravity_rangeErr x 1000000)) none) ((0 : Int), (0 : Int)) 0 p0)
abbrev t_gravity_CheckHeights (p0 : List (Int × Int)) : Int × Int := v_heights p0
abbrev qre_gravity_CheckHeights (_ : List (Int × Int)) : List Prop := []
theorem pp_gravity_CheckHeights (p0 : List (Int × Int)) (_ : ∀ p ∈ qre_gravity_CheckHeights p0, p) : ∀ p ∈ pre_gravity_CheckHeights p0, p := by
  simp only [pre_gravity_CheckHeights, List.forall_mem_cons]
  refine ⟨fun h => (l_gravity_CheckHeights_0 p0 (lenOk_le (n := 64) ?_ (by decide))).1, by simp⟩
  have := of_decide_eq_false h; omega
theorem tt_gravity_CheckHeights (p0 : List (Int × Int)) (_ : ∀ p ∈ qre_gravity_CheckHeights p0, p) : s_gravity_CheckHeights p0 = t_gravity_CheckHeights p0 := by
  unfold s_gravity_CheckHeights t_gravity_CheckHeights v_heights
  cases h : decide ((p0.length : Int) > 64)
  · have := of_decide_eq_false h
    exact (l_gravity_CheckHeights_0 p0 (lenOk_le (n := 64) (by omega) (by decide))).2
  · rfl
structure v_hok (p0 : List (Int × Int)) : Prop where
  len : p0.length ≤ 64
  all : ∀ x ∈ p0, (-1000000 ≤ x.1 ∧ x.1 ≤ 1000000) ∧ (-1000000 ≤ x.2 ∧ x.2 ≤ 1000000) ∧ x.1 ≤ x.2
theorem tx_range {x : Int × Int} {m : Int} (hm : 0 ≤ m ∧ m ≤ 1000000000) (h : s_gravity_rangeErr x m = 0) : (-m ≤ x.1 ∧ x.1 ≤ m) ∧ (-m ≤ x.2 ∧ x.2 ≤ m) ∧ x.1 ≤ x.2 := by
  unfold s_gravity_rangeErr s_gravity_isSized at h
  have e : IntKind.i64.wrap (0 - m) = -m := by rw [wrap_id (by omega) (by omega)]; omega
  rw [e] at h
  obtain ⟨h1, h⟩ := v_first0 h
  obtain ⟨h2, _⟩ := v_first0 h
  cases a : s_gravity_within x.1 (-m) m <;> cases b : s_gravity_within x.2 (-m) m <;> by_cases c : x.1 ≤ x.2 <;> simp [s_gravity_unless, a, b, c] at h1 h2
  exact ⟨tx_within.1 a, tx_within.1 b, c⟩
theorem tx_heights {p0 : List (Int × Int)} (h : (v_heights p0).2 = 0) : v_hok p0 := by
  unfold v_heights at h
  cases hl : decide ((p0.length : Int) > 64)
  · rw [hl] at h
    have hl' := of_decide_eq_false hl
    refine ⟨by omega, fun x hx => ?_⟩
    have := v_scan_end (P := fun (r : Int × Int) => r.2 = 0) p0 0 h (fun j x v _ hv => by
      cases hb : (s_gravity_rangeErr x 1000000 != 0) <;> rw [hb] at hv <;> simp only [cond_true, cond_false, Option.some.injEq, reduceCtorEq] at hv
      subst hv; simpa using hb)
    obtain ⟨k, hk, rfl⟩ := List.mem_iff_getElem.1 hx
    have := this k hk
    cases hb : (s_gravity_rangeErr p0[k] 1000000 != 0)
    · exact tx_range (m := 1000000) (by decide) (bne0' hb)
    · rw [hb] at this; cases this
  · rw [hl] at h; cases h

abbrev con_gravity_CheckHeights : Con := ⟨P_gravity_CheckHeights, R_gravity_CheckHeights, fun x => qre_gravity_CheckHeights x, fun x => t_gravity_CheckHeights x⟩
theorem ok_gravity_CheckHeights : ConOk Tryd.prog 27 con_gravity_CheckHeights := ⟨k_gravity_CheckHeights, fun x hx => ret_tf (ps := P_gravity_CheckHeights) (rs := R_gravity_CheckHeights) (x := x) (y := t_gravity_CheckHeights x) e_gravity_CheckHeights hC_gravity_CheckHeights (tf_of (w_gravity_CheckHeights_eq x (fun z => z = t_gravity_CheckHeights x)) (d_gravity_CheckHeights x (fun z => z = t_gravity_CheckHeights x) (pp_gravity_CheckHeights x hx) (tt_gravity_CheckHeights x hx)))⟩
/- gravity_rangesErr -/
def C_gravity_rangesErr : Cons := [(27, [], con_gravity_CheckHeights)]
theorem hC_gravity_rangesErr : ConsOk Tryd.prog C_gravity_rangesErr := ConsOk.cons ok_gravity_CheckHeights <| ConsOk.nil
def w_gravity_rangesErr (p0 : (List (Int × Int))) (K : Int → Prop) : Prop :=
  (K (v_heights p0).2)
set_option maxHeartbeats 4000000 in
theorem w_gravity_rangesErr_eq (p0 : (List (Int × Int))) (K : Int → Prop) : tfn F_gravity_rangesErr A_gravity_rangesErr C_gravity_rangesErr P_gravity_rangesErr R_gravity_rangesErr p0 K = w_gravity_rangesErr p0 K := by kernel_rfl
def s_gravity_rangesErr (p0 : (List (Int × Int))) : Int :=
  (v_heights p0).2
abbrev pre_gravity_rangesErr (p0 : (List (Int × Int))) : List Prop := []
set_option maxHeartbeats 4000000 in
theorem d_gravity_rangesErr (p0 : (List (Int × Int))) (K : Int → Prop) (hp : ∀ p ∈ pre_gravity_rangesErr p0, p) (h : K (s_gravity_rangesErr p0)) : w_gravity_rangesErr p0 K := by
  unfold w_gravity_rangesErr
  unfold s_gravity_rangesErr at h
  exact h
abbrev con_gravity_rangesErr : Con := ⟨P_gravity_rangesErr, R_gravity_rangesErr, fun x => pre_gravity_rangesErr x, fun x => s_gravity_rangesErr x⟩
theorem ok_gravity_rangesErr : ConOk Tryd.prog 99 con_gravity_rangesErr := ⟨k_gravity_rangesErr, fun x hx => ret_tf (ps := P_gravity_rangesErr) (rs := R_gravity_rangesErr) (x := x) (y := s_gravity_rangesErr x) e_gravity_rangesErr hC_gravity_rangesErr (tf_of (w_gravity_rangesErr_eq x (fun z => z = s_gravity_rangesErr x)) (d_gravity_rangesErr x (fun z => z = s_gravity_rangesErr x) hx rfl))⟩
/- gravity_windows -/
def C_gravity_windows : Cons := []
theorem hC_gravity_windows : ConsOk Tryd.prog C_gravity_windows := ConsOk.nil
def w_gravity_windows (p0 : (List (Int × Int))) (p1 : Int) (K : ((List (Int × Int)) × (Int × PUnit)) → Prop) : Prop :=
  (K (p0, (p1, ())))
set_option maxHeartbeats 4000000 in
theorem w_gravity_windows_eq (p0 : (List (Int × Int))) (p1 : Int) (K : ((List (Int × Int)) × (Int × PUnit)) → Prop) : tfn F_gravity_windows A_gravity_windows C_gravity_windows P_gravity_windows R_gravity_windows (p0, p1) K = w_gravity_windows p0 p1 K := by kernel_rfl
def s_gravity_windows (p0 : (List (Int × Int))) (p1 : Int) : ((List (Int × Int)) × (Int × PUnit)) :=
  (p0, (p1, ()))
abbrev pre_gravity_windows (p0 : (List (Int × Int))) (p1 : Int) : List Prop := []
set_option maxHeartbeats 4000000 in
theorem d_gravity_windows (p0 : (List (Int × Int))) (p1 : Int) (K : ((List (Int × Int)) × (Int × PUnit)) → Prop) (hp : ∀ p ∈ pre_gravity_windows p0 p1, p) (h : K (s_gravity_windows p0 p1)) : w_gravity_windows p0 p1 K := by
  unfold w_gravity_windows
  unfold s_gravity_windows at h
  exact h
abbrev con_gravity_windows : Con := ⟨P_gravity_windows, R_gravity_windows, fun x => pre_gravity_windows x.1 x.2, fun x => s_gravity_windows x.1 x.2⟩
theorem ok_gravity_windows : ConOk Tryd.prog 100 con_gravity_windows := ⟨k_gravity_windows, fun x hx => ret_tf (ps := P_gravity_windows) (rs := R_gravity_windows) (x := x) (y := s_gravity_windows x.1 x.2) e_gravity_windows hC_gravity_windows (tf_of (w_gravity_windows_eq x.1 x.2 (fun z => z = s_gravity_windows x.1 x.2)) (d_gravity_windows x.1 x.2 (fun z => z = s_gravity_windows x.1 x.2) hx rfl))⟩
/- gravity_windows_1 -/
/-- So many that follow one another, at each place. -/
def v_windows (l : List (Int × Int)) (c : Int) : List (Int × List (Int × Int)) := (List.range (max 0 ((l.length : Int) - c + 1)).toNat).map fun (k : Nat) => ((k : Int), (l.drop k).take c.toNat)
theorem v_windows_eq (l : List (Int × Int)) (c : Int) (hc : 1 ≤ c) : v_wins (l.map (Ty.enc (.pr (.int .i64) (.int .i64)))) false c = (v_windows l c).map (valPs [.one (.int .i64), .one (.sl (.pr (.int .i64) (.int .i64)))]) := by
  unfold v_wins v_windows
  rw [List.map_map, List.length_map]
  refine List.map_congr_left fun k _ => ?_
  simp only [Function.comp, valPs, valP, Ty.enc, Bool.false_and, List.map_take, List.map_drop, Ty.n]
  rw [show ((k : Int) + c).toNat - (k : Int).toNat = c.toNat by omega]
abbrev con_gravity_windows_1 : Con := ⟨.fn 130 [.sl (.pr (.int .i64) (.int .i64)), .int .i64] :: .one (.int .i64) :: [.one (.sl (.pr (.int .i64) (.int .i64)))], [.one (.sl (tyPs (.one (.int .i64) :: [.one (.sl (.pr (.int .i64) (.int .i64)))])))], fun x => [1 ≤ x.1.2.1, x.1.2.1 ≤ 1000000, x.1.1.length ≤ 1000000], fun x => v_windows x.1.1 x.1.2.1⟩
theorem ok_gravity_windows_1 : ConIOk Tryd.prog 130 con_gravity_windows_1 := by
  refine ⟨rfl, k_gravity_windows_1, rfl, fun x hx => ?_⟩
  obtain ⟨h1, h2, h3, _⟩ := conj_of hx
  show Iter Tryd.prog 130 [[.sl 2 (x.1.map (Ty.enc (.pr (.int .i64) (.int .i64)))) false], [.int .i64 x.2.1]] ((v_windows x.1 x.2.1).map (valPs [.one (.int .i64), .one (.sl (.pr (.int .i64) (.int .i64)))]))
  rw [← v_windows_eq x.1 x.2.1 h1]
  exact it_windows _ false x.2.1 h1 h2 (by rw [List.length_map]; exact h3)
/- gravity_linear -/
def C_gravity_linear : Cons := []
theorem hC_gravity_linear : ConsOk Tryd.prog C_gravity_linear := ConsOk.nil
def w_gravity_linear (p0 : (List Int)) (p1 : (List (Int × Int))) (K : (Int × Int) → Prop) : Prop :=
  (∃ n0, (loopP (fun (y1 : (Int × (Int × Int))) k2 =>
    ((((decide (y1.1 < (((List.length p0) : Nat) : Int))) = true) →
    (((0 : Int) ≤ y1.1) ∧
      ((y1.1 < (((List.length p0) : Nat) : Int)) ∧
      (((0 : Int) ≤ y1.1) ∧
      ((y1.1 < (((List.length p1) : Nat) : Int)) ∧
      (((0 : Int) ≤ y1.1) ∧
      ((y1.1 < (((List.length p1) : Nat) : Int)) ∧
      (k2 ((Go.IntKind.wrap .i64 (y1.1 + (1 : Int))), ((Go.IntKind.wrap .i64 (y1.2.1 + (min (Go.IntKind.wrap .i64 ((List.getD p0 (Int.toNat y1.1) (0 : Int)) * (List.getD p1 (Int.toNat y1.1) ((0 : Int), (0 : Int))).1)) (Go.IntKind.wrap .i64 ((List.getD p0 (Int.toNat y1.1) (0 : Int)) * (List.getD p1 (Int.toNat y1.1) ((0 : Int), (0 : Int))).2))))), (Go.IntKind.wrap .i64 (y1.2.2 + (max (Go.IntKind.wrap .i64 ((List.getD p0 (Int.toNat y1.1) (0 : Int)) * (List.getD p1 (Int.toNat y1.1) ((0 : Int), (0 : Int))).1)) (Go.IntKind.wrap .i64 ((List.getD p0 (Int.toNat y1.1) (0 : Int)) * (List.getD p1 (Int.toNat y1.1) ((0 : Int), (0 : Int))).2))))))))))))))) ∧
    (((decide (y1.1 < (((List.length p0) : Nat) : Int))) = false) →
    (K y1.2)))) n0 ((0 : Int), ((0 : Int), (0 : Int)))))
set_option maxHeartbeats 4000000 in
theorem w_gravity_linear_eq (p0 : (List Int)) (p1 : (List (Int × Int))) (K : (Int × Int) → Prop) : tfn F_gravity_linear A_gravity_linear C_gravity_linear P_gravity_linear R_gravity_linear (p0, p1) K = w_gravity_linear p0 p1 K := by kernel_rfl
def st_gravity_linear_0 (p0 : (List Int)) (p1 : (List (Int × Int))) (y0 : (Int × (Int × Int))) : (Int × (Int × Int)) ⊕ (Int × Int) :=
  (cond (decide (y0.1 < (((List.length p0) : Nat) : Int))) (Sum.inl ((Go.IntKind.wrap .i64 (y0.1 + (1 : Int))), ((Go.IntKind.wrap .i64 (y0.2.1 + (min (Go.IntKind.wrap .i64 ((List.getD p0 (Int.toNat y0.1) (0 : Int)) * (List.getD p1 (Int.toNat y0.1) ((0 : Int), (0 : Int))).1)) (Go.IntKind.wrap .i64 ((List.getD p0 (Int.toNat y0.1) (0 : Int)) * (List.getD p1 (Int.toNat y0.1) ((0 : Int), (0 : Int))).2))))), (Go.IntKind.wrap .i64 (y0.2.2 + (max (Go.IntKind.wrap .i64 ((List.getD p0 (Int.toNat y0.1) (0 : Int)) * (List.getD p1 (Int.toNat y0.1) ((0 : Int), (0 : Int))).1)) (Go.IntKind.wrap .i64 ((List.getD p0 (Int.toNat y0.1) (0 : Int)) * (List.getD p1 (Int.toNat y0.1) ((0 : Int), (0 : Int))).2))))))))
    (Sum.inr y0.2))
abbrev sp_gravity_linear_0 (p0 : (List Int)) (p1 : (List (Int × Int))) (y0 : (Int × (Int × Int))) : List Prop := [(((decide (y0.1 < (((List.length p0) : Nat) : Int))) = true) → ((0 : Int) ≤ y0.1)),
    (((decide (y0.1 < (((List.length p0) : Nat) : Int))) = true) → (y0.1 < (((List.length p0) : Nat) : Int))),
    (((decide (y0.1 < (((List.length p0) : Nat) : Int))) = true) → (y0.1 < (((List.length p1) : Nat) : Int)))]
def s_gravity_linear (p0 : (List Int)) (p1 : (List (Int × Int))) : (Int × Int) :=
  (lpv ((0 : Int), (0 : Int)) (st_gravity_linear_0 p0 p1) ((0 : Int), ((0 : Int), (0 : Int))))
abbrev pre_gravity_linear (p0 : (List Int)) (p1 : (List (Int × Int))) : List Prop := [(OkL (st_gravity_linear_0 p0 p1) (sp_gravity_linear_0 p0 p1) ((0 : Int), ((0 : Int), (0 : Int))))]
set_option maxHeartbeats 4000000 in
theorem d_gravity_linear (p0 : (List Int)) (p1 : (List (Int × Int))) (K : (Int × Int) → Prop) (hp : ∀ p ∈ pre_gravity_linear p0 p1, p) (h : K (s_gravity_linear p0 p1)) : w_gravity_linear p0 p1 K := by
  unfold w_gravity_linear
  unfold s_gravity_linear at h
  obtain ⟨hp0, _⟩ := conj_of hp
  exact (loop_gen (hp0) h (fun y0 k0 hp h => by
  unfold st_gravity_linear_0 at h; obtain ⟨hp0, hp1, hp2, _⟩ := conj_of hp
  exact (br' h (fun e1 h => ⟨(hp0 e1), ⟨(hp1 e1), ⟨(hp0 e1), ⟨(hp2 e1), ⟨(hp0 e1), ⟨(hp2 e1), h⟩⟩⟩⟩⟩⟩)
    (fun e1 h => h))))
/-- The range of the sum of weights times numbers within ranges. -/
def v_lin : List Int → List (Int × Int) → Int × Int
  | w :: ws, x :: xs => (min (w * x.1) (w * x.2) + (v_lin ws xs).1, max (w * x.1) (w * x.2) + (v_lin ws xs).2)
  | _, _ => (0, 0)
theorem v_prod {w x m : Int} (hw : -m ≤ w ∧ w ≤ m) (hx : -1000000 ≤ x ∧ x ≤ 1000000) (hm : 0 ≤ m) : -(m * 1000000) ≤ w * x ∧ w * x ≤ m * 1000000 := by
  have h1 : 0 ≤ (m - w) * (1000000 + x) := Int.mul_nonneg (by omega) (by omega)
  have h2 : 0 ≤ (m + w) * (1000000 - x) := Int.mul_nonneg (by omega) (by omega)
  have h3 : 0 ≤ (m - w) * (1000000 - x) := Int.mul_nonneg (by omega) (by omega)
  have h4 : 0 ≤ (m + w) * (1000000 + x) := Int.mul_nonneg (by omega) (by omega)
  simp only [Int.sub_mul, Int.add_mul, Int.mul_add, Int.mul_sub] at h1 h2 h3 h4
  omega
/-- Weights, and numbers within ranges, whose sums fit. -/
structure v_linok (p0 : List Int) (p1 : List (Int × Int)) : Prop where
  len : p0.length ≤ p1.length
  few : p0.length ≤ 100
  w : ∀ x ∈ p0, -1000000 ≤ x ∧ x ≤ 1000000
  x : ∀ x ∈ p1, (-1000000 ≤ x.1 ∧ x.1 ≤ 1000000) ∧ (-1000000 ≤ x.2 ∧ x.2 ≤ 1000000)
theorem l_gravity_linear (p0 : List Int) (p1 : List (Int × Int)) (h : v_linok p0 p1) : OkL (st_gravity_linear_0 p0 p1) (sp_gravity_linear_0 p0 p1) (0, 0, 0) ∧ s_gravity_linear p0 p1 = v_lin p0 p1 := by
  have hf := h.few
  have hle := h.len
  have := list_is (dd := ((0 : Int), (0 : Int))) (st := st_gravity_linear_0 p0 p1) (sp := sp_gravity_linear_0 p0 p1) (fun i (t : Int × Int) => (i, t)) p0 0
    (fun r t => r.length ≤ p0.length ∧ (-((p0.length - r.length) * 1000000000000) ≤ t.1 ∧ t.1 ≤ ((p0.length - r.length) * 1000000000000)) ∧ (-((p0.length - r.length) * 1000000000000) ≤ t.2 ∧ t.2 ≤ ((p0.length - r.length) * 1000000000000)))
    (fun r t => (t.1 + (v_lin r (p1.drop (p0.length - r.length))).1, t.2 + (v_lin r (p1.drop (p0.length - r.length))).2)) (by unfold lenOk; omega) ?_ ?_ (0, 0) ⟨Nat.le_refl _, by simp, by simp⟩
  · refine ⟨this.1, this.2.trans ?_⟩
    simp
  · intro t _
    refine ⟨by simp only [sp_gravity_linear_0, List.forall_mem_cons, decide_eq_true_eq]; simp, by simp [st_gravity_linear_0, v_lin]⟩
  · intro j t hj hi
    obtain ⟨_, hi1, hi2⟩ := hi
    have hj' : (j : Int) < p0.length := by omega
    have e1 : (p0.getD j 0 :: p0.drop (j + 1)).length = p0.length - j := by simp; omega
    have e2 : (p0.drop (j + 1)).length = p0.length - (j + 1) := by simp
    have e3 : p0.length - (p0.length - j) = j := by omega
    have e4 : p0.length - (p0.length - (j + 1)) = j + 1 := by omega
    rw [e1] at hi1 hi2
    have hw := h.w _ (getD_mem' 0 hj)
    have hx := h.x _ (getD_mem' (0, 0) (show j < p1.length by omega))
    have hd := drop_getD ((0 : Int), (0 : Int)) (show j < p1.length by omega)
    refine ⟨by simp only [sp_gravity_linear_0, List.forall_mem_cons, decide_eq_true_eq]; simp <;> omega, .inl ⟨(t.1 + min (p0.getD j 0 * (p1.getD j (0, 0)).1) (p0.getD j 0 * (p1.getD j (0, 0)).2), t.2 + max (p0.getD j 0 * (p1.getD j (0, 0)).1) (p0.getD j 0 * (p1.getD j (0, 0)).2)), ?_, ?_, ?_⟩⟩
    · simp only [st_gravity_linear_0, hj', decide_true, Int.toNat_natCast, cond_true, wrap_nat (show (j : Int) ≤ 9223372036854775806 by omega)]
      generalize p0.getD j 0 = w at *
      generalize p1.getD j (0, 0) = x at *
      have b1 := v_prod (m := 1000000) hw hx.1 (by decide)
      have b2 := v_prod (m := 1000000) hw hx.2 (by decide)
      rw [wrap_id (n := w * x.1) (by omega) (by omega), wrap_id (n := w * x.2) (by omega) (by omega), wrap_id (by omega) (by omega), wrap_id (by omega) (by omega)]
    · rw [e2]
      generalize p0.getD j 0 = w at *
      generalize p1.getD j (0, 0) = x at *
      have b1 := v_prod (m := 1000000) hw hx.1 (by decide)
      have b2 := v_prod (m := 1000000) hw hx.2 (by decide)
      exact ⟨by omega, by simp only; omega, by simp only; omega⟩
    · rw [e1, e2, e3, e4, hd]
      simp only [v_lin]
      rw [Prod.mk.injEq]
      exact ⟨by omega, by omega⟩
abbrev t_gravity_linear (p0 : List Int) (p1 : List (Int × Int)) : Int × Int := v_lin p0 p1
abbrev qre_gravity_linear (p0 : List Int) (p1 : List (Int × Int)) : List Prop := [v_linok p0 p1]
theorem pp_gravity_linear (p0 : List Int) (p1 : List (Int × Int)) (hq : ∀ p ∈ qre_gravity_linear p0 p1, p) : ∀ p ∈ pre_gravity_linear p0 p1, p := by
  simp only [pre_gravity_linear, List.forall_mem_cons]
  exact ⟨(l_gravity_linear p0 p1 (conj_of hq).1).1, by simp⟩
theorem tt_gravity_linear (p0 : List Int) (p1 : List (Int × Int)) (hq : ∀ p ∈ qre_gravity_linear p0 p1, p) : s_gravity_linear p0 p1 = t_gravity_linear p0 p1 := (l_gravity_linear p0 p1 (conj_of hq).1).2

abbrev con_gravity_linear : Con := ⟨P_gravity_linear, R_gravity_linear, fun x => qre_gravity_linear x.1 x.2, fun x => t_gravity_linear x.1 x.2⟩
theorem ok_gravity_linear : ConOk Tryd.prog 101 con_gravity_linear := ⟨k_gravity_linear, fun x hx => ret_tf (ps := P_gravity_linear) (rs := R_gravity_linear) (x := x) (y := t_gravity_linear x.1 x.2) e_gravity_linear hC_gravity_linear (tf_of (w_gravity_linear_eq x.1 x.2 (fun z => z = t_gravity_linear x.1 x.2)) (d_gravity_linear x.1 x.2 (fun z => z = t_gravity_linear x.1 x.2) (pp_gravity_linear x.1 x.2 hx) (tt_gravity_linear x.1 x.2 hx)))⟩
/- gravity_AccelerationsOf -/
def C_gravity_AccelerationsOf : Cons := [(99, [], con_gravity_rangesErr), (89, [], con_gravity_unless), (88, [], con_gravity_first), (100, [], con_gravity_windows), (130, itMark, con_gravity_windows_1), (101, [], con_gravity_linear)]
theorem hC_gravity_AccelerationsOf : ConsOk Tryd.prog C_gravity_AccelerationsOf := ConsOk.cons ok_gravity_rangesErr <| ConsOk.cons ok_gravity_unless <| ConsOk.cons ok_gravity_first <| ConsOk.cons ok_gravity_windows <| ConsOk.consI ok_gravity_windows_1 <| ConsOk.cons ok_gravity_linear <| ConsOk.nil
def w_gravity_AccelerationsOf (p0 : (List (Int × Int))) (K : ((List (Int × Int)) × Int) → Prop) : Prop :=
  ((lenOk ((s_gravity_rangesErr p0) :: ((s_gravity_unless (decide ((((List.length p0) : Nat) : Int) ≥ (3 : Int))) (10 : Int)) :: ([] : List Int)))) ∧
  (((((v_first ((s_gravity_rangesErr p0) :: ((s_gravity_unless (decide ((((List.length p0) : Nat) : Int) ≥ (3 : Int))) (10 : Int)) :: ([] : List Int)))) != (0 : Int)) = true) →
  (K (([] : List (Int × Int)), (v_first ((s_gravity_rangesErr p0) :: ((s_gravity_unless (decide ((((List.length p0) : Nat) : Int) ≥ (3 : Int))) (10 : Int)) :: ([] : List Int))))))) ∧
  ((((v_first ((s_gravity_rangesErr p0) :: ((s_gravity_unless (decide ((((List.length p0) : Nat) : Int) ≥ (3 : Int))) (10 : Int)) :: ([] : List Int)))) != (0 : Int)) = false) →
  (((1 : Int) ≤ (3 : Int)) ∧
    (((3 : Int) ≤ (1000000 : Int)) ∧
    (((List.length p0) ≤ 1000000) ∧
    (RngP (fun (y0 : (List (Int × Int))) (z1 : (Int × (List (Int × Int)))) k2 =>
      ((v_linok ((1 : Int) :: ((-2 : Int) :: ((1 : Int) :: ([] : List Int)))) z1.2) ∧
      (((((List.length y0) + (List.length ((v_lin ((1 : Int) :: ((-2 : Int) :: ((1 : Int) :: ([] : List Int)))) z1.2) :: ([] : List (Int × Int))))) * 16) ≤ 140737488355328) ∧
      (k2 (y0 ++ ((v_lin ((1 : Int) :: ((-2 : Int) :: ((1 : Int) :: ([] : List Int)))) z1.2) :: ([] : List (Int × Int))))))))
      (fun (s3 : (List (Int × Int))) => (K (s3, (0 : Int)))) (v_windows p0 (3 : Int)) ([] : List (Int × Int)))))))))
set_option maxHeartbeats 4000000 in
theorem w_gravity_AccelerationsOf_eq (p0 : (List (Int × Int))) (K : ((List (Int × Int)) × Int) → Prop) : tfn F_gravity_AccelerationsOf A_gravity_AccelerationsOf C_gravity_AccelerationsOf P_gravity_AccelerationsOf R_gravity_AccelerationsOf p0 K = w_gravity_AccelerationsOf p0 K := by kernel_rfl
def st_gravity_AccelerationsOf_0 (p0 : (List (Int × Int))) (y1 : (List (Int × Int))) (z1 : (Int × (List (Int × Int)))) : (List (Int × Int)) ⊕ ((List (Int × Int)) × Int) :=
  (Sum.inl (y1 ++ ((v_lin ((1 : Int) :: ((-2 : Int) :: ((1 : Int) :: ([] : List Int)))) z1.2) :: ([] : List (Int × Int)))))
abbrev sp_gravity_AccelerationsOf_0 (p0 : (List (Int × Int))) (y1 : (List (Int × Int))) (z1 : (Int × (List (Int × Int)))) : List Prop := [(v_linok ((1 : Int) :: ((-2 : Int) :: ((1 : Int) :: ([] : List Int)))) z1.2),
    ((((List.length y1) + (List.length ((v_lin ((1 : Int) :: ((-2 : Int) :: ((1 : Int) :: ([] : List Int)))) z1.2) :: ([] : List (Int × Int))))) * 16) ≤ 140737488355328)]
def sf_gravity_AccelerationsOf_0 (p0 : (List (Int × Int))) (s1 : (List (Int × Int))) : ((List (Int × Int)) × Int) :=
  (s1, (0 : Int))
abbrev sq_gravity_AccelerationsOf_0 (p0 : (List (Int × Int))) (s1 : (List (Int × Int))) : List Prop := []
def s_gravity_AccelerationsOf (p0 : (List (Int × Int))) : ((List (Int × Int)) × Int) :=
  (cond ((v_first ((s_gravity_rangesErr p0) :: ((s_gravity_unless (decide ((((List.length p0) : Nat) : Int) ≥ (3 : Int))) (10 : Int)) :: ([] : List Int)))) != (0 : Int)) (([] : List (Int × Int)), (v_first ((s_gravity_rangesErr p0) :: ((s_gravity_unless (decide ((((List.length p0) : Nat) : Int) ≥ (3 : Int))) (10 : Int)) :: ([] : List Int)))))
    (rngV (st_gravity_AccelerationsOf_0 p0) (sf_gravity_AccelerationsOf_0 p0) (v_windows p0 (3 : Int)) ([] : List (Int × Int))))
abbrev pre_gravity_AccelerationsOf (p0 : (List (Int × Int))) : List Prop := [((((v_first ((s_gravity_rangesErr p0) :: ((s_gravity_unless (decide ((((List.length p0) : Nat) : Int) ≥ (3 : Int))) (10 : Int)) :: ([] : List Int)))) != (0 : Int)) = false) → ((List.length p0) ≤ 1000000)),
    ((((v_first ((s_gravity_rangesErr p0) :: ((s_gravity_unless (decide ((((List.length p0) : Nat) : Int) ≥ (3 : Int))) (10 : Int)) :: ([] : List Int)))) != (0 : Int)) = false) → (OkR (st_gravity_AccelerationsOf_0 p0) (sp_gravity_AccelerationsOf_0 p0) (sq_gravity_AccelerationsOf_0 p0) (v_windows p0 (3 : Int)) ([] : List (Int × Int))))]
set_option maxHeartbeats 4000000 in
theorem d_gravity_AccelerationsOf (p0 : (List (Int × Int))) (K : ((List (Int × Int)) × Int) → Prop) (hp : ∀ p ∈ pre_gravity_AccelerationsOf p0, p) (h : K (s_gravity_AccelerationsOf p0)) : w_gravity_AccelerationsOf p0 K := by
  unfold w_gravity_AccelerationsOf
  unfold s_gravity_AccelerationsOf at h
  obtain ⟨hp0, hp1, _⟩ := conj_of hp
  exact ⟨(lenOk_of 2 rfl (by decide)), (br' h (fun e0 h => h)
    (fun e0 h => ⟨(of_decide_eq_true rfl), ⟨(of_decide_eq_true rfl), ⟨(hp0 e0), (rng_gen (hp1 e0) h (fun y1 z1 k1 hp h => by
  unfold st_gravity_AccelerationsOf_0 at h; obtain ⟨hp0, hp1, _⟩ := conj_of hp
  exact ⟨(hp0), ⟨(hp1), h⟩⟩) (fun s1 hp h => by
  unfold sf_gravity_AccelerationsOf_0 at h
  exact h))⟩⟩⟩))⟩
/-- A second difference. -/
def v_sec (a b c : Int × Int) : Int × Int := v_lin [1, -2, 1] [a, b, c]
theorem v_sec_eq {a b c : Int × Int} (ha : a.1 ≤ a.2) (hb : b.1 ≤ b.2) (hc : c.1 ≤ c.2) : v_sec a b c = (c.1 - 2 * b.2 + a.1, c.2 - 2 * b.1 + a.2) := by
  simp only [v_sec, v_lin]
  rw [Prod.mk.injEq]
  exact ⟨by omega, by omega⟩
theorem take3 {l : List (Int × Int)} {k : Nat} (h : k + 2 < l.length) : (l.drop k).take 3 = [l.getD k (0, 0), l.getD (k + 1) (0, 0), l.getD (k + 2) (0, 0)] := by
  rw [drop_getD (0, 0) (show k < l.length by omega), drop_getD (0, 0) (show k + 1 < l.length by omega), drop_getD (0, 0) (show k + 1 + 1 < l.length by omega)]
  rfl
/-- Accelerations. -/
def v_acc (l : List (Int × Int)) : List (Int × Int) := (List.range' 0 (l.length - 2)).map fun k => v_sec (l.getD k (0, 0)) (l.getD (k + 1) (0, 0)) (l.getD (k + 2) (0, 0))
theorem v_windows3 (l : List (Int × Int)) : v_windows l 3 = (List.range (l.length - 2)).map fun (k : Nat) => ((k : Int), [l.getD k (0, 0), l.getD (k + 1) (0, 0), l.getD (k + 2) (0, 0)]) := by
  unfold v_windows
  rw [show (max 0 ((l.length : Int) - 3 + 1)).toNat = l.length - 2 by omega]
  refine List.map_congr_left fun k hk => ?_
  rw [List.mem_range] at hk
  rw [show (3 : Int).toNat = 3 from rfl, take3 (by omega)]
theorem v_win_mem {l : List (Int × Int)} {z : Int × List (Int × Int)} (hz : z ∈ v_windows l 3) (hl : v_hok l) : v_linok [1, -2, 1] z.2 ∧ 0 ≤ z.1 ∧ z.1 + 2 < l.length := by
  rw [v_windows3] at hz
  obtain ⟨k, hk, rfl⟩ := List.mem_map.1 hz
  rw [List.mem_range] at hk
  have hx : ∀ j, j < l.length → (-1000000 ≤ (l.getD j (0, 0)).1 ∧ (l.getD j (0, 0)).1 ≤ 1000000) ∧ (-1000000 ≤ (l.getD j (0, 0)).2 ∧ (l.getD j (0, 0)).2 ≤ 1000000) := fun j hj => ⟨(hl.all _ (getD_mem' _ hj)).1, (hl.all _ (getD_mem' _ hj)).2.1⟩
  refine ⟨⟨by simp, by simp, by simp, ?_⟩, by simp, by simp only; omega⟩
  intro x hx'
  simp only [List.mem_cons, List.not_mem_nil, or_false] at hx'
  rcases hx' with rfl | rfl | rfl <;> exact hx _ (by omega)
theorem l_gravity_AccelerationsOf (p0 : List (Int × Int)) (hl : v_hok p0) : OkR (st_gravity_AccelerationsOf_0 p0) (sp_gravity_AccelerationsOf_0 p0) (sq_gravity_AccelerationsOf_0 p0) (v_windows p0 3) [] ∧ rngV (st_gravity_AccelerationsOf_0 p0) (sf_gravity_AccelerationsOf_0 p0) (v_windows p0 3) [] = (v_acc p0, 0) := by
  have hlen := hl.len
  have := rng_map (st := st_gravity_AccelerationsOf_0 p0) (sp := sp_gravity_AccelerationsOf_0 p0) (fin := sf_gravity_AccelerationsOf_0 p0) (fp := sq_gravity_AccelerationsOf_0 p0) (fun z => v_lin [1, -2, 1] z.2) (v_windows p0 3) (by rw [v_windows3]; simp; omega) (fun y z _ => rfl) ?_ (by simp)
  · refine ⟨this.1, this.2.trans ?_⟩
    unfold sf_gravity_AccelerationsOf_0 v_acc
    rw [v_windows3, List.map_map, List.range_eq_range']; rfl
  · intro y z hz hy
    simp only [sp_gravity_AccelerationsOf_0, List.forall_mem_cons]
    exact ⟨(v_win_mem hz hl).1, by simp; omega, by simp⟩
theorem tx_rangesErr {p0 : List (Int × Int)} (h : s_gravity_rangesErr p0 = 0) : v_hok p0 := tx_heights h
abbrev t_gravity_AccelerationsOf (p0 : List (Int × Int)) : List (Int × Int) × Int := cond (v_first (s_gravity_rangesErr p0 :: s_gravity_unless (decide ((p0.length : Int) ≥ 3)) 10 :: []) != 0) ([], v_first (s_gravity_rangesErr p0 :: s_gravity_unless (decide ((p0.length : Int) ≥ 3)) 10 :: [])) (v_acc p0, 0)
abbrev qre_gravity_AccelerationsOf (_ : List (Int × Int)) : List Prop := []
theorem pp_gravity_AccelerationsOf (p0 : List (Int × Int)) (_ : ∀ p ∈ qre_gravity_AccelerationsOf p0, p) : ∀ p ∈ pre_gravity_AccelerationsOf p0, p := by
  simp only [pre_gravity_AccelerationsOf, List.forall_mem_cons]
  have key : (v_first (s_gravity_rangesErr p0 :: s_gravity_unless (decide ((p0.length : Int) ≥ 3)) 10 :: []) != 0) = false → v_hok p0 := fun h => tx_rangesErr (v_first0 (bne0' h)).1
  exact ⟨fun h => by have := (key h).len; omega, fun h => (l_gravity_AccelerationsOf p0 (key h)).1, by simp⟩
theorem tt_gravity_AccelerationsOf (p0 : List (Int × Int)) (_ : ∀ p ∈ qre_gravity_AccelerationsOf p0, p) : s_gravity_AccelerationsOf p0 = t_gravity_AccelerationsOf p0 := by
  unfold s_gravity_AccelerationsOf t_gravity_AccelerationsOf
  cases h : (v_first (s_gravity_rangesErr p0 :: s_gravity_unless (decide ((p0.length : Int) ≥ 3)) 10 :: []) != 0)
  · simp only [cond_false]
    exact (l_gravity_AccelerationsOf p0 (tx_rangesErr (v_first0 (bne0' h)).1)).2
  · rfl

abbrev con_gravity_AccelerationsOf : Con := ⟨P_gravity_AccelerationsOf, R_gravity_AccelerationsOf, fun x => qre_gravity_AccelerationsOf x, fun x => t_gravity_AccelerationsOf x⟩
theorem ok_gravity_AccelerationsOf : ConOk Tryd.prog 29 con_gravity_AccelerationsOf := ⟨k_gravity_AccelerationsOf, fun x hx => ret_tf (ps := P_gravity_AccelerationsOf) (rs := R_gravity_AccelerationsOf) (x := x) (y := t_gravity_AccelerationsOf x) e_gravity_AccelerationsOf hC_gravity_AccelerationsOf (tf_of (w_gravity_AccelerationsOf_eq x (fun z => z = t_gravity_AccelerationsOf x)) (d_gravity_AccelerationsOf x (fun z => z = t_gravity_AccelerationsOf x) (pp_gravity_AccelerationsOf x hx) (tt_gravity_AccelerationsOf x hx)))⟩
/- base_CopyInts -/
def C_base_CopyInts : Cons := []
theorem hC_base_CopyInts : ConsOk Tryd.prog C_base_CopyInts := ConsOk.nil
def w_base_CopyInts (p0 : (List Int)) (K : (List Int) → Prop) : Prop :=
  (((((List.length ([] : List Int)) + (List.length p0)) * 8) ≤ 140737488355328) ∧
  (K (([] : List Int) ++ p0)))
set_option maxHeartbeats 4000000 in
theorem w_base_CopyInts_eq (p0 : (List Int)) (K : (List Int) → Prop) : tfnO F_base_CopyInts A_base_CopyInts C_base_CopyInts P_base_CopyInts E_base_CopyInts p0 K = w_base_CopyInts p0 K := by kernel_rfl
def s_base_CopyInts (p0 : (List Int)) : (List Int) :=
  (([] : List Int) ++ p0)
abbrev pre_base_CopyInts (p0 : (List Int)) : List Prop := [((((List.length ([] : List Int)) + (List.length p0)) * 8) ≤ 140737488355328)]
set_option maxHeartbeats 4000000 in
theorem d_base_CopyInts (p0 : (List Int)) (K : (List Int) → Prop) (hp : ∀ p ∈ pre_base_CopyInts p0, p) (h : K (s_base_CopyInts p0)) : w_base_CopyInts p0 K := by
  unfold w_base_CopyInts
  unfold s_base_CopyInts at h
  obtain ⟨hp0, _⟩ := conj_of hp
  exact ⟨(hp0), h⟩
abbrev t_base_CopyInts (p0 : List Int) : List Int := p0
abbrev qre_base_CopyInts (p0 : List Int) : List Prop := [p0.length ≤ 1000000]
theorem pp_base_CopyInts (p0 : List Int) (hq : ∀ p ∈ qre_base_CopyInts p0, p) : ∀ p ∈ pre_base_CopyInts p0, p := by
  simp only [pre_base_CopyInts, List.forall_mem_cons]
  have := (conj_of hq).1
  exact ⟨by simp; omega, by simp⟩
theorem tt_base_CopyInts (p0 : List Int) (hq : ∀ p ∈ qre_base_CopyInts p0, p) : s_base_CopyInts p0 = t_base_CopyInts p0 := by
  rfl

abbrev con_base_CopyInts : Con := ⟨P_base_CopyInts, [.one (.sl E_base_CopyInts)], fun x => qre_base_CopyInts x, fun x => t_base_CopyInts x⟩
theorem ok_base_CopyInts : ConOOk Tryd.prog 31 con_base_CopyInts := conO_tf (e := E_base_CopyInts) (ps := P_base_CopyInts) k_base_CopyInts e_base_CopyInts hC_base_CopyInts (fun x hx => tfo_of (w_base_CopyInts_eq x (fun z => z = t_base_CopyInts x)) (d_base_CopyInts x (fun z => z = t_base_CopyInts x) (pp_base_CopyInts x hx) (tt_base_CopyInts x hx)))
/- gravity_readingsErr_1 -/
def C_gravity_readingsErr_1 : Cons := [(93, [], con_gravity_isSized)]
theorem hC_gravity_readingsErr_1 : ConsOk Tryd.prog C_gravity_readingsErr_1 := ConsOk.cons ok_gravity_isSized <| ConsOk.nil
def w_gravity_readingsErr_1 (p0 : Int) (K : Bool → Prop) : Prop :=
  (K (!(s_gravity_isSized p0 (1000000 : Int))))
set_option maxHeartbeats 4000000 in
theorem w_gravity_readingsErr_1_eq (p0 : Int) (K : Bool → Prop) : tfn F_gravity_readingsErr_1 A_gravity_readingsErr_1 C_gravity_readingsErr_1 P_gravity_readingsErr_1 R_gravity_readingsErr_1 p0 K = w_gravity_readingsErr_1 p0 K := by kernel_rfl
def s_gravity_readingsErr_1 (p0 : Int) : Bool :=
  (!(s_gravity_isSized p0 (1000000 : Int)))
abbrev pre_gravity_readingsErr_1 (p0 : Int) : List Prop := []
set_option maxHeartbeats 4000000 in
theorem d_gravity_readingsErr_1 (p0 : Int) (K : Bool → Prop) (hp : ∀ p ∈ pre_gravity_readingsErr_1 p0, p) (h : K (s_gravity_readingsErr_1 p0)) : w_gravity_readingsErr_1 p0 K := by
  unfold w_gravity_readingsErr_1
  unfold s_gravity_readingsErr_1 at h
  exact h
abbrev con_gravity_readingsErr_1 : Con := ⟨P_gravity_readingsErr_1, R_gravity_readingsErr_1, fun x => pre_gravity_readingsErr_1 x, fun x => s_gravity_readingsErr_1 x⟩
theorem ok_gravity_readingsErr_1 : ConOk Tryd.prog 131 con_gravity_readingsErr_1 := ⟨k_gravity_readingsErr_1, fun x hx => ret_tf (ps := P_gravity_readingsErr_1) (rs := R_gravity_readingsErr_1) (x := x) (y := s_gravity_readingsErr_1 x) e_gravity_readingsErr_1 hC_gravity_readingsErr_1 (tf_of (w_gravity_readingsErr_1_eq x (fun z => z = s_gravity_readingsErr_1 x)) (d_gravity_readingsErr_1 x (fun z => z = s_gravity_readingsErr_1 x) hx rfl))⟩
/- slices_IndexFuncint_int__gravity_readingsErr_1 -/
def C_slices_IndexFuncint_int__gravity_readingsErr_1 : Cons := [(131, [], con_gravity_readingsErr_1)]
theorem hC_slices_IndexFuncint_int__gravity_readingsErr_1 : ConsOk Tryd.prog C_slices_IndexFuncint_int__gravity_readingsErr_1 := ConsOk.cons ok_gravity_readingsErr_1 <| ConsOk.nil
def w_slices_IndexFuncint_int__gravity_readingsErr_1 (p0 : (List Int)) (p1 : PUnit) (K : Int → Prop) : Prop :=
  (∃ n0, (loopP (fun (y1 : Int) k2 =>
    ((((decide (y1 < (((List.length p0) : Nat) : Int))) = true) →
    (((0 : Int) ≤ y1) ∧
      ((y1 < (((List.length p0) : Nat) : Int)) ∧
      ((((s_gravity_readingsErr_1 (List.getD p0 (Int.toNat y1) (0 : Int))) = true) →
      (K y1)) ∧
      (((s_gravity_readingsErr_1 (List.getD p0 (Int.toNat y1) (0 : Int))) = false) →
      (k2 (Go.IntKind.wrap .i64 (y1 + (1 : Int))))))))) ∧
    (((decide (y1 < (((List.length p0) : Nat) : Int))) = false) →
    (K (-1 : Int))))) n0 (0 : Int)))
set_option maxHeartbeats 4000000 in
theorem w_slices_IndexFuncint_int__gravity_readingsErr_1_eq (p0 : (List Int)) (p1 : PUnit) (K : Int → Prop) : tfn F_slices_IndexFuncint_int__gravity_readingsErr_1 A_slices_IndexFuncint_int__gravity_readingsErr_1 C_slices_IndexFuncint_int__gravity_readingsErr_1 P_slices_IndexFuncint_int__gravity_readingsErr_1 R_slices_IndexFuncint_int__gravity_readingsErr_1 (p0, p1) K = w_slices_IndexFuncint_int__gravity_readingsErr_1 p0 p1 K := by kernel_rfl
def st_slices_IndexFuncint_int__gravity_readingsErr_1_0 (p0 : (List Int)) (p1 : PUnit) (y0 : Int) : Int ⊕ Int :=
  (cond (decide (y0 < (((List.length p0) : Nat) : Int))) (cond (s_gravity_readingsErr_1 (List.getD p0 (Int.toNat y0) (0 : Int))) (Sum.inr y0)
    (Sum.inl (Go.IntKind.wrap .i64 (y0 + (1 : Int)))))
    (Sum.inr (-1 : Int)))
abbrev sp_slices_IndexFuncint_int__gravity_readingsErr_1_0 (p0 : (List Int)) (p1 : PUnit) (y0 : Int) : List Prop := [(((decide (y0 < (((List.length p0) : Nat) : Int))) = true) → ((0 : Int) ≤ y0)),
    (((decide (y0 < (((List.length p0) : Nat) : Int))) = true) → (y0 < (((List.length p0) : Nat) : Int)))]
def s_slices_IndexFuncint_int__gravity_readingsErr_1 (p0 : (List Int)) (p1 : PUnit) : Int :=
  (lpv (0 : Int) (st_slices_IndexFuncint_int__gravity_readingsErr_1_0 p0 p1) (0 : Int))
abbrev pre_slices_IndexFuncint_int__gravity_readingsErr_1 (p0 : (List Int)) (p1 : PUnit) : List Prop := [(OkL (st_slices_IndexFuncint_int__gravity_readingsErr_1_0 p0 p1) (sp_slices_IndexFuncint_int__gravity_readingsErr_1_0 p0 p1) (0 : Int))]
set_option maxHeartbeats 4000000 in
theorem d_slices_IndexFuncint_int__gravity_readingsErr_1 (p0 : (List Int)) (p1 : PUnit) (K : Int → Prop) (hp : ∀ p ∈ pre_slices_IndexFuncint_int__gravity_readingsErr_1 p0 p1, p) (h : K (s_slices_IndexFuncint_int__gravity_readingsErr_1 p0 p1)) : w_slices_IndexFuncint_int__gravity_readingsErr_1 p0 p1 K := by
  unfold w_slices_IndexFuncint_int__gravity_readingsErr_1
  unfold s_slices_IndexFuncint_int__gravity_readingsErr_1 at h
  obtain ⟨hp0, _⟩ := conj_of hp
  exact (loop_gen (hp0) h (fun y0 k0 hp h => by
  unfold st_slices_IndexFuncint_int__gravity_readingsErr_1_0 at h; obtain ⟨hp0, hp1, _⟩ := conj_of hp
  exact (br' h (fun e1 h => ⟨(hp0 e1), ⟨(hp1 e1), (br' h (fun e2 h => h)
    (fun e2 h => h))⟩⟩)
    (fun e1 h => h))))
theorem l_slices_IndexFuncint_int__gravity_readingsErr_1_0 (p0 : List Int) (p1 : PUnit) (hl : lenOk p0) : OkL (st_slices_IndexFuncint_int__gravity_readingsErr_1_0 p0 p1) (sp_slices_IndexFuncint_int__gravity_readingsErr_1_0 p0 p1) 0 ∧ lpv (0 : Int) (st_slices_IndexFuncint_int__gravity_readingsErr_1_0 p0 p1) 0 = v_scan (fun i x => cond (s_gravity_readingsErr_1 x) (some i) none) (-1 : Int) 0 p0 := by
  refine scan_is p0 0 (fun i x => cond (s_gravity_readingsErr_1 x) (some i) none) (-1 : Int) hl ?_ ?_
  · refine ⟨by simp only [sp_slices_IndexFuncint_int__gravity_readingsErr_1_0, List.forall_mem_cons, decide_eq_true_eq]; simp, by simp [st_slices_IndexFuncint_int__gravity_readingsErr_1_0]⟩
  · intro j hj
    have hj' : (j : Int) < p0.length := by omega
    refine ⟨by simp only [sp_slices_IndexFuncint_int__gravity_readingsErr_1_0, List.forall_mem_cons, decide_eq_true_eq, Int.toNat_natCast]; simp <;> omega, ?_⟩
    simp only [st_slices_IndexFuncint_int__gravity_readingsErr_1_0, hj', decide_true, Int.toNat_natCast, cond_true, wrap_nat (show (j : Int) ≤ 9223372036854775806 by unfold lenOk at hl; omega)]
    generalize p0.getD j 0 = x
    cases s_gravity_readingsErr_1 x <;> rfl
def v_idx_slices_IndexFuncint_int__gravity_readingsErr_1 (p0 : List Int) : Int := v_scan (fun i x => cond (s_gravity_readingsErr_1 x) (some i) none) (-1) 0 p0
abbrev t_slices_IndexFuncint_int__gravity_readingsErr_1 (p0 : List Int) (p1 : PUnit) : Int := v_idx_slices_IndexFuncint_int__gravity_readingsErr_1 p0
abbrev qre_slices_IndexFuncint_int__gravity_readingsErr_1 (p0 : List Int) (p1 : PUnit) : List Prop := [lenOk p0]
theorem pp_slices_IndexFuncint_int__gravity_readingsErr_1 (p0 : List Int) (p1 : PUnit) (hq : ∀ p ∈ qre_slices_IndexFuncint_int__gravity_readingsErr_1 p0 p1, p) : ∀ p ∈ pre_slices_IndexFuncint_int__gravity_readingsErr_1 p0 p1, p := by
  simp only [pre_slices_IndexFuncint_int__gravity_readingsErr_1, List.forall_mem_cons]
  exact ⟨(l_slices_IndexFuncint_int__gravity_readingsErr_1_0 p0 p1 (conj_of hq).1).1, by simp⟩
theorem tt_slices_IndexFuncint_int__gravity_readingsErr_1 (p0 : List Int) (p1 : PUnit) (hq : ∀ p ∈ qre_slices_IndexFuncint_int__gravity_readingsErr_1 p0 p1, p) : s_slices_IndexFuncint_int__gravity_readingsErr_1 p0 p1 = t_slices_IndexFuncint_int__gravity_readingsErr_1 p0 p1 := by
  exact (l_slices_IndexFuncint_int__gravity_readingsErr_1_0 p0 p1 (conj_of hq).1).2

abbrev con_slices_IndexFuncint_int__gravity_readingsErr_1 : Con := ⟨P_slices_IndexFuncint_int__gravity_readingsErr_1, R_slices_IndexFuncint_int__gravity_readingsErr_1, fun x => qre_slices_IndexFuncint_int__gravity_readingsErr_1 x.1 x.2, fun x => t_slices_IndexFuncint_int__gravity_readingsErr_1 x.1 x.2⟩
theorem ok_slices_IndexFuncint_int__gravity_readingsErr_1 : ConOk Tryd.prog 107 con_slices_IndexFuncint_int__gravity_readingsErr_1 := ⟨k_slices_IndexFuncint_int__gravity_readingsErr_1, fun x hx => ret_tf (ps := P_slices_IndexFuncint_int__gravity_readingsErr_1) (rs := R_slices_IndexFuncint_int__gravity_readingsErr_1) (x := x) (y := t_slices_IndexFuncint_int__gravity_readingsErr_1 x.1 x.2) e_slices_IndexFuncint_int__gravity_readingsErr_1 hC_slices_IndexFuncint_int__gravity_readingsErr_1 (tf_of (w_slices_IndexFuncint_int__gravity_readingsErr_1_eq x.1 x.2 (fun z => z = t_slices_IndexFuncint_int__gravity_readingsErr_1 x.1 x.2)) (d_slices_IndexFuncint_int__gravity_readingsErr_1 x.1 x.2 (fun z => z = t_slices_IndexFuncint_int__gravity_readingsErr_1 x.1 x.2) (pp_slices_IndexFuncint_int__gravity_readingsErr_1 x.1 x.2 hx) (tt_slices_IndexFuncint_int__gravity_readingsErr_1 x.1 x.2 hx)))⟩
/- slices_ContainsFuncint_int__gravity_readingsErr_1 -/
def C_slices_ContainsFuncint_int__gravity_readingsErr_1 : Cons := [(107, [131], con_slices_IndexFuncint_int__gravity_readingsErr_1)]
theorem hC_slices_ContainsFuncint_int__gravity_readingsErr_1 : ConsOk Tryd.prog C_slices_ContainsFuncint_int__gravity_readingsErr_1 := ConsOk.cons ok_slices_IndexFuncint_int__gravity_readingsErr_1 <| ConsOk.nil
def w_slices_ContainsFuncint_int__gravity_readingsErr_1 (p0 : (List Int)) (p1 : PUnit) (K : Bool → Prop) : Prop :=
  ((lenOk p0) ∧
  (K (decide ((v_idx_slices_IndexFuncint_int__gravity_readingsErr_1 p0) ≥ (0 : Int)))))
set_option maxHeartbeats 4000000 in
theorem w_slices_ContainsFuncint_int__gravity_readingsErr_1_eq (p0 : (List Int)) (p1 : PUnit) (K : Bool → Prop) : tfn F_slices_ContainsFuncint_int__gravity_readingsErr_1 A_slices_ContainsFuncint_int__gravity_readingsErr_1 C_slices_ContainsFuncint_int__gravity_readingsErr_1 P_slices_ContainsFuncint_int__gravity_readingsErr_1 R_slices_ContainsFuncint_int__gravity_readingsErr_1 (p0, p1) K = w_slices_ContainsFuncint_int__gravity_readingsErr_1 p0 p1 K := by kernel_rfl
def s_slices_ContainsFuncint_int__gravity_readingsErr_1 (p0 : (List Int)) (p1 : PUnit) : Bool :=
  (decide ((v_idx_slices_IndexFuncint_int__gravity_readingsErr_1 p0) ≥ (0 : Int)))
abbrev pre_slices_ContainsFuncint_int__gravity_readingsErr_1 (p0 : (List Int)) (p1 : PUnit) : List Prop := [(lenOk p0)]
set_option maxHeartbeats 4000000 in
theorem d_slices_ContainsFuncint_int__gravity_readingsErr_1 (p0 : (List Int)) (p1 : PUnit) (K : Bool → Prop) (hp : ∀ p ∈ pre_slices_ContainsFuncint_int__gravity_readingsErr_1 p0 p1, p) (h : K (s_slices_ContainsFuncint_int__gravity_readingsErr_1 p0 p1)) : w_slices_ContainsFuncint_int__gravity_readingsErr_1 p0 p1 K := by
  unfold w_slices_ContainsFuncint_int__gravity_readingsErr_1
  unfold s_slices_ContainsFuncint_int__gravity_readingsErr_1 at h
  obtain ⟨hp0, _⟩ := conj_of hp
  exact ⟨(hp0), h⟩
def v_any_slices_ContainsFuncint_int__gravity_readingsErr_1 (p0 : List Int) : Bool := p0.any s_gravity_readingsErr_1
abbrev t_slices_ContainsFuncint_int__gravity_readingsErr_1 (p0 : List Int) (p1 : PUnit) : Bool := v_any_slices_ContainsFuncint_int__gravity_readingsErr_1 p0
abbrev qre_slices_ContainsFuncint_int__gravity_readingsErr_1 (p0 : List Int) (p1 : PUnit) : List Prop := [lenOk p0]
theorem pp_slices_ContainsFuncint_int__gravity_readingsErr_1 (p0 : List Int) (p1 : PUnit) (hq : ∀ p ∈ qre_slices_ContainsFuncint_int__gravity_readingsErr_1 p0 p1, p) : ∀ p ∈ pre_slices_ContainsFuncint_int__gravity_readingsErr_1 p0 p1, p := by
  simpa only [pre_slices_ContainsFuncint_int__gravity_readingsErr_1] using hq
theorem tt_slices_ContainsFuncint_int__gravity_readingsErr_1 (p0 : List Int) (p1 : PUnit) (hq : ∀ p ∈ qre_slices_ContainsFuncint_int__gravity_readingsErr_1 p0 p1, p) : s_slices_ContainsFuncint_int__gravity_readingsErr_1 p0 p1 = t_slices_ContainsFuncint_int__gravity_readingsErr_1 p0 p1 := by
  unfold s_slices_ContainsFuncint_int__gravity_readingsErr_1 t_slices_ContainsFuncint_int__gravity_readingsErr_1 v_any_slices_ContainsFuncint_int__gravity_readingsErr_1
  exact v_scan_idx p0 0 (Int.le_refl 0)

abbrev con_slices_ContainsFuncint_int__gravity_readingsErr_1 : Con := ⟨P_slices_ContainsFuncint_int__gravity_readingsErr_1, R_slices_ContainsFuncint_int__gravity_readingsErr_1, fun x => qre_slices_ContainsFuncint_int__gravity_readingsErr_1 x.1 x.2, fun x => t_slices_ContainsFuncint_int__gravity_readingsErr_1 x.1 x.2⟩
theorem ok_slices_ContainsFuncint_int__gravity_readingsErr_1 : ConOk Tryd.prog 91 con_slices_ContainsFuncint_int__gravity_readingsErr_1 := ⟨k_slices_ContainsFuncint_int__gravity_readingsErr_1, fun x hx => ret_tf (ps := P_slices_ContainsFuncint_int__gravity_readingsErr_1) (rs := R_slices_ContainsFuncint_int__gravity_readingsErr_1) (x := x) (y := t_slices_ContainsFuncint_int__gravity_readingsErr_1 x.1 x.2) e_slices_ContainsFuncint_int__gravity_readingsErr_1 hC_slices_ContainsFuncint_int__gravity_readingsErr_1 (tf_of (w_slices_ContainsFuncint_int__gravity_readingsErr_1_eq x.1 x.2 (fun z => z = t_slices_ContainsFuncint_int__gravity_readingsErr_1 x.1 x.2)) (d_slices_ContainsFuncint_int__gravity_readingsErr_1 x.1 x.2 (fun z => z = t_slices_ContainsFuncint_int__gravity_readingsErr_1 x.1 x.2) (pp_slices_ContainsFuncint_int__gravity_readingsErr_1 x.1 x.2 hx) (tt_slices_ContainsFuncint_int__gravity_readingsErr_1 x.1 x.2 hx)))⟩
/- gravity_readingsErr -/
def C_gravity_readingsErr : Cons := [(91, [131], con_slices_ContainsFuncint_int__gravity_readingsErr_1), (89, [], con_gravity_unless), (88, [], con_gravity_first)]
theorem hC_gravity_readingsErr : ConsOk Tryd.prog C_gravity_readingsErr := ConsOk.cons ok_slices_ContainsFuncint_int__gravity_readingsErr_1 <| ConsOk.cons ok_gravity_unless <| ConsOk.cons ok_gravity_first <| ConsOk.nil
def w_gravity_readingsErr (p0 : (List Int)) (K : Int → Prop) : Prop :=
  ((lenOk p0) ∧
  ((lenOk ((s_gravity_unless (decide ((((List.length p0) : Nat) : Int) ≤ (64 : Int))) (8 : Int)) :: ((s_gravity_unless (!(v_any_slices_ContainsFuncint_int__gravity_readingsErr_1 p0)) (2 : Int)) :: ([] : List Int)))) ∧
  (K (v_first ((s_gravity_unless (decide ((((List.length p0) : Nat) : Int) ≤ (64 : Int))) (8 : Int)) :: ((s_gravity_unless (!(v_any_slices_ContainsFuncint_int__gravity_readingsErr_1 p0)) (2 : Int)) :: ([] : List Int)))))))
set_option maxHeartbeats 4000000 in
theorem w_gravity_readingsErr_eq (p0 : (List Int)) (K : Int → Prop) : tfn F_gravity_readingsErr A_gravity_readingsErr C_gravity_readingsErr P_gravity_readingsErr R_gravity_readingsErr p0 K = w_gravity_readingsErr p0 K := by kernel_rfl
def s_gravity_readingsErr (p0 : (List Int)) : Int :=
  (v_first ((s_gravity_unless (decide ((((List.length p0) : Nat) : Int) ≤ (64 : Int))) (8 : Int)) :: ((s_gravity_unless (!(v_any_slices_ContainsFuncint_int__gravity_readingsErr_1 p0)) (2 : Int)) :: ([] : List Int))))
abbrev pre_gravity_readingsErr (p0 : (List Int)) : List Prop := [(lenOk p0)]
set_option maxHeartbeats 4000000 in
theorem d_gravity_readingsErr (p0 : (List Int)) (K : Int → Prop) (hp : ∀ p ∈ pre_gravity_readingsErr p0, p) (h : K (s_gravity_readingsErr p0)) : w_gravity_readingsErr p0 K := by
  unfold w_gravity_readingsErr
  unfold s_gravity_readingsErr at h
  obtain ⟨hp0, _⟩ := conj_of hp
  exact ⟨(hp0), ⟨(lenOk_of 2 rfl (by decide)), h⟩⟩
abbrev con_gravity_readingsErr : Con := ⟨P_gravity_readingsErr, R_gravity_readingsErr, fun x => pre_gravity_readingsErr x, fun x => s_gravity_readingsErr x⟩
theorem ok_gravity_readingsErr : ConOk Tryd.prog 102 con_gravity_readingsErr := ⟨k_gravity_readingsErr, fun x hx => ret_tf (ps := P_gravity_readingsErr) (rs := R_gravity_readingsErr) (x := x) (y := s_gravity_readingsErr x) e_gravity_readingsErr hC_gravity_readingsErr (tf_of (w_gravity_readingsErr_eq x (fun z => z = s_gravity_readingsErr x)) (d_gravity_readingsErr x (fun z => z = s_gravity_readingsErr x) hx rfl))⟩
/- gravity_ResidualsOf -/
def C_gravity_ResidualsOf : Cons := [(102, [], con_gravity_readingsErr), (99, [], con_gravity_rangesErr), (94, [], con_gravity_within), (89, [], con_gravity_unless), (88, [], con_gravity_first), (100, [], con_gravity_windows), (130, itMark, con_gravity_windows_1), (101, [], con_gravity_linear)]
theorem hC_gravity_ResidualsOf : ConsOk Tryd.prog C_gravity_ResidualsOf := ConsOk.cons ok_gravity_readingsErr <| ConsOk.cons ok_gravity_rangesErr <| ConsOk.cons ok_gravity_within <| ConsOk.cons ok_gravity_unless <| ConsOk.cons ok_gravity_first <| ConsOk.cons ok_gravity_windows <| ConsOk.consI ok_gravity_windows_1 <| ConsOk.cons ok_gravity_linear <| ConsOk.nil
def w_gravity_ResidualsOf (p0 : (List Int)) (p1 : (List (Int × Int))) (p2 : Int) (K : ((List (Int × Int)) × Int) → Prop) : Prop :=
  ((lenOk p0) ∧
  (((((((List.length p0) : Nat) : Int) == (((List.length p1) : Nat) : Int)) = true) →
  (((((List.length p0) : Nat) : Int) == (((List.length p1) : Nat) : Int)) = ((((List.length p0) : Nat) : Int) == (((List.length p1) : Nat) : Int)))) ∧
  (((((((List.length p0) : Nat) : Int) == (((List.length p1) : Nat) : Int)) = true) →
  (((((List.length p0) : Nat) : Int) == (((List.length p1) : Nat) : Int)) = ((((List.length p0) : Nat) : Int) == (((List.length p1) : Nat) : Int)))) ∧
  ((((((List.length p0) : Nat) : Int) == (((List.length p1) : Nat) : Int)) = ((((List.length p0) : Nat) : Int) == (((List.length p1) : Nat) : Int))) ∧
  ((lenOk ((s_gravity_readingsErr p0) :: ((s_gravity_rangesErr p1) :: ((s_gravity_unless (s_gravity_within p2 (0 : Int) (1000 : Int)) (2 : Int)) :: ((s_gravity_unless (cond ((((List.length p0) : Nat) : Int) == (((List.length p1) : Nat) : Int)) (decide ((((List.length p0) : Nat) : Int) ≥ (3 : Int))) false) (10 : Int)) :: ([] : List Int)))))) ∧
  (((((v_first ((s_gravity_readingsErr p0) :: ((s_gravity_rangesErr p1) :: ((s_gravity_unless (s_gravity_within p2 (0 : Int) (1000 : Int)) (2 : Int)) :: ((s_gravity_unless (cond ((((List.length p0) : Nat) : Int) == (((List.length p1) : Nat) : Int)) (decide ((((List.length p0) : Nat) : Int) ≥ (3 : Int))) false) (10 : Int)) :: ([] : List Int)))))) != (0 : Int)) = true) →
  (K (([] : List (Int × Int)), (v_first ((s_gravity_readingsErr p0) :: ((s_gravity_rangesErr p1) :: ((s_gravity_unless (s_gravity_within p2 (0 : Int) (1000 : Int)) (2 : Int)) :: ((s_gravity_unless (cond ((((List.length p0) : Nat) : Int) == (((List.length p1) : Nat) : Int)) (decide ((((List.length p0) : Nat) : Int) ≥ (3 : Int))) false) (10 : Int)) :: ([] : List Int))))))))) ∧
  ((((v_first ((s_gravity_readingsErr p0) :: ((s_gravity_rangesErr p1) :: ((s_gravity_unless (s_gravity_within p2 (0 : Int) (1000 : Int)) (2 : Int)) :: ((s_gravity_unless (cond ((((List.length p0) : Nat) : Int) == (((List.length p1) : Nat) : Int)) (decide ((((List.length p0) : Nat) : Int) ≥ (3 : Int))) false) (10 : Int)) :: ([] : List Int)))))) != (0 : Int)) = false) →
  (((1 : Int) ≤ (3 : Int)) ∧
    (((3 : Int) ≤ (1000000 : Int)) ∧
    (((List.length p1) ≤ 1000000) ∧
    (RngP (fun (y0 : (List (Int × Int))) (z1 : (Int × (List (Int × Int)))) k2 =>
      ((v_linok ((1 : Int) :: ((-2 : Int) :: ((1 : Int) :: ([] : List Int)))) z1.2) ∧
      (((0 : Int) ≤ (Go.IntKind.wrap .i64 (z1.1 + (1 : Int)))) ∧
      (((Go.IntKind.wrap .i64 (z1.1 + (1 : Int))) < (((List.length p0) : Nat) : Int)) ∧
      (((((List.length y0) + (List.length (((Go.IntKind.wrap .i64 ((List.getD p0 (Int.toNat (Go.IntKind.wrap .i64 (z1.1 + (1 : Int)))) (0 : Int)) - (Go.IntKind.wrap .i64 (p2 * (v_lin ((1 : Int) :: ((-2 : Int) :: ((1 : Int) :: ([] : List Int)))) z1.2).2)))), (Go.IntKind.wrap .i64 ((List.getD p0 (Int.toNat (Go.IntKind.wrap .i64 (z1.1 + (1 : Int)))) (0 : Int)) - (Go.IntKind.wrap .i64 (p2 * (v_lin ((1 : Int) :: ((-2 : Int) :: ((1 : Int) :: ([] : List Int)))) z1.2).1))))) :: ([] : List (Int × Int))))) * 16) ≤ 140737488355328) ∧
      (k2 (y0 ++ (((Go.IntKind.wrap .i64 ((List.getD p0 (Int.toNat (Go.IntKind.wrap .i64 (z1.1 + (1 : Int)))) (0 : Int)) - (Go.IntKind.wrap .i64 (p2 * (v_lin ((1 : Int) :: ((-2 : Int) :: ((1 : Int) :: ([] : List Int)))) z1.2).2)))), (Go.IntKind.wrap .i64 ((List.getD p0 (Int.toNat (Go.IntKind.wrap .i64 (z1.1 + (1 : Int)))) (0 : Int)) - (Go.IntKind.wrap .i64 (p2 * (v_lin ((1 : Int) :: ((-2 : Int) :: ((1 : Int) :: ([] : List Int)))) z1.2).1))))) :: ([] : List (Int × Int))))))))))
      (fun (s3 : (List (Int × Int))) => (K (s3, (0 : Int)))) (v_windows p1 (3 : Int)) ([] : List (Int × Int)))))))))))))
set_option maxHeartbeats 4000000 in
theorem w_gravity_ResidualsOf_eq (p0 : (List Int)) (p1 : (List (Int × Int))) (p2 : Int) (K : ((List (Int × Int)) × Int) → Prop) : tfn F_gravity_ResidualsOf A_gravity_ResidualsOf C_gravity_ResidualsOf P_gravity_ResidualsOf R_gravity_ResidualsOf (p0, p1, p2) K = w_gravity_ResidualsOf p0 p1 p2 K := by kernel_rfl
def st_gravity_ResidualsOf_0 (p0 : (List Int)) (p1 : (List (Int × Int))) (p2 : Int) (y1 : (List (Int × Int))) (z1 : (Int × (List (Int × Int)))) : (List (Int × Int)) ⊕ ((List (Int × Int)) × Int) :=
  (Sum.inl (y1 ++ (((Go.IntKind.wrap .i64 ((List.getD p0 (Int.toNat (Go.IntKind.wrap .i64 (z1.1 + (1 : Int)))) (0 : Int)) - (Go.IntKind.wrap .i64 (p2 * (v_lin ((1 : Int) :: ((-2 : Int) :: ((1 : Int) :: ([] : List Int)))) z1.2).2)))), (Go.IntKind.wrap .i64 ((List.getD p0 (Int.toNat (Go.IntKind.wrap .i64 (z1.1 + (1 : Int)))) (0 : Int)) - (Go.IntKind.wrap .i64 (p2 * (v_lin ((1 : Int) :: ((-2 : Int) :: ((1 : Int) :: ([] : List Int)))) z1.2).1))))) :: ([] : List (Int × Int)))))
abbrev sp_gravity_ResidualsOf_0 (p0 : (List Int)) (p1 : (List (Int × Int))) (p2 : Int) (y1 : (List (Int × Int))) (z1 : (Int × (List (Int × Int)))) : List Prop := [(v_linok ((1 : Int) :: ((-2 : Int) :: ((1 : Int) :: ([] : List Int)))) z1.2),
    ((0 : Int) ≤ (Go.IntKind.wrap .i64 (z1.1 + (1 : Int)))),
    ((Go.IntKind.wrap .i64 (z1.1 + (1 : Int))) < (((List.length p0) : Nat) : Int)),
    ((((List.length y1) + (List.length (((Go.IntKind.wrap .i64 ((List.getD p0 (Int.toNat (Go.IntKind.wrap .i64 (z1.1 + (1 : Int)))) (0 : Int)) - (Go.IntKind.wrap .i64 (p2 * (v_lin ((1 : Int) :: ((-2 : Int) :: ((1 : Int) :: ([] : List Int)))) z1.2).2)))), (Go.IntKind.wrap .i64 ((List.getD p0 (Int.toNat (Go.IntKind.wrap .i64 (z1.1 + (1 : Int)))) (0 : Int)) - (Go.IntKind.wrap .i64 (p2 * (v_lin ((1 : Int) :: ((-2 : Int) :: ((1 : Int) :: ([] : List Int)))) z1.2).1))))) :: ([] : List (Int × Int))))) * 16) ≤ 140737488355328)]
def sf_gravity_ResidualsOf_0 (p0 : (List Int)) (p1 : (List (Int × Int))) (p2 : Int) (s1 : (List (Int × Int))) : ((List (Int × Int)) × Int) :=
  (s1, (0 : Int))
abbrev sq_gravity_ResidualsOf_0 (p0 : (List Int)) (p1 : (List (Int × Int))) (p2 : Int) (s1 : (List (Int × Int))) : List Prop := []
def s_gravity_ResidualsOf (p0 : (List Int)) (p1 : (List (Int × Int))) (p2 : Int) : ((List (Int × Int)) × Int) :=
  (cond ((v_first ((s_gravity_readingsErr p0) :: ((s_gravity_rangesErr p1) :: ((s_gravity_unless (s_gravity_within p2 (0 : Int) (1000 : Int)) (2 : Int)) :: ((s_gravity_unless (cond ((((List.length p0) : Nat) : Int) == (((List.length p1) : Nat) : Int)) (decide ((((List.length p0) : Nat) : Int) ≥ (3 : Int))) false) (10 : Int)) :: ([] : List Int)))))) != (0 : Int)) (([] : List (Int × Int)), (v_first ((s_gravity_readingsErr p0) :: ((s_gravity_rangesErr p1) :: ((s_gravity_unless (s_gravity_within p2 (0 : Int) (1000 : Int)) (2 : Int)) :: ((s_gravity_unless (cond ((((List.length p0) : Nat) : Int) == (((List.length p1) : Nat) : Int)) (decide ((((List.length p0) : Nat) : Int) ≥ (3 : Int))) false) (10 : Int)) :: ([] : List Int)))))))
    (rngV (st_gravity_ResidualsOf_0 p0 p1 p2) (sf_gravity_ResidualsOf_0 p0 p1 p2) (v_windows p1 (3 : Int)) ([] : List (Int × Int))))
abbrev pre_gravity_ResidualsOf (p0 : (List Int)) (p1 : (List (Int × Int))) (p2 : Int) : List Prop := [(lenOk p0),
    ((((v_first ((s_gravity_readingsErr p0) :: ((s_gravity_rangesErr p1) :: ((s_gravity_unless (s_gravity_within p2 (0 : Int) (1000 : Int)) (2 : Int)) :: ((s_gravity_unless (cond ((((List.length p0) : Nat) : Int) == (((List.length p1) : Nat) : Int)) (decide ((((List.length p0) : Nat) : Int) ≥ (3 : Int))) false) (10 : Int)) :: ([] : List Int)))))) != (0 : Int)) = false) → ((List.length p1) ≤ 1000000)),
    ((((v_first ((s_gravity_readingsErr p0) :: ((s_gravity_rangesErr p1) :: ((s_gravity_unless (s_gravity_within p2 (0 : Int) (1000 : Int)) (2 : Int)) :: ((s_gravity_unless (cond ((((List.length p0) : Nat) : Int) == (((List.length p1) : Nat) : Int)) (decide ((((List.length p0) : Nat) : Int) ≥ (3 : Int))) false) (10 : Int)) :: ([] : List Int)))))) != (0 : Int)) = false) → (OkR (st_gravity_ResidualsOf_0 p0 p1 p2) (sp_gravity_ResidualsOf_0 p0 p1 p2) (sq_gravity_ResidualsOf_0 p0 p1 p2) (v_windows p1 (3 : Int)) ([] : List (Int × Int))))]
set_option maxHeartbeats 4000000 in
theorem d_gravity_ResidualsOf (p0 : (List Int)) (p1 : (List (Int × Int))) (p2 : Int) (K : ((List (Int × Int)) × Int) → Prop) (hp : ∀ p ∈ pre_gravity_ResidualsOf p0 p1 p2, p) (h : K (s_gravity_ResidualsOf p0 p1 p2)) : w_gravity_ResidualsOf p0 p1 p2 K := by
  unfold w_gravity_ResidualsOf
  unfold s_gravity_ResidualsOf at h
  obtain ⟨hp0, hp1, hp2, _⟩ := conj_of hp
  exact ⟨(hp0), ⟨(fun _ => rfl), ⟨(fun _ => rfl), ⟨rfl, ⟨(lenOk_of 4 rfl (by decide)), (br' h (fun e0 h => h)
    (fun e0 h => ⟨(of_decide_eq_true rfl), ⟨(of_decide_eq_true rfl), ⟨(hp1 e0), (rng_gen (hp2 e0) h (fun y1 z1 k1 hp h => by
  unfold st_gravity_ResidualsOf_0 at h; obtain ⟨hp0, hp1, hp2, hp3, _⟩ := conj_of hp
  exact ⟨(hp0), ⟨(hp1), ⟨(hp2), ⟨(hp3), h⟩⟩⟩⟩) (fun s1 hp h => by
  unfold sf_gravity_ResidualsOf_0 at h
  exact h))⟩⟩⟩))⟩⟩⟩⟩⟩
/-- The error of what residuals are made of. -/
def v_reserr (p0 : List Int) (p1 : List (Int × Int)) (p2 : Int) : Int := v_first (s_gravity_readingsErr p0 :: s_gravity_rangesErr p1 :: s_gravity_unless (s_gravity_within p2 0 1000) 2 :: s_gravity_unless (cond ((p0.length : Int) == (p1.length : Int)) (decide ((p0.length : Int) ≥ 3)) false) 10 :: [])
structure v_resok (p0 : List Int) (p1 : List (Int × Int)) (p2 : Int) : Prop where
  hok : v_hok p1
  len : p0.length = p1.length
  three : 3 ≤ p0.length
  sc : 0 ≤ p2 ∧ p2 ≤ 1000
theorem tx_unless0 {a : Bool} {x : Int} (hx : x ≠ 0) (h : s_gravity_unless a x = 0) : a = true := by
  cases a
  · exact (hx h).elim
  · rfl
theorem tx_and {a b : Bool} (h : (cond a b false) = true) : a = true ∧ b = true := by cases a <;> simp_all
theorem tx_res {p0 : List Int} {p1 : List (Int × Int)} {p2 : Int} (h : v_reserr p0 p1 p2 = 0) : v_resok p0 p1 p2 := by
  obtain ⟨_, h⟩ := v_first0 h
  obtain ⟨h1, h⟩ := v_first0 h
  obtain ⟨h2, h⟩ := v_first0 h
  obtain ⟨h3, _⟩ := v_first0 h
  obtain ⟨h4, h5⟩ := tx_and (tx_unless0 (by decide) h3)
  have h4' : (p0.length : Int) = p1.length := by simpa using h4
  have h5' := of_decide_eq_true h5
  exact ⟨tx_rangesErr h1, by omega, by omega, tx_within.1 (tx_unless0 (by decide) h2)⟩
/-- Residuals. -/
def v_res (p0 : List Int) (p1 : List (Int × Int)) (p2 : Int) : List (Int × Int) := (List.range' 0 (p1.length - 2)).map fun k => (IntKind.i64.wrap (p0.getD (k + 1) 0 - IntKind.i64.wrap (p2 * ((v_acc p1).getD k (0, 0)).2)), IntKind.i64.wrap (p0.getD (k + 1) 0 - IntKind.i64.wrap (p2 * ((v_acc p1).getD k (0, 0)).1)))
theorem v_acc_get {l : List (Int × Int)} {k : Nat} (h : k < l.length - 2) : (v_acc l).getD k (0, 0) = v_sec (l.getD k (0, 0)) (l.getD (k + 1) (0, 0)) (l.getD (k + 2) (0, 0)) := by
  unfold v_acc
  rw [List.getD, List.getElem?_map, List.getElem?_range' h]; simp
theorem v_acc_len (l : List (Int × Int)) : (v_acc l).length = l.length - 2 := by simp [v_acc]
theorem l_gravity_ResidualsOf (p0 : List Int) (p1 : List (Int × Int)) (p2 : Int) (h : v_resok p0 p1 p2) : OkR (st_gravity_ResidualsOf_0 p0 p1 p2) (sp_gravity_ResidualsOf_0 p0 p1 p2) (sq_gravity_ResidualsOf_0 p0 p1 p2) (v_windows p1 3) [] ∧ rngV (st_gravity_ResidualsOf_0 p0 p1 p2) (sf_gravity_ResidualsOf_0 p0 p1 p2) (v_windows p1 3) [] = (v_res p0 p1 p2, 0) := by
  have hlen := h.hok.len
  have hl2 := h.len
  have := rng_map (st := st_gravity_ResidualsOf_0 p0 p1 p2) (sp := sp_gravity_ResidualsOf_0 p0 p1 p2) (fin := sf_gravity_ResidualsOf_0 p0 p1 p2) (fp := sq_gravity_ResidualsOf_0 p0 p1 p2)
    (fun z => (IntKind.i64.wrap (p0.getD (IntKind.i64.wrap (z.1 + 1)).toNat 0 - IntKind.i64.wrap (p2 * (v_lin [1, -2, 1] z.2).2)), IntKind.i64.wrap (p0.getD (IntKind.i64.wrap (z.1 + 1)).toNat 0 - IntKind.i64.wrap (p2 * (v_lin [1, -2, 1] z.2).1)))) (v_windows p1 3) (by rw [v_windows3]; simp; omega) (fun y z _ => rfl) ?_ (by simp)
  · refine ⟨this.1, this.2.trans ?_⟩
    unfold sf_gravity_ResidualsOf_0 v_res
    rw [v_windows3, List.map_map, List.range_eq_range', Prod.mk.injEq]
    refine ⟨List.map_congr_left fun k hk => ?_, rfl⟩
    rw [List.mem_range'_1] at hk
    have hw : (IntKind.i64.wrap ((k : Int) + 1)).toNat = k + 1 := by rw [wrap_nat (by omega)]; rfl
    simp only [Function.comp, hw, v_acc_get (show k < p1.length - 2 by omega)]
    rfl
  · intro y z hz hy
    obtain ⟨g1, g2, g3⟩ := v_win_mem hz h.hok
    have hw : IntKind.i64.wrap (z.1 + 1) = z.1 + 1 := wrap_id (by omega) (by omega)
    simp only [sp_gravity_ResidualsOf_0, List.forall_mem_cons, hw]
    exact ⟨g1, by omega, by omega, by simp; omega, by simp⟩
abbrev t_gravity_ResidualsOf (p0 : List Int) (p1 : List (Int × Int)) (p2 : Int) : List (Int × Int) × Int := cond (v_reserr p0 p1 p2 != 0) ([], v_reserr p0 p1 p2) (v_res p0 p1 p2, 0)
abbrev qre_gravity_ResidualsOf (p0 : List Int) (_ : List (Int × Int)) (_ : Int) : List Prop := [lenOk p0]
theorem pp_gravity_ResidualsOf (p0 : List Int) (p1 : List (Int × Int)) (p2 : Int) (hq : ∀ p ∈ qre_gravity_ResidualsOf p0 p1 p2, p) : ∀ p ∈ pre_gravity_ResidualsOf p0 p1 p2, p := by
  simp only [pre_gravity_ResidualsOf, List.forall_mem_cons]
  have key : (v_reserr p0 p1 p2 != 0) = false → v_resok p0 p1 p2 := fun h => tx_res (bne0' h)
  exact ⟨(conj_of hq).1, fun h => by have := (key h).hok.len; omega, fun h => (l_gravity_ResidualsOf p0 p1 p2 (key h)).1, by simp⟩
theorem tt_gravity_ResidualsOf (p0 : List Int) (p1 : List (Int × Int)) (p2 : Int) (_ : ∀ p ∈ qre_gravity_ResidualsOf p0 p1 p2, p) : s_gravity_ResidualsOf p0 p1 p2 = t_gravity_ResidualsOf p0 p1 p2 := by
  show cond (v_reserr p0 p1 p2 != 0) ([], v_reserr p0 p1 p2) (rngV (st_gravity_ResidualsOf_0 p0 p1 p2) (sf_gravity_ResidualsOf_0 p0 p1 p2) (v_windows p1 3) []) = _
  unfold t_gravity_ResidualsOf
  cases h : (v_reserr p0 p1 p2 != 0)
  · simp only [cond_false]
    exact (l_gravity_ResidualsOf p0 p1 p2 (tx_res (bne0' h))).2
  · rfl

abbrev con_gravity_ResidualsOf : Con := ⟨P_gravity_ResidualsOf, R_gravity_ResidualsOf, fun x => qre_gravity_ResidualsOf x.1 x.2.1 x.2.2, fun x => t_gravity_ResidualsOf x.1 x.2.1 x.2.2⟩
theorem ok_gravity_ResidualsOf : ConOk Tryd.prog 30 con_gravity_ResidualsOf := ⟨k_gravity_ResidualsOf, fun x hx => ret_tf (ps := P_gravity_ResidualsOf) (rs := R_gravity_ResidualsOf) (x := x) (y := t_gravity_ResidualsOf x.1 x.2.1 x.2.2) e_gravity_ResidualsOf hC_gravity_ResidualsOf (tf_of (w_gravity_ResidualsOf_eq x.1 x.2.1 x.2.2 (fun z => z = t_gravity_ResidualsOf x.1 x.2.1 x.2.2)) (d_gravity_ResidualsOf x.1 x.2.1 x.2.2 (fun z => z = t_gravity_ResidualsOf x.1 x.2.1 x.2.2) (pp_gravity_ResidualsOf x.1 x.2.1 x.2.2 hx) (tt_gravity_ResidualsOf x.1 x.2.1 x.2.2 hx)))⟩
/- base_Within -/
def C_base_Within : Cons := []
theorem hC_base_Within : ConsOk Tryd.prog C_base_Within := ConsOk.nil
def w_base_Within (p0 : Int) (p1 : Int) (p2 : Int) (K : Bool → Prop) : Prop :=
  ((((decide (p1 ≤ p0)) = true) →
  ((decide (p1 ≤ p0)) = (decide (p1 ≤ p0)))) ∧
  ((((decide (p1 ≤ p0)) = true) →
  ((decide (p1 ≤ p0)) = (decide (p1 ≤ p0)))) ∧
  (((decide (p1 ≤ p0)) = (decide (p1 ≤ p0))) ∧
  (K (cond (decide (p1 ≤ p0)) (decide (p0 ≤ p2)) false)))))
set_option maxHeartbeats 4000000 in
theorem w_base_Within_eq (p0 : Int) (p1 : Int) (p2 : Int) (K : Bool → Prop) : tfn F_base_Within A_base_Within C_base_Within P_base_Within R_base_Within (p0, p1, p2) K = w_base_Within p0 p1 p2 K := by kernel_rfl
def s_base_Within (p0 : Int) (p1 : Int) (p2 : Int) : Bool :=
  (cond (decide (p1 ≤ p0)) (decide (p0 ≤ p2)) false)
abbrev pre_base_Within (p0 : Int) (p1 : Int) (p2 : Int) : List Prop := []
set_option maxHeartbeats 4000000 in
theorem d_base_Within (p0 : Int) (p1 : Int) (p2 : Int) (K : Bool → Prop) (hp : ∀ p ∈ pre_base_Within p0 p1 p2, p) (h : K (s_base_Within p0 p1 p2)) : w_base_Within p0 p1 p2 K := by
  unfold w_base_Within
  unfold s_base_Within at h
  exact ⟨(fun _ => rfl), ⟨(fun _ => rfl), ⟨rfl, h⟩⟩⟩
abbrev con_base_Within : Con := ⟨P_base_Within, R_base_Within, fun x => pre_base_Within x.1 x.2.1 x.2.2, fun x => s_base_Within x.1 x.2.1 x.2.2⟩
theorem ok_base_Within : ConOk Tryd.prog 60 con_base_Within := ⟨k_base_Within, fun x hx => ret_tf (ps := P_base_Within) (rs := R_base_Within) (x := x) (y := s_base_Within x.1 x.2.1 x.2.2) e_base_Within hC_base_Within (tf_of (w_base_Within_eq x.1 x.2.1 x.2.2 (fun z => z = s_base_Within x.1 x.2.1 x.2.2)) (d_base_Within x.1 x.2.1 x.2.2 (fun z => z = s_base_Within x.1 x.2.1 x.2.2) hx rfl))⟩
/- ref05_rangeErr -/
def C_ref05_rangeErr : Cons := [(60, [], con_base_Within)]
theorem hC_ref05_rangeErr : ConsOk Tryd.prog C_ref05_rangeErr := ConsOk.cons ok_base_Within <| ConsOk.nil
def w_ref05_rangeErr (p0 : (Int × Int)) (p1 : Int) (K : Int → Prop) : Prop :=
  ((((!(s_base_Within p0.1 (Go.IntKind.wrap .i64 ((0 : Int) - p1)) p1)) = false) →
  ((!(s_base_Within p0.1 (Go.IntKind.wrap .i64 ((0 : Int) - p1)) p1)) = (!(s_base_Within p0.1 (Go.IntKind.wrap .i64 ((0 : Int) - p1)) p1)))) ∧
  ((((!(s_base_Within p0.1 (Go.IntKind.wrap .i64 ((0 : Int) - p1)) p1)) = false) →
  ((!(s_base_Within p0.1 (Go.IntKind.wrap .i64 ((0 : Int) - p1)) p1)) = (!(s_base_Within p0.1 (Go.IntKind.wrap .i64 ((0 : Int) - p1)) p1)))) ∧
  ((((!(s_base_Within p0.1 (Go.IntKind.wrap .i64 ((0 : Int) - p1)) p1)) = false) →
  ((!(s_base_Within p0.1 (Go.IntKind.wrap .i64 ((0 : Int) - p1)) p1)) = (!(s_base_Within p0.1 (Go.IntKind.wrap .i64 ((0 : Int) - p1)) p1)))) ∧
  ((((!(s_base_Within p0.1 (Go.IntKind.wrap .i64 ((0 : Int) - p1)) p1)) = false) →
  ((!(s_base_Within p0.1 (Go.IntKind.wrap .i64 ((0 : Int) - p1)) p1)) = (!(s_base_Within p0.1 (Go.IntKind.wrap .i64 ((0 : Int) - p1)) p1)))) ∧
  ((((!(s_base_Within p0.1 (Go.IntKind.wrap .i64 ((0 : Int) - p1)) p1)) = false) →
  ((!(s_base_Within p0.1 (Go.IntKind.wrap .i64 ((0 : Int) - p1)) p1)) = (!(s_base_Within p0.1 (Go.IntKind.wrap .i64 ((0 : Int) - p1)) p1)))) ∧
  ((((!(s_base_Within p0.1 (Go.IntKind.wrap .i64 ((0 : Int) - p1)) p1)) = false) →
  ((!(s_base_Within p0.1 (Go.IntKind.wrap .i64 ((0 : Int) - p1)) p1)) = (!(s_base_Within p0.1 (Go.IntKind.wrap .i64 ((0 : Int) - p1)) p1)))) ∧
  (((!(s_base_Within p0.1 (Go.IntKind.wrap .i64 ((0 : Int) - p1)) p1)) = (!(s_base_Within p0.1 (Go.IntKind.wrap .i64 ((0 : Int) - p1)) p1))) ∧
  ((((cond (!(s_base_Within p0.1 (Go.IntKind.wrap .i64 ((0 : Int) - p1)) p1)) true (!(s_base_Within p0.2 (Go.IntKind.wrap .i64 ((0 : Int) - p1)) p1))) = true) →
  (K (2 : Int))) ∧
  (((cond (!(s_base_Within p0.1 (Go.IntKind.wrap .i64 ((0 : Int) - p1)) p1)) true (!(s_base_Within p0.2 (Go.IntKind.wrap .i64 ((0 : Int) - p1)) p1))) = false) →
  ((((decide (p0.1 > p0.2)) = true) →
    (K (9 : Int))) ∧
    (((decide (p0.1 > p0.2)) = false) →
    (K (0 : Int)))))))))))))
set_option maxHeartbeats 4000000 in
theorem w_ref05_rangeErr_eq (p0 : (Int × Int)) (p1 : Int) (K : Int → Prop) : tfn F_ref05_rangeErr A_ref05_rangeErr C_ref05_rangeErr P_ref05_rangeErr R_ref05_rangeErr (p0, p1) K = w_ref05_rangeErr p0 p1 K := by kernel_rfl
def s_ref05_rangeErr (p0 : (Int × Int)) (p1 : Int) : Int :=
  (cond (cond (!(s_base_Within p0.1 (Go.IntKind.wrap .i64 ((0 : Int) - p1)) p1)) true (!(s_base_Within p0.2 (Go.IntKind.wrap .i64 ((0 : Int) - p1)) p1))) (2 : Int)
    (cond (decide (p0.1 > p0.2)) (9 : Int)
    (0 : Int)))
abbrev pre_ref05_rangeErr (p0 : (Int × Int)) (p1 : Int) : List Prop := []
set_option maxHeartbeats 4000000 in
theorem d_ref05_rangeErr (p0 : (Int × Int)) (p1 : Int) (K : Int → Prop) (hp : ∀ p ∈ pre_ref05_rangeErr p0 p1, p) (h : K (s_ref05_rangeErr p0 p1)) : w_ref05_rangeErr p0 p1 K := by
  unfold w_ref05_rangeErr
  unfold s_ref05_rangeErr at h
  exact ⟨(fun _ => rfl), ⟨(fun _ => rfl), ⟨(fun _ => rfl), ⟨(fun _ => rfl), ⟨(fun _ => rfl), ⟨(fun _ => rfl), ⟨rfl, (br' h (fun e0 h => h)
    (fun e0 h => (br' h (fun e1 h => h)
    (fun e1 h => h))))⟩⟩⟩⟩⟩⟩⟩
theorem tx_eqw {n lo hi : Int} : s_base_Within n lo hi = s_gravity_within n lo hi := rfl
abbrev t_ref05_rangeErr (p0 : Int × Int) (p1 : Int) : Int := s_gravity_rangeErr p0 p1
abbrev qre_ref05_rangeErr (_ : Int × Int) (_ : Int) : List Prop := []
theorem pp_ref05_rangeErr (p0 : Int × Int) (p1 : Int) (_ : ∀ p ∈ qre_ref05_rangeErr p0 p1, p) : ∀ p ∈ pre_ref05_rangeErr p0 p1, p := by intro p hp; simp at hp
theorem tt_ref05_rangeErr (p0 : Int × Int) (p1 : Int) (_ : ∀ p ∈ qre_ref05_rangeErr p0 p1, p) : s_ref05_rangeErr p0 p1 = t_ref05_rangeErr p0 p1 := by
  unfold s_ref05_rangeErr t_ref05_rangeErr s_gravity_rangeErr s_gravity_isSized
  simp only [tx_eqw]
  rcases Int.lt_or_le p0.2 p0.1 with h | h
  · have h' : ¬ p0.1 ≤ p0.2 := by omega
    cases s_gravity_within p0.1 (IntKind.i64.wrap (0 - p1)) p1 <;> cases s_gravity_within p0.2 (IntKind.i64.wrap (0 - p1)) p1 <;> simp [s_gravity_unless, v_first, h, h']
  · have h' : ¬ p0.2 < p0.1 := by omega
    cases s_gravity_within p0.1 (IntKind.i64.wrap (0 - p1)) p1 <;> cases s_gravity_within p0.2 (IntKind.i64.wrap (0 - p1)) p1 <;> simp [s_gravity_unless, v_first, h, h']

abbrev con_ref05_rangeErr : Con := ⟨P_ref05_rangeErr, R_ref05_rangeErr, fun x => qre_ref05_rangeErr x.1 x.2, fun x => t_ref05_rangeErr x.1 x.2⟩
theorem ok_ref05_rangeErr : ConOk Tryd.prog 103 con_ref05_rangeErr := ⟨k_ref05_rangeErr, fun x hx => ret_tf (ps := P_ref05_rangeErr) (rs := R_ref05_rangeErr) (x := x) (y := t_ref05_rangeErr x.1 x.2) e_ref05_rangeErr hC_ref05_rangeErr (tf_of (w_ref05_rangeErr_eq x.1 x.2 (fun z => z = t_ref05_rangeErr x.1 x.2)) (d_ref05_rangeErr x.1 x.2 (fun z => z = t_ref05_rangeErr x.1 x.2) (pp_ref05_rangeErr x.1 x.2 hx) (tt_ref05_rangeErr x.1 x.2 hx)))⟩
/- ref05_CheckHeights -/
def C_ref05_CheckHeights : Cons := [(103, [], con_ref05_rangeErr)]
theorem hC_ref05_CheckHeights : ConsOk Tryd.prog C_ref05_CheckHeights := ConsOk.cons ok_ref05_rangeErr <| ConsOk.nil
def w_ref05_CheckHeights (p0 : (List (Int × Int))) (K : (Int × Int) → Prop) : Prop :=
  ((((decide ((((List.length p0) : Nat) : Int) > (64 : Int))) = true) →
  (K ((0 : Int), (8 : Int)))) ∧
  (((decide ((((List.length p0) : Nat) : Int) > (64 : Int))) = false) →
  (∃ n0, (loopP (fun (y1 : Int) k2 =>
      ((((decide (y1 < (((List.length p0) : Nat) : Int))) = true) →
      (((0 : Int) ≤ y1) ∧
        ((y1 < (((List.length p0) : Nat) : Int)) ∧
        (((((s_gravity_rangeErr (List.getD p0 (Int.toNat y1) ((0 : Int), (0 : Int))) (1000000 : Int)) != (0 : Int)) = true) →
        (K (y1, (s_gravity_rangeErr (List.getD p0 (Int.toNat y1) ((0 : Int), (0 : Int))) (1000000 : Int))))) ∧
        ((((s_gravity_rangeErr (List.getD p0 (Int.toNat y1) ((0 : Int), (0 : Int))) (1000000 : Int)) != (0 : Int)) = false) →
        (k2 (Go.IntKind.wrap .i64 (y1 + (1 : Int))))))))) ∧
      (((decide (y1 < (((List.length p0) : Nat) : Int))) = false) →
      (K ((0 : Int), (0 : Int)))))) n0 (0 : Int)))))
set_option maxHeartbeats 4000000 in
theorem w_ref05_CheckHeights_eq (p0 : (List (Int × Int))) (K : (Int × Int) → Prop) : tfn F_ref05_CheckHeights A_ref05_CheckHeights C_ref05_CheckHeights P_ref05_CheckHeights R_ref05_CheckHeights p0 K = w_ref05_CheckHeights p0 K := by kernel_rfl
def st_ref05_CheckHeights_0 (p0 : (List (Int × Int))) (y1 : Int) : Int ⊕ (Int × Int) :=
  (cond (decide (y1 < (((List.length p0) : Nat) : Int))) (cond ((s_gravity_rangeErr (List.getD p0 (Int.toNat y1) ((0 : Int), (0 : Int))) (1000000 : Int)) != (0 : Int)) (Sum.inr (y1, (s_gravity_rangeErr (List.getD p0 (Int.toNat y1) ((0 : Int), (0 : Int))) (1000000 : Int))))
    (Sum.inl (Go.IntKind.wrap .i64 (y1 + (1 : Int)))))
    (Sum.inr ((0 : Int), (0 : Int))))
abbrev sp_ref05_CheckHeights_0 (p0 : (List (Int × Int))) (y1 : Int) : List Prop := [(((decide (y1 < (((List.length p0) : Nat) : Int))) = true) → ((0 : Int) ≤ y1)),
    (((decide (y1 < (((List.length p0) : Nat) : Int))) = true) → (y1 < (((List.length p0) : Nat) : Int)))]
def s_ref05_CheckHeights (p0 : (List (Int × Int))) : (Int × Int) :=
  (cond (decide ((((List.length p0) : Nat) : Int) > (64 : Int))) ((0 : Int), (8 : Int))
    (lpv ((0 : Int), (0 : Int)) (st_ref05_CheckHeights_0 p0) (0 : Int)))
abbrev pre_ref05_CheckHeights (p0 : (List (Int × Int))) : List Prop := [(((decide ((((List.length p0) : Nat) : Int) > (64 : Int))) = false) → (OkL (st_ref05_CheckHeights_0 p0) (sp_ref05_CheckHeights_0 p0) (0 : Int)))]
set_option maxHeartbeats 4000000 in
theorem d_ref05_CheckHeights (p0 : (List (Int × Int))) (K : (Int × Int) → Prop) (hp : ∀ p ∈ pre_ref05_CheckHeights p0, p) (h : K (s_ref05_CheckHeights p0)) : w_ref05_CheckHeights p0 K := by
  unfold w_ref05_CheckHeights
  unfold s_ref05_CheckHeights at h
  obtain ⟨hp0, _⟩ := conj_of hp
  exact (br' h (fun e0 h => h)
    (fun e0 h => (loop_gen (hp0 e0) h (fun y1 k1 hp h => by
  unfold st_ref05_CheckHeights_0 at h; obtain ⟨hp0, hp1, _⟩ := conj_of hp
  exact (br' h (fun e2 h => ⟨(hp0 e2), ⟨(hp1 e2), (br' h (fun e3 h => h)
    (fun e3 h => h))⟩⟩)
    (fun e2 h => h))))))
theorem l_ref05_CheckHeights_0 (p0 : List (Int × Int)) (hl : lenOk p0) : OkL (st_ref05_CheckHeights_0 p0) (sp_ref05_CheckHeights_0 p0) 0 ∧ lpv ((0 : Int), (0 : Int)) (st_ref05_CheckHeights_0 p0) 0 = v_scan (fun i x => cond (s_gravity_rangeErr x 1000000 != 0) (some (i, s_gravity_rangeErr x 1000000)) none) ((0 : Int), (0 : Int)) 0 p0 := by
  refine scan_is p0 (0, 0) (fun i x => cond (s_gravity_rangeErr x 1000000 != 0) (some (i, s_gravity_rangeErr x 1000000)) none) ((0 : Int), (0 : Int)) hl ?_ ?_
  · refine ⟨by simp only [sp_ref05_CheckHeights_0, List.forall_mem_cons, decide_eq_true_eq]; simp, by simp [st_ref05_CheckHeights_0]⟩
  · intro j hj
    have hj' : (j : Int) < p0.length := by omega
    refine ⟨by simp only [sp_ref05_CheckHeights_0, List.forall_mem_cons, decide_eq_true_eq, Int.toNat_natCast]; simp <;> omega, ?_⟩
    simp only [st_ref05_CheckHeights_0, hj', decide_true, Int.toNat_natCast, cond_true, wrap_nat (show (j : Int) ≤ 9223372036854775806 by unfold lenOk at hl; omega)]
    generalize p0.getD j (0, 0) = x
    cases (s_gravity_rangeErr x 1000000 != 0) <;> rfl
abbrev t_ref05_CheckHeights (p0 : List (Int × Int)) : Int × Int := v_heights p0
abbrev qre_ref05_CheckHeights (_ : List (Int × Int)) : List Prop := []
theorem pp_ref05_CheckHeights (p0 : List (Int × Int)) (_ : ∀ p ∈ qre_ref05_CheckHeights p0, p) : ∀ p ∈ pre_ref05_CheckHeights p0, p := by
  simp only [pre_ref05_CheckHeights, List.forall_mem_cons]
  refine ⟨fun h => (l_ref05_CheckHeights_0 p0 (lenOk_le (n := 64) ?_ (by decide))).1, by simp⟩
  have := of_decide_eq_false h; omega
theorem tt_ref05_CheckHeights (p0 : List (Int × Int)) (_ : ∀ p ∈ qre_ref05_CheckHeights p0, p) : s_ref05_CheckHeights p0 = t_ref05_CheckHeights p0 := by
  unfold s_ref05_CheckHeights t_ref05_CheckHeights v_heights
  cases h : decide ((p0.length : Int) > 64)
  · have := of_decide_eq_false h
    exact (l_ref05_CheckHeights_0 p0 (lenOk_le (n := 64) (by omega) (by decide))).2
  · rfl

abbrev con_ref05_CheckHeights : Con := ⟨P_ref05_CheckHeights, R_ref05_CheckHeights, fun x => qre_ref05_CheckHeights x, fun x => t_ref05_CheckHeights x⟩
theorem ok_ref05_CheckHeights : ConOk Tryd.prog 32 con_ref05_CheckHeights := ⟨k_ref05_CheckHeights, fun x hx => ret_tf (ps := P_ref05_CheckHeights) (rs := R_ref05_CheckHeights) (x := x) (y := t_ref05_CheckHeights x) e_ref05_CheckHeights hC_ref05_CheckHeights (tf_of (w_ref05_CheckHeights_eq x (fun z => z = t_ref05_CheckHeights x)) (d_ref05_CheckHeights x (fun z => z = t_ref05_CheckHeights x) (pp_ref05_CheckHeights x hx) (tt_ref05_CheckHeights x hx)))⟩
/- ref05_Accelerations -/
def C_ref05_Accelerations : Cons := []
theorem hC_ref05_Accelerations : ConsOk Tryd.prog C_ref05_Accelerations := ConsOk.nil
def w_ref05_Accelerations (p0 : (List (Int × Int))) (K : (List (Int × Int)) → Prop) : Prop :=
  (∃ n0, (loopP (fun (y1 : (Int × (List (Int × Int)))) k2 =>
    ((((decide ((Go.IntKind.wrap .i64 (y1.1 + (1 : Int))) < (((List.length p0) : Nat) : Int))) = true) →
    (((0 : Int) ≤ (Go.IntKind.wrap .i64 (y1.1 + (1 : Int)))) ∧
      (((Go.IntKind.wrap .i64 (y1.1 + (1 : Int))) < (((List.length p0) : Nat) : Int)) ∧
      (((0 : Int) ≤ y1.1) ∧
      ((y1.1 < (((List.length p0) : Nat) : Int)) ∧
      (((0 : Int) ≤ (Go.IntKind.wrap .i64 (y1.1 - (1 : Int)))) ∧
      (((Go.IntKind.wrap .i64 (y1.1 - (1 : Int))) < (((List.length p0) : Nat) : Int)) ∧
      (((0 : Int) ≤ (Go.IntKind.wrap .i64 (y1.1 + (1 : Int)))) ∧
      (((Go.IntKind.wrap .i64 (y1.1 + (1 : Int))) < (((List.length p0) : Nat) : Int)) ∧
      (((0 : Int) ≤ y1.1) ∧
      ((y1.1 < (((List.length p0) : Nat) : Int)) ∧
      (((0 : Int) ≤ (Go.IntKind.wrap .i64 (y1.1 - (1 : Int)))) ∧
      (((Go.IntKind.wrap .i64 (y1.1 - (1 : Int))) < (((List.length p0) : Nat) : Int)) ∧
      (((((List.length y1.2) + (List.length (((Go.IntKind.wrap .i64 ((Go.IntKind.wrap .i64 ((List.getD p0 (Int.toNat (Go.IntKind.wrap .i64 (y1.1 + (1 : Int)))) ((0 : Int), (0 : Int))).1 - (Go.IntKind.wrap .i64 ((2 : Int) * (List.getD p0 (Int.toNat y1.1) ((0 : Int), (0 : Int))).2)))) + (List.getD p0 (Int.toNat (Go.IntKind.wrap .i64 (y1.1 - (1 : Int)))) ((0 : Int), (0 : Int))).1)), (Go.IntKind.wrap .i64 ((Go.IntKind.wrap .i64 ((List.getD p0 (Int.toNat (Go.IntKind.wrap .i64 (y1.1 + (1 : Int)))) ((0 : Int), (0 : Int))).2 - (Go.IntKind.wrap .i64 ((2 : Int) * (List.getD p0 (Int.toNat y1.1) ((0 : Int), (0 : Int))).1)))) + (List.getD p0 (Int.toNat (Go.IntKind.wrap .i64 (y1.1 - (1 : Int)))) ((0 : Int), (0 : Int))).2))) :: ([] : List (Int × Int))))) * 16) ≤ 140737488355328) ∧
      (k2 ((Go.IntKind.wrap .i64 (y1.1 + (1 : Int))), (y1.2 ++ (((Go.IntKind.wrap .i64 ((Go.IntKind.wrap .i64 ((List.getD p0 (Int.toNat (Go.IntKind.wrap .i64 (y1.1 + (1 : Int)))) ((0 : Int), (0 : Int))).1 - (Go.IntKind.wrap .i64 ((2 : Int) * (List.getD p0 (Int.toNat y1.1) ((0 : Int), (0 : Int))).2)))) + (List.getD p0 (Int.toNat (Go.IntKind.wrap .i64 (y1.1 - (1 : Int)))) ((0 : Int), (0 : Int))).1)), (Go.IntKind.wrap .i64 ((Go.IntKind.wrap .i64 ((List.getD p0 (Int.toNat (Go.IntKind.wrap .i64 (y1.1 + (1 : Int)))) ((0 : Int), (0 : Int))).2 - (Go.IntKind.wrap .i64 ((2 : Int) * (List.getD p0 (Int.toNat y1.1) ((0 : Int), (0 : Int))).1)))) + (List.getD p0 (Int.toNat (Go.IntKind.wrap .i64 (y1.1 - (1 : Int)))) ((0 : Int), (0 : Int))).2))) :: ([] : List (Int × Int)))))))))))))))))))) ∧
    (((decide ((Go.IntKind.wrap .i64 (y1.1 + (1 : Int))) < (((List.length p0) : Nat) : Int))) = false) →
    (K y1.2)))) n0 ((1 : Int), ([] : List (Int × Int)))))
set_option maxHeartbeats 4000000 in
theorem w_ref05_Accelerations_eq (p0 : (List (Int × Int))) (K : (List (Int × Int)) → Prop) : tfn F_ref05_Accelerations A_ref05_Accelerations C_ref05_Accelerations P_ref05_Accelerations R_ref05_Accelerations p0 K = w_ref05_Accelerations p0 K := by kernel_rfl
def st_ref05_Accelerations_0 (p0 : (List (Int × Int))) (y0 : (Int × (List (Int × Int)))) : (Int × (List (Int × Int))) ⊕ (List (Int × Int)) :=
  (cond (decide ((Go.IntKind.wrap .i64 (y0.1 + (1 : Int))) < (((List.length p0) : Nat) : Int))) (Sum.inl ((Go.IntKind.wrap .i64 (y0.1 + (1 : Int))), (y0.2 ++ (((Go.IntKind.wrap .i64 ((Go.IntKind.wrap .i64 ((List.getD p0 (Int.toNat (Go.IntKind.wrap .i64 (y0.1 + (1 : Int)))) ((0 : Int), (0 : Int))).1 - (Go.IntKind.wrap .i64 ((2 : Int) * (List.getD p0 (Int.toNat y0.1) ((0 : Int), (0 : Int))).2)))) + (List.getD p0 (Int.toNat (Go.IntKind.wrap .i64 (y0.1 - (1 : Int)))) ((0 : Int), (0 : Int))).1)), (Go.IntKind.wrap .i64 ((Go.IntKind.wrap .i64 ((List.getD p0 (Int.toNat (Go.IntKind.wrap .i64 (y0.1 + (1 : Int)))) ((0 : Int), (0 : Int))).2 - (Go.IntKind.wrap .i64 ((2 : Int) * (List.getD p0 (Int.toNat y0.1) ((0 : Int), (0 : Int))).1)))) + (List.getD p0 (Int.toNat (Go.IntKind.wrap .i64 (y0.1 - (1 : Int)))) ((0 : Int), (0 : Int))).2))) :: ([] : List (Int × Int))))))
    (Sum.inr y0.2))
abbrev sp_ref05_Accelerations_0 (p0 : (List (Int × Int))) (y0 : (Int × (List (Int × Int)))) : List Prop := [(((decide ((Go.IntKind.wrap .i64 (y0.1 + (1 : Int))) < (((List.length p0) : Nat) : Int))) = true) → ((0 : Int) ≤ (Go.IntKind.wrap .i64 (y0.1 + (1 : Int))))),
    (((decide ((Go.IntKind.wrap .i64 (y0.1 + (1 : Int))) < (((List.length p0) : Nat) : Int))) = true) → ((Go.IntKind.wrap .i64 (y0.1 + (1 : Int))) < (((List.length p0) : Nat) : Int))),
    (((decide ((Go.IntKind.wrap .i64 (y0.1 + (1 : Int))) < (((List.length p0) : Nat) : Int))) = true) → ((0 : Int) ≤ y0.1)),
    (((decide ((Go.IntKind.wrap .i64 (y0.1 + (1 : Int))) < (((List.length p0) : Nat) : Int))) = true) → (y0.1 < (((List.length p0) : Nat) : Int))),
    (((decide ((Go.IntKind.wrap .i64 (y0.1 + (1 : Int))) < (((List.length p0) : Nat) : Int))) = true) → ((0 : Int) ≤ (Go.IntKind.wrap .i64 (y0.1 - (1 : Int))))),
    (((decide ((Go.IntKind.wrap .i64 (y0.1 + (1 : Int))) < (((List.length p0) : Nat) : Int))) = true) → ((Go.IntKind.wrap .i64 (y0.1 - (1 : Int))) < (((List.length p0) : Nat) : Int))),
    (((decide ((Go.IntKind.wrap .i64 (y0.1 + (1 : Int))) < (((List.length p0) : Nat) : Int))) = true) → ((((List.length y0.2) + (List.length (((Go.IntKind.wrap .i64 ((Go.IntKind.wrap .i64 ((List.getD p0 (Int.toNat (Go.IntKind.wrap .i64 (y0.1 + (1 : Int)))) ((0 : Int), (0 : Int))).1 - (Go.IntKind.wrap .i64 ((2 : Int) * (List.getD p0 (Int.toNat y0.1) ((0 : Int), (0 : Int))).2)))) + (List.getD p0 (Int.toNat (Go.IntKind.wrap .i64 (y0.1 - (1 : Int)))) ((0 : Int), (0 : Int))).1)), (Go.IntKind.wrap .i64 ((Go.IntKind.wrap .i64 ((List.getD p0 (Int.toNat (Go.IntKind.wrap .i64 (y0.1 + (1 : Int)))) ((0 : Int), (0 : Int))).2 - (Go.IntKind.wrap .i64 ((2 : Int) * (List.getD p0 (Int.toNat y0.1) ((0 : Int), (0 : Int))).1)))) + (List.getD p0 (Int.toNat (Go.IntKind.wrap .i64 (y0.1 - (1 : Int)))) ((0 : Int), (0 : Int))).2))) :: ([] : List (Int × Int))))) * 16) ≤ 140737488355328))]
def s_ref05_Accelerations (p0 : (List (Int × Int))) : (List (Int × Int)) :=
  (lpv [] (st_ref05_Accelerations_0 p0) ((1 : Int), ([] : List (Int × Int))))
abbrev pre_ref05_Accelerations (p0 : (List (Int × Int))) : List Prop := [(OkL (st_ref05_Accelerations_0 p0) (sp_ref05_Accelerations_0 p0) ((1 : Int), ([] : List (Int × Int))))]
set_option maxHeartbeats 4000000 in
theorem d_ref05_Accelerations (p0 : (List (Int × Int))) (K : (List (Int × Int)) → Prop) (hp : ∀ p ∈ pre_ref05_Accelerations p0, p) (h : K (s_ref05_Accelerations p0)) : w_ref05_Accelerations p0 K := by
  unfold w_ref05_Accelerations
  unfold s_ref05_Accelerations at h
  obtain ⟨hp0, _⟩ := conj_of hp
  exact (loop_gen (hp0) h (fun y0 k0 hp h => by
  unfold st_ref05_Accelerations_0 at h; obtain ⟨hp0, hp1, hp2, hp3, hp4, hp5, hp6, _⟩ := conj_of hp
  exact (br' h (fun e1 h => ⟨(hp0 e1), ⟨(hp1 e1), ⟨(hp2 e1), ⟨(hp3 e1), ⟨(hp4 e1), ⟨(hp5 e1), ⟨(hp0 e1), ⟨(hp1 e1), ⟨(hp2 e1), ⟨(hp3 e1), ⟨(hp4 e1), ⟨(hp5 e1), ⟨(hp6 e1), h⟩⟩⟩⟩⟩⟩⟩⟩⟩⟩⟩⟩⟩)
    (fun e1 h => h))))
theorem l_ref05_Accelerations (p0 : List (Int × Int)) (hl : v_hok p0) : OkL (st_ref05_Accelerations_0 p0) (sp_ref05_Accelerations_0 p0) (1, []) ∧ s_ref05_Accelerations p0 = v_acc p0 := by
  have hlen := hl.len
  have := forapp_is (dd := ([] : List (Int × Int))) (st := st_ref05_Accelerations_0 p0) (sp := sp_ref05_Accelerations_0 p0) (fun i t => (i, t)) 1 (max 1 (p0.length - 1)) (fun j => v_sec (p0.getD (j - 1) (0, 0)) (p0.getD j (0, 0)) (p0.getD (j + 1) (0, 0))) id (by omega) (by omega) ?_ ?_
  · refine ⟨this.1, this.2.trans ?_⟩
    unfold v_acc id
    rw [show max 1 (p0.length - 1) - 1 = p0.length - 2 by omega, show List.range' 1 (p0.length - 2) = (List.range' 0 (p0.length - 2)).map (1 + ·) by rw [List.map_add_range'], List.map_map]
    refine List.map_congr_left fun k hk => ?_
    simp only [Function.comp]
    rw [show 1 + k - 1 = k by omega, show 1 + k = k + 1 by omega]
  · intro t ht
    have hw : IntKind.i64.wrap (((max 1 (p0.length - 1) : Nat) : Int) + 1) = ((max 1 (p0.length - 1) : Nat) : Int) + 1 := wrap_id (by omega) (by omega)
    have hd : decide (((max 1 (p0.length - 1) : Nat) : Int) + 1 < (p0.length : Int)) = false := decide_eq_false (by omega)
    refine ⟨?_, by simp only [st_ref05_Accelerations_0, hw, hd]; rfl⟩
    simp only [sp_ref05_Accelerations_0, hw, hd, List.forall_mem_cons]
    simp
  · intro j t h1 h2 h3
    have hw : IntKind.i64.wrap ((j : Int) + 1) = ((j + 1 : Nat) : Int) := wrap_nat (by omega)
    have hw2 : IntKind.i64.wrap ((j : Int) - 1) = ((j - 1 : Nat) : Int) := by rw [wrap_id (by omega) (by omega)]; omega
    have hd : decide (((j + 1 : Nat) : Int) < (p0.length : Int)) = true := decide_eq_true (by omega)
    have ha := hl.all _ (getD_mem' (0, 0) (show j - 1 < p0.length by omega))
    have hb := hl.all _ (getD_mem' (0, 0) (show j < p0.length by omega))
    have hc := hl.all _ (getD_mem' (0, 0) (show j + 1 < p0.length by omega))
    refine ⟨?_, ?_⟩
    · simp only [sp_ref05_Accelerations_0, hw, hw2, hd, List.forall_mem_cons]
      exact ⟨fun _ => by omega, fun _ => by omega, fun _ => by omega, fun _ => by omega, fun _ => by omega, fun _ => by omega, fun _ => by simp; omega, by simp⟩
    · simp only [st_ref05_Accelerations_0, hw, hw2, hd, cond_true, Int.toNat_natCast]
      rw [v_sec_eq ha.2.2 hb.2.2 hc.2.2]
      generalize p0.getD (j - 1) (0, 0) = a at *
      generalize p0.getD j (0, 0) = b at *
      generalize p0.getD (j + 1) (0, 0) = c at *
      obtain ⟨a1, a2, a3⟩ := ha
      obtain ⟨b1, b2, b3⟩ := hb
      obtain ⟨c1, c2, c3⟩ := hc
      rw [wrap_id (n := 2 * b.2) (by omega) (by omega), wrap_id (n := 2 * b.1) (by omega) (by omega), wrap_id (n := c.1 - 2 * b.2) (by omega) (by omega), wrap_id (n := c.2 - 2 * b.1) (by omega) (by omega), wrap_id (by omega) (by omega), wrap_id (by omega) (by omega)]
abbrev t_ref05_Accelerations (p0 : List (Int × Int)) : List (Int × Int) := v_acc p0
abbrev qre_ref05_Accelerations (p0 : List (Int × Int)) : List Prop := [v_hok p0]
theorem pp_ref05_Accelerations (p0 : List (Int × Int)) (hq : ∀ p ∈ qre_ref05_Accelerations p0, p) : ∀ p ∈ pre_ref05_Accelerations p0, p := by
  simp only [pre_ref05_Accelerations, List.forall_mem_cons]
  exact ⟨(l_ref05_Accelerations p0 (conj_of hq).1).1, by simp⟩
theorem tt_ref05_Accelerations (p0 : List (Int × Int)) (hq : ∀ p ∈ qre_ref05_Accelerations p0, p) : s_ref05_Accelerations p0 = t_ref05_Accelerations p0 := (l_ref05_Accelerations p0 (conj_of hq).1).2

abbrev con_ref05_Accelerations : Con := ⟨P_ref05_Accelerations, R_ref05_Accelerations, fun x => qre_ref05_Accelerations x, fun x => t_ref05_Accelerations x⟩
theorem ok_ref05_Accelerations : ConOk Tryd.prog 34 con_ref05_Accelerations := ⟨k_ref05_Accelerations, fun x hx => ret_tf (ps := P_ref05_Accelerations) (rs := R_ref05_Accelerations) (x := x) (y := t_ref05_Accelerations x) e_ref05_Accelerations hC_ref05_Accelerations (tf_of (w_ref05_Accelerations_eq x (fun z => z = t_ref05_Accelerations x)) (d_ref05_Accelerations x (fun z => z = t_ref05_Accelerations x) (pp_ref05_Accelerations x hx) (tt_ref05_Accelerations x hx)))⟩
/- base_Ranges -/
def C_base_Ranges : Cons := []
theorem hC_base_Ranges : ConsOk Tryd.prog C_base_Ranges := ConsOk.nil
def w_base_Ranges (p0 : (List (Int × Int))) (p1 : (List (Int × Int))) (K : Bool → Prop) : Prop :=
  (((((((List.length p0) : Nat) : Int) != (((List.length p1) : Nat) : Int)) = true) →
  (K false)) ∧
  ((((((List.length p0) : Nat) : Int) != (((List.length p1) : Nat) : Int)) = false) →
  (∃ n0, (loopP (fun (y1 : Int) k2 =>
      ((((decide (y1 < (((List.length p0) : Nat) : Int))) = true) →
      (((0 : Int) ≤ y1) ∧
        ((y1 < (((List.length p0) : Nat) : Int)) ∧
        (((0 : Int) ≤ y1) ∧
        ((y1 < (((List.length p1) : Nat) : Int)) ∧
        ((((!(((List.getD p0 (Int.toNat y1) ((0 : Int), (0 : Int))).1 == (List.getD p1 (Int.toNat y1) ((0 : Int), (0 : Int))).1) && (((List.getD p0 (Int.toNat y1) ((0 : Int), (0 : Int))).2 == (List.getD p1 (Int.toNat y1) ((0 : Int), (0 : Int))).2) && true))) = true) →
        (K false)) ∧
        (((!(((List.getD p0 (Int.toNat y1) ((0 : Int), (0 : Int))).1 == (List.getD p1 (Int.toNat y1) ((0 : Int), (0 : Int))).1) && (((List.getD p0 (Int.toNat y1) ((0 : Int), (0 : Int))).2 == (List.getD p1 (Int.toNat y1) ((0 : Int), (0 : Int))).2) && true))) = false) →
        (k2 (Go.IntKind.wrap .i64 (y1 + (1 : Int))))))))))) ∧
      (((decide (y1 < (((List.length p0) : Nat) : Int))) = false) →
      (K true)))) n0 (0 : Int)))))
set_option maxHeartbeats 4000000 in
theorem w_base_Ranges_eq (p0 : (List (Int × Int))) (p1 : (List (Int × Int))) (K : Bool → Prop) : tfn F_base_Ranges A_base_Ranges C_base_Ranges P_base_Ranges R_base_Ranges (p0, p1) K = w_base_Ranges p0 p1 K := by kernel_rfl
def st_base_Ranges_0 (p0 : (List (Int × Int))) (p1 : (List (Int × Int))) (y1 : Int) : Int ⊕ Bool :=
  (cond (decide (y1 < (((List.length p0) : Nat) : Int))) (cond (!(((List.getD p0 (Int.toNat y1) ((0 : Int), (0 : Int))).1 == (List.getD p1 (Int.toNat y1) ((0 : Int), (0 : Int))).1) && (((List.getD p0 (Int.toNat y1) ((0 : Int), (0 : Int))).2 == (List.getD p1 (Int.toNat y1) ((0 : Int), (0 : Int))).2) && true))) (Sum.inr false)
    (Sum.inl (Go.IntKind.wrap .i64 (y1 + (1 : Int)))))
    (Sum.inr true))
abbrev sp_base_Ranges_0 (p0 : (List (Int × Int))) (p1 : (List (Int × Int))) (y1 : Int) : List Prop := [(((decide (y1 < (((List.length p0) : Nat) : Int))) = true) → ((0 : Int) ≤ y1)),
    (((decide (y1 < (((List.length p0) : Nat) : Int))) = true) → (y1 < (((List.length p0) : Nat) : Int))),
    (((decide (y1 < (((List.length p0) : Nat) : Int))) = true) → (y1 < (((List.length p1) : Nat) : Int)))]
def s_base_Ranges (p0 : (List (Int × Int))) (p1 : (List (Int × Int))) : Bool :=
  (cond ((((List.length p0) : Nat) : Int) != (((List.length p1) : Nat) : Int)) false
    (lpv false (st_base_Ranges_0 p0 p1) (0 : Int)))
abbrev pre_base_Ranges (p0 : (List (Int × Int))) (p1 : (List (Int × Int))) : List Prop := [((((((List.length p0) : Nat) : Int) != (((List.length p1) : Nat) : Int)) = false) → (OkL (st_base_Ranges_0 p0 p1) (sp_base_Ranges_0 p0 p1) (0 : Int)))]
set_option maxHeartbeats 4000000 in
theorem d_base_Ranges (p0 : (List (Int × Int))) (p1 : (List (Int × Int))) (K : Bool → Prop) (hp : ∀ p ∈ pre_base_Ranges p0 p1, p) (h : K (s_base_Ranges p0 p1)) : w_base_Ranges p0 p1 K := by
  unfold w_base_Ranges
  unfold s_base_Ranges at h
  obtain ⟨hp0, _⟩ := conj_of hp
  exact (br' h (fun e0 h => h)
    (fun e0 h => (loop_gen (hp0 e0) h (fun y1 k1 hp h => by
  unfold st_base_Ranges_0 at h; obtain ⟨hp0, hp1, hp2, _⟩ := conj_of hp
  exact (br' h (fun e2 h => ⟨(hp0 e2), ⟨(hp1 e2), ⟨(hp0 e2), ⟨(hp2 e2), (br' h (fun e3 h => h)
    (fun e3 h => h))⟩⟩⟩⟩)
    (fun e2 h => h))))))
theorem l_base_Ranges_0 (p0 p1 : List (Int × Int)) (hl : lenOk p0) (he : p0.length = p1.length) : OkL (st_base_Ranges_0 p0 p1) (sp_base_Ranges_0 p0 p1) 0 ∧ lpv false (st_base_Ranges_0 p0 p1) 0 = v_scan (fun i x => cond (!(((x.1 == (p1.getD i.toNat (0, 0)).1) && ((x.2 == (p1.getD i.toNat (0, 0)).2) && true)))) (some false) none) true 0 p0 := by
  refine scan_is p0 (0, 0) (fun i x => cond (!(((x.1 == (p1.getD i.toNat (0, 0)).1) && ((x.2 == (p1.getD i.toNat (0, 0)).2) && true)))) (some false) none) true hl ?_ ?_
  · refine ⟨by simp only [sp_base_Ranges_0, List.forall_mem_cons, decide_eq_true_eq]; simp, by simp [st_base_Ranges_0]⟩
  · intro j hj
    have hj' : (j : Int) < p0.length := by omega
    refine ⟨by simp only [sp_base_Ranges_0, List.forall_mem_cons, decide_eq_true_eq, Int.toNat_natCast]; simp <;> omega, ?_⟩
    simp only [st_base_Ranges_0, hj', decide_true, Int.toNat_natCast, cond_true, wrap_nat (show (j : Int) ≤ 9223372036854775806 by unfold lenOk at hl; omega)]
    generalize p0.getD j (0, 0) = x
    generalize p1.getD j (0, 0) = z
    cases (x.1 == z.1) <;> cases (x.2 == z.2) <;> rfl
abbrev t_base_Ranges (p0 p1 : List (Int × Int)) : Bool := decide (p0 = p1)
abbrev qre_base_Ranges (p0 p1 : List (Int × Int)) : List Prop := [lenOk p0]
theorem pp_base_Ranges (p0 p1 : List (Int × Int)) (hq : ∀ p ∈ qre_base_Ranges p0 p1, p) : ∀ p ∈ pre_base_Ranges p0 p1, p := by
  simp only [pre_base_Ranges, List.forall_mem_cons]
  refine ⟨fun h => (l_base_Ranges_0 p0 p1 (conj_of hq).1 ?_).1, by simp⟩
  have h' : (p0.length : Int) = p1.length := by simpa using h
  omega
theorem tt_base_Ranges (p0 p1 : List (Int × Int)) (hq : ∀ p ∈ qre_base_Ranges p0 p1, p) : s_base_Ranges p0 p1 = t_base_Ranges p0 p1 := by
  unfold s_base_Ranges t_base_Ranges
  by_cases h : p0.length = p1.length
  · rw [show ((p0.length : Int) != (p1.length : Int)) = false by simp [h]]
    refine (l_base_Ranges_0 p0 p1 (conj_of hq).1 h).2.trans ?_
    exact v_scan_eq (0, 0) (fun x y => ((x.1 == y.1) && ((x.2 == y.2) && true))) (fun x y => by by_cases h1 : x.1 = y.1 <;> by_cases h2 : x.2 = y.2 <;> simp [h1, h2, Prod.ext_iff]) p0 p1 h
  · rw [show ((p0.length : Int) != (p1.length : Int)) = true by simp; omega]
    have : p0 ≠ p1 := fun e => h (congrArg List.length e)
    simp [this]

abbrev con_base_Ranges : Con := ⟨P_base_Ranges, R_base_Ranges, fun x => qre_base_Ranges x.1 x.2, fun x => t_base_Ranges x.1 x.2⟩
theorem ok_base_Ranges : ConOk Tryd.prog 33 con_base_Ranges := ⟨k_base_Ranges, fun x hx => ret_tf (ps := P_base_Ranges) (rs := R_base_Ranges) (x := x) (y := t_base_Ranges x.1 x.2) e_base_Ranges hC_base_Ranges (tf_of (w_base_Ranges_eq x.1 x.2 (fun z => z = t_base_Ranges x.1 x.2)) (d_base_Ranges x.1 x.2 (fun z => z = t_base_Ranges x.1 x.2) (pp_base_Ranges x.1 x.2 hx) (tt_base_Ranges x.1 x.2 hx)))⟩
/- ref05_ReadingsErr -/
def C_ref05_ReadingsErr : Cons := [(60, [], con_base_Within)]
theorem hC_ref05_ReadingsErr : ConsOk Tryd.prog C_ref05_ReadingsErr := ConsOk.cons ok_base_Within <| ConsOk.nil
def w_ref05_ReadingsErr (p0 : (List Int)) (K : Int → Prop) : Prop :=
  ((((decide ((((List.length p0) : Nat) : Int) > (64 : Int))) = true) →
  (K (8 : Int))) ∧
  (((decide ((((List.length p0) : Nat) : Int) > (64 : Int))) = false) →
  (∃ n0, (loopP (fun (y1 : Int) k2 =>
      ((((decide (y1 < (((List.length p0) : Nat) : Int))) = true) →
      (((0 : Int) ≤ y1) ∧
        ((y1 < (((List.length p0) : Nat) : Int)) ∧
        ((((!(s_base_Within (List.getD p0 (Int.toNat y1) (0 : Int)) (-1000000 : Int) (1000000 : Int))) = true) →
        (K (2 : Int))) ∧
        (((!(s_base_Within (List.getD p0 (Int.toNat y1) (0 : Int)) (-1000000 : Int) (1000000 : Int))) = false) →
        (k2 (Go.IntKind.wrap .i64 (y1 + (1 : Int))))))))) ∧
      (((decide (y1 < (((List.length p0) : Nat) : Int))) = false) →
      (K (0 : Int))))) n0 (0 : Int)))))
set_option maxHeartbeats 4000000 in
theorem w_ref05_ReadingsErr_eq (p0 : (List Int)) (K : Int → Prop) : tfn F_ref05_ReadingsErr A_ref05_ReadingsErr C_ref05_ReadingsErr P_ref05_ReadingsErr R_ref05_ReadingsErr p0 K = w_ref05_ReadingsErr p0 K := by kernel_rfl
def st_ref05_ReadingsErr_0 (p0 : (List Int)) (y1 : Int) : Int ⊕ Int :=
  (cond (decide (y1 < (((List.length p0) : Nat) : Int))) (cond (!(s_base_Within (List.getD p0 (Int.toNat y1) (0 : Int)) (-1000000 : Int) (1000000 : Int))) (Sum.inr (2 : Int))
    (Sum.inl (Go.IntKind.wrap .i64 (y1 + (1 : Int)))))
    (Sum.inr (0 : Int)))
abbrev sp_ref05_ReadingsErr_0 (p0 : (List Int)) (y1 : Int) : List Prop := [(((decide (y1 < (((List.length p0) : Nat) : Int))) = true) → ((0 : Int) ≤ y1)),
    (((decide (y1 < (((List.length p0) : Nat) : Int))) = true) → (y1 < (((List.length p0) : Nat) : Int)))]
def s_ref05_ReadingsErr (p0 : (List Int)) : Int :=
  (cond (decide ((((List.length p0) : Nat) : Int) > (64 : Int))) (8 : Int)
    (lpv (0 : Int) (st_ref05_ReadingsErr_0 p0) (0 : Int)))
abbrev pre_ref05_ReadingsErr (p0 : (List Int)) : List Prop := [(((decide ((((List.length p0) : Nat) : Int) > (64 : Int))) = false) → (OkL (st_ref05_ReadingsErr_0 p0) (sp_ref05_ReadingsErr_0 p0) (0 : Int)))]
set_option maxHeartbeats 4000000 in
theorem d_ref05_ReadingsErr (p0 : (List Int)) (K : Int → Prop) (hp : ∀ p ∈ pre_ref05_ReadingsErr p0, p) (h : K (s_ref05_ReadingsErr p0)) : w_ref05_ReadingsErr p0 K := by
  unfold w_ref05_ReadingsErr
  unfold s_ref05_ReadingsErr at h
  obtain ⟨hp0, _⟩ := conj_of hp
  exact (br' h (fun e0 h => h)
    (fun e0 h => (loop_gen (hp0 e0) h (fun y1 k1 hp h => by
  unfold st_ref05_ReadingsErr_0 at h; obtain ⟨hp0, hp1, _⟩ := conj_of hp
  exact (br' h (fun e2 h => ⟨(hp0 e2), ⟨(hp1 e2), (br' h (fun e3 h => h)
    (fun e3 h => h))⟩⟩)
    (fun e2 h => h))))))
theorem l_ref05_ReadingsErr_0 (p0 : List Int) (hl : lenOk p0) : OkL (st_ref05_ReadingsErr_0 p0) (sp_ref05_ReadingsErr_0 p0) 0 ∧ lpv (0 : Int) (st_ref05_ReadingsErr_0 p0) 0 = v_scan (fun _ x => cond (s_gravity_readingsErr_1 x) (some 2) none) (0 : Int) 0 p0 := by
  refine scan_is p0 0 (fun _ x => cond (s_gravity_readingsErr_1 x) (some 2) none) (0 : Int) hl ?_ ?_
  · refine ⟨by simp only [sp_ref05_ReadingsErr_0, List.forall_mem_cons, decide_eq_true_eq]; simp, by simp [st_ref05_ReadingsErr_0]⟩
  · intro j hj
    have hj' : (j : Int) < p0.length := by omega
    refine ⟨by simp only [sp_ref05_ReadingsErr_0, List.forall_mem_cons, decide_eq_true_eq, Int.toNat_natCast]; simp <;> omega, ?_⟩
    simp only [st_ref05_ReadingsErr_0, hj', decide_true, Int.toNat_natCast, cond_true, wrap_nat (show (j : Int) ≤ 9223372036854775806 by unfold lenOk at hl; omega)]
    generalize p0.getD j 0 = x
    show (cond (s_gravity_readingsErr_1 x) _ _) = _
    cases s_gravity_readingsErr_1 x <;> rfl
abbrev t_ref05_ReadingsErr (p0 : List Int) : Int := s_gravity_readingsErr p0
abbrev qre_ref05_ReadingsErr (p0 : List Int) : List Prop := [lenOk p0]
theorem pp_ref05_ReadingsErr (p0 : List Int) (hq : ∀ p ∈ qre_ref05_ReadingsErr p0, p) : ∀ p ∈ pre_ref05_ReadingsErr p0, p := by
  simp only [pre_ref05_ReadingsErr, List.forall_mem_cons]
  exact ⟨fun h => (l_ref05_ReadingsErr_0 p0 (conj_of hq).1).1, by simp⟩
theorem tt_ref05_ReadingsErr (p0 : List Int) (hq : ∀ p ∈ qre_ref05_ReadingsErr p0, p) : s_ref05_ReadingsErr p0 = t_ref05_ReadingsErr p0 := by
  unfold s_ref05_ReadingsErr t_ref05_ReadingsErr s_gravity_readingsErr
  rw [(l_ref05_ReadingsErr_0 p0 (conj_of hq).1).2, v_scan_any]
  show _ = v_first _
  unfold v_any_slices_ContainsFuncint_int__gravity_readingsErr_1
  rcases Int.lt_or_le 64 (p0.length : Int) with h | h
  · have h' : ¬ (p0.length : Int) ≤ 64 := by omega
    cases p0.any s_gravity_readingsErr_1 <;> simp [s_gravity_unless, v_first, h, h']
  · have h' : ¬ (p0.length : Int) > 64 := by omega
    cases p0.any s_gravity_readingsErr_1 <;> simp [s_gravity_unless, v_first, h, h']

abbrev con_ref05_ReadingsErr : Con := ⟨P_ref05_ReadingsErr, R_ref05_ReadingsErr, fun x => qre_ref05_ReadingsErr x, fun x => t_ref05_ReadingsErr x⟩
theorem ok_ref05_ReadingsErr : ConOk Tryd.prog 104 con_ref05_ReadingsErr := ⟨k_ref05_ReadingsErr, fun x hx => ret_tf (ps := P_ref05_ReadingsErr) (rs := R_ref05_ReadingsErr) (x := x) (y := t_ref05_ReadingsErr x) e_ref05_ReadingsErr hC_ref05_ReadingsErr (tf_of (w_ref05_ReadingsErr_eq x (fun z => z = t_ref05_ReadingsErr x)) (d_ref05_ReadingsErr x (fun z => z = t_ref05_ReadingsErr x) (pp_ref05_ReadingsErr x hx) (tt_ref05_ReadingsErr x hx)))⟩
/- ref05_HeightsErr -/
def C_ref05_HeightsErr : Cons := [(32, [], con_ref05_CheckHeights)]
theorem hC_ref05_HeightsErr : ConsOk Tryd.prog C_ref05_HeightsErr := ConsOk.cons ok_ref05_CheckHeights <| ConsOk.nil
def w_ref05_HeightsErr (p0 : (List (Int × Int))) (K : Int → Prop) : Prop :=
  (K (v_heights p0).2)
set_option maxHeartbeats 4000000 in
theorem w_ref05_HeightsErr_eq (p0 : (List (Int × Int))) (K : Int → Prop) : tfn F_ref05_HeightsErr A_ref05_HeightsErr C_ref05_HeightsErr P_ref05_HeightsErr R_ref05_HeightsErr p0 K = w_ref05_HeightsErr p0 K := by kernel_rfl
def s_ref05_HeightsErr (p0 : (List (Int × Int))) : Int :=
  (v_heights p0).2
abbrev pre_ref05_HeightsErr (p0 : (List (Int × Int))) : List Prop := []
set_option maxHeartbeats 4000000 in
theorem d_ref05_HeightsErr (p0 : (List (Int × Int))) (K : Int → Prop) (hp : ∀ p ∈ pre_ref05_HeightsErr p0, p) (h : K (s_ref05_HeightsErr p0)) : w_ref05_HeightsErr p0 K := by
  unfold w_ref05_HeightsErr
  unfold s_ref05_HeightsErr at h
  exact h
abbrev con_ref05_HeightsErr : Con := ⟨P_ref05_HeightsErr, R_ref05_HeightsErr, fun x => pre_ref05_HeightsErr x, fun x => s_ref05_HeightsErr x⟩
theorem ok_ref05_HeightsErr : ConOk Tryd.prog 38 con_ref05_HeightsErr := ⟨k_ref05_HeightsErr, fun x hx => ret_tf (ps := P_ref05_HeightsErr) (rs := R_ref05_HeightsErr) (x := x) (y := s_ref05_HeightsErr x) e_ref05_HeightsErr hC_ref05_HeightsErr (tf_of (w_ref05_HeightsErr_eq x (fun z => z = s_ref05_HeightsErr x)) (d_ref05_HeightsErr x (fun z => z = s_ref05_HeightsErr x) hx rfl))⟩
/- ref05_WithinErr -/
def C_ref05_WithinErr : Cons := [(60, [], con_base_Within)]
theorem hC_ref05_WithinErr : ConsOk Tryd.prog C_ref05_WithinErr := ConsOk.cons ok_base_Within <| ConsOk.nil
def w_ref05_WithinErr (p0 : Int) (p1 : Int) (K : Int → Prop) : Prop :=
  ((((!(s_base_Within p0 (0 : Int) p1)) = true) →
  (K (2 : Int))) ∧
  (((!(s_base_Within p0 (0 : Int) p1)) = false) →
  (K (0 : Int))))
set_option maxHeartbeats 4000000 in
theorem w_ref05_WithinErr_eq (p0 : Int) (p1 : Int) (K : Int → Prop) : tfn F_ref05_WithinErr A_ref05_WithinErr C_ref05_WithinErr P_ref05_WithinErr R_ref05_WithinErr (p0, p1) K = w_ref05_WithinErr p0 p1 K := by kernel_rfl
def s_ref05_WithinErr (p0 : Int) (p1 : Int) : Int :=
  (cond (!(s_base_Within p0 (0 : Int) p1)) (2 : Int)
    (0 : Int))
abbrev pre_ref05_WithinErr (p0 : Int) (p1 : Int) : List Prop := []
set_option maxHeartbeats 4000000 in
theorem d_ref05_WithinErr (p0 : Int) (p1 : Int) (K : Int → Prop) (hp : ∀ p ∈ pre_ref05_WithinErr p0 p1, p) (h : K (s_ref05_WithinErr p0 p1)) : w_ref05_WithinErr p0 p1 K := by
  unfold w_ref05_WithinErr
  unfold s_ref05_WithinErr at h
  exact (br' h (fun e0 h => h)
    (fun e0 h => h))
abbrev con_ref05_WithinErr : Con := ⟨P_ref05_WithinErr, R_ref05_WithinErr, fun x => pre_ref05_WithinErr x.1 x.2, fun x => s_ref05_WithinErr x.1 x.2⟩
theorem ok_ref05_WithinErr : ConOk Tryd.prog 63 con_ref05_WithinErr := ⟨k_ref05_WithinErr, fun x hx => ret_tf (ps := P_ref05_WithinErr) (rs := R_ref05_WithinErr) (x := x) (y := s_ref05_WithinErr x.1 x.2) e_ref05_WithinErr hC_ref05_WithinErr (tf_of (w_ref05_WithinErr_eq x.1 x.2 (fun z => z = s_ref05_WithinErr x.1 x.2)) (d_ref05_WithinErr x.1 x.2 (fun z => z = s_ref05_WithinErr x.1 x.2) hx rfl))⟩
/- ref05_ResidualsErr -/
def C_ref05_ResidualsErr : Cons := [(104, [], con_ref05_ReadingsErr), (38, [], con_ref05_HeightsErr), (63, [], con_ref05_WithinErr)]
theorem hC_ref05_ResidualsErr : ConsOk Tryd.prog C_ref05_ResidualsErr := ConsOk.cons ok_ref05_ReadingsErr <| ConsOk.cons ok_ref05_HeightsErr <| ConsOk.cons ok_ref05_WithinErr <| ConsOk.nil
def w_ref05_ResidualsErr (p0 : (List Int)) (p1 : (List (Int × Int))) (p2 : Int) (K : Int → Prop) : Prop :=
  ((lenOk p0) ∧
  (((((s_gravity_readingsErr p0) != (0 : Int)) = true) →
  (K (s_gravity_readingsErr p0))) ∧
  ((((s_gravity_readingsErr p0) != (0 : Int)) = false) →
  (((((s_ref05_HeightsErr p1) != (0 : Int)) = true) →
    (K (s_ref05_HeightsErr p1))) ∧
    ((((s_ref05_HeightsErr p1) != (0 : Int)) = false) →
    (((((s_ref05_WithinErr p2 (1000 : Int)) != (0 : Int)) = true) →
      (K (s_ref05_WithinErr p2 (1000 : Int)))) ∧
      ((((s_ref05_WithinErr p2 (1000 : Int)) != (0 : Int)) = false) →
      (((((((List.length p0) : Nat) : Int) != (((List.length p1) : Nat) : Int)) = false) →
        (((((List.length p0) : Nat) : Int) != (((List.length p1) : Nat) : Int)) = ((((List.length p0) : Nat) : Int) != (((List.length p1) : Nat) : Int)))) ∧
        (((((((List.length p0) : Nat) : Int) != (((List.length p1) : Nat) : Int)) = false) →
        (((((List.length p0) : Nat) : Int) != (((List.length p1) : Nat) : Int)) = ((((List.length p0) : Nat) : Int) != (((List.length p1) : Nat) : Int)))) ∧
        ((((((List.length p0) : Nat) : Int) != (((List.length p1) : Nat) : Int)) = ((((List.length p0) : Nat) : Int) != (((List.length p1) : Nat) : Int))) ∧
        ((((cond ((((List.length p0) : Nat) : Int) != (((List.length p1) : Nat) : Int)) true (decide ((((List.length p1) : Nat) : Int) < (3 : Int)))) = true) →
        (K (10 : Int))) ∧
        (((cond ((((List.length p0) : Nat) : Int) != (((List.length p1) : Nat) : Int)) true (decide ((((List.length p1) : Nat) : Int) < (3 : Int)))) = false) →
        (K (0 : Int))))))))))))))
set_option maxHeartbeats 4000000 in
theorem w_ref05_ResidualsErr_eq (p0 : (List Int)) (p1 : (List (Int × Int))) (p2 : Int) (K : Int → Prop) : tfn F_ref05_ResidualsErr A_ref05_ResidualsErr C_ref05_ResidualsErr P_ref05_ResidualsErr R_ref05_ResidualsErr (p0, p1, p2) K = w_ref05_ResidualsErr p0 p1 p2 K := by kernel_rfl
def s_ref05_ResidualsErr (p0 : (List Int)) (p1 : (List (Int × Int))) (p2 : Int) : Int :=
  (cond ((s_gravity_readingsErr p0) != (0 : Int)) (s_gravity_readingsErr p0)
    (cond ((s_ref05_HeightsErr p1) != (0 : Int)) (s_ref05_HeightsErr p1)
    (cond ((s_ref05_WithinErr p2 (1000 : Int)) != (0 : Int)) (s_ref05_WithinErr p2 (1000 : Int))
    (cond (cond ((((List.length p0) : Nat) : Int) != (((List.length p1) : Nat) : Int)) true (decide ((((List.length p1) : Nat) : Int) < (3 : Int)))) (10 : Int)
    (0 : Int)))))
abbrev pre_ref05_ResidualsErr (p0 : (List Int)) (p1 : (List (Int × Int))) (p2 : Int) : List Prop := [(lenOk p0)]
set_option maxHeartbeats 4000000 in
theorem d_ref05_ResidualsErr (p0 : (List Int)) (p1 : (List (Int × Int))) (p2 : Int) (K : Int → Prop) (hp : ∀ p ∈ pre_ref05_ResidualsErr p0 p1 p2, p) (h : K (s_ref05_ResidualsErr p0 p1 p2)) : w_ref05_ResidualsErr p0 p1 p2 K := by
  unfold w_ref05_ResidualsErr
  unfold s_ref05_ResidualsErr at h
  obtain ⟨hp0, _⟩ := conj_of hp
  exact ⟨(hp0), (br' h (fun e0 h => h)
    (fun e0 h => (br' h (fun e1 h => h)
    (fun e1 h => (br' h (fun e2 h => h)
    (fun e2 h => ⟨(fun _ => rfl), ⟨(fun _ => rfl), ⟨rfl, (br' h (fun e3 h => h)
    (fun e3 h => h))⟩⟩⟩))))))⟩
abbrev t_ref05_ResidualsErr (p0 : List Int) (p1 : List (Int × Int)) (p2 : Int) : Int := v_reserr p0 p1 p2
abbrev qre_ref05_ResidualsErr (p0 : List Int) (_ : List (Int × Int)) (_ : Int) : List Prop := [lenOk p0]
theorem pp_ref05_ResidualsErr (p0 : List Int) (p1 : List (Int × Int)) (p2 : Int) (hq : ∀ p ∈ qre_ref05_ResidualsErr p0 p1 p2, p) : ∀ p ∈ pre_ref05_ResidualsErr p0 p1 p2, p := hq
theorem tt_ref05_ResidualsErr (p0 : List Int) (p1 : List (Int × Int)) (p2 : Int) (_ : ∀ p ∈ qre_ref05_ResidualsErr p0 p1 p2, p) : s_ref05_ResidualsErr p0 p1 p2 = t_ref05_ResidualsErr p0 p1 p2 := by
  show s_ref05_ResidualsErr p0 p1 p2 = v_first (s_gravity_readingsErr p0 :: s_gravity_rangesErr p1 :: s_gravity_unless (s_gravity_within p2 0 1000) 2 :: s_gravity_unless (cond ((p0.length : Int) == (p1.length : Int)) (decide ((p0.length : Int) ≥ 3)) false) 10 :: [])
  unfold s_ref05_ResidualsErr s_ref05_HeightsErr s_ref05_WithinErr
  show cond (s_gravity_readingsErr p0 != 0) _ (cond (s_gravity_rangesErr p1 != 0) _ _) = _
  simp only [v_first, tx_eqw]
  cases (s_gravity_readingsErr p0 != 0) <;> cases (s_gravity_rangesErr p1 != 0) <;> cases s_gravity_within p2 0 1000 <;> try rfl
  simp only [s_gravity_unless]
  by_cases h1 : (p0.length : Int) = p1.length
  · rcases Int.lt_or_le (p1.length : Int) 3 with h2 | h2
    · have h2' : ¬ (p1.length : Int) ≥ 3 := by omega
      simp [h1, h2, h2']
    · have h2' : ¬ (p1.length : Int) < 3 := by omega
      simp [h1, h2, h2']
  · rw [show ((p0.length : Int) != (p1.length : Int)) = true from bne_iff_ne.2 h1, show ((p0.length : Int) == (p1.length : Int)) = false from beq_eq_false_iff_ne.2 h1]; rfl

abbrev con_ref05_ResidualsErr : Con := ⟨P_ref05_ResidualsErr, R_ref05_ResidualsErr, fun x => qre_ref05_ResidualsErr x.1 x.2.1 x.2.2, fun x => t_ref05_ResidualsErr x.1 x.2.1 x.2.2⟩
theorem ok_ref05_ResidualsErr : ConOk Tryd.prog 35 con_ref05_ResidualsErr := ⟨k_ref05_ResidualsErr, fun x hx => ret_tf (ps := P_ref05_ResidualsErr) (rs := R_ref05_ResidualsErr) (x := x) (y := t_ref05_ResidualsErr x.1 x.2.1 x.2.2) e_ref05_ResidualsErr hC_ref05_ResidualsErr (tf_of (w_ref05_ResidualsErr_eq x.1 x.2.1 x.2.2 (fun z => z = t_ref05_ResidualsErr x.1 x.2.1 x.2.2)) (d_ref05_ResidualsErr x.1 x.2.1 x.2.2 (fun z => z = t_ref05_ResidualsErr x.1 x.2.1 x.2.2) (pp_ref05_ResidualsErr x.1 x.2.1 x.2.2 hx) (tt_ref05_ResidualsErr x.1 x.2.1 x.2.2 hx)))⟩
/- ref05_Residuals -/
def C_ref05_Residuals : Cons := [(34, [], con_ref05_Accelerations)]
theorem hC_ref05_Residuals : ConsOk Tryd.prog C_ref05_Residuals := ConsOk.cons ok_ref05_Accelerations <| ConsOk.nil
def w_ref05_Residuals (p0 : (List Int)) (p1 : (List (Int × Int))) (p2 : Int) (K : (List (Int × Int)) → Prop) : Prop :=
  ((v_hok p1) ∧
  (∃ n0, (loopP (fun (y1 : (Int × (List (Int × Int)))) k2 =>
    ((((decide (y1.1 < (((List.length (v_acc p1)) : Nat) : Int))) = true) →
    (((0 : Int) ≤ (Go.IntKind.wrap .i64 (y1.1 + (1 : Int)))) ∧
      (((Go.IntKind.wrap .i64 (y1.1 + (1 : Int))) < (((List.length p0) : Nat) : Int)) ∧
      (((0 : Int) ≤ y1.1) ∧
      ((y1.1 < (((List.length (v_acc p1)) : Nat) : Int)) ∧
      (((0 : Int) ≤ (Go.IntKind.wrap .i64 (y1.1 + (1 : Int)))) ∧
      (((Go.IntKind.wrap .i64 (y1.1 + (1 : Int))) < (((List.length p0) : Nat) : Int)) ∧
      (((0 : Int) ≤ y1.1) ∧
      ((y1.1 < (((List.length (v_acc p1)) : Nat) : Int)) ∧
      (((((List.length y1.2) + (List.length (((Go.IntKind.wrap .i64 ((List.getD p0 (Int.toNat (Go.IntKind.wrap .i64 (y1.1 + (1 : Int)))) (0 : Int)) - (Go.IntKind.wrap .i64 (p2 * (List.getD (v_acc p1) (Int.toNat y1.1) ((0 : Int), (0 : Int))).2)))), (Go.IntKind.wrap .i64 ((List.getD p0 (Int.toNat (Go.IntKind.wrap .i64 (y1.1 + (1 : Int)))) (0 : Int)) - (Go.IntKind.wrap .i64 (p2 * (List.getD (v_acc p1) (Int.toNat y1.1) ((0 : Int), (0 : Int))).1))))) :: ([] : List (Int × Int))))) * 16) ≤ 140737488355328) ∧
      (k2 ((Go.IntKind.wrap .i64 (y1.1 + (1 : Int))), (y1.2 ++ (((Go.IntKind.wrap .i64 ((List.getD p0 (Int.toNat (Go.IntKind.wrap .i64 (y1.1 + (1 : Int)))) (0 : Int)) - (Go.IntKind.wrap .i64 (p2 * (List.getD (v_acc p1) (Int.toNat y1.1) ((0 : Int), (0 : Int))).2)))), (Go.IntKind.wrap .i64 ((List.getD p0 (Int.toNat (Go.IntKind.wrap .i64 (y1.1 + (1 : Int)))) (0 : Int)) - (Go.IntKind.wrap .i64 (p2 * (List.getD (v_acc p1) (Int.toNat y1.1) ((0 : Int), (0 : Int))).1))))) :: ([] : List (Int × Int)))))))))))))))) ∧
    (((decide (y1.1 < (((List.length (v_acc p1)) : Nat) : Int))) = false) →
    (K y1.2)))) n0 ((0 : Int), ([] : List (Int × Int))))))
set_option maxHeartbeats 4000000 in
theorem w_ref05_Residuals_eq (p0 : (List Int)) (p1 : (List (Int × Int))) (p2 : Int) (K : (List (Int × Int)) → Prop) : tfn F_ref05_Residuals A_ref05_Residuals C_ref05_Residuals P_ref05_Residuals R_ref05_Residuals (p0, p1, p2) K = w_ref05_Residuals p0 p1 p2 K := by kernel_rfl
def st_ref05_Residuals_0 (p0 : (List Int)) (p1 : (List (Int × Int))) (p2 : Int) (y0 : (Int × (List (Int × Int)))) : (Int × (List (Int × Int))) ⊕ (List (Int × Int)) :=
  (cond (decide (y0.1 < (((List.length (v_acc p1)) : Nat) : Int))) (Sum.inl ((Go.IntKind.wrap .i64 (y0.1 + (1 : Int))), (y0.2 ++ (((Go.IntKind.wrap .i64 ((List.getD p0 (Int.toNat (Go.IntKind.wrap .i64 (y0.1 + (1 : Int)))) (0 : Int)) - (Go.IntKind.wrap .i64 (p2 * (List.getD (v_acc p1) (Int.toNat y0.1) ((0 : Int), (0 : Int))).2)))), (Go.IntKind.wrap .i64 ((List.getD p0 (Int.toNat (Go.IntKind.wrap .i64 (y0.1 + (1 : Int)))) (0 : Int)) - (Go.IntKind.wrap .i64 (p2 * (List.getD (v_acc p1) (Int.toNat y0.1) ((0 : Int), (0 : Int))).1))))) :: ([] : List (Int × Int))))))
    (Sum.inr y0.2))
abbrev sp_ref05_Residuals_0 (p0 : (List Int)) (p1 : (List (Int × Int))) (p2 : Int) (y0 : (Int × (List (Int × Int)))) : List Prop := [(((decide (y0.1 < (((List.length (v_acc p1)) : Nat) : Int))) = true) → ((0 : Int) ≤ (Go.IntKind.wrap .i64 (y0.1 + (1 : Int))))),
    (((decide (y0.1 < (((List.length (v_acc p1)) : Nat) : Int))) = true) → ((Go.IntKind.wrap .i64 (y0.1 + (1 : Int))) < (((List.length p0) : Nat) : Int))),
    (((decide (y0.1 < (((List.length (v_acc p1)) : Nat) : Int))) = true) → ((0 : Int) ≤ y0.1)),
    (((decide (y0.1 < (((List.length (v_acc p1)) : Nat) : Int))) = true) → (y0.1 < (((List.length (v_acc p1)) : Nat) : Int))),
    (((decide (y0.1 < (((List.length (v_acc p1)) : Nat) : Int))) = true) → ((((List.length y0.2) + (List.length (((Go.IntKind.wrap .i64 ((List.getD p0 (Int.toNat (Go.IntKind.wrap .i64 (y0.1 + (1 : Int)))) (0 : Int)) - (Go.IntKind.wrap .i64 (p2 * (List.getD (v_acc p1) (Int.toNat y0.1) ((0 : Int), (0 : Int))).2)))), (Go.IntKind.wrap .i64 ((List.getD p0 (Int.toNat (Go.IntKind.wrap .i64 (y0.1 + (1 : Int)))) (0 : Int)) - (Go.IntKind.wrap .i64 (p2 * (List.getD (v_acc p1) (Int.toNat y0.1) ((0 : Int), (0 : Int))).1))))) :: ([] : List (Int × Int))))) * 16) ≤ 140737488355328))]
def s_ref05_Residuals (p0 : (List Int)) (p1 : (List (Int × Int))) (p2 : Int) : (List (Int × Int)) :=
  (lpv [] (st_ref05_Residuals_0 p0 p1 p2) ((0 : Int), ([] : List (Int × Int))))
abbrev pre_ref05_Residuals (p0 : (List Int)) (p1 : (List (Int × Int))) (p2 : Int) : List Prop := [(v_hok p1),
    (OkL (st_ref05_Residuals_0 p0 p1 p2) (sp_ref05_Residuals_0 p0 p1 p2) ((0 : Int), ([] : List (Int × Int))))]
set_option maxHeartbeats 4000000 in
theorem d_ref05_Residuals (p0 : (List Int)) (p1 : (List (Int × Int))) (p2 : Int) (K : (List (Int × Int)) → Prop) (hp : ∀ p ∈ pre_ref05_Residuals p0 p1 p2, p) (h : K (s_ref05_Residuals p0 p1 p2)) : w_ref05_Residuals p0 p1 p2 K := by
  unfold w_ref05_Residuals
  unfold s_ref05_Residuals at h
  obtain ⟨hp0, hp1, _⟩ := conj_of hp
  exact ⟨(hp0), (loop_gen (hp1) h (fun y0 k0 hp h => by
  unfold st_ref05_Residuals_0 at h; obtain ⟨hp0, hp1, hp2, hp3, hp4, _⟩ := conj_of hp
  exact (br' h (fun e1 h => ⟨(hp0 e1), ⟨(hp1 e1), ⟨(hp2 e1), ⟨(hp3 e1), ⟨(hp0 e1), ⟨(hp1 e1), ⟨(hp2 e1), ⟨(hp3 e1), ⟨(hp4 e1), h⟩⟩⟩⟩⟩⟩⟩⟩⟩)
    (fun e1 h => h))))⟩
theorem l_ref05_Residuals (p0 : List Int) (p1 : List (Int × Int)) (p2 : Int) (h : v_resok p0 p1 p2) : OkL (st_ref05_Residuals_0 p0 p1 p2) (sp_ref05_Residuals_0 p0 p1 p2) (0, []) ∧ s_ref05_Residuals p0 p1 p2 = v_res p0 p1 p2 := by
  have hlen := h.hok.len
  have hl2 := h.len
  have ha := v_acc_len p1
  have := forapp_is (dd := ([] : List (Int × Int))) (st := st_ref05_Residuals_0 p0 p1 p2) (sp := sp_ref05_Residuals_0 p0 p1 p2) (fun i t => (i, t)) 0 (p1.length - 2) (fun k => (IntKind.i64.wrap (p0.getD (k + 1) 0 - IntKind.i64.wrap (p2 * ((v_acc p1).getD k (0, 0)).2)), IntKind.i64.wrap (p0.getD (k + 1) 0 - IntKind.i64.wrap (p2 * ((v_acc p1).getD k (0, 0)).1)))) id (by omega) (by omega) ?_ ?_
  · exact ⟨this.1, this.2⟩
  · intro t ht
    have hd : decide (((p1.length - 2 : Nat) : Int) < ((v_acc p1).length : Int)) = false := decide_eq_false (by omega)
    refine ⟨?_, by simp only [st_ref05_Residuals_0, hd]; rfl⟩
    simp only [sp_ref05_Residuals_0, hd, List.forall_mem_cons]
    simp
  · intro j t h1 h2 h3
    have hw : IntKind.i64.wrap ((j : Int) + 1) = ((j + 1 : Nat) : Int) := wrap_nat (by omega)
    have hd : decide ((j : Int) < ((v_acc p1).length : Int)) = true := decide_eq_true (by omega)
    refine ⟨?_, ?_⟩
    · simp only [sp_ref05_Residuals_0, hw, hd, List.forall_mem_cons]
      exact ⟨fun _ => by omega, fun _ => by omega, fun _ => by omega, fun _ => by omega, fun _ => by simp; omega, by simp⟩
    · simp only [st_ref05_Residuals_0, hw, hd, cond_true, Int.toNat_natCast]
abbrev t_ref05_Residuals (p0 : List Int) (p1 : List (Int × Int)) (p2 : Int) : List (Int × Int) := v_res p0 p1 p2
abbrev qre_ref05_Residuals (p0 : List Int) (p1 : List (Int × Int)) (p2 : Int) : List Prop := [v_resok p0 p1 p2]
theorem pp_ref05_Residuals (p0 : List Int) (p1 : List (Int × Int)) (p2 : Int) (hq : ∀ p ∈ qre_ref05_Residuals p0 p1 p2, p) : ∀ p ∈ pre_ref05_Residuals p0 p1 p2, p := by
  simp only [pre_ref05_Residuals, List.forall_mem_cons]
  exact ⟨(conj_of hq).1.hok, (l_ref05_Residuals p0 p1 p2 (conj_of hq).1).1, by simp⟩
theorem tt_ref05_Residuals (p0 : List Int) (p1 : List (Int × Int)) (p2 : Int) (hq : ∀ p ∈ qre_ref05_Residuals p0 p1 p2, p) : s_ref05_Residuals p0 p1 p2 = t_ref05_Residuals p0 p1 p2 := (l_ref05_Residuals p0 p1 p2 (conj_of hq).1).2

abbrev con_ref05_Residuals : Con := ⟨P_ref05_Residuals, R_ref05_Residuals, fun x => qre_ref05_Residuals x.1 x.2.1 x.2.2, fun x => t_ref05_Residuals x.1 x.2.1 x.2.2⟩
theorem ok_ref05_Residuals : ConOk Tryd.prog 36 con_ref05_Residuals := ⟨k_ref05_Residuals, fun x hx => ret_tf (ps := P_ref05_Residuals) (rs := R_ref05_Residuals) (x := x) (y := t_ref05_Residuals x.1 x.2.1 x.2.2) e_ref05_Residuals hC_ref05_Residuals (tf_of (w_ref05_Residuals_eq x.1 x.2.1 x.2.2 (fun z => z = t_ref05_Residuals x.1 x.2.1 x.2.2)) (d_ref05_Residuals x.1 x.2.1 x.2.2 (fun z => z = t_ref05_Residuals x.1 x.2.1 x.2.2) (pp_ref05_Residuals x.1 x.2.1 x.2.2 hx) (tt_ref05_Residuals x.1 x.2.1 x.2.2 hx)))⟩
end Go.Proofs.YtcecdmdnfmgnfaaDoor
