/- What the functions that GravityCalm reaches compute: contracts, each function once. No condition. -/
import Derived.Test.YtcecdmdnfmgnfaaDoorLayB
import Derived.Test.YtcecdmdnfmgnfaaDoorAwGGravityCalm
import Derived.KernelRfl
namespace Go.Proofs.YtcecdmdnfmgnfaaDoor
open Go Go.Mx
set_option maxRecDepth 100000
/-- Ranges, and ties: from, to, difference. -/
abbrev GR : Type := Int × Int
abbrev GT : Type := Int × Int × Int × Int
/- law05_few -/
def C_law05_few : Cons := []
theorem hC_law05_few : ConsOk Tryd.prog C_law05_few := ConsOk.nil
def w_law05_few (p0 : (List (Int × Int))) (K : Bool → Prop) : Prop :=
  (K (decide ((((List.length p0) : Nat) : Int) ≤ (66 : Int))))
set_option maxHeartbeats 4000000 in
theorem w_law05_few_eq (p0 : (List (Int × Int))) (K : Bool → Prop) : tfn F_law05_few A_law05_few C_law05_few P_law05_few R_law05_few p0 K = w_law05_few p0 K := by kernel_rfl
def s_law05_few (p0 : (List (Int × Int))) : Bool :=
  (decide ((((List.length p0) : Nat) : Int) ≤ (66 : Int)))
abbrev pre_law05_few (p0 : (List (Int × Int))) : List Prop := []
set_option maxHeartbeats 4000000 in
theorem d_law05_few (p0 : (List (Int × Int))) (K : Bool → Prop) (hp : ∀ p ∈ pre_law05_few p0, p) (h : K (s_law05_few p0)) : w_law05_few p0 K := by
  unfold w_law05_few
  unfold s_law05_few at h
  exact h
abbrev con_law05_few : Con := ⟨P_law05_few, R_law05_few, fun x => pre_law05_few x, fun x => s_law05_few x⟩
theorem ok_law05_few : ConOk Tryd.prog 25 con_law05_few := ⟨k_law05_few, fun x hx => ret_tf (ps := P_law05_few) (rs := R_law05_few) (x := x) (y := s_law05_few x) e_law05_few hC_law05_few (tf_of (w_law05_few_eq x (fun z => z = s_law05_few x)) (d_law05_few x (fun z => z = s_law05_few x) hx rfl))⟩
/- base_CopyRanges -/
def C_base_CopyRanges : Cons := []
theorem hC_base_CopyRanges : ConsOk Tryd.prog C_base_CopyRanges := ConsOk.nil
def w_base_CopyRanges (p0 : (List (Int × Int))) (K : (List (Int × Int)) → Prop) : Prop :=
  (((((List.length ([] : List (Int × Int))) + (List.length p0)) * 16) ≤ 140737488355328) ∧
  (K (([] : List (Int × Int)) ++ p0)))
set_option maxHeartbeats 4000000 in
theorem w_base_CopyRanges_eq (p0 : (List (Int × Int))) (K : (List (Int × Int)) → Prop) : tfn F_base_CopyRanges A_base_CopyRanges C_base_CopyRanges P_base_CopyRanges R_base_CopyRanges p0 K = w_base_CopyRanges p0 K := by kernel_rfl
def s_base_CopyRanges (p0 : (List (Int × Int))) : (List (Int × Int)) :=
  (([] : List (Int × Int)) ++ p0)
abbrev pre_base_CopyRanges (p0 : (List (Int × Int))) : List Prop := [((((List.length ([] : List (Int × Int))) + (List.length p0)) * 16) ≤ 140737488355328)]
set_option maxHeartbeats 4000000 in
theorem d_base_CopyRanges (p0 : (List (Int × Int))) (K : (List (Int × Int)) → Prop) (hp : ∀ p ∈ pre_base_CopyRanges p0, p) (h : K (s_base_CopyRanges p0)) : w_base_CopyRanges p0 K := by
  unfold w_base_CopyRanges
  unfold s_base_CopyRanges at h
  obtain ⟨hp0, _⟩ := conj_of hp
  exact ⟨(hp0), h⟩
abbrev t_base_CopyRanges (p0 : List (Int × Int)) : List (Int × Int) := p0
abbrev qre_base_CopyRanges (p0 : List (Int × Int)) : List Prop := [p0.length ≤ 1000000]
theorem pp_base_CopyRanges (p0 : List (Int × Int)) (hq : ∀ p ∈ qre_base_CopyRanges p0, p) : ∀ p ∈ pre_base_CopyRanges p0, p := by
  simp only [pre_base_CopyRanges, List.forall_mem_cons]
  have := (conj_of hq).1
  exact ⟨by simp; omega, by simp⟩
theorem tt_base_CopyRanges (p0 : List (Int × Int)) (hq : ∀ p ∈ qre_base_CopyRanges p0, p) : s_base_CopyRanges p0 = t_base_CopyRanges p0 := by
  rfl

abbrev con_base_CopyRanges : Con := ⟨P_base_CopyRanges, R_base_CopyRanges, fun x => qre_base_CopyRanges x, fun x => t_base_CopyRanges x⟩
theorem ok_base_CopyRanges : ConOk Tryd.prog 28 con_base_CopyRanges := ⟨k_base_CopyRanges, fun x hx => ret_tf (ps := P_base_CopyRanges) (rs := R_base_CopyRanges) (x := x) (y := t_base_CopyRanges x) e_base_CopyRanges hC_base_CopyRanges (tf_of (w_base_CopyRanges_eq x (fun z => z = t_base_CopyRanges x)) (d_base_CopyRanges x (fun z => z = t_base_CopyRanges x) (pp_base_CopyRanges x hx) (tt_base_CopyRanges x hx)))⟩
/- gravity_within -/
def C_gravity_within : Cons := []
theorem hC_gravity_within : ConsOk Tryd.prog C_gravity_within := ConsOk.nil
def w_gravity_within (p0 : Int) (p1 : Int) (p2 : Int) (K : Bool → Prop) : Prop :=
  ((((decide (p1 ≤ p0)) = true) →
  ((decide (p1 ≤ p0)) = (decide (p1 ≤ p0)))) ∧
  ((((decide (p1 ≤ p0)) = true) →
  ((decide (p1 ≤ p0)) = (decide (p1 ≤ p0)))) ∧
  (((decide (p1 ≤ p0)) = (decide (p1 ≤ p0))) ∧
  (K (cond (decide (p1 ≤ p0)) (decide (p0 ≤ p2)) false)))))
set_option maxHeartbeats 4000000 in
theorem w_gravity_within_eq (p0 : Int) (p1 : Int) (p2 : Int) (K : Bool → Prop) : tfn F_gravity_within A_gravity_within C_gravity_within P_gravity_within R_gravity_within (p0, p1, p2) K = w_gravity_within p0 p1 p2 K := by kernel_rfl
def s_gravity_within (p0 : Int) (p1 : Int) (p2 : Int) : Bool :=
  (cond (decide (p1 ≤ p0)) (decide (p0 ≤ p2)) false)
abbrev pre_gravity_within (p0 : Int) (p1 : Int) (p2 : Int) : List Prop := []
set_option maxHeartbeats 4000000 in
theorem d_gravity_within (p0 : Int) (p1 : Int) (p2 : Int) (K : Bool → Prop) (hp : ∀ p ∈ pre_gravity_within p0 p1 p2, p) (h : K (s_gravity_within p0 p1 p2)) : w_gravity_within p0 p1 p2 K := by
  unfold w_gravity_within
  unfold s_gravity_within at h
  exact ⟨(fun _ => rfl), ⟨(fun _ => rfl), ⟨rfl, h⟩⟩⟩
abbrev con_gravity_within : Con := ⟨P_gravity_within, R_gravity_within, fun x => pre_gravity_within x.1 x.2.1 x.2.2, fun x => s_gravity_within x.1 x.2.1 x.2.2⟩
theorem ok_gravity_within : ConOk Tryd.prog 94 con_gravity_within := ⟨k_gravity_within, fun x hx => ret_tf (ps := P_gravity_within) (rs := R_gravity_within) (x := x) (y := s_gravity_within x.1 x.2.1 x.2.2) e_gravity_within hC_gravity_within (tf_of (w_gravity_within_eq x.1 x.2.1 x.2.2 (fun z => z = s_gravity_within x.1 x.2.1 x.2.2)) (d_gravity_within x.1 x.2.1 x.2.2 (fun z => z = s_gravity_within x.1 x.2.1 x.2.2) hx rfl))⟩
theorem tx_within {n lo hi : Int} : s_gravity_within n lo hi = true ↔ lo ≤ n ∧ n ≤ hi := by unfold s_gravity_within; simp
/- gravity_isSized -/
def C_gravity_isSized : Cons := [(94, [], con_gravity_within)]
theorem hC_gravity_isSized : ConsOk Tryd.prog C_gravity_isSized := ConsOk.cons ok_gravity_within <| ConsOk.nil
def w_gravity_isSized (p0 : Int) (p1 : Int) (K : Bool → Prop) : Prop :=
  (K (s_gravity_within p0 (Go.IntKind.wrap .i64 ((0 : Int) - p1)) p1))
set_option maxHeartbeats 4000000 in
theorem w_gravity_isSized_eq (p0 : Int) (p1 : Int) (K : Bool → Prop) : tfn F_gravity_isSized A_gravity_isSized C_gravity_isSized P_gravity_isSized R_gravity_isSized (p0, p1) K = w_gravity_isSized p0 p1 K := by kernel_rfl
def s_gravity_isSized (p0 : Int) (p1 : Int) : Bool :=
  (s_gravity_within p0 (Go.IntKind.wrap .i64 ((0 : Int) - p1)) p1)
abbrev pre_gravity_isSized (p0 : Int) (p1 : Int) : List Prop := []
set_option maxHeartbeats 4000000 in
theorem d_gravity_isSized (p0 : Int) (p1 : Int) (K : Bool → Prop) (hp : ∀ p ∈ pre_gravity_isSized p0 p1, p) (h : K (s_gravity_isSized p0 p1)) : w_gravity_isSized p0 p1 K := by
  unfold w_gravity_isSized
  unfold s_gravity_isSized at h
  exact h
abbrev con_gravity_isSized : Con := ⟨P_gravity_isSized, R_gravity_isSized, fun x => pre_gravity_isSized x.1 x.2, fun x => s_gravity_isSized x.1 x.2⟩
theorem ok_gravity_isSized : ConOk Tryd.prog 93 con_gravity_isSized := ⟨k_gravity_isSized, fun x hx => ret_tf (ps := P_gravity_isSized) (rs := R_gravity_isSized) (x := x) (y := s_gravity_isSized x.1 x.2) e_gravity_isSized hC_gravity_isSized (tf_of (w_gravity_isSized_eq x.1 x.2 (fun z => z = s_gravity_isSized x.1 x.2)) (d_gravity_isSized x.1 x.2 (fun z => z = s_gravity_isSized x.1 x.2) hx rfl))⟩
/- gravity_unless -/
def C_gravity_unless : Cons := []
theorem hC_gravity_unless : ConsOk Tryd.prog C_gravity_unless := ConsOk.nil
def w_gravity_unless (p0 : Bool) (p1 : Int) (K : Int → Prop) : Prop :=
  (((p0 = true) →
  (K (0 : Int))) ∧
  ((p0 = false) →
  (K p1)))
set_option maxHeartbeats 4000000 in
theorem w_gravity_unless_eq (p0 : Bool) (p1 : Int) (K : Int → Prop) : tfn F_gravity_unless A_gravity_unless C_gravity_unless P_gravity_unless R_gravity_unless (p0, p1) K = w_gravity_unless p0 p1 K := by kernel_rfl
def s_gravity_unless (p0 : Bool) (p1 : Int) : Int :=
  (cond p0 (0 : Int)
    p1)
abbrev pre_gravity_unless (p0 : Bool) (p1 : Int) : List Prop := []
set_option maxHeartbeats 4000000 in
theorem d_gravity_unless (p0 : Bool) (p1 : Int) (K : Int → Prop) (hp : ∀ p ∈ pre_gravity_unless p0 p1, p) (h : K (s_gravity_unless p0 p1)) : w_gravity_unless p0 p1 K := by
  unfold w_gravity_unless
  unfold s_gravity_unless at h
  exact (br' h (fun e0 h => h)
    (fun e0 h => h))
abbrev con_gravity_unless : Con := ⟨P_gravity_unless, R_gravity_unless, fun x => pre_gravity_unless x.1 x.2, fun x => s_gravity_unless x.1 x.2⟩
theorem ok_gravity_unless : ConOk Tryd.prog 89 con_gravity_unless := ⟨k_gravity_unless, fun x hx => ret_tf (ps := P_gravity_unless) (rs := R_gravity_unless) (x := x) (y := s_gravity_unless x.1 x.2) e_gravity_unless hC_gravity_unless (tf_of (w_gravity_unless_eq x.1 x.2 (fun z => z = s_gravity_unless x.1 x.2)) (d_gravity_unless x.1 x.2 (fun z => z = s_gravity_unless x.1 x.2) hx rfl))⟩
/- gravity_first -/
def C_gravity_first : Cons := []
theorem hC_gravity_first : ConsOk Tryd.prog C_gravity_first := ConsOk.nil
def w_gravity_first (p0 : (List Int)) (K : Int → Prop) : Prop :=
  (∃ n0, (loopP (fun (y1 : Int) k2 =>
    ((((decide (y1 < (((List.length p0) : Nat) : Int))) = true) →
    (((0 : Int) ≤ y1) ∧
      ((y1 < (((List.length p0) : Nat) : Int)) ∧
      (((((List.getD p0 (Int.toNat y1) (0 : Int)) != (0 : Int)) = true) →
      (K (List.getD p0 (Int.toNat y1) (0 : Int)))) ∧
      ((((List.getD p0 (Int.toNat y1) (0 : Int)) != (0 : Int)) = false) →
      (k2 (Go.IntKind.wrap .i64 (y1 + (1 : Int))))))))) ∧
    (((decide (y1 < (((List.length p0) : Nat) : Int))) = false) →
    (K (0 : Int))))) n0 (0 : Int)))
set_option maxHeartbeats 4000000 in
theorem w_gravity_first_eq (p0 : (List Int)) (K : Int → Prop) : tfn F_gravity_first A_gravity_first C_gravity_first P_gravity_first R_gravity_first p0 K = w_gravity_first p0 K := by kernel_rfl
def st_gravity_first_0 (p0 : (List Int)) (y0 : Int) : Int ⊕ Int :=
  (cond (decide (y0 < (((List.length p0) : Nat) : Int))) (cond ((List.getD p0 (Int.toNat y0) (0 : Int)) != (0 : Int)) (Sum.inr (List.getD p0 (Int.toNat y0) (0 : Int)))
    (Sum.inl (Go.IntKind.wrap .i64 (y0 + (1 : Int)))))
    (Sum.inr (0 : Int)))
abbrev sp_gravity_first_0 (p0 : (List Int)) (y0 : Int) : List Prop := [(((decide (y0 < (((List.length p0) : Nat) : Int))) = true) → ((0 : Int) ≤ y0)),
    (((decide (y0 < (((List.length p0) : Nat) : Int))) = true) → (y0 < (((List.length p0) : Nat) : Int)))]
def s_gravity_first (p0 : (List Int)) : Int :=
  (lpv (0 : Int) (st_gravity_first_0 p0) (0 : Int))
abbrev pre_gravity_first (p0 : (List Int)) : List Prop := [(OkL (st_gravity_first_0 p0) (sp_gravity_first_0 p0) (0 : Int))]
set_option maxHeartbeats 4000000 in
theorem d_gravity_first (p0 : (List Int)) (K : Int → Prop) (hp : ∀ p ∈ pre_gravity_first p0, p) (h : K (s_gravity_first p0)) : w_gravity_first p0 K := by
  unfold w_gravity_first
  unfold s_gravity_first at h
  obtain ⟨hp0, _⟩ := conj_of hp
  exact (loop_gen (hp0) h (fun y0 k0 hp h => by
  unfold st_gravity_first_0 at h; obtain ⟨hp0, hp1, _⟩ := conj_of hp
  exact (br' h (fun e1 h => ⟨(hp0 e1), ⟨(hp1 e1), (br' h (fun e2 h => h)
    (fun e2 h => h))⟩⟩)
    (fun e1 h => h))))
theorem l_gravity_first_0 (p0 : List Int) (hl : lenOk p0) : OkL (st_gravity_first_0 p0) (sp_gravity_first_0 p0) 0 ∧ lpv (0 : Int) (st_gravity_first_0 p0) 0 = v_scan (fun _ x => cond (x != 0) (some x) none) (0 : Int) 0 p0 := by
  refine scan_is p0 0 (fun _ x => cond (x != 0) (some x) none) (0 : Int) hl ?_ ?_
  · refine ⟨by simp only [sp_gravity_first_0, List.forall_mem_cons, decide_eq_true_eq]; simp, by simp [st_gravity_first_0]⟩
  · intro j hj
    have hj' : (j : Int) < p0.length := by omega
    refine ⟨by simp only [sp_gravity_first_0, List.forall_mem_cons, decide_eq_true_eq, Int.toNat_natCast]; simp <;> omega, ?_⟩
    simp only [st_gravity_first_0, hj', decide_true, Int.toNat_natCast, cond_true, wrap_nat (show (j : Int) ≤ 9223372036854775806 by unfold lenOk at hl; omega)]
    generalize p0.getD j 0 = x
    cases (x != 0) <;> rfl
abbrev t_gravity_first (p0 : List Int) : Int := v_first p0
abbrev qre_gravity_first (p0 : List Int) : List Prop := [lenOk p0]
theorem pp_gravity_first (p0 : List Int) (hq : ∀ p ∈ qre_gravity_first p0, p) : ∀ p ∈ pre_gravity_first p0, p := by
  simp only [pre_gravity_first, List.forall_mem_cons]
  exact ⟨(l_gravity_first_0 p0 (conj_of hq).1).1, by simp⟩
theorem tt_gravity_first (p0 : List Int) (hq : ∀ p ∈ qre_gravity_first p0, p) : s_gravity_first p0 = t_gravity_first p0 := by
  exact (l_gravity_first_0 p0 (conj_of hq).1).2.trans (v_first_scan p0 0)

abbrev con_gravity_first : Con := ⟨P_gravity_first, R_gravity_first, fun x => qre_gravity_first x, fun x => t_gravity_first x⟩
theorem ok_gravity_first : ConOk Tryd.prog 88 con_gravity_first := ⟨k_gravity_first, fun x hx => ret_tf (ps := P_gravity_first) (rs := R_gravity_first) (x := x) (y := t_gravity_first x) e_gravity_first hC_gravity_first (tf_of (w_gravity_first_eq x (fun z => z = t_gravity_first x)) (d_gravity_first x (fun z => z = t_gravity_first x) (pp_gravity_first x hx) (tt_gravity_first x hx)))⟩
/- gravity_rangeErr -/
def C_gravity_rangeErr : Cons := [(93, [], con_gravity_isSized), (89, [], con_gravity_unless), (88, [], con_gravity_first)]
theorem hC_gravity_rangeErr : ConsOk Tryd.prog C_gravity_rangeErr := ConsOk.cons ok_gravity_isSized <| ConsOk.cons ok_gravity_unless <| ConsOk.cons ok_gravity_first <| ConsOk.nil
def w_gravity_rangeErr (p0 : (Int × Int)) (p1 : Int) (K : Int → Prop) : Prop :=
  ((((s_gravity_isSized p0.1 p1) = true) →
  ((s_gravity_isSized p0.1 p1) = (s_gravity_isSized p0.1 p1))) ∧
  ((((s_gravity_isSized p0.1 p1) = true) →
  ((s_gravity_isSized p0.1 p1) = (s_gravity_isSized p0.1 p1))) ∧
  ((((s_gravity_isSized p0.1 p1) = true) →
  ((s_gravity_isSized p0.1 p1) = (s_gravity_isSized p0.1 p1))) ∧
  (((s_gravity_isSized p0.1 p1) = (s_gravity_isSized p0.1 p1)) ∧
  ((lenOk ((s_gravity_unless (cond (s_gravity_isSized p0.1 p1) (s_gravity_isSized p0.2 p1) false) (2 : Int)) :: ((s_gravity_unless (decide (p0.1 ≤ p0.2)) (9 : Int)) :: ([] : List Int)))) ∧
  (K (v_first ((s_gravity_unless (cond (s_gravity_isSized p0.1 p1) (s_gravity_isSized p0.2 p1) false) (2 : Int)) :: ((s_gravity_unless (decide (p0.1 ≤ p0.2)) (9 : Int)) :: ([] : List Int))))))))))
set_option maxHeartbeats 4000000 in
theorem w_gravity_rangeErr_eq (p0 : (Int × Int)) (p1 : Int) (K : Int → Prop) : tfn F_gravity_rangeErr A_gravity_rangeErr C_gravity_rangeErr P_gravity_rangeErr R_gravity_rangeErr (p0, p1) K = w_gravity_rangeErr p0 p1 K := by kernel_rfl
def s_gravity_rangeErr (p0 : (Int × Int)) (p1 : Int) : Int :=
  (v_first ((s_gravity_unless (cond (s_gravity_isSized p0.1 p1) (s_gravity_isSized p0.2 p1) false) (2 : Int)) :: ((s_gravity_unless (decide (p0.1 ≤ p0.2)) (9 : Int)) :: ([] : List Int))))
abbrev pre_gravity_rangeErr (p0 : (Int × Int)) (p1 : Int) : List Prop := []
set_option maxHeartbeats 4000000 in
theorem d_gravity_rangeErr (p0 : (Int × Int)) (p1 : Int) (K : Int → Prop) (hp : ∀ p ∈ pre_gravity_rangeErr p0 p1, p) (h : K (s_gravity_rangeErr p0 p1)) : w_gravity_rangeErr p0 p1 K := by
  unfold w_gravity_rangeErr
  unfold s_gravity_rangeErr at h
  exact ⟨(fun _ => rfl), ⟨(fun _ => rfl), ⟨(fun _ => rfl), ⟨rfl, ⟨(lenOk_of 2 rfl (by decide)), h⟩⟩⟩⟩⟩
abbrev con_gravity_rangeErr : Con := ⟨P_gravity_rangeErr, R_gravity_rangeErr, fun x => pre_gravity_rangeErr x.1 x.2, fun x => s_gravity_rangeErr x.1 x.2⟩
theorem ok_gravity_rangeErr : ConOk Tryd.prog 98 con_gravity_rangeErr := ⟨k_gravity_rangeErr, fun x hx => ret_tf (ps := P_gravity_rangeErr) (rs := R_gravity_rangeErr) (x := x) (y := s_gravity_rangeErr x.1 x.2) e_gravity_rangeErr hC_gravity_rangeErr (tf_of (w_gravity_rangeErr_eq x.1 x.2 (fun z => z = s_gravity_rangeErr x.1 x.2)) (d_gravity_rangeErr x.1 x.2 (fun z => z = s_gravity_rangeErr x.1 x.2) hx rfl))⟩
/- gravity_CheckHeights -/
def C_gravity_CheckHeights : Cons := [(98, [], con_gravity_rangeErr)]
theorem hC_gravity_CheckHeights : ConsOk Tryd.prog C_gravity_CheckHeights := ConsOk.cons ok_gravity_rangeErr <| ConsOk.nil
def w_gravity_CheckHeights (p0 : (List (Int × Int))) (K : (Int × Int) → Prop) : Prop :=
  ((((decide ((((List.length p0) : Nat) : Int) > (64 : Int))) = true) →
  (K ((0 : Int), (8 : Int)))) ∧
  (((decide ((((List.length p0) : Nat) : Int) > (64 : Int))) = false) →
  (∃ n0, (loopP (fun (y1 : Int) k2 =>
      ((((decide (y1 < (((List.length p0) : Nat) : Int))) = true) →
      (((0 : Int) ≤ y1) ∧
        ((y1 < (((List.length p0) : Nat) : Int)) ∧
        (((((s_gravity_rangeErr (List.getD p0 (Int.toNat y1) ((0 : Int), (0 : Int))) (1000000 : Int)) != (0 : Int)) = true) →
        (K (y1, (s_gravity_rangeErr (List.getD p0 (Int.toNat y1) ((0 : Int), (0 : Int))) (1000000 : Int))))) ∧
        ((((s_gravity_rangeErr (List.getD p0 (Int.toNat y1) ((0 : Int), (0 : Int))) (1000000 : Int)) != (0 : Int)) = false) →
        (k2 (Go.IntKind.wrap .i64 (y1 + (1 : Int))))))))) ∧
      (((decide (y1 < (((List.length p0) : Nat) : Int))) = false) →
      (K ((0 : Int), (0 : Int)))))) n0 (0 : Int)))))
set_option maxHeartbeats 4000000 in
theorem w_gravity_CheckHeights_eq (p0 : (List (Int × Int))) (K : (Int × Int) → Prop) : tfn F_gravity_CheckHeights A_gravity_CheckHeights C_gravity_CheckHeights P_gravity_CheckHeights R_gravity_CheckHeights p0 K = w_gravity_CheckHeights p0 K := by kernel_rfl
def st_gravity_CheckHeights_0 (p0 : (List (Int × Int))) (y1 : Int) : Int ⊕ (Int × Int) :=
  (cond (decide (y1 < (((List.length p0) : Nat) : Int))) (cond ((s_gravity_rangeErr (List.getD p0 (Int.toNat y1) ((0 : Int), (0 : Int))) (1000000 : Int)) != (0 : Int)) (Sum.inr (y1, (s_gravity_rangeErr (List.getD p0 (Int.toNat y1) ((0 : Int), (0 : Int))) (1000000 : Int))))
    (Sum.inl (Go.IntKind.wrap .i64 (y1 + (1 : Int)))))
    (Sum.inr ((0 : Int), (0 : Int))))
abbrev sp_gravity_CheckHeights_0 (p0 : (List (Int × Int))) (y1 : Int) : List Prop := [(((decide (y1 < (((List.length p0) : Nat) : Int))) = true) → ((0 : Int) ≤ y1)),
    (((decide (y1 < (((List.length p0) : Nat) : Int))) = true) → (y1 < (((List.length p0) : Nat) : Int)))]
def s_gravity_CheckHeights (p0 : (List (Int × Int))) : (Int × Int) :=
  (cond (decide ((((List.length p0) : Nat) : Int) > (64 : Int))) ((0 : Int), (8 : Int))
    (lpv ((0 : Int), (0 : Int)) (st_gravity_CheckHeights_0 p0) (0 : Int)))
abbrev pre_gravity_CheckHeights (p0 : (List (Int × Int))) : List Prop := [(((decide ((((List.length p0) : Nat) : Int) > (64 : Int))) = false) → (OkL (st_gravity_CheckHeights_0 p0) (sp_gravity_CheckHeights_0 p0) (0 : Int)))]
set_option maxHeartbeats 4000000 in
theorem d_gravity_CheckHeights (p0 : (List (Int × Int))) (K : (Int × Int) → Prop) (hp : ∀ p ∈ pre_gravity_CheckHeights p0, p) (h : K (s_gravity_CheckHeights p0)) : w_gravity_CheckHeights p0 K := by
  unfold w_gravity_CheckHeights
  unfold s_gravity_CheckHeights at h
  obtain ⟨hp0, _⟩ := conj_of hp
  exact (br' h (fun e0 h => h)
    (fun e0 h => (loop_gen (hp0 e0) h (fun y1 k1 hp h => by
  unfold st_gravity_CheckHeights_0 at h; obtain ⟨hp0, hp1, _⟩ := conj_of hp
  exact (br' h (fun e2 h => ⟨(hp0 e2), ⟨(hp1 e2), (br' h (fun e3 h => h)
    (fun e3 h => h))⟩⟩)
    (fun e2 h => h))))))
theorem l_gravity_CheckHeights_0 (p0 : List (Int × Int)) (hl : lenOk p0) : OkL (st_gravity_CheckHeights_0 p0) (sp_gravity_CheckHeights_0 p0) 0 ∧ lpv ((0 : Int), (0 : Int)) (st_gravity_CheckHeights_0 p0) 0 = v_scan (fun i x => cond (s_gravity_rangeErr x 1000000 != 0) (some (i, s_gravity_rangeErr x 1000000)) none) ((0 : Int), (0 : Int)) 0 p0 := by
  refine scan_is p0 (0, 0) (fun i x => cond (s_gravity_rangeErr x 1000000 != 0) (some (i, s_gravity_rangeErr x 1000000)) none) ((0 : Int), (0 : Int)) hl ?_ ?_
  · refine ⟨by simp only [sp_gravity_CheckHeights_0, List.forall_mem_cons, decide_eq_true_eq]; simp, by simp [st_gravity_CheckHeights_0]⟩
  · intro j hj
    have hj' : (j : Int) < p0.length := by omega
    refine ⟨by simp only [sp_gravity_CheckHeights_0, List.forall_mem_cons, decide_eq_true_eq, Int.toNat_natCast]; simp <;> omega, ?_⟩
    simp only [st_gravity_CheckHeights_0, hj', decide_true, Int.toNat_natCast, cond_true, wrap_nat (show (j : Int) ≤ 9223372036854775806 by unfold lenOk at hl; omega)]
    generalize p0.getD j (0, 0) = x
    cases (s_gravity_rangeErr x 1000000 != 0) <;> rfl
/-- The error of ranges, with an index. -/
def v_heights (p0 : List (Int × Int)) : Int × Int := cond (decide ((p0.length : Int) > 64)) (0, 8) (v_scan (fun i x => cond (s_gravity_rangeErr x 1000000 != 0) (some (i, s_gravity_rangeErr x 1000000)) none) ((0 : Int), (0 : Int)) 0 p0)
abbrev t_gravity_CheckHeights (p0 : List (Int × Int)) : Int × Int := v_heights p0
abbrev qre_gravity_CheckHeights (_ : List (Int × Int)) : List Prop := []
theorem pp_gravity_CheckHeights (p0 : List (Int × Int)) (_ : ∀ p ∈ qre_gravity_CheckHeights p0, p) : ∀ p ∈ pre_gravity_CheckHeights p0, p := by
  simp only [pre_gravity_CheckHeights, List.forall_mem_cons]
  refine ⟨fun h => (l_gravity_CheckHeights_0 p0 (lenOk_le (n := 64) ?_ (by decide))).1, by simp⟩
  have := of_decide_eq_false h; omega
theorem tt_gravity_CheckHeights (p0 : List (Int × Int)) (_ : ∀ p ∈ qre_gravity_CheckHeights p0, p) : s_gravity_CheckHeights p0 = t_gravity_CheckHeights p0 := by
  unfold s_gravity_CheckHeights t_gravity_CheckHeights v_heights
  cases h : decide ((p0.length : Int) > 64)
  · have := of_decide_eq_false h
    exact (l_gravity_CheckHeights_0 p0 (lenOk_le (n := 64) (by omega) (by decide))).2
  · rfl
structure v_hok (p0 : List (Int × Int)) : Prop where
  len : p0.length ≤ 64
  all : ∀ x ∈ p0, (-1000000 ≤ x.1 ∧ x.1 ≤ 1000000) ∧ (-1000000 ≤ x.2 ∧ x.2 ≤ 1000000) ∧ x.1 ≤ x.2
theorem tx_range {x : Int × Int} {m : Int} (hm : 0 ≤ m ∧ m ≤ 1000000000) (h : s_gravity_rangeErr x m = 0) : (-m ≤ x.1 ∧ x.1 ≤ m) ∧ (-m ≤ x.2 ∧ x.2 ≤ m) ∧ x.1 ≤ x.2 := by
  unfold s_gravity_rangeErr s_gravity_isSized at h
  have e : IntKind.i64.wrap (0 - m) = -m := by rw [wrap_id (by omega) (by omega)]; omega
  rw [e] at h
  obtain ⟨h1, h⟩ := v_first0 h
  obtain ⟨h2, _⟩ := v_first0 h
  cases a : s_gravity_within x.1 (-m) m <;> cases b : s_gravity_within x.2 (-m) m <;> by_cases c : x.1 ≤ x.2 <;> simp [s_gravity_unless, a, b, c] at h1 h2
  exact ⟨tx_within.1 a, tx_within.1 b, c⟩
theorem tx_heights {p0 : List (Int × Int)} (h : (v_heights p0).2 = 0) : v_hok p0 := by
  unfold v_heights at h
  cases hl : decide ((p0.length : Int) > 64)
  · rw [hl] at h
    have hl' := of_decide_eq_false hl
    refine ⟨by omega, fun x hx => ?_⟩
    have := v_scan_end (P := fun (r : Int × Int) => r.2 = 0) p0 0 h (fun j x v _ hv => by
      cases hb : (s_gravity_rangeErr x 1000000 != 0) <;> rw [hb] at hv <;> simp only [cond_true, cond_false, Option.some.injEq, reduceCtorEq] at hv
      subst hv; simpa using hb)
    obtain ⟨k, hk, rfl⟩ := List.mem_iff_getElem.1 hx
    have := this k hk
    cases hb : (s_gravity_rangeErr p0[k] 1000000 != 0)
    · exact tx_range (m := 1000000) (by decide) (bne0' hb)
    · rw [hb] at this; cases this
  · rw [hl] at h; cases h

abbrev con_gravity_CheckHeights : Con := ⟨P_gravity_CheckHeights, R_gravity_CheckHeights, fun x => qre_gravity_CheckHeights x, fun x => t_gravity_CheckHeights x⟩
theorem ok_gravity_CheckHeights : ConOk Tryd.prog 27 con_gravity_CheckHeights := ⟨k_gravity_CheckHeights, fun x hx => ret_tf (ps := P_gravity_CheckHeights) (rs := R_gravity_CheckHeights) (x := x) (y := t_gravity_CheckHeights x) e_gravity_CheckHeights hC_gravity_CheckHeights (tf_of (w_gravity_CheckHeights_eq x (fun z => z = t_gravity_CheckHeights x)) (d_gravity_CheckHeights x (fun z => z = t_gravity_CheckHeights x) (pp_gravity_CheckHeights x hx) (tt_gravity_CheckHeights x hx)))⟩
/- gravity_rangesErr -/
def C_gravity_rangesErr : Cons := [(27, [], con_gravity_CheckHeights)]
theorem hC_gravity_rangesErr : ConsOk Tryd.prog C_gravity_rangesErr := ConsOk.cons ok_gravity_CheckHeights <| ConsOk.nil
def w_gravity_rangesErr (p0 : (List (Int × Int))) (K : Int → Prop) : Prop :=
  (K (v_heights p0).2)
set_option maxHeartbeats 4000000 in
theorem w_gravity_rangesErr_eq (p0 : (List (Int × Int))) (K : Int → Prop) : tfn F_gravity_rangesErr A_gravity_rangesErr C_gravity_rangesErr P_gravity_rangesErr R_gravity_rangesErr p0 K = w_gravity_rangesErr p0 K := by kernel_rfl
def s_gravity_rangesErr (p0 : (List (Int × Int))) : Int :=
  (v_heights p0).2
abbrev pre_gravity_rangesErr (p0 : (List (Int × Int))) : List Prop := []
set_option maxHeartbeats 4000000 in
theorem d_gravity_rangesErr (p0 : (List (Int × Int))) (K : Int → Prop) (hp : ∀ p ∈ pre_gravity_rangesErr p0, p) (h : K (s_gravity_rangesErr p0)) : w_gravity_rangesErr p0 K := by
  unfold w_gravity_rangesErr
  unfold s_gravity_rangesErr at h
  exact h
abbrev con_gravity_rangesErr : Con := ⟨P_gravity_rangesErr, R_gravity_rangesErr, fun x => pre_gravity_rangesErr x, fun x => s_gravity_rangesErr x⟩
theorem ok_gravity_rangesErr : ConOk Tryd.prog 99 con_gravity_rangesErr := ⟨k_gravity_rangesErr, fun x hx => ret_tf (ps := P_gravity_rangesErr) (rs := R_gravity_rangesErr) (x := x) (y := s_gravity_rangesErr x) e_gravity_rangesErr hC_gravity_rangesErr (tf_of (w_gravity_rangesErr_eq x (fun z => z = s_gravity_rangesErr x)) (d_gravity_rangesErr x (fun z => z = s_gravity_rangesErr x) hx rfl))⟩
/- gravity_limitErr -/
def C_gravity_limitErr : Cons := [(94, [], con_gravity_within), (89, [], con_gravity_unless)]
theorem hC_gravity_limitErr : ConsOk Tryd.prog C_gravity_limitErr := ConsOk.cons ok_gravity_within <| ConsOk.cons ok_gravity_unless <| ConsOk.nil
def w_gravity_limitErr (p0 : Int) (K : Int → Prop) : Prop :=
  (K (s_gravity_unless (s_gravity_within p0 (0 : Int) (1000000 : Int)) (2 : Int)))
set_option maxHeartbeats 4000000 in
theorem w_gravity_limitErr_eq (p0 : Int) (K : Int → Prop) : tfn F_gravity_limitErr A_gravity_limitErr C_gravity_limitErr P_gravity_limitErr R_gravity_limitErr p0 K = w_gravity_limitErr p0 K := by kernel_rfl
def s_gravity_limitErr (p0 : Int) : Int :=
  (s_gravity_unless (s_gravity_within p0 (0 : Int) (1000000 : Int)) (2 : Int))
abbrev pre_gravity_limitErr (p0 : Int) : List Prop := []
set_option maxHeartbeats 4000000 in
theorem d_gravity_limitErr (p0 : Int) (K : Int → Prop) (hp : ∀ p ∈ pre_gravity_limitErr p0, p) (h : K (s_gravity_limitErr p0)) : w_gravity_limitErr p0 K := by
  unfold w_gravity_limitErr
  unfold s_gravity_limitErr at h
  exact h
abbrev con_gravity_limitErr : Con := ⟨P_gravity_limitErr, R_gravity_limitErr, fun x => pre_gravity_limitErr x, fun x => s_gravity_limitErr x⟩
theorem ok_gravity_limitErr : ConOk Tryd.prog 119 con_gravity_limitErr := ⟨k_gravity_limitErr, fun x hx => ret_tf (ps := P_gravity_limitErr) (rs := R_gravity_limitErr) (x := x) (y := s_gravity_limitErr x) e_gravity_limitErr hC_gravity_limitErr (tf_of (w_gravity_limitErr_eq x (fun z => z = s_gravity_limitErr x)) (d_gravity_limitErr x (fun z => z = s_gravity_limitErr x) hx rfl))⟩
/- gravity_rough -/
def C_gravity_rough : Cons := []
theorem hC_gravity_rough : ConsOk Tryd.prog C_gravity_rough := ConsOk.nil
def w_gravity_rough (p0 : (List (Int × Int))) (p1 : Int) (K : (List Int) → Prop) : Prop :=
  (∃ n0, (loopP (fun (y1 : (Int × (List Int))) k2 =>
    ((((decide (y1.1 < (((List.length p0) : Nat) : Int))) = true) →
    (((0 : Int) ≤ y1.1) ∧
      ((y1.1 < (((List.length p0) : Nat) : Int)) ∧
      ((((decide ((Go.IntKind.wrap .i64 ((List.getD p0 (Int.toNat y1.1) ((0 : Int), (0 : Int))).2 - (List.getD p0 (Int.toNat y1.1) ((0 : Int), (0 : Int))).1)) > p1)) = true) →
      (((((List.length y1.2) + (List.length (y1.1 :: ([] : List Int)))) * 8) ≤ 140737488355328) ∧
        (k2 ((Go.IntKind.wrap .i64 (y1.1 + (1 : Int))), (y1.2 ++ (y1.1 :: ([] : List Int))))))) ∧
      (((decide ((Go.IntKind.wrap .i64 ((List.getD p0 (Int.toNat y1.1) ((0 : Int), (0 : Int))).2 - (List.getD p0 (Int.toNat y1.1) ((0 : Int), (0 : Int))).1)) > p1)) = false) →
      (k2 ((Go.IntKind.wrap .i64 (y1.1 + (1 : Int))), y1.2))))))) ∧
    (((decide (y1.1 < (((List.length p0) : Nat) : Int))) = false) →
    (K y1.2)))) n0 ((0 : Int), ([] : List Int))))
set_option maxHeartbeats 4000000 in
theorem w_gravity_rough_eq (p0 : (List (Int × Int))) (p1 : Int) (K : (List Int) → Prop) : tfnO F_gravity_rough A_gravity_rough C_gravity_rough P_gravity_rough E_gravity_rough (p0, p1) K = w_gravity_rough p0 p1 K := by kernel_rfl
def st_gravity_rough_0 (p0 : (List (Int × Int))) (p1 : Int) (y0 : (Int × (List Int))) : (Int × (List Int)) ⊕ (List Int) :=
  (cond (decide (y0.1 < (((List.length p0) : Nat) : Int))) (cond (decide ((Go.IntKind.wrap .i64 ((List.getD p0 (Int.toNat y0.1) ((0 : Int), (0 : Int))).2 - (List.getD p0 (Int.toNat y0.1) ((0 : Int), (0 : Int))).1)) > p1)) (Sum.inl ((Go.IntKind.wrap .i64 (y0.1 + (1 : Int))), (y0.2 ++ (y0.1 :: ([] : List Int)))))
    (Sum.inl ((Go.IntKind.wrap .i64 (y0.1 + (1 : Int))), y0.2)))
    (Sum.inr y0.2))
abbrev sp_gravity_rough_0 (p0 : (List (Int × Int))) (p1 : Int) (y0 : (Int × (List Int))) : List Prop := [(((decide (y0.1 < (((List.length p0) : Nat) : Int))) = true) → ((0 : Int) ≤ y0.1)),
    (((decide (y0.1 < (((List.length p0) : Nat) : Int))) = true) → (y0.1 < (((List.length p0) : Nat) : Int))),
    (((decide (y0.1 < (((List.length p0) : Nat) : Int))) = true) → (((decide ((Go.IntKind.wrap .i64 ((List.getD p0 (Int.toNat y0.1) ((0 : Int), (0 : Int))).2 - (List.getD p0 (Int.toNat y0.1) ((0 : Int), (0 : Int))).1)) > p1)) = true) → ((((List.length y0.2) + (List.length (y0.1 :: ([] : List Int)))) * 8) ≤ 140737488355328)))]
def s_gravity_rough (p0 : (List (Int × Int))) (p1 : Int) : (List Int) :=
  (lpv [] (st_gravity_rough_0 p0 p1) ((0 : Int), ([] : List Int)))
abbrev pre_gravity_rough (p0 : (List (Int × Int))) (p1 : Int) : List Prop := [(OkL (st_gravity_rough_0 p0 p1) (sp_gravity_rough_0 p0 p1) ((0 : Int), ([] : List Int)))]
set_option maxHeartbeats 4000000 in
theorem d_gravity_rough (p0 : (List (Int × Int))) (p1 : Int) (K : (List Int) → Prop) (hp : ∀ p ∈ pre_gravity_rough p0 p1, p) (h : K (s_gravity_rough p0 p1)) : w_gravity_rough p0 p1 K := by
  unfold w_gravity_rough
  unfold s_gravity_rough at h
  obtain ⟨hp0, _⟩ := conj_of hp
  exact (loop_gen (hp0) h (fun y0 k0 hp h => by
  unfold st_gravity_rough_0 at h; obtain ⟨hp0, hp1, hp2, _⟩ := conj_of hp
  exact (br' h (fun e1 h => ⟨(hp0 e1), ⟨(hp1 e1), (br' h (fun e2 h => ⟨(hp2 e1 e2), h⟩)
    (fun e2 h => h))⟩⟩)
    (fun e1 h => h))))
/-- The numbers of all rough ranges, from a number on. -/
def v_rough (m : Int) : Int → List (Int × Int) → List Int
  | _, [] => []
  | i, x :: r => cond (decide (IntKind.i64.wrap (x.2 - x.1) > m)) (i :: v_rough m (i + 1) r) (v_rough m (i + 1) r)
theorem v_rough_cons {m i : Int} {x : Int × Int} {r : List (Int × Int)} : v_rough m i (x :: r) = cond (decide (IntKind.i64.wrap (x.2 - x.1) > m)) (i :: v_rough m (i + 1) r) (v_rough m (i + 1) r) := rfl
theorem v_rough_len (m : Int) : ∀ (l : List (Int × Int)) (i : Int), (v_rough m i l).length ≤ l.length
  | [], _ => Nat.le_refl _
  | x :: r, i => by
    have := v_rough_len m r (i + 1)
    unfold v_rough
    cases decide (IntKind.i64.wrap (x.2 - x.1) > m) <;> simp <;> omega
theorem l_gravity_rough (p0 : List (Int × Int)) (p1 : Int) (h : p0.length ≤ 1000000) : OkL (st_gravity_rough_0 p0 p1) (sp_gravity_rough_0 p0 p1) (0, []) ∧ s_gravity_rough p0 p1 = v_rough p1 0 p0 := by
  have := list_is (dd := ([] : List Int)) (st := st_gravity_rough_0 p0 p1) (sp := sp_gravity_rough_0 p0 p1) (fun i (t : List Int) => (i, t)) p0 (0, 0) (fun r t => r.length ≤ p0.length ∧ t.length + r.length ≤ p0.length) (fun r t => t ++ v_rough p1 ((p0.length : Int) - r.length) r) (by unfold lenOk; omega) ?_ ?_ [] ⟨Nat.le_refl _, by simp⟩
  · refine ⟨this.1, this.2.trans ?_⟩
    simp
  · intro t _
    refine ⟨by simp only [sp_gravity_rough_0, List.forall_mem_cons, decide_eq_true_eq]; simp, by simp [st_gravity_rough_0, v_rough]⟩
  · intro j t hj ⟨_, hi⟩
    have hj' : (j : Int) < p0.length := by omega
    have e1 : (p0.getD j (0, 0) :: p0.drop (j + 1)).length = p0.length - j := by simp; omega
    have e2 : (p0.drop (j + 1)).length = p0.length - (j + 1) := by simp
    have e5 : (p0.length : Int) - ((p0.length - j : Nat) : Int) = j := by omega
    have e6 : (p0.length : Int) - ((p0.length - (j + 1) : Nat) : Int) = (j : Int) + 1 := by omega
    rw [e1] at hi
    refine ⟨by simp only [sp_gravity_rough_0, List.forall_mem_cons, decide_eq_true_eq]; simp <;> omega, .inl ?_⟩
    simp only [st_gravity_rough_0, hj', decide_true, Int.toNat_natCast, cond_true, wrap_nat (show (j : Int) ≤ 9223372036854775806 by omega)]
    rw [e1, e2, e5, e6, v_rough_cons]
    cases decide (IntKind.i64.wrap ((p0.getD j (0, 0)).2 - (p0.getD j (0, 0)).1) > p1)
    · exact ⟨t, rfl, ⟨by omega, by omega⟩, rfl⟩
    · exact ⟨t ++ [(j : Int)], rfl, ⟨by omega, by simp; omega⟩, by simp⟩
abbrev t_gravity_rough (p0 : List (Int × Int)) (p1 : Int) : List Int := v_rough p1 0 p0
abbrev qre_gravity_rough (p0 : List (Int × Int)) (_ : Int) : List Prop := [p0.length ≤ 1000000]
theorem pp_gravity_rough (p0 : List (Int × Int)) (p1 : Int) (hq : ∀ p ∈ qre_gravity_rough p0 p1, p) : ∀ p ∈ pre_gravity_rough p0 p1, p := by
  simp only [pre_gravity_rough, List.forall_mem_cons]
  exact ⟨(l_gravity_rough p0 p1 (conj_of hq).1).1, by simp⟩
theorem tt_gravity_rough (p0 : List (Int × Int)) (p1 : Int) (hq : ∀ p ∈ qre_gravity_rough p0 p1, p) : s_gravity_rough p0 p1 = t_gravity_rough p0 p1 := (l_gravity_rough p0 p1 (conj_of hq).1).2

abbrev con_gravity_rough : Con := ⟨P_gravity_rough, [.one (.sl E_gravity_rough)], fun x => qre_gravity_rough x.1 x.2, fun x => t_gravity_rough x.1 x.2⟩
theorem ok_gravity_rough : ConOOk Tryd.prog 120 con_gravity_rough := conO_tf (e := E_gravity_rough) (ps := P_gravity_rough) k_gravity_rough e_gravity_rough hC_gravity_rough (fun x hx => tfo_of (w_gravity_rough_eq x.1 x.2 (fun z => z = t_gravity_rough x.1 x.2)) (d_gravity_rough x.1 x.2 (fun z => z = t_gravity_rough x.1 x.2) (pp_gravity_rough x.1 x.2 hx) (tt_gravity_rough x.1 x.2 hx)))
/- gravity_RoughIn -/
def C_gravity_RoughIn : Cons := [(99, [], con_gravity_rangesErr), (119, [], con_gravity_limitErr), (88, [], con_gravity_first), (120, ownMark, con_gravity_rough)]
theorem hC_gravity_RoughIn : ConsOk Tryd.prog C_gravity_RoughIn := ConsOk.cons ok_gravity_rangesErr <| ConsOk.cons ok_gravity_limitErr <| ConsOk.cons ok_gravity_first <| ConsOk.consO ok_gravity_rough <| ConsOk.nil
def w_gravity_RoughIn (p0 : (List (Int × Int))) (p1 : Int) (K : ((List Int) × Int) → Prop) : Prop :=
  ((lenOk ((s_gravity_rangesErr p0) :: ((s_gravity_limitErr p1) :: ([] : List Int)))) ∧
  (((((v_first ((s_gravity_rangesErr p0) :: ((s_gravity_limitErr p1) :: ([] : List Int)))) != (0 : Int)) = true) →
  (K (([] : List Int), (v_first ((s_gravity_rangesErr p0) :: ((s_gravity_limitErr p1) :: ([] : List Int))))))) ∧
  ((((v_first ((s_gravity_rangesErr p0) :: ((s_gravity_limitErr p1) :: ([] : List Int)))) != (0 : Int)) = false) →
  (((List.length p0) ≤ 1000000) ∧
    (K ((v_rough p1 (0 : Int) p0), (0 : Int)))))))
set_option maxHeartbeats 4000000 in
theorem w_gravity_RoughIn_eq (p0 : (List (Int × Int))) (p1 : Int) (K : ((List Int) × Int) → Prop) : tfn F_gravity_RoughIn A_gravity_RoughIn C_gravity_RoughIn P_gravity_RoughIn R_gravity_RoughIn (p0, p1) K = w_gravity_RoughIn p0 p1 K := by kernel_rfl
def s_gravity_RoughIn (p0 : (List (Int × Int))) (p1 : Int) : ((List Int) × Int) :=
  (cond ((v_first ((s_gravity_rangesErr p0) :: ((s_gravity_limitErr p1) :: ([] : List Int)))) != (0 : Int)) (([] : List Int), (v_first ((s_gravity_rangesErr p0) :: ((s_gravity_limitErr p1) :: ([] : List Int)))))
    ((v_rough p1 (0 : Int) p0), (0 : Int)))
abbrev pre_gravity_RoughIn (p0 : (List (Int × Int))) (p1 : Int) : List Prop := [((((v_first ((s_gravity_rangesErr p0) :: ((s_gravity_limitErr p1) :: ([] : List Int)))) != (0 : Int)) = false) → ((List.length p0) ≤ 1000000))]
set_option maxHeartbeats 4000000 in
theorem d_gravity_RoughIn (p0 : (List (Int × Int))) (p1 : Int) (K : ((List Int) × Int) → Prop) (hp : ∀ p ∈ pre_gravity_RoughIn p0 p1, p) (h : K (s_gravity_RoughIn p0 p1)) : w_gravity_RoughIn p0 p1 K := by
  unfold w_gravity_RoughIn
  unfold s_gravity_RoughIn at h
  obtain ⟨hp0, _⟩ := conj_of hp
  exact ⟨(lenOk_of 2 rfl (by decide)), (br' h (fun e0 h => h)
    (fun e0 h => ⟨(hp0 e0), h⟩))⟩
abbrev con_gravity_RoughIn : Con := ⟨P_gravity_RoughIn, R_gravity_RoughIn, fun x => pre_gravity_RoughIn x.1 x.2, fun x => s_gravity_RoughIn x.1 x.2⟩
theorem ok_gravity_RoughIn : ConOk Tryd.prog 68 con_gravity_RoughIn := ⟨k_gravity_RoughIn, fun x hx => ret_tf (ps := P_gravity_RoughIn) (rs := R_gravity_RoughIn) (x := x) (y := s_gravity_RoughIn x.1 x.2) e_gravity_RoughIn hC_gravity_RoughIn (tf_of (w_gravity_RoughIn_eq x.1 x.2 (fun z => z = s_gravity_RoughIn x.1 x.2)) (d_gravity_RoughIn x.1 x.2 (fun z => z = s_gravity_RoughIn x.1 x.2) hx rfl))⟩
/- gravity_CalmIn -/
def C_gravity_CalmIn : Cons := [(99, [], con_gravity_rangesErr), (119, [], con_gravity_limitErr), (88, [], con_gravity_first), (120, ownMark, con_gravity_rough), (89, [], con_gravity_unless)]
theorem hC_gravity_CalmIn : ConsOk Tryd.prog C_gravity_CalmIn := ConsOk.cons ok_gravity_rangesErr <| ConsOk.cons ok_gravity_limitErr <| ConsOk.cons ok_gravity_first <| ConsOk.consO ok_gravity_rough <| ConsOk.cons ok_gravity_unless <| ConsOk.nil
def w_gravity_CalmIn (p0 : (List (Int × Int))) (p1 : Int) (K : ((Int × Int) × Int) → Prop) : Prop :=
  ((lenOk ((s_gravity_rangesErr p0) :: ((s_gravity_limitErr p1) :: ([] : List Int)))) ∧
  (((((v_first ((s_gravity_rangesErr p0) :: ((s_gravity_limitErr p1) :: ([] : List Int)))) != (0 : Int)) = true) →
  (K (((0 : Int), (0 : Int)), (v_first ((s_gravity_rangesErr p0) :: ((s_gravity_limitErr p1) :: ([] : List Int))))))) ∧
  ((((v_first ((s_gravity_rangesErr p0) :: ((s_gravity_limitErr p1) :: ([] : List Int)))) != (0 : Int)) = false) →
  (((List.length p0) ≤ 1000000) ∧
    (((((List.length (v_rough p1 (0 : Int) p0)) + (List.length ((((List.length p0) : Nat) : Int) :: ([] : List Int)))) * 8) ≤ 140737488355328) ∧
    (∃ n0, (loopP (fun (y1 : (Int × (Int × (Int × (Int × Int))))) k2 =>
      ((((decide (y1.1 < (((List.length ((v_rough p1 (0 : Int) p0) ++ ((((List.length p0) : Nat) : Int) :: ([] : List Int)))) : Nat) : Int))) = true) →
      (((0 : Int) ≤ y1.1) ∧
        ((y1.1 < (((List.length ((v_rough p1 (0 : Int) p0) ++ ((((List.length p0) : Nat) : Int) :: ([] : List Int)))) : Nat) : Int)) ∧
        ((((decide ((Go.IntKind.wrap .i64 ((List.getD ((v_rough p1 (0 : Int) p0) ++ ((((List.length p0) : Nat) : Int) :: ([] : List Int))) (Int.toNat y1.1) (0 : Int)) - y1.2.1)) > y1.2.2.1)) = true) →
        (k2 ((Go.IntKind.wrap .i64 (y1.1 + (1 : Int))), ((Go.IntKind.wrap .i64 ((List.getD ((v_rough p1 (0 : Int) p0) ++ ((((List.length p0) : Nat) : Int) :: ([] : List Int))) (Int.toNat y1.1) (0 : Int)) + (1 : Int))), ((Go.IntKind.wrap .i64 ((List.getD ((v_rough p1 (0 : Int) p0) ++ ((((List.length p0) : Nat) : Int) :: ([] : List Int))) (Int.toNat y1.1) (0 : Int)) - y1.2.1)), (y1.2.1, (Go.IntKind.wrap .i64 ((List.getD ((v_rough p1 (0 : Int) p0) ++ ((((List.length p0) : Nat) : Int) :: ([] : List Int))) (Int.toNat y1.1) (0 : Int)) - (1 : Int))))))))) ∧
        (((decide ((Go.IntKind.wrap .i64 ((List.getD ((v_rough p1 (0 : Int) p0) ++ ((((List.length p0) : Nat) : Int) :: ([] : List Int))) (Int.toNat y1.1) (0 : Int)) - y1.2.1)) > y1.2.2.1)) = false) →
        (k2 ((Go.IntKind.wrap .i64 (y1.1 + (1 : Int))), ((Go.IntKind.wrap .i64 ((List.getD ((v_rough p1 (0 : Int) p0) ++ ((((List.length p0) : Nat) : Int) :: ([] : List Int))) (Int.toNat y1.1) (0 : Int)) + (1 : Int))), y1.2.2)))))))) ∧
      (((decide (y1.1 < (((List.length ((v_rough p1 (0 : Int) p0) ++ ((((List.length p0) : Nat) : Int) :: ([] : List Int)))) : Nat) : Int))) = false) →
      (K (y1.2.2.2, (s_gravity_unless (decide (y1.2.2.1 > (0 : Int))) (12 : Int))))))) n0 ((0 : Int), ((0 : Int), ((0 : Int), ((0 : Int), (0 : Int))))))))))))
set_option maxHeartbeats 4000000 in
theorem w_gravity_CalmIn_eq (p0 : (List (Int × Int))) (p1 : Int) (K : ((Int × Int) × Int) → Prop) : tfn F_gravity_CalmIn A_gravity_CalmIn C_gravity_CalmIn P_gravity_CalmIn R_gravity_CalmIn (p0, p1) K = w_gravity_CalmIn p0 p1 K := by kernel_rfl
def st_gravity_CalmIn_0 (p0 : (List (Int × Int))) (p1 : Int) (y1 : (Int × (Int × (Int × (Int × Int))))) : (Int × (Int × (Int × (Int × Int)))) ⊕ ((Int × Int) × Int) :=
  (cond (decide (y1.1 < (((List.length ((v_rough p1 (0 : Int) p0) ++ ((((List.length p0) : Nat) : Int) :: ([] : List Int)))) : Nat) : Int))) (cond (decide ((Go.IntKind.wrap .i64 ((List.getD ((v_rough p1 (0 : Int) p0) ++ ((((List.length p0) : Nat) : Int) :: ([] : List Int))) (Int.toNat y1.1) (0 : Int)) - y1.2.1)) > y1.2.2.1)) (Sum.inl ((Go.IntKind.wrap .i64 (y1.1 + (1 : Int))), ((Go.IntKind.wrap .i64 ((List.getD ((v_rough p1 (0 : Int) p0) ++ ((((List.length p0) : Nat) : Int) :: ([] : List Int))) (Int.toNat y1.1) (0 : Int)) + (1 : Int))), ((Go.IntKind.wrap .i64 ((List.getD ((v_rough p1 (0 : Int) p0) ++ ((((List.length p0) : Nat) : Int) :: ([] : List Int))) (Int.toNat y1.1) (0 : Int)) - y1.2.1)), (y1.2.1, (Go.IntKind.wrap .i64 ((List.getD ((v_rough p1 (0 : Int) p0) ++ ((((List.length p0) : Nat) : Int) :: ([] : List Int))) (Int.toNat y1.1) (0 : Int)) - (1 : Int))))))))
    (Sum.inl ((Go.IntKind.wrap .i64 (y1.1 + (1 : Int))), ((Go.IntKind.wrap .i64 ((List.getD ((v_rough p1 (0 : Int) p0) ++ ((((List.length p0) : Nat) : Int) :: ([] : List Int))) (Int.toNat y1.1) (0 : Int)) + (1 : Int))), y1.2.2))))
    (Sum.inr (y1.2.2.2, (s_gravity_unless (decide (y1.2.2.1 > (0 : Int))) (12 : Int)))))
abbrev sp_gravity_CalmIn_0 (p0 : (List (Int × Int))) (p1 : Int) (y1 : (Int × (Int × (Int × (Int × Int))))) : List Prop := [(((decide (y1.1 < (((List.length ((v_rough p1 (0 : Int) p0) ++ ((((List.length p0) : Nat) : Int) :: ([] : List Int)))) : Nat) : Int))) = true) → ((0 : Int) ≤ y1.1)),
    (((decide (y1.1 < (((List.length ((v_rough p1 (0 : Int) p0) ++ ((((List.length p0) : Nat) : Int) :: ([] : List Int)))) : Nat) : Int))) = true) → (y1.1 < (((List.length ((v_rough p1 (0 : Int) p0) ++ ((((List.length p0) : Nat) : Int) :: ([] : List Int)))) : Nat) : Int)))]
def s_gravity_CalmIn (p0 : (List (Int × Int))) (p1 : Int) : ((Int × Int) × Int) :=
  (cond ((v_first ((s_gravity_rangesErr p0) :: ((s_gravity_limitErr p1) :: ([] : List Int)))) != (0 : Int)) (((0 : Int), (0 : Int)), (v_first ((s_gravity_rangesErr p0) :: ((s_gravity_limitErr p1) :: ([] : List Int)))))
    (lpv (((0 : Int), (0 : Int)), (0 : Int)) (st_gravity_CalmIn_0 p0 p1) ((0 : Int), ((0 : Int), ((0 : Int), ((0 : Int), (0 : Int)))))))
abbrev pre_gravity_CalmIn (p0 : (List (Int × Int))) (p1 : Int) : List Prop := [((((v_first ((s_gravity_rangesErr p0) :: ((s_gravity_limitErr p1) :: ([] : List Int)))) != (0 : Int)) = false) → ((List.length p0) ≤ 1000000)),
    ((((v_first ((s_gravity_rangesErr p0) :: ((s_gravity_limitErr p1) :: ([] : List Int)))) != (0 : Int)) = false) → ((((List.length (v_rough p1 (0 : Int) p0)) + (List.length ((((List.length p0) : Nat) : Int) :: ([] : List Int)))) * 8) ≤ 140737488355328)),
    ((((v_first ((s_gravity_rangesErr p0) :: ((s_gravity_limitErr p1) :: ([] : List Int)))) != (0 : Int)) = false) → (OkL (st_gravity_CalmIn_0 p0 p1) (sp_gravity_CalmIn_0 p0 p1) ((0 : Int), ((0 : Int), ((0 : Int), ((0 : Int), (0 : Int)))))))]
set_option maxHeartbeats 4000000 in
theorem d_gravity_CalmIn (p0 : (List (Int × Int))) (p1 : Int) (K : ((Int × Int) × Int) → Prop) (hp : ∀ p ∈ pre_gravity_CalmIn p0 p1, p) (h : K (s_gravity_CalmIn p0 p1)) : w_gravity_CalmIn p0 p1 K := by
  unfold w_gravity_CalmIn
  unfold s_gravity_CalmIn at h
  obtain ⟨hp0, hp1, hp2, _⟩ := conj_of hp
  exact ⟨(lenOk_of 2 rfl (by decide)), (br' h (fun e0 h => h)
    (fun e0 h => ⟨(hp0 e0), ⟨(hp1 e0), (loop_gen (hp2 e0) h (fun y1 k1 hp h => by
  unfold st_gravity_CalmIn_0 at h; obtain ⟨hp0, hp1, _⟩ := conj_of hp
  exact (br' h (fun e2 h => ⟨(hp0 e2), ⟨(hp1 e2), (br' h (fun e3 h => h)
    (fun e3 h => h))⟩⟩)
    (fun e2 h => h))))⟩⟩))⟩
/-- A stretch from b up to e, taken if it is longer than what is known. -/
def v_upd (s : Bool × Int × Int) (b e : Int) : Bool × Int × Int := if b < e ∧ (s.1 = false ∨ e - 1 - b > s.2.2 - s.2.1) then (true, b, e - 1) else s
/-- Stretches between the ends, from b on. -/
def v_calm2 : List Int → Int → Bool × Int × Int → Bool × Int × Int
  | [], _, s => s
  | e :: r, b, s => v_calm2 r (e + 1) (v_upd s b e)
/-- The ends that follow b: all rough numbers, and the end of all. -/
def v_ends (rs : List Int) (n : Int) : Int → List Int → Prop
  | b, [] => b = n + 1
  | b, e :: r => b ≤ e ∧ e ≤ n ∧ (∀ x, b ≤ x → x < e → x ∉ rs) ∧ (e ∈ rs ∨ r = []) ∧ (r = [] → e = n) ∧ v_ends rs n (e + 1) r
theorem v_rough_ge {m : Int} : ∀ (l : List (Int × Int)) (i : Int), ∀ x ∈ v_rough m i l, i ≤ x ∧ x < i + l.length
  | [], _, x, h => by cases h
  | y :: r, i, x, h => by
    rw [v_rough_cons] at h
    have ih := v_rough_ge (m := m) r (i + 1) x
    simp only [List.length_cons]
    cases hb : decide (IntKind.i64.wrap (y.2 - y.1) > m) <;> rw [hb] at h
    · have := ih h; omega
    · rcases List.mem_cons.1 h with rfl | h
      · omega
      · have := ih h; omega
theorem v_ends_of (rs : List Int) (m n : Int) : ∀ (l : List (Int × Int)) (i b : Int), i + l.length = n → b ≤ i → (∀ x, b ≤ x → x < i → x ∉ rs) → (∀ x, i ≤ x → (x ∈ rs ↔ x ∈ v_rough m i l)) → v_ends rs n b (v_rough m i l ++ [n])
  | [], i, b, hn, hb, h1, _ => by
    simp only [List.length_nil] at hn
    have : i = n := by omega
    subst this
    exact ⟨hb, Int.le_refl _, h1, .inr rfl, fun _ => rfl, rfl⟩
  | y :: r, i, b, hn, hb, h1, h2 => by
    simp only [List.length_cons] at hn
    have hm := h2 i (Int.le_refl i)
    rw [v_rough_cons] at hm ⊢
    have hge := v_rough_ge (m := m) r (i + 1)
    have h2' : ∀ x, i + 1 ≤ x → (x ∈ rs ↔ x ∈ v_rough m (i + 1) r) := by
      intro x hx
      rw [h2 x (by omega), v_rough_cons]
      cases decide (IntKind.i64.wrap (y.2 - y.1) > m)
      · rfl
      · simp only [cond_true, List.mem_cons]
        exact ⟨fun h => h.resolve_left (by omega), .inr⟩
    cases hc : decide (IntKind.i64.wrap (y.2 - y.1) > m)
    · rw [hc] at hm
      have hi : i ∉ rs := fun h => by have := (hge i (hm.1 h)).1; omega
      refine v_ends_of rs m n r (i + 1) b (by omega) (by omega) (fun x hx hx2 => ?_) h2'
      by_cases e : x = i
      · rw [e]; exact hi
      · exact h1 x hx (by omega)
    · rw [hc] at hm
      simp only [cond_true, List.cons_append]
      refine ⟨hb, by omega, h1, .inl (hm.2 (by simp)), fun h => by simp at h, ?_⟩
      exact v_ends_of rs m n r (i + 1) (i + 1) (by omega) (Int.le_refl _) (fun x hx hx2 => by omega) h2'
/-- What a stretch is: no rough one is in it, its neighbours are. -/
structure v_stretch (rs : List Int) (n : Int) (x : Int × Int) : Prop where
  lo : 0 ≤ x.1
  le : x.1 ≤ x.2
  hi : x.2 < n
  calm : ∀ i, x.1 ≤ i → i ≤ x.2 → i ∉ rs
  left : x.1 = 0 ∨ x.1 - 1 ∈ rs
  right : x.2 = n - 1 ∨ x.2 + 1 ∈ rs
theorem v_calm2_is {rs : List Int} {n : Int} : ∀ (E : List Int) (b : Int) (s : Bool × Int × Int), v_ends rs n b E → 0 ≤ b → (b = 0 ∨ b - 1 ∈ rs ∨ b = n + 1) → (s.1 = true → v_stretch rs n s.2) → ((v_calm2 E b s).1 = true → v_stretch rs n (v_calm2 E b s).2)
  | [], _, s, _, _, _, hs => hs
  | e :: r, b, s, h, hb, hb2, hs => by
    obtain ⟨h1, h2, h3, h4, h5, h6⟩ := h
    refine v_calm2_is r (e + 1) _ h6 (by omega) ?_ ?_
    · rcases h4 with h4 | h4
      · exact .inr (.inl (by rw [show e + 1 - 1 = e by omega]; exact h4))
      · exact .inr (.inr (by rw [h5 h4]))
    · unfold v_upd
      split
      · rename_i hc
        intro _
        refine ⟨hb, by simp only; omega, by simp only; omega, fun i hi1 hi2 => h3 i hi1 (by simp only at hi2; omega), hb2.imp id (fun h => h.resolve_right (by omega)), ?_⟩
        simp only
        rcases h4 with h4 | h4
        · exact .inr (by rw [show e - 1 + 1 = e by omega]; exact h4)
        · exact .inl (by rw [h5 h4])
      · exact hs
/-- Nothing is found: all are rough. -/
theorem v_upd_none {s : Bool × Int × Int} {b e : Int} (h : (v_upd s b e).1 = false) : s.1 = false ∧ ¬ b < e := by
  unfold v_upd at h
  split at h
  · cases h
  · rename_i hc
    exact ⟨h, fun hb => hc ⟨hb, .inl h⟩⟩
theorem v_calm2_none {rs : List Int} {n : Int} : ∀ (E : List Int) (b : Int) (s : Bool × Int × Int), v_ends rs n b E → (v_calm2 E b s).1 = false → s.1 = false ∧ ∀ i, b ≤ i → i < n → i ∈ rs
  | [], b, s, h, hs => ⟨hs, fun i h1 h2 => by have : b = n + 1 := h; omega⟩
  | e :: r, b, s, h, hs => by
    obtain ⟨h1, h2, h3, h4, h5, h6⟩ := h
    obtain ⟨g1, g2⟩ := v_calm2_none r (e + 1) _ h6 hs
    obtain ⟨g3, g4⟩ := v_upd_none g1
    refine ⟨g3, fun i hi1 hi2 => ?_⟩
    by_cases he : i = e
    · subst he
      rcases h4 with h4 | h4
      · exact h4
      · have := h5 h4; omega
    · exact g2 i (by omega) hi2
theorem v_calm2_cons {e : Int} {r : List Int} {b : Int} {s : Bool × Int × Int} : v_calm2 (e :: r) b s = v_calm2 r (e + 1) (v_upd s b e) := rfl
theorem l_gravity_CalmIn (p0 : List (Int × Int)) (p1 : Int) (h : p0.length ≤ 1000000) : OkL (st_gravity_CalmIn_0 p0 p1) (sp_gravity_CalmIn_0 p0 p1) (0, (0, (0, (0, 0)))) ∧ lpv ((0, 0), 0) (st_gravity_CalmIn_0 p0 p1) (0, (0, (0, (0, 0)))) = ((v_calm2 (v_rough p1 0 p0 ++ [(p0.length : Int)]) 0 (false, 0, 0)).2, s_gravity_unless (v_calm2 (v_rough p1 0 p0 ++ [(p0.length : Int)]) 0 (false, 0, 0)).1 12) := by
  have hE : ∀ e ∈ v_rough p1 0 p0 ++ [(p0.length : Int)], 0 ≤ e ∧ e ≤ p0.length := by
    intro e he
    rcases List.mem_append.1 he with he | he
    · have := v_rough_ge p0 0 e he; omega
    · have := List.mem_singleton.1 he; omega
  have hlen : (v_rough p1 0 p0 ++ [(p0.length : Int)]).length ≤ 1000001 := by
    have := v_rough_len p1 p0 0
    simp only [List.length_append, List.length_singleton]; omega
  unfold st_gravity_CalmIn_0 sp_gravity_CalmIn_0
  revert hE hlen
  generalize v_rough p1 0 p0 ++ [(p0.length : Int)] = E
  intro hE hlen
  have hl : lenOk E := lenOk_le hlen (by decide)
  have := list_is (dd := (((0, 0), 0) : (Int × Int) × Int)) (st := fun y1 : Int × (Int × (Int × (Int × Int))) => (cond (decide (y1.1 < ((E.length : Nat) : Int))) (cond (decide ((Go.IntKind.wrap .i64 ((E.getD (Int.toNat y1.1) 0) - y1.2.1)) > y1.2.2.1)) (Sum.inl ((Go.IntKind.wrap .i64 (y1.1 + 1)), ((Go.IntKind.wrap .i64 ((E.getD (Int.toNat y1.1) 0) + 1)), ((Go.IntKind.wrap .i64 ((E.getD (Int.toNat y1.1) 0) - y1.2.1)), (y1.2.1, (Go.IntKind.wrap .i64 ((E.getD (Int.toNat y1.1) 0) - 1))))))) (Sum.inl ((Go.IntKind.wrap .i64 (y1.1 + 1)), ((Go.IntKind.wrap .i64 ((E.getD (Int.toNat y1.1) 0) + 1)), y1.2.2)))) (Sum.inr (y1.2.2.2, (s_gravity_unless (decide (y1.2.2.1 > 0)) 12)))))
    (sp := fun y1 : Int × (Int × (Int × (Int × Int))) => [((decide (y1.1 < ((E.length : Nat) : Int))) = true) → (0 ≤ y1.1), ((decide (y1.1 < ((E.length : Nat) : Int))) = true) → (y1.1 < ((E.length : Nat) : Int))])
    (fun i (t : Int × (Int × (Int × Int))) => (i, t)) E 0
    (fun r t => (∀ e ∈ r, 0 ≤ e ∧ e ≤ p0.length) ∧ 0 ≤ t.1 ∧ t.1 ≤ 1000001 ∧ 0 ≤ t.2.1 ∧ (0 < t.2.1 → t.2.1 = t.2.2.2 - t.2.2.1 + 1))
    (fun r t => ((v_calm2 r t.1 (decide (t.2.1 > 0), t.2.2)).2, s_gravity_unless (v_calm2 r t.1 (decide (t.2.1 > 0), t.2.2)).1 12)) hl ?_ ?_ (0, (0, (0, 0))) ⟨hE, by simp⟩
  · exact this
  · intro t _
    exact ⟨by simp, by simp [v_calm2]⟩
  · rintro j ⟨b, m, lo, hi⟩ hj ⟨h1, h2, h3, h4, h5⟩
    have hj' : (j : Int) < E.length := by omega
    simp only at h2 h3 h4 h5
    obtain ⟨g1, g2⟩ := h1 _ (List.mem_cons_self ..)
    have h1' := fun e he => h1 e (List.mem_cons_of_mem _ he)
    refine ⟨by simp only [List.forall_mem_cons, decide_eq_true_eq]; simp, .inl ?_⟩
    dsimp only
    rw [show E.getD j 0 = E.getD (Int.toNat (j : Int)) 0 from rfl] at g1 g2 ⊢
    generalize E.getD (Int.toNat (j : Int)) 0 = e at g1 g2 ⊢
    simp only [hj', decide_true, cond_true, wrap_nat (show (j : Int) ≤ 9223372036854775806 by omega), v_calm2_cons]
    rw [wrap_id (show -9223372036854775808 ≤ e - b by omega) (by omega), wrap_id (show -9223372036854775808 ≤ e + 1 by omega) (by omega), wrap_id (show -9223372036854775808 ≤ e - 1 by omega) (by omega)]
    by_cases c : e - b > m
    · refine ⟨_, by simp only [c, decide_true, cond_true]; rfl, ⟨h1', by simp only; omega, by simp only; omega, by simp only; omega, fun _ => by simp only; omega⟩, ?_⟩
      have e1 : v_upd (decide (m > 0), lo, hi) b e = (true, b, e - 1) := by
        unfold v_upd
        refine if_pos ⟨by omega, ?_⟩
        by_cases hm : 0 < m
        · exact .inr (by simp only; have := h5 hm; omega)
        · exact .inl (by simp [hm])
      simp only [e1, show decide (e - b > 0) = true by simp; omega]
    · refine ⟨_, by simp only [c, decide_false, cond_false]; rfl, ⟨h1', by simp only; omega, by simp only; omega, h4, h5⟩, ?_⟩
      have e1 : v_upd (decide (m > 0), lo, hi) b e = (decide (m > 0), lo, hi) := by
        unfold v_upd
        refine if_neg fun ⟨k1, k2⟩ => ?_
        rcases k2 with k2 | k2
        · have : ¬ m > 0 := by simpa using k2
          omega
        · simp only at k2
          by_cases hm : 0 < m
          · have := h5 hm; omega
          · omega
      simp only [e1]
/-- The calm stretch. -/
def v_calmE (p0 : List (Int × Int)) (p1 : Int) : Bool × Int × Int := v_calm2 (v_rough p1 0 p0 ++ [(p0.length : Int)]) 0 (false, 0, 0)
abbrev t_gravity_CalmIn (p0 : List (Int × Int)) (p1 : Int) : (Int × Int) × Int := cond (v_first [s_gravity_rangesErr p0, s_gravity_limitErr p1] != 0) ((0, 0), v_first [s_gravity_rangesErr p0, s_gravity_limitErr p1]) ((v_calmE p0 p1).2, s_gravity_unless (v_calmE p0 p1).1 12)
abbrev qre_gravity_CalmIn (p0 : List (Int × Int)) (_ : Int) : List Prop := [p0.length ≤ 1000000]
theorem pp_gravity_CalmIn (p0 : List (Int × Int)) (p1 : Int) (hq : ∀ p ∈ qre_gravity_CalmIn p0 p1, p) : ∀ p ∈ pre_gravity_CalmIn p0 p1, p := by
  have h := (conj_of hq).1
  have h2 := v_rough_len p1 p0 0
  simp only [pre_gravity_CalmIn, List.forall_mem_cons]
  exact ⟨fun _ => h, fun _ => by simp only [List.length_cons, List.length_nil]; omega, fun _ => (l_gravity_CalmIn p0 p1 h).1, by simp⟩
theorem tt_gravity_CalmIn (p0 : List (Int × Int)) (p1 : Int) (hq : ∀ p ∈ qre_gravity_CalmIn p0 p1, p) : s_gravity_CalmIn p0 p1 = t_gravity_CalmIn p0 p1 := by
  unfold s_gravity_CalmIn t_gravity_CalmIn v_calmE
  rw [(l_gravity_CalmIn p0 p1 (conj_of hq).1).2]

abbrev con_gravity_CalmIn : Con := ⟨P_gravity_CalmIn, R_gravity_CalmIn, fun x => qre_gravity_CalmIn x.1 x.2, fun x => t_gravity_CalmIn x.1 x.2⟩
theorem ok_gravity_CalmIn : ConOk Tryd.prog 69 con_gravity_CalmIn := ⟨k_gravity_CalmIn, fun x hx => ret_tf (ps := P_gravity_CalmIn) (rs := R_gravity_CalmIn) (x := x) (y := t_gravity_CalmIn x.1 x.2) e_gravity_CalmIn hC_gravity_CalmIn (tf_of (w_gravity_CalmIn_eq x.1 x.2 (fun z => z = t_gravity_CalmIn x.1 x.2)) (d_gravity_CalmIn x.1 x.2 (fun z => z = t_gravity_CalmIn x.1 x.2) (pp_gravity_CalmIn x.1 x.2 hx) (tt_gravity_CalmIn x.1 x.2 hx)))⟩
/- base_Within -/
def C_base_Within : Cons := []
theorem hC_base_Within : ConsOk Tryd.prog C_base_Within := ConsOk.nil
def w_base_Within (p0 : Int) (p1 : Int) (p2 : Int) (K : Bool → Prop) : Prop :=
  ((((decide (p1 ≤ p0)) = true) →
  ((decide (p1 ≤ p0)) = (decide (p1 ≤ p0)))) ∧
  ((((decide (p1 ≤ p0)) = true) →
  ((decide (p1 ≤ p0)) = (decide (p1 ≤ p0)))) ∧
  (((decide (p1 ≤ p0)) = (decide (p1 ≤ p0))) ∧
  (K (cond (decide (p1 ≤ p0)) (decide (p0 ≤ p2)) false)))))
set_option maxHeartbeats 4000000 in
theorem w_base_Within_eq (p0 : Int) (p1 : Int) (p2 : Int) (K : Bool → Prop) : tfn F_base_Within A_base_Within C_base_Within P_base_Within R_base_Within (p0, p1, p2) K = w_base_Within p0 p1 p2 K := by kernel_rfl
def s_base_Within (p0 : Int) (p1 : Int) (p2 : Int) : Bool :=
  (cond (decide (p1 ≤ p0)) (decide (p0 ≤ p2)) false)
abbrev pre_base_Within (p0 : Int) (p1 : Int) (p2 : Int) : List Prop := []
set_option maxHeartbeats 4000000 in
theorem d_base_Within (p0 : Int) (p1 : Int) (p2 : Int) (K : Bool → Prop) (hp : ∀ p ∈ pre_base_Within p0 p1 p2, p) (h : K (s_base_Within p0 p1 p2)) : w_base_Within p0 p1 p2 K := by
  unfold w_base_Within
  unfold s_base_Within at h
  exact ⟨(fun _ => rfl), ⟨(fun _ => rfl), ⟨rfl, h⟩⟩⟩
abbrev con_base_Within : Con := ⟨P_base_Within, R_base_Within, fun x => pre_base_Within x.1 x.2.1 x.2.2, fun x => s_base_Within x.1 x.2.1 x.2.2⟩
theorem ok_base_Within : ConOk Tryd.prog 60 con_base_Within := ⟨k_base_Within, fun x hx => ret_tf (ps := P_base_Within) (rs := R_base_Within) (x := x) (y := s_base_Within x.1 x.2.1 x.2.2) e_base_Within hC_base_Within (tf_of (w_base_Within_eq x.1 x.2.1 x.2.2 (fun z => z = s_base_Within x.1 x.2.1 x.2.2)) (d_base_Within x.1 x.2.1 x.2.2 (fun z => z = s_base_Within x.1 x.2.1 x.2.2) hx rfl))⟩
/- ref05_rangeErr -/
def C_ref05_rangeErr : Cons := [(60, [], con_base_Within)]
theorem hC_ref05_rangeErr : ConsOk Tryd.prog C_ref05_rangeErr := ConsOk.cons ok_base_Within <| ConsOk.nil
def w_ref05_rangeErr (p0 : (Int × Int)) (p1 : Int) (K : Int → Prop) : Prop :=
  ((((!(s_base_Within p0.1 (Go.IntKind.wrap .i64 ((0 : Int) - p1)) p1)) = false) →
  ((!(s_base_Within p0.1 (Go.IntKind.wrap .i64 ((0 : Int) - p1)) p1)) = (!(s_base_Within p0.1 (Go.IntKind.wrap .i64 ((0 : Int) - p1)) p1)))) ∧
  ((((!(s_base_Within p0.1 (Go.IntKind.wrap .i64 ((0 : Int) - p1)) p1)) = false) →
  ((!(s_base_Within p0.1 (Go.IntKind.wrap .i64 ((0 : Int) - p1)) p1)) = (!(s_base_Within p0.1 (Go.IntKind.wrap .i64 ((0 : Int) - p1)) p1)))) ∧
  ((((!(s_base_Within p0.1 (Go.IntKind.wrap .i64 ((0 : Int) - p1)) p1)) = false) →
  ((!(s_base_Within p0.1 (Go.IntKind.wrap .i64 ((0 : Int) - p1)) p1)) = (!(s_base_Within p0.1 (Go.IntKind.wrap .i64 ((0 : Int) - p1)) p1)))) ∧
  ((((!(s_base_Within p0.1 (Go.IntKind.wrap .i64 ((0 : Int) - p1)) p1)) = false) →
  ((!(s_base_Within p0.1 (Go.IntKind.wrap .i64 ((0 : Int) - p1)) p1)) = (!(s_base_Within p0.1 (Go.IntKind.wrap .i64 ((0 : Int) - p1)) p1)))) ∧
  ((((!(s_base_Within p0.1 (Go.IntKind.wrap .i64 ((0 : Int) - p1)) p1)) = false) →
  ((!(s_base_Within p0.1 (Go.IntKind.wrap .i64 ((0 : Int) - p1)) p1)) = (!(s_base_Within p0.1 (Go.IntKind.wrap .i64 ((0 : Int) - p1)) p1)))) ∧
  ((((!(s_base_Within p0.1 (Go.IntKind.wrap .i64 ((0 : Int) - p1)) p1)) = false) →
  ((!(s_base_Within p0.1 (Go.IntKind.wrap .i64 ((0 : Int) - p1)) p1)) = (!(s_base_Within p0.1 (Go.IntKind.wrap .i64 ((0 : Int) - p1)) p1)))) ∧
  (((!(s_base_Within p0.1 (Go.IntKind.wrap .i64 ((0 : Int) - p1)) p1)) = (!(s_base_Within p0.1 (Go.IntKind.wrap .i64 ((0 : Int) - p1)) p1))) ∧
  ((((cond (!(s_base_Within p0.1 (Go.IntKind.wrap .i64 ((0 : Int) - p1)) p1)) true (!(s_base_Within p0.2 (Go.IntKind.wrap .i64 ((0 : Int) - p1)) p1))) = true) →
  (K (2 : Int))) ∧
  (((cond (!(s_base_Within p0.1 (Go.IntKind.wrap .i64 ((0 : Int) - p1)) p1)) true (!(s_base_Within p0.2 (Go.IntKind.wrap .i64 ((0 : Int) - p1)) p1))) = false) →
  ((((decide (p0.1 > p0.2)) = true) →
    (K (9 : Int))) ∧
    (((decide (p0.1 > p0.2)) = false) →
    (K (0 : Int)))))))))))))
set_option maxHeartbeats 4000000 in
theorem w_ref05_rangeErr_eq (p0 : (Int × Int)) (p1 : Int) (K : Int → Prop) : tfn F_ref05_rangeErr A_ref05_rangeErr C_ref05_rangeErr P_ref05_rangeErr R_ref05_rangeErr (p0, p1) K = w_ref05_rangeErr p0 p1 K := by kernel_rfl
def s_ref05_rangeErr (p0 : (Int × Int)) (p1 : Int) : Int :=
  (cond (cond (!(s_base_Within p0.1 (Go.IntKind.wrap .i64 ((0 : Int) - p1)) p1)) true (!(s_base_Within p0.2 (Go.IntKind.wrap .i64 ((0 : Int) - p1)) p1))) (2 : Int)
    (cond (decide (p0.1 > p0.2)) (9 : Int)
    (0 : Int)))
abbrev pre_ref05_rangeErr (p0 : (Int × Int)) (p1 : Int) : List Prop := []
set_option maxHeartbeats 4000000 in
theorem d_ref05_rangeErr (p0 : (Int × Int)) (p1 : Int) (K : Int → Prop) (hp : ∀ p ∈ pre_ref05_rangeErr p0 p1, p) (h : K (s_ref05_rangeErr p0 p1)) : w_ref05_rangeErr p0 p1 K := by
  unfold w_ref05_rangeErr
  unfold s_ref05_rangeErr at h
  exact ⟨(fun _ => rfl), ⟨(fun _ => rfl), ⟨(fun _ => rfl), ⟨(fun _ => rfl), ⟨(fun _ => rfl), ⟨(fun _ => rfl), ⟨rfl, (br' h (fun e0 h => h)
    (fun e0 h => (br' h (fun e1 h => h)
    (fun e1 h => h))))⟩⟩⟩⟩⟩⟩⟩
theorem tx_eqw {n lo hi : Int} : s_base_Within n lo hi = s_gravity_within n lo hi := rfl
abbrev t_ref05_rangeErr (p0 : Int × Int) (p1 : Int) : Int := s_gravity_rangeErr p0 p1
abbrev qre_ref05_rangeErr (_ : Int × Int) (_ : Int) : List Prop := []
theorem pp_ref05_rangeErr (p0 : Int × Int) (p1 : Int) (_ : ∀ p ∈ qre_ref05_rangeErr p0 p1, p) : ∀ p ∈ pre_ref05_rangeErr p0 p1, p := by intro p hp; simp at hp
theorem tt_ref05_rangeErr (p0 : Int × Int) (p1 : Int) (_ : ∀ p ∈ qre_ref05_rangeErr p0 p1, p) : s_ref05_rangeErr p0 p1 = t_ref05_rangeErr p0 p1 := by
  unfold s_ref05_rangeErr t_ref05_rangeErr s_gravity_rangeErr s_gravity_isSized
  simp only [tx_eqw]
  rcases Int.lt_or_le p0.2 p0.1 with h | h
  · have h' : ¬ p0.1 ≤ p0.2 := by omega
    cases s_gravity_within p0.1 (IntKind.i64.wrap (0 - p1)) p1 <;> cases s_gravity_within p0.2 (IntKind.i64.wrap (0 - p1)) p1 <;> simp [s_gravity_unless, v_first, h, h']
  · have h' : ¬ p0.2 < p0.1 := by omega
    cases s_gravity_within p0.1 (IntKind.i64.wrap (0 - p1)) p1 <;> cases s_gravity_within p0.2 (IntKind.i64.wrap (0 - p1)) p1 <;> simp [s_gravity_unless, v_first, h, h']

abbrev con_ref05_rangeErr : Con := ⟨P_ref05_rangeErr, R_ref05_rangeErr, fun x => qre_ref05_rangeErr x.1 x.2, fun x => t_ref05_rangeErr x.1 x.2⟩
theorem ok_ref05_rangeErr : ConOk Tryd.prog 103 con_ref05_rangeErr := ⟨k_ref05_rangeErr, fun x hx => ret_tf (ps := P_ref05_rangeErr) (rs := R_ref05_rangeErr) (x := x) (y := t_ref05_rangeErr x.1 x.2) e_ref05_rangeErr hC_ref05_rangeErr (tf_of (w_ref05_rangeErr_eq x.1 x.2 (fun z => z = t_ref05_rangeErr x.1 x.2)) (d_ref05_rangeErr x.1 x.2 (fun z => z = t_ref05_rangeErr x.1 x.2) (pp_ref05_rangeErr x.1 x.2 hx) (tt_ref05_rangeErr x.1 x.2 hx)))⟩
/- ref05_CheckHeights -/
def C_ref05_CheckHeights : Cons := [(103, [], con_ref05_rangeErr)]
theorem hC_ref05_CheckHeights : ConsOk Tryd.prog C_ref05_CheckHeights := ConsOk.cons ok_ref05_rangeErr <| ConsOk.nil
def w_ref05_CheckHeights (p0 : (List (Int × Int))) (K : (Int × Int) → Prop) : Prop :=
  ((((decide ((((List.length p0) : Nat) : Int) > (64 : Int))) = true) →
  (K ((0 : Int), (8 : Int)))) ∧
  (((decide ((((List.length p0) : Nat) : Int) > (64 : Int))) = false) →
  (∃ n0, (loopP (fun (y1 : Int) k2 =>
      ((((decide (y1 < (((List.length p0) : Nat) : Int))) = true) →
      (((0 : Int) ≤ y1) ∧
        ((y1 < (((List.length p0) : Nat) : Int)) ∧
        (((((s_gravity_rangeErr (List.getD p0 (Int.toNat y1) ((0 : Int), (0 : Int))) (1000000 : Int)) != (0 : Int)) = true) →
        (K (y1, (s_gravity_rangeErr (List.getD p0 (Int.toNat y1) ((0 : Int), (0 : Int))) (1000000 : Int))))) ∧
        ((((s_gravity_rangeErr (List.getD p0 (Int.toNat y1) ((0 : Int), (0 : Int))) (1000000 : Int)) != (0 : Int)) = false) →
        (k2 (Go.IntKind.wrap .i64 (y1 + (1 : Int))))))))) ∧
      (((decide (y1 < (((List.length p0) : Nat) : Int))) = false) →
      (K ((0 : Int), (0 : Int)))))) n0 (0 : Int)))))
set_option maxHeartbeats 4000000 in
theorem w_ref05_CheckHeights_eq (p0 : (List (Int × Int))) (K : (Int × Int) → Prop) : tfn F_ref05_CheckHeights A_ref05_CheckHeights C_ref05_CheckHeights P_ref05_CheckHeights R_ref05_CheckHeights p0 K = w_ref05_CheckHeights p0 K := by kernel_rfl
def st_ref05_CheckHeights_0 (p0 : (List (Int × Int))) (y1 : Int) : Int ⊕ (Int × Int) :=
  (cond (decide (y1 < (((List.length p0) : Nat) : Int))) (cond ((s_gravity_rangeErr (List.getD p0 (Int.toNat y1) ((0 : Int), (0 : Int))) (1000000 : Int)) != (0 : Int)) (Sum.inr (y1, (s_gravity_rangeErr (List.getD p0 (Int.toNat y1) ((0 : Int), (0 : Int))) (1000000 : Int))))
    (Sum.inl (Go.IntKind.wrap .i64 (y1 + (1 : Int)))))
    (Sum.inr ((0 : Int), (0 : Int))))
abbrev sp_ref05_CheckHeights_0 (p0 : (List (Int × Int))) (y1 : Int) : List Prop := [(((decide (y1 < (((List.length p0) : Nat) : Int))) = true) → ((0 : Int) ≤ y1)),
    (((decide (y1 < (((List.length p0) : Nat) : Int))) = true) → (y1 < (((List.length p0) : Nat) : Int)))]
def s_ref05_CheckHeights (p0 : (List (Int × Int))) : (Int × Int) :=
  (cond (decide ((((List.length p0) : Nat) : Int) > (64 : Int))) ((0 : Int), (8 : Int))
    (lpv ((0 : Int), (0 : Int)) (st_ref05_CheckHeights_0 p0) (0 : Int)))
abbrev pre_ref05_CheckHeights (p0 : (List (Int × Int))) : List Prop := [(((decide ((((List.length p0) : Nat) : Int) > (64 : Int))) = false) → (OkL (st_ref05_CheckHeights_0 p0) (sp_ref05_CheckHeights_0 p0) (0 : Int)))]
set_option maxHeartbeats 4000000 in
theorem d_ref05_CheckHeights (p0 : (List (Int × Int))) (K : (Int × Int) → Prop) (hp : ∀ p ∈ pre_ref05_CheckHeights p0, p) (h : K (s_ref05_CheckHeights p0)) : w_ref05_CheckHeights p0 K := by
  unfold w_ref05_CheckHeights
  unfold s_ref05_CheckHeights at h
  obtain ⟨hp0, _⟩ := conj_of hp
  exact (br' h (fun e0 h => h)
    (fun e0 h => (loop_gen (hp0 e0) h (fun y1 k1 hp h => by
  unfold st_ref05_CheckHeights_0 at h; obtain ⟨hp0, hp1, _⟩ := conj_of hp
  exact (br' h (fun e2 h => ⟨(hp0 e2), ⟨(hp1 e2), (br' h (fun e3 h => h)
    (fun e3 h => h))⟩⟩)
    (fun e2 h => h))))))
theorem l_ref05_CheckHeights_0 (p0 : List (Int × Int)) (hl : lenOk p0) : OkL (st_ref05_CheckHeights_0 p0) (sp_ref05_CheckHeights_0 p0) 0 ∧ lpv ((0 : Int), (0 : Int)) (st_ref05_CheckHeights_0 p0) 0 = v_scan (fun i x => cond (s_gravity_rangeErr x 1000000 != 0) (some (i, s_gravity_rangeErr x 1000000)) none) ((0 : Int), (0 : Int)) 0 p0 := by
  refine scan_is p0 (0, 0) (fun i x => cond (s_gravity_rangeErr x 1000000 != 0) (some (i, s_gravity_rangeErr x 1000000)) none) ((0 : Int), (0 : Int)) hl ?_ ?_
  · refine ⟨by simp only [sp_ref05_CheckHeights_0, List.forall_mem_cons, decide_eq_true_eq]; simp, by simp [st_ref05_CheckHeights_0]⟩
  · intro j hj
    have hj' : (j : Int) < p0.length := by omega
    refine ⟨by simp only [sp_ref05_CheckHeights_0, List.forall_mem_cons, decide_eq_true_eq, Int.toNat_natCast]; simp <;> omega, ?_⟩
    simp only [st_ref05_CheckHeights_0, hj', decide_true, Int.toNat_natCast, cond_true, wrap_nat (show (j : Int) ≤ 9223372036854775806 by unfold lenOk at hl; omega)]
    generalize p0.getD j (0, 0) = x
    cases (s_gravity_rangeErr x 1000000 != 0) <;> rfl
abbrev t_ref05_CheckHeights (p0 : List (Int × Int)) : Int × Int := v_heights p0
abbrev qre_ref05_CheckHeights (_ : List (Int × Int)) : List Prop := []
theorem pp_ref05_CheckHeights (p0 : List (Int × Int)) (_ : ∀ p ∈ qre_ref05_CheckHeights p0, p) : ∀ p ∈ pre_ref05_CheckHeights p0, p := by
  simp only [pre_ref05_CheckHeights, List.forall_mem_cons]
  refine ⟨fun h => (l_ref05_CheckHeights_0 p0 (lenOk_le (n := 64) ?_ (by decide))).1, by simp⟩
  have := of_decide_eq_false h; omega
theorem tt_ref05_CheckHeights (p0 : List (Int × Int)) (_ : ∀ p ∈ qre_ref05_CheckHeights p0, p) : s_ref05_CheckHeights p0 = t_ref05_CheckHeights p0 := by
  unfold s_ref05_CheckHeights t_ref05_CheckHeights v_heights
  cases h : decide ((p0.length : Int) > 64)
  · have := of_decide_eq_false h
    exact (l_ref05_CheckHeights_0 p0 (lenOk_le (n := 64) (by omega) (by decide))).2
  · rfl

abbrev con_ref05_CheckHeights : Con := ⟨P_ref05_CheckHeights, R_ref05_CheckHeights, fun x => qre_ref05_CheckHeights x, fun x => t_ref05_CheckHeights x⟩
theorem ok_ref05_CheckHeights : ConOk Tryd.prog 32 con_ref05_CheckHeights := ⟨k_ref05_CheckHeights, fun x hx => ret_tf (ps := P_ref05_CheckHeights) (rs := R_ref05_CheckHeights) (x := x) (y := t_ref05_CheckHeights x) e_ref05_CheckHeights hC_ref05_CheckHeights (tf_of (w_ref05_CheckHeights_eq x (fun z => z = t_ref05_CheckHeights x)) (d_ref05_CheckHeights x (fun z => z = t_ref05_CheckHeights x) (pp_ref05_CheckHeights x hx) (tt_ref05_CheckHeights x hx)))⟩
/- ref05_HeightsErr -/
def C_ref05_HeightsErr : Cons := [(32, [], con_ref05_CheckHeights)]
theorem hC_ref05_HeightsErr : ConsOk Tryd.prog C_ref05_HeightsErr := ConsOk.cons ok_ref05_CheckHeights <| ConsOk.nil
def w_ref05_HeightsErr (p0 : (List (Int × Int))) (K : Int → Prop) : Prop :=
  (K (v_heights p0).2)
set_option maxHeartbeats 4000000 in
theorem w_ref05_HeightsErr_eq (p0 : (List (Int × Int))) (K : Int → Prop) : tfn F_ref05_HeightsErr A_ref05_HeightsErr C_ref05_HeightsErr P_ref05_HeightsErr R_ref05_HeightsErr p0 K = w_ref05_HeightsErr p0 K := by kernel_rfl
def s_ref05_HeightsErr (p0 : (List (Int × Int))) : Int :=
  (v_heights p0).2
abbrev pre_ref05_HeightsErr (p0 : (List (Int × Int))) : List Prop := []
set_option maxHeartbeats 4000000 in
theorem d_ref05_HeightsErr (p0 : (List (Int × Int))) (K : Int → Prop) (hp : ∀ p ∈ pre_ref05_HeightsErr p0, p) (h : K (s_ref05_HeightsErr p0)) : w_ref05_HeightsErr p0 K := by
  unfold w_ref05_HeightsErr
  unfold s_ref05_HeightsErr at h
  exact h
abbrev con_ref05_HeightsErr : Con := ⟨P_ref05_HeightsErr, R_ref05_HeightsErr, fun x => pre_ref05_HeightsErr x, fun x => s_ref05_HeightsErr x⟩
theorem ok_ref05_HeightsErr : ConOk Tryd.prog 38 con_ref05_HeightsErr := ⟨k_ref05_HeightsErr, fun x hx => ret_tf (ps := P_ref05_HeightsErr) (rs := R_ref05_HeightsErr) (x := x) (y := s_ref05_HeightsErr x) e_ref05_HeightsErr hC_ref05_HeightsErr (tf_of (w_ref05_HeightsErr_eq x (fun z => z = s_ref05_HeightsErr x)) (d_ref05_HeightsErr x (fun z => z = s_ref05_HeightsErr x) hx rfl))⟩
/- ref05_WithinErr -/
def C_ref05_WithinErr : Cons := [(60, [], con_base_Within)]
theorem hC_ref05_WithinErr : ConsOk Tryd.prog C_ref05_WithinErr := ConsOk.cons ok_base_Within <| ConsOk.nil
def w_ref05_WithinErr (p0 : Int) (p1 : Int) (K : Int → Prop) : Prop :=
  ((((!(s_base_Within p0 (0 : Int) p1)) = true) →
  (K (2 : Int))) ∧
  (((!(s_base_Within p0 (0 : Int) p1)) = false) →
  (K (0 : Int))))
set_option maxHeartbeats 4000000 in
theorem w_ref05_WithinErr_eq (p0 : Int) (p1 : Int) (K : Int → Prop) : tfn F_ref05_WithinErr A_ref05_WithinErr C_ref05_WithinErr P_ref05_WithinErr R_ref05_WithinErr (p0, p1) K = w_ref05_WithinErr p0 p1 K := by kernel_rfl
def s_ref05_WithinErr (p0 : Int) (p1 : Int) : Int :=
  (cond (!(s_base_Within p0 (0 : Int) p1)) (2 : Int)
    (0 : Int))
abbrev pre_ref05_WithinErr (p0 : Int) (p1 : Int) : List Prop := []
set_option maxHeartbeats 4000000 in
theorem d_ref05_WithinErr (p0 : Int) (p1 : Int) (K : Int → Prop) (hp : ∀ p ∈ pre_ref05_WithinErr p0 p1, p) (h : K (s_ref05_WithinErr p0 p1)) : w_ref05_WithinErr p0 p1 K := by
  unfold w_ref05_WithinErr
  unfold s_ref05_WithinErr at h
  exact (br' h (fun e0 h => h)
    (fun e0 h => h))
abbrev con_ref05_WithinErr : Con := ⟨P_ref05_WithinErr, R_ref05_WithinErr, fun x => pre_ref05_WithinErr x.1 x.2, fun x => s_ref05_WithinErr x.1 x.2⟩
theorem ok_ref05_WithinErr : ConOk Tryd.prog 63 con_ref05_WithinErr := ⟨k_ref05_WithinErr, fun x hx => ret_tf (ps := P_ref05_WithinErr) (rs := R_ref05_WithinErr) (x := x) (y := s_ref05_WithinErr x.1 x.2) e_ref05_WithinErr hC_ref05_WithinErr (tf_of (w_ref05_WithinErr_eq x.1 x.2 (fun z => z = s_ref05_WithinErr x.1 x.2)) (d_ref05_WithinErr x.1 x.2 (fun z => z = s_ref05_WithinErr x.1 x.2) hx rfl))⟩
/- ref05_Rough -/
def C_ref05_Rough : Cons := []
theorem hC_ref05_Rough : ConsOk Tryd.prog C_ref05_Rough := ConsOk.nil
def w_ref05_Rough (p0 : (List (Int × Int))) (p1 : Int) (K : (List Int) → Prop) : Prop :=
  (∃ n0, (loopP (fun (y1 : (Int × (List Int))) k2 =>
    ((((decide (y1.1 < (((List.length p0) : Nat) : Int))) = true) →
    (((0 : Int) ≤ y1.1) ∧
      ((y1.1 < (((List.length p0) : Nat) : Int)) ∧
      (((0 : Int) ≤ y1.1) ∧
      ((y1.1 < (((List.length p0) : Nat) : Int)) ∧
      ((((decide ((Go.IntKind.wrap .i64 ((List.getD p0 (Int.toNat y1.1) ((0 : Int), (0 : Int))).2 - (List.getD p0 (Int.toNat y1.1) ((0 : Int), (0 : Int))).1)) > p1)) = true) →
      (((((List.length y1.2) + (List.length (y1.1 :: ([] : List Int)))) * 8) ≤ 140737488355328) ∧
        (k2 ((Go.IntKind.wrap .i64 (y1.1 + (1 : Int))), (y1.2 ++ (y1.1 :: ([] : List Int))))))) ∧
      (((decide ((Go.IntKind.wrap .i64 ((List.getD p0 (Int.toNat y1.1) ((0 : Int), (0 : Int))).2 - (List.getD p0 (Int.toNat y1.1) ((0 : Int), (0 : Int))).1)) > p1)) = false) →
      (k2 ((Go.IntKind.wrap .i64 (y1.1 + (1 : Int))), y1.2))))))))) ∧
    (((decide (y1.1 < (((List.length p0) : Nat) : Int))) = false) →
    (K y1.2)))) n0 ((0 : Int), ([] : List Int))))
set_option maxHeartbeats 4000000 in
theorem w_ref05_Rough_eq (p0 : (List (Int × Int))) (p1 : Int) (K : (List Int) → Prop) : tfn F_ref05_Rough A_ref05_Rough C_ref05_Rough P_ref05_Rough R_ref05_Rough (p0, p1) K = w_ref05_Rough p0 p1 K := by kernel_rfl
def st_ref05_Rough_0 (p0 : (List (Int × Int))) (p1 : Int) (y0 : (Int × (List Int))) : (Int × (List Int)) ⊕ (List Int) :=
  (cond (decide (y0.1 < (((List.length p0) : Nat) : Int))) (cond (decide ((Go.IntKind.wrap .i64 ((List.getD p0 (Int.toNat y0.1) ((0 : Int), (0 : Int))).2 - (List.getD p0 (Int.toNat y0.1) ((0 : Int), (0 : Int))).1)) > p1)) (Sum.inl ((Go.IntKind.wrap .i64 (y0.1 + (1 : Int))), (y0.2 ++ (y0.1 :: ([] : List Int)))))
    (Sum.inl ((Go.IntKind.wrap .i64 (y0.1 + (1 : Int))), y0.2)))
    (Sum.inr y0.2))
abbrev sp_ref05_Rough_0 (p0 : (List (Int × Int))) (p1 : Int) (y0 : (Int × (List Int))) : List Prop := [(((decide (y0.1 < (((List.length p0) : Nat) : Int))) = true) → ((0 : Int) ≤ y0.1)),
    (((decide (y0.1 < (((List.length p0) : Nat) : Int))) = true) → (y0.1 < (((List.length p0) : Nat) : Int))),
    (((decide (y0.1 < (((List.length p0) : Nat) : Int))) = true) → (((decide ((Go.IntKind.wrap .i64 ((List.getD p0 (Int.toNat y0.1) ((0 : Int), (0 : Int))).2 - (List.getD p0 (Int.toNat y0.1) ((0 : Int), (0 : Int))).1)) > p1)) = true) → ((((List.length y0.2) + (List.length (y0.1 :: ([] : List Int)))) * 8) ≤ 140737488355328)))]
def s_ref05_Rough (p0 : (List (Int × Int))) (p1 : Int) : (List Int) :=
  (lpv [] (st_ref05_Rough_0 p0 p1) ((0 : Int), ([] : List Int)))
abbrev pre_ref05_Rough (p0 : (List (Int × Int))) (p1 : Int) : List Prop := [(OkL (st_ref05_Rough_0 p0 p1) (sp_ref05_Rough_0 p0 p1) ((0 : Int), ([] : List Int)))]
set_option maxHeartbeats 4000000 in
theorem d_ref05_Rough (p0 : (List (Int × Int))) (p1 : Int) (K : (List Int) → Prop) (hp : ∀ p ∈ pre_ref05_Rough p0 p1, p) (h : K (s_ref05_Rough p0 p1)) : w_ref05_Rough p0 p1 K := by
  unfold w_ref05_Rough
  unfold s_ref05_Rough at h
  obtain ⟨hp0, _⟩ := conj_of hp
  exact (loop_gen (hp0) h (fun y0 k0 hp h => by
  unfold st_ref05_Rough_0 at h; obtain ⟨hp0, hp1, hp2, _⟩ := conj_of hp
  exact (br' h (fun e1 h => ⟨(hp0 e1), ⟨(hp1 e1), ⟨(hp0 e1), ⟨(hp1 e1), (br' h (fun e2 h => ⟨(hp2 e1 e2), h⟩)
    (fun e2 h => h))⟩⟩⟩⟩)
    (fun e1 h => h))))
theorem l_ref05_Rough (p0 : List (Int × Int)) (p1 : Int) (h : p0.length ≤ 1000000) : OkL (st_ref05_Rough_0 p0 p1) (sp_ref05_Rough_0 p0 p1) (0, []) ∧ s_ref05_Rough p0 p1 = v_rough p1 0 p0 := by
  have := list_is (dd := ([] : List Int)) (st := st_ref05_Rough_0 p0 p1) (sp := sp_ref05_Rough_0 p0 p1) (fun i (t : List Int) => (i, t)) p0 (0, 0) (fun r t => r.length ≤ p0.length ∧ t.length + r.length ≤ p0.length) (fun r t => t ++ v_rough p1 ((p0.length : Int) - r.length) r) (by unfold lenOk; omega) ?_ ?_ [] ⟨Nat.le_refl _, by simp⟩
  · refine ⟨this.1, this.2.trans ?_⟩
    simp
  · intro t _
    refine ⟨by simp only [sp_ref05_Rough_0, List.forall_mem_cons, decide_eq_true_eq]; simp, by simp [st_ref05_Rough_0, v_rough]⟩
  · intro j t hj ⟨_, hi⟩
    have hj' : (j : Int) < p0.length := by omega
    have e1 : (p0.getD j (0, 0) :: p0.drop (j + 1)).length = p0.length - j := by simp; omega
    have e2 : (p0.drop (j + 1)).length = p0.length - (j + 1) := by simp
    have e5 : (p0.length : Int) - ((p0.length - j : Nat) : Int) = j := by omega
    have e6 : (p0.length : Int) - ((p0.length - (j + 1) : Nat) : Int) = (j : Int) + 1 := by omega
    rw [e1] at hi
    refine ⟨by simp only [sp_ref05_Rough_0, List.forall_mem_cons, decide_eq_true_eq]; simp <;> omega, .inl ?_⟩
    simp only [st_ref05_Rough_0, hj', decide_true, Int.toNat_natCast, cond_true, wrap_nat (show (j : Int) ≤ 9223372036854775806 by omega)]
    rw [e1, e2, e5, e6, v_rough_cons]
    cases decide (IntKind.i64.wrap ((p0.getD j (0, 0)).2 - (p0.getD j (0, 0)).1) > p1)
    · exact ⟨t, rfl, ⟨by omega, by omega⟩, rfl⟩
    · exact ⟨t ++ [(j : Int)], rfl, ⟨by omega, by simp; omega⟩, by simp⟩
abbrev t_ref05_Rough (p0 : List (Int × Int)) (p1 : Int) : List Int := v_rough p1 0 p0
abbrev qre_ref05_Rough (p0 : List (Int × Int)) (_ : Int) : List Prop := [p0.length ≤ 1000000]
theorem pp_ref05_Rough (p0 : List (Int × Int)) (p1 : Int) (hq : ∀ p ∈ qre_ref05_Rough p0 p1, p) : ∀ p ∈ pre_ref05_Rough p0 p1, p := by
  simp only [pre_ref05_Rough, List.forall_mem_cons]
  exact ⟨(l_ref05_Rough p0 p1 (conj_of hq).1).1, by simp⟩
theorem tt_ref05_Rough (p0 : List (Int × Int)) (p1 : Int) (hq : ∀ p ∈ qre_ref05_Rough p0 p1, p) : s_ref05_Rough p0 p1 = t_ref05_Rough p0 p1 := (l_ref05_Rough p0 p1 (conj_of hq).1).2

abbrev con_ref05_Rough : Con := ⟨P_ref05_Rough, R_ref05_Rough, fun x => qre_ref05_Rough x.1 x.2, fun x => t_ref05_Rough x.1 x.2⟩
theorem ok_ref05_Rough : ConOk Tryd.prog 71 con_ref05_Rough := ⟨k_ref05_Rough, fun x hx => ret_tf (ps := P_ref05_Rough) (rs := R_ref05_Rough) (x := x) (y := t_ref05_Rough x.1 x.2) e_ref05_Rough hC_ref05_Rough (tf_of (w_ref05_Rough_eq x.1 x.2 (fun z => z = t_ref05_Rough x.1 x.2)) (d_ref05_Rough x.1 x.2 (fun z => z = t_ref05_Rough x.1 x.2) (pp_ref05_Rough x.1 x.2 hx) (tt_ref05_Rough x.1 x.2 hx)))⟩
/- base_Has -/
def C_base_Has : Cons := []
theorem hC_base_Has : ConsOk Tryd.prog C_base_Has := ConsOk.nil
def w_base_Has (p0 : (List Int)) (p1 : Int) (K : Bool → Prop) : Prop :=
  (∃ n0, (loopP (fun (y1 : Int) k2 =>
    ((((decide (y1 < (((List.length p0) : Nat) : Int))) = true) →
    (((0 : Int) ≤ y1) ∧
      ((y1 < (((List.length p0) : Nat) : Int)) ∧
      (((((List.getD p0 (Int.toNat y1) (0 : Int)) == p1) = true) →
      (K true)) ∧
      ((((List.getD p0 (Int.toNat y1) (0 : Int)) == p1) = false) →
      (k2 (Go.IntKind.wrap .i64 (y1 + (1 : Int))))))))) ∧
    (((decide (y1 < (((List.length p0) : Nat) : Int))) = false) →
    (K false)))) n0 (0 : Int)))
set_option maxHeartbeats 4000000 in
theorem w_base_Has_eq (p0 : (List Int)) (p1 : Int) (K : Bool → Prop) : tfn F_base_Has A_base_Has C_base_Has P_base_Has R_base_Has (p0, p1) K = w_base_Has p0 p1 K := by kernel_rfl
def st_base_Has_0 (p0 : (List Int)) (p1 : Int) (y0 : Int) : Int ⊕ Bool :=
  (cond (decide (y0 < (((List.length p0) : Nat) : Int))) (cond ((List.getD p0 (Int.toNat y0) (0 : Int)) == p1) (Sum.inr true)
    (Sum.inl (Go.IntKind.wrap .i64 (y0 + (1 : Int)))))
    (Sum.inr false))
abbrev sp_base_Has_0 (p0 : (List Int)) (p1 : Int) (y0 : Int) : List Prop := [(((decide (y0 < (((List.length p0) : Nat) : Int))) = true) → ((0 : Int) ≤ y0)),
    (((decide (y0 < (((List.length p0) : Nat) : Int))) = true) → (y0 < (((List.length p0) : Nat) : Int)))]
def s_base_Has (p0 : (List Int)) (p1 : Int) : Bool :=
  (lpv false (st_base_Has_0 p0 p1) (0 : Int))
abbrev pre_base_Has (p0 : (List Int)) (p1 : Int) : List Prop := [(OkL (st_base_Has_0 p0 p1) (sp_base_Has_0 p0 p1) (0 : Int))]
set_option maxHeartbeats 4000000 in
theorem d_base_Has (p0 : (List Int)) (p1 : Int) (K : Bool → Prop) (hp : ∀ p ∈ pre_base_Has p0 p1, p) (h : K (s_base_Has p0 p1)) : w_base_Has p0 p1 K := by
  unfold w_base_Has
  unfold s_base_Has at h
  obtain ⟨hp0, _⟩ := conj_of hp
  exact (loop_gen (hp0) h (fun y0 k0 hp h => by
  unfold st_base_Has_0 at h; obtain ⟨hp0, hp1, _⟩ := conj_of hp
  exact (br' h (fun e1 h => ⟨(hp0 e1), ⟨(hp1 e1), (br' h (fun e2 h => h)
    (fun e2 h => h))⟩⟩)
    (fun e1 h => h))))
theorem l_base_Has_0 (p0 : List Int) (p1 : Int) (hl : lenOk p0) : OkL (st_base_Has_0 p0 p1) (sp_base_Has_0 p0 p1) 0 ∧ lpv false (st_base_Has_0 p0 p1) 0 = v_scan (fun _ x => cond (x == p1) (some true) none) false 0 p0 := by
  refine scan_is p0 0 (fun _ x => cond (x == p1) (some true) none) false hl ?_ ?_
  · refine ⟨by simp only [sp_base_Has_0, List.forall_mem_cons, decide_eq_true_eq]; simp, by simp [st_base_Has_0]⟩
  · intro j hj
    have hj' : (j : Int) < p0.length := by omega
    refine ⟨by simp only [sp_base_Has_0, List.forall_mem_cons, decide_eq_true_eq, Int.toNat_natCast]; simp <;> omega, ?_⟩
    simp only [st_base_Has_0, hj', decide_true, Int.toNat_natCast, cond_true, wrap_nat (show (j : Int) ≤ 9223372036854775806 by unfold lenOk at hl; omega)]
    generalize p0.getD j 0 = x
    cases (x == p1) <;> rfl
def v_has (p0 : List Int) (p1 : Int) : Bool := decide (p1 ∈ p0)
abbrev t_base_Has (p0 : List Int) (p1 : Int) : Bool := v_has p0 p1
abbrev qre_base_Has (p0 : List Int) (p1 : Int) : List Prop := [lenOk p0]
theorem pp_base_Has (p0 : List Int) (p1 : Int) (hq : ∀ p ∈ qre_base_Has p0 p1, p) : ∀ p ∈ pre_base_Has p0 p1, p := by
  simp only [pre_base_Has, List.forall_mem_cons]
  exact ⟨(l_base_Has_0 p0 p1 (conj_of hq).1).1, by simp⟩
theorem tt_base_Has (p0 : List Int) (p1 : Int) (hq : ∀ p ∈ qre_base_Has p0 p1, p) : s_base_Has p0 p1 = t_base_Has p0 p1 := by
  refine (l_base_Has_0 p0 p1 (conj_of hq).1).2.trans ?_
  rw [v_scan_any]
  show _ = decide (p1 ∈ p0)
  by_cases h : p1 ∈ p0
  · rw [decide_eq_true h, show p0.any (fun x => x == p1) = true from List.any_eq_true.2 ⟨p1, h, by simp⟩]; rfl
  · rw [decide_eq_false h, show p0.any (fun x => x == p1) = false from List.any_eq_false.2 (fun x hx e => h (by rw [← (by simpa using e : x = p1)]; exact hx))]; rfl

abbrev con_base_Has : Con := ⟨P_base_Has, R_base_Has, fun x => qre_base_Has x.1 x.2, fun x => t_base_Has x.1 x.2⟩
theorem ok_base_Has : ConOk Tryd.prog 72 con_base_Has := ⟨k_base_Has, fun x hx => ret_tf (ps := P_base_Has) (rs := R_base_Has) (x := x) (y := t_base_Has x.1 x.2) e_base_Has hC_base_Has (tf_of (w_base_Has_eq x.1 x.2 (fun z => z = t_base_Has x.1 x.2)) (d_base_Has x.1 x.2 (fun z => z = t_base_Has x.1 x.2) (pp_base_Has x.1 x.2 hx) (tt_base_Has x.1 x.2 hx)))⟩
/- ref05_Calm -/
def C_ref05_Calm : Cons := [(71, [], con_ref05_Rough), (72, [], con_base_Has)]
theorem hC_ref05_Calm : ConsOk Tryd.prog C_ref05_Calm := ConsOk.cons ok_ref05_Rough <| ConsOk.cons ok_base_Has <| ConsOk.nil
def w_ref05_Calm (p0 : (List (Int × Int))) (p1 : Int) (K : ((Int × Int) × Bool) → Prop) : Prop :=
  (((List.length p0) ≤ 1000000) ∧
  (∃ n0, (loopP (fun (y1 : (Int × (Bool × (Int × Int)))) k2 =>
    ((((decide (y1.1 < (((List.length p0) : Nat) : Int))) = true) →
    (∃ n3, (loopP (fun (y4 : (Int × (Bool × (Int × Int)))) k5 =>
        ((((decide (y4.1 < (((List.length p0) : Nat) : Int))) = true) →
        ((decide (y4.1 < (((List.length p0) : Nat) : Int))) = (decide (y4.1 < (((List.length p0) : Nat) : Int))))) ∧
        ((((decide (y4.1 < (((List.length p0) : Nat) : Int))) = true) →
        ((decide (y4.1 < (((List.length p0) : Nat) : Int))) = (decide (y4.1 < (((List.length p0) : Nat) : Int))))) ∧
        ((((decide (y4.1 < (((List.length p0) : Nat) : Int))) = true) →
        (lenOk (v_rough p1 (0 : Int) p0))) ∧
        ((((decide (y4.1 < (((List.length p0) : Nat) : Int))) = true) →
        ((decide (y4.1 < (((List.length p0) : Nat) : Int))) = (decide (y4.1 < (((List.length p0) : Nat) : Int))))) ∧
        (((decide (y4.1 < (((List.length p0) : Nat) : Int))) = (decide (y4.1 < (((List.length p0) : Nat) : Int)))) ∧
        ((((cond (decide (y4.1 < (((List.length p0) : Nat) : Int))) (!(v_has (v_rough p1 (0 : Int) p0) y4.1)) false) = true) →
        ((((!y4.2.1) = false) →
          ((!y4.2.1) = (!y4.2.1))) ∧
          ((((!y4.2.1) = false) →
          ((!y4.2.1) = (!y4.2.1))) ∧
          ((((!y4.2.1) = false) →
          ((!y4.2.1) = (!y4.2.1))) ∧
          ((((!y4.2.1) = false) →
          ((!y4.2.1) = (!y4.2.1))) ∧
          ((((!y4.2.1) = false) →
          ((!y4.2.1) = (!y4.2.1))) ∧
          ((((!y4.2.1) = false) →
          ((!y4.2.1) = (!y4.2.1))) ∧
          ((((!y4.2.1) = false) →
          ((!y4.2.1) = (!y4.2.1))) ∧
          ((((!y4.2.1) = false) →
          ((!y4.2.1) = (!y4.2.1))) ∧
          (((!y4.2.1) = (!y4.2.1)) ∧
          ((((cond (!y4.2.1) true (decide ((Go.IntKind.wrap .i64 (y4.1 - y1.1)) > (Go.IntKind.wrap .i64 (y4.2.2.2 - y4.2.2.1))))) = true) →
          (k5 ((Go.IntKind.wrap .i64 (y4.1 + (1 : Int))), (true, (y1.1, y4.1))))) ∧
          (((cond (!y4.2.1) true (decide ((Go.IntKind.wrap .i64 (y4.1 - y1.1)) > (Go.IntKind.wrap .i64 (y4.2.2.2 - y4.2.2.1))))) = false) →
          (k5 ((Go.IntKind.wrap .i64 (y4.1 + (1 : Int))), y4.2)))))))))))))) ∧
        (((cond (decide (y4.1 < (((List.length p0) : Nat) : Int))) (!(v_has (v_rough p1 (0 : Int) p0) y4.1)) false) = false) →
        (k2 ((Go.IntKind.wrap .i64 (y1.1 + (1 : Int))), y4.2)))))))))) n3 y1))) ∧
    (((decide (y1.1 < (((List.length p0) : Nat) : Int))) = false) →
    (K (y1.2.2, y1.2.1))))) n0 ((0 : Int), (false, ((0 : Int), (0 : Int)))))))
set_option maxHeartbeats 4000000 in
theorem w_ref05_Calm_eq (p0 : (List (Int × Int))) (p1 : Int) (K : ((Int × Int) × Bool) → Prop) : tfn F_ref05_Calm A_ref05_Calm C_ref05_Calm P_ref05_Calm R_ref05_Calm (p0, p1) K = w_ref05_Calm p0 p1 K := by kernel_rfl
def st_ref05_Calm_0 (p0 : (List (Int × Int))) (p1 : Int) (y0 : (Int × (Bool × (Int × Int)))) (y2 : (Int × (Bool × (Int × Int)))) : (Int × (Bool × (Int × Int))) ⊕ ((Int × (Bool × (Int × Int))) ⊕ ((Int × Int) × Bool)) :=
  (cond (cond (decide (y2.1 < (((List.length p0) : Nat) : Int))) (!(v_has (v_rough p1 (0 : Int) p0) y2.1)) false) (cond (cond (!y2.2.1) true (decide ((Go.IntKind.wrap .i64 (y2.1 - y0.1)) > (Go.IntKind.wrap .i64 (y2.2.2.2 - y2.2.2.1))))) (Sum.inl ((Go.IntKind.wrap .i64 (y2.1 + (1 : Int))), (true, (y0.1, y2.1))))
    (Sum.inl ((Go.IntKind.wrap .i64 (y2.1 + (1 : Int))), y2.2)))
    (Sum.inr (Sum.inl ((Go.IntKind.wrap .i64 (y0.1 + (1 : Int))), y2.2))))
abbrev sp_ref05_Calm_0 (p0 : (List (Int × Int))) (p1 : Int) (y0 : (Int × (Bool × (Int × Int)))) (y2 : (Int × (Bool × (Int × Int)))) : List Prop := [(((decide (y2.1 < (((List.length p0) : Nat) : Int))) = true) → (lenOk (v_rough p1 (0 : Int) p0)))]
def st_ref05_Calm_1 (p0 : (List (Int × Int))) (p1 : Int) (y0 : (Int × (Bool × (Int × Int)))) : (Int × (Bool × (Int × Int))) ⊕ ((Int × Int) × Bool) :=
  (cond (decide (y0.1 < (((List.length p0) : Nat) : Int))) (lpv (Sum.inr (((0 : Int), (0 : Int)), false)) (st_ref05_Calm_0 p0 p1 y0) y0)
    (Sum.inr (y0.2.2, y0.2.1)))
abbrev sp_ref05_Calm_1 (p0 : (List (Int × Int))) (p1 : Int) (y0 : (Int × (Bool × (Int × Int)))) : List Prop := [(((decide (y0.1 < (((List.length p0) : Nat) : Int))) = true) → (OkL (st_ref05_Calm_0 p0 p1 y0) (sp_ref05_Calm_0 p0 p1 y0) y0))]
def s_ref05_Calm (p0 : (List (Int × Int))) (p1 : Int) : ((Int × Int) × Bool) :=
  (lpv (((0 : Int), (0 : Int)), false) (st_ref05_Calm_1 p0 p1) ((0 : Int), (false, ((0 : Int), (0 : Int)))))
abbrev pre_ref05_Calm (p0 : (List (Int × Int))) (p1 : Int) : List Prop := [((List.length p0) ≤ 1000000),
    (OkL (st_ref05_Calm_1 p0 p1) (sp_ref05_Calm_1 p0 p1) ((0 : Int), (false, ((0 : Int), (0 : Int)))))]
set_option maxHeartbeats 4000000 in
theorem d_ref05_Calm (p0 : (List (Int × Int))) (p1 : Int) (K : ((Int × Int) × Bool) → Prop) (hp : ∀ p ∈ pre_ref05_Calm p0 p1, p) (h : K (s_ref05_Calm p0 p1)) : w_ref05_Calm p0 p1 K := by
  unfold w_ref05_Calm
  unfold s_ref05_Calm at h
  obtain ⟨hp0, hp1, _⟩ := conj_of hp
  exact ⟨(hp0), (loop_gen (hp1) h (fun y0 k0 hp h => by
  unfold st_ref05_Calm_1 at h; obtain ⟨hp0, _⟩ := conj_of hp
  exact (br' h (fun e1 h => (loop_gen (hp0 e1) h (fun y2 k2 hp h => by
  unfold st_ref05_Calm_0 at h; obtain ⟨hp0, _⟩ := conj_of hp
  exact ⟨(fun _ => rfl), ⟨(fun _ => rfl), ⟨(hp0), ⟨(fun _ => rfl), ⟨rfl, (br' h (fun e3 h => ⟨(fun _ => rfl), ⟨(fun _ => rfl), ⟨(fun _ => rfl), ⟨(fun _ => rfl), ⟨(fun _ => rfl), ⟨(fun _ => rfl), ⟨(fun _ => rfl), ⟨(fun _ => rfl), ⟨rfl, (br' h (fun e4 h => h)
    (fun e4 h => h))⟩⟩⟩⟩⟩⟩⟩⟩⟩)
    (fun e3 h => h))⟩⟩⟩⟩⟩)))
    (fun e1 h => h))))⟩
theorem v_upd_step (s : Bool × Int × Int) (a b : Int) (h : a ≤ b) : cond (cond (!(v_upd s a b).1) true (decide (b - a > (v_upd s a b).2.2 - (v_upd s a b).2.1))) (true, (a, b)) (v_upd s a b) = v_upd s a (b + 1) := by
  obtain ⟨f, lo, hi⟩ := s
  unfold v_upd
  simp only
  cases f
  · by_cases hb : a < b
    · rw [if_pos ⟨hb, .inl rfl⟩, if_pos ⟨by omega, .inl rfl⟩]
      simp only [Bool.not_true, cond_false]
      rw [decide_eq_true (by omega)]
      simp only [cond_true, show b + 1 - 1 = b by omega]
    · rw [if_neg (fun h => hb h.1), if_pos ⟨by omega, .inl rfl⟩]
      simp only [Bool.not_false, cond_true, show b + 1 - 1 = b by omega]
  · by_cases hc : a < b ∧ b - 1 - a > hi - lo
    · rw [if_pos ⟨hc.1, .inr hc.2⟩, if_pos ⟨by omega, .inr (by omega)⟩]
      simp only [Bool.not_true, cond_false]
      rw [decide_eq_true (by omega)]
      simp only [cond_true, show b + 1 - 1 = b by omega]
    · rw [if_neg (fun h => hc ⟨h.1, h.2.resolve_left (by simp)⟩)]
      simp only [Bool.not_true, cond_false]
      by_cases hd : b - a > hi - lo
      · rw [if_pos ⟨by omega, .inr (by omega)⟩, decide_eq_true hd]
        simp only [cond_true, show b + 1 - 1 = b by omega]
      · rw [if_neg (fun h => by have := h.2.resolve_left (by simp); omega), decide_eq_false hd]
        rfl
theorem v_upd_same (s : Bool × Int × Int) (a : Int) : v_upd s a a = s := if_neg fun h => by omega
theorem v_upd_idem (s : Bool × Int × Int) (b a e : Int) (h : b ≤ a) : v_upd (v_upd s b e) a e = v_upd s b e := by
  obtain ⟨f, lo, hi⟩ := s
  unfold v_upd
  simp only
  by_cases hc : b < e ∧ (f = false ∨ e - 1 - b > hi - lo)
  · rw [if_pos hc]
    exact if_neg fun ⟨_, h2⟩ => by
      rcases h2 with h2 | h2
      · cases h2
      · simp only at h2; omega
  · rw [if_neg hc]
    exact if_neg fun ⟨h1, h2⟩ => hc ⟨by omega, h2.imp id (fun h => by simp only at h; omega)⟩
def v_bnd (n : Int) (s : Bool × Int × Int) : Prop := (0 ≤ s.2.1 ∧ s.2.1 ≤ n) ∧ (0 ≤ s.2.2 ∧ s.2.2 ≤ n)
theorem v_bnd_upd {n b e : Int} {s : Bool × Int × Int} (h : v_bnd n s) (hb : 0 ≤ b) (he : e ≤ n) : v_bnd n (v_upd s b e) := by
  unfold v_upd
  split
  · exact ⟨⟨hb, by simp only; omega⟩, by simp only; omega, by simp only; omega⟩
  · exact h
theorem l_ref05_Calm_0 (p0 : List (Int × Int)) (p1 : Int) (h : p0.length ≤ 1000000) (a e : Nat) (s : Bool × Int × Int) (hs : v_bnd p0.length s) (ha : a ≤ e) (he : e ≤ p0.length) (h1 : ∀ x : Int, a ≤ x → x < e → x ∉ v_rough p1 0 p0) (h2 : (e : Int) ∈ v_rough p1 0 p0 ∨ e = p0.length) :
    OkL (st_ref05_Calm_0 p0 p1 ((a : Int), s)) (sp_ref05_Calm_0 p0 p1 ((a : Int), s)) ((a : Int), s) ∧ lpv (Sum.inr ((0, 0), false)) (st_ref05_Calm_0 p0 p1 ((a : Int), s)) ((a : Int), s) = Sum.inl (((a + 1 : Nat) : Int), v_upd s a e) := by
  have hr : lenOk (v_rough p1 0 p0) := lenOk_le (n := 1000000) (by have := v_rough_len p1 p0 0; omega) (by decide)
  refine for_is (dd := Sum.inr ((0, 0), false)) (st := st_ref05_Calm_0 p0 p1 ((a : Int), s)) (sp := sp_ref05_Calm_0 p0 p1 ((a : Int), s)) (fun i t => (i, t)) a e (fun j t => t = v_upd s a j ∧ v_bnd p0.length t) (fun _ _ => Sum.inl (((a + 1 : Nat) : Int), v_upd s a e)) ha (by omega) ?_ ?_ s ⟨(v_upd_same s a).symm, hs⟩
  · rintro t ⟨rfl, _⟩
    refine ⟨by simp only [sp_ref05_Calm_0, List.forall_mem_cons]; exact ⟨fun _ => hr, by simp⟩, ?_⟩
    simp only [st_ref05_Calm_0]
    have : (cond (decide ((e : Int) < (p0.length : Nat))) (!(v_has (v_rough p1 0 p0) e)) false) = false := by
      rcases h2 with h2 | h2
      · have : v_has (v_rough p1 0 p0) e = true := by simpa [v_has] using h2
        rw [this]; cases decide ((e : Int) < (p0.length : Nat)) <;> rfl
      · rw [decide_eq_false (by omega)]; rfl
    rw [this, wrap_nat (show (a : Int) ≤ 9223372036854775806 by omega)]
    rfl
  · rintro j t hj1 hj2 ⟨rfl, hb⟩
    refine ⟨by simp only [sp_ref05_Calm_0, List.forall_mem_cons]; exact ⟨fun _ => hr, by simp⟩, .inl ⟨v_upd s a ((j + 1 : Nat) : Int), ?_, ⟨rfl, v_bnd_upd hs (by omega) (by omega)⟩, rfl⟩⟩
    simp only [st_ref05_Calm_0]
    have : (cond (decide ((j : Int) < (p0.length : Nat))) (!(v_has (v_rough p1 0 p0) j)) false) = true := by
      have : v_has (v_rough p1 0 p0) j = false := by simpa [v_has] using h1 j (by omega) (by omega)
      rw [this, decide_eq_true (by omega)]; rfl
    have hst := v_upd_step s a j (by omega)
    obtain ⟨⟨b1, b2⟩, b3, b4⟩ := hb
    rw [this, wrap_nat (show (j : Int) ≤ 9223372036854775806 by omega), wrap_id (show -9223372036854775808 ≤ (j : Int) - a by omega) (by omega), wrap_id (show -9223372036854775808 ≤ (v_upd s a j).2.2 - (v_upd s a j).2.1 by omega) (by omega)]
    rw [show ((j + 1 : Nat) : Int) = (j : Int) + 1 by omega, ← hst]
    cases cond (!(v_upd s a j).1) true (decide ((j : Int) - a > (v_upd s a j).2.2 - (v_upd s a j).2.1)) <;> rfl
theorem l_ref05_Calm (p0 : List (Int × Int)) (p1 : Int) (h : p0.length ≤ 1000000) : OkL (st_ref05_Calm_1 p0 p1) (sp_ref05_Calm_1 p0 p1) (0, (false, (0, 0))) ∧ lpv ((0, 0), false) (st_ref05_Calm_1 p0 p1) (0, (false, (0, 0))) = ((v_calm2 (v_rough p1 0 p0 ++ [(p0.length : Int)]) 0 (false, 0, 0)).2, (v_calm2 (v_rough p1 0 p0 ++ [(p0.length : Int)]) 0 (false, 0, 0)).1) := by
  have hE := v_ends_of (v_rough p1 0 p0) p1 p0.length p0 0 0 (by omega) (Int.le_refl _) (fun x h1 h2 => by omega) (fun x _ => Iff.rfl)
  generalize hZ : v_calm2 (v_rough p1 0 p0 ++ [(p0.length : Int)]) 0 (false, 0, 0) = Z
  refine for_is (dd := ((0, 0), false)) (st := st_ref05_Calm_1 p0 p1) (sp := sp_ref05_Calm_1 p0 p1) (fun i t => (i, t)) 0 p0.length
    (fun j t => ∃ e r b s0, 0 ≤ b ∧ b ≤ (j : Int) ∧ (j : Int) ≤ e ∧ v_ends (v_rough p1 0 p0) p0.length b (e :: r) ∧ v_bnd p0.length s0 ∧ ((b = (j : Int) ∧ t = s0) ∨ (b < (j : Int) ∧ t = v_upd s0 b e)) ∧ v_calm2 (e :: r) b s0 = Z)
    (fun _ _ => (Z.2, Z.1)) (Nat.zero_le _) (by omega) ?_ ?_ (false, 0, 0) ?_
  · rintro t ⟨e, r, b, s0, hb0, hb, hj, hv, hbd, ht, hz⟩
    refine ⟨by simp only [sp_ref05_Calm_1, List.forall_mem_cons]; simp, ?_⟩
    simp only [st_ref05_Calm_1]
    rw [decide_eq_false (by omega)]
    obtain ⟨g1, g2, g3, g4, g5, g6⟩ := hv
    have he : e = p0.length := by omega
    have hr : r = [] := by
      cases r with
      | nil => rfl
      | cons x y => have := g6.1; have := g6.2.1; omega
    subst hr
    have ht2 : t = v_upd s0 b e := by
      rcases ht with ⟨q1, q2⟩ | ⟨q1, q2⟩
      · rw [q2, q1, he]; exact (v_upd_same _ _).symm
      · exact q2
    have : t = Z := ht2.trans hz
    rw [this]; rfl
  · rintro j t _ hj2 ⟨e, r, b, s0, hb0, hb, hj, hv, hbd, ht, hz⟩
    have hv0 := hv
    obtain ⟨g1, g2, g3, g4, g5, g6⟩ := hv
    have hbt : v_bnd p0.length t := by
      rcases ht with ⟨q1, q2⟩ | ⟨q1, q2⟩
      · rw [q2]; exact hbd
      · rw [q2]; exact v_bnd_upd hbd hb0 g2
    have hen : ((e.toNat : Nat) : Int) = e := by omega
    have hin := l_ref05_Calm_0 p0 p1 h j e.toNat t hbt (by omega) (by omega) (fun x h1 h2 => g3 x (by omega) (by omega)) (by
      rw [hen]
      rcases g4 with g4 | g4
      · exact .inl g4
      · exact .inr (by have := g5 g4; omega))
    rw [hen] at hin
    refine ⟨by simp only [sp_ref05_Calm_1, List.forall_mem_cons]; exact ⟨fun _ => hin.1, by simp⟩, .inl ⟨v_upd t j e, ?_, ?_, rfl⟩⟩
    · simp only [st_ref05_Calm_1]
      rw [decide_eq_true (by omega)]
      exact hin.2
    · by_cases hje : (j : Int) = e
      · have ht2 : v_upd t j e = v_upd s0 b e := by
          rw [hje, v_upd_same]
          rcases ht with ⟨q1, q2⟩ | ⟨q1, q2⟩
          · rw [q2, q1, hje, v_upd_same]
          · exact q2
        cases r with
        | nil => have := g5 rfl; omega
        | cons e2 r2 =>
          refine ⟨e2, r2, e + 1, v_upd s0 b e, by omega, by omega, ?_, g6, v_bnd_upd hbd hb0 g2, .inl ⟨by omega, ht2⟩, hz⟩
          have := g6.1; omega
      · refine ⟨e, r, b, s0, hb0, by omega, by omega, hv0, hbd, .inr ⟨by omega, ?_⟩, hz⟩
        rcases ht with ⟨q1, q2⟩ | ⟨q1, q2⟩
        · rw [q2, q1]
        · rw [q2]; exact v_upd_idem _ _ _ _ hb
  · revert hE hZ
    generalize v_rough p1 0 p0 ++ [(p0.length : Int)] = E
    intro hE hZ
    cases E with
    | nil => have : (0 : Int) = p0.length + 1 := hE; omega
    | cons e r => exact ⟨e, r, 0, (false, 0, 0), by omega, by omega, hE.1, hE, ⟨by simp only; omega, by simp only; omega⟩, .inl ⟨rfl, rfl⟩, hZ⟩
abbrev t_ref05_Calm (p0 : List (Int × Int)) (p1 : Int) : (Int × Int) × Bool := ((v_calmE p0 p1).2, (v_calmE p0 p1).1)
abbrev qre_ref05_Calm (p0 : List (Int × Int)) (_ : Int) : List Prop := [p0.length ≤ 1000000]
theorem pp_ref05_Calm (p0 : List (Int × Int)) (p1 : Int) (hq : ∀ p ∈ qre_ref05_Calm p0 p1, p) : ∀ p ∈ pre_ref05_Calm p0 p1, p := by
  have h := (conj_of hq).1
  simp only [pre_ref05_Calm, List.forall_mem_cons]
  exact ⟨h, (l_ref05_Calm p0 p1 h).1, by simp⟩
theorem tt_ref05_Calm (p0 : List (Int × Int)) (p1 : Int) (hq : ∀ p ∈ qre_ref05_Calm p0 p1, p) : s_ref05_Calm p0 p1 = t_ref05_Calm p0 p1 := (l_ref05_Calm p0 p1 (conj_of hq).1).2

abbrev con_ref05_Calm : Con := ⟨P_ref05_Calm, R_ref05_Calm, fun x => qre_ref05_Calm x.1 x.2, fun x => t_ref05_Calm x.1 x.2⟩
theorem ok_ref05_Calm : ConOk Tryd.prog 70 con_ref05_Calm := ⟨k_ref05_Calm, fun x hx => ret_tf (ps := P_ref05_Calm) (rs := R_ref05_Calm) (x := x) (y := t_ref05_Calm x.1 x.2) e_ref05_Calm hC_ref05_Calm (tf_of (w_ref05_Calm_eq x.1 x.2 (fun z => z = t_ref05_Calm x.1 x.2)) (d_ref05_Calm x.1 x.2 (fun z => z = t_ref05_Calm x.1 x.2) (pp_ref05_Calm x.1 x.2 hx) (tt_ref05_Calm x.1 x.2 hx)))⟩
/- base_Ints -/
def C_base_Ints : Cons := []
theorem hC_base_Ints : ConsOk Tryd.prog C_base_Ints := ConsOk.nil
def w_base_Ints (p0 : (List Int)) (p1 : (List Int)) (K : Bool → Prop) : Prop :=
  (((((((List.length p0) : Nat) : Int) != (((List.length p1) : Nat) : Int)) = true) →
  (K false)) ∧
  ((((((List.length p0) : Nat) : Int) != (((List.length p1) : Nat) : Int)) = false) →
  (∃ n0, (loopP (fun (y1 : Int) k2 =>
      ((((decide (y1 < (((List.length p0) : Nat) : Int))) = true) →
      (((0 : Int) ≤ y1) ∧
        ((y1 < (((List.length p0) : Nat) : Int)) ∧
        (((0 : Int) ≤ y1) ∧
        ((y1 < (((List.length p1) : Nat) : Int)) ∧
        (((((List.getD p0 (Int.toNat y1) (0 : Int)) != (List.getD p1 (Int.toNat y1) (0 : Int))) = true) →
        (K false)) ∧
        ((((List.getD p0 (Int.toNat y1) (0 : Int)) != (List.getD p1 (Int.toNat y1) (0 : Int))) = false) →
        (k2 (Go.IntKind.wrap .i64 (y1 + (1 : Int))))))))))) ∧
      (((decide (y1 < (((List.length p0) : Nat) : Int))) = false) →
      (K true)))) n0 (0 : Int)))))
set_option maxHeartbeats 4000000 in
theorem w_base_Ints_eq (p0 : (List Int)) (p1 : (List Int)) (K : Bool → Prop) : tfn F_base_Ints A_base_Ints C_base_Ints P_base_Ints R_base_Ints (p0, p1) K = w_base_Ints p0 p1 K := by kernel_rfl
def st_base_Ints_0 (p0 : (List Int)) (p1 : (List Int)) (y1 : Int) : Int ⊕ Bool :=
  (cond (decide (y1 < (((List.length p0) : Nat) : Int))) (cond ((List.getD p0 (Int.toNat y1) (0 : Int)) != (List.getD p1 (Int.toNat y1) (0 : Int))) (Sum.inr false)
    (Sum.inl (Go.IntKind.wrap .i64 (y1 + (1 : Int)))))
    (Sum.inr true))
abbrev sp_base_Ints_0 (p0 : (List Int)) (p1 : (List Int)) (y1 : Int) : List Prop := [(((decide (y1 < (((List.length p0) : Nat) : Int))) = true) → ((0 : Int) ≤ y1)),
    (((decide (y1 < (((List.length p0) : Nat) : Int))) = true) → (y1 < (((List.length p0) : Nat) : Int))),
    (((decide (y1 < (((List.length p0) : Nat) : Int))) = true) → (y1 < (((List.length p1) : Nat) : Int)))]
def s_base_Ints (p0 : (List Int)) (p1 : (List Int)) : Bool :=
  (cond ((((List.length p0) : Nat) : Int) != (((List.length p1) : Nat) : Int)) false
    (lpv false (st_base_Ints_0 p0 p1) (0 : Int)))
abbrev pre_base_Ints (p0 : (List Int)) (p1 : (List Int)) : List Prop := [((((((List.length p0) : Nat) : Int) != (((List.length p1) : Nat) : Int)) = false) → (OkL (st_base_Ints_0 p0 p1) (sp_base_Ints_0 p0 p1) (0 : Int)))]
set_option maxHeartbeats 4000000 in
theorem d_base_Ints (p0 : (List Int)) (p1 : (List Int)) (K : Bool → Prop) (hp : ∀ p ∈ pre_base_Ints p0 p1, p) (h : K (s_base_Ints p0 p1)) : w_base_Ints p0 p1 K := by
  unfold w_base_Ints
  unfold s_base_Ints at h
  obtain ⟨hp0, _⟩ := conj_of hp
  exact (br' h (fun e0 h => h)
    (fun e0 h => (loop_gen (hp0 e0) h (fun y1 k1 hp h => by
  unfold st_base_Ints_0 at h; obtain ⟨hp0, hp1, hp2, _⟩ := conj_of hp
  exact (br' h (fun e2 h => ⟨(hp0 e2), ⟨(hp1 e2), ⟨(hp0 e2), ⟨(hp2 e2), (br' h (fun e3 h => h)
    (fun e3 h => h))⟩⟩⟩⟩)
    (fun e2 h => h))))))
theorem l_base_Ints_0 (p0 p1 : List Int) (hl : lenOk p0) (he : p0.length = p1.length) : OkL (st_base_Ints_0 p0 p1) (sp_base_Ints_0 p0 p1) 0 ∧ lpv false (st_base_Ints_0 p0 p1) 0 = v_scan (fun i x => cond (!((x == (p1.getD i.toNat 0)))) (some false) none) true 0 p0 := by
  refine scan_is p0 0 (fun i x => cond (!((x == (p1.getD i.toNat 0)))) (some false) none) true hl ?_ ?_
  · refine ⟨by simp only [sp_base_Ints_0, List.forall_mem_cons, decide_eq_true_eq]; simp, by simp [st_base_Ints_0]⟩
  · intro j hj
    have hj' : (j : Int) < p0.length := by omega
    refine ⟨by simp only [sp_base_Ints_0, List.forall_mem_cons, decide_eq_true_eq, Int.toNat_natCast]; simp <;> omega, ?_⟩
    simp only [st_base_Ints_0, hj', decide_true, Int.toNat_natCast, cond_true, wrap_nat (show (j : Int) ≤ 9223372036854775806 by unfold lenOk at hl; omega)]
    generalize p0.getD j 0 = x
    generalize p1.getD j 0 = z
    simp only [bne]
    cases (x == z) <;> rfl
abbrev t_base_Ints (p0 p1 : List Int) : Bool := decide (p0 = p1)
abbrev qre_base_Ints (p0 p1 : List Int) : List Prop := [lenOk p0]
theorem pp_base_Ints (p0 p1 : List Int) (hq : ∀ p ∈ qre_base_Ints p0 p1, p) : ∀ p ∈ pre_base_Ints p0 p1, p := by
  simp only [pre_base_Ints, List.forall_mem_cons]
  refine ⟨fun h => (l_base_Ints_0 p0 p1 (conj_of hq).1 ?_).1, by simp⟩
  have h' : (p0.length : Int) = p1.length := by simpa using h
  omega
theorem tt_base_Ints (p0 p1 : List Int) (hq : ∀ p ∈ qre_base_Ints p0 p1, p) : s_base_Ints p0 p1 = t_base_Ints p0 p1 := by
  unfold s_base_Ints t_base_Ints
  by_cases h : p0.length = p1.length
  · rw [show ((p0.length : Int) != (p1.length : Int)) = false by simp [h]]
    refine (l_base_Ints_0 p0 p1 (conj_of hq).1 h).2.trans ?_
    exact v_scan_eq 0 (fun x y => (x == y)) (fun x y => by by_cases h : x = y <;> simp [h]) p0 p1 h
  · rw [show ((p0.length : Int) != (p1.length : Int)) = true by simp; omega]
    have : p0 ≠ p1 := fun e => h (congrArg List.length e)
    simp [this]

abbrev con_base_Ints : Con := ⟨P_base_Ints, R_base_Ints, fun x => qre_base_Ints x.1 x.2, fun x => t_base_Ints x.1 x.2⟩
theorem ok_base_Ints : ConOk Tryd.prog 22 con_base_Ints := ⟨k_base_Ints, fun x hx => ret_tf (ps := P_base_Ints) (rs := R_base_Ints) (x := x) (y := t_base_Ints x.1 x.2) e_base_Ints hC_base_Ints (tf_of (w_base_Ints_eq x.1 x.2 (fun z => z = t_base_Ints x.1 x.2)) (d_base_Ints x.1 x.2 (fun z => z = t_base_Ints x.1 x.2) (pp_base_Ints x.1 x.2 hx) (tt_base_Ints x.1 x.2 hx)))⟩
/- law05_GravityCalm -/
def C_law05_GravityCalm : Cons := [(15, [], con_law05_awake), (25, [], con_law05_few), (28, [], con_base_CopyRanges), (68, [], con_gravity_RoughIn), (69, [], con_gravity_CalmIn), (38, [], con_ref05_HeightsErr), (63, [], con_ref05_WithinErr), (70, [], con_ref05_Calm), (71, [], con_ref05_Rough), (22, [], con_base_Ints), (72, [], con_base_Has)]
theorem hC_law05_GravityCalm : ConsOk Tryd.prog C_law05_GravityCalm := ConsOk.cons ok_law05_awake <| ConsOk.cons ok_law05_few <| ConsOk.cons ok_base_CopyRanges <| ConsOk.cons ok_gravity_RoughIn <| ConsOk.cons ok_gravity_CalmIn <| ConsOk.cons ok_ref05_HeightsErr <| ConsOk.cons ok_ref05_WithinErr <| ConsOk.cons ok_ref05_Calm <| ConsOk.cons ok_ref05_Rough <| ConsOk.cons ok_base_Ints <| ConsOk.cons ok_base_Has <| ConsOk.nil
def w_law05_GravityCalm (p0 : (List (Int × Int))) (p1 : Int) (K : Bool → Prop) : Prop :=
  ((((!(s_law05_awake)) = true) →
  (K false)) ∧
  (((!(s_law05_awake)) = false) →
  ((((!(s_law05_few p0)) = true) →
    (K true)) ∧
    (((!(s_law05_few p0)) = false) →
    (((List.length p0) ≤ 1000000) ∧
      (((((v_first ((s_gravity_rangesErr p0) :: ((s_gravity_limitErr p1) :: ([] : List Int)))) != (0 : Int)) = false) →
      ((List.length p0) ≤ 1000000)) ∧
      (((List.length p0) ≤ 1000000) ∧
      (((List.length p0) ≤ 1000000) ∧
      (((((s_ref05_HeightsErr p0) == (0 : Int)) = true) →
      (((((s_ref05_WithinErr p1 (1000000 : Int)) != (0 : Int)) = true) →
        (((((s_gravity_RoughIn p0 p1).2 == (s_ref05_WithinErr p1 (1000000 : Int))) = true) →
          (((s_gravity_RoughIn p0 p1).2 == (s_ref05_WithinErr p1 (1000000 : Int))) = ((s_gravity_RoughIn p0 p1).2 == (s_ref05_WithinErr p1 (1000000 : Int))))) ∧
          (((((s_gravity_RoughIn p0 p1).2 == (s_ref05_WithinErr p1 (1000000 : Int))) = true) →
          (((s_gravity_RoughIn p0 p1).2 == (s_ref05_WithinErr p1 (1000000 : Int))) = ((s_gravity_RoughIn p0 p1).2 == (s_ref05_WithinErr p1 (1000000 : Int))))) ∧
          ((((s_gravity_RoughIn p0 p1).2 == (s_ref05_WithinErr p1 (1000000 : Int))) = ((s_gravity_RoughIn p0 p1).2 == (s_ref05_WithinErr p1 (1000000 : Int)))) ∧
          ((((cond ((s_gravity_RoughIn p0 p1).2 == (s_ref05_WithinErr p1 (1000000 : Int))) ((t_gravity_CalmIn p0 p1).2 == (s_ref05_WithinErr p1 (1000000 : Int))) false) = true) →
          ((cond ((s_gravity_RoughIn p0 p1).2 == (s_ref05_WithinErr p1 (1000000 : Int))) ((t_gravity_CalmIn p0 p1).2 == (s_ref05_WithinErr p1 (1000000 : Int))) false) = (cond ((s_gravity_RoughIn p0 p1).2 == (s_ref05_WithinErr p1 (1000000 : Int))) ((t_gravity_CalmIn p0 p1).2 == (s_ref05_WithinErr p1 (1000000 : Int))) false))) ∧
          ((((cond ((s_gravity_RoughIn p0 p1).2 == (s_ref05_WithinErr p1 (1000000 : Int))) ((t_gravity_CalmIn p0 p1).2 == (s_ref05_WithinErr p1 (1000000 : Int))) false) = true) →
          ((cond ((s_gravity_RoughIn p0 p1).2 == (s_ref05_WithinErr p1 (1000000 : Int))) ((t_gravity_CalmIn p0 p1).2 == (s_ref05_WithinErr p1 (1000000 : Int))) false) = (cond ((s_gravity_RoughIn p0 p1).2 == (s_ref05_WithinErr p1 (1000000 : Int))) ((t_gravity_CalmIn p0 p1).2 == (s_ref05_WithinErr p1 (1000000 : Int))) false))) ∧
          (((cond ((s_gravity_RoughIn p0 p1).2 == (s_ref05_WithinErr p1 (1000000 : Int))) ((t_gravity_CalmIn p0 p1).2 == (s_ref05_WithinErr p1 (1000000 : Int))) false) = (cond ((s_gravity_RoughIn p0 p1).2 == (s_ref05_WithinErr p1 (1000000 : Int))) ((t_gravity_CalmIn p0 p1).2 == (s_ref05_WithinErr p1 (1000000 : Int))) false)) ∧
          ((((cond (cond ((s_gravity_RoughIn p0 p1).2 == (s_ref05_WithinErr p1 (1000000 : Int))) ((t_gravity_CalmIn p0 p1).2 == (s_ref05_WithinErr p1 (1000000 : Int))) false) ((((List.length (s_gravity_RoughIn p0 p1).1) : Nat) : Int) == (0 : Int)) false) = true) →
          ((cond (cond ((s_gravity_RoughIn p0 p1).2 == (s_ref05_WithinErr p1 (1000000 : Int))) ((t_gravity_CalmIn p0 p1).2 == (s_ref05_WithinErr p1 (1000000 : Int))) false) ((((List.length (s_gravity_RoughIn p0 p1).1) : Nat) : Int) == (0 : Int)) false) = (cond (cond ((s_gravity_RoughIn p0 p1).2 == (s_ref05_WithinErr p1 (1000000 : Int))) ((t_gravity_CalmIn p0 p1).2 == (s_ref05_WithinErr p1 (1000000 : Int))) false) ((((List.length (s_gravity_RoughIn p0 p1).1) : Nat) : Int) == (0 : Int)) false))) ∧
          ((((cond (cond ((s_gravity_RoughIn p0 p1).2 == (s_ref05_WithinErr p1 (1000000 : Int))) ((t_gravity_CalmIn p0 p1).2 == (s_ref05_WithinErr p1 (1000000 : Int))) false) ((((List.length (s_gravity_RoughIn p0 p1).1) : Nat) : Int) == (0 : Int)) false) = true) →
          ((cond (cond ((s_gravity_RoughIn p0 p1).2 == (s_ref05_WithinErr p1 (1000000 : Int))) ((t_gravity_CalmIn p0 p1).2 == (s_ref05_WithinErr p1 (1000000 : Int))) false) ((((List.length (s_gravity_RoughIn p0 p1).1) : Nat) : Int) == (0 : Int)) false) = (cond (cond ((s_gravity_RoughIn p0 p1).2 == (s_ref05_WithinErr p1 (1000000 : Int))) ((t_gravity_CalmIn p0 p1).2 == (s_ref05_WithinErr p1 (1000000 : Int))) false) ((((List.length (s_gravity_RoughIn p0 p1).1) : Nat) : Int) == (0 : Int)) false))) ∧
          (((cond (cond ((s_gravity_RoughIn p0 p1).2 == (s_ref05_WithinErr p1 (1000000 : Int))) ((t_gravity_CalmIn p0 p1).2 == (s_ref05_WithinErr p1 (1000000 : Int))) false) ((((List.length (s_gravity_RoughIn p0 p1).1) : Nat) : Int) == (0 : Int)) false) = (cond (cond ((s_gravity_RoughIn p0 p1).2 == (s_ref05_WithinErr p1 (1000000 : Int))) ((t_gravity_CalmIn p0 p1).2 == (s_ref05_WithinErr p1 (1000000 : Int))) false) ((((List.length (s_gravity_RoughIn p0 p1).1) : Nat) : Int) == (0 : Int)) false)) ∧
          (K (cond (cond (cond ((s_gravity_RoughIn p0 p1).2 == (s_ref05_WithinErr p1 (1000000 : Int))) ((t_gravity_CalmIn p0 p1).2 == (s_ref05_WithinErr p1 (1000000 : Int))) false) ((((List.length (s_gravity_RoughIn p0 p1).1) : Nat) : Int) == (0 : Int)) false) (((t_gravity_CalmIn p0 p1).1.1 == (0 : Int)) && (((t_gravity_CalmIn p0 p1).1.2 == (0 : Int)) && true)) false)))))))))))) ∧
        ((((s_ref05_WithinErr p1 (1000000 : Int)) != (0 : Int)) = false) →
        (((List.length p0) ≤ 1000000) ∧
          (((((s_gravity_RoughIn p0 p1).2 != (0 : Int)) = false) →
          (((s_gravity_RoughIn p0 p1).2 != (0 : Int)) = ((s_gravity_RoughIn p0 p1).2 != (0 : Int)))) ∧
          (((((s_gravity_RoughIn p0 p1).2 != (0 : Int)) = false) →
          (((s_gravity_RoughIn p0 p1).2 != (0 : Int)) = ((s_gravity_RoughIn p0 p1).2 != (0 : Int)))) ∧
          (((((s_gravity_RoughIn p0 p1).2 != (0 : Int)) = false) →
          ((List.length p0) ≤ 1000000)) ∧
          (((((s_gravity_RoughIn p0 p1).2 != (0 : Int)) = false) →
          (((s_gravity_RoughIn p0 p1).2 != (0 : Int)) = ((s_gravity_RoughIn p0 p1).2 != (0 : Int)))) ∧
          (((((s_gravity_RoughIn p0 p1).2 != (0 : Int)) = false) →
          (((s_gravity_RoughIn p0 p1).2 != (0 : Int)) = ((s_gravity_RoughIn p0 p1).2 != (0 : Int)))) ∧
          (((((s_gravity_RoughIn p0 p1).2 != (0 : Int)) = false) →
          (lenOk (s_gravity_RoughIn p0 p1).1)) ∧
          (((((s_gravity_RoughIn p0 p1).2 != (0 : Int)) = false) →
          (((s_gravity_RoughIn p0 p1).2 != (0 : Int)) = ((s_gravity_RoughIn p0 p1).2 != (0 : Int)))) ∧
          ((((s_gravity_RoughIn p0 p1).2 != (0 : Int)) = ((s_gravity_RoughIn p0 p1).2 != (0 : Int))) ∧
          ((((cond ((s_gravity_RoughIn p0 p1).2 != (0 : Int)) true (!(decide ((s_gravity_RoughIn p0 p1).1 = (v_rough p1 (0 : Int) p0))))) = false) →
          ((cond ((s_gravity_RoughIn p0 p1).2 != (0 : Int)) true (!(decide ((s_gravity_RoughIn p0 p1).1 = (v_rough p1 (0 : Int) p0))))) = (cond ((s_gravity_RoughIn p0 p1).2 != (0 : Int)) true (!(decide ((s_gravity_RoughIn p0 p1).1 = (v_rough p1 (0 : Int) p0))))))) ∧
          (((((!(cond ((s_gravity_RoughIn p0 p1).2 != (0 : Int)) true (!(decide ((s_gravity_RoughIn p0 p1).1 = (v_rough p1 (0 : Int) p0)))))) && (v_calmE p0 p1).1) = true) →
          (((!(cond ((s_gravity_RoughIn p0 p1).2 != (0 : Int)) true (!(decide ((s_gravity_RoughIn p0 p1).1 = (v_rough p1 (0 : Int) p0)))))) && (v_calmE p0 p1).1) = ((!(cond ((s_gravity_RoughIn p0 p1).2 != (0 : Int)) true (!(decide ((s_gravity_RoughIn p0 p1).1 = (v_rough p1 (0 : Int) p0)))))) && (v_calmE p0 p1).1))) ∧
          (((((!(cond ((s_gravity_RoughIn p0 p1).2 != (0 : Int)) true (!(decide ((s_gravity_RoughIn p0 p1).1 = (v_rough p1 (0 : Int) p0)))))) && (v_calmE p0 p1).1) = true) →
          (((!(cond ((s_gravity_RoughIn p0 p1).2 != (0 : Int)) true (!(decide ((s_gravity_RoughIn p0 p1).1 = (v_rough p1 (0 : Int) p0)))))) && (v_calmE p0 p1).1) = ((!(cond ((s_gravity_RoughIn p0 p1).2 != (0 : Int)) true (!(decide ((s_gravity_RoughIn p0 p1).1 = (v_rough p1 (0 : Int) p0)))))) && (v_calmE p0 p1).1))) ∧
          (((((!((!(cond ((s_gravity_RoughIn p0 p1).2 != (0 : Int)) true (!(decide ((s_gravity_RoughIn p0 p1).1 = (v_rough p1 (0 : Int) p0)))))) && (v_calmE p0 p1).1)) || ((t_gravity_CalmIn p0 p1).2 != (0 : Int))) = false) →
          (((!((!(cond ((s_gravity_RoughIn p0 p1).2 != (0 : Int)) true (!(decide ((s_gravity_RoughIn p0 p1).1 = (v_rough p1 (0 : Int) p0)))))) && (v_calmE p0 p1).1)) || ((t_gravity_CalmIn p0 p1).2 != (0 : Int))) = ((!((!(cond ((s_gravity_RoughIn p0 p1).2 != (0 : Int)) true (!(decide ((s_gravity_RoughIn p0 p1).1 = (v_rough p1 (0 : Int) p0)))))) && (v_calmE p0 p1).1)) || ((t_gravity_CalmIn p0 p1).2 != (0 : Int))))) ∧
          (((((!((!(cond ((s_gravity_RoughIn p0 p1).2 != (0 : Int)) true (!(decide ((s_gravity_RoughIn p0 p1).1 = (v_rough p1 (0 : Int) p0)))))) && (v_calmE p0 p1).1)) || ((t_gravity_CalmIn p0 p1).2 != (0 : Int))) = false) →
          (((!((!(cond ((s_gravity_RoughIn p0 p1).2 != (0 : Int)) true (!(decide ((s_gravity_RoughIn p0 p1).1 = (v_rough p1 (0 : Int) p0)))))) && (v_calmE p0 p1).1)) || ((t_gravity_CalmIn p0 p1).2 != (0 : Int))) = ((!((!(cond ((s_gravity_RoughIn p0 p1).2 != (0 : Int)) true (!(decide ((s_gravity_RoughIn p0 p1).1 = (v_rough p1 (0 : Int) p0)))))) && (v_calmE p0 p1).1)) || ((t_gravity_CalmIn p0 p1).2 != (0 : Int))))) ∧
          (((((!(cond ((s_gravity_RoughIn p0 p1).2 != (0 : Int)) true (!(decide ((s_gravity_RoughIn p0 p1).1 = (v_rough p1 (0 : Int) p0)))))) && (v_calmE p0 p1).1) = true) →
          (((!(cond ((s_gravity_RoughIn p0 p1).2 != (0 : Int)) true (!(decide ((s_gravity_RoughIn p0 p1).1 = (v_rough p1 (0 : Int) p0)))))) && (v_calmE p0 p1).1) = ((!(cond ((s_gravity_RoughIn p0 p1).2 != (0 : Int)) true (!(decide ((s_gravity_RoughIn p0 p1).1 = (v_rough p1 (0 : Int) p0)))))) && (v_calmE p0 p1).1))) ∧
          (((((!(cond ((s_gravity_RoughIn p0 p1).2 != (0 : Int)) true (!(decide ((s_gravity_RoughIn p0 p1).1 = (v_rough p1 (0 : Int) p0)))))) && (v_calmE p0 p1).1) = true) →
          (((!((!(cond ((s_gravity_RoughIn p0 p1).2 != (0 : Int)) true (!(decide ((s_gravity_RoughIn p0 p1).1 = (v_rough p1 (0 : Int) p0)))))) && (v_calmE p0 p1).1)) || ((t_gravity_CalmIn p0 p1).2 != (0 : Int))) = ((t_gravity_CalmIn p0 p1).2 != (0 : Int)))) ∧
          ((((cond ((s_gravity_RoughIn p0 p1).2 != (0 : Int)) true (!(decide ((s_gravity_RoughIn p0 p1).1 = (v_rough p1 (0 : Int) p0))))) = false) →
          ((cond ((s_gravity_RoughIn p0 p1).2 != (0 : Int)) true (!(decide ((s_gravity_RoughIn p0 p1).1 = (v_rough p1 (0 : Int) p0))))) = (cond ((s_gravity_RoughIn p0 p1).2 != (0 : Int)) true (!(decide ((s_gravity_RoughIn p0 p1).1 = (v_rough p1 (0 : Int) p0))))))) ∧
          ((((cond ((s_gravity_RoughIn p0 p1).2 != (0 : Int)) true (!(decide ((s_gravity_RoughIn p0 p1).1 = (v_rough p1 (0 : Int) p0))))) = false) →
          (((!(cond ((s_gravity_RoughIn p0 p1).2 != (0 : Int)) true (!(decide ((s_gravity_RoughIn p0 p1).1 = (v_rough p1 (0 : Int) p0)))))) && (v_calmE p0 p1).1) = (v_calmE p0 p1).1)) ∧
          (((cond ((s_gravity_RoughIn p0 p1).2 != (0 : Int)) true (!(decide ((s_gravity_RoughIn p0 p1).1 = (v_rough p1 (0 : Int) p0))))) = (cond ((s_gravity_RoughIn p0 p1).2 != (0 : Int)) true (!(decide ((s_gravity_RoughIn p0 p1).1 = (v_rough p1 (0 : Int) p0)))))) ∧
          ((((cond (cond ((s_gravity_RoughIn p0 p1).2 != (0 : Int)) true (!(decide ((s_gravity_RoughIn p0 p1).1 = (v_rough p1 (0 : Int) p0))))) true (cond (v_calmE p0 p1).1 (cond ((t_gravity_CalmIn p0 p1).2 != (0 : Int)) true (!(((t_gravity_CalmIn p0 p1).1.1 == (v_calmE p0 p1).2.1) && (((t_gravity_CalmIn p0 p1).1.2 == (v_calmE p0 p1).2.2) && true)))) false)) = false) →
          ((cond (cond ((s_gravity_RoughIn p0 p1).2 != (0 : Int)) true (!(decide ((s_gravity_RoughIn p0 p1).1 = (v_rough p1 (0 : Int) p0))))) true (cond (v_calmE p0 p1).1 (cond ((t_gravity_CalmIn p0 p1).2 != (0 : Int)) true (!(((t_gravity_CalmIn p0 p1).1.1 == (v_calmE p0 p1).2.1) && (((t_gravity_CalmIn p0 p1).1.2 == (v_calmE p0 p1).2.2) && true)))) false)) = (cond (cond ((s_gravity_RoughIn p0 p1).2 != (0 : Int)) true (!(decide ((s_gravity_RoughIn p0 p1).1 = (v_rough p1 (0 : Int) p0))))) true (cond (v_calmE p0 p1).1 (cond ((t_gravity_CalmIn p0 p1).2 != (0 : Int)) true (!(((t_gravity_CalmIn p0 p1).1.1 == (v_calmE p0 p1).2.1) && (((t_gravity_CalmIn p0 p1).1.2 == (v_calmE p0 p1).2.2) && true)))) false)))) ∧
          ((((cond (cond ((s_gravity_RoughIn p0 p1).2 != (0 : Int)) true (!(decide ((s_gravity_RoughIn p0 p1).1 = (v_rough p1 (0 : Int) p0))))) true (cond (v_calmE p0 p1).1 (cond ((t_gravity_CalmIn p0 p1).2 != (0 : Int)) true (!(((t_gravity_CalmIn p0 p1).1.1 == (v_calmE p0 p1).2.1) && (((t_gravity_CalmIn p0 p1).1.2 == (v_calmE p0 p1).2.2) && true)))) false)) = false) →
          ((cond (cond ((s_gravity_RoughIn p0 p1).2 != (0 : Int)) true (!(decide ((s_gravity_RoughIn p0 p1).1 = (v_rough p1 (0 : Int) p0))))) true (cond (v_calmE p0 p1).1 (cond ((t_gravity_CalmIn p0 p1).2 != (0 : Int)) true (!(((t_gravity_CalmIn p0 p1).1.1 == (v_calmE p0 p1).2.1) && (((t_gravity_CalmIn p0 p1).1.2 == (v_calmE p0 p1).2.2) && true)))) false)) = (cond (cond ((s_gravity_RoughIn p0 p1).2 != (0 : Int)) true (!(decide ((s_gravity_RoughIn p0 p1).1 = (v_rough p1 (0 : Int) p0))))) true (cond (v_calmE p0 p1).1 (cond ((t_gravity_CalmIn p0 p1).2 != (0 : Int)) true (!(((t_gravity_CalmIn p0 p1).1.1 == (v_calmE p0 p1).2.1) && (((t_gravity_CalmIn p0 p1).1.2 == (v_calmE p0 p1).2.2) && true)))) false)))) ∧
          (((((!(cond (cond ((s_gravity_RoughIn p0 p1).2 != (0 : Int)) true (!(decide ((s_gravity_RoughIn p0 p1).1 = (v_rough p1 (0 : Int) p0))))) true (cond (v_calmE p0 p1).1 (cond ((t_gravity_CalmIn p0 p1).2 != (0 : Int)) true (!(((t_gravity_CalmIn p0 p1).1.1 == (v_calmE p0 p1).2.1) && (((t_gravity_CalmIn p0 p1).1.2 == (v_calmE p0 p1).2.2) && true)))) false))) && (!(v_calmE p0 p1).1)) = true) →
          (((!(cond (cond ((s_gravity_RoughIn p0 p1).2 != (0 : Int)) true (!(decide ((s_gravity_RoughIn p0 p1).1 = (v_rough p1 (0 : Int) p0))))) true (cond (v_calmE p0 p1).1 (cond ((t_gravity_CalmIn p0 p1).2 != (0 : Int)) true (!(((t_gravity_CalmIn p0 p1).1.1 == (v_calmE p0 p1).2.1) && (((t_gravity_CalmIn p0 p1).1.2 == (v_calmE p0 p1).2.2) && true)))) false))) && (!(v_calmE p0 p1).1)) = ((!(cond (cond ((s_gravity_RoughIn p0 p1).2 != (0 : Int)) true (!(decide ((s_gravity_RoughIn p0 p1).1 = (v_rough p1 (0 : Int) p0))))) true (cond (v_calmE p0 p1).1 (cond ((t_gravity_CalmIn p0 p1).2 != (0 : Int)) true (!(((t_gravity_CalmIn p0 p1).1.1 == (v_calmE p0 p1).2.1) && (((t_gravity_CalmIn p0 p1).1.2 == (v_calmE p0 p1).2.2) && true)))) false))) && (!(v_calmE p0 p1).1)))) ∧
          (((((!(cond (cond ((s_gravity_RoughIn p0 p1).2 != (0 : Int)) true (!(decide ((s_gravity_RoughIn p0 p1).1 = (v_rough p1 (0 : Int) p0))))) true (cond (v_calmE p0 p1).1 (cond ((t_gravity_CalmIn p0 p1).2 != (0 : Int)) true (!(((t_gravity_CalmIn p0 p1).1.1 == (v_calmE p0 p1).2.1) && (((t_gravity_CalmIn p0 p1).1.2 == (v_calmE p0 p1).2.2) && true)))) false))) && (!(v_calmE p0 p1).1)) = true) →
          (((!(cond (cond ((s_gravity_RoughIn p0 p1).2 != (0 : Int)) true (!(decide ((s_gravity_RoughIn p0 p1).1 = (v_rough p1 (0 : Int) p0))))) true (cond (v_calmE p0 p1).1 (cond ((t_gravity_CalmIn p0 p1).2 != (0 : Int)) true (!(((t_gravity_CalmIn p0 p1).1.1 == (v_calmE p0 p1).2.1) && (((t_gravity_CalmIn p0 p1).1.2 == (v_calmE p0 p1).2.2) && true)))) false))) && (!(v_calmE p0 p1).1)) = ((!(cond (cond ((s_gravity_RoughIn p0 p1).2 != (0 : Int)) true (!(decide ((s_gravity_RoughIn p0 p1).1 = (v_rough p1 (0 : Int) p0))))) true (cond (v_calmE p0 p1).1 (cond ((t_gravity_CalmIn p0 p1).2 != (0 : Int)) true (!(((t_gravity_CalmIn p0 p1).1.1 == (v_calmE p0 p1).2.1) && (((t_gravity_CalmIn p0 p1).1.2 == (v_calmE p0 p1).2.2) && true)))) false))) && (!(v_calmE p0 p1).1)))) ∧
          (((((!((!(cond (cond ((s_gravity_RoughIn p0 p1).2 != (0 : Int)) true (!(decide ((s_gravity_RoughIn p0 p1).1 = (v_rough p1 (0 : Int) p0))))) true (cond (v_calmE p0 p1).1 (cond ((t_gravity_CalmIn p0 p1).2 != (0 : Int)) true (!(((t_gravity_CalmIn p0 p1).1.1 == (v_calmE p0 p1).2.1) && (((t_gravity_CalmIn p0 p1).1.2 == (v_calmE p0 p1).2.2) && true)))) false))) && (!(v_calmE p0 p1).1))) || ((t_gravity_CalmIn p0 p1).2 != (12 : Int))) = false) →
          (((!((!(cond (cond ((s_gravity_RoughIn p0 p1).2 != (0 : Int)) true (!(decide ((s_gravity_RoughIn p0 p1).1 = (v_rough p1 (0 : Int) p0))))) true (cond (v_calmE p0 p1).1 (cond ((t_gravity_CalmIn p0 p1).2 != (0 : Int)) true (!(((t_gravity_CalmIn p0 p1).1.1 == (v_calmE p0 p1).2.1) && (((t_gravity_CalmIn p0 p1).1.2 == (v_calmE p0 p1).2.2) && true)))) false))) && (!(v_calmE p0 p1).1))) || ((t_gravity_CalmIn p0 p1).2 != (12 : Int))) = ((!((!(cond (cond ((s_gravity_RoughIn p0 p1).2 != (0 : Int)) true (!(decide ((s_gravity_RoughIn p0 p1).1 = (v_rough p1 (0 : Int) p0))))) true (cond (v_calmE p0 p1).1 (cond ((t_gravity_CalmIn p0 p1).2 != (0 : Int)) true (!(((t_gravity_CalmIn p0 p1).1.1 == (v_calmE p0 p1).2.1) && (((t_gravity_CalmIn p0 p1).1.2 == (v_calmE p0 p1).2.2) && true)))) false))) && (!(v_calmE p0 p1).1))) || ((t_gravity_CalmIn p0 p1).2 != (12 : Int))))) ∧
          (((((!((!(cond (cond ((s_gravity_RoughIn p0 p1).2 != (0 : Int)) true (!(decide ((s_gravity_RoughIn p0 p1).1 = (v_rough p1 (0 : Int) p0))))) true (cond (v_calmE p0 p1).1 (cond ((t_gravity_CalmIn p0 p1).2 != (0 : Int)) true (!(((t_gravity_CalmIn p0 p1).1.1 == (v_calmE p0 p1).2.1) && (((t_gravity_CalmIn p0 p1).1.2 == (v_calmE p0 p1).2.2) && true)))) false))) && (!(v_calmE p0 p1).1))) || ((t_gravity_CalmIn p0 p1).2 != (12 : Int))) = false) →
          (((!((!(cond (cond ((s_gravity_RoughIn p0 p1).2 != (0 : Int)) true (!(decide ((s_gravity_RoughIn p0 p1).1 = (v_rough p1 (0 : Int) p0))))) true (cond (v_calmE p0 p1).1 (cond ((t_gravity_CalmIn p0 p1).2 != (0 : Int)) true (!(((t_gravity_CalmIn p0 p1).1.1 == (v_calmE p0 p1).2.1) && (((t_gravity_CalmIn p0 p1).1.2 == (v_calmE p0 p1).2.2) && true)))) false))) && (!(v_calmE p0 p1).1))) || ((t_gravity_CalmIn p0 p1).2 != (12 : Int))) = ((!((!(cond (cond ((s_gravity_RoughIn p0 p1).2 != (0 : Int)) true (!(decide ((s_gravity_RoughIn p0 p1).1 = (v_rough p1 (0 : Int) p0))))) true (cond (v_calmE p0 p1).1 (cond ((t_gravity_CalmIn p0 p1).2 != (0 : Int)) true (!(((t_gravity_CalmIn p0 p1).1.1 == (v_calmE p0 p1).2.1) && (((t_gravity_CalmIn p0 p1).1.2 == (v_calmE p0 p1).2.2) && true)))) false))) && (!(v_calmE p0 p1).1))) || ((t_gravity_CalmIn p0 p1).2 != (12 : Int))))) ∧
          (((((!(cond (cond ((s_gravity_RoughIn p0 p1).2 != (0 : Int)) true (!(decide ((s_gravity_RoughIn p0 p1).1 = (v_rough p1 (0 : Int) p0))))) true (cond (v_calmE p0 p1).1 (cond ((t_gravity_CalmIn p0 p1).2 != (0 : Int)) true (!(((t_gravity_CalmIn p0 p1).1.1 == (v_calmE p0 p1).2.1) && (((t_gravity_CalmIn p0 p1).1.2 == (v_calmE p0 p1).2.2) && true)))) false))) && (!(v_calmE p0 p1).1)) = true) →
          (((!(cond (cond ((s_gravity_RoughIn p0 p1).2 != (0 : Int)) true (!(decide ((s_gravity_RoughIn p0 p1).1 = (v_rough p1 (0 : Int) p0))))) true (cond (v_calmE p0 p1).1 (cond ((t_gravity_CalmIn p0 p1).2 != (0 : Int)) true (!(((t_gravity_CalmIn p0 p1).1.1 == (v_calmE p0 p1).2.1) && (((t_gravity_CalmIn p0 p1).1.2 == (v_calmE p0 p1).2.2) && true)))) false))) && (!(v_calmE p0 p1).1)) = ((!(cond (cond ((s_gravity_RoughIn p0 p1).2 != (0 : Int)) true (!(decide ((s_gravity_RoughIn p0 p1).1 = (v_rough p1 (0 : Int) p0))))) true (cond (v_calmE p0 p1).1 (cond ((t_gravity_CalmIn p0 p1).2 != (0 : Int)) true (!(((t_gravity_CalmIn p0 p1).1.1 == (v_calmE p0 p1).2.1) && (((t_gravity_CalmIn p0 p1).1.2 == (v_calmE p0 p1).2.2) && true)))) false))) && (!(v_calmE p0 p1).1)))) ∧
          (((((!(cond (cond ((s_gravity_RoughIn p0 p1).2 != (0 : Int)) true (!(decide ((s_gravity_RoughIn p0 p1).1 = (v_rough p1 (0 : Int) p0))))) true (cond (v_calmE p0 p1).1 (cond ((t_gravity_CalmIn p0 p1).2 != (0 : Int)) true (!(((t_gravity_CalmIn p0 p1).1.1 == (v_calmE p0 p1).2.1) && (((t_gravity_CalmIn p0 p1).1.2 == (v_calmE p0 p1).2.2) && true)))) false))) && (!(v_calmE p0 p1).1)) = true) →
          (((!((!(cond (cond ((s_gravity_RoughIn p0 p1).2 != (0 : Int)) true (!(decide ((s_gravity_RoughIn p0 p1).1 = (v_rough p1 (0 : Int) p0))))) true (cond (v_calmE p0 p1).1 (cond ((t_gravity_CalmIn p0 p1).2 != (0 : Int)) true (!(((t_gravity_CalmIn p0 p1).1.1 == (v_calmE p0 p1).2.1) && (((t_gravity_CalmIn p0 p1).1.2 == (v_calmE p0 p1).2.2) && true)))) false))) && (!(v_calmE p0 p1).1))) || ((t_gravity_CalmIn p0 p1).2 != (12 : Int))) = ((t_gravity_CalmIn p0 p1).2 != (12 : Int)))) ∧
          ((((cond (cond ((s_gravity_RoughIn p0 p1).2 != (0 : Int)) true (!(decide ((s_gravity_RoughIn p0 p1).1 = (v_rough p1 (0 : Int) p0))))) true (cond (v_calmE p0 p1).1 (cond ((t_gravity_CalmIn p0 p1).2 != (0 : Int)) true (!(((t_gravity_CalmIn p0 p1).1.1 == (v_calmE p0 p1).2.1) && (((t_gravity_CalmIn p0 p1).1.2 == (v_calmE p0 p1).2.2) && true)))) false)) = false) →
          ((cond (cond ((s_gravity_RoughIn p0 p1).2 != (0 : Int)) true (!(decide ((s_gravity_RoughIn p0 p1).1 = (v_rough p1 (0 : Int) p0))))) true (cond (v_calmE p0 p1).1 (cond ((t_gravity_CalmIn p0 p1).2 != (0 : Int)) true (!(((t_gravity_CalmIn p0 p1).1.1 == (v_calmE p0 p1).2.1) && (((t_gravity_CalmIn p0 p1).1.2 == (v_calmE p0 p1).2.2) && true)))) false)) = (cond (cond ((s_gravity_RoughIn p0 p1).2 != (0 : Int)) true (!(decide ((s_gravity_RoughIn p0 p1).1 = (v_rough p1 (0 : Int) p0))))) true (cond (v_calmE p0 p1).1 (cond ((t_gravity_CalmIn p0 p1).2 != (0 : Int)) true (!(((t_gravity_CalmIn p0 p1).1.1 == (v_calmE p0 p1).2.1) && (((t_gravity_CalmIn p0 p1).1.2 == (v_calmE p0 p1).2.2) && true)))) false)))) ∧
          ((((cond (cond ((s_gravity_RoughIn p0 p1).2 != (0 : Int)) true (!(decide ((s_gravity_RoughIn p0 p1).1 = (v_rough p1 (0 : Int) p0))))) true (cond (v_calmE p0 p1).1 (cond ((t_gravity_CalmIn p0 p1).2 != (0 : Int)) true (!(((t_gravity_CalmIn p0 p1).1.1 == (v_calmE p0 p1).2.1) && (((t_gravity_CalmIn p0 p1).1.2 == (v_calmE p0 p1).2.2) && true)))) false)) = false) →
          (((!(cond (cond ((s_gravity_RoughIn p0 p1).2 != (0 : Int)) true (!(decide ((s_gravity_RoughIn p0 p1).1 = (v_rough p1 (0 : Int) p0))))) true (cond (v_calmE p0 p1).1 (cond ((t_gravity_CalmIn p0 p1).2 != (0 : Int)) true (!(((t_gravity_CalmIn p0 p1).1.1 == (v_calmE p0 p1).2.1) && (((t_gravity_CalmIn p0 p1).1.2 == (v_calmE p0 p1).2.2) && true)))) false))) && (!(v_calmE p0 p1).1)) = (!(v_calmE p0 p1).1))) ∧
          (((cond (cond ((s_gravity_RoughIn p0 p1).2 != (0 : Int)) true (!(decide ((s_gravity_RoughIn p0 p1).1 = (v_rough p1 (0 : Int) p0))))) true (cond (v_calmE p0 p1).1 (cond ((t_gravity_CalmIn p0 p1).2 != (0 : Int)) true (!(((t_gravity_CalmIn p0 p1).1.1 == (v_calmE p0 p1).2.1) && (((t_gravity_CalmIn p0 p1).1.2 == (v_calmE p0 p1).2.2) && true)))) false)) = (cond (cond ((s_gravity_RoughIn p0 p1).2 != (0 : Int)) true (!(decide ((s_gravity_RoughIn p0 p1).1 = (v_rough p1 (0 : Int) p0))))) true (cond (v_calmE p0 p1).1 (cond ((t_gravity_CalmIn p0 p1).2 != (0 : Int)) true (!(((t_gravity_CalmIn p0 p1).1.1 == (v_calmE p0 p1).2.1) && (((t_gravity_CalmIn p0 p1).1.2 == (v_calmE p0 p1).2.2) && true)))) false))) ∧
          ((((cond (cond (cond ((s_gravity_RoughIn p0 p1).2 != (0 : Int)) true (!(decide ((s_gravity_RoughIn p0 p1).1 = (v_rough p1 (0 : Int) p0))))) true (cond (v_calmE p0 p1).1 (cond ((t_gravity_CalmIn p0 p1).2 != (0 : Int)) true (!(((t_gravity_CalmIn p0 p1).1.1 == (v_calmE p0 p1).2.1) && (((t_gravity_CalmIn p0 p1).1.2 == (v_calmE p0 p1).2.2) && true)))) false)) true (cond (!(v_calmE p0 p1).1) (cond ((t_gravity_CalmIn p0 p1).2 != (12 : Int)) true (!(((t_gravity_CalmIn p0 p1).1.1 == (0 : Int)) && (((t_gravity_CalmIn p0 p1).1.2 == (0 : Int)) && true)))) false)) = true) →
          (K false)) ∧
          (((cond (cond (cond ((s_gravity_RoughIn p0 p1).2 != (0 : Int)) true (!(decide ((s_gravity_RoughIn p0 p1).1 = (v_rough p1 (0 : Int) p0))))) true (cond (v_calmE p0 p1).1 (cond ((t_gravity_CalmIn p0 p1).2 != (0 : Int)) true (!(((t_gravity_CalmIn p0 p1).1.1 == (v_calmE p0 p1).2.1) && (((t_gravity_CalmIn p0 p1).1.2 == (v_calmE p0 p1).2.2) && true)))) false)) true (cond (!(v_calmE p0 p1).1) (cond ((t_gravity_CalmIn p0 p1).2 != (12 : Int)) true (!(((t_gravity_CalmIn p0 p1).1.1 == (0 : Int)) && (((t_gravity_CalmIn p0 p1).1.2 == (0 : Int)) && true)))) false)) = false) →
          ((((!(v_calmE p0 p1).1) = true) →
            (K ((((List.length (s_gravity_RoughIn p0 p1).1) : Nat) : Int) == (((List.length p0) : Nat) : Int)))) ∧
            (((!(v_calmE p0 p1).1) = false) →
            (∃ n0, (loopP (fun (y1 : Int) k2 =>
                ((((decide (y1 ≤ (t_gravity_CalmIn p0 p1).1.2)) = true) →
                ((lenOk (s_gravity_RoughIn p0 p1).1) ∧
                  ((((v_has (s_gravity_RoughIn p0 p1).1 y1) = true) →
                  (K false)) ∧
                  (((v_has (s_gravity_RoughIn p0 p1).1 y1) = false) →
                  (k2 (Go.IntKind.wrap .i64 (y1 + (1 : Int)))))))) ∧
                (((decide (y1 ≤ (t_gravity_CalmIn p0 p1).1.2)) = false) →
                (((((t_gravity_CalmIn p0 p1).1.1 == (0 : Int)) = false) →
                  (((t_gravity_CalmIn p0 p1).1.1 == (0 : Int)) = ((t_gravity_CalmIn p0 p1).1.1 == (0 : Int)))) ∧
                  (((((t_gravity_CalmIn p0 p1).1.1 == (0 : Int)) = false) →
                  (((t_gravity_CalmIn p0 p1).1.1 == (0 : Int)) = ((t_gravity_CalmIn p0 p1).1.1 == (0 : Int)))) ∧
                  (((((t_gravity_CalmIn p0 p1).1.1 == (0 : Int)) = false) →
                  (((t_gravity_CalmIn p0 p1).1.1 == (0 : Int)) = ((t_gravity_CalmIn p0 p1).1.1 == (0 : Int)))) ∧
                  (((((t_gravity_CalmIn p0 p1).1.1 == (0 : Int)) = false) →
                  (((t_gravity_CalmIn p0 p1).1.1 == (0 : Int)) = ((t_gravity_CalmIn p0 p1).1.1 == (0 : Int)))) ∧
                  (((((t_gravity_CalmIn p0 p1).1.1 == (0 : Int)) = false) →
                  (lenOk (s_gravity_RoughIn p0 p1).1)) ∧
                  ((((t_gravity_CalmIn p0 p1).1.1 == (0 : Int)) = ((t_gravity_CalmIn p0 p1).1.1 == (0 : Int))) ∧
                  ((((cond ((t_gravity_CalmIn p0 p1).1.1 == (0 : Int)) true (v_has (s_gravity_RoughIn p0 p1).1 (Go.IntKind.wrap .i64 ((t_gravity_CalmIn p0 p1).1.1 - (1 : Int))))) = true) →
                  ((cond ((t_gravity_CalmIn p0 p1).1.1 == (0 : Int)) true (v_has (s_gravity_RoughIn p0 p1).1 (Go.IntKind.wrap .i64 ((t_gravity_CalmIn p0 p1).1.1 - (1 : Int))))) = (cond ((t_gravity_CalmIn p0 p1).1.1 == (0 : Int)) true (v_has (s_gravity_RoughIn p0 p1).1 (Go.IntKind.wrap .i64 ((t_gravity_CalmIn p0 p1).1.1 - (1 : Int))))))) ∧
                  ((((cond ((t_gravity_CalmIn p0 p1).1.1 == (0 : Int)) true (v_has (s_gravity_RoughIn p0 p1).1 (Go.IntKind.wrap .i64 ((t_gravity_CalmIn p0 p1).1.1 - (1 : Int))))) = true) →
                  ((cond ((t_gravity_CalmIn p0 p1).1.1 == (0 : Int)) true (v_has (s_gravity_RoughIn p0 p1).1 (Go.IntKind.wrap .i64 ((t_gravity_CalmIn p0 p1).1.1 - (1 : Int))))) = (cond ((t_gravity_CalmIn p0 p1).1.1 == (0 : Int)) true (v_has (s_gravity_RoughIn p0 p1).1 (Go.IntKind.wrap .i64 ((t_gravity_CalmIn p0 p1).1.1 - (1 : Int))))))) ∧
                  ((((cond ((t_gravity_CalmIn p0 p1).1.1 == (0 : Int)) true (v_has (s_gravity_RoughIn p0 p1).1 (Go.IntKind.wrap .i64 ((t_gravity_CalmIn p0 p1).1.1 - (1 : Int))))) = true) →
                  ((cond ((t_gravity_CalmIn p0 p1).1.1 == (0 : Int)) true (v_has (s_gravity_RoughIn p0 p1).1 (Go.IntKind.wrap .i64 ((t_gravity_CalmIn p0 p1).1.1 - (1 : Int))))) = (cond ((t_gravity_CalmIn p0 p1).1.1 == (0 : Int)) true (v_has (s_gravity_RoughIn p0 p1).1 (Go.IntKind.wrap .i64 ((t_gravity_CalmIn p0 p1).1.1 - (1 : Int))))))) ∧
                  ((((cond ((t_gravity_CalmIn p0 p1).1.1 == (0 : Int)) true (v_has (s_gravity_RoughIn p0 p1).1 (Go.IntKind.wrap .i64 ((t_gravity_CalmIn p0 p1).1.1 - (1 : Int))))) = true) →
                  ((cond ((t_gravity_CalmIn p0 p1).1.1 == (0 : Int)) true (v_has (s_gravity_RoughIn p0 p1).1 (Go.IntKind.wrap .i64 ((t_gravity_CalmIn p0 p1).1.1 - (1 : Int))))) = (cond ((t_gravity_CalmIn p0 p1).1.1 == (0 : Int)) true (v_has (s_gravity_RoughIn p0 p1).1 (Go.IntKind.wrap .i64 ((t_gravity_CalmIn p0 p1).1.1 - (1 : Int))))))) ∧
                  ((((cond ((t_gravity_CalmIn p0 p1).1.1 == (0 : Int)) true (v_has (s_gravity_RoughIn p0 p1).1 (Go.IntKind.wrap .i64 ((t_gravity_CalmIn p0 p1).1.1 - (1 : Int))))) = true) →
                  ((cond ((t_gravity_CalmIn p0 p1).1.1 == (0 : Int)) true (v_has (s_gravity_RoughIn p0 p1).1 (Go.IntKind.wrap .i64 ((t_gravity_CalmIn p0 p1).1.1 - (1 : Int))))) = (cond ((t_gravity_CalmIn p0 p1).1.1 == (0 : Int)) true (v_has (s_gravity_RoughIn p0 p1).1 (Go.IntKind.wrap .i64 ((t_gravity_CalmIn p0 p1).1.1 - (1 : Int))))))) ∧
                  ((((cond ((t_gravity_CalmIn p0 p1).1.1 == (0 : Int)) true (v_has (s_gravity_RoughIn p0 p1).1 (Go.IntKind.wrap .i64 ((t_gravity_CalmIn p0 p1).1.1 - (1 : Int))))) = true) →
                  ((cond ((t_gravity_CalmIn p0 p1).1.1 == (0 : Int)) true (v_has (s_gravity_RoughIn p0 p1).1 (Go.IntKind.wrap .i64 ((t_gravity_CalmIn p0 p1).1.1 - (1 : Int))))) = (cond ((t_gravity_CalmIn p0 p1).1.1 == (0 : Int)) true (v_has (s_gravity_RoughIn p0 p1).1 (Go.IntKind.wrap .i64 ((t_gravity_CalmIn p0 p1).1.1 - (1 : Int))))))) ∧
                  (((((!(cond ((t_gravity_CalmIn p0 p1).1.1 == (0 : Int)) true (v_has (s_gravity_RoughIn p0 p1).1 (Go.IntKind.wrap .i64 ((t_gravity_CalmIn p0 p1).1.1 - (1 : Int)))))) || ((t_gravity_CalmIn p0 p1).1.2 == (Go.IntKind.wrap .i64 ((((List.length p0) : Nat) : Int) - (1 : Int))))) = false) →
                  (((!(cond ((t_gravity_CalmIn p0 p1).1.1 == (0 : Int)) true (v_has (s_gravity_RoughIn p0 p1).1 (Go.IntKind.wrap .i64 ((t_gravity_CalmIn p0 p1).1.1 - (1 : Int)))))) || ((t_gravity_CalmIn p0 p1).1.2 == (Go.IntKind.wrap .i64 ((((List.length p0) : Nat) : Int) - (1 : Int))))) = ((!(cond ((t_gravity_CalmIn p0 p1).1.1 == (0 : Int)) true (v_has (s_gravity_RoughIn p0 p1).1 (Go.IntKind.wrap .i64 ((t_gravity_CalmIn p0 p1).1.1 - (1 : Int)))))) || ((t_gravity_CalmIn p0 p1).1.2 == (Go.IntKind.wrap .i64 ((((List.length p0) : Nat) : Int) - (1 : Int))))))) ∧
                  (((((!(cond ((t_gravity_CalmIn p0 p1).1.1 == (0 : Int)) true (v_has (s_gravity_RoughIn p0 p1).1 (Go.IntKind.wrap .i64 ((t_gravity_CalmIn p0 p1).1.1 - (1 : Int)))))) || ((t_gravity_CalmIn p0 p1).1.2 == (Go.IntKind.wrap .i64 ((((List.length p0) : Nat) : Int) - (1 : Int))))) = false) →
                  (((!(cond ((t_gravity_CalmIn p0 p1).1.1 == (0 : Int)) true (v_has (s_gravity_RoughIn p0 p1).1 (Go.IntKind.wrap .i64 ((t_gravity_CalmIn p0 p1).1.1 - (1 : Int)))))) || ((t_gravity_CalmIn p0 p1).1.2 == (Go.IntKind.wrap .i64 ((((List.length p0) : Nat) : Int) - (1 : Int))))) = ((!(cond ((t_gravity_CalmIn p0 p1).1.1 == (0 : Int)) true (v_has (s_gravity_RoughIn p0 p1).1 (Go.IntKind.wrap .i64 ((t_gravity_CalmIn p0 p1).1.1 - (1 : Int)))))) || ((t_gravity_CalmIn p0 p1).1.2 == (Go.IntKind.wrap .i64 ((((List.length p0) : Nat) : Int) - (1 : Int))))))) ∧
                  (((((!(cond ((t_gravity_CalmIn p0 p1).1.1 == (0 : Int)) true (v_has (s_gravity_RoughIn p0 p1).1 (Go.IntKind.wrap .i64 ((t_gravity_CalmIn p0 p1).1.1 - (1 : Int)))))) || ((t_gravity_CalmIn p0 p1).1.2 == (Go.IntKind.wrap .i64 ((((List.length p0) : Nat) : Int) - (1 : Int))))) = false) →
                  (((!(cond ((t_gravity_CalmIn p0 p1).1.1 == (0 : Int)) true (v_has (s_gravity_RoughIn p0 p1).1 (Go.IntKind.wrap .i64 ((t_gravity_CalmIn p0 p1).1.1 - (1 : Int)))))) || ((t_gravity_CalmIn p0 p1).1.2 == (Go.IntKind.wrap .i64 ((((List.length p0) : Nat) : Int) - (1 : Int))))) = ((!(cond ((t_gravity_CalmIn p0 p1).1.1 == (0 : Int)) true (v_has (s_gravity_RoughIn p0 p1).1 (Go.IntKind.wrap .i64 ((t_gravity_CalmIn p0 p1).1.1 - (1 : Int)))))) || ((t_gravity_CalmIn p0 p1).1.2 == (Go.IntKind.wrap .i64 ((((List.length p0) : Nat) : Int) - (1 : Int))))))) ∧
                  (((((!(cond ((t_gravity_CalmIn p0 p1).1.1 == (0 : Int)) true (v_has (s_gravity_RoughIn p0 p1).1 (Go.IntKind.wrap .i64 ((t_gravity_CalmIn p0 p1).1.1 - (1 : Int)))))) || ((t_gravity_CalmIn p0 p1).1.2 == (Go.IntKind.wrap .i64 ((((List.length p0) : Nat) : Int) - (1 : Int))))) = false) →
                  (((!(cond ((t_gravity_CalmIn p0 p1).1.1 == (0 : Int)) true (v_has (s_gravity_RoughIn p0 p1).1 (Go.IntKind.wrap .i64 ((t_gravity_CalmIn p0 p1).1.1 - (1 : Int)))))) || ((t_gravity_CalmIn p0 p1).1.2 == (Go.IntKind.wrap .i64 ((((List.length p0) : Nat) : Int) - (1 : Int))))) = ((!(cond ((t_gravity_CalmIn p0 p1).1.1 == (0 : Int)) true (v_has (s_gravity_RoughIn p0 p1).1 (Go.IntKind.wrap .i64 ((t_gravity_CalmIn p0 p1).1.1 - (1 : Int)))))) || ((t_gravity_CalmIn p0 p1).1.2 == (Go.IntKind.wrap .i64 ((((List.length p0) : Nat) : Int) - (1 : Int))))))) ∧
                  (((((!(cond ((t_gravity_CalmIn p0 p1).1.1 == (0 : Int)) true (v_has (s_gravity_RoughIn p0 p1).1 (Go.IntKind.wrap .i64 ((t_gravity_CalmIn p0 p1).1.1 - (1 : Int)))))) || ((t_gravity_CalmIn p0 p1).1.2 == (Go.IntKind.wrap .i64 ((((List.length p0) : Nat) : Int) - (1 : Int))))) = false) →
                  (lenOk (s_gravity_RoughIn p0 p1).1)) ∧
                  ((((cond ((t_gravity_CalmIn p0 p1).1.1 == (0 : Int)) true (v_has (s_gravity_RoughIn p0 p1).1 (Go.IntKind.wrap .i64 ((t_gravity_CalmIn p0 p1).1.1 - (1 : Int))))) = true) →
                  ((cond ((t_gravity_CalmIn p0 p1).1.1 == (0 : Int)) true (v_has (s_gravity_RoughIn p0 p1).1 (Go.IntKind.wrap .i64 ((t_gravity_CalmIn p0 p1).1.1 - (1 : Int))))) = (cond ((t_gravity_CalmIn p0 p1).1.1 == (0 : Int)) true (v_has (s_gravity_RoughIn p0 p1).1 (Go.IntKind.wrap .i64 ((t_gravity_CalmIn p0 p1).1.1 - (1 : Int))))))) ∧
                  ((((cond ((t_gravity_CalmIn p0 p1).1.1 == (0 : Int)) true (v_has (s_gravity_RoughIn p0 p1).1 (Go.IntKind.wrap .i64 ((t_gravity_CalmIn p0 p1).1.1 - (1 : Int))))) = true) →
                  (((!(cond ((t_gravity_CalmIn p0 p1).1.1 == (0 : Int)) true (v_has (s_gravity_RoughIn p0 p1).1 (Go.IntKind.wrap .i64 ((t_gravity_CalmIn p0 p1).1.1 - (1 : Int)))))) || ((t_gravity_CalmIn p0 p1).1.2 == (Go.IntKind.wrap .i64 ((((List.length p0) : Nat) : Int) - (1 : Int))))) = ((t_gravity_CalmIn p0 p1).1.2 == (Go.IntKind.wrap .i64 ((((List.length p0) : Nat) : Int) - (1 : Int)))))) ∧
                  (((cond ((t_gravity_CalmIn p0 p1).1.1 == (0 : Int)) true (v_has (s_gravity_RoughIn p0 p1).1 (Go.IntKind.wrap .i64 ((t_gravity_CalmIn p0 p1).1.1 - (1 : Int))))) = (cond ((t_gravity_CalmIn p0 p1).1.1 == (0 : Int)) true (v_has (s_gravity_RoughIn p0 p1).1 (Go.IntKind.wrap .i64 ((t_gravity_CalmIn p0 p1).1.1 - (1 : Int)))))) ∧
                  (K (cond (cond ((t_gravity_CalmIn p0 p1).1.1 == (0 : Int)) true (v_has (s_gravity_RoughIn p0 p1).1 (Go.IntKind.wrap .i64 ((t_gravity_CalmIn p0 p1).1.1 - (1 : Int))))) (cond ((t_gravity_CalmIn p0 p1).1.2 == (Go.IntKind.wrap .i64 ((((List.length p0) : Nat) : Int) - (1 : Int)))) true (v_has (s_gravity_RoughIn p0 p1).1 (Go.IntKind.wrap .i64 ((t_gravity_CalmIn p0 p1).1.2 + (1 : Int))))) false))))))))))))))))))))))))) n0 (t_gravity_CalmIn p0 p1).1.1))))))))))))))))))))))))))))))))))))))) ∧
      ((((s_ref05_HeightsErr p0) == (0 : Int)) = false) →
      (((((s_ref05_HeightsErr p0) != (0 : Int)) = true) →
        (((((s_gravity_RoughIn p0 p1).2 == (s_ref05_HeightsErr p0)) = true) →
          (((s_gravity_RoughIn p0 p1).2 == (s_ref05_HeightsErr p0)) = ((s_gravity_RoughIn p0 p1).2 == (s_ref05_HeightsErr p0)))) ∧
          (((((s_gravity_RoughIn p0 p1).2 == (s_ref05_HeightsErr p0)) = true) →
          (((s_gravity_RoughIn p0 p1).2 == (s_ref05_HeightsErr p0)) = ((s_gravity_RoughIn p0 p1).2 == (s_ref05_HeightsErr p0)))) ∧
          ((((s_gravity_RoughIn p0 p1).2 == (s_ref05_HeightsErr p0)) = ((s_gravity_RoughIn p0 p1).2 == (s_ref05_HeightsErr p0))) ∧
          ((((cond ((s_gravity_RoughIn p0 p1).2 == (s_ref05_HeightsErr p0)) ((t_gravity_CalmIn p0 p1).2 == (s_ref05_HeightsErr p0)) false) = true) →
          ((cond ((s_gravity_RoughIn p0 p1).2 == (s_ref05_HeightsErr p0)) ((t_gravity_CalmIn p0 p1).2 == (s_ref05_HeightsErr p0)) false) = (cond ((s_gravity_RoughIn p0 p1).2 == (s_ref05_HeightsErr p0)) ((t_gravity_CalmIn p0 p1).2 == (s_ref05_HeightsErr p0)) false))) ∧
          ((((cond ((s_gravity_RoughIn p0 p1).2 == (s_ref05_HeightsErr p0)) ((t_gravity_CalmIn p0 p1).2 == (s_ref05_HeightsErr p0)) false) = true) →
          ((cond ((s_gravity_RoughIn p0 p1).2 == (s_ref05_HeightsErr p0)) ((t_gravity_CalmIn p0 p1).2 == (s_ref05_HeightsErr p0)) false) = (cond ((s_gravity_RoughIn p0 p1).2 == (s_ref05_HeightsErr p0)) ((t_gravity_CalmIn p0 p1).2 == (s_ref05_HeightsErr p0)) false))) ∧
          (((cond ((s_gravity_RoughIn p0 p1).2 == (s_ref05_HeightsErr p0)) ((t_gravity_CalmIn p0 p1).2 == (s_ref05_HeightsErr p0)) false) = (cond ((s_gravity_RoughIn p0 p1).2 == (s_ref05_HeightsErr p0)) ((t_gravity_CalmIn p0 p1).2 == (s_ref05_HeightsErr p0)) false)) ∧
          ((((cond (cond ((s_gravity_RoughIn p0 p1).2 == (s_ref05_HeightsErr p0)) ((t_gravity_CalmIn p0 p1).2 == (s_ref05_HeightsErr p0)) false) ((((List.length (s_gravity_RoughIn p0 p1).1) : Nat) : Int) == (0 : Int)) false) = true) →
          ((cond (cond ((s_gravity_RoughIn p0 p1).2 == (s_ref05_HeightsErr p0)) ((t_gravity_CalmIn p0 p1).2 == (s_ref05_HeightsErr p0)) false) ((((List.length (s_gravity_RoughIn p0 p1).1) : Nat) : Int) == (0 : Int)) false) = (cond (cond ((s_gravity_RoughIn p0 p1).2 == (s_ref05_HeightsErr p0)) ((t_gravity_CalmIn p0 p1).2 == (s_ref05_HeightsErr p0)) false) ((((List.length (s_gravity_RoughIn p0 p1).1) : Nat) : Int) == (0 : Int)) false))) ∧
          ((((cond (cond ((s_gravity_RoughIn p0 p1).2 == (s_ref05_HeightsErr p0)) ((t_gravity_CalmIn p0 p1).2 == (s_ref05_HeightsErr p0)) false) ((((List.length (s_gravity_RoughIn p0 p1).1) : Nat) : Int) == (0 : Int)) false) = true) →
          ((cond (cond ((s_gravity_RoughIn p0 p1).2 == (s_ref05_HeightsErr p0)) ((t_gravity_CalmIn p0 p1).2 == (s_ref05_HeightsErr p0)) false) ((((List.length (s_gravity_RoughIn p0 p1).1) : Nat) : Int) == (0 : Int)) false) = (cond (cond ((s_gravity_RoughIn p0 p1).2 == (s_ref05_HeightsErr p0)) ((t_gravity_CalmIn p0 p1).2 == (s_ref05_HeightsErr p0)) false) ((((List.length (s_gravity_RoughIn p0 p1).1) : Nat) : Int) == (0 : Int)) false))) ∧
          (((cond (cond ((s_gravity_RoughIn p0 p1).2 == (s_ref05_HeightsErr p0)) ((t_gravity_CalmIn p0 p1).2 == (s_ref05_HeightsErr p0)) false) ((((List.length (s_gravity_RoughIn p0 p1).1) : Nat) : Int) == (0 : Int)) false) = (cond (cond ((s_gravity_RoughIn p0 p1).2 == (s_ref05_HeightsErr p0)) ((t_gravity_CalmIn p0 p1).2 == (s_ref05_HeightsErr p0)) false) ((((List.length (s_gravity_RoughIn p0 p1).1) : Nat) : Int) == (0 : Int)) false)) ∧
          (K (cond (cond (cond ((s_gravity_RoughIn p0 p1).2 == (s_ref05_HeightsErr p0)) ((t_gravity_CalmIn p0 p1).2 == (s_ref05_HeightsErr p0)) false) ((((List.length (s_gravity_RoughIn p0 p1).1) : Nat) : Int) == (0 : Int)) false) (((t_gravity_CalmIn p0 p1).1.1 == (0 : Int)) && (((t_gravity_CalmIn p0 p1).1.2 == (0 : Int)) && true)) false)))))))))))) ∧
        ((((s_ref05_HeightsErr p0) != (0 : Int)) = false) →
        (((List.length p0) ≤ 1000000) ∧
          (((((s_gravity_RoughIn p0 p1).2 != (0 : Int)) = false) →
          (((s_gravity_RoughIn p0 p1).2 != (0 : Int)) = ((s_gravity_RoughIn p0 p1).2 != (0 : Int)))) ∧
          (((((s_gravity_RoughIn p0 p1).2 != (0 : Int)) = false) →
          (((s_gravity_RoughIn p0 p1).2 != (0 : Int)) = ((s_gravity_RoughIn p0 p1).2 != (0 : Int)))) ∧
          (((((s_gravity_RoughIn p0 p1).2 != (0 : Int)) = false) →
          ((List.length p0) ≤ 1000000)) ∧
          (((((s_gravity_RoughIn p0 p1).2 != (0 : Int)) = false) →
          (((s_gravity_RoughIn p0 p1).2 != (0 : Int)) = ((s_gravity_RoughIn p0 p1).2 != (0 : Int)))) ∧
          (((((s_gravity_RoughIn p0 p1).2 != (0 : Int)) = false) →
          (((s_gravity_RoughIn p0 p1).2 != (0 : Int)) = ((s_gravity_RoughIn p0 p1).2 != (0 : Int)))) ∧
          (((((s_gravity_RoughIn p0 p1).2 != (0 : Int)) = false) →
          (lenOk (s_gravity_RoughIn p0 p1).1)) ∧
          (((((s_gravity_RoughIn p0 p1).2 != (0 : Int)) = false) →
          (((s_gravity_RoughIn p0 p1).2 != (0 : Int)) = ((s_gravity_RoughIn p0 p1).2 != (0 : Int)))) ∧
          ((((s_gravity_RoughIn p0 p1).2 != (0 : Int)) = ((s_gravity_RoughIn p0 p1).2 != (0 : Int))) ∧
          ((((cond ((s_gravity_RoughIn p0 p1).2 != (0 : Int)) true (!(decide ((s_gravity_RoughIn p0 p1).1 = (v_rough p1 (0 : Int) p0))))) = false) →
          ((cond ((s_gravity_RoughIn p0 p1).2 != (0 : Int)) true (!(decide ((s_gravity_RoughIn p0 p1).1 = (v_rough p1 (0 : Int) p0))))) = (cond ((s_gravity_RoughIn p0 p1).2 != (0 : Int)) true (!(decide ((s_gravity_RoughIn p0 p1).1 = (v_rough p1 (0 : Int) p0))))))) ∧
          (((((!(cond ((s_gravity_RoughIn p0 p1).2 != (0 : Int)) true (!(decide ((s_gravity_RoughIn p0 p1).1 = (v_rough p1 (0 : Int) p0)))))) && (v_calmE p0 p1).1) = true) →
          (((!(cond ((s_gravity_RoughIn p0 p1).2 != (0 : Int)) true (!(decide ((s_gravity_RoughIn p0 p1).1 = (v_rough p1 (0 : Int) p0)))))) && (v_calmE p0 p1).1) = ((!(cond ((s_gravity_RoughIn p0 p1).2 != (0 : Int)) true (!(decide ((s_gravity_RoughIn p0 p1).1 = (v_rough p1 (0 : Int) p0)))))) && (v_calmE p0 p1).1))) ∧
          (((((!(cond ((s_gravity_RoughIn p0 p1).2 != (0 : Int)) true (!(decide ((s_gravity_RoughIn p0 p1).1 = (v_rough p1 (0 : Int) p0)))))) && (v_calmE p0 p1).1) = true) →
          (((!(cond ((s_gravity_RoughIn p0 p1).2 != (0 : Int)) true (!(decide ((s_gravity_RoughIn p0 p1).1 = (v_rough p1 (0 : Int) p0)))))) && (v_calmE p0 p1).1) = ((!(cond ((s_gravity_RoughIn p0 p1).2 != (0 : Int)) true (!(decide ((s_gravity_RoughIn p0 p1).1 = (v_rough p1 (0 : Int) p0)))))) && (v_calmE p0 p1).1))) ∧
          (((((!((!(cond ((s_gravity_RoughIn p0 p1).2 != (0 : Int)) true (!(decide ((s_gravity_RoughIn p0 p1).1 = (v_rough p1 (0 : Int) p0)))))) && (v_calmE p0 p1).1)) || ((t_gravity_CalmIn p0 p1).2 != (0 : Int))) = false) →
          (((!((!(cond ((s_gravity_RoughIn p0 p1).2 != (0 : Int)) true (!(decide ((s_gravity_RoughIn p0 p1).1 = (v_rough p1 (0 : Int) p0)))))) && (v_calmE p0 p1).1)) || ((t_gravity_CalmIn p0 p1).2 != (0 : Int))) = ((!((!(cond ((s_gravity_RoughIn p0 p1).2 != (0 : Int)) true (!(decide ((s_gravity_RoughIn p0 p1).1 = (v_rough p1 (0 : Int) p0)))))) && (v_calmE p0 p1).1)) || ((t_gravity_CalmIn p0 p1).2 != (0 : Int))))) ∧
          (((((!((!(cond ((s_gravity_RoughIn p0 p1).2 != (0 : Int)) true (!(decide ((s_gravity_RoughIn p0 p1).1 = (v_rough p1 (0 : Int) p0)))))) && (v_calmE p0 p1).1)) || ((t_gravity_CalmIn p0 p1).2 != (0 : Int))) = false) →
          (((!((!(cond ((s_gravity_RoughIn p0 p1).2 != (0 : Int)) true (!(decide ((s_gravity_RoughIn p0 p1).1 = (v_rough p1 (0 : Int) p0)))))) && (v_calmE p0 p1).1)) || ((t_gravity_CalmIn p0 p1).2 != (0 : Int))) = ((!((!(cond ((s_gravity_RoughIn p0 p1).2 != (0 : Int)) true (!(decide ((s_gravity_RoughIn p0 p1).1 = (v_rough p1 (0 : Int) p0)))))) && (v_calmE p0 p1).1)) || ((t_gravity_CalmIn p0 p1).2 != (0 : Int))))) ∧
          (((((!(cond ((s_gravity_RoughIn p0 p1).2 != (0 : Int)) true (!(decide ((s_gravity_RoughIn p0 p1).1 = (v_rough p1 (0 : Int) p0)))))) && (v_calmE p0 p1).1) = true) →
          (((!(cond ((s_gravity_RoughIn p0 p1).2 != (0 : Int)) true (!(decide ((s_gravity_RoughIn p0 p1).1 = (v_rough p1 (0 : Int) p0)))))) && (v_calmE p0 p1).1) = ((!(cond ((s_gravity_RoughIn p0 p1).2 != (0 : Int)) true (!(decide ((s_gravity_RoughIn p0 p1).1 = (v_rough p1 (0 : Int) p0)))))) && (v_calmE p0 p1).1))) ∧
          (((((!(cond ((s_gravity_RoughIn p0 p1).2 != (0 : Int)) true (!(decide ((s_gravity_RoughIn p0 p1).1 = (v_rough p1 (0 : Int) p0)))))) && (v_calmE p0 p1).1) = true) →
          (((!((!(cond ((s_gravity_RoughIn p0 p1).2 != (0 : Int)) true (!(decide ((s_gravity_RoughIn p0 p1).1 = (v_rough p1 (0 : Int) p0)))))) && (v_calmE p0 p1).1)) || ((t_gravity_CalmIn p0 p1).2 != (0 : Int))) = ((t_gravity_CalmIn p0 p1).2 != (0 : Int)))) ∧
          ((((cond ((s_gravity_RoughIn p0 p1).2 != (0 : Int)) true (!(decide ((s_gravity_RoughIn p0 p1).1 = (v_rough p1 (0 : Int) p0))))) = false) →
          ((cond ((s_gravity_RoughIn p0 p1).2 != (0 : Int)) true (!(decide ((s_gravity_RoughIn p0 p1).1 = (v_rough p1 (0 : Int) p0))))) = (cond ((s_gravity_RoughIn p0 p1).2 != (0 : Int)) true (!(decide ((s_gravity_RoughIn p0 p1).1 = (v_rough p1 (0 : Int) p0))))))) ∧
          ((((cond ((s_gravity_RoughIn p0 p1).2 != (0 : Int)) true (!(decide ((s_gravity_RoughIn p0 p1).1 = (v_rough p1 (0 : Int) p0))))) = false) →
          (((!(cond ((s_gravity_RoughIn p0 p1).2 != (0 : Int)) true (!(decide ((s_gravity_RoughIn p0 p1).1 = (v_rough p1 (0 : Int) p0)))))) && (v_calmE p0 p1).1) = (v_calmE p0 p1).1)) ∧
          (((cond ((s_gravity_RoughIn p0 p1).2 != (0 : Int)) true (!(decide ((s_gravity_RoughIn p0 p1).1 = (v_rough p1 (0 : Int) p0))))) = (cond ((s_gravity_RoughIn p0 p1).2 != (0 : Int)) true (!(decide ((s_gravity_RoughIn p0 p1).1 = (v_rough p1 (0 : Int) p0)))))) ∧
          ((((cond (cond ((s_gravity_RoughIn p0 p1).2 != (0 : Int)) true (!(decide ((s_gravity_RoughIn p0 p1).1 = (v_rough p1 (0 : Int) p0))))) true (cond (v_calmE p0 p1).1 (cond ((t_gravity_CalmIn p0 p1).2 != (0 : Int)) true (!(((t_gravity_CalmIn p0 p1).1.1 == (v_calmE p0 p1).2.1) && (((t_gravity_CalmIn p0 p1).1.2 == (v_calmE p0 p1).2.2) && true)))) false)) = false) →
          ((cond (cond ((s_gravity_RoughIn p0 p1).2 != (0 : Int)) true (!(decide ((s_gravity_RoughIn p0 p1).1 = (v_rough p1 (0 : Int) p0))))) true (cond (v_calmE p0 p1).1 (cond ((t_gravity_CalmIn p0 p1).2 != (0 : Int)) true (!(((t_gravity_CalmIn p0 p1).1.1 == (v_calmE p0 p1).2.1) && (((t_gravity_CalmIn p0 p1).1.2 == (v_calmE p0 p1).2.2) && true)))) false)) = (cond (cond ((s_gravity_RoughIn p0 p1).2 != (0 : Int)) true (!(decide ((s_gravity_RoughIn p0 p1).1 = (v_rough p1 (0 : Int) p0))))) true (cond (v_calmE p0 p1).1 (cond ((t_gravity_CalmIn p0 p1).2 != (0 : Int)) true (!(((t_gravity_CalmIn p0 p1).1.1 == (v_calmE p0 p1).2.1) && (((t_gravity_CalmIn p0 p1).1.2 == (v_calmE p0 p1).2.2) && true)))) false)))) ∧
          ((((cond (cond ((s_gravity_RoughIn p0 p1).2 != (0 : Int)) true (!(decide ((s_gravity_RoughIn p0 p1).1 = (v_rough p1 (0 : Int) p0))))) true (cond (v_calmE p0 p1).1 (cond ((t_gravity_CalmIn p0 p1).2 != (0 : Int)) true (!(((t_gravity_CalmIn p0 p1).1.1 == (v_calmE p0 p1).2.1) && (((t_gravity_CalmIn p0 p1).1.2 == (v_calmE p0 p1).2.2) && true)))) false)) = false) →
          ((cond (cond ((s_gravity_RoughIn p0 p1).2 != (0 : Int)) true (!(decide ((s_gravity_RoughIn p0 p1).1 = (v_rough p1 (0 : Int) p0))))) true (cond (v_calmE p0 p1).1 (cond ((t_gravity_CalmIn p0 p1).2 != (0 : Int)) true (!(((t_gravity_CalmIn p0 p1).1.1 == (v_calmE p0 p1).2.1) && (((t_gravity_CalmIn p0 p1).1.2 == (v_calmE p0 p1).2.2) && true)))) false)) = (cond (cond ((s_gravity_RoughIn p0 p1).2 != (0 : Int)) true (!(decide ((s_gravity_RoughIn p0 p1).1 = (v_rough p1 (0 : Int) p0))))) true (cond (v_calmE p0 p1).1 (cond ((t_gravity_CalmIn p0 p1).2 != (0 : Int)) true (!(((t_gravity_CalmIn p0 p1).1.1 == (v_calmE p0 p1).2.1) && (((t_gravity_CalmIn p0 p1).1.2 == (v_calmE p0 p1).2.2) && true)))) false)))) ∧
          (((((!(cond (cond ((s_gravity_RoughIn p0 p1).2 != (0 : Int)) true (!(decide ((s_gravity_RoughIn p0 p1).1 = (v_rough p1 (0 : Int) p0))))) true (cond (v_calmE p0 p1).1 (cond ((t_gravity_CalmIn p0 p1).2 != (0 : Int)) true (!(((t_gravity_CalmIn p0 p1).1.1 == (v_calmE p0 p1).2.1) && (((t_gravity_CalmIn p0 p1).1.2 == (v_calmE p0 p1).2.2) && true)))) false))) && (!(v_calmE p0 p1).1)) = true) →
          (((!(cond (cond ((s_gravity_RoughIn p0 p1).2 != (0 : Int)) true (!(decide ((s_gravity_RoughIn p0 p1).1 = (v_rough p1 (0 : Int) p0))))) true (cond (v_calmE p0 p1).1 (cond ((t_gravity_CalmIn p0 p1).2 != (0 : Int)) true (!(((t_gravity_CalmIn p0 p1).1.1 == (v_calmE p0 p1).2.1) && (((t_gravity_CalmIn p0 p1).1.2 == (v_calmE p0 p1).2.2) && true)))) false))) && (!(v_calmE p0 p1).1)) = ((!(cond (cond ((s_gravity_RoughIn p0 p1).2 != (0 : Int)) true (!(decide ((s_gravity_RoughIn p0 p1).1 = (v_rough p1 (0 : Int) p0))))) true (cond (v_calmE p0 p1).1 (cond ((t_gravity_CalmIn p0 p1).2 != (0 : Int)) true (!(((t_gravity_CalmIn p0 p1).1.1 == (v_calmE p0 p1).2.1) && (((t_gravity_CalmIn p0 p1).1.2 == (v_calmE p0 p1).2.2) && true)))) false))) && (!(v_calmE p0 p1).1)))) ∧
          (((((!(cond (cond ((s_gravity_RoughIn p0 p1).2 != (0 : Int)) true (!(decide ((s_gravity_RoughIn p0 p1).1 = (v_rough p1 (0 : Int) p0))))) true (cond (v_calmE p0 p1).1 (cond ((t_gravity_CalmIn p0 p1).2 != (0 : Int)) true (!(((t_gravity_CalmIn p0 p1).1.1 == (v_calmE p0 p1).2.1) && (((t_gravity_CalmIn p0 p1).1.2 == (v_calmE p0 p1).2.2) && true)))) false))) && (!(v_calmE p0 p1).1)) = true) →
          (((!(cond (cond ((s_gravity_RoughIn p0 p1).2 != (0 : Int)) true (!(decide ((s_gravity_RoughIn p0 p1).1 = (v_rough p1 (0 : Int) p0))))) true (cond (v_calmE p0 p1).1 (cond ((t_gravity_CalmIn p0 p1).2 != (0 : Int)) true (!(((t_gravity_CalmIn p0 p1).1.1 == (v_calmE p0 p1).2.1) && (((t_gravity_CalmIn p0 p1).1.2 == (v_calmE p0 p1).2.2) && true)))) false))) && (!(v_calmE p0 p1).1)) = ((!(cond (cond ((s_gravity_RoughIn p0 p1).2 != (0 : Int)) true (!(decide ((s_gravity_RoughIn p0 p1).1 = (v_rough p1 (0 : Int) p0))))) true (cond (v_calmE p0 p1).1 (cond ((t_gravity_CalmIn p0 p1).2 != (0 : Int)) true (!(((t_gravity_CalmIn p0 p1).1.1 == (v_calmE p0 p1).2.1) && (((t_gravity_CalmIn p0 p1).1.2 == (v_calmE p0 p1).2.2) && true)))) false))) && (!(v_calmE p0 p1).1)))) ∧
          (((((!((!(cond (cond ((s_gravity_RoughIn p0 p1).2 != (0 : Int)) true (!(decide ((s_gravity_RoughIn p0 p1).1 = (v_rough p1 (0 : Int) p0))))) true (cond (v_calmE p0 p1).1 (cond ((t_gravity_CalmIn p0 p1).2 != (0 : Int)) true (!(((t_gravity_CalmIn p0 p1).1.1 == (v_calmE p0 p1).2.1) && (((t_gravity_CalmIn p0 p1).1.2 == (v_calmE p0 p1).2.2) && true)))) false))) && (!(v_calmE p0 p1).1))) || ((t_gravity_CalmIn p0 p1).2 != (12 : Int))) = false) →
          (((!((!(cond (cond ((s_gravity_RoughIn p0 p1).2 != (0 : Int)) true (!(decide ((s_gravity_RoughIn p0 p1).1 = (v_rough p1 (0 : Int) p0))))) true (cond (v_calmE p0 p1).1 (cond ((t_gravity_CalmIn p0 p1).2 != (0 : Int)) true (!(((t_gravity_CalmIn p0 p1).1.1 == (v_calmE p0 p1).2.1) && (((t_gravity_CalmIn p0 p1).1.2 == (v_calmE p0 p1).2.2) && true)))) false))) && (!(v_calmE p0 p1).1))) || ((t_gravity_CalmIn p0 p1).2 != (12 : Int))) = ((!((!(cond (cond ((s_gravity_RoughIn p0 p1).2 != (0 : Int)) true (!(decide ((s_gravity_RoughIn p0 p1).1 = (v_rough p1 (0 : Int) p0))))) true (cond (v_calmE p0 p1).1 (cond ((t_gravity_CalmIn p0 p1).2 != (0 : Int)) true (!(((t_gravity_CalmIn p0 p1).1.1 == (v_calmE p0 p1).2.1) && (((t_gravity_CalmIn p0 p1).1.2 == (v_calmE p0 p1).2.2) && true)))) false))) && (!(v_calmE p0 p1).1))) || ((t_gravity_CalmIn p0 p1).2 != (12 : Int))))) ∧
          (((((!((!(cond (cond ((s_gravity_RoughIn p0 p1).2 != (0 : Int)) true (!(decide ((s_gravity_RoughIn p0 p1).1 = (v_rough p1 (0 : Int) p0))))) true (cond (v_calmE p0 p1).1 (cond ((t_gravity_CalmIn p0 p1).2 != (0 : Int)) true (!(((t_gravity_CalmIn p0 p1).1.1 == (v_calmE p0 p1).2.1) && (((t_gravity_CalmIn p0 p1).1.2 == (v_calmE p0 p1).2.2) && true)))) false))) && (!(v_calmE p0 p1).1))) || ((t_gravity_CalmIn p0 p1).2 != (12 : Int))) = false) →
          (((!((!(cond (cond ((s_gravity_RoughIn p0 p1).2 != (0 : Int)) true (!(decide ((s_gravity_RoughIn p0 p1).1 = (v_rough p1 (0 : Int) p0))))) true (cond (v_calmE p0 p1).1 (cond ((t_gravity_CalmIn p0 p1).2 != (0 : Int)) true (!(((t_gravity_CalmIn p0 p1).1.1 == (v_calmE p0 p1).2.1) && (((t_gravity_CalmIn p0 p1).1.2 == (v_calmE p0 p1).2.2) && true)))) false))) && (!(v_calmE p0 p1).1))) || ((t_gravity_CalmIn p0 p1).2 != (12 : Int))) = ((!((!(cond (cond ((s_gravity_RoughIn p0 p1).2 != (0 : Int)) true (!(decide ((s_gravity_RoughIn p0 p1).1 = (v_rough p1 (0 : Int) p0))))) true (cond (v_calmE p0 p1).1 (cond ((t_gravity_CalmIn p0 p1).2 != (0 : Int)) true (!(((t_gravity_CalmIn p0 p1).1.1 == (v_calmE p0 p1).2.1) && (((t_gravity_CalmIn p0 p1).1.2 == (v_calmE p0 p1).2.2) && true)))) false))) && (!(v_calmE p0 p1).1))) || ((t_gravity_CalmIn p0 p1).2 != (12 : Int))))) ∧
          (((((!(cond (cond ((s_gravity_RoughIn p0 p1).2 != (0 : Int)) true (!(decide ((s_gravity_RoughIn p0 p1).1 = (v_rough p1 (0 : Int) p0))))) true (cond (v_calmE p0 p1).1 (cond ((t_gravity_CalmIn p0 p1).2 != (0 : Int)) true (!(((t_gravity_CalmIn p0 p1).1.1 == (v_calmE p0 p1).2.1) && (((t_gravity_CalmIn p0 p1).1.2 == (v_calmE p0 p1).2.2) && true)))) false))) && (!(v_calmE p0 p1).1)) = true) →
          (((!(cond (cond ((s_gravity_RoughIn p0 p1).2 != (0 : Int)) true (!(decide ((s_gravity_RoughIn p0 p1).1 = (v_rough p1 (0 : Int) p0))))) true (cond (v_calmE p0 p1).1 (cond ((t_gravity_CalmIn p0 p1).2 != (0 : Int)) true (!(((t_gravity_CalmIn p0 p1).1.1 == (v_calmE p0 p1).2.1) && (((t_gravity_CalmIn p0 p1).1.2 == (v_calmE p0 p1).2.2) && true)))) false))) && (!(v_calmE p0 p1).1)) = ((!(cond (cond ((s_gravity_RoughIn p0 p1).2 != (0 : Int)) true (!(decide ((s_gravity_RoughIn p0 p1).1 = (v_rough p1 (0 : Int) p0))))) true (cond (v_calmE p0 p1).1 (cond ((t_gravity_CalmIn p0 p1).2 != (0 : Int)) true (!(((t_gravity_CalmIn p0 p1).1.1 == (v_calmE p0 p1).2.1) && (((t_gravity_CalmIn p0 p1).1.2 == (v_calmE p0 p1).2.2) && true)))) false))) && (!(v_calmE p0 p1).1)))) ∧
          (((((!(cond (cond ((s_gravity_RoughIn p0 p1).2 != (0 : Int)) true (!(decide ((s_gravity_RoughIn p0 p1).1 = (v_rough p1 (0 : Int) p0))))) true (cond (v_calmE p0 p1).1 (cond ((t_gravity_CalmIn p0 p1).2 != (0 : Int)) true (!(((t_gravity_CalmIn p0 p1).1.1 == (v_calmE p0 p1).2.1) && (((t_gravity_CalmIn p0 p1).1.2 == (v_calmE p0 p1).2.2) && true)))) false))) && (!(v_calmE p0 p1).1)) = true) →
          (((!((!(cond (cond ((s_gravity_RoughIn p0 p1).2 != (0 : Int)) true (!(decide ((s_gravity_RoughIn p0 p1).1 = (v_rough p1 (0 : Int) p0))))) true (cond (v_calmE p0 p1).1 (cond ((t_gravity_CalmIn p0 p1).2 != (0 : Int)) true (!(((t_gravity_CalmIn p0 p1).1.1 == (v_calmE p0 p1).2.1) && (((t_gravity_CalmIn p0 p1).1.2 == (v_calmE p0 p1).2.2) && true)))) false))) && (!(v_calmE p0 p1).1))) || ((t_gravity_CalmIn p0 p1).2 != (12 : Int))) = ((t_gravity_CalmIn p0 p1).2 != (12 : Int)))) ∧
          ((((cond (cond ((s_gravity_RoughIn p0 p1).2 != (0 : Int)) true (!(decide ((s_gravity_RoughIn p0 p1).1 = (v_rough p1 (0 : Int) p0))))) true (cond (v_calmE p0 p1).1 (cond ((t_gravity_CalmIn p0 p1).2 != (0 : Int)) true (!(((t_gravity_CalmIn p0 p1).1.1 == (v_calmE p0 p1).2.1) && (((t_gravity_CalmIn p0 p1).1.2 == (v_calmE p0 p1).2.2) && true)))) false)) = false) →
          ((cond (cond ((s_gravity_RoughIn p0 p1).2 != (0 : Int)) true (!(decide ((s_gravity_RoughIn p0 p1).1 = (v_rough p1 (0 : Int) p0))))) true (cond (v_calmE p0 p1).1 (cond ((t_gravity_CalmIn p0 p1).2 != (0 : Int)) true (!(((t_gravity_CalmIn p0 p1).1.1 == (v_calmE p0 p1).2.1) && (((t_gravity_CalmIn p0 p1).1.2 == (v_calmE p0 p1).2.2) && true)))) false)) = (cond (cond ((s_gravity_RoughIn p0 p1).2 != (0 : Int)) true (!(decide ((s_gravity_RoughIn p0 p1).1 = (v_rough p1 (0 : Int) p0))))) true (cond (v_calmE p0 p1).1 (cond ((t_gravity_CalmIn p0 p1).2 != (0 : Int)) true (!(((t_gravity_CalmIn p0 p1).1.1 == (v_calmE p0 p1).2.1) && (((t_gravity_CalmIn p0 p1).1.2 == (v_calmE p0 p1).2.2) && true)))) false)))) ∧
          ((((cond (cond ((s_gravity_RoughIn p0 p1).2 != (0 : Int)) true (!(decide ((s_gravity_RoughIn p0 p1).1 = (v_rough p1 (0 : Int) p0))))) true (cond (v_calmE p0 p1).1 (cond ((t_gravity_CalmIn p0 p1).2 != (0 : Int)) true (!(((t_gravity_CalmIn p0 p1).1.1 == (v_calmE p0 p1).2.1) && (((t_gravity_CalmIn p0 p1).1.2 == (v_calmE p0 p1).2.2) && true)))) false)) = false) →
          (((!(cond (cond ((s_gravity_RoughIn p0 p1).2 != (0 : Int)) true (!(decide ((s_gravity_RoughIn p0 p1).1 = (v_rough p1 (0 : Int) p0))))) true (cond (v_calmE p0 p1).1 (cond ((t_gravity_CalmIn p0 p1).2 != (0 : Int)) true (!(((t_gravity_CalmIn p0 p1).1.1 == (v_calmE p0 p1).2.1) && (((t_gravity_CalmIn p0 p1).1.2 == (v_calmE p0 p1).2.2) && true)))) false))) && (!(v_calmE p0 p1).1)) = (!(v_calmE p0 p1).1))) ∧
          (((cond (cond ((s_gravity_RoughIn p0 p1).2 != (0 : Int)) true (!(decide ((s_gravity_RoughIn p0 p1).1 = (v_rough p1 (0 : Int) p0))))) true (cond (v_calmE p0 p1).1 (cond ((t_gravity_CalmIn p0 p1).2 != (0 : Int)) true (!(((t_gravity_CalmIn p0 p1).1.1 == (v_calmE p0 p1).2.1) && (((t_gravity_CalmIn p0 p1).1.2 == (v_calmE p0 p1).2.2) && true)))) false)) = (cond (cond ((s_gravity_RoughIn p0 p1).2 != (0 : Int)) true (!(decide ((s_gravity_RoughIn p0 p1).1 = (v_rough p1 (0 : Int) p0))))) true (cond (v_calmE p0 p1).1 (cond ((t_gravity_CalmIn p0 p1).2 != (0 : Int)) true (!(((t_gravity_CalmIn p0 p1).1.1 == (v_calmE p0 p1).2.1) && (((t_gravity_CalmIn p0 p1).1.2 == (v_calmE p0 p1).2.2) && true)))) false))) ∧
          ((((cond (cond (cond ((s_gravity_RoughIn p0 p1).2 != (0 : Int)) true (!(decide ((s_gravity_RoughIn p0 p1).1 = (v_rough p1 (0 : Int) p0))))) true (cond (v_calmE p0 p1).1 (cond ((t_gravity_CalmIn p0 p1).2 != (0 : Int)) true (!(((t_gravity_CalmIn p0 p1).1.1 == (v_calmE p0 p1).2.1) && (((t_gravity_CalmIn p0 p1).1.2 == (v_calmE p0 p1).2.2) && true)))) false)) true (cond (!(v_calmE p0 p1).1) (cond ((t_gravity_CalmIn p0 p1).2 != (12 : Int)) true (!(((t_gravity_CalmIn p0 p1).1.1 == (0 : Int)) && (((t_gravity_CalmIn p0 p1).1.2 == (0 : Int)) && true)))) false)) = true) →
          (K false)) ∧
          (((cond (cond (cond ((s_gravity_RoughIn p0 p1).2 != (0 : Int)) true (!(decide ((s_gravity_RoughIn p0 p1).1 = (v_rough p1 (0 : Int) p0))))) true (cond (v_calmE p0 p1).1 (cond ((t_gravity_CalmIn p0 p1).2 != (0 : Int)) true (!(((t_gravity_CalmIn p0 p1).1.1 == (v_calmE p0 p1).2.1) && (((t_gravity_CalmIn p0 p1).1.2 == (v_calmE p0 p1).2.2) && true)))) false)) true (cond (!(v_calmE p0 p1).1) (cond ((t_gravity_CalmIn p0 p1).2 != (12 : Int)) true (!(((t_gravity_CalmIn p0 p1).1.1 == (0 : Int)) && (((t_gravity_CalmIn p0 p1).1.2 == (0 : Int)) && true)))) false)) = false) →
          ((((!(v_calmE p0 p1).1) = true) →
            (K ((((List.length (s_gravity_RoughIn p0 p1).1) : Nat) : Int) == (((List.length p0) : Nat) : Int)))) ∧
            (((!(v_calmE p0 p1).1) = false) →
            (∃ n3, (loopP (fun (y4 : Int) k5 =>
                ((((decide (y4 ≤ (t_gravity_CalmIn p0 p1).1.2)) = true) →
                ((lenOk (s_gravity_RoughIn p0 p1).1) ∧
                  ((((v_has (s_gravity_RoughIn p0 p1).1 y4) = true) →
                  (K false)) ∧
                  (((v_has (s_gravity_RoughIn p0 p1).1 y4) = false) →
                  (k5 (Go.IntKind.wrap .i64 (y4 + (1 : Int)))))))) ∧
                (((decide (y4 ≤ (t_gravity_CalmIn p0 p1).1.2)) = false) →
                (((((t_gravity_CalmIn p0 p1).1.1 == (0 : Int)) = false) →
                  (((t_gravity_CalmIn p0 p1).1.1 == (0 : Int)) = ((t_gravity_CalmIn p0 p1).1.1 == (0 : Int)))) ∧
                  (((((t_gravity_CalmIn p0 p1).1.1 == (0 : Int)) = false) →
                  (((t_gravity_CalmIn p0 p1).1.1 == (0 : Int)) = ((t_gravity_CalmIn p0 p1).1.1 == (0 : Int)))) ∧
                  (((((t_gravity_CalmIn p0 p1).1.1 == (0 : Int)) = false) →
                  (((t_gravity_CalmIn p0 p1).1.1 == (0 : Int)) = ((t_gravity_CalmIn p0 p1).1.1 == (0 : Int)))) ∧
                  (((((t_gravity_CalmIn p0 p1).1.1 == (0 : Int)) = false) →
                  (((t_gravity_CalmIn p0 p1).1.1 == (0 : Int)) = ((t_gravity_CalmIn p0 p1).1.1 == (0 : Int)))) ∧
                  (((((t_gravity_CalmIn p0 p1).1.1 == (0 : Int)) = false) →
                  (lenOk (s_gravity_RoughIn p0 p1).1)) ∧
                  ((((t_gravity_CalmIn p0 p1).1.1 == (0 : Int)) = ((t_gravity_CalmIn p0 p1).1.1 == (0 : Int))) ∧
                  ((((cond ((t_gravity_CalmIn p0 p1).1.1 == (0 : Int)) true (v_has (s_gravity_RoughIn p0 p1).1 (Go.IntKind.wrap .i64 ((t_gravity_CalmIn p0 p1).1.1 - (1 : Int))))) = true) →
                  ((cond ((t_gravity_CalmIn p0 p1).1.1 == (0 : Int)) true (v_has (s_gravity_RoughIn p0 p1).1 (Go.IntKind.wrap .i64 ((t_gravity_CalmIn p0 p1).1.1 - (1 : Int))))) = (cond ((t_gravity_CalmIn p0 p1).1.1 == (0 : Int)) true (v_has (s_gravity_RoughIn p0 p1).1 (Go.IntKind.wrap .i64 ((t_gravity_CalmIn p0 p1).1.1 - (1 : Int))))))) ∧
                  ((((cond ((t_gravity_CalmIn p0 p1).1.1 == (0 : Int)) true (v_has (s_gravity_RoughIn p0 p1).1 (Go.IntKind.wrap .i64 ((t_gravity_CalmIn p0 p1).1.1 - (1 : Int))))) = true) →
                  ((cond ((t_gravity_CalmIn p0 p1).1.1 == (0 : Int)) true (v_has (s_gravity_RoughIn p0 p1).1 (Go.IntKind.wrap .i64 ((t_gravity_CalmIn p0 p1).1.1 - (1 : Int))))) = (cond ((t_gravity_CalmIn p0 p1).1.1 == (0 : Int)) true (v_has (s_gravity_RoughIn p0 p1).1 (Go.IntKind.wrap .i64 ((t_gravity_CalmIn p0 p1).1.1 - (1 : Int))))))) ∧
                  ((((cond ((t_gravity_CalmIn p0 p1).1.1 == (0 : Int)) true (v_has (s_gravity_RoughIn p0 p1).1 (Go.IntKind.wrap .i64 ((t_gravity_CalmIn p0 p1).1.1 - (1 : Int))))) = true) →
                  ((cond ((t_gravity_CalmIn p0 p1).1.1 == (0 : Int)) true (v_has (s_gravity_RoughIn p0 p1).1 (Go.IntKind.wrap .i64 ((t_gravity_CalmIn p0 p1).1.1 - (1 : Int))))) = (cond ((t_gravity_CalmIn p0 p1).1.1 == (0 : Int)) true (v_has (s_gravity_RoughIn p0 p1).1 (Go.IntKind.wrap .i64 ((t_gravity_CalmIn p0 p1).1.1 - (1 : Int))))))) ∧
                  ((((cond ((t_gravity_CalmIn p0 p1).1.1 == (0 : Int)) true (v_has (s_gravity_RoughIn p0 p1).1 (Go.IntKind.wrap .i64 ((t_gravity_CalmIn p0 p1).1.1 - (1 : Int))))) = true) →
                  ((cond ((t_gravity_CalmIn p0 p1).1.1 == (0 : Int)) true (v_has (s_gravity_RoughIn p0 p1).1 (Go.IntKind.wrap .i64 ((t_gravity_CalmIn p0 p1).1.1 - (1 : Int))))) = (cond ((t_gravity_CalmIn p0 p1).1.1 == (0 : Int)) true (v_has (s_gravity_RoughIn p0 p1).1 (Go.IntKind.wrap .i64 ((t_gravity_CalmIn p0 p1).1.1 - (1 : Int))))))) ∧
                  ((((cond ((t_gravity_CalmIn p0 p1).1.1 == (0 : Int)) true (v_has (s_gravity_RoughIn p0 p1).1 (Go.IntKind.wrap .i64 ((t_gravity_CalmIn p0 p1).1.1 - (1 : Int))))) = true) →
                  ((cond ((t_gravity_CalmIn p0 p1).1.1 == (0 : Int)) true (v_has (s_gravity_RoughIn p0 p1).1 (Go.IntKind.wrap .i64 ((t_gravity_CalmIn p0 p1).1.1 - (1 : Int))))) = (cond ((t_gravity_CalmIn p0 p1).1.1 == (0 : Int)) true (v_has (s_gravity_RoughIn p0 p1).1 (Go.IntKind.wrap .i64 ((t_gravity_CalmIn p0 p1).1.1 - (1 : Int))))))) ∧
                  ((((cond ((t_gravity_CalmIn p0 p1).1.1 == (0 : Int)) true (v_has (s_gravity_RoughIn p0 p1).1 (Go.IntKind.wrap .i64 ((t_gravity_CalmIn p0 p1).1.1 - (1 : Int))))) = true) →
                  ((cond ((t_gravity_CalmIn p0 p1).1.1 == (0 : Int)) true (v_has (s_gravity_RoughIn p0 p1).1 (Go.IntKind.wrap .i64 ((t_gravity_CalmIn p0 p1).1.1 - (1 : Int))))) = (cond ((t_gravity_CalmIn p0 p1).1.1 == (0 : Int)) true (v_has (s_gravity_RoughIn p0 p1).1 (Go.IntKind.wrap .i64 ((t_gravity_CalmIn p0 p1).1.1 - (1 : Int))))))) ∧
                  (((((!(cond ((t_gravity_CalmIn p0 p1).1.1 == (0 : Int)) true (v_has (s_gravity_RoughIn p0 p1).1 (Go.IntKind.wrap .i64 ((t_gravity_CalmIn p0 p1).1.1 - (1 : Int)))))) || ((t_gravity_CalmIn p0 p1).1.2 == (Go.IntKind.wrap .i64 ((((List.length p0) : Nat) : Int) - (1 : Int))))) = false) →
                  (((!(cond ((t_gravity_CalmIn p0 p1).1.1 == (0 : Int)) true (v_has (s_gravity_RoughIn p0 p1).1 (Go.IntKind.wrap .i64 ((t_gravity_CalmIn p0 p1).1.1 - (1 : Int)))))) || ((t_gravity_CalmIn p0 p1).1.2 == (Go.IntKind.wrap .i64 ((((List.length p0) : Nat) : Int) - (1 : Int))))) = ((!(cond ((t_gravity_CalmIn p0 p1).1.1 == (0 : Int)) true (v_has (s_gravity_RoughIn p0 p1).1 (Go.IntKind.wrap .i64 ((t_gravity_CalmIn p0 p1).1.1 - (1 : Int)))))) || ((t_gravity_CalmIn p0 p1).1.2 == (Go.IntKind.wrap .i64 ((((List.length p0) : Nat) : Int) - (1 : Int))))))) ∧
                  (((((!(cond ((t_gravity_CalmIn p0 p1).1.1 == (0 : Int)) true (v_has (s_gravity_RoughIn p0 p1).1 (Go.IntKind.wrap .i64 ((t_gravity_CalmIn p0 p1).1.1 - (1 : Int)))))) || ((t_gravity_CalmIn p0 p1).1.2 == (Go.IntKind.wrap .i64 ((((List.length p0) : Nat) : Int) - (1 : Int))))) = false) →
                  (((!(cond ((t_gravity_CalmIn p0 p1).1.1 == (0 : Int)) true (v_has (s_gravity_RoughIn p0 p1).1 (Go.IntKind.wrap .i64 ((t_gravity_CalmIn p0 p1).1.1 - (1 : Int)))))) || ((t_gravity_CalmIn p0 p1).1.2 == (Go.IntKind.wrap .i64 ((((List.length p0) : Nat) : Int) - (1 : Int))))) = ((!(cond ((t_gravity_CalmIn p0 p1).1.1 == (0 : Int)) true (v_has (s_gravity_RoughIn p0 p1).1 (Go.IntKind.wrap .i64 ((t_gravity_CalmIn p0 p1).1.1 - (1 : Int)))))) || ((t_gravity_CalmIn p0 p1).1.2 == (Go.IntKind.wrap .i64 ((((List.length p0) : Nat) : Int) - (1 : Int))))))) ∧
                  (((((!(cond ((t_gravity_CalmIn p0 p1).1.1 == (0 : Int)) true (v_has (s_gravity_RoughIn p0 p1).1 (Go.IntKind.wrap .i64 ((t_gravity_CalmIn p0 p1).1.1 - (1 : Int)))))) || ((t_gravity_CalmIn p0 p1).1.2 == (Go.IntKind.wrap .i64 ((((List.length p0) : Nat) : Int) - (1 : Int))))) = false) →
                  (((!(cond ((t_gravity_CalmIn p0 p1).1.1 == (0 : Int)) true (v_has (s_gravity_RoughIn p0 p1).1 (Go.IntKind.wrap .i64 ((t_gravity_CalmIn p0 p1).1.1 - (1 : Int)))))) || ((t_gravity_CalmIn p0 p1).1.2 == (Go.IntKind.wrap .i64 ((((List.length p0) : Nat) : Int) - (1 : Int))))) = ((!(cond ((t_gravity_CalmIn p0 p1).1.1 == (0 : Int)) true (v_has (s_gravity_RoughIn p0 p1).1 (Go.IntKind.wrap .i64 ((t_gravity_CalmIn p0 p1).1.1 - (1 : Int)))))) || ((t_gravity_CalmIn p0 p1).1.2 == (Go.IntKind.wrap .i64 ((((List.length p0) : Nat) : Int) - (1 : Int))))))) ∧
                  (((((!(cond ((t_gravity_CalmIn p0 p1).1.1 == (0 : Int)) true (v_has (s_gravity_RoughIn p0 p1).1 (Go.IntKind.wrap .i64 ((t_gravity_CalmIn p0 p1).1.1 - (1 : Int)))))) || ((t_gravity_CalmIn p0 p1).1.2 == (Go.IntKind.wrap .i64 ((((List.length p0) : Nat) : Int) - (1 : Int))))) = false) →
                  (((!(cond ((t_gravity_CalmIn p0 p1).1.1 == (0 : Int)) true (v_has (s_gravity_RoughIn p0 p1).1 (Go.IntKind.wrap .i64 ((t_gravity_CalmIn p0 p1).1.1 - (1 : Int)))))) || ((t_gravity_CalmIn p0 p1).1.2 == (Go.IntKind.wrap .i64 ((((List.length p0) : Nat) : Int) - (1 : Int))))) = ((!(cond ((t_gravity_CalmIn p0 p1).1.1 == (0 : Int)) true (v_has (s_gravity_RoughIn p0 p1).1 (Go.IntKind.wrap .i64 ((t_gravity_CalmIn p0 p1).1.1 - (1 : Int)))))) || ((t_gravity_CalmIn p0 p1).1.2 == (Go.IntKind.wrap .i64 ((((List.length p0) : Nat) : Int) - (1 : Int))))))) ∧
                  (((((!(cond ((t_gravity_CalmIn p0 p1).1.1 == (0 : Int)) true (v_has (s_gravity_RoughIn p0 p1).1 (Go.IntKind.wrap .i64 ((t_gravity_CalmIn p0 p1).1.1 - (1 : Int)))))) || ((t_gravity_CalmIn p0 p1).1.2 == (Go.IntKind.wrap .i64 ((((List.length p0) : Nat) : Int) - (1 : Int))))) = false) →
                  (lenOk (s_gravity_RoughIn p0 p1).1)) ∧
                  ((((cond ((t_gravity_CalmIn p0 p1).1.1 == (0 : Int)) true (v_has (s_gravity_RoughIn p0 p1).1 (Go.IntKind.wrap .i64 ((t_gravity_CalmIn p0 p1).1.1 - (1 : Int))))) = true) →
                  ((cond ((t_gravity_CalmIn p0 p1).1.1 == (0 : Int)) true (v_has (s_gravity_RoughIn p0 p1).1 (Go.IntKind.wrap .i64 ((t_gravity_CalmIn p0 p1).1.1 - (1 : Int))))) = (cond ((t_gravity_CalmIn p0 p1).1.1 == (0 : Int)) true (v_has (s_gravity_RoughIn p0 p1).1 (Go.IntKind.wrap .i64 ((t_gravity_CalmIn p0 p1).1.1 - (1 : Int))))))) ∧
                  ((((cond ((t_gravity_CalmIn p0 p1).1.1 == (0 : Int)) true (v_has (s_gravity_RoughIn p0 p1).1 (Go.IntKind.wrap .i64 ((t_gravity_CalmIn p0 p1).1.1 - (1 : Int))))) = true) →
                  (((!(cond ((t_gravity_CalmIn p0 p1).1.1 == (0 : Int)) true (v_has (s_gravity_RoughIn p0 p1).1 (Go.IntKind.wrap .i64 ((t_gravity_CalmIn p0 p1).1.1 - (1 : Int)))))) || ((t_gravity_CalmIn p0 p1).1.2 == (Go.IntKind.wrap .i64 ((((List.length p0) : Nat) : Int) - (1 : Int))))) = ((t_gravity_CalmIn p0 p1).1.2 == (Go.IntKind.wrap .i64 ((((List.length p0) : Nat) : Int) - (1 : Int)))))) ∧
                  (((cond ((t_gravity_CalmIn p0 p1).1.1 == (0 : Int)) true (v_has (s_gravity_RoughIn p0 p1).1 (Go.IntKind.wrap .i64 ((t_gravity_CalmIn p0 p1).1.1 - (1 : Int))))) = (cond ((t_gravity_CalmIn p0 p1).1.1 == (0 : Int)) true (v_has (s_gravity_RoughIn p0 p1).1 (Go.IntKind.wrap .i64 ((t_gravity_CalmIn p0 p1).1.1 - (1 : Int)))))) ∧
                  (K (cond (cond ((t_gravity_CalmIn p0 p1).1.1 == (0 : Int)) true (v_has (s_gravity_RoughIn p0 p1).1 (Go.IntKind.wrap .i64 ((t_gravity_CalmIn p0 p1).1.1 - (1 : Int))))) (cond ((t_gravity_CalmIn p0 p1).1.2 == (Go.IntKind.wrap .i64 ((((List.length p0) : Nat) : Int) - (1 : Int)))) true (v_has (s_gravity_RoughIn p0 p1).1 (Go.IntKind.wrap .i64 ((t_gravity_CalmIn p0 p1).1.2 + (1 : Int))))) false))))))))))))))))))))))))) n3 (t_gravity_CalmIn p0 p1).1.1))))))))))))))))))))))))))))))))))))))))))))))))
set_option maxHeartbeats 4000000 in
theorem w_law05_GravityCalm_eq (p0 : (List (Int × Int))) (p1 : Int) (K : Bool → Prop) : tfn F_law05_GravityCalm A_law05_GravityCalm C_law05_GravityCalm P_law05_GravityCalm R_law05_GravityCalm (p0, p1) K = w_law05_GravityCalm p0 p1 K := by kernel_rfl
def st_law05_GravityCalm_0 (p0 : (List (Int × Int))) (p1 : Int) (y5 : Int) : Int ⊕ Bool :=
  (cond (decide (y5 ≤ (t_gravity_CalmIn p0 p1).1.2)) (cond (v_has (s_gravity_RoughIn p0 p1).1 y5) (Sum.inr false)
    (Sum.inl (Go.IntKind.wrap .i64 (y5 + (1 : Int)))))
    (Sum.inr (cond (cond ((t_gravity_CalmIn p0 p1).1.1 == (0 : Int)) true (v_has (s_gravity_RoughIn p0 p1).1 (Go.IntKind.wrap .i64 ((t_gravity_CalmIn p0 p1).1.1 - (1 : Int))))) (cond ((t_gravity_CalmIn p0 p1).1.2 == (Go.IntKind.wrap .i64 ((((List.length p0) : Nat) : Int) - (1 : Int)))) true (v_has (s_gravity_RoughIn p0 p1).1 (Go.IntKind.wrap .i64 ((t_gravity_CalmIn p0 p1).1.2 + (1 : Int))))) false)))
abbrev sp_law05_GravityCalm_0 (p0 : (List (Int × Int))) (p1 : Int) (y5 : Int) : List Prop := [(((decide (y5 ≤ (t_gravity_CalmIn p0 p1).1.2)) = true) → (lenOk (s_gravity_RoughIn p0 p1).1)),
    (((decide (y5 ≤ (t_gravity_CalmIn p0 p1).1.2)) = false) → ((((t_gravity_CalmIn p0 p1).1.1 == (0 : Int)) = false) → (lenOk (s_gravity_RoughIn p0 p1).1))),
    (((decide (y5 ≤ (t_gravity_CalmIn p0 p1).1.2)) = false) → ((((!(cond ((t_gravity_CalmIn p0 p1).1.1 == (0 : Int)) true (v_has (s_gravity_RoughIn p0 p1).1 (Go.IntKind.wrap .i64 ((t_gravity_CalmIn p0 p1).1.1 - (1 : Int)))))) || ((t_gravity_CalmIn p0 p1).1.2 == (Go.IntKind.wrap .i64 ((((List.length p0) : Nat) : Int) - (1 : Int))))) = false) → (lenOk (s_gravity_RoughIn p0 p1).1))),
    (((decide (y5 ≤ (t_gravity_CalmIn p0 p1).1.2)) = false) → (((cond ((t_gravity_CalmIn p0 p1).1.1 == (0 : Int)) true (v_has (s_gravity_RoughIn p0 p1).1 (Go.IntKind.wrap .i64 ((t_gravity_CalmIn p0 p1).1.1 - (1 : Int))))) = true) → (((!(cond ((t_gravity_CalmIn p0 p1).1.1 == (0 : Int)) true (v_has (s_gravity_RoughIn p0 p1).1 (Go.IntKind.wrap .i64 ((t_gravity_CalmIn p0 p1).1.1 - (1 : Int)))))) || ((t_gravity_CalmIn p0 p1).1.2 == (Go.IntKind.wrap .i64 ((((List.length p0) : Nat) : Int) - (1 : Int))))) = ((t_gravity_CalmIn p0 p1).1.2 == (Go.IntKind.wrap .i64 ((((List.length p0) : Nat) : Int) - (1 : Int)))))))]
def st_law05_GravityCalm_1 (p0 : (List (Int × Int))) (p1 : Int) (y11 : Int) : Int ⊕ Bool :=
  (cond (decide (y11 ≤ (t_gravity_CalmIn p0 p1).1.2)) (cond (v_has (s_gravity_RoughIn p0 p1).1 y11) (Sum.inr false)
    (Sum.inl (Go.IntKind.wrap .i64 (y11 + (1 : Int)))))
    (Sum.inr (cond (cond ((t_gravity_CalmIn p0 p1).1.1 == (0 : Int)) true (v_has (s_gravity_RoughIn p0 p1).1 (Go.IntKind.wrap .i64 ((t_gravity_CalmIn p0 p1).1.1 - (1 : Int))))) (cond ((t_gravity_CalmIn p0 p1).1.2 == (Go.IntKind.wrap .i64 ((((List.length p0) : Nat) : Int) - (1 : Int)))) true (v_has (s_gravity_RoughIn p0 p1).1 (Go.IntKind.wrap .i64 ((t_gravity_CalmIn p0 p1).1.2 + (1 : Int))))) false)))
abbrev sp_law05_GravityCalm_1 (p0 : (List (Int × Int))) (p1 : Int) (y11 : Int) : List Prop := [(((decide (y11 ≤ (t_gravity_CalmIn p0 p1).1.2)) = true) → (lenOk (s_gravity_RoughIn p0 p1).1)),
    (((decide (y11 ≤ (t_gravity_CalmIn p0 p1).1.2)) = false) → ((((t_gravity_CalmIn p0 p1).1.1 == (0 : Int)) = false) → (lenOk (s_gravity_RoughIn p0 p1).1))),
    (((decide (y11 ≤ (t_gravity_CalmIn p0 p1).1.2)) = false) → ((((!(cond ((t_gravity_CalmIn p0 p1).1.1 == (0 : Int)) true (v_has (s_gravity_RoughIn p0 p1).1 (Go.IntKind.wrap .i64 ((t_gravity_CalmIn p0 p1).1.1 - (1 : Int)))))) || ((t_gravity_CalmIn p0 p1).1.2 == (Go.IntKind.wrap .i64 ((((List.length p0) : Nat) : Int) - (1 : Int))))) = false) → (lenOk (s_gravity_RoughIn p0 p1).1))),
    (((decide (y11 ≤ (t_gravity_CalmIn p0 p1).1.2)) = false) → (((cond ((t_gravity_CalmIn p0 p1).1.1 == (0 : Int)) true (v_has (s_gravity_RoughIn p0 p1).1 (Go.IntKind.wrap .i64 ((t_gravity_CalmIn p0 p1).1.1 - (1 : Int))))) = true) → (((!(cond ((t_gravity_CalmIn p0 p1).1.1 == (0 : Int)) true (v_has (s_gravity_RoughIn p0 p1).1 (Go.IntKind.wrap .i64 ((t_gravity_CalmIn p0 p1).1.1 - (1 : Int)))))) || ((t_gravity_CalmIn p0 p1).1.2 == (Go.IntKind.wrap .i64 ((((List.length p0) : Nat) : Int) - (1 : Int))))) = ((t_gravity_CalmIn p0 p1).1.2 == (Go.IntKind.wrap .i64 ((((List.length p0) : Nat) : Int) - (1 : Int)))))))]
def s_law05_GravityCalm (p0 : (List (Int × Int))) (p1 : Int) : Bool :=
  (cond (!(s_law05_few p0)) true
    (cond ((s_ref05_HeightsErr p0) == (0 : Int)) (cond ((s_ref05_WithinErr p1 (1000000 : Int)) != (0 : Int)) (cond (cond (cond ((s_gravity_RoughIn p0 p1).2 == (s_ref05_WithinErr p1 (1000000 : Int))) ((t_gravity_CalmIn p0 p1).2 == (s_ref05_WithinErr p1 (1000000 : Int))) false) ((((List.length (s_gravity_RoughIn p0 p1).1) : Nat) : Int) == (0 : Int)) false) (((t_gravity_CalmIn p0 p1).1.1 == (0 : Int)) && (((t_gravity_CalmIn p0 p1).1.2 == (0 : Int)) && true)) false)
    (cond (cond (cond (cond ((s_gravity_RoughIn p0 p1).2 != (0 : Int)) true (!(decide ((s_gravity_RoughIn p0 p1).1 = (v_rough p1 (0 : Int) p0))))) true (cond (v_calmE p0 p1).1 (cond ((t_gravity_CalmIn p0 p1).2 != (0 : Int)) true (!(((t_gravity_CalmIn p0 p1).1.1 == (v_calmE p0 p1).2.1) && (((t_gravity_CalmIn p0 p1).1.2 == (v_calmE p0 p1).2.2) && true)))) false)) true (cond (!(v_calmE p0 p1).1) (cond ((t_gravity_CalmIn p0 p1).2 != (12 : Int)) true (!(((t_gravity_CalmIn p0 p1).1.1 == (0 : Int)) && (((t_gravity_CalmIn p0 p1).1.2 == (0 : Int)) && true)))) false)) false
    (cond (!(v_calmE p0 p1).1) ((((List.length (s_gravity_RoughIn p0 p1).1) : Nat) : Int) == (((List.length p0) : Nat) : Int))
    (lpv false (st_law05_GravityCalm_0 p0 p1) (t_gravity_CalmIn p0 p1).1.1))))
    (cond ((s_ref05_HeightsErr p0) != (0 : Int)) (cond (cond (cond ((s_gravity_RoughIn p0 p1).2 == (s_ref05_HeightsErr p0)) ((t_gravity_CalmIn p0 p1).2 == (s_ref05_HeightsErr p0)) false) ((((List.length (s_gravity_RoughIn p0 p1).1) : Nat) : Int) == (0 : Int)) false) (((t_gravity_CalmIn p0 p1).1.1 == (0 : Int)) && (((t_gravity_CalmIn p0 p1).1.2 == (0 : Int)) && true)) false)
    (cond (cond (cond (cond ((s_gravity_RoughIn p0 p1).2 != (0 : Int)) true (!(decide ((s_gravity_RoughIn p0 p1).1 = (v_rough p1 (0 : Int) p0))))) true (cond (v_calmE p0 p1).1 (cond ((t_gravity_CalmIn p0 p1).2 != (0 : Int)) true (!(((t_gravity_CalmIn p0 p1).1.1 == (v_calmE p0 p1).2.1) && (((t_gravity_CalmIn p0 p1).1.2 == (v_calmE p0 p1).2.2) && true)))) false)) true (cond (!(v_calmE p0 p1).1) (cond ((t_gravity_CalmIn p0 p1).2 != (12 : Int)) true (!(((t_gravity_CalmIn p0 p1).1.1 == (0 : Int)) && (((t_gravity_CalmIn p0 p1).1.2 == (0 : Int)) && true)))) false)) false
    (cond (!(v_calmE p0 p1).1) ((((List.length (s_gravity_RoughIn p0 p1).1) : Nat) : Int) == (((List.length p0) : Nat) : Int))
    (lpv false (st_law05_GravityCalm_1 p0 p1) (t_gravity_CalmIn p0 p1).1.1))))))
abbrev pre_law05_GravityCalm (p0 : (List (Int × Int))) (p1 : Int) : List Prop := [(((!(s_law05_few p0)) = false) → ((List.length p0) ≤ 1000000)),
    (((!(s_law05_few p0)) = false) → ((((v_first ((s_gravity_rangesErr p0) :: ((s_gravity_limitErr p1) :: ([] : List Int)))) != (0 : Int)) = false) → ((List.length p0) ≤ 1000000))),
    (((!(s_law05_few p0)) = false) → ((((s_ref05_HeightsErr p0) == (0 : Int)) = true) → ((((s_ref05_WithinErr p1 (1000000 : Int)) != (0 : Int)) = false) → ((List.length p0) ≤ 1000000)))),
    (((!(s_law05_few p0)) = false) → ((((s_ref05_HeightsErr p0) == (0 : Int)) = true) → ((((s_ref05_WithinErr p1 (1000000 : Int)) != (0 : Int)) = false) → ((((s_gravity_RoughIn p0 p1).2 != (0 : Int)) = false) → ((List.length p0) ≤ 1000000))))),
    (((!(s_law05_few p0)) = false) → ((((s_ref05_HeightsErr p0) == (0 : Int)) = true) → ((((s_ref05_WithinErr p1 (1000000 : Int)) != (0 : Int)) = false) → ((((s_gravity_RoughIn p0 p1).2 != (0 : Int)) = false) → (lenOk (s_gravity_RoughIn p0 p1).1))))),
    (((!(s_law05_few p0)) = false) → ((((s_ref05_HeightsErr p0) == (0 : Int)) = true) → ((((s_ref05_WithinErr p1 (1000000 : Int)) != (0 : Int)) = false) → ((((!(cond ((s_gravity_RoughIn p0 p1).2 != (0 : Int)) true (!(decide ((s_gravity_RoughIn p0 p1).1 = (v_rough p1 (0 : Int) p0)))))) && (v_calmE p0 p1).1) = true) → (((!((!(cond ((s_gravity_RoughIn p0 p1).2 != (0 : Int)) true (!(decide ((s_gravity_RoughIn p0 p1).1 = (v_rough p1 (0 : Int) p0)))))) && (v_calmE p0 p1).1)) || ((t_gravity_CalmIn p0 p1).2 != (0 : Int))) = ((t_gravity_CalmIn p0 p1).2 != (0 : Int))))))),
    (((!(s_law05_few p0)) = false) → ((((s_ref05_HeightsErr p0) == (0 : Int)) = true) → ((((s_ref05_WithinErr p1 (1000000 : Int)) != (0 : Int)) = false) → (((cond ((s_gravity_RoughIn p0 p1).2 != (0 : Int)) true (!(decide ((s_gravity_RoughIn p0 p1).1 = (v_rough p1 (0 : Int) p0))))) = false) → (((!(cond ((s_gravity_RoughIn p0 p1).2 != (0 : Int)) true (!(decide ((s_gravity_RoughIn p0 p1).1 = (v_rough p1 (0 : Int) p0)))))) && (v_calmE p0 p1).1) = (v_calmE p0 p1).1))))),
    (((!(s_law05_few p0)) = false) → ((((s_ref05_HeightsErr p0) == (0 : Int)) = true) → ((((s_ref05_WithinErr p1 (1000000 : Int)) != (0 : Int)) = false) → ((((!(cond (cond ((s_gravity_RoughIn p0 p1).2 != (0 : Int)) true (!(decide ((s_gravity_RoughIn p0 p1).1 = (v_rough p1 (0 : Int) p0))))) true (cond (v_calmE p0 p1).1 (cond ((t_gravity_CalmIn p0 p1).2 != (0 : Int)) true (!(((t_gravity_CalmIn p0 p1).1.1 == (v_calmE p0 p1).2.1) && (((t_gravity_CalmIn p0 p1).1.2 == (v_calmE p0 p1).2.2) && true)))) false))) && (!(v_calmE p0 p1).1)) = true) → (((!((!(cond (cond ((s_gravity_RoughIn p0 p1).2 != (0 : Int)) true (!(decide ((s_gravity_RoughIn p0 p1).1 = (v_rough p1 (0 : Int) p0))))) true (cond (v_calmE p0 p1).1 (cond ((t_gravity_CalmIn p0 p1).2 != (0 : Int)) true (!(((t_gravity_CalmIn p0 p1).1.1 == (v_calmE p0 p1).2.1) && (((t_gravity_CalmIn p0 p1).1.2 == (v_calmE p0 p1).2.2) && true)))) false))) && (!(v_calmE p0 p1).1))) || ((t_gravity_CalmIn p0 p1).2 != (12 : Int))) = ((t_gravity_CalmIn p0 p1).2 != (12 : Int))))))),
    (((!(s_law05_few p0)) = false) → ((((s_ref05_HeightsErr p0) == (0 : Int)) = true) → ((((s_ref05_WithinErr p1 (1000000 : Int)) != (0 : Int)) = false) → (((cond (cond ((s_gravity_RoughIn p0 p1).2 != (0 : Int)) true (!(decide ((s_gravity_RoughIn p0 p1).1 = (v_rough p1 (0 : Int) p0))))) true (cond (v_calmE p0 p1).1 (cond ((t_gravity_CalmIn p0 p1).2 != (0 : Int)) true (!(((t_gravity_CalmIn p0 p1).1.1 == (v_calmE p0 p1).2.1) && (((t_gravity_CalmIn p0 p1).1.2 == (v_calmE p0 p1).2.2) && true)))) false)) = false) → (((!(cond (cond ((s_gravity_RoughIn p0 p1).2 != (0 : Int)) true (!(decide ((s_gravity_RoughIn p0 p1).1 = (v_rough p1 (0 : Int) p0))))) true (cond (v_calmE p0 p1).1 (cond ((t_gravity_CalmIn p0 p1).2 != (0 : Int)) true (!(((t_gravity_CalmIn p0 p1).1.1 == (v_calmE p0 p1).2.1) && (((t_gravity_CalmIn p0 p1).1.2 == (v_calmE p0 p1).2.2) && true)))) false))) && (!(v_calmE p0 p1).1)) = (!(v_calmE p0 p1).1)))))),
    (((!(s_law05_few p0)) = false) → ((((s_ref05_HeightsErr p0) == (0 : Int)) = true) → ((((s_ref05_WithinErr p1 (1000000 : Int)) != (0 : Int)) = false) → (((cond (cond (cond ((s_gravity_RoughIn p0 p1).2 != (0 : Int)) true (!(decide ((s_gravity_RoughIn p0 p1).1 = (v_rough p1 (0 : Int) p0))))) true (cond (v_calmE p0 p1).1 (cond ((t_gravity_CalmIn p0 p1).2 != (0 : Int)) true (!(((t_gravity_CalmIn p0 p1).1.1 == (v_calmE p0 p1).2.1) && (((t_gravity_CalmIn p0 p1).1.2 == (v_calmE p0 p1).2.2) && true)))) false)) true (cond (!(v_calmE p0 p1).1) (cond ((t_gravity_CalmIn p0 p1).2 != (12 : Int)) true (!(((t_gravity_CalmIn p0 p1).1.1 == (0 : Int)) && (((t_gravity_CalmIn p0 p1).1.2 == (0 : Int)) && true)))) false)) = false) → (((!(v_calmE p0 p1).1) = false) → (OkL (st_law05_GravityCalm_0 p0 p1) (sp_law05_GravityCalm_0 p0 p1) (t_gravity_CalmIn p0 p1).1.1)))))),
    (((!(s_law05_few p0)) = false) → ((((s_ref05_HeightsErr p0) == (0 : Int)) = false) → ((((s_ref05_HeightsErr p0) != (0 : Int)) = false) → ((List.length p0) ≤ 1000000)))),
    (((!(s_law05_few p0)) = false) → ((((s_ref05_HeightsErr p0) == (0 : Int)) = false) → ((((s_ref05_HeightsErr p0) != (0 : Int)) = false) → ((((s_gravity_RoughIn p0 p1).2 != (0 : Int)) = false) → ((List.length p0) ≤ 1000000))))),
    (((!(s_law05_few p0)) = false) → ((((s_ref05_HeightsErr p0) == (0 : Int)) = false) → ((((s_ref05_HeightsErr p0) != (0 : Int)) = false) → ((((s_gravity_RoughIn p0 p1).2 != (0 : Int)) = false) → (lenOk (s_gravity_RoughIn p0 p1).1))))),
    (((!(s_law05_few p0)) = false) → ((((s_ref05_HeightsErr p0) == (0 : Int)) = false) → ((((s_ref05_HeightsErr p0) != (0 : Int)) = false) → ((((!(cond ((s_gravity_RoughIn p0 p1).2 != (0 : Int)) true (!(decide ((s_gravity_RoughIn p0 p1).1 = (v_rough p1 (0 : Int) p0)))))) && (v_calmE p0 p1).1) = true) → (((!((!(cond ((s_gravity_RoughIn p0 p1).2 != (0 : Int)) true (!(decide ((s_gravity_RoughIn p0 p1).1 = (v_rough p1 (0 : Int) p0)))))) && (v_calmE p0 p1).1)) || ((t_gravity_CalmIn p0 p1).2 != (0 : Int))) = ((t_gravity_CalmIn p0 p1).2 != (0 : Int))))))),
    (((!(s_law05_few p0)) = false) → ((((s_ref05_HeightsErr p0) == (0 : Int)) = false) → ((((s_ref05_HeightsErr p0) != (0 : Int)) = false) → (((cond ((s_gravity_RoughIn p0 p1).2 != (0 : Int)) true (!(decide ((s_gravity_RoughIn p0 p1).1 = (v_rough p1 (0 : Int) p0))))) = false) → (((!(cond ((s_gravity_RoughIn p0 p1).2 != (0 : Int)) true (!(decide ((s_gravity_RoughIn p0 p1).1 = (v_rough p1 (0 : Int) p0)))))) && (v_calmE p0 p1).1) = (v_calmE p0 p1).1))))),
    (((!(s_law05_few p0)) = false) → ((((s_ref05_HeightsErr p0) == (0 : Int)) = false) → ((((s_ref05_HeightsErr p0) != (0 : Int)) = false) → ((((!(cond (cond ((s_gravity_RoughIn p0 p1).2 != (0 : Int)) true (!(decide ((s_gravity_RoughIn p0 p1).1 = (v_rough p1 (0 : Int) p0))))) true (cond (v_calmE p0 p1).1 (cond ((t_gravity_CalmIn p0 p1).2 != (0 : Int)) true (!(((t_gravity_CalmIn p0 p1).1.1 == (v_calmE p0 p1).2.1) && (((t_gravity_CalmIn p0 p1).1.2 == (v_calmE p0 p1).2.2) && true)))) false))) && (!(v_calmE p0 p1).1)) = true) → (((!((!(cond (cond ((s_gravity_RoughIn p0 p1).2 != (0 : Int)) true (!(decide ((s_gravity_RoughIn p0 p1).1 = (v_rough p1 (0 : Int) p0))))) true (cond (v_calmE p0 p1).1 (cond ((t_gravity_CalmIn p0 p1).2 != (0 : Int)) true (!(((t_gravity_CalmIn p0 p1).1.1 == (v_calmE p0 p1).2.1) && (((t_gravity_CalmIn p0 p1).1.2 == (v_calmE p0 p1).2.2) && true)))) false))) && (!(v_calmE p0 p1).1))) || ((t_gravity_CalmIn p0 p1).2 != (12 : Int))) = ((t_gravity_CalmIn p0 p1).2 != (12 : Int))))))),
    (((!(s_law05_few p0)) = false) → ((((s_ref05_HeightsErr p0) == (0 : Int)) = false) → ((((s_ref05_HeightsErr p0) != (0 : Int)) = false) → (((cond (cond ((s_gravity_RoughIn p0 p1).2 != (0 : Int)) true (!(decide ((s_gravity_RoughIn p0 p1).1 = (v_rough p1 (0 : Int) p0))))) true (cond (v_calmE p0 p1).1 (cond ((t_gravity_CalmIn p0 p1).2 != (0 : Int)) true (!(((t_gravity_CalmIn p0 p1).1.1 == (v_calmE p0 p1).2.1) && (((t_gravity_CalmIn p0 p1).1.2 == (v_calmE p0 p1).2.2) && true)))) false)) = false) → (((!(cond (cond ((s_gravity_RoughIn p0 p1).2 != (0 : Int)) true (!(decide ((s_gravity_RoughIn p0 p1).1 = (v_rough p1 (0 : Int) p0))))) true (cond (v_calmE p0 p1).1 (cond ((t_gravity_CalmIn p0 p1).2 != (0 : Int)) true (!(((t_gravity_CalmIn p0 p1).1.1 == (v_calmE p0 p1).2.1) && (((t_gravity_CalmIn p0 p1).1.2 == (v_calmE p0 p1).2.2) && true)))) false))) && (!(v_calmE p0 p1).1)) = (!(v_calmE p0 p1).1)))))),
    (((!(s_law05_few p0)) = false) → ((((s_ref05_HeightsErr p0) == (0 : Int)) = false) → ((((s_ref05_HeightsErr p0) != (0 : Int)) = false) → (((cond (cond (cond ((s_gravity_RoughIn p0 p1).2 != (0 : Int)) true (!(decide ((s_gravity_RoughIn p0 p1).1 = (v_rough p1 (0 : Int) p0))))) true (cond (v_calmE p0 p1).1 (cond ((t_gravity_CalmIn p0 p1).2 != (0 : Int)) true (!(((t_gravity_CalmIn p0 p1).1.1 == (v_calmE p0 p1).2.1) && (((t_gravity_CalmIn p0 p1).1.2 == (v_calmE p0 p1).2.2) && true)))) false)) true (cond (!(v_calmE p0 p1).1) (cond ((t_gravity_CalmIn p0 p1).2 != (12 : Int)) true (!(((t_gravity_CalmIn p0 p1).1.1 == (0 : Int)) && (((t_gravity_CalmIn p0 p1).1.2 == (0 : Int)) && true)))) false)) = false) → (((!(v_calmE p0 p1).1) = false) → (OkL (st_law05_GravityCalm_1 p0 p1) (sp_law05_GravityCalm_1 p0 p1) (t_gravity_CalmIn p0 p1).1.1))))))]
set_option maxHeartbeats 4000000 in
theorem d_law05_GravityCalm (p0 : (List (Int × Int))) (p1 : Int) (K : Bool → Prop) (hp : ∀ p ∈ pre_law05_GravityCalm p0 p1, p) (h : K (s_law05_GravityCalm p0 p1)) : w_law05_GravityCalm p0 p1 K := by
  unfold w_law05_GravityCalm
  unfold s_law05_GravityCalm at h
  obtain ⟨hp0, hp1, hp2, hp3, hp4, hp5, hp6, hp7, hp8, hp9, hp10, hp11, hp12, hp13, hp14, hp15, hp16, hp17, _⟩ := conj_of hp
  exact ⟨fun e => Bool.noConfusion (show false = true from e), fun _ => (br' h (fun e0 h => h)
    (fun e0 h => ⟨(hp0 e0), ⟨(hp1 e0), ⟨(hp0 e0), ⟨(hp0 e0), (br' h (fun e1 h => (br' h (fun e2 h => ⟨(fun _ => rfl), ⟨(fun _ => rfl), ⟨rfl, ⟨(fun _ => rfl), ⟨(fun _ => rfl), ⟨rfl, ⟨(fun _ => rfl), ⟨(fun _ => rfl), ⟨rfl, h⟩⟩⟩⟩⟩⟩⟩⟩⟩)
    (fun e2 h => ⟨(hp2 e0 e1 e2), ⟨(fun _ => rfl), ⟨(fun _ => rfl), ⟨(hp3 e0 e1 e2), ⟨(fun _ => rfl), ⟨(fun _ => rfl), ⟨(hp4 e0 e1 e2), ⟨(fun _ => rfl), ⟨rfl, ⟨(fun _ => rfl), ⟨(fun _ => rfl), ⟨(fun _ => rfl), ⟨(fun _ => rfl), ⟨(fun _ => rfl), ⟨(fun _ => rfl), ⟨(hp5 e0 e1 e2), ⟨(fun _ => rfl), ⟨(hp6 e0 e1 e2), ⟨rfl, ⟨(fun _ => rfl), ⟨(fun _ => rfl), ⟨(fun _ => rfl), ⟨(fun _ => rfl), ⟨(fun _ => rfl), ⟨(fun _ => rfl), ⟨(fun _ => rfl), ⟨(hp7 e0 e1 e2), ⟨(fun _ => rfl), ⟨(hp8 e0 e1 e2), ⟨rfl, (br' h (fun e3 h => h)
    (fun e3 h => (br' h (fun e4 h => h)
    (fun e4 h => (loop_gen (hp9 e0 e1 e2 e3 e4) h (fun y5 k5 hp h => by
  unfold st_law05_GravityCalm_0 at h; obtain ⟨hp0, hp1, hp2, hp3, _⟩ := conj_of hp
  exact (br' h (fun e6 h => ⟨(hp0 e6), (br' h (fun e7 h => h)
    (fun e7 h => h))⟩)
    (fun e6 h => ⟨(fun _ => rfl), ⟨(fun _ => rfl), ⟨(fun _ => rfl), ⟨(fun _ => rfl), ⟨(hp1 e6), ⟨rfl, ⟨(fun _ => rfl), ⟨(fun _ => rfl), ⟨(fun _ => rfl), ⟨(fun _ => rfl), ⟨(fun _ => rfl), ⟨(fun _ => rfl), ⟨(fun _ => rfl), ⟨(fun _ => rfl), ⟨(fun _ => rfl), ⟨(fun _ => rfl), ⟨(hp2 e6), ⟨(fun _ => rfl), ⟨(hp3 e6), ⟨rfl, h⟩⟩⟩⟩⟩⟩⟩⟩⟩⟩⟩⟩⟩⟩⟩⟩⟩⟩⟩⟩))))))))⟩⟩⟩⟩⟩⟩⟩⟩⟩⟩⟩⟩⟩⟩⟩⟩⟩⟩⟩⟩⟩⟩⟩⟩⟩⟩⟩⟩⟩⟩)))
    (fun e1 h => (br' h (fun e8 h => ⟨(fun _ => rfl), ⟨(fun _ => rfl), ⟨rfl, ⟨(fun _ => rfl), ⟨(fun _ => rfl), ⟨rfl, ⟨(fun _ => rfl), ⟨(fun _ => rfl), ⟨rfl, h⟩⟩⟩⟩⟩⟩⟩⟩⟩)
    (fun e8 h => ⟨(hp10 e0 e1 e8), ⟨(fun _ => rfl), ⟨(fun _ => rfl), ⟨(hp11 e0 e1 e8), ⟨(fun _ => rfl), ⟨(fun _ => rfl), ⟨(hp12 e0 e1 e8), ⟨(fun _ => rfl), ⟨rfl, ⟨(fun _ => rfl), ⟨(fun _ => rfl), ⟨(fun _ => rfl), ⟨(fun _ => rfl), ⟨(fun _ => rfl), ⟨(fun _ => rfl), ⟨(hp13 e0 e1 e8), ⟨(fun _ => rfl), ⟨(hp14 e0 e1 e8), ⟨rfl, ⟨(fun _ => rfl), ⟨(fun _ => rfl), ⟨(fun _ => rfl), ⟨(fun _ => rfl), ⟨(fun _ => rfl), ⟨(fun _ => rfl), ⟨(fun _ => rfl), ⟨(hp15 e0 e1 e8), ⟨(fun _ => rfl), ⟨(hp16 e0 e1 e8), ⟨rfl, (br' h (fun e9 h => h)
    (fun e9 h => (br' h (fun e10 h => h)
    (fun e10 h => (loop_gen (hp17 e0 e1 e8 e9 e10) h (fun y11 k11 hp h => by
  unfold st_law05_GravityCalm_1 at h; obtain ⟨hp0, hp1, hp2, hp3, _⟩ := conj_of hp
  exact (br' h (fun e12 h => ⟨(hp0 e12), (br' h (fun e13 h => h)
    (fun e13 h => h))⟩)
    (fun e12 h => ⟨(fun _ => rfl), ⟨(fun _ => rfl), ⟨(fun _ => rfl), ⟨(fun _ => rfl), ⟨(hp1 e12), ⟨rfl, ⟨(fun _ => rfl), ⟨(fun _ => rfl), ⟨(fun _ => rfl), ⟨(fun _ => rfl), ⟨(fun _ => rfl), ⟨(fun _ => rfl), ⟨(fun _ => rfl), ⟨(fun _ => rfl), ⟨(fun _ => rfl), ⟨(fun _ => rfl), ⟨(hp2 e12), ⟨(fun _ => rfl), ⟨(hp3 e12), ⟨rfl, h⟩⟩⟩⟩⟩⟩⟩⟩⟩⟩⟩⟩⟩⟩⟩⟩⟩⟩⟩⟩))))))))⟩⟩⟩⟩⟩⟩⟩⟩⟩⟩⟩⟩⟩⟩⟩⟩⟩⟩⟩⟩⟩⟩⟩⟩⟩⟩⟩⟩⟩⟩))))⟩⟩⟩⟩))⟩
abbrev con_law05_GravityCalm : Con := ⟨P_law05_GravityCalm, R_law05_GravityCalm, fun x => pre_law05_GravityCalm x.1 x.2, fun x => s_law05_GravityCalm x.1 x.2⟩
theorem ok_law05_GravityCalm : ConOk Tryd.prog 10 con_law05_GravityCalm := ⟨k_law05_GravityCalm, fun x hx => ret_tf (ps := P_law05_GravityCalm) (rs := R_law05_GravityCalm) (x := x) (y := s_law05_GravityCalm x.1 x.2) e_law05_GravityCalm hC_law05_GravityCalm (tf_of (w_law05_GravityCalm_eq x.1 x.2 (fun z => z = s_law05_GravityCalm x.1 x.2)) (d_law05_GravityCalm x.1 x.2 (fun z => z = s_law05_GravityCalm x.1 x.2) hx rfl))⟩
end Go.Proofs.YtcecdmdnfmgnfaaDoor
