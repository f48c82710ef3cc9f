/- What the functions that GravityClosures reaches compute: contracts, each function once. No condition. -/
import Derived.Test.YtcecdmdnfmgnfaaDoorLayB
import Derived.Test.YtcecdmdnfmgnfaaDoorRp1GravityClosures
import Derived.KernelRfl
namespace Go.Proofs.YtcecdmdnfmgnfaaDoor
open Go Go.Mx
set_option maxRecDepth 100000
abbrev wi (n : Int) : Int := IntKind.i64.wrap n
abbrev zz0 : Int := 0
abbrev zz1 : Int := 1
abbrev zz2 : Int := 2
abbrev zz3 : Int := 3
theorem od {p : Prop} [Decidable p] (h : decide p = true) : p := of_decide_eq_true h
theorem nof {p : Prop} (h : false = true) : p := Bool.noConfusion h
theorem rf {p : Prop} {α : Sort _} {a : α} (_ : p) : a = a := rfl
/- law05_few -/
def C_law05_few : Cons := []
theorem hC_law05_few : ConsOk Tryd.prog C_law05_few := ConsOk.nil
def w_law05_few (p0 : (List (Int × Int))) (K : Bool → Prop) : Prop :=
 (K (decide ((((List.length p0) : Nat) : Int) ≤ (66 : Int))))
set_option maxHeartbeats 4000000 in
theorem w_law05_few_eq (p0 : (List (Int × Int))) (K : Bool → Prop) : tfn F_law05_few A_law05_few C_law05_few P_law05_few R_law05_few p0 K = w_law05_few p0 K := by kernel_rfl
def s_law05_few (p0 : (List (Int × Int))) : Bool :=
  (decide ((((List.length p0) : Nat) : Int) ≤ (66 : Int)))
abbrev pre_law05_few (p0 : (List (Int × Int))) : List Prop := []
set_option maxHeartbeats 4000000 in
theorem d_law05_few (p0 : (List (Int × Int))) (K : Bool → Prop) (hp : ∀ p ∈ pre_law05_few p0, p) (h : K (s_law05_few p0)) : w_law05_few p0 K := by
  unfold w_law05_few
  unfold s_law05_few at h
  exact h
abbrev con_law05_few : Con := ⟨P_law05_few, R_law05_few, fun x => pre_law05_few x, fun x => s_law05_few x⟩
theorem ok_law05_few : ConOk Tryd.prog 25 con_law05_few := ⟨k_law05_few, fun x hx => ret_tf (ps := P_law05_few) (rs := R_law05_few) (x := x) (y := s_law05_few x) e_law05_few hC_law05_few (tf_of (w_law05_few_eq x (fun z => z = s_law05_few x)) (d_law05_few x (fun z => z = s_law05_few x) hx rfl))⟩
/- base_CopyRanges -/
def C_base_CopyRanges : Cons := []
theorem hC_base_CopyRanges : ConsOk Tryd.prog C_base_CopyRanges := ConsOk.nil
def w_base_CopyRanges (p0 : (List (Int × Int))) (K : (List (Int × Int)) → Prop) : Prop :=
 (((((List.length ([] : List (Int × Int))) + (List.length p0)) * 16) ≤ 140737488355328) ∧
  (K (([] : List (Int × Int)) ++ p0)))
set_option maxHeartbeats 4000000 in
theorem w_base_CopyRanges_eq (p0 : (List (Int × Int))) (K : (List (Int × Int)) → Prop) : tfn F_base_CopyRanges A_base_CopyRanges C_base_CopyRanges P_base_CopyRanges R_base_CopyRanges p0 K = w_base_CopyRanges p0 K := by kernel_rfl
def s_base_CopyRanges (p0 : (List (Int × Int))) : (List (Int × Int)) :=
  (([] : List (Int × Int)) ++ p0)
abbrev pre_base_CopyRanges (p0 : (List (Int × Int))) : List Prop := [((((List.length ([] : List (Int × Int))) + (List.length p0)) * 16) ≤ 140737488355328)]
set_option maxHeartbeats 4000000 in
theorem d_base_CopyRanges (p0 : (List (Int × Int))) (K : (List (Int × Int)) → Prop) (hp : ∀ p ∈ pre_base_CopyRanges p0, p) (h : K (s_base_CopyRanges p0)) : w_base_CopyRanges p0 K := by
  unfold w_base_CopyRanges
  unfold s_base_CopyRanges at h
  obtain ⟨hp0, _⟩ := conj_of hp
  exact ⟨(hp0), h⟩
abbrev t_base_CopyRanges (p0 : List (Int × Int)) : List (Int × Int) := p0
abbrev qre_base_CopyRanges (p0 : List (Int × Int)) : List Prop := [p0.length ≤ 1000000]
theorem pp_base_CopyRanges (p0 : List (Int × Int)) (hq : ∀ p ∈ qre_base_CopyRanges p0, p) : ∀ p ∈ pre_base_CopyRanges p0, p := by
  simp only [pre_base_CopyRanges, List.forall_mem_cons]
  have := (conj_of hq).1
  exact ⟨by simp; omega, by simp⟩
theorem tt_base_CopyRanges (p0 : List (Int × Int)) (hq : ∀ p ∈ qre_base_CopyRanges p0, p) : s_base_CopyRanges p0 = t_base_CopyRanges p0 := by
  rfl

abbrev con_base_CopyRanges : Con := ⟨P_base_CopyRanges, R_base_CopyRanges, fun x => qre_base_CopyRanges x, fun x => t_base_CopyRanges x⟩
theorem ok_base_CopyRanges : ConOk Tryd.prog 28 con_base_CopyRanges := ⟨k_base_CopyRanges, fun x hx => ret_tf (ps := P_base_CopyRanges) (rs := R_base_CopyRanges) (x := x) (y := t_base_CopyRanges x) e_base_CopyRanges hC_base_CopyRanges (tf_of (w_base_CopyRanges_eq x (fun z => z = t_base_CopyRanges x)) (d_base_CopyRanges x (fun z => z = t_base_CopyRanges x) (pp_base_CopyRanges x hx) (tt_base_CopyRanges x hx)))⟩
/- gravity_within -/
def C_gravity_within : Cons := []
theorem hC_gravity_within : ConsOk Tryd.prog C_gravity_within := ConsOk.nil
def w_gravity_within (p0 : Int) (p1 : Int) (p2 : Int) (K : Bool → Prop) : Prop :=
 ((((decide (p1 ≤ p0)) = true) →
  ((decide (p1 ≤ p0)) = (decide (p1 ≤ p0)))) ∧
  ((((decide (p1 ≤ p0)) = true) →
  ((decide (p1 ≤ p0)) = (decide (p1 ≤ p0)))) ∧
  (((decide (p1 ≤ p0)) = (decide (p1 ≤ p0))) ∧
  (K (cond (decide (p1 ≤ p0)) (decide (p0 ≤ p2)) false)))))
set_option maxHeartbeats 4000000 in
theorem w_gravity_within_eq (p0 : Int) (p1 : Int) (p2 : Int) (K : Bool → Prop) : tfn F_gravity_within A_gravity_within C_gravity_within P_gravity_within R_gravity_within (p0, p1, p2) K = w_gravity_within p0 p1 p2 K := by kernel_rfl
def s_gravity_within (p0 : Int) (p1 : Int) (p2 : Int) : Bool :=
  (cond (decide (p1 ≤ p0)) (decide (p0 ≤ p2)) false)
abbrev pre_gravity_within (p0 : Int) (p1 : Int) (p2 : Int) : List Prop := []
set_option maxHeartbeats 4000000 in
theorem d_gravity_within (p0 : Int) (p1 : Int) (p2 : Int) (K : Bool → Prop) (hp : ∀ p ∈ pre_gravity_within p0 p1 p2, p) (h : K (s_gravity_within p0 p1 p2)) : w_gravity_within p0 p1 p2 K := by
  unfold w_gravity_within
  unfold s_gravity_within at h
  exact ⟨rf, rf, rfl, h⟩
abbrev con_gravity_within : Con := ⟨P_gravity_within, R_gravity_within, fun x => pre_gravity_within x.1 x.2.1 x.2.2, fun x => s_gravity_within x.1 x.2.1 x.2.2⟩
theorem ok_gravity_within : ConOk Tryd.prog 94 con_gravity_within := ⟨k_gravity_within, fun x hx => ret_tf (ps := P_gravity_within) (rs := R_gravity_within) (x := x) (y := s_gravity_within x.1 x.2.1 x.2.2) e_gravity_within hC_gravity_within (tf_of (w_gravity_within_eq x.1 x.2.1 x.2.2 (fun z => z = s_gravity_within x.1 x.2.1 x.2.2)) (d_gravity_within x.1 x.2.1 x.2.2 (fun z => z = s_gravity_within x.1 x.2.1 x.2.2) hx rfl))⟩
theorem tx_within {n lo hi : Int} : s_gravity_within n lo hi = true ↔ lo ≤ n ∧ n ≤ hi := by unfold s_gravity_within; simp
/- gravity_isSized -/
def C_gravity_isSized : Cons := [(94, [], con_gravity_within)]
theorem hC_gravity_isSized : ConsOk Tryd.prog C_gravity_isSized := ConsOk.cons ok_gravity_within <| ConsOk.nil
def w_gravity_isSized (p0 : Int) (p1 : Int) (K : Bool → Prop) : Prop :=
 (K (s_gravity_within p0 (IntKind.i64.wrap ((0 : Int) - p1)) p1))
set_option maxHeartbeats 4000000 in
theorem w_gravity_isSized_eq (p0 : Int) (p1 : Int) (K : Bool → Prop) : tfn F_gravity_isSized A_gravity_isSized C_gravity_isSized P_gravity_isSized R_gravity_isSized (p0, p1) K = w_gravity_isSized p0 p1 K := by kernel_rfl
def s_gravity_isSized (p0 : Int) (p1 : Int) : Bool :=
  (s_gravity_within p0 (IntKind.i64.wrap ((0 : Int) - p1)) p1)
abbrev pre_gravity_isSized (p0 : Int) (p1 : Int) : List Prop := []
set_option maxHeartbeats 4000000 in
theorem d_gravity_isSized (p0 : Int) (p1 : Int) (K : Bool → Prop) (hp : ∀ p ∈ pre_gravity_isSized p0 p1, p) (h : K (s_gravity_isSized p0 p1)) : w_gravity_isSized p0 p1 K := by
  unfold w_gravity_isSized
  unfold s_gravity_isSized at h
  exact h
abbrev con_gravity_isSized : Con := ⟨P_gravity_isSized, R_gravity_isSized, fun x => pre_gravity_isSized x.1 x.2, fun x => s_gravity_isSized x.1 x.2⟩
theorem ok_gravity_isSized : ConOk Tryd.prog 93 con_gravity_isSized := ⟨k_gravity_isSized, fun x hx => ret_tf (ps := P_gravity_isSized) (rs := R_gravity_isSized) (x := x) (y := s_gravity_isSized x.1 x.2) e_gravity_isSized hC_gravity_isSized (tf_of (w_gravity_isSized_eq x.1 x.2 (fun z => z = s_gravity_isSized x.1 x.2)) (d_gravity_isSized x.1 x.2 (fun z => z = s_gravity_isSized x.1 x.2) hx rfl))⟩
/- gravity_unless -/
def C_gravity_unless : Cons := []
theorem hC_gravity_unless : ConsOk Tryd.prog C_gravity_unless := ConsOk.nil
def w_gravity_unless (p0 : Bool) (p1 : Int) (K : Int → Prop) : Prop :=
 (((p0 = true) →
  (K (0 : Int))) ∧
  ((p0 = false) →
  (K p1)))
set_option maxHeartbeats 4000000 in
theorem w_gravity_unless_eq (p0 : Bool) (p1 : Int) (K : Int → Prop) : tfn F_gravity_unless A_gravity_unless C_gravity_unless P_gravity_unless R_gravity_unless (p0, p1) K = w_gravity_unless p0 p1 K := by kernel_rfl
def s_gravity_unless (p0 : Bool) (p1 : Int) : Int :=
  (cond p0 (0 : Int)
    p1)
abbrev pre_gravity_unless (p0 : Bool) (p1 : Int) : List Prop := []
set_option maxHeartbeats 4000000 in
theorem d_gravity_unless (p0 : Bool) (p1 : Int) (K : Int → Prop) (hp : ∀ p ∈ pre_gravity_unless p0 p1, p) (h : K (s_gravity_unless p0 p1)) : w_gravity_unless p0 p1 K := by
  unfold w_gravity_unless
  unfold s_gravity_unless at h
  exact (br' h (fun e0 h => h)
    (fun e0 h => h))
abbrev con_gravity_unless : Con := ⟨P_gravity_unless, R_gravity_unless, fun x => pre_gravity_unless x.1 x.2, fun x => s_gravity_unless x.1 x.2⟩
theorem ok_gravity_unless : ConOk Tryd.prog 89 con_gravity_unless := ⟨k_gravity_unless, fun x hx => ret_tf (ps := P_gravity_unless) (rs := R_gravity_unless) (x := x) (y := s_gravity_unless x.1 x.2) e_gravity_unless hC_gravity_unless (tf_of (w_gravity_unless_eq x.1 x.2 (fun z => z = s_gravity_unless x.1 x.2)) (d_gravity_unless x.1 x.2 (fun z => z = s_gravity_unless x.1 x.2) hx rfl))⟩
theorem tx_unless0' {a : Bool} {x : Int} (hx : x ≠ 0) (h : s_gravity_unless a x = 0) : a = true := by
  cases a
  · exact (hx h).elim
  · rfl
/- gravity_first -/
def C_gravity_first : Cons := []
theorem hC_gravity_first : ConsOk Tryd.prog C_gravity_first := ConsOk.nil
def w_gravity_first (p0 : (List Int)) (K : Int → Prop) : Prop :=
 (∃ n0, (loopP (fun (y1 : Int) k2 =>
    ((((decide (y1 < (((List.length p0) : Nat) : Int))) = true) →
    (((0 : Int) ≤ y1) ∧
      ((y1 < (((List.length p0) : Nat) : Int)) ∧
      (((((List.getD p0 (Int.toNat y1) (0 : Int)) != (0 : Int)) = true) →
      (K (List.getD p0 (Int.toNat y1) (0 : Int)))) ∧
      ((((List.getD p0 (Int.toNat y1) (0 : Int)) != (0 : Int)) = false) →
      (k2 (IntKind.i64.wrap (y1 + (1 : Int))))))))) ∧
    (((decide (y1 < (((List.length p0) : Nat) : Int))) = false) →
    (K (0 : Int))))) n0 (0 : Int)))
set_option maxHeartbeats 4000000 in
theorem w_gravity_first_eq (p0 : (List Int)) (K : Int → Prop) : tfn F_gravity_first A_gravity_first C_gravity_first P_gravity_first R_gravity_first p0 K = w_gravity_first p0 K := by kernel_rfl
def st_gravity_first_0 (p0 : (List Int)) (y0 : Int) : Int ⊕ Int :=
  (cond (decide (y0 < (((List.length p0) : Nat) : Int))) (cond ((List.getD p0 (Int.toNat y0) (0 : Int)) != (0 : Int)) (Sum.inr (List.getD p0 (Int.toNat y0) (0 : Int)))
    (Sum.inl (IntKind.i64.wrap (y0 + (1 : Int)))))
    (Sum.inr (0 : Int)))
abbrev sp_gravity_first_0 (p0 : (List Int)) (y0 : Int) : List Prop := [(((decide (y0 < (((List.length p0) : Nat) : Int))) = true) → ((0 : Int) ≤ y0)),
    (((decide (y0 < (((List.length p0) : Nat) : Int))) = true) → (y0 < (((List.length p0) : Nat) : Int)))]
def s_gravity_first (p0 : (List Int)) : Int :=
  (lpv (0 : Int) (st_gravity_first_0 p0) (0 : Int))
abbrev pre_gravity_first (p0 : (List Int)) : List Prop := [(OkL (st_gravity_first_0 p0) (sp_gravity_first_0 p0) (0 : Int))]
set_option maxHeartbeats 4000000 in
theorem d_gravity_first (p0 : (List Int)) (K : Int → Prop) (hp : ∀ p ∈ pre_gravity_first p0, p) (h : K (s_gravity_first p0)) : w_gravity_first p0 K := by
  unfold w_gravity_first
  unfold s_gravity_first at h
  obtain ⟨hp0, _⟩ := conj_of hp
  exact (loop_gen (hp0) h (fun y0 k0 hp h => by
  unfold st_gravity_first_0 at h; obtain ⟨hp0, hp1, _⟩ := conj_of hp
  exact (br' h (fun e1 h => ⟨(hp0 e1), (hp1 e1), (br' h (fun e2 h => h)
    (fun e2 h => h))⟩)
    (fun e1 h => h))))
theorem l_gravity_first_0 (p0 : List Int) (hl : lenOk p0) : OkL (st_gravity_first_0 p0) (sp_gravity_first_0 p0) 0 ∧ lpv (0 : Int) (st_gravity_first_0 p0) 0 = v_scan (fun _ x => cond (x != 0) (some x) none) (0 : Int) 0 p0 := by
  refine scan_is p0 0 (fun _ x => cond (x != 0) (some x) none) (0 : Int) hl ?_ ?_
  · refine ⟨by simp only [sp_gravity_first_0, List.forall_mem_cons, decide_eq_true_eq]; simp, by simp [st_gravity_first_0]⟩
  · intro j hj
    have hj' : (j : Int) < p0.length := by omega
    refine ⟨by simp only [sp_gravity_first_0, List.forall_mem_cons, decide_eq_true_eq, Int.toNat_natCast]; simp <;> omega, ?_⟩
    simp only [st_gravity_first_0, hj', decide_true, Int.toNat_natCast, cond_true, wrap_nat (show (j : Int) ≤ 9223372036854775806 by unfold lenOk at hl; omega)]
    generalize p0.getD j 0 = x
    cases (x != 0) <;> rfl
abbrev t_gravity_first (p0 : List Int) : Int := v_first p0
abbrev qre_gravity_first (p0 : List Int) : List Prop := [lenOk p0]
theorem pp_gravity_first (p0 : List Int) (hq : ∀ p ∈ qre_gravity_first p0, p) : ∀ p ∈ pre_gravity_first p0, p := by
  simp only [pre_gravity_first, List.forall_mem_cons]
  exact ⟨(l_gravity_first_0 p0 (conj_of hq).1).1, by simp⟩
theorem tt_gravity_first (p0 : List Int) (hq : ∀ p ∈ qre_gravity_first p0, p) : s_gravity_first p0 = t_gravity_first p0 := by
  exact (l_gravity_first_0 p0 (conj_of hq).1).2.trans (v_first_scan p0 0)

abbrev con_gravity_first : Con := ⟨P_gravity_first, R_gravity_first, fun x => qre_gravity_first x, fun x => t_gravity_first x⟩
theorem ok_gravity_first : ConOk Tryd.prog 88 con_gravity_first := ⟨k_gravity_first, fun x hx => ret_tf (ps := P_gravity_first) (rs := R_gravity_first) (x := x) (y := t_gravity_first x) e_gravity_first hC_gravity_first (tf_of (w_gravity_first_eq x (fun z => z = t_gravity_first x)) (d_gravity_first x (fun z => z = t_gravity_first x) (pp_gravity_first x hx) (tt_gravity_first x hx)))⟩
/- gravity_rangeErr -/
def C_gravity_rangeErr : Cons := [(93, [], con_gravity_isSized), (89, [], con_gravity_unless), (88, [], con_gravity_first)]
theorem hC_gravity_rangeErr : ConsOk Tryd.prog C_gravity_rangeErr := ConsOk.cons ok_gravity_isSized <| ConsOk.cons ok_gravity_unless <| ConsOk.cons ok_gravity_first <| ConsOk.nil
def w_gravity_rangeErr (p0 : (Int × Int)) (p1 : Int) (K : Int → Prop) : Prop :=
 ((((s_gravity_isSized p0.1 p1) = true) →
  ((s_gravity_isSized p0.1 p1) = (s_gravity_isSized p0.1 p1))) ∧
  ((((s_gravity_isSized p0.1 p1) = true) →
  ((s_gravity_isSized p0.1 p1) = (s_gravity_isSized p0.1 p1))) ∧
  ((((s_gravity_isSized p0.1 p1) = true) →
  ((s_gravity_isSized p0.1 p1) = (s_gravity_isSized p0.1 p1))) ∧
  (((s_gravity_isSized p0.1 p1) = (s_gravity_isSized p0.1 p1)) ∧
  ((lenOk ((s_gravity_unless (cond (s_gravity_isSized p0.1 p1) (s_gravity_isSized p0.2 p1) false) (2 : Int)) :: ((s_gravity_unless (decide (p0.1 ≤ p0.2)) (9 : Int)) :: ([] : List Int)))) ∧
  (K (v_first ((s_gravity_unless (cond (s_gravity_isSized p0.1 p1) (s_gravity_isSized p0.2 p1) false) (2 : Int)) :: ((s_gravity_unless (decide (p0.1 ≤ p0.2)) (9 : Int)) :: ([] : List Int))))))))))
set_option maxHeartbeats 4000000 in
theorem w_gravity_rangeErr_eq (p0 : (Int × Int)) (p1 : Int) (K : Int → Prop) : tfn F_gravity_rangeErr A_gravity_rangeErr C_gravity_rangeErr P_gravity_rangeErr R_gravity_rangeErr (p0, p1) K = w_gravity_rangeErr p0 p1 K := by kernel_rfl
def s_gravity_rangeErr (p0 : (Int × Int)) (p1 : Int) : Int :=
  (v_first ((s_gravity_unless (cond (s_gravity_isSized p0.1 p1) (s_gravity_isSized p0.2 p1) false) (2 : Int)) :: ((s_gravity_unless (decide (p0.1 ≤ p0.2)) (9 : Int)) :: ([] : List Int))))
abbrev pre_gravity_rangeErr (p0 : (Int × Int)) (p1 : Int) : List Prop := []
set_option maxHeartbeats 4000000 in
theorem d_gravity_rangeErr (p0 : (Int × Int)) (p1 : Int) (K : Int → Prop) (hp : ∀ p ∈ pre_gravity_rangeErr p0 p1, p) (h : K (s_gravity_rangeErr p0 p1)) : w_gravity_rangeErr p0 p1 K := by
  unfold w_gravity_rangeErr
  unfold s_gravity_rangeErr at h
  exact ⟨rf, rf, rf, rfl, (lenOk_of 2 rfl (by decide)), h⟩
abbrev con_gravity_rangeErr : Con := ⟨P_gravity_rangeErr, R_gravity_rangeErr, fun x => pre_gravity_rangeErr x.1 x.2, fun x => s_gravity_rangeErr x.1 x.2⟩
theorem ok_gravity_rangeErr : ConOk Tryd.prog 98 con_gravity_rangeErr := ⟨k_gravity_rangeErr, fun x hx => ret_tf (ps := P_gravity_rangeErr) (rs := R_gravity_rangeErr) (x := x) (y := s_gravity_rangeErr x.1 x.2) e_gravity_rangeErr hC_gravity_rangeErr (tf_of (w_gravity_rangeErr_eq x.1 x.2 (fun z => z = s_gravity_rangeErr x.1 x.2)) (d_gravity_rangeErr x.1 x.2 (fun z => z = s_gravity_rangeErr x.1 x.2) hx rfl))⟩
theorem tx_within' {n lo hi : Int} : s_gravity_within n lo hi = true ↔ lo ≤ n ∧ n ≤ hi := by unfold s_gravity_within; simp
theorem tx_range3 {x : Int × Int} (h : s_gravity_rangeErr x 1000000 = 0) : (-1000000 ≤ x.1 ∧ x.1 ≤ 1000000) ∧ (-1000000 ≤ x.2 ∧ x.2 ≤ 1000000) ∧ x.1 ≤ x.2 := by
  unfold s_gravity_rangeErr s_gravity_isSized at h
  rw [show IntKind.i64.wrap (0 - 1000000) = -1000000 from rfl] at h
  obtain ⟨h1, h⟩ := v_first0 h
  obtain ⟨h2, _⟩ := v_first0 h
  cases a : s_gravity_within x.1 (-1000000) 1000000 <;> cases b : s_gravity_within x.2 (-1000000) 1000000 <;> by_cases c : x.1 ≤ x.2 <;> simp [s_gravity_unless, a, b, c] at h1 h2
  exact ⟨tx_within'.1 a, tx_within'.1 b, c⟩
/- gravity_CheckHeights -/
def C_gravity_CheckHeights : Cons := [(98, [], con_gravity_rangeErr)]
theorem hC_gravity_CheckHeights : ConsOk Tryd.prog C_gravity_CheckHeights := ConsOk.cons ok_gravity_rangeErr <| ConsOk.nil
def w_gravity_CheckHeights (p0 : (List (Int × Int))) (K : (Int × Int) → Prop) : Prop :=
 ((((decide ((((List.length p0) : Nat) : Int) > (64 : Int))) = true) →
  (K ((0 : Int), (8 : Int)))) ∧
  (((decide ((((List.length p0) : Nat) : Int) > (64 : Int))) = false) →
  (∃ n0, (loopP (fun (y1 : Int) k2 =>
      ((((decide (y1 < (((List.length p0) : Nat) : Int))) = true) →
      (((0 : Int) ≤ y1) ∧
        ((y1 < (((List.length p0) : Nat) : Int)) ∧
        (((((s_gravity_rangeErr (List.getD p0 (Int.toNat y1) ((0 : Int), (0 : Int))) (1000000 : Int)) != (0 : Int)) = true) →
        (K (y1, (s_gravity_rangeErr (List.getD p0 (Int.toNat y1) ((0 : Int), (0 : Int))) (1000000 : Int))))) ∧
        ((((s_gravity_rangeErr (List.getD p0 (Int.toNat y1) ((0 : Int), (0 : Int))) (1000000 : Int)) != (0 : Int)) = false) →
        (k2 (IntKind.i64.wrap (y1 + (1 : Int))))))))) ∧
      (((decide (y1 < (((List.length p0) : Nat) : Int))) = false) →
      (K ((0 : Int), (0 : Int)))))) n0 (0 : Int)))))
set_option maxHeartbeats 4000000 in
theorem w_gravity_CheckHeights_eq (p0 : (List (Int × Int))) (K : (Int × Int) → Prop) : tfn F_gravity_CheckHeights A_gravity_CheckHeights C_gravity_CheckHeights P_gravity_CheckHeights R_gravity_CheckHeights p0 K = w_gravity_CheckHeights p0 K := by kernel_rfl
def st_gravity_CheckHeights_0 (p0 : (List (Int × Int))) (y1 : Int) : Int ⊕ (Int × Int) :=
  (cond (decide (y1 < (((List.length p0) : Nat) : Int))) (cond ((s_gravity_rangeErr (List.getD p0 (Int.toNat y1) ((0 : Int), (0 : Int))) (1000000 : Int)) != (0 : Int)) (Sum.inr (y1, (s_gravity_rangeErr (List.getD p0 (Int.toNat y1) ((0 : Int), (0 : Int))) (1000000 : Int))))
    (Sum.inl (IntKind.i64.wrap (y1 + (1 : Int)))))
    (Sum.inr ((0 : Int), (0 : Int))))
abbrev sp_gravity_CheckHeights_0 (p0 : (List (Int × Int))) (y1 : Int) : List Prop := [(((decide (y1 < (((List.length p0) : Nat) : Int))) = true) → ((0 : Int) ≤ y1)),
    (((decide (y1 < (((List.length p0) : Nat) : Int))) = true) → (y1 < (((List.length p0) : Nat) : Int)))]
def s_gravity_CheckHeights (p0 : (List (Int × Int))) : (Int × Int) :=
  (cond (decide ((((List.length p0) : Nat) : Int) > (64 : Int))) ((0 : Int), (8 : Int))
    (lpv ((0 : Int), (0 : Int)) (st_gravity_CheckHeights_0 p0) (0 : Int)))
abbrev pre_gravity_CheckHeights (p0 : (List (Int × Int))) : List Prop := [(((decide ((((List.length p0) : Nat) : Int) > (64 : Int))) = false) → (OkL (st_gravity_CheckHeights_0 p0) (sp_gravity_CheckHeights_0 p0) (0 : Int)))]
set_option maxHeartbeats 4000000 in
theorem d_gravity_CheckHeights (p0 : (List (Int × Int))) (K : (Int × Int) → Prop) (hp : ∀ p ∈ pre_gravity_CheckHeights p0, p) (h : K (s_gravity_CheckHeights p0)) : w_gravity_CheckHeights p0 K := by
  unfold w_gravity_CheckHeights
  unfold s_gravity_CheckHeights at h
  obtain ⟨hp0, _⟩ := conj_of hp
  exact (br' h (fun e0 h => h)
    (fun e0 h => (loop_gen (hp0 e0) h (fun y1 k1 hp h => by
  unfold st_gravity_CheckHeights_0 at h; obtain ⟨hp0, hp1, _⟩ := conj_of hp
  exact (br' h (fun e2 h => ⟨(hp0 e2), (hp1 e2), (br' h (fun e3 h => h)
    (fun e3 h => h))⟩)
    (fun e2 h => h))))))
theorem l_gravity_CheckHeights_0 (p0 : List (Int × Int)) (hl : lenOk p0) : OkL (st_gravity_CheckHeights_0 p0) (sp_gravity_CheckHeights_0 p0) 0 ∧ lpv ((0 : Int), (0 : Int)) (st_gravity_CheckHeights_0 p0) 0 = v_scan (fun i x => cond (s_gravity_rangeErr x 1000000 != 0) (some (i, s_gravity_rangeErr x 1000000)) none) ((0 : Int), (0 : Int)) 0 p0 := by
  refine scan_is p0 (0, 0) (fun i x => cond (s_gravity_rangeErr x 1000000 != 0) (some (i, s_gravity_rangeErr x 1000000)) none) ((0 : Int), (0 : Int)) hl ?_ ?_
  · refine ⟨by simp only [sp_gravity_CheckHeights_0, List.forall_mem_cons, decide_eq_true_eq]; simp, by simp [st_gravity_CheckHeights_0]⟩
  · intro j hj
    have hj' : (j : Int) < p0.length := by omega
    refine ⟨by simp only [sp_gravity_CheckHeights_0, List.forall_mem_cons, decide_eq_true_eq, Int.toNat_natCast]; simp <;> omega, ?_⟩
    simp only [st_gravity_CheckHeights_0, hj', decide_true, Int.toNat_natCast, cond_true, wrap_nat (show (j : Int) ≤ 9223372036854775806 by unfold lenOk at hl; omega)]
    generalize p0.getD j (0, 0) = x
    cases (s_gravity_rangeErr x 1000000 != 0) <;> rfl
/-- The error of ranges, with an index. -/
def v_heights (p0 : List (Int × Int)) : Int × Int := cond (decide ((p0.length : Int) > 64)) (0, 8) (v_scan (fun i x => cond (s_gravity_rangeErr x 1000000 != 0) (some (i, s_gravity_rangeErr x 1000000)) none) ((0 : Int), (0 : Int)) 0 p0)
abbrev t_gravity_CheckHeights (p0 : List (Int × Int)) : Int × Int := v_heights p0
abbrev qre_gravity_CheckHeights (_ : List (Int × Int)) : List Prop := []
theorem pp_gravity_CheckHeights (p0 : List (Int × Int)) (_ : ∀ p ∈ qre_gravity_CheckHeights p0, p) : ∀ p ∈ pre_gravity_CheckHeights p0, p := by
  simp only [pre_gravity_CheckHeights, List.forall_mem_cons]
  refine ⟨fun h => (l_gravity_CheckHeights_0 p0 (lenOk_le (n := 64) ?_ (by decide))).1, by simp⟩
  have := of_decide_eq_false h; omega
theorem tt_gravity_CheckHeights (p0 : List (Int × Int)) (_ : ∀ p ∈ qre_gravity_CheckHeights p0, p) : s_gravity_CheckHeights p0 = t_gravity_CheckHeights p0 := by
  unfold s_gravity_CheckHeights t_gravity_CheckHeights v_heights
  cases h : decide ((p0.length : Int) > 64)
  · have := of_decide_eq_false h
    exact (l_gravity_CheckHeights_0 p0 (lenOk_le (n := 64) (by omega) (by decide))).2
  · rfl
structure v_hok (p0 : List (Int × Int)) : Prop where
  len : p0.length ≤ 64
  all : ∀ x ∈ p0, (-1000000 ≤ x.1 ∧ x.1 ≤ 1000000) ∧ (-1000000 ≤ x.2 ∧ x.2 ≤ 1000000) ∧ x.1 ≤ x.2
theorem tx_range {x : Int × Int} {m : Int} (hm : 0 ≤ m ∧ m ≤ 1000000000) (h : s_gravity_rangeErr x m = 0) : (-m ≤ x.1 ∧ x.1 ≤ m) ∧ (-m ≤ x.2 ∧ x.2 ≤ m) ∧ x.1 ≤ x.2 := by
  unfold s_gravity_rangeErr s_gravity_isSized at h
  have e : IntKind.i64.wrap (0 - m) = -m := by rw [wrap_id (by omega) (by omega)]; omega
  rw [e] at h
  obtain ⟨h1, h⟩ := v_first0 h
  obtain ⟨h2, _⟩ := v_first0 h
  cases a : s_gravity_within x.1 (-m) m <;> cases b : s_gravity_within x.2 (-m) m <;> by_cases c : x.1 ≤ x.2 <;> simp [s_gravity_unless, a, b, c] at h1 h2
  exact ⟨tx_within.1 a, tx_within.1 b, c⟩
theorem tx_heights {p0 : List (Int × Int)} (h : (v_heights p0).2 = 0) : v_hok p0 := by
  unfold v_heights at h
  cases hl : decide ((p0.length : Int) > 64)
  · rw [hl] at h
    have hl' := of_decide_eq_false hl
    refine ⟨by omega, fun x hx => ?_⟩
    have := v_scan_end (P := fun (r : Int × Int) => r.2 = 0) p0 0 h (fun j x v _ hv => by
      cases hb : (s_gravity_rangeErr x 1000000 != 0) <;> rw [hb] at hv <;> simp only [cond_true, cond_false, Option.some.injEq, reduceCtorEq] at hv
      subst hv; simpa using hb)
    obtain ⟨k, hk, rfl⟩ := List.mem_iff_getElem.1 hx
    have := this k hk
    cases hb : (s_gravity_rangeErr p0[k] 1000000 != 0)
    · exact tx_range (m := 1000000) (by decide) (bne0' hb)
    · rw [hb] at this; cases this
  · rw [hl] at h; cases h

abbrev con_gravity_CheckHeights : Con := ⟨P_gravity_CheckHeights, R_gravity_CheckHeights, fun x => qre_gravity_CheckHeights x, fun x => t_gravity_CheckHeights x⟩
theorem ok_gravity_CheckHeights : ConOk Tryd.prog 27 con_gravity_CheckHeights := ⟨k_gravity_CheckHeights, fun x hx => ret_tf (ps := P_gravity_CheckHeights) (rs := R_gravity_CheckHeights) (x := x) (y := t_gravity_CheckHeights x) e_gravity_CheckHeights hC_gravity_CheckHeights (tf_of (w_gravity_CheckHeights_eq x (fun z => z = t_gravity_CheckHeights x)) (d_gravity_CheckHeights x (fun z => z = t_gravity_CheckHeights x) (pp_gravity_CheckHeights x hx) (tt_gravity_CheckHeights x hx)))⟩
/- gravity_rangesErr -/
def C_gravity_rangesErr : Cons := [(27, [], con_gravity_CheckHeights)]
theorem hC_gravity_rangesErr : ConsOk Tryd.prog C_gravity_rangesErr := ConsOk.cons ok_gravity_CheckHeights <| ConsOk.nil
def w_gravity_rangesErr (p0 : (List (Int × Int))) (K : Int → Prop) : Prop :=
 (K (v_heights p0).2)
set_option maxHeartbeats 4000000 in
theorem w_gravity_rangesErr_eq (p0 : (List (Int × Int))) (K : Int → Prop) : tfn F_gravity_rangesErr A_gravity_rangesErr C_gravity_rangesErr P_gravity_rangesErr R_gravity_rangesErr p0 K = w_gravity_rangesErr p0 K := by kernel_rfl
def s_gravity_rangesErr (p0 : (List (Int × Int))) : Int :=
  (v_heights p0).2
abbrev pre_gravity_rangesErr (p0 : (List (Int × Int))) : List Prop := []
set_option maxHeartbeats 4000000 in
theorem d_gravity_rangesErr (p0 : (List (Int × Int))) (K : Int → Prop) (hp : ∀ p ∈ pre_gravity_rangesErr p0, p) (h : K (s_gravity_rangesErr p0)) : w_gravity_rangesErr p0 K := by
  unfold w_gravity_rangesErr
  unfold s_gravity_rangesErr at h
  exact h
abbrev con_gravity_rangesErr : Con := ⟨P_gravity_rangesErr, R_gravity_rangesErr, fun x => pre_gravity_rangesErr x, fun x => s_gravity_rangesErr x⟩
theorem ok_gravity_rangesErr : ConOk Tryd.prog 99 con_gravity_rangesErr := ⟨k_gravity_rangesErr, fun x hx => ret_tf (ps := P_gravity_rangesErr) (rs := R_gravity_rangesErr) (x := x) (y := s_gravity_rangesErr x) e_gravity_rangesErr hC_gravity_rangesErr (tf_of (w_gravity_rangesErr_eq x (fun z => z = s_gravity_rangesErr x)) (d_gravity_rangesErr x (fun z => z = s_gravity_rangesErr x) hx rfl))⟩
/- gravity_linear -/
def C_gravity_linear : Cons := []
theorem hC_gravity_linear : ConsOk Tryd.prog C_gravity_linear := ConsOk.nil
def w_gravity_linear (p0 : (List Int)) (p1 : (List (Int × Int))) (K : (Int × Int) → Prop) : Prop :=
 (∃ n0, (loopP (fun (y1 : (Int × (Int × Int))) k2 =>
    ((((decide (y1.1 < (((List.length p0) : Nat) : Int))) = true) →
    (((0 : Int) ≤ y1.1) ∧
      ((y1.1 < (((List.length p0) : Nat) : Int)) ∧
      (((0 : Int) ≤ y1.1) ∧
      ((y1.1 < (((List.length p1) : Nat) : Int)) ∧
      (((0 : Int) ≤ y1.1) ∧
      ((y1.1 < (((List.length p1) : Nat) : Int)) ∧
      (k2 ((IntKind.i64.wrap (y1.1 + (1 : Int))), ((IntKind.i64.wrap (y1.2.1 + (min (IntKind.i64.wrap ((List.getD p0 (Int.toNat y1.1) (0 : Int)) * (List.getD p1 (Int.toNat y1.1) ((0 : Int), (0 : Int))).1)) (IntKind.i64.wrap ((List.getD p0 (Int.toNat y1.1) (0 : Int)) * (List.getD p1 (Int.toNat y1.1) ((0 : Int), (0 : Int))).2))))), (IntKind.i64.wrap (y1.2.2 + (max (IntKind.i64.wrap ((List.getD p0 (Int.toNat y1.1) (0 : Int)) * (List.getD p1 (Int.toNat y1.1) ((0 : Int), (0 : Int))).1)) (IntKind.i64.wrap ((List.getD p0 (Int.toNat y1.1) (0 : Int)) * (List.getD p1 (Int.toNat y1.1) ((0 : Int), (0 : Int))).2))))))))))))))) ∧
    (((decide (y1.1 < (((List.length p0) : Nat) : Int))) = false) →
    (K y1.2)))) n0 ((0 : Int), ((0 : Int), (0 : Int)))))
set_option maxHeartbeats 4000000 in
theorem w_gravity_linear_eq (p0 : (List Int)) (p1 : (List (Int × Int))) (K : (Int × Int) → Prop) : tfn F_gravity_linear A_gravity_linear C_gravity_linear P_gravity_linear R_gravity_linear (p0, p1) K = w_gravity_linear p0 p1 K := by kernel_rfl
def st_gravity_linear_0 (p0 : (List Int)) (p1 : (List (Int × Int))) (y0 : (Int × (Int × Int))) : (Int × (Int × Int)) ⊕ (Int × Int) :=
  (cond (decide (y0.1 < (((List.length p0) : Nat) : Int))) (Sum.inl ((IntKind.i64.wrap (y0.1 + (1 : Int))), ((IntKind.i64.wrap (y0.2.1 + (min (IntKind.i64.wrap ((List.getD p0 (Int.toNat y0.1) (0 : Int)) * (List.getD p1 (Int.toNat y0.1) ((0 : Int), (0 : Int))).1)) (IntKind.i64.wrap ((List.getD p0 (Int.toNat y0.1) (0 : Int)) * (List.getD p1 (Int.toNat y0.1) ((0 : Int), (0 : Int))).2))))), (IntKind.i64.wrap (y0.2.2 + (max (IntKind.i64.wrap ((List.getD p0 (Int.toNat y0.1) (0 : Int)) * (List.getD p1 (Int.toNat y0.1) ((0 : Int), (0 : Int))).1)) (IntKind.i64.wrap ((List.getD p0 (Int.toNat y0.1) (0 : Int)) * (List.getD p1 (Int.toNat y0.1) ((0 : Int), (0 : Int))).2))))))))
    (Sum.inr y0.2))
abbrev sp_gravity_linear_0 (p0 : (List Int)) (p1 : (List (Int × Int))) (y0 : (Int × (Int × Int))) : List Prop := [(((decide (y0.1 < (((List.length p0) : Nat) : Int))) = true) → ((0 : Int) ≤ y0.1)),
    (((decide (y0.1 < (((List.length p0) : Nat) : Int))) = true) → (y0.1 < (((List.length p0) : Nat) : Int))),
    (((decide (y0.1 < (((List.length p0) : Nat) : Int))) = true) → (y0.1 < (((List.length p1) : Nat) : Int)))]
def s_gravity_linear (p0 : (List Int)) (p1 : (List (Int × Int))) : (Int × Int) :=
  (lpv ((0 : Int), (0 : Int)) (st_gravity_linear_0 p0 p1) ((0 : Int), ((0 : Int), (0 : Int))))
abbrev pre_gravity_linear (p0 : (List Int)) (p1 : (List (Int × Int))) : List Prop := [(OkL (st_gravity_linear_0 p0 p1) (sp_gravity_linear_0 p0 p1) ((0 : Int), ((0 : Int), (0 : Int))))]
set_option maxHeartbeats 4000000 in
theorem d_gravity_linear (p0 : (List Int)) (p1 : (List (Int × Int))) (K : (Int × Int) → Prop) (hp : ∀ p ∈ pre_gravity_linear p0 p1, p) (h : K (s_gravity_linear p0 p1)) : w_gravity_linear p0 p1 K := by
  unfold w_gravity_linear
  unfold s_gravity_linear at h
  obtain ⟨hp0, _⟩ := conj_of hp
  exact (loop_gen (hp0) h (fun y0 k0 hp h => by
  unfold st_gravity_linear_0 at h; obtain ⟨hp0, hp1, hp2, _⟩ := conj_of hp
  exact (br' h (fun e1 h => ⟨(hp0 e1), (hp1 e1), (hp0 e1), (hp2 e1), (hp0 e1), (hp2 e1), h⟩)
    (fun e1 h => h))))
/-- The range of the sum of weights times numbers within ranges. -/
def v_lin : List Int → List (Int × Int) → Int × Int
  | w :: ws, x :: xs => (min (w * x.1) (w * x.2) + (v_lin ws xs).1, max (w * x.1) (w * x.2) + (v_lin ws xs).2)
  | _, _ => (0, 0)
theorem v_prod {w x m : Int} (hw : -m ≤ w ∧ w ≤ m) (hx : -1000000 ≤ x ∧ x ≤ 1000000) (hm : 0 ≤ m) : -(m * 1000000) ≤ w * x ∧ w * x ≤ m * 1000000 := by
  have h1 : 0 ≤ (m - w) * (1000000 + x) := Int.mul_nonneg (by omega) (by omega)
  have h2 : 0 ≤ (m + w) * (1000000 - x) := Int.mul_nonneg (by omega) (by omega)
  have h3 : 0 ≤ (m - w) * (1000000 - x) := Int.mul_nonneg (by omega) (by omega)
  have h4 : 0 ≤ (m + w) * (1000000 + x) := Int.mul_nonneg (by omega) (by omega)
  simp only [Int.sub_mul, Int.add_mul, Int.mul_add, Int.mul_sub] at h1 h2 h3 h4
  omega
/-- Weights, and numbers within ranges, whose sums fit. -/
structure v_linok (p0 : List Int) (p1 : List (Int × Int)) : Prop where
  len : p0.length ≤ p1.length
  few : p0.length ≤ 100
  w : ∀ x ∈ p0, -1000000 ≤ x ∧ x ≤ 1000000
  x : ∀ x ∈ p1, (-1000000 ≤ x.1 ∧ x.1 ≤ 1000000) ∧ (-1000000 ≤ x.2 ∧ x.2 ≤ 1000000)
theorem l_gravity_linear (p0 : List Int) (p1 : List (Int × Int)) (h : v_linok p0 p1) : OkL (st_gravity_linear_0 p0 p1) (sp_gravity_linear_0 p0 p1) (0, 0, 0) ∧ s_gravity_linear p0 p1 = v_lin p0 p1 := by
  have hf := h.few
  have hle := h.len
  have := list_is (dd := ((0 : Int), (0 : Int))) (st := st_gravity_linear_0 p0 p1) (sp := sp_gravity_linear_0 p0 p1) (fun i (t : Int × Int) => (i, t)) p0 0
    (fun r t => r.length ≤ p0.length ∧ (-((p0.length - r.length) * 1000000000000) ≤ t.1 ∧ t.1 ≤ ((p0.length - r.length) * 1000000000000)) ∧ (-((p0.length - r.length) * 1000000000000) ≤ t.2 ∧ t.2 ≤ ((p0.length - r.length) * 1000000000000)))
    (fun r t => (t.1 + (v_lin r (p1.drop (p0.length - r.length))).1, t.2 + (v_lin r (p1.drop (p0.length - r.length))).2)) (by unfold lenOk; omega) ?_ ?_ (0, 0) ⟨Nat.le_refl _, by simp, by simp⟩
  · refine ⟨this.1, this.2.trans ?_⟩
    simp
  · intro t _
    refine ⟨by simp only [sp_gravity_linear_0, List.forall_mem_cons, decide_eq_true_eq]; simp, by simp [st_gravity_linear_0, v_lin]⟩
  · intro j t hj hi
    obtain ⟨_, hi1, hi2⟩ := hi
    have hj' : (j : Int) < p0.length := by omega
    have e1 : (p0.getD j 0 :: p0.drop (j + 1)).length = p0.length - j := by simp; omega
    have e2 : (p0.drop (j + 1)).length = p0.length - (j + 1) := by simp
    have e3 : p0.length - (p0.length - j) = j := by omega
    have e4 : p0.length - (p0.length - (j + 1)) = j + 1 := by omega
    rw [e1] at hi1 hi2
    have hw := h.w _ (getD_mem' 0 hj)
    have hx := h.x _ (getD_mem' (0, 0) (show j < p1.length by omega))
    have hd := drop_getD ((0 : Int), (0 : Int)) (show j < p1.length by omega)
    refine ⟨by simp only [sp_gravity_linear_0, List.forall_mem_cons, decide_eq_true_eq]; simp <;> omega, .inl ⟨(t.1 + min (p0.getD j 0 * (p1.getD j (0, 0)).1) (p0.getD j 0 * (p1.getD j (0, 0)).2), t.2 + max (p0.getD j 0 * (p1.getD j (0, 0)).1) (p0.getD j 0 * (p1.getD j (0, 0)).2)), ?_, ?_, ?_⟩⟩
    · simp only [st_gravity_linear_0, hj', decide_true, Int.toNat_natCast, cond_true, wrap_nat (show (j : Int) ≤ 9223372036854775806 by omega)]
      generalize p0.getD j 0 = w at *
      generalize p1.getD j (0, 0) = x at *
      have b1 := v_prod (m := 1000000) hw hx.1 (by decide)
      have b2 := v_prod (m := 1000000) hw hx.2 (by decide)
      rw [wrap_id (n := w * x.1) (by omega) (by omega), wrap_id (n := w * x.2) (by omega) (by omega), wrap_id (by omega) (by omega), wrap_id (by omega) (by omega)]
    · rw [e2]
      generalize p0.getD j 0 = w at *
      generalize p1.getD j (0, 0) = x at *
      have b1 := v_prod (m := 1000000) hw hx.1 (by decide)
      have b2 := v_prod (m := 1000000) hw hx.2 (by decide)
      exact ⟨by omega, by simp only; omega, by simp only; omega⟩
    · rw [e1, e2, e3, e4, hd]
      simp only [v_lin]
      rw [Prod.mk.injEq]
      exact ⟨by omega, by omega⟩
abbrev t_gravity_linear (p0 : List Int) (p1 : List (Int × Int)) : Int × Int := v_lin p0 p1
abbrev qre_gravity_linear (p0 : List Int) (p1 : List (Int × Int)) : List Prop := [v_linok p0 p1]
theorem pp_gravity_linear (p0 : List Int) (p1 : List (Int × Int)) (hq : ∀ p ∈ qre_gravity_linear p0 p1, p) : ∀ p ∈ pre_gravity_linear p0 p1, p := by
  simp only [pre_gravity_linear, List.forall_mem_cons]
  exact ⟨(l_gravity_linear p0 p1 (conj_of hq).1).1, by simp⟩
theorem tt_gravity_linear (p0 : List Int) (p1 : List (Int × Int)) (hq : ∀ p ∈ qre_gravity_linear p0 p1, p) : s_gravity_linear p0 p1 = t_gravity_linear p0 p1 := (l_gravity_linear p0 p1 (conj_of hq).1).2

abbrev con_gravity_linear : Con := ⟨P_gravity_linear, R_gravity_linear, fun x => qre_gravity_linear x.1 x.2, fun x => t_gravity_linear x.1 x.2⟩
theorem ok_gravity_linear : ConOk Tryd.prog 101 con_gravity_linear := ⟨k_gravity_linear, fun x hx => ret_tf (ps := P_gravity_linear) (rs := R_gravity_linear) (x := x) (y := t_gravity_linear x.1 x.2) e_gravity_linear hC_gravity_linear (tf_of (w_gravity_linear_eq x.1 x.2 (fun z => z = t_gravity_linear x.1 x.2)) (d_gravity_linear x.1 x.2 (fun z => z = t_gravity_linear x.1 x.2) (pp_gravity_linear x.1 x.2 hx) (tt_gravity_linear x.1 x.2 hx)))⟩
/- gravity_ClosureOf -/
def C_gravity_ClosureOf : Cons := [(99, [], con_gravity_rangesErr), (89, [], con_gravity_unless), (88, [], con_gravity_first), (105, ownMark, con_slices_Repeatint_int), (101, [], con_gravity_linear), (94, [], con_gravity_within)]
theorem hC_gravity_ClosureOf : ConsOk Tryd.prog C_gravity_ClosureOf := ConsOk.cons ok_gravity_rangesErr <| ConsOk.cons ok_gravity_unless <| ConsOk.cons ok_gravity_first <| ConsOk.consO ok_slices_Repeatint_int <| ConsOk.cons ok_gravity_linear <| ConsOk.cons ok_gravity_within <| ConsOk.nil
abbrev q0_gravity_ClosureOf (p0 : (List (Int × Int))) := (v_lin (List.replicate (Int.toNat (((List.length p0) : Nat) : Int)) zz1) p0)
abbrev q1_gravity_ClosureOf (p0 : (List (Int × Int))) := ((s_gravity_rangesErr p0) :: ((s_gravity_unless (decide ((((List.length p0) : Nat) : Int) > zz0)) (10 : Int)) :: ([] : List Int)))
def w_gravity_ClosureOf (p0 : (List (Int × Int))) (K : ((Int × Int) × (Int × Int)) → Prop) : Prop :=
 ((lenOk (q1_gravity_ClosureOf p0)) ∧
  (((((v_first (q1_gravity_ClosureOf p0)) != zz0) = true) →
  (K ((zz0, zz0), (zz0, (v_first (q1_gravity_ClosureOf p0)))))) ∧
  ((((v_first (q1_gravity_ClosureOf p0)) != zz0) = false) →
  (((List.length (zz1 :: ([] : List Int))) = 1) ∧
    ((zz0 ≤ (((List.length p0) : Nat) : Int)) ∧
    (((((List.length p0) : Nat) : Int) ≤ (1000000 : Int)) ∧
    ((v_linok (List.replicate (Int.toNat (((List.length p0) : Nat) : Int)) zz1) p0) ∧
    ((((((q0_gravity_ClosureOf p0).1 == zz0) && (((q0_gravity_ClosureOf p0).2 == zz0) && true)) = true) →
    (K ((q0_gravity_ClosureOf p0), (zz2, zz0)))) ∧
    (((((q0_gravity_ClosureOf p0).1 == zz0) && (((q0_gravity_ClosureOf p0).2 == zz0) && true)) = false) →
    ((((!(s_gravity_within zz0 (q0_gravity_ClosureOf p0).1 (q0_gravity_ClosureOf p0).2)) = true) →
      (K ((q0_gravity_ClosureOf p0), (zz0, zz0)))) ∧
      (((!(s_gravity_within zz0 (q0_gravity_ClosureOf p0).1 (q0_gravity_ClosureOf p0).2)) = false) →
      (K ((q0_gravity_ClosureOf p0), (zz1, zz0))))))))))))))
set_option maxHeartbeats 4000000 in
theorem w_gravity_ClosureOf_eq (p0 : (List (Int × Int))) (K : ((Int × Int) × (Int × Int)) → Prop) : tfn F_gravity_ClosureOf A_gravity_ClosureOf C_gravity_ClosureOf P_gravity_ClosureOf R_gravity_ClosureOf p0 K = w_gravity_ClosureOf p0 K := by kernel_rfl
def s_gravity_ClosureOf (p0 : (List (Int × Int))) : ((Int × Int) × (Int × Int)) :=
  (cond ((v_first ((s_gravity_rangesErr p0) :: ((s_gravity_unless (decide ((((List.length p0) : Nat) : Int) > (0 : Int))) (10 : Int)) :: ([] : List Int)))) != (0 : Int)) (((0 : Int), (0 : Int)), ((0 : Int), (v_first ((s_gravity_rangesErr p0) :: ((s_gravity_unless (decide ((((List.length p0) : Nat) : Int) > (0 : Int))) (10 : Int)) :: ([] : List Int))))))
    (cond (((v_lin (List.replicate (Int.toNat (((List.length p0) : Nat) : Int)) (1 : Int)) p0).1 == (0 : Int)) && (((v_lin (List.replicate (Int.toNat (((List.length p0) : Nat) : Int)) (1 : Int)) p0).2 == (0 : Int)) && true)) ((v_lin (List.replicate (Int.toNat (((List.length p0) : Nat) : Int)) (1 : Int)) p0), ((2 : Int), (0 : Int)))
    (cond (!(s_gravity_within (0 : Int) (v_lin (List.replicate (Int.toNat (((List.length p0) : Nat) : Int)) (1 : Int)) p0).1 (v_lin (List.replicate (Int.toNat (((List.length p0) : Nat) : Int)) (1 : Int)) p0).2)) ((v_lin (List.replicate (Int.toNat (((List.length p0) : Nat) : Int)) (1 : Int)) p0), ((0 : Int), (0 : Int)))
    ((v_lin (List.replicate (Int.toNat (((List.length p0) : Nat) : Int)) (1 : Int)) p0), ((1 : Int), (0 : Int))))))
abbrev pre_gravity_ClosureOf (p0 : (List (Int × Int))) : List Prop := [((((v_first ((s_gravity_rangesErr p0) :: ((s_gravity_unless (decide ((((List.length p0) : Nat) : Int) > (0 : Int))) (10 : Int)) :: ([] : List Int)))) != (0 : Int)) = false) → ((List.length ((1 : Int) :: ([] : List Int))) = 1)),
    ((((v_first ((s_gravity_rangesErr p0) :: ((s_gravity_unless (decide ((((List.length p0) : Nat) : Int) > (0 : Int))) (10 : Int)) :: ([] : List Int)))) != (0 : Int)) = false) → ((0 : Int) ≤ (((List.length p0) : Nat) : Int))),
    ((((v_first ((s_gravity_rangesErr p0) :: ((s_gravity_unless (decide ((((List.length p0) : Nat) : Int) > (0 : Int))) (10 : Int)) :: ([] : List Int)))) != (0 : Int)) = false) → ((((List.length p0) : Nat) : Int) ≤ (1000000 : Int))),
    ((((v_first ((s_gravity_rangesErr p0) :: ((s_gravity_unless (decide ((((List.length p0) : Nat) : Int) > (0 : Int))) (10 : Int)) :: ([] : List Int)))) != (0 : Int)) = false) → (v_linok (List.replicate (Int.toNat (((List.length p0) : Nat) : Int)) (1 : Int)) p0))]
set_option maxHeartbeats 4000000 in
theorem d_gravity_ClosureOf (p0 : (List (Int × Int))) (K : ((Int × Int) × (Int × Int)) → Prop) (hp : ∀ p ∈ pre_gravity_ClosureOf p0, p) (h : K (s_gravity_ClosureOf p0)) : w_gravity_ClosureOf p0 K := by
  unfold w_gravity_ClosureOf
  unfold s_gravity_ClosureOf at h
  obtain ⟨hp0, hp1, hp2, hp3, _⟩ := conj_of hp
  exact ⟨(lenOk_of 2 rfl (by decide)), (br' h (fun e0 h => h)
    (fun e0 h => ⟨(hp0 e0), (hp1 e0), (hp2 e0), (hp3 e0), (br' h (fun e1 h => h)
    (fun e1 h => (br' h (fun e2 h => h)
    (fun e2 h => h))))⟩))⟩
/-- The closure, and the answer, out of the sums. -/
def v_clo (s : Int × Int) : (Int × Int) × Int := (s, cond ((s.1 == 0) && ((s.2 == 0) && true)) 2 (cond (!(s_gravity_within 0 s.1 s.2)) 0 1))
def v_ones (p0 : List (Int × Int)) : Int × Int := v_lin (List.replicate p0.length 1) p0
/-- The error of a closure. -/
def v_clerr (p0 : List (Int × Int)) : Int := v_first [s_gravity_rangesErr p0, s_gravity_unless (decide ((p0.length : Int) > 0)) 10]
abbrev t_gravity_ClosureOf (p0 : List (Int × Int)) : (Int × Int) × (Int × Int) := cond (v_clerr p0 != 0) ((0, 0), (0, v_clerr p0)) ((v_clo (v_ones p0)).1, ((v_clo (v_ones p0)).2, 0))
abbrev qre_gravity_ClosureOf (_ : List (Int × Int)) : List Prop := []
theorem pp_gravity_ClosureOf (p0 : List (Int × Int)) (_ : ∀ p ∈ qre_gravity_ClosureOf p0, p) : ∀ p ∈ pre_gravity_ClosureOf p0, p := by
  simp only [pre_gravity_ClosureOf, List.forall_mem_cons, Int.toNat_natCast]
  have key : (v_clerr p0 != 0) = false → v_hok p0 := fun h => tx_heights (show (v_heights p0).2 = 0 from (v_first0 (bne0' h)).1)
  refine ⟨fun _ => rfl, fun _ => by omega, fun h => by have := (key h).len; omega, fun h => ?_, by simp⟩
  have hk := key h
  have hl := hk.len
  exact ⟨by simp, by simp; omega, fun x hx => by have := List.eq_of_mem_replicate hx; omega, fun x hx => ⟨(hk.all x hx).1, (hk.all x hx).2.1⟩⟩
theorem tt_gravity_ClosureOf (p0 : List (Int × Int)) (_ : ∀ p ∈ qre_gravity_ClosureOf p0, p) : s_gravity_ClosureOf p0 = t_gravity_ClosureOf p0 := by
  unfold s_gravity_ClosureOf
  rw [Int.toNat_natCast]
  show cond (v_clerr p0 != 0) _ (cond (((v_ones p0).1 == 0) && (((v_ones p0).2 == 0) && true)) (v_ones p0, (2, 0)) (cond (!(s_gravity_within 0 (v_ones p0).1 (v_ones p0).2)) (v_ones p0, (0, 0)) (v_ones p0, (1, 0)))) = _
  unfold t_gravity_ClosureOf v_clo
  cases (v_clerr p0 != 0)
  · cases (((v_ones p0).1 == 0) && (((v_ones p0).2 == 0) && true)) <;> cases s_gravity_within 0 (v_ones p0).1 (v_ones p0).2 <;> rfl
  · rfl

abbrev con_gravity_ClosureOf : Con := ⟨P_gravity_ClosureOf, R_gravity_ClosureOf, fun x => qre_gravity_ClosureOf x, fun x => t_gravity_ClosureOf x⟩
theorem ok_gravity_ClosureOf : ConOk Tryd.prog 37 con_gravity_ClosureOf := ⟨k_gravity_ClosureOf, fun x hx => ret_tf (ps := P_gravity_ClosureOf) (rs := R_gravity_ClosureOf) (x := x) (y := t_gravity_ClosureOf x) e_gravity_ClosureOf hC_gravity_ClosureOf (tf_of (w_gravity_ClosureOf_eq x (fun z => z = t_gravity_ClosureOf x)) (d_gravity_ClosureOf x (fun z => z = t_gravity_ClosureOf x) (pp_gravity_ClosureOf x hx) (tt_gravity_ClosureOf x hx)))⟩
/- base_Within -/
def C_base_Within : Cons := []
theorem hC_base_Within : ConsOk Tryd.prog C_base_Within := ConsOk.nil
def w_base_Within (p0 : Int) (p1 : Int) (p2 : Int) (K : Bool → Prop) : Prop :=
 ((((decide (p1 ≤ p0)) = true) →
  ((decide (p1 ≤ p0)) = (decide (p1 ≤ p0)))) ∧
  ((((decide (p1 ≤ p0)) = true) →
  ((decide (p1 ≤ p0)) = (decide (p1 ≤ p0)))) ∧
  (((decide (p1 ≤ p0)) = (decide (p1 ≤ p0))) ∧
  (K (cond (decide (p1 ≤ p0)) (decide (p0 ≤ p2)) false)))))
set_option maxHeartbeats 4000000 in
theorem w_base_Within_eq (p0 : Int) (p1 : Int) (p2 : Int) (K : Bool → Prop) : tfn F_base_Within A_base_Within C_base_Within P_base_Within R_base_Within (p0, p1, p2) K = w_base_Within p0 p1 p2 K := by kernel_rfl
def s_base_Within (p0 : Int) (p1 : Int) (p2 : Int) : Bool :=
  (cond (decide (p1 ≤ p0)) (decide (p0 ≤ p2)) false)
abbrev pre_base_Within (p0 : Int) (p1 : Int) (p2 : Int) : List Prop := []
set_option maxHeartbeats 4000000 in
theorem d_base_Within (p0 : Int) (p1 : Int) (p2 : Int) (K : Bool → Prop) (hp : ∀ p ∈ pre_base_Within p0 p1 p2, p) (h : K (s_base_Within p0 p1 p2)) : w_base_Within p0 p1 p2 K := by
  unfold w_base_Within
  unfold s_base_Within at h
  exact ⟨rf, rf, rfl, h⟩
abbrev con_base_Within : Con := ⟨P_base_Within, R_base_Within, fun x => pre_base_Within x.1 x.2.1 x.2.2, fun x => s_base_Within x.1 x.2.1 x.2.2⟩
theorem ok_base_Within : ConOk Tryd.prog 60 con_base_Within := ⟨k_base_Within, fun x hx => ret_tf (ps := P_base_Within) (rs := R_base_Within) (x := x) (y := s_base_Within x.1 x.2.1 x.2.2) e_base_Within hC_base_Within (tf_of (w_base_Within_eq x.1 x.2.1 x.2.2 (fun z => z = s_base_Within x.1 x.2.1 x.2.2)) (d_base_Within x.1 x.2.1 x.2.2 (fun z => z = s_base_Within x.1 x.2.1 x.2.2) hx rfl))⟩
/- ref05_rangeErr -/
def C_ref05_rangeErr : Cons := [(60, [], con_base_Within)]
theorem hC_ref05_rangeErr : ConsOk Tryd.prog C_ref05_rangeErr := ConsOk.cons ok_base_Within <| ConsOk.nil
def w_ref05_rangeErr (p0 : (Int × Int)) (p1 : Int) (K : Int → Prop) : Prop :=
 ((((!(s_base_Within p0.1 (IntKind.i64.wrap ((0 : Int) - p1)) p1)) = false) →
  ((!(s_base_Within p0.1 (IntKind.i64.wrap ((0 : Int) - p1)) p1)) = (!(s_base_Within p0.1 (IntKind.i64.wrap ((0 : Int) - p1)) p1)))) ∧
  ((((!(s_base_Within p0.1 (IntKind.i64.wrap ((0 : Int) - p1)) p1)) = false) →
  ((!(s_base_Within p0.1 (IntKind.i64.wrap ((0 : Int) - p1)) p1)) = (!(s_base_Within p0.1 (IntKind.i64.wrap ((0 : Int) - p1)) p1)))) ∧
  ((((!(s_base_Within p0.1 (IntKind.i64.wrap ((0 : Int) - p1)) p1)) = false) →
  ((!(s_base_Within p0.1 (IntKind.i64.wrap ((0 : Int) - p1)) p1)) = (!(s_base_Within p0.1 (IntKind.i64.wrap ((0 : Int) - p1)) p1)))) ∧
  ((((!(s_base_Within p0.1 (IntKind.i64.wrap ((0 : Int) - p1)) p1)) = false) →
  ((!(s_base_Within p0.1 (IntKind.i64.wrap ((0 : Int) - p1)) p1)) = (!(s_base_Within p0.1 (IntKind.i64.wrap ((0 : Int) - p1)) p1)))) ∧
  ((((!(s_base_Within p0.1 (IntKind.i64.wrap ((0 : Int) - p1)) p1)) = false) →
  ((!(s_base_Within p0.1 (IntKind.i64.wrap ((0 : Int) - p1)) p1)) = (!(s_base_Within p0.1 (IntKind.i64.wrap ((0 : Int) - p1)) p1)))) ∧
  ((((!(s_base_Within p0.1 (IntKind.i64.wrap ((0 : Int) - p1)) p1)) = false) →
  ((!(s_base_Within p0.1 (IntKind.i64.wrap ((0 : Int) - p1)) p1)) = (!(s_base_Within p0.1 (IntKind.i64.wrap ((0 : Int) - p1)) p1)))) ∧
  (((!(s_base_Within p0.1 (IntKind.i64.wrap ((0 : Int) - p1)) p1)) = (!(s_base_Within p0.1 (IntKind.i64.wrap ((0 : Int) - p1)) p1))) ∧
  ((((cond (!(s_base_Within p0.1 (IntKind.i64.wrap ((0 : Int) - p1)) p1)) true (!(s_base_Within p0.2 (IntKind.i64.wrap ((0 : Int) - p1)) p1))) = true) →
  (K (2 : Int))) ∧
  (((cond (!(s_base_Within p0.1 (IntKind.i64.wrap ((0 : Int) - p1)) p1)) true (!(s_base_Within p0.2 (IntKind.i64.wrap ((0 : Int) - p1)) p1))) = false) →
  ((((decide (p0.1 > p0.2)) = true) →
    (K (9 : Int))) ∧
    (((decide (p0.1 > p0.2)) = false) →
    (K (0 : Int)))))))))))))
set_option maxHeartbeats 4000000 in
theorem w_ref05_rangeErr_eq (p0 : (Int × Int)) (p1 : Int) (K : Int → Prop) : tfn F_ref05_rangeErr A_ref05_rangeErr C_ref05_rangeErr P_ref05_rangeErr R_ref05_rangeErr (p0, p1) K = w_ref05_rangeErr p0 p1 K := by kernel_rfl
def s_ref05_rangeErr (p0 : (Int × Int)) (p1 : Int) : Int :=
  (cond (cond (!(s_base_Within p0.1 (IntKind.i64.wrap ((0 : Int) - p1)) p1)) true (!(s_base_Within p0.2 (IntKind.i64.wrap ((0 : Int) - p1)) p1))) (2 : Int)
    (cond (decide (p0.1 > p0.2)) (9 : Int)
    (0 : Int)))
abbrev pre_ref05_rangeErr (p0 : (Int × Int)) (p1 : Int) : List Prop := []
set_option maxHeartbeats 4000000 in
theorem d_ref05_rangeErr (p0 : (Int × Int)) (p1 : Int) (K : Int → Prop) (hp : ∀ p ∈ pre_ref05_rangeErr p0 p1, p) (h : K (s_ref05_rangeErr p0 p1)) : w_ref05_rangeErr p0 p1 K := by
  unfold w_ref05_rangeErr
  unfold s_ref05_rangeErr at h
  exact ⟨rf, rf, rf, rf, rf, rf, rfl, (br' h (fun e0 h => h)
    (fun e0 h => (br' h (fun e1 h => h)
    (fun e1 h => h))))⟩
theorem tx_eqw {n lo hi : Int} : s_base_Within n lo hi = s_gravity_within n lo hi := rfl
abbrev t_ref05_rangeErr (p0 : Int × Int) (p1 : Int) : Int := s_gravity_rangeErr p0 p1
abbrev qre_ref05_rangeErr (_ : Int × Int) (_ : Int) : List Prop := []
theorem pp_ref05_rangeErr (p0 : Int × Int) (p1 : Int) (_ : ∀ p ∈ qre_ref05_rangeErr p0 p1, p) : ∀ p ∈ pre_ref05_rangeErr p0 p1, p := by intro p hp; simp at hp
theorem tt_ref05_rangeErr (p0 : Int × Int) (p1 : Int) (_ : ∀ p ∈ qre_ref05_rangeErr p0 p1, p) : s_ref05_rangeErr p0 p1 = t_ref05_rangeErr p0 p1 := by
  unfold s_ref05_rangeErr t_ref05_rangeErr s_gravity_rangeErr s_gravity_isSized
  simp only [tx_eqw]
  rcases Int.lt_or_le p0.2 p0.1 with h | h
  · have h' : ¬ p0.1 ≤ p0.2 := by omega
    cases s_gravity_within p0.1 (IntKind.i64.wrap (0 - p1)) p1 <;> cases s_gravity_within p0.2 (IntKind.i64.wrap (0 - p1)) p1 <;> simp [s_gravity_unless, v_first, h, h']
  · have h' : ¬ p0.2 < p0.1 := by omega
    cases s_gravity_within p0.1 (IntKind.i64.wrap (0 - p1)) p1 <;> cases s_gravity_within p0.2 (IntKind.i64.wrap (0 - p1)) p1 <;> simp [s_gravity_unless, v_first, h, h']

abbrev con_ref05_rangeErr : Con := ⟨P_ref05_rangeErr, R_ref05_rangeErr, fun x => qre_ref05_rangeErr x.1 x.2, fun x => t_ref05_rangeErr x.1 x.2⟩
theorem ok_ref05_rangeErr : ConOk Tryd.prog 103 con_ref05_rangeErr := ⟨k_ref05_rangeErr, fun x hx => ret_tf (ps := P_ref05_rangeErr) (rs := R_ref05_rangeErr) (x := x) (y := t_ref05_rangeErr x.1 x.2) e_ref05_rangeErr hC_ref05_rangeErr (tf_of (w_ref05_rangeErr_eq x.1 x.2 (fun z => z = t_ref05_rangeErr x.1 x.2)) (d_ref05_rangeErr x.1 x.2 (fun z => z = t_ref05_rangeErr x.1 x.2) (pp_ref05_rangeErr x.1 x.2 hx) (tt_ref05_rangeErr x.1 x.2 hx)))⟩
/- ref05_CheckHeights -/
def C_ref05_CheckHeights : Cons := [(103, [], con_ref05_rangeErr)]
theorem hC_ref05_CheckHeights : ConsOk Tryd.prog C_ref05_CheckHeights := ConsOk.cons ok_ref05_rangeErr <| ConsOk.nil
def w_ref05_CheckHeights (p0 : (List (Int × Int))) (K : (Int × Int) → Prop) : Prop :=
 ((((decide ((((List.length p0) : Nat) : Int) > (64 : Int))) = true) →
  (K ((0 : Int), (8 : Int)))) ∧
  (((decide ((((List.length p0) : Nat) : Int) > (64 : Int))) = false) →
  (∃ n0, (loopP (fun (y1 : Int) k2 =>
      ((((decide (y1 < (((List.length p0) : Nat) : Int))) = true) →
      (((0 : Int) ≤ y1) ∧
        ((y1 < (((List.length p0) : Nat) : Int)) ∧
        (((((s_gravity_rangeErr (List.getD p0 (Int.toNat y1) ((0 : Int), (0 : Int))) (1000000 : Int)) != (0 : Int)) = true) →
        (K (y1, (s_gravity_rangeErr (List.getD p0 (Int.toNat y1) ((0 : Int), (0 : Int))) (1000000 : Int))))) ∧
        ((((s_gravity_rangeErr (List.getD p0 (Int.toNat y1) ((0 : Int), (0 : Int))) (1000000 : Int)) != (0 : Int)) = false) →
        (k2 (IntKind.i64.wrap (y1 + (1 : Int))))))))) ∧
      (((decide (y1 < (((List.length p0) : Nat) : Int))) = false) →
      (K ((0 : Int), (0 : Int)))))) n0 (0 : Int)))))
set_option maxHeartbeats 4000000 in
theorem w_ref05_CheckHeights_eq (p0 : (List (Int × Int))) (K : (Int × Int) → Prop) : tfn F_ref05_CheckHeights A_ref05_CheckHeights C_ref05_CheckHeights P_ref05_CheckHeights R_ref05_CheckHeights p0 K = w_ref05_CheckHeights p0 K := by kernel_rfl
def st_ref05_CheckHeights_0 (p0 : (List (Int × Int))) (y1 : Int) : Int ⊕ (Int × Int) :=
  (cond (decide (y1 < (((List.length p0) : Nat) : Int))) (cond ((s_gravity_rangeErr (List.getD p0 (Int.toNat y1) ((0 : Int), (0 : Int))) (1000000 : Int)) != (0 : Int)) (Sum.inr (y1, (s_gravity_rangeErr (List.getD p0 (Int.toNat y1) ((0 : Int), (0 : Int))) (1000000 : Int))))
    (Sum.inl (IntKind.i64.wrap (y1 + (1 : Int)))))
    (Sum.inr ((0 : Int), (0 : Int))))
abbrev sp_ref05_CheckHeights_0 (p0 : (List (Int × Int))) (y1 : Int) : List Prop := [(((decide (y1 < (((List.length p0) : Nat) : Int))) = true) → ((0 : Int) ≤ y1)),
    (((decide (y1 < (((List.length p0) : Nat) : Int))) = true) → (y1 < (((List.length p0) : Nat) : Int)))]
def s_ref05_CheckHeights (p0 : (List (Int × Int))) : (Int × Int) :=
  (cond (decide ((((List.length p0) : Nat) : Int) > (64 : Int))) ((0 : Int), (8 : Int))
    (lpv ((0 : Int), (0 : Int)) (st_ref05_CheckHeights_0 p0) (0 : Int)))
abbrev pre_ref05_CheckHeights (p0 : (List (Int × Int))) : List Prop := [(((decide ((((List.length p0) : Nat) : Int) > (64 : Int))) = false) → (OkL (st_ref05_CheckHeights_0 p0) (sp_ref05_CheckHeights_0 p0) (0 : Int)))]
set_option maxHeartbeats 4000000 in
theorem d_ref05_CheckHeights (p0 : (List (Int × Int))) (K : (Int × Int) → Prop) (hp : ∀ p ∈ pre_ref05_CheckHeights p0, p) (h : K (s_ref05_CheckHeights p0)) : w_ref05_CheckHeights p0 K := by
  unfold w_ref05_CheckHeights
  unfold s_ref05_CheckHeights at h
  obtain ⟨hp0, _⟩ := conj_of hp
  exact (br' h (fun e0 h => h)
    (fun e0 h => (loop_gen (hp0 e0) h (fun y1 k1 hp h => by
  unfold st_ref05_CheckHeights_0 at h; obtain ⟨hp0, hp1, _⟩ := conj_of hp
  exact (br' h (fun e2 h => ⟨(hp0 e2), (hp1 e2), (br' h (fun e3 h => h)
    (fun e3 h => h))⟩)
    (fun e2 h => h))))))
theorem l_ref05_CheckHeights_0 (p0 : List (Int × Int)) (hl : lenOk p0) : OkL (st_ref05_CheckHeights_0 p0) (sp_ref05_CheckHeights_0 p0) 0 ∧ lpv ((0 : Int), (0 : Int)) (st_ref05_CheckHeights_0 p0) 0 = v_scan (fun i x => cond (s_gravity_rangeErr x 1000000 != 0) (some (i, s_gravity_rangeErr x 1000000)) none) ((0 : Int), (0 : Int)) 0 p0 := by
  refine scan_is p0 (0, 0) (fun i x => cond (s_gravity_rangeErr x 1000000 != 0) (some (i, s_gravity_rangeErr x 1000000)) none) ((0 : Int), (0 : Int)) hl ?_ ?_
  · refine ⟨by simp only [sp_ref05_CheckHeights_0, List.forall_mem_cons, decide_eq_true_eq]; simp, by simp [st_ref05_CheckHeights_0]⟩
  · intro j hj
    have hj' : (j : Int) < p0.length := by omega
    refine ⟨by simp only [sp_ref05_CheckHeights_0, List.forall_mem_cons, decide_eq_true_eq, Int.toNat_natCast]; simp <;> omega, ?_⟩
    simp only [st_ref05_CheckHeights_0, hj', decide_true, Int.toNat_natCast, cond_true, wrap_nat (show (j : Int) ≤ 9223372036854775806 by unfold lenOk at hl; omega)]
    generalize p0.getD j (0, 0) = x
    cases (s_gravity_rangeErr x 1000000 != 0) <;> rfl
abbrev t_ref05_CheckHeights (p0 : List (Int × Int)) : Int × Int := v_heights p0
abbrev qre_ref05_CheckHeights (_ : List (Int × Int)) : List Prop := []
theorem pp_ref05_CheckHeights (p0 : List (Int × Int)) (_ : ∀ p ∈ qre_ref05_CheckHeights p0, p) : ∀ p ∈ pre_ref05_CheckHeights p0, p := by
  simp only [pre_ref05_CheckHeights, List.forall_mem_cons]
  refine ⟨fun h => (l_ref05_CheckHeights_0 p0 (lenOk_le (n := 64) ?_ (by decide))).1, by simp⟩
  have := of_decide_eq_false h; omega
theorem tt_ref05_CheckHeights (p0 : List (Int × Int)) (_ : ∀ p ∈ qre_ref05_CheckHeights p0, p) : s_ref05_CheckHeights p0 = t_ref05_CheckHeights p0 := by
  unfold s_ref05_CheckHeights t_ref05_CheckHeights v_heights
  cases h : decide ((p0.length : Int) > 64)
  · have := of_decide_eq_false h
    exact (l_ref05_CheckHeights_0 p0 (lenOk_le (n := 64) (by omega) (by decide))).2
  · rfl

abbrev con_ref05_CheckHeights : Con := ⟨P_ref05_CheckHeights, R_ref05_CheckHeights, fun x => qre_ref05_CheckHeights x, fun x => t_ref05_CheckHeights x⟩
theorem ok_ref05_CheckHeights : ConOk Tryd.prog 32 con_ref05_CheckHeights := ⟨k_ref05_CheckHeights, fun x hx => ret_tf (ps := P_ref05_CheckHeights) (rs := R_ref05_CheckHeights) (x := x) (y := t_ref05_CheckHeights x) e_ref05_CheckHeights hC_ref05_CheckHeights (tf_of (w_ref05_CheckHeights_eq x (fun z => z = t_ref05_CheckHeights x)) (d_ref05_CheckHeights x (fun z => z = t_ref05_CheckHeights x) (pp_ref05_CheckHeights x hx) (tt_ref05_CheckHeights x hx)))⟩
/- ref05_HeightsErr -/
def C_ref05_HeightsErr : Cons := [(32, [], con_ref05_CheckHeights)]
theorem hC_ref05_HeightsErr : ConsOk Tryd.prog C_ref05_HeightsErr := ConsOk.cons ok_ref05_CheckHeights <| ConsOk.nil
def w_ref05_HeightsErr (p0 : (List (Int × Int))) (K : Int → Prop) : Prop :=
 (K (v_heights p0).2)
set_option maxHeartbeats 4000000 in
theorem w_ref05_HeightsErr_eq (p0 : (List (Int × Int))) (K : Int → Prop) : tfn F_ref05_HeightsErr A_ref05_HeightsErr C_ref05_HeightsErr P_ref05_HeightsErr R_ref05_HeightsErr p0 K = w_ref05_HeightsErr p0 K := by kernel_rfl
def s_ref05_HeightsErr (p0 : (List (Int × Int))) : Int :=
  (v_heights p0).2
abbrev pre_ref05_HeightsErr (p0 : (List (Int × Int))) : List Prop := []
set_option maxHeartbeats 4000000 in
theorem d_ref05_HeightsErr (p0 : (List (Int × Int))) (K : Int → Prop) (hp : ∀ p ∈ pre_ref05_HeightsErr p0, p) (h : K (s_ref05_HeightsErr p0)) : w_ref05_HeightsErr p0 K := by
  unfold w_ref05_HeightsErr
  unfold s_ref05_HeightsErr at h
  exact h
abbrev con_ref05_HeightsErr : Con := ⟨P_ref05_HeightsErr, R_ref05_HeightsErr, fun x => pre_ref05_HeightsErr x, fun x => s_ref05_HeightsErr x⟩
theorem ok_ref05_HeightsErr : ConOk Tryd.prog 38 con_ref05_HeightsErr := ⟨k_ref05_HeightsErr, fun x hx => ret_tf (ps := P_ref05_HeightsErr) (rs := R_ref05_HeightsErr) (x := x) (y := s_ref05_HeightsErr x) e_ref05_HeightsErr hC_ref05_HeightsErr (tf_of (w_ref05_HeightsErr_eq x (fun z => z = s_ref05_HeightsErr x)) (d_ref05_HeightsErr x (fun z => z = s_ref05_HeightsErr x) hx rfl))⟩
/- ref05_Closure -/
def C_ref05_Closure : Cons := [(60, [], con_base_Within)]
theorem hC_ref05_Closure : ConsOk Tryd.prog C_ref05_Closure := ConsOk.cons ok_base_Within <| ConsOk.nil
def w_ref05_Closure (p0 : (List (Int × Int))) (K : ((Int × Int) × Int) → Prop) : Prop :=
 (∃ n0, (loopP (fun (y1 : (Int × (Int × Int))) k2 =>
    ((((decide (y1.1 < (((List.length p0) : Nat) : Int))) = true) →
    (((0 : Int) ≤ y1.1) ∧
      ((y1.1 < (((List.length p0) : Nat) : Int)) ∧
      (((0 : Int) ≤ y1.1) ∧
      ((y1.1 < (((List.length p0) : Nat) : Int)) ∧
      (k2 ((IntKind.i64.wrap (y1.1 + (1 : Int))), ((IntKind.i64.wrap (y1.2.1 + (List.getD p0 (Int.toNat y1.1) ((0 : Int), (0 : Int))).1)), (IntKind.i64.wrap (y1.2.2 + (List.getD p0 (Int.toNat y1.1) ((0 : Int), (0 : Int))).2)))))))))) ∧
    (((decide (y1.1 < (((List.length p0) : Nat) : Int))) = false) →
    (((((y1.2.1 == (0 : Int)) && ((y1.2.2 == (0 : Int)) && true)) = true) →
      (K (y1.2, (2 : Int)))) ∧
      ((((y1.2.1 == (0 : Int)) && ((y1.2.2 == (0 : Int)) && true)) = false) →
      ((((!(s_base_Within (0 : Int) y1.2.1 y1.2.2)) = true) →
        (K (y1.2, (0 : Int)))) ∧
        (((!(s_base_Within (0 : Int) y1.2.1 y1.2.2)) = false) →
        (K (y1.2, (1 : Int)))))))))) n0 ((0 : Int), ((0 : Int), (0 : Int)))))
set_option maxHeartbeats 4000000 in
theorem w_ref05_Closure_eq (p0 : (List (Int × Int))) (K : ((Int × Int) × Int) → Prop) : tfn F_ref05_Closure A_ref05_Closure C_ref05_Closure P_ref05_Closure R_ref05_Closure p0 K = w_ref05_Closure p0 K := by kernel_rfl
def st_ref05_Closure_0 (p0 : (List (Int × Int))) (y0 : (Int × (Int × Int))) : (Int × (Int × Int)) ⊕ ((Int × Int) × Int) :=
  (cond (decide (y0.1 < (((List.length p0) : Nat) : Int))) (Sum.inl ((IntKind.i64.wrap (y0.1 + (1 : Int))), ((IntKind.i64.wrap (y0.2.1 + (List.getD p0 (Int.toNat y0.1) ((0 : Int), (0 : Int))).1)), (IntKind.i64.wrap (y0.2.2 + (List.getD p0 (Int.toNat y0.1) ((0 : Int), (0 : Int))).2)))))
    (cond ((y0.2.1 == (0 : Int)) && ((y0.2.2 == (0 : Int)) && true)) (Sum.inr (y0.2, (2 : Int)))
    (cond (!(s_base_Within (0 : Int) y0.2.1 y0.2.2)) (Sum.inr (y0.2, (0 : Int)))
    (Sum.inr (y0.2, (1 : Int))))))
abbrev sp_ref05_Closure_0 (p0 : (List (Int × Int))) (y0 : (Int × (Int × Int))) : List Prop := [(((decide (y0.1 < (((List.length p0) : Nat) : Int))) = true) → ((0 : Int) ≤ y0.1)),
    (((decide (y0.1 < (((List.length p0) : Nat) : Int))) = true) → (y0.1 < (((List.length p0) : Nat) : Int)))]
def s_ref05_Closure (p0 : (List (Int × Int))) : ((Int × Int) × Int) :=
  (lpv (((0 : Int), (0 : Int)), (0 : Int)) (st_ref05_Closure_0 p0) ((0 : Int), ((0 : Int), (0 : Int))))
abbrev pre_ref05_Closure (p0 : (List (Int × Int))) : List Prop := [(OkL (st_ref05_Closure_0 p0) (sp_ref05_Closure_0 p0) ((0 : Int), ((0 : Int), (0 : Int))))]
set_option maxHeartbeats 4000000 in
theorem d_ref05_Closure (p0 : (List (Int × Int))) (K : ((Int × Int) × Int) → Prop) (hp : ∀ p ∈ pre_ref05_Closure p0, p) (h : K (s_ref05_Closure p0)) : w_ref05_Closure p0 K := by
  unfold w_ref05_Closure
  unfold s_ref05_Closure at h
  obtain ⟨hp0, _⟩ := conj_of hp
  exact (loop_gen (hp0) h (fun y0 k0 hp h => by
  unfold st_ref05_Closure_0 at h; obtain ⟨hp0, hp1, _⟩ := conj_of hp
  exact (br' h (fun e1 h => ⟨(hp0 e1), (hp1 e1), (hp0 e1), (hp1 e1), h⟩)
    (fun e1 h => (br' h (fun e2 h => h)
    (fun e2 h => (br' h (fun e3 h => h)
    (fun e3 h => h))))))))
theorem l_ref05_Closure (p0 : List (Int × Int)) (h : v_hok p0) : OkL (st_ref05_Closure_0 p0) (sp_ref05_Closure_0 p0) (0, (0, 0)) ∧ s_ref05_Closure p0 = v_clo (v_ones p0) := by
  have hlen := h.len
  have := list_is (dd := (((0 : Int), (0 : Int)), (0 : Int))) (st := st_ref05_Closure_0 p0) (sp := sp_ref05_Closure_0 p0) (fun i (t : Int × Int) => (i, t)) p0 (0, 0)
    (fun r t => r.length ≤ p0.length ∧ (-((p0.length - r.length) * 1000000) ≤ t.1 ∧ t.1 ≤ ((p0.length - r.length) * 1000000)) ∧ (-((p0.length - r.length) * 1000000) ≤ t.2 ∧ t.2 ≤ ((p0.length - r.length) * 1000000)))
    (fun r t => v_clo (t.1 + (v_ones r).1, t.2 + (v_ones r).2)) (lenOk_m (by omega)) ?_ ?_ (0, 0) ⟨Nat.le_refl _, by simp, by simp⟩
  · refine ⟨this.1, this.2.trans ?_⟩
    simp
  · intro t _
    have hd : decide ((p0.length : Int) < (p0.length : Nat)) = false := decide_eq_false (by omega)
    refine ⟨by simp only [sp_ref05_Closure_0, List.forall_mem_cons, decide_eq_true_eq]; exact ⟨fun _ => by omega, fun _ => by omega, by simp⟩, ?_⟩
    simp only [st_ref05_Closure_0, hd, cond_false]
    have e : (t.1 + (v_ones ([] : List (Int × Int))).1, t.2 + (v_ones ([] : List (Int × Int))).2) = t := by simp [v_ones, v_lin]
    rw [e]
    unfold v_clo
    rw [show s_base_Within 0 t.1 t.2 = s_gravity_within 0 t.1 t.2 from rfl]
    cases ((t.1 == 0) && ((t.2 == 0) && true)) <;> cases s_gravity_within 0 t.1 t.2 <;> rfl
  · intro j t hj ⟨_, hi1, hi2⟩
    have hd : decide ((j : Int) < (p0.length : Nat)) = true := decide_eq_true (by omega)
    have e1 : (p0.getD j (0, 0) :: p0.drop (j + 1)).length = p0.length - j := by simp; omega
    have e2 : (p0.drop (j + 1)).length = p0.length - (j + 1) := by simp
    rw [e1] at hi1 hi2
    have hx := h.all _ (getD_mem' (0, 0) hj)
    have eo : v_ones (p0.getD j (0, 0) :: p0.drop (j + 1)) = ((p0.getD j (0, 0)).1 + (v_ones (p0.drop (j + 1))).1, (p0.getD j (0, 0)).2 + (v_ones (p0.drop (j + 1))).2) := by
      unfold v_ones
      rw [List.length_cons, List.replicate_succ, v_lin]
      rw [Prod.mk.injEq]
      exact ⟨by omega, by omega⟩
    refine ⟨by simp only [sp_ref05_Closure_0, List.forall_mem_cons, decide_eq_true_eq]; exact ⟨fun _ => by omega, fun _ => by omega, by simp⟩, .inl ⟨(t.1 + (p0.getD j (0, 0)).1, t.2 + (p0.getD j (0, 0)).2), ?_, ?_, ?_⟩⟩
    · simp only [st_ref05_Closure_0, hd, cond_true, Int.toNat_natCast, wrap_nat (show (j : Int) ≤ 9223372036854775806 by omega)]
      rw [wrap_id (n := t.1 + (p0.getD j (0, 0)).1) (by omega) (by omega), wrap_id (n := t.2 + (p0.getD j (0, 0)).2) (by omega) (by omega)]
    · rw [e2]
      exact ⟨by omega, by simp only; omega, by simp only; omega⟩
    · rw [eo]
      simp only [Int.add_assoc]
abbrev t_ref05_Closure (p0 : List (Int × Int)) : (Int × Int) × Int := v_clo (v_ones p0)
abbrev qre_ref05_Closure (p0 : List (Int × Int)) : List Prop := [v_hok p0]
theorem pp_ref05_Closure (p0 : List (Int × Int)) (hq : ∀ p ∈ qre_ref05_Closure p0, p) : ∀ p ∈ pre_ref05_Closure p0, p := by
  simp only [pre_ref05_Closure, List.forall_mem_cons]
  exact ⟨(l_ref05_Closure p0 (conj_of hq).1).1, by simp⟩
theorem tt_ref05_Closure (p0 : List (Int × Int)) (hq : ∀ p ∈ qre_ref05_Closure p0, p) : s_ref05_Closure p0 = t_ref05_Closure p0 := (l_ref05_Closure p0 (conj_of hq).1).2

abbrev con_ref05_Closure : Con := ⟨P_ref05_Closure, R_ref05_Closure, fun x => qre_ref05_Closure x, fun x => t_ref05_Closure x⟩
theorem ok_ref05_Closure : ConOk Tryd.prog 39 con_ref05_Closure := ⟨k_ref05_Closure, fun x hx => ret_tf (ps := P_ref05_Closure) (rs := R_ref05_Closure) (x := x) (y := t_ref05_Closure x) e_ref05_Closure hC_ref05_Closure (tf_of (w_ref05_Closure_eq x (fun z => z = t_ref05_Closure x)) (d_ref05_Closure x (fun z => z = t_ref05_Closure x) (pp_ref05_Closure x hx) (tt_ref05_Closure x hx)))⟩
/- law05_GravityClosures -/
def C_law05_GravityClosures : Cons := [(15, [], con_law05_awake), (25, [], con_law05_few), (28, [], con_base_CopyRanges), (37, [], con_gravity_ClosureOf), (38, [], con_ref05_HeightsErr), (39, [], con_ref05_Closure)]
theorem hC_law05_GravityClosures : ConsOk Tryd.prog C_law05_GravityClosures := ConsOk.cons ok_law05_awake <| ConsOk.cons ok_law05_few <| ConsOk.cons ok_base_CopyRanges <| ConsOk.cons ok_gravity_ClosureOf <| ConsOk.cons ok_ref05_HeightsErr <| ConsOk.cons ok_ref05_Closure <| ConsOk.nil
abbrev q0_law05_GravityClosures (p0 : (List (Int × Int))) := (cond ((t_gravity_ClosureOf p0).2.2 == zz0) (((t_gravity_ClosureOf p0).1.1 == (v_clo (v_ones p0)).1.1) && (((t_gravity_ClosureOf p0).1.2 == (v_clo (v_ones p0)).1.2) && true)) false)
abbrev q1_law05_GravityClosures (p0 : (List (Int × Int))) := (((t_gravity_ClosureOf p0).1.1 == zz0) && (((t_gravity_ClosureOf p0).1.2 == zz0) && true))
abbrev q2_law05_GravityClosures (p0 : (List (Int × Int))) := (cond ((t_gravity_ClosureOf p0).2.2 == (s_ref05_HeightsErr p0)) (q1_law05_GravityClosures p0) false)
abbrev q3_law05_GravityClosures (p0 : (List (Int × Int))) := (((t_gravity_ClosureOf p0).2.2 == zz0) = ((t_gravity_ClosureOf p0).2.2 == zz0))
abbrev q4_law05_GravityClosures (p0 : (List (Int × Int))) := (cond ((t_gravity_ClosureOf p0).2.2 == (10 : Int)) (q1_law05_GravityClosures p0) false)
def w_law05_GravityClosures (p0 : (List (Int × Int))) (K : Bool → Prop) : Prop :=
 ((((!(s_law05_awake)) = true) →
  (K false)) ∧
  (((!(s_law05_awake)) = false) →
  ((((!(s_law05_few p0)) = true) →
    (K true)) ∧
    (((!(s_law05_few p0)) = false) →
    (((List.length p0) ≤ 1000000) ∧
      (((((s_ref05_HeightsErr p0) == zz0) = true) →
      (((s_ref05_HeightsErr p0) == zz0) = ((s_ref05_HeightsErr p0) == zz0))) ∧
      (((((s_ref05_HeightsErr p0) == zz0) = true) →
      (((s_ref05_HeightsErr p0) == zz0) = ((s_ref05_HeightsErr p0) == zz0))) ∧
      ((((s_ref05_HeightsErr p0) == zz0) = ((s_ref05_HeightsErr p0) == zz0)) ∧
      ((((cond ((s_ref05_HeightsErr p0) == zz0) ((((List.length p0) : Nat) : Int) == zz0) false) = true) →
      (((((10 : Int) != zz0) = true) →
        (((((t_gravity_ClosureOf p0).2.2 == (10 : Int)) = true) →
          (((t_gravity_ClosureOf p0).2.2 == (10 : Int)) = ((t_gravity_ClosureOf p0).2.2 == (10 : Int)))) ∧
          (((((t_gravity_ClosureOf p0).2.2 == (10 : Int)) = true) →
          (((t_gravity_ClosureOf p0).2.2 == (10 : Int)) = ((t_gravity_ClosureOf p0).2.2 == (10 : Int)))) ∧
          ((((t_gravity_ClosureOf p0).2.2 == (10 : Int)) = ((t_gravity_ClosureOf p0).2.2 == (10 : Int))) ∧
          ((((q4_law05_GravityClosures p0) = true) →
          ((q4_law05_GravityClosures p0) = (q4_law05_GravityClosures p0))) ∧
          (((q4_law05_GravityClosures p0) = (q4_law05_GravityClosures p0)) ∧
          (K (cond (q4_law05_GravityClosures p0) ((t_gravity_ClosureOf p0).2.1 == zz0) false)))))))) ∧
        ((((10 : Int) != zz0) = false) →
        ((v_hok p0) ∧
          (((((t_gravity_ClosureOf p0).2.2 == zz0) = true) →
          (q3_law05_GravityClosures p0)) ∧
          (((((t_gravity_ClosureOf p0).2.2 == zz0) = true) →
          (q3_law05_GravityClosures p0)) ∧
          ((q3_law05_GravityClosures p0) ∧
          ((((q0_law05_GravityClosures p0) = true) →
          ((q0_law05_GravityClosures p0) = (q0_law05_GravityClosures p0))) ∧
          ((((q0_law05_GravityClosures p0) = true) →
          ((q0_law05_GravityClosures p0) = (q0_law05_GravityClosures p0))) ∧
          (((q0_law05_GravityClosures p0) = (q0_law05_GravityClosures p0)) ∧
          (K (cond (q0_law05_GravityClosures p0) ((t_gravity_ClosureOf p0).2.1 == (v_clo (v_ones p0)).2) false)))))))))))) ∧
      (((cond ((s_ref05_HeightsErr p0) == zz0) ((((List.length p0) : Nat) : Int) == zz0) false) = false) →
      (((((s_ref05_HeightsErr p0) != zz0) = true) →
        (((((t_gravity_ClosureOf p0).2.2 == (s_ref05_HeightsErr p0)) = true) →
          (((t_gravity_ClosureOf p0).2.2 == (s_ref05_HeightsErr p0)) = ((t_gravity_ClosureOf p0).2.2 == (s_ref05_HeightsErr p0)))) ∧
          (((((t_gravity_ClosureOf p0).2.2 == (s_ref05_HeightsErr p0)) = true) →
          (((t_gravity_ClosureOf p0).2.2 == (s_ref05_HeightsErr p0)) = ((t_gravity_ClosureOf p0).2.2 == (s_ref05_HeightsErr p0)))) ∧
          ((((t_gravity_ClosureOf p0).2.2 == (s_ref05_HeightsErr p0)) = ((t_gravity_ClosureOf p0).2.2 == (s_ref05_HeightsErr p0))) ∧
          ((((q2_law05_GravityClosures p0) = true) →
          ((q2_law05_GravityClosures p0) = (q2_law05_GravityClosures p0))) ∧
          (((q2_law05_GravityClosures p0) = (q2_law05_GravityClosures p0)) ∧
          (K (cond (q2_law05_GravityClosures p0) ((t_gravity_ClosureOf p0).2.1 == zz0) false)))))))) ∧
        ((((s_ref05_HeightsErr p0) != zz0) = false) →
        ((v_hok p0) ∧
          (((((t_gravity_ClosureOf p0).2.2 == zz0) = true) →
          (q3_law05_GravityClosures p0)) ∧
          (((((t_gravity_ClosureOf p0).2.2 == zz0) = true) →
          (q3_law05_GravityClosures p0)) ∧
          ((q3_law05_GravityClosures p0) ∧
          ((((q0_law05_GravityClosures p0) = true) →
          ((q0_law05_GravityClosures p0) = (q0_law05_GravityClosures p0))) ∧
          ((((q0_law05_GravityClosures p0) = true) →
          ((q0_law05_GravityClosures p0) = (q0_law05_GravityClosures p0))) ∧
          (((q0_law05_GravityClosures p0) = (q0_law05_GravityClosures p0)) ∧
          (K (cond (q0_law05_GravityClosures p0) ((t_gravity_ClosureOf p0).2.1 == (v_clo (v_ones p0)).2) false)))))))))))))))))))))
set_option maxHeartbeats 4000000 in
theorem w_law05_GravityClosures_eq (p0 : (List (Int × Int))) (K : Bool → Prop) : tfn F_law05_GravityClosures A_law05_GravityClosures C_law05_GravityClosures P_law05_GravityClosures R_law05_GravityClosures p0 K = w_law05_GravityClosures p0 K := by kernel_rfl
def s_law05_GravityClosures (p0 : (List (Int × Int))) : Bool :=
  (cond (!(s_law05_few p0)) true
    (cond (cond ((s_ref05_HeightsErr p0) == (0 : Int)) ((((List.length p0) : Nat) : Int) == (0 : Int)) false) (cond (cond ((t_gravity_ClosureOf p0).2.2 == (10 : Int)) (((t_gravity_ClosureOf p0).1.1 == (0 : Int)) && (((t_gravity_ClosureOf p0).1.2 == (0 : Int)) && true)) false) ((t_gravity_ClosureOf p0).2.1 == (0 : Int)) false)
    (cond ((s_ref05_HeightsErr p0) != (0 : Int)) (cond (cond ((t_gravity_ClosureOf p0).2.2 == (s_ref05_HeightsErr p0)) (((t_gravity_ClosureOf p0).1.1 == (0 : Int)) && (((t_gravity_ClosureOf p0).1.2 == (0 : Int)) && true)) false) ((t_gravity_ClosureOf p0).2.1 == (0 : Int)) false)
    (cond (cond ((t_gravity_ClosureOf p0).2.2 == (0 : Int)) (((t_gravity_ClosureOf p0).1.1 == (v_clo (v_ones p0)).1.1) && (((t_gravity_ClosureOf p0).1.2 == (v_clo (v_ones p0)).1.2) && true)) false) ((t_gravity_ClosureOf p0).2.1 == (v_clo (v_ones p0)).2) false))))
abbrev pre_law05_GravityClosures (p0 : (List (Int × Int))) : List Prop := [(((!(s_law05_few p0)) = false) → ((List.length p0) ≤ 1000000)),
    (((!(s_law05_few p0)) = false) → (((cond ((s_ref05_HeightsErr p0) == (0 : Int)) ((((List.length p0) : Nat) : Int) == (0 : Int)) false) = false) → ((((s_ref05_HeightsErr p0) != (0 : Int)) = false) → (v_hok p0))))]
set_option maxHeartbeats 4000000 in
theorem d_law05_GravityClosures (p0 : (List (Int × Int))) (K : Bool → Prop) (hp : ∀ p ∈ pre_law05_GravityClosures p0, p) (h : K (s_law05_GravityClosures p0)) : w_law05_GravityClosures p0 K := by
  unfold w_law05_GravityClosures
  unfold s_law05_GravityClosures at h
  obtain ⟨hp0, hp1, _⟩ := conj_of hp
  exact ⟨nof, fun _ => (br' h (fun e0 h => h)
    (fun e0 h => ⟨(hp0 e0), rf, rf, rfl, (br' h (fun e1 h => ⟨fun _ => ⟨rf, rf, rfl, rf, rfl, h⟩, fun e => Bool.noConfusion (show true = false from e)⟩)
    (fun e1 h => (br' h (fun e2 h => ⟨rf, rf, rfl, rf, rfl, h⟩)
    (fun e2 h => ⟨(hp1 e0 e1 e2), rf, rf, rfl, rf, rf, rfl, h⟩))))⟩))⟩
abbrev con_law05_GravityClosures : Con := ⟨P_law05_GravityClosures, R_law05_GravityClosures, fun x => pre_law05_GravityClosures x, fun x => s_law05_GravityClosures x⟩
theorem ok_law05_GravityClosures : ConOk Tryd.prog 5 con_law05_GravityClosures := ⟨k_law05_GravityClosures, fun x hx => ret_tf (ps := P_law05_GravityClosures) (rs := R_law05_GravityClosures) (x := x) (y := s_law05_GravityClosures x) e_law05_GravityClosures hC_law05_GravityClosures (tf_of (w_law05_GravityClosures_eq x (fun z => z = s_law05_GravityClosures x)) (d_law05_GravityClosures x (fun z => z = s_law05_GravityClosures x) hx rfl))⟩
end Go.Proofs.YtcecdmdnfmgnfaaDoor
